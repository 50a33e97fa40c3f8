import Derived.Test.YtjgddhjjcgndaaaHMain0
/- HeapApart: what one round of its loop comes to. -/
set_option linter.unusedVariables false
set_option linter.unusedSimpArgs false
namespace Go.Proofs.Ytjgddhjjcgndaaa
open Go.AI
set_option maxRecDepth 100000
namespace flt
noncomputable def sumR {α : Type} (m : Nat) (φ : St → α) (r : Option Out) : Bool × List It × List Ob × α := (isS r, outTodo r, pickN m (outPs r), φ (outSt r))
noncomputable def act (f : Nat → ActS) (i : Int) : AV := actA (f i.toNat).k (f i.toNat).l (f i.toNat).a (f i.toNat).b
noncomputable def owes (f : Nat → ActS) (i : Int) (A : HS) (F : Form) : Ob := obU (Contract Try.prog 7 [.ptr 0 0, .ptr 1 0, act f i] (sOf A) (vb true) (A.outs F))
noncomputable def mLand (N M : Nat) (f : Nat → ActS) (g : Nat → Bool) (i : Int) (A B : HS) : Bool × List AV × List AO := (true, mVals N M f g i, mObj A B)
section
variable {N M : Nat} {f : Nat → ActS} {g : Nat → Bool}
theorem m_start : sumR 0 (landR 65 [0, 1, 4, 5, 6, 7]) (runM3 [] [.code (bodyOf 3)] (startEnv Try.f3.ntmps [.i (.sv N 14 (actF f)), .i (.sv M 1 (turnF g))]) [] []) = (true, .code (.loop mC) :: mK, [], mLand N M f g 0 hs0 hs0) := by kernel_rfl
theorem m_b (i : Nat) (A B : HS) (F : Form) : sumR 14202 (landR 65 [0, 1, 4, 5, 6, 7]) (runM3 (B.outs F) (.code mC :: .back :: mK) (mEnv N M f g (i : Int)) (mObj A B) [true, true, true]) =
    (true, .back :: mK, [owes f (i : Int) B F, ob ((i : Int) < (N : Int)), ob (g (i : Int).toNat = true), ob ((i : Int) < (M : Int)), ob (decide ((i : Int) < (M : Int)) = true), ob (decide ((i : Int) < (N : Int)) = true)], mLand N M f g (IntKind.i64.wrap ((i : Int) + 1)) A (B.to F)) := by
  obtain ⟨sn, sp, vn, vp, n, p, ns, ps, t, u⟩ := A
  obtain ⟨sn', sp', vn', vp', n', p', ns', ps', t', u'⟩ := B
  cases F <;> cases sn <;> cases sp <;> cases sn' <;> cases sp' <;> (refine keq ?_; kernel_rfl)
theorem m_a1 (i : Nat) (A B : HS) (F : Form) : sumR 14202 (landR 65 [0, 1, 4, 5, 6, 7]) (runM3 (A.outs F) (.code mC :: .back :: mK) (mEnv N M f g (i : Int)) (mObj A B) [true, true, false]) =
    (true, .back :: mK, [owes f (i : Int) A F, ob ((i : Int) < (N : Int)), ob (g (i : Int).toNat = false), ob ((i : Int) < (M : Int)), ob (decide ((i : Int) < (M : Int)) = true), ob (decide ((i : Int) < (N : Int)) = true)], mLand N M f g (IntKind.i64.wrap ((i : Int) + 1)) (A.to F) B) := by
  obtain ⟨sn, sp, vn, vp, n, p, ns, ps, t, u⟩ := A
  obtain ⟨sn', sp', vn', vp', n', p', ns', ps', t', u'⟩ := B
  cases F <;> cases sn <;> cases sp <;> cases sn' <;> cases sp' <;> (refine keq ?_; kernel_rfl)
theorem m_a2 (i : Nat) (A B : HS) (F : Form) : sumR 2042 (landR 65 [0, 1, 4, 5, 6, 7]) (runM3 (A.outs F) (.code mC :: .back :: mK) (mEnv N M f g (i : Int)) (mObj A B) [true, false]) =
    (true, .back :: mK, [owes f (i : Int) A F, ob ((i : Int) < (N : Int)), ob (decide ((i : Int) < (M : Int)) = false), ob (decide ((i : Int) < (N : Int)) = true)], mLand N M f g (IntKind.i64.wrap ((i : Int) + 1)) (A.to F) B) := by
  obtain ⟨sn, sp, vn, vp, n, p, ns, ps, t, u⟩ := A
  obtain ⟨sn', sp', vn', vp', n', p', ns', ps', t', u'⟩ := B
  cases F <;> cases sn <;> cases sp <;> cases sn' <;> cases sp' <;> (refine keq ?_; kernel_rfl)
theorem m_exit (i : Nat) (A B : HS) : sumR 990 (endK Try.prog Try.f3 0) (runM3 [] (.code mC :: .back :: mK) (mEnv N M f g (i : Int)) (mObj A B) [false]) =
    (true, [], [obU (Contract Try.prog 8 [.ptr 0 0, .ptr 1 0] (sOf B) (vb true) (sOf B)), obU (Contract Try.prog 8 [.ptr 0 0, .ptr 1 0] (sOf A) (vb true) (sOf A)), ob (decide ((i : Int) < (N : Int)) = false)], some (vb true, [], [])) := by
  obtain ⟨sn, sp, vn, vp, n, p, ns, ps, t, u⟩ := A
  obtain ⟨sn', sp', vn', vp', n', p', ns', ps', t', u'⟩ := B
  cases sn <;> cases sp <;> cases sn' <;> cases sp' <;> (refine keq ?_; kernel_rfl)
end
end flt
end Go.Proofs.Ytjgddhjjcgndaaa
