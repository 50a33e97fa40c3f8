import Derived.Test.YtjgddhjjcgndaaaHMain2
/- HeapApart says true. -/
set_option linter.unusedVariables false
set_option linter.unusedSimpArgs false
namespace Go.Proofs.Ytjgddhjjcgndaaa
open Go.AI
set_option maxRecDepth 100000
namespace flt
theorem sum_split {α : Type} {m : Nat} {φ : St → α} {r : Option Out} {T : List It} {os : List Ob} {x : α} (h : sumR m φ r = (true, T, os, x)) : isS r = true ∧ outTodo r = T ∧ pickN m (outPs r) = os ∧ φ (outSt r) = x := by
  unfold sumR at h
  injection h with h1 h
  injection h with h2 h
  injection h with h3 h4
  exact ⟨h1, h2, h3, h4⟩
theorem mObj_wide (A B : HS) : (mObj A B).length = 6 + (2 * wide A + 2 * wide B) := by
  obtain ⟨sn, sp, vn, vp, n, p, ns, ps, t, u⟩ := A
  obtain ⟨sn', sp', vn', vp', n', p', ns', ps', t', u'⟩ := B
  cases sn <;> cases sp <;> cases sn' <;> cases sp' <;> rfl
theorem whole_any {A : HS} (h : GoodHS A) (hn : A.n < 2 ^ 60) (hp : A.p < 2 ^ 60) : Contract Try.prog 8 [.ptr 0 0, .ptr 1 0] (sOf A) (vb true) (sOf A) :=
  whole_contract h.hn h.hp h.ns h.ps hn hp
structure MI where
  i : Nat
  A : HS
  B : HS
structure MOk (N : Nat) (j : MI) : Prop where
  le : j.i ≤ N
  ga : GoodHS j.A
  gb : GoodHS j.B
  an : j.A.n ≤ j.i
  ap : j.A.p ≤ j.i
  bn : j.B.n ≤ j.i
  bp : j.B.p ≤ j.i
theorem main_lands {N M : Nat} {f : Nat → ActS} {g : Nat → Bool} {st : St} {i : Int} {k : Nat} {A B : HS} (hk : i = (k : Int)) (h : landR 65 [0, 1, 4, 5, 6, 7] st = mLand N M f g i A B) :
    Lands 0 st.env st.heap (reachL [0, 1, 4, 5, 6, 7] st) (mEnv N M f g (k : Int)) (mObj A B) := by
  subst hk
  have hl : landK 0 65 (reachL [0, 1, 4, 5, 6, 7] st) [0, 1, 4, 5, 6, 7] st = (true, mVals N M f g (k : Int), mObj A B) := h
  refine lands_of hl (leL_refl _) (leOs_refl _) ?_
  have hlen : lenN (reachL [0, 1, 4, 5, 6, 7] st) = (mObj A B).length := by
    unfold landK at hl
    injection hl with _ hl
    injection hl with _ hl
    rw [← hl, lenN_eq]; simp [objsOf]
  rw [hlen, mObj_wide]
  obtain ⟨sn, sp, vn, vp, n, p, ns, ps, t, u⟩ := A
  obtain ⟨sn', sp', vn', vp', n', p', ns', ps', t', u'⟩ := B
  cases sn <;> cases sp <;> cases sn' <;> cases sp' <;> (refine keq ?_; kernel_rfl)

theorem main_ok {N i : Nat} {A B : HS} (h : i < N) (ga : GoodHS A) (gb : GoodHS B) (h1 : A.n ≤ i + 1) (h2 : A.p ≤ i + 1) (h3 : B.n ≤ i + 1) (h4 : B.p ≤ i + 1) : MOk N ⟨i + 1, A, B⟩ := ⟨h, ga, gb, h1, h2, h3, h4⟩
theorem main_less {N i : Nat} (h : i < N) : N - (i + 1) < N - i := by omega
theorem end_main {E0 : Emb} {w0 : World} {st : St} {B : Nat → Act → World → Prop} (h0 : HOk (hp 0 []) E0 w0) (h : endK Try.prog Try.f3 0 st = some (vb true, [], [])) :
    Cont Try.prog (fin Try.prog Try.f3 [] (vb true) [] E0 w0) B (hp 0 []) E0 w0 st [] :=
  end_of (objs0 := []) (os := []) (outs0 := []) (val := vb true) h0 h trivial (leOs_refl _) (leA_refl _) rfl
section
variable {N M : Nat} {f : Nat → ActS} {g : Nat → Bool} {E0 : Emb} {w0 : World} {i : Nat} {A B : HS} {Bt : Nat → Go.Act → World → Prop}
abbrev mF (E0 : Emb) (w0 : World) : Exit → Go.Act → World → Prop := fin Try.prog Try.f3 [] (vb true) [] E0 w0
noncomputable abbrev mEnvJ (N M : Nat) (f : Nat → ActS) (g : Nat → Bool) : MI → List AV := fun j => mEnv N M f g (j.i : Int)
noncomputable abbrev mObjJ : MI → List AO := fun j => mObj j.A j.B
def mMu (N : Nat) : MI → Nat := fun j => N - j.i
noncomputable def mSt (N M : Nat) (f : Nat → ActS) (g : Nat → Bool) (j : MI) : St := ⟨mEnvJ N M f g j, hp 0 (mObjJ j), (mObjJ j).length⟩
theorem hF3 : ∀ a w, mF E0 w0 .normal a w → mF E0 w0 .ret a w := fun _ _ h => h
theorem okN (outs : List AO) : HookOK Try.prog (evalF Try.prog (hookN outs) 8) := evalF_ok (hookN_ok outs) Try.mixed 8
theorem foot_main (h0 : HOk (hp 0 []) E0 w0) {A' B' : HS} {st : St} (hlt : i < N) (hok : MOk N ⟨i + 1, A', B'⟩) (h : landR 65 [0, 1, 4, 5, 6, 7] st = mLand N M f g (IntKind.i64.wrap ((i : Int) + 1)) A' B') (hN : N * 112 ≤ 140737488355328) :
    Cont Try.prog (mF E0 w0) (footB (mEnvJ N M f g) mObjJ (MOk N) (mMu N) [] E0 w0 ⟨i, A, B⟩ Bt (backs mK)) (hp 0 []) E0 w0 st (.back :: mK) := by
  have hw : IntKind.i64.wrap ((i : Int) + 1) = ((i + 1 : Nat) : Int) := by rw [wrap_small (by omega) (by omega)]; rfl
  have hl := main_lands (k := i + 1) (A := A') (B := B') hw h
  exact @foot Try.prog (mF E0 w0) Bt [] E0 w0 MI (mEnvJ N M f g) mObjJ (MOk N) (mMu N) h0 st mK ⟨i, A, B⟩ (backs mK) (Eq.refl _) ⟨⟨i + 1, A', B'⟩, reachL [0, 1, 4, 5, 6, 7] st, hok, main_less hlt, hl⟩
theorem round_exit (h0 : HOk (hp 0 []) E0 w0) (hN : N * 112 ≤ 140737488355328) (hj : MOk N ⟨i, A, B⟩) (hi : decide ((i : Int) < (N : Int)) = false) :
    Cont Try.prog (mF E0 w0) (footB (mEnvJ N M f g) mObjJ (MOk N) (mMu N) [] E0 w0 ⟨i, A, B⟩ Bt (backs mK)) (hp 0 []) E0 w0 (mSt N M f g ⟨i, A, B⟩) (.code mC :: .back :: mK) := by
  obtain ⟨hle, ga, gb, an, ap, bn, bp⟩ := hj
  simp only at hle an ap bn bp
  have e1 : A.n < 2 ^ 60 := by omega
  have e2 : A.p < 2 ^ 60 := by omega
  have e3 : B.n < 2 ^ 60 := by omega
  have e4 : B.p < 2 ^ 60 := by omega
  have w1 := whole_any gb e3 e4
  have w2 := whole_any ga e1 e2
  refine run_st (okN []) Try.mixed hF3 (φ := fun st => endK Try.prog Try.f3 0 st = some (vb true, [], [])) (sum_split (m_exit (N := N) (M := M) (f := f) (g := g) i A B)) ⟨w1, w2, hi, trivial⟩ fun st c4 => ?_
  exact end_main h0 c4
theorem room {n i N k : Nat} (h : n ≤ i) (hlt : i < N) (hN : N * 112 ≤ 140737488355328) (hk : k ≤ 112) : (n + 1) * k ≤ 140737488355328 :=
  Nat.le_trans (Nat.mul_le_mul (by omega : n + 1 ≤ N) hk) hN
theorem round_a2 (h0 : HOk (hp 0 []) E0 w0) (hN : N * 112 ≤ 140737488355328) (hj : MOk N ⟨i, A, B⟩) (hi : decide ((i : Int) < (N : Int)) = true) (hm : decide ((i : Int) < (M : Int)) = false) :
    Cont Try.prog (mF E0 w0) (footB (mEnvJ N M f g) mObjJ (MOk N) (mMu N) [] E0 w0 ⟨i, A, B⟩ Bt (backs mK)) (hp 0 []) E0 w0 (mSt N M f g ⟨i, A, B⟩) (.code mC :: .back :: mK) := by
  obtain ⟨hle, ga, gb, an, ap, bn, bp⟩ := hj
  simp only at hle an ap bn bp
  have hi' : (i : Int) < (N : Int) := of_decide_eq_true hi
  have hlt : i < N := by omega
  obtain ⟨FA, ha1, ha2, ha3, ha4⟩ := step_any ga (room an hlt hN (by decide)) (room ap hlt hN (by decide)) (f ((i : Int)).toNat).k (f ((i : Int)).toNat).l (f ((i : Int)).toNat).a (f ((i : Int)).toNat).b
  refine run_st (okN (A.outs FA)) Try.mixed hF3 (φ := fun st => landR 65 [0, 1, 4, 5, 6, 7] st = mLand N M f g (IntKind.i64.wrap ((i : Int) + 1)) (A.to FA) B) (sum_split (m_a2 i A B FA)) ⟨ha1, hi', hm, hi, trivial⟩ fun st c4 => ?_
  have hok : MOk N ⟨i + 1, A.to FA, B⟩ := main_ok hlt ha2 gb (Nat.le_trans ha3 (Nat.succ_le_succ an)) (Nat.le_trans ha4 (Nat.succ_le_succ ap)) (Nat.le_succ_of_le bn) (Nat.le_succ_of_le bp)
  exact @foot_main N M f g E0 w0 i A B Bt h0 (A.to FA) B st hlt hok c4 hN
theorem round_a1 (h0 : HOk (hp 0 []) E0 w0) (hN : N * 112 ≤ 140737488355328) (hj : MOk N ⟨i, A, B⟩) (hi : decide ((i : Int) < (N : Int)) = true) (hm : decide ((i : Int) < (M : Int)) = true) (hg : g ((i : Int)).toNat = false) :
    Cont Try.prog (mF E0 w0) (footB (mEnvJ N M f g) mObjJ (MOk N) (mMu N) [] E0 w0 ⟨i, A, B⟩ Bt (backs mK)) (hp 0 []) E0 w0 (mSt N M f g ⟨i, A, B⟩) (.code mC :: .back :: mK) := by
  obtain ⟨hle, ga, gb, an, ap, bn, bp⟩ := hj
  simp only at hle an ap bn bp
  have hi' : (i : Int) < (N : Int) := of_decide_eq_true hi
  have hm' : (i : Int) < (M : Int) := of_decide_eq_true hm
  have hlt : i < N := by omega
  obtain ⟨FA, ha1, ha2, ha3, ha4⟩ := step_any ga (room an hlt hN (by decide)) (room ap hlt hN (by decide)) (f ((i : Int)).toNat).k (f ((i : Int)).toNat).l (f ((i : Int)).toNat).a (f ((i : Int)).toNat).b
  refine run_st (okN (A.outs FA)) Try.mixed hF3 (φ := fun st => landR 65 [0, 1, 4, 5, 6, 7] st = mLand N M f g (IntKind.i64.wrap ((i : Int) + 1)) (A.to FA) B) (sum_split (m_a1 i A B FA)) ⟨ha1, hi', hg, hm', hm, hi, trivial⟩ fun st c4 => ?_
  have hok : MOk N ⟨i + 1, A.to FA, B⟩ := main_ok hlt ha2 gb (Nat.le_trans ha3 (Nat.succ_le_succ an)) (Nat.le_trans ha4 (Nat.succ_le_succ ap)) (Nat.le_succ_of_le bn) (Nat.le_succ_of_le bp)
  exact @foot_main N M f g E0 w0 i A B Bt h0 (A.to FA) B st hlt hok c4 hN
theorem round_b (h0 : HOk (hp 0 []) E0 w0) (hN : N * 112 ≤ 140737488355328) (hj : MOk N ⟨i, A, B⟩) (hi : decide ((i : Int) < (N : Int)) = true) (hm : decide ((i : Int) < (M : Int)) = true) (hg : g ((i : Int)).toNat = true) :
    Cont Try.prog (mF E0 w0) (footB (mEnvJ N M f g) mObjJ (MOk N) (mMu N) [] E0 w0 ⟨i, A, B⟩ Bt (backs mK)) (hp 0 []) E0 w0 (mSt N M f g ⟨i, A, B⟩) (.code mC :: .back :: mK) := by
  obtain ⟨hle, ga, gb, an, ap, bn, bp⟩ := hj
  simp only at hle an ap bn bp
  have hi' : (i : Int) < (N : Int) := of_decide_eq_true hi
  have hm' : (i : Int) < (M : Int) := of_decide_eq_true hm
  have hlt : i < N := by omega
  obtain ⟨FB, hb1, hb2, hb3, hb4⟩ := step_any gb (room bn hlt hN (by decide)) (room bp hlt hN (by decide)) (f ((i : Int)).toNat).k (f ((i : Int)).toNat).l (f ((i : Int)).toNat).a (f ((i : Int)).toNat).b
  refine run_st (okN (B.outs FB)) Try.mixed hF3 (φ := fun st => landR 65 [0, 1, 4, 5, 6, 7] st = mLand N M f g (IntKind.i64.wrap ((i : Int) + 1)) A (B.to FB)) (sum_split (m_b i A B FB)) ⟨hb1, hi', hg, hm', hm, hi, trivial⟩ fun st c4 => ?_
  have hok : MOk N ⟨i + 1, A, B.to FB⟩ := main_ok hlt ga hb2 (Nat.le_succ_of_le an) (Nat.le_succ_of_le ap) (Nat.le_trans hb3 (Nat.succ_le_succ bn)) (Nat.le_trans hb4 (Nat.succ_le_succ bp))
  exact @foot_main N M f g E0 w0 i A B Bt h0 A (B.to FB) st hlt hok c4 hN
theorem round_any (h0 : HOk (hp 0 []) E0 w0) (hN : N * 112 ≤ 140737488355328) (j : MI) (hj : MOk N j) : Cont Try.prog (mF E0 w0) (footB (mEnvJ N M f g) mObjJ (MOk N) (mMu N) [] E0 w0 j Bt (backs mK)) (hp 0 []) E0 w0 (mSt N M f g j) (.code mC :: .back :: mK) := by
  obtain ⟨i, A, B⟩ := j
  cases hi : decide ((i : Int) < (N : Int)) with
  | false => exact round_exit h0 hN hj hi
  | true => cases hm : decide ((i : Int) < (M : Int)) with
    | false => exact round_a2 h0 hN hj hi hm
    | true => cases hg : g ((i : Int)).toNat with
      | false => exact round_a1 h0 hN hj hi hm hg
      | true => exact round_b h0 hN hj hi hm hg
theorem ok_start : MOk N ⟨0, hs0, hs0⟩ := ⟨Nat.zero_le _, good_hs0, good_hs0, Nat.le_refl _, Nat.le_refl _, Nat.le_refl _, Nat.le_refl _⟩
end
theorem main_contract {N M : Nat} (f : Nat → ActS) (g : Nat → Bool) (hN : N * 112 ≤ 140737488355328) :
    Contract Try.prog 3 [.i (.sv N 14 (actF f)), .i (.sv M 1 (turnF g))] [] (vb true) [] := by
  refine contract_intro (c := bodyOf 3) Try.func3 (by kernel_rfl) fun E0 w0 h0 => ?_
  refine run_st (okN []) Try.mixed hF3 (φ := fun st => landR 65 [0, 1, 4, 5, 6, 7] st = mLand N M f g 0 hs0 hs0) (sum_split m_start) trivial fun st a4 => ?_
  exact loop_fam (mEnvJ N M f g) mObjJ (MOk N) (mMu N) h0 ⟨⟨0, hs0, hs0⟩, _, ok_start, main_lands (k := 0) rfl a4⟩ (round_any h0 hN)
end flt
end Go.Proofs.Ytjgddhjjcgndaaa
