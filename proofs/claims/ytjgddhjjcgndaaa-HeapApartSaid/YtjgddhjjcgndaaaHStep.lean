import Derived.Test.YtjgddhjjcgndaaaHStepD
import Derived.Laws.FloatBits
/- step: what it comes to, by the kind of the call. Printed by gen/stepc.py. -/
set_option linter.unusedVariables false
set_option linter.unusedSimpArgs false
namespace Go.Proofs.Ytjgddhjjcgndaaa
open Go.AI
set_option maxRecDepth 100000
namespace flt
theorem leA_bool {b : Bool} (h : b = true) : leA (vb true) (vb b) := by subst h; exact leA_refl _
theorem beq_self_i (x : Int) : (x == x) = true := by simp
theorem nearest_lt (n : Int) : FloatKind.f64.nearest n < 2 ^ 64 := by
  have := Ieee.Format.write_lt FloatKind.f64.format (.number (decide (n < 0)) n.natAbs 0)
  exact this
theorem wrap_lt (n : Int) : (IntKind.u64.wrap n).toNat < 2 ^ 64 := by
  have : IntKind.u64.wrap n = n % 18446744073709551616 := by unfold IntKind.wrap; rfl
  rw [this]; omega
theorem cC_lt (a : CI) : (cC a).re < 2 ^ 64 ∧ (cC a).im < 2 ^ 64 := by
  obtain ⟨k, l, re, im, raw, b⟩ := a
  cases raw
  · exact ⟨nearest_lt _, nearest_lt _⟩
  · exact ⟨wrap_lt _, wrap_lt _⟩
/-- All that is kept is equal to itself. -/
def goodC (c : Cl) : Prop := eqC c c = true
theorem good_zC : goodC zC := by unfold goodC; decide +kernel
theorem same_self {c : Cl} (h : goodC c) : sameS c c = true := by
  have h : eqC c c = true := h
  simp [sameS, h]
theorem alike_self {x : Nd} (h : goodC x.c) : alikeS x x = true := by simp [alikeS, same_self h]
theorem cell_good {n p : Nat} {c : Cl} (h : cellS n p c = true) : goodC c := cell_self h
theorem look_good {ns : Nat → Nd} {n : Nat} (h : ∀ i, i < n → goodC (ns i).c) (l : Int) : goodC (lookN ns n l).c := by
  unfold lookN
  cases hb : inB n l with
  | false => exact good_zC
  | true => simp [inB] at hb; exact h _ (by omega)
theorem enter_good {ns : Nat → Nd} {n : Nat} (h : ∀ i, i < n → goodC (ns i).c) (l : Int) : goodC (enterN ns n l).c := by
  have := look_good h l
  unfold enterN
  cases (lookE n l != 0) <;> cases ((lookN ns n l).st == 2) <;> cases ((lookN ns n l).st == 4) <;> first | exact this | exact good_zC
theorem parts_good {ps : Nat → Cl × Cl} {n : Nat} (h : ∀ i, i < n → goodC (ps i).1 ∧ goodC (ps i).2) (l : Int) : goodC (partsN ps n l).1 ∧ goodC (partsN ps n l).2 := by
  unfold partsN
  cases hb : inB n l with
  | false => exact ⟨good_zC, good_zC⟩
  | true => simp [inB] at hb; exact h _ (by omega)
section
variable {sn sp : Bool} {vn vp n p : Nat} {ns : Nat → Nd} {ps : Nat → Cl × Cl} {t u : Int}

theorem step0 (hn : sn = false → n = 0) (hp : sp = false → p = 0) (k l : Int) (a b : CI) (hk : intoS k = 0) (hb : (n + 1) * 56 ≤ 140737488355328) : Contract Try.prog 7 [.ptr 0 0, .ptr 1 0, actA k l a b] (sObj sn sp vn vp n p (nodeF ns) (pairF ps) t u) (vb true) (sGrowN sn sp vn vp n p ns ps ⟨1, l, zC⟩ (IntKind.i64.wrap (t + 1)) u) := by
  have ok := evalF_ok (hookS_ok (v := 0) (ok := true) (sn := sn) (sp := sp) (vn := vn) (vp := vp) (n := n) (p := p) (ns := ns) (ps := ps) (t := t) (u := u) hn hp) Try.mixed 8
  have hr : inlineK Try.prog (evalF Try.prog (hookS 0 true sn sp vn vp n p ns ps t u) 8) 0 [] 7 [.ptr 0 0, .ptr 1 0, actA k l a b] (sObj sn sp vn vp n p (nodeF ns) (pairF ps) t u) = some (vb (newAt sn n == newAt sn n), sGrowN sn sp vn vp n p ns ps ⟨1, l, zC⟩ (IntKind.i64.wrap (t + 1)) u, [obU (hObj 32 76 sn sp vn vp n p ns ps t u = hObj 32 76 sn sp vn vp n p ns ps t u), obU ((n + 1) * 56 ≤ 140737488355328), obU (hObj 68 82 sn sp vn vp n p ns ps t u = hObj 68 82 sn sp vn vp n p ns ps t u), obU ((n + 1) * 56 ≤ 140737488355328), ob (intoS k = 0)]) := by
    cases sn <;> cases sp <;> (refine keq ?_; kernel_rfl)
  exact path_le ok Try.mixed hr ⟨rfl, hb, rfl, hb, hk, trivial⟩ (leOs_refl _) (leA_bool (beq_self_i _)) (by cases sn <;> cases sp <;> rfl)
theorem step1 (hn : sn = false → n = 0) (hp : sp = false → p = 0) (k l : Int) (a b : CI) (hk : intoS k = 1) (hb : (n + 1) * 56 ≤ 140737488355328) : Contract Try.prog 7 [.ptr 0 0, .ptr 1 0, actA k l a b] (sObj sn sp vn vp n p (nodeF ns) (pairF ps) t u) (vb true) (sGrowN sn sp vn vp n p ns ps ⟨4, 0, zC⟩ t u) := by
  have ok := evalF_ok (hookS_ok (v := 1) (ok := true) (sn := sn) (sp := sp) (vn := vn) (vp := vp) (n := n) (p := p) (ns := ns) (ps := ps) (t := t) (u := u) hn hp) Try.mixed 8
  have hr : inlineK Try.prog (evalF Try.prog (hookS 1 true sn sp vn vp n p ns ps t u) 8) 0 [] 7 [.ptr 0 0, .ptr 1 0, actA k l a b] (sObj sn sp vn vp n p (nodeF ns) (pairF ps) t u) = some (vb (newAt sn n == newAt sn n), sGrowN sn sp vn vp n p ns ps ⟨4, 0, zC⟩ t u, [obU (hObj 32 76 sn sp vn vp n p ns ps t u = hObj 32 76 sn sp vn vp n p ns ps t u), obU ((n + 1) * 56 ≤ 140737488355328), obU (hObj 68 82 sn sp vn vp n p ns ps t u = hObj 68 82 sn sp vn vp n p ns ps t u), obU ((n + 1) * 56 ≤ 140737488355328), ob (intoS k = 1)]) := by
    cases sn <;> cases sp <;> (refine keq ?_; kernel_rfl)
  exact path_le ok Try.mixed hr ⟨rfl, hb, rfl, hb, hk, trivial⟩ (leOs_refl _) (leA_bool (beq_self_i _)) (by cases sn <;> cases sp <;> rfl)
theorem step2y (hn : sn = false → n = 0) (hp : sp = false → p = 0) (k l : Int) (a b : CI) (hk : intoS k = 2) (ha : cellS n p (cC a) = true) (hb : cellS n p (cC b) = true) (hq : (p + 1) * 80 ≤ 140737488355328) : Contract Try.prog 7 [.ptr 0 0, .ptr 1 0, actA k l a b] (sObj sn sp vn vp n p (nodeF ns) (pairF ps) t u) (vb true) (sGrowP sn sp vn vp n p ns ps (cC a) (cC b) t u) := by
  have ok := evalF_ok (hookS_ok (v := 2) (ok := true) (sn := sn) (sp := sp) (vn := vn) (vp := vp) (n := n) (p := p) (ns := ns) (ps := ps) (t := t) (u := u) hn hp) Try.mixed 8
  have ha2 : cellR n p (cC a) = true := by rw [cell_eq (cC_lt a).1 (cC_lt a).2]; exact ha
  have hb2 : cellR n p (cC b) = true := by rw [cell_eq (cC_lt b).1 (cC_lt b).2]; exact hb
  have hr : inlineK Try.prog (evalF Try.prog (hookS 2 true sn sp vn vp n p ns ps t u) 8) 28679 [false, false, true, true] 7 [.ptr 0 0, .ptr 1 0, actA k l a b] (sObj sn sp vn vp n p (nodeF ns) (pairF ps) t u) = some (vb (true), sGrowP sn sp vn vp n p ns ps (cC a) (cC b) t u, [ob ((newAt sp p == newAt sp p) = true), obU (hObj 32 76 sn sp vn vp n p ns ps t u = hObj 32 76 sn sp vn vp n p ns ps t u), ob (cellR n p (cC a) = true), ob (cellR n p (cC b) = true), obU ((p + 1) * 80 ≤ 140737488355328), obU (hObj 68 82 sn sp vn vp n p ns ps t u = hObj 68 82 sn sp vn vp n p ns ps t u), ob (cellS n p (cC a) = true), ob (cellS n p (cC b) = true), obU ((p + 1) * 80 ≤ 140737488355328), ob (intoS k = 2)]) := by
    cases sn <;> cases sp <;> (refine keq ?_; kernel_rfl)
  exact path_le ok Try.mixed hr ⟨beq_self_i _, rfl, ha2, hb2, hq, rfl, ha, hb, hq, hk, trivial⟩ (leOs_refl _) (leA_bool (rfl)) (by cases sn <;> cases sp <;> rfl)
theorem step2n (hn : sn = false → n = 0) (hp : sp = false → p = 0) (k l : Int) (a b : CI) (hk : intoS k = 2) (ha : (cellS n p (cC a) && cellS n p (cC b)) = false) : Contract Try.prog 7 [.ptr 0 0, .ptr 1 0, actA k l a b] (sObj sn sp vn vp n p (nodeF ns) (pairF ps) t u) (vb true) (sObj sn sp vn vp n p (nodeF ns) (pairF ps) t u) := by
  have ok := evalF_ok (hookS_ok (v := 2) (ok := false) (sn := sn) (sp := sp) (vn := vn) (vp := vp) (n := n) (p := p) (ns := ns) (ps := ps) (t := t) (u := u) hn hp) Try.mixed 8
  have ha2 : (cellR n p (cC a) && cellR n p (cC b)) = false := by rw [cell_eq (cC_lt a).1 (cC_lt a).2, cell_eq (cC_lt b).1 (cC_lt b).2]; exact ha
  have hr : inlineK Try.prog (evalF Try.prog (hookS 2 false sn sp vn vp n p ns ps t u) 8) 0 [] 7 [.ptr 0 0, .ptr 1 0, actA k l a b] (sObj sn sp vn vp n p (nodeF ns) (pairF ps) t u) = some (vb (true), sObj sn sp vn vp n p (nodeF ns) (pairF ps) t u, [obU (hObj 32 76 sn sp vn vp n p ns ps t u = hObj 32 76 sn sp vn vp n p ns ps t u), ob ((cellR n p (cC a) && cellR n p (cC b)) = false), obU (hObj 68 82 sn sp vn vp n p ns ps t u = hObj 68 82 sn sp vn vp n p ns ps t u), ob ((cellS n p (cC a) && cellS n p (cC b)) = false), ob (intoS k = 2)]) := by
    cases sn <;> cases sp <;> (refine keq ?_; kernel_rfl)
  exact path_le ok Try.mixed hr ⟨rfl, ha2, rfl, ha, hk, trivial⟩ (leOs_refl _) (leA_bool (rfl)) (by cases sn <;> cases sp <;> rfl)
theorem step3 (hn : sn = false → n = 0) (hp : sp = false → p = 0) (k l : Int) (a b : CI) (hk : intoS k = 3) (hg : ∀ i, i < n → goodC (ns i).c) : Contract Try.prog 7 [.ptr 0 0, .ptr 1 0, actA k l a b] (sObj sn sp vn vp n p (nodeF ns) (pairF ps) t u) (vb true) (sObj sn sp vn vp n p (nodeF ns) (pairF ps) t u) := by
  have ok := evalF_ok (hookS_ok (v := 3) (ok := true) (sn := sn) (sp := sp) (vn := vn) (vp := vp) (n := n) (p := p) (ns := ns) (ps := ps) (t := t) (u := u) hn hp) Try.mixed 8
  have hr : inlineK Try.prog (evalF Try.prog (hookS 3 true sn sp vn vp n p ns ps t u) 8) 967 [false, false, false, true, true] 7 [.ptr 0 0, .ptr 1 0, actA k l a b] (sObj sn sp vn vp n p (nodeF ns) (pairF ps) t u) = some (vb (lookE n l == lookE n l), sObj sn sp vn vp n p (nodeF ns) (pairF ps) t u, [ob (alikeS (lookN ns n l) (lookN ns n l) = true), obU (hObj 32 76 sn sp vn vp n p ns ps t u = hObj 32 76 sn sp vn vp n p ns ps t u), obU (hObj 68 82 sn sp vn vp n p ns ps t u = hObj 68 82 sn sp vn vp n p ns ps t u), ob (intoS k = 3)]) := by
    cases sn <;> cases sp <;> (refine keq ?_; kernel_rfl)
  exact path_le ok Try.mixed hr ⟨alike_self (look_good hg l), rfl, rfl, hk, trivial⟩ (leOs_refl _) (leA_bool (beq_self_i _)) (by cases sn <;> cases sp <;> rfl)
theorem step4 (hn : sn = false → n = 0) (hp : sp = false → p = 0) (k l : Int) (a b : CI) (hk : intoS k = 4) (hg : ∀ i, i < p → goodC (ps i).1 ∧ goodC (ps i).2) : Contract Try.prog 7 [.ptr 0 0, .ptr 1 0, actA k l a b] (sObj sn sp vn vp n p (nodeF ns) (pairF ps) t u) (vb true) (sObj sn sp vn vp n p (nodeF ns) (pairF ps) t u) := by
  have ok := evalF_ok (hookS_ok (v := 4) (ok := true) (sn := sn) (sp := sp) (vn := vn) (vp := vp) (n := n) (p := p) (ns := ns) (ps := ps) (t := t) (u := u) hn hp) Try.mixed 8
  have hr : inlineK Try.prog (evalF Try.prog (hookS 4 true sn sp vn vp n p ns ps t u) 8) 63735 [false, false, false, false, true, true, true] 7 [.ptr 0 0, .ptr 1 0, actA k l a b] (sObj sn sp vn vp n p (nodeF ns) (pairF ps) t u) = some (vb (lookE p l == lookE p l), sObj sn sp vn vp n p (nodeF ns) (pairF ps) t u, [ob (sameS (partsN ps p l).2 (partsN ps p l).2 = true), ob (sameS (partsN ps p l).1 (partsN ps p l).1 = true), obU (hObj 32 76 sn sp vn vp n p ns ps t u = hObj 32 76 sn sp vn vp n p ns ps t u), obU (hObj 68 82 sn sp vn vp n p ns ps t u = hObj 68 82 sn sp vn vp n p ns ps t u), ob (intoS k = 4)]) := by
    cases sn <;> cases sp <;> (refine keq ?_; kernel_rfl)
  exact path_le ok Try.mixed hr ⟨same_self (parts_good hg l).2, same_self (parts_good hg l).1, rfl, rfl, hk, trivial⟩ (leOs_refl _) (leA_bool (beq_self_i _)) (by cases sn <;> cases sp <;> rfl)
theorem step5 (hn : sn = false → n = 0) (hp : sp = false → p = 0) (k l : Int) (a b : CI) (hk : intoS k = 5) (hg : ∀ i, i < n → goodC (ns i).c) : Contract Try.prog 7 [.ptr 0 0, .ptr 1 0, actA k l a b] (sObj sn sp vn vp n p (nodeF ns) (pairF ps) t u) (vb true) (sObj sn sp vn vp n p (nodeF (enterNs ns n l)) (pairF ps) t u) := by
  have ok := evalF_ok (hookS_ok (v := 5) (ok := true) (sn := sn) (sp := sp) (vn := vn) (vp := vp) (n := n) (p := p) (ns := ns) (ps := ps) (t := t) (u := u) hn hp) Try.mixed 8
  have hr : inlineK Try.prog (evalF Try.prog (hookS 5 true sn sp vn vp n p ns ps t u) 8) 4039 [false, false, false, false, false, true, true] 7 [.ptr 0 0, .ptr 1 0, actA k l a b] (sObj sn sp vn vp n p (nodeF ns) (pairF ps) t u) = some (vb (enterE ns n l == enterE ns n l), sObj sn sp vn vp n p (nodeF (enterNs ns n l)) (pairF ps) t u, [ob (alikeS (enterN ns n l) (enterN ns n l) = true), obU (hObj 32 76 sn sp vn vp n p ns ps t u = hObj 32 76 sn sp vn vp n p ns ps t u), obU (hObj 68 82 sn sp vn vp n p ns ps t u = hObj 68 82 sn sp vn vp n p ns ps t u), ob (intoS k = 5)]) := by
    cases sn <;> cases sp <;> (refine keq ?_; kernel_rfl)
  exact path_le ok Try.mixed hr ⟨alike_self (enter_good hg l), rfl, rfl, hk, trivial⟩ (leOs_refl _) (leA_bool (beq_self_i _)) (by cases sn <;> cases sp <;> rfl)
theorem step6 (hn : sn = false → n = 0) (hp : sp = false → p = 0) (k l : Int) (a b : CI) (hk : intoS k = 6) : Contract Try.prog 7 [.ptr 0 0, .ptr 1 0, actA k l a b] (sObj sn sp vn vp n p (nodeF ns) (pairF ps) t u) (vb true) (sObj sn sp vn vp n p (nodeF (updNs ns n p l (cC a))) (pairF ps) t (updU ns n p l (cC a) u)) := by
  have ok := evalF_ok (hookS_ok (v := 6) (ok := true) (sn := sn) (sp := sp) (vn := vn) (vp := vp) (n := n) (p := p) (ns := ns) (ps := ps) (t := t) (u := u) hn hp) Try.mixed 8
  have hr : inlineK Try.prog (evalF Try.prog (hookS 6 true sn sp vn vp n p ns ps t u) 8) 0 [] 7 [.ptr 0 0, .ptr 1 0, actA k l a b] (sObj sn sp vn vp n p (nodeF ns) (pairF ps) t u) = some (vb (updE ns n p l (cC a) == updE ns n p l (cC a)), sObj sn sp vn vp n p (nodeF (updNs ns n p l (cC a))) (pairF ps) t (updU ns n p l (cC a) u), [obU (hObj 32 76 sn sp vn vp n p ns ps t u = hObj 32 76 sn sp vn vp n p ns ps t u), obU (cellR n p (cC a) = cellS n p (cC a)), obU (hObj 68 82 sn sp vn vp n p ns ps t u = hObj 68 82 sn sp vn vp n p ns ps t u), ob (intoS k = 6)]) := by
    cases sn <;> cases sp <;> (refine keq ?_; kernel_rfl)
  exact path_le ok Try.mixed hr ⟨rfl, cell_eq (cC_lt a).1 (cC_lt a).2, rfl, hk, trivial⟩ (leOs_refl _) (leA_bool (beq_self_i _)) (by cases sn <;> cases sp <;> rfl)
end
end flt
end Go.Proofs.Ytjgddhjjcgndaaa
