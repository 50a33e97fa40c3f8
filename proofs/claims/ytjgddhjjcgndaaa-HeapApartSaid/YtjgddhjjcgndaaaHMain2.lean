import Derived.Test.YtjgddhjjcgndaaaHMain1
/- A step of either heap keeps all that is good. -/
set_option linter.unusedVariables false
set_option linter.unusedSimpArgs false
namespace Go.Proofs.Ytjgddhjjcgndaaa
open Go.AI
set_option maxRecDepth 100000
namespace flt
theorem into_range (k : Int) : 0 ≤ intoS k ∧ intoS k ≤ 6 := by
  have h1 : k.tmod 7 < 7 := Int.tmod_lt_of_pos k (by decide)
  have h2 : -7 < k.tmod 7 := by
    have := Int.tmod_lt_of_pos (-k) (b := 7) (by decide)
    rw [Int.neg_tmod] at this
    omega
  have e : IntKind.i64.wrap (k.tmod 7 + 7) = k.tmod 7 + 7 := wrap_small (by omega) (by omega)
  unfold intoS
  rw [e]
  have h3 : 0 ≤ (k.tmod 7 + 7).tmod 7 := Int.tmod_nonneg 7 (by omega)
  have h4 : (k.tmod 7 + 7).tmod 7 < 7 := Int.tmod_lt_of_pos _ (by decide)
  omega
structure GoodHS (A : HS) : Prop where
  hn : A.sn = false → A.n = 0
  hp : A.sp = false → A.p = 0
  ns : ∀ i, i < A.n → goodC (A.ns i).c
  ps : ∀ i, i < A.p → goodC (A.ps i).1 ∧ goodC (A.ps i).2
theorem good_hs0 : GoodHS hs0 := ⟨fun _ => rfl, fun _ => rfl, fun i h => by simp [hs0] at h, fun i h => by simp [hs0] at h⟩
theorem good_set {ns : Nat → Nd} {n k : Nat} {x : Nd} (h : ∀ i, i < n → goodC (ns i).c) (hx : goodC x.c) : ∀ i, i < n → goodC (setN ns k x i).c := by
  intro i hi
  unfold setN
  split
  · exact hx
  · exact h i hi
theorem good_enter {ns : Nat → Nd} {n : Nat} (h : ∀ i, i < n → goodC (ns i).c) (l : Int) : ∀ i, i < n → goodC (enterNs ns n l i).c := by
  unfold enterNs
  cases (lookE n l != 0) <;> cases ((lookN ns n l).st == 2) <;> cases ((lookN ns n l).st == 4) <;> cases ((lookN ns n l).st == 1) <;> first
    | exact h
    | exact good_set h good_zC
theorem good_upd {ns : Nat → Nd} {n p : Nat} (h : ∀ i, i < n → goodC (ns i).c) (l : Int) (c : Cl) : ∀ i, i < n → goodC (updNs ns n p l c i).c := by
  unfold updNs
  cases (lookE n l != 0) with
  | true => exact h
  | false => cases hu : updOk ns n p l c with
    | false => exact h
    | true =>
      refine good_set h ?_
      unfold updOk at hu
      simp only [Bool.and_eq_true] at hu
      exact cell_good hu.2.2
theorem good_same {A : HS} (h : GoodHS A) {ns : Nat → Nd} {t u : Int} (hg : ∀ i, i < A.n → goodC (ns i).c) : GoodHS (A.same ns t u) := ⟨h.hn, h.hp, hg, h.ps⟩
theorem good_node {A : HS} (h : GoodHS A) {x : Nd} {t : Int} (hx : goodC x.c) : GoodHS (A.node x t) ∧ (A.node x t).n ≤ A.n + 1 ∧ (A.node x t).p ≤ A.p + 1 := by
  obtain ⟨sn, sp, vn, vp, n, p, ns, ps, t0, u⟩ := A
  cases sn with
  | true =>
    refine ⟨⟨fun e => (by cases e), h.hp, fun i hi => ?_, h.ps⟩, Nat.le_refl _, Nat.le_succ _⟩
    show goodC (addN ns n x i).c
    unfold addN
    split
    · rename_i hl; exact h.ns i hl
    · exact hx
  | false =>
    refine ⟨⟨fun e => (by cases e), h.hp, fun i hi => hx, h.ps⟩, ?_, Nat.le_succ _⟩
    show 1 ≤ n + 1
    omega
theorem good_pair {A : HS} (h : GoodHS A) {a b : Cl} (ha : goodC a) (hb : goodC b) : GoodHS (A.pair a b) ∧ (A.pair a b).n ≤ A.n + 1 ∧ (A.pair a b).p ≤ A.p + 1 := by
  obtain ⟨sn, sp, vn, vp, n, p, ns, ps, t0, u⟩ := A
  cases sp with
  | true =>
    refine ⟨⟨h.hn, fun e => (by cases e), h.ns, fun i hi => ?_⟩, Nat.le_succ _, Nat.le_refl _⟩
    show goodC (addN ps p (a, b) i).1 ∧ goodC (addN ps p (a, b) i).2
    unfold addN
    split
    · rename_i hl; exact h.ps i hl
    · exact ⟨ha, hb⟩
  | false =>
    refine ⟨⟨h.hn, fun e => (by cases e), h.ns, fun i hi => ⟨ha, hb⟩⟩, Nat.le_succ _, ?_⟩
    show 1 ≤ p + 1
    omega
theorem step_any {A : HS} (h : GoodHS A) (hb : (A.n + 1) * 56 ≤ 140737488355328) (hq : (A.p + 1) * 80 ≤ 140737488355328) (k l : Int) (a b : CI) :
    ∃ F : Form, Contract Try.prog 7 [.ptr 0 0, .ptr 1 0, actA k l a b] (sOf A) (vb true) (A.outs F) ∧ GoodHS (A.to F) ∧ (A.to F).n ≤ A.n + 1 ∧ (A.to F).p ≤ A.p + 1 := by
  obtain ⟨h1, h2⟩ := into_range k
  rcases (by omega : intoS k = 0 ∨ intoS k = 1 ∨ intoS k = 2 ∨ intoS k = 3 ∨ intoS k = 4 ∨ intoS k = 5 ∨ intoS k = 6) with e | e | e | e | e | e | e
  · exact ⟨.node ⟨1, l, zC⟩ (IntKind.i64.wrap (A.t + 1)), step0 h.hn h.hp k l a b e hb, good_node h good_zC⟩
  · exact ⟨.node ⟨4, 0, zC⟩ A.t, step1 h.hn h.hp k l a b e hb, good_node h good_zC⟩
  · cases hc : (cellS A.n A.p (cC a) && cellS A.n A.p (cC b)) with
    | true =>
      have hc' := hc
      simp only [Bool.and_eq_true] at hc'
      exact ⟨.pair (cC a) (cC b), step2y h.hn h.hp k l a b e hc'.1 hc'.2 hq, good_pair h (cell_good hc'.1) (cell_good hc'.2)⟩
    | false => exact ⟨.same A.ns A.t A.u, step2n h.hn h.hp k l a b e hc, good_same h h.ns, Nat.le_succ _, Nat.le_succ _⟩
  · exact ⟨.same A.ns A.t A.u, step3 h.hn h.hp k l a b e h.ns, good_same h h.ns, Nat.le_succ _, Nat.le_succ _⟩
  · exact ⟨.same A.ns A.t A.u, step4 h.hn h.hp k l a b e h.ps, good_same h h.ns, Nat.le_succ _, Nat.le_succ _⟩
  · exact ⟨.same (enterNs A.ns A.n l) A.t A.u, step5 h.hn h.hp k l a b e h.ns, good_same h (good_enter h.ns l), Nat.le_succ _, Nat.le_succ _⟩
  · exact ⟨.same (updNs A.ns A.n A.p l (cC a)) A.t (updU A.ns A.n A.p l (cC a) A.u), step6 h.hn h.hp k l a b e, good_same h (good_upd h.ns l _), Nat.le_succ _, Nat.le_succ _⟩
end flt
end Go.Proofs.Ytjgddhjjcgndaaa
