import Derived.Test.YtjgddhjjcgndaaaHWhole0
/- whole: it says true of two heaps that hold the same. -/
set_option linter.unusedVariables false
set_option linter.unusedSimpArgs false
namespace Go.Proofs.Ytjgddhjjcgndaaa
open Go.AI
set_option maxRecDepth 100000
namespace flt
theorem wrap_small {x : Int} (h : 0 ≤ x) (h2 : x < 2 ^ 62) : IntKind.i64.wrap x = x := by
  have e0 : IntKind.i64.bits = 64 := rfl
  have e : x % 2 ^ IntKind.i64.bits = x := by rw [e0]; omega
  unfold IntKind.wrap
  simp only [e]
  rw [if_neg]
  simp only [Bool.and_eq_true, decide_eq_true_eq, not_and]
  intro _
  have e1 : (2 : Int) ^ (IntKind.i64.bits - 1) = 9223372036854775808 := rfl
  rw [e1]; omega
section
variable {sn sp : Bool} {vn vp n p : Nat} {ns : Nat → Nd} {ps : Nat → Cl × Cl} {t u : Int}
abbrev sOb (sn sp : Bool) (vn vp n p : Nat) (ns : Nat → Nd) (ps : Nat → Cl × Cl) (t u : Int) : List AO := sObj sn sp vn vp n p (nodeF ns) (pairF ps) t u
noncomputable abbrev hkS (sn sp : Bool) (vn vp n p : Nat) (ns : Nat → Nd) (ps : Nat → Cl × Cl) (t u : Int) : Hook := evalF Try.prog (hookS 0 true sn sp vn vp n p ns ps t u) 8
noncomputable abbrev runW (sn sp : Bool) (vn vp n p : Nat) (ns : Nat → Nd) (ps : Nat → Cl × Cl) (t u : Int) (todo : List It) (env : List AV) (bs : List Bool) : Option Out :=
  run Try.prog (hkS sn sp vn vp n p ns ps t u) true 4000 todo ⟨env, hp 0 (sOb sn sp vn vp n p ns ps t u), (sOb sn sp vn vp n p ns ps t u).length⟩ bs []
def sLen (sn sp : Bool) : Nat := match sn, sp with
  | false, false => 2
  | true, true => 6
  | _, _ => 4
theorem sLen_eq : (sOb sn sp vn vp n p ns ps t u).length = sLen sn sp := by cases sn <;> cases sp <;> rfl
abbrev oeP (sn sp : Bool) (vn vp n p : Nat) (ns : Nat → Nd) (ps : Nat → Cl × Cl) (t u : Int) : Ob := obU (hObj 68 82 sn sp vn vp n p ns ps t u = hObj 68 82 sn sp vn vp n p ns ps t u)
abbrev oeD (sn sp : Bool) (vn vp n p : Nat) (ns : Nat → Nd) (ps : Nat → Cl × Cl) (t u : Int) : Ob := obU (hObj 32 76 sn sp vn vp n p ns ps t u = hObj 32 76 sn sp vn vp n p ns ps t u)

theorem w_start : let r := runW sn sp vn vp n p ns ps t u [.code (bodyOf 8)] (startEnv Try.f8.ntmps [.ptr 0 0, .ptr 1 0]) []
    isS r = true ∧ outTodo r = .code (.loop wC1) :: wK1 ∧ pickN 0 (outPs r) = [] ∧ landK (sLen sn sp) 106 (seqN 0 (sLen sn sp)) [0, 1, 4, 5] (outSt r) = (true, [.ptr 0 0, .ptr 1 0, vb false, vi 0], sOb sn sp vn vp n p ns ps t u) := by
  intro r
  refine ⟨?_, ?_, ?_, ?_⟩ <;> cases sn <;> cases sp <;> (refine keq ?_; kernel_rfl)
theorem w_round1 (hn : sn = false → n = 0) (hp : sp = false → p = 0) (i : Int) : let r := runW sn sp vn vp n p ns ps t u (.code wC1 :: .back :: wK1) (wE i) [true, false, false]
    isS r = true ∧ outTodo r = .back :: wK1 ∧ pickN 14 (outPs r) = [ob ((lookE n i != lookE n i) = false), ob ((!alikeS (lookN ns n i) (lookN ns n i)) = false), oeD sn sp vn vp n p ns ps t u, oeP sn sp vn vp n p ns ps t u, ob (decide (i ≤ (n : Int)) = true)] ∧
    landK (sLen sn sp) 106 (seqN 0 (sLen sn sp)) [0, 1, 4, 5] (outSt r) = (true, [.ptr 0 0, .ptr 1 0, vb false, vi (IntKind.i64.wrap (i + 1))], sOb sn sp vn vp n p ns ps t u) := by
  intro r
  refine ⟨?_, ?_, ?_, ?_⟩ <;> cases sn <;> cases sp <;> (first | (have := hn rfl; subst this) | skip) <;> (first | (have := hp rfl; subst this) | skip) <;> (refine keq ?_; kernel_rfl)
theorem w_exit1 (hn : sn = false → n = 0) (hp : sp = false → p = 0) (i : Int) : let r := runW sn sp vn vp n p ns ps t u (.code wC1 :: .back :: wK1) (wE i) [false]
    isS r = true ∧ outTodo r = .code (.loop wC2) :: wK2 ∧ pickN 0 (outPs r) = [ob (decide (i ≤ (n : Int)) = false)] ∧
    landK (sLen sn sp) 106 (seqN 0 (sLen sn sp)) [0, 1, 4, 10] (outSt r) = (true, [.ptr 0 0, .ptr 1 0, vb false, vi 0], sOb sn sp vn vp n p ns ps t u) := by
  intro r
  refine ⟨?_, ?_, ?_, ?_⟩ <;> cases sn <;> cases sp <;> (first | (have := hn rfl; subst this) | skip) <;> (first | (have := hp rfl; subst this) | skip) <;> (refine keq ?_; kernel_rfl)
theorem w_round2 (hn : sn = false → n = 0) (hp : sp = false → p = 0) (i : Int) : let r := runW sn sp vn vp n p ns ps t u (.code wC2 :: .back :: wK2) (wE2 i) [true, false, false, false]
    isS r = true ∧ outTodo r = .back :: wK2 ∧ pickN 1006 (outPs r) = [ob ((lookE p i != lookE p i) = false), ob ((!sameS (partsN ps p i).2 (partsN ps p i).2) = false), ob ((!sameS (partsN ps p i).1 (partsN ps p i).1) = false), oeD sn sp vn vp n p ns ps t u, oeP sn sp vn vp n p ns ps t u, ob (decide (i ≤ (p : Int)) = true)] ∧
    landK (sLen sn sp) 106 (seqN 0 (sLen sn sp)) [0, 1, 4, 10] (outSt r) = (true, [.ptr 0 0, .ptr 1 0, vb false, vi (IntKind.i64.wrap (i + 1))], sOb sn sp vn vp n p ns ps t u) := by
  intro r
  refine ⟨?_, ?_, ?_, ?_⟩ <;> cases sn <;> cases sp <;> (first | (have := hn rfl; subst this) | skip) <;> (first | (have := hp rfl; subst this) | skip) <;> (refine keq ?_; kernel_rfl)
theorem w_exit2 (hn : sn = false → n = 0) (hp : sp = false → p = 0) (i : Int) : let r := runW sn sp vn vp n p ns ps t u (.code wC2 :: .back :: wK2) (wE2 i) [false, true]
    isS r = true ∧ outTodo r = [] ∧ pickN 63 (outPs r) = [ob ((t == t) = true), ob (decide (i ≤ (p : Int)) = false)] ∧
    endK Try.prog Try.f8 (sLen sn sp) (outSt r) = some (vb (u == u), sOb sn sp vn vp n p ns ps t u, []) := by
  intro r
  refine ⟨?_, ?_, ?_, ?_⟩ <;> cases sn <;> cases sp <;> (first | (have := hn rfl; subst this) | skip) <;> (first | (have := hp rfl; subst this) | skip) <;> (refine keq ?_; kernel_rfl)

theorem whole_contract (hn : sn = false → n = 0) (hp : sp = false → p = 0) (hgn : ∀ i, i < n → goodC (ns i).c) (hgp : ∀ i, i < p → goodC (ps i).1 ∧ goodC (ps i).2) (hn2 : n < 2 ^ 60) (hp2 : p < 2 ^ 60) :
    Contract Try.prog 8 [.ptr 0 0, .ptr 1 0] (sOb sn sp vn vp n p ns ps t u) (vb true) (sOb sn sp vn vp n p ns ps t u) := by
  have ok : HookOK Try.prog (hkS sn sp vn vp n p ns ps t u) := evalF_ok (hookS_ok (v := 0) (ok := true) hn hp) Try.mixed 8
  refine contract_intro (c := bodyOf 8) Try.func8 (by kernel_rfl) fun E0 w0 h0 => ?_
  have hlen : (sOb sn sp vn vp n p ns ps t u).length = sLen sn sp := sLen_eq
  have hF : ∀ a w, fin Try.prog Try.f8 (sOb sn sp vn vp n p ns ps t u) (vb true) (sOb sn sp vn vp n p ns ps t u) E0 w0 .normal a w → fin Try.prog Try.f8 (sOb sn sp vn vp n p ns ps t u) (vb true) (sOb sn sp vn vp n p ns ps t u) E0 w0 .ret a w := fun _ _ h => h
  refine run_st ok Try.mixed hF (φ := fun st => landK (sLen sn sp) 106 (seqN 0 (sLen sn sp)) [0, 1, 4, 5] st = (true, [.ptr 0 0, .ptr 1 0, vb false, vi 0], sOb sn sp vn vp n p ns ps t u)) (w_start (sn := sn) (sp := sp) (vn := vn) (vp := vp) (n := n) (p := p) (ns := ns) (ps := ps) (t := t) (u := u)) trivial fun st a4 => ?_
  refine loop_fam (ι := Nat) (fun i => wE (i : Int)) (fun _ => sOb sn sp vn vp n p ns ps t u) (fun i => i ≤ n + 1) (fun i => n + 1 - i) h0 ⟨0, seqN 0 (sLen sn sp), by omega, ?_⟩ fun i hi => ?_
  · rw [hlen]; exact lands_of a4 (leL_refl _) (leOs_refl _) (by cases sn <;> cases sp <;> rfl)
  · cases hle : decide ((i : Int) ≤ (n : Int)) with
    | true =>
      have hin : i ≤ n := by have := of_decide_eq_true hle; omega
      refine run_st ok Try.mixed hF (φ := fun st => landK (sLen sn sp) 106 (seqN 0 (sLen sn sp)) [0, 1, 4, 5] st = (true, [.ptr 0 0, .ptr 1 0, vb false, vi (IntKind.i64.wrap ((i : Int) + 1))], sOb sn sp vn vp n p ns ps t u)) (w_round1 (vn := vn) (vp := vp) (ns := ns) (ps := ps) (t := t) (u := u) hn hp  (i : Int)) ⟨by simp, by rw [alike_self (look_good hgn _)]; rfl, rfl, rfl, hle, trivial⟩ fun st b4 => ?_
      refine foot h0 rfl ⟨i + 1, seqN 0 (sLen sn sp), by omega, by omega, ?_⟩
      rw [hlen]
      rw [wrap_small (by omega) (by omega)] at b4
      exact lands_of b4 (leL_refl _) (leOs_refl _) (by cases sn <;> cases sp <;> rfl)
    | false =>
      refine run_st ok Try.mixed hF (φ := fun st => landK (sLen sn sp) 106 (seqN 0 (sLen sn sp)) [0, 1, 4, 10] st = (true, [.ptr 0 0, .ptr 1 0, vb false, vi 0], sOb sn sp vn vp n p ns ps t u)) (w_exit1 (vn := vn) (vp := vp) (ns := ns) (ps := ps) (t := t) (u := u) hn hp  (i : Int)) ⟨hle, trivial⟩ fun st b4 => ?_
      refine loop_fam (ι := Nat) (fun i => wE2 (i : Int)) (fun _ => sOb sn sp vn vp n p ns ps t u) (fun i => i ≤ p + 1) (fun i => p + 1 - i) h0 ⟨0, seqN 0 (sLen sn sp), by omega, ?_⟩ fun j hj => ?_
      · rw [hlen]; exact lands_of b4 (leL_refl _) (leOs_refl _) (by cases sn <;> cases sp <;> rfl)
      · cases hle2 : decide ((j : Int) ≤ (p : Int)) with
        | true =>
          have hin : j ≤ p := by have := of_decide_eq_true hle2; omega
          refine run_st ok Try.mixed hF (φ := fun st => landK (sLen sn sp) 106 (seqN 0 (sLen sn sp)) [0, 1, 4, 10] st = (true, [.ptr 0 0, .ptr 1 0, vb false, vi (IntKind.i64.wrap ((j : Int) + 1))], sOb sn sp vn vp n p ns ps t u)) (w_round2 (vn := vn) (vp := vp) (ns := ns) (ps := ps) (t := t) (u := u) hn hp  (j : Int)) ⟨by simp, by rw [same_self (parts_good hgp _).2]; rfl, by rw [same_self (parts_good hgp _).1]; rfl, rfl, rfl, hle2, trivial⟩ fun st c4 => ?_
          refine foot h0 rfl ⟨j + 1, seqN 0 (sLen sn sp), by omega, by omega, ?_⟩
          rw [hlen]
          rw [wrap_small (by omega) (by omega)] at c4
          exact lands_of c4 (leL_refl _) (leOs_refl _) (by cases sn <;> cases sp <;> rfl)
        | false =>
          refine run_st ok Try.mixed hF (φ := fun st => endK Try.prog Try.f8 (sLen sn sp) st = some (vb (u == u), sOb sn sp vn vp n p ns ps t u, [])) (w_exit2 (vn := vn) (vp := vp) (ns := ns) (ps := ps) (t := t) (u := u) hn hp  (j : Int)) ⟨beq_self_i _, hle2, trivial⟩ fun st c4 => ?_
          refine end_of (os := []) h0 (by rw [hlen]; exact c4) trivial (leOs_refl _) (leA_bool (beq_self_i _)) (by cases sn <;> cases sp <;> rfl)
end
end flt
end Go.Proofs.Ytjgddhjjcgndaaa
