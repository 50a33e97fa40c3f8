import Derived.Test.YtjgddhjjcgndaaaHOf
/- fathomref13.zero; a hook that knows Valid and Of. -/
namespace Go.Proofs.Ytjgddhjjcgndaaa
open Go.AI
set_option maxRecDepth 100000
namespace flt
def run2 (b : Bool) : FuncId → List AV → List AO → Option HookRes
  | 32, [.i (.sc (.complex .f64 re im))], [] => some ⟨.i (.sc (.bool (plainS re && plainS im))), true, [], []⟩
  | 34, [.i (.sc (.complex .f64 re im))], [] => match b with
    | true => some ⟨ofV (partN re) (partN im) true, true, [ob (partOk re = true), ob (partOk im = true)], []⟩
    | false => some ⟨ofV 0 0 false, true, [ob ((partOk re && partOk im) = false)], []⟩
  | _, _, _ => .none
def hook2 (b : Bool) : Hook := { Try.hook with run := run2 b }
theorem hook2_ok (b : Bool) : HookOK Try.prog (hook2 b) := by
  refine ⟨fun g a o h hr hps => ?_, Try.hook_ok.ext⟩
  have hr : run2 b g a o = some h := hr
  unfold run2 at hr
  split at hr
  · injection hr with hr; subst hr; exact valid_contract _ _
  · split at hr
    · injection hr with hr; subst hr; exact of_yes _ _ hps.1 hps.2.1
    · injection hr with hr; subst hr; exact of_no _ _ hps.1
  · cases hr
def zeroS (re im : Nat) : Bool := partOk re && partOk im && (partN re == 0 && (partN im == 0 && true))
theorem zero_contract (re im : Nat) : Contract Try.prog 35 (ca re im) [] (.i (.sc (.bool (zeroS re im)))) [] := by
  cases h : (partOk re && partOk im) with
  | true =>
    have h' : partOk re = true ∧ partOk im = true := by simpa using h
    have := inlineD_ok (evalF_ok (hook2_ok true) Try.mixed 8) Try.mixed (bs := [true]) (g := 35) (args := ca re im) (objs := [])
      (h := ⟨.i (.sc (.bool (partN re == 0 && (partN im == 0 && true)))), true, [tt, tt, tt, tt, ob (partOk re = true), ob (partOk im = true)], []⟩) (by kernel_rfl) (by simp only [AllP, h'.1, h'.2]; simp)
    simpa [zeroS, h, outsOf] using this
  | false =>
    have := inlineD_ok (evalF_ok (hook2_ok false) Try.mixed 8) Try.mixed (bs := [false]) (g := 35) (args := ca re im) (objs := [])
      (h := ⟨.i (.sc (.bool false)), true, [ff, ff, ff, ff, ob ((partOk re && partOk im) = false)], []⟩) (by kernel_rfl) (by simp only [AllP, h]; simp)
    simpa [zeroS, h, outsOf] using this
end flt
end Go.Proofs.Ytjgddhjjcgndaaa
