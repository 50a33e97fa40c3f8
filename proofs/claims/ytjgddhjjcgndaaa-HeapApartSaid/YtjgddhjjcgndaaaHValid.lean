import Derived.Test.YtjgddhjjcgndaaaHSame
/- gauss.Valid and fathomref01.Of. -/
namespace Go.Proofs.Ytjgddhjjcgndaaa
open Go.AI
set_option maxRecDepth 100000
namespace flt
def run1 : FuncId → List AV → List AO → Option HookRes
  | 36, [.i (.sc (.float .f64 x))], [] => some ⟨.i (.sc (.bool (plainS x))), true, [], []⟩
  | 37, [.i (.sc (.float .f64 x))], [] => some ⟨two (partN x) (partOk x), true, [], []⟩
  | _, _, _ => .none
def hook1 : Hook := { Try.hook with run := run1 }
theorem hook1_ok : HookOK Try.prog hook1 := by
  refine ⟨fun g a o h hr _ => ?_, Try.hook_ok.ext⟩
  have hr : run1 g a o = some h := hr
  unfold run1 at hr
  split at hr
  · injection hr with hr; subst hr; exact plain_contract _
  · injection hr with hr; subst hr; exact part_contract _
  · cases hr
def ca (re im : Nat) : List AV := [.i (.sc (.complex .f64 re im))]
theorem valid_contract (re im : Nat) : Contract Try.prog 32 (ca re im) [] (.i (.sc (.bool (plainS re && plainS im)))) [] := by
  have ok := evalF_ok hook1_ok Try.mixed 8
  cases h : plainS re with
  | false =>
    have := inlineD_ok ok Try.mixed (bs := [false]) (g := 32) (args := ca re im) (objs := [])
      (h := ⟨.i (.sc (.bool false)), true, [ff, ff, ff, ob (plainS re = false)], []⟩) (by kernel_rfl) (by simp only [AllP, h]; simp)
    simpa [outsOf] using this
  | true =>
    have := inlineD_ok ok Try.mixed (bs := [true]) (g := 32) (args := ca re im) (objs := [])
      (h := ⟨.i (.sc (.bool (plainS im))), true, [tt, tt, tt, ob (plainS re = true)], []⟩) (by kernel_rfl) (by simp only [AllP, h]; simp)
    simpa [outsOf] using this
end flt
end Go.Proofs.Ytjgddhjjcgndaaa
