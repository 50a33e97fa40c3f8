import Derived.Test.YtjgddhjjcgndaaaHValid
/- fathomref01.Of. -/
namespace Go.Proofs.Ytjgddhjjcgndaaa
open Go.AI
set_option maxRecDepth 100000
namespace flt
def ofV (a b : Int) (ok : Bool) : AV := .tup [.agg [.i (.sc (.int .i64 a)), .i (.sc (.int .i64 b))], .i (.sc (.bool ok))]
theorem of_no (re im : Nat) (h : (partOk re && partOk im) = false) : Contract Try.prog 34 (ca re im) [] (ofV 0 0 false) [] := by
  have ok := evalF_ok hook1_ok Try.mixed 8
  cases h1 : partOk re with
  | false =>
    have := inlineD_ok ok Try.mixed (bs := [true]) (g := 34) (args := ca re im) (objs := [])
      (h := ⟨ofV 0 0 false, true, [tt, tt, ob ((!partOk re) = true)], []⟩) (by kernel_rfl) (by simp only [AllP, h1]; simp)
    simpa [outsOf] using this
  | true =>
    have h2 : partOk im = false := by simpa [h1] using h
    have := inlineD_ok ok Try.mixed (bs := [false, true]) (g := 34) (args := ca re im) (objs := [])
      (h := ⟨ofV 0 0 false, true, [ob ((!partOk im) = true), ff, ff, ob ((!partOk re) = false)], []⟩) (by kernel_rfl) (by simp only [AllP, h1, h2]; simp)
    simpa [outsOf] using this
theorem of_yes (re im : Nat) (h1 : partOk re = true) (h2 : partOk im = true) : Contract Try.prog 34 (ca re im) [] (ofV (partN re) (partN im) true) [] := by
  have ok := evalF_ok hook1_ok Try.mixed 8
  have := inlineD_ok ok Try.mixed (bs := [false, false]) (g := 34) (args := ca re im) (objs := [])
    (h := ⟨ofV (partN re) (partN im) true, true, [ob ((!partOk im) = false), ff, ff, ob ((!partOk re) = false)], []⟩) (by kernel_rfl) (by simp only [AllP, h1, h2]; simp)
  simpa [outsOf] using this
end flt
end Go.Proofs.Ytjgddhjjcgndaaa
