import Derived.Test.YtjgddhjjcgndaaaHookH
import Derived.Test.YtjgddhjjcgndaaaFloatTrunc
/- gauss.plain: which floats are whole parts. -/
namespace Go.Proofs.Ytjgddhjjcgndaaa
open Go.AI
set_option maxRecDepth 100000
namespace flt
def ord (x y : Nat) : Option Ordering := FloatKind.f64.format.order x y
def geB (x : Nat) : Bool := ord x 13938640846711685120 == some Ordering.gt || ord x 13938640846711685120 == some Ordering.eq
def leB (x : Nat) : Bool := ord x 4715268809856909312 == some Ordering.lt || ord x 4715268809856909312 == some Ordering.eq
def trB (x : Nat) : Bool := ord x (truncW x) == some Ordering.eq
def nzB (x : Nat) : Bool := ord x 0 != some Ordering.eq
def sgB (x : Nat) : Bool := decide (IntKind.i64.wrap (x : Int) < 0)
def nan (x : Nat) : Bool := (FloatKind.f64.decode x).isNaN
def plainS (x : Nat) : Bool := geB x && leB x && trB x && (nzB x || !sgB x)
def fa (x : Nat) : List AV := [.i (.sc (.float .f64 x))]
abbrev tt : Ob := ob (true = true)
abbrev ff : Ob := ob (false = false)

theorem nan_ge {x : Nat} (h : geB x = true) : nan x = false := by
  cases hd : FloatKind.f64.decode x with
  | nan s t =>
    have hd : Ieee.double.read x = .nan s t := hd
    exfalso
    simp [geB, ord, FloatKind.format, Ieee.Format.order, hd, Ieee.Datum.order] at h
  | _ => simp [nan, hd, Ieee.Datum.isNaN]

theorem plain_contract (x : Nat) : Contract Try.prog 36 (fa x) [] (.i (.sc (.bool (plainS x)))) [] := by
  have ok := evalF_ok Try.hook_ok Try.mixed 8
  cases h1 : geB x with
  | false =>
    have := inlineD_ok ok Try.mixed (bs := [false, false, false, false]) (g := 36) (args := fa x) (objs := [])
      (h := ⟨.i (.sc (.bool false)), true, [ff, ff, ff, ff, ff, ff, ff, ff, ff, ff, ff, ff, ob (geB x = false)], []⟩) (by kernel_rfl) (by simp [AllP, h1])
    simpa [plainS, h1, outsOf] using this
  | true => cases h2 : leB x with
    | false =>
      have := inlineD_ok ok Try.mixed (bs := [true, false, false, false]) (g := 36) (args := fa x) (objs := [])
        (h := ⟨.i (.sc (.bool false)), true, [ff, ff, ff, ff, ff, ff, ff, ff, ff, ob (leB x = false), tt, tt, ob (geB x = true)], []⟩) (by kernel_rfl) (by simp [AllP, h1, h2])
      simpa [plainS, h1, h2, outsOf] using this
    | true => cases h3 : trB x with
      | false =>
        have := inlineD_ok ok Try.mixed (bs := [true, true, false, false]) (g := 36) (args := fa x) (objs := [])
          (h := ⟨.i (.sc (.bool false)), true, [ff, ff, ff, ff, ob (trB x = false), tt, tt, ob (nan x = false), tt, tt, ob (leB x = true), tt, tt, ob (geB x = true)], []⟩) (by kernel_rfl) (by simp [AllP, h1, h2, h3, nan_ge h1])
        simpa [plainS, h1, h2, h3, outsOf] using this
      | true => cases h4 : nzB x with
        | false =>
          have := inlineD_ok ok Try.mixed (bs := [true, true, true, false]) (g := 36) (args := fa x) (objs := [])
            (h := ⟨.i (.sc (.bool (!sgB x))), true, [tt, ff, ff, ff, tt, ob (nzB x = false), tt, tt, ob (trB x = true), tt, tt, ob (nan x = false), tt, tt, ob (leB x = true), tt, tt, ob (geB x = true)], []⟩) (by kernel_rfl) (by simp [AllP, h1, h2, h3, h4, nan_ge h1])
          simpa [plainS, h1, h2, h3, h4, outsOf] using this
        | true =>
          have := inlineD_ok ok Try.mixed (bs := [true, true, true, true]) (g := 36) (args := fa x) (objs := [])
            (h := ⟨.i (.sc (.bool true)), true, [tt, tt, tt, tt, tt, ob (nzB x = true), tt, tt, ob (trB x = true), tt, tt, ob (nan x = false), tt, tt, ob (leB x = true), tt, tt, ob (geB x = true)], []⟩) (by kernel_rfl) (by simp [AllP, h1, h2, h3, h4, nan_ge h1])
          simpa [plainS, h1, h2, h3, h4, outsOf] using this
end flt
end Go.Proofs.Ytjgddhjjcgndaaa
