import Derived.Test.YtjgddhjjcgndaaaHPlain
/- fathomref01.part: the same floats, by their integers. -/
namespace Go.Proofs.Ytjgddhjjcgndaaa
open Go.AI
set_option maxRecDepth 100000
namespace flt
def toI (x : Nat) : Int := (Ieee.Datum.toInt .zero (FloatKind.f64.decode x)).getD 0
def eqI (x : Nat) : Bool := ord (FloatKind.f64.nearest (toI x)) x == some Ordering.eq
def z0 (x : Nat) : Bool := ord x 0 == some Ordering.eq
def partOk (x : Nat) : Bool := geB x && leB x && !(z0 x && ((x : Int) != 0)) && eqI x
def partN (x : Nat) : Int := match geB x && leB x && !(z0 x && ((x : Int) != 0)) with
  | true => toI x
  | false => 0

theorem or_of {a b : Bool} (h : (a || b) = true) : a = true ∨ b = true := by simpa using h
theorem number_of {x : Nat} (h1 : geB x = true) (h2 : leB x = true) : ∃ s m i, Ieee.double.read x = .number s m i ∧
    (Ieee.double.order x Ieee.least = some .gt ∨ Ieee.double.order x Ieee.least = some .eq) ∧ (Ieee.double.order x Ieee.most = some .lt ∨ Ieee.double.order x Ieee.most = some .eq) := by
  have g1 : Ieee.double.order x Ieee.least = some .gt ∨ Ieee.double.order x Ieee.least = some .eq := (or_of h1).imp (fun h => by simpa [ord, FloatKind.format, Ieee.least, Ieee.most] using h) (fun h => by simpa [ord, FloatKind.format, Ieee.least, Ieee.most] using h)
  have g2 : Ieee.double.order x Ieee.most = some .lt ∨ Ieee.double.order x Ieee.most = some .eq := (or_of h2).imp (fun h => by simpa [ord, FloatKind.format, Ieee.least, Ieee.most] using h) (fun h => by simpa [ord, FloatKind.format, Ieee.least, Ieee.most] using h)
  have e1 : Ieee.double.read Ieee.most = .number false (2 ^ 52) (-28) := by decide +kernel
  have e2 : Ieee.double.read Ieee.least = .number true (2 ^ 52) (-28) := by decide +kernel
  cases hd : Ieee.double.read x with
  | nan s t => simp [Ieee.Format.order, hd, Ieee.Datum.order] at g1
  | infinity s => cases s <;> simp [Ieee.Format.order, hd, e1, e2, Ieee.Datum.order] at g1 g2
  | number s m i => exact ⟨s, m, i, rfl, g1, g2⟩

theorem toI_ok {x : Nat} (h1 : geB x = true) (h2 : leB x = true) : (Ieee.Datum.toInt .zero (FloatKind.f64.decode x)).isSome = true ∧ -16777216 ≤ toI x ∧ toI x ≤ 16777216 ∧ trB x = eqI x := by
  obtain ⟨s, m, i, hd, g1, g2⟩ := number_of h1 h2
  have hw := Ieee.within hd g1 g2
  have hd' : FloatKind.f64.decode x = .number s m i := hd
  have e : Ieee.Datum.toInt .zero (FloatKind.f64.decode x) = some (Ieee.signed s (Ieee.Toward.zero.cut s (m <<< i.toNat) (-i).toNat) 0) := by rw [hd']; rfl
  have ei : toI x = Ieee.signed s (Ieee.Toward.zero.cut s (m <<< i.toNat) (-i).toNat) 0 := by unfold toI; rw [e]; rfl
  refine ⟨by rw [e]; rfl, ?_, ?_, ?_⟩
  · rw [ei]; cases s <;> simp only [Ieee.signed] <;> simp <;> omega
  · rw [ei]; cases s <;> simp only [Ieee.signed] <;> simp <;> omega
  · exact Ieee.trunc_iff hd g1 g2 (toI x) ei

def two (n : Int) (b : Bool) : AV := .tup [.i (.sc (.int .i64 n)), .i (.sc (.bool b))]
theorem part_contract (x : Nat) : Contract Try.prog 37 (fa x) [] (two (partN x) (partOk x)) [] := by
  have ok := evalF_ok Try.hook_ok Try.mixed 8
  cases h1 : geB x with
  | false =>
    have := inlineD_ok ok Try.mixed (bs := [false, true, false]) (g := 37) (args := fa x) (objs := [])
      (h := ⟨two 0 false, true, [tt, tt, tt, tt, ob ((!false) = true), ff, ff, ob (geB x = false)], []⟩) (by kernel_rfl) (by simp [AllP, h1])
    simpa [partN, partOk, h1, outsOf] using this
  | true => cases h2 : leB x with
    | false =>
      have := inlineD_ok ok Try.mixed (bs := [true, true, false]) (g := 37) (args := fa x) (objs := [])
        (h := ⟨two 0 false, true, [tt, tt, tt, tt, ob ((!leB x) = true), tt, tt, ob (geB x = true)], []⟩) (by kernel_rfl) (by simp [AllP, h1, h2])
      simpa [partN, partOk, h1, h2, outsOf] using this
    | true =>
      obtain ⟨i1, i2, i3, _⟩ := toI_ok h1 h2
      have m1 : IntKind.i64.min ≤ toI x := Int.le_trans (by decide) i2
      have m2 : toI x ≤ IntKind.i64.max := Int.le_trans i3 (by decide)
      cases h3 : z0 x with
      | false =>
        have := inlineD_ok ok Try.mixed (bs := [true, false, false]) (g := 37) (args := fa x) (objs := [])
          (h := ⟨two (toI x) (eqI x), true, [ob ((Ieee.Datum.toInt Ieee.Toward.zero (FloatKind.f64.decode x)).isSome = true), ob (IntKind.i64.min ≤ toI x), ob (toI x ≤ IntKind.i64.max), ff, ff, ff, ff, ff, ob (z0 x = false), ff, ff, ob ((!leB x) = false), tt, tt, ob (geB x = true)], []⟩) (by kernel_rfl) (by simp only [AllP, h1, h2, h3, i1, m1, m2]; simp)
        simpa [partN, partOk, h1, h2, h3, outsOf] using this
      | true => cases h4 : ((x : Int) != 0) with
        | true =>
          have := inlineD_ok ok Try.mixed (bs := [true, false, true, true]) (g := 37) (args := fa x) (objs := [])
            (h := ⟨two 0 false, true, [ob (((x : Int) != 0) = true), ff, tt, tt, tt, ff, ob (z0 x = true), ff, ff, ob ((!leB x) = false), tt, tt, ob (geB x = true)], []⟩) (by kernel_rfl) (by simp only [AllP, h1, h2, h3, h4]; simp)
          simpa [partN, partOk, h1, h2, h3, h4, outsOf] using this
        | false =>
          have := inlineD_ok ok Try.mixed (bs := [true, false, true, false]) (g := 37) (args := fa x) (objs := [])
            (h := ⟨two (toI x) (eqI x), true, [ob ((Ieee.Datum.toInt Ieee.Toward.zero (FloatKind.f64.decode x)).isSome = true), ob (IntKind.i64.min ≤ toI x), ob (toI x ≤ IntKind.i64.max), ob (((x : Int) != 0) = false), ff, tt, tt, tt, ff, ob (z0 x = true), ff, ff, ob ((!leB x) = false), tt, tt, ob (geB x = true)], []⟩) (by kernel_rfl) (by simp only [AllP, h1, h2, h3, h4, i1, m1, m2]; simp)
          simpa [partN, partOk, h1, h2, h3, h4, outsOf] using this
end flt
end Go.Proofs.Ytjgddhjjcgndaaa
