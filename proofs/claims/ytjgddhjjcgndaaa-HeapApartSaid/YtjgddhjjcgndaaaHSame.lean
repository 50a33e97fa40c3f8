import Derived.Test.YtjgddhjjcgndaaaHPart
/- plain and part agree. -/
namespace Go.Proofs.Ytjgddhjjcgndaaa
open Go.AI
namespace flt
theorem zero_words {x : Nat} (hx : x < 2 ^ 64) (h : z0 x = true) : x = 0 ∨ x = 2 ^ 63 := by
  have h : Ieee.double.order x 0 = some .eq := by simpa [z0, ord, FloatKind.format] using h
  have e0 : Ieee.double.read 0 = .number false 0 (-1074) := by decide +kernel
  cases hd : Ieee.double.read x with
  | nan s t => simp [Ieee.Format.order, hd, Ieee.Datum.order] at h
  | infinity s => cases s <;> simp [Ieee.Format.order, hd, e0, Ieee.Datum.order] at h
  | number s m i =>
    simp only [Ieee.Format.order, hd, e0, Ieee.Datum.order, Option.some.injEq] at h
    have h := (Ieee.compare_eq_iff _ _).1 h
    have hm : m = 0 := by
      by_cases h0 : m = 0
      · exact h0
      · exfalso
        have hpos : 0 < m <<< (i - min i (-1074)).toNat := by rw [Nat.shiftLeft_eq]; exact Nat.mul_pos (by omega) (Nat.pow_pos (by decide))
        generalize m <<< (i - min i (-1074)).toNat = M at hpos h
        cases s <;> simp [Ieee.signed] at h <;> omega
    subst hm
    have hs : Ieee.double.signWeight = 2 ^ 63 := by decide
    have hb : Ieee.double.binade = 2 ^ 52 := rfl
    have hr : x % 2 ^ 63 = 0 := by
      unfold Ieee.Format.read at hd
      rw [hs, hb] at hd
      simp only at hd
      split at hd
      · injection hd
      · split at hd
        · injection hd with _ h1 _; omega
        · split at hd <;> cases hd
    omega

theorem plain_part {x : Nat} (hx : x < 2 ^ 64) : plainS x = partOk x := by
  unfold plainS partOk
  cases h1 : geB x with
  | false => rfl
  | true => cases h2 : leB x with
    | false => rfl
    | true =>
      obtain ⟨_, _, _, h3⟩ := toI_ok h1 h2
      rw [h3]
      have hz : nzB x = !z0 x := by simp [nzB, z0, bne]
      rw [hz]
      cases hz0 : z0 x with
      | false => cases eqI x <;> rfl
      | true =>
        rcases zero_words hx hz0 with rfl | rfl
        · have : sgB 0 = false := by decide +kernel
          rw [this]; cases eqI 0 <;> rfl
        · have : sgB (2 ^ 63) = true := by decide +kernel
          rw [this]; cases eqI (2 ^ 63) <;> decide +kernel
end flt
end Go.Proofs.Ytjgddhjjcgndaaa
