import GoSem.Core.Float
/- Whole numbers as floats: what is written is read again. -/
namespace Ieee
def same (a b : Datum) : Prop := ∀ d, a.order d = b.order d ∧ d.order a = d.order b

theorem signed_up (s : Bool) (m a k : Nat) : signed s m (a + k) = signed s m a * 2 ^ k := by
  unfold signed
  have e : m <<< (a + k) = (m <<< a) * 2 ^ k := by rw [Nat.shiftLeft_eq, Nat.shiftLeft_eq, Nat.pow_add, Nat.mul_assoc]
  cases s <;> simp [e, Int.neg_mul]

theorem compare_scale (a b : Int) (k : Nat) : compare (a * 2 ^ k) (b * 2 ^ k) = compare a b := by
  have hp : (0 : Int) < 2 ^ k := Int.pow_pos (by decide)
  simp only [compare, compareOfLessAndEq]
  have h1 : a * 2 ^ k < b * 2 ^ k ↔ a < b := ⟨fun h => Int.lt_of_mul_lt_mul_right h (Int.le_of_lt hp), fun h => Int.mul_lt_mul_of_pos_right h hp⟩
  have h2 : a * 2 ^ k = b * 2 ^ k ↔ a = b := ⟨fun h => Int.eq_of_mul_eq_mul_right (Int.ne_of_gt hp) h, fun h => by rw [h]⟩
  simp only [h1, h2]

theorem signed_scale (s : Bool) (q k a : Nat) : signed s (q <<< k) a = signed s q (k + a) := by
  unfold signed
  have e : (q <<< k) <<< a = q <<< (k + a) := by rw [Nat.shiftLeft_eq, Nat.shiftLeft_eq, Nat.shiftLeft_eq, Nat.pow_add, Nat.mul_assoc]
  simp [e]

/-- A number told by a lower place. -/
theorem same_shift (s : Bool) (q k : Nat) (p : Int) : same (.number s (q <<< k) (p - k)) (.number s q p) := by
  intro d
  cases d with
  | nan => exact ⟨rfl, rfl⟩
  | infinity t => exact ⟨rfl, rfl⟩
  | number t n j =>
    have key : ∀ base : Int, base ≤ p - k → base ≤ j → ∃ c : Nat, (min p j - base).toNat = c ∧ (p - k - base).toNat + k = (p - min p j).toNat + c ∧ (j - base).toNat = (j - min p j).toNat + c := by
      intro base h1 h2
      refine ⟨_, rfl, ?_, ?_⟩ <;> omega
    obtain ⟨c, _, h2, h3⟩ := key (min (p - k) j) (by omega) (by omega)
    simp only [Datum.order]
    have e1 : signed s (q <<< k) (p - k - min (p - k) j).toNat = signed s q (p - min p j).toNat * 2 ^ c := by
      rw [signed_scale, Nat.add_comm, h2, signed_up]
    have e2 : signed t n (j - min (p - k) j).toNat = signed t n (j - min p j).toNat * 2 ^ c := by
      rw [h3, signed_up]
    rw [Int.min_comm j (p - k), Int.min_comm j p, e1, e2, compare_scale, compare_scale]
    exact ⟨rfl, rfl⟩

theorem cut_zero (neg : Bool) (n : Nat) : Toward.even.cut neg n 0 = n := by
  simp [Toward.cut, Nat.mod_one]

set_option maxRecDepth 20000 in
theorem read_write {s : Bool} {q : Nat} (hq : q < 2 ^ 53) : same (double.read (double.write (.number s q 0))) (.number s q 0) := by
  by_cases h0 : q = 0
  · subst h0
    have e : double.read (double.write (.number s 0 0)) = .number s 0 (-1074) := by cases s <;> decide +kernel
    rw [e]
    have := same_shift s 0 1074 0
    simpa using this
  · have hlog : q.log2 ≤ 52 := by
      have := (Nat.log2_lt h0).2 hq
      omega
    have h1 : 2 ^ q.log2 ≤ q := Nat.log2_self_le h0
    have h2 : q < 2 ^ (q.log2 + 1) := Nat.lt_log2_self
    obtain ⟨k, hk⟩ : ∃ k, q.log2 + k = 52 := ⟨52 - q.log2, by omega⟩
    have hM : q <<< k = q * 2 ^ k := Nat.shiftLeft_eq _ _
    have hM1 : 2 ^ 52 ≤ q <<< k := by rw [hM, ← hk, Nat.pow_add]; exact Nat.mul_le_mul_right _ h1
    have hM2 : q <<< k < 2 ^ 53 := by
      rw [hM, show (53 : Nat) = q.log2 + 1 + k by omega, Nat.pow_add]
      exact Nat.mul_lt_mul_of_pos_right h2 (Nat.pow_pos (by decide))
    generalize hMe : q <<< k = M at hM1 hM2
    clear hM
    have hw : double.write (.number s q 0) = double.word s ((q.log2 + 1022) * 2 ^ 52 + M) := by
      simp only [Format.write, Format.nearest, if_neg h0]
      have e1 : max ((0 : Int) + (q.log2 : Int) - (double.fractionBits : Nat)) double.leastPlace = (q.log2 : Int) - 52 := by
        have : double.leastPlace = -1074 := by decide
        have : double.fractionBits = 52 := rfl
        omega
      rw [e1]
      have e2 : ((0 : Int) - ((q.log2 : Int) - 52)).toNat = k := by omega
      have e3 : (((q.log2 : Int) - 52) - 0).toNat = 0 := by omega
      rw [e2, e3, cut_zero, hMe]
      have e4 : (((q.log2 : Int) - 52) - double.leastPlace).toNat = q.log2 + 1022 := by
        have : double.leastPlace = -1074 := by decide
        omega
      rw [e4]
      have e5 : double.binade = 2 ^ 52 := rfl
      have e6 : double.infRung = 2047 * 2 ^ 52 := by decide
      have e7 : (q.log2 + 1022) * 2 ^ 52 + M ≤ 2047 * 2 ^ 52 := by
        have h3 := Nat.mul_le_mul_right (2 ^ 52) (show q.log2 + 1022 ≤ 1074 by omega)
        exact Nat.le_trans (Nat.add_le_add h3 (Nat.le_of_lt hM2)) (Nat.le_of_ble_eq_true rfl)
      rw [e5, e6, Nat.min_eq_left e7]
    rw [hw]
    generalize hR : (q.log2 + 1022) * 2 ^ 52 + M = R
    have hR1 : R < 2047 * 2 ^ 52 := by
      have := Nat.mul_le_mul_right (2 ^ 52) (show q.log2 + 1022 ≤ 1074 by omega)
      omega
    have hsw : double.signWeight = 2 ^ 63 := by decide
    have hb : double.binade = 2 ^ 52 := rfl
    have hi : double.infRung = 2047 * 2 ^ 52 := by decide
    have hl : double.leastPlace = -1074 := by decide
    have hword : double.word s R = (if s then 2 ^ 63 else 0) + R := by unfold Format.word; rw [hsw]; cases s <;> simp
    have hread : double.read (double.word s R) = .number s (M) ((0 : Int) - k) := by
      unfold Format.read
      rw [hword, hsw, hb, hi, hl]
      have hneg : (((if s then 2 ^ 63 else 0) + R) / 2 ^ 63 % 2 == 1) = s := by
        cases s
        · simp only [Bool.false_eq_true, if_false, Nat.zero_add]
          rw [Nat.div_eq_of_lt (by omega)]; rfl
        · simp only [if_true]
          rw [Nat.add_comm, Nat.add_div_right _ (by decide), Nat.div_eq_of_lt (by omega)]; rfl
      have hrung : ((if s then 2 ^ 63 else 0) + R) % 2 ^ 63 = R := by
        cases s
        · simp only [Bool.false_eq_true, if_false, Nat.zero_add]; exact Nat.mod_eq_of_lt (by omega)
        · simp only [if_true]; rw [Nat.add_mod_left]; exact Nat.mod_eq_of_lt (by omega)
      simp only [hneg, hrung]
      have hdiv : R / 2 ^ 52 = q.log2 + 1023 := by omega
      have hmod : R % 2 ^ 52 = M - 2 ^ 52 := by omega
      rw [if_neg (by omega), if_pos hR1, hdiv, hmod]
      have a1 : 2 ^ 52 + (M - 2 ^ 52) = M := by omega
      have a2 : (-1074 : Int) + ((q.log2 + 1023 - 1 : Nat) : Int) = 0 - (k : Int) := by omega
      rw [a1, a2]
    rw [hread]
    rw [← hMe]
    exact same_shift s q k 0
end Ieee
