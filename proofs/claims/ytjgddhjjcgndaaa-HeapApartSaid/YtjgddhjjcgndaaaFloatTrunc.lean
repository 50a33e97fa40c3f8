import Derived.Test.YtjgddhjjcgndaaaFloatInt
/- A float within a bound: cut to a whole one, or turned into an integer and back: equal to itself or not, alike. -/
namespace Ieee

theorem compare_eq_iff (a b : Int) : compare a b = .eq ↔ a = b := by
  simp only [compare, compareOfLessAndEq]
  by_cases h : a < b
  · simp [h]; omega
  · by_cases h2 : a = b
    · simp [h2]
    · simp [h, h2]

theorem same_neg (s : Bool) (q : Nat) : same (.number (decide (signed s q 0 < 0)) (signed s q 0).natAbs 0) (.number s q 0) := by
  have key : ∀ up, signed (decide (signed s q 0 < 0)) (signed s q 0).natAbs up = signed s q up := by
    intro up
    cases s with
    | false => simp [signed]; omega
    | true =>
      by_cases h : q = 0
      · subst h; simp [signed]
      · have h0 : (signed true q 0 < 0) := by simp [signed]; omega
        have h1 : (signed true q 0).natAbs = q := by simp [signed]
        rw [h1, decide_eq_true h0]
  intro d
  cases d with
  | nan => exact ⟨rfl, rfl⟩
  | infinity t => exact ⟨rfl, rfl⟩
  | number t n j => simp only [Datum.order, key]; exact ⟨trivial, trivial⟩

/-- q: what is left of a number that is cut towards zero. -/
theorem cut_bound {N : Nat} {s : Bool} {m : Nat} {i : Int} (h : m * 2 ^ (i + N).toNat ≤ 2 ^ 24 * 2 ^ N) (hi : -(N : Int) ≤ i) : Toward.zero.cut s (m <<< i.toNat) (-i).toNat ≤ 2 ^ 24 := by
  simp only [Toward.cut, Bool.toNat_false, Nat.add_zero]
  rw [Nat.shiftLeft_eq, Nat.shiftLeft_eq, Nat.one_mul]
  rcases Int.lt_or_le i 0 with hn | hp
  · have e0 : i.toNat = 0 := by omega
    rw [e0, Nat.pow_zero, Nat.mul_one]
    obtain ⟨k, hk⟩ : ∃ k : Nat, (-i).toNat = k ∧ (i + N).toNat + k = N := ⟨(-i).toNat, rfl, by omega⟩
    rw [hk.1]
    rcases Nat.le_total k (m.log2 + 2) with h1 | h1
    · rw [Nat.min_eq_left h1]
      apply Nat.div_le_of_le_mul
      have : m * 2 ^ (i + N).toNat ≤ (2 ^ k * 2 ^ 24) * 2 ^ (i + N).toNat := by
        refine Nat.le_trans h ?_
        have e : 2 ^ N = 2 ^ (i + N).toNat * 2 ^ k := by rw [← Nat.pow_add, hk.2]
        rw [e, ← Nat.mul_assoc, Nat.mul_comm (2 ^ 24 * 2 ^ (i + (N : Int)).toNat) (2 ^ k), Nat.mul_assoc]
        exact Nat.le_refl _
      exact Nat.le_of_mul_le_mul_right this (Nat.pow_pos (by decide))
    · rw [Nat.min_eq_right h1]
      have : m / 2 ^ (m.log2 + 2) = 0 := Nat.div_eq_of_lt (Nat.lt_trans Nat.lt_log2_self (Nat.pow_lt_pow_right (by decide) (by omega)))
      rw [this]; exact Nat.zero_le _
  · have e0 : (-i).toNat = 0 := by omega
    rw [e0, Nat.zero_min, Nat.pow_zero, Nat.div_one]
    have : m * 2 ^ i.toNat * 2 ^ N ≤ 2 ^ 24 * 2 ^ N := by
      rw [Nat.mul_assoc, ← Nat.pow_add, show i.toNat + N = (i + N).toNat by omega]
      exact h
    exact Nat.le_of_mul_le_mul_right this (Nat.pow_pos (by decide))

theorem read_place {x : Nat} {s : Bool} {m : Nat} {i : Int} (h : double.read x = .number s m i) : -1074 ≤ i := by
  have hl : double.leastPlace = -1074 := by decide
  unfold Format.read at h
  simp only at h
  split at h
  · injection h with _ _ h; omega
  · split at h
    · injection h with _ _ h; omega
    · split at h <;> cases h

theorem compare_le {a b : Int} (h : compare a b = .lt ∨ compare a b = .eq) : a ≤ b := by
  simp only [compare, compareOfLessAndEq] at h
  by_cases h1 : a < b
  · omega
  · by_cases h2 : a = b
    · omega
    · simp [h1, h2] at h

theorem mag_bound {m : Nat} {i base : Int} {N : Nat} (hN : (N : Int) = 1074) (h : m * 2 ^ (i - base).toNat ≤ 2 ^ 52 * 2 ^ (-28 - base).toNat) (hb : base = min i (-28)) (hi : -1074 ≤ i) : m * 2 ^ (i + N).toNat ≤ 2 ^ 24 * 2 ^ N := by
  obtain ⟨k, hk⟩ : ∃ k : Nat, base + N = k := ⟨(base + N).toNat, by omega⟩
  have e1 : (i + N).toNat = (i - base).toNat + k := by omega
  have e2 : N + 24 = 52 + (-28 - base).toNat + k := by omega
  have h2 := Nat.mul_le_mul_right (2 ^ k) h
  have e3 : m * 2 ^ (i - base).toNat * 2 ^ k = m * 2 ^ (i + N).toNat := by rw [e1, Nat.pow_add, Nat.mul_assoc]
  have e4 : 2 ^ 52 * 2 ^ (-28 - base).toNat * 2 ^ k = 2 ^ 24 * 2 ^ N := by
    rw [← Nat.pow_add, ← Nat.pow_add, ← e2, Nat.pow_add, Nat.mul_comm]
  rw [e3, e4] at h2
  exact h2

def most : Nat := 4715268809856909312
def least : Nat := 13938640846711685120

theorem within {x : Nat} {s : Bool} {m : Nat} {i : Int} (hd : double.read x = .number s m i) (h1 : double.order x least = some .gt ∨ double.order x least = some .eq) (h2 : double.order x most = some .lt ∨ double.order x most = some .eq) :
    Toward.zero.cut s (m <<< i.toNat) (-i).toNat ≤ 2 ^ 24 := by
  have hi := read_place hd
  have e1 : double.read most = .number false (2 ^ 52) (-28) := by decide +kernel
  have e2 : double.read least = .number true (2 ^ 52) (-28) := by decide +kernel
  simp only [Format.order, hd, e1, Datum.order, Option.some.injEq] at h2
  simp only [Format.order, hd, e2, Datum.order, Option.some.injEq] at h1
  obtain ⟨N, hN⟩ : ∃ N : Nat, (N : Int) = 1074 := ⟨1074, rfl⟩
  refine cut_bound (N := N) (mag_bound (base := min i (-28)) hN ?_ rfl hi) (by omega)
  cases s with
  | false =>
    have := compare_le h2
    simp only [signed, Bool.false_eq_true, if_false, Nat.shiftLeft_eq] at this
    exact Int.ofNat_le.1 this
  | true =>
    have h3 : signed true (2 ^ 52) (-28 - min i (-28)).toNat ≤ signed true m (i - min i (-28)).toNat := by
      generalize signed true (2 ^ 52) (-28 - min i (-28)).toNat = b at h1 ⊢
      generalize signed true m (i - min i (-28)).toNat = a at h1 ⊢
      simp only [compare, compareOfLessAndEq] at h1
      by_cases h4 : a < b
      · simp [h4] at h1
      · omega
    simp only [signed, if_true, Nat.shiftLeft_eq] at h3
    exact Int.ofNat_le.1 (Int.le_of_neg_le_neg h3)

theorem order_eq_comm (a b : Datum) : (a.order b == some .eq) = (b.order a == some .eq) := by
  cases a <;> cases b <;> first
    | rfl
    | (simp only [Datum.order]; rename_i s t; cases s <;> cases t <;> rfl)
    | (simp only [Datum.order]; rename_i s _ _ _; cases s <;> rfl)
    | (simp only [Datum.order]; rename_i s; cases s <;> rfl)
    | skip
  rename_i s m i t n j
  simp only [Datum.order, Int.min_comm j i]
  generalize signed s m _ = a
  generalize signed t n _ = b
  have h1 := compare_eq_iff a b
  have h2 := compare_eq_iff b a
  by_cases h : a = b
  · rw [h1.2 h, h2.2 h.symm]
  · have h3 : ¬ compare a b = .eq := fun e => h (h1.1 e)
    have h4 : ¬ compare b a = .eq := fun e => h (h2.1 e).symm
    revert h3 h4
    generalize compare a b = o
    generalize compare b a = o'
    cases o <;> cases o' <;> simp

/-- **Cut, or turned into an integer and back: equal to itself alike.** -/
theorem trunc_iff {x : Nat} {s : Bool} {m : Nat} {i : Int} (hd : double.read x = .number s m i) (h1 : double.order x least = some .gt ∨ double.order x least = some .eq) (h2 : double.order x most = some .lt ∨ double.order x most = some .eq) (n : Int)
    (hn : n = signed s (Toward.zero.cut s (m <<< i.toNat) (-i).toNat) 0) :
    (double.order x (double.write ((double.read x).integral .zero)) == some .eq) = (double.order (double.write (.number (decide (n < 0)) n.natAbs 0)) x == some .eq) := by
  have hq := within hd h1 h2
  generalize hqq : Toward.zero.cut s (m <<< i.toNat) (-i).toNat = q at hq hn
  have hlt : q < 2 ^ 53 := Nat.lt_of_le_of_lt hq (by decide)
  have hn' : n.natAbs < 2 ^ 53 := by
    have : n.natAbs = q := by rw [hn]; cases s <;> simp [signed]
    omega
  have e1 : (double.read x).integral .zero = .number s q 0 := by rw [hd]; simp only [Datum.integral, hqq]
  unfold Format.order
  rw [e1, ((read_write hlt) _).2, ((read_write hn') _).1, hn, ((same_neg s q) _).1, order_eq_comm]
end Ieee
