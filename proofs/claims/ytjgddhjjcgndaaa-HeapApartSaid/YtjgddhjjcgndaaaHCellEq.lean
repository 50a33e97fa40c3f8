import Derived.Test.YtjgddhjjcgndaaaHCells
/- The program's cell and the document's are the same. -/
set_option linter.unusedSimpArgs false
namespace Go.Proofs.Ytjgddhjjcgndaaa
open Go.AI
set_option maxRecDepth 100000
namespace flt
theorem toI_zero : toI 0 = 0 := by decide +kernel
theorem toI_mzero : toI (2 ^ 63) = 0 := by decide +kernel
theorem z0_partN {x : Nat} (hx : x < 2 ^ 64) (h : partOk x = true) : z0 x = (partN x == 0) := by
  have h' := h
  unfold partOk at h
  simp only [Bool.and_eq_true] at h
  obtain ⟨⟨⟨g1, g2⟩, g3⟩, g4⟩ := h
  have e : partN x = toI x := by unfold partN; rw [g1, g2, g3]; rfl
  rw [e]
  cases hz : z0 x with
  | true =>
    rcases zero_words hx hz with rfl | rfl
    · rw [toI_zero]; rfl
    · rw [toI_mzero]; rfl
  | false =>
    cases ht : (toI x == 0) with
    | false => rfl
    | true =>
      have ht : toI x = 0 := by simpa using ht
      exfalso
      unfold eqI at g4
      rw [ht] at g4
      have e0 : FloatKind.f64.nearest 0 = 0 := by decide +kernel
      rw [e0] at g4
      have : (ord 0 x == some Ordering.eq) = (ord x 0 == some Ordering.eq) := by
        unfold ord FloatKind.format Ieee.Format.order
        exact Ieee.order_eq_comm _ _
      rw [this] at g4
      unfold z0 at hz
      rw [hz] at g4
      cases g4
theorem zero_eq {re im : Nat} (h1 : re < 2 ^ 64) (h2 : im < 2 ^ 64) : zeroS re im = ((plainS re && plainS im) && Zc re im) := by
  rw [plain_part h1, plain_part h2]
  unfold zeroS
  cases g1 : partOk re with
  | false => rfl
  | true => cases g2 : partOk im with
    | false => rfl
    | true =>
      have e : Zc re im = (z0 re && z0 im) := rfl
      rw [e, z0_partN h1 g1, z0_partN h2 g2]
      simp
theorem cell_eq {n p : Nat} {c : Cl} (h1 : c.re < 2 ^ 64) (h2 : c.im < 2 ^ 64) : cellR n p c = cellS n p c := by
  have e01 : (c.loc == 0) = (decide (c.loc ≥ 0) && decide (c.loc < 1)) := by
    rw [← Bool.decide_and, show (c.loc == 0) = decide (c.loc = 0) from rfl]
    exact decide_eq_decide.2 ⟨fun h => by omega, fun h => by omega⟩
  unfold cellR cellS
  rw [plain_part h1, plain_part h2, zero_eq h1 h2, plain_part h1, plain_part h2]
  split
  · rfl
  split
  · rw [e01]; simp only [Bool.and_assoc]
  split
  · rw [e01]; simp only [Bool.and_assoc]
  · rfl
/-- A cell that a heap takes is equal to itself. -/
theorem cell_self {n p : Nat} {c : Cl} (h : cellS n p c = true) : (FloatKind.f64.format.order c.re c.re == some Ordering.eq && FloatKind.f64.format.order c.im c.im == some Ordering.eq) = true := by
  have hv : (plainS c.re && plainS c.im) = true := by
    unfold cellS at h
    split at h
    · simp only [Bool.and_eq_true] at h ⊢; exact h.1.1
    split at h
    · simp only [Bool.and_eq_true] at h ⊢; exact h.1.1.1
    split at h
    · simp only [Bool.and_eq_true] at h ⊢; exact h.1.1.1.1
    split at h
    · simp only [Bool.and_eq_true] at h ⊢; exact h.1.1.1.1
    split at h
    · simp only [Bool.and_eq_true] at h ⊢; exact h.1.1.1.1
    · cases h
  simp only [Bool.and_eq_true] at hv
  have key : ∀ x, plainS x = true → (FloatKind.f64.format.order x x == some Ordering.eq) = true := by
    intro x hx
    unfold plainS at hx
    simp only [Bool.and_eq_true] at hx
    obtain ⟨s, m, i, hd, _, _⟩ := number_of hx.1.1.1 hx.1.1.2
    have hd' : FloatKind.f64.format.read x = .number s m i := hd
    unfold Ieee.Format.order
    rw [hd']
    simp only [Ieee.Datum.order]
    have := (Ieee.compare_eq_iff (Ieee.signed s m (i - min i i).toNat) (Ieee.signed s m (i - min i i).toNat)).2 rfl
    rw [this]; rfl
  rw [key _ hv.1, key _ hv.2]; rfl
end flt
end Go.Proofs.Ytjgddhjjcgndaaa
