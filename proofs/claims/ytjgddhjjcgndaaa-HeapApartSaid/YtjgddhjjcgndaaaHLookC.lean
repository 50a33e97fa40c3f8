import Derived.Test.YtjgddhjjcgndaaaHLook
import Derived.Test.YtjgddhjjcgndaaaHCellEq
/- Look and Parts: what they answer. A hook that knows Look, Parts, cell, alike, C and into, at one state of the two heaps. -/
set_option linter.unusedVariables false
set_option linter.unusedSimpArgs false
namespace Go.Proofs.Ytjgddhjjcgndaaa
open Go.AI
set_option maxRecDepth 100000
namespace flt
def zC : Cl := ⟨0, 0, 0, false, 0⟩
def zN : Nd := ⟨0, 0, zC⟩
def nA (x : Nd) : List AV := vi x.st :: vi x.tag :: cA x.c
def inB (n : Nat) (l : Int) : Bool := !(decide (l < 0)) && !(decide (l ≥ (n : Int)))
def lookN (ns : Nat → Nd) (n : Nat) (l : Int) : Nd := bif inB n l then ns (0 + l.toNat) else zN
def partsN (ps : Nat → Cl × Cl) (n : Nat) (l : Int) : Cl × Cl := bif inB n l then ps (0 + l.toNat) else (zC, zC)
def lookE (n : Nat) (l : Int) : Int := bif inB n l then 0 else 2
theorem inB_lo {n : Nat} {l : Int} (h : decide (l < 0) = true) : inB n l = false := by simp [inB, h]
theorem inB_hi {n : Nat} {l : Int} (h : decide (l ≥ (n : Int)) = true) : inB n l = false := by simp [inB, h]
theorem inB_in {n : Nat} {l : Int} (h : decide (l < 0) = false) (h' : decide (l ≥ (n : Int)) = false) : inB n l = true ∧ 0 + l.toNat < n ∧ 0 ≤ l ∧ l < (n : Int) := by
  have h1 := of_decide_eq_false h
  have h2 := of_decide_eq_false h'
  exact ⟨by simp only [inB, h, h']; rfl, by omega, by omega, by omega⟩
theorem inB_pos {n : Nat} {l : Int} (h : inB n l = true) : 0 < n := by
  simp [inB] at h; omega
section
variable {sn sp : Bool} {vn vp n p : Nat} {ns : Nat → Nd} {ps : Nat → Cl × Cl} {t u : Int}
theorem look_p (hn : sn = false → n = 0) (hp : sp = false → p = 0) (l : Int) : Contract Try.prog 13 [.ptr 0 0, vi l] (hObj 68 82 sn sp vn vp n p ns ps t u) (.tup [.agg (nA (lookN ns n l)), vi (lookE n l)]) (hObj 68 82 sn sp vn vp n p ns ps t u) := by
  unfold lookN lookE
  cases h1 : decide (l < 0) with
  | true => rw [inB_lo h1]; exact look_p_out_0 l vn vp n p ns ps t u hn hp h1
  | false => cases h2 : decide (l ≥ (n : Int)) with
    | true => rw [inB_hi h2]; exact look_p_out_1 l vn vp n p ns ps t u hn hp h2 h1
    | false =>
      obtain ⟨h3, h4, h5, h6⟩ := inB_in h1 h2
      cases sn with
      | false => have := hn rfl; omega
      | true => rw [h3]; exact look_p_in_2 l vn vp n p ns ps t u hp rfl h4 h5 h6 h2 h1
theorem parts_p (hn : sn = false → n = 0) (hp : sp = false → p = 0) (l : Int) : Contract Try.prog 14 [.ptr 0 0, vi l] (hObj 68 82 sn sp vn vp n p ns ps t u) (.tup [.agg (cA (partsN ps p l).1), .agg (cA (partsN ps p l).2), vi (lookE p l)]) (hObj 68 82 sn sp vn vp n p ns ps t u) := by
  unfold partsN lookE
  cases h1 : decide (l < 0) with
  | true => rw [inB_lo h1]; exact parts_p_out_0 l vn vp n p ns ps t u hn hp h1
  | false => cases h2 : decide (l ≥ (p : Int)) with
    | true => rw [inB_hi h2]; exact parts_p_out_1 l vn vp n p ns ps t u hn hp h2 h1
    | false =>
      obtain ⟨h3, h4, h5, h6⟩ := inB_in h1 h2
      cases sp with
      | false => have := hp rfl; omega
      | true => rw [h3]; exact parts_p_in_2 l vn vp n p ns ps t u hn rfl h4 h5 h6 rfl h4 h5 h6 h2 h1
theorem look_d (hn : sn = false → n = 0) (hp : sp = false → p = 0) (l : Int) : Contract Try.prog 24 [.ptr 0 0, vi l] (hObj 32 76 sn sp vn vp n p ns ps t u) (.tup [.agg (nA (lookN ns n l)), vi (lookE n l)]) (hObj 32 76 sn sp vn vp n p ns ps t u) := by
  unfold lookN lookE
  cases h1 : decide (l < 0) with
  | true => rw [inB_lo h1]; exact look_d_out_0 l vn vp n p ns ps t u hn hp h1
  | false => cases h2 : decide (l ≥ (n : Int)) with
    | true => rw [inB_hi h2]; exact look_d_out_1 l vn vp n p ns ps t u hn hp h2 h1
    | false =>
      obtain ⟨h3, h4, h5, h6⟩ := inB_in h1 h2
      cases sn with
      | false => have := hn rfl; omega
      | true => rw [h3]; exact look_d_in_2 l vn vp n p ns ps t u hp rfl h4 h5 h6 h2 h1
theorem parts_d (hn : sn = false → n = 0) (hp : sp = false → p = 0) (l : Int) : Contract Try.prog 25 [.ptr 0 0, vi l] (hObj 32 76 sn sp vn vp n p ns ps t u) (.tup [.agg (cA (partsN ps p l).1 ++ cA (partsN ps p l).2), vi (lookE p l)]) (hObj 32 76 sn sp vn vp n p ns ps t u) := by
  unfold partsN lookE
  cases h1 : decide (l < 0) with
  | true => rw [inB_lo h1]; exact parts_d_out_0 l vn vp n p ns ps t u hn hp h1
  | false => cases h2 : decide (l ≥ (p : Int)) with
    | true => rw [inB_hi h2]; exact parts_d_out_1 l vn vp n p ns ps t u hn hp h2 h1
    | false =>
      obtain ⟨h3, h4, h5, h6⟩ := inB_in h1 h2
      cases sp with
      | false => have := hp rfl; omega
      | true => rw [h3]; exact parts_d_in_2 l vn vp n p ns ps t u hn rfl h4 h5 h6  h2 h1
end

def eqC (a b : Cl) : Bool := FloatKind.f64.format.order a.re b.re == some Ordering.eq && FloatKind.f64.format.order a.im b.im == some Ordering.eq
def sameS (a b : Cl) : Bool := (a.kind == b.kind) && (eqC a b && ((a.b == b.b) && (a.loc == b.loc)))
def alikeS (a b : Nd) : Bool := (a.st == b.st) && ((a.tag == b.tag) && sameS a.c b.c)
theorem same_contract (a b : Cl) : Contract Try.prog 19 [.agg (cA a), .agg (cA b)] [] (vb (sameS a b)) [] := by
  unfold sameS
  cases h1 : (a.kind == b.kind) with
  | false => exact same_3 a b h1
  | true => cases h2 : eqC a b with
    | false => exact same_2 a b h2 h1
    | true => cases h3 : (a.b == b.b) with
      | false => exact same_1 a b h3 h2 h1
      | true => exact same_0 a b h3 h2 h1
def cellC (k l re im : Int) (raw b : Bool) : Cl := ⟨k, match raw with | true => (IntKind.u64.wrap re).toNat | false => FloatKind.f64.nearest re, match raw with | true => (IntKind.u64.wrap im).toNat | false => FloatKind.f64.nearest im, b, l⟩
theorem c_contract (k l re im : Int) (raw b : Bool) : Contract Try.prog 12 [cellIn k l re im raw b] [] (.agg (cA (cellC k l re im raw b))) [] := by
  cases raw with
  | true => exact ctrue_0 k l re im b
  | false => exact cfalse_0 k l re im b
end flt
end Go.Proofs.Ytjgddhjjcgndaaa
