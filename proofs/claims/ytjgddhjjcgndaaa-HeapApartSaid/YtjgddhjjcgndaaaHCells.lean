import Derived.Test.YtjgddhjjcgndaaaHCell
/- A heap's cells: what the program and the document say of them, and that they say the same. Printed by gen/cells.py. -/
set_option linter.unusedVariables false
set_option linter.unusedSimpArgs false
namespace Go.Proofs.Ytjgddhjjcgndaaa
open Go.AI
set_option maxRecDepth 100000
namespace flt
def cellS (n p : Nat) (c : Cl) : Bool :=
  if c.kind = 1 then (plainS c.re && plainS c.im) && !c.b && (c.loc == 0)
  else if c.kind = 2 then (plainS c.re && plainS c.im) && Zc c.re c.im && decide (c.loc ≥ 0) && decide (c.loc < 1)
  else if c.kind = 3 then (plainS c.re && plainS c.im) && Zc c.re c.im && !c.b && decide (c.loc ≥ 0) && decide (c.loc < 1)
  else if c.kind = 4 then (plainS c.re && plainS c.im) && Zc c.re c.im && !c.b && decide (c.loc ≥ 0) && decide (c.loc < (p : Int))
  else if c.kind = 5 then (plainS c.re && plainS c.im) && Zc c.re c.im && !c.b && decide (c.loc ≥ 0) && decide (c.loc < (n : Int))
  else false
def cellR (n p : Nat) (c : Cl) : Bool :=
  if c.kind = 1 then (partOk c.re && partOk c.im) && !c.b && (c.loc == 0)
  else if c.kind = 2 then zeroS c.re c.im && (c.loc == 0)
  else if c.kind = 3 then zeroS c.re c.im && !c.b && (c.loc == 0)
  else if c.kind = 4 then zeroS c.re c.im && !c.b && decide (c.loc ≥ 0) && decide (c.loc < (p : Int))
  else if c.kind = 5 then zeroS c.re c.im && !c.b && decide (c.loc ≥ 0) && decide (c.loc < (n : Int))
  else false
section
variable {sn sp : Bool} {vn vp n p : Nat} {ns : Nat → Nd} {ps : Nat → Cl × Cl} {t u : Int}

theorem cell_contract (hn : sn = false → n = 0) (hp : sp = false → p = 0) (c : Cl) : Contract Try.prog 29 [.ptr 0 0, .agg (cA c)] (hObj 68 82 sn sp vn vp n p ns ps t u) (vb (cellS n p c)) (hObj 68 82 sn sp vn vp n p ns ps t u) := by
  obtain ⟨k, re, im, b, l⟩ := c
  by_cases k1 : k = 1
  · subst k1
    cases hV : (plainS re && plainS im) with
    | false =>
      have e : cellS n p ⟨1, re, im, b, l⟩ = false := by simp [cellS, hV]
      rw [e]
      exact cell_1fb_0 re im l b  vn vp n p ns ps t u hn hp (by assumption)
    | true => cases b with
      | true =>
        have e : cellS n p ⟨1, re, im, true, l⟩ = false := by simp [cellS, hV]
        rw [e]
        exact cell_1tt_0 re im l  vn vp n p ns ps t u hn hp (by assumption)
      | false =>
        have e : cellS n p ⟨1, re, im, false, l⟩ = (l == 0) := by simp [cellS, hV]
        rw [e]
        exact cell_1tf_0 re im l  vn vp n p ns ps t u hn hp (by assumption)
  by_cases k2 : k = 2
  · subst k2
    cases hV : (plainS re && plainS im) with
    | false =>
      have e : cellS n p ⟨2, re, im, b, l⟩ = false := by simp [cellS, hV]
      rw [e]
      exact cell_2fb_0 re im l b  vn vp n p ns ps t u hn hp (by assumption)
    | true => cases b with
      | true =>
        cases hZ : Zc re im with
        | false =>
          have hZ : (FloatKind.f64.format.order re 0 == some Ordering.eq && FloatKind.f64.format.order im 0 == some Ordering.eq) = false := hZ
          have e : cellS n p ⟨2, re, im, true, l⟩ = false := by simp [cellS, hV, Zc, hZ]
          rw [e]
          exact cell_2tt_2 re im l  vn vp n p ns ps t u hn hp (by assumption) (by assumption)
        | true =>
          have hZ : (FloatKind.f64.format.order re 0 == some Ordering.eq && FloatKind.f64.format.order im 0 == some Ordering.eq) = true := hZ
          cases hL : decide (l ≥ 0) with
          | false =>
            have e : cellS n p ⟨2, re, im, true, l⟩ = false := by simp [cellS, hV, Zc, hZ, hL]
            rw [e]
            exact cell_2tt_1 re im l  vn vp n p ns ps t u hn hp (by assumption) (by assumption) (by assumption)
          | true =>
            have e : cellS n p ⟨2, re, im, true, l⟩ = decide (l < 1) := by simp [cellS, hV, Zc, hZ, hL]
            rw [e]
            exact cell_2tt_0 re im l  vn vp n p ns ps t u hn hp (by assumption) (by assumption) (by assumption)
      | false =>
        cases hZ : Zc re im with
        | false =>
          have hZ : (FloatKind.f64.format.order re 0 == some Ordering.eq && FloatKind.f64.format.order im 0 == some Ordering.eq) = false := hZ
          have e : cellS n p ⟨2, re, im, false, l⟩ = false := by simp [cellS, hV, Zc, hZ]
          rw [e]
          exact cell_2tf_2 re im l  vn vp n p ns ps t u hn hp (by assumption) (by assumption)
        | true =>
          have hZ : (FloatKind.f64.format.order re 0 == some Ordering.eq && FloatKind.f64.format.order im 0 == some Ordering.eq) = true := hZ
          cases hL : decide (l ≥ 0) with
          | false =>
            have e : cellS n p ⟨2, re, im, false, l⟩ = false := by simp [cellS, hV, Zc, hZ, hL]
            rw [e]
            exact cell_2tf_1 re im l  vn vp n p ns ps t u hn hp (by assumption) (by assumption) (by assumption)
          | true =>
            have e : cellS n p ⟨2, re, im, false, l⟩ = decide (l < 1) := by simp [cellS, hV, Zc, hZ, hL]
            rw [e]
            exact cell_2tf_0 re im l  vn vp n p ns ps t u hn hp (by assumption) (by assumption) (by assumption)
  by_cases k3 : k = 3
  · subst k3
    cases hV : (plainS re && plainS im) with
    | false =>
      have e : cellS n p ⟨3, re, im, b, l⟩ = false := by simp [cellS, hV]
      rw [e]
      exact cell_3fb_0 re im l b  vn vp n p ns ps t u hn hp (by assumption)
    | true => cases b with
      | true =>
        cases hZ : Zc re im with
        | false =>
          have hZ : (FloatKind.f64.format.order re 0 == some Ordering.eq && FloatKind.f64.format.order im 0 == some Ordering.eq) = false := hZ
          have e : cellS n p ⟨3, re, im, true, l⟩ = false := by simp [cellS, hV, Zc, hZ]
          rw [e]
          exact cell_3tt_1 re im l  vn vp n p ns ps t u hn hp (by assumption) (by assumption)
        | true =>
          have hZ : (FloatKind.f64.format.order re 0 == some Ordering.eq && FloatKind.f64.format.order im 0 == some Ordering.eq) = true := hZ
          have e : cellS n p ⟨3, re, im, true, l⟩ = false := by simp [cellS, hV, Zc, hZ]
          rw [e]
          exact cell_3tt_0 re im l  vn vp n p ns ps t u hn hp (by assumption) (by assumption)
      | false =>
        cases hZ : Zc re im with
        | false =>
          have hZ : (FloatKind.f64.format.order re 0 == some Ordering.eq && FloatKind.f64.format.order im 0 == some Ordering.eq) = false := hZ
          have e : cellS n p ⟨3, re, im, false, l⟩ = false := by simp [cellS, hV, Zc, hZ]
          rw [e]
          exact cell_3tf_2 re im l  vn vp n p ns ps t u hn hp (by assumption) (by assumption)
        | true =>
          have hZ : (FloatKind.f64.format.order re 0 == some Ordering.eq && FloatKind.f64.format.order im 0 == some Ordering.eq) = true := hZ
          cases hL : decide (l ≥ 0) with
          | false =>
            have e : cellS n p ⟨3, re, im, false, l⟩ = false := by simp [cellS, hV, Zc, hZ, hL]
            rw [e]
            exact cell_3tf_1 re im l  vn vp n p ns ps t u hn hp (by assumption) (by assumption) (by assumption)
          | true =>
            have e : cellS n p ⟨3, re, im, false, l⟩ = decide (l < 1) := by simp [cellS, hV, Zc, hZ, hL]
            rw [e]
            exact cell_3tf_0 re im l  vn vp n p ns ps t u hn hp (by assumption) (by assumption) (by assumption)
  by_cases k4 : k = 4
  · subst k4
    cases hV : (plainS re && plainS im) with
    | false =>
      have e : cellS n p ⟨4, re, im, b, l⟩ = false := by simp [cellS, hV]
      rw [e]
      exact cell_4fb_0 re im l b  vn vp n p ns ps t u hn hp (by assumption)
    | true => cases b with
      | true =>
        cases hZ : Zc re im with
        | false =>
          have hZ : (FloatKind.f64.format.order re 0 == some Ordering.eq && FloatKind.f64.format.order im 0 == some Ordering.eq) = false := hZ
          have e : cellS n p ⟨4, re, im, true, l⟩ = false := by simp [cellS, hV, Zc, hZ]
          rw [e]
          exact cell_4tt_1 re im l  vn vp n p ns ps t u hn hp (by assumption) (by assumption)
        | true =>
          have hZ : (FloatKind.f64.format.order re 0 == some Ordering.eq && FloatKind.f64.format.order im 0 == some Ordering.eq) = true := hZ
          have e : cellS n p ⟨4, re, im, true, l⟩ = false := by simp [cellS, hV, Zc, hZ]
          rw [e]
          exact cell_4tt_0 re im l  vn vp n p ns ps t u hn hp (by assumption) (by assumption)
      | false =>
        cases hZ : Zc re im with
        | false =>
          have hZ : (FloatKind.f64.format.order re 0 == some Ordering.eq && FloatKind.f64.format.order im 0 == some Ordering.eq) = false := hZ
          have e : cellS n p ⟨4, re, im, false, l⟩ = false := by simp [cellS, hV, Zc, hZ]
          rw [e]
          exact cell_4tf_2 re im l  vn vp n p ns ps t u hn hp (by assumption) (by assumption)
        | true =>
          have hZ : (FloatKind.f64.format.order re 0 == some Ordering.eq && FloatKind.f64.format.order im 0 == some Ordering.eq) = true := hZ
          cases hL : decide (l ≥ 0) with
          | false =>
            have e : cellS n p ⟨4, re, im, false, l⟩ = false := by simp [cellS, hV, Zc, hZ, hL]
            rw [e]
            exact cell_4tf_1 re im l  vn vp n p ns ps t u hn hp (by assumption) (by assumption) (by assumption)
          | true =>
            have e : cellS n p ⟨4, re, im, false, l⟩ = decide (l < (p : Int)) := by simp [cellS, hV, Zc, hZ, hL]
            rw [e]
            exact cell_4tf_0 re im l  vn vp n p ns ps t u hn hp (by assumption) (by assumption) (by assumption)
  by_cases k5 : k = 5
  · subst k5
    cases hV : (plainS re && plainS im) with
    | false =>
      have e : cellS n p ⟨5, re, im, b, l⟩ = false := by simp [cellS, hV]
      rw [e]
      exact cell_5fb_0 re im l b  vn vp n p ns ps t u hn hp (by assumption)
    | true => cases b with
      | true =>
        cases hZ : Zc re im with
        | false =>
          have hZ : (FloatKind.f64.format.order re 0 == some Ordering.eq && FloatKind.f64.format.order im 0 == some Ordering.eq) = false := hZ
          have e : cellS n p ⟨5, re, im, true, l⟩ = false := by simp [cellS, hV, Zc, hZ]
          rw [e]
          exact cell_5tt_1 re im l  vn vp n p ns ps t u hn hp (by assumption) (by assumption)
        | true =>
          have hZ : (FloatKind.f64.format.order re 0 == some Ordering.eq && FloatKind.f64.format.order im 0 == some Ordering.eq) = true := hZ
          have e : cellS n p ⟨5, re, im, true, l⟩ = false := by simp [cellS, hV, Zc, hZ]
          rw [e]
          exact cell_5tt_0 re im l  vn vp n p ns ps t u hn hp (by assumption) (by assumption)
      | false =>
        cases hZ : Zc re im with
        | false =>
          have hZ : (FloatKind.f64.format.order re 0 == some Ordering.eq && FloatKind.f64.format.order im 0 == some Ordering.eq) = false := hZ
          have e : cellS n p ⟨5, re, im, false, l⟩ = false := by simp [cellS, hV, Zc, hZ]
          rw [e]
          exact cell_5tf_2 re im l  vn vp n p ns ps t u hn hp (by assumption) (by assumption)
        | true =>
          have hZ : (FloatKind.f64.format.order re 0 == some Ordering.eq && FloatKind.f64.format.order im 0 == some Ordering.eq) = true := hZ
          cases hL : decide (l ≥ 0) with
          | false =>
            have e : cellS n p ⟨5, re, im, false, l⟩ = false := by simp [cellS, hV, Zc, hZ, hL]
            rw [e]
            exact cell_5tf_1 re im l  vn vp n p ns ps t u hn hp (by assumption) (by assumption) (by assumption)
          | true =>
            have e : cellS n p ⟨5, re, im, false, l⟩ = decide (l < (n : Int)) := by simp [cellS, hV, Zc, hZ, hL]
            rw [e]
            exact cell_5tf_0 re im l  vn vp n p ns ps t u hn hp (by assumption) (by assumption) (by assumption)
  have g1 : (k == 1) = false := by simpa using k1
  have g2 : (k == 2) = false := by simpa using k2
  have g3 : (k == 3) = false := by simpa using k3
  have g4 : (k == 4) = false := by simpa using k4
  have g5 : (k == 5) = false := by simpa using k5
  cases hV : (plainS re && plainS im) with
  | false =>
    have e : cellS n p ⟨k, re, im, b, l⟩ = false := by simp [cellS, k1, k2, k3, k4, k5, hV]
    rw [e]
    exact cell_kfb_0 re im l k b  vn vp n p ns ps t u hn hp (by assumption) (by assumption) (by assumption) (by assumption) (by assumption) (by assumption)
  | true => cases b with
    | true =>
      cases hZ : Zc re im with
      | false =>
        have hZ : (FloatKind.f64.format.order re 0 == some Ordering.eq && FloatKind.f64.format.order im 0 == some Ordering.eq) = false := hZ
        have e : cellS n p ⟨k, re, im, true, l⟩ = false := by simp [cellS, k1, k2, k3, k4, k5, hV, Zc, hZ]
        rw [e]
        exact cell_ktt_3 re im l k  vn vp n p ns ps t u hn hp (by assumption) (by assumption) (by assumption) (by assumption) (by assumption) (by assumption) (by assumption)
      | true =>
        have hZ : (FloatKind.f64.format.order re 0 == some Ordering.eq && FloatKind.f64.format.order im 0 == some Ordering.eq) = true := hZ
        have e : cellS n p ⟨k, re, im, true, l⟩ = false := by simp [cellS, k1, k2, k3, k4, k5, hV, Zc, hZ]
        rw [e]
        exact cell_ktt_2 re im l k  vn vp n p ns ps t u hn hp (by assumption) (by assumption) (by assumption) (by assumption) (by assumption) (by assumption) (by assumption) (by assumption)
    | false =>
      cases hZ : Zc re im with
      | false =>
        have hZ : (FloatKind.f64.format.order re 0 == some Ordering.eq && FloatKind.f64.format.order im 0 == some Ordering.eq) = false := hZ
        have e : cellS n p ⟨k, re, im, false, l⟩ = false := by simp [cellS, k1, k2, k3, k4, k5, hV, Zc, hZ]
        rw [e]
        exact cell_ktf_2 re im l k  vn vp n p ns ps t u hn hp (by assumption) (by assumption) (by assumption) (by assumption) (by assumption) (by assumption) (by assumption)
      | true =>
        have hZ : (FloatKind.f64.format.order re 0 == some Ordering.eq && FloatKind.f64.format.order im 0 == some Ordering.eq) = true := hZ
        cases hL : decide (l ≥ 0) with
        | false =>
          have e : cellS n p ⟨k, re, im, false, l⟩ = false := by simp [cellS, k1, k2, k3, k4, k5, hV, Zc, hZ, hL]
          rw [e]
          exact cell_ktf_1 re im l k  vn vp n p ns ps t u hn hp (by assumption) (by assumption) (by assumption) (by assumption) (by assumption) (by assumption) (by assumption) (by assumption)
        | true =>
          have hL0 : decide (l < 0) = false := by simpa using hL
          have e : cellS n p ⟨k, re, im, false, l⟩ = decide (l < 0) := by simp [cellS, k1, k2, k3, k4, k5, hV, Zc, hZ, hL, hL0]
          rw [e]
          exact cell_ktf_0 re im l k  vn vp n p ns ps t u hn hp (by assumption) (by assumption) (by assumption) (by assumption) (by assumption) (by assumption) (by assumption) (by assumption)
theorem ref_contract (hn : sn = false → n = 0) (hp : sp = false → p = 0) (c : Cl) : Contract Try.prog 31 [.ptr 0 0, .agg (cA c)] (hObj 32 76 sn sp vn vp n p ns ps t u) (vb (cellR n p c)) (hObj 32 76 sn sp vn vp n p ns ps t u) := by
  obtain ⟨k, re, im, b, l⟩ := c
  by_cases k1 : k = 1
  · subst k1
    cases hV : (partOk re && partOk im) with
    | false =>
      have e : cellR n p ⟨1, re, im, b, l⟩ = false := by simp [cellR, hV]
      rw [e]
      exact ref_1fb_0 re im l b  vn vp n p ns ps t u hn hp (by assumption)
    | true =>
      have hq : partOk re = true ∧ partOk im = true := by simpa using hV
      have hq1 := hq.1
      have hq2 := hq.2
      cases b with
      | true =>
        have e : cellR n p ⟨1, re, im, true, l⟩ = false := by simp [cellR, hV]
        rw [e]
        exact ref_1tt_0 re im l  vn vp n p ns ps t u hn hp (by assumption) (by assumption)
      | false =>
        have e : cellR n p ⟨1, re, im, false, l⟩ = (l == 0) := by simp [cellR, hV]
        rw [e]
        exact ref_1tf_0 re im l  vn vp n p ns ps t u hn hp (by assumption) (by assumption)
  by_cases k2 : k = 2
  · subst k2
    cases hZ : zeroS re im with
    | false =>
      have e : cellR n p ⟨2, re, im, b, l⟩ = false := by simp [cellR, hZ]
      rw [e]
      exact ref_2fb_0 re im l b  vn vp n p ns ps t u hn hp (by assumption)
    | true => cases b with
      | true =>
        have e : cellR n p ⟨2, re, im, true, l⟩ = (l == 0) := by simp [cellR, hZ]
        rw [e]
        exact ref_2tt_0 re im l  vn vp n p ns ps t u hn hp (by assumption)
      | false =>
        have e : cellR n p ⟨2, re, im, false, l⟩ = (l == 0) := by simp [cellR, hZ]
        rw [e]
        exact ref_2tf_0 re im l  vn vp n p ns ps t u hn hp (by assumption)
  by_cases k3 : k = 3
  · subst k3
    cases hZ : zeroS re im with
    | false =>
      have e : cellR n p ⟨3, re, im, b, l⟩ = false := by simp [cellR, hZ]
      rw [e]
      exact ref_3fb_0 re im l b  vn vp n p ns ps t u hn hp (by assumption)
    | true => cases b with
      | true =>
        have e : cellR n p ⟨3, re, im, true, l⟩ = false := by simp [cellR, hZ]
        rw [e]
        exact ref_3tt_0 re im l  vn vp n p ns ps t u hn hp (by assumption)
      | false =>
        have e : cellR n p ⟨3, re, im, false, l⟩ = (l == 0) := by simp [cellR, hZ]
        rw [e]
        exact ref_3tf_0 re im l  vn vp n p ns ps t u hn hp (by assumption)
  by_cases k4 : k = 4
  · subst k4
    cases hZ : zeroS re im with
    | false =>
      have e : cellR n p ⟨4, re, im, b, l⟩ = false := by simp [cellR, hZ]
      rw [e]
      exact ref_4fb_0 re im l b  vn vp n p ns ps t u hn hp (by assumption)
    | true => cases b with
      | true =>
        have e : cellR n p ⟨4, re, im, true, l⟩ = false := by simp [cellR, hZ]
        rw [e]
        exact ref_4tt_0 re im l  vn vp n p ns ps t u hn hp (by assumption)
      | false =>
        cases hL : decide (l ≥ 0) with
        | false =>
          have e : cellR n p ⟨4, re, im, false, l⟩ = false := by simp [cellR, hZ, hL]
          rw [e]
          exact ref_4tf_1 re im l  vn vp n p ns ps t u hn hp (by assumption) (by assumption)
        | true =>
          have e : cellR n p ⟨4, re, im, false, l⟩ = decide (l < (p : Int)) := by simp [cellR, hZ, hL]
          rw [e]
          exact ref_4tf_0 re im l  vn vp n p ns ps t u hn hp (by assumption) (by assumption)
  by_cases k5 : k = 5
  · subst k5
    cases hZ : zeroS re im with
    | false =>
      have e : cellR n p ⟨5, re, im, b, l⟩ = false := by simp [cellR, hZ]
      rw [e]
      exact ref_5fb_0 re im l b  vn vp n p ns ps t u hn hp (by assumption)
    | true => cases b with
      | true =>
        have e : cellR n p ⟨5, re, im, true, l⟩ = false := by simp [cellR, hZ]
        rw [e]
        exact ref_5tt_0 re im l  vn vp n p ns ps t u hn hp (by assumption)
      | false =>
        cases hL : decide (l ≥ 0) with
        | false =>
          have e : cellR n p ⟨5, re, im, false, l⟩ = false := by simp [cellR, hZ, hL]
          rw [e]
          exact ref_5tf_1 re im l  vn vp n p ns ps t u hn hp (by assumption) (by assumption)
        | true =>
          have e : cellR n p ⟨5, re, im, false, l⟩ = decide (l < (n : Int)) := by simp [cellR, hZ, hL]
          rw [e]
          exact ref_5tf_0 re im l  vn vp n p ns ps t u hn hp (by assumption) (by assumption)
  have g1 : (k == 1) = false := by simpa using k1
  have g2 : (k == 2) = false := by simpa using k2
  have g3 : (k == 3) = false := by simpa using k3
  have g4 : (k == 4) = false := by simpa using k4
  have g5 : (k == 5) = false := by simpa using k5
  have e : cellR n p ⟨k, re, im, b, l⟩ = false := by simp [cellR, k1, k2, k3, k4, k5]
  rw [e]
  exact ref_kfb_0 re im l k b  vn vp n p ns ps t u hn hp (by assumption) (by assumption) (by assumption) (by assumption) (by assumption)
end
end flt
end Go.Proofs.Ytjgddhjjcgndaaa
