import Derived.Test.YtjgddhjjcgndaaaHMain
import Derived.Deep.Grids
import Derived.SizedLaws
/- HeapApart's arguments: a slice of calls, a slice of bools, opened. -/
set_option linter.unusedVariables false
set_option linter.unusedSimpArgs false
namespace Go.Proofs.Ytjgddhjjcgndaaa
open Go.AI Go.Deep
set_option maxRecDepth 100000
namespace flt
section
variable {H : Type} {enc : TypeId × Value → H} {W : World} {base : Nat} {spare : Nat → Bool} {held : Bool}
def ii (x : Int) : Value := .int .i64 x
theorem part_some {P : Program} {n : Nat} {fs : Array Field} {cs : List Value} {xs : List (DataW H × List MemPlace)} (hl : xs.length = fs.size)
    (hx : ∀ (i : Nat) (f : Field), fs[i]? = some f → DataW.trod enc P W base spare held n f.type ((cs.drop f.offset).take (P.cellsOf f.type)) = xs[i]?) {i : Nat} {f : Field} (hf : fs[i]? = some f) {k : Nat} (hk : P.cellsOf f.type = k) :
    ∃ y, DataW.trod enc P W base spare held n f.type ((cs.drop f.offset).take k) = some y := by
  have hi : i < fs.size := (Array.getElem?_eq_some_iff.1 hf).1
  have h := hx i f hf
  rw [hk, List.getElem?_eq_getElem (by rw [hl]; exact hi)] at h
  exact ⟨_, h⟩
theorem cells3 : Try.prog.cellsOf 3 = 1 := by kernel_rfl
theorem cells4 : Try.prog.cellsOf 4 = 1 := by kernel_rfl
theorem cells36 : Try.prog.cellsOf 36 = 3 := by kernel_rfl
theorem cells38 : Try.prog.cellsOf 38 = 6 := by kernel_rfl
theorem cells40 : Try.prog.cellsOf 40 = 14 := by kernel_rfl
theorem bytes40 : Try.prog.bytesOf 40 = 112 := by kernel_rfl
theorem open_int {n : Nat} {c : Value} {y : DataW H × List MemPlace} (h : DataW.trod enc Try.prog W base spare held n 3 [c] = some y) : ∃ x, c = ii x := by
  obtain ⟨x, h1, _⟩ := DataW.trod_int Try.underlying3 h
  exact ⟨x, by simpa [ii] using h1⟩
theorem open_bool {n : Nat} {c : Value} {y : DataW H × List MemPlace} (h : DataW.trod enc Try.prog W base spare held n 4 [c] = some y) : ∃ x, c = .bool x := by
  obtain ⟨x, h1, _⟩ := DataW.trod_bool Try.underlying4 h
  exact ⟨x, by simpa using h1⟩
theorem open_num {n : Nat} {c0 c1 c2 : Value} {y : DataW H × List MemPlace} (h : DataW.trod enc Try.prog W base spare held n 36 [c0, c1, c2] = some y) : ∃ re im raw, c0 = ii re ∧ c1 = ii im ∧ c2 = .bool raw := by
  obtain ⟨xs, m, _, _, _, hl, hx⟩ := DataW.trod_struct Try.underlying36 h
  obtain ⟨y0, h0⟩ := part_some hl hx (i := 0) rfl cells3
  obtain ⟨y1, h1⟩ := part_some hl hx (i := 1) rfl cells3
  obtain ⟨y2, h2⟩ := part_some hl hx (i := 2) rfl cells4
  obtain ⟨a, rfl⟩ := open_int h0
  obtain ⟨b, rfl⟩ := open_int h1
  obtain ⟨c, rfl⟩ := open_bool h2
  exact ⟨a, b, c, rfl, rfl, rfl⟩
theorem open_ci {n : Nat} {c0 c1 c2 c3 c4 c5 : Value} {y : DataW H × List MemPlace} (h : DataW.trod enc Try.prog W base spare held n 38 [c0, c1, c2, c3, c4, c5] = some y) :
    ∃ a : CI, c0 = ii a.k ∧ c1 = ii a.l ∧ c2 = ii a.re ∧ c3 = ii a.im ∧ c4 = .bool a.raw ∧ c5 = .bool a.b := by
  obtain ⟨xs, m, _, _, _, hl, hx⟩ := DataW.trod_struct Try.underlying38 h
  obtain ⟨y0, h0⟩ := part_some hl hx (i := 0) rfl cells3
  obtain ⟨y1, h1⟩ := part_some hl hx (i := 1) rfl cells3
  obtain ⟨y2, h2⟩ := part_some hl hx (i := 2) rfl cells36
  obtain ⟨y3, h3⟩ := part_some hl hx (i := 3) rfl cells4
  obtain ⟨k, rfl⟩ := open_int h0
  obtain ⟨l, rfl⟩ := open_int h1
  obtain ⟨re, im, raw, rfl, rfl, rfl⟩ := open_num h2
  obtain ⟨b, rfl⟩ := open_bool h3
  exact ⟨⟨k, l, re, im, raw, b⟩, rfl, rfl, rfl, rfl, rfl, rfl⟩
def ciV (a : CI) : List Value := [ii a.k, ii a.l, ii a.re, ii a.im, .bool a.raw, .bool a.b]
def actV (s : ActS) : List Value := ii s.k :: ii s.l :: (ciV s.a ++ ciV s.b)
theorem open_act {n : Nat} {cs : List Value} {y : DataW H × List MemPlace} (h : DataW.trod enc Try.prog W base spare held n 40 cs = some y) : ∃ s : ActS, cs = actV s := by
  obtain ⟨xs, m, _, _, hcs, hl, hx⟩ := DataW.trod_struct Try.underlying40 h
  rw [cells40] at hcs
  match cs, hcs with
  | [c0, c1, c2, c3, c4, c5, c6, c7, c8, c9, c10, c11, c12, c13], _ =>
    obtain ⟨y0, h0⟩ := part_some hl hx (i := 0) rfl cells3
    obtain ⟨y1, h1⟩ := part_some hl hx (i := 1) rfl cells3
    obtain ⟨y2, h2⟩ := part_some hl hx (i := 2) rfl cells38
    obtain ⟨y3, h3⟩ := part_some hl hx (i := 3) rfl cells38
    obtain ⟨k, rfl⟩ := open_int h0
    obtain ⟨l, rfl⟩ := open_int h1
    obtain ⟨a, rfl, rfl, rfl, rfl, rfl, rfl⟩ := open_ci h2
    obtain ⟨b, rfl, rfl, rfl, rfl, rfl, rfl⟩ := open_ci h3
    exact ⟨⟨k, l, a, b⟩, rfl⟩
end
instance : Inhabited ActS := ⟨⟨0, 0, ⟨0, 0, 0, 0, false, false⟩, ⟨0, 0, 0, 0, false, false⟩⟩⟩
theorem act_cell (w : World) (own : Nat → Own) (f : Nat → ActS) (i j : Nat) (hj : j < 14) : VI own w (actF f i j) ((actV (f i)).getD j undef) := by
  match j, hj with
  | 0, _ | 1, _ | 2, _ | 3, _ | 4, _ | 5, _ | 6, _ | 7, _ | 8, _ | 9, _ | 10, _ | 11, _ | 12, _ | 13, _ => exact .sc _ rfl
theorem cell_lt {w : World} {a : Addr} {v : Value} (h : w.cell? a = some v) : a.block < w.heap.size ∧ a.spot = none := by
  unfold World.cell? at h
  split at h
  · rename_i c _ _ hc
    refine ⟨(Array.getElem?_eq_some_iff.1 hc).1, ?_⟩
    split at h
    · cases h
    · rename_i hs; simpa using hs
  · cases h

theorem add_none (g o n : Nat) : (⟨g, o, none⟩ : Addr).add n = ⟨g, o + n, none⟩ := by
  unfold Addr.add
  split
  · rename_i h; subst h; rfl
  · rfl
theorem add_zero (a : Addr) : a.add 0 = a := rfl
/-- The slice of calls. -/
theorem script_VR {H : Type} {enc : TypeId × Value → H} {W : World} {fuel : Nat} {v : Value} {x : DataW H × List MemPlace} (h : DataW.trod enc Try.prog W 0 (fun _ => true) true fuel 22 [v] = some x) :
    ∃ (N : Nat) (f : Nat → ActS), VR (hp 0 []) emb0 W (.i (.sv N 14 (actF f))) v ∧ ((x.1 = .nil ∧ N = 0) ∨ ∃ elems spare, x.1 = .slice elems spare ∧ elems.length = N) := by
  rcases open_slice Try.underlying22 h with ⟨h1, h2⟩ | ⟨a, len, cap, m, n, D, Pl, h1, _, hlc, _, hm, h2, hx⟩
  · obtain rfl : v = .slice none 0 0 := by simpa using h1
    subst h2
    exact ⟨0, fun _ => default, .i _ _ (.sv 0 14 _ none 0 0 0 (fun _ _ => undef) (Nat.le_refl _) (fun h => by omega) (fun i j hi => by omega) (fun i j hi => by omega)), .inl ⟨rfl, rfl⟩⟩
  · obtain rfl : v = .slice (some a) len cap := by simpa using h1
    subst h2
    simp only [if_true] at hm
    subst hm
    rw [cells40] at hx
    obtain ⟨f, hf⟩ := choose_lt (α := ActS) (p := fun i s => W.cells? 0 (a.add (i * 14)) 14 = some (actV s)) (fun i hi => by
      obtain ⟨cs', h3, h4⟩ := hx i hi
      obtain ⟨s, rfl⟩ := open_act h4
      exact ⟨s, h3⟩)
    have key : ∀ i j, i < m → j < 14 → W.cell? ((a.add (i * 14)).add j) = some ((actV (f i)).getD j undef) := by
      intro i j hi hj
      obtain ⟨_, h5, h6⟩ := World.cells?_some (hf i hi)
      rw [h6 j hj, List.getElem?_eq_getElem (by rw [h5]; exact hj)]
      simp [List.getD, List.getElem?_eq_getElem (show j < (actV (f i)).length by rw [h5]; exact hj)]
    refine ⟨len, f, ?_, .inr ⟨_, _, rfl, by simp⟩⟩
    obtain ⟨g, o, s⟩ := a
    have hs : 0 < len → s = none ∧ g < W.heap.size := fun hp => by
      obtain ⟨h7, h8⟩ := cell_lt (key 0 0 (by omega) (by omega))
      rw [Nat.zero_mul, add_zero, add_zero] at h7 h8
      exact ⟨h8, h7⟩
    refine .i _ _ (.sv len 14 _ _ m g o (fun i j => (actV (f i)).getD j undef) hlc (fun hp => ?_) (fun i j hi hj => ?_) (fun i j hi hj => act_cell _ _ _ _ _ hj))
    · obtain ⟨rfl, h7⟩ := hs hp
      exact ⟨rfl, rfl, h7⟩
    · obtain ⟨rfl, h7⟩ := hs (by omega)
      have h9 := key i j (by omega) hj
      rw [add_none, add_none] at h9
      exact h9
/-- The slice of bools. -/
theorem turns_VR {H : Type} {enc : TypeId × Value → H} {W : World} {fuel : Nat} {v : Value} {x : DataW H × List MemPlace} (h : DataW.trod enc Try.prog W 0 (fun _ => true) true fuel 23 [v] = some x) :
    ∃ (M : Nat) (g : Nat → Bool), VR (hp 0 []) emb0 W (.i (.sv M 1 (turnF g))) v := by
  rcases open_bools Try.underlying23 Try.underlying4 cells4 h with ⟨h1, h2⟩ | ⟨a, len, cap, B, h1, _, hlc, _, h2, hx⟩
  · obtain rfl : v = .slice none 0 0 := by simpa using h1
    exact ⟨0, fun _ => false, .i _ _ (.sv 0 1 _ none 0 0 0 (fun _ _ => undef) (Nat.le_refl _) (fun h => by omega) (fun i j hi => by omega) (fun i j hi => by omega))⟩
  · obtain rfl : v = .slice (some a) len cap := by simpa using h1
    obtain ⟨g, o, s⟩ := a
    refine ⟨len, B, .i _ _ (.sv len 1 _ _ cap g o (fun i _ => .bool (B i)) hlc (fun hp => ?_) (fun i j hi hj => ?_) (fun i j hi hj => .sc _ rfl))⟩
    · obtain ⟨h7, h8⟩ := cell_lt (hx 0 (by omega))
      rw [add_zero] at h7 h8
      have h8 : s = none := h8
      subst h8
      exact ⟨rfl, rfl, h7⟩
    · obtain ⟨h7, h8⟩ := cell_lt (hx 0 (by omega))
      rw [add_zero] at h7 h8
      have h8 : s = none := h8
      subst h8
      have h9 := hx i (by omega)
      rw [add_none] at h9
      have : j = 0 := by omega
      subst this
      rw [Nat.mul_one, Nat.add_zero]
      exact h9
end flt
end Go.Proofs.Ytjgddhjjcgndaaa
