import Derived.Test.YtjgddhjjcgndaaaAIRun
import Derived.Laws.AppendOwn
import Derived.Laws.Cells
import Derived.Laws.World
/- What an abstract state says of a world. -/
set_option linter.unusedSimpArgs false
set_option linter.unusedVariables false
namespace Go.AI

/-- Of a block: free (nobody writes it any more), of the object of that number, or somebody else's. -/
inductive Own where
  | free
  | by_ (id : Nat)
  | foreign

structure Emb where
  blk : Nat → Option Nat
  rowv : Nat → Option Value
  own : Nat → Own

inductive VI (own : Nat → Own) (w : World) : IV → Value → Prop where
  | sc (v : Value) (h : v.oneCell' = true) : VI own w (.sc v) v
  | sv (n sz : Nat) (f : Nat → Nat → IV) (a : Option Addr) (cap g o : Nat) (u : Nat → Nat → Value) (hc : n ≤ cap)
      (ha : 0 < n → a = some ⟨g, o, none⟩ ∧ own g = .free ∧ g < w.heap.size)
      (hu : ∀ i j, i < n → j < sz → w.cell? ⟨g, o + i * sz + j, none⟩ = some (u i j))
      (hf : ∀ i j, i < n → j < sz → VI own w (f i j) (u i j)) : VI own w (.sv n sz f) (.slice a n cap)

theorem VI.one {own : Nat → Own} {w : World} {x : IV} {v : Value} (h : VI own w x v) : v.oneCell' = true := by
  cases h with
  | sc _ h => exact h
  | sv => rfl

theorem VI.mono {own own' : Nat → Own} {w w' : World} {x : IV} {v : Value} (h : VI own w x v) (hs : w.heap.size ≤ w'.heap.size)
    (hfree : ∀ g, g < w.heap.size → own g = .free → own' g = .free ∧ w'.heap[g]? = w.heap[g]?) : VI own' w' x v := by
  induction h with
  | sc v h => exact .sc v h
  | sv n sz f a cap g o u hc ha hu _ ih =>
    refine .sv n sz f a cap g o u hc (fun hn => ?_) (fun i j hi hj => ?_) ih
    · obtain ⟨h1, h2, h3⟩ := ha hn
      exact ⟨h1, (hfree g h3 h2).1, Nat.lt_of_lt_of_le h3 hs⟩
    · obtain ⟨h1, h2, h3⟩ := ha (by omega)
      rw [World.cell?_of_block (a := ⟨g, _, none⟩) (hfree g h3 h2).2]
      exact hu i j hi hj

def verOf (H : Heap) (id : Nat) : Option Nat := match get H id with
  | some (.row _ _ ver _ _) => some ver
  | _ => none

def Cut (v0 : Value) (sz lo n : Nat) (v : Value) : Prop :=
  (v0 = .slice none 0 0 ∧ v = .slice none 0 0 ∧ lo = 0 ∧ n = 0) ∨
  ∃ g m c A, v0 = .slice (some ⟨g, 0, none⟩) m c ∧ v = .slice A n (c - lo) ∧ lo + n ≤ c ∧ (lo = 0 → A = some ⟨g, 0, none⟩) ∧ (lo < c → A = some ⟨g, lo * sz, none⟩)

/-- Whatever became of the row: a slice of n elements. -/
def ShapeS (n : Nat) (v : Value) : Prop := ∃ A c, v = .slice A n c ∧ n ≤ c ∧ (0 < n → ∃ g o, A = some ⟨g, o, none⟩)
def ShapeP (v : Value) : Prop := ∃ g o, v = .pointer (some ⟨g, o, none⟩)
theorem ShapeS.one {n : Nat} {v : Value} (h : ShapeS n v) : v.oneCell' = true := by obtain ⟨_, _, rfl, _⟩ := h; rfl
theorem ShapeP.one {v : Value} (h : ShapeP v) : v.oneCell' = true := by obtain ⟨_, _, rfl⟩ := h; rfl
theorem Cut.shape {v0 v : Value} {sz lo n : Nat} (h : Cut v0 sz lo n v) : ShapeS n v := by
  rcases h with ⟨_, rfl, _, rfl⟩ | ⟨g, m, c, A, _, rfl, h1, h2, h3⟩
  · exact ⟨none, 0, rfl, Nat.le_refl _, fun h => by omega⟩
  · exact ⟨A, c - lo, rfl, by omega, fun hn => ⟨g, _, h3 (by omega)⟩⟩

theorem Cut.one {v0 v : Value} {sz lo n : Nat} (h : Cut v0 sz lo n v) : v.oneCell' = true := by
  rcases h with ⟨_, rfl, _⟩ | ⟨g, m, c, A, _, rfl, _⟩ <;> rfl

/-- A pointer to cell j of element k of a row. -/
def At (v0 : Value) (sz k j : Nat) (v : Value) : Prop := ∃ g m c, v0 = .slice (some ⟨g, 0, none⟩) m c ∧ v = .pointer (some ⟨g, k * sz + j, none⟩)

inductive VR (H : Heap) (E : Emb) (w : World) : AV → Value → Prop where
  | any (v : Value) : VR H E w .any v
  | i (x : IV) (v : Value) (h : VI E.own w x v) : VR H E w (.i x) v
  | agg (cs : List AV) (vs : Array Value) (hl : cs.length = vs.size) (h : ∀ k, k < cs.length → VR H E w (nth cs k) (vs.getD k undef)) : VR H E w (.agg cs) (.agg vs)
  | tup (cs : List AV) (vs : Array Value) (hl : cs.length = vs.size) (h : ∀ k, k < cs.length → VR H E w (nth cs k) (vs.getD k undef)) : VR H E w (.tup cs) (.tuple vs)
  | ptr (id off g : Nat) (h : E.blk id = some g) : VR H E w (.ptr id off) (.pointer (some ⟨g, off, none⟩))
  | sl (id off n cap g : Nat) (h : E.blk id = some g) (hc : n ≤ cap) : VR H E w (.sl id off n cap) (.slice (some ⟨g, off, none⟩) n cap)
  | row (id ver sz lo n : Nat) (v0 v : Value) (h : E.rowv id = some v0) (hv : ShapeS n v) (hc : ∀ c, verOf H id = some c → ver ≤ c ∧ (ver = c → Cut v0 sz lo n v)) : VR H E w (.row id ver sz lo n) v
  | pel (id ver sz k j : Nat) (v0 v : Value) (h : E.rowv id = some v0) (hv : ShapeP v) (hc : ∀ c, verOf H id = some c → ver ≤ c ∧ (ver = c → At v0 sz k j v)) : VR H E w (.pel id ver sz k j) v
  | ro (n : Nat) (f : Nat → IV) (off g o : Nat) (u : Nat → Value) (hg : E.own g = .free) (hs : g < w.heap.size)
      (hu : ∀ j, j < n → w.cell? ⟨g, o + j, none⟩ = some (u j)) (hf : ∀ j, j < n → VI E.own w (f j) (u j)) : VR H E w (.ro n f off) (.pointer (some ⟨g, o + off, none⟩))
  | mp (id g : Nat) (h : E.blk id = some g) : VR H E w (.mp id) (.map (some g))
  | clo (fn : Fn) (a b : List AV) (x y : Array Value) (ha : a.length = x.size) (hb : b.length = y.size) (h : ∀ k, k < a.length → VR H E w (nth a k) (x.getD k undef))
      (h' : ∀ k, k < b.length → VR H E w (nth b k) (y.getD k undef)) : VR H E w (.clo fn a b) (.func fn x y)

theorem VR.one_ {H : Heap} {E : Emb} {w : World} {a : AV} {v : Value} (h : VR H E w a v) (ho : a.one = true) : v.oneCell' = true := by
  cases h <;> first
    | (simp [AV.one] at ho; done)
    | exact VI.one ‹_›
    | exact ShapeS.one ‹_›
    | exact ShapeP.one ‹_›
    | rfl

/-- What an operation, or many, may do to all that there is. -/
structure Ext (H : Heap) (E : Emb) (w : World) (H' : Heap) (E' : Emb) (w' : World) : Prop where
  os : w'.os = w.os
  tape : w'.tape = w.tape
  output : w'.output = w.output
  size : w.heap.size ≤ w'.heap.size
  keep : ∀ g, g < w.heap.size → (∀ id, E.own g ≠ .by_ id) → E'.own g = E.own g ∧ w'.heap[g]? = w.heap[g]?
  blk : ∀ id g, E.blk id = some g → E'.blk id = some g
  rowv : ∀ id v, E.rowv id = some v → ∃ v', E'.rowv id = some v' ∧ ∀ c', verOf H' id = some c' → ∃ c, verOf H id = some c ∧ c ≤ c' ∧ (c = c' → v' = v)

theorem Ext.refl (H : Heap) (E : Emb) (w : World) : Ext H E w H E w :=
  ⟨rfl, rfl, rfl, Nat.le_refl _, fun _ _ _ => ⟨rfl, rfl⟩, fun _ _ h => h, fun _ v h => ⟨v, h, fun c hc => ⟨c, hc, Nat.le_refl _, fun _ => rfl⟩⟩⟩

theorem Ext.trans {H H' H'' : Heap} {E E' E'' : Emb} {w w' w'' : World} (x : Ext H E w H' E' w') (y : Ext H' E' w' H'' E'' w'') : Ext H E w H'' E'' w'' := by
  refine ⟨y.os.trans x.os, y.tape.trans x.tape, y.output.trans x.output, Nat.le_trans x.size y.size, fun g hg hn => ?_, fun id g h => y.blk id g (x.blk id g h), fun id v h => ?_⟩
  · obtain ⟨h1, h2⟩ := x.keep g hg hn
    obtain ⟨h3, h4⟩ := y.keep g (Nat.lt_of_lt_of_le hg x.size) (fun id => h1 ▸ hn id)
    exact ⟨h3.trans h1, h4.trans h2⟩
  · obtain ⟨v', h1, h2⟩ := x.rowv id v h
    obtain ⟨v'', h3, h4⟩ := y.rowv id v' h1
    refine ⟨v'', h3, fun c'' hc => ?_⟩
    obtain ⟨c', h5, h6, h7⟩ := h4 c'' hc
    obtain ⟨c, h8, h9, h10⟩ := h2 c' h5
    exact ⟨c, h8, Nat.le_trans h9 h6, fun e => by
      have e1 : c = c' := by omega
      have e2 : c' = c'' := by omega
      rw [h7 e2, h10 e1]⟩

theorem VI.ext {H H' : Heap} {E E' : Emb} {w w' : World} (x : Ext H E w H' E' w') {a : IV} {v : Value} (h : VI E.own w a v) : VI E'.own w' a v :=
  h.mono x.size fun g hg hf => by
    obtain ⟨h1, h2⟩ := x.keep g hg (by simp [hf])
    exact ⟨h1.trans hf, h2⟩

theorem VR.ext {H H' : Heap} {E E' : Emb} {w w' : World} (x : Ext H E w H' E' w') {a : AV} {v : Value} (h : VR H E w a v) : VR H' E' w' a v := by
  induction h with
  | any v => exact .any v
  | i y v h => exact .i y v (h.ext x)
  | agg cs vs hl _ ih => exact .agg cs vs hl ih
  | tup cs vs hl _ ih => exact .tup cs vs hl ih
  | ptr id off g h => exact .ptr id off g (x.blk _ _ h)
  | sl id off n cap g h hc => exact .sl id off n cap g (x.blk _ _ h) hc
  | row id ver sz lo n v0 v h hv hc =>
    obtain ⟨v', h1, h2⟩ := x.rowv id v0 h
    refine .row id ver sz lo n v' v h1 hv fun c' hc' => ?_
    obtain ⟨c, h3, h4, h5⟩ := h2 c' hc'
    obtain ⟨h6, h7⟩ := hc c h3
    exact ⟨Nat.le_trans h6 h4, fun e => by rw [h5 (by omega)]; exact h7 (by omega)⟩
  | pel id ver sz k j v0 v h hv hc =>
    obtain ⟨v', h1, h2⟩ := x.rowv id v0 h
    refine .pel id ver sz k j v' v h1 hv fun c' hc' => ?_
    obtain ⟨c, h3, h4, h5⟩ := h2 c' hc'
    obtain ⟨h6, h7⟩ := hc c h3
    exact ⟨Nat.le_trans h6 h4, fun e => by rw [h5 (by omega)]; exact h7 (by omega)⟩
  | ro n f off g o u hg hs hu hf =>
    obtain ⟨h1, h2⟩ := x.keep g hs (by simp [hg])
    exact .ro n f off g o u (h1.trans hg) (Nat.lt_of_lt_of_le hs x.size) (fun j hj => by rw [World.cell?_of_block (a := ⟨g, _, none⟩) h2]; exact hu j hj) (fun j hj => (hf j hj).ext x)
  | mp id g h => exact .mp id g (x.blk _ _ h)
  | clo fn a b xs ys ha hb _ _ ih ih' => exact .clo fn a b xs ys ha hb ih ih'

/-- The entries of a map from strings to ints, none struck yet. -/
def mkEs (g : ByteArray → Int) : Nat → List ByteArray → List MapEntry
  | _, [] => []
  | j, k :: ks => { key := .string k, val := .int .i64 (g k), born := j } :: mkEs g (j + 1) ks
structure MapOk (es : Array MapEntry) (clock : Nat) (ks : List ByteArray) (g : ByteArray → Int) : Prop where
  list : es.toList = mkEs g 0 ks
  clock : clock = ks.length
  nodup : ks.Nodup
  out : ∀ k, hasK ks k = false → g k = 0

def OOk (H : Heap) (E : Emb) (w : World) (id : Nat) : AO → Prop
  | .gone => True
  | .cells t cs => ∃ g c, E.blk id = some g ∧ E.own g = .by_ id ∧ w.heap[g]? = some (.cells c t (0, 0)) ∧ c.size = cs.length ∧ ∀ k, k < cs.length → VR H E w (nth cs k) (c.getD k undef)
  | .row e sz _ n f => 0 < sz ∧ ∃ v0 xs, E.rowv id = some v0 ∧ w.ownsRow 0 e sz v0 n xs ∧ (∀ g, v0.ownBlock = some g → E.own g = .by_ id) ∧
      ∀ i j, i < n → j < sz → VI E.own w (f i j) (xs.getD (i * sz + j) undef)
  | .smap _ ks f => ∃ g es clock, E.blk id = some g ∧ E.own g = .by_ id ∧ w.heap[g]? = some (.map es clock) ∧ MapOk es clock ks f

structure HOk (H : Heap) (E : Emb) (w : World) : Prop where
  obj : ∀ id o, get H id = some o → OOk H E w id o
  fresh : ∀ g, w.heap.size ≤ g → E.own g = .free
  dom : ∀ id, get H id = none → E.blk id = none ∧ E.rowv id = none

/-- An object that is left alone stays what it is. -/
theorem OOk.ext {H H' : Heap} {E E' : Emb} {w w' : World} (x : Ext H E w H' E' w') {id : Nat} {o : AO} (hg : get H id = some o) (hg' : get H' id = some o) (h : OOk H E w id o)
    (hb : ∀ g, g < w.heap.size → E.own g = .by_ id → E'.own g = .by_ id ∧ w'.heap[g]? = w.heap[g]?) : OOk H' E' w' id o := by
  cases o with
  | gone => trivial
  | cells t cs =>
    obtain ⟨g, c, h1, h2, h3, h4, h5⟩ := h
    obtain ⟨h6, h7⟩ := hb g (Array.getElem?_eq_some_iff.1 h3).1 h2
    exact ⟨g, c, x.blk _ _ h1, h6, h7.trans h3, h4, fun k hk => (h5 k hk).ext x⟩
  | row e sz ver n f =>
    obtain ⟨hsz, v0, xs, h1, h2, h3, h4⟩ := h
    obtain ⟨v', h5, h6⟩ := x.rowv id v0 h1
    obtain ⟨c, h7, _, h8⟩ := h6 ver (by simp [verOf, hg'])
    have hc : c = ver := by simpa [verOf, hg] using h7.symm
    obtain rfl := h8 hc
    refine ⟨hsz, v', xs, h5, ⟨h2.1, ?_⟩, fun g hg1 => ?_, fun i j hi hj => (h4 i j hi hj).ext x⟩
    · rcases h2.2 with h | ⟨g, cap, cur, hv, h9, h10, h11⟩
      · exact .inl h
      · refine .inr ⟨g, cap, cur, hv, h9, ?_, h11⟩
        exact ((hb g (Array.getElem?_eq_some_iff.1 h10).1 (h3 g (by simp [hv, Value.ownBlock]))).2).trans h10
    · have hlt := (h2.lt g hg1).2
      exact (hb g hlt (h3 g hg1)).1
  | smap t ks f =>
    obtain ⟨g, es, clock, h1, h2, h3, h4⟩ := h
    obtain ⟨h6, h7⟩ := hb g (Array.getElem?_eq_some_iff.1 h3).1 h2
    exact ⟨g, es, clock, x.blk _ _ h1, h6, h7.trans h3, h4⟩

/-! ### The heap's list -/
theorem nbeq (a b : Nat) : Nat.beq a b = decide (a = b) := by
  rw [Bool.eq_iff_iff, decide_eq_true_iff, Nat.beq_eq]
theorem nble (a b : Nat) : Nat.ble a b = decide (a ≤ b) := by
  rw [Bool.eq_iff_iff, decide_eq_true_iff, Nat.ble_eq]

theorem get_put (H : Heap) (id k : Nat) (o : AO) : get (put H id o) k = if k = id then some o else get H k := by
  induction H with
  | nil =>
    simp only [put, get, nbeq]
    by_cases h : id = k
    · simp [h]
    · simp [h, Ne.symm h]
  | cons x H ih =>
    obtain ⟨a, b⟩ := x
    simp only [put, nbeq, nble]
    by_cases h : a = id
    · simp only [h, decide_true, get, nbeq]
      by_cases h' : id = k
      · simp [h']
      · simp [h', Ne.symm h']
    · simp only [h, decide_false]
      by_cases h2 : id ≤ a
      · simp only [h2, decide_true, get, nbeq]
        by_cases h' : id = k
        · subst h'; simp
        · simp only [h', decide_false]
          by_cases h3 : a = k
          · subst h3; simp [h]
          · simp [h3, Ne.symm h']
      · simp only [h2, decide_false, get, nbeq, ih]
        by_cases h' : a = k
        · subst h'; simp [h]
        · simp [h']

theorem put_comm (H : Heap) {a b : Nat} (x y : AO) (hne : a ≠ b) : put (put H a x) b y = put (put H b y) a x := by
  induction H with
  | nil =>
    simp only [put, nbeq, nble]
    rcases Nat.lt_or_gt_of_ne hne with h | h
    · simp [hne, Ne.symm hne, show ¬ b ≤ a by omega, show a ≤ b by omega, put]
    · simp [hne, Ne.symm hne, show ¬ a ≤ b by omega, show b ≤ a by omega, put]
  | cons q H ih =>
    obtain ⟨k, z⟩ := q
    simp only [put, nbeq, nble]
    by_cases h1 : k = a
    · subst h1
      simp only [decide_true, put, nbeq, nble, hne, decide_false]
      by_cases h2 : b ≤ k
      · have h3 : ¬ b = k := fun e => hne e.symm
        have h4 : ¬ k ≤ b := by omega
        simp [h2, put, nbeq, nble, h3, h4]
      · simp [h2, put, nbeq]
    · by_cases h2 : k = b
      · subst h2
        simp only [h1, decide_true, decide_false, put, nbeq, nble]
        by_cases h3 : a ≤ k
        · have h4 : ¬ k ≤ a := by omega
          simp [h3, put, nbeq, nble, hne, h4]
        · simp [h3, put, nbeq]
      · simp only [h1, h2, decide_false]
        by_cases h3 : a ≤ k
        · by_cases h4 : b ≤ k
          · simp only [h3, h4, decide_true, put, nbeq, nble]
            rcases Nat.lt_or_gt_of_ne hne with h | h
            · simp [hne, Ne.symm hne, show ¬ b ≤ a by omega, show a ≤ b by omega, put, nbeq, nble, h2, h4]
            · simp [hne, Ne.symm hne, show ¬ a ≤ b by omega, show b ≤ a by omega, put, nbeq, nble, h1, h3]
          · have h5 : ¬ b ≤ a := by omega
            simp only [h3, h4, decide_true, decide_false, put, nbeq, nble, hne, h5, h2, h1]
        · by_cases h4 : b ≤ k
          · have h5 : ¬ a ≤ b := by omega
            simp only [h3, h4, decide_true, decide_false, put, nbeq, nble, Ne.symm hne, h5, h2, h1]
          · simp only [h3, h4, decide_false, put, nbeq, nble, h1, h2, ih]

theorem puts_nil (H : Heap) : puts H [] = H := rfl
theorem puts_cons (H : Heap) (id : Nat) (o : AO) (l : List (Nat × AO)) : puts H ((id, o) :: l) = puts (put H id o) l := rfl

/-! ### Steps of the heap -/
/-- Blocks are added that nobody owns. -/
theorem HOk.grow {H : Heap} {E : Emb} {w w' : World} (h : HOk H E w) (ho : w'.os = w.os) (ht : w'.tape = w.tape) (hp : w'.output = w.output) (hs : w.heap.size ≤ w'.heap.size)
    (hb : ∀ g, g < w.heap.size → w'.heap[g]? = w.heap[g]?) : Ext H E w H E w' ∧ HOk H E w' := by
  have x : Ext H E w H E w' := ⟨ho, ht, hp, hs, fun g hg _ => ⟨rfl, hb g hg⟩, fun _ _ h => h, fun id v h => ⟨v, h, fun c hc => ⟨c, hc, Nat.le_refl _, fun _ => rfl⟩⟩⟩
  exact ⟨x, fun id o hg => (h.obj id o hg).ext x hg hg (fun g hg' hw => ⟨hw, hb g hg'⟩), fun g hg => h.fresh g (Nat.le_trans hs hg), h.dom⟩

/-- An object that is new, or turned: what is left to show is the object itself. -/
theorem HOk.turn {H : Heap} {E E' : Emb} {w w' : World} (h : HOk H E w) (id : Nat) (o : AO) (x : Ext H E w (put H id o) E' w')
    (hb : ∀ g k, g < w.heap.size → k ≠ id → E.own g = .by_ k → E'.own g = .by_ k ∧ w'.heap[g]? = w.heap[g]?)
    (hf : ∀ g, w'.heap.size ≤ g → E'.own g = .free) (hd : ∀ k, k ≠ id → E'.blk k = E.blk k ∧ E'.rowv k = E.rowv k) (hobj : OOk (put H id o) E' w' id o) : HOk (put H id o) E' w' := by
  refine ⟨fun k o' hk => ?_, hf, fun k hk => ?_⟩
  · rw [get_put] at hk
    by_cases e : k = id
    · subst e
      simp at hk
      subst hk
      exact hobj
    · simp only [e, if_false] at hk
      exact (h.obj k o' hk).ext x hk (by rw [get_put]; simp [e, hk]) (fun g hg hw => hb g k hg e hw)
  · rw [get_put] at hk
    by_cases e : k = id
    · subst e; simp at hk
    · simp only [e, if_false] at hk
      rw [(hd k e).1, (hd k e).2]
      exact h.dom k hk

def Emb.newBlk (E : Emb) (id g : Nat) : Emb := { E with blk := fun k => if k = id then some g else E.blk k, own := fun b => if b = g then .by_ id else E.own b }

theorem verOf_put {H : Heap} {id : Nat} {o : AO} (k : Nat) : verOf (put H id o) k = if k = id then (match o with | .row _ _ v _ _ => some v | _ => none) else verOf H k := by
  simp only [verOf, get_put]
  by_cases h : k = id
  · subst h; simp only [if_true]; cases o <;> rfl
  · simp [h]

/-- A new block of an object that is told by its block. -/
theorem HOk.newBlk {H : Heap} {E : Emb} {w w' : World} (h : HOk H E w) (id : Nat) (o : AO) (hid : get H id = none) (_hno : (match o with | .row .. => False | _ => True)) (ho : w'.os = w.os) (ht : w'.tape = w.tape)
    (hp : w'.output = w.output) (hs : w'.heap.size = w.heap.size + 1) (hb : ∀ g, g < w.heap.size → w'.heap[g]? = w.heap[g]?)
    (hobj : Ext H E w (put H id o) (E.newBlk id w.heap.size) w' → OOk (put H id o) (E.newBlk id w.heap.size) w' id o) :
    Ext H E w (put H id o) (E.newBlk id w.heap.size) w' ∧ HOk (put H id o) (E.newBlk id w.heap.size) w' := by
  have hdom := h.dom id hid
  have x : Ext H E w (put H id o) (E.newBlk id w.heap.size) w' := by
    refine ⟨ho, ht, hp, by omega, fun g hg _ => ⟨?_, hb g hg⟩, fun k g hk => ?_, fun k v hk => ⟨v, hk, fun c hc => ?_⟩⟩
    · simp [Emb.newBlk, Nat.ne_of_lt hg]
    · by_cases e : k = id
      · subst e; rw [hdom.1] at hk; cases hk
      · simp [Emb.newBlk, e, hk]
    · by_cases e : k = id
      · subst e; rw [hdom.2] at hk; cases hk
      · rw [verOf_put] at hc
        simp only [e, if_false] at hc
        exact ⟨c, hc, Nat.le_refl _, fun _ => rfl⟩
  refine ⟨x, h.turn id o x (fun g k hg hk hw => ⟨?_, hb g hg⟩) (fun g hg => ?_) (fun k hk => ⟨?_, rfl⟩) (hobj x)⟩
  · simp [Emb.newBlk, Nat.ne_of_lt hg, hw]
  · have : g ≠ w.heap.size := by omega
    simp only [Emb.newBlk, this, if_false]
    exact h.fresh g (by omega)
  · simp [Emb.newBlk, hk]

/-- An object that is told by its block is written. -/
theorem HOk.write {H : Heap} {E : Emb} {w w' : World} (h : HOk H E w) (id g : Nat) (o : AO) (hblk : E.blk id = some g) (hown : E.own g = .by_ id) (hno : (match o with | .row .. => False | _ => True)) (hrow : E.rowv id = none ∨ verOf H id = none)
    (ho : w'.os = w.os) (ht : w'.tape = w.tape) (hp : w'.output = w.output) (hs : w'.heap.size = w.heap.size) (hb : ∀ k, k ≠ g → w'.heap[k]? = w.heap[k]?)
    (hobj : Ext H E w (put H id o) E w' → OOk (put H id o) E w' id o) : Ext H E w (put H id o) E w' ∧ HOk (put H id o) E w' := by
  have x : Ext H E w (put H id o) E w' := by
    refine ⟨ho, ht, hp, by omega, fun k hk hn => ⟨rfl, hb k (fun e => hn id (e ▸ hown))⟩, fun _ _ h => h, fun k v hk => ⟨v, hk, fun c hc => ?_⟩⟩
    rw [verOf_put] at hc
    by_cases e : k = id
    · subst e
      simp only [if_true] at hc
      cases o <;> simp at hc
      exact hno.elim
    · simp only [e, if_false] at hc
      exact ⟨c, hc, Nat.le_refl _, fun _ => rfl⟩
  exact ⟨x, h.turn id o x (fun k j hk hj hw => ⟨hw, hb k (fun e => hj (by subst e; rw [hown] at hw; injection hw with e; exact e.symm))⟩)
    (fun k hk => h.fresh k (by omega)) (fun k _ => ⟨rfl, rfl⟩) (hobj x)⟩

def Emb.setRow (E : Emb) (id : Nat) (v : Value) : Emb := { E with rowv := fun k => if k = id then some v else E.rowv k, own := fun b => if v.ownBlock = some b then .by_ id else E.own b }

/-- A row that is new, or longer, or written. -/
theorem HOk.rowTurn {H : Heap} {E : Emb} {w w' : World} (h : HOk H E w) (id : Nat) (e : TypeId) (sz ver n : Nat) (f : Nat → Nat → IV) (v : Value)
    (hver : ∀ v0, E.rowv id = some v0 → ∃ c, verOf H id = some c ∧ c ≤ ver ∧ (c = ver → v = v0))
    (hold : ∀ g, g < w.heap.size → v.ownBlock = some g → E.own g = .by_ id)
    (hlt : ∀ g, v.ownBlock = some g → g < w'.heap.size)
    (ho : w'.os = w.os) (ht : w'.tape = w.tape) (hp : w'.output = w.output) (hs : w.heap.size ≤ w'.heap.size) (hb : ∀ g, g < w.heap.size → E.own g ≠ .by_ id → w'.heap[g]? = w.heap[g]?)
    (hobj : Ext H E w (put H id (.row e sz ver n f)) (E.setRow id v) w' → OOk (put H id (.row e sz ver n f)) (E.setRow id v) w' id (.row e sz ver n f)) :
    Ext H E w (put H id (.row e sz ver n f)) (E.setRow id v) w' ∧ HOk (put H id (.row e sz ver n f)) (E.setRow id v) w' := by
  have x : Ext H E w (put H id (.row e sz ver n f)) (E.setRow id v) w' := by
    refine ⟨ho, ht, hp, hs, fun g hg hn => ⟨?_, hb g hg (hn id)⟩, fun _ _ h => h, fun k u hk => ?_⟩
    · simp only [Emb.setRow]
      by_cases hv : v.ownBlock = some g
      · exact absurd (hold g hg hv) (hn id)
      · simp [hv]
    · by_cases e' : k = id
      · subst e'
        refine ⟨v, by simp [Emb.setRow], fun c hc => ?_⟩
        rw [verOf_put] at hc
        simp at hc
        subst hc
        obtain ⟨c, h1, h2, h3⟩ := hver u hk
        exact ⟨c, h1, h2, h3⟩
      · refine ⟨u, by simp [Emb.setRow, e', hk], fun c hc => ?_⟩
        rw [verOf_put] at hc
        simp only [e', if_false] at hc
        exact ⟨c, hc, Nat.le_refl _, fun _ => rfl⟩
  refine ⟨x, h.turn id _ x (fun g k hg hk hw => ⟨?_, hb g hg (fun e' => hk (by rw [hw] at e'; injection e'))⟩) (fun g hg => ?_) (fun k hk => ⟨rfl, by simp [Emb.setRow, hk]⟩) (hobj x)⟩
  · simp only [Emb.setRow]
    by_cases hv : v.ownBlock = some g
    · exact absurd (hold g hg hv) (by rw [hw]; intro e'; injection e' with e'; exact hk e')
    · simp [hv, hw]
  · have : v.ownBlock ≠ some g := fun e' => by have := hlt g e'; omega
    simp only [Emb.setRow, this, if_false]
    exact h.fresh g (by omega)

/-- An object is let go. -/
theorem HOk.letGo {H : Heap} {E : Emb} {w : World} (h : HOk H E w) (id : Nat) (own' : Nat → Own) (hw : ∀ g, (∀ k, E.own g ≠ .by_ k) ∨ (∃ k, k ≠ id ∧ E.own g = .by_ k) → own' g = E.own g) (hsome : ∃ o, get H id = some o) :
    Ext H E w (put H id .gone) { E with own := own' } w ∧ HOk (put H id .gone) { E with own := own' } w := by
  have x : Ext H E w (put H id .gone) { E with own := own' } w := by
    refine ⟨rfl, rfl, rfl, Nat.le_refl _, fun g _ hn => ⟨hw g (.inl hn), rfl⟩, fun _ _ h => h, fun k v hk => ⟨v, hk, fun c hc => ?_⟩⟩
    rw [verOf_put] at hc
    by_cases e : k = id
    · subst e; simp at hc
    · simp only [e, if_false] at hc
      exact ⟨c, hc, Nat.le_refl _, fun _ => rfl⟩
  refine ⟨x, h.turn id .gone x (fun g k _ hk hw' => ⟨?_, rfl⟩) (fun g hg => ?_) (fun k _ => ⟨rfl, rfl⟩) trivial⟩
  · exact (hw g (.inr ⟨k, hk, hw'⟩)).trans hw'
  · have := h.fresh g hg
    exact (hw g (.inl (by simp [this]))).trans this

end Go.AI
