import Derived.Test.YtjgddhjjcgndaaaAIRel
import Derived.Laws.CopyRow
import Derived.Laws.MakeOwn
import Derived.Laws.Slices
import Derived.Maps.AppendAt
import Derived.Laws.StructEq
import Derived.Laws.Pointers
import Derived.Laws.BytesArg
import Derived.Lib.ConvBytes
/- Each operation does what the abstract one tells. -/
set_option linter.unusedVariables false
set_option linter.unusedSimpArgs false
namespace Go.AI

def AllP : List Ob → Prop
  | [] => True
  | o :: l => o.p ∧ AllP l
theorem allB_ok : ∀ {l : List Ob}, allB l = true → AllP l
  | [], _ => trivial
  | o :: l, h => by
    simp only [allB] at h
    split at h
    · rename_i hb; exact ⟨o.ok hb, allB_ok h⟩
    · cases h
theorem AllP.app {a b : List Ob} : AllP (a ++ b) ↔ AllP a ∧ AllP b := by
  induction a with
  | nil => simp [AllP]
  | cons p l ih => simp [AllP, ih, and_assoc]

/-! ### Lists -/
theorem nth_eq (l : List AV) (k : Nat) : nth l k = l.getD k .any := by
  induction l generalizing k with
  | nil => rfl
  | cons a l ih => cases k with
    | zero => rfl
    | succ k => simpa [nth] using ih k
theorem nthI_eq (l : List IV) (k : Nat) : nthI l k = l.getD k default := by
  induction l generalizing k with
  | nil => rfl
  | cons a l ih => cases k with
    | zero => rfl
    | succ k => simpa [nthI] using ih k
theorem setNth_eq (l : List AV) (k : Nat) (v : AV) : setNth l k v = l.set k v := by
  induction l generalizing k with
  | nil => rfl
  | cons a l ih => cases k with
    | zero => rfl
    | succ k => simp [setNth, ih k]
theorem takeN_eq {α : Type} (n : Nat) (l : List α) : takeN n l = l.take n := by
  induction l generalizing n with
  | nil => cases n <;> rfl
  | cons a l ih => cases n with
    | zero => rfl
    | succ n => simp [takeN, ih n]
theorem dropN_eq {α : Type} (n : Nat) (l : List α) : dropN n l = l.drop n := by
  induction l generalizing n with
  | nil => cases n <;> rfl
  | cons a l ih => cases n with
    | zero => rfl
    | succ n => simp [dropN, ih n]
theorem lenN_eq {α : Type} (l : List α) : lenN l = l.length := by
  induction l with
  | nil => rfl
  | cons a l ih => simp [lenN, ih]
theorem upto_eq (n : Nat) : upto n = List.range n := by
  induction n with
  | zero => rfl
  | succ n ih => simp [upto, ih, List.range_succ]
theorem splice_eq (cs : List AV) (off : Nat) (new : List AV) : splice cs off new = cs.take off ++ new ++ cs.drop (off + new.length) := by
  simp [splice, takeN_eq, dropN_eq, lenN_eq]

/-! ### What an operation gives -/
structure Post (H : Heap) (E : Emb) (w : World) (fresh : Nat) (r : Res) (v : Value) (w' : World) : Prop where
  ex : ∃ E', HOk (puts H r.upd) E' w' ∧ VR (puts H r.upd) E' w' r.val v ∧ Ext H E w (puts H r.upd) E' w'
  dom : ∀ id, (id < fresh ∨ fresh + 4 ≤ id) → get H id = none → get (puts H r.upd) id = none

def Gives (P : Program) (H : Heap) (E : Emb) (w : World) (fresh : Nat) (s : Sem Value) (r : Res) : Prop :=
  ∃ v w', s.run P w = .ok v w' ∧ Post H E w fresh r v w'

section
variable {P : Program} {H : Heap} {E : Emb} {w : World} {fresh : Nat}

theorem Post.same {a : AV} {ps : List Ob} {v : Value} (h : HOk H E w) (hr : VR H E w a v) : Post H E w fresh ⟨a, [], ps⟩ v w :=
  ⟨⟨E, h, hr, Ext.refl _ _ _⟩, fun _ _ h => h⟩

theorem Gives.same {s : Sem Value} {a : AV} {ps : List Ob} {v : Value} (h : HOk H E w) (hs : s.run P w = .ok v w) (hr : VR H E w a v) : Gives P H E w fresh s ⟨a, [], ps⟩ :=
  ⟨v, w, hs, .same h hr⟩

theorem pureRun_run {α : Type} {s : Sem α} {v : α} (h : pureRun P s = some v) (w : World) : s.run P w = .ok v w := by
  induction s <;> simp only [pureRun] at h <;> first
    | (cases h; done)
    | (injection h with h; subst h; rfl)
    | (rename_i ih; simp only [Sem.run]; exact ih _ h)
    | (rename_i ih; simp only [Sem.run]; exact ih h)

theorem scalarA_gives {s : Sem Value} {r : Res} (h : HOk H E w) (hr : scalarA P s = some r) : Gives P H E w fresh s r := by
  unfold scalarA at hr
  split at hr
  · rename_i v hv
    split at hr
    · rename_i ho
      injection hr with hr
      subst hr
      exact .same h (pureRun_run hv w) (.i _ _ (.sc v ho))
    · cases hr
  · cases hr

theorem info_of_sizeT {t : TypeId} {sz : Nat} (h : sizeT P t = some sz) : ∃ i, P.info? t = some i ∧ i.size = sz := by
  unfold sizeT at h
  split at h
  · rename_i i hi; injection h with h; exact ⟨i, hi, h⟩
  · cases h
theorem run_sizeOf {t : TypeId} {sz : Nat} (h : sizeT P t = some sz) (w : World) : (sizeOf t).run P w = .ok sz w := by
  obtain ⟨i, hi, rfl⟩ := info_of_sizeT h
  simp [sizeOf, typeInfo, hi]
theorem run_isAgg {t : TypeId} {b : Bool} (h : aggT P t = some b) (w : World) : (isAgg t).run P w = .ok b w := by
  unfold aggT at h
  split at h <;> first
    | (cases h; done)
    | (rename_i hd; injection h with h; subst h; simp [isAgg, run_underlying hd]; done)
    | (rename_i d hn hn' hd; injection h with h; subst h; unfold isAgg; simp only [Sem.run_bind, run_underlying hd, Result.andThen_ok]
       cases d <;> first | rfl | (exact absurd rfl (hn _)) | (exact absurd rfl (hn' _ _)))

theorem mkVal_some {t : TypeId} {cs : List AV} {a : AV} (h : mkVal P t cs = some a) : (aggT P t = some true ∧ a = .agg cs) ∨ (aggT P t = some false ∧ cs = [a]) := by
  unfold mkVal at h
  split at h
  · rename_i h'; injection h with h; exact .inl ⟨h', h.symm⟩
  · rename_i h'; injection h with h; exact .inr ⟨h', by rw [h]⟩
  · cases h

theorem getD_ofList (l : List Value) (k : Nat) : l.toArray.getD k undef = l.getD k undef := by simp [List.getD, Array.getD]; split <;> simp_all

/-- A variable is read cell by cell. -/
theorem loadVar_run {t : TypeId} {sz g o : Nat} {f : Nat → Value} {cs : List AV} {av : AV} (hs : sizeT P t = some sz) (hc : ∀ j, j < sz → w.cell? ⟨g, o + j, none⟩ = some (f j))
    (hm : mkVal P t cs = some av) (hl : cs.length = sz) (hv : ∀ j, j < sz → VR H E w (nth cs j) (f j)) : ∃ v, (loadVar t ⟨g, o, none⟩).run P w = .ok v w ∧ VR H E w av v := by
  unfold loadVar
  rcases mkVal_some hm with ⟨ha, rfl⟩ | ⟨ha, rfl⟩
  · have hr := run_loadCells (P := P) w ⟨g, o, none⟩ sz f (fun j hj => by rw [Addr.add_lit]; exact hc j hj)
    refine ⟨.agg ((List.range sz).map f).toArray, by simp [run_isAgg ha, run_sizeOf hs, hr], .agg _ _ (by simp [hl]) fun k hk => ?_⟩
    rw [getD_ofList]
    have hk' : k < sz := by omega
    have := hv k hk'
    simpa [List.getD, hk'] using this
  · have h1 : sz = 1 := by simpa using hl.symm
    subst h1
    have h0 := hc 0 (by omega)
    refine ⟨f 0, by simp [run_isAgg ha, show w.cell? ⟨g, o, none⟩ = some (f 0) from h0], ?_⟩
    exact hv 0 (by omega)

theorem nth_take_drop (cs : List AV) (off sz j : Nat) (h : j < sz) : nth (takeN sz (dropN off cs)) j = nth cs (off + j) := by
  rw [takeN_eq, dropN_eq, nth_eq, nth_eq]
  simp [List.getD, List.getElem?_take, h, List.getElem?_drop]

theorem nth_map_range (f : Nat → AV) (n j : Nat) (h : j < n) : nth ((upto n).map f) j = f j := by
  rw [upto_eq, nth_eq]
  simp [List.getD, h]

theorem sure_pointer (a : Addr) : Instr.sureAddr (.pointer (some a)) = pure a := rfl

theorem bind_some_v {o : Option AV} {r : Res} (h : (match o with | some a => Res.v a | none => none) = some r) : ∃ a, o = some a ∧ r = ⟨a, [], []⟩ := by
  cases o with
  | none => cases h
  | some a => injection h with h; exact ⟨a, rfl, h.symm⟩

theorem row_cell {e : TypeId} {sz n : Nat} {v0 : Value} {xs : List Value} (h : w.ownsRow 0 e sz v0 n xs) {g m c : Nat} (hv : v0 = .slice (some ⟨g, 0, none⟩) m c) {k : Nat} (hk : k < n * sz) :
    w.cell? ⟨g, k, none⟩ = some (xs.getD k undef) := by
  have hl := h.1
  have := h.cells (g := g) (by simp [hv, Value.ownBlock]) k (xs.getD k undef) (by simp [List.getD, List.getElem?_eq_getElem (show k < xs.length by omega)])
  rwa [Addr.add_lit, Nat.zero_add] at this

theorem idx_lt {k n j sz : Nat} (hk : k < n) (hj : j < sz) : k * sz + j < n * sz := by
  have : (k + 1) * sz ≤ n * sz := Nat.mul_le_mul_right _ hk
  rw [Nat.succ_mul] at this
  omega

theorem cells_cell {g : Nat} {c : Array Value} {t : TypeId} (h : w.heap[g]? = some (.cells c t (0, 0))) {k : Nat} (hk : k < c.size) : w.cell? ⟨g, k, none⟩ = some (c.getD k undef) := by
  rw [cell_of_row w g k c t (0, 0) h]
  simp [Array.getD, hk]

theorem loadA_gives {t : TypeId} {p : AV} {vp : Value} {r : Res} (h : HOk H E w) (hp : VR H E w p vp) (hr : loadA P H t p = some r) (hps : AllP r.ps) :
    Gives P H E w fresh (Instr.loadAt t vp) r := by
  unfold loadA at hr
  cases hs : sizeT P t with
  | none => rw [hs] at hr; cases hr
  | some sz =>
    simp only [hs] at hr
    cases hp with
    | ptr id off g hg =>
      simp only at hr
      cases ho : get H id with
      | none => rw [ho] at hr; cases hr
      | some o =>
        rw [ho] at hr
        cases o with
        | cells u cs =>
          simp only [nble, lenN_eq] at hr
          by_cases hle : off + sz ≤ cs.length
          · simp only [hle, decide_true] at hr
            obtain ⟨a, ha, rfl⟩ := bind_some_v hr
            obtain ⟨g', c, h1, h2, h3, h4, h5⟩ := h.obj id _ ho
            rw [hg] at h1; injection h1 with h1; subst h1
            obtain ⟨v, hv, hvr⟩ := loadVar_run (P := P) (H := H) (E := E) (w := w) (g := g) (o := off) (f := fun j => c.getD (off + j) undef) hs (fun j hj => cells_cell h3 (by omega)) ha
              (by simp [takeN_eq, dropN_eq]; omega) (fun j hj => by rw [nth_take_drop _ _ _ _ hj]; exact h5 _ (by omega))
            exact .same h (by simp [Instr.loadAt, sure_pointer, hv]) hvr
          · simp only [hle, decide_false] at hr
            cases hr
        | _ => cases hr
    | pel id ver rsz k j v0 v hg hone hc =>
      simp only at hr
      cases ho : get H id with
      | none => rw [ho] at hr; cases hr
      | some o =>
        rw [ho] at hr
        cases o with
        | row e sz' ver' n f =>
          simp only [nble, nbeq] at hr
          · by_cases h2 : rsz = sz'
            · by_cases h3 : j + sz ≤ sz'
              · simp only [h2, h3, decide_true] at hr
                cases hm : mkVal P t ((upto sz).map fun q => AV.i (f k (j + q))) with
                | none => rw [hm] at hr; cases hr
                | some a =>
                  rw [hm] at hr
                  injection hr with hr
                  subst hr
                  have h1 : ver = ver' := hps.1
                  subst h1 h2
                  have hk : k < n := hps.2.1
                  obtain ⟨_, hat⟩ := hc ver (by simp [verOf, ho])
                  obtain ⟨g, m, c, hv0, rfl⟩ := hat rfl
                  obtain ⟨hsz, v0', xs, h4, h5, h6, h7⟩ := h.obj id _ ho
                  rw [hg] at h4; injection h4 with h4; subst h4
                  obtain ⟨v, hv, hvr⟩ := loadVar_run (P := P) (H := H) (E := E) (w := w) (g := g) (o := k * rsz + j) (f := fun q => xs.getD (k * rsz + j + q) undef) hs
                    (fun q hq => row_cell h5 hv0 (by have := idx_lt (k := k) (n := n) (j := j + q) (sz := rsz) hk (by omega); omega)) hm
                    (by simp [upto_eq]) (fun q hq => by rw [nth_map_range _ _ _ hq]; have := h7 k (j + q) hk (by omega); rw [← Nat.add_assoc] at this; exact .i _ _ this)
                  exact .same h (by simp [Instr.loadAt, sure_pointer, hv]) hvr
              · simp [h2, h3] at hr
            · simp [h2] at hr
        | _ => cases hr
    | ro n f off g o u hg hsz hu hf =>
      simp only [nble] at hr
      by_cases hle : off + sz ≤ n
      · simp only [hle, decide_true] at hr
        obtain ⟨a, ha, rfl⟩ := bind_some_v hr
        obtain ⟨v, hv, hvr⟩ := loadVar_run (P := P) (H := H) (E := E) (w := w) (g := g) (o := o + off) (f := fun j => u (off + j)) hs (fun j hj => by rw [Nat.add_assoc]; exact hu _ (by omega)) ha
          (by simp [upto_eq]) (fun q hq => by rw [nth_map_range _ _ _ hq]; exact .i _ _ (hf _ (by omega)))
        exact .same h (by simp [Instr.loadAt, sure_pointer, hv]) hvr
      · simp only [hle, decide_false] at hr
        cases hr
    | _ => cases hr

/-! ### Stores -/
theorem VR.cells_ {a : AV} {v : Value} (h : VR H E w a v) (ho : allOne a.cells = true) : (a.cells).length = v.cells.size ∧ ∀ k, k < a.cells.length → VR H E w (nth a.cells k) (v.cells.getD k undef) := by
  cases h with
  | agg cs vs hl h => exact ⟨hl, h⟩
  | any v => simp [AV.cells, allOne, AV.one] at ho
  | tup => simp [AV.cells, allOne, AV.one] at ho
  | i x v h =>
    have h1 := h.one
    have : v.cells = #[v] := by cases v <;> first | rfl | (simp [Value.oneCell'] at h1; done)
    rw [this]
    refine ⟨rfl, fun k hk => ?_⟩
    have hk0 : k = 0 := by simp [AV.cells] at hk; exact hk
    subst hk0
    exact .i x v h
  | row id ver sz lo n v0 v h hv hc =>
    have h1 := hv.one
    have : v.cells = #[v] := by cases v <;> first | rfl | (simp [Value.oneCell'] at h1; done)
    rw [this]
    refine ⟨rfl, fun k hk => ?_⟩
    have hk0 : k = 0 := by simp [AV.cells] at hk; exact hk
    subst hk0
    exact .row id ver sz lo n v0 v h hv hc
  | pel id ver sz k j v0 v h hv hc =>
    have h1 := hv.one
    have : v.cells = #[v] := by cases v <;> first | rfl | (simp [Value.oneCell'] at h1; done)
    rw [this]
    refine ⟨rfl, fun q hq => ?_⟩
    have hk0 : q = 0 := by simp [AV.cells] at hq; exact hq
    subst hk0
    exact .pel id ver sz k j v0 v h hv hc
  | ro => simp [AV.cells, allOne, AV.one] at ho
  | ptr id off g h => exact ⟨rfl, fun k hk => by have hk0 : k = 0 := by simp [AV.cells] at hk; exact hk
                                                 subst hk0; exact .ptr id off g h⟩
  | sl id off n cap g h hc => exact ⟨rfl, fun k hk => by have hk0 : k = 0 := by simp [AV.cells] at hk; exact hk
                                                         subst hk0; exact .sl id off n cap g h hc⟩
  | mp id g h => exact ⟨rfl, fun k hk => by have hk0 : k = 0 := by simp [AV.cells] at hk; exact hk
                                            subst hk0; exact .mp id g h⟩
  | clo fn a b x y ha hb h h' => exact ⟨rfl, fun k hk => by have hk0 : k = 0 := by simp [AV.cells] at hk; exact hk
                                                            subst hk0; exact .clo fn a b x y ha hb h h'⟩

theorem allOne_mem {l : List AV} (h : allOne l = true) (k : Nat) (hk : k < l.length) : (nth l k).one = true := by
  induction l generalizing k with
  | nil => simp at hk
  | cons a l ih =>
    simp only [allOne] at h
    split at h
    · rename_i ha
      cases k with
      | zero => exact ha
      | succ k => exact ih h k (by simpa using hk)
    · cases h

theorem VR.ones {a : AV} {v : Value} (h : VR H E w a v) (ho : allOne a.cells = true) : ∀ u ∈ v.cells.toList, u.oneCell' = true := by
  obtain ⟨hl, hv⟩ := h.cells_ ho
  intro u hu
  obtain ⟨k, hk, rfl⟩ := List.mem_iff_getElem.1 hu
  have hk' : k < a.cells.length := by simpa [hl] using hk
  have := (hv k hk').one_ (allOne_mem ho k hk')
  simpa [Array.getD, show k < v.cells.size by simpa using hk] using this

theorem nth_append (a b : List AV) (k : Nat) : nth (a ++ b) k = if k < a.length then nth a k else nth b (k - a.length) := by
  rw [nth_eq, nth_eq, nth_eq]
  split
  · rename_i h; simp [List.getD, List.getElem?_append_left h]
  · rename_i h; simp [List.getD, List.getElem?_append_right (Nat.le_of_not_lt h)]

theorem nth_take (l : List AV) (n k : Nat) (h : k < n) : nth (l.take n) k = nth l k := by
  rw [nth_eq, nth_eq]; simp [List.getD, List.getElem?_take, h]
theorem nth_drop (l : List AV) (n k : Nat) : nth (l.drop n) k = nth l (n + k) := by
  rw [nth_eq, nth_eq]; simp [List.getD, List.getElem?_drop]

/-- Cell k of what has been written at 'off'. -/
theorem nth_splice (cs new : List AV) (off k : Nat) (h : off + new.length ≤ cs.length) : nth (splice cs off new) k = if off ≤ k ∧ k < off + new.length then nth new (k - off) else nth cs k := by
  rw [splice_eq, nth_append, nth_append]
  simp only [List.length_append, List.length_take, Nat.min_eq_left (show off ≤ cs.length by omega)]
  by_cases h1 : k < off
  · rw [if_pos (by omega), if_pos h1, if_neg (by omega), nth_take _ _ _ h1]
  · by_cases h2 : k < off + new.length
    · rw [if_pos h2, if_neg h1, if_pos ⟨by omega, h2⟩]
    · rw [if_neg h2, if_neg (by omega), nth_drop]
      congr 1
      omega

theorem vsplice_getD (c : Array Value) (vs : List Value) (off k : Nat) (h : off + vs.length ≤ c.size) :
    (c.toList.take off ++ vs ++ c.toList.drop (off + vs.length)).toArray.getD k undef = if off ≤ k ∧ k < off + vs.length then vs.getD (k - off) undef else c.getD k undef := by
  rw [getD_ofList]
  have hcl : c.toList.length = c.size := by simp
  by_cases h1 : k < off
  · rw [if_neg (by omega)]
    simp [List.getD, List.getElem?_append_left (show k < (c.toList.take off ++ vs).length by simp; omega), List.getElem?_append_left (show k < (c.toList.take off).length by simp; omega), List.getElem?_take, h1]
  · by_cases h2 : k < off + vs.length
    · rw [if_pos ⟨by omega, h2⟩]
      have hlen : (c.toList.take off).length = off := by simp; omega
      simp only [List.getD]
      rw [List.getElem?_append_left (by rw [List.length_append, hlen]; exact h2), List.getElem?_append_right (by rw [hlen]; omega), hlen]
    · rw [if_neg (by omega)]
      have hlen : (c.toList.take off ++ vs).length = off + vs.length := by simp; omega
      simp only [List.getD]
      rw [List.getElem?_append_right (by rw [hlen]; omega), hlen, List.getElem?_drop]
      have : off + vs.length + (k - (off + vs.length)) = k := by omega
      rw [this]
      simp

theorem storeVar_run {t : TypeId} {g off : Nat} {c : Array Value} {u : TypeId} {v : Value} (hs : sizeT P t = some v.cells.size) (hg : w.heap[g]? = some (.cells c u (0, 0)))
    (hfit : off + v.cells.size ≤ c.size) (h1 : ∀ x ∈ v.cells.toList, x.oneCell' = true) :
    (storeVar t ⟨g, off, none⟩ v).run P w = .ok () (w.setRow g (c.toList.take off ++ v.cells.toList ++ c.toList.drop (off + v.cells.toList.length)).toArray) := by
  have hst := run_storeCells_at P g off u v.cells.toList 0 c w hg (by simpa using hfit) h1
  simp only [Nat.add_zero] at hst
  simp [storeVar, run_sizeOf hs, hst]

def Gives0 (P : Program) (H : Heap) (E : Emb) (w : World) (fresh : Nat) (s : Sem Unit) (r : Res) : Prop :=
  ∃ w', s.run P w = .ok () w' ∧ Post H E w fresh r undef w'

theorem ivs_some {cs : List AV} {xs : List IV} (h : ivs? cs = some xs) : cs = xs.map .i := by
  induction cs generalizing xs with
  | nil => injection h with h; subst h; rfl
  | cons a l ih =>
    simp only [ivs?] at h
    split at h
    · rename_i v vs hv hvs
      injection h with h
      subst h
      rw [List.map_cons, ← ih hvs]
      cases a <;> simp [AV.iv?] at hv
      subst hv
      rfl
    · cases h

theorem storeA_gives {t : TypeId} {p x : AV} {vp vx : Value} {r : Res} (h : HOk H E w) (hp : VR H E w p vp) (hx : VR H E w x vx) (hr : storeA P H t p x = some r) (hps : AllP r.ps) (hfr : ∀ k, k < 4 → get H (fresh + k) = none) :
    Gives0 P H E w fresh (Instr.storeAt t vp vx) r := by
  unfold storeA at hr
  cases hs : sizeT P t with
  | none => rw [hs] at hr; cases hr
  | some sz =>
    simp only [hs, nbeq, lenN_eq] at hr
    by_cases hl : x.cells.length = sz
    case neg => simp [hl] at hr
    cases hone : allOne x.cells with
    | false => simp [hone] at hr
    | true =>
    simp only [hl, hone, decide_true] at hr
    obtain ⟨hlen, hcell⟩ := hx.cells_ hone
    have hones := hx.ones hone
    have hs' : sizeT P t = some vx.cells.size := by rw [hs, ← hl, hlen]
    cases hp with
    | ptr id off g hg =>
      simp only at hr
      cases ho : get H id with
      | none => rw [ho] at hr; cases hr
      | some o =>
        rw [ho] at hr
        cases o with
        | cells u cs =>
          simp only [nble, lenN_eq] at hr
          by_cases hle : off + sz ≤ cs.length
          case neg => simp [hle] at hr
          simp only [hle, decide_true] at hr
          injection hr with hr
          subst hr
          obtain ⟨g', c, h1, h2, h3, h4, h5⟩ := h.obj id _ ho
          rw [hg] at h1; injection h1 with h1; subst h1
          have hrun := storeVar_run (P := P) (off := off) hs' h3 (by omega) hones
          refine ⟨_, by simp only [Instr.storeAt, sure_pointer, Sem.run_bind, Sem.run_pure, Result.andThen_ok]; exact hrun, ?_⟩
          have hwr := h.write (w' := w.setRow g _) id g (.cells u (splice cs off x.cells)) hg h2 trivial (.inr (by simp [verOf, ho])) rfl rfl rfl (size_setRow _ _ _) (fun k hk => setRow_other w g k _ hk)
            (fun xx => ⟨g, (c.toList.take off ++ vx.cells.toList ++ c.toList.drop (off + vx.cells.toList.length)).toArray, hg, h2, setRow_heap w g c _ u _ h3, by simp [splice_eq]; omega, fun k hk => by
              rw [nth_splice _ _ _ _ (by omega), vsplice_getD _ _ _ _ (by simp; omega)]
              have hvl : vx.cells.toList.length = x.cells.length := by rw [hlen]; simp
              by_cases hq : off ≤ k ∧ k < off + x.cells.length
              · rw [if_pos hq, if_pos (by rw [hvl]; exact hq)]
                have := (hcell (k - off) (by omega)).ext xx
                simpa [List.getD, Array.getD, show k - off < vx.cells.size by omega] using this
              · rw [if_neg hq, if_neg (by rw [hvl]; exact hq)]
                have hk' : k < cs.length := by
                  simp [splice_eq] at hk; omega
                exact (h5 k hk').ext xx⟩)
          exact ⟨⟨E, hwr.2, .any _, hwr.1⟩, fun k hk hn => by
            simp only [puts_cons, puts_nil, get_put]
            split
            · rename_i e; subst e; rw [ho] at hn; cases hn
            · exact hn⟩
        | _ => cases hr
    | pel id ver rsz k j v0 v hg hvone hc =>
      simp only at hr
      cases ho : get H id with
      | none => rw [ho] at hr; cases hr
      | some o =>
        rw [ho] at hr
        cases o with
        | row e sz' ver' n f =>
          simp only [nble, nbeq] at hr
          by_cases h2 : rsz = sz'
          case neg => simp [h2] at hr
          by_cases h3 : j + sz ≤ sz'
          case neg => simp [h2, h3] at hr
          simp only [h2, h3, decide_true] at hr
          cases hiv : ivs? x.cells with
          | none => rw [hiv] at hr; cases hr
          | some xs =>
          rw [hiv] at hr
          injection hr with hr
          subst hr
          have h1 : ver = ver' := hps.1
          subst h1 h2
          have hk : k < n := hps.2.1
          obtain ⟨_, hat⟩ := hc ver (by simp [verOf, ho])
          obtain ⟨g, m, c, hv0, rfl⟩ := hat rfl
          obtain ⟨hsz, v0', ys, h4, h5, h6, h7⟩ := h.obj id _ ho
          rw [hg] at h4; injection h4 with h4; subst h4
          rcases h5.2 with ⟨hh, _⟩ | ⟨g', cap, cur, hv0', _, hh, hnc, hcm, hcs, htk⟩
          · rw [hh] at hv0; cases hv0
          rw [hv0'] at hv0
          injection hv0 with hv0 hm hcc
          injection hv0 with hv0
          injection hv0 with hv0
          subst hv0 hm hcc
          have hx' := ivs_some hiv
          have hxl : xs.length = sz := by rw [← hl, hx']; simp
          have hle : k * rsz + j + sz ≤ n * rsz := by
            have : (k + 1) * rsz ≤ n * rsz := Nat.mul_le_mul_right _ hk
            rw [Nat.succ_mul] at this; omega
          have hcap : n * rsz ≤ cur.size := by rw [hcs]; exact Nat.mul_le_mul_right _ hnc
          have hrun := storeVar_run (P := P) (off := k * rsz + j) hs' hh (by omega) hones
          refine ⟨_, by simp only [Instr.storeAt, sure_pointer, Sem.run_bind, Sem.run_pure, Result.andThen_ok]; exact hrun, ?_⟩
          have hown : E.own g' = .by_ id := h6 g' (by simp [hv0', Value.ownBlock])
          have hset : E.setRow id v0 = E := by
            cases E with
            | mk b rv ow =>
              simp only [Emb.setRow, Emb.mk.injEq, true_and]
              refine ⟨funext fun q => ?_, funext fun q => ?_⟩
              · by_cases e : q = id
                · subst e; simp; exact hg.symm
                · simp [e]
              · by_cases e : v0.ownBlock = some q
                · simp [e]; exact (h6 q e).symm
                · simp [e]
          have hwr := h.rowTurn (w' := w.setRow g' (cur.toList.take (k * rsz + j) ++ vx.cells.toList ++ cur.toList.drop (k * rsz + j + vx.cells.toList.length)).toArray) id e rsz ver n (setF f k j xs) v0 (fun v1 hv1 => by rw [hg] at hv1; injection hv1 with hv1; exact ⟨ver, by simp [verOf, ho], Nat.le_refl _, fun _ => hv1⟩)
            (fun q _ hq => h6 q hq) (fun q hq => by rw [size_setRow]; exact (h5.lt q hq).2) rfl rfl rfl (by rw [size_setRow]; exact Nat.le_refl _) (fun q _ hq => setRow_other w g' q _ (fun e => hq (by rw [e]; exact hown)))
            (fun xx => by
              rw [hset] at xx ⊢
              refine ⟨hsz, v0, ((cur.toList.take (k * rsz + j) ++ vx.cells.toList ++ cur.toList.drop (k * rsz + j + vx.cells.toList.length)).take (n * rsz)), hg, ⟨?_, .inr ⟨g', cap, _, hv0', Nat.zero_le _, setRow_heap w g' cur _ e _ hh, hnc, hcm, ?_, rfl⟩⟩, h6, fun a b ha hb => ?_⟩
              · simp; omega
              · simp; omega
              · have hab := idx_lt ha hb
                have hge : ((cur.toList.take (k * rsz + j) ++ vx.cells.toList ++ cur.toList.drop (k * rsz + j + vx.cells.toList.length)).take (n * rsz)).getD (a * rsz + b) undef =
                    (cur.toList.take (k * rsz + j) ++ vx.cells.toList ++ cur.toList.drop (k * rsz + j + vx.cells.toList.length)).toArray.getD (a * rsz + b) undef := by
                  rw [getD_ofList]
                  simp [List.getD, List.getElem?_take, hab]
                rw [hge, vsplice_getD _ _ _ _ (by simp; omega)]
                have hvl : vx.cells.toList.length = sz := by simp; omega
                have hold : cur.getD (a * rsz + b) undef = ys.getD (a * rsz + b) undef := by
                  rw [← htk]
                  have hbb : a * rsz + b < cur.size := by omega
                  simp [List.getD, List.getElem?_take, hab, Array.getD, hbb]
                simp only [setF, nbeq, nble, lenN_eq, hxl]
                by_cases hak : a = k
                · subst hak
                  simp only [decide_true]
                  by_cases hb1 : j ≤ b
                  · by_cases hb2 : b + 1 ≤ j + sz
                    · simp only [hb1, hb2, decide_true]
                      rw [if_pos ⟨by omega, by omega⟩]
                      have := (hcell (b - j) (by omega)).ext xx
                      rw [hx'] at this
                      have hb3 : a * rsz + b - (a * rsz + j) = b - j := by omega
                      have hn : nth (xs.map AV.i) (b - j) = .i (nthI xs (b - j)) := by
                        rw [nth_eq, nthI_eq]; simp [List.getD, show b - j < xs.length by omega]
                      rw [hn] at this
                      cases this with
                      | i _ _ hh' => rw [hb3]; simpa [List.getD, Array.getD, show b - j < vx.cells.size by omega] using hh'
                    · simp only [hb1, hb2, decide_true, decide_false]
                      rw [if_neg (by omega), hold]
                      exact (h7 a b ha hb).ext xx
                  · simp only [hb1, decide_false]
                    rw [if_neg (by omega), hold]
                    exact (h7 a b ha hb).ext xx
                · simp only [hak, decide_false]
                  have hne : ¬ (k * rsz + j ≤ a * rsz + b ∧ a * rsz + b < k * rsz + j + vx.cells.toList.length) := by
                    intro ⟨q1, q2⟩
                    rcases Nat.lt_or_gt_of_ne hak with q | q
                    · have : (a + 1) * rsz ≤ k * rsz := Nat.mul_le_mul_right _ q
                      rw [Nat.succ_mul] at this; omega
                    · have : (k + 1) * rsz ≤ a * rsz := Nat.mul_le_mul_right _ q
                      rw [Nat.succ_mul] at this; omega
                  rw [if_neg hne, hold]
                  exact (h7 a b ha hb).ext xx)
          rw [hset] at hwr
          exact ⟨⟨E, hwr.2, .any _, hwr.1⟩, fun q hq hn => by
            simp only [puts_cons, puts_nil, get_put]
            split
            · rename_i e'; subst e'; rw [ho] at hn; cases hn
            · exact hn⟩
        | _ => cases hr
    | _ => cases hr

/-! ### Addresses and parts -/
theorem fieldOff_some {s : TypeId} {k sz : Nat} {f : Field} (h : fieldOff P s k = some (f, sz)) : ∃ fs, P.underlying s = some (.struct fs) ∧ fs[k]? = some f ∧ sizeT P f.type = some sz := by
  unfold fieldOff at h
  split at h
  · rename_i fs hu
    split at h
    · rename_i f' hf
      split at h
      · rename_i sz' hs
        injection h with h
        injection h with h1 h2
        subst h1 h2
        exact ⟨fs, hu, hf, hs⟩
      · cases h
    · cases h
  · cases h

theorem fieldAt_run {s : TypeId} {k sz g o : Nat} {f : Field} (h : fieldOff P s k = some (f, sz)) (hz : sz ≠ 0) (w : World) :
    (Instr.fieldAt s (.pointer (some ⟨g, o, none⟩)) k).run P w = .ok (.pointer (some ⟨g, o + f.offset, none⟩)) w := by
  obtain ⟨fs, hu, hf, hs⟩ := fieldOff_some h
  simp [Instr.fieldAt, run_underlying hu, hf, sure_pointer, fieldPlace, run_sizeOf hs, hz, Addr.add_lit]

theorem fieldAddrA_gives {s : TypeId} {p : AV} {vp : Value} {k : Nat} {r : Res} (h : HOk H E w) (hp : VR H E w p vp) (hr : fieldAddrA P s p k = some r) : Gives P H E w fresh (Instr.fieldAt s vp k) r := by
  unfold fieldAddrA at hr
  split at hr
  · rename_i f sz hf
    simp only [nbeq] at hr
    by_cases hz : sz = 0
    · simp [hz] at hr
    simp only [hz, decide_false] at hr
    cases hp with
    | ptr id off g hg =>
      injection hr with hr; subst hr
      exact .same h (fieldAt_run hf hz w) (.ptr _ _ _ hg)
    | pel id ver rsz q j v0 v hg hone hc =>
      injection hr with hr; subst hr
      obtain ⟨g, o, rfl⟩ := hone
      refine .same h (fieldAt_run hf hz w) (.pel _ _ _ _ _ v0 _ hg ⟨g, _, rfl⟩ fun c hc' => ?_)
      obtain ⟨h1, h2⟩ := hc c hc'
      refine ⟨h1, fun e => ?_⟩
      obtain ⟨g', m, c', h3, h4⟩ := h2 e
      injection h4 with h4; injection h4 with h4; injection h4 with h4 h5
      subst h4 h5
      exact ⟨g, m, c', h3, by rw [Nat.add_assoc]⟩
    | ro n f' off g o u hg hs hu hf' =>
      injection hr with hr; subst hr
      exact .same h (fieldAt_run hf hz w) (by rw [Nat.add_assoc]; exact .ro _ _ _ _ _ u hg hs hu hf')
    | _ => cases hr
  · cases hr

theorem part_run {t : TypeId} {sz off : Nat} {cs : List AV} {vs : Array Value} {a : AV} (hs : sizeT P t = some sz) (hm : mkVal P t (takeN sz (dropN off cs)) = some a) (hle : off + sz ≤ cs.length)
    (hl : cs.length = vs.size) (hv : ∀ k, k < cs.length → VR H E w (nth cs k) (vs.getD k undef)) : ∃ v, (part t vs off).run P w = .ok v w ∧ VR H E w a v := by
  unfold part
  rcases mkVal_some hm with ⟨ha, rfl⟩ | ⟨ha, hc⟩
  · refine ⟨.agg (vs.extract off (off + sz)), by simp [run_isAgg ha, run_sizeOf hs], .agg _ _ (by simp [takeN_eq, dropN_eq]; omega) fun k hk => ?_⟩
    have hk' : k < sz := by simp [takeN_eq] at hk; omega
    rw [nth_take_drop _ _ _ _ hk']
    have := hv (off + k) (by omega)
    simpa [Array.getD, show off + k < vs.size by omega, show k < min (off + sz) vs.size - off by omega] using this
  · have h1 : sz = 1 := by have := congrArg List.length hc; simp [takeN_eq, dropN_eq] at this; omega
    subst h1
    have hlt : off < vs.size := by omega
    refine ⟨vs.getD off undef, by simp [run_isAgg ha, hlt, Array.getD], ?_⟩
    have h0 := nth_take_drop cs off 1 0 (by omega)
    rw [hc] at h0
    have h0' : a = nth cs off := h0
    rw [h0']
    exact hv off (by omega)

theorem fieldA_gives {s : TypeId} {x : AV} {vx : Value} {k : Nat} {r : Res} (h : HOk H E w) (hx : VR H E w x vx) (hr : fieldA P s x k = some r) : Gives P H E w fresh (Instr.field s vx k) r := by
  unfold fieldA at hr
  split at hr
  · rename_i f sz cs hf
    simp only [nble, lenN_eq] at hr
    by_cases hle : f.offset + sz ≤ cs.length
    case neg => simp [hle] at hr
    simp only [hle, decide_true] at hr
    obtain ⟨a, ha, rfl⟩ := bind_some_v hr
    obtain ⟨fs, hu, hff, hs⟩ := fieldOff_some hf
    cases hx with
    | agg _ vs hl hv =>
      obtain ⟨v, h1, h2⟩ := part_run (P := P) hs ha hle hl hv
      exact .same h (by simp [Instr.field, run_underlying hu, hff, asAgg, h1]) h2
  · cases hr

theorem intOf_some {a : AV} {k : IntKind} {n : Int} (h : intOf a = some (k, n)) : a = .i (.sc (.int k n)) := by
  unfold intOf at h
  split at h
  · injection h with h; injection h with h1 h2; subst h1 h2; rfl
  · cases h
theorem VR.sc_ {v u : Value} (h : VR H E w (.i (.sc v)) u) : u = v := by cases h with | i _ _ h => cases h; rfl

theorem asIntOf_run (k : IntKind) (n : Int) : (asIntOf (.int k n)).run P w = .ok (k, n) w := rfl

theorem indexAt_slice {t e : TypeId} {sz len cap g o : Nat} {k : IntKind} {i : Int} (hu : P.underlying t = some (.slice e)) (hs : sizeT P e = some sz) (h0 : 0 ≤ i) (h1 : i < (len : Int)) (w : World) :
    (Instr.indexAt t (.slice (some ⟨g, o, none⟩) len cap) (.int k i)).run P w = .ok (.pointer (some ⟨g, o + i.toNat * sz, none⟩)) w := by
  simp [Instr.indexAt, asIntOf, run_underlying hu, run_sizeOf hs, h0, h1, Addr.add_lit]
theorem indexAt_array {t e : TypeId} {sz len g o : Nat} {k : IntKind} {i : Int} (hu : P.underlying t = some (.array len e)) (hs : sizeT P e = some sz) (h0 : 0 ≤ i) (h1 : i < (len : Int)) (w : World) :
    (Instr.indexAt t (.pointer (some ⟨g, o, none⟩)) (.int k i)).run P w = .ok (.pointer (some ⟨g, o + i.toNat * sz, none⟩)) w := by
  simp [Instr.indexAt, asIntOf, run_underlying hu, run_sizeOf hs, h0, h1, Addr.add_lit, sure_pointer]

theorem indexAddrA_gives {t : TypeId} {x i : AV} {vx vi : Value} {r : Res} (h : HOk H E w) (hx : VR H E w x vx) (hi : VR H E w i vi) (hr : indexAddrA P t x i = some r) (hps : AllP r.ps) :
    Gives P H E w fresh (Instr.indexAt t vx vi) r := by
  unfold indexAddrA at hr
  split at hr
  · cases hr
  · rename_i kk k hk
    obtain rfl := intOf_some hk
    obtain rfl := hi.sc_
    split at hr
    · rename_i e hu
      split at hr
      · rename_i sz n sz' f hs
        simp only [nbeq] at hr
        by_cases e1 : sz = sz'
        case neg => simp [e1] at hr
        subst e1
        by_cases e2 : sz = 0
        case pos => simp [e2] at hr
        simp only [e2, decide_true, decide_false] at hr
        injection hr with hr
        subst hr
        obtain ⟨h0, h1, _⟩ := hps
        cases hx with
        | i _ _ hv =>
          cases hv with
          | sv _ _ _ a cap g o u hc ha huu hff =>
            obtain ⟨rfl, h2, h3⟩ := ha (by omega)
            refine .same h (indexAt_slice hu hs h0 h1 w) ?_
            have := VR.ro (H := H) (E := E) (w := w) sz (fun j => f k.toNat j) 0 g (o + k.toNat * sz) (fun j => u k.toNat j) h2 h3 (fun j hj => huu _ j (by omega) hj) (fun j hj => hff _ j (by omega) hj)
            exact this
      · rename_i sz id ver sz' lo n hs
        simp only [nbeq] at hr
        by_cases e1 : sz = sz'
        case neg => simp [e1] at hr
        subst e1
        by_cases e2 : sz = 0
        case pos => simp [e2] at hr
        simp only [e2, decide_true, decide_false] at hr
        injection hr with hr
        subst hr
        obtain ⟨h0, h1, _⟩ := hps
        cases hx with
        | row _ _ _ _ _ v0 _ hv hsh hc =>
          obtain ⟨A, c, rfl, hnc, hA⟩ := hsh
          obtain ⟨g, o, rfl⟩ := hA (by omega)
          refine .same h (indexAt_slice hu hs h0 h1 w) (.pel _ _ _ _ _ v0 _ hv ⟨g, _, rfl⟩ fun c' hc' => ?_)
          obtain ⟨h2, h3⟩ := hc c' hc'
          refine ⟨h2, fun e => ?_⟩
          rcases h3 e with ⟨_, h4, _⟩ | ⟨g', m, c2, A, h4, h5, h6, h7, h8⟩
          · cases h4
          · injection h5 with h5 h9 h10
            have := h8 (by omega)
            rw [← h5] at this
            injection this with this
            injection this with e1 e2
            subst e1 e2
            exact ⟨g, m, c2, h4, by rw [Nat.add_zero, Nat.add_mul]⟩
      · rename_i sz id off n cap hs
        injection hr with hr
        subst hr
        obtain ⟨h0, h1, _⟩ := hps
        cases hx with
        | sl _ _ _ _ g hg hc => exact .same h (indexAt_slice hu hs h0 h1 w) (.ptr _ _ _ hg)
      · cases hr
    · rename_i n e hu
      split at hr
      · rename_i sz id off hs
        injection hr with hr
        subst hr
        obtain ⟨h0, h1, _⟩ := hps
        cases hx with
        | ptr _ _ g hg => exact .same h (indexAt_array hu hs h0 h1 w) (.ptr _ _ _ hg)
      · rename_i sz m f off hs
        injection hr with hr
        subst hr
        obtain ⟨h0, h1, _⟩ := hps
        cases hx with
        | ro _ _ _ g o u hg hsz huu hf => exact .same h (indexAt_array hu hs h0 h1 w) (by rw [Nat.add_assoc]; exact .ro _ _ _ _ _ u hg hsz huu hf)
      · rename_i sz id ver rsz q j hs
        injection hr with hr
        subst hr
        obtain ⟨h0, h1, _⟩ := hps
        cases hx with
        | pel _ _ _ _ _ v0 _ hg hone hc =>
          obtain ⟨g, o, rfl⟩ := hone
          refine .same h (indexAt_array hu hs h0 h1 w) (.pel _ _ _ _ _ v0 _ hg ⟨g, _, rfl⟩ fun c hc' => ?_)
          obtain ⟨h2, h3⟩ := hc c hc'
          refine ⟨h2, fun e => ?_⟩
          obtain ⟨g', m, c', h4, h5⟩ := h3 e
          injection h5 with h5; injection h5 with h5; injection h5 with h5 h6
          subst h5 h6
          exact ⟨g, m, c', h4, by rw [Nat.add_assoc]⟩
      · cases hr
    · cases hr

theorem byteAt_some {s : ByteArray} {i : Int} (h0 : 0 ≤ i) (h1 : i < (s.size : Int)) : ∃ b : UInt8, s[i.toNat]? = some b ∧ (b.toNat : Int) = byteAt s i := by
  have hlt : i.toNat < s.size := by omega
  refine ⟨s[i.toNat], by simp [hlt], ?_⟩
  have : s.data[i.toNat]? = some s[i.toNat] := by
    have hd : i.toNat < s.data.size := hlt
    rw [Array.getElem?_eq_getElem hd]
    rfl
  simp [byteAt, this]

theorem indexA_gives {t : TypeId} {x i : AV} {vx vi : Value} {r : Res} (h : HOk H E w) (hx : VR H E w x vx) (hi : VR H E w i vi) (hr : indexA P t x i = some r) (hps : AllP r.ps) :
    Gives P H E w fresh (Instr.index t vx vi) r := by
  unfold indexA at hr
  split at hr
  · cases hr
  · rename_i kk k hk
    obtain rfl := intOf_some hk
    obtain rfl := hi.sc_
    split at hr
    · rename_i s hu
      injection hr with hr
      subst hr
      obtain ⟨h0, h1, _⟩ := hps
      have h0 : 0 ≤ k := h0
      obtain rfl := hx.sc_
      obtain ⟨b, hb, hb'⟩ := byteAt_some h0 h1
      refine .same (v := .int .u8 (byteAt s k)) h ?_ (.i _ _ (.sc _ rfl))
      simp [Instr.index, asIntOf, run_underlying hu, h0, hb, hb']
    · rename_i n e cs hu
      split at hr
      · rename_i sz hs
        split at hr
        · rename_i a ha
          injection hr with hr
          subst hr
          obtain ⟨h0, h1, h2, _⟩ := hps
          have h0 : 0 ≤ k := h0
          have h1 : k < (n : Int) := h1
          cases hx with
          | agg _ vs hl hv =>
            obtain ⟨v, h3, h4⟩ := part_run (P := P) hs ha h2 hl hv
            exact .same h (by simp [Instr.index, asIntOf, run_underlying hu, h0, h1, run_sizeOf hs, h3]) h4
        · cases hr
      · cases hr
    · cases hr

/-! ### Slice expressions -/
def OptVR (H : Heap) (E : Emb) (w : World) : Option AV → Option Value → Prop
  | none, none => True
  | some a, some v => VR H E w a v
  | _, _ => False

theorem sliceBounds_run {lo hi : Option AV} {vlo vhi : Option Value} {len cap : Nat} {l u : Int} (b : Bool) (h1 : OptVR H E w lo vlo) (h2 : OptVR H E w hi vhi) (hl : bound? lo 0 = some l) (hu : bound? hi (len : Int) = some u)
    (h0 : 0 ≤ l) (hlu : l ≤ u) (huc : u ≤ (cap : Int)) : (Instr.sliceBounds b len cap vlo vhi none).run P w = .ok (l.toNat, u.toNat, cap) w := by
  have hhi : ∃ uu : Nat, u = uu := ⟨u.toNat, by omega⟩
  obtain ⟨un, rfl⟩ := hhi
  have hll : ∃ ll : Nat, l = ll := ⟨l.toNat, by omega⟩
  obtain ⟨ln, rfl⟩ := hll
  cases lo <;> cases vlo <;> simp only [OptVR] at h1
  · simp only [bound?] at hl
    injection hl with hl
    have : ln = 0 := by omega
    subst this
    cases hi <;> cases vhi <;> simp only [OptVR] at h2
    · simp only [bound?] at hu
      injection hu with hu
      have : len = un := by omega
      subst this
      simp [Instr.sliceBounds]
    · simp only [bound?] at hu
      split at hu
      · rename_i hk; injection hu with hu; subst hu
        obtain rfl := intOf_some hk
        obtain rfl := h2.sc_
        have : un ≤ cap := by omega
        simp [Instr.sliceBounds, Instr.sliceBound, asIntOf, this]
      · cases hu
  · simp only [bound?] at hl
    split at hl
    · rename_i hk; injection hl with hl; subst hl
      obtain rfl := intOf_some hk
      obtain rfl := h1.sc_
      cases hi <;> cases vhi <;> simp only [OptVR] at h2
      · simp only [bound?] at hu
        injection hu with hu
        have : len = un := by omega
        subst this
        have : ln ≤ len := by omega
        simp [Instr.sliceBounds, Instr.sliceBound, asIntOf, this]
      · simp only [bound?] at hu
        split at hu
        · rename_i hk'; injection hu with hu; subst hu
          obtain rfl := intOf_some hk'
          obtain rfl := h2.sc_
          have h3 : un ≤ cap := by omega
          have h4 : ln ≤ un := by omega
          simp [Instr.sliceBounds, Instr.sliceBound, asIntOf, h3, h4]
        · cases hu
    · cases hl

theorem sliceAt_slice {t e : TypeId} {sz : Nat} {A : Option Addr} {n c : Nat} {vlo vhi : Option Value} {l u m : Nat} (hu : P.underlying t = some (.slice e)) (hs : sizeT P e = some sz)
    (hb : (Instr.sliceBounds true n c vlo vhi none).run P w = .ok (l, u, m) w) :
    (Instr.sliceAt t (.slice A n c) vlo vhi none).run P w = .ok (.slice (if m = l then A else A.map (·.add (l * sz))) (u - l) (m - l)) w := by
  simp [Instr.sliceAt, run_underlying hu, Instr.slice, hb, run_sizeOf hs]

theorem sliceA_gives {t : TypeId} {x : AV} {lo hi mx : Option AV} {vx : Value} {vlo vhi vmx : Option Value} {r : Res} (h : HOk H E w) (hx : VR H E w x vx) (h1 : OptVR H E w lo vlo) (h2 : OptVR H E w hi vhi) (h3 : OptVR H E w mx vmx)
    (hr : sliceA P t x lo hi mx = some r) (hps : AllP r.ps) : Gives P H E w fresh (Instr.sliceAt t vx vlo vhi vmx) r := by
  unfold sliceA at hr
  split at hr
  · cases hr
  · cases vmx with
    | some v => exact h3.elim
    | none =>
    split at hr
    · rename_i s hu
      split at hr
      · rename_i l u hl hh
        injection hr with hr
        subst hr
        obtain ⟨h4, h5, h6, _⟩ := hps
        obtain rfl := hx.sc_
        have hb := sliceBounds_run (P := P) (cap := s.size) false h1 h2 hl hh h4 h5 h6
        exact .same (v := .string (s.extract l.toNat u.toNat)) h (by simp [Instr.sliceAt, run_underlying hu, Instr.slice, hb]) (.i _ _ (.sc _ rfl))
      · cases hr
    · rename_i e n sz f hu
      split at hr
      · rename_i sz' l u hs hl hh
        simp only [nbeq] at hr
        by_cases e1 : sz = sz'
        case neg => simp [e1] at hr
        subst e1
        simp only [decide_true] at hr
        injection hr with hr
        subst hr
        obtain ⟨h4, h5, h6, _⟩ := hps
        cases hx with
        | i _ _ hv =>
          cases hv with
          | sv _ _ _ a cap g o uu hc ha huu hff =>
            have hb := sliceBounds_run (P := P) (cap := cap) true h1 h2 hl hh h4 h5 (by omega)
            refine .same h (sliceAt_slice hu hs hb) (.i _ _ ?_)
            refine .sv _ _ _ _ _ g (o + l.toNat * sz) (fun i j => uu (l.toNat + i) j) (by omega) (fun hn => ?_) (fun i j hi hj => ?_) (fun i j hi hj => hff _ _ (by omega) hj)
            · obtain ⟨h7, h8, h9⟩ := ha (by omega)
              refine ⟨?_, h8, h9⟩
              have hlt : ¬ cap = l.toNat := by omega
              simp [hlt, h7, Addr.add_lit]
            · have := huu (l.toNat + i) j (by omega) hj
              rw [Nat.add_mul] at this
              rw [show o + l.toNat * sz + i * sz + j = o + (l.toNat * sz + i * sz) + j by omega]
              exact this
      · cases hr
    · rename_i e id ver sz lo0 n hu
      split at hr
      · rename_i sz' l u hs hl hh
        simp only [nbeq] at hr
        by_cases e1 : sz = sz'
        case neg => simp [e1] at hr
        subst e1
        simp only [decide_true] at hr
        injection hr with hr
        subst hr
        obtain ⟨h4, h5, h6, _⟩ := hps
        cases hx with
        | row _ _ _ _ _ v0 _ hv hsh hc =>
          obtain ⟨A, c, rfl, hnc, hA⟩ := hsh
          have hb := sliceBounds_run (P := P) (cap := c) true h1 h2 hl hh h4 h5 (by omega)
          refine .same h (sliceAt_slice hu hs hb) (.row _ _ _ _ _ v0 _ hv ⟨_, _, rfl, by omega, fun hn => ?_⟩ fun c' hc' => ?_)
          · obtain ⟨g, o, rfl⟩ := hA (by omega)
            have hlt : ¬ c = l.toNat := by omega
            exact ⟨g, o + l.toNat * sz, by simp [hlt, Addr.add_lit]⟩
          · obtain ⟨h7, h8⟩ := hc c' hc'
            refine ⟨h7, fun e' => ?_⟩
            rcases h8 e' with ⟨h9, h10, h11, h12⟩ | ⟨g, m, c2, A', h9, h10, h11, h12, h13⟩
            · injection h10 with h10 h14 h15
              subst h10 h14 h15
              have hl0 : l.toNat = 0 := by omega
              have hu0 : u.toNat = 0 := by omega
              exact .inl ⟨h9, by simp [hl0, hu0], by omega, by omega⟩
            · injection h10 with h10 h14 h15
              subst h10
              refine .inr ⟨g, m, c2, _, h9, by rw [h15, Nat.sub_sub], by omega, fun hz => ?_, fun hlt => ?_⟩
              · have e1 : lo0 = 0 := by omega
                have e2 : l.toNat = 0 := by omega
                rw [h12 e1, e2]
                simp [Addr.add_lit]
              · have hne : ¬ c2 - lo0 = l.toNat := by omega
                rw [h13 (by omega)]
                simp [hne, Addr.add_lit, Nat.add_mul]
      · cases hr
    · rename_i e hu
      split at hr
      · rename_i szz l u hs hl hh
        injection hr with hr
        subst hr
        obtain ⟨rfl, rfl, _⟩ := hps
        obtain rfl := hx.sc_
        have hb := sliceBounds_run (P := P) (len := 0) (cap := 0) true h1 h2 hl hh (by omega) (by omega) (by omega)
        exact .same (v := .slice none 0 0) h (sliceAt_slice hu hs hb) (.i _ _ (.sc _ rfl))
      · cases hr
    · cases hr

/-! ### What is made -/
theorem ones_mem {l : List Value} (h : ones l = true) : ∀ v ∈ l, v.oneCell' = true := by
  induction l with
  | nil => intro v hv; cases hv
  | cons a l ih =>
    simp only [ones] at h
    split at h
    · rename_i ha
      intro v hv
      cases hv with
      | head => exact ha
      | tail _ hv => exact ih h v hv
    · cases h

theorem constV_VR (v : Value) : VR H E w (constV v) v := by
  unfold constV
  split
  · rename_i cs
    split
    · rename_i h
      refine .agg _ _ (by simp) fun k hk => ?_
      have hk' : k < cs.size := by simpa using hk
      rw [nth_eq]
      simp only [List.getD, List.getElem?_map, Array.getElem?_toList, Array.getElem?_eq_getElem hk', Option.map_some, Option.getD_some, Array.getD, hk', dite_true]
      exact .i _ _ (.sc _ (ones_mem h _ (by simp)))
    · exact .any _
  · exact .any _
  · rename_i h1 h2
    exact .i _ _ (.sc _ (by cases v <;> first | rfl | (exact absurd rfl (h1 _)) | (exact absurd rfl (h2 _))))

theorem zeroT_some {t : TypeId} {z : List AV} (h : zeroT P t = some z) : ∃ i v, P.info? t = some i ∧ i.zero = some v ∧ z.length = v.cells.size ∧ allOne z = true ∧
    (∀ (H : Heap) (E : Emb) (w : World) k, k < z.length → VR H E w (nth z k) (v.cells.getD k undef)) := by
  unfold zeroT at h
  split at h
  · rename_i i hi
    split at h
    · rename_i v hv
      split at h
      · rename_i ho
        injection h with h
        subst h
        exact ⟨i, v, hi, hv, ((constV_VR (H := []) (E := ⟨fun _ => none, fun _ => none, fun _ => .free⟩) (w := ⟨#[], fun _ _ => 0, 0, default, #[]⟩) v).cells_ ho).1, ho, fun H E w k hk => ((constV_VR v).cells_ ho).2 k hk⟩
      · cases h
    · cases h
  · cases h

theorem run_zeroValue {t : TypeId} {i : TypeInfo} {v : Value} (hi : P.info? t = some i) (hv : i.zero = some v) (w : World) : (zeroValue t).run P w = .ok v w := by
  simp [zeroValue, typeInfo, hi, hv]

theorem alloc_size (w : World) (o : Obj) : (w.alloc o).heap.size = w.heap.size + 1 := by simp

/-- A new block of cells. -/
theorem newCells (h : HOk H E w) {c : Array Value} {cs : List AV} (e : TypeId) (hf : get H fresh = none) (hl : c.size = cs.length) (hv : ∀ k, k < cs.length → VR H E w (nth cs k) (c.getD k undef)) :
    Ext H E w (put H fresh (.cells e cs)) (E.newBlk fresh w.heap.size) (w.alloc (.cells c e)) ∧ HOk (put H fresh (.cells e cs)) (E.newBlk fresh w.heap.size) (w.alloc (.cells c e)) :=
  h.newBlk (w' := w.alloc (.cells c e)) fresh (.cells e cs) hf trivial rfl rfl rfl (alloc_size _ _) (fun g hg => heap_alloc_old w _ g hg) fun x =>
    ⟨w.heap.size, c, by simp [Emb.newBlk], by simp [Emb.newBlk], heap_alloc_new w _, hl, fun k hk => (hv k hk).ext x⟩

theorem dom_put {o : AO} (k : Nat) (hk : k < fresh ∨ fresh + 4 ≤ k) (h : get H k = none) : get (put H fresh o) k = none := by
  rw [get_put]
  rw [if_neg (by omega)]
  exact h

theorem allocA_gives {e : TypeId} {z : List AV} (h : HOk H E w) (hf : get H fresh = none) (hz : zeroT P e = some z) : Gives P H E w fresh (Instr.alloc e true (.tuple #[])) ⟨.ptr fresh 0, [(fresh, .cells e z)], []⟩ := by
  obtain ⟨i, v, hi, hv, hl, ho, hvr⟩ := zeroT_some hz
  have hn := newCells (E := E) (w := w) h (c := v.cells) e hf hl.symm (fun k hk => hvr H E w k hk)
  exact ⟨.pointer (some ⟨w.heap.size, 0, none⟩), w.alloc (.cells v.cells e), by simp [Instr.alloc, run_zeroValue hi hv, newVar, newRow],
    ⟨⟨_, hn.2, .ptr _ _ _ (by simp [Emb.newBlk]), hn.1⟩, fun k hk hg => dom_put k hk hg⟩⟩

theorem boxA_gives {e : TypeId} {x : AV} {vx : Value} (h : HOk H E w) (hf : get H fresh = none) (hx : VR H E w x vx) (ho : allOne x.cells = true) : Gives P H E w fresh (Instr.box e vx) ⟨.ptr fresh 0, [(fresh, .cells e x.cells)], []⟩ := by
  obtain ⟨hl, hv⟩ := hx.cells_ ho
  have hn := newCells (E := E) (w := w) h (c := vx.cells) e hf hl.symm hv
  exact ⟨.pointer (some ⟨w.heap.size, 0, none⟩), w.alloc (.cells vx.cells e), by simp [Instr.box, newVar, newRow],
    ⟨⟨_, hn.2, .ptr _ _ _ (by simp [Emb.newBlk]), hn.1⟩, fun k hk hg => dom_put k hk hg⟩⟩

theorem foldl_fill (new : List Value) : ∀ (off j : Nat) (cs : Array Value), off + j + new.length ≤ cs.size →
    (new.zipIdx j).foldl (fun cs (c, j) => cs.setIfInBounds (off + j) c) cs = (cs.toList.take (off + j) ++ new ++ cs.toList.drop (off + j + new.length)).toArray := by
  induction new with
  | nil => intro off j cs _; simp
  | cons v rest ih =>
    intro off j cs h
    simp only [List.zipIdx_cons, List.foldl_cons]
    have := ih off (j + 1) (cs.setIfInBounds (off + j) v) (by simp at h ⊢; omega)
    rw [this]
    have e := list_seg_step cs.toList (off + j) v rest (by simp at h ⊢; omega)
    congr 1
    simpa [Array.toList_setIfInBounds, Nat.add_assoc] using e

def PartsVR (H : Heap) (E : Emb) (w : World) : List (Nat × AV) → List (Nat × Value) → Prop
  | [], [] => True
  | p :: ps, q :: qs => (p.1 = q.1 ∧ VR H E w p.2 q.2) ∧ PartsVR H E w ps qs
  | _, _ => False

theorem fill_run {place : Nat → Option (Nat × Nat)} : ∀ {parts : List (Nat × AV)} {vparts : List (Nat × Value)} {cs out : List AV} {c : Array Value},
    PartsVR H E w parts vparts → c.size = cs.length → (∀ k, k < cs.length → VR H E w (nth cs k) (c.getD k undef)) → fillA place cs parts = some out →
    ∃ o, Instr.fill place c vparts = some o ∧ o.size = out.length ∧ (∀ k, k < out.length → VR H E w (nth out k) (o.getD k undef)) ∧ out.length = cs.length
  | [], vparts, cs, out, c, hp, hl, hv, hf => by
    cases vparts with
    | cons => exact hp.elim
    | nil =>
    injection hf with hf
    subst hf
    exact ⟨c, rfl, hl, hv, rfl⟩
  | (k, a) :: rest, vparts, cs, out, c, hp, hl, hv, hf => by
    cases vparts with
    | nil => exact hp.elim
    | cons q vrest =>
      obtain ⟨qk, qv⟩ := q
      obtain ⟨⟨hkq, hq⟩, h2⟩ := hp
      replace hkq : k = qk := hkq
      replace hq : VR H E w a qv := hq
      subst hkq
      simp only [fillA, nbeq, nble, lenN_eq] at hf
      cases hpl : place k with
      | none => rw [hpl] at hf; cases hf
      | some os =>
        obtain ⟨off, size⟩ := os
        rw [hpl] at hf
        simp only at hf
        by_cases e1 : a.cells.length = size
        case neg => simp [e1] at hf
        subst e1
        by_cases e2 : off + a.cells.length ≤ cs.length
        case neg => simp [e2] at hf
        cases e3 : allOne a.cells with
        | false => simp [e2, e3] at hf
        | true =>
        simp only [e2, e3, decide_true] at hf
        obtain ⟨hal, hav⟩ := hq.cells_ e3
        have hsz : (splice cs off a.cells).length = cs.length := by simp [splice_eq]; omega
        have hvl : qv.cells.toList.length = a.cells.length := by simp [hal]
        have hfo := foldl_fill qv.cells.toList off 0 c (by omega)
        simp only [Nat.add_zero] at hfo
        have ih := fill_run (place := place) (c := (c.toList.take off ++ qv.cells.toList ++ c.toList.drop (off + qv.cells.toList.length)).toArray) h2 (by simp; omega) (fun j hj => by
          rw [nth_splice _ _ _ _ e2, vsplice_getD _ _ _ _ (by omega)]
          by_cases hq' : off ≤ j ∧ j < off + a.cells.length
          · rw [if_pos hq', if_pos (by rw [hvl]; exact hq')]
            have := hav (j - off) (by omega)
            simpa [List.getD, Array.getD, show j - off < qv.cells.size by omega] using this
          · rw [if_neg hq', if_neg (by rw [hvl]; exact hq')]
            exact hv j (by omega)) hf
        obtain ⟨o, i1, i2, i3, i4⟩ := ih
        refine ⟨o, ?_, i2, i3, by omega⟩
        simp only [Instr.fill, hpl]
        have hz : qv.cells.zipIdx.foldl (fun cs x => cs.setIfInBounds (off + x.2) x.1) c = (c.toList.take off ++ qv.cells.toList ++ c.toList.drop (off + qv.cells.toList.length)).toArray := by
          rw [← hfo, ← Array.foldl_toList]
          simp
        rw [if_neg (by simp; omega)]
        rw [hz]
        exact i1

theorem places_run : ∀ {fs : List Field} {l : List (Nat × Nat)}, placesS P fs = some l → ∀ w : World, (fs.mapM (m := Sem) fun f => Prod.mk f.offset <$> sizeOf f.type).run P w = .ok l w
  | [], l, h, w => by injection h with h; subst h; rfl
  | f :: fs, l, h, w => by
    simp only [placesS] at h
    split at h
    · rename_i sz r hs hr
      injection h with h
      subst h
      simp [run_sizeOf hs, places_run hr w]
    · cases h

theorem buildA_gives {t : TypeId} {parts : List (Nat × AV)} {vparts : Array (Nat × Value)} {r : Res} (h : HOk H E w) (hp : PartsVR H E w parts vparts.toList) (hr : buildA P t parts = some r) : Gives P H E w fresh (Instr.build t vparts) r := by
  unfold buildA at hr
  split at hr
  · rename_i z fs hz hu
    split at hr
    · rename_i l hl
      split at hr
      · rename_i cs hf
        injection hr with hr
        subst hr
        obtain ⟨i, v, hi, hv, hzl, ho, hvr⟩ := zeroT_some hz
        obtain ⟨o, h1, h2, h3, h4⟩ := fill_run (place := fun k => l[k]?) hp hzl.symm (hvr H E w) hf
        refine .same (v := .agg o) h ?_ (.agg _ _ h2.symm h3)
        have hm : (fs.mapM (m := Sem) fun f => Prod.mk f.offset <$> sizeOf f.type).run P w = .ok l.toArray w := by
          rw [Array.mapM_eq_mapM_toList]
          simp [places_run hl w]
        simp [Instr.build, run_zeroValue hi hv, run_underlying hu, hm, h1]
      · cases hr
    · cases hr
  · rename_i z n e hz hu
    split at hr
    · rename_i sz hs
      split at hr
      · rename_i cs hf
        injection hr with hr
        subst hr
        obtain ⟨i, v, hi, hv, hzl, ho, hvr⟩ := zeroT_some hz
        obtain ⟨o, h1, h2, h3, h4⟩ := fill_run hp hzl.symm (hvr H E w) hf
        refine .same (v := .agg o) h ?_ (.agg _ _ h2.symm h3)
        simp [Instr.build, run_zeroValue hi hv, run_underlying hu, run_sizeOf hs, h1]
      · cases hr
    · cases hr
  · cases hr

theorem repCells_length (z : List AV) (n : Nat) : (repCells z n).length = n * z.length := by
  induction n with
  | zero => simp [repCells]
  | succ n ih => simp [repCells, ih, Nat.succ_mul]; omega
theorem repCells_nth (z : List AV) : ∀ (n k : Nat), k < n * z.length → nth (repCells z n) k = nth z (k % z.length)
  | 0, k, h => by simp at h
  | n + 1, k, h => by
    simp only [repCells, nth_append]
    by_cases hk : k < z.length
    · rw [if_pos hk, Nat.mod_eq_of_lt hk]
    · rw [if_neg hk, repCells_nth z n _ (by rw [Nat.succ_mul] at h; omega)]
      congr 1
      rw [Nat.mod_eq_sub_mod (Nat.le_of_not_lt hk)]

theorem getD_map_range {f : Nat → Value} {n k : Nat} (h : k < n) : ((Array.range n).map f).getD k undef = f k := by
  simp [Array.getD, h]

theorem newRow_ (h : HOk H E w) {c : Array Value} (e : TypeId) (sz n cap : Nat) (f : Nat → Nat → IV) (hf : get H fresh = none) (hsz : 0 < sz) (hnc : n ≤ cap) (hm : cap ≤ maxLen) (hl : c.size = cap * sz)
    (hv : ∀ i j, i < n → j < sz → VI E.own w (f i j) (c.getD (i * sz + j) undef)) (w' : World) (hw : w' = w.alloc (.cells c e)) :
    let E' := E.setRow fresh (.slice (some ⟨w.heap.size, 0, none⟩) n cap)
    Ext H E w (put H fresh (.row e sz 0 n f)) E' w' ∧ HOk (put H fresh (.row e sz 0 n f)) E' w' ∧ VR (put H fresh (.row e sz 0 n f)) E' w' (.row fresh 0 sz 0 n) (.slice (some ⟨w.heap.size, 0, none⟩) n cap) := by
  subst hw
  have hle : n * sz ≤ c.size := by rw [hl]; exact Nat.mul_le_mul_right _ hnc
  have hn := h.rowTurn (w' := w.alloc (.cells c e)) fresh e sz 0 n f (.slice (some ⟨w.heap.size, 0, none⟩) n cap)
    (fun v0 hv0 => by rw [(h.dom _ hf).2] at hv0; cases hv0)
    (fun g hg hg' => by simp [Value.ownBlock] at hg'; omega) (fun g hg' => by simp [Value.ownBlock] at hg'; subst hg'; simp) rfl rfl rfl (by simp) (fun g hg _ => heap_alloc_old w _ g hg)
    (fun x => ⟨hsz, _, c.toList.take (n * sz), by simp [Emb.setRow], ⟨by simp; omega, .inr ⟨w.heap.size, cap, c, rfl, Nat.zero_le _, heap_alloc_new w _, hnc, hm, hl, rfl⟩⟩,
      fun g hg' => by simp [Emb.setRow, hg'], fun i j hi hj => by
        have := (hv i j hi hj).ext x
        have hlt := idx_lt hi hj
        simpa [List.getD, List.getElem?_take, hlt, Array.getD, show i * sz + j < c.size by omega] using this⟩)
  intro E'
  refine ⟨hn.1, hn.2, .row _ _ _ _ _ (.slice (some ⟨w.heap.size, 0, none⟩) n cap) _ (by simp [E', Emb.setRow]) ⟨_, _, rfl, hnc, fun _ => ⟨_, _, rfl⟩⟩ fun c' hc' => ?_⟩
  rw [verOf_put] at hc'
  simp at hc'
  subst hc'
  exact ⟨Nat.le_refl _, fun _ => .inr ⟨w.heap.size, n, cap, some ⟨w.heap.size, 0, none⟩, rfl, by simp, by omega, fun _ => rfl, fun _ => by simp⟩⟩

theorem buildSliceA_gives {t : TypeId} {len : Nat} {parts : List (Nat × AV)} {vparts : Array (Nat × Value)} {r : Res} (h : HOk H E w) (hf : get H fresh = none) (hp : PartsVR H E w parts vparts.toList)
    (hr : buildSliceA P t len parts fresh = some r) : Gives P H E w fresh (Instr.buildSlice t len vparts) r := by
  unfold buildSliceA at hr
  split at hr
  · rename_i e hu
    split at hr
    · rename_i sz z hs hz
      simp only [nbeq, nble, lenN_eq] at hr
      by_cases e1 : sz = 0
      case pos => simp [e1] at hr
      by_cases e2 : len * sz ≤ 16777216
      case neg => simp [e2] at hr
      by_cases hzz : z.length = sz
      case neg => simp [hzz] at hr
      cases hfl : fillA (fun i => some (i * sz, sz)) (repCells z len) parts with
      | none => simp [hfl] at hr
      | some cs =>
      simp only [e1, e2, hfl, hzz, decide_true, decide_false, Bool.not_true, Bool.or_false] at hr
      obtain ⟨i, v, hi, hv, hzl, ho, hvr⟩ := zeroT_some hz
      have hc0 : ((Array.range (len * sz)).map (v.cells[· % v.cells.size]!)).size = (repCells z len).length := by simp [repCells_length, hzz]
      obtain ⟨o, h1, h2, h3, h4⟩ := fill_run (place := fun i => some (i * sz, sz)) (c := (Array.range (len * sz)).map (v.cells[· % v.cells.size]!)) hp hc0 (fun k hk => by
        rw [repCells_length, hzz] at hk
        rw [getD_map_range hk, repCells_nth z len k (by rw [hzz]; exact hk)]
        have hlt : k % z.length < z.length := Nat.mod_lt _ (by omega)
        have := hvr H E w (k % z.length) hlt
        rw [hzl] at this hlt ⊢
        simpa [Array.getD, hlt] using this) hfl
      have hlen : cs.length = len * sz := by rw [h4, repCells_length, hzz]
      have hrun : (Instr.buildSlice t len vparts).run P w = .ok (.slice (some ⟨w.heap.size, 0, none⟩) len len) (w.alloc (.cells o e)) := by
        have e3 : ¬ len * sz > 2 ^ 24 := by omega
        have h1' : Instr.fill (fun i => some (i * sz, sz)) ((Array.range (len * sz)).map fun x => v.cells[x % v.cells.size]!) vparts.toList = some o := h1
        by_cases e4 : len * sz = 0
        · have hA : ∀ f : Nat → Value, Array.map f (Array.range 0) = #[] := fun f => Array.eq_empty_of_size_eq_zero (by simp)
          rw [e4, hA] at h1'
          unfold Instr.buildSlice
          simp only [Sem.run_bind, run_underlying hu, Result.andThen_ok, run_sizeOf hs, e4, hA, h1', newRow, if_true]
          rfl
        · simp [Instr.buildSlice, run_underlying hu, run_sizeOf hs, e3, e4, run_zeroValue hi hv, h1', newRow]
      split at hr
      · rename_i xs hxs
        injection hr with hr
        subst hr
        have hx := ivs_some hxs
        have hxl : xs.length = len * sz := by rw [← hlen, hx]; simp
        have hlm : len ≤ maxLen := by
          have : len ≤ len * sz := Nat.le_mul_of_pos_right _ (by omega)
          simp only [maxLen]; omega
        have hn := newRow_ (E := E) (w := w) h (c := o) e sz len len (rowF sz xs) hf (by omega) (Nat.le_refl _) hlm (by omega) (fun i j hi hj => by
          have hlt := idx_lt hi hj
          have := h3 (i * sz + j) (by omega)
          rw [hx] at this
          have hn : nth (xs.map AV.i) (i * sz + j) = .i (nthI xs (i * sz + j)) := by
            rw [nth_eq, nthI_eq]; simp [List.getD, show i * sz + j < xs.length by omega]
          rw [hn] at this
          cases this with | i _ _ hh => exact hh) _ rfl
        exact ⟨_, _, hrun, ⟨⟨_, hn.2.1, hn.2.2, hn.1⟩, fun k hk hg => dom_put k hk hg⟩⟩
      · injection hr with hr
        subst hr
        have hn := newCells (E := E) (w := w) h (c := o) e hf h2 h3
        exact ⟨_, _, hrun, ⟨⟨_, hn.2, .sl _ _ _ _ _ (by simp [Emb.newBlk]) (Nat.le_refl _), hn.1⟩, fun k hk hg => dom_put k hk hg⟩⟩
    · cases hr
  · cases hr

theorem wrap_in {n : Int} (h0 : 0 ≤ n) (h1 : n ≤ 9223372036854775807) : IntKind.i64.wrap n = n := by
  simp only [IntKind.wrap, IntKind.bits, IntKind.signed]
  simp
  omega

theorem makeSliceA_gives {t : TypeId} {l c : AV} {vl vc : Value} {r : Res} (h : HOk H E w) (hf : get H fresh = none) (hl : VR H E w l vl) (hc : VR H E w c vc) (hr : makeSliceA P t l c fresh = some r) (hps : AllP r.ps) :
    Gives P H E w fresh (Instr.makeSlice t vl vc) r := by
  unfold makeSliceA at hr
  split at hr
  · rename_i e k1 n k2 m hu h1 h2
    obtain rfl := intOf_some h1
    obtain rfl := intOf_some h2
    obtain rfl := hl.sc_
    obtain rfl := hc.sc_
    split at hr
    · rename_i sz by_ z hs hb hz
      simp only [nbeq, lenN_eq] at hr
      by_cases e1 : sz = 0
      case pos => simp [e1] at hr
      by_cases hzz : z.length = sz
      case neg => simp [hzz] at hr
      cases hiv : ivs? z with
      | none => simp [hiv] at hr
      | some xs =>
      simp only [e1, hiv, hzz, decide_true, decide_false, Bool.not_true, Bool.or_false] at hr
      injection hr with hr
      subst hr
      obtain ⟨h3, h4, h5, h6, _⟩ := hps
      obtain ⟨i, v, hi, hv, hzl, ho, hvr⟩ := zeroT_some hz
      have hby : i.bytes = by_ := by
        unfold bytesT at hb; rw [hi] at hb; injection hb
      have hm0 : ∃ mn : Nat, m = mn := ⟨m.toNat, by omega⟩
      obtain ⟨mn, rfl⟩ := hm0
      have hn0 : ∃ nn : Nat, n = nn := ⟨n.toNat, by omega⟩
      obtain ⟨nn, rfl⟩ := hn0
      have w1 : IntKind.i64.wrap (nn : Int) = nn := wrap_in (by omega) (by omega)
      have w2 : IntKind.i64.wrap (mn : Int) = mn := wrap_in (by omega) h5
      have hx := ivs_some hiv
      have hvs : v.cells.size = sz := by omega
      have hrun : (Instr.makeSlice t (.int k1 nn) (.int k2 mn)).run P w = .ok (.slice (some ⟨w.heap.size, 0, none⟩) nn mn) (w.alloc (.cells ((Array.range (mn * sz)).map (v.cells[· % v.cells.size]!)) e)) := by
        have h7 : ¬ ((mn : Int) < 0) := by omega
        have h8 : ¬ ((nn : Int) < 0) := by omega
        have h9 : ¬ ((nn : Int) > mn) := by omega
        have h10 : ¬ ((i.bytes : Int) * (mn : Int) > 2 ^ 48) := by rw [hby]; omega
        have h11 : ¬ (281474976710656 < (i.bytes : Int) * (mn : Int)) := by rw [hby]; omega
        by_cases e4 : mn * sz = 0
        · have hA : ∀ f : Nat → Value, Array.map f (Array.range 0) = #[] := fun f => Array.eq_empty_of_size_eq_zero (by simp)
          simp only [Instr.makeSlice, Sem.run_bind, run_underlying hu, Result.andThen_ok, asInt, asIntOf, Sem.run_pure, typeInfo, run_program, hi, w1, w2, h7, h8, h9, h10, decide_false, Bool.or_false, if_false, Bool.false_eq_true, run_askRoom, Int.toNat_natCast, run_sizeOf hs, e4, if_true, newRow, run_newObj, hA]
          simp [h7, h8, h9, h11, run_sizeOf hs, e4, hA]
        · simp [Instr.makeSlice, run_underlying hu, asInt, asIntOf, typeInfo, hi, w1, w2, h7, h8, h9, h11, run_sizeOf hs, e4, run_zeroValue hi hv, newRow]
      have hn := newRow_ (E := E) (w := w) h (c := (Array.range (mn * sz)).map (v.cells[· % v.cells.size]!)) e sz nn mn (zeroF xs) hf (by omega) (by omega) (by simp only [maxLen]; omega) (by simp) (fun a b ha hb' => by
        have hlt := idx_lt (show a < mn by omega) hb'
        rw [getD_map_range hlt]
        have hmod : (a * sz + b) % v.cells.size = b := by rw [hvs, Nat.mul_comm, Nat.mul_add_mod, Nat.mod_eq_of_lt hb']
        rw [hmod]
        have := hvr H E w b (by omega)
        rw [hx] at this
        have hbx : b < xs.length := by have := congrArg List.length hx; simp at this; omega
        have hn : nth (xs.map AV.i) b = .i (nthI xs b) := by
          rw [nth_eq, nthI_eq]; simp [List.getD, hbx]
        rw [hn] at this
        cases this with
        | i _ _ hh => simpa [zeroF, Array.getD, show b < v.cells.size by omega] using hh) _ rfl
      exact ⟨_, _, hrun, ⟨⟨_, hn.2.1, hn.2.2, hn.1⟩, fun k hk hg => dom_put k hk hg⟩⟩
    · cases hr
  · cases hr

/-! ### append -/
/-- The cells of what is appended, or read. -/
def Src (E : Emb) (w : World) (m sz : Nat) (f : Nat → Nat → IV) (A : Option Addr) : Prop :=
  0 < m → ∃ g o, A = some ⟨g, o, none⟩ ∧ ∀ i j, i < m → j < sz → ∃ u, w.cell? ⟨g, o + i * sz + j, none⟩ = some u ∧ VI E.own w (f i j) u

theorem sourceA_ok {x : AV} {vx : Value} {m sz : Nat} {f : Nat → Nat → IV} {ps : List Ob} (h : HOk H E w) (hx : VR H E w x vx) (hr : sourceA H x = some (m, sz, f, ps)) (hps : AllP ps) (hns : isStr x = false) :
    ∃ A c, vx = .slice A m c ∧ Src E w m sz f A := by
  unfold sourceA at hr
  split at hr
  · rename_i n sz' f'
    injection hr with hr
    injection hr with h1 hr
    injection hr with h2 hr
    injection hr with h3 hr
    subst h1 h2 h3
    cases hx with
    | i _ _ hv =>
      cases hv with
      | sv _ _ _ a cap g o u hc ha huu hff =>
        refine ⟨a, cap, rfl, fun hm => ?_⟩
        obtain ⟨h7, h8, h9⟩ := ha hm
        exact ⟨g, o, h7, fun i j hi hj => ⟨_, huu i j hi hj, hff i j hi hj⟩⟩
  · rename_i id ver sz1 lo n
    split at hr
    · rename_i e sz' ver' m' f' ho
      simp only [nbeq] at hr
      by_cases e2 : sz1 = sz'
      case neg => simp [e2] at hr
      simp only [e2, decide_true] at hr
      injection hr with hr
      injection hr with h1 hr
      injection hr with h2 hr
      injection hr with h3 hr
      subst h1 h2 h3 hr
      obtain ⟨e1, hlo, _⟩ := hps
      have e1 : ver = ver' := e1
      subst e1 e2
      cases hx with
      | row _ _ _ _ _ v0 _ hv hsh hc =>
        obtain ⟨A, c, rfl, hnc, hA⟩ := hsh
        refine ⟨A, c, rfl, fun hm => ?_⟩
        obtain ⟨_, h2⟩ := hc ver (by simp [verOf, ho])
        obtain ⟨hsz, v0', xs, h4, h5, h6, h7⟩ := h.obj id _ ho
        rw [hv] at h4; injection h4 with h4; subst h4
        rcases h2 rfl with ⟨h9, h10, h11, h12⟩ | ⟨g, m2, c2, A', h9, h10, h11, h12, h13⟩
        · omega
        · injection h10 with h10 h14 h15
          subst h10
          refine ⟨g, lo * sz1, h13 (by omega), fun i j hi hj => ?_⟩
          have hlt := idx_lt (show lo + i < m' by omega) hj
          refine ⟨xs.getD ((lo + i) * sz1 + j) undef, ?_, h7 (lo + i) j (by omega) hj⟩
          rw [show lo * sz1 + i * sz1 + j = (lo + i) * sz1 + j by rw [Nat.add_mul]]
          exact row_cell h5 h9 hlt
    · cases hr
  · cases hns
  · injection hr with hr
    injection hr with h1 hr
    injection hr with h2 hr
    injection hr with h3 hr
    subst h1 h2 h3
    obtain rfl := hx.sc_
    exact ⟨none, 0, rfl, fun h => by omega⟩
  · cases hr

theorem src_news {m sz g o : Nat} {f : Nat → Nat → IV} (hsz : 0 < sz) (h : ∀ i j, i < m → j < sz → ∃ u, w.cell? ⟨g, o + i * sz + j, none⟩ = some u ∧ VI E.own w (f i j) u) :
    ∃ news : List Value, news.length = m * sz ∧ (∀ q u, news[q]? = some u → w.cell? ((⟨g, o, none⟩ : Addr).add q) = some u) ∧ (∀ u ∈ news, u.oneCell' = true) ∧ ∀ i j, i < m → j < sz → VI E.own w (f i j) (news.getD (i * sz + j) undef) := by
  have hq : ∀ q, q < m * sz → ∃ u, w.cell? ⟨g, o + q, none⟩ = some u ∧ VI E.own w (f (q / sz) (q % sz)) u := by
    intro q hq
    have := h (q / sz) (q % sz) ((Nat.div_lt_iff_lt_mul hsz).2 hq) (Nat.mod_lt _ hsz)
    rwa [Nat.add_assoc, Nat.div_add_mod'] at this
  refine ⟨(List.range (m * sz)).map fun q => (w.cell? ⟨g, o + q, none⟩).getD undef, by simp, fun q u hu => ?_, fun u hu => ?_, fun i j hi hj => ?_⟩
  · rw [List.getElem?_map] at hu
    by_cases hlt : q < m * sz
    · rw [List.getElem?_range hlt] at hu
      obtain ⟨u', h1, _⟩ := hq q hlt
      simp [h1] at hu
      subst hu
      rw [Addr.add_lit]
      exact h1
    · simp [hlt] at hu
  · obtain ⟨q, hq1, rfl⟩ := List.mem_map.1 hu
    obtain ⟨u', h1, h2⟩ := hq q (List.mem_range.1 hq1)
    rw [h1]
    exact h2.one
  · have hlt := idx_lt hi hj
    obtain ⟨u, h1, h2⟩ := h i j hi hj
    rw [Nat.add_assoc] at h1
    simp [List.getD, hlt, h1]
    exact h2

theorem append_none {t ty e : TypeId} {i : TypeInfo} (hu : P.underlying t = some (.slice e)) (hi : P.info? e = some i) {sz n c : Nat} {v : Value} {xs : List Value} (h : w.ownsRow 0 e sz v n xs) :
    (Builtin.append_ #[t, t] ty #[v, .slice none 0 c]).run P w = .ok v w := by
  rcases h.2 with ⟨rfl, hn⟩ | ⟨g, cap, cur, rfl, _, _, hnc, _⟩
  · simp [Builtin.append_, run_underlying hu, sizeOf, typeInfo, hi, Builtin.lenOf, Builtin.firstCells]
  · simp [Builtin.append_, run_underlying hu, sizeOf, typeInfo, hi, Builtin.lenOf, Builtin.firstCells, hnc, storeCells]

theorem row_trunc {e : TypeId} {sz k n : Nat} {v0 v : Value} {xs : List Value} (h : w.ownsRow 0 e sz v0 k xs) (hc : Cut v0 sz 0 n v) (hn : n ≤ k) : w.ownsRow 0 e sz v n (xs.take (n * sz)) ∧ v.ownBlock = v0.ownBlock := by
  have hle : n * sz ≤ k * sz := Nat.mul_le_mul_right _ hn
  rcases hc with ⟨rfl, rfl, _, rfl⟩ | ⟨g, m, c, A, rfl, rfl, h1, h2, h3⟩
  · exact ⟨⟨by simp, .inl ⟨rfl, rfl⟩⟩, rfl⟩
  · obtain rfl := h2 rfl
    rcases h.2 with ⟨hh, _⟩ | ⟨g', cap, cur, hv, h4, h5, h6, h7, h8, h9⟩
    · cases hh
    · injection hv with hv h10 h11
      injection hv with hv
      injection hv with hv
      subst hv h10 h11
      refine ⟨⟨by have := h.1; simp; omega, .inr ⟨g, c, cur, by simp, h4, h5, by omega, h7, h8, ?_⟩⟩, rfl⟩
      rw [← h9, List.take_take, Nat.min_eq_left hle]

theorem own_cut {e : TypeId} {sz n : Nat} {v : Value} {xs : List Value} (h : w.ownsRow 0 e sz v n xs) : Cut v sz 0 n v ∧ ShapeS n v := by
  rcases h.2 with ⟨rfl, rfl⟩ | ⟨g, cap, cur, rfl, h4, h5, h6, h7, h8, h9⟩
  · exact ⟨.inl ⟨rfl, rfl, rfl, rfl⟩, ⟨_, _, rfl, Nat.le_refl _, fun h => by omega⟩⟩
  · exact ⟨.inr ⟨g, n, cap, _, rfl, rfl, by omega, fun _ => rfl, fun _ => by simp⟩, ⟨_, _, rfl, h6, fun _ => ⟨_, _, rfl⟩⟩⟩

/-- The heart of append: to a row that is owned, or to none. -/
theorem append_core {t ty e : TypeId} {sz by_ n m ver id : Nat} {f g : Nat → Nat → IV} {v : Value} {xs : List Value} {A : Option Addr} {c : Nat} (h : HOk H E w) (hu : P.underlying t = some (.slice e)) (hs : sizeT P e = some sz) (hb : bytesT P e = some by_)
    (hz : zeroOk P e sz = true) (hsz : 0 < sz) (hown : w.ownsRow 0 e sz v n xs) (hv : ∀ i j, i < n → j < sz → VI E.own w (f i j) (xs.getD (i * sz + j) undef)) (hsrc : Src E w m sz g A) (hbytes : (n + m) * by_ ≤ 140737488355328) (hby0 : n + m ≤ 9223372036854775807)
    (hblk : ∀ q, v.ownBlock = some q → E.own q = .by_ id) (hver : ∀ v0, E.rowv id = some v0 → ∃ c, verOf H id = some c ∧ c < ver) :
    ∃ v' w' E', (Builtin.append_ #[t, t] ty #[v, .slice A m c]).run P w = .ok v' w' ∧ Ext H E w (put H id (.row e sz ver (n + m) (catF n f g))) E' w' ∧ HOk (put H id (.row e sz ver (n + m) (catF n f g))) E' w' ∧
      VR (put H id (.row e sz ver (n + m) (catF n f g))) E' w' (.row id ver sz 0 (n + m)) v' := by
  obtain ⟨i, hi, hisz⟩ := info_of_sizeT hs
  have hib : i.bytes = by_ := by unfold bytesT at hb; rw [hi] at hb; injection hb
  obtain ⟨z, hiz, hzs⟩ : ∃ z, i.zero = some z ∧ z.cells.size = sz := by
    unfold zeroOk at hz
    rw [hi] at hz
    simp only at hz
    split at hz
    · rename_i z hz'; exact ⟨z, hz', by simpa [nbeq] using hz⟩
    · cases hz
  -- what the run gives
  have hrun : ∃ v' w' news, (Builtin.append_ #[t, t] ty #[v, .slice A m c]).run P w = .ok v' w' ∧ w'.ownsRow 0 e sz v' (n + m) (xs ++ news) ∧ w.grownBy w' v.ownBlock ∧ (v'.ownBlock = v.ownBlock ∨ v'.ownBlock = some w.heap.size) ∧
      ∀ i j, i < m → j < sz → VI E.own w (g i j) (news.getD (i * sz + j) undef) := by
    by_cases hm : m = 0
    · subst hm
      rcases A with _ | q
      · exact ⟨v, w, [], append_none hu hi hown, by simpa using hown, ⟨rfl, rfl, rfl, Nat.le_refl _, fun _ _ _ => rfl⟩, .inl rfl, fun i j hi => by omega⟩
      · obtain ⟨v', w', h1, h2, h3, _, h5⟩ := run_append_own_at (P := P) w 0 t ty e i z sz by_ hu hi hiz hisz hib hzs hsz v n xs hown q 0 c [] (by simp) (by simp) (by simp) (by simp only [maxLen]; omega) hbytes (Nat.zero_le _)
        exact ⟨v', w', [], h1, h2, h3, h5, fun i j hi => by omega⟩
    · obtain ⟨q, o, rfl, hq⟩ := hsrc (by omega)
      obtain ⟨news, h6, h7, h8, h9⟩ := src_news hsz hq
      obtain ⟨v', w', h1, h2, h3, _, h5⟩ := run_append_own_at (P := P) w 0 t ty e i z sz by_ hu hi hiz hisz hib hzs hsz v n xs hown ⟨q, o, none⟩ m c news h6 h7 h8 (by simp only [maxLen]; omega) hbytes (Nat.zero_le _)
      exact ⟨v', w', news, h1, h2, h3, h5, h9⟩
  obtain ⟨v', w', news, h1, h2, h3, h4, h5⟩ := hrun
  have hx : xs.length = n * sz := hown.1
  have hn := h.rowTurn (w' := w') id e sz ver (n + m) (catF n f g) v' (fun v0 hv0 => by obtain ⟨c, h6, h7⟩ := hver v0 hv0; exact ⟨c, h6, by omega, fun e => by omega⟩)
    (fun q hq hq' => by
      rcases h4 with h4 | h4
      · exact hblk q (h4 ▸ hq')
      · rw [h4] at hq'; injection hq' with hq'; omega)
    (fun q hq => (h2.lt q hq).2) h3.os h3.tape h3.output h3.size (fun q hq hq' => h3.block q hq (fun e' => hq' (hblk q e'.symm)))
    (fun xx => ⟨hsz, v', xs ++ news, by simp [Emb.setRow], h2, fun q hq => by simp [Emb.setRow, hq], fun a b ha hb' => by
      simp only [catF, nble]
      by_cases hlt : a + 1 ≤ n
      · simp only [hlt, decide_true]
        have := (hv a b (by omega) hb').ext xx
        have hidx := idx_lt (show a < n by omega) hb'
        simpa [List.getD, List.getElem?_append_left (show a * sz + b < xs.length by omega)] using this
      · simp only [hlt, decide_false]
        have := (h5 (a - n) b (by omega) hb').ext xx
        have hge : n * sz ≤ a * sz := Nat.mul_le_mul_right _ (by omega)
        have : VI (E.setRow id v').own w' (g (a - n) b) (news.getD (a * sz + b - n * sz) undef) := by
          have e1 : a * sz + b - n * sz = (a - n) * sz + b := by rw [Nat.sub_mul]; omega
          rw [e1]; exact this
        simpa [List.getD, List.getElem?_append_right (show xs.length ≤ a * sz + b by omega), hx] using this⟩)
  obtain ⟨h6, h7⟩ := own_cut h2
  refine ⟨v', w', _, h1, hn.1, hn.2, .row _ _ _ _ _ v' _ (by simp [Emb.setRow]) h7 fun c' hc' => ?_⟩
  rw [verOf_put] at hc'
  simp at hc'
  subst hc'
  exact ⟨Nat.le_refl _, fun _ => h6⟩

theorem appendA_gives {t ty : TypeId} {s x : AV} {vs vx : Value} {r : Res} (h : HOk H E w) (hf : get H fresh = none) (hs : VR H E w s vs) (hx : VR H E w x vx) (hr : appendA P H t s x fresh = some r) (hps : AllP r.ps) :
    Gives P H E w fresh (Builtin.append_ #[t, t] ty #[vs, vx]) r := by
  unfold appendA at hr
  split at hr
  · rename_i e hu
    split at hr
    · rename_i sz by_ m sz' g ps hsz hby hsrc
      simp only [nbeq] at hr
      by_cases e1 : sz = 0
      case pos => simp [e1] at hr
      cases hzo : zeroOk P e sz with
      | false => simp [hzo] at hr
      | true =>
      by_cases e2 : by_ = 0
      case pos => simp [e2] at hr
      cases hstr : isStr x with
      | true => simp [hstr] at hr
      | false =>
      by_cases e3 : sz = sz' ∨ m = 0
      case neg => simp [not_or.1 e3] at hr
      have e3' : (decide (sz = sz') || decide (m = 0)) = true := by simpa using e3
      simp only [e1, hzo, e2, hstr, e3', decide_false, Bool.not_true, Bool.or_false, Bool.not_false, Bool.and_true] at hr
      have hsrc' : AllP ps → ∃ A c, vx = .slice A m c ∧ Src E w m sz g A := by
        intro hp
        obtain ⟨A, c, h1, h2⟩ := sourceA_ok h hx hsrc hp hstr
        refine ⟨A, c, h1, ?_⟩
        rcases e3 with rfl | e3
        · exact h2
        · intro hm; omega
      split at hr
      · injection hr with hr
        subst hr
        obtain ⟨h1, h2⟩ := hps
        obtain rfl := hs.sc_
        obtain ⟨A, c, rfl, h3⟩ := hsrc' h2
        have hm : m ≤ m * by_ := Nat.le_mul_of_pos_right _ (by omega)
        obtain ⟨v', w', E', h4, h5, h6, h7⟩ := append_core (P := P) (ty := ty) (n := 0) (ver := 0) (id := fresh) (f := g) (xs := []) (c := c) h hu hsz hby hzo (by omega) (World.ownsRow_nil w 0 e sz) (fun i j hi => by omega) h3 (by simpa using h1) (by omega)
          (fun q hq => by simp [Value.ownBlock] at hq) (fun v0 hv0 => by rw [(h.dom _ hf).2] at hv0; cases hv0)
        have hcat : catF 0 g g = g := by
          funext i j
          simp [catF, nble]
        simp only [Nat.zero_add, hcat] at h5 h6 h7
        exact ⟨v', w', h4, ⟨⟨E', h6, h7, h5⟩, fun k hk hg => dom_put k hk hg⟩⟩
      · rename_i id ver szr lo n
        split at hr
        · rename_i e' sz2 ver' k f ho
          by_cases q2 : sz = sz2
          case neg => simp [q2] at hr
          by_cases q3 : szr = sz
          case neg => simp [q3] at hr
          by_cases q4 : lo = 0
          case neg => simp [q4] at hr
          by_cases q5 : e = e'
          case neg => simp [q5] at hr
          simp only [q2, q3, q4, q5, decide_true] at hr
          injection hr with hr
          subst hr
          obtain ⟨q1, h0, h1, h2⟩ := hps
          have q1 : ver = ver' := q1
          subst q1 q2 q3 q4 q5
          obtain ⟨A, c, rfl, h3⟩ := hsrc' h2
          have hm : n + m ≤ (n + m) * by_ := Nat.le_mul_of_pos_right _ (by omega)
          cases hs with
          | row _ _ _ _ _ v0 _ hv hsh hc =>
            obtain ⟨hszp, v0', xs, h4, h5, h6, h7⟩ := h.obj id _ ho
            rw [hv] at h4; injection h4 with h4; subst h4
            obtain ⟨_, hcut⟩ := hc ver (by simp [verOf, ho])
            obtain ⟨ht1, ht2⟩ := row_trunc h5 (hcut rfl) h0
            obtain ⟨v', w', E', h8, h9, h10, h11⟩ := append_core (P := P) (ty := ty) (n := n) (ver := ver + 1) (id := id) (f := f) (xs := xs.take (n * szr)) (c := c) h hu hsz hby hzo (by omega) ht1
              (fun i j hi hj => by
                have hidx := idx_lt hi hj
                have := h7 i j (by omega) hj
                simpa [List.getD, List.getElem?_take, hidx] using this) h3 h1 (by omega)
              (fun q hq => h6 q (ht2 ▸ hq)) (fun v1 hv1 => ⟨ver, by simp [verOf, ho], by omega⟩)
            exact ⟨v', w', h8, ⟨⟨E', h10, h11, h9⟩, fun k hk hg => by
              simp only [puts_cons, puts_nil, get_put]
              split
              · rename_i e'; subst e'; rw [ho] at hg; cases hg
              · exact hg⟩⟩
        · cases hr
      · cases hr
    · cases hr
  · cases hr

/-! ### Maps from strings to ints -/
theorem isMapSI_some {t : TypeId} (h : isMapSI P t = true) : ∃ k e i, P.underlying t = some (.map k e) ∧ P.underlying k = some .string ∧ P.underlying e = some (.int .i64) ∧ P.info? e = some i ∧ i.zero = some (.int .i64 0) := by
  unfold isMapSI at h
  split at h
  · rename_i k e hu
    split at h
    · rename_i hk he
      split at h
      · rename_i i hi
        split at h
        · rename_i n hz
          have : n = 0 := by simpa using h
          subst this
          exact ⟨k, e, i, hu, hk, he, hi, hz⟩
        · cases h
      · cases h
    · cases h
  · cases h

theorem bbeq (a b : ByteArray) : (a == b) = decide (a = b) := by
  cases a; cases b
  rename_i x y
  rw [Bool.eq_iff_iff, decide_eq_true_iff, ByteArray.mk.injEq]
  show (x == y) = true ↔ _
  simp

theorem hasK_iff (ks : List ByteArray) (k : ByteArray) : hasK ks k = true ↔ k ∈ ks := by
  induction ks with
  | nil => simp [hasK]
  | cons a l ih => simp [hasK, ih, bbeq]

theorem mkEs_length (g : ByteArray → Int) (j : Nat) (ks : List ByteArray) : (mkEs g j ks).length = ks.length := by
  induction ks generalizing j with
  | nil => rfl
  | cons a l ih => simp [mkEs, ih]
theorem mkEs_get (g : ByteArray → Int) : ∀ (j : Nat) (ks : List ByteArray) (i : Nat), i < ks.length → (mkEs g j ks)[i]? = some { key := .string (nthK ks i), val := .int .i64 (g (nthK ks i)), born := j + i }
  | j, k :: ks, 0, _ => rfl
  | j, k :: ks, i + 1, h => by
    simp only [mkEs, List.getElem?_cons_succ, nthK]
    rw [mkEs_get g (j + 1) ks i (by simpa using h)]
    congr 2
    omega

theorem findNow_es (g : ByteArray → Int) (k : ByteArray) : ∀ (j : Nat) (ks : List ByteArray) (i : Nat),
    Instr.findNow .string (.string k) (mkEs g j ks) i = some (match hasK ks k with | true => some (i + idxK ks k, .int .i64 (g k)) | false => none)
  | _, [], _ => rfl
  | j, a :: l, i => by
    simp only [mkEs, Instr.findNow, Instr.sameNow, hasK, idxK]
    by_cases h : k = a
    · subst h; simp [bbeq]
    · have h' : (k == a) = false := by simpa [bbeq] using h
      rw [h']
      simp only [Bool.false_or]
      rw [findNow_es g k (j + 1) l (i + 1)]
      cases hasK l k <;> simp <;> omega

theorem findKey_run {kt : TypeId} (hk : P.underlying kt = some .string) {es : Array MapEntry} {clock : Nat} {ks : List ByteArray} {g : ByteArray → Int} (h : MapOk es clock ks g) (k : ByteArray) (w : World) :
    (Instr.findKey kt (.string k) es.toList).run P w = .ok (match hasK ks k with | true => some (idxK ks k, .int .i64 (g k)) | false => none) w := by
  have := findNow_es g k 0 ks 0
  rw [← h.list] at this
  simp [Instr.findKey, run_underlying hk, this]

theorem checkKey_run {kt : TypeId} (hk : P.underlying kt = some .string) (b : Bool) (k : ByteArray) (w : World) : (Instr.checkKey b 10000 kt (.string k)).run P w = .ok () w := by
  unfold Instr.checkKey
  simp only [Sem.run_bind, run_underlying hk, Result.andThen_ok]
  rfl

theorem idxK_lt {ks : List ByteArray} {k : ByteArray} (h : hasK ks k = true) : idxK ks k < ks.length ∧ nthK ks (idxK ks k) = k := by
  induction ks with
  | nil => simp [hasK] at h
  | cons a l ih =>
    simp only [hasK, idxK] at h ⊢
    by_cases e : k = a
    · subst e; simp [nthK, bbeq]
    · have e' : (k == a) = false := by simpa [bbeq] using e
      rw [e'] at h ⊢
      simp only [Bool.false_or] at h
      obtain ⟨h1, h2⟩ := ih h
      exact ⟨by simpa using h1, h2⟩

theorem updG_same (g : ByteArray → Int) (k : ByteArray) (v : Int) : updG g k v k = v := by simp [updG, bbeq]
theorem updG_ne (g : ByteArray → Int) {k q : ByteArray} (v : Int) (h : k ≠ q) : updG g k v q = g q := by
  have : (k == q) = false := by simpa [bbeq] using h
  simp [updG, this]

theorem mkEs_out (g : ByteArray → Int) (k : ByteArray) (v : Int) (j : Nat) (ks : List ByteArray) (h : k ∉ ks) : mkEs (updG g k v) j ks = mkEs g j ks := by
  induction ks generalizing j with
  | nil => rfl
  | cons a l ih =>
    simp only [mkEs]
    rw [ih (j + 1) (fun hh => h (by simp [hh])), updG_ne g v (fun e => h (by simp [e]))]

theorem mkEs_modify (g : ByteArray → Int) (k : ByteArray) (v : Int) : ∀ (j : Nat) (ks : List ByteArray) (i : Nat), ks.Nodup → i < ks.length → nthK ks i = k →
    (mkEs g j ks).modify i (fun e => { e with val := .int .i64 v }) = mkEs (updG g k v) j ks
  | j, a :: l, 0, hn, _, hk => by
    simp only [nthK] at hk
    subst hk
    simp only [mkEs, List.modify_zero_cons, updG_same]
    rw [mkEs_out g a v (j + 1) l (List.nodup_cons.1 hn).1]
  | j, a :: l, i + 1, hn, hi, hk => by
    simp only [nthK] at hk
    have hl := List.nodup_cons.1 hn
    simp only [mkEs, List.modify_succ_cons]
    rw [mkEs_modify g k v (j + 1) l i hl.2 (by simpa using hi) hk]
    have hne : k ≠ a := fun e => by
      subst e
      have hm : nthK l i ∈ l := by
        rw [← hasK_iff]
        clear hk hn hl
        induction l generalizing i with
        | nil => simp at hi
        | cons b l ih =>
          cases i with
          | zero => simp [nthK, hasK, bbeq]
          | succ i =>
            have := ih i (by simpa using hi)
            simp [nthK, hasK, this]
      rw [hk] at hm
      exact hl.1 hm
    rw [updG_ne g v hne]

theorem mkEs_push (g : ByteArray → Int) (k : ByteArray) (j : Nat) (ks : List ByteArray) : mkEs g j (ks ++ [k]) = mkEs g j ks ++ [{ key := .string k, val := .int .i64 (g k), born := j + ks.length }] := by
  induction ks generalizing j with
  | nil => simp [mkEs]
  | cons a l ih => simp [mkEs, ih (j + 1)]; omega

theorem MapOk.upd {es : Array MapEntry} {clock : Nat} {ks : List ByteArray} {g : ByteArray → Int} (h : MapOk es clock ks g) {i : Nat} (hi : i < ks.length) (v : Int) :
    MapOk (es.modify i fun e => { e with val := .int .i64 v }) clock ks (updG g (nthK ks i) v) :=
  ⟨by rw [Array.toList_modify, h.list]; exact mkEs_modify g _ v 0 ks i h.nodup hi rfl, h.clock, h.nodup, fun q hq => by
    have hne : nthK ks i ≠ q := fun e => by
      have : nthK ks i ∈ ks := by
        rw [← hasK_iff]
        clear hq e h
        induction ks generalizing i with
        | nil => simp at hi
        | cons b l ih =>
          cases i with
          | zero => simp [nthK, hasK, bbeq]
          | succ i =>
            have := ih (i := i) (by simpa using hi)
            simp [nthK, hasK, this]
      rw [e] at this
      rw [(hasK_iff ks q).2 this] at hq
      cases hq
    rw [updG_ne g v hne]
    exact h.out q hq⟩

theorem MapOk.push {es : Array MapEntry} {clock : Nat} {ks : List ByteArray} {g : ByteArray → Int} (h : MapOk es clock ks g) {k : ByteArray} (hk : hasK ks k = false) (v : Int) :
    MapOk (es.push { key := .string k, val := .int .i64 v, born := clock }) (clock + 1) (ks ++ [k]) (updG g k v) :=
  have hm : k ∉ ks := fun hh => by rw [(hasK_iff ks k).2 hh] at hk; cases hk
  ⟨by rw [Array.toList_push, h.list, mkEs_push, mkEs_out g k v 0 ks hm, updG_same, h.clock]; simp, by simp [h.clock],
    List.nodup_append.2 ⟨h.nodup, by simp, fun a ha b hb => by simp at hb; subst hb; exact fun e => hm (e ▸ ha)⟩, fun q hq => by
      have h1 : hasK ks q = false ∧ k ≠ q := by
        constructor
        · cases hh : hasK ks q with
          | false => rfl
          | true => rw [(hasK_iff _ q).2 (List.mem_append_left _ ((hasK_iff ks q).1 hh))] at hq; cases hq
        · intro e; subst e; rw [(hasK_iff _ k).2 (by simp)] at hq; cases hq
      rw [updG_ne g v h1.2]
      exact h.out q h1.1⟩

theorem lookupA_gives {t : TypeId} {m k : AV} {vm vk : Value} {ok : Bool} {r : Res} (h : HOk H E w) (hm : VR H E w m vm) (hk : VR H E w k vk) (hr : lookupA P H t m k ok = some r) : Gives P H E w fresh (Instr.lookup t vm vk ok) r := by
  have key : ∀ id s, m = .mp id → keyOf k = some s → isMapSI P t = true → ∀ u ks g, get H id = some (.smap u ks g) →
      (Instr.lookup t vm vk ok).run P w = .ok (if ok then .tuple #[.int .i64 (g s), .bool (hasK ks s)] else .int .i64 (g s)) w := by
    intro id s e1 e2 e3 u ks g e4
    subst e1
    have hks : k = .i (.sc (.string s)) := by
      unfold keyOf at e2
      split at e2
      · injection e2 with e2; subst e2; rfl
      · cases e2
    subst hks
    obtain rfl := hk.sc_
    obtain ⟨kt, et, i, h1, h2, h3, h4, h5⟩ := isMapSI_some e3
    obtain ⟨b, es, clock, h6, h7, h8, h9⟩ := h.obj id _ e4
    cases hm with
    | mp _ g' hg =>
      rw [hg] at h6; injection h6 with h6; subst h6
      have hf := findKey_run (P := P) h2 h9 s w
      have hgo : (getObj g').run P w = .ok (.map es clock) w := by simp [getObj, Sem.run, h8]
      unfold Instr.lookup
      simp only [Sem.run_bind, run_underlying h1, Result.andThen_ok, hgo, Sem.run_pure, checkKey_run h2, hf]
      cases hb : hasK ks s with
      | true => cases ok <;> simp
      | false => cases ok <;> simp [run_zeroValue h4 h5, h9.out s hb]
  unfold lookupA at hr
  split at hr
  · rename_i id s e1 e2
    split at hr
    · rename_i u ks g e4
      injection hr with hr
      subst hr
      exact .same h (key id s rfl e2 e1 u ks g e4) (.i _ _ (.sc _ rfl))
    · cases hr
  · rename_i id s e1 e2
    split at hr
    · rename_i u ks g e4
      injection hr with hr
      subst hr
      refine .same h (key id s rfl e2 e1 u ks g e4) (.tup _ _ rfl fun q hq => ?_)
      match q, hq with
      | 0, _ => exact .i _ _ (.sc _ rfl)
      | 1, _ => exact .i _ _ (.sc _ rfl)
    · cases hr
  · cases hr

theorem keyOf_some {k : AV} {s : ByteArray} (h : keyOf k = some s) : k = .i (.sc (.string s)) := by
  unfold keyOf at h
  split at h
  · injection h with h; subst h; rfl
  · cases h

theorem sameBits_string (s : ByteArray) : Instr.sameBits 10000 (.string s) (.string s) = true := by
  simp [Instr.sameBits, bbeq]

theorem modify_key {es : Array MapEntry} {clock : Nat} {ks : List ByteArray} {g : ByteArray → Int} (h : MapOk es clock ks g) {s : ByteArray} (hs : hasK ks s = true) :
    es[idxK ks s]? = some { key := .string s, val := .int .i64 (g s), born := idxK ks s } := by
  obtain ⟨h1, h2⟩ := idxK_lt hs
  have := mkEs_get g 0 ks (idxK ks s) h1
  rw [← h.list, Array.getElem?_toList, h2] at this
  simpa using this

theorem modify_same {es : Array MapEntry} {i : Nat} {e : MapEntry} (he : es[i]? = some e) (f : MapEntry → MapEntry) (hf : f e = e) : es.modify i f = es := by
  apply Array.ext_getElem?
  intro j
  rw [Array.getElem?_modify]
  split
  · rename_i e'; subst e'; rw [he]; simp [hf]
  · rfl

theorem modify_congr {es : Array MapEntry} {i : Nat} {e : MapEntry} (he : es[i]? = some e) (f f' : MapEntry → MapEntry) (hf : f e = f' e) : es.modify i f = es.modify i f' := by
  apply Array.ext_getElem?
  intro j
  rw [Array.getElem?_modify, Array.getElem?_modify]
  split
  · rename_i e'; subst e'; rw [he]; simp [hf]
  · rfl

/-- A map's block is written. -/
theorem mapTurn (h : HOk H E w) {id g : Nat} {u : TypeId} {ks ks' : List ByteArray} {f f' : ByteArray → Int} {es es' : Array MapEntry} {clock clock' : Nat} (ho : get H id = some (.smap u ks f)) (hg : E.blk id = some g)
    (how : E.own g = .by_ id) (hh : w.heap[g]? = some (.map es clock)) (hok : MapOk es' clock' ks' f') :
    Ext H E w (put H id (.smap u ks' f')) E { w with heap := w.heap.setIfInBounds g (.map es' clock') } ∧ HOk (put H id (.smap u ks' f')) E { w with heap := w.heap.setIfInBounds g (.map es' clock') } ∧
    (setObj g (.map es' clock')).run P w = .ok () { w with heap := w.heap.setIfInBounds g (.map es' clock') } := by
  have hlt : g < w.heap.size := (Array.getElem?_eq_some_iff.1 hh).1
  have := h.write (w' := { w with heap := w.heap.setIfInBounds g (.map es' clock') }) id g (.smap u ks' f') hg how trivial (.inr (by simp [verOf, ho])) rfl rfl rfl (by simp) (fun k hk => by simp [Array.getElem?_setIfInBounds_ne (Ne.symm hk)])
    (fun _ => ⟨g, es', clock', hg, how, by simp [hlt], hok⟩)
  exact ⟨this.1, this.2, by simp [setObj, Sem.run, hh]⟩

theorem dom_put' {o o' : AO} {id k : Nat} (ho : get H id = some o') (h : get H k = none) : get (put H id o) k = none := by
  rw [get_put]
  split
  · rename_i e; subst e; rw [ho] at h; cases h
  · exact h

theorem mapUpdateA_gives {t : TypeId} {m k x : AV} {vm vk vx : Value} {r : Res} (h : HOk H E w) (hm : VR H E w m vm) (hk : VR H E w k vk) (hx : VR H E w x vx) (hr : mapUpdateA P H t m k x = some r) : Gives0 P H E w fresh (Instr.mapUpdate t vm vk vx) r := by
  unfold mapUpdateA at hr
  split at hr
  · rename_i id s n e1 e2 e3
    obtain rfl := keyOf_some e2
    obtain rfl := intOf_some e3
    split at hr
    · rename_i u ks g e4
      injection hr with hr
      subst hr
      obtain rfl := hk.sc_
      obtain rfl := hx.sc_
      obtain ⟨kt, et, i, h1, h2, h3, h4, h5⟩ := isMapSI_some e1
      obtain ⟨b, es, clock, h6, h7, h8, h9⟩ := h.obj id _ e4
      cases hm with
      | mp _ g' hg =>
        rw [hg] at h6; injection h6 with h6; subst h6
        have hf := findKey_run (P := P) h2 h9 s w
        have hgo : (getObj g').run P w = .ok (.map es clock) w := by simp [getObj, Sem.run, h8]
        unfold addK
        cases hb : hasK ks s with
        | true =>
          have hmk := modify_key h9 hb
          obtain ⟨hi1, hi2⟩ := idxK_lt hb
          have hup := h9.upd hi1 n
          rw [hi2] at hup
          obtain ⟨x1, x2, x3⟩ := mapTurn (P := P) (u := u) h e4 hg h7 h8 hup
          refine ⟨_, ?_, ⟨⟨E, x2, .any _, x1⟩, fun q hq hn => dom_put' e4 hn⟩⟩
          rw [hb] at hf
          have hcg := modify_congr hmk (fun e => { key := .string s, val := .int .i64 n, born := e.born }) (fun e => { e with val := .int .i64 n }) rfl
          simp only [Instr.mapUpdate, Sem.run_bind, run_underlying h1, Result.andThen_ok, hgo, checkKey_run h2, hf, hmk, Option.map_some, Option.getD_some, Instr.keyThatStays, sameBits_string, if_true, Sem.run_pure]
          rw [hcg]
          exact x3
        | false =>
          have hup := h9.push hb n
          obtain ⟨x1, x2, x3⟩ := mapTurn (P := P) (u := u) h e4 hg h7 h8 hup
          refine ⟨_, ?_, ⟨⟨E, x2, .any _, x1⟩, fun q hq hn => dom_put' e4 hn⟩⟩
          rw [hb] at hf
          simp only [Instr.mapUpdate, Sem.run_bind, run_underlying h1, Result.andThen_ok, hgo, checkKey_run h2, hf]
          exact x3
    · cases hr
  · cases hr

theorem updG_out {g : ByteArray → Int} {k : ByteArray} (h : g k = 0) : updG g k 0 = g := by
  funext q
  by_cases e : k = q
  · subst e; rw [updG_same, h]
  · rw [updG_ne g 0 e]

theorem mapEntryA_gives {t : TypeId} {m k : AV} {vm vk : Value} {r : Res} (h : HOk H E w) (hm : VR H E w m vm) (hk : VR H E w k vk) (hr : mapEntryA P H t m k = some r) : Gives P H E w fresh (Instr.mapEntry t vm vk) r := by
  unfold mapEntryA at hr
  split at hr
  · rename_i id s e1 e2
    obtain rfl := keyOf_some e2
    split at hr
    · rename_i u ks g e4
      injection hr with hr
      subst hr
      obtain rfl := hk.sc_
      obtain ⟨kt, et, i, h1, h2, h3, h4, h5⟩ := isMapSI_some e1
      obtain ⟨b, es, clock, h6, h7, h8, h9⟩ := h.obj id _ e4
      have htup : ∀ (H : Heap) (E : Emb) (w : World) (p q : Int), VR H E w (.tup [.i (.sc (.int .i64 p)), .i (.sc (.int .i64 q))]) (.tuple #[.int .i64 p, .int .i64 q]) := fun H E w p q => .tup _ _ rfl fun j hj => by
        match j, hj with
        | 0, _ => exact .i _ _ (.sc _ rfl)
        | 1, _ => exact .i _ _ (.sc _ rfl)
      cases hm with
      | mp _ g' hg =>
        rw [hg] at h6; injection h6 with h6; subst h6
        have hf := findKey_run (P := P) h2 h9 s w
        have hgo : (getObj g').run P w = .ok (.map es clock) w := by simp [getObj, Sem.run, h8]
        unfold addK
        cases hb : hasK ks s with
        | true =>
          have hmk := modify_key h9 hb
          obtain ⟨x1, x2, x3⟩ := mapTurn (P := P) (u := u) h e4 hg h7 h8 h9
          refine ⟨_, _, ?_, ⟨⟨E, x2, htup _ _ _ _ _, x1⟩, fun q hq hn => dom_put' e4 hn⟩⟩
          rw [hb] at hf
          have hcg := modify_same hmk (fun e => { key := .string s, val := e.val, born := e.born }) rfl
          simp only [Instr.mapEntry, Sem.run_bind, run_underlying h1, Result.andThen_ok, hgo, checkKey_run h2, hf, hmk, Option.map_some, Option.getD_some, Instr.keyThatStays, sameBits_string, if_true, Sem.run_pure]
          rw [hcg, x3]
          rfl
        | false =>
          have hup := h9.push hb 0
          rw [updG_out (h9.out s hb)] at hup
          obtain ⟨x1, x2, x3⟩ := mapTurn (P := P) (u := u) h e4 hg h7 h8 hup
          refine ⟨_, _, ?_, ⟨⟨E, x2, htup _ _ _ _ _, x1⟩, fun q hq hn => dom_put' e4 hn⟩⟩
          rw [hb] at hf
          have hidx : idxK (ks ++ [s]) s = clock := by
            rw [h9.clock]
            clear hup x1 x2 x3 hf htup h9 e4
            induction ks with
            | nil => simp [idxK, bbeq]
            | cons a l ih =>
              simp only [hasK, Bool.or_eq_false_iff] at hb
              simp only [List.cons_append, idxK, hb.1, List.length_cons, ih hb.2]
          simp only [Instr.mapEntry, Sem.run_bind, run_underlying h1, Result.andThen_ok, hgo, checkKey_run h2, hf, run_zeroValue h4 h5, x3, Sem.run_pure, goInt, hidx, h9.out s hb]
    · cases hr
  · cases hr

theorem findIdx_born (g : ByteArray → Int) (n : Nat) : ∀ (ks : List ByteArray) (j : Nat), j ≤ n → n < j + ks.length → (mkEs g j ks).findIdx? (fun e => (e.born : Int) == (n : Int)) = some (n - j)
  | [], j, h1, h2 => by simp at h2; omega
  | k :: ks, j, h1, h2 => by
    simp only [mkEs, List.findIdx?_cons]
    by_cases e : j = n
    · subst e; simp
    · have : ((j : Int) == (n : Int)) = false := by simpa using (show ¬ (j : Int) = n by omega)
      rw [this]
      simp only [Bool.false_eq_true, if_false]
      rw [findIdx_born g n ks (j + 1) (by omega) (by simp at h2; omega)]
      simp
      omega

theorem entryStoreA_gives {t : TypeId} {m k x : AV} {vm vk vx : Value} {r : Res} (h : HOk H E w) (hm : VR H E w m vm) (hk : VR H E w k vk) (hx : VR H E w x vx) (hr : entryStoreA H m k x = some r) (hps : AllP r.ps) : Gives0 P H E w fresh (Instr.entryStore t vm vk vx) r := by
  unfold entryStoreA at hr
  split at hr
  · rename_i id kk j n e2 e3
    obtain rfl := intOf_some e2
    obtain rfl := intOf_some e3
    split at hr
    · rename_i u ks g e4
      injection hr with hr
      subst hr
      obtain ⟨h0, h1, _⟩ := hps
      obtain ⟨jn, rfl⟩ : ∃ jn : Nat, j = jn := ⟨j.toNat, by omega⟩
      obtain rfl := hk.sc_
      obtain rfl := hx.sc_
      obtain ⟨b, es, clock, h6, h7, h8, h9⟩ := h.obj id _ e4
      cases hm with
      | mp _ g' hg =>
        rw [hg] at h6; injection h6 with h6; subst h6
        have hgo : (getObj g').run P w = .ok (.map es clock) w := by simp [getObj, Sem.run, h8]
        have hup := h9.upd (show jn < ks.length by omega) n
        obtain ⟨x1, x2, x3⟩ := mapTurn (P := P) (u := u) h e4 hg h7 h8 hup
        have hfi : es.findIdx? (fun e => (e.born : Int) == (jn : Int)) = some jn := by
          have := findIdx_born g jn ks 0 (by omega) (by omega)
          rw [← h9.list] at this
          obtain ⟨l⟩ := es
          rw [← List.findIdx?_toArray] at this
          simpa using this
        refine ⟨_, ?_, ⟨⟨E, x2, .any _, x1⟩, fun q hq hn => dom_put' e4 hn⟩⟩
        simp only [Instr.entryStore, Sem.run_bind, Result.andThen_ok, hgo, asInt, asIntOf, Sem.run_pure, hfi]
        exact x3
    · cases hr
  · cases hr

/-! ### Operators -/
theorem scs_some {cs : List AV} {vs : Array Value} {xs : List Value} (hl : cs.length = vs.size) (hv : ∀ k, k < cs.length → VR H E w (nth cs k) (vs.getD k undef)) (h : scs? cs = some xs) : xs = vs.toList := by
  have key : ∀ (cs : List AV) (l : List Value) (xs : List Value), cs.length = l.length → (∀ k, k < cs.length → VR H E w (nth cs k) (l.getD k undef)) → scs? cs = some xs → xs = l := by
    intro cs
    induction cs with
    | nil => intro l xs hl _ h; injection h with h; subst h; cases l with | nil => rfl | cons => simp at hl
    | cons a cs ih =>
      intro l xs hl hv h
      cases l with
      | nil => simp at hl
      | cons u l =>
        simp only [scs?] at h
        split at h
        · rename_i v vs' h1 h2
          injection h with h
          subst h
          have ha : a = .i (.sc v) := by
            unfold AV.sc? at h1
            split at h1
            · injection h1 with h1; subst h1; rfl
            · cases h1
          subst ha
          have h0 := hv 0 (by simp)
          have : u = v := h0.sc_
          subst this
          rw [ih l vs' (by simpa using hl) (fun k hk => by have := hv (k + 1) (by simpa using hk); simpa [nth] using this) h2]
        · cases h
  refine key cs vs.toList xs (by simp [hl]) (fun k hk => ?_) h
  have := hv k hk
  rwa [← getD_ofList, Array.toArray_toList]

theorem eqFields_run {xs ys : Array Value} : ∀ {fs : List Field} {b : Bool}, eqFields P xs.toList ys.toList fs = some b → ∀ w : World, (Op.eqFields 9999 xs ys fs).run P w = .ok b w
  | [], b, h, w => by injection h with h; subst h; rfl
  | f :: fs, b, h, w => by
    simp only [eqFields] at h
    simp only [Op.eqFields]
    split at h
    · rename_i hn
      have : f.name = "_" := by simpa using hn
      rw [if_neg (by simp [this])]
      exact eqFields_run h w
    · rename_i hn
      have : f.name ≠ "_" := by simpa using hn
      rw [if_pos this]
      split at h
      · rename_i a c ha hc hag
        split at h
        · rename_i e d h1 h2
          injection h with h
          subst h
          have p1 : (part f.type xs f.offset).run P w = .ok a w := by
            have : xs[f.offset]? = some a := by simpa using ha
            simp [part, run_isAgg hag, this]
          have p2 : (part f.type ys f.offset).run P w = .ok c w := by
            have : ys[f.offset]? = some c := by simpa using hc
            simp [part, run_isAgg hag, this]
          have p3 := pureRun_run h1 w
          simp only [Sem.run_bind, p1, p2, p3, Result.andThen_ok, Sem.run_ite, Sem.run_pure]
          cases e
          · simp
          · simp [eqFields_run h2 w]
        · cases h
      · cases h

theorem structEq_run {t : TypeId} {fs : Array Field} {xs ys : Array Value} {b : Bool} (hu : P.underlying t = some (.struct fs)) (hp : P.stoodInHeld t = false) (h : eqFields P xs.toList ys.toList fs.toList = some b) (w : World) :
    (Op.equal t (.agg xs) (.agg ys)).run P w = .ok b w := by
  have hf : P.fieldsOf t = fs := by simp [Program.fieldsOf, hu]
  have := run_equalIn_struct (P := P) w 9999 t xs ys (by rw [hf]; exact hu) hp
  rw [hf] at this
  unfold Op.equal Op.maxDepth
  rw [this]
  exact eqFields_run h w

theorem eqGuard_plain {op : BinOp} {t : TypeId} {ox oy : Operand} {a b : Value} (h : match a, b with | .nilIface, .nilIface => False | .agg _, .agg _ => False | _, _ => True) (w : World) : (eqGuard op t ox oy a b).run P w = .ok () w := by
  cases a <;> cases b <;> first | exact h.elim | simp [eqGuard]

theorem floatRes_gives {k : FloatKind} {o : Option Nat} {x y : Nat} {s : Sem Value} {r : Res} (h : HOk H E w) (hr : floatRes k o = some r) (hps : AllP r.ps)
    (hs : s.run P w = (match o with | some r => (pure (.float k r) : Sem Value) | none => do pure (.float k (← choose (.nanBits k x y)))).run P w) : Gives P H E w fresh s r := by
  injection hr with hr
  subst hr
  obtain ⟨h1, _⟩ := hps
  cases o with
  | none => cases h1
  | some v => exact .same h hs (.i _ _ (.sc _ rfl))

theorem eql_nil {t : TypeId} {ox oy : Operand} {a : Addr} (hu : ∃ e, P.underlying t = some (.pointer e)) (w : World) : (do eqGuard .eql t ox oy (.pointer (some a)) (.pointer none); binOp .eql t (.pointer (some a)) (.pointer none)).run P w = .ok (.bool false) w := by
  obtain ⟨e, hu⟩ := hu
  have := run_eql_pointer_nil (P := P) w t (some a) (by simp [Program.pointee, hu])
  simp only [Sem.run_bind, eqGuard_plain, Result.andThen_ok]
  exact this
theorem neq_nil {t : TypeId} {ox oy : Operand} {a : Addr} (hu : ∃ e, P.underlying t = some (.pointer e)) (w : World) : (do eqGuard .neq t ox oy (.pointer (some a)) (.pointer none); binOp .neq t (.pointer (some a)) (.pointer none)).run P w = .ok (.bool true) w := by
  obtain ⟨e, hu⟩ := hu
  have := run_neq_pointer_nil (P := P) w t (some a) (by simp [Program.pointee, hu])
  simp only [Sem.run_bind, eqGuard_plain, Result.andThen_ok]
  exact this

theorem binA_gives {op : BinOp} {t : TypeId} {ox oy : Operand} {x y : AV} {vx vy : Value} {r : Res} (h : HOk H E w) (hx : VR H E w x vx) (hy : VR H E w y vy) (hr : binA P op t ox oy x y = some r) (hps : AllP r.ps) :
    Gives P H E w fresh (do eqGuard op t ox oy vx vy; binOp op t vx vy) r := by
  unfold binA at hr
  split at hr
  · rename_i k a k' b
    obtain rfl := hx.sc_
    obtain rfl := hy.sc_
    split at hr
    · rename_i hk
      have hk : k = k' := by simpa using hk
      subst hk
      injection hr with hr; subst hr
      obtain ⟨hb, _⟩ := hps
      have hb : b ≠ 0 := hb
      exact .same h (by simp [eqGuard_plain, binOp, Op.intDiv, hb]) (.i _ _ (.sc _ rfl))
    · cases hr
  · rename_i k a k' b
    obtain rfl := hx.sc_
    obtain rfl := hy.sc_
    split at hr
    · rename_i hk
      have hk : k = k' := by simpa using hk
      subst hk
      injection hr with hr; subst hr
      obtain ⟨hb, _⟩ := hps
      have hb : b ≠ 0 := hb
      exact .same h (by simp [eqGuard_plain, binOp, Op.intDiv, hb]) (.i _ _ (.sc _ rfl))
    · cases hr
  · rename_i k a k' b
    obtain rfl := hx.sc_
    obtain rfl := hy.sc_
    injection hr with hr; subst hr
    obtain ⟨hb, _⟩ := hps
    exact .same h (by simp [eqGuard_plain, binOp, Op.shift, show ¬ b < 0 by omega]) (.i _ _ (.sc _ rfl))
  · rename_i k a k' b
    obtain rfl := hx.sc_
    obtain rfl := hy.sc_
    injection hr with hr; subst hr
    obtain ⟨hb, _⟩ := hps
    exact .same h (by simp [eqGuard_plain, binOp, Op.shift, show ¬ b < 0 by omega]) (.i _ _ (.sc _ rfl))
  · rename_i a b
    obtain rfl := hx.sc_
    obtain rfl := hy.sc_
    injection hr with hr; subst hr
    obtain ⟨hb, _⟩ := hps
    have : ¬ ((a.size + b.size : Nat) : Int) > IntKind.i64.max := by
      have : IntKind.i64.max = 9223372036854775807 := by decide
      omega
    exact .same h (by simp only [Sem.run_bind, eqGuard_plain, Result.andThen_ok, binOp, Op.stringOp, this, if_false]; rfl) (.i _ _ (.sc _ rfl))
  · rename_i k a k' b
    obtain rfl := hx.sc_
    obtain rfl := hy.sc_
    split at hr
    · rename_i hk
      have hk : k = k' := by simpa using hk
      subst hk
      refine floatRes_gives h hr hps (x := a) (y := b) ?_
      simp only [Sem.run_bind, eqGuard_plain, Result.andThen_ok, binOp, ne_eq, not_true, if_false, Op.floatArith, Sem.run_pure]
      rfl
    · cases hr
  · rename_i k a k' b
    obtain rfl := hx.sc_
    obtain rfl := hy.sc_
    split at hr
    · rename_i hk
      have hk : k = k' := by simpa using hk
      subst hk
      refine floatRes_gives h hr hps (x := a) (y := b) ?_
      simp only [Sem.run_bind, eqGuard_plain, Result.andThen_ok, binOp, ne_eq, not_true, if_false, Op.floatArith, Sem.run_pure]
      rfl
    · cases hr
  · rename_i k a k' b
    obtain rfl := hx.sc_
    obtain rfl := hy.sc_
    split at hr
    · rename_i hk
      have hk : k = k' := by simpa using hk
      subst hk
      refine floatRes_gives h hr hps (x := a) (y := b) ?_
      simp only [Sem.run_bind, eqGuard_plain, Result.andThen_ok, binOp, ne_eq, not_true, if_false, Op.floatArith, Sem.run_pure]
      rfl
    · cases hr
  · rename_i k a k' b
    obtain rfl := hx.sc_
    obtain rfl := hy.sc_
    split at hr
    · rename_i hk
      have hk : k = k' := by simpa using hk
      subst hk
      refine floatRes_gives h hr hps (x := a) (y := b) ?_
      simp only [Sem.run_bind, eqGuard_plain, Result.andThen_ok, binOp, ne_eq, not_true, if_false, Op.floatArith, Sem.run_pure]
      rfl
    · cases hr
  · rename_i a b _ _ _ _ _ _ _ _ _
    obtain rfl := hx.sc_
    obtain rfl := hy.sc_
    exact scalarA_gives h hr
  · split at hr
    · rename_i fs xs ys hu hxs hys hst hgd
      split at hr
      · rename_i b hb
        injection hr with hr; subst hr
        cases hx with
        | agg _ va hla hva =>
          cases hy with
          | agg _ vb hlb hvb =>
            obtain rfl := scs_some hla hva hxs
            obtain rfl := scs_some hlb hvb hys
            exact .same h (by simp [eqGuard, hgd, binOp, structEq_run hu hst hb]) (.i _ _ (.sc _ rfl))
      · cases hr
    · cases hr
  · split at hr
    · rename_i fs xs ys hu hxs hys hst hgd
      split at hr
      · rename_i b hb
        injection hr with hr; subst hr
        cases hx with
        | agg _ va hla hva =>
          cases hy with
          | agg _ vb hlb hvb =>
            obtain rfl := scs_some hla hva hxs
            obtain rfl := scs_some hlb hvb hys
            exact .same h (by simp [eqGuard, hgd, binOp, structEq_run hu hst hb]) (.i _ _ (.sc _ rfl))
      · cases hr
    · cases hr
  · obtain rfl := hy.sc_
    split at hr
    · have hu : ∃ e, P.underlying t = some (.pointer e) := ⟨_, by assumption⟩
      injection hr with hr; subst hr
      cases hx with
      | ptr _ _ g hg => exact .same h (eql_nil hu w) (.i _ _ (.sc _ rfl))
    · have hu : ∃ e, P.underlying t = some (.pointer e) := ⟨_, by assumption⟩
      injection hr with hr; subst hr
      cases hx with
      | pel _ _ _ _ _ v0 _ hg hs hc =>
        obtain ⟨g, o, rfl⟩ := hs
        exact .same h (eql_nil hu w) (.i _ _ (.sc _ rfl))
    · have hu : ∃ e, P.underlying t = some (.pointer e) := ⟨_, by assumption⟩
      injection hr with hr; subst hr
      cases hx with
      | ro => exact .same h (eql_nil hu w) (.i _ _ (.sc _ rfl))
    · cases hr
  · obtain rfl := hy.sc_
    split at hr
    · have hu : ∃ e, P.underlying t = some (.pointer e) := ⟨_, by assumption⟩
      injection hr with hr; subst hr
      cases hx with
      | ptr _ _ g hg => exact .same h (neq_nil hu w) (.i _ _ (.sc _ rfl))
    · have hu : ∃ e, P.underlying t = some (.pointer e) := ⟨_, by assumption⟩
      injection hr with hr; subst hr
      cases hx with
      | pel _ _ _ _ _ v0 _ hg hs hc =>
        obtain ⟨g, o, rfl⟩ := hs
        exact .same h (neq_nil hu w) (.i _ _ (.sc _ rfl))
    · have hu : ∃ e, P.underlying t = some (.pointer e) := ⟨_, by assumption⟩
      injection hr with hr; subst hr
      cases hx with
      | ro => exact .same h (neq_nil hu w) (.i _ _ (.sc _ rfl))
    · cases hr
  · cases hr

theorem strF_eq (n : Nat) (f : Nat → Nat → IV) (xs : List Int) (hl : xs.length = n) (h : ∀ i, i < n → byteOf (f i 0) = UInt8.ofNat (xs.getD i 0).toNat) : strF n f = strOfNums xs := by
  unfold strF strOfNums
  congr 2
  apply List.ext_getElem
  · simp [hl]
  · intro i h1 h2
    have hi : i < n := by simpa using h1
    have := h i hi
    simp only [List.getElem_map, List.getElem_range, this]
    simp [List.getD, List.getElem?_eq_getElem (show i < xs.length by omega)]

theorem byteAt_cast (s : ByteArray) (j : Nat) : byteAt s (j : Int) = ((s.data.toList.getD j 0).toNat : Int) := by
  simp [byteAt, List.getD]

theorem convA_gives {src dst : TypeId} {x : AV} {vx : Value} {r : Res} (h : HOk H E w) (hx : VR H E w x vx) (hr : convA P H src dst x = some r) (hps : AllP r.ps) : Gives P H E w fresh (convert src dst vx) r := by
  unfold convA at hr
  split at hr
  · rename_i u e s hs hd
    split at hr
    · rename_i he
      injection hr with hr; subst hr
      obtain rfl := hx.sc_
      have hrun := Lib.run_convert_string_bytes (P := P) w src dst e s hs hd he
      have hg := h.grow (w' := Lib.bytesWorld w e s) rfl rfl rfl (by rw [Lib.bytesWorld_size]; omega) (fun g hg => Lib.bytesWorld_at_old w e s g hg)
      refine ⟨_, _, hrun, ⟨⟨E, hg.2, .i _ _ ?_, hg.1⟩, fun _ _ h => h⟩⟩
      refine .sv s.size 1 (bytesF s) _ _ w.heap.size 0 (fun i _ => .int .u8 (byteAt s i)) (grownCap_ge w _ _ _) (fun _ => ⟨rfl, h.fresh _ (Nat.le_refl _), by rw [Lib.bytesWorld_size]; omega⟩) (fun i j hi hj => ?_) (fun i j hi hj => .sc _ rfl)
      have : j = 0 := by omega
      subst this
      simp only [Nat.zero_add, Nat.mul_one, Nat.add_zero]
      rw [Lib.bytesWorld_cell w e s i hi, byteAt_cast]
    · cases hr
  · rename_i e hs hd
    split at hr
    · rename_i n sz f ps he hso
      split at hr
      · rename_i hc
        simp only [nbeq, Bool.and_eq_true, decide_eq_true_eq, Bool.not_eq_true'] at hc
        obtain ⟨rfl, hstr⟩ := hc
        injection hr with hr; subst hr
        obtain ⟨hb, hps⟩ := hps
        obtain ⟨A, c, rfl, hsrc⟩ := sourceA_ok h hx hso hps hstr
        have hrun : (convert src dst (.slice A n c)).run P w = .ok (.string (strF n f)) w := by
          by_cases hn : n = 0
          · subst hn
            have : strF 0 f = ByteArray.empty := rfl
            rw [this]
            cases A with
            | none => exact run_convert_bytes_nil w src e hs he 0 c dst hd
            | some a =>
              rw [run_convert_bytes_string w src dst e a 0 c hs he hd, run_bytesToString w a 0 c [] (by simp [loadCells, loadCellsFrom])]
              rfl
          · obtain ⟨g, o, rfl, hcell⟩ := hsrc (by omega)
            have hx2 : ∀ i, i < n → ∃ b : UInt8, w.cell? ⟨g, o + i, none⟩ = some (.int .u8 b.toNat) ∧ f i 0 = .sc (.int .u8 b.toNat) := by
              intro i hi
              obtain ⟨b, h1⟩ := hb i hi
              obtain ⟨u, h2, h3⟩ := hcell i 0 hi (by omega)
              rw [h1] at h3
              cases h3
              exact ⟨b, by simpa using h2, h1⟩
            have hxs : (List.range n).map (fun i => (match f i 0 with | .sc (.int _ m) => m | _ => 0 : Int)) = (List.range n).map (fun i => (match f i 0 with | .sc (.int _ m) => m | _ => 0 : Int)) := rfl
            rw [run_convert_bytes_arg (P := P) w src e hs he g o n c ((List.range n).map (fun i => (match f i 0 with | .sc (.int _ m) => m | _ => 0 : Int))) (by simp) (fun i hi => by
              obtain ⟨b, h1, h2⟩ := hx2 i hi
              rw [h1]
              simp [List.getD, hi, h2]) dst hd]
            congr 2
            refine (strF_eq n f _ (by simp) fun i hi => ?_).symm
            obtain ⟨b, h1, h2⟩ := hx2 i hi
            simp [List.getD, hi, h2, byteOf]
        exact .same h hrun (.i _ _ (.sc _ rfl))
      · cases hr
    · cases hr
  · rename_i s' k s b hs hd
    injection hr with hr; subst hr
    obtain ⟨h1, h2, h3, _⟩ := hps
    obtain rfl := hx.sc_
    obtain ⟨n, hn⟩ := Option.isSome_iff_exists.1 h1
    rw [hn] at h2 h3 ⊢
    simp only [Option.getD_some] at h2 h3 ⊢
    refine .same (v := .int k n) h ?_ (.i _ _ (.sc _ rfl))
    simp only [convert, Sem.run_bind, run_underlying hs, run_underlying hd, Result.andThen_ok, Conv.floatToInt, hn]
    rw [if_pos ⟨h2, h3⟩]
    rfl
  · rename_i v _ _ _
    obtain rfl := hx.sc_
    exact scalarA_gives h hr
  · cases hr

theorem nilCheckA_run {x : AV} {vx : Value} {r : Res} {ρ : Operand → Value} {o : Oper} {q : Operand} (hop : o.op = .nilCheck q) (hv : ρ q = vx) (hx : VR H E w x vx) (hr : nilCheckA x = some r) : (execOp ρ o).run P w = .ok (.value vx) w ∧ r = ⟨x, [], []⟩ := by
  unfold nilCheckA at hr
  simp only [execOp, hop, hv]
  split at hr
  · injection hr with hr; subst hr
    cases hx; exact ⟨rfl, rfl⟩
  · injection hr with hr; subst hr
    cases hx with
    | pel _ _ _ _ _ v0 _ h hs hc => obtain ⟨g, o, rfl⟩ := hs; exact ⟨rfl, rfl⟩
  · injection hr with hr; subst hr
    cases hx; exact ⟨rfl, rfl⟩
  · injection hr with hr; subst hr
    cases hx; exact ⟨rfl, rfl⟩
  · injection hr with hr; subst hr
    obtain rfl := hx.sc_
    exact ⟨rfl, rfl⟩
  · cases hr
end
end Go.AI
