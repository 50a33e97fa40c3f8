import Derived.Test.YtjgddhjjcgndaaaAIOps
/- Contracts, and what a call does. -/
set_option linter.unusedVariables false
set_option linter.unusedSimpArgs false
namespace Go.AI

def hp : Nat → List AO → Heap
  | _, [] => []
  | k, o :: l => (k, o) :: hp (k + 1) l

theorem get_hp (objs : List AO) : ∀ (j k : Nat), get (hp j objs) (j + k) = objs[k]? := by
  induction objs with
  | nil => intro j k; rfl
  | cons o l ih =>
    intro j k
    simp only [hp, get, nbeq]
    cases k with
    | zero => simp
    | succ k =>
      have h : ¬ j = j + (k + 1) := by omega
      simp only [h, decide_false]
      rw [show j + (k + 1) = (j + 1) + k by omega, ih (j + 1) k]
      simp
theorem get_hp0 (objs : List AO) (k : Nat) : get (hp 0 objs) k = objs[k]? := by
  have := get_hp objs 0 k
  rwa [Nat.zero_add] at this

/-- What a function does, whatever the world: arguments and objects by canonical numbers. -/
def Contract (P : Program) (f : FuncId) (args : List AV) (objs : List AO) (r : AV) (outs : List AO) : Prop :=
  ∀ (E : Emb) (w : World) (vs : Array Value), HOk (hp 0 objs) E w → args.length = vs.size → (∀ k, k < args.length → VR (hp 0 objs) E w (nth args k) (vs.getD k undef)) →
    Calls P f vs w fun e w' => ∃ E' v, e = .returned v ∧ HOk (hp 0 outs) E' w' ∧ VR (hp 0 outs) E' w' r v ∧ Ext (hp 0 objs) E w (hp 0 outs) E' w'

/-- What a hook tells is true, where what it owes holds. -/
structure HookOK (P : Program) (hk : Hook) : Prop where
  run : ∀ g a o h, hk.run g a o = some h → AllP h.ps → Contract P g a o h.val (outsOf h.upd o h.outs)
  ext : ∀ g vs v ps, hk.ext g vs = some (v, ps) → AllP ps → ∃ fn e, P.funcs[g]? = some fn ∧ (fn.name == "runtime.NumGoroutine") = false ∧ fn.body.isNone = true ∧ Extern.findNext fn = none ∧ Extern.find fn = some e ∧
    v.oneCell' = true ∧ ∀ w, (e vs.toArray).run P w = .ok v w

/-! ### Lists of numbers -/
theorem hasN_iff (l : List Nat) (k : Nat) : hasN l k = true ↔ k ∈ l := by
  induction l with
  | nil => simp [hasN]
  | cons a l ih =>
    simp only [hasN, nbeq]
    by_cases h : a = k
    · subst h; simp
    · simp only [h, decide_false, ih, List.mem_cons]
      exact ⟨.inr, fun h' => h'.resolve_left (Ne.symm h)⟩
theorem subN_iff (l m : List Nat) : subN l m = true ↔ ∀ k ∈ l, k ∈ m := by
  induction l with
  | nil => simp [subN]
  | cons a l ih =>
    simp only [subN]
    split
    · rename_i h; rw [ih]; simp [(hasN_iff m a).1 h]
    · rename_i h
      have : a ∉ m := fun hm => by rw [(hasN_iff m a).2 hm] at h; cases h
      simp [this]
theorem nodupN_iff (l : List Nat) : nodupN l = true ↔ l.Nodup := by
  induction l with
  | nil => simp [nodupN]
  | cons a l ih =>
    simp only [nodupN]
    split
    · rename_i h; simp [(hasN_iff l a).1 h]
    · rename_i h
      have : a ∉ l := fun hm => by rw [(hasN_iff l a).2 hm] at h; cases h
      rw [ih]; simp [this]
theorem meets_iff (l m : List Nat) : meets l m = false ↔ ∀ k ∈ l, k ∉ m := by
  induction l with
  | nil => simp [meets]
  | cons a l ih =>
    simp only [meets]
    split
    · rename_i h; simp [(hasN_iff m a).1 h]
    · rename_i h
      have : a ∉ m := fun hm => by rw [(hasN_iff m a).2 hm] at h; cases h
      rw [ih]; simp [this]
theorem presentN_iff (H : Heap) (l : List Nat) : presentN H l = true ↔ ∀ k ∈ l, ∃ o, get H k = some o := by
  induction l with
  | nil => simp [presentN]
  | cons a l ih =>
    simp only [presentN]
    split
    · rename_i o h; rw [ih]; simp [h]
    · rename_i h; simp [h]
theorem closedN_iff (H : Heap) (S l : List Nat) : closedN H S l = true → ∀ k ∈ l, ∀ o, get H k = some o → ∀ j ∈ refsO o, j ∈ S := by
  induction l with
  | nil => simp
  | cons a l ih =>
    simp only [closedN]
    split
    · rename_i o h
      split
      · rename_i h1
        intro h2 k hk o' ho'
        cases hk with
        | head => rw [h] at ho'; injection ho' with ho'; subst ho'; exact (subN_iff _ _).1 h1
        | tail _ hk => exact ih h2 k hk o' ho'
      · intro h; cases h
    · intro h; cases h
theorem belowN_iff (n : Nat) (l : List Nat) : belowN n l = true ↔ ∀ k ∈ l, k < n := by
  induction l with
  | nil => simp [belowN]
  | cons a l ih =>
    simp only [belowN, nble]
    by_cases h : a + 1 ≤ n
    · simp only [h, decide_true, ih]; simp; intro _; omega
    · simp only [h, decide_false]; simp; intro h'; omega
theorem belowO_iff (n : Nat) (l : List AO) : belowO n l = true → ∀ o ∈ l, ∀ k ∈ refsO o, k < n := by
  induction l with
  | nil => simp
  | cons a l ih =>
    simp only [belowO]
    split
    · rename_i h
      intro h' o ho
      cases ho with
      | head => exact (belowN_iff n _).1 h
      | tail _ ho => exact ih h' o ho
    · intro h; cases h
theorem idxN_mem {S : List Nat} {id : Nat} (h : id ∈ S) : idxN S id < S.length ∧ S[idxN S id]? = some id := by
  induction S with
  | nil => cases h
  | cons a l ih =>
    simp only [idxN, nbeq]
    by_cases e : a = id
    · subst e; simp
    · simp only [e, decide_false]
      obtain ⟨h1, h2⟩ := ih (by cases h with | head => exact absurd rfl e | tail _ h => exact h)
      exact ⟨by simpa using h1, by simpa using h2⟩
theorem nthN_eq {L : List Nat} {k : Nat} (h : k < L.length) : L[k]? = some (nthN L k) := by
  induction L generalizing k with
  | nil => simp at h
  | cons a l ih => cases k with
    | zero => rfl
    | succ k => simpa [nthN] using ih (by simpa using h)
theorem idxN_nthN {L : List Nat} (hn : L.Nodup) {k : Nat} (h : k < L.length) : idxN L (nthN L k) = k := by
  have h1 := nthN_eq h
  obtain ⟨h2, h3⟩ := idxN_mem (List.mem_of_getElem? h1)
  have e1 : L[idxN L (nthN L k)] = nthN L k := by rw [List.getElem?_eq_getElem h2] at h3; injection h3
  have e2 : L[k] = nthN L k := by rw [List.getElem?_eq_getElem h] at h1; injection h1
  exact (List.getElem_inj hn).1 (e1.trans e2.symm)
theorem nthN_mem {L : List Nat} {k : Nat} (h : k < L.length) : nthN L k ∈ L := List.mem_of_getElem? (nthN_eq h)
theorem nthN_idxN {L : List Nat} {id : Nat} (h : id ∈ L) : nthN L (idxN L id) = id := by
  obtain ⟨h1, h2⟩ := idxN_mem h
  have := nthN_eq h1
  rw [h2] at this
  injection this with this
  exact this.symm
theorem nthN_left {S F : List Nat} {k : Nat} (h : k < S.length) : nthN (S ++ F) k = nthN S k := by
  induction S generalizing k with
  | nil => simp at h
  | cons a l ih => cases k with
    | zero => rfl
    | succ k => simpa [nthN] using ih (by simpa using h)
theorem freshL_mem (n : Nat) : ∀ (k a : Nat), a ∈ freshL k n ↔ k ≤ a ∧ a < k + n := by
  induction n with
  | zero => intro k a; simp [freshL]
  | succ n ih => intro k a; simp only [freshL, List.mem_cons, ih]; omega
theorem freshL_nodup (n : Nat) : ∀ k, (freshL k n).Nodup := by
  induction n with
  | zero => intro k; simp [freshL]
  | succ n ih => intro k; simp only [freshL, List.nodup_cons, freshL_mem]; exact ⟨by omega, ih _⟩
theorem freshL_length (n : Nat) : ∀ k, (freshL k n).length = n := by
  induction n with
  | zero => intro k; rfl
  | succ n ih => intro k; simp [freshL, ih]

/-! ### What is put into the heap -/
def lastOf : List (Nat × AO) → Nat → Option AO
  | [], _ => none
  | (k, o) :: l, id => match lastOf l id with
    | some x => some x
    | none => if k = id then some o else none
theorem get_puts (l : List (Nat × AO)) : ∀ (H : Heap) (id : Nat), get (puts H l) id = match lastOf l id with | some o => some o | none => get H id := by
  induction l with
  | nil => intro H id; rfl
  | cons x l ih =>
    intro H id
    obtain ⟨k, o⟩ := x
    rw [puts_cons, ih, lastOf]
    cases lastOf l id with
    | some y => rfl
    | none =>
      simp only [get_put]
      by_cases h : id = k
      · subst h; simp
      · simp [h, Ne.symm h]
theorem lastOf_append (a b : List (Nat × AO)) (id : Nat) : lastOf (a ++ b) id = match lastOf b id with | some o => some o | none => lastOf a id := by
  induction a with
  | nil => simp [lastOf]; cases lastOf b id <;> rfl
  | cons x a ih =>
    obtain ⟨k, o⟩ := x
    simp only [List.cons_append, lastOf, ih]
    cases lastOf b id <;> rfl
theorem lastOf_pairUp {L : List Nat} : ∀ {outs : List AO} (n : Nat), L.length = outs.length → L.Nodup → ∀ id, lastOf (pairUp L n outs) id = if id ∈ L then outs[idxN L id]? else none := by
  induction L with
  | nil => intro outs n hl _ id; cases outs with | nil => simp [pairUp, lastOf] | cons => simp at hl
  | cons a L ih =>
    intro outs n hl hn id
    cases outs with
    | nil => simp at hl
    | cons o outs =>
      have hn' := List.nodup_cons.1 hn
      simp only [pairUp, lastOf, ih n (show L.length = outs.length by simpa using hl) hn'.2 id, idxN, nbeq]
      by_cases e : a = id
      · subst e; simp [hn'.1]
      · simp only [e, decide_false, List.mem_cons, Ne.symm e, false_or]
        by_cases hm : id ∈ L
        · obtain ⟨h1, _⟩ := idxN_mem hm
          simp only [hm, if_true, List.getElem?_cons_succ]
          have : idxN L id < outs.length := by have : L.length = outs.length := by simpa using hl
                                               omega
          simp [List.getElem?_eq_getElem this]
        · simp [hm, e]
theorem lastOf_gone (l : List Nat) (id : Nat) : lastOf (l.map fun id => (id, AO.gone)) id = if id ∈ l then some .gone else none := by
  induction l with
  | nil => simp [lastOf]
  | cons a l ih =>
    simp only [List.map_cons, lastOf, ih]
    by_cases hm : id ∈ l
    · simp [hm]
    · by_cases e : a = id
      · subst e; simp [hm]
      · simp [hm, e, Ne.symm e]

/-! ### Numbers put for numbers -/
theorem nth_renL (r : Nat → Nat) (l : List AV) (k : Nat) (h : k < l.length) : nth (renL r l) k = ren r (nth l k) := by
  induction l generalizing k with
  | nil => simp at h
  | cons a l ih => cases k with
    | zero => rfl
    | succ k => simpa [renL, nth] using ih k (by simpa using h)
theorem renL_length (r : Nat → Nat) (l : List AV) : (renL r l).length = l.length := by
  induction l with
  | nil => rfl
  | cons a l ih => simp [renL, ih]
theorem mem_refsL {l : List AV} {k id : Nat} (h : k < l.length) (hm : id ∈ refs (nth l k)) : id ∈ refsL l := by
  induction l generalizing k with
  | nil => simp at h
  | cons a l ih =>
    simp only [refsL, List.mem_append]
    cases k with
    | zero => exact .inl hm
    | succ k => exact .inr (ih (by simpa using h) hm)

mutual
theorem ren_back {r s : Nat → Nat} : ∀ (a : AV), (∀ id ∈ refs a, s (r id) = id) → ren s (ren r a) = a
  | .any, _ => rfl
  | .i _, _ => rfl
  | .agg cs, h => by simp only [ren]; rw [renL_back cs (by simpa [refs] using h)]
  | .tup cs, h => by simp only [ren]; rw [renL_back cs (by simpa [refs] using h)]
  | .ptr id _, h => by simp only [ren]; rw [h id (by simp [refs])]
  | .sl id _ _ _, h => by simp only [ren]; rw [h id (by simp [refs])]
  | .row id _ _ _ _, h => by simp only [ren]; rw [h id (by simp [refs])]
  | .pel id _ _ _ _, h => by simp only [ren]; rw [h id (by simp [refs])]
  | .ro .., _ => rfl
  | .mp id, h => by simp only [ren]; rw [h id (by simp [refs])]
  | .clo f a b, h => by
    simp only [ren]
    rw [renL_back a (fun id hid => h id (by simp [refs, hid])), renL_back b (fun id hid => h id (by simp [refs, hid]))]
theorem renL_back {r s : Nat → Nat} : ∀ (l : List AV), (∀ id ∈ refsL l, s (r id) = id) → renL s (renL r l) = l
  | [], _ => rfl
  | a :: l, h => by
    simp only [renL]
    rw [ren_back a (fun id hid => h id (by simp [refsL, hid])), renL_back l (fun id hid => h id (by simp [refsL, hid]))]
end
theorem renO_back {r s : Nat → Nat} (o : AO) (h : ∀ id ∈ refsO o, s (r id) = id) : renO s (renO r o) = o := by
  cases o with
  | cells t cs => simp only [renO]; rw [renL_back cs h]
  | _ => rfl

theorem VI.same {own own' : Nat → Own} {w : World} {x : IV} {v : Value} (h : VI own w x v) (hf : ∀ g, g < w.heap.size → own g = .free → own' g = .free) : VI own' w x v :=
  h.mono (Nat.le_refl _) fun g hg h1 => ⟨hf g hg h1, rfl⟩

theorem VR.ren_ {H H2 : Heap} {E E2 : Emb} {w : World} {ρ : Nat → Nat} {a : AV} {v : Value} (h : VR H E w a v) (hblk : ∀ id ∈ refs a, ∀ g, E.blk id = some g → E2.blk (ρ id) = some g)
    (hrow : ∀ id ∈ refs a, ∀ u, E.rowv id = some u → E2.rowv (ρ id) = some u ∧ (∀ c, verOf H2 (ρ id) = some c → verOf H id = some c)) (hf : ∀ g, g < w.heap.size → E.own g = .free → E2.own g = .free) : VR H2 E2 w (ren ρ a) v := by
  induction h with
  | any v => exact .any v
  | i x v h => exact .i x v (h.same hf)
  | agg cs vs hl _ ih =>
    exact .agg _ _ (by rw [renL_length]; exact hl) fun k hk => by
      rw [renL_length] at hk
      rw [nth_renL _ _ _ hk]
      exact ih k hk (fun id hid => hblk id (mem_refsL hk hid)) (fun id hid => hrow id (mem_refsL hk hid))
  | tup cs vs hl _ ih =>
    exact .tup _ _ (by rw [renL_length]; exact hl) fun k hk => by
      rw [renL_length] at hk
      rw [nth_renL _ _ _ hk]
      exact ih k hk (fun id hid => hblk id (mem_refsL hk hid)) (fun id hid => hrow id (mem_refsL hk hid))
  | ptr id off g h => exact .ptr _ _ _ (hblk id (by simp [refs]) g h)
  | sl id off n cap g h hc => exact .sl _ _ _ _ _ (hblk id (by simp [refs]) g h) hc
  | row id ver sz lo n v0 v h hv hc =>
    obtain ⟨h1, h2⟩ := hrow id (by simp [refs]) v0 h
    exact .row _ _ _ _ _ v0 v h1 hv fun c hc' => hc c (h2 c hc')
  | pel id ver sz k j v0 v h hv hc =>
    obtain ⟨h1, h2⟩ := hrow id (by simp [refs]) v0 h
    exact .pel _ _ _ _ _ v0 v h1 hv fun c hc' => hc c (h2 c hc')
  | ro n f off g o u hg hs hu hff => exact .ro n f off g o u (hf g hs hg) hs hu fun j hj => (hff j hj).same hf
  | mp id g h => exact .mp _ _ (hblk id (by simp [refs]) g h)
  | clo fn a b x y ha hb _ _ ih ih' =>
    refine .clo fn _ _ x y (by rw [renL_length]; exact ha) (by rw [renL_length]; exact hb) (fun k hk => ?_) fun k hk => ?_
    · rw [renL_length] at hk
      rw [nth_renL _ _ _ hk]
      exact ih k hk (fun id hid => hblk id (by simp [refs, mem_refsL hk hid])) (fun id hid => hrow id (by simp [refs, mem_refsL hk hid]))
    · rw [renL_length] at hk
      rw [nth_renL _ _ _ hk]
      exact ih' k hk (fun id hid => hblk id (by simp [refs, mem_refsL hk hid])) (fun id hid => hrow id (by simp [refs, mem_refsL hk hid]))

theorem OOk.ren_ {H H2 : Heap} {E E2 : Emb} {w : World} {ρ : Nat → Nat} {id : Nat} {o : AO} (h : OOk H E w id o) (hblk : ∀ k, k = id ∨ k ∈ refsO o → ∀ g, E.blk k = some g → E2.blk (ρ k) = some g)
    (hrow : ∀ k, k = id ∨ k ∈ refsO o → ∀ u, E.rowv k = some u → E2.rowv (ρ k) = some u) (hver : ∀ k ∈ refsO o, ∀ c, verOf H2 (ρ k) = some c → verOf H k = some c)
    (hown : ∀ g, g < w.heap.size → E.own g = .by_ id → E2.own g = .by_ (ρ id)) (hf : ∀ g, g < w.heap.size → E.own g = .free → E2.own g = .free) : OOk H2 E2 w (ρ id) (renO ρ o) := by
  cases o with
  | gone => trivial
  | cells t cs =>
    obtain ⟨g, c, h1, h2, h3, h4, h5⟩ := h
    refine ⟨g, c, hblk id (.inl rfl) g h1, hown g (Array.getElem?_eq_some_iff.1 h3).1 h2, h3, by rw [renL_length]; exact h4, fun k hk => ?_⟩
    rw [renL_length] at hk
    rw [nth_renL _ _ _ hk]
    exact (h5 k hk).ren_ (fun q hq => hblk q (.inr (mem_refsL hk hq))) (fun q hq u hu => ⟨hrow q (.inr (mem_refsL hk hq)) u hu, hver q (mem_refsL hk hq)⟩) hf
  | row e sz ver n f =>
    obtain ⟨hsz, v0, xs, h1, h2, h3, h4⟩ := h
    exact ⟨hsz, v0, xs, hrow id (.inl rfl) v0 h1, h2, fun g hg => hown g (h2.lt g hg).2 (h3 g hg), fun i j hi hj => (h4 i j hi hj).same hf⟩
  | smap t ks f =>
    obtain ⟨g, es, clock, h1, h2, h3, h4⟩ := h
    exact ⟨g, es, clock, hblk id (.inl rfl) g h1, hown g (Array.getElem?_eq_some_iff.1 h3).1 h2, h3, h4⟩

/-! ### Rows told by their elements -/
def Emb.lend (E : Emb) (th : List Nat) : Emb := { E with own := fun g => match E.own g with
  | .by_ id => if id ∈ th then .free else .by_ id
  | o => o }
def lets (H : Heap) (th : List Nat) : Heap := puts H (th.map fun id => (id, AO.gone))

theorem get_lets (H : Heap) (th : List Nat) (id : Nat) : get (lets H th) id = if id ∈ th then some .gone else get H id := by
  unfold lets
  rw [get_puts, lastOf_gone]
  by_cases h : id ∈ th
  · rw [if_pos h, if_pos h]
  · rw [if_neg h, if_neg h]

theorem lend_own {E : Emb} {th : List Nat} {g id : Nat} (h : E.own g = .by_ id) : (E.lend th).own g = if id ∈ th then .free else .by_ id := by simp [Emb.lend, h]
theorem lend_own' {E : Emb} {th : List Nat} {g : Nat} (h : ∀ id, E.own g ≠ .by_ id) : (E.lend th).own g = E.own g := by
  unfold Emb.lend
  show (match E.own g with | .by_ id => _ | o => o) = _
  cases hg : E.own g with
  | by_ id => exact absurd hg (h id)
  | free => rfl
  | foreign => rfl

theorem HOk.lends {H : Heap} {E : Emb} {w : World} (h : HOk H E w) (th : List Nat) (hp : ∀ id ∈ th, ∃ o, get H id = some o) : Ext H E w (lets H th) (E.lend th) w ∧ HOk (lets H th) (E.lend th) w := by
  have x : Ext H E w (lets H th) (E.lend th) w := by
    refine ⟨rfl, rfl, rfl, Nat.le_refl _, fun g _ hn => ⟨lend_own' hn, rfl⟩, fun _ _ h => h, fun id v hv => ⟨v, hv, fun c hc => ⟨c, ?_, Nat.le_refl _, fun _ => rfl⟩⟩⟩
    unfold verOf at hc ⊢
    rw [get_lets] at hc
    split at hc
    · rename_i hg; split at hg
      · cases hg
      · rename_i hne; rw [hg]; exact hc
    · cases hc
  refine ⟨x, fun id o ho => ?_, fun g hg => ?_, fun id hid => ?_⟩
  · rw [get_lets] at ho
    split at ho
    · injection ho with ho; subst ho; trivial
    · rename_i hn
      exact (h.obj id o ho).ext x ho (by rw [get_lets, if_neg hn]; exact ho) fun g _ hw => ⟨by rw [lend_own hw, if_neg hn], rfl⟩
  · have := h.fresh g hg
    rw [lend_own' (by simp [this])]
    exact this
  · rw [get_lets] at hid
    split at hid
    · cases hid
    · exact h.dom id hid

theorem thawL_length (H : Heap) (l : List AV) : (thawL H l).length = l.length := by
  induction l with
  | nil => rfl
  | cons a l ih => simp [thawL, ih]
theorem nth_thawL (H : Heap) (l : List AV) (k : Nat) (h : k < l.length) : nth (thawL H l) k = thaw H (nth l k) := by
  induction l generalizing k with
  | nil => simp at h
  | cons a l ih => cases k with
    | zero => rfl
    | succ k => simpa [thawL, nth] using ih k (by simpa using h)
theorem thawedL_nth (H : Heap) (l : List AV) (k : Nat) (h : k < l.length) : (∀ id ∈ (thawed H (nth l k)).1, id ∈ (thawedL H l).1) ∧ (AllP (thawedL H l).2 → AllP (thawed H (nth l k)).2) := by
  induction l generalizing k with
  | nil => simp at h
  | cons a l ih =>
    simp only [thawedL, AllP.app, List.mem_append]
    cases k with
    | zero => exact ⟨fun id hid => .inl hid, fun h => h.1⟩
    | succ k =>
      obtain ⟨h1, h2⟩ := ih k (by simpa using h)
      exact ⟨fun id hid => .inr (h1 id hid), fun h => h2 h.2⟩

theorem thaw_VR {H : Heap} {E : Emb} {w : World} (hH : HOk H E w) {th : List Nat} (hp : ∀ id ∈ th, ∃ o, get H id = some o) {a : AV} {v : Value} (h : VR H E w a v) (hps : AllP (thawed H a).2) (hin : ∀ id ∈ (thawed H a).1, id ∈ th) :
    VR (lets H th) (E.lend th) w (thaw H a) v := by
  obtain ⟨x, hH'⟩ := hH.lends th hp
  induction h with
  | any v => exact .any v
  | i y v h => exact .i y v (h.ext x)
  | agg cs vs hl _ ih =>
    refine .agg _ _ (by rw [thawL_length]; exact hl) fun k hk => ?_
    rw [thawL_length] at hk
    rw [nth_thawL _ _ _ hk]
    obtain ⟨h1, h2⟩ := thawedL_nth H cs k hk
    exact ih k hk (h2 hps) (fun id hid => hin id (h1 id hid))
  | tup cs vs hl h => exact (VR.tup cs vs hl h).ext x
  | ptr id off g h => exact (VR.ptr id off g h).ext x
  | sl id off n cap g h hc => exact (VR.sl id off n cap g h hc).ext x
  | row id ver sz lo n v0 v h hv hc =>
    simp only [thaw]
    split
    · rename_i e sz' ver' m f ho
      simp only [nbeq]
      by_cases e1 : ver = ver'
      case neg => simp only [e1, decide_false]; exact .any _
      by_cases e2 : sz = sz'
      case neg => simp only [e1, e2, decide_false, decide_true]; exact .any _
      subst e1 e2
      simp only [decide_true]
      simp only [thawed, ho] at hps hin
      have hlo : lo + n ≤ m := hps.1
      have hid : id ∈ th := hin id (by simp)
      obtain ⟨hsz, v0', xs, h4, h5, h6, h7⟩ := hH.obj id _ ho
      rw [h] at h4; injection h4 with h4; subst h4
      obtain ⟨_, h2⟩ := hc ver (by simp [verOf, ho])
      rcases h2 rfl with ⟨h9, h10, h11, h12⟩ | ⟨g, m2, c2, A', h9, h10, h11, h12, h13⟩
      · rw [h10, h12]
        exact .i _ _ (.sv 0 sz _ none 0 0 0 (fun _ _ => undef) (Nat.le_refl _) (fun h => by omega) (fun i j hi => by omega) (fun i j hi => by omega))
      · rw [h10]
        refine .i _ _ (.sv n sz _ A' _ g (lo * sz) (fun i j => xs.getD ((lo + i) * sz + j) undef) (by omega) (fun hn => ?_) (fun i j hi hj => ?_) (fun i j hi hj => (h7 (lo + i) j (by omega) hj).ext x))
        · have hb : v0.ownBlock = some g := by simp [h9, Value.ownBlock]
          exact ⟨h13 (by omega), by rw [lend_own (h6 g hb), if_pos hid], (h5.lt g hb).2⟩
        · have hlt := idx_lt (show lo + i < m by omega) hj
          have := row_cell h5 h9 hlt
          rw [show lo * sz + i * sz + j = (lo + i) * sz + j by rw [Nat.add_mul]]
          exact this
    · exact .any _
  | pel id ver sz k j v0 v h hv hc => exact (VR.pel id ver sz k j v0 v h hv hc).ext x
  | ro n f off g o u hg hs hu hf => exact (VR.ro (H := H) (E := E) n f off g o u hg hs hu hf).ext x
  | mp id g h => exact (VR.mp id g h).ext x
  | clo fn a b xs ys ha hb h h' => exact (VR.clo fn a b xs ys ha hb h h').ext x

theorem plain_VR {H H' : Heap} {E E' : Emb} {w w' : World} {a : AV} {v : Value} (h : VR H E w a v) (hp : plainA a = true) (ρ : Nat → Nat) : VR H' E' w' (ren ρ a) v := by
  have key : ∀ (a : AV) (v : Value), isSc a = true → VR H E w a v → VR H' E' w' (ren ρ a) v := by
    intro a v hs h
    cases h with
    | any v => exact .any v
    | i x v h =>
      cases h with
      | sc v ho => exact .i _ _ (.sc v ho)
      | sv => simp [isSc] at hs
    | _ => simp [isSc] at hs
  have keyL : ∀ (l : List AV), allSc l = true → ∀ k, k < l.length → isSc (nth l k) = true := by
    intro l
    induction l with
    | nil => intro _ k hk; simp at hk
    | cons a l ih =>
      intro h k hk
      simp only [allSc] at h
      split at h
      · rename_i ha
        cases k with
        | zero => exact ha
        | succ k => exact ih h k (by simpa using hk)
      · cases h
  cases h with
  | agg cs vs hl h => exact .agg _ _ (by rw [renL_length]; exact hl) (fun k hk => by
      rw [renL_length] at hk
      rw [nth_renL _ _ _ hk]
      exact key _ _ (keyL cs hp k hk) (h k hk))
  | tup cs vs hl h => exact .tup _ _ (by rw [renL_length]; exact hl) (fun k hk => by
      rw [renL_length] at hk
      rw [nth_renL _ _ _ hk]
      exact key _ _ (keyL cs hp k hk) (h k hk))
  | any v => exact .any v
  | i x v h =>
    cases h with
    | sc v ho => exact .i _ _ (.sc v ho)
    | sv => simp [plainA, isSc] at hp
  | _ => simp [plainA, isSc] at hp

theorem idxN_left {S F : List Nat} {id : Nat} (h : id ∈ S) : idxN (S ++ F) id = idxN S id := by
  induction S with
  | nil => cases h
  | cons a l ih =>
    simp only [List.cons_append, idxN, nbeq]
    by_cases e : a = id
    · simp [e]
    · simp only [e, decide_false]
      rw [ih (by cases h with | head => exact absurd rfl e | tail _ h => exact h)]
theorem idxN_right {S F : List Nat} {id : Nat} (h : id ∉ S) : idxN (S ++ F) id = S.length + idxN F id := by
  induction S with
  | nil => simp
  | cons a l ih =>
    simp only [List.cons_append, idxN, nbeq]
    have e : ¬ a = id := fun e => h (by simp [e])
    simp only [e, decide_false]
    rw [ih (fun hh => h (by simp [hh]))]
    simp; omega

/-! ### A call -/
def Emb.pull (E : Emb) (S : List Nat) : Emb where
  blk := fun k => match S[k]? with | some id => E.blk id | none => none
  rowv := fun k => match S[k]? with | some id => E.rowv id | none => none
  own := fun g => match E.own g with | .by_ id => if id ∈ S then .by_ (idxN S id) else .foreign | o => o

def pushO (L : List Nat) : Own → Own
  | .by_ k => if k < L.length then .by_ (nthN L k) else .foreign
  | o => o
def Emb.push (E E2 : Emb) (w : World) (S L gone : List Nat) : Emb where
  blk := fun id => if id ∈ L then E2.blk (idxN L id) else E.blk id
  rowv := fun id => if id ∈ L then E2.rowv (idxN L id) else E.rowv id
  own := fun g => if g < w.heap.size then (match E.own g with
    | .by_ id => if id ∈ S then pushO L (E2.own g) else if id ∈ gone then .free else .by_ id
    | o => o) else pushO L (E2.own g)

theorem pull_own {E : Emb} {S : List Nat} {g id : Nat} (h : E.own g = .by_ id) : (E.pull S).own g = if id ∈ S then .by_ (idxN S id) else .foreign := by simp [Emb.pull, h]
theorem pull_own' {E : Emb} {S : List Nat} {g : Nat} (h : ∀ id, E.own g ≠ .by_ id) : (E.pull S).own g = E.own g := by
  unfold Emb.pull
  show (match E.own g with | .by_ id => _ | o => o) = _
  cases hg : E.own g with
  | by_ id => exact absurd hg (h id)
  | free => rfl
  | foreign => rfl

theorem objs_get (H : Heap) (S : List Nat) (k : Nat) : (objsOf H S)[k]? = (S[k]?).map fun id => renO (idxN S) ((get H id).getD .gone) := by
  simp [objsOf]

theorem pull_blk {E : Emb} {S : List Nat} {id : Nat} (h : id ∈ S) : (E.pull S).blk (idxN S id) = E.blk id ∧ (E.pull S).rowv (idxN S id) = E.rowv id := by
  obtain ⟨_, h2⟩ := idxN_mem h
  simp [Emb.pull, h2]

theorem pull_ver {H : Heap} {S : List Nat} {id : Nat} (h : id ∈ S) : verOf (hp 0 (objsOf H S)) (idxN S id) = verOf H id := by
  obtain ⟨_, h2⟩ := idxN_mem h
  unfold verOf
  rw [get_hp0, objs_get, h2]
  simp only [Option.map_some]
  cases ho : get H id with
  | none => rfl
  | some o => cases o <;> rfl

theorem pull_HOk {H : Heap} {E : Emb} {w : World} (h : HOk H E w) {S : List Nat} (hn : S.Nodup) (hpr : ∀ id ∈ S, ∃ o, get H id = some o) (hc : ∀ id ∈ S, ∀ o, get H id = some o → ∀ j ∈ refsO o, j ∈ S) :
    HOk (hp 0 (objsOf H S)) (E.pull S) w := by
  refine ⟨fun k o ho => ?_, fun g hg => ?_, fun k hk => ?_⟩
  · rw [get_hp0, objs_get] at ho
    cases hS : S[k]? with
    | none => rw [hS] at ho; cases ho
    | some id =>
      rw [hS] at ho
      simp only [Option.map_some] at ho
      injection ho with ho
      have hid : id ∈ S := List.mem_of_getElem? hS
      obtain ⟨o', ho'⟩ := hpr id hid
      rw [ho'] at ho
      simp only [Option.getD_some] at ho
      subst ho
      have hidx : idxN S id = k := by
        obtain ⟨h1, h2⟩ := idxN_mem hid
        have h3 : k < S.length := (List.getElem?_eq_some_iff.1 hS).1
        have e1 : S[idxN S id] = id := by rw [List.getElem?_eq_getElem h1] at h2; injection h2
        have e2 : S[k] = id := by rw [List.getElem?_eq_getElem h3] at hS; injection hS
        exact (List.getElem_inj hn).1 (e1.trans e2.symm)
      rw [← hidx]
      have hin : ∀ q, q = id ∨ q ∈ refsO o' → q ∈ S := fun q hq => by
        rcases hq with rfl | hq
        · exact hid
        · exact hc id hid o' ho' q hq
      refine (h.obj id o' ho').ren_ (fun q hq g hg => by rw [(pull_blk (hin q hq)).1]; exact hg) (fun q hq u hu => by rw [(pull_blk (hin q hq)).2]; exact hu)
        (fun q hq c hc' => by rw [pull_ver (hin q (.inr hq))] at hc'; exact hc') (fun g _ hg => by rw [pull_own hg, if_pos hid]) (fun g _ hg => by rw [pull_own' (by simp [hg]), hg])
  · have := h.fresh g hg
    rw [pull_own' (by simp [this]), this]
  · rw [get_hp0, objs_get] at hk
    have : S[k]? = none := by simpa using hk
    simp [Emb.pull, this]

theorem nth_argsA {H : Heap} {m : Mode} {args : List AV} {cargs : List AV} {th : List Nat} {tps : List Ob} (h : argsA m H args = (cargs, th, tps)) :
    (cargs = args ∧ th = []) ∨ (cargs = thawL H args ∧ (th, tps) = thawedL H args) := by
  unfold argsA at h
  split at h
  · injection h with h1 h2; injection h2 with h2 h3; exact .inl ⟨h1.symm, h2.symm⟩
  · injection h with h1 h2; exact .inr ⟨h1.symm, h2.symm⟩

section
variable {P : Program} {H : Heap} {E : Emb} {w : World} {fresh : Nat} {hk : Hook}

theorem callA_calls (hCT : HookOK P hk) {g : FuncId} {args : List AV} {vs : Array Value} {r : Res} (h : HOk H E w) (hl : args.length = vs.size) (hv : ∀ k, k < args.length → VR H E w (nth args k) (vs.getD k undef))
    (hfr : ∀ k, k < 4 → get H (fresh + k) = none) (hr : callA hk H g args fresh = some r) (hps : AllP r.ps) :
    Calls P g vs w fun e w' => ∃ v, e = .returned v ∧ Post H E w fresh r v w' := by
  unfold callA at hr
  split at hr
  rename_i cargs th tps harg
  simp only at hr
  generalize hS : callS H cargs = S at hr
  split at hr
  · cases hr
  · rename_i hok
    simp only [callOk, Bool.and_eq_true, Bool.not_eq_true'] at hok
    obtain ⟨⟨⟨⟨⟨hm, hnd⟩, hpr⟩, hsub⟩, hcl⟩, hpt⟩ := hok
    have hm := (meets_iff _ _).1 hm
    have hnd := (nodupN_iff _).1 hnd
    have hpr := (presentN_iff _ _).1 hpr
    have hsub := (subN_iff _ _).1 hsub
    have hcl := closedN_iff _ _ _ hcl
    have hpt := (presentN_iff _ _).1 hpt
    split at hr
    · cases hr
    · rename_i hres hrun
      generalize houts : outsOf hres.upd (objsOf H S) hres.outs = outs at hr
      split at hr
      · cases hr
      · rename_i hbk
        simp only [backOk, Bool.and_eq_true, nble, lenN_eq, decide_eq_true_eq] at hbk
        obtain ⟨⟨⟨⟨hlen1, hlen2⟩, hbv⟩, hbo⟩, hmode⟩ := hbk
        have hbv := (belowN_iff _ _).1 hbv
        have hbo := belowO_iff _ _ hbo
        injection hr with hr
        subst hr
        simp only [lenN_eq] at hps ⊢
        generalize hL : S ++ freshL fresh (outs.length - S.length) = L at hps ⊢
        have hct := hCT.run _ _ _ _ hrun (AllP.app.1 hps).1
        rw [houts] at hct
        have htps : AllP tps := (AllP.app.1 hps).2
        -- the arguments, as they are handed on
        obtain ⟨x1, h1⟩ := h.lends th hpt
        have hcv : cargs.length = vs.size ∧ ∀ k, k < cargs.length → VR (lets H th) (E.lend th) w (nth cargs k) (vs.getD k undef) := by
          rcases nth_argsA harg with ⟨rfl, rfl⟩ | ⟨rfl, hth⟩
          · exact ⟨hl, fun k hk' => (hv k hk').ext x1⟩
          · have e1 : th = (thawedL H args).1 := by rw [← hth]
            have e2 : tps = (thawedL H args).2 := by rw [← hth]
            refine ⟨by rw [thawL_length]; exact hl, fun k hk' => ?_⟩
            rw [thawL_length] at hk'
            rw [nth_thawL _ _ _ hk']
            obtain ⟨h2, h3⟩ := thawedL_nth H args k hk'
            exact thaw_VR h hpt (hv k hk') (h3 (e2 ▸ htps)) fun id hid => e1 ▸ h2 id hid
        have hget1 : ∀ id ∈ S, get (lets H th) id = get H id := fun id hid => by
          rw [get_lets, if_neg (fun hh => hm id hh hid)]
        have hobj1 : objsOf (lets H th) S = objsOf H S := by
          unfold objsOf
          exact List.map_congr_left fun id hid => by rw [hget1 id hid]
        have hHs := pull_HOk h1 hnd (fun id hid => by rw [hget1 id hid]; exact hpr id hid) (fun id hid o ho => by rw [hget1 id hid] at ho; exact hcl id hid o ho)
        rw [hobj1] at hHs
        have hver1 : ∀ id ∈ S, verOf (hp 0 (objsOf H S)) (idxN S id) = verOf (lets H th) id := fun id hid => by rw [← hobj1]; exact pull_ver hid
        refine (hct _ w vs hHs (by rw [renL_length]; exact hcv.1) fun k hk' => ?_).mono ?_
        · rw [renL_length] at hk'
          rw [nth_renL _ _ _ hk']
          exact (hcv.2 k hk').ren_ (fun id hid g' hg' => by rw [(pull_blk (hsub id (mem_refsL hk' hid))).1]; exact hg')
            (fun id hid u hu => ⟨by rw [(pull_blk (hsub id (mem_refsL hk' hid))).2]; exact hu, fun c hc => by rw [hver1 id (hsub id (mem_refsL hk' hid))] at hc; exact hc⟩)
            (fun g' _ hg' => by rw [pull_own' (by simp [hg']), hg'])
        · rintro e w' ⟨E2, v, rfl, hH2, hv2, hx2⟩
          refine ⟨v, rfl, ?_⟩
          -- what the numbers are
          have hLn : L.length = outs.length := by rw [← hL, List.length_append, freshL_length]; omega
          have hfresh : ∀ id, id ∈ freshL fresh (outs.length - S.length) → get H id = none := fun id hid => by
            obtain ⟨q1, q2⟩ := (freshL_mem _ _ _).1 hid
            have := hfr (id - fresh) (by omega)
            rwa [show fresh + (id - fresh) = id by omega] at this
          have hdisj : ∀ id ∈ S, id ∉ freshL fresh (outs.length - S.length) := fun id hid hh => by
            obtain ⟨o, ho⟩ := hpr id hid
            rw [hfresh id hh] at ho; cases ho
          have hLnd : L.Nodup := by
            rw [← hL]
            exact List.nodup_append.2 ⟨hnd, freshL_nodup _ _, fun a ha b hb e => hdisj a ha (e ▸ hb)⟩
          have hSL : ∀ id ∈ S, id ∈ L ∧ idxN L id = idxN S id := fun id hid => by
            rw [← hL]
            exact ⟨List.mem_append_left _ hid, idxN_left hid⟩
          have hLS : ∀ id ∈ L, (∃ o, get H id = some o) → id ∈ S := fun id hid ⟨o, ho⟩ => by
            rw [← hL] at hid
            rcases List.mem_append.1 hid with hid | hid
            · exact hid
            · rw [hfresh id hid] at ho; cases ho
          have hthL : ∀ id ∈ th, id ∉ L := fun id hid hh => hm id hid (hLS id hh (hpt id hid))
          generalize hgn : (match hk.mode g with | .give => th | _ => []) = gn
          have hgl : goneL (hk.mode g) th = gn.map fun id => (id, AO.gone) := by
            rw [← hgn]; unfold goneL; cases hk.mode g <;> rfl
          have hgt : ∀ id ∈ gn, id ∈ th := fun id hid => by
            rw [← hgn] at hid
            cases hmd : hk.mode g <;> rw [hmd] at hid <;> first | exact hid | cases hid
          generalize hnews : newsOf hres.upd L (freshL fresh (outs.length - S.length)) (nthN L) outs hres.outs = news
          have hget : ∀ id, get (puts H (news ++ goneL (hk.mode g) th)) id = if id ∈ L then (outs[idxN L id]?).map (renO (nthN L)) else if id ∈ gn then some .gone else get H id := by
            intro id
            rw [get_puts, lastOf_append, hgl, lastOf_gone]
            by_cases hidL : id ∈ L
            · have hng : id ∉ gn := fun hh => hthL id (hgt id hh) hidL
              rw [if_neg hng, if_pos hidL]
              have hidx := (idxN_mem hidL).1
              cases hu : hres.upd with
              | true =>
                simp only [hu, newsOf] at hnews
                rw [← hnews, lastOf_pairUp 0 (by rw [List.length_map]; exact hLn) hLnd, if_pos hidL]
                rw [List.getElem?_map, List.getElem?_eq_getElem (show idxN L id < outs.length by omega)]
                rfl
              | false =>
                simp only [hu, newsOf, outsOf] at hnews houts
                have hol : (objsOf H S).length = S.length := by simp [objsOf]
                have hfl : (freshL fresh (outs.length - S.length)).length = (hres.outs.map (renO (nthN L))).length := by
                  rw [freshL_length, List.length_map, ← houts, List.length_append, hol]; omega
                rw [← hnews, lastOf_pairUp 0 hfl (freshL_nodup _ _)]
                by_cases hidS : id ∈ S
                · rw [if_neg (hdisj id hidS)]
                  obtain ⟨e1, e2⟩ := idxN_mem hidS
                  rw [(hSL id hidS).2, ← houts, List.getElem?_append_left (by rw [hol]; exact e1), objs_get, e2]
                  obtain ⟨o, ho⟩ := hpr id hidS
                  simp only [Option.map_some, ho, Option.getD_some]
                  rw [renO_back]
                  intro q hq
                  have hqS := hcl id hidS o ho q hq
                  rw [← (hSL q hqS).2]
                  exact nthN_idxN (hSL q hqS).1
                · have hidF : id ∈ freshL fresh (outs.length - S.length) := by
                    rw [← hL] at hidL
                    exact (List.mem_append.1 hidL).resolve_left hidS
                  rw [if_pos hidF]
                  have hi2 := (idxN_mem hidF).1
                  have e3 : idxN L id = S.length + idxN (freshL fresh (outs.length - S.length)) id := by rw [← hL]; exact idxN_right hidS
                  rw [e3, ← houts, List.getElem?_append_right (by omega), hol, Nat.add_sub_cancel_left, List.getElem?_map]
                  rw [List.getElem?_eq_getElem (show idxN (freshL fresh ((objsOf H S ++ hres.outs).length - S.length)) id < hres.outs.length by rw [houts]; rw [hfl, List.length_map] at hi2; exact hi2)]
                  simp
            · rw [if_neg hidL]
              have hnn : lastOf news id = none := by
                cases hu : hres.upd with
                | true =>
                  simp only [hu, newsOf] at hnews
                  rw [← hnews, lastOf_pairUp 0 (by rw [List.length_map]; exact hLn) hLnd, if_neg hidL]
                | false =>
                  simp only [hu, newsOf, outsOf] at hnews houts
                  have hol : (objsOf H S).length = S.length := by simp [objsOf]
                  have hfl : (freshL fresh (outs.length - S.length)).length = (hres.outs.map (renO (nthN L))).length := by
                    rw [freshL_length, List.length_map, ← houts, List.length_append, hol]; omega
                  rw [← hnews, lastOf_pairUp 0 hfl (freshL_nodup _ _), if_neg (fun hh => hidL (by rw [← hL]; exact List.mem_append_right _ hh))]
              by_cases hg' : id ∈ gn
              · rw [if_pos hg', if_pos hg']
              · rw [if_neg hg', if_neg hg', hnn]
          clear hnews hrun
          -- blocks
          have hEs : ∀ q, (∀ id, E.own q ≠ .by_ id) → ((E.lend th).pull S).own q = E.own q := fun q hq => by
            have := lend_own' (th := th) hq
            rw [pull_own' (by rw [this]; exact hq), this]
          have hfor : ∀ q id, E.own q = .by_ id → id ∉ S → ((E.lend th).pull S).own q = if id ∈ th then .free else .foreign := fun q id hq hid => by
            have := lend_own (th := th) hq
            by_cases hth : id ∈ th
            · rw [if_pos hth] at this
              rw [pull_own' (by simp [this]), this, if_pos hth]
            · rw [if_neg hth] at this
              rw [pull_own this, if_neg hid, if_neg hth]
          have hkeep : ∀ q, q < w.heap.size → (∀ id, E.own q = .by_ id → id ∉ S) → E2.own q = ((E.lend th).pull S).own q ∧ w'.heap[q]? = w.heap[q]? := fun q hq hn => by
            refine hx2.keep q hq fun id hid => ?_
            cases ho : E.own q with
            | free => rw [hEs q (by simp [ho]), ho] at hid; cases hid
            | foreign => rw [hEs q (by simp [ho]), ho] at hid; cases hid
            | by_ k =>
              rw [hfor q k ho (hn k ho)] at hid
              split at hid <;> cases hid
          have hfreeOk : ((hk.mode g = .lend ∧ th ≠ [] ∧ S = [] ∧ outs = [] ∧ plainA hres.val = true) ∨ ∀ id ∈ th, id ∈ gn) := by
            rw [← hgn]
            cases hmd : hk.mode g with
            | give => exact .inr fun id hid => hid
            | own =>
              right
              intro id hid
              rw [hmd] at harg
              simp only [argsA] at harg
              injection harg with _ harg
              injection harg with harg _
              rw [← harg] at hid; cases hid
            | lend =>
              rw [hmd] at hmode
              simp only [Bool.or_eq_true, Bool.and_eq_true] at hmode
              rcases hmode with hmode | ⟨⟨q1, q2⟩, q3⟩
              · right
                intro id hid
                cases th with
                | nil => cases hid
                | cons => cases hmode
              · cases th with
                | nil => exact .inr fun id hid => by cases hid
                | cons a th =>
                  refine .inl ⟨rfl, by simp, ?_, ?_, q2⟩
                  · cases S with | nil => rfl | cons => cases q1
                  · cases outs with | nil => rfl | cons => cases q3
          have hfree : (∀ id ∈ th, id ∈ gn) → ∀ q, E2.own q = .free → (E.push E2 w S L gn).own q = .free := fun hall q hq => by
            simp only [Emb.push]
            by_cases hlt : q < w.heap.size
            · rw [if_pos hlt]
              cases ho : E.own q with
              | free => rfl
              | foreign =>
                have := hkeep q hlt (by simp [ho])
                rw [this.1, hEs q (by simp [ho]), ho] at hq; cases hq
              | by_ id =>
                by_cases hid : id ∈ S
                · simp only [hid, if_true, hq, pushO]
                · simp only [hid, if_false]
                  have := hkeep q hlt (fun k hk' => by rw [ho] at hk'; injection hk' with hk'; subst hk'; exact hid)
                  rw [this.1, hfor q id ho hid] at hq
                  split at hq
                  · rename_i hth; simp [hall id hth]
                  · cases hq
            · rw [if_neg hlt, hq]; rfl
          have hback : ∀ k, k < outs.length → (E.push E2 w S L gn).blk (nthN L k) = E2.blk k ∧ (E.push E2 w S L gn).rowv (nthN L k) = E2.rowv k ∧
              verOf (puts H (news ++ goneL (hk.mode g) th)) (nthN L k) = verOf (hp 0 outs) k := fun k hk' => by
            have h1 : nthN L k ∈ L := nthN_mem (by omega)
            have h2 : idxN L (nthN L k) = k := idxN_nthN hLnd (by omega)
            refine ⟨by simp [Emb.push, h1, h2], by simp [Emb.push, h1, h2], ?_⟩
            unfold verOf
            rw [hget, if_pos h1, h2, get_hp0, List.getElem?_eq_getElem hk']
            simp only [Option.map_some]
            cases outs[k] <;> rfl
          have hx : Ext H E w (puts H (news ++ goneL (hk.mode g) th)) (E.push E2 w S L gn) w' := by
            refine ⟨hx2.os, hx2.tape, hx2.output, hx2.size, fun q hq hn => ?_, fun id q hq => ?_, fun id u hu => ?_⟩
            · refine ⟨?_, (hkeep q hq (fun k hk' => absurd hk' (hn k))).2⟩
              simp only [Emb.push, if_pos hq]
            · by_cases hid : id ∈ L
              · have hidS : id ∈ S := by
                  refine hLS id hid ?_
                  cases hgo : get H id with
                  | some o => exact ⟨o, rfl⟩
                  | none => rw [(h.dom id hgo).1] at hq; cases hq
                simp only [Emb.push, hid, if_true, (hSL id hidS).2]
                exact hx2.blk _ _ (by rw [(pull_blk hidS).1]; exact hq)
              · simp [Emb.push, hid, hq]
            · by_cases hid : id ∈ L
              · have hidS : id ∈ S := by
                  refine hLS id hid ?_
                  cases hgo : get H id with
                  | some o => exact ⟨o, rfl⟩
                  | none => rw [(h.dom id hgo).2] at hu; cases hu
                obtain ⟨u', h3, h4⟩ := hx2.rowv (idxN S id) u (by rw [(pull_blk hidS).2]; exact hu)
                refine ⟨u', by simp only [Emb.push, hid, if_true, (hSL id hidS).2]; exact h3, fun c' hc' => ?_⟩
                have hv3 := (hback (idxN L id) (by have := (idxN_mem hid).1; omega)).2.2
                rw [nthN_idxN hid] at hv3
                rw [hv3, (hSL id hidS).2] at hc'
                obtain ⟨c, h5, h6, h7⟩ := h4 c' hc'
                rw [hver1 id hidS] at h5
                refine ⟨c, ?_, h6, h7⟩
                unfold verOf at h5 ⊢
                rwa [hget1 id hidS] at h5
              · refine ⟨u, by simp [Emb.push, hid, hu], fun c' hc' => ⟨c', ?_, Nat.le_refl _, fun _ => rfl⟩⟩
                unfold verOf at hc' ⊢
                rw [hget, if_neg hid] at hc'
                by_cases hg' : id ∈ gn
                · rw [if_pos hg'] at hc'; cases hc'
                · rw [if_neg hg'] at hc'; exact hc'
          have hH' : HOk (puts H (news ++ goneL (hk.mode g) th)) (E.push E2 w S L gn) w' := by
            refine ⟨fun id o ho => ?_, fun q hq => ?_, fun id hid => ?_⟩
            · rw [hget] at ho
              by_cases hidL : id ∈ L
              · rw [if_pos hidL] at ho
                have hidx : idxN L id < outs.length := by have := (idxN_mem hidL).1; omega
                rw [List.getElem?_eq_getElem hidx] at ho
                simp only [Option.map_some] at ho
                injection ho with ho
                subst ho
                rcases hfreeOk with ⟨_, _, _, hno, _⟩ | hall
                · rw [hno] at hidx; simp at hidx
                have hob := hH2.obj (idxN L id) outs[idxN L id] (by rw [get_hp0]; exact List.getElem?_eq_getElem hidx)
                have hlt : ∀ k, k = idxN L id ∨ k ∈ refsO outs[idxN L id] → k < outs.length := fun k hk' => by
                  rcases hk' with rfl | hk'
                  · exact hidx
                  · exact hbo _ (List.getElem_mem hidx) k hk'
                have := hob.ren_ (ρ := nthN L) (E2 := E.push E2 w S L gn) (H2 := puts H (news ++ goneL (hk.mode g) th)) (fun k hk' q hq => by rw [(hback k (hlt k hk')).1]; exact hq) (fun k hk' u hu => by rw [(hback k (hlt k hk')).2.1]; exact hu)
                  (fun k hk' c hc => by rw [(hback k (hlt k (.inr hk'))).2.2] at hc; exact hc) (fun q hq ho => by
                    simp only [Emb.push]
                    by_cases hqs : q < w.heap.size
                    · rw [if_pos hqs]
                      cases hoE : E.own q with
                      | free => rw [(hkeep q hqs (by simp [hoE])).1, hEs q (by simp [hoE]), hoE] at ho; cases ho
                      | foreign => rw [(hkeep q hqs (by simp [hoE])).1, hEs q (by simp [hoE]), hoE] at ho; cases ho
                      | by_ k =>
                        by_cases hkS : k ∈ S
                        · simp only [hkS, if_true, ho, pushO, hLn, hidx]
                        · rw [(hkeep q hqs (fun j hj => by rw [hoE] at hj; injection hj with hj; subst hj; exact hkS)).1, hfor q k hoE hkS] at ho
                          split at ho <;> cases ho
                    · rw [if_neg hqs, ho]
                      simp only [pushO, hLn, hidx, if_true]) (fun q _ hq => hfree hall q hq)
                rwa [nthN_idxN hidL] at this
              · rw [if_neg hidL] at ho
                by_cases hg' : id ∈ gn
                · rw [if_pos hg'] at ho; injection ho with ho; subst ho; trivial
                · rw [if_neg hg'] at ho
                  have hidS : id ∉ S := fun hh => hidL (hSL id hh).1
                  refine (h.obj id o ho).ext hx ho (by rw [hget, if_neg hidL, if_neg hg']; exact ho) fun q hq hw => ⟨?_, (hkeep q hq (fun k hk' => by rw [hw] at hk'; injection hk' with hk'; subst hk'; exact hidS)).2⟩
                  simp only [Emb.push, if_pos hq, hw, hidS, if_false, hg']
            · have := hH2.fresh q hq
              have hlt : ¬ q < w.heap.size := by have := hx2.size; omega
              simp only [Emb.push, hlt, if_false, this, pushO]
            · rw [hget] at hid
              by_cases hidL : id ∈ L
              · rw [if_pos hidL, List.getElem?_eq_getElem (by have := (idxN_mem hidL).1; omega)] at hid; cases hid
              · rw [if_neg hidL] at hid
                by_cases hg' : id ∈ gn
                · rw [if_pos hg'] at hid; cases hid
                · rw [if_neg hg'] at hid
                  simp only [Emb.push, hidL, if_false]
                  exact h.dom id hid
          refine ⟨⟨_, hH', ?_, hx⟩, fun id hid hn => ?_⟩
          · rcases hfreeOk with ⟨_, _, _, _, hpl⟩ | hall
            · exact plain_VR hv2 hpl _
            · exact hv2.ren_ (fun k hk' q hq => by rw [(hback k (hbv k hk')).1]; exact hq) (fun k hk' u hu => ⟨by rw [(hback k (hbv k hk')).2.1]; exact hu, fun c hc => by rw [(hback k (hbv k hk')).2.2] at hc; exact hc⟩) (fun q _ hq => hfree hall q hq)
          · show get (puts H (news ++ goneL (hk.mode g) th)) id = none
            rw [hget, if_neg (fun hh => by
              rw [← hL] at hh
              rcases List.mem_append.1 hh with hh | hh
              · obtain ⟨o, ho⟩ := hpr id hh; rw [hn] at ho; cases ho
              · have := (freshL_mem _ _ _).1 hh; omega), if_neg (fun hh => by obtain ⟨o, ho⟩ := hpt id (hgt id hh); rw [hn] at ho; cases ho)]
            exact hn
end
end Go.AI
