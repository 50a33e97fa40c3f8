import Derived.Test.YtjgddhjjcgndaaaAICode
/- Weaker states; what a function does. -/
set_option linter.unusedVariables false
set_option linter.unusedSimpArgs false
namespace Go.AI

/-! ### Weaker states -/
def leI : IV → IV → Prop
  | .sv n s f, .sv m t g => n = m ∧ s = t ∧ ∀ i j, i < n → j < s → f i j = g i j
  | .sc v, .sc u => v = u
  | _, _ => False
mutual
/-- Does the first say no more than the second? (What is 'any' says nothing.) -/
def leA : AV → AV → Prop
  | .any, _ => True
  | .agg l, .agg m => leL l m
  | .tup l, .tup m => leL l m
  | .i x, .i y => leI x y
  | .ptr a o, .ptr b o' => a = b ∧ o = o'
  | .sl a o n c, .sl b o' n' c' => a = b ∧ o = o' ∧ n = n' ∧ c = c'
  | .row a v s l n, .row b v' s' l' n' => a = b ∧ v = v' ∧ s = s' ∧ l = l' ∧ n = n'
  | .pel a v s k j, .pel b v' s' k' j' => a = b ∧ v = v' ∧ s = s' ∧ k = k' ∧ j = j'
  | .ro n f o, .ro n' f' o' => n = n' ∧ f = f' ∧ o = o'
  | .mp a, .mp b => a = b
  | .clo f l m, .clo g l' m' => f = g ∧ leL l l' ∧ leL m m'
  | _, _ => False
def leL : List AV → List AV → Prop
  | [], [] => True
  | a :: l, b :: m => leA a b ∧ leL l m
  | _, _ => False
end
def leO : AO → AO → Prop
  | .gone, _ => True
  | .cells t l, .cells u m => t = u ∧ leL l m
  | .row e s v n f, .row e' s' v' n' g => e = e' ∧ s = s' ∧ v = v' ∧ n = n' ∧ ∀ i j, i < n → j < s → f i j = g i j
  | .smap t ks f, .smap t' ks' g => t = t' ∧ ks = ks' ∧ f = g
  | _, _ => False
def leOs : List AO → List AO → Prop
  | [], [] => True
  | a :: l, b :: m => leO a b ∧ leOs l m
  | _, _ => False

theorem leL_nth : ∀ {l m : List AV}, leL l m → l.length = m.length ∧ ∀ k, k < l.length → leA (nth l k) (nth m k)
  | [], [], _ => ⟨rfl, fun k hk => by simp at hk⟩
  | a :: l, b :: m, h => by
    simp only [leL] at h
    obtain ⟨h1, h2⟩ := leL_nth h.2
    refine ⟨by simp [h1], fun k hk => ?_⟩
    cases k with
    | zero => exact h.1
    | succ k => exact h2 k (by simpa using hk)
  | [], _ :: _, h => by simp [leL] at h
  | _ :: _, [], h => by simp [leL] at h
theorem leOs_get : ∀ {l m : List AO}, leOs l m → l.length = m.length ∧ ∀ (k : Nat) a, l[k]? = some a → ∃ b, m[k]? = some b ∧ leO a b
  | [], [], _ => ⟨rfl, fun k a hk => by simp at hk⟩
  | a :: l, b :: m, h => by
    simp only [leOs] at h
    obtain ⟨h1, h2⟩ := leOs_get h.2
    refine ⟨by simp [h1], fun k x hk => ?_⟩
    cases k with
    | zero => simp at hk; subst hk; exact ⟨b, rfl, h.1⟩
    | succ k => simpa using h2 k x (by simpa using hk)
  | [], _ :: _, h => by simp [leOs] at h
  | _ :: _, [], h => by simp [leOs] at h

theorem VI.le {own : Nat → Own} {w : World} {x y : IV} {v : Value} (h : VI own w y v) (hl : leI x y) : VI own w x v := by
  cases h with
  | sc v ho => cases x with
    | sc u => simp only [leI] at hl; subst hl; exact .sc _ ho
    | sv => simp [leI] at hl
  | sv n sz f a cap g o u hc ha hu hf => cases x with
    | sc u => simp [leI] at hl
    | sv m t f' =>
      simp only [leI] at hl
      obtain ⟨rfl, rfl, hl⟩ := hl
      exact .sv _ _ _ a cap g o u hc ha hu fun i j hi hj => by rw [hl i j hi hj]; exact hf i j hi hj

theorem mem_refs_ren {ρ : Nat → Nat} : ∀ (a : AV) {id : Nat}, id ∈ refs (ren ρ a) ↔ ∃ k ∈ refs a, ρ k = id := by
  intro a id
  have key : ∀ (n : Nat) (a : AV), SizeOf.sizeOf a < n → (id ∈ refs (ren ρ a) ↔ ∃ k ∈ refs a, ρ k = id) := by
    intro n
    induction n with
    | zero => intro a h; omega
    | succ n ih =>
      have ihL : ∀ l : List AV, SizeOf.sizeOf l < n + 1 → (id ∈ refsL (renL ρ l) ↔ ∃ k ∈ refsL l, ρ k = id) := by
        intro l
        induction l with
        | nil => intro _; simp [refsL, renL]
        | cons x l ihl =>
          intro hs
          simp only [List.cons.sizeOf_spec] at hs
          simp only [refsL, renL, List.mem_append, ih x (by omega), ihl (by omega)]
          constructor
          · rintro (⟨k, h1, h2⟩ | ⟨k, h1, h2⟩)
            · exact ⟨k, .inl h1, h2⟩
            · exact ⟨k, .inr h1, h2⟩
          · rintro ⟨k, h1 | h1, h2⟩
            · exact .inl ⟨k, h1, h2⟩
            · exact .inr ⟨k, h1, h2⟩
      intro a h
      cases a with
      | agg cs => simp only [ren, refs]; exact ihL cs (by simp at h; omega)
      | tup cs => simp only [ren, refs]; exact ihL cs (by simp at h; omega)
      | clo f x y =>
        simp at h
        simp only [ren, refs, List.mem_append, ihL x (by omega), ihL y (by omega)]
        constructor
        · rintro (⟨k, h1, h2⟩ | ⟨k, h1, h2⟩)
          · exact ⟨k, .inl h1, h2⟩
          · exact ⟨k, .inr h1, h2⟩
        · rintro ⟨k, h1 | h1, h2⟩
          · exact .inl ⟨k, h1, h2⟩
          · exact .inr ⟨k, h1, h2⟩
      | _ => simp [ren, refs, eq_comm]
  exact key _ a (Nat.lt_succ_self _)

theorem idxN_lt {S : List Nat} {id : Nat} (h : idxN S id < S.length) : id ∈ S := by
  induction S with
  | nil => simp [idxN] at h
  | cons a l ih =>
    simp only [idxN, nbeq] at h
    by_cases e : a = id
    · simp [e]
    · simp only [e, decide_false] at h
      simp only [Nat.succ_eq_add_one, List.length_cons] at h
      exact List.mem_cons_of_mem _ (ih (by omega))

theorem below_nth {l : List AV} {n k : Nat} (hb : ∀ q ∈ refsL l, q < n) (hk : k < l.length) : ∀ q ∈ refs (nth l k), q < n := fun q hq => hb q (mem_refsL hk hq)

section
variable {H H2 : Heap} {E : Emb} {w : World} {L : List Nat}

/-- A value told by the numbers of a list, and weaker. -/
theorem VR.pull {b : AV} {v : Value} (h : VR H E w b v) (hver : ∀ id ∈ L, ∀ c, verOf H2 (idxN L id) = some c → verOf H id = some c) :
    ∀ a, leA a (ren (idxN L) b) → (∀ q ∈ refs a, q < L.length) → VR H2 (E.pull L) w a v := by
  have hfree : ∀ g, g < w.heap.size → E.own g = .free → (E.pull L).own g = .free := fun g _ hg => by rw [pull_own' (by simp [hg]), hg]
  have low : ∀ {c : AV} {u : Value}, VR H E w c u → (∀ q ∈ refs (ren (idxN L) c), q < L.length) → VR H2 (E.pull L) w (ren (idxN L) c) u := fun {c u} hc hb =>
    hc.ren_ (fun id hid g hg => by rw [(pull_blk (idxN_lt (hb _ ((mem_refs_ren c).2 ⟨id, hid, rfl⟩)))).1]; exact hg)
      (fun id hid x hx => by
        have hin := idxN_lt (hb _ ((mem_refs_ren c).2 ⟨id, hid, rfl⟩))
        exact ⟨by rw [(pull_blk hin).2]; exact hx, hver id hin⟩) hfree
  induction h with
  | any v => intro a hl _; cases a <;> simp [ren, leA] at hl; exact .any _
  | i x v h =>
    intro a hl _
    cases a <;> simp only [ren, leA] at hl
    · exact .any _
    · exact .i _ _ ((h.same hfree).le hl)
  | agg cs vs hlen _ ih =>
    intro a hl hb
    cases a <;> simp only [ren, leA] at hl
    · exact .any _
    · rename_i l
      obtain ⟨h1, h2⟩ := leL_nth hl
      rw [renL_length] at h1
      refine .agg _ _ (by rw [h1]; exact hlen) fun k hk => ?_
      have := h2 k hk
      rw [nth_renL _ _ _ (by omega)] at this
      exact ih k (by omega) _ this (below_nth hb hk)
  | tup cs vs hlen _ ih =>
    intro a hl hb
    cases a <;> simp only [ren, leA] at hl
    · exact .any _
    · rename_i l
      obtain ⟨h1, h2⟩ := leL_nth hl
      rw [renL_length] at h1
      refine .tup _ _ (by rw [h1]; exact hlen) fun k hk => ?_
      have := h2 k hk
      rw [nth_renL _ _ _ (by omega)] at this
      exact ih k (by omega) _ this (below_nth hb hk)
  | ptr id off g h =>
    intro a hl hb
    cases a <;> simp only [ren, leA] at hl
    · exact .any _
    · obtain ⟨rfl, rfl⟩ := hl; exact low (.ptr id _ g h) hb
  | sl id off n cap g h hc =>
    intro a hl hb
    cases a <;> simp only [ren, leA] at hl
    · exact .any _
    · obtain ⟨rfl, rfl, rfl, rfl⟩ := hl; exact low (.sl id _ _ _ g h hc) hb
  | row id ver sz lo n v0 v h hv hc =>
    intro a hl hb
    cases a <;> simp only [ren, leA] at hl
    · exact .any _
    · obtain ⟨rfl, rfl, rfl, rfl, rfl⟩ := hl; exact low (.row id _ _ _ _ v0 v h hv hc) hb
  | pel id ver sz k j v0 v h hv hc =>
    intro a hl hb
    cases a <;> simp only [ren, leA] at hl
    · exact .any _
    · obtain ⟨rfl, rfl, rfl, rfl, rfl⟩ := hl; exact low (.pel id _ _ _ _ v0 v h hv hc) hb
  | ro n f off g o u hg hs hu hf =>
    intro a hl hb
    cases a <;> simp only [ren, leA] at hl
    · exact .any _
    · obtain ⟨rfl, rfl, rfl⟩ := hl; exact low (.ro _ _ _ g o u hg hs hu hf) hb
  | mp id g h =>
    intro a hl hb
    cases a <;> simp only [ren, leA] at hl
    · exact .any _
    · subst hl; exact low (.mp id g h) hb
  | clo fn l m x y hx hy _ _ ih ih' =>
    intro a hl hb
    cases a <;> simp only [ren, leA] at hl
    · exact .any _
    · rename_i fn' l' m'
      obtain ⟨rfl, hl1, hl2⟩ := hl
      obtain ⟨h1, h2⟩ := leL_nth hl1
      obtain ⟨h3, h4⟩ := leL_nth hl2
      rw [renL_length] at h1 h3
      refine .clo _ _ _ x y (by rw [h1]; exact hx) (by rw [h3]; exact hy) (fun k hk => ?_) fun k hk => ?_
      · have := h2 k hk
        rw [nth_renL _ _ _ (by omega)] at this
        exact ih k (by omega) _ this (below_nth (fun q hq => hb q (by simp [refs, hq])) hk)
      · have := h4 k hk
        rw [nth_renL _ _ _ (by omega)] at this
        exact ih' k (by omega) _ this (below_nth (fun q hq => hb q (by simp [refs, hq])) hk)

theorem OOk.le_row {e : TypeId} {s v n : Nat} {f g : Nat → Nat → IV} {k : Nat} (h : OOk H E w k (.row e s v n g)) (hl : ∀ i j, i < n → j < s → f i j = g i j) : OOk H E w k (.row e s v n f) := by
  obtain ⟨h1, v0, xs, h2, h3, h4, h5⟩ := h
  exact ⟨h1, v0, xs, h2, h3, h4, fun i j hi hj => by rw [hl i j hi hj]; exact h5 i j hi hj⟩

/-- **A state told by the numbers of a list, and weaker.** -/
theorem HOk.pull (h : HOk H E w) {objs : List AO} (hn : L.Nodup) (hpr : ∀ id ∈ L, ∃ o, get H id = some o) (hle : leOs objs (objsOf H L)) (hb : ∀ o ∈ objs, ∀ q ∈ refsO o, q < L.length) :
    HOk (hp 0 objs) (E.pull L) w ∧ (∀ id ∈ L, ∀ c, verOf (hp 0 objs) (idxN L id) = some c → verOf H id = some c) := by
  obtain ⟨hlen, hget⟩ := leOs_get hle
  have hlenL : objs.length = L.length := by rw [hlen]; simp [objsOf]
  have hfree : ∀ g, g < w.heap.size → E.own g = .free → (E.pull L).own g = .free := fun g _ hg => by rw [pull_own' (by simp [hg]), hg]
  have hver : ∀ id ∈ L, ∀ c, verOf (hp 0 objs) (idxN L id) = some c → verOf H id = some c := fun id hid c hc => by
    rw [← pull_ver (H := H) hid]
    unfold verOf at hc ⊢
    rw [get_hp0] at hc ⊢
    cases ho : objs[idxN L id]? with
    | none => rw [ho] at hc; cases hc
    | some o =>
      obtain ⟨b, hb1, hb2⟩ := hget _ _ ho
      rw [ho] at hc
      rw [hb1]
      cases o <;> simp at hc
      cases b <;> simp [leO] at hb2
      simp only [Option.some.injEq]
      rw [← hb2.2.2.1]
      exact hc
  refine ⟨⟨fun k o ho => ?_, fun g hg => ?_, fun k hk => ?_⟩, hver⟩
  · rw [get_hp0] at ho
    obtain ⟨b, hb1, hb2⟩ := hget _ _ ho
    rw [objs_get] at hb1
    cases hS : L[k]? with
    | none => rw [hS] at hb1; cases hb1
    | some id =>
      rw [hS] at hb1
      simp only [Option.map_some] at hb1
      injection hb1 with hb1
      have hid : id ∈ L := List.mem_of_getElem? hS
      obtain ⟨o', ho'⟩ := hpr id hid
      rw [ho'] at hb1
      simp only [Option.getD_some] at hb1
      subst hb1
      have hidx : idxN L id = k := by
        obtain ⟨h1, h2⟩ := idxN_mem hid
        have h3 : k < L.length := (List.getElem?_eq_some_iff.1 hS).1
        have e1 : L[idxN L id] = id := by rw [List.getElem?_eq_getElem h1] at h2; injection h2
        have e2 : L[k] = id := by rw [List.getElem?_eq_getElem h3] at hS; injection hS
        exact (List.getElem_inj hn).1 (e1.trans e2.symm)
      have hown : ∀ g, g < w.heap.size → E.own g = .by_ id → (E.pull L).own g = .by_ (idxN L id) := fun g _ hg => by rw [pull_own hg, if_pos hid]
      have hblk := pull_blk (E := E) hid
      have hOO := h.obj id o' ho'
      cases o with
      | gone => trivial
      | cells t l =>
        cases o' with
        | cells t' m =>
          simp only [renO, leO] at hb2
          obtain ⟨rfl, hll⟩ := hb2
          obtain ⟨h1, h2⟩ := leL_nth hll
          rw [renL_length] at h1
          obtain ⟨g, c, h3, h4, h5, h6, h7⟩ := hOO
          rw [← hidx]
          refine ⟨g, c, by rw [hblk.1]; exact h3, hown g (Array.getElem?_eq_some_iff.1 h5).1 h4, h5, by rw [h1]; exact h6, fun q hq => ?_⟩
          have := h2 q hq
          rw [nth_renL _ _ _ (by omega)] at this
          exact (h7 q (by omega)).pull hver _ this (below_nth (fun z hz => hb _ (List.mem_of_getElem? ho) z (by simpa [refsO] using hz)) hq)
        | _ => simp [renO, leO] at hb2
      | row e s v n f =>
        cases o' with
        | row e' s' v' n' f' =>
          simp only [renO, leO] at hb2
          obtain ⟨rfl, rfl, rfl, rfl, hff⟩ := hb2
          rw [← hidx]
          refine OOk.le_row (g := f') ?_ hff
          obtain ⟨h1, v0, xs, h2, h3, h4, h5⟩ := hOO
          exact ⟨h1, v0, xs, by rw [hblk.2]; exact h2, h3, fun g hg => hown g (h3.lt g hg).2 (h4 g hg), fun i j hi hj => (h5 i j hi hj).same hfree⟩
        | _ => simp [renO, leO] at hb2
      | smap t ks f =>
        cases o' with
        | smap t' ks' f' =>
          simp only [renO, leO] at hb2
          obtain ⟨rfl, rfl, rfl⟩ := hb2
          rw [← hidx]
          obtain ⟨g, es, clock, h1, h2, h3, h4⟩ := hOO
          exact ⟨g, es, clock, by rw [hblk.1]; exact h1, hown g (Array.getElem?_eq_some_iff.1 h3).1 h2, h3, h4⟩
        | _ => simp [renO, leO] at hb2
  · have := h.fresh g hg
    rw [pull_own' (by simp [this]), this]
  · rw [get_hp0] at hk
    have : L[k]? = none := by
      have h1 : objs.length ≤ k := by simpa using hk
      simp; omega
    simp [Emb.pull, this]

/-- It is still of the start. -/
theorem Ext.pull {objs0 objs : List AO} {E0 : Emb} {w0 : World} (h0 : HOk (hp 0 objs0) E0 w0) (x : Ext (hp 0 objs0) E0 w0 H E w)
    (hpre : ∀ k, k < objs0.length → L[k]? = some k) (hn : L.Nodup) (hver : ∀ id ∈ L, ∀ c, verOf (hp 0 objs) (idxN L id) = some c → verOf H id = some c) : Ext (hp 0 objs0) E0 w0 (hp 0 objs) (E.pull L) w := by
  have hlt : ∀ id, (E0.blk id ≠ none ∨ E0.rowv id ≠ none) → id < objs0.length := fun id hid => by
    rcases Nat.lt_or_ge id objs0.length with h | h
    · exact h
    · have := h0.dom id (by rw [get_hp0]; simp [h])
      rcases hid with h1 | h1
      · exact absurd this.1 h1
      · exact absurd this.2 h1
  have hidx : ∀ id, id < objs0.length → id ∈ L ∧ idxN L id = id := fun id hid => by
    have h1 := hpre id hid
    have hm := List.mem_of_getElem? h1
    refine ⟨hm, ?_⟩
    obtain ⟨h2, h3⟩ := idxN_mem hm
    have h4 : id < L.length := (List.getElem?_eq_some_iff.1 h1).1
    have e1 : L[idxN L id] = id := by rw [List.getElem?_eq_getElem h2] at h3; injection h3
    have e2 : L[id] = id := by rw [List.getElem?_eq_getElem h4] at h1; injection h1
    exact (List.getElem_inj hn).1 (e1.trans e2.symm)
  refine ⟨x.os, x.tape, x.output, x.size, fun g hg hf => ?_, fun id g hb => ?_, fun id v hv => ?_⟩
  · obtain ⟨h1, h2⟩ := x.keep g hg hf
    exact ⟨by rw [pull_own' (fun id => h1 ▸ hf id)]; exact h1, h2⟩
  · obtain ⟨hm, hi⟩ := hidx id (hlt id (.inl (by rw [hb]; simp)))
    have := (pull_blk (E := E) hm).1
    rw [hi] at this
    rw [this]
    exact x.blk id g hb
  · obtain ⟨hm, hi⟩ := hidx id (hlt id (.inr (by rw [hv]; simp)))
    have h2 := (pull_blk (E := E) hm).2
    rw [hi] at h2
    obtain ⟨v', h3, h4⟩ := x.rowv id v hv
    refine ⟨v', by rw [h2]; exact h3, fun c' hc' => h4 c' (hver id hm c' (by rw [hi]; exact hc'))⟩
end
end Go.AI
