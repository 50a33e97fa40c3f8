import Derived.Test.YtjgddhjjcgndaaaAIRegion
/- Any order of a region comes to the same. -/
set_option linter.unusedVariables false
set_option linter.unusedSimpArgs false
namespace Go.AI

def Sub (H H' : Heap) : Prop := ∀ id o, get H id = some o → get H' id = some o
def Has (H : Heap) (id : Nat) : Prop := ∃ o, get H id = some o
theorem Sub.eq {H H' : Heap} (h : Sub H H') {id : Nat} (hi : Has H id) : get H' id = get H id := by
  obtain ⟨o, ho⟩ := hi
  rw [ho, h id o ho]

section
variable {P : Program} {H H' : Heap} {fresh : Nat} {hk : Hook}

theorem loadA_ext (h : Sub H H') {t : TypeId} {p : AV} (hp : ∀ id ∈ refs p, Has H id) : loadA P H' t p = loadA P H t p := by
  unfold loadA
  cases sizeT P t with
  | none => rfl
  | some sz => cases p with
    | ptr id off => simp only [h.eq (hp id (by simp [refs]))]
    | pel id ver rsz k j => simp only [h.eq (hp id (by simp [refs]))]
    | _ => rfl
theorem storeA_ext (h : Sub H H') {t : TypeId} {p v : AV} (hp : ∀ id ∈ refs p, Has H id) : storeA P H' t p v = storeA P H t p v := by
  unfold storeA
  cases sizeT P t with
  | none => rfl
  | some sz => cases p with
    | ptr id off => simp only [h.eq (hp id (by simp [refs]))]
    | pel id ver rsz k j => simp only [h.eq (hp id (by simp [refs]))]
    | _ => rfl
theorem sourceA_ext (h : Sub H H') {x : AV} (hp : ∀ id ∈ refs x, Has H id) : sourceA H' x = sourceA H x := by
  unfold sourceA
  cases x with
  | row id ver sz lo n => simp only [h.eq (hp id (by simp [refs]))]
  | i v =>
    cases v with
    | sv => rfl
    | sc v => cases v with
      | slice a n c => cases a <;> cases n <;> cases c <;> rfl
      | _ => rfl
  | _ => rfl
theorem appendA_ext (h : Sub H H') {t : TypeId} {s x : AV} (hs : ∀ id ∈ refs s, Has H id) (hx : ∀ id ∈ refs x, Has H id) : appendA P H' t s x fresh = appendA P H t s x fresh := by
  unfold appendA
  rw [sourceA_ext h hx]
  cases s with
  | row id ver sz lo n => simp only [h.eq (hs id (by simp [refs]))]
  | i v =>
    cases v with
    | sv => rfl
    | sc v => cases v with
      | slice a n c => cases a <;> cases n <;> cases c <;> rfl
      | _ => rfl
  | _ => rfl
theorem lookupA_ext (h : Sub H H') {t : TypeId} {m k : AV} {ok : Bool} (hm : ∀ id ∈ refs m, Has H id) : lookupA P H' t m k ok = lookupA P H t m k ok := by
  unfold lookupA
  generalize isMapSI P t = b
  generalize keyOf k = kk
  cases m <;> cases b <;> cases kk <;> cases ok <;> first
    | rfl
    | simp only [h.eq (hm _ (List.mem_singleton.2 rfl))]
theorem mapUpdateA_ext (h : Sub H H') {t : TypeId} {m k v : AV} (hm : ∀ id ∈ refs m, Has H id) : mapUpdateA P H' t m k v = mapUpdateA P H t m k v := by
  unfold mapUpdateA
  generalize isMapSI P t = b
  generalize keyOf k = kk
  generalize intOf v = vv
  rcases vv with _ | ⟨_ | _, _⟩ <;> cases m <;> cases b <;> cases kk <;> first
    | rfl
    | simp only [h.eq (hm _ (List.mem_singleton.2 rfl))]
theorem mapEntryA_ext (h : Sub H H') {t : TypeId} {m k : AV} (hm : ∀ id ∈ refs m, Has H id) : mapEntryA P H' t m k = mapEntryA P H t m k := by
  unfold mapEntryA
  generalize isMapSI P t = b
  generalize keyOf k = kk
  cases m <;> cases b <;> cases kk <;> first
    | rfl
    | simp only [h.eq (hm _ (List.mem_singleton.2 rfl))]
theorem entryStoreA_ext (h : Sub H H') {m k v : AV} (hm : ∀ id ∈ refs m, Has H id) : entryStoreA H' m k v = entryStoreA H m k v := by
  unfold entryStoreA
  split <;> first
    | rfl
    | simp only [h.eq (hm _ (List.mem_singleton.2 rfl))]
theorem lenA_ext (h : Sub H H') {t : TypeId} {x : AV} (hm : ∀ id ∈ refs x, Has H id) : lenA P H' t x = lenA P H t x := by
  unfold lenA
  split <;> first
    | rfl
    | simp only [h.eq (hm _ (List.mem_singleton.2 rfl))]
theorem convA_ext (h : Sub H H') {s d : TypeId} {x : AV} (hm : ∀ id ∈ refs x, Has H id) : convA P H' s d x = convA P H s d x := by
  unfold convA
  split <;> first
    | rfl
    | rw [sourceA_ext h hm]

mutual
theorem thaw_ext (h : Sub H H') : ∀ (a : AV), (∀ id ∈ refs a, Has H id) → thaw H' a = thaw H a ∧ thawed H' a = thawed H a
  | .row id ver sz lo n, hp => by simp only [thaw, thawed, h.eq (hp id (by simp [refs]))]; exact ⟨trivial, trivial⟩
  | .agg cs, hp => by
    have := thawL_ext h cs (by simpa [refs] using hp)
    simp only [thaw, thawed, this.1, this.2]
    exact ⟨trivial, trivial⟩
  | .any, _ | .i _, _ | .tup _, _ | .ptr _ _, _ | .sl _ _ _ _, _ | .pel _ _ _ _ _, _ | .ro _ _ _, _ | .mp _, _ | .clo _ _ _, _ => ⟨rfl, rfl⟩
theorem thawL_ext (h : Sub H H') : ∀ (l : List AV), (∀ id ∈ refsL l, Has H id) → thawL H' l = thawL H l ∧ thawedL H' l = thawedL H l
  | [], _ => ⟨rfl, rfl⟩
  | a :: l, hp => by
    have h1 := thaw_ext h a (fun id hid => hp id (by simp [refsL, hid]))
    have h2 := thawL_ext h l (fun id hid => hp id (by simp [refsL, hid]))
    simp only [thawL, thawedL, h1.1, h1.2, h2.1, h2.2]
    exact ⟨trivial, trivial⟩
end
mutual
theorem refs_thaw (H : Heap) : ∀ (a : AV), ∀ id ∈ refs (thaw H a), id ∈ refs a
  | .row id ver sz lo n => by
    simp only [thaw]
    split
    · split <;> simp [refs]
    · simp [refs]
  | .agg cs => by
    simp only [thaw, refs]
    exact refs_thawL H cs
  | .any | .i _ | .tup _ | .ptr _ _ | .sl _ _ _ _ | .pel _ _ _ _ _ | .ro _ _ _ | .mp _ | .clo _ _ _ => fun id h => h
theorem refs_thawL (H : Heap) : ∀ (l : List AV), ∀ id ∈ refsL (thawL H l), id ∈ refsL l
  | [] => fun id h => h
  | a :: l => by
    simp only [thawL, refsL, List.mem_append]
    intro id h
    rcases h with h | h
    · exact .inl (refs_thaw H a id h)
    · exact .inr (refs_thawL H l id h)
end
mutual
theorem thawed_sub (H : Heap) : ∀ (a : AV), ∀ id ∈ (thawed H a).1, id ∈ refs a
  | .row id ver sz lo n => by
    simp only [thawed]
    split
    · simp [refs]
    · simp
  | .agg cs => by
    simp only [thawed, refs]
    exact thawedL_sub H cs
  | .any | .i _ | .tup _ | .ptr _ _ | .sl _ _ _ _ | .pel _ _ _ _ _ | .ro _ _ _ | .mp _ | .clo _ _ _ => by simp [thawed]
theorem thawedL_sub (H : Heap) : ∀ (l : List AV), ∀ id ∈ (thawedL H l).1, id ∈ refsL l
  | [] => by simp [thawedL]
  | a :: l => by
    simp only [thawedL, refsL, List.mem_append]
    intro id h
    rcases h with h | h
    · exact .inl (thawed_sub H a id h)
    · exact .inr (thawedL_sub H l id h)
end

def Closed (H : Heap) : Prop := ∀ id o, get H id = some o → ∀ q ∈ refsO o, Has H q

theorem addNs_mem (m : List Nat) : ∀ (l : List Nat) (k : Nat), k ∈ addNs l m ↔ k ∈ l ∨ k ∈ m := by
  induction m with
  | nil => intro l k; simp [addNs]
  | cons a m ih =>
    intro l k
    simp only [addNs]
    split
    · rename_i h
      have := (hasN_iff l a).1 h
      rw [ih]
      simp only [List.mem_cons]
      exact ⟨fun h => h.elim .inl (fun h => .inr (.inr h)), fun h => h.elim .inl (fun h => h.elim (fun e => .inl (e ▸ this)) .inr)⟩
    · rw [ih]
      simp only [List.mem_append, List.mem_cons, List.not_mem_nil, or_false]
      exact or_assoc

theorem reach_ext (h : Sub H H') (hc : Closed H) : ∀ (n : Nat) (todo l : List Nat), (∀ k ∈ todo, Has H k) → (∀ k ∈ l, Has H k) → reach H' n todo l = reach H n todo l ∧ ∀ k ∈ reach H n todo l, Has H k
  | 0, todo, l, _, hl => by cases todo <;> exact ⟨rfl, hl⟩
  | n + 1, [], l, _, hl => ⟨rfl, hl⟩
  | n + 1, a :: todo, l, ht, hl => by
    simp only [reach, h.eq (ht a (by simp))]
    cases ho : get H a with
    | none => exact reach_ext h hc n todo l (fun k hk => ht k (by simp [hk])) hl
    | some o =>
      have h1 : ∀ k ∈ todo ++ refsO o, Has H k := fun k hk => (List.mem_append.1 hk).elim (fun hk => ht k (by simp [hk])) (fun hk => hc a o ho k hk)
      have h2 : ∀ k ∈ addNs l (refsO o), Has H k := fun k hk => ((addNs_mem _ _ _).1 hk).elim (hl k) (fun hk => hc a o ho k hk)
      exact reach_ext h hc n _ _ h1 h2

theorem presentN_ext (h : Sub H H') : ∀ (l : List Nat), (∀ k ∈ l, Has H k) → presentN H' l = presentN H l
  | [], _ => rfl
  | a :: l, hl => by
    simp only [presentN, h.eq (hl a (by simp))]
    rw [presentN_ext h l (fun k hk => hl k (by simp [hk]))]
theorem closedN_ext (h : Sub H H') (S : List Nat) : ∀ (l : List Nat), (∀ k ∈ l, Has H k) → closedN H' S l = closedN H S l
  | [], _ => rfl
  | a :: l, hl => by
    simp only [closedN, h.eq (hl a (by simp))]
    rw [closedN_ext h S l (fun k hk => hl k (by simp [hk]))]

theorem callA_ext (h : Sub H H') (hc : Closed H) {g : FuncId} {args : List AV} (hp : ∀ id ∈ refsL args, Has H id) : callA hk H' g args fresh = callA hk H g args fresh := by
  have h1 : argsA (hk.mode g) H' args = argsA (hk.mode g) H args := by
    unfold argsA
    rw [(thawL_ext h args hp).1, (thawL_ext h args hp).2]
  unfold callA
  rw [h1]
  split
  rename_i cargs th tps harg
  have hca : ∀ id ∈ refsL cargs, Has H id := by
    rcases nth_argsA harg with ⟨rfl, _⟩ | ⟨rfl, _⟩
    · exact hp
    · exact fun id hid => hp id (refs_thawL H args id hid)
  have hth : ∀ id ∈ th, Has H id := by
    rcases nth_argsA harg with ⟨_, rfl⟩ | ⟨_, e⟩
    · simp
    · have e1 : th = (thawedL H args).1 := by rw [← e]
      rw [e1]
      exact fun id hid => hp id (thawedL_sub H args id hid)
  have hS := reach_ext h hc 40 (addNs [] (refsL cargs)) (addNs [] (refsL cargs)) (fun k hk => hca k (by simpa [addNs_mem] using hk)) (fun k hk => hca k (by simpa [addNs_mem] using hk))
  have e1 : callS H' cargs = callS H cargs := hS.1
  have e2 : ∀ k ∈ callS H cargs, Has H k := hS.2
  have e3 : callOk H' th (callS H cargs) cargs = callOk H th (callS H cargs) cargs := by
    unfold callOk
    rw [presentN_ext h _ e2, closedN_ext h _ _ e2, presentN_ext h _ hth]
  have e4 : objsOf H' (callS H cargs) = objsOf H (callS H cargs) := by
    unfold objsOf
    exact List.map_congr_left fun id hid => by rw [h.eq (e2 id hid)]
  simp only [e1, e3, e4]

theorem refs_constV (v : Value) : refs (constV v) = [] := by
  unfold constV
  split
  · split
    · rename_i cs _ _
      simp only [refs]
      generalize cs.toList = l
      induction l with
      | nil => rfl
      | cons a l ih => simp [refsL, refs, ih]
    · rfl
  · rfl
  · rfl
theorem refsL_map_constV (l : List Value) : refsL (l.map constV) = [] := by
  induction l with
  | nil => rfl
  | cons a l ih => simp [refsL, refs_constV, ih]
theorem refsL_app (a b : List AV) : refsL (a ++ b) = refsL a ++ refsL b := by
  induction a with
  | nil => rfl
  | cons x a ih => simp [refsL, ih]
theorem refsL_map {α : Type} {l : List α} {f : α → AV} {id : Nat} (h : id ∈ refsL (l.map f)) : ∃ x ∈ l, id ∈ refs (f x) := by
  induction l with
  | nil => cases h
  | cons a l ih =>
    simp only [List.map_cons, refsL, List.mem_append] at h
    rcases h with h | h
    · exact ⟨a, by simp, h⟩
    · obtain ⟨x, hx, hh⟩ := ih h; exact ⟨x, by simp [hx], hh⟩

theorem builtinA_ext (h : Sub H H') {b : Builtin} {ts : Array TypeId} {ty : TypeId} {args : List AV} (hp : ∀ id ∈ refsL args, Has H id) : builtinA P b ts ty H' args fresh = builtinA P b ts ty H args fresh := by
  have h1 : ∀ x, args = [x] → ∀ t, lenA P H' t x = lenA P H t x := fun x e t => lenA_ext h (fun id hid => hp id (by subst e; simp [refsL, hid]))
  have h2 : ∀ s x, args = [s, x] → ∀ t, appendA P H' t s x fresh = appendA P H t s x fresh := fun s x e t => appendA_ext h (fun id hid => hp id (by subst e; simp [refsL, hid])) (fun id hid => hp id (by subst e; simp [refsL, hid]))
  unfold builtinA
  split
  · simp only [h1 _ rfl]
  · simp only [h2 _ _ rfl]
  all_goals rfl

theorem opA_ext (h : Sub H H') (hc : Closed H) {ρ : Operand → AV} (hp : ∀ x, ∀ id ∈ refs (ρ x), Has H id) (o : Oper) : opA P hk ρ o H' fresh = opA P hk ρ o H fresh := by
  have hargs : ∀ (l : List Operand), ∀ id ∈ refsL (l.map ρ), Has H id := fun l id hid => by
    obtain ⟨x, _, hx⟩ := refsL_map hid
    exact hp x id hx
  unfold opA
  split
  all_goals first
    | rfl
    | exact loadA_ext h (hp _)
    | exact storeA_ext h (hp _)
    | exact lookupA_ext h (hp _)
    | exact mapUpdateA_ext h (hp _)
    | exact mapEntryA_ext h (hp _)
    | exact entryStoreA_ext h (hp _)
    | exact convA_ext h (hp _)
    | skip
  rename_i c _
  split
  · exact builtinA_ext h (hargs _)
  · rename_i f hc'
    split
    · rename_i g first cap hf
      rw [callA_ext h hc (fun id hid => by
        rw [refsL_app, refsL_app, List.mem_append, List.mem_append] at hid
        rcases hid with (hid | hid) | hid
        · exact hp f id (by rw [hf]; simp [refs, hid])
        · exact hargs _ id hid
        · exact hp f id (by rw [hf]; simp [refs, hid]))]
    · rename_i g first cap hf
      rw [callA_ext h hc (fun id hid => by
        rw [refsL_app, refsL_app, refsL_map_constV, refsL_map_constV] at hid
        simp only [List.nil_append, List.append_nil] at hid
        exact hargs _ id hid)]
    · rfl
  · rfl
end
end Go.AI
