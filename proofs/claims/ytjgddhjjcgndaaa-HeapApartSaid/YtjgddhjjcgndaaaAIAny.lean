import Derived.Test.YtjgddhjjcgndaaaAIDraw
/- Any order of a region comes to the same: the states. -/
set_option linter.unusedVariables false
set_option linter.unusedSimpArgs false
namespace Go.AI

structure Good (env : List AV) (H : Heap) : Prop where
  clo : Closed H
  env : ∀ x, ∀ id ∈ refs (evalO env x), Has H id

theorem refsL_nth {l : List AV} {id : Nat} (h : id ∈ refsL l) : ∃ k, k < l.length ∧ id ∈ refs (nth l k) := by
  induction l with
  | nil => cases h
  | cons a l ih =>
    simp only [refsL, List.mem_append] at h
    rcases h with h | h
    · exact ⟨0, by simp, h⟩
    · obtain ⟨k, h1, h2⟩ := ih h
      exact ⟨k + 1, by simpa using h1, h2⟩

section
variable {P : Program} {H : Heap} {E : Emb} {w : World} {fresh : Nat} {hk : Hook}

theorem HOk.hasB (h : HOk H E w) {id g : Nat} (hb : E.blk id = some g) : Has H id := by
  cases hg : get H id with
  | none => rw [(h.dom id hg).1] at hb; cases hb
  | some o => exact ⟨o, hg⟩
theorem HOk.hasR (h : HOk H E w) {id : Nat} {v : Value} (hb : E.rowv id = some v) : Has H id := by
  cases hg : get H id with
  | none => rw [(h.dom id hg).2] at hb; cases hb
  | some o => exact ⟨o, hg⟩

theorem VR.has (hh : HOk H E w) {a : AV} {v : Value} (h : VR H E w a v) : ∀ id ∈ refs a, Has H id := by
  induction h with
  | any v => simp [refs]
  | i x v h => simp [refs]
  | agg cs vs hl h ih => intro id hid; obtain ⟨k, h1, h2⟩ := refsL_nth (by simpa [refs] using hid); exact ih k h1 id h2
  | tup cs vs hl h ih => intro id hid; obtain ⟨k, h1, h2⟩ := refsL_nth (by simpa [refs] using hid); exact ih k h1 id h2
  | ptr id off g h => intro id' hid; simp [refs] at hid; subst hid; exact hh.hasB h
  | sl id off n cap g h hc => intro id' hid; simp [refs] at hid; subst hid; exact hh.hasB h
  | row id ver sz lo n v0 v h hv hc => intro id' hid; simp [refs] at hid; subst hid; exact hh.hasR h
  | pel id ver sz k j v0 v h hv hc => intro id' hid; simp [refs] at hid; subst hid; exact hh.hasR h
  | ro => simp [refs]
  | mp id g h => intro id' hid; simp [refs] at hid; subst hid; exact hh.hasB h
  | clo fn a b x y ha hb h h' ih ih' =>
    intro id hid
    simp only [refs, List.mem_append] at hid
    rcases hid with hid | hid
    · obtain ⟨k, h1, h2⟩ := refsL_nth hid; exact ih k h1 id h2
    · obtain ⟨k, h1, h2⟩ := refsL_nth hid; exact ih' k h1 id h2

theorem RelE.good {env : List AV} {a : Act} (h : RelE env H E w a) : Good env H := by
  refine ⟨fun id o ho q hq => ?_, fun x id hid => (h.eval x).has h.heap id hid⟩
  have := h.heap.obj id o ho
  cases o with
  | cells t cs =>
    obtain ⟨g, c, _, _, _, h4, h5⟩ := this
    obtain ⟨k, h1, h2⟩ := refsL_nth (by simpa [refsO] using hq)
    exact (h5 k h1).has h.heap q h2
  | _ => simp [refsO] at hq

theorem wp_inh {o : Oper} {a : Act} {K : Act → World → Prop} (h : o.wp P a w K (fun _ _ _ => False)) : ∃ a' w', K a' w' := by
  unfold Oper.wp at h
  generalize (execOp a.eval o).run P w = r at h
  cases r with
  | ok n w' =>
    cases n <;> simp only [Oper.upon] at h
    case value => exact ⟨_, _, h⟩
    case skip => exact ⟨_, _, h⟩
    case defer => exact ⟨_, _, h⟩
    case enter f args =>
      obtain ⟨e, w'', fr, h1, _⟩ := h []
      cases e with
      | returned v => exact ⟨_, _, h1⟩
      | panicked c => exact h1.elim
      | outgrown => obtain ⟨_, _, h2⟩ := h1; exact h2.elim
    case row row args =>
      obtain ⟨v, w'', h1, _⟩ := h (Frame.enter P 0 #[] .normal) []
      exact ⟨_, _, h1⟩
  | halt x w' => cases x <;> simp only [Oper.upon] at h <;> exact h.elim

theorem stepV_inh (hCT : HookOK P hk) {ops : Array Oper} {D : List (Nat × Bool)} {o : Oper} {i : Nat} {env : List AV} {a : Act} {v : AV} {u : List (Nat × AO)} {qs : List Ob}
    (hs : stepV P hk ops D o i fresh env H = some (v, u, qs)) (hq : AllP qs) (hR : RelE env H E w a) (hfr : ∀ k, k < 4 → get H (fresh + k) = none) :
    (∃ E' w' a', RelE (putEnv env o.dst v) (puts H u) E' w' a') ∧ DomEq H (puts H u) fresh := by
  have := stepV_wp (K := fun a' w' => (∃ E', RelE (putEnv env o.dst v) (puts H u) E' w' a') ∧ DomEq H (puts H u) fresh) (Q := fun _ _ _ => False) hCT hs hq hR hfr fun E' w' a' h1 h2 h3 => ⟨⟨E', h1⟩, h3⟩
  split at this
  · obtain ⟨a', w', ⟨E', h1⟩, h2⟩ := wp_inh this
    exact ⟨⟨E', w', a', h1⟩, h2⟩
  · obtain ⟨⟨E', h1⟩, h2⟩ := this
    exact ⟨⟨E', w, _, h1⟩, h2⟩

theorem opA_dom (hCT : HookOK P hk) {o : Oper} {env : List AV} {a : Act} {r : Res}
    (hr : opA P hk (evalO env) o H fresh = some r) (hq : AllP r.ps) (hR : RelE env H E w a) (hfr : ∀ k, k < 4 → get H (fresh + k) = none) : DomEq H (puts H r.upd) fresh := by
  have := opA_wp (next := fun _ _ => DomEq H (puts H r.upd) fresh) (Q := fun _ _ _ => False) hCT hR.heap hR.eval hfr hr hq fun v w' h => h.dom
  obtain ⟨_, _, h⟩ := wp_inh this
  exact h

/-! ### Which objects are turned -/
theorem inFresh_iff {fresh k : Nat} : inFresh fresh k = true ↔ fresh ≤ k ∧ k < fresh + 4 := by
  simp only [inFresh, Bool.and_eq_true, Nat.ble_eq]; omega
theorem allFresh_iff {fresh : Nat} {l : List (Nat × AO)} : allFresh fresh l = true ↔ ∀ x ∈ l, fresh ≤ x.1 ∧ x.1 < fresh + 4 := by
  induction l with
  | nil => simp [allFresh]
  | cons x l ih =>
    simp only [allFresh]
    split
    · rename_i h; rw [ih]; simp [inFresh_iff.1 h]
    · rename_i h
      constructor
      · intro h; cases h
      · intro h1
        have := inFresh_iff.2 (h1 x (by simp))
        rw [this] at h; cases h
theorem allHere_iff {fresh : Nat} {l : List (Nat × AO)} : allHere H fresh l = true ↔ ∀ x ∈ l, Has H x.1 ∨ (fresh ≤ x.1 ∧ x.1 < fresh + 4) := by
  induction l with
  | nil => simp [allHere]
  | cons x l ih =>
    simp only [allHere]
    split
    · rename_i h; rw [ih]; simp [show Has H x.1 from ⟨_, h⟩]
    · rename_i h h'; rw [ih]; simp [inFresh_iff.1 h']
    · rename_i h h'
      constructor
      · intro h; cases h
      · intro h1
        rcases h1 x (by simp) with ⟨o, h2⟩ | h2
        · rw [h] at h2; cases h2
        · rw [inFresh_iff.2 h2] at h'; cases h'
theorem nilN_iff {α : Type} {l : List α} : nilN l = true ↔ l = [] := by
  cases l <;> simp [nilN]

theorem lastOf_mem {l : List (Nat × AO)} {id : Nat} : (∃ x ∈ l, x.1 = id) ↔ ∃ o, lastOf l id = some o := by
  induction l with
  | nil => simp [lastOf]
  | cons x l ih =>
    obtain ⟨k, o⟩ := x
    simp only [lastOf]
    cases h : lastOf l id with
    | some y => simp only [h, List.mem_cons]; exact ⟨fun _ => ⟨_, rfl⟩, fun _ => let ⟨x, h1, h2⟩ := ih.2 ⟨y, h⟩; ⟨x, .inr h1, h2⟩⟩
    | none =>
      have h0 : ¬ ∃ x ∈ l, x.1 = id := fun hh => by obtain ⟨o, ho⟩ := ih.1 hh; rw [h] at ho; cases ho
      by_cases e : k = id
      · simp [e]
      · simp only [if_neg e, List.mem_cons]
        constructor
        · rintro ⟨x, hx | hx, he⟩
          · subst hx; exact absurd he e
          · exact absurd ⟨x, hx, he⟩ h0
        · rintro ⟨o, ho⟩; cases ho

theorem lastOf_none {l : List (Nat × AO)} {id : Nat} (h : ∀ x ∈ l, x.1 ≠ id) : lastOf l id = none := by
  cases hl : lastOf l id with
  | none => rfl
  | some o => obtain ⟨x, h1, h2⟩ := lastOf_mem.2 ⟨o, hl⟩; exact absurd h2 (h x h1)
theorem get_puts_other {l : List (Nat × AO)} {id : Nat} (h : ∀ x ∈ l, x.1 ≠ id) : get (puts H l) id = get H id := by
  rw [get_puts, lastOf_none h]
theorem has_puts {l : List (Nat × AO)} {id : Nat} (h : Has H id) : Has (puts H l) id := by
  obtain ⟨o, ho⟩ := h
  unfold Has
  rw [get_puts]
  cases hl : lastOf l id with
  | none => exact ⟨o, ho⟩
  | some x => exact ⟨x, rfl⟩

theorem put_puts (l : List (Nat × AO)) : ∀ (H : Heap) (id : Nat) (o : AO), (∀ x ∈ l, x.1 ≠ id) → put (puts H l) id o = puts (put H id o) l := by
  induction l with
  | nil => intro H id o _; rfl
  | cons x l ih =>
    intro H id o h
    obtain ⟨k, y⟩ := x
    rw [puts_cons, puts_cons, ih _ _ _ (fun x hx => h x (by simp [hx])), put_comm _ _ _ (h (k, y) (by simp))]
theorem puts_comm (l m : List (Nat × AO)) : ∀ (H : Heap), (∀ x ∈ l, ∀ y ∈ m, x.1 ≠ y.1) → puts (puts H l) m = puts (puts H m) l := by
  induction m with
  | nil => intro H _; rfl
  | cons y m ih =>
    intro H h
    obtain ⟨k, z⟩ := y
    rw [puts_cons, puts_cons, put_puts l H k z (fun x hx => h x hx (k, z) (by simp)), ih _ (fun x hx y hy => h x hx y (by simp [hy]))]

theorem sub_puts {u : List (Nat × AO)} (h : ∀ x ∈ u, get H x.1 = none) : Sub H (puts H u) := fun id o ho => by
  rw [get_puts_other (fun x hx e => by rw [← e, h x hx] at ho; cases ho)]
  exact ho

/-! ### Operands -/
theorem evalO_put {env : List AV} {dst : Option Tmp} {v : AV} {x : Operand} (h : ∀ d, dst = some d → x ≠ .tmp d) : evalO (putEnv env dst v) x = evalO env x := by
  cases dst with
  | none => rfl
  | some d =>
    cases x with
    | tmp t =>
      have hne : d ≠ t := fun e => h d rfl (e ▸ rfl)
      show nth (setNth env d v) t = nth env t
      rw [setNth_eq, nth_eq, nth_eq]
      simp [List.getD, List.getElem?_set_ne hne]
    | _ => rfl

theorem nth_put {env : List AV} {dst : Option Tmp} {v : AV} {t : Nat} (h : ∀ d, dst = some d → d ≠ t) : nth (putEnv env dst v) t = nth env t :=
  evalO_put (x := .tmp t) fun d hd e => by injection e with e; exact h d hd e.symm

theorem putEnv_comm (env : List AV) {x y : Option Tmp} (v u : AV) (h : ∀ d, x = some d → y ≠ some d) : putEnv (putEnv env x v) y u = putEnv (putEnv env y u) x v := by
  cases x with
  | none => rfl
  | some d => cases y with
    | none => rfl
    | some e =>
      have hne : d ≠ e := fun he => h d rfl (he ▸ rfl)
      simp only [putEnv, setNth_eq]
      exact List.set_comm _ _ hne

theorem opA_congr {ρ ρ' : Operand → AV} (o : Oper) (h : ∀ x ∈ o.op.operands, ρ x = ρ' x) : opA P hk ρ o H fresh = opA P hk ρ' o H fresh := by
  obtain ⟨dst, op, type, pos, after, guard⟩ := o
  have lst : ∀ xs : Array Operand, (∀ x ∈ xs, ρ x = ρ' x) → xs.toList.map ρ = xs.toList.map ρ' := fun xs hx =>
    List.map_congr_left fun x hm => hx x (by simpa using hm)
  have pairs : ∀ ps : Array (Nat × Operand), (∀ x ∈ ps.map (·.2), ρ x = ρ' x) →
      (ps.toList.map fun p => (p.1, ρ p.2)) = (ps.toList.map fun p => (p.1, ρ' p.2)) := fun ps hp =>
    List.map_congr_left fun p hm => by
      rw [hp p.2 (Array.mem_map.2 ⟨p, by simpa using hm, rfl⟩)]
  cases op <;> simp only [Op.operands] at h <;> simp only [opA]
  case build t ps => rw [pairs ps fun x hx => h x (by simpa using hx)]
  case buildSlice t n ps => rw [pairs ps fun x hx => h x (by simpa using hx)]
  case makeFunc fn first captured =>
    rw [lst first fun x hx => h x (by simp [hx]), lst captured fun x hx => h x (by simp [hx])]
  case call c =>
    have hargs := lst c.args fun x hx => h x (by simp [Call.operands, hx])
    simp only [hargs]
    cases hc : c.callee with
    | value f => have hf : ρ f = ρ' f := h f (by simp [Call.operands, hc]); simp only [hf]
    | invoke r m => rfl
    | builtin b => rfl
  case makeMap t r => cases r <;> simp_all
  case slice t x lo hi mx => cases lo <;> cases hi <;> cases mx <;> simp_all
  all_goals (first | rfl | (simp_all; done))

theorem stepV_put {ops : Array Oper} {D : List (Nat × Bool)} {o : Oper} {i : Nat} {env : List AV} {dst : Option Tmp} {v : AV} (h : ∀ d, dst = some d → d ∉ o.looksAt ops) :
    stepV P hk ops D o i fresh (putEnv env dst v) H = stepV P hk ops D o i fresh env H := by
  have h1 : execD P hk D o i fresh (putEnv env dst v) H = execD P hk D o i fresh env H := by
    unfold execD
    rw [opA_congr o fun x hx => evalO_put fun d hd hxd => h d hd (by
      subst hxd
      exact List.mem_append_left _ (List.mem_filterMap.2 ⟨.tmp d, by simpa using hx, rfl⟩))]
  unfold stepV
  rw [h1]
  cases hg : o.guard with
  | none => rfl
  | some gw =>
    obtain ⟨g, want⟩ := gw
    simp only
    cases ht : (ops[g]?).bind (·.dst) with
    | none => rfl
    | some t =>
      have e : nth (putEnv env dst v) t = nth env t := nth_put fun d hd e => h d hd (by subst e; simp [Oper.looksAt, hg, ht])
      simp only [e]
end
end Go.AI
