import Derived.Test.YtjgddhjjcgndaaaAIAny
/- Any order of a region comes to the same: the theorem. -/
set_option linter.unusedVariables false
set_option linter.unusedSimpArgs false
namespace Go.AI
section
variable {P : Program} {H H' : Heap} {fresh : Nat} {hk : Hook}

theorem clsO_le (o : Op) : clsO hk o ≤ 4 := by
  unfold clsO
  repeat' split
  all_goals decide

theorem opA_pure {ρ : Operand → AV} {o : Oper} (hc : clsO hk o.op = 0 ∨ clsO hk o.op = 2) : opA P hk ρ o H' fresh = opA P hk ρ o H fresh := by
  obtain ⟨dst, op, type, pos, after, guard⟩ := o
  cases op <;> first
    | rfl
    | (exfalso; simp only [clsO] at hc; omega)
    | skip
  · rename_i t c; cases c <;> rfl
  rename_i c
  exfalso
  simp only [clsO] at hc
  split at hc
  · omega
  · omega
  · split at hc <;> omega
  · omega

theorem clsOk_here {c : Nat} {u : List (Nat × AO)} (hc : c ≤ 4) (h : clsOk c H fresh u = true) : ∀ x ∈ u, Has H x.1 ∨ (fresh ≤ x.1 ∧ x.1 < fresh + 4) := by
  unfold clsOk at h
  split at h
  · rw [nilN_iff.1 h]; simp
  · rw [nilN_iff.1 h]; simp
  · exact fun x hx => .inr (allFresh_iff.1 h x hx)
  · exact fun x hx => .inr (allFresh_iff.1 h x hx)
  · exact allHere_iff.1 h
theorem clsOk_new {c : Nat} {u : List (Nat × AO)} (hc : c ≤ 4) (hn : c ≠ 4) (h : clsOk c H fresh u = true) : ∀ x ∈ u, fresh ≤ x.1 ∧ x.1 < fresh + 4 := by
  rcases (by omega : c = 0 ∨ c = 1 ∨ c = 2 ∨ c = 3) with rfl | rfl | rfl | rfl
  · rw [nilN_iff.1 h]; simp
  · rw [nilN_iff.1 h]; simp
  · exact allFresh_iff.1 h
  · exact allFresh_iff.1 h
theorem clsOk_of {c : Nat} {u : List (Nat × AO)} (h : clsOk c H' fresh u = true) (hu : ∀ x ∈ u, Has H x.1 ∨ (fresh ≤ x.1 ∧ x.1 < fresh + 4)) : clsOk c H fresh u = true := by
  unfold clsOk at h ⊢
  split
  · exact h
  · exact h
  · exact h
  · exact h
  · exact allHere_iff.2 hu

/-- A step at one heap is a step at the other, when the operation comes to the same at both. -/
theorem execD_move {D : List (Nat × Bool)} {o : Oper} {i : Nat} {env : List AV} {v : AV} {u : List (Nat × AO)} {qs : List Ob}
    (he : opA P hk (evalO env) o H fresh = opA P hk (evalO env) o H' fresh)
    (hu : ∀ r, opA P hk (evalO env) o H' fresh = some r → AllP r.ps → clsOk (clsO hk o.op) H' fresh r.upd = true → clsOk (clsO hk o.op) H fresh r.upd = true)
    (hs : execD P hk D o i fresh env H' = some (v, u, qs)) (hq : AllP qs) : execD P hk D o i fresh env H = some (v, u, qs) := by
  unfold execD at hs ⊢
  rw [he]
  cases hr : opA P hk (evalO env) o H' fresh with
  | none => rw [hr] at hs; cases hs
  | some r =>
    rw [hr] at hs
    simp only at hs ⊢
    cases hc : clsOk (clsO hk o.op) H' fresh r.upd with
    | false => rw [hc] at hs; cases hs
    | true =>
      rw [hc] at hs
      simp only at hs
      have hps : AllP r.ps := by
        cases hd : decOf D i with
        | none => rw [hd] at hs; injection hs with hs; injection hs with _ hs; injection hs with _ hs; subst hs; exact hq
        | some b =>
          rw [hd] at hs
          simp only at hs
          split at hs
          · injection hs with hs; injection hs with _ hs; injection hs with _ hs; subst hs; exact hq.2
          · cases hs
      rw [hu r hr hps hc]
      exact hs

theorem stepV_move {ops : Array Oper} {D : List (Nat × Bool)} {o : Oper} {i : Nat} {env : List AV} {v : AV} {u : List (Nat × AO)} {qs : List Ob}
    (he : opA P hk (evalO env) o H fresh = opA P hk (evalO env) o H' fresh)
    (hu : ∀ r, opA P hk (evalO env) o H' fresh = some r → AllP r.ps → clsOk (clsO hk o.op) H' fresh r.upd = true → clsOk (clsO hk o.op) H fresh r.upd = true)
    (hs : stepV P hk ops D o i fresh env H' = some (v, u, qs)) (hq : AllP qs) : stepV P hk ops D o i fresh env H = some (v, u, qs) := by
  unfold stepV at hs ⊢
  cases hg : o.guard with
  | none => rw [hg] at hs; exact execD_move he hu hs hq
  | some jw =>
    obtain ⟨j, want⟩ := jw
    rw [hg] at hs
    simp only at hs ⊢
    cases hd : (ops[j]?).bind (·.dst) with
    | none => rw [hd] at hs; cases hs
    | some d =>
      rw [hd] at hs
      simp only at hs ⊢
      split at hs
      · rename_i hn; exact hs
      · rename_i c hn
        cases hw : decNow D j c == want with
        | false => rw [hw] at hs; exact hs
        | true =>
          rw [hw] at hs
          simp only at hs ⊢
          split at hs
          · rename_i v' u' ps hex
            injection hs with hs; injection hs with h1 h2; injection h2 with h2 h3
            subst h1 h2 h3
            rw [execD_move he hu hex (AllP.app.1 hq).2]
          · cases hs
      · cases hs

/-- The objects that a step turns. -/
theorem stepV_upd {ops : Array Oper} {D : List (Nat × Bool)} {o : Oper} {i : Nat} {env : List AV} {v : AV} {u : List (Nat × AO)} {qs : List Ob}
    (hs : stepV P hk ops D o i fresh env H = some (v, u, qs)) : u = [] ∨ clsOk (clsO hk o.op) H fresh u = true := by
  have hx : ∀ {v u qs}, execD P hk D o i fresh env H = some (v, u, qs) → clsOk (clsO hk o.op) H fresh u = true := by
    intro v u qs hs
    unfold execD at hs
    split at hs
    · cases hs
    · split at hs
      · cases hs
      · rename_i hc
        split at hs
        · injection hs with hs; injection hs with _ hs; injection hs with hs _; subst hs; exact hc
        · split at hs
          · injection hs with hs; injection hs with _ hs; injection hs with hs _; subst hs; exact hc
          · cases hs
  unfold stepV at hs
  split at hs
  · exact .inr (hx hs)
  · split at hs
    · cases hs
    · split at hs
      · injection hs with hs; injection hs with _ hs; injection hs with hs _; exact .inl hs.symm
      · split at hs
        · split at hs
          · rename_i hex
            injection hs with hs; injection hs with _ hs; injection hs with hs _; subst hs; exact .inr (hx hex)
          · cases hs
        · injection hs with hs; injection hs with _ hs; injection hs with hs _; exact .inl hs.symm
      · cases hs

theorem stepV_here {ops : Array Oper} {D : List (Nat × Bool)} {o : Oper} {i : Nat} {env : List AV} {v : AV} {u : List (Nat × AO)} {qs : List Ob}
    (hs : stepV P hk ops D o i fresh env H = some (v, u, qs)) : ∀ x ∈ u, Has H x.1 ∨ (fresh ≤ x.1 ∧ x.1 < fresh + 4) := by
  rcases stepV_upd hs with h | h
  · rw [h]; simp
  · exact clsOk_here (clsO_le _) h
theorem stepV_new {ops : Array Oper} {D : List (Nat × Bool)} {o : Oper} {i : Nat} {env : List AV} {v : AV} {u : List (Nat × AO)} {qs : List Ob}
    (hs : stepV P hk ops D o i fresh env H = some (v, u, qs)) (hn : clsO hk o.op ≠ 4) : ∀ x ∈ u, fresh ≤ x.1 ∧ x.1 < fresh + 4 := by
  rcases stepV_upd hs with h | h
  · rw [h]; simp
  · exact clsOk_new (clsO_le _) hn h

theorem hIndep_spec {a b : Nat} (ha : a ≤ 4) (hb : b ≤ 4) (h : hIndep a b = true) : (a ≠ 4 ∨ b = 0 ∨ b = 2) ∧ (b ≠ 4 ∨ a = 0 ∨ a = 2) := by
  rcases (by omega : a = 0 ∨ a = 1 ∨ a = 2 ∨ a = 3 ∨ a = 4) with rfl | rfl | rfl | rfl | rfl <;>
  rcases (by omega : b = 0 ∨ b = 1 ∨ b = 2 ∨ b = 3 ∨ b = 4) with rfl | rfl | rfl | rfl | rfl <;> first
    | (exact absurd h (by decide))
    | decide

def Inh (env : List AV) (H : Heap) : Prop := ∃ E w a, RelE env H E w a

/-- Two steps that are apart: the second may go first. -/
theorem stepV_swap (hCT : HookOK P hk) {ops : Array Oper} {D : List (Nat × Bool)} {x y : Oper} {i j fi fj : Nat} {env : List AV} {vi vj : AV} {ui uj : List (Nat × AO)} {qi qj : List Ob}
    (hap : indepO hk ops x y = true) (hI : Inh env H) (hfi : ∀ k, k < 4 → get H (fi + k) = none) (hfj : ∀ k, k < 4 → get H (fj + k) = none) (hne : fi + 4 ≤ fj ∨ fj + 4 ≤ fi)
    (hx : stepV P hk ops D x i fi env H = some (vi, ui, qi)) (hqi : AllP qi) (hy : stepV P hk ops D y j fj (putEnv env x.dst vi) (puts H ui) = some (vj, uj, qj)) (hqj : AllP qj) :
    stepV P hk ops D y j fj env H = some (vj, uj, qj) ∧ stepV P hk ops D x i fi (putEnv env y.dst vj) (puts H uj) = some (vi, ui, qi) ∧
    putEnv (putEnv env x.dst vi) y.dst vj = putEnv (putEnv env y.dst vj) x.dst vi ∧ puts (puts H ui) uj = puts (puts H uj) ui := by
  simp only [indepO, Bool.and_eq_true] at hap
  obtain ⟨h1, h2, h3⟩ := Oper.apart_spec hap.1
  obtain ⟨hc1, hc2⟩ := hIndep_spec (clsO_le _) (clsO_le _) hap.2
  rw [stepV_put h1] at hy
  rw [stepV_put h3]
  obtain ⟨E, w, a, hR⟩ := hI
  have hgood := hR.good
  have none_of : ∀ {f : Nat}, (∀ k, k < 4 → get H (f + k) = none) → ∀ {id : Nat}, f ≤ id ∧ id < f + 4 → get H id = none := fun hf id h => by
    have h1 := hf (id - _) (Nat.sub_lt_left_of_lt_add h.1 h.2); rwa [Nat.add_sub_cancel' h.1] at h1
  have hy' : stepV P hk ops D y j fj env H = some (vj, uj, qj) := by
    by_cases hc : clsO hk y.op = 0 ∨ clsO hk y.op = 2
    · refine stepV_move (H' := puts H ui) (opA_pure hc) (fun r _ _ h => ?_) hy hqj
      rcases hc with hc | hc <;> rw [hc] at h ⊢ <;> exact h
    · have hn : clsO hk x.op ≠ 4 := hc1.resolve_right hc
      have hsub : Sub H (puts H ui) := sub_puts fun z hz => none_of hfi (stepV_new hx hn z hz)
      have hext : opA P hk (evalO env) y H fj = opA P hk (evalO env) y (puts H ui) fj := (opA_ext hsub hgood.clo hgood.env y).symm
      refine stepV_move (H' := puts H ui) hext (fun r hr hps h => clsOk_of h fun z hz => ?_) hy hqj
      rw [← hext] at hr
      have hd := opA_dom hCT hr hps hR hfj
      by_cases hf : fj ≤ z.1 ∧ z.1 < fj + 4
      · exact .inr hf
      · refine .inl ?_
        cases hg : get H z.1 with
        | some o => exact ⟨o, hg⟩
        | none =>
          have := hd z.1 (by omega) hg
          rw [get_puts] at this
          obtain ⟨o, ho⟩ := lastOf_mem.1 ⟨z, hz, rfl⟩
          rw [ho] at this; cases this
  have hx' : stepV P hk ops D x i fi env (puts H uj) = some (vi, ui, qi) := by
    by_cases hc : clsO hk x.op = 0 ∨ clsO hk x.op = 2
    · refine stepV_move (H' := H) (opA_pure hc) (fun r _ _ h => ?_) hx hqi
      rcases hc with hc | hc <;> rw [hc] at h ⊢ <;> exact h
    · have hn : clsO hk y.op ≠ 4 := hc2.resolve_right hc
      have hsub : Sub H (puts H uj) := sub_puts fun z hz => none_of hfj (stepV_new hy' hn z hz)
      refine stepV_move (H' := H) (opA_ext hsub hgood.clo hgood.env x) (fun r hr hps h => clsOk_of h fun z hz => ?_) hx hqi
      exact (clsOk_here (clsO_le _) h z hz).imp has_puts id
  refine ⟨hy', hx', putEnv_comm _ _ _ h2, puts_comm _ _ _ fun z hz z' hz' e => ?_⟩
  by_cases hn : clsO hk x.op = 4
  · have hn' : clsO hk y.op ≠ 4 := fun e => by rcases hc1 with h | h | h <;> omega
    have h4 := stepV_new hy' hn' z' hz'
    rcases stepV_here hx z hz with ⟨o, ho⟩ | h5
    · rw [e, none_of hfj h4] at ho; cases ho
    · omega
  · have h4 := stepV_new hx hn z hz
    rcases stepV_here hy' z' hz' with ⟨o, ho⟩ | h5
    · rw [← e, none_of hfi h4] at ho; cases ho
    · omega

/-! ### A load, and a store elsewhere -/
def Away (ops : Array Oper) (env : List AV) (x y : Oper) : Prop :=
  ∃ ty p ty' t z, x.op = .load ty (.tmp p) ∧ y.op = .store ty' (.tmp t) z ∧ awayA (nth env p) (nth env t) = true ∧ (∀ o ∈ ops.toList, o.dst ≠ some t) ∧ x.apart ops y = true
theorem awayA_spec {a b : AV} (h : awayA a b = true) : ∃ i j, idOf a = some i ∧ idOf b = some j ∧ i ≠ j := by
  unfold awayA at h
  split at h
  · rename_i i j hi hj
    refine ⟨i, j, hi, hj, fun e => ?_⟩
    subst e
    simp [nbeq] at h
  · cases h
theorem storeA_upd {t : TypeId} {p v : AV} {r : Res} {id : Nat} (hid : idOf p = some id) (h : storeA P H t p v = some r) : ∀ z ∈ r.upd, z.1 = id := by
  unfold storeA at h
  split at h
  · cases h
  · simp only at h
    split at h
    · split at h
      · injection hid with hid; subst hid
        split at h
        · split at h
          · injection h with h; subst h; simp
          · cases h
        · cases h
      · injection hid with hid; subst hid
        split at h
        · split at h
          · injection h with h; subst h; simp
          · cases h
        · cases h
      · cases h
    · cases h
theorem loadA_get {t : TypeId} {p : AV} {id : Nat} (hid : idOf p = some id) (h : get H' id = get H id) : loadA P H' t p = loadA P H t p := by
  unfold loadA
  cases sizeT P t with
  | none => rfl
  | some sz => cases p with
    | ptr i off => injection hid with hid; subst hid; simp only [h]
    | pel i ver rsz k j => injection hid with hid; subst hid; simp only [h]
    | _ => rfl
theorem stepV_upd2 {ops : Array Oper} {D : List (Nat × Bool)} {o : Oper} {i : Nat} {env : List AV} {v : AV} {u : List (Nat × AO)} {qs : List Ob}
    (hs : stepV P hk ops D o i fresh env H = some (v, u, qs)) : u = [] ∨ ∃ r, opA P hk (evalO env) o H fresh = some r ∧ u = r.upd := by
  have hx : ∀ {v u qs}, execD P hk D o i fresh env H = some (v, u, qs) → ∃ r, opA P hk (evalO env) o H fresh = some r ∧ u = r.upd := by
    intro v u qs hs
    unfold execD at hs
    split at hs
    · cases hs
    · rename_i r hr
      split at hs
      · cases hs
      · split at hs
        · injection hs with hs; injection hs with _ hs; injection hs with hs _; subst hs; exact ⟨r, hr, rfl⟩
        · split at hs
          · injection hs with hs; injection hs with _ hs; injection hs with hs _; subst hs; exact ⟨r, hr, rfl⟩
          · cases hs
  unfold stepV at hs
  split at hs
  · exact .inr (hx hs)
  · split at hs
    · cases hs
    · split at hs
      · injection hs with hs; injection hs with _ hs; injection hs with hs _; exact .inl hs.symm
      · split at hs
        · split at hs
          · rename_i hex
            injection hs with hs; injection hs with _ hs; injection hs with hs _; subst hs; exact .inr (hx hex)
          · cases hs
        · injection hs with hs; injection hs with _ hs; injection hs with hs _; exact .inl hs.symm
      · cases hs
theorem stepV_swap_away {ops : Array Oper} {D : List (Nat × Bool)} {x y : Oper} {i j fi fj : Nat} {env : List AV} {vi vj : AV} {ui uj : List (Nat × AO)} {qi qj : List Ob}
    (hap : Away ops env x y) (hx : stepV P hk ops D x i fi env H = some (vi, ui, qi)) (hqi : AllP qi) (hy : stepV P hk ops D y j fj (putEnv env x.dst vi) (puts H ui) = some (vj, uj, qj)) :
    stepV P hk ops D y j fj env H = some (vj, uj, qj) ∧ stepV P hk ops D x i fi (putEnv env y.dst vj) (puts H uj) = some (vi, ui, qi) ∧
    putEnv (putEnv env x.dst vi) y.dst vj = putEnv (putEnv env y.dst vj) x.dst vi ∧ puts (puts H ui) uj = puts (puts H uj) ui := by
  obtain ⟨ty, p, ty', t, z, hxo, hyo, haw, _, hap⟩ := hap
  obtain ⟨h1, h2, h3⟩ := Oper.apart_spec hap
  have hcx : clsO hk x.op = 1 := by rw [hxo]; rfl
  have hui : ui = [] := by
    rcases stepV_upd hx with h | h
    · exact h
    · rw [hcx] at h; exact nilN_iff.1 h
  subst hui
  rw [stepV_put h1] at hy
  rw [stepV_put h3]
  have hy' : stepV P hk ops D y j fj env H = some (vj, uj, qj) := hy
  obtain ⟨ip, it, hip, hit, hne⟩ := awayA_spec haw
  have hu : ∀ w ∈ uj, w.1 = it := by
    rcases stepV_upd2 hy' with h | ⟨r, hr, rfl⟩
    · rw [h]; simp
    · have : storeA P H ty' (nth env t) (evalO env z) = some r := by
        have e : opA P hk (evalO env) y H fj = storeA P H ty' (nth env t) (evalO env z) := by unfold opA; rw [hyo]; rfl
        rw [← e]; exact hr
      exact storeA_upd hit this
  refine ⟨hy', ?_, putEnv_comm _ _ _ h2, rfl⟩
  refine stepV_move (H' := H) ?_ (fun r _ _ h => by rw [hcx] at h ⊢; exact h) hx hqi
  have e : ∀ K : Heap, opA P hk (evalO env) x K fi = loadA P K ty (nth env p) := fun K => by unfold opA; rw [hxo]; rfl
  rw [e, e]
  exact loadA_get hip (get_puts_other fun w hw e => by rw [hu w hw] at e; exact hne e.symm)
theorem Away.step {ops : Array Oper} {env : List AV} {x y o : Oper} {v : AV} (h : Away ops env x y) (ho : o ∈ ops.toList) (hap : x.apart ops o = true) : Away ops (putEnv env o.dst v) x y := by
  obtain ⟨ty, p, ty', t, z, hxo, hyo, haw, hnd, hap'⟩ := h
  obtain ⟨_, _, h3⟩ := Oper.apart_spec hap
  refine ⟨ty, p, ty', t, z, hxo, hyo, ?_, hnd, hap'⟩
  rw [nth_put fun d hd e => h3 d hd (by subst e; exact List.mem_append_left _ (List.mem_filterMap.2 ⟨.tmp d, by rw [hxo]; simp [Op.operands], rfl⟩)), nth_put fun d hd e => hnd o ho (by rw [hd, e])]
  exact haw

/-! ### A load of what the first leaves alone -/
def AwayL (ops : Array Oper) (env1 : List AV) (us : List Nat) (x y : Oper) : Prop :=
  ∃ ty p id, y.op = .load ty (.tmp p) ∧ idOf (nth env1 p) = some id ∧ id ∉ us ∧ (∀ m o, ops[m]? = some o → o.dst = some p → ∃ e ∈ y.after, Region.binds .any e = true ∧ e.on = m) ∧ x.apart ops y = true
theorem stepV_swap_load {ops : Array Oper} {D : List (Nat × Bool)} {x y : Oper} {i j fi fj : Nat} {env : List AV} {vi vj : AV} {ui uj : List (Nat × AO)} {qi qj : List Ob} {ty : TypeId} {p id : Nat}
    (hyo : y.op = .load ty (.tmp p)) (hid : idOf (nth env p) = some id) (hu : id ∉ ui.map fun z => z.1) (hap : x.apart ops y = true)
    (hx : stepV P hk ops D x i fi env H = some (vi, ui, qi)) (hy : stepV P hk ops D y j fj (putEnv env x.dst vi) (puts H ui) = some (vj, uj, qj)) (hqj : AllP qj) :
    stepV P hk ops D y j fj env H = some (vj, uj, qj) ∧ stepV P hk ops D x i fi (putEnv env y.dst vj) (puts H uj) = some (vi, ui, qi) ∧
    putEnv (putEnv env x.dst vi) y.dst vj = putEnv (putEnv env y.dst vj) x.dst vi ∧ puts (puts H ui) uj = puts (puts H uj) ui := by
  obtain ⟨h1, h2, h3⟩ := Oper.apart_spec hap
  have hcy : clsO hk y.op = 1 := by rw [hyo]; rfl
  rw [stepV_put h1] at hy
  have e : ∀ K : Heap, opA P hk (evalO env) y K fj = loadA P K ty (nth env p) := fun K => by unfold opA; rw [hyo]; rfl
  have hy' : stepV P hk ops D y j fj env H = some (vj, uj, qj) := by
    refine stepV_move (H' := puts H ui) ?_ (fun r _ _ h => by rw [hcy] at h ⊢; exact h) hy hqj
    rw [e, e]
    exact (loadA_get hid (get_puts_other fun z hz he => hu (List.mem_map.2 ⟨z, hz, he⟩))).symm
  have huj : uj = [] := by
    rcases stepV_upd hy' with h | h
    · exact h
    · rw [hcy] at h; exact nilN_iff.1 h
  subst huj
  rw [stepV_put h3]
  exact ⟨hy', hx, putEnv_comm _ _ _ h2, rfl⟩

/-! ### All orders -/
end
section
variable (P : Program) (hk : Hook) (ops : Array Oper) (D : List (Nat × Bool)) (base : Nat)
def AOp (i : Nat) (K : List AV → Heap → Prop) (env : List AV) (H : Heap) : Prop := match ops[i]? with
  | none => K env H
  | some o => ∃ v u qs, stepV P hk ops D o i (base + 4 * i) env H = some (v, u, qs) ∧ AllP qs ∧ K (putEnv env o.dst v) (puts H u)
def AAny (fin : List AV → Heap → Prop) : Nat → Array Bool → List AV → Heap → Prop
  | 0, listed, env, H => Region.ready .any ops listed = [] ∧ fin env H
  | fuel + 1, listed, env, H => (Region.ready .any ops listed = [] → fin env H) ∧
    ∀ i ∈ Region.ready .any ops listed, AOp P hk ops D base i (AAny fin fuel (listed.setIfInBounds i true)) env H
/-- What is not taken yet finds its numbers free. -/
def FreshI (listed : Array Bool) (H : Heap) : Prop := (∀ i, listed.getD i true = false → ∀ k, k < 4 → get H (base + 4 * i + k) = none) ∧ ∀ k, base + 4 * ops.size ≤ k → get H k = none
end
section
variable {P : Program} {H H' : Heap} {fresh : Nat} {hk : Hook}
variable {ops : Array Oper} {D : List (Nat × Bool)} {base : Nat} {fin : List AV → Heap → Prop}

theorem ready_lt {listed : Array Bool} {i : Nat} (h : i ∈ Region.ready .any ops listed) : i < ops.size := by
  obtain ⟨_, o, ho, _⟩ := mem_ready.1 h
  exact (Array.getElem?_eq_some_iff.1 ho).1

theorem FreshI.step {listed : Array Bool} {H H' : Heap} {i : Nat} (h : FreshI ops base listed H) (hi : i < ops.size) (hd : DomEq H H' (base + 4 * i)) : FreshI ops base (listed.setIfInBounds i true) H' := by
  refine ⟨fun j hj k hk => ?_, fun k hk => hd _ (.inr (by omega)) (h.2 k hk)⟩
  by_cases hij : i = j
  · subst hij
    exfalso
    rcases Nat.lt_or_ge i listed.size with h' | h'
    · simp [h'] at hj
    · simp [Array.getElem?_eq_none h', h'] at hj
  · rw [getD_set_ne true hij] at hj
    exact hd _ (by omega) (h.1 j hj k hk)

theorem AAny_wp (hCT : HookOK P hk) {Q : Exit → Act → World → Prop} {H0 : Heap} {E0 : Emb} {w0 : World}
    (hfin : ∀ env H E w a, fin env H → RelE env H E w a → Ext H0 E0 w0 H E w → (∀ k, base + 4 * ops.size ≤ k → get H k = none) → Q .normal a w) :
    ∀ (fuel : Nat) (listed : Array Bool) (env : List AV) (H : Heap) (E : Emb) (w : World) (a : Act), RelE env H E w a → Ext H0 E0 w0 H E w → FreshI ops base listed H →
      AAny P hk ops D base fin fuel listed env H → wpAny P .any ops Q fuel listed a w
  | 0, listed, env, H, E, w, a, hR, hX, hF, h => ⟨h.1, hfin _ _ _ _ _ h.2 hR hX hF.2⟩
  | fuel + 1, listed, env, H, E, w, a, hR, hX, hF, h => by
    refine ⟨fun h0 => hfin _ _ _ _ _ (h.1 h0) hR hX hF.2, fun i hi => ?_⟩
    have h1 := h.2 i hi
    obtain ⟨hun, o, ho, _⟩ := mem_ready.1 hi
    unfold AOp at h1
    unfold wpOp
    simp only [ho] at h1 ⊢
    obtain ⟨v, u, qs, hs, hq, hK⟩ := h1
    have := stepV_wp (K := wpAny P .any ops Q fuel (listed.setIfInBounds i true)) (Q := Q) hCT hs hq hR (hF.1 i hun) fun E' w' a' h1 h2 h3 =>
      AAny_wp hCT hfin fuel _ _ _ E' w' a' h1 (hX.trans h2) (hF.step (ready_lt hi) h3) hK
    split at this
    · rename_i hw; rw [if_pos hw]; exact .inl this
    · rename_i hw; rw [if_neg hw]; exact this

/-- What is set stays, to the end. -/
theorem AAny_final {env1 : List AV} (hfin : ∀ e h, fin e h → e = env1) {d : Nat} : ∀ (fuel : Nat) (listed : Array Bool) (env : List AV) (H : Heap), AAny P hk ops D base fin fuel listed env H →
    (∀ j o, ops[j]? = some o → listed.getD j true = false → o.dst ≠ some d) → nth env d = nth env1 d
  | 0, listed, env, H, h, _ => by rw [hfin _ _ h.2]
  | fuel + 1, listed, env, H, h, hd => by
    cases hr : Region.ready .any ops listed with
    | nil => rw [hfin _ _ (h.1 hr)]
    | cons i rs =>
      have hi : i ∈ Region.ready .any ops listed := by rw [hr]; simp
      have h1 := h.2 i hi
      obtain ⟨hun, o, ho, _⟩ := mem_ready.1 hi
      unfold AOp at h1
      simp only [ho] at h1
      obtain ⟨v, u, qs, _, _, hK⟩ := h1
      have h2 := AAny_final hfin fuel _ _ _ hK (fun j oj hoj hj => by
        by_cases hij : i = j
        · subst hij
          exfalso
          rcases Nat.lt_or_ge i listed.size with h' | h'
          · simp [h'] at hj
          · simp [Array.getElem?_eq_none h', h'] at hj
        · rw [getD_set_ne true hij] at hj; exact hd j oj hoj hj)
      rw [nth_put fun e he hee => hd i o ho hun (by rw [he, hee])] at h2
      exact h2

theorem AAny_first (hCT : HookOK P hk) {W : Nat → Nat → Bool} {i : Nat} {oi : Oper} {v : AV} {u : List (Nat × AO)} {qs : List Ob} {env1 : List AV} (hfin : ∀ e h, fin e h → e = env1) (hi : ops[i]? = some oi)
    (hW : ∀ j oj, ops[j]? = some oj → W j i = true → ∃ e ∈ oj.after, Region.binds .any e = true ∧ (e.on = i ∨ W e.on i = true)) (hq : AllP qs) :
    ∀ (fuel : Nat) (listed : Array Bool) (env : List AV) (H : Heap),
      (∀ j, W j i = true → listed.getD j false = false) →
      (∀ j oj, ops[j]? = some oj → j ≠ i → listed.getD j true = false → W j i = false → (indepO hk ops oi oj = true ∨ Away ops env oi oj) ∨ AwayL ops env1 (u.map fun z => z.1) oi oj) →
      i ∈ Region.ready .any ops listed → Inh env H → FreshI ops base listed H → stepV P hk ops D oi i (base + 4 * i) env H = some (v, u, qs) →
      AAny P hk ops D base fin fuel (listed.setIfInBounds i true) (putEnv env oi.dst v) (puts H u) → AAny P hk ops D base fin (fuel + 1) listed env H := by
  intro fuel
  induction fuel with
  | zero =>
    intro listed env H _ _ hr _ _ hs h
    refine ⟨fun h0 => (by rw [h0] at hr; cases hr), fun j hj => ?_⟩
    by_cases hji : j = i
    · subst hji; unfold AOp; simp only [hi]; exact ⟨v, u, qs, hs, hq, h⟩
    · have := ready_mono hj hji
      rw [h.1] at this
      cases this
  | succ fuel ih =>
    intro listed env H hblk hfree hr hI hF hs h
    refine ⟨fun h0 => (by rw [h0] at hr; cases hr), fun j hj => ?_⟩
    by_cases hji : j = i
    · subst hji; unfold AOp; simp only [hi]; exact ⟨v, u, qs, hs, hq, h⟩
    · have h1 := h.2 j (ready_mono hj hji)
      obtain ⟨hjun, oj, hoj, hall⟩ := mem_ready.1 hj
      have hiun := (mem_ready.1 hr).1
      have hnot : W j i = false := by
        cases hw : W j i with
        | false => rfl
        | true =>
          exfalso
          obtain ⟨e, he, hb, heq⟩ := hW j oj hoj hw
          have h2 := hall e he hb
          rcases heq with heq | heq
          · rw [heq] at h2
            rcases Nat.lt_or_ge i listed.size with h' | h'
            · simp [h'] at hiun h2; rw [hiun] at h2; cases h2
            · simp [Array.getElem?_eq_none h'] at h2
          · rw [hblk _ heq] at h2; cases h2
      have hind := hfree j oj hoj hji hjun hnot
      unfold AOp at h1 ⊢
      simp only [hoj] at h1 ⊢
      obtain ⟨vj, uj, qj, hsj, hqj, hK⟩ := h1
      obtain ⟨h2, h3, h4, h5⟩ := hind.elim (fun hind => hind.elim (fun hind => stepV_swap hCT hind hI (hF.1 i hiun) (hF.1 j hjun) (by omega) hs hq hsj hqj) (fun hind => stepV_swap_away hind hs hq hsj)) (fun hind => by
        obtain ⟨ty, p, id, hyo, hid, hus, hpre, hap⟩ := hind
        obtain ⟨_, _, hap3⟩ := Oper.apart_spec hap
        obtain ⟨hap1, _, _⟩ := Oper.apart_spec hap
        have hset : nth env p = nth env1 p := by
          have h6 := AAny_final (d := p) hfin _ _ _ _ h (fun m om hom hm hdm => by
            obtain ⟨e, he, hb, hon⟩ := hpre m om hom hdm
            have h7 := hall e he hb
            rw [hon] at h7
            by_cases him : i = m
            · subst him
              rcases Nat.lt_or_ge i listed.size with h' | h'
              · simp [h'] at hm
              · simp [Array.getElem?_eq_none h', h'] at hm
            · rw [getD_set_ne true him] at hm
              rcases Nat.lt_or_ge m listed.size with h' | h'
              · simp [h'] at hm h7; rw [h7] at hm; cases hm
              · simp [Array.getElem?_eq_none h'] at h7)
          rw [nth_put fun d hd hdp => hap1 d hd (by subst hdp; exact List.mem_append_left _ (List.mem_filterMap.2 ⟨.tmp d, by rw [hyo]; simp [Op.operands], rfl⟩))] at h6
          exact h6
        exact stepV_swap_load hyo (by rw [hset]; exact hid) hus hap hs hsj hqj)
      have hapj : oi.apart ops oj = true := hind.elim (fun hind => hind.elim (fun h => by simp only [indepO, Bool.and_eq_true] at h; exact h.1) (fun h => by obtain ⟨_, _, _, _, _, _, _, _, _, h⟩ := h; exact h)) (fun h => by obtain ⟨_, _, _, _, _, _, _, h⟩ := h; exact h)
      refine ⟨vj, uj, qj, h2, hqj, ?_⟩
      obtain ⟨E, w, a, hR⟩ := hI
      obtain ⟨hI', hd⟩ := stepV_inh hCT h2 hqj hR (hF.1 j hjun)
      refine ih (listed.setIfInBounds j true) _ _ (fun k hk => ?_) (fun k ok hk hki hun hno => ?_) (ready_mono hr (Ne.symm hji)) hI' (hF.step (ready_lt hj) hd) h3 ?_
      · by_cases hjk : j = k
        · subst hjk; rw [hnot] at hk; cases hk
        · rw [getD_set_ne false hjk]; exact hblk k hk
      · refine (hfree k ok hk hki ?_ hno).imp (fun h => h.imp id (fun h => h.step (by simpa using Array.mem_of_getElem? hoj) hapj)) id
        by_cases hjk : j = k
        · subst hjk; exact hjun
        · rw [getD_set_ne true hjk] at hun; exact hun
      · rw [Array.setIfInBounds_comm _ _ hji, ← h4, ← h5]
        exact hK
end
end Go.AI
