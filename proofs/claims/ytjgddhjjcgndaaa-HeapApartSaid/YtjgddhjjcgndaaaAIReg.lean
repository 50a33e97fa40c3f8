import Derived.Test.YtjgddhjjcgndaaaAIAll
/- A region, ordered or drawn. -/
set_option linter.unusedVariables false
set_option linter.unusedSimpArgs false
namespace Go.AI
section
variable {P : Program} {hk : Hook} {ops : Array Oper}

theorem chainE_spec {b : List Nat} {i : Nat} : ∀ {es : List Edge}, chainE b i es = true → ∃ e ∈ es, Region.binds .any e = true ∧ (e.on = i ∨ waitsOn b e.on i = true)
  | [], h => by cases h
  | e :: l, h => by
    simp only [chainE] at h
    split at h
    · rename_i h1
      simp only [Bool.and_eq_true, Bool.or_eq_true] at h1
      exact ⟨e, by simp, h1.1, h1.2.imp Nat.eq_of_beq_eq_true id⟩
    · obtain ⟨e', h1, h2⟩ := chainE_spec h
      exact ⟨e', by simp [h1], h2⟩
theorem chainI_spec {b : List Nat} {es : List Edge} {j : Nat} : ∀ {n : Nat}, chainI b es j n = true → ∀ i, i < n → waitsOn b j i = true → chainE b i es = true
  | 0, _, _, h, _ => by omega
  | n + 1, h, i, hi, hw => by
    simp only [chainI] at h
    split at h
    · rename_i h1
      by_cases e : i = n
      · subst e; simpa [hw] using h1
      · exact chainI_spec h i (by omega) hw
    · cases h
theorem chainAll_spec {b : List Nat} {n : Nat} : ∀ {l : List Oper} {j : Nat}, chainAll b n l j = true → ∀ k o, l[k]? = some o → chainI b o.after.toList (j + k) n = true
  | [], _, _, _, _, h => by simp at h
  | x :: l, j, h, k, o, hk => by
    simp only [chainAll] at h
    split at h
    · rename_i h1
      cases k with
      | zero => simp at hk; subst hk; exact h1
      | succ k => rw [show j + (k + 1) = j + 1 + k by omega]; exact chainAll_spec h k o (by simpa using hk)
    · cases h
theorem lexI_spec {env : List AV} {rest : List Oper} {us : List (List Nat)} {b : List Nat} {x : Oper} {i : Nat} : ∀ {l : List Oper} {j : Nat}, lexI hk ops env rest us b x i l j = true → ∀ k y, l[k]? = some y → ((waitsOn b (j + k) i = true ∨ indepO hk ops x y = true) ∨ aliasB ops env rest x y = true) ∨ (us ≠ [] ∧ aliasL ops env (headU us) x y = true)
  | [], _, _, _, _, h => by simp at h
  | y :: l, j, h, k, o, hk' => by
    simp only [lexI] at h
    split at h
    · rename_i h1
      cases k with
      | zero =>
        simp at hk'; subst hk'
        simp only [Bool.or_eq_true, Bool.and_eq_true] at h1
        exact h1.imp id (fun h => ⟨fun e => by subst e; simp [isNilU] at h, h.2⟩)
      | succ k => rw [show j + (k + 1) = j + 1 + k by omega]; exact lexI_spec h k o (by simpa using hk')
    · cases h
theorem tailU_drop : ∀ (us : List (List Nat)) (k : Nat), (tailU us).drop k = us.drop (k + 1)
  | [], k => by simp [tailU]
  | _ :: _, k => by simp [tailU]
theorem lexAll_spec {env : List AV} {b : List Nat} : ∀ {l : List Oper} {us : List (List Nat)} {i : Nat}, lexAll hk ops env us b l i = true → ∀ k x m y, l[k]? = some x → k < m → l[m]? = some y → ((waitsOn b (i + m) (i + k) = true ∨ indepO hk ops x y = true) ∨ aliasB ops env (l.drop k) x y = true) ∨ (us.drop k ≠ [] ∧ aliasL ops env (headU (us.drop k)) x y = true)
  | [], _, _, _, _, _, _, _, h, _, _ => by simp at h
  | x :: l, us, i, h, k, x', m, y, hx, hkm, hy => by
    simp only [lexAll] at h
    split at h
    · rename_i h1
      cases m with
      | zero => omega
      | succ m =>
        cases k with
        | zero =>
          simp at hx; subst hx
          have := lexI_spec h1 m y (by simpa using hy)
          rwa [show i + 1 + m = i + (m + 1) by omega] at this
        | succ k =>
          have := lexAll_spec h k x' m y (by simpa using hx) (by omega) (by simpa using hy)
          rw [show i + 1 + m = i + (m + 1) by omega, show i + 1 + k = i + (k + 1) by omega, tailU_drop] at this
          exact this
    · cases h
theorem backE_spec {i : Nat} : ∀ {es : List Edge}, backE i es = true → ∀ e ∈ es, Region.binds .any e = true → e.on < i
  | [], _, _, h, _ => by cases h
  | x :: l, h, e, he, hb => by
    simp only [backE] at h
    split at h
    · rename_i h1
      rcases List.mem_cons.1 he with rfl | he
      · simp [hb] at h1; omega
      · exact backE_spec h e he hb
    · cases h
theorem backAll_spec : ∀ {l : List Oper} {i : Nat}, backAll l i = true → ∀ k o, l[k]? = some o → ∀ e ∈ o.after.toList, Region.binds .any e = true → e.on < i + k
  | [], _, _, _, _, h => by simp at h
  | x :: l, i, h, k, o, hk => by
    simp only [backAll] at h
    split at h
    · rename_i h1 h2
      cases k with
      | zero => simp at hk; subst hk; exact fun e he hb => by have := backE_spec h1 e he hb; omega
      | succ k =>
        intro e he hb
        have := backAll_spec h k o (by simpa using hk) e he hb
        omega
    · cases h

structure Lexed (hk : Hook) (ops : Array Oper) (env : List AV) (us : List (List Nat)) (b : List Nat) : Prop where
  back : ∀ k o, ops[k]? = some o → ∀ e ∈ o.after, Region.binds .any e = true → e.on < k
  chain : ∀ j o i, ops[j]? = some o → i < ops.size → waitsOn b j i = true → ∃ e ∈ o.after, Region.binds .any e = true ∧ (e.on = i ∨ waitsOn b e.on i = true)
  lex : ∀ k x m y, ops[k]? = some x → k < m → ops[m]? = some y → ((waitsOn b m k = true ∨ indepO hk ops x y = true) ∨ aliasB ops env (ops.toList.drop k) x y = true) ∨ (us.drop k ≠ [] ∧ aliasL ops env (headU (us.drop k)) x y = true)

theorem drawOk_spec {env : List AV} {us : List (List Nat)} (h : drawOk hk ops env us = true) : Lexed hk ops env us (masks ops.toList []) := by
  unfold drawOk at h
  split at h
  · cases h
  · rename_i h1
    split at h
    · cases h
    · rename_i h2
      refine ⟨fun k o ho e he hb => ?_, fun j o i ho hi hw => ?_, fun k x m y hx hkm hy => ?_⟩
      · have := backAll_spec h1 k o (by simpa using ho) e (by simpa using he) hb
        omega
      · have := chainAll_spec h2 j o (by simpa using ho)
        rw [Nat.zero_add] at this
        obtain ⟨e, he, h3⟩ := chainE_spec (chainI_spec this i hi hw)
        exact ⟨e, by simpa using he, h3⟩
      · have := lexAll_spec h k x m y (by simpa using hx) hkm (by simpa using hy)
        simpa using this

theorem Lexed.lt {env : List AV} {us : List (List Nat)} {b : List Nat} (L : Lexed hk ops env us b) {i : Nat} (hi : i < ops.size) : ∀ (n j : Nat), j < n → j < ops.size → waitsOn b j i = true → i < j
  | 0, _, h, _, _ => by omega
  | n + 1, j, hj, hjs, hw => by
    obtain ⟨e, he, hb, h⟩ := L.chain j ops[j] i (by simp [hjs]) hi hw
    have hlt := L.back j ops[j] (by simp [hjs]) e he hb
    rcases h with h | h
    · omega
    · have := Lexed.lt L hi n e.on (by omega) (by omega) h
      omega

def Upto (n : Nat) (listed : Array Bool) (k : Nat) : Prop := listed.size = n ∧ ∀ j, j < n → listed[j]? = some (decide (j < k))
theorem Upto.f {n k j : Nat} {listed : Array Bool} (h : Upto n listed k) (d : Bool) : listed.getD j d = if j < n then decide (j < k) else d := by
  by_cases hj : j < n
  · simp only [if_pos hj, Array.getD_eq_getD_getElem?, h.2 j hj, Option.getD_some]
  · have : listed[j]? = none := Array.getElem?_eq_none (by rw [h.1]; omega)
    simp only [if_neg hj, Array.getD_eq_getD_getElem?, this, Option.getD_none]
theorem Upto.step {n k : Nat} {listed : Array Bool} (h : Upto n listed k) (hk : k < n) : Upto n (listed.setIfInBounds k true) (k + 1) := by
  refine ⟨by simpa using h.1, fun j hj => ?_⟩
  by_cases e : k = j
  · subst e; rw [Array.getElem?_setIfInBounds_self_of_lt (by rw [h.1]; exact hk)]; simp
  · rw [Array.getElem?_setIfInBounds_ne e, h.2 j hj]
    have : (j < k) ↔ (j < k + 1) := by omega
    simp [this]

theorem noDst_spec {t : Nat} : ∀ {l : List Oper}, noDst t l = true → ∀ o ∈ l, o.dst ≠ some t
  | [], _, o, ho => by cases ho
  | x :: l, h, o, ho => by
    simp only [noDst] at h
    rcases List.mem_cons.1 ho with rfl | ho
    · split at h
      · rename_i d hd
        split at h
        · cases h
        · rename_i hb; rw [hd]; intro e; injection e with e; subst e; simp [nbeq] at hb
      · rename_i hd; rw [hd]; intro e; cases e
    · split at h
      · split at h
        · cases h
        · exact noDst_spec h o ho
      · exact noDst_spec h o ho
theorem runD_nth {D : List (Nat × Bool)} {t : Nat} : ∀ {l : List Oper} {i fresh : Nat} {env env' : List AV} {H H' : Heap} {ps ps' : List Ob}, runD P hk ops D l i fresh env H ps = some (env', H', ps') → (∀ o ∈ l, o.dst ≠ some t) → nth env' t = nth env t
  | [], _, _, _, _, _, _, _, _, h, _ => by injection h with h; injection h with h _; rw [h]
  | o :: l, i, fresh, env, env', H, H', ps, ps', h, hn => by
    simp only [runD] at h
    split at h
    · rw [runD_nth h (fun q hq => hn q (by simp [hq])), nth_put fun d hd e => hn o (by simp) (by rw [hd, e])]
    · cases h
theorem aliasB_spec {env : List AV} {rest : List Oper} {x y : Oper} (h : aliasB ops env rest x y = true) : ∃ ty p ty' t z, x.op = .load ty (.tmp p) ∧ y.op = .store ty' (.tmp t) z ∧ awayA (nth env p) (nth env t) = true ∧ (∀ o ∈ rest, o.dst ≠ some p) ∧ (∀ o ∈ ops.toList, o.dst ≠ some t) ∧ x.apart ops y = true := by
  unfold aliasB at h
  split at h
  · rename_i ty p ty' t z hx hy
    simp only [Bool.and_eq_true] at h
    exact ⟨ty, p, ty', t, z, hx, hy, h.1.1.1, noDst_spec h.1.1.2, noDst_spec h.1.2, h.2⟩
  · cases h

theorem onE_spec {m : Nat} : ∀ {es : List Edge}, onE m es = true → ∃ e ∈ es, Region.binds .any e = true ∧ e.on = m
  | [], h => by cases h
  | e :: l, h => by
    simp only [onE] at h
    split at h
    · rename_i h1
      simp only [Bool.and_eq_true] at h1
      exact ⟨e, by simp, h1.2, Nat.eq_of_beq_eq_true h1.1⟩
    · obtain ⟨e', h1, h2⟩ := onE_spec h
      exact ⟨e', by simp [h1], h2⟩
theorem predsB_spec {t : Nat} {es : List Edge} : ∀ {l : List Oper} {m : Nat}, predsB t es l m = true → ∀ k o, l[k]? = some o → o.dst = some t → ∃ e ∈ es, Region.binds .any e = true ∧ e.on = m + k
  | [], _, _, _, _, h, _ => by simp at h
  | x :: l, m, h, k, o, hk, hd => by
    simp only [predsB] at h
    cases k with
    | zero =>
      simp at hk; subst hk
      rw [hd] at h
      simp only [nbeq, decide_true] at h
      split at h
      · rename_i h1; exact onE_spec h1
      · cases h
    | succ k =>
      have hrec : predsB t es l (m + 1) = true := by
        split at h
        · split at h
          · split at h
            · exact h
            · cases h
          · exact h
        · exact h
      obtain ⟨e, h1, h2, h3⟩ := predsB_spec hrec k o (by simpa using hk) hd
      exact ⟨e, h1, h2, by omega⟩
theorem aliasL_spec {env : List AV} {us : List Nat} {x y : Oper} (h : aliasL ops env us x y = true) : AwayL ops env us x y := by
  unfold aliasL at h
  split at h
  · rename_i ty p hy
    split at h
    · rename_i id hid
      simp only [Bool.and_eq_true, Bool.not_eq_true'] at h
      refine ⟨ty, p, id, hy, hid, fun hm => ?_, fun m o ho hd => ?_, h.2⟩
      · rw [(hasN_iff us id).2 hm] at h; exact absurd h.1.1 (by simp)
      · obtain ⟨e, h1, h2, h3⟩ := predsB_spec h.1.2 m o (by simpa using ho) hd
        exact ⟨e, by simpa using h1, h2, by omega⟩
    · cases h
  · cases h

theorem AAny_lex (hCT : HookOK P hk) {D : List (Nat × Bool)} {base : Nat} {b : List Nat} {env1 : List AV} {us : List (List Nat)} (L : Lexed hk ops env1 us b) (hs : ∀ (j : Nat) (o : Oper), ops[j]? = some o → notSel o.op = true)
    {H1 : Heap} {ps1 : List Ob} (hps : AllP ps1) : ∀ (l : List Oper) (k : Nat) (listed : Array Bool) (env : List AV) (H : Heap) (ps : List Ob),
    (∀ j, l[j]? = ops[k + j]?) → k + l.length = ops.size → Upto ops.size listed k → Inh env H → FreshI ops base listed H →
    runD P hk ops D l k (base + 4 * k) env H ps = some (env1, H1, ps1) → us.drop k = updsD P hk ops D l k (base + 4 * k) env H → AAny P hk ops D base (fun e h => e = env1 ∧ h = H1) l.length listed env H
  | [], k, listed, env, H, ps, hl, hn, hU, hI, hF, h, _ => by
    injection h with h; injection h with h1 h; injection h with h2 h3
    refine ⟨List.eq_nil_iff_forall_not_mem.2 fun j hj => ?_, h1, h2⟩
    have h4 := (mem_ready.1 hj).1
    have h5 := ready_lt hj
    rw [hU.f true, if_pos h5] at h4
    simp at hn
    simp at h4
    omega
  | o :: l, k, listed, env, H, ps, hl, hn, hU, hI, hF, h, hus => by
    have h0 : ops[k]? = some o := by simpa using (hl 0).symm
    have hrun0 := h
    have hkn : k < ops.size := (Array.getElem?_eq_some_iff.1 h0).1
    simp only [runD] at h
    split at h
    · rename_i v u qs hst
      have hq := (AllP.app.1 (runD_ps h hps)).1
      have hun : listed.getD k true = false := by rw [hU.f true, if_pos hkn]; simp
      obtain ⟨E, w, a, hR⟩ := hI
      obtain ⟨hI', hd⟩ := stepV_inh hCT hst hq hR (hF.1 k hun)
      have hrest := AAny_lex hCT L hs hps l (k + 1) (listed.setIfInBounds k true) _ _ _ (fun j => by have := hl (j + 1); simpa [Nat.add_assoc, Nat.add_comm 1 j] using this) (by simp at hn; omega)
        (hU.step hkn) hI' (hF.step hkn hd) (by rw [show base + 4 * (k + 1) = base + 4 * k + 4 by omega]; exact h)
        (by
          simp only [updsD, hst] at hus
          have e : us.drop (k + 1) = (us.drop k).drop 1 := by simp [List.drop_drop, Nat.add_comm]
          rw [e, hus, show base + 4 * (k + 1) = base + 4 * k + 4 by omega]; rfl)
      have huk : us.drop k = (u.map fun z => z.1) :: updsD P hk ops D l (k + 1) (base + 4 * k + 4) (putEnv env o.dst v) (puts H u) := by
        rw [hus]; simp only [updsD, hst]
      refine AAny_first (W := waitsOn b) (env1 := env1) hCT (fun e h hh => hh.1) h0 (fun j oj hoj hw => L.chain j oj k hoj hkn hw) hq l.length listed env H (fun j hw => ?_) (fun j oj hoj hne hun' hnw => ?_) ?_ ⟨E, w, a, hR⟩ hF hst hrest
      · rw [hU.f false]
        split
        · rename_i hj
          have := L.lt hkn (j + 1) j (by omega) hj hw
          simp; omega
        · rfl
      · have hj := (Array.getElem?_eq_some_iff.1 hoj).1
        rw [hU.f true, if_pos hj] at hun'
        simp at hun'
        rcases L.lex k o j oj h0 (by omega) hoj with ((h | h) | h9) | ⟨_, h9⟩
        · rw [hnw] at h; cases h
        · exact .inl (.inl h)
        · obtain ⟨ty, p, ty', t, z, hx, hy, haw, hn1, hn2, hap⟩ := aliasB_spec h9
          refine .inl (.inr ⟨ty, p, ty', t, z, hx, hy, ?_, hn2, hap⟩)
          have hdrop : ops.toList.drop k = o :: l := by
            apply List.ext_getElem?
            intro m
            rw [List.getElem?_drop, hl m]
            simp
          rw [hdrop] at hn1
          rw [← runD_nth hrun0 hn1, ← runD_nth hrun0 (fun q hq => hn2 q (by
            have : q ∈ ops.toList.drop k := by rw [hdrop]; exact hq
            exact List.mem_of_mem_drop this))]
          exact haw
        · rw [huk] at h9
          exact .inr (aliasL_spec h9)
      · exact mem_ready.2 ⟨hun, o, h0, fun e he hb => by
          have := L.back k o h0 e he hb
          rw [hU.f false, if_pos (by omega)]; simp [this]⟩
    · cases h

theorem RelE.drawn {env : List AV} {H : Heap} {E : Emb} {w : World} {a : Act} (h : RelE env H E w a) (n : Nat) : RelE env H E { w with drawn := n } a ∧ Ext H E w H E { w with drawn := n } := by
  obtain ⟨x, hh⟩ := h.heap.grow (w' := { w with drawn := n }) rfl rfl rfl (Nat.le_refl _) (fun _ _ => rfl)
  exact ⟨⟨h.len, fun k hk => (h.val k hk).ext x, h.defers, hh⟩, x⟩

theorem backAll_notSel : ∀ {l : List Oper} {i : Nat}, backAll l i = true → ∀ (k : Nat) o, l[k]? = some o → notSel o.op = true
  | [], _, _, _, _, h => by simp at h
  | x :: l, i, h, k, o, hk => by
    simp only [backAll] at h
    split at h
    · rename_i h1 h2
      cases k with
      | zero => simp at hk; subst hk; exact h2
      | succ k => exact backAll_notSel h k o (by simpa using hk)
    · cases h

/-- **A region, whatever its order.** -/
theorem region_wp (hCT : HookOK P hk) (hm : P.follows .mixedOrders = true) {id : Nat} {draw : Bool} {next : Nat} {env env' : List AV} {H H' : Heap} {bs bs' : List Bool} {ps ps' : List Ob} {E : Emb} {w : World} {a : Act} {Q : Exit → Act → World → Prop}
    (h : regionA P hk ops draw next env H bs ps = some (env', H', bs', ps')) (hps : AllP ps') (hR : RelE env H E w a) (hf : ∀ k, next ≤ k → get H k = none)
    (hQ : ∀ E' w' a', RelE env' H' E' w' a' → Ext H E w H' E' w' → (∀ k, next + 4 * ops.size ≤ k → get H' k = none) → Q .normal a' w') : (Code.region id ops draw).wp P Q a w := by
  unfold regionA at h
  split at h
  · cases h
  · rename_i D bs1 _
    split at h
    · cases h
    · rename_i env1 H1 ps1 hr
      cases draw with
      | false =>
        injection h with h; injection h with h1 h; injection h with h2 h; injection h with _ h3
        subst h1 h2 h3
        exact wp_region_list (runD_wp hCT hr hps hR hf fun E' w' a' h4 h5 h6 => hQ E' w' a' h4 h5 (by simpa using h6))
      | true =>
        simp only at h
        split at h
        · rename_i hd
          injection h with h; injection h with h1 h; injection h with h2 h; injection h with _ h3
          subst h1 h2 h3
          obtain ⟨hR1, hX1⟩ := hR.drawn (w.drawn + 1)
          have hF : FreshI ops next (Array.replicate ops.size false) H := ⟨fun i _ k _ => hf _ (by omega), fun k hk => hf _ (by omega)⟩
          have hb : backAll ops.toList 0 = true := by
            unfold drawOk at hd
            split at hd
            · cases hd
            · assumption
          refine wp_region_any hm (AAny_wp (hk := hk) (D := D) (fin := fun e h => e = env1 ∧ h = H1) (H0 := H) (E0 := E) (w0 := w) hCT (fun env2 H2 E2 w2 a2 hfin hR2 hX2 hf2 => by
            obtain ⟨rfl, rfl⟩ := hfin
            exact hQ E2 w2 a2 hR2 hX2 hf2) ops.size _ env H E _ a hR1 hX1 hF ?_)
          have := AAny_lex (base := next) hCT (drawOk_spec hd) (fun j o ho => backAll_notSel hb j o (by simpa using ho)) hps ops.toList 0 (Array.replicate ops.size false) env H ps (by simp) (by simp)
            ⟨by simp, fun j hj => by simp [hj]⟩ ⟨E, _, a, hR1⟩ hF (by simpa using hr) (by simp)
          simpa using this
        · cases h
end
end Go.AI
