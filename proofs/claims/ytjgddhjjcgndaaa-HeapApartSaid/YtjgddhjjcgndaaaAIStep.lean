import Derived.Test.YtjgddhjjcgndaaaAICall
import Derived.Laws.Externs
/- Each operation of the table, in the machine's own words. -/
set_option linter.unusedVariables false
set_option linter.unusedSimpArgs false
namespace Go.AI
section
variable {P : Program} {H : Heap} {E : Emb} {w : World} {fresh : Nat} {hk : Hook}

def VRs (H : Heap) (E : Emb) (w : World) (l : List AV) (vs : List Value) : Prop := l.length = vs.length ∧ ∀ k, k < l.length → VR H E w (nth l k) (vs.getD k undef)

theorem VRs.app {a b : List AV} {x y : List Value} (h : VRs H E w a x) (h' : VRs H E w b y) : VRs H E w (a ++ b) (x ++ y) := by
  refine ⟨by simp [h.1, h'.1], fun k hk => ?_⟩
  rw [nth_append]
  split
  · rename_i hlt
    have := h.2 k hlt
    simpa [List.getD, List.getElem?_append_left (show k < x.length by rw [← h.1]; exact hlt)] using this
  · rename_i hge
    have := h'.2 (k - a.length) (by simp at hk; omega)
    rw [h.1] at this
    simpa [List.getD, List.getElem?_append_right (show x.length ≤ k by rw [← h.1]; omega), h.1] using this
theorem VRs.map {α : Type} (l : List α) (f : α → AV) (g : α → Value) (h : ∀ x ∈ l, VR H E w (f x) (g x)) : VRs H E w (l.map f) (l.map g) := by
  refine ⟨by simp, fun k hk => ?_⟩
  have hk' : k < l.length := by simpa using hk
  rw [nth_eq]
  simp only [List.getD, List.getElem?_map, List.getElem?_eq_getElem hk', Option.map_some, Option.getD_some]
  exact h _ (List.getElem_mem hk')

theorem vals_some {l : List AV} {x vs : List Value} (h : VRs H E w l x) (hv : vals? l = some vs) : vs = x := by
  induction l generalizing x vs with
  | nil => injection hv with hv; subst hv; cases x with | nil => rfl | cons => exact absurd h.1 (by simp)
  | cons a l ih =>
    cases x with
    | nil => exact absurd h.1 (by simp)
    | cons u x =>
      simp only [vals?] at hv
      split at hv
      · rename_i v vs' h1 h2
        injection hv with hv
        subst hv
        have h0 := h.2 0 (by simp)
        simp only [nth, List.getD_cons_zero] at h0
        have : v = u := by
          unfold AV.val? at h1
          split at h1
          · injection h1 with h1; subst h1; exact h0.sc_.symm
          · split at h1
            · rename_i vs'' hsc
              injection h1 with h1
              subst h1
              cases h0 with
              | agg _ va hl hva => rw [scs_some hl hva hsc]
            · cases h1
          · cases h1
        subst this
        rw [ih ⟨by simpa using h.1, fun k hk => by have := h.2 (k + 1) (by simpa using hk); simpa [nth] using this⟩ h2]
      · cases hv

theorem lenA_gives {t ty : TypeId} {ts : Array TypeId} {x : AV} {vx : Value} {r : Res} (h : HOk H E w) (ht : ts[0]? = some t) (hx : VR H E w x vx) (hr : lenA P H t x = some r) : Gives P H E w fresh (Builtin.len_ ts ty #[vx]) r := by
  unfold lenA at hr
  split at hr
  · rename_i s hu
    injection hr with hr; subst hr
    obtain rfl := hx.sc_
    exact .same (v := .int .i64 s.size) h (by simp [Builtin.len_, ht, run_underlying hu, goInt]) (.i _ _ (.sc _ rfl))
  · rename_i e n sz f hu
    injection hr with hr; subst hr
    cases hx with
    | i _ _ hv => cases hv with
      | sv => exact .same (v := .int .i64 n) h (by simp [Builtin.len_, ht, run_underlying hu, goInt]) (.i _ _ (.sc _ rfl))
  · rename_i e id ver sz lo n hu
    injection hr with hr; subst hr
    cases hx with
    | row _ _ _ _ _ v0 _ hv hsh hc =>
      obtain ⟨A, c, rfl, _, _⟩ := hsh
      exact .same (v := .int .i64 n) h (by simp [Builtin.len_, ht, run_underlying hu, goInt]) (.i _ _ (.sc _ rfl))
  · rename_i e id off n cap hu
    injection hr with hr; subst hr
    cases hx with
    | sl => exact .same (v := .int .i64 n) h (by simp [Builtin.len_, ht, run_underlying hu, goInt]) (.i _ _ (.sc _ rfl))
  · rename_i e hu
    injection hr with hr; subst hr
    obtain rfl := hx.sc_
    exact .same (v := .int .i64 0) h (by simp [Builtin.len_, ht, run_underlying hu, goInt]) (.i _ _ (.sc _ rfl))
  · rename_i k e id hu
    split at hr
    · rename_i u ks g ho
      injection hr with hr; subst hr
      cases hx with
      | mp _ q hq =>
        obtain ⟨b, es, clock, h6, h7, h8, h9⟩ := h.obj id _ ho
        rw [hq] at h6; injection h6 with h6; subst h6
        have hgo : (getObj q).run P w = .ok (.map es clock) w := by simp [getObj, Sem.run, h8]
        have hes : es.size = ks.length := by rw [← Array.length_toList, h9.list, mkEs_length]
        exact .same (v := .int .i64 ks.length) h (by simp [Builtin.len_, ht, run_underlying hu, goInt, hgo, hes]) (.i _ _ (.sc _ rfl))
    · cases hr
  · rename_i n e hu
    injection hr with hr; subst hr
    exact .same (v := .int .i64 n) h (by cases vx <;> simp [Builtin.len_, ht, run_underlying hu, goInt]) (.i _ _ (.sc _ rfl))
  · cases hr

theorem builtinA_gives {b : Builtin} {ts : Array TypeId} {ty : TypeId} {args : List AV} {vs : List Value} {cs : Array Bool} {r : Res} (h : HOk H E w) (hf : get H fresh = none) (hv : VRs H E w args vs) (hr : builtinA P b ts ty H args fresh = some r) (hps : AllP r.ps) :
    ∃ v w', (builtin b ts ty cs vs.toArray).run P w = .ok (.value v) w' ∧ Post H E w fresh r v w' := by
  have len1 : ∀ {x : AV}, args = [x] → ∃ u, vs = [u] ∧ VR H E w x u := fun {x} e => by
    subst e
    match vs, hv with
    | [u], hv => exact ⟨u, rfl, hv.2 0 (by simp)⟩
    | [], hv => exact absurd hv.1 (by simp)
    | _ :: _ :: _, hv => exact absurd hv.1 (by simp)
  have sca : ∀ {s : Array Value → Sem Value} {us : List Value}, vals? args = some us → scalarA P (s us.toArray) = some r → (∀ a : Array Value, (builtin b ts ty cs a).run P w = ((s a).run P w).andThen fun v w' => .ok (.value v) w') →
      ∃ v w', (builtin b ts ty cs vs.toArray).run P w = .ok (.value v) w' ∧ Post H E w fresh r v w' := fun {s us} hus hsc hrun => by
    have := vals_some hv hus
    subst this
    obtain ⟨v, w', h1, h2⟩ := scalarA_gives (w := w) (fresh := fresh) h hsc
    exact ⟨v, w', by rw [hrun, h1]; rfl, h2⟩
  unfold builtinA at hr
  split at hr
  · rename_i x
    obtain ⟨u, rfl, hu⟩ := len1 rfl
    split at hr
    · rename_i t ht
      obtain ⟨v, w', h1, h2⟩ := lenA_gives (ty := ty) (w := w) (fresh := fresh) h ht hu hr
      exact ⟨v, w', by simp only [builtin, Sem.run_bind, h1, Result.andThen_ok, Sem.run_pure], h2⟩
    · cases hr
  · rename_i s x
    match vs, hv with
    | [u, v], hv =>
      have h0 := hv.2 0 (by simp)
      have h1 := hv.2 1 (by simp)
      split at hr
      · rename_i a b' hts
        simp only [nbeq] at hr
        by_cases e : a = b'
        case neg => simp [e] at hr
        subst e
        simp only [decide_true] at hr
        obtain ⟨q, w', h2, h3⟩ := appendA_gives (ty := ty) (w := w) (fresh := fresh) h hf h0 h1 hr hps
        have : ts = #[a, a] := by rw [← Array.toArray_toList (xs := ts), hts]
        subst this
        exact ⟨q, w', by simp only [builtin, Sem.run_bind]; rw [show (Builtin.append_ #[a, a] ty [u, v].toArray).run P w = .ok q w' from h2]; rfl, h3⟩
      · cases hr
    | [], hv => exact absurd hv.1 (by simp)
    | [_], hv => exact absurd hv.1 (by simp)
    | _ :: _ :: _ :: _, hv => exact absurd hv.1 (by simp)
  · split at hr
    · rename_i us hus; exact sca (s := Builtin.min_ ts ty) hus hr (fun a => by simp only [builtin, Sem.run_bind, Sem.run_pure])
    · cases hr
  · split at hr
    · rename_i us hus; exact sca (s := Builtin.max_ ts ty) hus hr (fun a => by simp only [builtin, Sem.run_bind, Sem.run_pure])
    · cases hr
  · split at hr
    · rename_i us hus; exact sca (s := Builtin.complex_ ts ty) hus hr (fun a => by simp only [builtin, Sem.run_bind, Sem.run_pure])
    · cases hr
  · split at hr
    · rename_i us hus; exact sca (s := Builtin.real_ ts ty) hus hr (fun a => by simp only [builtin, Sem.run_bind, Sem.run_pure])
    · cases hr
  · split at hr
    · rename_i us hus; exact sca (s := Builtin.imag_ ts ty) hus hr (fun a => by simp only [builtin, Sem.run_bind, Sem.run_pure])
    · cases hr
  · cases hr

theorem wp_value {o : Oper} {a : Act} {v : Value} {w' : World} {next : Act → World → Prop} {Q : Exit → Act → World → Prop} (h : (execOp a.eval o).run P w = .ok (.value v) w') (hn : next (a.put o.dst v) w') : o.wp P a w next Q := by
  unfold Oper.wp
  rw [h]
  exact hn
theorem wp_skip_ {o : Oper} {a : Act} {w' : World} {next : Act → World → Prop} {Q : Exit → Act → World → Prop} (h : (execOp a.eval o).run P w = .ok .skip w') (hn : next (a.put o.dst undef) w') : o.wp P a w next Q := by
  unfold Oper.wp
  rw [h]
  exact hn
theorem gives_wp {o : Oper} {a : Act} {s : Sem Value} {r : Res} {next : Act → World → Prop} {Q : Exit → Act → World → Prop} (hg : Gives P H E w fresh s r) (he : execOp a.eval o = (do pure (.value (← s)))) (hn : ∀ v w', Post H E w fresh r v w' → next (a.put o.dst v) w') : o.wp P a w next Q := by
  obtain ⟨v, w', h1, h2⟩ := hg
  exact wp_value (by rw [he]; simp only [Sem.run_bind, h1, Result.andThen_ok, Sem.run_pure]) (hn v w' h2)
theorem gives0_wp {o : Oper} {a : Act} {s : Sem Unit} {r : Res} {next : Act → World → Prop} {Q : Exit → Act → World → Prop} (hg : Gives0 P H E w fresh s r) (he : execOp a.eval o = (do s; pure .skip)) (hn : ∀ v w', Post H E w fresh r v w' → next (a.put o.dst v) w') : o.wp P a w next Q := by
  obtain ⟨w', h1, h2⟩ := hg
  exact wp_skip_ (by rw [he]; simp only [Sem.run_bind, h1, Result.andThen_ok, Sem.run_pure]) (hn undef w' h2)

theorem callFunc_run {g : FuncId} {args : Array Value} (h : okF P g = true) (w : World) : (callFunc g args).run P w = .ok (.enter g args) w := by
  unfold okF at h
  split at h
  · rename_i fn hf
    split at h
    · rename_i b hb
      have hn : ¬ (fn.name == "runtime.NumGoroutine") = true := by simpa using h
      unfold callFunc
      simp only [Sem.run_bind, run_program, Result.andThen_ok, hf, if_neg hn, hb, Option.isNone_some, Bool.false_eq_true, if_false]
      rfl
    · cases h
  · cases h

theorem OptVR.map_ {ρ : Operand → AV} {σ : Operand → Value} (h : ∀ x, VR H E w (ρ x) (σ x)) (o : Option Operand) : OptVR H E w (o.map ρ) (o.map σ) := by
  cases o with
  | none => trivial
  | some x => exact h x
theorem PartsVR.map_ {ρ : Operand → AV} {σ : Operand → Value} (h : ∀ x, VR H E w (ρ x) (σ x)) : ∀ (l : List (Nat × Operand)), PartsVR H E w (l.map fun p => (p.1, ρ p.2)) (l.map fun p => (p.1, σ p.2))
  | [] => trivial
  | p :: l => ⟨⟨rfl, h p.2⟩, PartsVR.map_ h l⟩

theorem call_wp (hCT : HookOK P hk) {o : Oper} {a : Act} {c : Call} {f : Operand} {g : FuncId} {first cap : List AV} {x y : Array Value} {ρ : Operand → AV} {r : Res} {next : Act → World → Prop} {Q : Exit → Act → World → Prop}
    (h : HOk H E w) (hρ : ∀ x, VR H E w (ρ x) (a.eval x)) (hfr : ∀ k, k < 4 → get H (fresh + k) = none) (hop : o.op = .call c) (hc : c.callee = .value f) (hf : a.eval f = .func (.func g) x y) (h1 : VRs H E w first x.toList) (h2 : VRs H E w cap y.toList)
    (hok : okF P g = true) (hr : callA hk H g (first ++ c.args.toList.map ρ ++ cap) fresh = some r) (hps : AllP r.ps) (hn : ∀ v w', Post H E w fresh r v w' → next (a.put o.dst v) w') : o.wp P a w next Q := by
  have hv := (h1.app (VRs.map c.args.toList ρ a.eval fun x _ => hρ x)).app h2
  have hcall := callA_calls (P := P) (vs := x ++ c.args.map a.eval ++ y) hCT h (by rw [hv.1]; simp) (fun k hk => by
    have e : x ++ c.args.map a.eval ++ y = (x.toList ++ c.args.toList.map a.eval ++ y.toList).toArray := by simp
    rw [e, getD_ofList]
    exact hv.2 k hk) hfr hr hps
  unfold Oper.wp
  have he : (execOp a.eval o).run P w = .ok (.enter g (x ++ c.args.map a.eval ++ y)) w := by
    simp only [execOp, hop, resolve, hc, hf, Deferred.ofValue, Sem.run_bind, Sem.run_pure, Result.andThen_ok, invoke]
    exact callFunc_run hok w
  rw [he, Oper.upon_enter]
  exact hcall.mono fun e w' ⟨v, he, hp⟩ => by subst he; exact hn v w' hp

set_option maxHeartbeats 1000000 in
theorem opA_wp (hCT : HookOK P hk) {o : Oper} {a : Act} {ρ : Operand → AV} {r : Res} {next : Act → World → Prop} {Q : Exit → Act → World → Prop}
    (h : HOk H E w) (hρ : ∀ x, VR H E w (ρ x) (a.eval x)) (hfr : ∀ k, k < 4 → get H (fresh + k) = none) (hr : opA P hk ρ o H fresh = some r) (hps : AllP r.ps)
    (hn : ∀ v w', Post H E w fresh r v w' → next (a.put o.dst v) w') : o.wp P a w next Q := by
  have hf0 : get H fresh = none := hfr 0 (by omega)
  unfold opA at hr
  split at hr
  all_goals rename_i hop
  · injection hr with hr; subst hr
    exact wp_value (by simp [execOp, hop]) (hn _ _ (.same h (hρ _)))
  · injection hr with hr; subst hr
    exact wp_value (by simp [execOp, hop]) (hn _ _ (.same h (hρ _)))
  · rename_i c x y
    have hb : ∀ d, boolOf? (ρ c) = some d → a.eval c = .bool d := fun d hd => by
      have := hρ c
      unfold boolOf? at hd
      split at hd
      · rename_i e; injection hd with hd; subst hd; rw [e] at this; exact this.sc_
      · cases hd
    split at hr
    · rename_i hd
      injection hr with hr; subst hr
      exact wp_value (by simp [execOp, hop, hb _ hd, asBool]) (hn _ _ (.same h (hρ _)))
    · rename_i hd
      injection hr with hr; subst hr
      exact wp_value (by simp [execOp, hop, hb _ hd, asBool]) (hn _ _ (.same h (hρ _)))
    · cases hr
  · split at hr
    · rename_i z hz
      injection hr with hr; subst hr
      exact gives_wp (allocA_gives h hf0 hz) (by simp only [execOp, hop]) hn
    · cases hr
  · split at hr
    · rename_i ho
      injection hr with hr; subst hr
      exact gives_wp (boxA_gives h hf0 (hρ _) ho) (by simp only [execOp, hop]) hn
    · cases hr
  · rename_i t parts
    exact gives_wp (buildA_gives (vparts := parts.map fun p => (p.1, a.eval p.2)) h (by rw [Array.toList_map]; exact PartsVR.map_ hρ parts.toList) hr) (by simp only [execOp, hop]) hn
  · rename_i t len parts
    exact gives_wp (buildSliceA_gives (vparts := parts.map fun p => (p.1, a.eval p.2)) h hf0 (by rw [Array.toList_map]; exact PartsVR.map_ hρ parts.toList) hr) (by simp only [execOp, hop]) hn
  · exact gives_wp (loadA_gives h (hρ _) hr hps) (by simp only [execOp, hop]) hn
  · exact gives0_wp (storeA_gives h (hρ _) (hρ _) hr hps hfr) (by simp only [execOp, hop]) hn
  · obtain ⟨h1, rfl⟩ := nilCheckA_run (P := P) (ρ := a.eval) hop rfl (hρ _) hr
    exact wp_value h1 (hn _ _ (.same h (hρ _)))
  · exact gives_wp (binA_gives h (hρ _) (hρ _) hr hps) (by simp only [execOp, hop]) hn
  · rename_i op t x
    split at hr
    · rename_i v hv
      have hx : a.eval x = v := by
        have := hρ x
        unfold AV.sc? at hv
        split at hv
        · rename_i e; injection hv with hv; subst hv; rw [e] at this; exact this.sc_
        · cases hv
      exact gives_wp (scalarA_gives h hr) (by simp only [execOp, hop, hx]) hn
    · cases hr
  · exact gives_wp (convA_gives h (hρ _) hr hps) (by simp only [execOp, hop]) hn
  · rename_i fn first cap
    injection hr with hr; subst hr
    have h1 := VRs.map (H := H) (E := E) (w := w) first.toList ρ a.eval fun x _ => hρ x
    have h2 := VRs.map (H := H) (E := E) (w := w) cap.toList ρ a.eval fun x _ => hρ x
    refine wp_value (v := .func fn (first.map a.eval) (cap.map a.eval)) (by simp [execOp, hop, Instr.makeFunc]) (hn _ _ (.same h (.clo _ _ _ _ _ (by simp) (by simp) (fun k hk => ?_) fun k hk => ?_)))
    · have e : first.map a.eval = (first.toList.map a.eval).toArray := by rw [← Array.toList_map, Array.toArray_toList]
      rw [e, getD_ofList]
      exact h1.2 k hk
    · have e : cap.map a.eval = (cap.toList.map a.eval).toArray := by rw [← Array.toList_map, Array.toArray_toList]
      rw [e, getD_ofList]
      exact h2.2 k hk
  · rename_i t
    split at hr
    · rename_i hm
      injection hr with hr; subst hr
      have hnb := h.newBlk (w' := w.alloc (.map #[] 0)) fresh (.smap t [] fun _ => 0) hf0 trivial rfl rfl rfl (alloc_size _ _) (fun g hg => heap_alloc_old w _ g hg)
        (fun _ => ⟨w.heap.size, #[], 0, by simp [Emb.newBlk], by simp [Emb.newBlk], heap_alloc_new w _, ⟨rfl, rfl, by simp, fun _ _ => rfl⟩⟩)
      refine wp_value (v := .map (some w.heap.size)) (w' := w.alloc (.map #[] 0)) (by simp [execOp, hop, Instr.makeMap]) (hn _ _ ⟨⟨_, hnb.2, .mp _ _ (by simp [Emb.newBlk]), hnb.1⟩, fun k hk hg => dom_put k hk hg⟩)
    · cases hr
  · exact gives_wp (makeSliceA_gives h hf0 (hρ _) (hρ _) hr hps) (by simp only [execOp, hop]) hn
  · exact gives_wp (sliceA_gives h (hρ _) (OptVR.map_ hρ _) (OptVR.map_ hρ _) (OptVR.map_ hρ _) hr hps) (by simp only [execOp, hop]) hn
  · exact gives_wp (fieldAddrA_gives h (hρ _) hr) (by simp only [execOp, hop]) hn
  · exact gives_wp (fieldA_gives h (hρ _) hr) (by simp only [execOp, hop]) hn
  · exact gives_wp (indexAddrA_gives h (hρ _) (hρ _) hr hps) (by simp only [execOp, hop]) hn
  · exact gives_wp (indexA_gives h (hρ _) (hρ _) hr hps) (by simp only [execOp, hop]) hn
  · exact gives_wp (lookupA_gives h (hρ _) (hρ _) hr) (by simp only [execOp, hop]) hn
  · exact gives0_wp (mapUpdateA_gives h (hρ _) (hρ _) (hρ _) hr) (by simp only [execOp, hop]) hn
  · exact gives_wp (mapEntryA_gives h (hρ _) (hρ _) hr) (by simp only [execOp, hop]) hn
  · exact gives0_wp (entryStoreA_gives (t := 0) h (hρ _) (hρ _) (hρ _) hr hps) (by simp only [execOp, hop]; rfl) hn
  · rename_i t k
    split at hr
    · rename_i vs ht
      split at hr
      · rename_i v hv
        injection hr with hr; subst hr
        have := hρ t
        rw [ht] at this
        generalize hu : a.eval t = u at this
        cases this with
        | tup _ us hl hus =>
          have hk : k < vs.length := (List.getElem?_eq_some_iff.1 hv).1
          have hnv : nth vs k = v := by rw [nth_eq, List.getD, hv]; rfl
          have := hus k hk
          rw [hnv] at this
          refine wp_value (v := us.getD k undef) (w' := w) ?_ (hn _ _ (.same h this))
          simp [execOp, hop, hu, Instr.extract, Array.getD, show k < us.size by omega]
      · cases hr
    · cases hr
  · rename_i c
    split at hr
    · rename_i b hc
      have hv := VRs.map (H := H) (E := E) (w := w) c.args.toList ρ a.eval fun x _ => hρ x
      obtain ⟨v, w', h1, h2⟩ := builtinA_gives (cs := c.args.map fun | .const _ => true | _ => false) h hf0 hv hr hps
      refine wp_value ?_ (hn v w' h2)
      simp only [execOp, hop, resolve, hc, Sem.run_bind, Sem.run_pure, Result.andThen_ok, invoke]
      have e : c.args.map a.eval = (c.args.toList.map a.eval).toArray := by rw [← Array.toList_map, Array.toArray_toList]
      rw [e]
      exact h1
    · rename_i f hc
      split at hr
      · rename_i g first cap hf
        split at hr
        · rename_i hok
          have := hρ f
          rw [hf] at this
          generalize hfe : a.eval f = u at this
          cases this with
          | clo _ _ _ x y ha hb h1 h2 =>
            exact call_wp hCT h hρ hfr hop hc hfe ⟨by simpa using ha, fun k hk => by rw [← getD_ofList, Array.toArray_toList]; exact h1 k hk⟩ ⟨by simpa using hb, fun k hk => by rw [← getD_ofList, Array.toArray_toList]; exact h2 k hk⟩ hok hr hps hn
        · cases hr
      · rename_i g first cap hf
        split at hr
        · rename_i hok
          have := hρ f
          rw [hf] at this
          have hfe := this.sc_
          refine call_wp hCT h hρ hfr hop hc hfe ?_ ?_ hok hr hps hn
          · have := VRs.map (H := H) (E := E) (w := w) first.toList constV id fun x _ => constV_VR x
            simpa using this
          · have := VRs.map (H := H) (E := E) (w := w) cap.toList constV id fun x _ => constV_VR x
            simpa using this
        · split at hr
          · rename_i vs hvs
            split at hr
            · rename_i v ps hex
              injection hr with hr; subst hr
              obtain ⟨fn, e, hfn, hname, hb, hnx, hfd, hone, hrun⟩ := hCT.ext g vs v ps hex hps
              have := hρ f
              rw [hf] at this
              have hfe := this.sc_
              have h1 := VRs.map (H := H) (E := E) (w := w) first.toList constV id fun x _ => constV_VR x
              have h2 := VRs.map (H := H) (E := E) (w := w) cap.toList constV id fun x _ => constV_VR x
              have h3 := VRs.map (H := H) (E := E) (w := w) c.args.toList ρ a.eval fun x _ => hρ x
              have hv := vals_some ((h1.app h3).app h2) hvs
              have e2 : vs.toArray = first ++ c.args.map a.eval ++ cap := by rw [hv]; simp
              refine wp_value ?_ (hn v w (.same h (.i _ _ (.sc v hone))))
              simp only [execOp, hop, resolve, hc, hfe, Deferred.ofValue, Sem.run_bind, Sem.run_pure, Result.andThen_ok, invoke]
              rw [run_callFunc_extern hfn hname hb hnx hfd, ← e2, hrun]
              rfl
            · cases hr
          · cases hr
      · cases hr
    · cases hr
  · cases hr
end
end Go.AI
