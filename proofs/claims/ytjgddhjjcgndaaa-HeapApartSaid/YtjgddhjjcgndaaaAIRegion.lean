import Derived.Test.YtjgddhjjcgndaaaAIStep
import Derived.Deep.Quiet
/- Regions: in the text's order, and in any. -/
set_option linter.unusedVariables false
set_option linter.unusedSimpArgs false
namespace Go.AI

structure RelE (env : List AV) (H : Heap) (E : Emb) (w : World) (a : Act) : Prop where
  len : env.length = a.tmps.size
  val : ∀ k, k < env.length → VR H E w (nth env k) (a.tmps.getD k undef)
  defers : a.defers = []
  heap : HOk H E w

section
variable {P : Program} {H : Heap} {E : Emb} {w : World} {fresh : Nat} {hk : Hook}

theorem nth_ge {env : List AV} {k : Nat} (h : env.length ≤ k) : nth env k = .any := by
  rw [nth_eq]; simp [List.getD, List.getElem?_eq_none h]

theorem RelE.nth_ {env : List AV} {a : Act} (h : RelE env H E w a) (k : Nat) : VR H E w (nth env k) (a.tmps.getD k undef) := by
  by_cases hk : k < env.length
  · exact h.val k hk
  · rw [nth_ge (by omega)]; exact .any _

theorem RelE.eval {env : List AV} {a : Act} (h : RelE env H E w a) (x : Operand) : VR H E w (evalO env x) (a.eval x) := by
  cases x with
  | tmp t => exact h.nth_ t
  | const v => exact constV_VR v
  | global g => exact .i _ _ (.sc _ rfl)
  | func f => exact .i _ _ (.sc _ rfl)

theorem putEnv_length (env : List AV) (dst : Option Tmp) (v : AV) : (putEnv env dst v).length = env.length := by
  cases dst with
  | none => rfl
  | some d => simp [putEnv, setNth_eq]

theorem nth_set (env : List AV) (d k : Nat) (v : AV) (hk : k < env.length) : nth (setNth env d v) k = if d = k then v else nth env k := by
  rw [setNth_eq, nth_eq, nth_eq]
  simp only [List.getD, List.getElem?_set]
  by_cases e : d = k
  · subst e; simp [hk]
  · simp [e]

theorem RelE.put_ {env : List AV} {a : Act} {H' : Heap} {E' : Emb} {w' : World} (h : RelE env H E w a) (x : Ext H E w H' E' w') (hh : HOk H' E' w') {dst : Option Tmp} {v : AV} {u : Value} (hv : VR H' E' w' v u) :
    RelE (putEnv env dst v) H' E' w' (a.put dst u) := by
  cases dst with
  | none => exact ⟨h.len, fun k hk => (h.val k hk).ext x, h.defers, hh⟩
  | some d =>
    refine ⟨by rw [putEnv_length]; simpa [Act.put] using h.len, fun k hk => ?_, h.defers, hh⟩
    rw [putEnv_length] at hk
    simp only [putEnv, Act.put]
    rw [nth_set _ _ _ _ hk]
    have hk' : k < a.tmps.size := by rw [← h.len]; exact hk
    by_cases e : d = k
    · subst e
      simpa [Array.getD, hk'] using hv
    · have := (h.val k hk).ext x
      simpa [e, Array.getD, hk', Array.getElem_setIfInBounds] using this

def DomEq (H H' : Heap) (fresh : Nat) : Prop := ∀ id, (id < fresh ∨ fresh + 4 ≤ id) → get H id = none → get H' id = none

theorem execD_wp (hCT : HookOK P hk) {D : List (Nat × Bool)} {o : Oper} {i : Nat} {env : List AV} {a : Act} {v : AV} {u : List (Nat × AO)} {qs : List Ob} {K : Act → World → Prop} {Q : Exit → Act → World → Prop}
    (hs : execD P hk D o i fresh env H = some (v, u, qs)) (hq : AllP qs) (hR : RelE env H E w a) (hfr : ∀ k, k < 4 → get H (fresh + k) = none)
    (hK : ∀ E' w' a', RelE (putEnv env o.dst v) (puts H u) E' w' a' → Ext H E w (puts H u) E' w' → DomEq H (puts H u) fresh → K a' w') : o.wp P a w K Q := by
  unfold execD at hs
  split at hs
  · cases hs
  · rename_i r hr
    split at hs
    · cases hs
    · split at hs
      · injection hs with hs; injection hs with h1 h2; injection h2 with h2 h3
        subst h1 h2 h3
        exact opA_wp hCT hR.heap hR.eval hfr hr hq fun x w' hp => by
          obtain ⟨E', h4, h5, h6⟩ := hp.ex
          exact hK E' w' _ (hR.put_ h6 h4 h5) h6 hp.dom
      · rename_i b hb
        split at hs
        · rename_i c hc
          injection hs with hs; injection hs with h1 h2; injection h2 with h2 h3
          subst h1 h2 h3
          obtain ⟨hcb, hq⟩ := hq
          exact opA_wp hCT hR.heap hR.eval hfr hr hq fun x w' hp => by
            obtain ⟨E', h4, h5, h6⟩ := hp.ex
            have hx : VR (puts H r.upd) E' w' (.i (.sc (.bool b))) x := by
              unfold boolOf? at hc
              split at hc
              · rename_i e; injection hc with hc; subst hc; rw [e, hcb] at h5; exact h5
              · cases hc
            exact hK E' w' _ (hR.put_ h6 h4 hx) h6 hp.dom
        · cases hs

theorem undef_VR : VR H E w (.tup []) undef := .tup [] #[] rfl fun k hk => by simp at hk

theorem yielded_some {ops : Array Oper} {env : List AV} {a : Act} (hR : RelE env H E w a) {j d : Nat} (hd : (ops[j]?).bind (·.dst) = some d) {b : Bool} (hb : nth env d = .i (.sc (.bool b))) : yielded ops a.tmps j = some b := by
  have hlt : d < env.length := by
    rcases Nat.lt_or_ge d env.length with h | h
    · exact h
    · rw [nth_ge h] at hb; cases hb
  have hlt' : d < a.tmps.size := by rw [← hR.len]; exact hlt
  have := hR.val d hlt
  rw [hb] at this
  have := this.sc_
  simp only [Array.getD, hlt', dite_true] at this
  have : a.tmps[d]? = some (.bool b) := by rw [Array.getElem?_eq_getElem hlt']; exact congrArg some this
  simp [yielded, hd, this]
theorem yielded_none {ops : Array Oper} {env : List AV} {a : Act} (hR : RelE env H E w a) {j d : Nat} (hd : (ops[j]?).bind (·.dst) = some d) (hb : nth env d = .tup []) : yielded ops a.tmps j = none := by
  have hlt : d < env.length := by
    rcases Nat.lt_or_ge d env.length with h | h
    · exact h
    · rw [nth_ge h] at hb; cases hb
  have hlt' : d < a.tmps.size := by rw [← hR.len]; exact hlt
  have := hR.val d hlt
  rw [hb] at this
  have he : a.tmps[d]? = some (a.tmps.getD d undef) := by simp [Array.getD, hlt']
  generalize a.tmps.getD d undef = x at this he
  cases this
  simp [yielded, hd, he]

theorem owe_ok {D : List (Nat × Bool)} {j : Nat} {c : Bool} (h : AllP (owe D j c)) : c = decNow D j c := by
  unfold owe at h
  unfold decNow
  split
  · rename_i b hb; rw [hb] at h; exact h.1
  · rfl

theorem stepV_wp (hCT : HookOK P hk) {ops : Array Oper} {D : List (Nat × Bool)} {o : Oper} {i : Nat} {env : List AV} {a : Act} {v : AV} {u : List (Nat × AO)} {qs : List Ob} {K : Act → World → Prop} {Q : Exit → Act → World → Prop}
    (hs : stepV P hk ops D o i fresh env H = some (v, u, qs)) (hq : AllP qs) (hR : RelE env H E w a) (hfr : ∀ k, k < 4 → get H (fresh + k) = none)
    (hK : ∀ E' w' a', RelE (putEnv env o.dst v) (puts H u) E' w' a' → Ext H E w (puts H u) E' w' → DomEq H (puts H u) fresh → K a' w') :
    if Region.wanted o (yielded ops a.tmps) then o.wp P a w K Q else K (a.put o.dst undef) w := by
  unfold stepV at hs
  split at hs
  · rename_i hg
    rw [if_pos (by simp [Region.wanted, hg])]
    exact execD_wp hCT hs hq hR hfr hK
  · rename_i j want hg
    have hskip : K = K := rfl
    split at hs
    · cases hs
    · rename_i d hd
      split at hs
      · rename_i hn
        injection hs with hs; injection hs with h1 h2; injection h2 with h2 h3
        subst h1 h2 h3
        rw [if_neg (by simp [Region.wanted, hg, yielded_none hR hd hn])]
        exact hK E w _ (hR.put_ (Ext.refl _ _ _) hR.heap undef_VR) (Ext.refl _ _ _) (fun _ _ h => h)
      · rename_i c hn
        have hcb : AllP (owe D j c) → c = decNow D j c := owe_ok
        generalize owe D j c = ow at hs hcb
        generalize decNow D j c = b at hs hcb
        split at hs
        · rename_i hw
          split at hs
          · rename_i v' u' ps hex
            injection hs with hs; injection hs with h1 h2; injection h2 with h2 h3
            subst h1 h2 h3
            have hq' := AllP.app.1 hq
            have hq := hq'.2
            obtain rfl := hcb hq'.1
            rw [if_pos (by simpa [Region.wanted, hg, yielded_some hR hd hn] using hw)]
            exact execD_wp hCT hex hq hR hfr hK
          · cases hs
        · rename_i hw
          injection hs with hs; injection hs with h1 h2; injection h2 with h2 h3
          subst h1 h2 h3
          obtain rfl := hcb hq
          rw [if_neg (by simpa [Region.wanted, hg, yielded_some hR hd hn] using hw)]
          exact hK E w _ (hR.put_ (Ext.refl _ _ _) hR.heap undef_VR) (Ext.refl _ _ _) (fun _ _ h => h)
      · cases hs

theorem runD_ps {ops : Array Oper} {D : List (Nat × Bool)} : ∀ {l : List Oper} {i fresh : Nat} {env env' : List AV} {H H' : Heap} {ps ps' : List Ob}, runD P hk ops D l i fresh env H ps = some (env', H', ps') → AllP ps' → AllP ps
  | [], _, _, _, _, _, _, _, _, h, hp => by injection h with h; injection h with _ h; injection h with _ h; subst h; exact hp
  | o :: l, i, fresh, env, env', H, H', ps, ps', h, hp => by
    simp only [runD] at h
    split at h
    · exact (AllP.app.1 (runD_ps h hp)).2
    · cases h

theorem runD_wp (hCT : HookOK P hk) {ops : Array Oper} {D : List (Nat × Bool)} {Q : Exit → Act → World → Prop} : ∀ {l : List Oper} {i fresh : Nat} {env env' : List AV} {H H' : Heap} {ps ps' : List Ob} {E : Emb} {w : World} {a : Act},
    runD P hk ops D l i fresh env H ps = some (env', H', ps') → AllP ps' → RelE env H E w a → (∀ k, fresh ≤ k → get H k = none) →
    (∀ E' w' a', RelE env' H' E' w' a' → Ext H E w H' E' w' → (∀ k, fresh + 4 * l.length ≤ k → get H' k = none) → Q .normal a' w') → wpList P ops Q l a w
  | [], i, fresh, env, env', H, H', ps, ps', E, w, a, h, hp, hR, hf, hQ => by
    injection h with h; injection h with h1 h; injection h with h2 h3
    subst h1 h2 h3
    exact hQ E w a hR (Ext.refl _ _ _) hf
  | o :: l, i, fresh, env, env', H, H', ps, ps', E, w, a, h, hp, hR, hf, hQ => by
    simp only [runD] at h
    split at h
    · rename_i v u qs hs
      have hq := (AllP.app.1 (runD_ps h hp)).1
      refine wpList_step fun K hK => stepV_wp hCT hs hq hR (fun k _ => hf _ (by omega)) fun E' w' a' h1 h2 h3 => ?_
      refine hK a' w' (runD_wp hCT h hp h1 (fun k hk' => h3 k (.inr (by omega)) (hf k (by omega))) fun E'' w'' a'' h4 h5 h6 => ?_)
      exact hQ E'' w'' a'' h4 (h2.trans h5) (fun k hk' => h6 k (by simp at hk'; omega))
    · cases h
end
end Go.AI
