import Derived.Test.YtjgddhjjcgndaaaAIFun
/- Functions carried out in place. -/
set_option linter.unusedVariables false
set_option linter.unusedSimpArgs false
namespace Go.AI

def seqN : Nat → Nat → List Nat
  | _, 0 => []
  | k, n + 1 => k :: seqN (k + 1) n
def finishF (n0 : Nat) (H : Heap) (val : AV) (ps : List Ob) : Option HookRes :=
  let l0 := addNs (seqN 0 n0) (refs val)
  let L := reach H 60 l0 l0
  match landB n0 H L [ren (idxN L) val] (objsOf H L) with
  | true => some ⟨ren (idxN L) val, true, ps, objsOf H L⟩
  | false => none
/-- With these decisions at its first open conditions. -/
def inlineD (P : Program) (hk : Hook) (bs : List Bool) (g : FuncId) (args : List AV) (objs : List AO) : Option HookRes :=
  match P.funcs[g]? with
  | some fn => match fn.body with
    | some c => match run P hk true 4000 [.code c] ⟨startEnv fn.ntmps args, hp 0 objs, lenN objs⟩ bs [] with
      | some ⟨[], s, _, ps⟩ => match resA P s.env s.heap fn.results.toList with
        | some (vs, qs) => finishF (lenN objs) s.heap (oneA vs) (qs ++ ps)
        | none => none
      | _ => none
    | none => none
  | none => none
def inlineF (P : Program) (hk : Hook) (g : FuncId) (args : List AV) (objs : List AO) : Option HookRes := inlineD P hk [] g args objs
/-- What is known of a function stands first; what is not known is carried out. -/
def evalF (P : Program) (base : Hook) : Nat → Hook
  | 0 => base
  | d + 1 => { base with run := fun g args objs => match base.run g args objs with
      | some h => some h
      | none => inlineF P (evalF P base d) g args objs }

mutual
theorem leA_refl : ∀ a : AV, leA a a
  | .any => by simp [leA]
  | .i (.sv _ _ _) => by simp [leA, leI]
  | .i (.sc _) => by simp [leA, leI]
  | .agg l => by simp only [leA]; exact leL_refl l
  | .tup l => by simp only [leA]; exact leL_refl l
  | .ptr _ _ => by simp [leA]
  | .sl _ _ _ _ => by simp [leA]
  | .row _ _ _ _ _ => by simp [leA]
  | .pel _ _ _ _ _ => by simp [leA]
  | .ro _ _ _ => by simp [leA]
  | .mp _ => by simp [leA]
  | .clo _ a b => by simp only [leA]; exact ⟨trivial, leL_refl a, leL_refl b⟩
theorem leL_refl : ∀ l : List AV, leL l l
  | [] => by simp [leL]
  | a :: l => by simp only [leL]; exact ⟨leA_refl a, leL_refl l⟩
end
theorem leO_refl : ∀ o : AO, leO o o
  | .gone => by simp [leO]
  | .cells _ l => by simp only [leO]; exact ⟨trivial, leL_refl l⟩
  | .row _ _ _ _ _ => by simp [leO]
  | .smap _ _ _ => by simp [leO]
theorem leOs_refl : ∀ l : List AO, leOs l l
  | [] => by simp [leOs]
  | a :: l => by simp only [leOs]; exact ⟨leO_refl a, leOs_refl l⟩

section
variable {P : Program} {hk : Hook}

theorem inlineD_ok (hCT : HookOK P hk) (hm : P.follows .mixedOrders = true) {bs : List Bool} {g : FuncId} {args : List AV} {objs : List AO} {h : HookRes} (hr : inlineD P hk bs g args objs = some h) (hps : AllP h.ps) :
    Contract P g args objs h.val (outsOf h.upd objs h.outs) := by
  unfold inlineD at hr
  split at hr
  · rename_i fn hfn
    split at hr
    · rename_i c hc
      split at hr
      · rename_i s bs' ps hrun
        split at hr
        · rename_i vs qs hts
          unfold finishF at hr
          simp only at hr
          generalize hL : reach s.heap 60 _ _ = L at hr
          split at hr
          · rename_i hok
            injection hr with hr
            subst hr
            refine contract_intro hfn hc fun E0 w0 h0 => ?_
            rw [← lenN_eq]
            refine run_sound hCT hm (fun a w h => h) hrun (AllP.app.1 hps).2 ?_
            refine cont_end h0 hts (AllP.app.1 hps).1 L ⟨?_, leOs_refl _, ?_⟩
            · rw [← lenN_eq]; exact hok
            · simp only [renL]; exact leL_refl _
          · cases hr
        · cases hr
      · cases hr
    · cases hr
  · cases hr

theorem inlineF_ok (hCT : HookOK P hk) (hm : P.follows .mixedOrders = true) {g : FuncId} {args : List AV} {objs : List AO} {h : HookRes} (hr : inlineF P hk g args objs = some h) (hps : AllP h.ps) :
    Contract P g args objs h.val (outsOf h.upd objs h.outs) := inlineD_ok hCT hm hr hps

theorem evalF_ok {base : Hook} (hb : HookOK P base) (hm : P.follows .mixedOrders = true) : ∀ d, HookOK P (evalF P base d)
  | 0 => hb
  | d + 1 => ⟨fun g a o h hr hps => by
    simp only [evalF] at hr
    split at hr
    · rename_i h' he
      injection hr with hr; subst hr
      exact hb.run g a o h' he hps
    · exact inlineF_ok (evalF_ok hb hm d) hm hr hps, hb.ext⟩

/-- Nothing known. -/
def hook0 : Hook := ⟨fun _ => .own, fun _ => false, fun _ _ _ => none, fun _ _ => none⟩
theorem hook0_ok : HookOK P hook0 := ⟨(fun _ _ _ _ h => by cases h), (fun _ _ _ _ h => by cases h)⟩
end
end Go.AI
