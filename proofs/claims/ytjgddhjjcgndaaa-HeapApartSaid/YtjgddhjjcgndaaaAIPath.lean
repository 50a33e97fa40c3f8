import Derived.Test.YtjgddhjjcgndaaaAIRow
/- Paths: what is owed and closed is left out by a mask; results may be told more weakly. -/
set_option linter.unusedVariables false
set_option linter.unusedSimpArgs false
namespace Go.AI
/-- Of what is owed, what a mask of bits does not leave out (only what is met by itself may be left out). -/
def pickN : Nat → List Ob → List Ob
  | _, [] => []
  | m, o :: l => match Nat.beq (m % 2) 1 with
    | true => match o.b with
      | true => pickN (m / 2) l
      | false => o :: pickN (m / 2) l
    | false => o :: pickN (m / 2) l
def inlineK (P : Program) (hk : Hook) (m : Nat) (bs : List Bool) (g : FuncId) (args : List AV) (objs : List AO) : Option (AV × List AO × List Ob) :=
  match inlineD P hk bs g args objs with
  | some h => match h.upd with
    | true => some (h.val, h.outs, pickN m h.ps)
    | false => none
  | none => none

theorem keq {α : Type} {a b : α} (h : a = b) : a = b := h
theorem pickN_ok : ∀ (l : List Ob) (m : Nat), AllP (pickN m l) → AllP l
  | [], _, _ => trivial
  | o :: l, m, h => by
    simp only [pickN] at h
    split at h
    · split at h
      · rename_i hb; exact ⟨o.ok hb, pickN_ok l _ h⟩
      · exact ⟨h.1, pickN_ok l _ h.2⟩
    · exact ⟨h.1, pickN_ok l _ h.2⟩

section
variable {P : Program} {hk : Hook}
theorem path_le (hCT : HookOK P hk) (hm : P.follows .mixedOrders = true) {m : Nat} {bs : List Bool} {g : FuncId} {args : List AV} {objs : List AO} {val r : AV} {outs0 outs : List AO} {os : List Ob}
    (hr : inlineK P hk m bs g args objs = some (val, outs0, os)) (hps : AllP os) (hle : leOs outs outs0) (hv : leA r val) (hb : (belowO (lenN outs0) outs && belowN (lenN outs0) (refsL [r])) = true) : Contract P g args objs r outs := by
  unfold inlineK at hr
  split at hr
  · rename_i h he
    split at hr
    · injection hr with hr
      injection hr with h1 h2
      injection h2 with h2 h3
      subst h1 h2 h3
      have hps := pickN_ok _ _ hps
      unfold inlineD at he
      split at he
      · rename_i fn hfn
        split at he
        · rename_i c hc
          split at he
          · rename_i s bs' ps hrun
            split at he
            · rename_i vs qs hts
              unfold finishF at he
              simp only at he
              generalize hL : reach s.heap 60 _ _ = L at he
              split at he
              · rename_i hok
                injection he with he
                subst he
                refine contract_intro hfn hc fun E0 w0 h0 => ?_
                rw [← lenN_eq]
                refine run_sound hCT hm (fun a w h => h) hrun (AllP.app.1 hps).2 ?_
                have hlen : lenN (objsOf s.heap L) = lenN L := by rw [lenN_eq, lenN_eq]; simp [objsOf]
                refine cont_end h0 hts (AllP.app.1 hps).1 L ⟨?_, hle, ?_⟩
                · rw [← lenN_eq]
                  simp only [landB, Bool.and_eq_true, hlen] at hok hb ⊢
                  exact ⟨⟨hok.1.1, hb.1⟩, hb.2⟩
                · simp only [renL, leL]; exact ⟨hv, trivial⟩
              · cases he
            · cases he
          · cases he
        · cases he
      · cases he
    · cases hr
  · cases hr
theorem path (hCT : HookOK P hk) (hm : P.follows .mixedOrders = true) {m : Nat} {bs : List Bool} {g : FuncId} {args : List AV} {objs : List AO} {val : AV} {outs : List AO} {os : List Ob}
    (hr : inlineK P hk m bs g args objs = some (val, outs, os)) (hps : AllP os) : Contract P g args objs val outs := by
  unfold inlineK at hr
  split at hr
  · rename_i h he
    split at hr
    · rename_i hu
      injection hr with hr
      injection hr with h1 h2
      injection h2 with h2 h3
      subst h1 h2 h3
      have := inlineD_ok hCT hm he (pickN_ok _ _ hps)
      simpa [outsOf, hu] using this
    · cases hr
  · cases hr
end
end Go.AI
