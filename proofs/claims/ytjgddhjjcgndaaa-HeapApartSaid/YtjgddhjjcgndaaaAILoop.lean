import Derived.Test.YtjgddhjjcgndaaaAIPath
/- Runs whose ends are told by projections; states by the slots that matter. -/
set_option linter.unusedVariables false
set_option linter.unusedSimpArgs false
namespace Go.AI
def outTodo : Option Out → List It
  | some o => o.todo
  | none => []
def outSt : Option Out → St
  | some o => o.st
  | none => ⟨[], [], 0⟩
def outPs : Option Out → List Ob
  | some o => o.ps
  | none => []
def isS {α : Type} : Option α → Bool
  | some _ => true
  | none => false
def pickE : List Nat → List AV → Nat → AV
  | k :: ks, v :: vs, j => match Nat.beq k j with
    | true => v
    | false => pickE ks vs j
  | _, _, _ => .any
/-- The slots ks hold vals; of the others nothing is said. -/
def fillE (ks : List Nat) (vals : List AV) : Nat → Nat → List AV
  | 0, _ => []
  | n + 1, j => pickE ks vals j :: fillE ks vals n (j + 1)
def selE (env : List AV) : List Nat → List AV
  | [] => []
  | k :: ks => nth env k :: selE env ks
/-- What is kept of a state, told by the objects L: is it sound, the slots ks, the objects. -/
def landK (n0 N : Nat) (L ks : List Nat) (s : St) : Bool × List AV × List AO :=
  (prefB n0 0 L && nodupN L && presentN s.heap L && Nat.beq (lenN s.env) N, selE (renL (idxN L) s.env) ks, objsOf s.heap L)

theorem fillE_length (ks : List Nat) (vals : List AV) : ∀ n j, (fillE ks vals n j).length = n
  | 0, _ => rfl
  | n + 1, j => by simp [fillE, fillE_length ks vals n]
theorem pick_le : ∀ {ks : List Nat} {vals env : List AV}, leL vals (selE env ks) → ∀ j, leA (pickE ks vals j) (nth env j)
  | [], vals, env, _, j => by cases vals <;> simp [pickE, leA]
  | k :: ks, [], env, h, j => by simp [selE, leL] at h
  | k :: ks, v :: vs, env, h, j => by
    simp only [selE, leL] at h
    simp only [pickE, nbeq]
    by_cases e : k = j
    · subst e; simp only [decide_true]; exact h.1
    · simp only [e, decide_false]; exact pick_le h.2 j
theorem fill_le {ks : List Nat} {vals env : List AV} (h : leL vals (selE env ks)) : ∀ (n j : Nat) (l : List AV), (∀ i, nth l i = nth env (j + i)) → l.length = n → leL (fillE ks vals n j) l
  | 0, j, l, hl, hn => by
    cases l with
    | nil => simp [fillE, leL]
    | cons a l => simp at hn
  | n + 1, j, l, hl, hn => by
    cases l with
    | nil => simp at hn
    | cons a l =>
      simp only [fillE, leL]
      refine ⟨?_, fill_le h n (j + 1) l (fun i => ?_) (by simpa using hn)⟩
      · have := hl 0
        simp only [nth, Nat.add_zero] at this
        rw [this]; exact pick_le h j
      · have := hl (i + 1)
        simp only [nth] at this
        rw [this, show j + (i + 1) = j + 1 + i by omega]

section
variable {P : Program} {hk : Hook} {F : Exit → Act → World → Prop} {B : Nat → Act → World → Prop}
variable {objs0 : List AO} {E0 : Emb} {w0 : World}

/-- A state lands in a family's one. -/
theorem lands_of {s : St} {n0 N : Nat} {L ks : List Nat} {vals vals' : List AV} {objs objs' : List AO} (hl : landK n0 N L ks s = (true, vals', objs')) (hv : leL vals vals') (ho : leOs objs objs')
    (hb : (belowO (lenN L) objs && belowN (lenN L) (refsL (fillE ks vals N 0))) = true) : Lands n0 s.env s.heap L (fillE ks vals N 0) objs := by
  unfold landK at hl
  injection hl with h1 h2
  injection h2 with h2 h3
  simp only [Bool.and_eq_true] at h1 hb
  subst h2 h3
  refine ⟨?_, ho, ?_⟩
  · simp only [landB, Bool.and_eq_true]
    exact ⟨⟨h1.1, hb.1⟩, hb.2⟩
  · have hn := Nat.eq_of_beq_eq_true h1.2
    refine fill_le hv N 0 _ (fun i => by rw [Nat.zero_add]) ?_
    rw [renL_length, ← lenN_eq]; exact hn

/-- A run, then on from where it stopped. -/
theorem run_on (hCT : HookOK P hk) (hm : P.follows .mixedOrders = true) (hF : ∀ a w, F .normal a w → F .ret a w) {au : Bool} {n m : Nat} {todo T : List It} {s : St} {bs : List Bool} {os : List Ob}
    (hs : isS (run P hk au n todo s bs []) = true) (hT : outTodo (run P hk au n todo s bs []) = T) (ho : pickN m (outPs (run P hk au n todo s bs [])) = os) (hps : AllP os)
    (hk' : Cont P F B (hp 0 objs0) E0 w0 (outSt (run P hk au n todo s bs [])) T) : Cont P F B (hp 0 objs0) E0 w0 s todo := by
  cases hr : run P hk au n todo s bs [] with
  | none => rw [hr] at hs; cases hs
  | some o =>
    rw [hr] at hT ho hk'
    subst hT ho
    obtain ⟨td, st, bs', ps⟩ := o
    exact run_sound hCT hm hF hr (pickN_ok _ _ hps) hk'

/-- The same; of the state where it stopped no more is kept than a property. -/
theorem run_st (hCT : HookOK P hk) (hm : P.follows .mixedOrders = true) (hF : ∀ a w, F .normal a w → F .ret a w) {au : Bool} {n m : Nat} {todo T : List It} {s : St} {bs : List Bool} {os : List Ob} {φ : St → Prop}
    (hr : isS (run P hk au n todo s bs []) = true ∧ outTodo (run P hk au n todo s bs []) = T ∧ pickN m (outPs (run P hk au n todo s bs [])) = os ∧ φ (outSt (run P hk au n todo s bs []))) (hps : AllP os)
    (hk' : ∀ st, φ st → Cont P F B (hp 0 objs0) E0 w0 st T) : Cont P F B (hp 0 objs0) E0 w0 s todo :=
  run_on hCT hm hF hr.1 hr.2.1 hr.2.2.1 hps (hk' _ hr.2.2.2)

/-- The end of a function, in short. -/
def endK (P : Program) (fn : Func) (n0 : Nat) (s : St) : Option (AV × List AO × List Ob) :=
  match resA P s.env s.heap fn.results.toList with
  | some (vs, qs) => match finishF n0 s.heap (oneA vs) qs with
    | some h => some (h.val, h.outs, h.ps)
    | none => none
  | none => none
theorem end_of {fn : Func} {outs outs0 : List AO} {r val : AV} {s : St} {os : List Ob} (h0 : HOk (hp 0 objs0) E0 w0) (he : endK P fn objs0.length s = some (val, outs0, os)) (hps : AllP os)
    (hle : leOs outs outs0) (hv : leA r val) (hb : (belowO (lenN outs0) outs && belowN (lenN outs0) (refsL [r])) = true) : Cont P (fin P fn objs0 r outs E0 w0) B (hp 0 objs0) E0 w0 s [] := by
  unfold endK at he
  split at he
  · rename_i vs qs hts
    split at he
    · rename_i h hfi
      injection he with he
      injection he with h1 h2
      injection h2 with h2 h3
      subst h1 h2 h3
      unfold finishF at hfi
      simp only at hfi
      generalize hL : reach s.heap 60 _ _ = L at hfi
      split at hfi
      · rename_i hok
        injection hfi with hfi
        subst hfi
        have hlen : lenN (objsOf s.heap L) = lenN L := by rw [lenN_eq, lenN_eq]; simp [objsOf]
        refine cont_end h0 hts hps L ⟨?_, hle, ?_⟩
        · simp only [landB, Bool.and_eq_true, hlen] at hok hb ⊢
          exact ⟨⟨hok.1.1, hb.1⟩, hb.2⟩
        · simp only [renL, leL]; exact ⟨hv, trivial⟩
      · cases hfi
    · cases he
  · cases he
end
end Go.AI
