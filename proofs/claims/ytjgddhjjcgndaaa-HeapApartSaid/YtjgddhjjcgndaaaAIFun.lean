import Derived.Test.YtjgddhjjcgndaaaAIPull
import Derived.Tactics
/- What a function does; loops by families of states. -/
set_option linter.unusedVariables false
set_option linter.unusedSimpArgs false
namespace Go.AI

def prefB : Nat → Nat → List Nat → Bool
  | 0, _, _ => true
  | n + 1, k, a :: l => match Nat.beq a k with
    | true => prefB n (k + 1) l
    | false => false
  | _ + 1, _, [] => false
theorem prefB_spec : ∀ {n k : Nat} {l : List Nat}, prefB n k l = true → ∀ j, j < n → l[j]? = some (k + j)
  | 0, _, _, _, _, h => by omega
  | n + 1, k, a :: l, h, j, hj => by
    simp only [prefB] at h
    split at h
    · rename_i e
      have e := Nat.eq_of_beq_eq_true e
      cases j with
      | zero => simp [e]
      | succ j => have := prefB_spec h j (by omega); rw [show k + (j + 1) = k + 1 + j by omega]; simpa using this
    · cases h
  | n + 1, k, [], h, _, _ => by cases h

/-- What is decided of a landing by counting. -/
def landB (n0 : Nat) (H : Heap) (L : List Nat) (env : List AV) (objs : List AO) : Bool :=
  prefB n0 0 L && nodupN L && presentN H L && belowO (lenN L) objs && belowN (lenN L) (refsL env)

/-- The state of the left may be taken for the one of the right. -/
structure Lands (n0 : Nat) (env' : List AV) (H : Heap) (L : List Nat) (env : List AV) (objs : List AO) : Prop where
  ok : landB n0 H L env objs = true
  objs : leOs objs (objsOf H L)
  env : leL env (renL (idxN L) env')

section
variable {P : Program} {hk : Hook} {F : Exit → Act → World → Prop} {B : Nat → Act → World → Prop}
variable {objs0 : List AO} {E0 : Emb} {w0 : World}

theorem Lands.pull {H : Heap} {E : Emb} {w : World} {env' env : List AV} {L : List Nat} {objs : List AO} (h0 : HOk (hp 0 objs0) E0 w0) (h : HOk H E w) (x : Ext (hp 0 objs0) E0 w0 H E w) (hl : Lands objs0.length env' H L env objs) :
    HOk (hp 0 objs) (E.pull L) w ∧ Ext (hp 0 objs0) E0 w0 (hp 0 objs) (E.pull L) w ∧ env.length = env'.length ∧ (∀ k v, k < env.length → VR H E w (nth env' k) v → VR (hp 0 objs) (E.pull L) w (nth env k) v) := by
  have hok := hl.ok
  simp only [landB, Bool.and_eq_true, lenN_eq] at hok
  obtain ⟨⟨⟨⟨h1, h2⟩, h3⟩, h4⟩, h5⟩ := hok
  have h2 := (nodupN_iff _).1 h2
  have h3 := (presentN_iff _ _).1 h3
  have h4 := belowO_iff _ _ h4
  have h5 := (belowN_iff _ _).1 h5
  obtain ⟨h6, h7⟩ := h.pull h2 h3 hl.objs h4
  obtain ⟨h8, h9⟩ := leL_nth hl.env
  rw [renL_length] at h8
  refine ⟨h6, x.pull h0 (fun k hk => by simpa using prefB_spec h1 k hk) h2 h7, h8, fun k v hk hv => ?_⟩
  have := h9 k hk
  rw [nth_renL _ _ _ (by omega)] at this
  exact hv.pull h7 _ this (below_nth h5 hk)

theorem Lands.rel {H : Heap} {E : Emb} {w : World} {a : Act} {env' env : List AV} {L : List Nat} {objs : List AO} (h0 : HOk (hp 0 objs0) E0 w0) (h : RelE env' H E w a) (x : Ext (hp 0 objs0) E0 w0 H E w) (hl : Lands objs0.length env' H L env objs) :
    RelE env (hp 0 objs) (E.pull L) w a ∧ Ext (hp 0 objs0) E0 w0 (hp 0 objs) (E.pull L) w := by
  obtain ⟨h1, h2, h3, h4⟩ := hl.pull h0 h.heap x
  exact ⟨⟨h3.trans h.len, fun k hk => h4 k _ hk (h.val k (by omega)), h.defers, h1⟩, h2⟩

/-- What must hold at the foot of a round from state i. -/
def footB {ι : Type} (env : ι → List AV) (objs : ι → List AO) (I : ι → Prop) (μ : ι → Nat) (objs0 : List AO) (E0 : Emb) (w0 : World) (i : ι) (B : Nat → Act → World → Prop) (d : Nat) : Nat → Act → World → Prop :=
  fun n => if n = d then fun a w => ∃ j E', I j ∧ μ j < μ i ∧ RelE (env j) (hp 0 (objs j)) E' w a ∧ Ext (hp 0 objs0) E0 w0 (hp 0 (objs j)) E' w ∧ (∀ k, (objs j).length ≤ k → get (hp 0 (objs j)) k = none) else B n

theorem hp_none (objs : List AO) (k : Nat) (h : objs.length ≤ k) : get (hp 0 objs) k = none := by rw [get_hp0]; simp [h]

/-- **A loop by a family of states.** -/
theorem loop_fam {ι : Type} (env : ι → List AV) (objs : ι → List AO) (I : ι → Prop) (μ : ι → Nat) (h0 : HOk (hp 0 objs0) E0 w0) {s : St} {c : Code} {k : List It}
    (hstart : ∃ i L, I i ∧ Lands objs0.length s.env s.heap L (env i) (objs i))
    (hround : ∀ i, I i → Cont P F (footB env objs I μ objs0 E0 w0 i B (backs k)) (hp 0 objs0) E0 w0 ⟨env i, hp 0 (objs i), (objs i).length⟩ (.code c :: .back :: k)) :
    Cont P F B (hp 0 objs0) E0 w0 s (.code (.loop c) :: k) :=
  cont_loop (st := fun i => ⟨env i, hp 0 (objs i), (objs i).length⟩) I μ
    (fun E w a h1 h2 _ => by
      obtain ⟨i, L, hi, hl⟩ := hstart
      obtain ⟨h3, h4⟩ := hl.rel h0 h1 h2
      exact ⟨i, _, hi, h3, h4, hp_none _⟩)
    hround

theorem foot {ι : Type} {env : ι → List AV} {objs : ι → List AO} {I : ι → Prop} {μ : ι → Nat} (h0 : HOk (hp 0 objs0) E0 w0) {s : St} {k : List It} {i : ι} {d : Nat} (hd : backs k = d)
    (h : ∃ j L, I j ∧ μ j < μ i ∧ Lands objs0.length s.env s.heap L (env j) (objs j)) :
    Cont P F (footB env objs I μ objs0 E0 w0 i B d) (hp 0 objs0) E0 w0 s (.back :: k) :=
  cont_back fun E w a h1 h2 _ => by
    obtain ⟨j, L, hj, hμ, hl⟩ := h
    obtain ⟨h3, h4⟩ := hl.rel h0 h1 h2
    unfold footB
    rw [if_pos hd]
    exact ⟨j, _, hj, hμ, h3, h4, hp_none _⟩

/-! ### What a function does -/
def fin (P : Program) (fn : Func) (objs : List AO) (r : AV) (outs : List AO) (E0 : Emb) (w0 : World) : Exit → Act → World → Prop :=
  bodyPost P fn fun e w' => ∃ E' v, e = .returned v ∧ HOk (hp 0 outs) E' w' ∧ VR (hp 0 outs) E' w' r v ∧ Ext (hp 0 objs) E0 w0 (hp 0 outs) E' w'
theorem fin_ret {fn : Func} {objs outs : List AO} {r : AV} (a : Act) (w : World) (h : fin P fn objs r outs E0 w0 .normal a w) : fin P fn objs r outs E0 w0 .ret a w := h

def anys : Nat → List AV
  | 0 => []
  | n + 1 => .any :: anys n
theorem anys_length : ∀ n, (anys n).length = n
  | 0 => rfl
  | n + 1 => by simp [anys, anys_length n]
theorem nth_anys : ∀ n k, nth (anys n) k = .any
  | 0, _ => rfl
  | _ + 1, 0 => rfl
  | n + 1, k + 1 => nth_anys n k
theorem nth_app_left : ∀ (l m : List AV) (k : Nat), k < l.length → nth (l ++ m) k = nth l k
  | [], _, _, h => by simp at h
  | _ :: _, _, 0, _ => rfl
  | _ :: l, m, k + 1, h => nth_app_left l m k (by simpa using h)
theorem nth_app_right : ∀ (l m : List AV) (k : Nat), l.length ≤ k → nth (l ++ m) k = nth m (k - l.length)
  | [], _, _, _ => rfl
  | _ :: l, m, 0, h => by simp at h
  | _ :: l, m, k + 1, h => by
    have := nth_app_right l m k (by simpa using h)
    simp only [List.cons_append, nth, this, List.length_cons, Nat.add_sub_add_right]

def startEnv (n : Nat) (args : List AV) : List AV := args ++ anys (n - lenN args)

/-- **From the code of a function to what it does.** -/
theorem contract_intro {f : FuncId} {fn : Func} {c : Code} {args : List AV} {objs : List AO} {r : AV} {outs : List AO} (hf : P.funcs[f]? = some fn) (hb : fn.body = some c)
    (h : ∀ E0 w0, HOk (hp 0 objs) E0 w0 → Cont P (fin P fn objs r outs E0 w0) (fun _ _ _ => False) (hp 0 objs) E0 w0 ⟨startEnv fn.ntmps args, hp 0 objs, objs.length⟩ [.code c]) : Contract P f args objs r outs := by
  intro E w vs hH hl hv
  refine calls_of_wp hf hb ?_
  have hR : RelE (startEnv fn.ntmps args) (hp 0 objs) E w { tmps := vs ++ Array.replicate (fn.ntmps - vs.size) undef, defers := [] } := by
    refine ⟨by simp [startEnv, anys_length, lenN_eq, hl], fun k hk => ?_, rfl, hH⟩
    by_cases hka : k < args.length
    · rw [show nth (startEnv fn.ntmps args) k = nth args k from nth_app_left _ _ _ hka]
      have h1 := hv k hka
      have : k < vs.size := by omega
      simp only [Array.getD_eq_getD_getElem?, Array.getElem?_append_left this]
      simpa [Array.getD_eq_getD_getElem?] using h1
    · rw [show nth (startEnv fn.ntmps args) k = .any from by unfold startEnv; rw [nth_app_right _ _ _ (by omega), nth_anys]]
      exact .any _
  have := h E w hH E w _ hR (Ext.refl _ _ _) (hp_none _)
  simp only [post, Exit.then] at this
  exact this

/-- The results, out of their temporaries or their cells. -/
def resA (P : Program) (env : List AV) (H : Heap) : List ResultVar → Option (List AV × List Ob)
  | [] => some ([], [])
  | .tmp t :: l => match resA P env H l with
    | some (vs, ps) => some (nth env t :: vs, ps)
    | none => none
  | .cell a t :: l => match loadA P H t (nth env a), resA P env H l with
    | some r, some (vs, ps) => match r.upd with
      | [] => some (r.val :: vs, r.ps ++ ps)
      | _ => none
    | _, _ => none
def oneA : List AV → AV
  | [a] => a
  | l => .tup l

/-- What leaves the world as it was. -/
def Still {α : Type} (P : Program) (s : Sem α) : Prop := ∀ w v w', s.run P w = .ok v w' → w' = w
theorem still_pure {α : Type} (x : α) : Still P (pure x : Sem α) := fun w v w' h => by
  have : (Result.ok x w : Result α) = .ok v w' := h
  injection this with _ h; exact h.symm
theorem still_bind {α β : Type} {s : Sem α} {f : α → Sem β} (h : Still P s) (h' : ∀ x, Still P (f x)) : Still P (s >>= f) := fun w v w' hr => by
  rw [Sem.run_bind] at hr
  cases hs : s.run P w with
  | ok x w1 =>
    rw [hs, Result.andThen_ok] at hr
    have := h w x w1 hs
    subst this
    exact h' x _ v w' hr
  | halt x w1 => rw [hs] at hr; cases hr
theorem still_load (a : Addr) : Still P (load a) := fun w v w' h => by
  unfold load at h
  simp only [Sem.run] at h
  split at h
  · injection h with _ h; exact h.symm
  · split at h
    · injection h with _ h; exact h.symm
    · cases h
theorem still_halt {α : Type} (x : Halt) : Still P (.halt x : Sem α) := fun w v w' h => by cases h
theorem still_program : Still P program := fun w v w' h => by
  have : (Result.ok P w : Result Program) = .ok v w' := h
  injection this with _ h; exact h.symm
theorem still_underlying (t : TypeId) : Still P (underlying t) := still_bind still_program fun p => by
  cases p.underlying t with
  | some d => exact still_pure d
  | none => exact fun w v w' h => by cases h
theorem still_typeInfo (t : TypeId) : Still P (typeInfo t) := still_bind still_program fun p => by
  cases p.info? t with
  | some d => exact still_pure d
  | none => exact fun w v w' h => by cases h
theorem still_cells (a : Addr) : ∀ (n i : Nat) (acc : Array Value), Still P (loadCellsFrom a i n acc)
  | 0, i, acc => still_pure acc
  | n + 1, i, acc => still_bind (still_load _) fun v => still_cells a n (i + 1) _
theorem still_loadVar (t : TypeId) (a : Addr) : Still P (loadVar t a) := by
  unfold loadVar isAgg
  refine still_bind (still_bind (still_underlying t) fun d => by split <;> exact still_pure _) fun b => ?_
  split
  · refine still_bind (still_bind (still_typeInfo t) fun _ => still_pure _) fun n => still_bind (still_cells a _ _ _) fun _ => still_pure _
  · exact still_load a

def resF (tmps : Array Value) : ResultVar → Sem Value
  | .tmp t => pure (tmps.getD t undef)
  | .cell a t => do loadVar t (← asAddr (tmps.getD a undef))

theorem resF_cell {tmps : Array Value} {a : Nat} {t : TypeId} {v : Value} {w w' : World} (h : (Instr.loadAt t (tmps.getD a undef)).run P w = .ok v w') : (resF tmps (.cell a t)).run P w = .ok v w := by
  have key : (resF tmps (.cell a t)).run P w = .ok v w' := by
    simp only [resF]
    unfold Instr.loadAt at h
    generalize tmps.getD a undef = x at h ⊢
    cases x with
    | pointer p => cases p with
      | some q => exact h
      | none => cases h
    | _ => cases h
  have : Still P (resF tmps (.cell a t)) := by
    simp only [resF]
    refine still_bind ?_ fun q => still_loadVar t q
    intro w v w' h
    generalize tmps.getD a undef = x at h
    cases x with
    | pointer p => cases p with
      | some q =>
        have : (Result.ok q w : Result Addr) = .ok v w' := h
        injection this with _ h; exact h.symm
      | none => cases h
    | _ => cases h
  rw [this _ _ _ key] at key
  exact key

theorem resA_run {env : List AV} {H : Heap} {w : World} {a : Act} : ∀ {rs : List ResultVar} {vs : List AV} {ps : List Ob} {E : Emb}, resA P env H rs = some (vs, ps) → AllP ps → RelE env H E w a →
    ∃ (xs : List Value) (E' : Emb), (rs.mapM (resF a.tmps)).run P w = .ok xs w ∧ RelE env H E' w a ∧ Ext H E w H E' w ∧ vs.length = xs.length ∧ ∀ k, k < vs.length → VR H E' w (nth vs k) (xs.getD k undef)
  | [], vs, ps, E, h, _, hR => by
    injection h with h; injection h with h _; subst h
    exact ⟨[], E, rfl, hR, Ext.refl _ _ _, rfl, fun k hk => by simp at hk⟩
  | .tmp t :: rs, vs, ps, E, h, hp, hR => by
    simp only [resA] at h
    split at h
    · rename_i vs1 ps1 h1
      injection h with h; injection h with h2 h3; subst h2 h3
      obtain ⟨xs, E', h4, h5, h6, h7, h8⟩ := resA_run h1 hp hR
      refine ⟨a.tmps.getD t undef :: xs, E', ?_, h5, h6, by simp [h7], fun k hk => ?_⟩
      · rw [List.mapM_cons, Sem.run_bind]
        have : (resF a.tmps (.tmp t)).run P w = .ok (a.tmps.getD t undef) w := rfl
        rw [this, Result.andThen_ok, Sem.run_bind, h4, Result.andThen_ok]
        rfl
      · cases k with
        | zero => exact h5.nth_ t
        | succ k => exact h8 k (by simpa using hk)
    · cases h
  | .cell c t :: rs, vs, ps, E, h, hp, hR => by
    simp only [resA] at h
    split at h
    · rename_i r vs1 ps1 hr h1
      split at h
      · rename_i hu
        injection h with h; injection h with h2 h3; subst h2 h3
        obtain ⟨v, w', h9, hpost⟩ := loadA_gives (fresh := 0) hR.heap (hR.nth_ c) hr (AllP.app.1 hp).1
        have h10 := resF_cell (tmps := a.tmps) h9
        have hw : w' = w := by
          have := still_bind (P := P) (s := Sem.pure ()) (f := fun _ => (Sem.pure () : Sem Unit)) (fun w v w' h => by cases h; rfl) (fun _ => fun w v w' h => by cases h; rfl)
          unfold Instr.loadAt at h9
          generalize a.tmps.getD c undef = x at h9
          cases x with
          | pointer p => cases p with
            | some q => exact still_loadVar t q _ _ _ h9
            | none => cases h9
          | _ => cases h9
        subst hw
        obtain ⟨E1, h11, h12, h13⟩ := hpost.ex
        rw [hu] at h11 h12 h13
        have hR1 : RelE env H E1 w' a := ⟨hR.len, fun k hk => (hR.val k hk).ext h13, hR.defers, h11⟩
        obtain ⟨xs, E', h4, h5, h6, h7, h8⟩ := resA_run h1 (AllP.app.1 hp).2 hR1
        refine ⟨v :: xs, E', ?_, h5, h13.trans h6, by simp [h7], fun k hk => ?_⟩
        · rw [List.mapM_cons, Sem.run_bind, h10, Result.andThen_ok, Sem.run_bind, h4, Result.andThen_ok]
          rfl
        · cases k with
          | zero => exact VR.ext h6 h12
          | succ k => exact h8 k (by simpa using hk)
      · cases h
    · cases h

def packV : List Value → Value
  | [v] => v
  | l => .tuple l.toArray
theorem results_run {fn : Func} {xs : List Value} {tmps : Array Value} {w : World} (h : (fn.results.toList.mapM (resF tmps)).run P w = .ok xs w) :
    (results fn tmps).run P w = .ok (packV xs) w := by
  have e : results fn tmps = (fn.results.mapM (resF tmps)) >>= fun vs => pure (if h : vs.size = 1 then vs[0] else .tuple vs) := by
    unfold results
    congr 1
  rw [e, Array.mapM_eq_mapM_toList, Sem.run_bind, Sem.run_map, h, Result.andThen_ok, Result.andThen_ok]
  match xs with
  | [] => rfl
  | [v] => rfl
  | a :: b :: m =>
    have : ¬ (a :: b :: m).toArray.size = 1 := by simp
    rw [dif_neg this]
    rfl

theorem packs_VR {H : Heap} {E : Emb} {w : World} {vs : List AV} {xs : List Value} (hl : vs.length = xs.length) (h : ∀ k, k < vs.length → VR H E w (nth vs k) (xs.getD k undef)) : VR H E w (oneA vs) (packV xs) := by
  match vs, xs, hl with
  | [], [], _ => exact .tup [] _ rfl fun k hk => by simp at hk
  | [v], [x], _ => exact h 0 (by simp)
  | v :: v' :: vs, x :: x' :: xs, hl => exact .tup _ _ (by simpa using hl) fun k hk => by rw [getD_ofList]; exact h k hk

/-- **The end of a function**: its results, the objects put in order. -/
theorem cont_end {fn : Func} {outs : List AO} {r : AV} {s : St} {vs : List AV} {ps : List Ob} (h0 : HOk (hp 0 objs0) E0 w0) (ht : resA P s.env s.heap fn.results.toList = some (vs, ps)) (hps : AllP ps) (L : List Nat)
    (h : Lands objs0.length [oneA vs] s.heap L [r] outs) : Cont P (fin P fn objs0 r outs E0 w0) B (hp 0 objs0) E0 w0 s [] := by
  intro E w a hR hX _
  obtain ⟨xs, E1, h5, hR1, hX1, h6, h7⟩ := resA_run ht hps hR
  obtain ⟨h1, h2, _, h4⟩ := h.pull h0 hR1.heap (hX.trans hX1)
  exact ⟨hR.defers, _, results_run h5, _, _, rfl, h1, h4 0 _ (by simp) (packs_VR h6 h7), h2⟩

/-- The same; rows among the results are told by their elements. -/
theorem cont_end_thaw {fn : Func} {outs : List AO} {r : AV} {s : St} {vs : List AV} {ps : List Ob} (h0 : HOk (hp 0 objs0) E0 w0) (ht : resA P s.env s.heap fn.results.toList = some (vs, ps)) (hps : AllP ps) (L : List Nat)
    (hp1 : presentN s.heap (thawed s.heap (oneA vs)).1 = true) (hps' : AllP (thawed s.heap (oneA vs)).2)
    (h : Lands objs0.length [thaw s.heap (oneA vs)] (lets s.heap (thawed s.heap (oneA vs)).1) L [r] outs) : Cont P (fin P fn objs0 r outs E0 w0) B (hp 0 objs0) E0 w0 s [] := by
  intro E w a hR hX _
  obtain ⟨xs, E1, h5, hR1, hX1, h6, h7⟩ := resA_run ht hps hR
  have hpr := (presentN_iff _ _).1 hp1
  obtain ⟨x1, hH1⟩ := hR1.heap.lends _ hpr
  have hv := thaw_VR hR1.heap hpr (packs_VR h6 h7) hps' fun id hid => hid
  obtain ⟨h1, h2, _, h4⟩ := h.pull h0 hH1 ((hX.trans hX1).trans x1)
  exact ⟨hR.defers, _, results_run h5, _, _, rfl, h1, h4 0 _ (by simp) hv, h2⟩
end
end Go.AI
