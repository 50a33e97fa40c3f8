import Derived.Test.YtjgddhjjcgndaaaAIReg
/- Code, loops, and what a function does. -/
set_option linter.unusedVariables false
set_option linter.unusedSimpArgs false
namespace Go.AI

def backs : List It → Nat
  | [] => 0
  | .back :: k => backs k + 1
  | _ :: k => backs k

/-- What must hold when the code ahead of these items ends so. B: what must hold at the foot of each loop round (by how many loops stand around it). -/
def post (P : Program) (F : Exit → Act → World → Prop) (B : Nat → Act → World → Prop) : List It → Exit → Act → World → Prop
  | [] => F
  | .code c :: k => Exit.then (fun a w => c.wp P (post P F B k) a w) (post P F B k)
  | .blk id :: k => Exit.inBlock id (post P F B k)
  | .back :: k => Exit.then (B (backs k)) (post P F B k)

section
variable {P : Program} {hk : Hook} {F : Exit → Act → World → Prop} {B : Nat → Act → World → Prop}

theorem post_exit {id : Nat} {a : Act} {w : World} : ∀ {k k' : List It}, exitIt id k = some k' → post P F B k' .normal a w → post P F B k (.exit id) a w
  | [], _, h, _ => by cases h
  | .blk j :: l, k', h, hp => by
    simp only [exitIt] at h
    simp only [post, Exit.inBlock]
    split at h
    · rename_i hj
      have hj := Nat.eq_of_beq_eq_true hj
      injection h with h
      subst h hj
      simp [hp]
    · rename_i hj
      have : ¬ id = j := fun e => by subst e; simp at hj
      rw [if_neg this]
      exact post_exit h hp
  | .code c :: l, k', h, hp => by simpa only [post, Exit.then] using post_exit (k := l) h hp
  | .back :: l, k', h, hp => by simpa only [post, Exit.then] using post_exit (k := l) h hp

theorem post_ret {a : Act} {w : World} : ∀ {k : List It}, F .ret a w → post P F B k .ret a w
  | [], h => h
  | .blk j :: l, h => by simpa only [post, Exit.inBlock] using post_ret (k := l) h
  | .code c :: l, h => by simpa only [post, Exit.then] using post_ret (k := l) h
  | .back :: l, h => by simpa only [post, Exit.then] using post_ret (k := l) h

/-- From this state all goes well: whatever the world, if it has come here from the start. -/
def Cont (P : Program) (F : Exit → Act → World → Prop) (B : Nat → Act → World → Prop) (H0 : Heap) (E0 : Emb) (w0 : World) (s : St) (todo : List It) : Prop :=
  ∀ E w a, RelE s.env s.heap E w a → Ext H0 E0 w0 s.heap E w → (∀ k, s.next ≤ k → get s.heap k = none) → post P F B todo .normal a w

theorem regionA_ps {ops : Array Oper} {draw : Bool} {next : Nat} {env env' : List AV} {H H' : Heap} {bs bs' : List Bool} {ps ps' : List Ob}
    (h : regionA P hk ops draw next env H bs ps = some (env', H', bs', ps')) (hp : AllP ps') : AllP ps := by
  unfold regionA at h
  split at h
  · cases h
  · split at h
    · cases h
    · rename_i hr
      split at h
      · injection h with h; injection h with _ h; injection h with _ h; injection h with _ h; subst h; exact runD_ps hr hp
      · split at h
        · injection h with h; injection h with _ h; injection h with _ h; injection h with _ h; subst h; exact runD_ps hr hp
        · cases h

theorem run_ps : ∀ {au : Bool} {n : Nat} {todo : List It} {s : St} {bs : List Bool} {ps : List Ob} {o : Out}, run P hk au n todo s bs ps = some o → AllP o.ps → AllP ps
  | _, 0, todo, s, bs, ps, o, h, hp => by injection h with h; subst h; exact hp
  | au, n + 1, todo, s, bs, ps, o, h, hp => by
    unfold run at h
    split at h
    · injection h with h; subst h; exact hp
    · exact run_ps h hp
    · injection h with h; subst h; exact hp
    · split at h
      · exact run_ps h hp
      · exact run_ps h hp
      · exact run_ps h hp
      · exact run_ps h hp
      · split at h
        · exact run_ps h hp
        · cases h
      · injection h with h; subst h; exact hp
      · split at h
        · exact (run_ps h hp).2
        · exact (run_ps h hp).2
        · split at h
          · injection h with h; subst h; exact hp
          · split at h
            · exact run_ps h hp
            · exact run_ps h hp
        · cases h
      · split at h
        · rename_i hr
          exact regionA_ps hr (run_ps h hp)
        · cases h
      · injection h with h; subst h; exact hp

theorem boolOf_eval {env : List AV} {H : Heap} {E : Emb} {w : World} {a : Act} (hR : RelE env H E w a) {c : Operand} {b : Bool} (hb : boolOf? (evalO env c) = some b) : a.eval c = .bool b := by
  have := hR.eval c
  unfold boolOf? at hb
  split at hb
  · rename_i e; injection hb with hb; subst hb; rw [e] at this; exact this.sc_
  · cases hb

/-- **The evaluator tells the truth.** -/
theorem run_sound (hCT : HookOK P hk) (hm : P.follows .mixedOrders = true) (hF : ∀ a w, F .normal a w → F .ret a w) {H0 : Heap} {E0 : Emb} {w0 : World} :
    ∀ {au : Bool} {n : Nat} {todo : List It} {s : St} {bs : List Bool} {ps : List Ob} {o : Out}, run P hk au n todo s bs ps = some o → AllP o.ps →
      Cont P F B H0 E0 w0 o.st o.todo → Cont P F B H0 E0 w0 s todo
  | _, 0, todo, s, bs, ps, o, h, hp, hc => by injection h with h; subst h; exact hc
  | au, n + 1, todo, s, bs, ps, o, h, hp, hc => by
    unfold run at h
    split at h
    · injection h with h; subst h; exact hc
    · rename_i id k
      have := run_sound hCT hm hF h hp hc
      intro E w a h1 h2 h3
      simpa only [post, Exit.inBlock] using this E w a h1 h2 h3
    · injection h with h; subst h; exact hc
    · rename_i c k
      split at h
      · have := run_sound hCT hm hF h hp hc
        intro E w a h1 h2 h3
        simpa only [post, Exit.then] using wp_skip (this E w a h1 h2 h3)
      · have := run_sound hCT hm hF h hp hc
        intro E w a h1 h2 h3
        simpa only [post, Exit.then] using wp_label (this E w a h1 h2 h3)
      · rename_i x y
        have := run_sound hCT hm hF h hp hc
        intro E w a h1 h2 h3
        have h4 := this E w a h1 h2 h3
        simp only [post, Exit.then] at h4 ⊢
        exact wp_seq h4
      · rename_i id c
        have := run_sound hCT hm hF h hp hc
        intro E w a h1 h2 h3
        have h4 := this E w a h1 h2 h3
        simp only [post, Exit.then] at h4 ⊢
        exact wp_block h4
      · rename_i id
        split at h
        · rename_i k' hk'
          have := run_sound hCT hm hF h hp hc
          intro E w a h1 h2 h3
          simp only [post, Exit.then]
          exact wp_exit (post_exit hk' (this E w a h1 h2 h3))
        · cases h
      · injection h with h; subst h
        intro E w a h1 h2 h3
        have h4 := hc E w a h1 h2 h3
        simp only [post, Exit.then] at h4 ⊢
        exact wp_ret (post_ret (hF _ _ h4))
      · rename_i x y z
        split at h
        · rename_i b bs' hb
          have h5 := (run_ps h hp).1
          have := run_sound hCT hm hF h hp hc
          intro E w a h1 h2 h3
          have h4 := this E w a h1 h2 h3
          simp only [post, Exit.then] at h4 ⊢
          exact wp_cond_true (by rw [boolOf_eval h1 hb, h5]) h4
        · rename_i b bs' hb
          have h5 := (run_ps h hp).1
          have := run_sound hCT hm hF h hp hc
          intro E w a h1 h2 h3
          have h4 := this E w a h1 h2 h3
          simp only [post, Exit.then] at h4 ⊢
          exact wp_cond_false (by rw [boolOf_eval h1 hb, h5]) h4
        · rename_i b hb
          split at h
          · injection h with h; subst h; exact hc
          · split at h
            · have := run_sound hCT hm hF h hp hc
              intro E w a h1 h2 h3
              have h4 := this E w a h1 h2 h3
              simp only [post, Exit.then] at h4 ⊢
              exact wp_cond_true (by rw [boolOf_eval h1 hb]) h4
            · have := run_sound hCT hm hF h hp hc
              intro E w a h1 h2 h3
              have h4 := this E w a h1 h2 h3
              simp only [post, Exit.then] at h4 ⊢
              exact wp_cond_false (by rw [boolOf_eval h1 hb]) h4
        · cases h
      · rename_i rid ops draw
        split at h
        · rename_i env' H' bs' ps' hr
          have := run_sound hCT hm hF h hp hc
          intro E w a h1 h2 h3
          simp only [post, Exit.then]
          refine region_wp hCT hm hr (run_ps h hp) h1 h3 fun E' w' a' h4 h5 h6 => ?_
          exact this E' w' a' h4 (h2.trans h5) h6
        · cases h
      · injection h with h; subst h; exact hc

/-- A condition on which nothing is decided: both ways. -/
theorem cont_cond {H0 : Heap} {E0 : Emb} {w0 : World} {s : St} {c : Operand} {x y : Code} {k : List It} {b : Bool} (hb : boolOf? (evalO s.env c) = some b)
    (ht : b = true → Cont P F B H0 E0 w0 s (.code x :: k)) (hf : b = false → Cont P F B H0 E0 w0 s (.code y :: k)) : Cont P F B H0 E0 w0 s (.code (.cond c x y) :: k) := by
  intro E w a h1 h2 h3
  simp only [post, Exit.then]
  cases hbb : b with
  | true => exact wp_cond_true (by rw [boolOf_eval h1 hb, hbb]) (ht hbb E w a h1 h2 h3)
  | false => exact wp_cond_false (by rw [boolOf_eval h1 hb, hbb]) (hf hbb E w a h1 h2 h3)
end

section
variable {P : Program} {hk : Hook} {F : Exit → Act → World → Prop} {B : Nat → Act → World → Prop}

/-- **A loop.** A family of states that the head of the loop meets, each round from one to a smaller one; what the states are is said by 'J' (a set of states, with a measure). -/
theorem cont_loop {ι : Type} (st : ι → St) (I : ι → Prop) (μ : ι → Nat) {H0 : Heap} {E0 : Emb} {w0 : World} {s : St} {c : Code} {k : List It}
    (hstart : ∀ E w a, RelE s.env s.heap E w a → Ext H0 E0 w0 s.heap E w → (∀ k, s.next ≤ k → get s.heap k = none) →
      ∃ i E', I i ∧ RelE (st i).env (st i).heap E' w a ∧ Ext H0 E0 w0 (st i).heap E' w ∧ (∀ k, (st i).next ≤ k → get (st i).heap k = none))
    (hround : ∀ i, I i → Cont P F (fun n => if n = backs k then fun a w => ∃ j E', I j ∧ μ j < μ i ∧ RelE (st j).env (st j).heap E' w a ∧ Ext H0 E0 w0 (st j).heap E' w ∧ (∀ k, (st j).next ≤ k → get (st j).heap k = none) else B n)
      H0 E0 w0 (st i) (.code c :: .back :: k)) : Cont P F B H0 E0 w0 s (.code (.loop c) :: k) := by
  intro E w a h1 h2 h3
  obtain ⟨i, E', hi, h4, h5, h6⟩ := hstart E w a h1 h2 h3
  simp only [post, Exit.then]
  have hpost : ∀ (B1 B2 : Nat → Act → World → Prop) (k : List It), (∀ n, n < backs k → B1 n = B2 n) → post P F B1 k = post P F B2 k := by
    intro B1 B2 k
    induction k with
    | nil => intro _; rfl
    | cons x k ih =>
      intro h
      cases x with
      | code c => simp only [post]; rw [ih (by simpa [backs] using h)]
      | blk id => simp only [post]; rw [ih (by simpa [backs] using h)]
      | back => simp only [post]; rw [ih (fun n hn => h n (by simp [backs]; omega)), h (backs k) (by simp [backs])]
  have key : ∀ n i a w, μ i = n → I i → (∃ E', RelE (st i).env (st i).heap E' w a ∧ Ext H0 E0 w0 (st i).heap E' w ∧ (∀ k, (st i).next ≤ k → get (st i).heap k = none)) → True := fun _ _ _ _ _ _ _ => trivial
  classical
  let Inv : Act → World → Nat → Prop := fun a w n => ∃ j E', I j ∧ μ j = n ∧ RelE (st j).env (st j).heap E' w a ∧ Ext H0 E0 w0 (st j).heap E' w ∧ (∀ k, (st j).next ≤ k → get (st j).heap k = none)
  -- the least measure that fits
  have hmin : ∀ (n : Nat) (p : Nat → Prop), p n → ∃ m, p m ∧ ∀ q, p q → m ≤ q := by
    intro n
    induction n using Nat.strongRecOn with
    | _ n ih =>
      intro p hp
      by_cases h : ∃ q, q < n ∧ p q
      · obtain ⟨q, hq, hpq⟩ := h; exact ih q hq p hpq
      · exact ⟨n, hp, fun q hq => Nat.le_of_not_lt fun hlt => h ⟨q, hlt, hq⟩⟩
  let M : Act → World → Nat := fun a w => if h : ∃ n, Inv a w n then Classical.choose (hmin h.choose (Inv a w) h.choose_spec) else 0
  have hM : ∀ a w n, Inv a w n → Inv a w (M a w) ∧ M a w ≤ n := by
    intro a w n hn
    have h : ∃ n, Inv a w n := ⟨n, hn⟩
    have e : M a w = Classical.choose (hmin h.choose (Inv a w) h.choose_spec) := dif_pos h
    rw [e]
    have := Classical.choose_spec (hmin h.choose (Inv a w) h.choose_spec)
    exact ⟨this.1, this.2 n hn⟩
  refine wp_loop (fun a w => ∃ n, Inv a w n) M ⟨_, i, E', hi, rfl, h4, h5, h6⟩ fun a w hI => ?_
  obtain ⟨n, hn⟩ := hI
  obtain ⟨⟨j, Ej, hj, hμ, h7, h8, h9⟩, _⟩ := hM a w n hn
  have := hround j hj Ej w a h7 h8 h9
  simp only [post, Exit.then, ite_true] at this
  rw [hpost _ B k (fun n hn => by simp [Nat.ne_of_lt hn])] at this
  refine wp_mono this fun e a' w' he => ?_
  cases e <;> first
    | exact he
    | skip
  obtain ⟨j', E'', hj', hlt, h10, h11, h12⟩ := he
  have hI' : Inv a' w' (μ j') := ⟨j', E'', hj', rfl, h10, h11, h12⟩
  exact ⟨⟨_, hI'⟩, by have := (hM a' w' _ hI').2; omega⟩

/-- The foot of a loop round. -/
theorem cont_back {H0 : Heap} {E0 : Emb} {w0 : World} {s : St} {k : List It}
    (h : ∀ E w a, RelE s.env s.heap E w a → Ext H0 E0 w0 s.heap E w → (∀ k, s.next ≤ k → get s.heap k = none) → B (backs k) a w) : Cont P F B H0 E0 w0 s (.back :: k) := by
  intro E w a h1 h2 h3
  simpa only [post, Exit.then] using h E w a h1 h2 h3
end
end Go.AI
