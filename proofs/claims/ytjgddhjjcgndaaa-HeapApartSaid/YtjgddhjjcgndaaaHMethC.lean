import Derived.Test.YtjgddhjjcgndaaaHMeth
/- What the heap's calls come to, of the program and of the document. Printed by gen/methc.py. -/
set_option linter.unusedVariables false
set_option linter.unusedSimpArgs false
namespace Go.Proofs.Ytjgddhjjcgndaaa
open Go.AI
set_option maxRecDepth 100000
namespace flt
def setN (ns : Nat → Nd) (k : Nat) (x : Nd) : Nat → Nd := fun i => if i = k then x else ns i
def addN {α : Type} (ns : Nat → α) (n : Nat) (x : α) : Nat → α := fun i => if i < n then ns i else x
def nI (x : Nd) : List IV := [.sc (.int .i64 x.st), .sc (.int .i64 x.tag), .sc (.int .i64 x.c.kind), .sc (.complex .f64 x.c.re x.c.im), .sc (.bool x.c.b), .sc (.int .i64 x.c.loc)]
def pI (a b : Cl) : List IV := [.sc (.int .i64 a.kind), .sc (.complex .f64 a.re a.im), .sc (.bool a.b), .sc (.int .i64 a.loc), .sc (.int .i64 b.kind), .sc (.complex .f64 b.re b.im), .sc (.bool b.b), .sc (.int .i64 b.loc)]
theorem setF_node (ns : Nat → Nd) (k : Nat) (x : Nd) : ∀ i j, j < 6 → nodeF (setN ns k x) i j = setF (nodeF ns) k 0 (nI x) i j := by
  intro i j hj
  by_cases h : i = k
  · subst h
    have e : setN ns i x i = x := by simp [setN]
    match j, hj with
    | 0, _ | 1, _ | 2, _ | 3, _ | 4, _ | 5, _ => simp [setF, nodeF, e, nI, nthI, lenN, nble]
  · have e : setN ns k x i = ns i := by simp [setN, h]
    have e2 : Nat.beq i k = false := by simp [nbeq, h]
    simp only [setF, e2]
    match j, hj with
    | 0, _ | 1, _ | 2, _ | 3, _ | 4, _ | 5, _ => simp [nodeF, e]
theorem one_node (x : Nd) : ∀ i j, i < 1 → j < 6 → nodeF (fun _ => x) i j = rowF 6 (nI x) (0 + i) j := by
  intro i j hi hj
  obtain rfl : i = 0 := by omega
  match j, hj with
  | 0, _ | 1, _ | 2, _ | 3, _ | 4, _ | 5, _ => rfl
theorem one_pair (a b : Cl) : ∀ i j, i < 1 → j < 8 → pairF (fun _ => (a, b)) i j = rowF 8 (pI a b) (0 + i) j := by
  intro i j hi hj
  obtain rfl : i = 0 := by omega
  match j, hj with
  | 0, _ | 1, _ | 2, _ | 3, _ | 4, _ | 5, _ | 6, _ | 7, _ => rfl
theorem cat_node (ns : Nat → Nd) (n : Nat) (x : Nd) : ∀ i j, i < n + 1 → j < 6 → nodeF (addN ns n x) i j = catF n (nodeF ns) (fun i j => rowF 6 (nI x) (0 + i) j) i j := by
  intro i j hi hj
  by_cases h : i < n
  · have e : addN ns n x i = ns i := by simp [addN, h]
    have e2 : Nat.ble (i + 1) n = true := by simp [nble]; omega
    simp only [catF, e2]
    match j, hj with
    | 0, _ | 1, _ | 2, _ | 3, _ | 4, _ | 5, _ => simp [nodeF, e]
  · obtain rfl : i = n := by omega
    have e2 : Nat.ble (i + 1) i = false := by simp [nble]
    have e : addN ns i x i = x := by simp [addN]
    simp only [catF, e2, Nat.sub_self, ← one_node x 0 j (by omega) hj]
    match j, hj with
    | 0, _ | 1, _ | 2, _ | 3, _ | 4, _ | 5, _ => simp [nodeF, e]
theorem cat_pair (ps : Nat → Cl × Cl) (n : Nat) (a b : Cl) : ∀ i j, i < n + 1 → j < 8 → pairF (addN ps n (a, b)) i j = catF n (pairF ps) (fun i j => rowF 8 (pI a b) (0 + i) j) i j := by
  intro i j hi hj
  by_cases h : i < n
  · have e : addN ps n (a, b) i = ps i := by simp [addN, h]
    have e2 : Nat.ble (i + 1) n = true := by simp [nble]; omega
    simp only [catF, e2]
    match j, hj with
    | 0, _ | 1, _ | 2, _ | 3, _ | 4, _ | 5, _ | 6, _ | 7, _ => simp [pairF, e]
  · obtain rfl : i = n := by omega
    have e2 : Nat.ble (i + 1) i = false := by simp [nble]
    have e : addN ps i (a, b) i = (a, b) := by simp [addN]
    simp only [catF, e2, Nat.sub_self, ← one_pair a b 0 j (by omega) hj]
    match j, hj with
    | 0, _ | 1, _ | 2, _ | 3, _ | 4, _ | 5, _ | 6, _ | 7, _ => simp [pairF, e]
theorem hRaw_le {T E : Nat} {sn sp : Bool} {vn vp n p : Nat} {F F' G G' : Nat → Nat → IV} {t u : Int} (hF : ∀ i j, i < n → j < 6 → F i j = F' i j) (hG : ∀ i j, i < p → j < 8 → G i j = G' i j) :
    leOs (hRaw T E sn sp vn vp n p F G t u) (hRaw T E sn sp vn vp n p F' G' t u) := by
  cases sn <;> cases sp <;> simp only [hRaw, leOs, List.nil_append, List.cons_append]
  · exact ⟨leO_refl _, trivial⟩
  · exact ⟨leO_refl _, ⟨rfl, rfl, rfl, rfl, hG⟩, trivial⟩
  · exact ⟨leO_refl _, ⟨rfl, rfl, rfl, rfl, hF⟩, trivial⟩
  · exact ⟨leO_refl _, ⟨rfl, rfl, rfl, rfl, hF⟩, ⟨rfl, rfl, rfl, rfl, hG⟩, trivial⟩
def enterN (ns : Nat → Nd) (n : Nat) (l : Int) : Nd := bif lookE n l != 0 then lookN ns n l else bif (lookN ns n l).st == 2 then zN else bif (lookN ns n l).st == 4 then zN else lookN ns n l
def enterE (ns : Nat → Nd) (n : Nat) (l : Int) : Int := bif lookE n l != 0 then lookE n l else bif (lookN ns n l).st == 2 then 53 else bif (lookN ns n l).st == 4 then 54 else 0
def enterNs (ns : Nat → Nd) (n : Nat) (l : Int) : Nat → Nd := bif lookE n l != 0 then ns else bif (lookN ns n l).st == 2 then ns else bif (lookN ns n l).st == 4 then ns else bif (lookN ns n l).st == 1 then setN ns (0 + l.toNat) ⟨2, 0, zC⟩ else ns
def updOk (ns : Nat → Nd) (n p : Nat) (l : Int) (c : Cl) : Bool := !((lookN ns n l).st != 2) && (!(c.kind == 5) && cellS n p c)
def updE (ns : Nat → Nd) (n p : Nat) (l : Int) (c : Cl) : Int := bif lookE n l != 0 then lookE n l else bif updOk ns n p l c then 0 else 3
def updNs (ns : Nat → Nd) (n p : Nat) (l : Int) (c : Cl) : Nat → Nd := bif lookE n l != 0 then ns else bif updOk ns n p l c then setN ns (0 + l.toNat) ⟨3, 0, c⟩ else ns
def updU (ns : Nat → Nd) (n p : Nat) (l : Int) (c : Cl) (u : Int) : Int := bif lookE n l != 0 then u else bif updOk ns n p l c then IntKind.i64.wrap (u + 1) else u
theorem look_pos {n : Nat} {l : Int} (h : (lookE n l != 0) = false) : 0 < n ∧ 0 + l.toNat < n ∧ 0 ≤ l ∧ l < (n : Int) := by
  cases hb : inB n l with
  | false => simp [lookE, hb] at h
  | true => simp [inB] at hb; omega
/-- Behind Delay or Poison: a node more. -/
def growN (T E : Nat) (sn sp : Bool) (vn vp n p : Nat) (ns : Nat → Nd) (ps : Nat → Cl × Cl) (x : Nd) (t u : Int) : List AO := match sn, sp with
  | true, sp => hObj T E true sp (vn + 1) vp (n + 1) p (addN ns n x) ps t u
  | false, false => hObj T E true false 0 vp 1 p (fun _ => x) ps t u
  | false, true => [.cells T [.row 2 0 6 0 1, .row 1 vp 8 0 p, vi t, vi u], .row E 8 vp p (pairF ps), .row 55 6 0 1 (nodeF fun _ => x)]
/-- Behind Pair: a pair more. -/
def growP (T E : Nat) (sn sp : Bool) (vn vp n p : Nat) (ns : Nat → Nd) (ps : Nat → Cl × Cl) (a b : Cl) (t u : Int) : List AO := match sp with
  | true => hObj T E sn true vn (vp + 1) n (p + 1) ns (addN ps p (a, b)) t u
  | false => hObj T E sn true vn 0 n 1 ns (fun _ => (a, b)) t u
def newAt (b : Bool) (n : Nat) : Int := match b with
  | true => IntKind.i64.wrap (((n + 1 : Nat) : Int) - 1)
  | false => 0
section
variable {sn sp : Bool} {vn vp n p : Nat} {ns : Nat → Nd} {ps : Nat → Cl × Cl} {t u : Int}

theorem enterC_p (hn : sn = false → n = 0) (hp : sp = false → p = 0) (l : Int) : Contract Try.prog 15 [.ptr 0 0, vi l] (hObj 68 82 sn sp vn vp n p ns ps t u) (.tup [.agg (nA (enterN ns n l)), vi (enterE ns n l)]) (hObj 68 82 sn sp vn vp n p (enterNs ns n l) ps t u) := by
  have ok := evalF_ok (hookM_ok (sn := sn) (sp := sp) (vn := vn) (vp := vp) (n := n) (p := p) (ns := ns) (ps := ps) (t := t) (u := u) hn hp) Try.mixed 8
  unfold enterN enterE enterNs
  cases h0 : (lookE n l != 0) with
  | true => simp only [cond_true]; exact path ok Try.mixed (enter_p_0 l vn vp n p ns ps t u hn hp) (by repeat' first | assumption | exact trivial | rfl | refine ⟨?_, ?_⟩)
  | false =>
    obtain ⟨g0, g1, g2, g3⟩ := look_pos h0
    have hsn : sn = true := by
      cases sn with
      | true => rfl
      | false => have := hn rfl; omega
    cases h1 : ((lookN ns n l).st == 2) with
    | true => simp only [cond_true, cond_false]; exact path ok Try.mixed (enter_p_1 l vn vp n p ns ps t u hn hp) (by repeat' first | assumption | exact trivial | rfl | refine ⟨?_, ?_⟩)
    | false => cases h2 : ((lookN ns n l).st == 4) with
      | true => simp only [cond_true, cond_false]; exact path ok Try.mixed (enter_p_2 l vn vp n p ns ps t u hn hp) (by repeat' first | assumption | exact trivial | rfl | refine ⟨?_, ?_⟩)
      | false => cases h3 : ((lookN ns n l).st == 1) with
        | false => simp only [cond_false]; exact path ok Try.mixed (enter_p_4 l vn vp n p ns ps t u hn hp) (by repeat' first | assumption | exact trivial | rfl | refine ⟨?_, ?_⟩)
        | true =>
          subst hsn; simp only [cond_true, cond_false]
          exact path_le ok Try.mixed (enter_p_3 l vn vp n p ns ps t u hp) (by repeat' first | assumption | exact trivial | rfl | refine ⟨?_, ?_⟩) (hRaw_le (G := pairF ps) (G' := pairF ps) (fun i j _ hj => setF_node ns _ ⟨2, 0, zC⟩ i j hj) (fun _ _ _ _ => rfl)) (leA_refl _) (by cases sp <;> rfl)
theorem updC_p (hn : sn = false → n = 0) (hp : sp = false → p = 0) (l : Int) (c : Cl) : Contract Try.prog 16 [.ptr 0 0, vi l, .agg (cA c)] (hObj 68 82 sn sp vn vp n p ns ps t u) (vi (updE ns n p l c)) (hObj 68 82 sn sp vn vp n p (updNs ns n p l c) ps t (updU ns n p l c u)) := by
  have ok := evalF_ok (hookM_ok (sn := sn) (sp := sp) (vn := vn) (vp := vp) (n := n) (p := p) (ns := ns) (ps := ps) (t := t) (u := u) hn hp) Try.mixed 8
  unfold updE updNs updU
  cases h0 : (lookE n l != 0) with
  | true => simp only [cond_true]; exact path ok Try.mixed (update_p_0 l c vn vp n p ns ps t u hn hp) (by repeat' first | assumption | exact trivial | rfl | refine ⟨?_, ?_⟩)
  | false =>
    obtain ⟨g0, g1, g2, g3⟩ := look_pos h0
    have hsn : sn = true := by
      cases sn with
      | true => rfl
      | false => have := hn rfl; omega
    cases h1 : ((lookN ns n l).st != 2) with
    | true => simp only [updOk, h1, Bool.not_true, Bool.false_and, cond_false]; exact path ok Try.mixed (update_p_1 l c vn vp n p ns ps t u hn hp) (by repeat' first | assumption | exact trivial | rfl | refine ⟨?_, ?_⟩)
    | false => cases h2 : (c.kind == 5) with
      | true => simp only [updOk, h1, h2, Bool.not_true, Bool.not_false, Bool.true_and, Bool.false_and, cond_false]; exact path ok Try.mixed (update_p_2 l c vn vp n p ns ps t u hn hp) (by repeat' first | assumption | exact trivial | rfl | refine ⟨?_, ?_⟩)
      | false => cases h3 : cellS n p c with
        | false =>
          have h4 : (!cellS n p c) = true := by rw [h3]; rfl
          simp only [updOk, h1, h2, h3, Bool.not_true, Bool.not_false, Bool.true_and, Bool.false_and, Bool.and_true, Bool.and_false, cond_true, cond_false]; exact path ok Try.mixed (update_p_3 l c vn vp n p ns ps t u hn hp) (by repeat' first | assumption | exact trivial | rfl | refine ⟨?_, ?_⟩)
        | true =>
          have h4 : (!cellS n p c) = false := by rw [h3]; rfl
          subst hsn; simp only [updOk, h1, h2, h3, Bool.not_true, Bool.not_false, Bool.true_and, Bool.false_and, Bool.and_true, Bool.and_false, cond_true, cond_false]
          exact path_le ok Try.mixed (update_p_4 l c vn vp n p ns ps t u hp) (by repeat' first | assumption | exact trivial | rfl | refine ⟨?_, ?_⟩) (hRaw_le (G := pairF ps) (G' := pairF ps) (fun i j _ hj => setF_node ns _ ⟨3, 0, c⟩ i j hj) (fun _ _ _ _ => rfl)) (leA_refl _) (by cases sp <;> rfl)
theorem delayC_p (hn : sn = false → n = 0) (hp : sp = false → p = 0) (l : Int) (hb : (n + 1) * 56 ≤ 140737488355328) : Contract Try.prog 9 [.ptr 0 0, vi l] (hObj 68 82 sn sp vn vp n p ns ps t u) (.tup [vi (newAt sn n), vi 0]) (growN 68 82 sn sp vn vp n p ns ps ⟨1, l, zC⟩ (IntKind.i64.wrap (t + 1)) u) := by
  have ok := evalF_ok (hookM_ok (sn := sn) (sp := sp) (vn := vn) (vp := vp) (n := n) (p := p) (ns := ns) (ps := ps) (t := t) (u := u) hn hp) Try.mixed 8
  cases sn with
  | true => cases sp with
    | true => exact path_le ok Try.mixed (delay_p_tt_0 l vn vp n p ns ps t u) ⟨rfl, Nat.le_refl _, hb, trivial⟩ (hRaw_le (E := 82) (G := pairF ps) (G' := pairF ps) (fun i j hi hj => cat_node ns n ⟨1, l, zC⟩ i j hi hj) (fun _ _ _ _ => rfl)) (leA_refl _) rfl
    | false => exact path_le ok Try.mixed (delay_p_tf_0 l vn vp n p ns ps t u) ⟨rfl, Nat.le_refl _, hb, trivial⟩ (hRaw_le (E := 82) (G := pairF ps) (G' := pairF ps) (fun i j hi hj => cat_node ns n ⟨1, l, zC⟩ i j hi hj) (fun _ _ _ _ => rfl)) (leA_refl _) rfl
  | false =>
    have := hn rfl; subst this
    cases sp with
    | false => exact path_le ok Try.mixed (delay_p_ff_0 l vn vp 0 p ns ps t u) trivial (hRaw_le (E := 82) (G := pairF ps) (G' := pairF ps) (fun i j hi hj => one_node ⟨1, l, zC⟩ i j hi hj) (fun _ _ _ _ => rfl)) (leA_refl _) rfl
    | true => exact path_le ok Try.mixed (delay_p_ft_0 l vn vp 0 p ns ps t u) trivial ⟨leO_refl _, leO_refl _, ⟨rfl, rfl, rfl, rfl, fun i j hi hj => one_node ⟨1, l, zC⟩ i j hi hj⟩, trivial⟩ (leA_refl _) rfl
theorem poisonC_p (hn : sn = false → n = 0) (hp : sp = false → p = 0) (hb : (n + 1) * 56 ≤ 140737488355328) : Contract Try.prog 10 [.ptr 0 0] (hObj 68 82 sn sp vn vp n p ns ps t u) (.tup [vi (newAt sn n), vi 0]) (growN 68 82 sn sp vn vp n p ns ps ⟨4, 0, zC⟩ t u) := by
  have ok := evalF_ok (hookM_ok (sn := sn) (sp := sp) (vn := vn) (vp := vp) (n := n) (p := p) (ns := ns) (ps := ps) (t := t) (u := u) hn hp) Try.mixed 8
  cases sn with
  | true => cases sp with
    | true => exact path_le ok Try.mixed (poison_p_tt_0 vn vp n p ns ps t u) ⟨rfl, Nat.le_refl _, hb, trivial⟩ (hRaw_le (E := 82) (G := pairF ps) (G' := pairF ps) (fun i j hi hj => cat_node ns n ⟨4, 0, zC⟩ i j hi hj) (fun _ _ _ _ => rfl)) (leA_refl _) rfl
    | false => exact path_le ok Try.mixed (poison_p_tf_0 vn vp n p ns ps t u) ⟨rfl, Nat.le_refl _, hb, trivial⟩ (hRaw_le (E := 82) (G := pairF ps) (G' := pairF ps) (fun i j hi hj => cat_node ns n ⟨4, 0, zC⟩ i j hi hj) (fun _ _ _ _ => rfl)) (leA_refl _) rfl
  | false =>
    have := hn rfl; subst this
    cases sp with
    | false => exact path_le ok Try.mixed (poison_p_ff_0 vn vp 0 p ns ps t u) trivial (hRaw_le (E := 82) (G := pairF ps) (G' := pairF ps) (fun i j hi hj => one_node ⟨4, 0, zC⟩ i j hi hj) (fun _ _ _ _ => rfl)) (leA_refl _) rfl
    | true => exact path_le ok Try.mixed (poison_p_ft_0 vn vp 0 p ns ps t u) trivial ⟨leO_refl _, leO_refl _, ⟨rfl, rfl, rfl, rfl, fun i j hi hj => one_node ⟨4, 0, zC⟩ i j hi hj⟩, trivial⟩ (leA_refl _) rfl
theorem pairC_no_p (hn : sn = false → n = 0) (hp : sp = false → p = 0) (a b : Cl) (h : (cellS n p a && cellS n p b) = false) : Contract Try.prog 11 [.ptr 0 0, .agg (cA a), .agg (cA b)] (hObj 68 82 sn sp vn vp n p ns ps t u) (.tup [vi 0, vi 3]) (hObj 68 82 sn sp vn vp n p ns ps t u) := by
  have ok := evalF_ok (hookM_ok (sn := sn) (sp := sp) (vn := vn) (vp := vp) (n := n) (p := p) (ns := ns) (ps := ps) (t := t) (u := u) hn hp) Try.mixed 8
  cases h1 : cellS n p a with
  | false =>
    have h4 : (!cellS n p a) = true := by rw [h1]; rfl
    cases sn with
    | true => cases sp with
      | true => exact path ok Try.mixed (pair_p_tt_0 a b vn vp n p ns ps t u) (by repeat' first | assumption | exact trivial | rfl | refine ⟨?_, ?_⟩)
      | false => exact path ok Try.mixed (pair_p_tf_0 a b vn vp n p ns ps t u) (by repeat' first | assumption | exact trivial | rfl | refine ⟨?_, ?_⟩)
    | false => cases sp with
      | true => exact path ok Try.mixed (pair_p_ft_0 a b vn vp n p ns ps t u) (by repeat' first | assumption | exact trivial | rfl | refine ⟨?_, ?_⟩)
      | false => exact path ok Try.mixed (pair_p_ff_0 a b vn vp n p ns ps t u) (by repeat' first | assumption | exact trivial | rfl | refine ⟨?_, ?_⟩)
  | true =>
    have h4 : (!cellS n p a) = false := by rw [h1]; rfl
    have h5 : (!cellS n p b) = true := by rw [h1] at h; simpa using h
    cases sn with
    | true => cases sp with
      | true => exact path ok Try.mixed (pair_p_tt_1 a b vn vp n p ns ps t u) (by repeat' first | assumption | exact trivial | rfl | refine ⟨?_, ?_⟩)
      | false => exact path ok Try.mixed (pair_p_tf_1 a b vn vp n p ns ps t u) (by repeat' first | assumption | exact trivial | rfl | refine ⟨?_, ?_⟩)
    | false => cases sp with
      | true => exact path ok Try.mixed (pair_p_ft_1 a b vn vp n p ns ps t u) (by repeat' first | assumption | exact trivial | rfl | refine ⟨?_, ?_⟩)
      | false => exact path ok Try.mixed (pair_p_ff_1 a b vn vp n p ns ps t u) (by repeat' first | assumption | exact trivial | rfl | refine ⟨?_, ?_⟩)
theorem pairC_yes_p (hn : sn = false → n = 0) (hp : sp = false → p = 0) (a b : Cl) (h1 : cellS n p a = true) (h2 : cellS n p b = true) (hb : (p + 1) * 80 ≤ 140737488355328) : Contract Try.prog 11 [.ptr 0 0, .agg (cA a), .agg (cA b)] (hObj 68 82 sn sp vn vp n p ns ps t u) (.tup [vi (newAt sp p), vi 0]) (growP 68 82 sn sp vn vp n p ns ps a b t u) := by
  have ok := evalF_ok (hookM_ok (sn := sn) (sp := sp) (vn := vn) (vp := vp) (n := n) (p := p) (ns := ns) (ps := ps) (t := t) (u := u) hn hp) Try.mixed 8
  have h4 : (!cellS n p a) = false := by rw [h1]; rfl
  have h5 : (!cellS n p b) = false := by rw [h2]; rfl
  have h6 := Nat.le_refl p
  cases sn with
  | true => cases sp with
    | true => exact path_le ok Try.mixed (pair_p_tt_2 a b vn vp n p ns ps t u) (by repeat' first | assumption | exact trivial | rfl | refine ⟨?_, ?_⟩) (hRaw_le (F := nodeF ns) (F' := nodeF ns) (fun _ _ _ _ => rfl) (fun i j hi hj => cat_pair ps p a b i j hi hj)) (leA_refl _) rfl
    | false =>
      have := hp rfl; subst this
      exact path_le ok Try.mixed (pair_p_tf_2 a b vn vp n 0 ns ps t u) (by repeat' first | assumption | exact trivial | rfl | refine ⟨?_, ?_⟩) (hRaw_le (F := nodeF ns) (F' := nodeF ns) (fun _ _ _ _ => rfl) (fun i j hi hj => one_pair a b i j hi hj)) (leA_refl _) rfl
  | false => cases sp with
    | true => exact path_le ok Try.mixed (pair_p_ft_2 a b vn vp n p ns ps t u) (by repeat' first | assumption | exact trivial | rfl | refine ⟨?_, ?_⟩) (hRaw_le (F := nodeF ns) (F' := nodeF ns) (fun _ _ _ _ => rfl) (fun i j hi hj => cat_pair ps p a b i j hi hj)) (leA_refl _) rfl
    | false =>
      have := hp rfl; subst this
      exact path_le ok Try.mixed (pair_p_ff_2 a b vn vp n 0 ns ps t u) (by repeat' first | assumption | exact trivial | rfl | refine ⟨?_, ?_⟩) (hRaw_le (F := nodeF ns) (F' := nodeF ns) (fun _ _ _ _ => rfl) (fun i j hi hj => one_pair a b i j hi hj)) (leA_refl _) rfl
theorem enterC_d (hn : sn = false → n = 0) (hp : sp = false → p = 0) (l : Int) : Contract Try.prog 26 [.ptr 0 0, vi l] (hObj 32 76 sn sp vn vp n p ns ps t u) (.tup [.agg (nA (enterN ns n l)), vi (enterE ns n l)]) (hObj 32 76 sn sp vn vp n p (enterNs ns n l) ps t u) := by
  have ok := evalF_ok (hookM_ok (sn := sn) (sp := sp) (vn := vn) (vp := vp) (n := n) (p := p) (ns := ns) (ps := ps) (t := t) (u := u) hn hp) Try.mixed 8
  unfold enterN enterE enterNs
  cases h0 : (lookE n l != 0) with
  | true => simp only [cond_true]; exact path ok Try.mixed (enter_d_0 l vn vp n p ns ps t u hn hp) (by repeat' first | assumption | exact trivial | rfl | refine ⟨?_, ?_⟩)
  | false =>
    obtain ⟨g0, g1, g2, g3⟩ := look_pos h0
    have hsn : sn = true := by
      cases sn with
      | true => rfl
      | false => have := hn rfl; omega
    cases h1 : ((lookN ns n l).st == 2) with
    | true => simp only [cond_true, cond_false]; exact path ok Try.mixed (enter_d_1 l vn vp n p ns ps t u hn hp) (by repeat' first | assumption | exact trivial | rfl | refine ⟨?_, ?_⟩)
    | false => cases h2 : ((lookN ns n l).st == 4) with
      | true => simp only [cond_true, cond_false]; exact path ok Try.mixed (enter_d_2 l vn vp n p ns ps t u hn hp) (by repeat' first | assumption | exact trivial | rfl | refine ⟨?_, ?_⟩)
      | false => cases h3 : ((lookN ns n l).st == 1) with
        | false => simp only [cond_false]; exact path ok Try.mixed (enter_d_4 l vn vp n p ns ps t u hn hp) (by repeat' first | assumption | exact trivial | rfl | refine ⟨?_, ?_⟩)
        | true =>
          subst hsn; simp only [cond_true, cond_false]
          exact path_le ok Try.mixed (enter_d_3 l vn vp n p ns ps t u hp) (by repeat' first | assumption | exact trivial | rfl | refine ⟨?_, ?_⟩) (hRaw_le (G := pairF ps) (G' := pairF ps) (fun i j _ hj => setF_node ns _ ⟨2, 0, zC⟩ i j hj) (fun _ _ _ _ => rfl)) (leA_refl _) (by cases sp <;> rfl)
theorem updC_d (hn : sn = false → n = 0) (hp : sp = false → p = 0) (l : Int) (c : Cl) (hc : cellR n p c = cellS n p c) : Contract Try.prog 27 [.ptr 0 0, vi l, .agg (cA c)] (hObj 32 76 sn sp vn vp n p ns ps t u) (vi (updE ns n p l c)) (hObj 32 76 sn sp vn vp n p (updNs ns n p l c) ps t (updU ns n p l c u)) := by
  have ok := evalF_ok (hookM_ok (sn := sn) (sp := sp) (vn := vn) (vp := vp) (n := n) (p := p) (ns := ns) (ps := ps) (t := t) (u := u) hn hp) Try.mixed 8
  unfold updE updNs updU
  cases h0 : (lookE n l != 0) with
  | true => simp only [cond_true]; exact path ok Try.mixed (update_d_0 l c vn vp n p ns ps t u hn hp) (by repeat' first | assumption | exact trivial | rfl | refine ⟨?_, ?_⟩)
  | false =>
    obtain ⟨g0, g1, g2, g3⟩ := look_pos h0
    have hsn : sn = true := by
      cases sn with
      | true => rfl
      | false => have := hn rfl; omega
    cases h1 : ((lookN ns n l).st != 2) with
    | true => simp only [updOk, h1, Bool.not_true, Bool.false_and, cond_false]; exact path ok Try.mixed (update_d_1 l c vn vp n p ns ps t u hn hp) (by repeat' first | assumption | exact trivial | rfl | refine ⟨?_, ?_⟩)
    | false => cases h2 : (c.kind == 5) with
      | true => cases h3 : cellS n p c with
        | false =>
          have h4 : (!cellR n p c) = true := by rw [hc, h3]; rfl
          simp only [updOk, h1, h2, h3, Bool.not_true, Bool.not_false, Bool.true_and, Bool.false_and, Bool.and_true, Bool.and_false, cond_true, cond_false]; exact path ok Try.mixed (update_d_2 l c vn vp n p ns ps t u hn hp) (by repeat' first | assumption | exact trivial | rfl | refine ⟨?_, ?_⟩)
        | true =>
          have h4 : (!cellR n p c) = false := by rw [hc, h3]; rfl
          simp only [updOk, h1, h2, h3, Bool.not_true, Bool.not_false, Bool.true_and, Bool.false_and, Bool.and_true, Bool.and_false, cond_true, cond_false]; exact path ok Try.mixed (update_d_3 l c vn vp n p ns ps t u hn hp) (by repeat' first | assumption | exact trivial | rfl | refine ⟨?_, ?_⟩)
      | false => cases h3 : cellS n p c with
        | false =>
          have h4 : (!cellR n p c) = true := by rw [hc, h3]; rfl
          simp only [updOk, h1, h2, h3, Bool.not_true, Bool.not_false, Bool.true_and, Bool.false_and, Bool.and_true, Bool.and_false, cond_true, cond_false]; exact path ok Try.mixed (update_d_2 l c vn vp n p ns ps t u hn hp) (by repeat' first | assumption | exact trivial | rfl | refine ⟨?_, ?_⟩)
        | true =>
          have h4 : (!cellR n p c) = false := by rw [hc, h3]; rfl
          subst hsn; simp only [updOk, h1, h2, h3, Bool.not_true, Bool.not_false, Bool.true_and, Bool.false_and, Bool.and_true, Bool.and_false, cond_true, cond_false]
          exact path_le ok Try.mixed (update_d_4 l c vn vp n p ns ps t u hp) (by repeat' first | assumption | exact trivial | rfl | refine ⟨?_, ?_⟩) (hRaw_le (G := pairF ps) (G' := pairF ps) (fun i j _ hj => setF_node ns _ ⟨3, 0, c⟩ i j hj) (fun _ _ _ _ => rfl)) (leA_refl _) (by cases sp <;> rfl)
theorem delayC_d (hn : sn = false → n = 0) (hp : sp = false → p = 0) (l : Int) (hb : (n + 1) * 56 ≤ 140737488355328) : Contract Try.prog 21 [.ptr 0 0, vi l] (hObj 32 76 sn sp vn vp n p ns ps t u) (vi (newAt sn n)) (growN 32 76 sn sp vn vp n p ns ps ⟨1, l, zC⟩ (IntKind.i64.wrap (t + 1)) u) := by
  have ok := evalF_ok (hookM_ok (sn := sn) (sp := sp) (vn := vn) (vp := vp) (n := n) (p := p) (ns := ns) (ps := ps) (t := t) (u := u) hn hp) Try.mixed 8
  cases sn with
  | true => cases sp with
    | true => exact path_le ok Try.mixed (delay_d_tt_0 l vn vp n p ns ps t u) ⟨rfl, Nat.le_refl _, hb, trivial⟩ (hRaw_le (E := 76) (G := pairF ps) (G' := pairF ps) (fun i j hi hj => cat_node ns n ⟨1, l, zC⟩ i j hi hj) (fun _ _ _ _ => rfl)) (leA_refl _) rfl
    | false => exact path_le ok Try.mixed (delay_d_tf_0 l vn vp n p ns ps t u) ⟨rfl, Nat.le_refl _, hb, trivial⟩ (hRaw_le (E := 76) (G := pairF ps) (G' := pairF ps) (fun i j hi hj => cat_node ns n ⟨1, l, zC⟩ i j hi hj) (fun _ _ _ _ => rfl)) (leA_refl _) rfl
  | false =>
    have := hn rfl; subst this
    cases sp with
    | false => exact path_le ok Try.mixed (delay_d_ff_0 l vn vp 0 p ns ps t u) trivial (hRaw_le (E := 76) (G := pairF ps) (G' := pairF ps) (fun i j hi hj => one_node ⟨1, l, zC⟩ i j hi hj) (fun _ _ _ _ => rfl)) (leA_refl _) rfl
    | true => exact path_le ok Try.mixed (delay_d_ft_0 l vn vp 0 p ns ps t u) trivial ⟨leO_refl _, leO_refl _, ⟨rfl, rfl, rfl, rfl, fun i j hi hj => one_node ⟨1, l, zC⟩ i j hi hj⟩, trivial⟩ (leA_refl _) rfl
theorem poisonC_d (hn : sn = false → n = 0) (hp : sp = false → p = 0) (hb : (n + 1) * 56 ≤ 140737488355328) : Contract Try.prog 22 [.ptr 0 0] (hObj 32 76 sn sp vn vp n p ns ps t u) (vi (newAt sn n)) (growN 32 76 sn sp vn vp n p ns ps ⟨4, 0, zC⟩ t u) := by
  have ok := evalF_ok (hookM_ok (sn := sn) (sp := sp) (vn := vn) (vp := vp) (n := n) (p := p) (ns := ns) (ps := ps) (t := t) (u := u) hn hp) Try.mixed 8
  cases sn with
  | true => cases sp with
    | true => exact path_le ok Try.mixed (poison_d_tt_0 vn vp n p ns ps t u) ⟨rfl, Nat.le_refl _, hb, trivial⟩ (hRaw_le (E := 76) (G := pairF ps) (G' := pairF ps) (fun i j hi hj => cat_node ns n ⟨4, 0, zC⟩ i j hi hj) (fun _ _ _ _ => rfl)) (leA_refl _) rfl
    | false => exact path_le ok Try.mixed (poison_d_tf_0 vn vp n p ns ps t u) ⟨rfl, Nat.le_refl _, hb, trivial⟩ (hRaw_le (E := 76) (G := pairF ps) (G' := pairF ps) (fun i j hi hj => cat_node ns n ⟨4, 0, zC⟩ i j hi hj) (fun _ _ _ _ => rfl)) (leA_refl _) rfl
  | false =>
    have := hn rfl; subst this
    cases sp with
    | false => exact path_le ok Try.mixed (poison_d_ff_0 vn vp 0 p ns ps t u) trivial (hRaw_le (E := 76) (G := pairF ps) (G' := pairF ps) (fun i j hi hj => one_node ⟨4, 0, zC⟩ i j hi hj) (fun _ _ _ _ => rfl)) (leA_refl _) rfl
    | true => exact path_le ok Try.mixed (poison_d_ft_0 vn vp 0 p ns ps t u) trivial ⟨leO_refl _, leO_refl _, ⟨rfl, rfl, rfl, rfl, fun i j hi hj => one_node ⟨4, 0, zC⟩ i j hi hj⟩, trivial⟩ (leA_refl _) rfl
theorem pairC_no_d (hn : sn = false → n = 0) (hp : sp = false → p = 0) (a b : Cl) (h : (cellR n p a && cellR n p b) = false) : Contract Try.prog 23 [.ptr 0 0, .agg (cA a), .agg (cA b)] (hObj 32 76 sn sp vn vp n p ns ps t u) (.tup [vi 0, vi 3]) (hObj 32 76 sn sp vn vp n p ns ps t u) := by
  have ok := evalF_ok (hookM_ok (sn := sn) (sp := sp) (vn := vn) (vp := vp) (n := n) (p := p) (ns := ns) (ps := ps) (t := t) (u := u) hn hp) Try.mixed 8
  cases h1 : cellR n p a with
  | false =>
    have h4 : (!cellR n p a) = true := by rw [h1]; rfl
    cases sn with
    | true => cases sp with
      | true => exact path ok Try.mixed (pair_d_tt_0 a b vn vp n p ns ps t u) (by repeat' first | assumption | exact trivial | rfl | refine ⟨?_, ?_⟩)
      | false => exact path ok Try.mixed (pair_d_tf_0 a b vn vp n p ns ps t u) (by repeat' first | assumption | exact trivial | rfl | refine ⟨?_, ?_⟩)
    | false => cases sp with
      | true => exact path ok Try.mixed (pair_d_ft_0 a b vn vp n p ns ps t u) (by repeat' first | assumption | exact trivial | rfl | refine ⟨?_, ?_⟩)
      | false => exact path ok Try.mixed (pair_d_ff_0 a b vn vp n p ns ps t u) (by repeat' first | assumption | exact trivial | rfl | refine ⟨?_, ?_⟩)
  | true =>
    have h4 : (!cellR n p a) = false := by rw [h1]; rfl
    have h5 : (!cellR n p b) = true := by rw [h1] at h; simpa using h
    cases sn with
    | true => cases sp with
      | true => exact path ok Try.mixed (pair_d_tt_1 a b vn vp n p ns ps t u) (by repeat' first | assumption | exact trivial | rfl | refine ⟨?_, ?_⟩)
      | false => exact path ok Try.mixed (pair_d_tf_1 a b vn vp n p ns ps t u) (by repeat' first | assumption | exact trivial | rfl | refine ⟨?_, ?_⟩)
    | false => cases sp with
      | true => exact path ok Try.mixed (pair_d_ft_1 a b vn vp n p ns ps t u) (by repeat' first | assumption | exact trivial | rfl | refine ⟨?_, ?_⟩)
      | false => exact path ok Try.mixed (pair_d_ff_1 a b vn vp n p ns ps t u) (by repeat' first | assumption | exact trivial | rfl | refine ⟨?_, ?_⟩)
theorem pairC_yes_d (hn : sn = false → n = 0) (hp : sp = false → p = 0) (a b : Cl) (h1 : cellR n p a = true) (h2 : cellR n p b = true) (hb : (p + 1) * 80 ≤ 140737488355328) : Contract Try.prog 23 [.ptr 0 0, .agg (cA a), .agg (cA b)] (hObj 32 76 sn sp vn vp n p ns ps t u) (.tup [vi (newAt sp p), vi 0]) (growP 32 76 sn sp vn vp n p ns ps a b t u) := by
  have ok := evalF_ok (hookM_ok (sn := sn) (sp := sp) (vn := vn) (vp := vp) (n := n) (p := p) (ns := ns) (ps := ps) (t := t) (u := u) hn hp) Try.mixed 8
  have h4 : (!cellR n p a) = false := by rw [h1]; rfl
  have h5 : (!cellR n p b) = false := by rw [h2]; rfl
  have h6 := Nat.le_refl p
  cases sn with
  | true => cases sp with
    | true => exact path_le ok Try.mixed (pair_d_tt_2 a b vn vp n p ns ps t u) (by repeat' first | assumption | exact trivial | rfl | refine ⟨?_, ?_⟩) (hRaw_le (F := nodeF ns) (F' := nodeF ns) (fun _ _ _ _ => rfl) (fun i j hi hj => cat_pair ps p a b i j hi hj)) (leA_refl _) rfl
    | false =>
      have := hp rfl; subst this
      exact path_le ok Try.mixed (pair_d_tf_2 a b vn vp n 0 ns ps t u) (by repeat' first | assumption | exact trivial | rfl | refine ⟨?_, ?_⟩) (hRaw_le (F := nodeF ns) (F' := nodeF ns) (fun _ _ _ _ => rfl) (fun i j hi hj => one_pair a b i j hi hj)) (leA_refl _) rfl
  | false => cases sp with
    | true => exact path_le ok Try.mixed (pair_d_ft_2 a b vn vp n p ns ps t u) (by repeat' first | assumption | exact trivial | rfl | refine ⟨?_, ?_⟩) (hRaw_le (F := nodeF ns) (F' := nodeF ns) (fun _ _ _ _ => rfl) (fun i j hi hj => cat_pair ps p a b i j hi hj)) (leA_refl _) rfl
    | false =>
      have := hp rfl; subst this
      exact path_le ok Try.mixed (pair_d_ff_2 a b vn vp n 0 ns ps t u) (by repeat' first | assumption | exact trivial | rfl | refine ⟨?_, ?_⟩) (hRaw_le (F := nodeF ns) (F' := nodeF ns) (fun _ _ _ _ => rfl) (fun i j hi hj => one_pair a b i j hi hj)) (leA_refl _) rfl
end
end flt
end Go.Proofs.Ytjgddhjjcgndaaa
