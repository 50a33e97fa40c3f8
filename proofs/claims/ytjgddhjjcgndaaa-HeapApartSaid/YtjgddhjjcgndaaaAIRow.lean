import Derived.Test.YtjgddhjjcgndaaaAIEval
import Derived.Below
import Derived.KernelRfl
/- From what a function does to the calls of the rows. -/
set_option linter.unusedVariables false
set_option linter.unusedSimpArgs false
namespace Go.AI
open Go.RowKit (Below)
/-- Nothing is ours. -/
def emb0 : Emb := ⟨fun _ => none, fun _ => none, fun _ => .free⟩
theorem emb0_ok (w : World) : HOk (hp 0 []) emb0 w :=
  ⟨fun id o h => by rw [get_hp0] at h; simp at h, fun g _ => rfl, fun id _ => ⟨rfl, rfl⟩⟩

theorem below_of_ext {H H' : Heap} {E' : Emb} {w w' : World} (x : Ext H emb0 w H' E' w') : Below w.heap.size w w' :=
  ⟨x.os, x.tape, x.output, x.size, fun k hk => (x.keep k hk (fun id h => by cases h)).2⟩

/-- **A function that answers true, whatever the world, and leaves all that was there.** -/
theorem true_calls {P : Program} {f : FuncId} {args : List AV} {outs : List AO} (hc : Contract P f args [] (.i (.sc (.bool true))) outs) {vs : Array Value} {w : World} (hl : args.length = vs.size)
    (hv : ∀ k, k < args.length → VR (hp 0 []) emb0 w (nth args k) (vs.getD k undef)) : Calls P f vs w fun e w' => e = .returned (.bool true) ∧ Below w.heap.size w w' :=
  (hc emb0 w vs (emb0_ok w) hl hv).mono fun e w' ⟨E', v, he, _, hr, hx⟩ => ⟨by rw [he, hr.sc_], below_of_ext hx⟩

/-- Is it 'true', and is all that is owed there? -/
def saysTrue : Option HookRes → Bool
  | some ⟨.i (.sc (.bool true)), true, ps, []⟩ => allB ps
  | _ => false
theorem saysTrue_ok {P : Program} {hk : Hook} (hCT : HookOK P hk) (hm : P.follows .mixedOrders = true) {g : FuncId} {args : List AV} (h : saysTrue (inlineF P hk g args []) = true) : Contract P g args [] (.i (.sc (.bool true))) [] := by
  unfold saysTrue at h
  split at h
  · rename_i ps he
    exact inlineF_ok hCT hm he (allB_ok h)
  · cases h

theorem cell_int {P : Program} {w : World} {r : Reach} {b : Nat} {t : TypeId} {k : IntKind} {v : Value} (hu : P.underlying t = some (.int k)) (h : Cell.okWide P w r b t v) : ∃ n, v = .int k n ∧ k.has n := by
  unfold Cell.okWide at h
  rw [hu] at h
  cases v <;> simp [Cell.ok, hu] at h
  rename_i k' n
  obtain ⟨rfl, h⟩ := h
  exact ⟨n, rfl, h⟩
theorem cell_bool {P : Program} {w : World} {r : Reach} {b : Nat} {t : TypeId} {v : Value} (hu : P.underlying t = some .bool) (h : Cell.okWide P w r b t v) : ∃ n, v = .bool n := by
  unfold Cell.okWide at h
  rw [hu] at h
  cases v <;> simp [Cell.ok, hu] at h
  rename_i n
  exact ⟨n, rfl⟩
/-- The cells of a struct, each of its own type. -/
theorem open_cells {P : Program} {w : World} {r : Reach} {b : Nat} {t : TypeId} {v : Value} {fs : Array Field} (hu : P.underlying t = some (.struct fs)) {ts : List TypeId} (hts : P.cellTypes P.depth t = some ts) (hsz : P.cellsOf t = ts.length)
    (h : Value.okWide P w r b t v) : ∃ cs : List Value, v = .agg cs.toArray ∧ cs.length = ts.length ∧ ∀ (i : Nat) x u, cs[i]? = some x → ts[i]? = some u → Cell.okWide P w r b u x := by
  unfold Value.okWide at h
  rw [hu] at h
  obtain ⟨cs, rfl, h1, ts', h2, _, h3⟩ := h
  rw [hts] at h2
  injection h2 with h2
  subst h2
  refine ⟨cs.toList, by simp, by simp [h1, hsz], fun i x u hx hu' => ?_⟩
  have hi : i < ts.length := (List.getElem?_eq_some_iff.1 hu').1
  obtain ⟨u', h4, h5⟩ := h3 i x (by simpa using hx)
  rw [Nat.mod_eq_of_lt hi, hu'] at h4
  injection h4 with h4
  subst h4
  exact h5

/-- Scalars in a row. -/
theorem agg_sc {H : Heap} {E : Emb} {w : World} (l : List Value) (h : ∀ v ∈ l, v.oneCell' = true) : VR H E w (.agg (l.map fun v => .i (.sc v))) (.agg l.toArray) := by
  refine .agg _ _ (by simp) fun k hk => ?_
  have hk' : k < l.length := by simpa using hk
  rw [nth_eq, getD_ofList]
  simp only [List.getD, List.getElem?_map, List.getElem?_eq_getElem hk', Option.map_some, Option.getD_some]
  exact .i _ _ (.sc _ (h _ (List.getElem_mem hk')))
end Go.AI
