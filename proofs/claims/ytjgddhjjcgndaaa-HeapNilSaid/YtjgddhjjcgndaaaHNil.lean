/- HeapNil: for every act, a heap that is not there answers an error to everything: the law returns true; the act reads behind the call as before. No condition. -/
import Derived.Test.YtjgddhjjcgndaaaHookH
import Derived.ProofKit
import Derived.OpenShut
namespace Go.Proofs.Ytjgddhjjcgndaaa
open Go.AI
open Go.ChangeShapes Go.WideShapes Go.ChangeAt Go.RowKit
set_option maxRecDepth 100000

namespace hnil
def i (x : Int) : Value := .int .i64 x
def cells (k p ak aa ar ai bk ba br bi : Int) (ra ab rb bb : Bool) : List Value :=
  [i k, i p, i ak, i aa, i ar, i ai, .bool ra, .bool ab, i bk, i ba, i br, i bi, .bool rb, .bool bb]
def arg (l : List Value) : List AV := [.agg (l.map fun v => .i (.sc v))]

theorem ev00 (k p ak aa ar ai bk ba br bi : Int) (ab bb : Bool) : saysTrue (inlineF Try.prog (evalF Try.prog Try.hook 8) 4 (arg (cells k p ak aa ar ai bk ba br bi false ab false bb)) []) = true := by kernel_rfl
theorem ev01 (k p ak aa ar ai bk ba br bi : Int) (ab bb : Bool) : saysTrue (inlineF Try.prog (evalF Try.prog Try.hook 8) 4 (arg (cells k p ak aa ar ai bk ba br bi false ab true bb)) []) = true := by kernel_rfl
theorem ev10 (k p ak aa ar ai bk ba br bi : Int) (ab bb : Bool) : saysTrue (inlineF Try.prog (evalF Try.prog Try.hook 8) 4 (arg (cells k p ak aa ar ai bk ba br bi true ab false bb)) []) = true := by kernel_rfl
theorem ev11 (k p ak aa ar ai bk ba br bi : Int) (ab bb : Bool) : saysTrue (inlineF Try.prog (evalF Try.prog Try.hook 8) 4 (arg (cells k p ak aa ar ai bk ba br bi true ab true bb)) []) = true := by kernel_rfl

theorem contract (k p ak aa ar ai bk ba br bi : Int) (ra ab rb bb : Bool) : Contract Try.prog 4 (arg (cells k p ak aa ar ai bk ba br bi ra ab rb bb)) [] (.i (.sc (.bool true))) [] := by
  refine saysTrue_ok (evalF_ok Try.hook_ok Try.mixed 8) Try.mixed ?_
  cases ra <;> cases rb
  · exact ev00 ..
  · exact ev01 ..
  · exact ev10 ..
  · exact ev11 ..

theorem walk (k p ak aa ar ai bk ba br bi : Int) (ra ab rb bb : Bool) (w : World) :
    Calls Try.prog 4 #[.agg (cells k p ak aa ar ai bk ba br bi ra ab rb bb).toArray] w fun e w' => e = .returned (.bool true) ∧ Below w.heap.size w w' :=
  true_calls (contract k p ak aa ar ai bk ba br bi ra ab rb bb) rfl fun j hj => by
    have : j = 0 := by simp [arg] at hj; exact hj
    subst this
    exact agg_sc _ (by intro v hv; simp [cells, i] at hv; rcases hv with rfl | rfl | rfl | rfl | rfl | rfl | rfl | rfl | rfl | rfl | rfl | rfl | rfl | rfl <;> rfl)

theorem opened {W : World} {base : Nat} {v : Value} (h : Value.okWide Try.prog W .any base 40 v) :
    ∃ (k p ak aa ar ai bk ba br bi : Int) (ra ab rb bb : Bool), v = .agg (cells k p ak aa ar ai bk ba br bi ra ab rb bb).toArray := by
  obtain ⟨cs, rfl, hl, hc⟩ := open_cells Try.underlying40 (ts := [3, 3, 3, 3, 3, 3, 4, 4, 3, 3, 3, 3, 4, 4]) (by kernel_rfl) (by kernel_rfl) h
  match cs, hl with
  | [c0, c1, c2, c3, c4, c5, c6, c7, c8, c9, c10, c11, c12, c13], _ =>
    obtain ⟨a0, rfl, _⟩ := cell_int Try.underlying3 (hc 0 _ _ rfl rfl)
    obtain ⟨a1, rfl, _⟩ := cell_int Try.underlying3 (hc 1 _ _ rfl rfl)
    obtain ⟨a2, rfl, _⟩ := cell_int Try.underlying3 (hc 2 _ _ rfl rfl)
    obtain ⟨a3, rfl, _⟩ := cell_int Try.underlying3 (hc 3 _ _ rfl rfl)
    obtain ⟨a4, rfl, _⟩ := cell_int Try.underlying3 (hc 4 _ _ rfl rfl)
    obtain ⟨a5, rfl, _⟩ := cell_int Try.underlying3 (hc 5 _ _ rfl rfl)
    obtain ⟨a6, rfl⟩ := cell_bool Try.underlying4 (hc 6 _ _ rfl rfl)
    obtain ⟨a7, rfl⟩ := cell_bool Try.underlying4 (hc 7 _ _ rfl rfl)
    obtain ⟨a8, rfl, _⟩ := cell_int Try.underlying3 (hc 8 _ _ rfl rfl)
    obtain ⟨a9, rfl, _⟩ := cell_int Try.underlying3 (hc 9 _ _ rfl rfl)
    obtain ⟨b0, rfl, _⟩ := cell_int Try.underlying3 (hc 10 _ _ rfl rfl)
    obtain ⟨b1, rfl, _⟩ := cell_int Try.underlying3 (hc 11 _ _ rfl rfl)
    obtain ⟨b2, rfl⟩ := cell_bool Try.underlying4 (hc 12 _ _ rfl rfl)
    obtain ⟨b3, rfl⟩ := cell_bool Try.underlying4 (hc 13 _ _ rfl rfl)
    exact ⟨a0, a1, a2, a3, a4, a5, a8, a9, b0, b1, a6, a7, b2, b3, rfl⟩

theorem own : ownKnob Try.prog.godebug = .none := by kernel_rfl
theorem laidOut : laidOutB Try.prog = true := by kernel_rfl

theorem lifted (os : Os) (started : os.Started) (H : Type) (enc : TypeId × Value → H) :
    ReturnsInHanded {} Try.checked os 4 .any (Rows.heapNilSpec.pre6 enc Try.prog Try.f4 Rows.heapNilRow.domain false) (Rows.heapNilSpec.post enc Try.prog Try.f4 false true false false) := by
  refine returnsInHanded_of_change (C := Try.checked) own started (by kernel_rfl) Try.func4
    (ChangeSpec.witness6 (enc := enc) (C := Try.checked) false ⟨#[], #[.agg (cells 0 0 0 0 0 0 0 0 0 0 false false false false).toArray], []⟩ 8 (by kernel_rfl) (by kernel_rfl) (by kernel_rfl) (by kernel_rfl)) ?_
  intro W base args ds gs before hval0 hW hcnd _
  have hval : ∀ (j : Nat) t v, Try.f4.params[j]? = some t → args[j]? = some v → Value.okWide Try.prog W .any base t v := hval0
  have hW' := hW
  obtain ⟨p, q, hA0, hV, rfl, hfz, hnd⟩ := hW
  have hA : DataW.TrodAll enc Try.prog W 0 (fun _ => true) true Try.f4.params.toList args.toList ds p := hA0
  rw [Try.params4] at hA hval
  obtain ⟨v0, vs0, d0, ds0, p0, q0, hargs, rfl, rfl, h0, r0⟩ := trodAll_cons hA
  obtain ⟨rfl, rfl, rfl⟩ := trodAll_nil r0
  obtain rfl : args = #[v0] := by cases args; simp_all
  obtain ⟨rfl, rfl⟩ := trodVars_none hV
  have lt0 : ∀ x ∈ p0, x.block < W.heap.size := by obtain ⟨m, hm⟩ := h0; exact DataW.trod_lt m _ _ _ hm
  obtain ⟨k, pp, ak, aa, ar, ai, bk, ba, br, bi, ra, ab, rb, bb, rfl⟩ := opened (hval 0 40 v0 rfl rfl)
  clear hA0 hval0
  refine (walk k pp ak aa ar ai bk ba br bi ra ab rb bb W).mono fun e W' ⟨he, bel⟩ => ?_
  subst he
  exact ⟨_, rfl, _, _, _, [], _, [], hW', trodAll_mk1 (shut_bool Try.underlying4 _), (trodAll_cons_mk (Below.trod laidOut (by kernel_rfl) (of_decide_eq_true (by kernel_rfl)) h0 bel lt0) trodAll_mk0), rfl, bel.frame _, fun h => by cases h⟩

theorem proved : Rows.HeapNilSaid :=
  OpenClaim.holds_of_wide 4 Try.f4 rfl rfl rfl rfl rfl rfl rfl ⟨rfl, rfl, rfl, rfl, rfl⟩ rfl rfl rfl rfl rfl (by kernel_rfl) Try.func4 (by kernel_rfl)
    (of_decide_eq_true (by kernel_rfl)) (by unfold Func.isWrapper; rw [if_neg (of_decide_eq_false (by kernel_rfl))]; exact ⟨rfl, rfl⟩)
    (fun os started H enc _ => lifted os started H enc)
end hnil
end Go.Proofs.Ytjgddhjjcgndaaa
