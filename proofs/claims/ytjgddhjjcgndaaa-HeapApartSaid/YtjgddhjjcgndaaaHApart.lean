/- HeapApart: for every script of calls and every list of turns, two heaps that are played by turns do just what the document's two heaps do: the law returns true; what was handed in reads behind the call as before. No condition. -/
import Derived.Test.YtjgddhjjcgndaaaHArgs
import Derived.ProofKit
import Derived.OpenShut
namespace Go.Proofs.Ytjgddhjjcgndaaa
open Go.AI
open Go.ChangeShapes Go.WideShapes Go.ChangeAt Go.RowKit
set_option maxRecDepth 100000

namespace hapart
theorem slice_form {W : World} {base : Nat} {t e : TypeId} {v : Value} (hu : Try.prog.underlying t = some (.slice e)) (h : Value.okWide Try.prog W .any base t v) : ∃ a n c, v = .slice a n c := by
  unfold Value.okWide at h
  rw [hu] at h
  simp only at h
  unfold Cell.okWide at h
  rw [hu] at h
  cases v <;> simp [Cell.ok, hu] at h
  exact ⟨_, _, _, rfl⟩

theorem walk {N M : Nat} {f : Nat → flt.ActS} {g : Nat → Bool} (hN : N * 112 ≤ 140737488355328) {W : World} {v0 v1 : Value} (h0 : VR (hp 0 []) emb0 W (.i (.sv N 14 (flt.actF f))) v0) (h1 : VR (hp 0 []) emb0 W (.i (.sv M 1 (flt.turnF g))) v1) :
    Calls Try.prog 3 #[v0, v1] W fun e W' => e = .returned (.bool true) ∧ Below W.heap.size W W' :=
  true_calls (flt.main_contract (M := M) f g hN) rfl fun j hj => by
    have hj : j < 2 := hj
    rcases (by omega : j = 0 ∨ j = 1) with rfl | rfl
    · exact h0
    · exact h1

theorem own : ownKnob Try.prog.godebug = .none := by kernel_rfl
theorem laidOut : laidOutB Try.prog = true := by kernel_rfl

theorem lifted (os : Os) (started : os.Started) (H : Type) (enc : TypeId × Value → H) :
    ReturnsInHanded {} Try.checked os 3 .any (Rows.heapApartSpec.pre6 enc Try.prog Try.f3 Rows.heapApartRow.domain false) (Rows.heapApartSpec.post enc Try.prog Try.f3 false true false false) := by
  refine returnsInHanded_of_change_sized (C := Try.checked) own started (by kernel_rfl) Try.func3
    (ChangeSpec.witness6 (enc := enc) (C := Try.checked) false ⟨#[], #[.slice none 0 0, .slice none 0 0], []⟩ 8 (by kernel_rfl) (by kernel_rfl) (by kernel_rfl) (by kernel_rfl)) ?_
  intro W base args ds gs before hval0 hW hcnd hz0 _
  have hval : ∀ (j : Nat) t v, Try.f3.params[j]? = some t → args[j]? = some v → Value.okWide Try.prog W .any base t v := hval0
  have hz : (DataW.weightsEach Try.prog (Try.f3.params.toList ++ Rows.heapApartSpec.plain.varTypes Try.prog) (ds ++ gs)).all (· ≤ reachBytes) = true := hz0
  have hW' := hW
  obtain ⟨p, q, hA0, hV, rfl, hfz, hnd⟩ := hW
  have hA : DataW.TrodAll enc Try.prog W 0 (fun _ => true) true Try.f3.params.toList args.toList ds p := hA0
  rw [Try.params3] at hA hval hz
  obtain ⟨v0, vs0, d0, ds0, p0, q0, hargs, rfl, rfl, h0, r0⟩ := trodAll_cons hA
  obtain ⟨v1, vs1, d1, ds1, p1, q1, hargs1, rfl, rfl, h1, r1⟩ := trodAll_cons r0
  obtain ⟨rfl, rfl, rfl⟩ := trodAll_nil r1
  subst hargs1
  obtain rfl : args = #[v0, v1] := by cases args; simp_all
  obtain ⟨rfl, rfl⟩ := trodVars_none hV
  have lt0 : ∀ x ∈ p0, x.block < W.heap.size := by obtain ⟨m, hm⟩ := h0; exact DataW.trod_lt m _ _ _ hm
  have lt1 : ∀ x ∈ p1, x.block < W.heap.size := by obtain ⟨m, hm⟩ := h1; exact DataW.trod_lt m _ _ _ hm
  obtain ⟨a0, n0, c0, rfl⟩ := slice_form Try.underlying22 (hval 0 22 v0 rfl rfl)
  obtain ⟨a1, n1, c1, rfl⟩ := slice_form Try.underlying23 (hval 1 23 v1 rfl rfl)
  have h0' := h0
  have h1' := h1
  obtain ⟨m0, hm0⟩ := h0'
  obtain ⟨m1, hm1⟩ := h1'
  obtain ⟨N, f, hv0, hlen⟩ := flt.script_VR hm0
  obtain ⟨M, g, hv1⟩ := flt.turns_VR hm1
  have hN : N * 112 ≤ 140737488355328 := by
    rcases hlen with ⟨_, rfl⟩ | ⟨elems, spare, hd, rfl⟩
    · decide
    · have hd : d0 = .slice elems spare := hd
      subst hd
      have := sized_slice hz (j := 0) (t := 22) (e := 40) rfl rfl Try.underlying22
      rw [flt.bytes40] at this
      have h2 := reachBytes_lt
      have h3 : elems.length * 112 ≤ (elems.length + spare.length) * 112 := Nat.mul_le_mul_right _ (Nat.le_add_right _ _)
      omega
  clear hA0 hval0 hz0
  refine (walk hN hv0 hv1).mono fun e W' ⟨he, bel⟩ => ?_
  subst he
  exact ⟨_, rfl, _, _, _, [], _, [], hW', trodAll_mk1 (shut_bool Try.underlying4 _), (trodAll_cons_mk (Below.trod laidOut (by kernel_rfl) (of_decide_eq_true (by kernel_rfl)) h0 bel lt0)
    (trodAll_cons_mk (Below.trod laidOut (by kernel_rfl) (of_decide_eq_true (by kernel_rfl)) h1 bel lt1) trodAll_mk0)), rfl, bel.frame _, fun h => by cases h⟩

theorem proved : Rows.HeapApartSaid :=
  OpenClaim.holds_of_wide 3 Try.f3 rfl rfl rfl rfl rfl rfl rfl ⟨rfl, rfl, rfl, rfl, rfl⟩ rfl rfl rfl rfl rfl (by kernel_rfl) Try.func3 (by kernel_rfl)
    (of_decide_eq_true (by kernel_rfl)) (by unfold Func.isWrapper; rw [if_neg (of_decide_eq_false (by kernel_rfl))]; exact ⟨rfl, rfl⟩)
    (fun os started H enc _ => lifted os started H enc)
end hapart
end Go.Proofs.Ytjgddhjjcgndaaa
