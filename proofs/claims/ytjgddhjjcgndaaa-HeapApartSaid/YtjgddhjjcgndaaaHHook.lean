import Derived.Test.YtjgddhjjcgndaaaHLookC
/- A hook that knows Look and cell at one state of a heap, of the program and of the document. -/
set_option linter.unusedVariables false
set_option linter.unusedSimpArgs false
namespace Go.Proofs.Ytjgddhjjcgndaaa
open Go.AI
set_option maxRecDepth 100000
namespace flt
def quietM : FuncId → Bool := fun g => Nat.beq g 12 || Nat.ble 18 g && Nat.ble g 20 || Nat.ble 32 g
def runM (sn sp : Bool) (vn vp n p : Nat) (ns : Nat → Nd) (ps : Nat → Cl × Cl) (t u : Int) : FuncId → List AV → List AO → Option HookRes
  | 13, [.ptr 0 0, .i (.sc (.int .i64 l))], o => some ⟨.tup [.agg (nA (lookN ns n l)), vi (lookE n l)], true, [obU (o = hObj 68 82 sn sp vn vp n p ns ps t u)], hObj 68 82 sn sp vn vp n p ns ps t u⟩
  | 24, [.ptr 0 0, .i (.sc (.int .i64 l))], o => some ⟨.tup [.agg (nA (lookN ns n l)), vi (lookE n l)], true, [obU (o = hObj 32 76 sn sp vn vp n p ns ps t u)], hObj 32 76 sn sp vn vp n p ns ps t u⟩
  | 29, [.ptr 0 0, .agg [.i (.sc (.int .i64 k)), .i (.sc (.complex .f64 re im)), .i (.sc (.bool b)), .i (.sc (.int .i64 l))]], o => some ⟨vb (cellS n p ⟨k, re, im, b, l⟩), true, [obU (o = hObj 68 82 sn sp vn vp n p ns ps t u)], hObj 68 82 sn sp vn vp n p ns ps t u⟩
  | 31, [.ptr 0 0, .agg [.i (.sc (.int .i64 k)), .i (.sc (.complex .f64 re im)), .i (.sc (.bool b)), .i (.sc (.int .i64 l))]], o => some ⟨vb (cellR n p ⟨k, re, im, b, l⟩), true, [obU (o = hObj 32 76 sn sp vn vp n p ns ps t u)], hObj 32 76 sn sp vn vp n p ns ps t u⟩
  | _, _, _ => .none
def hookM (sn sp : Bool) (vn vp n p : Nat) (ns : Nat → Nd) (ps : Nat → Cl × Cl) (t u : Int) : Hook := ⟨fun _ => .own, quietM, runM sn sp vn vp n p ns ps t u, Try.ext⟩
theorem hookM_ok {sn sp : Bool} {vn vp n p : Nat} {ns : Nat → Nd} {ps : Nat → Cl × Cl} {t u : Int} (hn : sn = false → n = 0) (hp : sp = false → p = 0) : HookOK Try.prog (hookM sn sp vn vp n p ns ps t u) := by
  refine ⟨fun g a o h hr hps => ?_, Try.hook_ok.ext⟩
  have hr : runM sn sp vn vp n p ns ps t u g a o = some h := hr
  unfold runM at hr
  split at hr
  · injection hr with hr; subst hr
    have h1 : o = _ := hps.1
    rw [h1]; exact look_p hn hp _
  · injection hr with hr; subst hr
    have h1 : o = _ := hps.1
    rw [h1]; exact look_d hn hp _
  · rename_i k re im b l _
    injection hr with hr; subst hr
    have h1 : o = _ := hps.1
    rw [h1]; exact cell_contract hn hp ⟨k, re, im, b, l⟩
  · rename_i k re im b l _
    injection hr with hr; subst hr
    have h1 : o = _ := hps.1
    rw [h1]; exact ref_contract hn hp ⟨k, re, im, b, l⟩
  · cases hr
end flt
end Go.Proofs.Ytjgddhjjcgndaaa
