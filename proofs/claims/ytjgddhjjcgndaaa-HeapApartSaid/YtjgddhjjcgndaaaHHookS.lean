import Derived.Test.YtjgddhjjcgndaaaHMethC
/- A hook that knows all calls of a step, at one state of both heaps. -/
set_option linter.unusedVariables false
set_option linter.unusedSimpArgs false
namespace Go.Proofs.Ytjgddhjjcgndaaa
open Go.AI
set_option maxRecDepth 100000
namespace flt
def intoS (k : Int) : Int := (IntKind.i64.wrap (k.tmod 7 + 7)).tmod 7
theorem into_contract (k : Int) : Contract Try.prog 20 [vi k, vi 7] [] (vi (intoS k)) [] :=
  path (evalF_ok Try.hook_ok Try.mixed 8) Try.mixed (m := 3) (bs := []) (os := []) (by kernel_rfl) trivial
theorem alike_contract (a b : Nd) : Contract Try.prog 18 [.agg (nA a), .agg (nA b)] [] (vb (alikeS a b)) [] := by
  have ok : HookOK Try.prog { Try.hook with run := fun g x o => match g, x, o with
      | 19, [.agg [.i (.sc (.int .i64 k)), .i (.sc (.complex .f64 re im)), .i (.sc (.bool b)), .i (.sc (.int .i64 l))], .agg [.i (.sc (.int .i64 k')), .i (.sc (.complex .f64 re' im')), .i (.sc (.bool b')), .i (.sc (.int .i64 l'))]], [] => some ⟨vb (sameS ⟨k, re, im, b, l⟩ ⟨k', re', im', b', l'⟩), true, [], []⟩
      | _, _, _ => .none } := by
    refine ⟨fun g x o h hr hps => ?_, Try.hook_ok.ext⟩
    simp only at hr
    split at hr
    · rename_i k re im b l k' re' im' b' l'
      injection hr with hr; subst hr
      exact same_contract ⟨k, re, im, b, l⟩ ⟨k', re', im', b', l'⟩
    · cases hr
  have ok := evalF_ok ok Try.mixed 8
  unfold alikeS
  cases h1 : (a.st == b.st) with
  | false => exact path ok Try.mixed (m := 31) (bs := [false]) (os := [ob ((a.st == b.st) = false)]) (by kernel_rfl) ⟨h1, trivial⟩
  | true => cases h2 : (a.tag == b.tag) with
    | false => exact path ok Try.mixed (m := 2015) (bs := [true, false]) (os := [ob ((a.tag == b.tag) = false), ob ((a.st == b.st) = true)]) (by kernel_rfl) ⟨h2, h1, trivial⟩
    | true => exact path ok Try.mixed (m := 2015) (bs := [true, true]) (os := [ob ((a.tag == b.tag) = true), ob ((a.st == b.st) = true)]) (by kernel_rfl) ⟨h2, h1, trivial⟩

def r20 (v : Int) (ok : Bool) (sn sp : Bool) (vn vp n p : Nat) (ns : Nat → Nd) (ps : Nat → Cl × Cl) (t u : Int) : List AV → List AO → Option HookRes
  | [.i (.sc (.int .i64 k)), .i (.sc (.int .i64 7))], [] => some ⟨vi v, true, [ob (intoS k = v)], []⟩
  | _, _ => .none
theorem r20_ok {v : Int} {ok : Bool} {sn sp : Bool} {vn vp n p : Nat} {ns : Nat → Nd} {ps : Nat → Cl × Cl} {t u : Int} (hn : sn = false → n = 0) (hp : sp = false → p = 0) {a : List AV} {o : List AO} {h : HookRes} (hr : r20 v ok sn sp vn vp n p ns ps t u a o = some h) (hps : AllP h.ps) : Contract Try.prog 20 a o h.val (outsOf h.upd o h.outs) := by
  unfold r20 at hr
  split at hr
  · rename_i k
    injection hr with hr; subst hr
    have h1 : intoS k = v := hps.1
    rw [← h1]; exact into_contract k
  · cases hr
def r12 (v : Int) (ok : Bool) (sn sp : Bool) (vn vp n p : Nat) (ns : Nat → Nd) (ps : Nat → Cl × Cl) (t u : Int) : List AV → List AO → Option HookRes
  | [.agg [.i (.sc (.int .i64 k)), .i (.sc (.int .i64 l)), .i (.sc (.int .i64 re)), .i (.sc (.int .i64 im)), .i (.sc (.bool raw)), .i (.sc (.bool b))]], [] => some ⟨.agg (cA (cellC k l re im raw b)), true, [], []⟩
  | _, _ => .none
theorem r12_ok {v : Int} {ok : Bool} {sn sp : Bool} {vn vp n p : Nat} {ns : Nat → Nd} {ps : Nat → Cl × Cl} {t u : Int} (hn : sn = false → n = 0) (hp : sp = false → p = 0) {a : List AV} {o : List AO} {h : HookRes} (hr : r12 v ok sn sp vn vp n p ns ps t u a o = some h) (hps : AllP h.ps) : Contract Try.prog 12 a o h.val (outsOf h.upd o h.outs) := by
  unfold r12 at hr
  split at hr
  · rename_i k l re im raw b
    injection hr with hr; subst hr
    exact c_contract k l re im raw b
  · cases hr
def r18 (v : Int) (ok : Bool) (sn sp : Bool) (vn vp n p : Nat) (ns : Nat → Nd) (ps : Nat → Cl × Cl) (t u : Int) : List AV → List AO → Option HookRes
  | [.agg [.i (.sc (.int .i64 st)), .i (.sc (.int .i64 tag)), .i (.sc (.int .i64 k)), .i (.sc (.complex .f64 re im)), .i (.sc (.bool b)), .i (.sc (.int .i64 l))], .agg [.i (.sc (.int .i64 st')), .i (.sc (.int .i64 tag')), .i (.sc (.int .i64 k')), .i (.sc (.complex .f64 re' im')), .i (.sc (.bool b')), .i (.sc (.int .i64 l'))]], [] => some ⟨vb (alikeS ⟨st, tag, ⟨k, re, im, b, l⟩⟩ ⟨st', tag', ⟨k', re', im', b', l'⟩⟩), true, [], []⟩
  | _, _ => .none
theorem r18_ok {v : Int} {ok : Bool} {sn sp : Bool} {vn vp n p : Nat} {ns : Nat → Nd} {ps : Nat → Cl × Cl} {t u : Int} (hn : sn = false → n = 0) (hp : sp = false → p = 0) {a : List AV} {o : List AO} {h : HookRes} (hr : r18 v ok sn sp vn vp n p ns ps t u a o = some h) (hps : AllP h.ps) : Contract Try.prog 18 a o h.val (outsOf h.upd o h.outs) := by
  unfold r18 at hr
  split at hr
  · rename_i st tag k re im b l st' tag' k' re' im' b' l'
    injection hr with hr; subst hr
    exact alike_contract ⟨st, tag, ⟨k, re, im, b, l⟩⟩ ⟨st', tag', ⟨k', re', im', b', l'⟩⟩
  · cases hr
def r19 (v : Int) (ok : Bool) (sn sp : Bool) (vn vp n p : Nat) (ns : Nat → Nd) (ps : Nat → Cl × Cl) (t u : Int) : List AV → List AO → Option HookRes
  | [.agg [.i (.sc (.int .i64 k)), .i (.sc (.complex .f64 re im)), .i (.sc (.bool b)), .i (.sc (.int .i64 l))], .agg [.i (.sc (.int .i64 k')), .i (.sc (.complex .f64 re' im')), .i (.sc (.bool b')), .i (.sc (.int .i64 l'))]], [] => some ⟨vb (sameS ⟨k, re, im, b, l⟩ ⟨k', re', im', b', l'⟩), true, [], []⟩
  | _, _ => .none
theorem r19_ok {v : Int} {ok : Bool} {sn sp : Bool} {vn vp n p : Nat} {ns : Nat → Nd} {ps : Nat → Cl × Cl} {t u : Int} (hn : sn = false → n = 0) (hp : sp = false → p = 0) {a : List AV} {o : List AO} {h : HookRes} (hr : r19 v ok sn sp vn vp n p ns ps t u a o = some h) (hps : AllP h.ps) : Contract Try.prog 19 a o h.val (outsOf h.upd o h.outs) := by
  unfold r19 at hr
  split at hr
  · rename_i k re im b l k' re' im' b' l'
    injection hr with hr; subst hr
    exact same_contract ⟨k, re, im, b, l⟩ ⟨k', re', im', b', l'⟩
  · cases hr
def r9 (v : Int) (ok : Bool) (sn sp : Bool) (vn vp n p : Nat) (ns : Nat → Nd) (ps : Nat → Cl × Cl) (t u : Int) : List AV → List AO → Option HookRes
  | [.ptr 0 0, .i (.sc (.int .i64 l))], o => some ⟨.tup [vi (newAt sn n), vi 0], true, [obU (o = hObj 68 82 sn sp vn vp n p ns ps t u), obU ((n + 1) * 56 ≤ 140737488355328)], growN 68 82 sn sp vn vp n p ns ps ⟨1, l, zC⟩ (IntKind.i64.wrap (t + 1)) u⟩
  | _, _ => .none
theorem r9_ok {v : Int} {ok : Bool} {sn sp : Bool} {vn vp n p : Nat} {ns : Nat → Nd} {ps : Nat → Cl × Cl} {t u : Int} (hn : sn = false → n = 0) (hp : sp = false → p = 0) {a : List AV} {o : List AO} {h : HookRes} (hr : r9 v ok sn sp vn vp n p ns ps t u a o = some h) (hps : AllP h.ps) : Contract Try.prog 9 a o h.val (outsOf h.upd o h.outs) := by
  unfold r9 at hr
  split at hr
  · rename_i _ l
    injection hr with hr; subst hr
    have h1 : o = _ := hps.1
    rw [h1]; exact delayC_p hn hp l hps.2.1
  · cases hr
def r10 (v : Int) (ok : Bool) (sn sp : Bool) (vn vp n p : Nat) (ns : Nat → Nd) (ps : Nat → Cl × Cl) (t u : Int) : List AV → List AO → Option HookRes
  | [.ptr 0 0], o => some ⟨.tup [vi (newAt sn n), vi 0], true, [obU (o = hObj 68 82 sn sp vn vp n p ns ps t u), obU ((n + 1) * 56 ≤ 140737488355328)], growN 68 82 sn sp vn vp n p ns ps ⟨4, 0, zC⟩ t u⟩
  | _, _ => .none
theorem r10_ok {v : Int} {ok : Bool} {sn sp : Bool} {vn vp n p : Nat} {ns : Nat → Nd} {ps : Nat → Cl × Cl} {t u : Int} (hn : sn = false → n = 0) (hp : sp = false → p = 0) {a : List AV} {o : List AO} {h : HookRes} (hr : r10 v ok sn sp vn vp n p ns ps t u a o = some h) (hps : AllP h.ps) : Contract Try.prog 10 a o h.val (outsOf h.upd o h.outs) := by
  unfold r10 at hr
  split at hr
  · rename_i _
    injection hr with hr; subst hr
    have h1 : o = _ := hps.1
    rw [h1]; exact poisonC_p hn hp hps.2.1
  · cases hr
def r11 (v : Int) (ok : Bool) (sn sp : Bool) (vn vp n p : Nat) (ns : Nat → Nd) (ps : Nat → Cl × Cl) (t u : Int) : List AV → List AO → Option HookRes
  | [.ptr 0 0, .agg [.i (.sc (.int .i64 k)), .i (.sc (.complex .f64 re im)), .i (.sc (.bool b)), .i (.sc (.int .i64 l))], .agg [.i (.sc (.int .i64 k')), .i (.sc (.complex .f64 re' im')), .i (.sc (.bool b')), .i (.sc (.int .i64 l'))]], o => match ok with
    | true => some ⟨.tup [vi (newAt sp p), vi 0], true, [obU (o = hObj 68 82 sn sp vn vp n p ns ps t u), ob (cellS n p ⟨k, re, im, b, l⟩ = true), ob (cellS n p ⟨k', re', im', b', l'⟩ = true), obU ((p + 1) * 80 ≤ 140737488355328)], growP 68 82 sn sp vn vp n p ns ps ⟨k, re, im, b, l⟩ ⟨k', re', im', b', l'⟩ t u⟩
    | false => some ⟨.tup [vi 0, vi 3], true, [obU (o = hObj 68 82 sn sp vn vp n p ns ps t u), ob ((cellS n p ⟨k, re, im, b, l⟩ && cellS n p ⟨k', re', im', b', l'⟩) = false)], hObj 68 82 sn sp vn vp n p ns ps t u⟩
  | _, _ => .none
theorem r11_ok {v : Int} {ok : Bool} {sn sp : Bool} {vn vp n p : Nat} {ns : Nat → Nd} {ps : Nat → Cl × Cl} {t u : Int} (hn : sn = false → n = 0) (hp : sp = false → p = 0) {a : List AV} {o : List AO} {h : HookRes} (hr : r11 v ok sn sp vn vp n p ns ps t u a o = some h) (hps : AllP h.ps) : Contract Try.prog 11 a o h.val (outsOf h.upd o h.outs) := by
  unfold r11 at hr
  split at hr
  · rename_i _ k re im b l k' re' im' b' l'
    split at hr
    · injection hr with hr; subst hr
      have h1 : o = _ := hps.1
      rw [h1]; exact pairC_yes_p hn hp ⟨k, re, im, b, l⟩ ⟨k', re', im', b', l'⟩ hps.2.1 hps.2.2.1 hps.2.2.2.1
    · injection hr with hr; subst hr
      have h1 : o = _ := hps.1
      rw [h1]; exact pairC_no_p hn hp ⟨k, re, im, b, l⟩ ⟨k', re', im', b', l'⟩ hps.2.1
  · cases hr
def r13 (v : Int) (ok : Bool) (sn sp : Bool) (vn vp n p : Nat) (ns : Nat → Nd) (ps : Nat → Cl × Cl) (t u : Int) : List AV → List AO → Option HookRes
  | [.ptr 0 0, .i (.sc (.int .i64 l))], o => some ⟨.tup [.agg (nA (lookN ns n l)), vi (lookE n l)], true, [obU (o = hObj 68 82 sn sp vn vp n p ns ps t u)], hObj 68 82 sn sp vn vp n p ns ps t u⟩
  | _, _ => .none
theorem r13_ok {v : Int} {ok : Bool} {sn sp : Bool} {vn vp n p : Nat} {ns : Nat → Nd} {ps : Nat → Cl × Cl} {t u : Int} (hn : sn = false → n = 0) (hp : sp = false → p = 0) {a : List AV} {o : List AO} {h : HookRes} (hr : r13 v ok sn sp vn vp n p ns ps t u a o = some h) (hps : AllP h.ps) : Contract Try.prog 13 a o h.val (outsOf h.upd o h.outs) := by
  unfold r13 at hr
  split at hr
  · rename_i _ l
    injection hr with hr; subst hr
    have h1 : o = _ := hps.1
    rw [h1]; exact look_p hn hp l
  · cases hr
def r14 (v : Int) (ok : Bool) (sn sp : Bool) (vn vp n p : Nat) (ns : Nat → Nd) (ps : Nat → Cl × Cl) (t u : Int) : List AV → List AO → Option HookRes
  | [.ptr 0 0, .i (.sc (.int .i64 l))], o => some ⟨.tup [.agg (cA (partsN ps p l).1), .agg (cA (partsN ps p l).2), vi (lookE p l)], true, [obU (o = hObj 68 82 sn sp vn vp n p ns ps t u)], hObj 68 82 sn sp vn vp n p ns ps t u⟩
  | _, _ => .none
theorem r14_ok {v : Int} {ok : Bool} {sn sp : Bool} {vn vp n p : Nat} {ns : Nat → Nd} {ps : Nat → Cl × Cl} {t u : Int} (hn : sn = false → n = 0) (hp : sp = false → p = 0) {a : List AV} {o : List AO} {h : HookRes} (hr : r14 v ok sn sp vn vp n p ns ps t u a o = some h) (hps : AllP h.ps) : Contract Try.prog 14 a o h.val (outsOf h.upd o h.outs) := by
  unfold r14 at hr
  split at hr
  · rename_i _ l
    injection hr with hr; subst hr
    have h1 : o = _ := hps.1
    rw [h1]; exact parts_p hn hp l
  · cases hr
def r15 (v : Int) (ok : Bool) (sn sp : Bool) (vn vp n p : Nat) (ns : Nat → Nd) (ps : Nat → Cl × Cl) (t u : Int) : List AV → List AO → Option HookRes
  | [.ptr 0 0, .i (.sc (.int .i64 l))], o => some ⟨.tup [.agg (nA (enterN ns n l)), vi (enterE ns n l)], true, [obU (o = hObj 68 82 sn sp vn vp n p ns ps t u)], hObj 68 82 sn sp vn vp n p (enterNs ns n l) ps t u⟩
  | _, _ => .none
theorem r15_ok {v : Int} {ok : Bool} {sn sp : Bool} {vn vp n p : Nat} {ns : Nat → Nd} {ps : Nat → Cl × Cl} {t u : Int} (hn : sn = false → n = 0) (hp : sp = false → p = 0) {a : List AV} {o : List AO} {h : HookRes} (hr : r15 v ok sn sp vn vp n p ns ps t u a o = some h) (hps : AllP h.ps) : Contract Try.prog 15 a o h.val (outsOf h.upd o h.outs) := by
  unfold r15 at hr
  split at hr
  · rename_i _ l
    injection hr with hr; subst hr
    have h1 : o = _ := hps.1
    rw [h1]; exact enterC_p hn hp l
  · cases hr
def r16 (v : Int) (ok : Bool) (sn sp : Bool) (vn vp n p : Nat) (ns : Nat → Nd) (ps : Nat → Cl × Cl) (t u : Int) : List AV → List AO → Option HookRes
  | [.ptr 0 0, .i (.sc (.int .i64 l)), .agg [.i (.sc (.int .i64 k')), .i (.sc (.complex .f64 re' im')), .i (.sc (.bool b')), .i (.sc (.int .i64 l'))]], o => some ⟨vi (updE ns n p l ⟨k', re', im', b', l'⟩), true, [obU (o = hObj 68 82 sn sp vn vp n p ns ps t u)], hObj 68 82 sn sp vn vp n p (updNs ns n p l ⟨k', re', im', b', l'⟩) ps t (updU ns n p l ⟨k', re', im', b', l'⟩ u)⟩
  | _, _ => .none
theorem r16_ok {v : Int} {ok : Bool} {sn sp : Bool} {vn vp n p : Nat} {ns : Nat → Nd} {ps : Nat → Cl × Cl} {t u : Int} (hn : sn = false → n = 0) (hp : sp = false → p = 0) {a : List AV} {o : List AO} {h : HookRes} (hr : r16 v ok sn sp vn vp n p ns ps t u a o = some h) (hps : AllP h.ps) : Contract Try.prog 16 a o h.val (outsOf h.upd o h.outs) := by
  unfold r16 at hr
  split at hr
  · rename_i _ l k' re' im' b' l'
    injection hr with hr; subst hr
    have h1 : o = _ := hps.1
    rw [h1]; exact updC_p hn hp l ⟨k', re', im', b', l'⟩
  · cases hr
def r21 (v : Int) (ok : Bool) (sn sp : Bool) (vn vp n p : Nat) (ns : Nat → Nd) (ps : Nat → Cl × Cl) (t u : Int) : List AV → List AO → Option HookRes
  | [.ptr 0 0, .i (.sc (.int .i64 l))], o => some ⟨vi (newAt sn n), true, [obU (o = hObj 32 76 sn sp vn vp n p ns ps t u), obU ((n + 1) * 56 ≤ 140737488355328)], growN 32 76 sn sp vn vp n p ns ps ⟨1, l, zC⟩ (IntKind.i64.wrap (t + 1)) u⟩
  | _, _ => .none
theorem r21_ok {v : Int} {ok : Bool} {sn sp : Bool} {vn vp n p : Nat} {ns : Nat → Nd} {ps : Nat → Cl × Cl} {t u : Int} (hn : sn = false → n = 0) (hp : sp = false → p = 0) {a : List AV} {o : List AO} {h : HookRes} (hr : r21 v ok sn sp vn vp n p ns ps t u a o = some h) (hps : AllP h.ps) : Contract Try.prog 21 a o h.val (outsOf h.upd o h.outs) := by
  unfold r21 at hr
  split at hr
  · rename_i _ l
    injection hr with hr; subst hr
    have h1 : o = _ := hps.1
    rw [h1]; exact delayC_d hn hp l hps.2.1
  · cases hr
def r22 (v : Int) (ok : Bool) (sn sp : Bool) (vn vp n p : Nat) (ns : Nat → Nd) (ps : Nat → Cl × Cl) (t u : Int) : List AV → List AO → Option HookRes
  | [.ptr 0 0], o => some ⟨vi (newAt sn n), true, [obU (o = hObj 32 76 sn sp vn vp n p ns ps t u), obU ((n + 1) * 56 ≤ 140737488355328)], growN 32 76 sn sp vn vp n p ns ps ⟨4, 0, zC⟩ t u⟩
  | _, _ => .none
theorem r22_ok {v : Int} {ok : Bool} {sn sp : Bool} {vn vp n p : Nat} {ns : Nat → Nd} {ps : Nat → Cl × Cl} {t u : Int} (hn : sn = false → n = 0) (hp : sp = false → p = 0) {a : List AV} {o : List AO} {h : HookRes} (hr : r22 v ok sn sp vn vp n p ns ps t u a o = some h) (hps : AllP h.ps) : Contract Try.prog 22 a o h.val (outsOf h.upd o h.outs) := by
  unfold r22 at hr
  split at hr
  · rename_i _
    injection hr with hr; subst hr
    have h1 : o = _ := hps.1
    rw [h1]; exact poisonC_d hn hp hps.2.1
  · cases hr
def r23 (v : Int) (ok : Bool) (sn sp : Bool) (vn vp n p : Nat) (ns : Nat → Nd) (ps : Nat → Cl × Cl) (t u : Int) : List AV → List AO → Option HookRes
  | [.ptr 0 0, .agg [.i (.sc (.int .i64 k)), .i (.sc (.complex .f64 re im)), .i (.sc (.bool b)), .i (.sc (.int .i64 l))], .agg [.i (.sc (.int .i64 k')), .i (.sc (.complex .f64 re' im')), .i (.sc (.bool b')), .i (.sc (.int .i64 l'))]], o => match ok with
    | true => some ⟨.tup [vi (newAt sp p), vi 0], true, [obU (o = hObj 32 76 sn sp vn vp n p ns ps t u), ob (cellR n p ⟨k, re, im, b, l⟩ = true), ob (cellR n p ⟨k', re', im', b', l'⟩ = true), obU ((p + 1) * 80 ≤ 140737488355328)], growP 32 76 sn sp vn vp n p ns ps ⟨k, re, im, b, l⟩ ⟨k', re', im', b', l'⟩ t u⟩
    | false => some ⟨.tup [vi 0, vi 3], true, [obU (o = hObj 32 76 sn sp vn vp n p ns ps t u), ob ((cellR n p ⟨k, re, im, b, l⟩ && cellR n p ⟨k', re', im', b', l'⟩) = false)], hObj 32 76 sn sp vn vp n p ns ps t u⟩
  | _, _ => .none
theorem r23_ok {v : Int} {ok : Bool} {sn sp : Bool} {vn vp n p : Nat} {ns : Nat → Nd} {ps : Nat → Cl × Cl} {t u : Int} (hn : sn = false → n = 0) (hp : sp = false → p = 0) {a : List AV} {o : List AO} {h : HookRes} (hr : r23 v ok sn sp vn vp n p ns ps t u a o = some h) (hps : AllP h.ps) : Contract Try.prog 23 a o h.val (outsOf h.upd o h.outs) := by
  unfold r23 at hr
  split at hr
  · rename_i _ k re im b l k' re' im' b' l'
    split at hr
    · injection hr with hr; subst hr
      have h1 : o = _ := hps.1
      rw [h1]; exact pairC_yes_d hn hp ⟨k, re, im, b, l⟩ ⟨k', re', im', b', l'⟩ hps.2.1 hps.2.2.1 hps.2.2.2.1
    · injection hr with hr; subst hr
      have h1 : o = _ := hps.1
      rw [h1]; exact pairC_no_d hn hp ⟨k, re, im, b, l⟩ ⟨k', re', im', b', l'⟩ hps.2.1
  · cases hr
def r24 (v : Int) (ok : Bool) (sn sp : Bool) (vn vp n p : Nat) (ns : Nat → Nd) (ps : Nat → Cl × Cl) (t u : Int) : List AV → List AO → Option HookRes
  | [.ptr 0 0, .i (.sc (.int .i64 l))], o => some ⟨.tup [.agg (nA (lookN ns n l)), vi (lookE n l)], true, [obU (o = hObj 32 76 sn sp vn vp n p ns ps t u)], hObj 32 76 sn sp vn vp n p ns ps t u⟩
  | _, _ => .none
theorem r24_ok {v : Int} {ok : Bool} {sn sp : Bool} {vn vp n p : Nat} {ns : Nat → Nd} {ps : Nat → Cl × Cl} {t u : Int} (hn : sn = false → n = 0) (hp : sp = false → p = 0) {a : List AV} {o : List AO} {h : HookRes} (hr : r24 v ok sn sp vn vp n p ns ps t u a o = some h) (hps : AllP h.ps) : Contract Try.prog 24 a o h.val (outsOf h.upd o h.outs) := by
  unfold r24 at hr
  split at hr
  · rename_i _ l
    injection hr with hr; subst hr
    have h1 : o = _ := hps.1
    rw [h1]; exact look_d hn hp l
  · cases hr
def r25 (v : Int) (ok : Bool) (sn sp : Bool) (vn vp n p : Nat) (ns : Nat → Nd) (ps : Nat → Cl × Cl) (t u : Int) : List AV → List AO → Option HookRes
  | [.ptr 0 0, .i (.sc (.int .i64 l))], o => some ⟨.tup [.agg (cA (partsN ps p l).1 ++ cA (partsN ps p l).2), vi (lookE p l)], true, [obU (o = hObj 32 76 sn sp vn vp n p ns ps t u)], hObj 32 76 sn sp vn vp n p ns ps t u⟩
  | _, _ => .none
theorem r25_ok {v : Int} {ok : Bool} {sn sp : Bool} {vn vp n p : Nat} {ns : Nat → Nd} {ps : Nat → Cl × Cl} {t u : Int} (hn : sn = false → n = 0) (hp : sp = false → p = 0) {a : List AV} {o : List AO} {h : HookRes} (hr : r25 v ok sn sp vn vp n p ns ps t u a o = some h) (hps : AllP h.ps) : Contract Try.prog 25 a o h.val (outsOf h.upd o h.outs) := by
  unfold r25 at hr
  split at hr
  · rename_i _ l
    injection hr with hr; subst hr
    have h1 : o = _ := hps.1
    rw [h1]; exact parts_d hn hp l
  · cases hr
def r26 (v : Int) (ok : Bool) (sn sp : Bool) (vn vp n p : Nat) (ns : Nat → Nd) (ps : Nat → Cl × Cl) (t u : Int) : List AV → List AO → Option HookRes
  | [.ptr 0 0, .i (.sc (.int .i64 l))], o => some ⟨.tup [.agg (nA (enterN ns n l)), vi (enterE ns n l)], true, [obU (o = hObj 32 76 sn sp vn vp n p ns ps t u)], hObj 32 76 sn sp vn vp n p (enterNs ns n l) ps t u⟩
  | _, _ => .none
theorem r26_ok {v : Int} {ok : Bool} {sn sp : Bool} {vn vp n p : Nat} {ns : Nat → Nd} {ps : Nat → Cl × Cl} {t u : Int} (hn : sn = false → n = 0) (hp : sp = false → p = 0) {a : List AV} {o : List AO} {h : HookRes} (hr : r26 v ok sn sp vn vp n p ns ps t u a o = some h) (hps : AllP h.ps) : Contract Try.prog 26 a o h.val (outsOf h.upd o h.outs) := by
  unfold r26 at hr
  split at hr
  · rename_i _ l
    injection hr with hr; subst hr
    have h1 : o = _ := hps.1
    rw [h1]; exact enterC_d hn hp l
  · cases hr
def r27 (v : Int) (ok : Bool) (sn sp : Bool) (vn vp n p : Nat) (ns : Nat → Nd) (ps : Nat → Cl × Cl) (t u : Int) : List AV → List AO → Option HookRes
  | [.ptr 0 0, .i (.sc (.int .i64 l)), .agg [.i (.sc (.int .i64 k')), .i (.sc (.complex .f64 re' im')), .i (.sc (.bool b')), .i (.sc (.int .i64 l'))]], o => some ⟨vi (updE ns n p l ⟨k', re', im', b', l'⟩), true, [obU (o = hObj 32 76 sn sp vn vp n p ns ps t u), obU (cellR n p ⟨k', re', im', b', l'⟩ = cellS n p ⟨k', re', im', b', l'⟩)], hObj 32 76 sn sp vn vp n p (updNs ns n p l ⟨k', re', im', b', l'⟩) ps t (updU ns n p l ⟨k', re', im', b', l'⟩ u)⟩
  | _, _ => .none
theorem r27_ok {v : Int} {ok : Bool} {sn sp : Bool} {vn vp n p : Nat} {ns : Nat → Nd} {ps : Nat → Cl × Cl} {t u : Int} (hn : sn = false → n = 0) (hp : sp = false → p = 0) {a : List AV} {o : List AO} {h : HookRes} (hr : r27 v ok sn sp vn vp n p ns ps t u a o = some h) (hps : AllP h.ps) : Contract Try.prog 27 a o h.val (outsOf h.upd o h.outs) := by
  unfold r27 at hr
  split at hr
  · rename_i _ l k' re' im' b' l'
    injection hr with hr; subst hr
    have h1 : o = _ := hps.1
    rw [h1]; exact updC_d hn hp l ⟨k', re', im', b', l'⟩ hps.2.1
  · cases hr
def runS (v : Int) (ok : Bool) (sn sp : Bool) (vn vp n p : Nat) (ns : Nat → Nd) (ps : Nat → Cl × Cl) (t u : Int) : FuncId → List AV → List AO → Option HookRes := fun g a o => match g with
  | 20 => r20 v ok sn sp vn vp n p ns ps t u a o
  | 12 => r12 v ok sn sp vn vp n p ns ps t u a o
  | 18 => r18 v ok sn sp vn vp n p ns ps t u a o
  | 19 => r19 v ok sn sp vn vp n p ns ps t u a o
  | 9 => r9 v ok sn sp vn vp n p ns ps t u a o
  | 10 => r10 v ok sn sp vn vp n p ns ps t u a o
  | 11 => r11 v ok sn sp vn vp n p ns ps t u a o
  | 13 => r13 v ok sn sp vn vp n p ns ps t u a o
  | 14 => r14 v ok sn sp vn vp n p ns ps t u a o
  | 15 => r15 v ok sn sp vn vp n p ns ps t u a o
  | 16 => r16 v ok sn sp vn vp n p ns ps t u a o
  | 21 => r21 v ok sn sp vn vp n p ns ps t u a o
  | 22 => r22 v ok sn sp vn vp n p ns ps t u a o
  | 23 => r23 v ok sn sp vn vp n p ns ps t u a o
  | 24 => r24 v ok sn sp vn vp n p ns ps t u a o
  | 25 => r25 v ok sn sp vn vp n p ns ps t u a o
  | 26 => r26 v ok sn sp vn vp n p ns ps t u a o
  | 27 => r27 v ok sn sp vn vp n p ns ps t u a o
  | _ => .none
def quietS : FuncId → Bool := fun g => Nat.beq g 12 || Nat.ble 18 g && Nat.ble g 20 || Nat.ble 32 g
def hookS (v : Int) (ok : Bool) (sn sp : Bool) (vn vp n p : Nat) (ns : Nat → Nd) (ps : Nat → Cl × Cl) (t u : Int) : Hook := ⟨fun _ => .own, quietS, runS v ok sn sp vn vp n p ns ps t u, Try.ext⟩
theorem hookS_ok {v : Int} {ok : Bool} {sn sp : Bool} {vn vp n p : Nat} {ns : Nat → Nd} {ps : Nat → Cl × Cl} {t u : Int} (hn : sn = false → n = 0) (hp : sp = false → p = 0) : HookOK Try.prog (hookS v ok sn sp vn vp n p ns ps t u) := by
  refine ⟨fun g a o h hr hps => ?_, Try.hook_ok.ext⟩
  have hr : runS v ok sn sp vn vp n p ns ps t u g a o = some h := hr
  simp only [runS] at hr
  split at hr
  · exact r20_ok hn hp hr hps
  · exact r12_ok hn hp hr hps
  · exact r18_ok hn hp hr hps
  · exact r19_ok hn hp hr hps
  · exact r9_ok hn hp hr hps
  · exact r10_ok hn hp hr hps
  · exact r11_ok hn hp hr hps
  · exact r13_ok hn hp hr hps
  · exact r14_ok hn hp hr hps
  · exact r15_ok hn hp hr hps
  · exact r16_ok hn hp hr hps
  · exact r21_ok hn hp hr hps
  · exact r22_ok hn hp hr hps
  · exact r23_ok hn hp hr hps
  · exact r24_ok hn hp hr hps
  · exact r25_ok hn hp hr hps
  · exact r26_ok hn hp hr hps
  · exact r27_ok hn hp hr hps
  · cases hr
end flt
end Go.Proofs.Ytjgddhjjcgndaaa
