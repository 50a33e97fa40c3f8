import Derived.Test.YtjgddhjjcgndaaaHWhole
/- HeapApart: its states; a hook that takes steps and wholes by their contracts. -/
set_option linter.unusedVariables false
namespace Go.Proofs.Ytjgddhjjcgndaaa
open Go.AI
set_option maxRecDepth 100000
namespace flt
structure HS where
  sn : Bool
  sp : Bool
  vn : Nat
  vp : Nat
  n : Nat
  p : Nat
  ns : Nat → Nd
  ps : Nat → Cl × Cl
  t : Int
  u : Int
noncomputable def sOf (A : HS) : List AO := sOb A.sn A.sp A.vn A.vp A.n A.p A.ns A.ps A.t A.u
def cnt (b : Bool) : Nat := match b with
  | true => 1
  | false => 0
noncomputable def rowsOf (E : TypeId) (A : HS) : List AO := (match A.sn with
  | true => [.row 55 6 A.vn A.n (nodeF A.ns)]
  | false => []) ++ (match A.sp with
  | true => [.row E 8 A.vp A.p (pairF A.ps)]
  | false => [])
noncomputable def hOf (T : TypeId) (b : Nat) (A : HS) : AO := hC T (slV A.sn b A.vn 6 A.n) (slV A.sp (b + cnt A.sn) A.vp 8 A.p) A.t A.u
def wide (A : HS) : Nat := cnt A.sn + cnt A.sp
noncomputable def mObj (A B : HS) : List AO :=
  .cells 25 [.ptr 2 0, .ptr 3 0] :: .cells 28 [.ptr 4 0, .ptr 5 0] :: hOf 68 6 A :: hOf 68 (6 + wide A) B :: hOf 32 (6 + wide A + wide B) A :: hOf 32 (6 + wide A + wide B + wide A) B ::
    (rowsOf 82 A ++ (rowsOf 82 B ++ (rowsOf 76 A ++ rowsOf 76 B)))
noncomputable def hs0 : HS := ⟨false, false, 0, 0, 0, 0, fun _ => zN, fun _ => (zC, zC), 0, 0⟩
/-- Behind a step that changes nodes or counts; makes a node; makes a pair. -/
noncomputable def HS.same (A : HS) (ns : Nat → Nd) (t u : Int) : HS := { A with ns := ns, t := t, u := u }
noncomputable def HS.node (A : HS) (x : Nd) (t : Int) : HS := match A.sn with
  | true => { A with vn := A.vn + 1, n := A.n + 1, ns := addN A.ns A.n x, t := t }
  | false => { A with sn := true, vn := 0, n := 1, ns := fun _ => x, t := t }
noncomputable def HS.pair (A : HS) (a b : Cl) : HS := match A.sp with
  | true => { A with vp := A.vp + 1, p := A.p + 1, ps := addN A.ps A.p (a, b) }
  | false => { A with sp := true, vp := 0, p := 1, ps := fun _ => (a, b) }
inductive Form where
  | same (ns : Nat → Nd) (t u : Int)
  | node (x : Nd) (t : Int)
  | pair (a b : Cl)
noncomputable def HS.to (A : HS) : Form → HS
  | .same ns t u => A.same ns t u
  | .node x t => A.node x t
  | .pair a b => A.pair a b
noncomputable def HS.outs (A : HS) : Form → List AO
  | .same ns t u => sOb A.sn A.sp A.vn A.vp A.n A.p ns A.ps t u
  | .node x t => sGrowN A.sn A.sp A.vn A.vp A.n A.p A.ns A.ps x t A.u
  | .pair a b => sGrowP A.sn A.sp A.vn A.vp A.n A.p A.ns A.ps a b A.t A.u

structure ActS where
  k : Int
  l : Int
  a : CI
  b : CI
def ciF (a : CI) (j : Nat) : IV := match j with
  | 0 => .sc (.int .i64 a.k)
  | 1 => .sc (.int .i64 a.l)
  | 2 => .sc (.int .i64 a.re)
  | 3 => .sc (.int .i64 a.im)
  | 4 => .sc (.bool a.raw)
  | _ => .sc (.bool a.b)
def actF (f : Nat → ActS) : Nat → Nat → IV := fun i j => match j with
  | 0 => .sc (.int .i64 (f i).k)
  | 1 => .sc (.int .i64 (f i).l)
  | 2 => ciF (f i).a 0
  | 3 => ciF (f i).a 1
  | 4 => ciF (f i).a 2
  | 5 => ciF (f i).a 3
  | 6 => ciF (f i).a 4
  | 7 => ciF (f i).a 5
  | 8 => ciF (f i).b 0
  | 9 => ciF (f i).b 1
  | 10 => ciF (f i).b 2
  | 11 => ciF (f i).b 3
  | 12 => ciF (f i).b 4
  | _ => ciF (f i).b 5
def turnF (g : Nat → Bool) : Nat → Nat → IV := fun i _ => .sc (.bool (g i))

def runN (outs : List AO) : FuncId → List AV → List AO → Option HookRes
  | 5, [], [] => some ⟨vb true, true, [], []⟩
  | 7, a, o => some ⟨vb true, true, [obU (Contract Try.prog 7 a o (vb true) outs)], outs⟩
  | 8, a, o => some ⟨vb true, true, [obU (Contract Try.prog 8 a o (vb true) o)], o⟩
  | _, _, _ => .none
def hookN (outs : List AO) : Hook := ⟨fun _ => .own, quietS, runN outs, Try.ext⟩
theorem awake_contract : Contract Try.prog 5 [] [] (vb true) [] := saysTrue_ok (evalF_ok Try.hook_ok Try.mixed 8) Try.mixed (by kernel_rfl)
theorem hookN_ok (outs : List AO) : HookOK Try.prog (hookN outs) := by
  refine ⟨fun g a o h hr hps => ?_, Try.hook_ok.ext⟩
  have hr : runN outs g a o = some h := hr
  unfold runN at hr
  split at hr
  · injection hr with hr; subst hr; exact awake_contract
  · injection hr with hr; subst hr; exact hps.1
  · injection hr with hr; subst hr; exact hps.1
  · cases hr
noncomputable abbrev runM3 (outs : List AO) (todo : List It) (env : List AV) (objs : List AO) (bs : List Bool) : Option Out :=
  run Try.prog (evalF Try.prog (hookN outs) 8) true 4000 todo ⟨env, hp 0 objs, objs.length⟩ bs []
def rootsL (ks : List Nat) (s : St) : List Nat := addNs [] (refsL (selE s.env ks))
def reachL (ks : List Nat) (s : St) : List Nat := reach s.heap 60 (rootsL ks s) (rootsL ks s)
def landR (N : Nat) (ks : List Nat) (s : St) : Bool × List AV × List AO := landK 0 N (reachL ks s) ks s
noncomputable def mVals (N M : Nat) (f : Nat → ActS) (g : Nat → Bool) (i : Int) : List AV := [.i (.sv N 14 (actF f)), .i (.sv M 1 (turnF g)), vb false, .sl 0 0 2 2, .sl 1 0 2 2, vi i]
noncomputable def mEnv (N M : Nat) (f : Nat → ActS) (g : Nat → Bool) (i : Int) : List AV := fillE [0, 1, 4, 5, 6, 7] (mVals N M f g i) 65 0
noncomputable def mT1 : List It := outTodo (runM3 [] [.code (bodyOf 3)] (startEnv 65 [.i (.sv 0 14 (actF fun _ => ⟨0, 0, ⟨0, 0, 0, 0, false, false⟩, ⟨0, 0, 0, 0, false, false⟩⟩)), .i (.sv 0 1 (turnF fun _ => false))]) [] [])
noncomputable def mC : Code := loopC mT1
noncomputable def mK : List It := tailT mT1
end flt
end Go.Proofs.Ytjgddhjjcgndaaa
