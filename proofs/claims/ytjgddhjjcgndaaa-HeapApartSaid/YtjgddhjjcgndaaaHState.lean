import Derived.Test.YtjgddhjjcgndaaaHZero
/- The state of two heaps that hold the same: cells, nodes, pairs; Valid by its answer. -/
namespace Go.Proofs.Ytjgddhjjcgndaaa
open Go.AI
set_option maxRecDepth 100000
namespace flt
structure Cl where
  kind : Int
  re : Nat
  im : Nat
  b : Bool
  loc : Int
structure Nd where
  st : Int
  tag : Int
  c : Cl
def vi (n : Int) : AV := .i (.sc (.int .i64 n))
def vb (b : Bool) : AV := .i (.sc (.bool b))
def cA (c : Cl) : List AV := [vi c.kind, .i (.sc (.complex .f64 c.re c.im)), vb c.b, vi c.loc]
def nodeF (ns : Nat → Nd) : Nat → Nat → IV := fun i j => match j with
  | 0 => .sc (.int .i64 (ns i).st)
  | 1 => .sc (.int .i64 (ns i).tag)
  | 2 => .sc (.int .i64 (ns i).c.kind)
  | 3 => .sc (.complex .f64 (ns i).c.re (ns i).c.im)
  | 4 => .sc (.bool (ns i).c.b)
  | _ => .sc (.int .i64 (ns i).c.loc)
def pairF (ps : Nat → Cl × Cl) : Nat → Nat → IV := fun i j => match j with
  | 0 => .sc (.int .i64 (ps i).1.kind)
  | 1 => .sc (.complex .f64 (ps i).1.re (ps i).1.im)
  | 2 => .sc (.bool (ps i).1.b)
  | 3 => .sc (.int .i64 (ps i).1.loc)
  | 4 => .sc (.int .i64 (ps i).2.kind)
  | 5 => .sc (.complex .f64 (ps i).2.re (ps i).2.im)
  | 6 => .sc (.bool (ps i).2.b)
  | _ => .sc (.int .i64 (ps i).2.loc)
/-- A slice that is nil, or a row. -/
def slV (b : Bool) (id ver sz n : Nat) : AV := match b with
  | false => .i (.sc (.slice none 0 0))
  | true => .row id ver sz 0 n

/-- Valid, with its answer 'v'; zero and Of, too. -/
def run3 (v : Bool) : FuncId → List AV → List AO → Option HookRes
  | 32, [.i (.sc (.complex .f64 re im))], [] => some ⟨vb v, true, [ob ((plainS re && plainS im) = v)], []⟩
  | 35, [.i (.sc (.complex .f64 re im))], [] => some ⟨vb v, true, [ob (zeroS re im = v)], []⟩
  | 34, [.i (.sc (.complex .f64 re im))], [] => match v with
    | true => some ⟨ofV (partN re) (partN im) true, true, [ob (partOk re = true), ob (partOk im = true)], []⟩
    | false => some ⟨ofV 0 0 false, true, [ob ((partOk re && partOk im) = false)], []⟩
  | _, _, _ => .none
def hook3 (v : Bool) : Hook := { Try.hook with run := run3 v }
theorem hook3_ok (b : Bool) : HookOK Try.prog (hook3 b) := by
  refine ⟨fun g a o h hr hps => ?_, Try.hook_ok.ext⟩
  have hr : run3 b g a o = some h := hr
  unfold run3 at hr
  split at hr
  · injection hr with hr; subst hr
    have h1 := hps.1; simp only [ob] at h1
    have := valid_contract ‹Nat› ‹Nat›
    rw [← h1]
    exact valid_contract _ _
  · injection hr with hr; subst hr
    have h1 := hps.1; simp only [ob] at h1
    rw [← h1]
    exact zero_contract _ _
  · split at hr
    · injection hr with hr; subst hr; exact of_yes _ _ hps.1 hps.2.1
    · injection hr with hr; subst hr; exact of_no _ _ hps.1
  · cases hr
end flt
end Go.Proofs.Ytjgddhjjcgndaaa
