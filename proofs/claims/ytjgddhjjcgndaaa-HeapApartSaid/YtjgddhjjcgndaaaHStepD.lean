import Derived.Test.YtjgddhjjcgndaaaHHookS
/- The objects of a step: a heap of the program and one of the document, which hold the same. -/
set_option linter.unusedVariables false
namespace Go.Proofs.Ytjgddhjjcgndaaa
open Go.AI
set_option maxRecDepth 100000
namespace flt
structure CI where
  k : Int
  l : Int
  re : Int
  im : Int
  raw : Bool
  b : Bool
def cC (a : CI) : Cl := cellC a.k a.l a.re a.im a.raw a.b
def ciA (a : CI) : List AV := [vi a.k, vi a.l, vi a.re, vi a.im, vb a.raw, vb a.b]
def actA (k l : Int) (a b : CI) : AV := .agg (vi k :: vi l :: (ciA a ++ ciA b))
def slN (b : Bool) (id ver sz n : Nat) : AV := slV b id ver sz n
def hC (T : TypeId) (a b : AV) (t u : Int) : AO := .cells T [a, b, vi t, vi u]
def nilA : AV := .i (.sc (.slice none 0 0))
def sObj (sn sp : Bool) (vn vp n p : Nat) (F G : Nat → Nat → IV) (t u : Int) : List AO := match sn, sp with
  | false, false => [hC 68 nilA nilA t u, hC 32 nilA nilA t u]
  | true, false => [hC 68 (.row 2 vn 6 0 n) nilA t u, hC 32 (.row 3 vn 6 0 n) nilA t u, .row 55 6 vn n F, .row 55 6 vn n F]
  | false, true => [hC 68 nilA (.row 2 vp 8 0 p) t u, hC 32 nilA (.row 3 vp 8 0 p) t u, .row 82 8 vp p G, .row 76 8 vp p G]
  | true, true => [hC 68 (.row 2 vn 6 0 n) (.row 3 vp 8 0 p) t u, hC 32 (.row 4 vn 6 0 n) (.row 5 vp 8 0 p) t u, .row 55 6 vn n F, .row 82 8 vp p G, .row 55 6 vn n F, .row 76 8 vp p G]
/-- Behind a step that made a node. -/
def sGrowN (sn sp : Bool) (vn vp n p : Nat) (ns : Nat → Nd) (ps : Nat → Cl × Cl) (x : Nd) (t u : Int) : List AO := match sn, sp with
  | true, sp => sObj true sp (vn + 1) vp (n + 1) p (nodeF (addN ns n x)) (pairF ps) t u
  | false, false => sObj true false 0 vp 1 p (nodeF fun _ => x) (pairF ps) t u
  | false, true => [hC 68 (.row 4 0 6 0 1) (.row 2 vp 8 0 p) t u, hC 32 (.row 5 0 6 0 1) (.row 3 vp 8 0 p) t u, .row 82 8 vp p (pairF ps), .row 76 8 vp p (pairF ps), .row 55 6 0 1 (nodeF fun _ => x), .row 55 6 0 1 (nodeF fun _ => x)]
/-- Behind a step that made a pair. -/
def sGrowP (sn sp : Bool) (vn vp n p : Nat) (ns : Nat → Nd) (ps : Nat → Cl × Cl) (a b : Cl) (t u : Int) : List AO := match sn, sp with
  | sn, true => sObj sn true vn (vp + 1) n (p + 1) (nodeF ns) (pairF (addN ps p (a, b))) t u
  | false, false => sObj false true vn 0 n 1 (nodeF ns) (pairF fun _ => (a, b)) t u
  | true, false => [hC 68 (.row 2 vn 6 0 n) (.row 4 0 8 0 1) t u, hC 32 (.row 3 vn 6 0 n) (.row 5 0 8 0 1) t u, .row 55 6 vn n (nodeF ns), .row 55 6 vn n (nodeF ns), .row 82 8 0 1 (pairF fun _ => (a, b)), .row 76 8 0 1 (pairF fun _ => (a, b))]
end flt
end Go.Proofs.Ytjgddhjjcgndaaa
