import Derived.Test.YtjgddhjjcgndaaaAIDefs
namespace Go.AI

/-! ### Scalars: the model's own operations, run on no world -/
def scalarA (P : Program) (s : Sem Value) : Option Res := match pureRun P s with
  | some v => match v.oneCell' with
    | true => Res.v (.i (.sc v))
    | false => none
  | none => none

def isNilV : Value → Bool
  | .pointer none | .slice none _ _ | .map none | .nilFunc | .nilIface => true
  | _ => false

/-- What is no nil: pointers, functions, maps of ours. -/
def AV.there : AV → Bool
  | .ptr .. | .pel .. | .ro .. | .mp _ | .clo .. => true
  | .i (.sc (.func ..)) => true
  | _ => false

def boolOf? : AV → Option Bool
  | .i (.sc (.bool b)) => some b
  | _ => none

/-- Do two structs' fields agree: the conjunction. -/
def eqFields (P : Program) (xs ys : List Value) : List Field → Option Bool
  | [] => some true
  | f :: fs => match f.name == "_" with
    | true => eqFields P xs ys fs
    | false => match xs[f.offset]?, ys[f.offset]?, aggT P f.type with
      | some a, some b, some false => match pureRun P (Op.equalIn 9999 f.type a b), eqFields P xs ys fs with
        | some c, some d => some (c && d)
        | _, _ => none
      | _, _, _ => none

def negIf (op : BinOp) (b : Bool) : Bool := match op with
  | .neq => !b
  | _ => b

def floatRes (k : FloatKind) (r : Option Nat) : Option Res := Res.w (.i (.sc (.float k (r.getD 0)))) [r.isSome = true]

def binA (P : Program) (op : BinOp) (t : TypeId) (ox oy : Operand) (x y : AV) : Option Res :=
  match op, x, y with
  | .quo, .i (.sc (.int k a)), .i (.sc (.int k' b)) => match decide (k = k') with
    | true => Res.w (.i (.sc (.int k (k.wrap (a.tdiv b))))) [b ≠ 0]
    | false => none
  | .rem, .i (.sc (.int k a)), .i (.sc (.int k' b)) => match decide (k = k') with
    | true => Res.w (.i (.sc (.int k (a.tmod b)))) [b ≠ 0]
    | false => none
  | .shl, .i (.sc (.int k a)), .i (.sc (.int _ b)) => Res.w (.i (.sc (.int k (k.wrap (a * 2 ^ (min b.toNat k.bits)))))) [0 ≤ b]
  | .shr, .i (.sc (.int k a)), .i (.sc (.int _ b)) => Res.w (.i (.sc (.int k (a.fdiv (2 ^ (min b.toNat k.bits)))))) [0 ≤ b]
  | .add, .i (.sc (.string a)), .i (.sc (.string b)) => Res.w (.i (.sc (.string (a ++ b)))) [a.size + b.size ≤ 9223372036854775807]
  | .add, .i (.sc (.float k a)), .i (.sc (.float k' b)) => match decide (k = k') with
    | true => floatRes k (k.format.add a b)
    | false => none
  | .sub, .i (.sc (.float k a)), .i (.sc (.float k' b)) => match decide (k = k') with
    | true => floatRes k (k.format.sub a b)
    | false => none
  | .mul, .i (.sc (.float k a)), .i (.sc (.float k' b)) => match decide (k = k') with
    | true => floatRes k (k.format.mul a b)
    | false => none
  | .quo, .i (.sc (.float k a)), .i (.sc (.float k' b)) => match decide (k = k') with
    | true => floatRes k (k.format.div a b)
    | false => none
  | op, .i (.sc a), .i (.sc b) => scalarA P (do eqGuard op t ox oy a b; binOp op t a b)
  | .eql, .agg cs, .agg ds => match P.underlying t, scs? cs, scs? ds, P.stoodInHeld t, P.eqGuardType P.depth t with
    | some (.struct fs), some xs, some ys, false, false => match eqFields P xs ys fs.toList with
      | some b => Res.v (.i (.sc (.bool b)))
      | none => none
    | _, _, _, _, _ => none
  | .neq, .agg cs, .agg ds => match P.underlying t, scs? cs, scs? ds, P.stoodInHeld t, P.eqGuardType P.depth t with
    | some (.struct fs), some xs, some ys, false, false => match eqFields P xs ys fs.toList with
      | some b => Res.v (.i (.sc (.bool (!b))))
      | none => none
    | _, _, _, _, _ => none
  | .eql, x, .i (.sc (.pointer none)) => match x, P.underlying t with
    | .ptr .., some (.pointer _) | .pel .., some (.pointer _) | .ro .., some (.pointer _) => Res.v (.i (.sc (.bool false)))
    | _, _ => none
  | .neq, x, .i (.sc (.pointer none)) => match x, P.underlying t with
    | .ptr .., some (.pointer _) | .pel .., some (.pointer _) | .ro .., some (.pointer _) => Res.v (.i (.sc (.bool true)))
    | _, _ => none
  | _, _, _ => none

def byteOf : IV → UInt8
  | .sc (.int _ n) => UInt8.ofNat n.toNat
  | _ => 0
/-- The string of n bytes. -/
def strF (n : Nat) (f : Nat → Nat → IV) : ByteArray := ⟨((List.range n).map fun i => byteOf (f i 0)).toArray⟩
def bytesF (s : ByteArray) : Nat → Nat → IV := fun i _ => .sc (.int .u8 (byteAt s i))

def convA (P : Program) (H : Heap) (src dst : TypeId) (x : AV) : Option Res :=
  match P.underlying src, P.underlying dst, x with
  | some _, some (.slice e), .i (.sc (.string s)) => match P.underlying e with
    | some (.int .u8) => Res.v (.i (.sv s.size 1 (bytesF s)))
    | _ => none
  | some (.slice e), some .string, x => match P.underlying e, sourceA H x with
    | some (.int .u8), some (n, sz, f, ps) => match Nat.beq sz 1 && !(isStr x) with
      | true => Res.w (.i (.sc (.string (strF n f)))) (obU (∀ i, i < n → ∃ b : UInt8, f i 0 = .sc (.int .u8 b.toNat)) :: ps)
      | false => none
    | _, _ => none
  | some (.float _), some (.int k), .i (.sc (.float s b)) => Res.w (.i (.sc (.int k (((s.decode b).toInt .zero).getD 0)))) [(((s.decode b).toInt .zero).isSome) = true, k.min ≤ ((s.decode b).toInt .zero).getD 0, ((s.decode b).toInt .zero).getD 0 ≤ k.max]
  | _, _, .i (.sc v) => scalarA P (convert src dst v)
  | _, _, _ => none

def nilCheckA (x : AV) : Option Res := match x with
  | .ptr .. | .pel .. | .ro .. | .clo (.func _) _ _ | .i (.sc (.func (.func _) _ _)) => Res.v x
  | _ => none

/-! ### Calls of functions -/
mutual
def refs : AV → List Nat
  | .any => []
  | .i _ => []
  | .agg cs => refsL cs
  | .tup cs => refsL cs
  | .ptr id _ => [id]
  | .sl id _ _ _ => [id]
  | .row id _ _ _ _ => [id]
  | .pel id _ _ _ _ => [id]
  | .ro .. => []
  | .mp id => [id]
  | .clo _ a b => refsL a ++ refsL b
def refsL : List AV → List Nat
  | [] => []
  | a :: l => refs a ++ refsL l
end
def refsO : AO → List Nat
  | .cells _ cs => refsL cs
  | _ => []

mutual
/-- Numbers put for numbers. -/
def ren (r : Nat → Nat) : AV → AV
  | .any => .any
  | .i x => .i x
  | .agg cs => .agg (renL r cs)
  | .tup cs => .tup (renL r cs)
  | .ptr id o => .ptr (r id) o
  | .sl id o n c => .sl (r id) o n c
  | .row id v s l n => .row (r id) v s l n
  | .pel id v s k j => .pel (r id) v s k j
  | .ro n f o => .ro n f o
  | .mp id => .mp (r id)
  | .clo f a b => .clo f (renL r a) (renL r b)
def renL (r : Nat → Nat) : List AV → List AV
  | [] => []
  | a :: l => ren r a :: renL r l
end
def renO (r : Nat → Nat) : AO → AO
  | .cells t cs => .cells t (renL r cs)
  | o => o

def hasN : List Nat → Nat → Bool
  | [], _ => false
  | a :: l, k => match Nat.beq a k with
    | true => true
    | false => hasN l k
def addNs : List Nat → List Nat → List Nat
  | l, [] => l
  | l, a :: m => match hasN l a with
    | true => addNs l m
    | false => addNs (l ++ [a]) m
/-- All that is reached, in the order in which it is met. -/
def reach (H : Heap) : Nat → List Nat → List Nat → List Nat
  | 0, _, l => l
  | _, [], l => l
  | n + 1, a :: todo, l => match get H a with
    | some o => reach H n (todo ++ refsO o) (addNs l (refsO o))
    | none => reach H n todo l
def idxN : List Nat → Nat → Nat
  | [], k => k
  | a :: l, k => match Nat.beq a k with
    | true => 0
    | false => Nat.succ (idxN l k)
def nthN : List Nat → Nat → Nat
  | [], k => k
  | a :: _, 0 => a
  | _ :: l, k + 1 => nthN l k

mutual
/-- A row of ours told by its elements. -/
def thaw (H : Heap) : AV → AV
  | .row id ver sz lo n => match get H id with
    | some (.row _ sz' ver' _ f) => match Nat.beq ver ver', Nat.beq sz sz' with
      | true, true => .i (.sv n sz (fun i j => f (lo + i) j))
      | _, _ => .any
    | _ => .any
  | .agg cs => .agg (thawL H cs)
  | .any => .any
  | .i x => .i x
  | .tup cs => .tup cs
  | .ptr id o => .ptr id o
  | .sl id o n c => .sl id o n c
  | .pel id v s k j => .pel id v s k j
  | .ro n f o => .ro n f o
  | .mp id => .mp id
  | .clo f a b => .clo f a b
def thawL (H : Heap) : List AV → List AV
  | [] => []
  | a :: l => thaw H a :: thawL H l
end
mutual
/-- Which rows are told so; how much of each must be there. -/
def thawed (H : Heap) : AV → List Nat × List Ob
  | .row id _ _ lo n => match get H id with
    | some (.row _ _ _ m _) => ([id], [lo + n ≤ m])
    | _ => ([], [])
  | .agg cs => thawedL H cs
  | _ => ([], [])
def thawedL (H : Heap) : List AV → List Nat × List Ob
  | [] => ([], [])
  | a :: l => match thawed H a, thawedL H l with
    | (x, p), (y, q) => (x ++ y, p ++ q)
end

/-- How the arguments of a function are handed on: rows told by their elements and given back ('lend'), or for good ('give'), or as they are ('own'). -/
inductive Mode where
  | lend | give | own
structure HookRes where
  val : AV
  upd : Bool          -- do objects that were handed in change?
  ps : List Ob      -- what is owed
  outs : List AO      -- those objects, behind the call (if they change), and then the new ones
structure Hook where
  mode : FuncId → Mode
  quiet : FuncId → Bool
  run : FuncId → List AV → List AO → Option HookRes
  ext : FuncId → List Value → Option (Value × List Ob)   -- functions without a text

def isSc : AV → Bool
  | .i (.sc _) => true
  | .any => true
  | _ => false
def allSc : List AV → Bool
  | [] => true
  | a :: l => match isSc a with
    | true => allSc l
    | false => false
/-- Is it numbers and the like alone? -/
def plainA : AV → Bool
  | .tup l => allSc l
  | .agg l => allSc l
  | a => isSc a

def pairUp (L : List Nat) (fresh : Nat) : List AO → List (Nat × AO)
  | [] => []
  | o :: os => match L with
    | a :: l => (a, o) :: pairUp l fresh os
    | [] => (fresh, o) :: pairUp [] (fresh + 1) os

def freshL : Nat → Nat → List Nat
  | _, 0 => []
  | k, n + 1 => k :: freshL (k + 1) n

def meets : List Nat → List Nat → Bool
  | [], _ => false
  | a :: l, m => match hasN m a with
    | true => true
    | false => meets l m

section
variable (P : Program) (hk : Hook)

def subN : List Nat → List Nat → Bool
  | [], _ => true
  | a :: l, m => match hasN m a with
    | true => subN l m
    | false => false
def nodupN : List Nat → Bool
  | [] => true
  | a :: l => match hasN l a with
    | true => false
    | false => nodupN l
def presentN (H : Heap) : List Nat → Bool
  | [] => true
  | a :: l => match get H a with
    | some _ => presentN H l
    | none => false
def closedN (H : Heap) (S : List Nat) : List Nat → Bool
  | [] => true
  | a :: l => match get H a with
    | some o => match subN (refsO o) S with
      | true => closedN H S l
      | false => false
    | none => false
def belowN (n : Nat) : List Nat → Bool
  | [] => true
  | a :: l => match Nat.ble (a + 1) n with
    | true => belowN n l
    | false => false
def belowO (n : Nat) : List AO → Bool
  | [] => true
  | o :: l => match belowN n (refsO o) with
    | true => belowO n l
    | false => false
def nilN {α : Type} : List α → Bool
  | [] => true
  | _ => false

/-- What of the arguments is handed on, which rows are told by their elements, and what must hold for that. -/
def argsA (m : Mode) (H : Heap) (args : List AV) : List AV × List Nat × List Ob := match m with
  | .own => (args, [], [])
  | _ => (thawL H args, thawedL H args)

def callS (H : Heap) (cargs : List AV) : List Nat := reach H 40 (addNs [] (refsL cargs)) (addNs [] (refsL cargs))

def callOk (H : Heap) (th S : List Nat) (cargs : List AV) : Bool :=
  !(meets th S) && nodupN S && presentN H S && subN (refsL cargs) S && closedN H S S && presentN H th

def objsOf (H : Heap) (S : List Nat) : List AO := S.map fun id => renO (idxN S) ((get H id).getD .gone)

def backOk (m : Mode) (th S : List Nat) (val : AV) (outs : List AO) : Bool :=
  Nat.ble (lenN S) (lenN outs) && Nat.ble (lenN outs) (lenN S + 4) && belowN (lenN outs) (refs val) && belowO (lenN outs) outs &&
    (match m with
     | .lend => nilN th || (nilN S && plainA val && nilN outs)
     | _ => true)

def goneL (m : Mode) (th : List Nat) : List (Nat × AO) := match m with
  | .give => th.map fun id => (id, AO.gone)
  | _ => []

def outsOf (u : Bool) (objs outs : List AO) : List AO := match u with
  | true => outs
  | false => objs ++ outs
def newsOf (u : Bool) (L F : List Nat) (back : Nat → Nat) (outs new : List AO) : List (Nat × AO) := match u with
  | true => pairUp L 0 (outs.map (renO back))
  | false => pairUp F 0 (new.map (renO back))

def callA (H : Heap) (g : FuncId) (args : List AV) (fresh : Nat) : Option Res :=
  match argsA (hk.mode g) H args with
  | (cargs, th, tps) =>
    let S := callS H cargs
    match callOk H th S cargs with
    | false => none
    | true => match hk.run g (renL (idxN S) cargs) (objsOf H S) with
      | none => none
      | some h =>
        let outs := outsOf h.upd (objsOf H S) h.outs
        match backOk (hk.mode g) th S h.val outs with
        | false => none
        | true =>
          let L := S ++ freshL fresh (lenN outs - lenN S)
          let back := nthN L
          some ⟨ren back h.val, newsOf h.upd L (freshL fresh (lenN outs - lenN S)) back outs h.outs ++ goneL (hk.mode g) th, h.ps ++ tps⟩

def lenA (H : Heap) (t : TypeId) (x : AV) : Option Res :=
  match P.underlying t, x with
  | some .string, .i (.sc (.string s)) => Res.v (.i (.sc (.int .i64 s.size)))
  | some (.slice _), .i (.sv n _ _) => Res.v (.i (.sc (.int .i64 n)))
  | some (.slice _), .row _ _ _ _ n => Res.v (.i (.sc (.int .i64 n)))
  | some (.slice _), .sl _ _ n _ => Res.v (.i (.sc (.int .i64 n)))
  | some (.slice _), .i (.sc (.slice none 0 0)) => Res.v (.i (.sc (.int .i64 0)))
  | some (.map _ _), .mp id => match get H id with
    | some (.smap _ ks _) => Res.v (.i (.sc (.int .i64 ks.length)))
    | _ => none
  | some (.array n _), _ => Res.v (.i (.sc (.int .i64 n)))
  | _, _ => none

def builtinA (b : Builtin) (ts : Array TypeId) (ty : TypeId) (H : Heap) (args : List AV) (fresh : Nat) : Option Res :=
  match b, args with
  | .len, [x] => match ts[0]? with
    | some t => lenA P H t x
    | none => none
  | .append, [s, x] => match ts.toList with
    | [a, b] => match Nat.beq a b with
      | true => appendA P H a s x fresh
      | false => none
    | _ => none
  | .min, args => match vals? args with
    | some vs => scalarA P (Builtin.min_ ts ty vs.toArray)
    | none => none
  | .max, args => match vals? args with
    | some vs => scalarA P (Builtin.max_ ts ty vs.toArray)
    | none => none
  | .complex, args => match vals? args with
    | some vs => scalarA P (Builtin.complex_ ts ty vs.toArray)
    | none => none
  | .real, args => match vals? args with
    | some vs => scalarA P (Builtin.real_ ts ty vs.toArray)
    | none => none
  | .imag, args => match vals? args with
    | some vs => scalarA P (Builtin.imag_ ts ty vs.toArray)
    | none => none
  | _, _ => none

def okF (g : FuncId) : Bool := match P.funcs[g]? with
  | some fn => match fn.body with
    | some _ => !(fn.name == "runtime.NumGoroutine")
    | none => false
  | none => false

def opA (ρ : Operand → AV) (o : Oper) (H : Heap) (fresh : Nat) : Option Res :=
  match o.op with
  | .move x | .assign x => Res.v (ρ x)
  | .pick c a b => match boolOf? (ρ c) with
    | some true => Res.v (ρ a)
    | some false => Res.v (ρ b)
    | none => none
  | .alloc e => match zeroT P e with
    | some z => some ⟨.ptr fresh 0, [(fresh, .cells e z)], []⟩
    | none => none
  | .box e x => match allOne (ρ x).cells with
    | true => some ⟨.ptr fresh 0, [(fresh, .cells e (ρ x).cells)], []⟩
    | false => none
  | .build t parts => buildA P t (parts.toList.map fun p => (p.1, ρ p.2))
  | .buildSlice t len parts => buildSliceA P t len (parts.toList.map fun p => (p.1, ρ p.2)) fresh
  | .load t a => loadA P H t (ρ a)
  | .store t a x => storeA P H t (ρ a) (ρ x)
  | .nilCheck x => nilCheckA (ρ x)
  | .binOp op t x y _ => binA P op t x y (ρ x) (ρ y)
  | .unOp op _ x => match (ρ x).sc? with
    | some v => scalarA P (Op.unary op v)
    | none => none
  | .convert src dst x => convA P H src dst (ρ x)
  | .makeFunc fn first cap => Res.v (.clo fn (first.toList.map ρ) (cap.toList.map ρ))
  | .makeMap t none => match isMapSI P t with
    | true => some ⟨.mp fresh, [(fresh, .smap t [] (fun _ => 0))], []⟩
    | false => none
  | .makeSlice t l c => makeSliceA P t (ρ l) (ρ c) fresh
  | .slice t x lo hi mx => sliceA P t (ρ x) (lo.map ρ) (hi.map ρ) (mx.map ρ)
  | .fieldAddr s x k => fieldAddrA P s (ρ x) k
  | .field s x k => fieldA P s (ρ x) k
  | .indexAddr t x k => indexAddrA P t (ρ x) (ρ k)
  | .index t x k => indexA P t (ρ x) (ρ k)
  | .lookup t m k ok => lookupA P H t (ρ m) (ρ k) ok
  | .mapUpdate t m k x => mapUpdateA P H t (ρ m) (ρ k) (ρ x)
  | .mapEntry t m k => mapEntryA P H t (ρ m) (ρ k)
  | .entryStore _ m k x => entryStoreA H (ρ m) (ρ k) (ρ x)
  | .extract t k => match ρ t with
    | .tup vs => match vs[k]? with
      | some v => Res.v v
      | none => none
    | _ => none
  | .call c => match c.callee with
    | .builtin b => builtinA P b c.argTypes o.type H (c.args.toList.map ρ) fresh
    | .value f => match ρ f with
      | .clo (.func g) first cap => match okF P g with
        | true => callA hk H g (first ++ c.args.toList.map ρ ++ cap) fresh
        | false => none
      | .i (.sc (.func (.func g) first cap)) => match okF P g with
        | true => callA hk H g (first.toList.map constV ++ c.args.toList.map ρ ++ cap.toList.map constV) fresh
        | false => match vals? (first.toList.map constV ++ c.args.toList.map ρ ++ cap.toList.map constV) with
          | some vs => match hk.ext g vs with
            | some (v, ps) => some ⟨.i (.sc v), [], ps⟩
            | none => none
          | none => none
      | _ => none
    | .invoke .. => none
  | _ => none

/-! ### Regions and code -/
def putEnv (env : List AV) (dst : Option Tmp) (v : AV) : List AV := match dst with
  | some d => setNth env d v
  | none => env

def decOf : List (Nat × Bool) → Nat → Option Bool
  | [], _ => none
  | (k, b) :: l, j => match Nat.beq k j with
    | true => some b
    | false => decOf l j

/-- How an operation may touch the objects: 0 not at all, 1 it reads, 2 it makes new ones, 3 it reads and makes, 4 it writes. -/
def clsO (o : Op) : Nat := match o with
  | .move _ | .assign _ | .pick .. | .build .. | .nilCheck _ | .binOp .. | .unOp .. | .makeFunc .. | .slice .. | .fieldAddr .. | .field .. | .indexAddr .. | .index .. | .extract .. => 0
  | .load .. | .lookup .. | .convert .. => 1
  | .alloc _ | .box .. | .buildSlice .. | .makeMap .. | .makeSlice .. => 2
  | .call c => match c.callee with
    | .builtin .append => 4
    | .builtin _ => 1
    | .value (.func g) => match hk.quiet g with
      | true => 3
      | false => 4
    | _ => 4
  | _ => 4

def inFresh (fresh k : Nat) : Bool := Nat.ble fresh k && Nat.ble (k + 1) (fresh + 4)
def allFresh (fresh : Nat) : List (Nat × AO) → Bool
  | [] => true
  | x :: l => match inFresh fresh x.1 with
    | true => allFresh fresh l
    | false => false
def allHere (H : Heap) (fresh : Nat) : List (Nat × AO) → Bool
  | [] => true
  | x :: l => match get H x.1, inFresh fresh x.1 with
    | some _, _ => allHere H fresh l
    | none, true => allHere H fresh l
    | none, false => false
def clsOk (c : Nat) (H : Heap) (fresh : Nat) (upd : List (Nat × AO)) : Bool := match c with
  | 0 | 1 => nilN upd
  | 2 | 3 => allFresh fresh upd
  | _ => allHere H fresh upd

def execD (D : List (Nat × Bool)) (o : Oper) (i fresh : Nat) (env : List AV) (H : Heap) : Option (AV × List (Nat × AO) × List Ob) :=
  match opA P hk (evalO env) o H fresh with
  | none => none
  | some r => match clsOk (clsO hk o.op) H fresh r.upd with
    | false => none
    | true => match decOf D i with
      | none => some (r.val, r.upd, r.ps)
      | some b => match boolOf? r.val with
        | some c => some (.i (.sc (.bool b)), r.upd, (c = b) :: r.ps)
        | none => none

def decNow (D : List (Nat × Bool)) (j : Nat) (c : Bool) : Bool := match decOf D j with
  | some b => b
  | none => c

def owe (D : List (Nat × Bool)) (j : Nat) (c : Bool) : List Ob := match decOf D j with
  | some b => [c = b]
  | none => []

/-- What operation number i comes to: its value, the objects that it turns, what is owed. -/
def stepV (ops : Array Oper) (D : List (Nat × Bool)) (o : Oper) (i fresh : Nat) (env : List AV) (H : Heap) : Option (AV × List (Nat × AO) × List Ob) :=
  match o.guard with
  | none => execD P hk D o i fresh env H
  | some (j, want) => match (ops[j]?).bind (·.dst) with
    | none => none
    | some d => match nth env d with
      | .tup [] => some (.tup [], [], [])
      | .i (.sc (.bool c)) => match decNow D j c == want with
        | true => match execD P hk D o i fresh env H with
          | some (v, u, ps) => some (v, u, owe D j c ++ ps)
          | none => none
        | false => some (.tup [], [], owe D j c)
      | _ => none

def runD (ops : Array Oper) (D : List (Nat × Bool)) : List Oper → Nat → Nat → List AV → Heap → List Ob → Option (List AV × Heap × List Ob)
  | [], _, _, env, H, ps => some (env, H, ps)
  | o :: l, i, fresh, env, H, ps => match stepV P hk ops D o i fresh env H with
    | some (v, u, qs) => runD ops D l (i + 1) (fresh + 4) (putEnv env o.dst v) (puts H u) (qs ++ ps)
    | none => none

/-- The objects that each turns. -/
def updsD (ops : Array Oper) (D : List (Nat × Bool)) : List Oper → Nat → Nat → List AV → Heap → List (List Nat)
  | [], _, _, _, _ => []
  | o :: l, i, fresh, env, H => match stepV P hk ops D o i fresh env H with
    | some (v, u, _) => (u.map fun z => z.1) :: updsD ops D l (i + 1) (fresh + 4) (putEnv env o.dst v) (puts H u)
    | none => []

/-- The operations on which others hang. -/
def srcs (ops : List Oper) (l : List Nat) : List Nat := match ops with
  | [] => l
  | o :: r => match o.guard with
    | none => srcs r l
    | some (j, _) => srcs r (addNs l [j])
def decs : List Nat → List Bool → Option (List (Nat × Bool) × List Bool)
  | [], bs => some ([], bs)
  | j :: l, b :: bs => match decs l bs with
    | some (D, r) => some ((j, b) :: D, r)
    | none => none
  | _ :: _, [] => some ([], [])

def hIndep (a b : Nat) : Bool := match a, b with
  | 0, _ | _, 0 => true
  | 4, 2 | 2, 4 => true
  | 4, _ | _, 4 => false
  | _, _ => true
/-- May these two be carried out in either order? -/
def indepO (ops : Array Oper) (x y : Oper) : Bool := x.apart ops y && hIndep (clsO hk x.op) (clsO hk y.op)

def natAt : List Nat → Nat → Nat
  | [], _ => 0
  | a :: _, 0 => a
  | _ :: l, k + 1 => natAt l k
/-- Which operations one waits for, and those that they wait for, as bits. -/
def maskE (acc : List Nat) : List Edge → Nat → Nat
  | [], m => m
  | e :: l, m => match Region.binds .any e with
    | true => maskE acc l (Nat.lor m (Nat.lor (2 ^ e.on) (natAt acc e.on)))
    | false => maskE acc l m
def masks : List Oper → List Nat → List Nat
  | [], acc => acc
  | o :: l, acc => match maskE acc o.after.toList 0 with
    | 0 => masks l (acc ++ [0])
    | k + 1 => masks l (acc ++ [Nat.succ k])
def waitsOn (b : List Nat) (j i : Nat) : Bool := Nat.testBit (natAt b j) i
def chainE (b : List Nat) (i : Nat) : List Edge → Bool
  | [] => false
  | e :: l => match Region.binds .any e && (Nat.beq e.on i || waitsOn b e.on i) with
    | true => true
    | false => chainE b i l
/-- Does op j, if it waits for i, wait for something that is i or waits for it? -/
def chainI (b : List Nat) (es : List Edge) (j : Nat) : Nat → Bool
  | 0 => true
  | i + 1 => match !(waitsOn b j i) || chainE b i es with
    | true => chainI b es j i
    | false => false
def chainAll (b : List Nat) (n : Nat) : List Oper → Nat → Bool
  | [], _ => true
  | o :: l, j => match chainI b o.after.toList j n with
    | true => chainAll b n l (j + 1)
    | false => false
def noDst (t : Nat) : List Oper → Bool
  | [] => true
  | o :: l => match o.dst with
    | some d => match Nat.beq d t with
      | true => false
      | false => noDst t l
    | none => noDst t l
def idOf : AV → Option Nat
  | .ptr id _ => some id
  | .pel id _ _ _ _ => some id
  | _ => none
/-- Do two addresses lie in two objects? -/
def awayA (a b : AV) : Bool := match idOf a, idOf b with
  | some i, some j => match Nat.beq i j with
    | true => false
    | false => true
  | _, _ => false
/-- A load, and a store into another object, by what their addresses are at the end. -/
def aliasB (ops : Array Oper) (env : List AV) (rest : List Oper) (x y : Oper) : Bool := match x.op, y.op with
  | .load _ (.tmp p), .store _ (.tmp t) _ => awayA (nth env p) (nth env t) && noDst p rest && noDst t ops.toList && x.apart ops y
  | _, _ => false
def onE (m : Nat) : List Edge → Bool
  | [] => false
  | e :: l => match Nat.beq e.on m && Region.binds .any e with
    | true => true
    | false => onE m l
/-- Does an operation with these edges wait for all that set t? -/
def predsB (t : Nat) (es : List Edge) : List Oper → Nat → Bool
  | [], _ => true
  | o :: l, m => match o.dst with
    | some d => match Nat.beq d t with
      | true => match onE m es with
        | true => predsB t es l (m + 1)
        | false => false
      | false => predsB t es l (m + 1)
    | none => predsB t es l (m + 1)
/-- A load of an object that the first leaves alone. -/
def aliasL (ops : Array Oper) (env : List AV) (us : List Nat) (x y : Oper) : Bool := match y.op with
  | .load _ (.tmp p) => match idOf (nth env p) with
    | some id => !(hasN us id) && predsB p y.after.toList ops.toList 0 && x.apart ops y
    | none => false
  | _ => false
def headU : List (List Nat) → List Nat
  | [] => []
  | a :: _ => a
def tailU : List (List Nat) → List (List Nat)
  | [] => []
  | _ :: l => l
def isNilU : List (List Nat) → Bool
  | [] => true
  | _ :: _ => false
def lexI (ops : Array Oper) (env : List AV) (rest : List Oper) (us : List (List Nat)) (b : List Nat) (x : Oper) (i : Nat) : List Oper → Nat → Bool
  | [], _ => true
  | y :: l, j => match waitsOn b j i || indepO hk ops x y || aliasB ops env rest x y || (!(isNilU us) && aliasL ops env (headU us) x y) with
    | true => lexI ops env rest us b x i l (j + 1)
    | false => false
def lexAll (ops : Array Oper) (env : List AV) (us : List (List Nat)) (b : List Nat) : List Oper → Nat → Bool
  | [], _ => true
  | x :: l, i => match lexI hk ops env (x :: l) us b x i l (i + 1) with
    | true => lexAll ops env (tailU us) b l (i + 1)
    | false => false
/-- Does each operation hang on earlier ones alone, and is none a select? -/
def backE (i : Nat) : List Edge → Bool
  | [] => true
  | e :: l => match Nat.ble (e.on + 1) i || !(Region.binds .any e) with
    | true => backE i l
    | false => false
def notSel : Op → Bool
  | .select .. => false
  | _ => true
def backAll : List Oper → Nat → Bool
  | [], _ => true
  | o :: l, i => match backE i o.after.toList, notSel o.op with
    | true, true => backAll l (i + 1)
    | _, _ => false
def drawOk (ops : Array Oper) (env : List AV) (us : List (List Nat)) : Bool := match backAll ops.toList 0 with
  | false => false
  | true => match chainAll (masks ops.toList []) ops.size ops.toList 0 with
    | false => false
    | true => lexAll hk ops env us (masks ops.toList []) ops.toList 0

def regionA (ops : Array Oper) (draw : Bool) (next : Nat) (env : List AV) (H : Heap) (bs : List Bool) (ps : List Ob) : Option (List AV × Heap × List Bool × List Ob) :=
  match decs (srcs ops.toList []) bs with
  | none => none
  | some (D, bs) => match runD P hk ops D ops.toList 0 next env H ps with
    | none => none
    | some (env1, H1, ps) => match draw with
      | false => some (env1, H1, bs, ps)
      | true => match drawOk hk ops env1 (updsD P hk ops D ops.toList 0 next env H) with
        | true => some (env1, H1, bs, ps)
        | false => none

inductive It where
  | code (c : Code)
  | blk (id : Nat)
  | back

def exitIt (id : Nat) : List It → Option (List It)
  | [] => none
  | .blk k :: l => match Nat.beq k id with
    | true => some l
    | false => exitIt id l
  | _ :: l => exitIt id l

/-- Where the machine has stopped: what is left, the state, the decisions left, what is owed. -/
structure Out where
  todo : List It
  st : St
  bs : List Bool
  ps : List Ob

def run (au : Bool) : Nat → List It → St → List Bool → List Ob → Option Out
  | 0, todo, s, bs, ps => some ⟨todo, s, bs, ps⟩
  | n + 1, todo, s, bs, ps => match todo with
    | [] => some ⟨[], s, bs, ps⟩
    | .blk _ :: k => run au n k s bs ps
    | .back :: k => some ⟨.back :: k, s, bs, ps⟩
    | .code c :: k => match c with
      | .skip => run au n k s bs ps
      | .label _ => run au n k s bs ps
      | .seq a b => run au n (.code a :: .code b :: k) s bs ps
      | .block id c => run au n (.code c :: .blk id :: k) s bs ps
      | .exit id => match exitIt id k with
        | some k => run au n k s bs ps
        | none => none
      | .ret => some ⟨[], s, bs, ps⟩
      | .cond c x y => match boolOf? (evalO s.env c), bs with
        | some b, true :: bs => run au n (.code x :: k) s bs ((b = true) :: ps)
        | some b, false :: bs => run au n (.code y :: k) s bs ((b = false) :: ps)
        | some b, [] => match au with
          | false => some ⟨todo, s, bs, ps⟩
          | true => match b with
            | true => run au n (.code x :: k) s bs ps
            | false => run au n (.code y :: k) s bs ps
        | none, _ => none
      | .region _ ops draw => match regionA P hk ops draw s.next s.env s.heap bs ps with
        | some (env, H, bs, ps) => run au n k ⟨env, H, s.next + 4 * ops.size⟩ bs ps
        | none => none
      | _ => some ⟨todo, s, bs, ps⟩
end

end Go.AI
