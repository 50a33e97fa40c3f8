import Derived.Orders
import Derived.Laws.Sem
/- The abstract machine: values, objects, operations. -/
namespace Go.AI

inductive IV where
  | sc (v : Value)
  | sv (n sz : Nat) (f : Nat → Nat → IV)
instance : Inhabited IV := ⟨.sc (.int .i64 0)⟩

inductive AV where
  | any
  | i (x : IV)
  | agg (cs : List AV)
  | tup (vs : List AV)
  | ptr (id off : Nat)
  | sl (id off n cap : Nat)
  | row (id ver sz lo n : Nat)
  | pel (id ver sz k j : Nat)
  | ro (n : Nat) (f : Nat → IV) (off : Nat)
  | mp (id : Nat)
  | clo (fn : Fn) (first cap : List AV)
instance : Inhabited AV := ⟨.any⟩

inductive AO where
  | gone
  | cells (t : TypeId) (cs : List AV)
  | row (e : TypeId) (sz ver n : Nat) (f : Nat → Nat → IV)
  | smap (t : TypeId) (ks : List ByteArray) (g : ByteArray → Int)
instance : Inhabited AO := ⟨.gone⟩

abbrev Heap := List (Nat × AO)

def get : Heap → Nat → Option AO
  | [], _ => none
  | (k, o) :: h, id => match Nat.beq k id with
    | true => some o
    | false => get h id

/-- The heap with this object at 'id' (what stood there is struck); the numbers rise. -/
def put : Heap → Nat → AO → Heap
  | [], id, o => [(id, o)]
  | (k, x) :: h, id, o => match Nat.beq k id with
    | true => (k, o) :: h
    | false => match Nat.ble id k with
      | true => (id, o) :: (k, x) :: h
      | false => (k, x) :: put h id o

def puts : Heap → List (Nat × AO) → Heap
  | h, [] => h
  | h, (k, o) :: l => puts (put h k o) l

structure St where
  env : List AV
  heap : Heap
  next : Nat

def nth : List AV → Nat → AV
  | [], _ => .any
  | a :: _, 0 => a
  | _ :: l, n + 1 => nth l n

def setNth : List AV → Nat → AV → List AV
  | [], _, _ => []
  | _ :: l, 0, v => v :: l
  | a :: l, n + 1, v => a :: setNth l n v

def ones : List Value → Bool
  | [] => true
  | v :: l => match v.oneCell' with
    | true => ones l
    | false => false
def constV : Value → AV
  | .agg cs => match ones cs.toList with
    | true => .agg (cs.toList.map fun c => .i (.sc c))
    | false => .any
  | .tuple _ => .any
  | v => .i (.sc v)

def evalO (env : List AV) : Operand → AV
  | .tmp t => nth env t
  | .const v => constV v
  | .global g => .i (.sc (.pointer (some ⟨g, 0, none⟩)))
  | .func f => .i (.sc (.func (.func f) #[] #[]))

def AV.cells : AV → List AV
  | .agg cs => cs
  | a => [a]

def AV.one : AV → Bool
  | .any | .agg _ | .tup _ | .ro .. => false
  | _ => true

/-- As a value of the model: of what holds no address of ours. -/
def AV.sc? : AV → Option Value
  | .i (.sc v) => some v
  | _ => none
def scs? : List AV → Option (List Value)
  | [] => some []
  | a :: l => match a.sc?, scs? l with
    | some v, some vs => some (v :: vs)
    | _, _ => none
def AV.val? : AV → Option Value
  | .i (.sc v) => some v
  | .agg cs => match scs? cs with
    | some vs => some (.agg vs.toArray)
    | none => none
  | _ => none
def vals? : List AV → Option (List Value)
  | [] => some []
  | a :: l => match a.val?, vals? l with
    | some v, some vs => some (v :: vs)
    | _, _ => none

def AV.iv? : AV → Option IV
  | .i x => some x
  | _ => none
def ivs? : List AV → Option (List IV)
  | [] => some []
  | a :: l => match a.iv?, ivs? l with
    | some v, some vs => some (v :: vs)
    | _, _ => none
def nthI : List IV → Nat → IV
  | [], _ => default
  | a :: _, 0 => a
  | _ :: l, n + 1 => nthI l n

/-- A computation that looks at no world. -/
def pureRun {α : Type} (P : Program) : Sem α → Option α
  | .pure a => some a
  | .program k => pureRun P (k P)
  | .mark _ k => pureRun P k
  | _ => none

def sizeT (P : Program) (t : TypeId) : Option Nat := match P.info? t with
  | some i => some i.size
  | none => none
def bytesT (P : Program) (t : TypeId) : Option Nat := match P.info? t with
  | some i => some i.bytes
  | none => none
def aggT (P : Program) (t : TypeId) : Option Bool := match P.underlying t with
  | some (.struct _) | some (.array _ _) => some true
  | some _ => some false
  | none => none
def allOne : List AV → Bool
  | [] => true
  | a :: l => match a.one with
    | true => allOne l
    | false => false
def zeroT (P : Program) (t : TypeId) : Option (List AV) := match P.info? t with
  | some i => match i.zero with
    | some v => match allOne (constV v).cells with
      | true => some (constV v).cells
      | false => none
    | none => none
  | none => none

def mkVal (P : Program) (t : TypeId) (cs : List AV) : Option AV :=
  match aggT P t, cs with
  | some true, cs => some (.agg cs)
  | some false, [c] => some c
  | _, _ => none

def takeN {α : Type} : Nat → List α → List α
  | 0, _ => []
  | _ + 1, [] => []
  | n + 1, a :: l => a :: takeN n l
def dropN {α : Type} : Nat → List α → List α
  | 0, l => l
  | _ + 1, [] => []
  | n + 1, _ :: l => dropN n l
def lenN {α : Type} : List α → Nat
  | [] => 0
  | _ :: l => Nat.succ (lenN l)
def upto : Nat → List Nat
  | 0 => []
  | n + 1 => upto n ++ [n]
def splice (cs : List AV) (off : Nat) (new : List AV) : List AV := takeN off cs ++ new ++ dropN (off + lenN new) cs

/-- Something that is owed: a proposition, and a Bool that, if it is true, shows it. -/
structure Ob where
  p : Prop
  b : Bool
  ok : b = true → p
abbrev ob (p : Prop) [Decidable p] : Ob := ⟨p, decide p, of_decide_eq_true⟩
abbrev obU (p : Prop) : Ob := ⟨p, false, fun h => Bool.noConfusion h⟩
instance {p : Prop} [Decidable p] : CoeDep Prop p Ob := ⟨ob p⟩
def allB : List Ob → Bool
  | [] => true
  | o :: l => match o.b with
    | true => allB l
    | false => false


/-- What an operation comes to: its value, the objects that change or are new, what must be shown. -/
structure Res where
  val : AV
  upd : List (Nat × AO)
  ps : List Ob

def Res.v (a : AV) : Option Res := some ⟨a, [], []⟩
def Res.w (a : AV) (ps : List Ob) : Option Res := some ⟨a, [], ps⟩

def loadA (P : Program) (H : Heap) (t : TypeId) (p : AV) : Option Res :=
  match sizeT P t with
  | none => none
  | some sz => match p with
    | .ptr id off => match get H id with
      | some (.cells _ cs) => match Nat.ble (off + sz) (lenN cs) with
        | true => match mkVal P t (takeN sz (dropN off cs)) with
          | some a => Res.v a
          | none => none
        | false => none
      | _ => none
    | .pel id ver rsz k j => match get H id with
      | some (.row _ sz' ver' n f) => match Nat.beq rsz sz', Nat.ble (j + sz) sz' with
        | true, true => match mkVal P t ((upto sz).map fun q => .i (f k (j + q))) with
          | some a => Res.w a [ver = ver', k < n]
          | none => none
        | _, _ => none
      | _ => none
    | .ro n f off => match Nat.ble (off + sz) n with
      | true => match mkVal P t ((upto sz).map fun q => .i (f (off + q))) with
        | some a => Res.v a
        | none => none
      | false => none
    | _ => none

def setF (f : Nat → Nat → IV) (k j : Nat) (cs : List IV) : Nat → Nat → IV := fun i q =>
  match Nat.beq i k with
  | true => match Nat.ble j q, Nat.ble (q + 1) (j + lenN cs) with
    | true, true => nthI cs (q - j)
    | _, _ => f i q
  | false => f i q

def storeA (P : Program) (H : Heap) (t : TypeId) (p v : AV) : Option Res :=
  match sizeT P t with
  | none => none
  | some sz => let cs := v.cells
    match Nat.beq (lenN cs) sz, allOne cs with
    | true, true => match p with
      | .ptr id off => match get H id with
        | some (.cells u old) => match Nat.ble (off + sz) (lenN old) with
          | true => some ⟨.any, [(id, .cells u (splice old off cs))], []⟩
          | false => none
        | _ => none
      | .pel id ver rsz k j => match get H id with
        | some (.row e sz' ver' n f) => match Nat.beq rsz sz', Nat.ble (j + sz) sz', ivs? cs with
          | true, true, some xs => some ⟨.any, [(id, .row e sz' ver' n (setF f k j xs))], [ver = ver', k < n]⟩
          | _, _, _ => none
        | _ => none
      | _ => none
    | _, _ => none

def fieldOff (P : Program) (s : TypeId) (k : Nat) : Option (Field × Nat) := match P.underlying s with
  | some (.struct fs) => match fs[k]? with
    | some f => match sizeT P f.type with
      | some sz => some (f, sz)
      | none => none
    | none => none
  | _ => none

def fieldAddrA (P : Program) (s : TypeId) (p : AV) (k : Nat) : Option Res :=
  match fieldOff P s k with
  | some (f, sz) => match Nat.beq sz 0 with
    | true => none
    | false => match p with
      | .ptr id off => Res.v (.ptr id (off + f.offset))
      | .pel id ver rsz q j => Res.v (.pel id ver rsz q (j + f.offset))
      | .ro n g off => Res.v (.ro n g (off + f.offset))
      | _ => none
  | none => none

def fieldA (P : Program) (s : TypeId) (x : AV) (k : Nat) : Option Res :=
  match fieldOff P s k, x with
  | some (f, sz), .agg cs => match Nat.ble (f.offset + sz) (lenN cs) with
    | true => match mkVal P f.type (takeN sz (dropN f.offset cs)) with
      | some a => Res.v a
      | none => none
    | false => none
  | _, _ => none

def intOf : AV → Option (IntKind × Int)
  | .i (.sc (.int k n)) => some (k, n)
  | _ => none

def byteAt (s : ByteArray) (i : Int) : Int := (((s.data[i.toNat]?).getD 0).toNat : Int)

def indexAddrA (P : Program) (t : TypeId) (x i : AV) : Option Res :=
  match intOf i with
  | none => none
  | some (_, k) => match P.underlying t with
    | some (.slice e) => match sizeT P e, x with
      | some sz, .i (.sv n sz' f) => match Nat.beq sz sz', Nat.beq sz 0 with
        | true, false => Res.w (.ro sz (fun j => f k.toNat j) 0) [0 ≤ k, k < (n : Int)]
        | _, _ => none
      | some sz, .row id ver sz' lo n => match Nat.beq sz sz', Nat.beq sz 0 with
        | true, false => Res.w (.pel id ver sz (lo + k.toNat) 0) [0 ≤ k, k < (n : Int)]
        | _, _ => none
      | some sz, .sl id off n _ => Res.w (.ptr id (off + k.toNat * sz)) [0 ≤ k, k < (n : Int)]
      | _, _ => none
    | some (.array n e) => match sizeT P e, x with
      | some sz, .ptr id off => Res.w (.ptr id (off + k.toNat * sz)) [0 ≤ k, k < (n : Int)]
      | some sz, .ro m f off => Res.w (.ro m f (off + k.toNat * sz)) [0 ≤ k, k < (n : Int)]
      | some sz, .pel id ver rsz q j => Res.w (.pel id ver rsz q (j + k.toNat * sz)) [0 ≤ k, k < (n : Int)]
      | _, _ => none
    | _ => none

def indexA (P : Program) (t : TypeId) (x i : AV) : Option Res :=
  match intOf i with
  | none => none
  | some (_, k) => match P.underlying t, x with
    | some .string, .i (.sc (.string s)) => Res.w (.i (.sc (.int .u8 (byteAt s k)))) [0 ≤ k, k < (s.size : Int)]
    | some (.array n e), .agg cs => match sizeT P e with
      | some sz => match mkVal P e (takeN sz (dropN (k.toNat * sz) cs)) with
        | some a => Res.w a [0 ≤ k, k < (n : Int), k.toNat * sz + sz ≤ cs.length]
        | none => none
      | none => none
    | _, _ => none

/-- A bound of a slice expression: none is the default. -/
def bound? : Option AV → Int → Option Int
  | none, d => some d
  | some a, _ => match intOf a with
    | some (_, k) => some k
    | none => none

def sliceA (P : Program) (t : TypeId) (x : AV) (lo hi mx : Option AV) : Option Res :=
  match mx with
  | some _ => none
  | none => match P.underlying t, x with
    | some .string, .i (.sc (.string s)) => match bound? lo 0, bound? hi (s.size : Int) with
      | some l, some h => Res.w (.i (.sc (.string (s.extract l.toNat h.toNat)))) [0 ≤ l, l ≤ h, h ≤ (s.size : Int)]
      | _, _ => none
    | some (.slice e), .i (.sv n sz f) => match sizeT P e, bound? lo 0, bound? hi (n : Int) with
      | some sz', some l, some h => match Nat.beq sz sz' with
        | true => Res.w (.i (.sv (h.toNat - l.toNat) sz (fun i j => f (l.toNat + i) j))) [0 ≤ l, l ≤ h, h ≤ (n : Int)]
        | false => none
      | _, _, _ => none
    | some (.slice e), .row id ver sz lo0 n => match sizeT P e, bound? lo 0, bound? hi (n : Int) with
      | some sz', some l, some h => match Nat.beq sz sz' with
        | true => Res.w (.row id ver sz (lo0 + l.toNat) (h.toNat - l.toNat)) [0 ≤ l, l ≤ h, h ≤ (n : Int)]
        | false => none
      | _, _, _ => none
    | some (.slice e), .i (.sc (.slice none 0 0)) => match sizeT P e, bound? lo 0, bound? hi 0 with
      | some _, some l, some h => Res.w (.i (.sc (.slice none 0 0))) [l = 0, h = 0]
      | _, _, _ => none
    | _, _ => none

def fillA (place : Nat → Option (Nat × Nat)) (cells : List AV) : List (Nat × AV) → Option (List AV)
  | [] => some cells
  | (k, v) :: rest => match place k with
    | none => none
    | some (off, size) => match Nat.beq (lenN v.cells) size, Nat.ble (off + lenN v.cells) (lenN cells), allOne v.cells with
      | true, true, true => fillA place (splice cells off v.cells) rest
      | _, _, _ => none

def placesS (P : Program) : List Field → Option (List (Nat × Nat))
  | [] => some []
  | f :: l => match sizeT P f.type, placesS P l with
    | some sz, some r => some ((f.offset, sz) :: r)
    | _, _ => none

def buildA (P : Program) (t : TypeId) (parts : List (Nat × AV)) : Option Res :=
  match zeroT P t, P.underlying t with
  | some z, some (.struct fs) => match placesS P fs.toList with
    | some l => match fillA (fun k => l[k]?) z parts with
      | some cs => Res.v (.agg cs)
      | none => none
    | none => none
  | some z, some (.array _ e) => match sizeT P e with
    | some sz => match fillA (fun i => some (i * sz, sz)) z parts with
      | some cs => Res.v (.agg cs)
      | none => none
    | none => none
  | _, _ => none

def repCells (z : List AV) : Nat → List AV
  | 0 => []
  | n + 1 => z ++ repCells z n

/-- Element i, cell j of a list of cells. -/
def rowF (sz : Nat) (xs : List IV) : Nat → Nat → IV := fun i j => nthI xs (i * sz + j)

def buildSliceA (P : Program) (t : TypeId) (len : Nat) (parts : List (Nat × AV)) (fresh : Nat) : Option Res :=
  match P.underlying t with
  | some (.slice e) => match sizeT P e, zeroT P e with
    | some sz, some z => match Nat.beq sz 0 || !(Nat.beq (lenN z) sz), Nat.ble (len * sz) 16777216, fillA (fun i => some (i * sz, sz)) (repCells z len) parts with
      | false, true, some cs => match ivs? cs with
        | some xs => some ⟨.row fresh 0 sz 0 len, [(fresh, .row e sz 0 len (rowF sz xs))], []⟩
        | none => some ⟨.sl fresh 0 len len, [(fresh, .cells e cs)], []⟩
      | _, _, _ => none
    | _, _ => none
  | _ => none

def zeroF (z : List IV) : Nat → Nat → IV := fun _ j => nthI z j

def makeSliceA (P : Program) (t : TypeId) (len cap : AV) (fresh : Nat) : Option Res :=
  match P.underlying t, intOf len, intOf cap with
  | some (.slice e), some (_, l), some (_, c) => match sizeT P e, bytesT P e, zeroT P e with
    | some sz, some by_, some z => match Nat.beq sz 0 || !(Nat.beq (lenN z) sz), ivs? z with
      | false, some xs => some ⟨.row fresh 0 sz 0 l.toNat, [(fresh, .row e sz 0 l.toNat (zeroF xs))], [0 ≤ l, l ≤ c, c ≤ 9223372036854775807, (by_ : Int) * c ≤ 281474976710656]⟩
      | _, _ => none
    | _, _, _ => none
  | _, _, _ => none

/-- The elements that an append adds: how many, and what they are. -/
def sourceA (H : Heap) (x : AV) : Option (Nat × Nat × (Nat → Nat → IV) × List Ob) :=
  match x with
  | .i (.sv n sz f) => some (n, sz, f, [])
  | .row id ver sz lo n => match get H id with
    | some (.row _ sz' ver' m f) => match Nat.beq sz sz' with
      | true => some (n, sz, (fun i j => f (lo + i) j), [ver = ver', lo + n ≤ m])
      | false => none
    | _ => none
  | .i (.sc (.string s)) => some (s.size, 1, (fun i _ => .sc (.int .u8 (byteAt s i))), [])
  | .i (.sc (.slice none 0 0)) => some (0, 0, (fun _ _ => default), [])
  | _ => none

def catF (n : Nat) (f g : Nat → Nat → IV) : Nat → Nat → IV := fun i j => match Nat.ble (i + 1) n with
  | true => f i j
  | false => g (i - n) j

def isStr : AV → Bool
  | .i (.sc (.string _)) => true
  | _ => false
/-- Has the element's zero value so many cells? -/
def zeroOk (P : Program) (e : TypeId) (sz : Nat) : Bool := match P.info? e with
  | some i => match i.zero with
    | some v => Nat.beq v.cells.size sz
    | none => false
  | none => false

def appendA (P : Program) (H : Heap) (t : TypeId) (s x : AV) (fresh : Nat) : Option Res :=
  match P.underlying t with
  | some (.slice e) => match sizeT P e, bytesT P e, sourceA H x with
    | some sz, some by_, some (m, sz', g, ps) =>
      match Nat.beq sz 0 || !(zeroOk P e sz) || Nat.beq by_ 0, (Nat.beq sz sz' || Nat.beq m 0) && !(isStr x) with
      | false, true => match s with
        | .i (.sc (.slice none 0 0)) => some ⟨.row fresh 0 sz 0 m, [(fresh, .row e sz 0 m g)], (m * by_ ≤ 140737488355328) :: ps⟩
        | .row id ver szr lo n => match get H id with
          | some (.row e' sz2 ver' k f) => match Nat.beq sz sz2, Nat.beq szr sz, Nat.beq lo 0, Nat.beq e e' with
            | true, true, true, true => some ⟨.row id (ver' + 1) sz 0 (n + m), [(id, .row e sz (ver' + 1) (n + m) (catF n f g))], (ver = ver') :: (n ≤ k) :: ((n + m) * by_ ≤ 140737488355328) :: ps⟩
            | _, _, _, _ => none
          | _ => none
        | _ => none
      | _, _ => none
    | _, _, _ => none
  | _ => none

def keyOf : AV → Option ByteArray
  | .i (.sc (.string s)) => some s
  | _ => none

def updG (g : ByteArray → Int) (k : ByteArray) (v : Int) : ByteArray → Int := fun q => match k == q with
  | true => v
  | false => g q
def hasK : List ByteArray → ByteArray → Bool
  | [], _ => false
  | a :: l, k => (k == a) || hasK l k
def addK (ks : List ByteArray) (k : ByteArray) : List ByteArray := match hasK ks k with
  | true => ks
  | false => ks ++ [k]

def isMapSI (P : Program) (t : TypeId) : Bool := match P.underlying t with
  | some (.map k e) => match P.underlying k, P.underlying e with
    | some .string, some (.int .i64) => match P.info? e with
      | some i => match i.zero with
        | some (.int .i64 n) => decide (n = 0)
        | _ => false
      | none => false
    | _, _ => false
  | _ => false

def lookupA (P : Program) (H : Heap) (t : TypeId) (m k : AV) (ok : Bool) : Option Res :=
  match isMapSI P t, m, keyOf k, ok with
  | true, .mp id, some s, false => match get H id with
    | some (.smap _ _ g) => Res.v (.i (.sc (.int .i64 (g s))))
    | _ => none
  | true, .mp id, some s, true => match get H id with
    | some (.smap _ ks g) => Res.v (.tup [.i (.sc (.int .i64 (g s))), .i (.sc (.bool (hasK ks s)))])
    | _ => none
  | _, _, _, _ => none

def mapUpdateA (P : Program) (H : Heap) (t : TypeId) (m k v : AV) : Option Res :=
  match isMapSI P t, m, keyOf k, intOf v with
  | true, .mp id, some s, some (.i64, n) => match get H id with
    | some (.smap u ks g) => some ⟨.any, [(id, .smap u (addK ks s) (updG g s n))], []⟩
    | _ => none
  | _, _, _, _ => none

def idxK : List ByteArray → ByteArray → Nat
  | [], _ => 0
  | a :: l, k => match k == a with
    | true => 0
    | false => Nat.succ (idxK l k)
def nthK : List ByteArray → Nat → ByteArray
  | [], _ => .empty
  | a :: _, 0 => a
  | _ :: l, n + 1 => nthK l n

def mapEntryA (P : Program) (H : Heap) (t : TypeId) (m k : AV) : Option Res :=
  match isMapSI P t, m, keyOf k with
  | true, .mp id, some s => match get H id with
    | some (.smap u ks g) => some ⟨.tup [.i (.sc (.int .i64 (g s))), .i (.sc (.int .i64 (idxK (addK ks s) s)))], [(id, .smap u (addK ks s) g)], []⟩
    | _ => none
  | _, _, _ => none
def entryStoreA (H : Heap) (m s v : AV) : Option Res :=
  match m, intOf s, intOf v with
  | .mp id, some (_, j), some (.i64, n) => match get H id with
    | some (.smap u ks g) => some ⟨.any, [(id, .smap u ks (updG g (nthK ks j.toNat) n))], [0 ≤ j, j < (ks.length : Int)]⟩
    | _ => none
  | _, _, _ => none

end Go.AI
