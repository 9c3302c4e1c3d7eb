/- The words of the symbolic walk: abstract values, memory, and 'run', the walk of a function's code over them. -/
import Derived.WalkKit
import Derived.KernelRfl
import Derived.OrdersHeld
import Derived.Deep.AppendSrc
namespace Go.Sx
open Go

inductive AC where
  | int (k : IntKind) (n : Int)
  | lit (b : Bool)
  | bool (b : Bool)
  | str (s : ByteArray)
  | ptr (n base idx : Nat)
  | sl (n base idx len cap : Nat)
  | con (v : Value)
  | clo (f : FuncId) (n base idx : Nat)
  | any
  | vec (n : Nat)                       -- the slice that is block n
  | vsl (n z i len : Nat)               -- a part of it: len records of z cells from record i on
  | vptr (n z i b j : Nat)              -- the address of cell b + j of record i
  | el (n c i : Nat)                    -- the slice that stands in column c of record i
  | esl (n c i o len : Nat)             -- a part of that
  | eptr (n c i o : Nat)                -- the address of its element o

inductive Seg where
  | ints (k : IntKind) (n : Nat) (l : List Int)
  | bools (n : Nat) (l : List Bool)
  | cells (cs : List AC)

/-- a column of records: each one's number, truth value, array or slice of numbers -/
inductive Col where
  | ints (k : IntKind) (l : List Int)
  | bools (l : List Bool)
  | arrs (k : IntKind) (m : Nat) (l : List (List Int))
  | rows (k : IntKind) (l : List (List Int))

inductive TV where
  | c (a : AC)
  | g (s : List Seg)

inductive AV where
  | one (a : AC)
  | agg (s : List Seg)
  | tup (vs : List TV)
  | undef

inductive Blk where
  | own (T : TypeId) (s : List Seg)
  | view (s : List Seg)
  | vec (cs : List Col)
  | rview (cs : List Col)

abbrev Fr := List AV
abbrev Mem := List (Nat × Blk)

def Blk.segs : Blk → List Seg
  | .own _ s => s
  | .view s => s
  | _ => []

/-! numbers -/
def add (k : IntKind) (a b : Int) : Int := k.wrap (a + b)
def sub (k : IntKind) (a b : Int) : Int := k.wrap (a - b)
def mul (k : IntKind) (a b : Int) : Int := k.wrap (a * b)
def quo (k : IntKind) (a b : Int) : Int := k.wrap (a.tdiv b)
def rem (a b : Int) : Int := a.tmod b
def shl (k : IntKind) (a b : Int) : Int := k.wrap (a * 2 ^ (min b.toNat k.bits))
def shr (k : IntKind) (a b : Int) : Int := a.fdiv (2 ^ (min b.toNat k.bits))
def band (k : IntKind) (a b : Int) : Int := bits .and k a b
def bor (k : IntKind) (a b : Int) : Int := bits .or k a b
def bxor (k : IntKind) (a b : Int) : Int := bits .xor k a b
def bclr (k : IntKind) (a b : Int) : Int := bits .andNot k a b
def conv (k : IntKind) (a : Int) : Int := k.wrap a
def ieq (a b : Int) : Bool := a == b
def ine (a b : Int) : Bool := a != b
def ilt (a b : Int) : Bool := decide (a < b)
def ile (a b : Int) : Bool := decide (a ≤ b)
def igt (a b : Int) : Bool := decide (a > b)
def ige (a b : Int) : Bool := decide (a ≥ b)
def leq (a b : List Int) : Bool := a == b
def beq2 (a b : Bool) : Bool := a == b
def seq2 (a b : ByteArray) : Bool := a.toList == b.toList
def bnot (a : Bool) : Bool := !a
def lget (l : List Int) (i : Nat) : Int := l.getD i 0
def lgetb (l : List Bool) (i : Nat) : Bool := l.getD i false
def lset (l : List Int) (i : Nat) (v : Int) : List Int := l.set i v
def lsetb (l : List Bool) (i : Nat) (v : Bool) : List Bool := l.set i v
def lsub {α : Type} (l : List α) (i n : Nat) : List α := (l.drop i).take n
def lput (l : List Int) (i : Nat) (v : List Int) : List Int := l.take i ++ v ++ l.drop (i + v.length)
def nadd (a b : Nat) : Nat := a + b
def nsub (a b : Nat) : Nat := a - b
def nmul (a b : Nat) : Nat := a * b
def nat (i : Int) : Nat := i.toNat
def ofNat (n : Nat) : Int := (n : Int)
def lzeros (n : Nat) : List Int := List.replicate n 0
def bzeros (n : Nat) : List Bool := List.replicate n false
def azeros (n m : Nat) : List (List Int) := List.replicate n (List.replicate m 0)
def rzeros (n : Nat) : List (List Int) := List.replicate n []
def llen {α : Type} (l : List α) : Nat := l.length
def lcat {α : Type} (a b : List α) : List α := a ++ b
def llget (l : List (List Int)) (i : Nat) : List Int := l.getD i []
def llset (l : List (List Int)) (i : Nat) (v : List Int) : List (List Int) := l.set i v
def nmin (a b : Nat) : Nat := min a b
def imin (a b : Int) : Int := if b < a then b else a
def imax (a b : Int) : Int := if b > a then b else a
def slen_ (s : ByteArray) : Nat := s.size
def sget (s : ByteArray) (i : Nat) : Int := ((s.data.toList.getD i 0).toNat : Int)
def bytesOf (l : List Int) : ByteArray := ⟨(l.map fun n => UInt8.ofNat n.toNat).toArray⟩
def bytesIn (s : ByteArray) : List Int := s.data.toList.map fun b => (b.toNat : Int)
structure InB (i : Int) (n : Nat) : Prop where
  lo : 0 ≤ i
  hi : i < n
structure Fits (a b : Nat) : Prop where
  le : a ≤ b
structure Low (a b : Nat) : Prop where
  lt : a < b
structure NonNeg (i : Int) : Prop where
  le : 0 ≤ i
structure NeZ (i : Int) : Prop where
  ne : i ≠ 0
/-- room for so many elements of so many bytes -/
structure Room (need bytes : Nat) : Prop where
  le : (5 * need + 4096) * bytes ≤ 1125899906842624
/-- what may be made -/
structure Mk (len cap : Int) (bytes : Nat) : Prop where
  lo : 0 ≤ len
  le : len ≤ cap
  hi : cap * bytes ≤ 281474976710656
  c63 : cap ≤ 9223372036854775807

def Seg.len : Seg → Nat
  | .ints _ n _ => n
  | .bools n _ => n
  | .cells cs => cs.length

def Seg.flat : Seg → List AC
  | .ints k _ l => l.map (.int k)
  | .bools _ l => l.map .bool
  | .cells cs => cs

def flat : List Seg → List AC
  | [] => []
  | s :: r => s.flat ++ flat r

def Seg.ok : Seg → Prop
  | .ints _ n l => l.length = n
  | .bools n l => l.length = n
  | .cells _ => True

def segsOk : List Seg → Prop
  | [] => True
  | s :: r => s.ok ∧ segsOk r

def slen : List Seg → Nat
  | [] => 0
  | s :: r => s.len + slen r

def findSeg : List Seg → Nat → Option Seg
  | [], _ => none
  | s :: r, b => match b with
    | 0 => some s
    | b + 1 => if s.len ≤ b + 1 then findSeg r (b + 1 - s.len) else none

def setSeg : List Seg → Nat → Seg → Option (List Seg)
  | [], _, _ => none
  | s :: r, b, x => match b with
    | 0 => some (x :: r)
    | b + 1 => if s.len ≤ b + 1 then (setSeg r (b + 1 - s.len) x).map (s :: ·) else none

/-- from the base of a part and a field's offset: the part's base and the place in it -/
def locate : List Seg → Nat → Nat → Option (Nat × Nat)
  | [], _, _ => none
  | s :: r, o, at_ => if o < s.len then some (at_, o) else locate r (o - s.len) (at_ + s.len)

def Mem.find : Mem → Nat → Option Blk
  | [], _ => none
  | (m, b) :: r, n => if m = n then some b else Mem.find r n

def Mem.put : Mem → Nat → Blk → Mem
  | [], _, _ => []
  | (m, b) :: r, n, x => if m = n then (m, x) :: r else (m, b) :: Mem.put r n x

def Fr.get : Fr → Nat → AV
  | [], _ => .undef
  | x :: _, 0 => x
  | _ :: r, n + 1 => Fr.get r n

def Fr.set : Fr → Nat → AV → Fr
  | [], _, _ => []
  | _ :: r, 0, v => v :: r
  | x :: r, n + 1, v => x :: Fr.set r n v

def Fr.put (fr : Fr) (dst : Option Tmp) (v : AV) : Fr :=
  match dst with
  | some d => fr.set d v
  | none => fr

def gname (g : Nat) : Nat := 1000000 + g

def AC.ofConst : Value → AC
  | .int k n => .int k n
  | .bool b => .lit b
  | .string s => .str s
  | v => .con v

def cellsOf (cs : List Value) : List AC := cs.map AC.ofConst

def allOne (cs : List Value) : Bool := cs.all fun c => c.oneCell'

def AV.ofConst : Value → AV
  | .agg cs => match allOne cs.toList with
    | true => .agg [.cells (cellsOf cs.toList)]
    | false => .undef
  | .tuple _ => .undef
  | v => .one (AC.ofConst v)

def ev (fr : Fr) : Operand → AV
  | .tmp t => fr.get t
  | .const v => .ofConst v
  | .global g => .one (.ptr (gname g) 0 0)
  | .func f => .one (.con (.func (.func f) #[] #[]))

/-! shapes out of types -/
def segsOf (P : Program) : Nat → TypeId → Option (List Seg)
  | 0, _ => none
  | d + 1, t =>
    match P.underlying t with
    | some (.array n e) =>
      match P.underlying e with
      | some (.int k) => some [.ints k n (lzeros n)]
      | some .bool => some [.bools n (List.replicate n false)]
      | some (.array _ _) =>
        match segsOf P d e with
        | some [.ints k m _] => some [.ints k (n * m) (lzeros (n * m))]
        | _ => none
      | _ => none
    | some (.struct fs) => fs.toList.foldr (fun f acc => match segsOf P d f.type, acc with | some s, some r => some (s ++ r) | _, _ => none) (some [])
    | some _ =>
      match (P.info? t).bind (·.zero) with
      | some z => some [.cells [AC.ofConst z]]
      | none => none
    | none => none

def acIs : AC → Value → Bool
  | .int k n, .int k' n' => k == k' && n == n'
  | .lit b, .bool b' => b == b'
  | .bool b, .bool b' => b == b'
  | .str s, .string s' => decide (s = s')
  | .con (.pointer none), .pointer none => true
  | .con (.slice none 0 0), .slice none 0 0 => true
  | .con .nilFunc, .nilFunc => true
  | .con .nilIface, .nilIface => true
  | .con (.map none), .map none => true
  | _, _ => false

def flatIs : List AC → List Value → Bool
  | [], [] => true
  | a :: r, v :: s => acIs a v && flatIs r s
  | _, _ => false

def shapeB : List Seg → Bool
  | [] => true
  | .ints _ n l :: r => l.length == n && shapeB r
  | .bools n l :: r => l.length == n && shapeB r
  | .cells _ :: r => shapeB r

/-- the zero of a type -/
def zeroSegs (P : Program) (t : TypeId) : Option (List Seg) :=
  match segsOf P 8 t, (P.info? t).bind (·.zero) with
  | some s, some z => match shapeB s && flatIs (flat s) z.cells.toList with
    | true => some s
    | false => none
  | _, _ => none

def isAggB (P : Program) (t : TypeId) : Option Bool :=
  match P.underlying t with
  | some (.struct _) => some true
  | some (.array _ _) => some true
  | some _ => some false
  | none => none

def sizeB (P : Program) (t : TypeId) : Option Nat := (P.info? t).map (·.size)

def AV.segs : AV → Option (List Seg)
  | .one a => some [.cells [a]]
  | .agg s => some s
  | _ => none

/-! records -/
inductive Kd where
  | ints (k : IntKind)
  | bools
  | arrs (k : IntKind) (m : Nat)
  | rows (k : IntKind)

def Kd.beq : Kd → Kd → Bool
  | .ints k, .ints k' => k == k'
  | .bools, .bools => true
  | .arrs k m, .arrs k' m' => k == k' && m == m'
  | .rows k, .rows k' => k == k'
  | _, _ => false

def kdsEq : List Kd → List Kd → Bool
  | [], [] => true
  | a :: r, b :: s => a.beq b && kdsEq r s
  | _, _ => false

def Kd.width : Kd → Nat
  | .arrs _ m => m
  | _ => 1

def Col.kd : Col → Kd
  | .ints k _ => .ints k
  | .bools _ => .bools
  | .arrs k m _ => .arrs k m
  | .rows k _ => .rows k

def Col.len : Col → Nat
  | .ints _ l => l.length
  | .bools l => l.length
  | .arrs _ _ l => l.length
  | .rows _ l => l.length

def Kd.zero (n : Nat) : Kd → Col
  | .ints k => .ints k (lzeros n)
  | .bools => .bools (bzeros n)
  | .arrs k m => .arrs k m (azeros n m)
  | .rows k => .rows k (rzeros n)

def Kd.nil : Kd → Col
  | .ints k => .ints k []
  | .bools => .bools []
  | .arrs k m => .arrs k m []
  | .rows k => .rows k []

def width : List Kd → Nat
  | [] => 0
  | k :: r => k.width + width r

def kdsOf (cs : List Col) : List Kd := cs.map Col.kd

def clen : List Col → Nat
  | [] => 0
  | .ints _ l :: _ => llen l
  | .bools l :: _ => llen l
  | .arrs _ _ l :: _ => llen l
  | .rows _ l :: _ => llen l

def Col.sub (i n : Nat) : Col → Col
  | .ints k l => .ints k (lsub l i n)
  | .bools l => .bools (lsub l i n)
  | .arrs k m l => .arrs k m (lsub l i n)
  | .rows k l => .rows k (lsub l i n)

def Col.cat : Col → Col → Col
  | .ints k l, .ints _ l' => .ints k (lcat l l')
  | .bools l, .bools l' => .bools (lcat l l')
  | .arrs k m l, .arrs _ _ l' => .arrs k m (lcat l l')
  | .rows k l, .rows _ l' => .rows k (lcat l l')
  | c, _ => c

def catCols : List Col → List Col → List Col
  | a :: r, b :: s => a.cat b :: catCols r s
  | _, _ => []

/-- the column at an offset, and its number -/
def colAt : List Col → Nat → Nat → Option (Nat × Col)
  | [], _, _ => none
  | c :: r, b, i => match b with
    | 0 => some (i, c)
    | b + 1 => match Nat.ble c.kd.width (b + 1) with
      | true => colAt r (b + 1 - c.kd.width) (i + 1)
      | false => none

def setCol : List Col → Nat → Col → List Col
  | [], _, _ => []
  | _ :: r, 0, x => x :: r
  | c :: r, n + 1, x => c :: setCol r n x

def kindsOf (P : Program) : Nat → TypeId → Option (List Kd)
  | 0, _ => none
  | d + 1, t => match P.underlying t with
    | some (.int k) => some [.ints k]
    | some .bool => some [.bools]
    | some (.slice e) => match P.underlying e with
      | some (.int k) => match sizeB P e with
        | some 1 => some [.rows k]
        | _ => none
      | _ => none
    | some (.array m e) => match P.underlying e with
      | some (.int k) => some [.arrs k m]
      | _ => none
    | some (.struct fs) => fs.toList.foldr (fun f acc => match kindsOf P d f.type, acc with | some s, some r => some (s ++ r) | _, _ => none) (some [])
    | _ => none

def isZeroInt (k : IntKind) : Value → Bool
  | .int k' n => k == k' && n == 0
  | _ => false

/-- the zero record -/
def zeroIs : List Kd → List Value → Bool
  | [], [] => true
  | .ints k :: r, v :: s => isZeroInt k v && zeroIs r s
  | .bools :: r, v :: s => (match v with | .bool b => !b | _ => false) && zeroIs r s
  | .rows _ :: r, v :: s => (match v with | .slice none 0 0 => true | _ => false) && zeroIs r s
  | .arrs k m :: r, s => Nat.ble m s.length && (s.take m).all (isZeroInt k) && zeroIs r (s.drop m)
  | _, _ => false

/-- the columns of a slice's elements, and an element's bytes -/
def elemKinds (P : Program) (e : TypeId) : Option (List Kd × Nat) :=
  match kindsOf P 8 e, P.info? e with
  | some ks, some i => match i.zero with
    | some z => match zeroIs ks z.cells.toList && Nat.beq i.size (width ks) && Nat.blt 0 (width ks) && Nat.blt 0 i.bytes with
      | true => some (ks, i.bytes)
      | false => none
    | none => none
  | _, _ => none

def Mem.erase (n : Nat) (σ : Mem) : Mem := σ.filter fun p => !(p.1 == n)
end Go.Sx
