/- The words of the symbolic walk: abstract values, memory, and 'run', the walk of a function's code over them. -/
import Derived.WalkKit
import Derived.KernelRfl
import Derived.OrdersHeld
namespace Go.Sx
open Go

inductive AC where
  | int (k : IntKind) (n : Int)
  | lit (b : Bool)
  | bool (b : Bool)
  | str (s : ByteArray)
  | ptr (n base idx : Nat)
  | sl (n base idx len cap : Nat)
  | con (v : Value)
  | clo (f : FuncId) (n base idx : Nat)
  | any

inductive Seg where
  | ints (k : IntKind) (n : Nat) (l : List Int)
  | bools (n : Nat) (l : List Bool)
  | cells (cs : List AC)

inductive TV where
  | c (a : AC)
  | g (s : List Seg)

inductive AV where
  | one (a : AC)
  | agg (s : List Seg)
  | tup (vs : List TV)
  | undef

inductive Blk where
  | own (T : TypeId) (s : List Seg)
  | view (s : List Seg)

abbrev Fr := List AV
abbrev Mem := List (Nat × Blk)

def Blk.segs : Blk → List Seg
  | .own _ s => s
  | .view s => s

/-! numbers -/
def add (k : IntKind) (a b : Int) : Int := k.wrap (a + b)
def sub (k : IntKind) (a b : Int) : Int := k.wrap (a - b)
def mul (k : IntKind) (a b : Int) : Int := k.wrap (a * b)
def quo (k : IntKind) (a b : Int) : Int := k.wrap (a.tdiv b)
def rem (a b : Int) : Int := a.tmod b
def shl (k : IntKind) (a b : Int) : Int := k.wrap (a * 2 ^ (min b.toNat k.bits))
def shr (k : IntKind) (a b : Int) : Int := a.fdiv (2 ^ (min b.toNat k.bits))
def band (k : IntKind) (a b : Int) : Int := bits .and k a b
def bor (k : IntKind) (a b : Int) : Int := bits .or k a b
def bxor (k : IntKind) (a b : Int) : Int := bits .xor k a b
def bclr (k : IntKind) (a b : Int) : Int := bits .andNot k a b
def conv (k : IntKind) (a : Int) : Int := k.wrap a
def ieq (a b : Int) : Bool := a == b
def ine (a b : Int) : Bool := a != b
def ilt (a b : Int) : Bool := decide (a < b)
def ile (a b : Int) : Bool := decide (a ≤ b)
def igt (a b : Int) : Bool := decide (a > b)
def ige (a b : Int) : Bool := decide (a ≥ b)
def leq (a b : List Int) : Bool := a == b
def beq2 (a b : Bool) : Bool := a == b
def seq2 (a b : ByteArray) : Bool := a.toList == b.toList
def bnot (a : Bool) : Bool := !a
def lget (l : List Int) (i : Nat) : Int := l.getD i 0
def lgetb (l : List Bool) (i : Nat) : Bool := l.getD i false
def lset (l : List Int) (i : Nat) (v : Int) : List Int := l.set i v
def lsetb (l : List Bool) (i : Nat) (v : Bool) : List Bool := l.set i v
def lsub (l : List Int) (i n : Nat) : List Int := (l.drop i).take n
def lput (l : List Int) (i : Nat) (v : List Int) : List Int := l.take i ++ v ++ l.drop (i + v.length)
def nadd (a b : Nat) : Nat := a + b
def nsub (a b : Nat) : Nat := a - b
def nmul (a b : Nat) : Nat := a * b
def nat (i : Int) : Nat := i.toNat
def ofNat (n : Nat) : Int := (n : Int)
def lzeros (n : Nat) : List Int := List.replicate n 0
def bytesOf (l : List Int) : ByteArray := ⟨(l.map fun n => UInt8.ofNat n.toNat).toArray⟩
def bytesIn (s : ByteArray) : List Int := s.data.toList.map fun b => (b.toNat : Int)
structure InB (i : Int) (n : Nat) : Prop where
  lo : 0 ≤ i
  hi : i < n
structure Fits (a b : Nat) : Prop where
  le : a ≤ b
structure Low (a b : Nat) : Prop where
  lt : a < b
structure NonNeg (i : Int) : Prop where
  le : 0 ≤ i
structure NeZ (i : Int) : Prop where
  ne : i ≠ 0

def Seg.len : Seg → Nat
  | .ints _ n _ => n
  | .bools n _ => n
  | .cells cs => cs.length

def Seg.flat : Seg → List AC
  | .ints k _ l => l.map (.int k)
  | .bools _ l => l.map .bool
  | .cells cs => cs

def flat : List Seg → List AC
  | [] => []
  | s :: r => s.flat ++ flat r

def Seg.ok : Seg → Prop
  | .ints _ n l => l.length = n
  | .bools n l => l.length = n
  | .cells _ => True

def segsOk : List Seg → Prop
  | [] => True
  | s :: r => s.ok ∧ segsOk r

def slen : List Seg → Nat
  | [] => 0
  | s :: r => s.len + slen r

def findSeg : List Seg → Nat → Option Seg
  | [], _ => none
  | s :: r, b => match b with
    | 0 => some s
    | b + 1 => if s.len ≤ b + 1 then findSeg r (b + 1 - s.len) else none

def setSeg : List Seg → Nat → Seg → Option (List Seg)
  | [], _, _ => none
  | s :: r, b, x => match b with
    | 0 => some (x :: r)
    | b + 1 => if s.len ≤ b + 1 then (setSeg r (b + 1 - s.len) x).map (s :: ·) else none

/-- from the base of a part and a field's offset: the part's base and the place in it -/
def locate : List Seg → Nat → Nat → Option (Nat × Nat)
  | [], _, _ => none
  | s :: r, o, at_ => if o < s.len then some (at_, o) else locate r (o - s.len) (at_ + s.len)

def Mem.find : Mem → Nat → Option Blk
  | [], _ => none
  | (m, b) :: r, n => if m = n then some b else Mem.find r n

def Mem.put : Mem → Nat → Blk → Mem
  | [], _, _ => []
  | (m, b) :: r, n, x => if m = n then (m, x) :: r else (m, b) :: Mem.put r n x

def Fr.get : Fr → Nat → AV
  | [], _ => .undef
  | x :: _, 0 => x
  | _ :: r, n + 1 => Fr.get r n

def Fr.set : Fr → Nat → AV → Fr
  | [], _, _ => []
  | _ :: r, 0, v => v :: r
  | x :: r, n + 1, v => x :: Fr.set r n v

def Fr.put (fr : Fr) (dst : Option Tmp) (v : AV) : Fr :=
  match dst with
  | some d => fr.set d v
  | none => fr

def gname (g : Nat) : Nat := 1000000 + g

def AC.ofConst : Value → AC
  | .int k n => .int k n
  | .bool b => .lit b
  | .string s => .str s
  | v => .con v

def cellsOf (cs : List Value) : List AC := cs.map AC.ofConst

def allOne (cs : List Value) : Bool := cs.all fun c => c.oneCell'

def AV.ofConst : Value → AV
  | .agg cs => match allOne cs.toList with
    | true => .agg [.cells (cellsOf cs.toList)]
    | false => .undef
  | .tuple _ => .undef
  | v => .one (AC.ofConst v)

def ev (fr : Fr) : Operand → AV
  | .tmp t => fr.get t
  | .const v => .ofConst v
  | .global g => .one (.ptr (gname g) 0 0)
  | .func f => .one (.con (.func (.func f) #[] #[]))

/-! shapes out of types -/
def segsOf (P : Program) : Nat → TypeId → Option (List Seg)
  | 0, _ => none
  | d + 1, t =>
    match P.underlying t with
    | some (.array n e) =>
      match P.underlying e with
      | some (.int k) => some [.ints k n (lzeros n)]
      | some .bool => some [.bools n (List.replicate n false)]
      | some (.array _ _) =>
        match segsOf P d e with
        | some [.ints k m _] => some [.ints k (n * m) (lzeros (n * m))]
        | _ => none
      | _ => none
    | some (.struct fs) => fs.toList.foldr (fun f acc => match segsOf P d f.type, acc with | some s, some r => some (s ++ r) | _, _ => none) (some [])
    | some _ =>
      match (P.info? t).bind (·.zero) with
      | some z => some [.cells [AC.ofConst z]]
      | none => none
    | none => none

def acIs : AC → Value → Bool
  | .int k n, .int k' n' => k == k' && n == n'
  | .lit b, .bool b' => b == b'
  | .bool b, .bool b' => b == b'
  | .str s, .string s' => decide (s = s')
  | .con (.pointer none), .pointer none => true
  | .con (.slice none 0 0), .slice none 0 0 => true
  | .con .nilFunc, .nilFunc => true
  | .con .nilIface, .nilIface => true
  | .con (.map none), .map none => true
  | _, _ => false

def flatIs : List AC → List Value → Bool
  | [], [] => true
  | a :: r, v :: s => acIs a v && flatIs r s
  | _, _ => false

def shapeB : List Seg → Bool
  | [] => true
  | .ints _ n l :: r => l.length == n && shapeB r
  | .bools n l :: r => l.length == n && shapeB r
  | .cells _ :: r => shapeB r

/-- the zero of a type -/
def zeroSegs (P : Program) (t : TypeId) : Option (List Seg) :=
  match segsOf P 8 t, (P.info? t).bind (·.zero) with
  | some s, some z => match shapeB s && flatIs (flat s) z.cells.toList with
    | true => some s
    | false => none
  | _, _ => none

def isAggB (P : Program) (t : TypeId) : Option Bool :=
  match P.underlying t with
  | some (.struct _) => some true
  | some (.array _ _) => some true
  | some _ => some false
  | none => none

def sizeB (P : Program) (t : TypeId) : Option Nat := (P.info? t).map (·.size)

def AV.segs : AV → Option (List Seg)
  | .one a => some [.cells [a]]
  | .agg s => some s
  | _ => none
end Go.Sx
