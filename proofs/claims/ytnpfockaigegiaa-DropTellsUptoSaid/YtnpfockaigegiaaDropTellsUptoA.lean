import Derived.WalkKit
import Derived.KernelRfl
import Derived.OrdersHeld
import Derived.Deep.AppendSrc
set_option linter.unusedSimpArgs false
set_option linter.unusedVariables false
namespace Go.Sx
open Go
inductive AC where
 | int (k : IntKind) (n : Int)
 | lit (b : Bool)
 | bool (b : Bool)
 | str (s : ByteArray)
 | ptr (n base idx : Nat)
 | sl (n base idx len cap : Nat)
 | con (v : Value)
 | clo (f : FuncId) (n base idx : Nat)
 | any
 | vec (n : Nat)
 | vsl (n z i len : Nat)
 | vcl (n z i len : Nat)
 | vptr (n z i b j : Nat)
 | el (n c i : Nat)
 | esl (n c i o len : Nat)
 | eptr (n c i o : Nat)
 | hs (k : IntKind) (j off len : Nat)
 | hp (k : IntKind) (j i : Nat)
 | map (n : Nat)
inductive Seg where
 | ints (k : IntKind) (n : Nat) (l : List Int)
 | bools (n : Nat) (l : List Bool)
 | cells (cs : List AC)
structure HS where
 j : Nat
 off : Nat
 len : Nat
inductive Col where
 | ints (k : IntKind) (l : List Int)
 | bools (l : List Bool)
 | arrs (k : IntKind) (m : Nat) (l : List (List Int))
 | rows (k : IntKind) (l : List (List Int))
 | strs (l : List ByteArray)
 | hss (k : IntKind) (l : List HS)
inductive KK where
 | int (k : IntKind)
 | arr (k : IntKind) (m : Nat)
inductive MVs where
 | ints (k : IntKind) (l : List (List Int × Int))
 | strs (l : List (List Int × ByteArray))
 | hss (k : IntKind) (l : List (List Int × HS))
inductive TV where
 | c (a : AC)
 | g (s : List Seg)
inductive AV where
 | one (a : AC)
 | agg (s : List Seg)
 | tup (vs : List TV)
 | undef
inductive Blk where
 | own (T : TypeId) (s : List Seg)
 | view (s : List Seg)
 | vec (cs : List Col)
 | rview (cs : List Col)
 | heap (k : IntKind) (os : List (List Int))
 | map (kk : KK) (m : MVs)
abbrev Fr := List AV
abbrev Mem := List (Nat × Blk)
def Blk.segs : Blk → List Seg
 | .own _ s => s
 | .view s => s
 | _ => []
def add (k : IntKind) (a b : Int) : Int := k.wrap (a + b)
def sub (k : IntKind) (a b : Int) : Int := k.wrap (a - b)
def mul (k : IntKind) (a b : Int) : Int := k.wrap (a * b)
def quo (k : IntKind) (a b : Int) : Int := k.wrap (a.tdiv b)
def rem (a b : Int) : Int := a.tmod b
def shl (k : IntKind) (a b : Int) : Int := k.wrap (a * 2 ^ (min b.toNat k.bits))
def shr (k : IntKind) (a b : Int) : Int := a.fdiv (2 ^ (min b.toNat k.bits))
def band (k : IntKind) (a b : Int) : Int := bits .and k a b
def bor (k : IntKind) (a b : Int) : Int := bits .or k a b
def bxor (k : IntKind) (a b : Int) : Int := bits .xor k a b
def bclr (k : IntKind) (a b : Int) : Int := bits .andNot k a b
def conv (k : IntKind) (a : Int) : Int := k.wrap a
def ieq (a b : Int) : Bool := a == b
def ine (a b : Int) : Bool := a != b
def ilt (a b : Int) : Bool := decide (a < b)
def ile (a b : Int) : Bool := decide (a ≤ b)
def igt (a b : Int) : Bool := decide (a > b)
def ige (a b : Int) : Bool := decide (a ≥ b)
def leq (a b : List Int) : Bool := a == b
def beq2 (a b : Bool) : Bool := a == b
def seq2 (a b : ByteArray) : Bool := a.toList == b.toList
def bnot (a : Bool) : Bool := !a
def band2 (a b : Bool) : Bool := a && b
def sadd (a b : ByteArray) : ByteArray := a ++ b
def lget (l : List Int) (i : Nat) : Int := l.getD i 0
def lgetb (l : List Bool) (i : Nat) : Bool := l.getD i false
def lset (l : List Int) (i : Nat) (v : Int) : List Int := l.set i v
def lsetb (l : List Bool) (i : Nat) (v : Bool) : List Bool := l.set i v
def lsub {α : Type} (l : List α) (i n : Nat) : List α := (l.drop i).take n
def lput (l : List Int) (i : Nat) (v : List Int) : List Int := l.take i ++ v ++ l.drop (i + v.length)
def nadd (a b : Nat) : Nat := a + b
def nsub (a b : Nat) : Nat := a - b
def nmul (a b : Nat) : Nat := a * b
def nat (i : Int) : Nat := i.toNat
def ofNat (n : Nat) : Int := (n : Int)
def lzeros (n : Nat) : List Int := List.replicate n 0
def bzeros (n : Nat) : List Bool := List.replicate n false
def azeros (n m : Nat) : List (List Int) := List.replicate n (List.replicate m 0)
def rzeros (n : Nat) : List (List Int) := List.replicate n []
def llen {α : Type} (l : List α) : Nat := l.length
def lcat {α : Type} (a b : List α) : List α := a ++ b
def llget (l : List (List Int)) (i : Nat) : List Int := l.getD i []
def llset (l : List (List Int)) (i : Nat) (v : List Int) : List (List Int) := l.set i v
def sgets (l : List ByteArray) (i : Nat) : ByteArray := l.getD i ByteArray.empty
def ssets (l : List ByteArray) (i : Nat) (v : ByteArray) : List ByteArray := l.set i v
def szeros (n : Nat) : List ByteArray := List.replicate n ByteArray.empty
def hs0 : HS := ⟨0, 0, 0⟩
def hget (l : List HS) (i : Nat) : HS := l.getD i hs0
def hset (l : List HS) (i : Nat) (v : HS) : List HS := l.set i v
def hzeros (n : Nat) : List HS := List.replicate n hs0
def hj (d : HS) : Nat := d.j
def ho (d : HS) : Nat := d.off
def hl (d : HS) : Nat := d.len
def mhas {α : Type} : List (List Int × α) → List Int → Bool
 | [], _ => false
 | p :: r, x => match leq x p.1 with
  | true => true
  | false => mhas r x
def mget {α : Type} (d : α) : List (List Int × α) → List Int → α
 | [], _ => d
 | p :: r, x => match leq x p.1 with
  | true => p.2
  | false => mget d r x
def mput {α : Type} : List (List Int × α) → List Int → α → List (List Int × α)
 | [], x, v => [(x, v)]
 | p :: r, x, v => match leq x p.1 with
  | true => (p.1, v) :: r
  | false => p :: mput r x v
def mdel {α : Type} : List (List Int × α) → List Int → List (List Int × α)
 | [], _ => []
 | p :: r, x => match leq x p.1 with
  | true => r
  | false => p :: mdel r x
def mix {α : Type} : List (List Int × α) → List Int → Nat
 | [], _ => 0
 | p :: r, x => match leq x p.1 with
  | true => 0
  | false => mix r x + 1
def ment {α : Type} (d : α) (l : List (List Int × α)) (x : List Int) : List (List Int × α) := match mhas l x with
 | true => l
 | false => l ++ [(x, d)]
def mseti {α : Type} : List (List Int × α) → Nat → α → List (List Int × α)
 | [], _, _ => []
 | p :: r, i, v => match i with
  | 0 => (p.1, v) :: r
  | i + 1 => p :: mseti r i v
def mlen {α : Type} (l : List (List Int × α)) : Nat := l.length
def hcon (os : List (List Int)) (d : HS) : List Int := lsub (llget os d.j) d.off d.len
def hcons (os : List (List Int)) (l : List HS) : List (List Int) := l.map (hcon os)
inductive AppR (os : List (List Int)) (j off len : Nat) (v : List Int) : List (List Int) → Nat → Nat → Prop
 | here : (v ≠ [] → j ≠ 0) → AppR os j off len v (llset os j (lput (llget os j) (off + len) v)) j off
 | new : AppR os j off len v (os ++ [lsub (llget os j) off len ++ v]) os.length 0
def nmin (a b : Nat) : Nat := min a b
def imin (a b : Int) : Int := if b < a then b else a
def imax (a b : Int) : Int := if b > a then b else a
def slen_ (s : ByteArray) : Nat := s.size
def sget (s : ByteArray) (i : Nat) : Int := ((s.data.toList.getD i 0).toNat : Int)
def bytesOf (l : List Int) : ByteArray := ⟨(l.map fun n => UInt8.ofNat n.toNat).toArray⟩
def bytesIn (s : ByteArray) : List Int := s.data.toList.map fun b => (b.toNat : Int)
structure InB (i : Int) (n : Nat) : Prop where
 lo : 0 ≤ i
 hi : i < n
structure Fits (a b : Nat) : Prop where
 le : a ≤ b
structure Low (a b : Nat) : Prop where
 lt : a < b
structure NonNeg (i : Int) : Prop where
 le : 0 ≤ i
structure NeZ (i : Int) : Prop where
 ne : i ≠ 0
structure Room (need bytes : Nat) : Prop where
 le : (5 * need + 4096) * bytes ≤ 1125899906842624
structure Mk (len cap : Int) (bytes : Nat) : Prop where
 lo : 0 ≤ len
 le : len ≤ cap
 hi : cap * bytes ≤ 281474976710656
 c63 : cap ≤ 9223372036854775807
def Seg.len : Seg → Nat
 | .ints _ n _ => n
 | .bools n _ => n
 | .cells cs => cs.length
def Seg.flat : Seg → List AC
 | .ints k _ l => l.map (.int k)
 | .bools _ l => l.map .bool
 | .cells cs => cs
def flat : List Seg → List AC
 | [] => []
 | s :: r => s.flat ++ flat r
def Seg.ok : Seg → Prop
 | .ints _ n l => l.length = n
 | .bools n l => l.length = n
 | .cells _ => True
def segsOk : List Seg → Prop
 | [] => True
 | s :: r => s.ok ∧ segsOk r
def slen : List Seg → Nat
 | [] => 0
 | s :: r => s.len + slen r
def findSeg : List Seg → Nat → Option Seg
 | [], _ => none
 | s :: r, b => match b with
  | 0 => some s
  | b + 1 => if s.len ≤ b + 1 then findSeg r (b + 1 - s.len) else none
def setSeg : List Seg → Nat → Seg → Option (List Seg)
 | [], _, _ => none
 | s :: r, b, x => match b with
  | 0 => some (x :: r)
  | b + 1 => if s.len ≤ b + 1 then (setSeg r (b + 1 - s.len) x).map (s :: ·) else none
def locate : List Seg → Nat → Nat → Option (Nat × Nat)
 | [], _, _ => none
 | s :: r, o, at_ => if o < s.len then some (at_, o) else locate r (o - s.len) (at_ + s.len)
def Mem.find : Mem → Nat → Option Blk
 | [], _ => none
 | (m, b) :: r, n => if m = n then some b else Mem.find r n
def Mem.put : Mem → Nat → Blk → Mem
 | [], _, _ => []
 | (m, b) :: r, n, x => if m = n then (m, x) :: r else (m, b) :: Mem.put r n x
def Fr.get : Fr → Nat → AV
 | [], _ => .undef
 | x :: _, 0 => x
 | _ :: r, n + 1 => Fr.get r n
def Fr.set : Fr → Nat → AV → Fr
 | [], _, _ => []
 | _ :: r, 0, v => v :: r
 | x :: r, n + 1, v => x :: Fr.set r n v
def Fr.put (fr : Fr) (dst : Option Tmp) (v : AV) : Fr :=
 match dst with
 | some d => fr.set d v
 | none => fr
def gname (g : Nat) : Nat := 1000000 + g
def hname : IntKind → Nat
 | .i8 => 900000 | .i16 => 900001 | .i32 => 900002 | .i64 => 900003 | .u8 => 900004 | .u16 => 900005 | .u32 => 900006 | .u64 => 900007
def isHeap (n : Nat) : Bool := Nat.ble 900000 n && Nat.blt n 1000000
def Mem.heap (σ : Mem) (k : IntKind) : Option (List (List Int)) :=
 match Mem.find σ (hname k) with
 | some (.heap k' os) => if k' = k then some os else none
 | _ => none
def AC.ofConst : Value → AC
 | .int k n => .int k n
 | .bool b => .lit b
 | .string s => .str s
 | v => .con v
def cellsOf (cs : List Value) : List AC := cs.map AC.ofConst
def allOne (cs : List Value) : Bool := cs.all fun c => c.oneCell'
def AV.ofConst : Value → AV
 | .agg cs => match allOne cs.toList with
  | true => .agg [.cells (cellsOf cs.toList)]
  | false => .undef
 | .tuple _ => .undef
 | v => .one (AC.ofConst v)
def ev (fr : Fr) : Operand → AV
 | .tmp t => fr.get t
 | .const v => .ofConst v
 | .global g => .one (.ptr (gname g) 0 0)
 | .func f => .one (.con (.func (.func f) #[] #[]))
def segsOf (P : Program) : Nat → TypeId → Option (List Seg)
 | 0, _ => none
 | d + 1, t =>
  match P.underlying t with
  | some (.array n e) =>
   match P.underlying e with
   | some (.int k) => some [.ints k n (lzeros n)]
   | some .bool => some [.bools n (List.replicate n false)]
   | some (.array _ _) =>
    match segsOf P d e with
    | some [.ints k m _] => some [.ints k (n * m) (lzeros (n * m))]
    | _ => none
   | _ => none
  | some (.struct fs) => fs.toList.foldr (fun f acc => match segsOf P d f.type, acc with | some s, some r => some (s ++ r) | _, _ => none) (some [])
  | some _ =>
   match (P.info? t).bind (·.zero) with
   | some z => some [.cells [AC.ofConst z]]
   | none => none
  | none => none
def acIs : AC → Value → Bool
 | .int k n, .int k' n' => k == k' && n == n'
 | .lit b, .bool b' => b == b'
 | .bool b, .bool b' => b == b'
 | .str s, .string s' => decide (s = s')
 | .con (.pointer none), .pointer none => true
 | .con (.slice none 0 0), .slice none 0 0 => true
 | .con .nilFunc, .nilFunc => true
 | .con .nilIface, .nilIface => true
 | .con (.map none), .map none => true
 | _, _ => false
def flatIs : List AC → List Value → Bool
 | [], [] => true
 | a :: r, v :: s => acIs a v && flatIs r s
 | _, _ => false
def shapeB : List Seg → Bool
 | [] => true
 | .ints _ n l :: r => l.length == n && shapeB r
 | .bools n l :: r => l.length == n && shapeB r
 | .cells _ :: r => shapeB r
def zeroSegs (P : Program) (t : TypeId) : Option (List Seg) :=
 match segsOf P 8 t, (P.info? t).bind (·.zero) with
 | some s, some z => match shapeB s && flatIs (flat s) z.cells.toList with
  | true => some s
  | false => none
 | _, _ => none
def isAggB (P : Program) (t : TypeId) : Option Bool :=
 match P.underlying t with
 | some (.struct _) => some true
 | some (.array _ _) => some true
 | some _ => some false
 | none => none
def sizeB (P : Program) (t : TypeId) : Option Nat := (P.info? t).map (·.size)
def AV.segs : AV → Option (List Seg)
 | .one a => some [.cells [a]]
 | .agg s => some s
 | _ => none
inductive Kd where
 | ints (k : IntKind)
 | bools
 | arrs (k : IntKind) (m : Nat)
 | rows (k : IntKind)
 | strs
def Kd.beq : Kd → Kd → Bool
 | .ints k, .ints k' => k == k'
 | .bools, .bools => true
 | .arrs k m, .arrs k' m' => k == k' && m == m'
 | .rows k, .rows k' => k == k'
 | .strs, .strs => true
 | _, _ => false
def kdsEq : List Kd → List Kd → Bool
 | [], [] => true
 | a :: r, b :: s => a.beq b && kdsEq r s
 | _, _ => false
def Kd.width : Kd → Nat
 | .arrs _ m => m
 | _ => 1
def Col.kd : Col → Kd
 | .ints k _ => .ints k
 | .bools _ => .bools
 | .arrs k m _ => .arrs k m
 | .rows k _ => .rows k
 | .strs _ => .strs
 | .hss k _ => .rows k
def Col.len : Col → Nat
 | .ints _ l => l.length
 | .bools l => l.length
 | .arrs _ _ l => l.length
 | .rows _ l => l.length
 | .strs l => l.length
 | .hss _ l => l.length
def Kd.zero (n : Nat) : Kd → Col
 | .ints k => .ints k (lzeros n)
 | .bools => .bools (bzeros n)
 | .arrs k m => .arrs k m (azeros n m)
 | .rows k => .rows k (rzeros n)
 | .strs => .strs (szeros n)
def Kd.zeroH (σ : Mem) (n : Nat) (k : Kd) : Col :=
 match k with
 | .rows q => match Mem.heap σ q with
  | some _ => .hss q (hzeros n)
  | none => .rows q (rzeros n)
 | k => k.zero n
def Kd.nil : Kd → Col
 | .ints k => .ints k []
 | .bools => .bools []
 | .arrs k m => .arrs k m []
 | .rows k => .rows k []
 | .strs => .strs []
def width : List Kd → Nat
 | [] => 0
 | k :: r => k.width + width r
def kdsOf (cs : List Col) : List Kd := cs.map Col.kd
def clen : List Col → Nat
 | [] => 0
 | .ints _ l :: _ => llen l
 | .bools l :: _ => llen l
 | .arrs _ _ l :: _ => llen l
 | .rows _ l :: _ => llen l
 | .strs l :: _ => llen l
 | .hss _ l :: _ => llen l
def Col.sub (i n : Nat) : Col → Col
 | .ints k l => .ints k (lsub l i n)
 | .bools l => .bools (lsub l i n)
 | .arrs k m l => .arrs k m (lsub l i n)
 | .rows k l => .rows k (lsub l i n)
 | .strs l => .strs (lsub l i n)
 | .hss k l => .hss k (lsub l i n)
def Col.cat : Col → Col → Col
 | .ints k l, .ints _ l' => .ints k (lcat l l')
 | .bools l, .bools l' => .bools (lcat l l')
 | .arrs k m l, .arrs _ _ l' => .arrs k m (lcat l l')
 | .rows k l, .rows _ l' => .rows k (lcat l l')
 | .strs l, .strs l' => .strs (lcat l l')
 | .hss k l, .hss _ l' => .hss k (lcat l l')
 | c, _ => c
def isHss : Col → Bool
 | .hss _ _ => true
 | _ => false
def likeCols : List Col → List Col → Bool
 | a :: r, b :: s => (isHss a == isHss b) && likeCols r s
 | _, _ => true
def noHss (cs : List Col) : Bool := cs.all fun c => !isHss c
def Col.asH (σ : Mem) (c : Col) : Col :=
 match c with
 | .rows k l => match Mem.heap σ k with
  | some _ => match l with
   | [] => .hss k []
   | x :: r => .rows k (x :: r)
  | none => .rows k l
 | c => c
def catCols : List Col → List Col → List Col
 | a :: r, b :: s => a.cat b :: catCols r s
 | _, _ => []
def colAt : List Col → Nat → Nat → Option (Nat × Col)
 | [], _, _ => none
 | c :: r, b, i => match b with
  | 0 => some (i, c)
  | b + 1 => match Nat.ble c.kd.width (b + 1) with
   | true => colAt r (b + 1 - c.kd.width) (i + 1)
   | false => none
def setCol : List Col → Nat → Col → List Col
 | [], _, _ => []
 | _ :: r, 0, x => x :: r
 | c :: r, n + 1, x => c :: setCol r n x
def kindsOf (P : Program) : Nat → TypeId → Option (List Kd)
 | 0, _ => none
 | d + 1, t => match P.underlying t with
  | some (.int k) => some [.ints k]
  | some .bool => some [.bools]
  | some .string => some [.strs]
  | some (.slice e) => match P.underlying e with
   | some (.int k) => match sizeB P e with
    | some 1 => some [.rows k]
    | _ => none
   | _ => none
  | some (.array m e) => match P.underlying e with
   | some (.int k) => some [.arrs k m]
   | _ => none
  | some (.struct fs) => fs.toList.foldr (fun f acc => match kindsOf P d f.type, acc with | some s, some r => some (s ++ r) | _, _ => none) (some [])
  | _ => none
def isZeroInt (k : IntKind) : Value → Bool
 | .int k' n => k == k' && n == 0
 | _ => false
def zeroIs : List Kd → List Value → Bool
 | [], [] => true
 | .ints k :: r, v :: s => isZeroInt k v && zeroIs r s
 | .bools :: r, v :: s => (match v with | .bool b => !b | _ => false) && zeroIs r s
 | .rows _ :: r, v :: s => (match v with | .slice none 0 0 => true | _ => false) && zeroIs r s
 | .strs :: r, v :: s => (match v with | .string b => decide (b = ByteArray.empty) | _ => false) && zeroIs r s
 | .arrs k m :: r, s => Nat.ble m s.length && (s.take m).all (isZeroInt k) && zeroIs r (s.drop m)
 | _, _ => false
def elemKinds (P : Program) (e : TypeId) : Option (List Kd × Nat) :=
 match kindsOf P 8 e, P.info? e with
 | some ks, some i => match i.zero with
  | some z => match zeroIs ks z.cells.toList && Nat.beq i.size (width ks) && Nat.blt 0 (width ks) && Nat.blt 0 i.bytes with
   | true => some (ks, i.bytes)
   | false => none
  | none => none
 | _, _ => none
def Mem.erase (n : Nat) (σ : Mem) : Mem := σ.filter fun p => !(p.1 == n)
def AC.refs (d : Nat) : AC → Bool
 | .ptr n _ _ => n == d
 | .sl n _ _ _ _ => n == d
 | .clo _ n _ _ => n == d
 | .vec n => n == d
 | .vsl n _ _ _ => n == d
 | .vcl n _ _ _ => n == d
 | .vptr n _ _ _ _ => n == d
 | .el n _ _ => n == d
 | .esl n _ _ _ _ => n == d
 | .eptr n _ _ _ => n == d
 | .hs k _ _ _ => hname k == d
 | .hp k _ _ => hname k == d
 | .map n => n == d
 | _ => false
def Seg.refs (d : Nat) : Seg → Bool
 | .cells cs => cs.any (AC.refs d)
 | _ => false
def segsRefs (d : Nat) (s : List Seg) : Bool := s.any (Seg.refs d)
def TV.refs (d : Nat) : TV → Bool
 | .c a => a.refs d
 | .g s => segsRefs d s
def AV.refs (d : Nat) : AV → Bool
 | .one a => a.refs d
 | .agg s => segsRefs d s
 | .tup vs => vs.any (TV.refs d)
 | .undef => false
def frRefs (d : Nat) (fr : Fr) : Bool := fr.any (AV.refs d)
def Col.refs (d : Nat) : Col → Bool
 | .hss k _ => hname k == d
 | _ => false
def Blk.refs (d : Nat) : Blk → Bool
 | .vec cs => cs.any (Col.refs d)
 | .rview cs => cs.any (Col.refs d)
 | .map _ (.hss k _) => hname k == d
 | b => segsRefs d b.segs
def memRefs (d : Nat) (σ : Mem) : Bool := σ.any fun p => p.1 == d || p.2.refs d
def freshB (d : Nat) (fr : Fr) (σ : Mem) : Bool := decide (d < 200000) && !frRefs d fr && !memRefs d σ
def Mem.ins (d : Nat) (b : Blk) : Mem → Mem
 | [] => [(d, b)]
 | (m, x) :: r => match Nat.ble m d with
  | true => (m, x) :: Mem.ins d b r
  | false => (d, b) :: (m, x) :: r
def newx (dst : Option Tmp) (fr : Fr) (σ : Mem) (b : Blk) (K : Nat → Mem → Prop) : Prop :=
 match dst with
 | some d => match freshB d fr σ with
  | true => K d (Mem.ins d b σ)
  | false => False
 | none => False
def partx (s : List Seg) (z base idx : Nat) (K : AV → Prop) : Prop :=
 match findSeg s base with
 | some (.ints k N l) => Fits (nadd idx z) N ∧ K (.agg [.ints k z (lsub l idx z)])
 | _ => False
def onex (s : List Seg) (base idx : Nat) (K : AV → Prop) : Prop :=
 match findSeg s base with
 | some (.ints k N l) => Low idx N ∧ K (.one (.int k (lget l idx)))
 | some (.bools N l) => Low idx N ∧ K (.one (.bool (lgetb l idx)))
 | some (.cells cs) => match cs[idx]? with
  | some c => K (.one c)
  | none => False
 | none => False
def loadx (P : Program) (σ : Mem) (T : TypeId) (n base idx : Nat) (K : AV → Prop) : Prop :=
 match Mem.find σ n with
 | none => False
 | some b =>
  match isAggB P T, sizeB P T with
  | some true, some (z + 1) => match b with
   | .own T' s => if T' = T then (match base, idx with | 0, 0 => (if slen s = z + 1 then K (.agg s) else False) | _, _ => False) else partx s (z + 1) base idx K
   | .view s => partx s (z + 1) base idx K
   | _ => False
  | some false, some _ => onex b.segs base idx K
  | _, _ => False
def Mem.cols (σ : Mem) (n : Nat) : Option (List Col) :=
 match Mem.find σ n with
 | some (.vec cs) => some cs
 | some (.rview cs) => some cs
 | _ => none
def Mem.rows (σ : Mem) (n c : Nat) : Option (IntKind × List (List Int)) :=
 match Mem.cols σ n with
 | some cs => match cs[c]? with
  | some (.rows k ll) => some (k, ll)
  | _ => none
 | none => none
def segOf (n i c : Nat) : Col → Seg
 | .ints k l => .cells [.int k (lget l i)]
 | .bools l => .cells [.bool (lgetb l i)]
 | .arrs k m l => .ints k m (llget l i)
 | .rows _ _ => .cells [.el n c i]
 | .strs l => .cells [.str (sgets l i)]
 | .hss k l => .cells [.hs k (hj (hget l i)) (ho (hget l i)) (hl (hget l i))]
def segsAt (n i : Nat) : Nat → List Col → List Seg
 | _, [] => []
 | c, x :: r => segOf n i c x :: segsAt n i (c + 1) r
def loadV (P : Program) (σ : Mem) (T : TypeId) (n z i b j : Nat) (K : AV → Prop) : Prop :=
 match Mem.cols σ n with
 | none => False
 | some cs => match Nat.beq z (width (kdsOf cs)) with
  | false => False
  | true => match isAggB P T, sizeB P T with
   | some true, some s => match j with
    | 0 => match colAt cs b 0 with
     | some (_, .arrs k m l) => match Nat.beq m s with
      | true => K (.agg [.ints k m (llget l i)])
      | false => match b, Nat.beq s z with
       | 0, true => K (.agg (segsAt n i 0 cs))
       | _, _ => False
     | some (_, .ints k l) => match z with
      | 1 => Fits (nadd i s) (llen l) ∧ K (.agg [.ints k s (lsub l i s)])
      | _ => match b, Nat.beq s z with
       | 0, true => K (.agg (segsAt n i 0 cs))
       | _, _ => False
     | some _ => match b, Nat.beq s z with
      | 0, true => K (.agg (segsAt n i 0 cs))
      | _, _ => False
     | none => False
    | _ => False
   | some false, some _ => match colAt cs b 0 with
    | some (_, .ints k l) => match j with
     | 0 => K (.one (.int k (lget l i)))
     | _ => False
    | some (_, .bools l) => match j with
     | 0 => K (.one (.bool (lgetb l i)))
     | _ => False
    | some (c, .rows _ _) => match j with
     | 0 => K (.one (.el n c i))
     | _ => False
    | some (_, .strs l) => match j with
     | 0 => K (.one (.str (sgets l i)))
     | _ => False
    | some (_, .hss k l) => match j with
     | 0 => K (.one (.hs k (hj (hget l i)) (ho (hget l i)) (hl (hget l i))))
     | _ => False
    | some (_, .arrs k m l) => Low j m ∧ K (.one (.int k (lget (llget l i) j)))
    | none => False
   | _, _ => False
def loadE (P : Program) (σ : Mem) (T : TypeId) (n c i o : Nat) (K : AV → Prop) : Prop :=
 match Mem.rows σ n c with
 | none => False
 | some (k, ll) => match isAggB P T, sizeB P T with
  | some true, some s => Fits (nadd o s) (llen (llget ll i)) ∧ K (.agg [.ints k s (lsub (llget ll i) o s)])
  | some false, some _ => K (.one (.int k (lget (llget ll i) o)))
  | _, _ => False
def loadH (P : Program) (σ : Mem) (T : TypeId) (k : IntKind) (j i : Nat) (K : AV → Prop) : Prop :=
 match Mem.heap σ k with
 | none => False
 | some os => match isAggB P T, sizeB P T with
  | some true, some s => Fits (nadd i s) (llen (llget os j)) ∧ K (.agg [.ints k s (lsub (llget os j) i s)])
  | some false, some _ => K (.one (.int k (lget (llget os j) i)))
  | _, _ => False
def rdx (σ : Mem) (ks : List Kd) (x : AV) (K : List Col → Prop) : Prop :=
 match x with
 | .one (.vec n) => match Mem.cols σ n with
  | some cs => K cs
  | none => False
 | .one (.vsl n z i len) => match Mem.cols σ n with
  | some cs => match Nat.beq z (width (kdsOf cs)) with
   | true => K (cs.map (Col.sub i len))
   | false => False
  | none => False
 | .one (.vcl n z i len) => match Mem.cols σ n with
  | some cs => match Nat.beq z (width (kdsOf cs)) with
   | true => K (cs.map (Col.sub i len))
   | false => False
  | none => False
 | .one (.el n c i) => match Mem.rows σ n c with
  | some (k, ll) => K [.ints k (llget ll i)]
  | none => False
 | .one (.esl n c i o len) => match Mem.rows σ n c with
  | some (k, ll) => K [.ints k (lsub (llget ll i) o len)]
  | none => False
 | .one (.sl n base idx len _) => match Mem.find σ n with
  | some b => match findSeg b.segs base with
   | some (.ints k N l) => Fits (nadd idx len) N ∧ K [.ints k (lsub l idx len)]
   | _ => False
  | none => False
 | .one (.con (.slice none 0 0)) => K (ks.map Kd.nil)
 | .one (.hs k j off len) => match Mem.heap σ k with
  | some os => K [.ints k (lsub (llget os j) off len)]
  | none => False
 | _ => False
def rdy (σ : Mem) (ks : List Kd) (x : AV) (K : List Col → Prop) : Prop :=
 match x with
 | .one (.str s) => match kdsEq ks [.ints .u8] with
  | true => K [.ints .u8 (bytesIn s)]
  | false => False
 | x => rdx σ ks x K
def takex (σ : Mem) (ks : List Kd) (x : AV) (K : List Col → Mem → Prop) : Prop :=
 match x with
 | .one (.vec n) => match Mem.find σ n with
  | some (.vec cs) => K cs (σ.erase n)
  | _ => False
 | .one (.vsl n z i len) => match Mem.find σ n with
  | some (.vec cs) => match Nat.beq z (width (kdsOf cs)) with
   | true => K (cs.map (Col.sub i len)) (σ.erase n)
   | false => False
  | _ => False
 | .one (.vcl n z i len) => match Mem.find σ n with
  | some (.vec cs) => match Nat.beq z (width (kdsOf cs)) with
   | true => K (cs.map (Col.sub i len)) (σ.erase n)
   | false => False
  | _ => False
 | .one (.sl n base idx len cap) => match Mem.find σ n with
  | some (.own _ s) => match findSeg s base with
   | some (.ints k N l) => Fits (nadd idx cap) N ∧ K [.ints k (lsub l idx len)] (σ.erase n)
   | _ => False
  | _ => False
 | .one (.con (.slice none 0 0)) => K (ks.map Kd.nil) σ
 | _ => False
def oneInts (k : IntKind) (K : List Int → Prop) (cs : List Col) : Prop :=
 match cs with
 | [.ints k' l] => if k' = k then K l else False
 | _ => False
def sharex (σ : Mem) (k : IntKind) (x : AC) (K : List Int → Mem → Prop) : Prop :=
 let go (σ' : Mem) : Prop := rdx σ [.ints k] (.one x) (oneInts k fun l => K l σ')
 match x with
 | .vec n => match Mem.find σ n with
  | some (.vec _) => go (σ.erase n)
  | _ => go σ
 | .vsl n _ _ _ => match Mem.find σ n with
  | some (.vec _) => go (σ.erase n)
  | _ => go σ
 | .vcl n _ _ _ => match Mem.find σ n with
  | some (.vec _) => go (σ.erase n)
  | _ => go σ
 | .hs _ _ _ _ => False
 | .sl n _ _ _ _ => match Mem.find σ n with
  | some (.own _ _) => go (σ.erase n)
  | _ => go σ
 | _ => go σ
def rowx (σ : Mem) (k : IntKind) (x : AC) (K : Col → Mem → Prop) : Prop :=
 match x with
 | .hs k' j off len => if k' = k then K (.hss k [⟨j, off, len⟩]) σ else False
 | x => sharex σ k x fun l σ' => K (.rows k [l]) σ'
def storeH (P : Program) (σ : Mem) (T : TypeId) (k : IntKind) (j i : Nat) (x : AV) (K : Mem → Prop) : Prop :=
 match Mem.heap σ k with
 | none => False
 | some os => match isAggB P T, sizeB P T, x with
  | some false, some 1, .one (.int k' v) => if k' = k then K (σ.put (hname k) (.heap k (llset os j (lset (llget os j) i v)))) else False
  | _, _, _ => False
def storeOne (s : List Seg) (base idx : Nat) (a : AC) (K : List Seg → Prop) : Prop :=
 match findSeg s base with
 | some (.ints k N l) => match a with
  | .int k' v => if k = k' then Low idx N ∧ (match setSeg s base (.ints k N (lset l idx v)) with | some s' => K s' | none => False) else False
  | _ => False
 | some (.bools N l) => match a with
  | .bool v => Low idx N ∧ (match setSeg s base (.bools N (lsetb l idx v)) with | some s' => K s' | none => False)
  | .lit v => Low idx N ∧ (match setSeg s base (.bools N (lsetb l idx v)) with | some s' => K s' | none => False)
  | _ => False
 | some (.cells cs) => match decide (idx < cs.length) with
  | true => (match setSeg s base (.cells (cs.set idx a)) with | some s' => K s' | none => False)
  | false => False
 | none => False
def storePart (s : List Seg) (z base idx : Nat) (x : List Seg) (K : List Seg → Prop) : Prop :=
 match findSeg s base, x with
 | some (.ints k N l), [.ints k' z' l'] =>
  if k = k' then (if z' = z then Fits (nadd idx z) N ∧ (match setSeg s base (.ints k N (lput l idx l')) with | some s' => K s' | none => False) else False) else False
 | _, _ => False
def sameShape : List Seg → List Seg → Bool
 | [], [] => true
 | .ints k n _ :: r, .ints k' n' _ :: r' => k == k' && n == n' && sameShape r r'
 | .bools n _ :: r, .bools n' _ :: r' => n == n' && sameShape r r'
 | .cells c :: r, .cells c' :: r' => c.length == c'.length && sameShape r r'
 | _, _ => false
def storex (P : Program) (σ : Mem) (T : TypeId) (n base idx : Nat) (x : AV) (K : Mem → Prop) : Prop :=
 match Mem.find σ n with
 | some (.own T' s) =>
  match isAggB P T, sizeB P T with
  | some true, some z => match x with
   | .agg xs => if T' = T then (match base, idx with | 0, 0 => (match sameShape s xs with | true => (if slen xs = z then K (σ.put n (.own T' xs)) else False) | false => False) | _, _ => False) else storePart s z base idx xs fun s' => K (σ.put n (.own T' s'))
   | _ => False
  | some false, some 1 => match x with
   | .one a => storeOne s base idx a fun s' => K (σ.put n (.own T' s'))
   | _ => False
  | _, _ => False
 | _ => False
def storeV (P : Program) (σ : Mem) (T : TypeId) (n z i b j : Nat) (x : AV) (K : Mem → Prop) : Prop :=
 match Mem.find σ n with
 | some (.vec cs) => match Nat.beq z (width (kdsOf cs)) with
  | false => False
  | true => match isAggB P T, sizeB P T with
   | some false, some 1 => match colAt cs b 0, x with
    | some (c, .ints k l), .one (.int k' v) => match j with
     | 0 => if k = k' then K (σ.put n (.vec (setCol cs c (.ints k (lset l i v))))) else False
     | _ => False
    | some (c, .bools l), .one (.bool v) => match j with
     | 0 => K (σ.put n (.vec (setCol cs c (.bools (lsetb l i v)))))
     | _ => False
    | some (c, .bools l), .one (.lit v) => match j with
     | 0 => K (σ.put n (.vec (setCol cs c (.bools (lsetb l i v)))))
     | _ => False
    | some (c, .strs l), .one (.str v) => match j with
     | 0 => K (σ.put n (.vec (setCol cs c (.strs (ssets l i v)))))
     | _ => False
    | some (c, .arrs k m l), .one (.int k' v) => if k = k' then Low j m ∧ K (σ.put n (.vec (setCol cs c (.arrs k m (llset l i (lset (llget l i) j v)))))) else False
    | _, _ => False
   | some true, some s => match j, colAt cs b 0, x with
    | 0, some (c, .arrs k m l), .agg [.ints k' m' v] => if k = k' then (if m' = m then (if m = s then K (σ.put n (.vec (setCol cs c (.arrs k m (llset l i v))))) else False) else False) else False
    | _, _, _ => False
   | _, _ => False
 | _ => False
def AC.elOf (d : Nat) : AC → Bool
 | .el n _ _ => n == d
 | .esl n _ _ _ _ => n == d
 | .eptr n _ _ _ => n == d
 | _ => false
def Seg.elOf (d : Nat) : Seg → Bool
 | .cells cs => cs.any (AC.elOf d)
 | _ => false
def TV.elOf (d : Nat) : TV → Bool
 | .c a => a.elOf d
 | .g s => s.any (Seg.elOf d)
def AV.elOf (d : Nat) : AV → Bool
 | .one a => a.elOf d
 | .agg s => s.any (Seg.elOf d)
 | .tup vs => vs.any (TV.elOf d)
 | .undef => false
def frEl (d : Nat) (fr : Fr) : Bool := fr.any (AV.elOf d)
def memEl (d : Nat) (σ : Mem) : Bool := σ.any fun p => p.2.segs.any (Seg.elOf d)
def hssAt (σ : Mem) (n b : Nat) : Bool :=
 match Mem.find σ n with
 | some (.vec cs) => match colAt cs b 0 with
  | some (_, .hss _ _) => true
  | _ => false
 | _ => false
def storeS (P : Program) (σ : Mem) (fr : Fr) (T : TypeId) (n z i b j : Nat) (x : AV) (K : Mem → Prop) : Prop :=
 match Mem.find σ n with
 | some (.vec cs) => match Nat.beq z (width (kdsOf cs)) && Nat.blt n 200000 && !frEl n fr && !memEl n σ with
  | false => False
  | true => match isAggB P T, sizeB P T with
   | some false, some 1 => match colAt cs b 0, x with
    | some (c, .hss k l), .one (.hs k' q o m) => match j with
     | 0 => if k' = k then K (σ.put n (.vec (setCol cs c (.hss k (hset l i ⟨q, o, m⟩))))) else False
     | _ => False
    | _, _ => False
   | _, _ => False
 | _ => False
def intBin (op : BinOp) (k : IntKind) (a b : Int) (K : AV → Prop) : Prop :=
 match op with
 | .add => K (.one (.int k (add k a b)))
 | .sub => K (.one (.int k (sub k a b)))
 | .mul => K (.one (.int k (mul k a b)))
 | .quo => NeZ b ∧ K (.one (.int k (quo k a b)))
 | .rem => NeZ b ∧ K (.one (.int k (rem a b)))
 | .and => K (.one (.int k (band k a b)))
 | .or => K (.one (.int k (bor k a b)))
 | .xor => K (.one (.int k (bxor k a b)))
 | .andNot => K (.one (.int k (bclr k a b)))
 | .eql => K (.one (.bool (ieq a b)))
 | .neq => K (.one (.bool (ine a b)))
 | .lss => K (.one (.bool (ilt a b)))
 | .leq => K (.one (.bool (ile a b)))
 | .gtr => K (.one (.bool (igt a b)))
 | .geq => K (.one (.bool (ige a b)))
 | _ => False
def intArr (P : Program) (t : TypeId) : Option (IntKind × Nat) :=
 match P.underlying t with
 | some (.array n e) => match P.underlying e with
  | some (.int k) => if sizeB P e = some 1 then (if P.eqGuardType P.depth t = false then some (k, n) else none) else none
  | _ => none
 | _ => none
def eqFs (f : TypeId → Option Nat) (sz : TypeId → Option Nat) : List Field → Nat → Option Nat
 | [], o => some o
 | fd :: r, o => match f fd.type, sz fd.type with
  | some z, some z' => match Nat.beq z z' && Nat.beq fd.offset o && fd.name != "_" with
   | true => eqFs f sz r (o + z)
   | false => none
  | _, _ => none
def eqI (P : Program) : Nat → TypeId → Option Nat
 | 0, _ => none
 | d + 1, t => match P.underlying t with
  | some (.int _) => match sizeB P t with
   | some 1 => some 1
   | _ => none
  | some (.array n e) => match eqI P d e, sizeB P e with
   | some z, some z' => match Nat.beq z z' with
    | true => some (n * z)
    | false => none
   | _, _ => none
  | some (.struct fs) => match P.stoodInHeld t with
   | false => eqFs (eqI P d) (sizeB P) fs.toList 0
   | true => none
  | _ => none
def eqSegs : List Seg → List Seg → Option Bool
 | [], [] => some true
 | .ints k n a :: r, .ints k' n' b :: s => match eqSegs r s with
  | some q => if k = k' then (if n = n' then some (band2 (leq a b) q) else none) else none
  | none => none
 | _, _ => none
def aggEq (P : Program) (op : BinOp) (t : TypeId) (s s' : List Seg) (K : AV → Prop) : Prop :=
 match eqI P 8 t, eqSegs s s' with
 | some z, some b => if slen s = z then (match P.eqGuardType P.depth t, isAggB P t with
  | false, some true => match op with
   | .eql => K (.one (.bool b))
   | .neq => K (.one (.bool (bnot b)))
   | _ => False
  | _, _ => False) else False
 | _, _ => False
def boolx (P : Program) (op : BinOp) (t : TypeId) (a b : Bool) (K : AV → Prop) : Prop :=
 match P.underlying t with
 | some .bool => match op with
  | .eql => K (.one (.bool (beq2 a b)))
  | .neq => K (.one (.bool (bnot (beq2 a b))))
  | _ => False
 | _ => False
def nilcmp (P : Program) (op : BinOp) (t : TypeId) (same : Bool) (K : AV → Prop) : Prop :=
 match P.underlying t with
 | some (.pointer _) => match op with
  | .eql => K (.one (.lit same))
  | .neq => K (.one (.lit (!same)))
  | _ => False
 | _ => False
def binx (P : Program) (op : BinOp) (t : TypeId) (x y : AV) (K : AV → Prop) : Prop :=
 match x, y with
 | .one (.ptr _ _ _), .one (.con (.pointer none)) => nilcmp P op t false K
 | .one (.con (.pointer none)), .one (.ptr _ _ _) => nilcmp P op t false K
 | .one (.con (.pointer none)), .one (.con (.pointer none)) => nilcmp P op t true K
 | .one (.int k a), .one (.int k' b) =>
  match op with
  | .shl => NonNeg b ∧ K (.one (.int k (shl k a b)))
  | .shr => NonNeg b ∧ K (.one (.int k (shr k a b)))
  | _ => if k = k' then intBin op k a b K else False
 | .one (.str a), .one (.str b) =>
  match op with
  | .eql => K (.one (.bool (seq2 a b)))
  | .neq => K (.one (.bool (bnot (seq2 a b))))
  | .add => Fits (nadd (slen_ a) (slen_ b)) 9223372036854775807 ∧ K (.one (.str (sadd a b)))
  | _ => False
 | .one (.bool a), .one (.bool b) => boolx P op t a b K
 | .one (.lit a), .one (.bool b) => boolx P op t a b K
 | .one (.bool a), .one (.lit b) => boolx P op t a b K
 | .one (.lit a), .one (.lit b) => boolx P op t a b K
 | .agg [.ints k n a], .agg [.ints k' n' b] =>
  match intArr P t with
  | some (kk, m) =>
   if kk = k then (if k = k' then (if n = m then (if n' = m then
    (match op with
    | .eql => K (.one (.bool (leq a b)))
    | .neq => K (.one (.bool (bnot (leq a b))))
    | _ => False) else False) else False) else False) else False
  | none => aggEq P op t [.ints k n a] [.ints k' n' b] K
 | .agg (a :: b :: r), .agg s => aggEq P op t (a :: b :: r) s K
 | _, _ => False
def unx (op : UnOp) (x : AV) (K : AV → Prop) : Prop :=
 match op, x with
 | .neg, .one (.int k n) => K (.one (.int k (sub k 0 n)))
 | .xor, .one (.int k n) => K (.one (.int k (bxor k (if k.signed then -1 else k.max) n)))
 | .not, .one (.bool b) => K (.one (.bool (bnot b)))
 | .not, .one (.lit b) => K (.one (.lit (!b)))
 | _, _ => False
def convx (P : Program) (src dst : TypeId) (x : AV) (K : AV → Prop) : Prop :=
 match x with
 | .one (.int _ n) => match P.underlying src, P.underlying dst with
  | some _, some (.int k) => K (.one (.int k (conv k n)))
  | _, _ => False
 | _ => False
def indexAddrx (P : Program) (σ : Mem) (t : TypeId) (x ix : AV) (K : AV → Prop) : Prop :=
 match x, ix with
 | .one (.vec n), .one (.int _ i) =>
  match P.underlying t with
  | some (.slice e) => match sizeB P e, Mem.cols σ n with
   | some z, some cs => match Nat.beq z (width (kdsOf cs)) with
    | true => InB i (clen cs) ∧ K (.one (.vptr n z (nat i) 0 0))
    | false => False
   | _, _ => False
  | _ => False
 | .one (.vsl n z b len), .one (.int _ i) =>
  match P.underlying t with
  | some (.slice e) => match sizeB P e with
   | some z' => if z' = z then InB i len ∧ K (.one (.vptr n z (nadd b (nat i)) 0 0)) else False
   | _ => False
  | _ => False
 | .one (.el n c r), .one (.int _ i) =>
  match P.underlying t with
  | some (.slice e) => match sizeB P e, Mem.rows σ n c with
   | some 1, some (_, ll) => InB i (llen (llget ll r)) ∧ K (.one (.eptr n c r (nat i)))
   | _, _ => False
  | _ => False
 | .one (.esl n c r o len), .one (.int _ i) =>
  match P.underlying t with
  | some (.slice e) => match sizeB P e with
   | some 1 => InB i len ∧ K (.one (.eptr n c r (nadd o (nat i))))
   | _ => False
  | _ => False
 | .one (.hs k q o len), .one (.int _ i) =>
  match P.underlying t with
  | some (.slice e) => match sizeB P e with
   | some 1 => InB i len ∧ K (.one (.hp k q (nadd o (nat i))))
   | _ => False
  | _ => False
 | .one (.vptr n z r b j), .one (.int _ i) =>
  match P.underlying t with
  | some (.array len e) => match sizeB P e with
   | some 1 => InB i len ∧ K (.one (.vptr n z r b (nadd j (nat i))))
   | _ => False
  | _ => False
 | .one (.ptr n base idx), .one (.int _ i) =>
  match P.underlying t with
  | some (.array len e) => match sizeB P e with
   | some 1 => InB i len ∧ K (.one (.ptr n base (nadd idx (nat i))))
   | some z => InB i len ∧ K (.one (.ptr n base (nadd idx (nmul (nat i) z))))
   | none => False
  | _ => False
 | .one (.sl n base idx len _), .one (.int _ i) =>
  match P.underlying t with
  | some (.slice e) => match sizeB P e with
   | some 1 => InB i len ∧ K (.one (.ptr n base (nadd idx (nat i))))
   | some z => InB i len ∧ K (.one (.ptr n base (nadd idx (nmul (nat i) z))))
   | none => False
  | _ => False
 | _, _ => False
def indexx (P : Program) (t : TypeId) (x ix : AV) (K : AV → Prop) : Prop :=
 match x, ix with
 | .one (.str s), .one (.int _ i) =>
  match P.underlying t with
  | some .string => InB i (slen_ s) ∧ K (.one (.int .u8 (sget s (nat i))))
  | _ => False
 | .agg [.ints k N l], .one (.int _ i) =>
  match P.underlying t with
  | some (.array len e) => match P.underlying e, sizeB P e with
   | some (.int _), some 1 => if N = len then InB i len ∧ K (.one (.int k (lget l (nat i)))) else False
   | some (.array _ _), some z => if N = len * z then InB i len ∧ K (.agg [.ints k z (lsub l (nmul (nat i) z) z)]) else False
   | _, _ => False
  | _ => False
 | .agg [.bools N l], .one (.int _ i) =>
  match P.underlying t with
  | some (.array len e) => match P.underlying e, sizeB P e with
   | some .bool, some 1 => if N = len then InB i len ∧ K (.one (.bool (lgetb l (nat i)))) else False
   | _, _ => False
  | _ => False
 | _, _ => False
def fillx (s : List Seg) (place : Nat → Option (Nat × Nat)) : List (Nat × AV) → (List Seg → Prop) → Prop
 | [], K => K s
 | (i, v) :: r, K =>
  match place i with
  | none => False
  | some (off, size) =>
   match locate s off 0 with
   | none => False
   | some (base, idx) =>
    match v with
    | .one a => match size with
     | 1 => storeOne s base idx a fun s' => fillx s' place r K
     | _ => False
    | .agg xs => storePart s size base idx xs fun s' => fillx s' place r K
    | _ => False
def buildx (P : Program) (t : TypeId) (parts : List (Nat × AV)) (K : AV → Prop) : Prop :=
 match zeroSegs P t with
 | none => False
 | some s =>
  match P.underlying t with
  | some (.array _ e) => match sizeB P e with
   | some z => fillx s (fun i => some (i * z, z)) parts fun s' => K (.agg s')
   | none => False
  | some (.struct fs) => match fs.toList.mapM (fun f => (sizeB P f.type).map fun z => (f.offset, z)) with
   | some places => fillx s (fun i => places[i]?) parts fun s' => K (.agg s')
   | none => False
  | _ => False
def fieldAddrx (P : Program) (σ : Mem) (t : TypeId) (x : AV) (f : Nat) (K : AV → Prop) : Prop :=
 match x with
 | .one (.ptr n base idx) =>
  match P.underlying t with
  | some (.struct fs) => match fs[f]? with
   | some fd => match sizeB P fd.type with
    | some (_ + 1) => match Mem.find σ n with
     | some b => match b.segs with
      | [_] => K (.one (.ptr n base (nadd idx fd.offset)))
      | s => match locate s (base + idx + fd.offset) 0 with
       | some (base', idx') => K (.one (.ptr n base' idx'))
       | none => False
     | none => False
    | _ => False
   | none => False
  | _ => False
 | .one (.vptr n z i b j) =>
  match P.underlying t with
  | some (.struct fs) => match fs[f]?, j with
   | some fd, 0 => match sizeB P fd.type with
    | some (_ + 1) => K (.one (.vptr n z i (b + fd.offset) 0))
    | _ => False
   | _, _ => False
  | _ => False
 | _ => False
def fieldx (P : Program) (t : TypeId) (x : AV) (f : Nat) (K : AV → Prop) : Prop :=
 match x with
 | .agg s =>
  match P.underlying t with
  | some (.struct fs) => match fs[f]? with
   | some fd => match locate s fd.offset 0 with
    | some (base, idx) => match isAggB P fd.type, sizeB P fd.type with
     | some true, some z => partx s z base idx K
     | some false, some _ => onex s base idx K
     | _, _ => False
    | none => False
   | none => False
  | _ => False
 | _ => False
def TV.av : TV → AV
 | .c a => .one a
 | .g s => .agg s
def extractx (x : AV) (i : Nat) (K : AV → Prop) : Prop :=
 match x with
 | .tup vs => match vs[i]? with
  | some v => K v.av
  | none => False
 | _ => False
def boundx (lo hi : Option AV) (len cap : Nat) (K : Nat → Nat → Prop) : Prop :=
 match lo, hi with
 | none, none => K 0 len
 | some (.one (.int _ l)), none => (NonNeg l ∧ Fits (nat l) len) ∧ K (nat l) len
 | none, some (.one (.int _ h)) => (NonNeg h ∧ Fits (nat h) cap) ∧ K 0 (nat h)
 | some (.one (.int _ l)), some (.one (.int _ h)) => ((NonNeg h ∧ Fits (nat h) cap) ∧ (NonNeg l ∧ Fits (nat l) (nat h))) ∧ K (nat l) (nat h)
 | _, _ => False
def mulZ (z n : Nat) : Nat := match z with | 1 => n | _ => nmul n z
def slK (K : AV → Prop) (lo : Option AV) (n base idx z l u cap : Nat) : Prop :=
 match lo with
 | none => K (.one (.sl n base idx u cap))
 | some _ => K (.one (.sl n base (nadd idx (mulZ z l)) (nsub u l) (nsub cap l)))
def maxx (hi mx : Option AV) (len : Nat) (K : Prop) : Prop :=
 match mx with
 | none => K
 | some (.one (.int _ m)) => match hi with
  | some (.one (.int _ h)) => (NonNeg m ∧ Fits (nat m) len ∧ NonNeg h ∧ Fits (nat h) (nat m)) ∧ K
  | _ => False
 | _ => False
def lenOfV (P : Program) (σ : Mem) (x : AV) : Option Nat :=
 match x with
 | .one (.vec n) => (Mem.cols σ n).map clen
 | .one (.vsl _ _ _ len) => some len
 | .one (.vcl _ _ _ len) => some len
 | .one (.el n c i) => (Mem.rows σ n c).map fun p => llen (llget p.2 i)
 | .one (.esl _ _ _ _ len) => some len
 | .one (.hs _ _ _ len) => some len
 | _ => none
def cutx (P : Program) (σ : Mem) (z : Nat) (x : AV) (lo mx : Option AV) (l u : Nat) (K : AV → Prop) : Prop :=
 match x with
 | .one (.vec n) => match Mem.cols σ n with
  | some cs => match Nat.beq z (width (kdsOf cs)) with
   | true => match lo with
    | none => match mx with
     | none => K (.one (.vsl n z 0 u))
     | some _ => K (.one (.vcl n z 0 u))
    | some _ => match mx with
     | none => K (.one (.vsl n z l (nsub u l)))
     | some _ => K (.one (.vcl n z l (nsub u l)))
   | false => False
  | none => False
 | .one (.vsl n z' i _) => match Nat.beq z z' with
  | true => match lo with
   | none => match mx with
    | none => K (.one (.vsl n z i u))
    | some _ => K (.one (.vcl n z i u))
   | some _ => match mx with
    | none => K (.one (.vsl n z (nadd i l) (nsub u l)))
    | some _ => K (.one (.vcl n z (nadd i l) (nsub u l)))
  | false => False
 | .one (.el n c i) => match z with
  | 1 => match lo with
   | none => K (.one (.esl n c i 0 u))
   | some _ => K (.one (.esl n c i l (nsub u l)))
  | _ => False
 | .one (.esl n c i o _) => match z with
  | 1 => match lo with
   | none => K (.one (.esl n c i o u))
   | some _ => K (.one (.esl n c i (nadd o l) (nsub u l)))
  | _ => False
 | _ => False
def sliceH (P : Program) (σ : Mem) (t : TypeId) (k : IntKind) (j off len : Nat) (lo hi : Option AV) (K : AV → Prop) : Prop :=
 match P.underlying t, Mem.heap σ k with
 | some (.slice e), some os => match sizeB P e with
  | some 1 => boundx lo hi len (nsub (llen (llget os j)) off) fun l u => match lo with
   | none => K (.one (.hs k j off u))
   | some _ => K (.one (.hs k j (nadd off l) (nsub u l)))
  | _ => False
 | _, _ => False
def slicev (P : Program) (σ : Mem) (t : TypeId) (x : AV) (lo hi mx : Option AV) (K : AV → Prop) : Prop :=
 match P.underlying t with
 | some (.slice e) => match sizeB P e, lenOfV P σ x with
  | some z, some len => maxx hi mx len (boundx lo hi len len fun l u => cutx P σ z x lo mx l u K)
  | _, _ => False
 | _ => False
def slicex (P : Program) (t : TypeId) (x : AV) (lo hi : Option AV) (K : AV → Prop) : Prop :=
 match x with
 | .one (.sl n base idx len cap) =>
  match P.underlying t with
  | some (.slice e) => match sizeB P e with
   | some z => boundx lo hi len cap fun l u => slK K lo n base idx z l u cap
   | none => False
  | _ => False
 | .one (.ptr n base idx) =>
  match P.underlying t with
  | some (.pointer a) => match P.underlying a with
   | some (.array N e) => match sizeB P e with
    | some z => boundx lo hi N N fun l u => slK K lo n base idx z l u N
    | none => False
   | _ => False
  | some (.array N e) => match sizeB P e with
   | some z => boundx lo hi N N fun l u => slK K lo n base idx z l u N
   | none => False
  | _ => False
 | _ => False
def isV : AV → Bool
 | .one (.vec _) => true
 | .one (.vsl _ _ _ _) => true
 | .one (.el _ _ _) => true
 | .one (.esl _ _ _ _ _) => true
 | _ => false
def slicez (P : Program) (σ : Mem) (t : TypeId) (x : AV) (lo hi mx : Option AV) (K : AV → Prop) : Prop :=
 match isV x with
 | true => slicev P σ t x lo hi mx K
 | false => match mx with
  | none => match x with
   | .one (.hs k j off len) => sliceH P σ t k j off len lo hi K
   | x => slicex P t x lo hi K
  | some _ => False
def arrx (P : Program) (σ : Mem) (arr : TypeId) (x : AV) (K : AV → Prop) : Prop :=
 match x with
 | .one (.vec n) => match P.underlying arr, Mem.cols σ n with
  | some (.array (N + 1) _), some cs => Fits (N + 1) (clen cs) ∧ K (.one (.vptr n (width (kdsOf cs)) 0 0 0))
  | _, _ => False
 | .one (.vsl n z i len) => match P.underlying arr with
  | some (.array (N + 1) _) => Fits (N + 1) len ∧ K (.one (.vptr n z i 0 0))
  | _ => False
 | .one (.el n c i) => match P.underlying arr, Mem.rows σ n c with
  | some (.array (N + 1) _), some (_, ll) => Fits (N + 1) (llen (llget ll i)) ∧ K (.one (.eptr n c i 0))
  | _, _ => False
 | .one (.esl n c i o len) => match P.underlying arr with
  | some (.array (N + 1) _) => Fits (N + 1) len ∧ K (.one (.eptr n c i o))
  | _ => False
 | .one (.sl n base idx len _) => match P.underlying arr with
  | some (.array (N + 1) _) => Fits (N + 1) len ∧ K (.one (.ptr n base idx))
  | _ => False
 | .one (.hs k j off len) => match P.underlying arr with
  | some (.array (N + 1) _) => Fits (N + 1) len ∧ K (.one (.hp k j off))
  | _ => False
 | _ => False
def nilx (x : AV) (K : AV → Prop) : Prop :=
 match x with
 | .one (.ptr n b i) => K (.one (.ptr n b i))
 | .one (.vptr n z i b j) => K (.one (.vptr n z i b j))
 | .one (.eptr n c i o) => K (.one (.eptr n c i o))
 | .one (.hp k j i) => K (.one (.hp k j i))
 | .one (.con (.func (.func f) a b)) => K (.one (.con (.func (.func f) a b)))
 | .one (.clo f n b i) => K (.one (.clo f n b i))
 | _ => False
def lenx (P : Program) (σ : Mem) (t : TypeId) (x : AV) (K : AV → Prop) : Prop :=
 match P.underlying t with
 | some (.array n _) => K (.one (.int .i64 (ofNat n)))
 | some (.slice _) => match x with
  | .one (.sl _ _ _ len _) => K (.one (.int .i64 (ofNat len)))
  | .one (.con (.slice none 0 0)) => K (.one (.int .i64 0))
  | x => match lenOfV P σ x with
   | some n => K (.one (.int .i64 (ofNat n)))
   | none => False
 | some .string => match x with
  | .one (.str s) => K (.one (.int .i64 (ofNat s.size)))
  | _ => False
 | some (.pointer a) => match P.underlying a with
  | some (.array n _) => K (.one (.int .i64 (ofNat n)))
  | _ => False
 | _ => False
def minmax (lo : Bool) (x y : AV) (K : AV → Prop) : Prop :=
 match x, y with
 | .one (.int k a), .one (.int k' b) => if k = k' then K (.one (.int k (match lo with | true => imin a b | false => imax a b))) else False
 | _, _ => False
def funcx (f : Fn) (first : List Operand) (capt : List AV) (K : AV → Prop) : Prop :=
 match f, first, capt with
 | .func g, [], [] => K (.one (.con (.func (.func g) #[] #[])))
 | .func g, [], [.one (.ptr n b i)] => K (.one (.clo g n b i))
 | _, _, _ => False
def detx (P : Program) (o : Op) (fr : Fr) (σ : Mem) (K : AV → Prop) : Prop :=
 match o with
 | .move x => K (ev fr x)
 | .assign x => K (ev fr x)
 | .load T a => match ev fr a with
  | .one (.ptr n base idx) => loadx P σ T n base idx K
  | .one (.vptr n z i b j) => loadV P σ T n z i b j K
  | .one (.eptr n c i o) => loadE P σ T n c i o K
  | .one (.hp k j i) => loadH P σ T k j i K
  | _ => False
 | .nilCheck x => nilx (ev fr x) K
 | .binOp op t x y _ => binx P op t (ev fr x) (ev fr y) K
 | .unOp op _ x => unx op (ev fr x) K
 | .convert s d x => convx P s d (ev fr x) K
 | .sliceToArrayPointer arr x => arrx P σ arr (ev fr x) K
 | .slice t x lo hi mx => slicez P σ t (ev fr x) (lo.map (ev fr)) (hi.map (ev fr)) (mx.map (ev fr)) K
 | .makeFunc f first capt => funcx f first.toList (capt.toList.map (ev fr)) K
 | .fieldAddr t x f => fieldAddrx P σ t (ev fr x) f K
 | .field t x f => fieldx P t (ev fr x) f K
 | .indexAddr t x i => indexAddrx P σ t (ev fr x) (ev fr i) K
 | .index t x i => indexx P t (ev fr x) (ev fr i) K
 | .extract x i => extractx (ev fr x) i K
 | .build t ps => buildx P t (ps.toList.map fun p => (p.1, ev fr p.2)) K
 | .call { callee := .builtin .len, args, argTypes } => match args.toList, argTypes.toList with
  | [x], [t] => lenx P σ t (ev fr x) K
  | _, _ => False
 | .call { callee := .builtin .min, args, argTypes := _ } => match args.toList with
  | [x, y] => minmax true (ev fr x) (ev fr y) K
  | _ => False
 | .call { callee := .builtin .max, args, argTypes := _ } => match args.toList with
  | [x, y] => minmax false (ev fr x) (ev fr y) K
  | _ => False
 | _ => False
structure Spec where
 news : Nat
 mods : Bool
 sem : Nat → List AV → Mem → (AV → Mem → Prop) → Prop
abbrev Gam := FuncId → Option Spec
def freshAll (d : Nat) (fr : Fr) (σ : Mem) : Nat → Bool
 | 0 => true
 | k + 1 => freshB (d + 10000 * k) fr σ && freshAll d fr σ k
def callx (Γ : Gam) (f : FuncId) (dst : Option Tmp) (args : List AV) (fr : Fr) (σ : Mem) (K : AV → Mem → Prop) : Prop :=
 match Γ f with
 | none => False
 | some s => match dst with
  | some d => match freshAll d fr σ s.news with
   | true => s.sem d args σ K
   | false => False
  | none => match s.news with
   | 0 => s.sem 0 args σ K
   | _ => False
inductive Fld where
 | a (x : AC)
 | g (k : IntKind) (m : Nat) (l : List Int)
def fldsOf : List Seg → Option (List Fld)
 | [] => some []
 | .cells cs :: r => (fldsOf r).map (cs.map Fld.a ++ ·)
 | .ints k n l :: r => (fldsOf r).map (.g k n l :: ·)
 | .bools _ _ :: _ => none
def recx : Mem → List Kd → List Fld → (List Col → Mem → Prop) → Prop
 | σ, [], [], K => K [] σ
 | σ, .ints k :: r, .a (.int k' v) :: s, K => if k' = k then recx σ r s fun cs σ' => K (.ints k [v] :: cs) σ' else False
 | σ, .bools :: r, .a (.bool v) :: s, K => recx σ r s fun cs σ' => K (.bools [v] :: cs) σ'
 | σ, .bools :: r, .a (.lit v) :: s, K => recx σ r s fun cs σ' => K (.bools [v] :: cs) σ'
 | σ, .arrs k m :: r, .g k' m' l :: s, K => if k' = k then (if m' = m then recx σ r s fun cs σ' => K (.arrs k m [l] :: cs) σ' else False) else False
 | σ, .rows k :: r, .a x :: s, K => rowx σ k x fun c σ1 => recx σ1 r s fun cs σ' => K (c :: cs) σ'
 | σ, .strs :: r, .a (.str v) :: s, K => recx σ r s fun cs σ' => K (.strs [v] :: cs) σ'
 | _, _, _, _ => False
def Col.push : Col → Col → Col
 | .ints k l, .ints _ l' => .ints k (l ++ l')
 | .bools l, .bools l' => .bools (l ++ l')
 | .arrs k m l, .arrs _ _ l' => .arrs k m (l ++ l')
 | .rows k l, .rows _ l' => .rows k (l ++ l')
 | .strs l, .strs l' => .strs (l ++ l')
 | .hss k l, .hss _ l' => .hss k (l ++ l')
 | c, _ => c
def pushCols : List Col → List Col → List Col
 | a :: r, b :: s => a.push b :: pushCols r s
 | _, _ => []
def recsx (ks : List Kd) (len : Nat) : Mem → Nat → List (Nat × AV) → List Col → (List Col → Mem → Prop) → Prop
 | σ, i, [], acc, K => match Nat.beq i len with
  | true => K acc σ
  | false => False
 | σ, i, (j, v) :: r, acc, K => match Nat.beq i j with
  | true => match (v.segs).bind fldsOf with
   | some fl => recx σ ks fl fun cs σ' => match i with
    | 0 => recsx ks len σ' (i + 1) r cs K
    | _ => match likeCols acc cs with
     | true => recsx ks len σ' (i + 1) r (pushCols acc cs) K
     | false => False
   | none => False
  | false => False
def appendx (P : Program) (tx ty : TypeId) (x y : AV) (dst : Option Tmp) (fr : Fr) (σ : Mem) (K : AV → Mem → Prop) : Prop :=
 match P.underlying tx with
 | some (.slice e) => match elemKinds P e with
  | some (ks, bytes) => match isSeq P ty with
   | true => match x with
    | .one (.hs k j off len) => match ks, Mem.heap σ k with
     | [.ints k0], some os => if k0 = k then rdy σ ks y fun cy => match cy with
      | [.ints k' src] => if k' = k then Room (nadd len (llen src)) bytes ∧ ∀ os' j' off', AppR os j off len src os' j' off' → K (.one (.hs k j' off' (nadd len (llen src)))) (σ.put (hname k) (.heap k os')) else False
      | _ => False else False
     | _, _ => False
    | x => rdy σ ks y fun cy => takex σ ks x fun cx σ1 => match kdsEq (kdsOf cx) ks && kdsEq (kdsOf cy) ks && likeCols (cx.map (Col.asH σ)) (cy.map (Col.asH σ)) with
     | true => Room (nadd (clen cx) (clen cy)) bytes ∧ newx dst fr σ1 (.vec (catCols (cx.map (Col.asH σ)) (cy.map (Col.asH σ)))) fun n σ' => K (.one (.vec n)) σ'
     | false => False
   | false => False
  | none => False
 | _ => False
where
 isSeq (P : Program) (t : TypeId) : Bool := match P.underlying t with
  | some (.slice _) => true
  | some .string => true
  | _ => false
def copyx (P : Program) (tx : TypeId) (x y : AV) (σ : Mem) (K : AV → Mem → Prop) : Prop :=
 match P.underlying tx with
 | some (.slice e) => match elemKinds P e with
  | some ([.ints k], _) => rdy σ [.ints k] y fun cy => match cy with
   | [.ints k1 src] => if k1 = k then (match x with
    | .one (.vec n) => match Mem.find σ n with
     | some (.vec [.ints k2 l]) => if k2 = k then K (.one (.int .i64 (ofNat (nmin (llen src) (llen l))))) (σ.put n (.vec [.ints k (lput l 0 (lsub src 0 (nmin (llen src) (llen l))))])) else False
     | _ => False
    | .one (.vsl n 1 i len) => match Mem.find σ n with
     | some (.vec [.ints k2 l]) => if k2 = k then K (.one (.int .i64 (ofNat (nmin (llen src) len)))) (σ.put n (.vec [.ints k (lput l i (lsub src 0 (nmin (llen src) len)))])) else False
     | _ => False
    | .one (.sl n base idx len _) => match Mem.find σ n with
     | some (.own T s) => match findSeg s base with
      | some (.ints k2 N l) => if k2 = k then Fits (nadd idx len) N ∧ (match setSeg s base (.ints k N (lput l idx (lsub src 0 (nmin (llen src) len)))) with
       | some s' => K (.one (.int .i64 (ofNat (nmin (llen src) len)))) (σ.put n (.own T s'))
       | none => False) else False
      | _ => False
     | _ => False
    | _ => False) else False
   | _ => False
  | _ => False
 | _ => False
def bytesT (P : Program) (t : TypeId) : Bool := match P.underlying t with
 | some (.slice e) => match P.underlying e with
  | some (.int .u8) => match sizeB P e with
   | some 1 => true
   | _ => false
  | _ => false
 | _ => false
def strT (P : Program) (t : TypeId) : Bool := match P.underlying t with
 | some .string => true
 | _ => false
def textx (P : Program) (s d : TypeId) (x : AV) (dst : Option Tmp) (fr : Fr) (σ : Mem) (K : AV → Mem → Prop) : Prop :=
 match x with
 | .one (.str b) => match strT P s, strT P d, bytesT P d with
  | true, true, _ => K (.one (.str b)) σ
  | true, false, true => newx dst fr σ (.vec [.ints .u8 (bytesIn b)]) fun n σ' => K (.one (.vec n)) σ'
  | _, _, _ => False
 | .one (.int k n) => convx P s d (.one (.int k n)) fun v => K v σ
 | x => match Nat.beq s d with
  | true => match x with
   | .one (.vec n) => match bytesT P s, Mem.find σ n with
    | true, some (.vec [.ints .u8 l]) => InB 0 (llen l) ∧ K (.one (.vec n)) (σ.put n (.rview [.ints .u8 l]))
    | _, _ => False
   | _ => False
  | false => match bytesT P s, strT P d with
   | true, true => rdx σ [.ints .u8] x fun cs => match cs with
    | [.ints .u8 l] => K (.one (.str (bytesOf l))) σ
    | _ => False
   | _, _ => False
def keyKind (P : Program) (t : TypeId) : Option KK :=
 match P.underlying t with
 | some (.int k) => some (.int k)
 | some (.array _ _) => match intArr P t with
  | some (k, n) => some (.arr k n)
  | none => none
 | _ => none
def KK.beq : KK → KK → Bool
 | .int k, .int k' => k == k'
 | .arr k m, .arr k' m' => k == k' && Nat.beq m m'
 | _, _ => false
def keyx (kk : KK) (x : AV) : Option (List Int) :=
 match kk, x with
 | .int k, .one (.int k' n) => if k' = k then some [n] else none
 | .arr k m, .agg [.ints k' m' l] => if k' = k then (if m' = m then some l else none) else none
 | _, _ => none
def mapNil (P : Program) (σ : Mem) (e : TypeId) : Option MVs :=
 match (P.info? e).bind (·.zero) with
 | none => none
 | some z => match P.underlying e with
  | some (.int k) => match acIs (.int k 0) z with
   | true => some (.ints k [])
   | false => none
  | some .string => match acIs (.str ByteArray.empty) z with
   | true => some (.strs [])
   | false => none
  | some (.slice e2) => match acIs (.con (.slice none 0 0)) z, P.underlying e2 with
   | true, some (.int k) => match Mem.heap σ k with
    | some _ => some (.hss k [])
    | none => none
   | _, _ => none
  | _ => none
def MVs.like : MVs → MVs → Bool
 | .ints k _, .ints k' _ => k == k'
 | .strs _, .strs _ => true
 | .hss k _, .hss k' _ => k == k'
 | _, _ => false
def MVs.has (key : List Int) : MVs → Bool
 | .ints _ l => mhas l key
 | .strs l => mhas l key
 | .hss _ l => mhas l key
def MVs.len : MVs → Nat
 | .ints _ l => mlen l
 | .strs l => mlen l
 | .hss _ l => mlen l
def MVs.get (key : List Int) : MVs → AC
 | .ints k l => .int k (mget 0 l key)
 | .strs l => .str (mget ByteArray.empty l key)
 | .hss k l => .hs k (hj (mget hs0 l key)) (ho (mget hs0 l key)) (hl (mget hs0 l key))
def MVs.del (key : List Int) : MVs → MVs
 | .ints k l => .ints k (mdel l key)
 | .strs l => .strs (mdel l key)
 | .hss k l => .hss k (mdel l key)
def MVs.put (key : List Int) (x : AV) : MVs → Option MVs
 | .ints k l => match x with
  | .one (.int k' v) => if k' = k then some (.ints k (mput l key v)) else none
  | _ => none
 | .strs l => match x with
  | .one (.str v) => some (.strs (mput l key v))
  | _ => none
 | .hss k l => match x with
  | .one (.hs k' j o n) => if k' = k then some (.hss k (mput l key ⟨j, o, n⟩)) else none
  | _ => none
def mapAt (P : Program) (σ : Mem) (t : TypeId) (x : AV) (K : Nat → KK → MVs → Prop) : Prop :=
 match x with
 | .one (.map n) => match Mem.find σ n, P.underlying t with
  | some (.map kk m), some (.map kt e) => match keyKind P kt, mapNil P σ e with
   | some kk', some m0 => match KK.beq kk kk' && MVs.like m0 m with
    | true => K n kk m
    | false => False
   | _, _ => False
  | _, _ => False
 | _ => False
def makeMapx (P : Program) (t : TypeId) (dst : Option Tmp) (fr : Fr) (σ : Mem) (K : AV → Mem → Prop) : Prop :=
 match P.underlying t with
 | some (.map kt e) => match keyKind P kt, mapNil P σ e with
  | some kk, some m => newx dst fr σ (.map kk m) fun n σ' => K (.one (.map n)) σ'
  | _, _ => False
 | _ => False
def mapx (P : Program) (o : Op) (dst : Option Tmp) (fr : Fr) (σ : Mem) (K : AV → Mem → Prop) : Prop :=
 match o with
 | .makeMap t none => makeMapx P t dst fr σ K
 | .makeMap t (some r) => match ev fr r with
  | .one (.int _ _) => makeMapx P t dst fr σ K
  | _ => False
 | .lookup t x i ok => mapAt P σ t (ev fr x) fun n kk m => match keyx kk (ev fr i) with
  | some key => match ok with
   | true => K (.tup [.c (m.get key), .c (.bool (m.has key))]) σ
   | false => K (.one (m.get key)) σ
  | none => False
 | .mapUpdate t x i v => mapAt P σ t (ev fr x) fun n kk m => match keyx kk (ev fr i) with
  | some key => match m.put key (ev fr v) with
   | some m' => K (.tup []) (σ.put n (.map kk m'))
   | none => False
  | none => False
 | .mapEntry t x i => mapAt P σ t (ev fr x) fun n kk m => match keyx kk (ev fr i), m with
  | some key, .hss k l => K (.tup [.c (MVs.get key (.hss k l)), .c (.int .i64 (ofNat (mix l key)))]) (σ.put n (.map kk (.hss k (ment hs0 l key))))
  | _, _ => False
 | .entryStore t x s v => match ev fr x, ev fr s, ev fr v with
  | .one (.map n), .one (.int .i64 s), .one (.hs k' j o c) => match Mem.find σ n with
   | some (.map kk (.hss k l)) => if k' = k then InB s (mlen l) ∧ K (.tup []) (σ.put n (.map kk (.hss k (mseti l (nat s) ⟨j, o, c⟩)))) else False
   | _ => False
  | _, _, _ => False
 | .call { callee := .builtin .delete, args, argTypes } => match args.toList, argTypes.toList with
  | [x, i], [t, _] => mapAt P σ t (ev fr x) fun n kk m => match keyx kk (ev fr i) with
   | some key => match m with
    | .hss _ _ => False
    | m => K (.tup []) (σ.put n (.map kk (m.del key)))
   | none => False
  | _, _ => False
 | .call { callee := .builtin .len, args, argTypes } => match args.toList, argTypes.toList with
  | [x], [t] => mapAt P σ t (ev fr x) fun n kk m => K (.one (.int .i64 (ofNat m.len))) σ
  | _, _ => False
 | _ => False
def effx (P : Program) (Γ : Gam) (o : Op) (dst : Option Tmp) (fr : Fr) (σ : Mem) (K : AV → Mem → Prop) : Prop :=
 match o with
 | .alloc T => match zeroSegs P T with
  | some s => newx dst fr σ (.own T s) fun n σ' => K (.one (.ptr n 0 0)) σ'
  | none => False
 | .box T x => match (ev fr x).segs with
  | some s => newx dst fr σ (.own T s) fun n σ' => K (.one (.ptr n 0 0)) σ'
  | none => False
 | .store T a x => match ev fr a with
  | .one (.ptr n base idx) => storex P σ T n base idx (ev fr x) fun σ' => K (.tup []) σ'
  | .one (.vptr n z i b j) => match hssAt σ n b with
   | true => storeS P σ fr T n z i b j (ev fr x) fun σ' => K (.tup []) σ'
   | false => storeV P σ T n z i b j (ev fr x) fun σ' => K (.tup []) σ'
  | .one (.hp k j i) => storeH P σ T k j i (ev fr x) fun σ' => K (.tup []) σ'
  | _ => False
 | .makeSlice t l c => match P.underlying t with
  | some (.slice e) => match elemKinds P e, ev fr l, ev fr c with
   | some (ks, bytes), .one (.int _ a), .one (.int _ b) => Mk a b bytes ∧ newx dst fr σ (.vec (ks.map (Kd.zeroH σ (nat a)))) fun n σ' => K (.one (.vec n)) σ'
   | _, _, _ => False
  | _ => False
 | .buildSlice t len parts => match P.underlying t with
  | some (.slice e) => match elemKinds P e with
   | some (ks, _) => match Nat.ble (len * width ks) 16777216 with
    | true => recsx ks len σ 0 (parts.toList.map fun p => (p.1, ev fr p.2)) (ks.map Kd.nil) fun cs σ1 => newx dst fr σ1 (.vec cs) fun n σ' => K (.one (.vec n)) σ'
    | false => False
   | none => False
  | _ => False
 | .convert s d x => textx P s d (ev fr x) dst fr σ K
 | .call { callee := .builtin .append, args, argTypes } => match args.toList, argTypes.toList with
  | [x, y], [tx, ty] => appendx P tx ty (ev fr x) (ev fr y) dst fr σ K
  | _, _ => False
 | .call { callee := .builtin .copy, args, argTypes } => match args.toList, argTypes.toList with
  | [x, y], [tx, ty] => match appendx.isSeq P ty with
   | true => copyx P tx (ev fr x) (ev fr y) σ K
   | false => False
  | _, _ => False
 | .call { callee := .value f, args, argTypes := _ } => match ev fr f with
  | .one (.con (.func (.func g) first capt)) => match first.toList, capt.toList with
   | [], [] => callx Γ g dst (args.toList.map (ev fr)) fr σ K
   | _, _ => False
  | .one (.clo g n b i) => callx Γ g dst (args.toList.map (ev fr) ++ [.one (.ptr n b i)]) fr σ K
  | _ => False
 | op => mapx P op dst fr σ K
def isEff (P : Program) : Op → Bool
 | .alloc _ | .box _ _ | .store _ _ _ => true
 | .makeSlice _ _ _ | .buildSlice _ _ _ => true
 | .convert s d _ => match Nat.beq s d with
  | true => true
  | false => match P.underlying d with
   | some (.int _) => false
   | _ => true
 | .call { callee := .value _, .. } => true
 | .call { callee := .builtin .append, .. } => true
 | .call { callee := .builtin .copy, .. } => true
 | .makeMap _ _ => true
 | .lookup _ _ _ _ => true
 | .mapUpdate _ _ _ _ => true
 | .mapEntry _ _ _ => true
 | .entryStore _ _ _ _ => true
 | .call { callee := .builtin .delete, .. } => true
 | .call { callee := .builtin .len, argTypes, .. } => match argTypes.toList with
  | [t] => match P.underlying t with
   | some (.map _ _) => true
   | _ => false
  | _ => false
 | _ => false
def pickx (fr : Fr) (c a b : Operand) (K : Fr → AV → Prop) : Prop :=
 match ev fr c with
 | .one (.lit true) => K fr (ev fr a)
 | .one (.lit false) => K fr (ev fr b)
 | .one (.bool t) => match c with
  | .tmp s => (t = true → K (fr.set s (.one (.lit true))) (ev fr a)) ∧ (t = false → K (fr.set s (.one (.lit false))) (ev fr b))
  | _ => False
 | _ => False
def AC.thaw (n : Nat) (k : IntKind) (j len : Nat) : AC → AC
 | .vec m => match Nat.beq m n with | true => .hs k j 0 len | false => .vec m
 | .vsl m z i l => match Nat.beq m n with | true => (match z with | 1 => .hs k j i l | _ => .any) | false => .vsl m z i l
 | .vcl m z i l => match Nat.beq m n with | true => .any | false => .vcl m z i l
 | .vptr m z i b q => match Nat.beq m n with | true => .any | false => .vptr m z i b q
 | .el m c i => match Nat.beq m n with | true => .any | false => .el m c i
 | .esl m c i o l => match Nat.beq m n with | true => .any | false => .esl m c i o l
 | .eptr m c i o => match Nat.beq m n with | true => .any | false => .eptr m c i o
 | .ptr m b i => match Nat.beq m n with | true => .any | false => .ptr m b i
 | .sl m b i l c => match Nat.beq m n with | true => .any | false => .sl m b i l c
 | .clo f m b i => match Nat.beq m n with | true => .any | false => .clo f m b i
 | a => a
def Seg.thaw (n : Nat) (k : IntKind) (j len : Nat) : Seg → Seg
 | .cells cs => .cells (cs.map (AC.thaw n k j len))
 | s => s
def TV.thaw (n : Nat) (k : IntKind) (j len : Nat) : TV → TV
 | .c a => .c (a.thaw n k j len)
 | .g s => .g (s.map (Seg.thaw n k j len))
def AV.thaw (n : Nat) (k : IntKind) (j len : Nat) : AV → AV
 | .one a => .one (a.thaw n k j len)
 | .agg s => .agg (s.map (Seg.thaw n k j len))
 | .tup vs => .tup (vs.map (TV.thaw n k j len))
 | .undef => .undef
def Blk.thaw (n : Nat) (k : IntKind) (j len : Nat) : Blk → Blk
 | .own T s => .own T (s.map (Seg.thaw n k j len))
 | .view s => .view (s.map (Seg.thaw n k j len))
 | b => b
def thaw1 (k : IntKind) (n : Nat) (fr : Fr) (σ : Mem) : Fr × Mem :=
 match Mem.find σ n, Mem.heap σ k, Nat.blt n 200000 with
 | some (.vec [.ints k' l]), some os, true => if k' = k then (fr.map (AV.thaw n k (llen os) (llen l)), Mem.put ((σ.erase n).map fun p => (p.1, p.2.thaw n k (llen os) (llen l))) (hname k) (.heap k (os ++ [l]))) else (fr, σ)
 | _, _, _ => (fr, σ)
def thawAll (k : IntKind) : List Nat → Fr → Mem → Fr × Mem
 | [], fr, σ => (fr, σ)
 | n :: r, fr, σ => match thaw1 k n fr σ with
  | (fr', σ') => thawAll k r fr' σ'
def AC.vecs : AC → List Nat
 | .vec n => [n]
 | .vsl n _ _ _ => [n]
 | _ => []
def AV.vecs : AV → List Nat
 | .one a => a.vecs
 | .agg s => s.flatMap fun g => match g with | .cells cs => cs.flatMap AC.vecs | _ => []
 | _ => []
def rowKind : List Kd → Option IntKind
 | [] => none
 | .rows k :: _ => some k
 | _ :: r => rowKind r
def thawOp (P : Program) (o : Op) (fr : Fr) (σ : Mem) : Fr × Mem :=
 match o with
 | .buildSlice t _ parts => match P.underlying t with
  | some (.slice e) => match elemKinds P e with
   | some (ks, _) => match rowKind ks with
    | some k => match Mem.heap σ k with
     | some _ => thawAll k (parts.toList.flatMap fun p => (ev fr p.2).vecs) fr σ
     | none => (fr, σ)
    | none => (fr, σ)
   | none => (fr, σ)
  | _ => (fr, σ)
 | _ => (fr, σ)
def execx (P : Program) (Γ : Gam) (o : Oper) (fr0 : Fr) (σ0 : Mem) (K : Fr → Mem → Prop) : Prop :=
 match thawOp P o.op fr0 σ0 with
 | (fr, σ) => match o.op with
 | .pick c a b => pickx fr c a b fun fr' v => K (fr'.put o.dst v) σ
 | op => match isEff P op with
  | true => effx P Γ op o.dst fr σ fun v σ' => K (fr.put o.dst v) σ'
  | false => detx P op fr σ fun v => K (fr.put o.dst v) σ
def stepx (P : Program) (Γ : Gam) (ops : List Oper) (o : Oper) (fr : Fr) (σ : Mem) (K : Fr → Mem → Prop) : Prop :=
 match o.guard with
 | none => execx P Γ o fr σ K
 | some (j, want) => match (ops[j]?).bind (·.dst) with
  | some t => match fr.get t with
   | .one (.lit b) => match b == want with
    | true => execx P Γ o fr σ K
    | false => K (fr.put o.dst (.tup [])) σ
   | .one (.bool b) => (b = want → execx P Γ o (fr.set t (.one (.lit want))) σ K) ∧ (b = !want → K ((fr.set t (.one (.lit !want))).put o.dst (.tup [])) σ)
   | .tup [] => K (fr.put o.dst (.tup [])) σ
   | _ => False
  | none => False
def opsx (P : Program) (Γ : Gam) (ops : List Oper) (K : Fr → Mem → Prop) : List Oper → Fr → Mem → Prop
 | [], fr, σ => K fr σ
 | o :: r, fr, σ => stepx P Γ ops o fr σ (opsx P Γ ops K r)
def modOp (Γ : Gam) : Op → Bool
 | .store _ _ _ => true
 | .mapUpdate _ _ _ _ => true
 | .mapEntry _ _ _ => true
 | .entryStore _ _ _ _ => true
 | .call { callee := .builtin .delete, .. } => true
 | .buildSlice _ _ _ => true
 | .convert s d _ => Nat.beq s d
 | .call { callee := .builtin .append, .. } => true
 | .call { callee := .builtin .copy, .. } => true
 | .call { callee := .value (.func g), .. } => match Γ g with
  | some s => s.mods
  | none => true
 | .call { callee := .value _, .. } => true
 | _ => false
def newNames (Γ : Gam) (fr : Fr) (op : Op) (dst : Option Tmp) : List Nat :=
 match dst with
 | none => []
 | some d => match op with
  | .alloc _ => [d]
  | .box _ _ => [d]
  | .makeSlice _ _ _ => [d]
  | .buildSlice _ _ _ => [d]
  | .convert _ _ _ => [d]
  | .makeMap _ _ => [d]
  | .call { callee := .builtin .append, .. } => [d]
  | .call { callee := .value f, .. } => match ev fr f with
   | .one (.con (.func (.func g) _ _)) => match Γ g with
    | some s => (List.range s.news).map fun k => d + 10000 * k
    | none => []
   | .one (.clo g _ _ _) => match Γ g with
    | some s => (List.range s.news).map fun k => d + 10000 * k
    | none => []
   | _ => []
  | _ => []
def rootOf (ops : List Oper) (fr : Fr) : Nat → Operand → Option Nat
 | 0, _ => none
 | d + 1, x => match x with
  | .tmp t => match ops.find? (fun o => o.dst == some t) with
   | some o => match o.op with
    | .indexAddr _ y _ => rootOf ops fr d y
    | .fieldAddr _ y _ => rootOf ops fr d y
    | .nilCheck y => rootOf ops fr d y
    | .move y => rootOf ops fr d y
    | .assign y => rootOf ops fr d y
    | .alloc _ => some t
    | .box _ _ => some t
    | _ => none
   | none => match fr.get t with
    | .one (.ptr n _ _) => some n
    | .one (.sl n _ _ _ _) => some n
    | .one (.vec n) => some n
    | .one (.vsl n _ _ _) => some n
    | .one (.vptr n _ _ _ _) => some n
    | .one (.hs k _ _ _) => some (hname k)
    | .one (.hp k _ _) => some (hname k)
    | _ => none
  | .global g => some (gname g)
  | _ => none
def rootsOf (ops : List Oper) (fr : Fr) : List (Option Nat) := ops.map fun o => match o.op with
 | .store _ x _ => rootOf ops fr 8 x
 | _ => none
def rootOk (fr : Fr) (op : Op) : Option Nat → Bool
 | none => true
 | some r => match op with
  | .store _ x _ => match ev fr x with
   | .one (.ptr n _ _) => n == r
   | .one (.vptr n _ _ _ _) => n == r
   | .one (.hp k _ _) => hname k == r
   | _ => true
  | _ => true
def modAt (Γ : Gam) (ops : Array Oper) (rts : List (Option Nat)) (j m : Nat) : Bool :=
 match ops[j]? with
 | none => false
 | some o => modOp Γ o.op && match o.op with
  | .store _ _ _ => match rts.getD j none with
   | some r => r == m
   | none => true
  | _ => true
def dependsOn (o : Oper) (i : Nat) : Bool := o.after.any fun e => Region.binds .any e && e.on == i
def addrName : AV → Option Nat
 | .one (.ptr n _ _) => some n
 | .one (.vptr n _ _ _ _) => some n
 | .one (.eptr n _ _ _) => some n
 | .one (.hp k _ _) => some (hname k)
 | _ => none
def takeable (P : Program) (Γ : Gam) (ops : Array Oper) (rts : List (Option Nat)) (listed : Array Bool) (fr : Fr) (σ0 : Mem) (i : Nat) : Bool :=
 match ops[i]? with
 | none => false
 | some o => !isEff P o.op && Region.free .any ops listed i &&
  match o.op with
  | .load _ x => match addrName (ev fr x) with
   | some n => (Mem.find σ0 n).isSome && (List.range ops.size).all fun j => match ops[j]? with
    | some oj => !modAt Γ ops rts j n || (!listed.getD j true && dependsOn oj i)
    | none => true
   | none => true
  | _ => true
def allOf (f : Nat → Prop) : List Nat → Prop
 | [] => True
 | [i] => f i
 | i :: r => f i ∧ allOf f r
def drawx (P : Program) (Γ : Gam) (ops : Array Oper) (rts : List (Option Nat)) (σ0 : Mem) (K : Fr → Mem → Prop) : Nat → Array Bool → Fr → Mem → Prop
 | 0, listed, fr, σ => match Region.ready .any ops listed with
  | [] => K fr σ
  | _ => False
 | n + 1, listed, fr, σ =>
  match Region.ready .any ops listed with
  | [] => K fr σ
  | rs =>
   match rs.find? (takeable P Γ ops rts listed fr σ0) with
   | some i => match ops[i]? with
    | some o => stepx P Γ ops.toList o fr σ (drawx P Γ ops rts σ0 K n (listed.setIfInBounds i true))
    | none => False
   | none => allOf (fun i => match ops[i]? with
    | some o => match rootOk fr o.op (rts.getD i none) && (newNames Γ fr o.op o.dst).all fun m => (Mem.find σ0 m).isNone with
     | true => stepx P Γ ops.toList o fr σ (drawx P Γ ops rts σ0 K n (listed.setIfInBounds i true))
     | false => False
    | none => False) rs
def operandTmps (l : List Operand) : List Nat := l.filterMap fun | .tmp t => some t | _ => none
def scanOps : List Oper → List Nat × List Nat → List Nat × List Nat
 | [], s => s
 | o :: r, (read, writ) =>
  let read := (operandTmps o.op.operands.toList).foldl (fun a t => if writ.contains t || a.contains t then a else t :: a) read
  scanOps r (read, match o.dst with | some d => if read.contains d || writ.contains d then writ else d :: writ | none => writ)
def scan : Code → List Nat × List Nat → List Nat × List Nat
 | .region _ ops _, s => scanOps ops.toList s
 | .seq a b, s => scan b (scan a s)
 | .cond c x y, (read, writ) => scan y (scan x ((operandTmps [c]).foldl (fun a t => if writ.contains t || a.contains t then a else t :: a) read, writ))
 | .block _ c, s => scan c s
 | .loop c, s => scan c s
 | _, s => s
def scrubFr (l : List Nat) (fr : Fr) : Fr := l.foldr (fun t fr => Fr.set fr t .undef) fr
def dropMem (l : List Nat) (fr : Fr) (σ : Mem) : Mem :=
 σ.filter fun p => !(l.contains p.1) || frRefs p.1 fr || σ.any (fun q => segsRefs p.1 q.2.segs)
def unread : Code → List Nat → List Nat
 | .region _ ops _, l => ops.toList.foldl (fun l o => (operandTmps o.op.operands.toList).foldl (fun l t => l.erase t) l) l
 | .seq a b, l => unread b (unread a l)
 | .cond c x y, l => unread y (unread x ((operandTmps [c]).foldl (fun l t => l.erase t) l))
 | .block _ c, l => unread c l
 | .loop c, l => unread c l
 | _, l => l
def unreadK : List Item → List Nat → List Nat
 | [], l => l
 | .code c :: k, l => unreadK k (unread c l)
 | .inLoop c :: k, l => unreadK k (unread c l)
 | _ :: k, l => unreadK k l
def scan2 : Code → List Nat × List Nat → List Nat × List Nat
 | .region _ ops _, s => scanOps ops.toList s
 | .seq a b, s => scan2 b (scan2 a s)
 | .cond c x y, (read, writ) =>
  let s := ((operandTmps [c]).foldl (fun a t => if writ.contains t || a.contains t then a else t :: a) read, writ)
  let p := scan2 x s
  let q := scan2 y s
  (p.1 ++ q.1, p.2.filter fun t => q.2.contains t)
 | .block _ c, s => scan2 c s
 | .loop c, s => scan2 c s
 | _, s => s
def headFr (c : Code) (k : List Item) (fr : Fr) : Fr := scrubFr (unreadK (.code c :: k) (List.range fr.length)) (scrubFr (scan c ([], [])).2 fr)
structure Hint where
 slot : Nat
 ks : List Kd
 own : Bool
 ret : Bool := false
abbrev Hints := List Hint
def nameOf (h : Hint) : Nat := 100000 + h.slot
def rdo (σ : Mem) (ks : List Kd) (x : AV) : Option (List Col × Mem) :=
 match x with
 | .one (.vec n) => match Mem.find σ n with
  | some (.vec cs) => some (cs, σ.erase n)
  | some (.rview cs) => some (cs, σ)
  | _ => none
 | .one (.vsl n z i len) => match Mem.find σ n with
  | some (.vec cs) => match Nat.beq z (width (kdsOf cs)) with
   | true => some (cs.map (Col.sub i len), σ.erase n)
   | false => none
  | some (.rview cs) => match Nat.beq z (width (kdsOf cs)) with
   | true => some (cs.map (Col.sub i len), σ)
   | false => none
  | _ => none
 | .one (.vcl n z i len) => match Mem.find σ n with
  | some (.vec cs) => match Nat.beq z (width (kdsOf cs)) with
   | true => some (cs.map (Col.sub i len), σ.erase n)
   | false => none
  | some (.rview cs) => match Nat.beq z (width (kdsOf cs)) with
   | true => some (cs.map (Col.sub i len), σ)
   | false => none
  | _ => none
 | .one (.el n c i) => match Mem.rows σ n c with
  | some (k, ll) => some ([.ints k (llget ll i)], σ)
  | none => none
 | .one (.esl n c i o len) => match Mem.rows σ n c with
  | some (k, ll) => some ([.ints k (lsub (llget ll i) o len)], σ)
  | none => none
 | .one (.sl n base idx len _) => match Mem.find σ n with
  | some (.own _ s) => match findSeg s base with
   | some (.ints k N l) => match Nat.ble (idx + len) N with
    | true => some ([.ints k (lsub l idx len)], σ.erase n)
    | false => none
   | _ => none
  | _ => none
 | .one (.con (.slice none 0 0)) => some (ks.map Kd.nil, σ)
 | _ => none
def rdw (σ : Mem) (ks : List Kd) (x : AV) : Option (List Col × Mem) :=
 match x with
 | .one (.vec n) => match Mem.find σ n with
  | some (.vec cs) => some (cs, σ.erase n)
  | _ => none
 | .one (.vsl n z i len) => match Mem.find σ n with
  | some (.vec cs) => match Nat.beq z (width (kdsOf cs)) with
   | true => some (cs.map (Col.sub i len), σ.erase n)
   | false => none
  | _ => none
 | .one (.vcl n z i len) => match Mem.find σ n with
  | some (.vec cs) => match Nat.beq z (width (kdsOf cs)) with
   | true => some (cs.map (Col.sub i len), σ.erase n)
   | false => none
  | _ => none
 | .one (.sl n base idx len cap) => match Mem.find σ n with
  | some (.own _ s) => match findSeg s base with
   | some (.ints k N l) => match Nat.ble (nadd idx cap) N with
    | true => some ([.ints k (lsub l idx len)], σ.erase n)
    | false => none
   | _ => none
  | _ => none
 | .one (.con (.slice none 0 0)) => some (ks.map Kd.nil, σ)
 | _ => none
def rdoN (name : Nat) (σ : Mem) (ks : List Kd) (x : AV) : Option (List Col × Mem) :=
 match rdo σ ks x with
 | some (cs, σ1) => some (cs, σ1.erase name)
 | none => none
def hintOne0 (h : Hint) (fr : Fr) (σ : Mem) : Fr × Mem :=
 match (match h.own with | true => rdw σ h.ks (fr.get h.slot) | false => rdoN (nameOf h) σ h.ks (fr.get h.slot)) with
 | none => (fr, σ)
 | some (cs, σ1) => match Nat.blt 0 (width h.ks) && kdsEq (kdsOf cs) h.ks && freshB (nameOf h) (fr.set h.slot .undef) σ1 with
  | true => (fr.set h.slot (.one (.vec (nameOf h))), Mem.ins (nameOf h) (match h.own with | true => .vec (cs.map (Col.asH σ)) | false => .rview cs) σ1)
  | false => (fr, σ)
def hintOne (h : Hint) (fr : Fr) (σ : Mem) : Fr × Mem :=
 match h.ks, fr.get h.slot with
 | [], .one (.lit b) => (fr.set h.slot (.one (.bool b)), σ)
 | _, _ => hintOne0 h fr σ
def hintAll : Hints → Fr → Mem → Fr × Mem
 | [], fr, σ => (fr, σ)
 | h :: r, fr, σ => match hintOne h fr σ with
  | (fr', σ') => hintAll r fr' σ'
def staleAV (σ : Mem) : AV → Bool
 | .one a => match a with
  | .vec n => (Mem.find σ n).isNone
  | .vsl n _ _ _ => (Mem.find σ n).isNone
  | .vcl n _ _ _ => (Mem.find σ n).isNone
  | .vptr n _ _ _ _ => (Mem.find σ n).isNone
  | .el n _ _ => (Mem.find σ n).isNone
  | .esl n _ _ _ _ => (Mem.find σ n).isNone
  | .eptr n _ _ _ => (Mem.find σ n).isNone
  | .sl n _ _ _ _ => (Mem.find σ n).isNone
  | .ptr n _ _ => (Mem.find σ n).isNone && Nat.blt n 200000
  | _ => false
 | _ => false
def fresher (σ : Mem) (fr : Fr) : Fr := fr.map fun x => match staleAV σ x with | true => .undef | false => x
def liveK : List Item → List Nat
 | [] => []
 | .code c :: k => (scan2 c ([], [])).1 ++ liveK k
 | .inLoop c :: k => (scan2 c ([], [])).1 ++ liveK k
 | _ :: k => liveK k
def careful (D : Hints) : Bool := D.any fun h => Nat.beq h.slot 777776
def headFrD (D : Hints) (c : Code) (k : List Item) (fr : Fr) : Fr := match careful D with
 | true => scrubFr ((List.range fr.length).filter fun t => !(liveK (.code c :: k)).contains t) fr
 | false => headFr c k fr
def headMemD (D : Hints) (c : Code) (k : List Item) (fr : Fr) (σ : Mem) : Mem := dropMem ((σ.map (·.1)).filter fun n => Nat.blt n 200000) (headFrD D c k fr) σ
def headSt (D : Hints) (c : Code) (k : List Item) (fr : Fr) (σ : Mem) : Fr × Mem :=
 match hintAll (D.filter fun h => !h.ret) (fresher (headMemD D c k fr σ) (headFrD D c k fr)) (headMemD D c k fr σ) with
 | (fr', σ') => (fresher σ' fr', dropMem ((σ'.map (·.1)).filter fun n => Nat.blt n 200000) (fresher σ' fr') σ')
def joins (D : Hints) : Bool := D.any fun h => Nat.beq h.slot 777777
def joinFr (D : Hints) (c : Code) (k : List Item) (fr : Fr) : Fr := match joins D with
 | true => scrubFr (unreadK (.code c :: k) (List.range fr.length)) fr
 | false => fr
def joinMem (D : Hints) (c : Code) (k : List Item) (fr : Fr) (σ : Mem) : Mem := match joins D with
 | true => dropMem ((σ.map (·.1)).filter fun n => Nat.blt n 200000) (joinFr D c k fr) σ
 | false => σ
def itemx (P : Program) (Γ : Gam) (D : Hints) (R : Fr → Mem → Prop) (lp ih : List Item → Fr → Mem → Prop) : List Item → Fr → Mem → Prop
 | [], fr, σ => R fr σ
 | .code c :: k, fr, σ => match c with
  | .skip => ih k fr σ
  | .region _ ops false => opsx P Γ ops.toList (fun fr σ => ih k fr σ) ops.toList fr σ
  | .region _ ops true => match Region.noSelect ops with
   | true => drawx P Γ ops (rootsOf ops.toList fr) σ (fun fr σ => ih k fr σ) ops.size (Array.replicate ops.size false) fr σ
   | false => False
  | .seq a b => ih (.code a :: .code b :: k) fr σ
  | .cond t x y => match ev fr t with
   | .one (.lit true) => ih (.code x :: k) (joinFr D x k fr) (joinMem D x k fr σ)
   | .one (.lit false) => ih (.code y :: k) (joinFr D y k fr) (joinMem D y k fr σ)
   | .one (.bool b) => match t with
    | .tmp s => (b = true → ih (.code x :: k) (joinFr D x k (fr.set s (.one (.lit true)))) (joinMem D x k (fr.set s (.one (.lit true))) σ)) ∧ (b = false → ih (.code y :: k) (joinFr D y k (fr.set s (.one (.lit false)))) (joinMem D y k (fr.set s (.one (.lit false))) σ))
    | _ => False
   | _ => False
  | .block id c => ih (.code c :: .inBlock id :: k) fr σ
  | .loop c => lp (.code c :: .inLoop c :: k) (headSt D c k fr σ).1 (headSt D c k fr σ).2
  | .exit id => match exitTo id k with
   | some k' => ih k' fr σ
   | none => False
  | .ret => R fr σ
  | _ => False
 | .inBlock _ :: k, fr, σ => ih k fr σ
 | .inLoop c :: k, fr, σ => lp (.code c :: .inLoop c :: k) (headSt D c k fr σ).1 (headSt D c k fr σ).2
 | _, _, _ => False
def runM (P : Program) (Γ : Gam) (D : Hints) (R : Fr → Mem → Prop) (lp : List Item → Fr → Mem → Prop) : Nat → List Item → Fr → Mem → Prop :=
 fun m => Nat.rec (fun _ _ _ => False) (fun _ ih => itemx P Γ D R lp ih) m
theorem runM_zero (P : Program) (Γ : Gam) (D : Hints) (R : Fr → Mem → Prop) (lp : List Item → Fr → Mem → Prop) : runM P Γ D R lp 0 = fun _ _ _ => False := rfl
theorem runM_succ (P : Program) (Γ : Gam) (D : Hints) (R : Fr → Mem → Prop) (lp : List Item → Fr → Mem → Prop) (m : Nat) : runM P Γ D R lp (m + 1) = itemx P Γ D R lp (runM P Γ D R lp m) := rfl
def run (P : Program) (Γ : Gam) (D : Hints) (R : Fr → Mem → Prop) : Nat → List Item → Fr → Mem → Prop :=
 fun n => Nat.rec (fun _ _ _ => False) (fun _ ih => runM P Γ D R ih 4000) n
theorem run_zero (P : Program) (Γ : Gam) (D : Hints) (R : Fr → Mem → Prop) : run P Γ D R 0 = fun _ _ _ => False := rfl
theorem run_succ (P : Program) (Γ : Gam) (D : Hints) (R : Fr → Mem → Prop) (n : Nat) : run P Γ D R (n + 1) = runM P Γ D R (run P Γ D R n) 4000 := rfl
def resOne (P : Program) (fr : Fr) (σ : Mem) (r : ResultVar) (K : TV → Prop) : Prop :=
 match r with
 | .tmp t => match fr.get t with
  | .one a => K (.c a)
  | .agg s => K (.g s)
  | _ => False
 | .cell t T => match fr.get t with
  | .one (.ptr n b i) => loadx P σ T n b i fun v => match v with
   | .one a => K (.c a)
   | .agg s => K (.g s)
   | _ => False
  | _ => False
def resAll (P : Program) (fr : Fr) (σ : Mem) : List ResultVar → (List TV → Prop) → Prop
 | [], K => K []
 | r :: rs, K => resOne P fr σ r fun v => resAll P fr σ rs fun vs => K (v :: vs)
def resx (P : Program) (rs : List ResultVar) (R : AV → Mem → Prop) (fr : Fr) (σ : Mem) : Prop :=
 resAll P fr σ rs fun vs => match vs with
  | [v] => R v.av σ
  | vs => R (.tup vs) σ
def resh (P : Program) (D : Hints) (rs : List ResultVar) (R : AV → Mem → Prop) (fr : Fr) (σ : Mem) : Prop :=
 match hintAll (D.filter fun h => h.ret) fr σ with
 | (fr', σ') => resx P rs R fr' σ'
def cAt : Code → List Nat → Code
 | c, [] => c
 | .seq a b, i :: p => match i with
  | 0 => cAt a p
  | _ => cAt b p
 | .cond _ x y, i :: p => match i with
  | 0 => cAt x p
  | _ => cAt y p
 | .block _ c, _ :: p => cAt c p
 | .loop c, _ :: p => cAt c p
 | c, _ => c
def startFr (n : Nat) (args : List AV) : Fr := args ++ List.replicate (n - args.length) (.tup [])
def bodyOf (f : Func) : Code := match f.body with | some c => c | none => .skip
abbrev Uu : AV := AV.undef
abbrev Zz : AV := AV.tup []
abbrev Ii (i : Int) : AV := AV.one (AC.int IntKind.i64 i)
abbrev Vv (n : Nat) : AV := AV.one (AC.vec n)
abbrev Bb (b : Bool) : AV := AV.one (AC.bool b)
abbrev Ll (b : Bool) : AV := AV.one (AC.lit b)
abbrev rM (p : Program) (g : Gam) (h : Hints) (f : Func) (R : AV → Mem → Prop) (fuel m : Nat) := runM p g h (resh p h f.results.toList R) (run p g h (resh p h f.results.toList R) fuel) m
def us : Nat → Fr → Fr | 0, l => l | n + 1, l => Uu :: us n l
def zs : Nat → Fr → Fr | 0, l => l | n + 1, l => Zz :: zs n l
def kc (f : Func) (l : List Nat) : Item := .code (cAt (bodyOf f) l)
def ki (f : Func) (l : List Nat) : Item := .inLoop (cAt (bodyOf f) l)
abbrev rN (p : Program) (g : Gam) (h : Hints) (f : Func) (R : AV → Mem → Prop) (fuel : Nat) := run p g h (resh p h f.results.toList R) fuel
def callsx (P : Program) (Γ : Gam) (D : Hints) (f : Func) (n : Nat) (args : List AV) (σ : Mem) (R : AV → Mem → Prop) : Prop :=
 run P Γ D (resh P D f.results.toList R) n [.code (bodyOf f)] (startFr f.ntmps args) σ
structure Has (p : Prop) : Prop where
 out : p
structure Elt where
 a : Option Addr
 len : Nat
 cap : Nat
structure Loc where
 b : Nat
 o : Nat
 a : Option Addr
 len : Nat
 cap : Nat
 el : Nat → Nat → Elt
abbrev Rho := Nat → Loc
def Elt.loc (e : Elt) : Loc := match e.a with
 | some a => ⟨a.block, a.off, e.a, e.len, e.cap, fun _ _ => ⟨none, 0, 0⟩⟩
 | none => ⟨0, 0, none, e.len, e.cap, fun _ _ => ⟨none, 0, 0⟩⟩
def Loc.n (L : Loc) : Nat := (L.el 1 0).len
structure HExt (L M : Loc) : Prop where
 b : M.b = L.b
 o : M.o = L.o
 a : M.a = L.a
 len : M.len = L.len
 cap : M.cap = L.cap
 inn : ∀ c i, i < L.len → M.el c i = L.el c i
 n : L.n ≤ M.n
 el : ∀ j, j < L.n → (M.el 0 j).a = (L.el 0 j).a ∧ (M.el 0 j).cap = (L.el 0 j).cap ∧ (L.el 0 j).len ≤ (M.el 0 j).len
theorem HExt.refl (L : Loc) : HExt L L := ⟨rfl, rfl, rfl, rfl, rfl, fun _ _ _ => rfl, Nat.le_refl _, fun _ _ => ⟨rfl, rfl, Nat.le_refl _⟩⟩
theorem HExt.of_eq {L M : Loc} (h : M = L) : HExt L M := h ▸ .refl _
theorem HExt.trans {L M N : Loc} (h : HExt L M) (g : HExt M N) : HExt L N :=
 ⟨g.b.trans h.b, g.o.trans h.o, g.a.trans h.a, g.len.trans h.len, g.cap.trans h.cap, fun c i hi => (g.inn c i (by rw [h.len]; exact hi)).trans (h.inn c i hi), Nat.le_trans h.n g.n, fun j hj => by
  obtain ⟨a1, a2, a3⟩ := h.el j hj
  obtain ⟨b1, b2, b3⟩ := g.el j (Nat.lt_of_lt_of_le hj h.n)
  exact ⟨b1.trans a1, b2.trans a2, Nat.le_trans a3 b3⟩⟩
def at_ (ρ : Rho) (n i : Nat) : Addr := ⟨(ρ n).1, (ρ n).2 + i, none⟩
def Loc.at (L : Loc) (i : Nat) : Addr := ⟨L.1, L.2 + i, none⟩
def loc0 : Loc := ⟨0, 0, none, 0, 0, fun _ _ => ⟨none, 0, 0⟩⟩
def CRep (ρ : Rho) : AC → Value → Prop
 | .int k n, v => v = .int k n
 | .lit b, v => v = .bool b
 | .bool b, v => v = .bool b
 | .str s, v => v = .string s
 | .ptr n base idx, v => v = .pointer (some (at_ ρ n (base + idx)))
 | .sl n base idx len cap, v => len ≤ cap ∧ (v = .slice (some (at_ ρ n (base + idx))) len cap ∨ (len = 0 ∧ cap = 0 ∧ ∃ a, v = .slice a 0 0))
 | .con c, v => v = c ∧ c.oneCell' = true
 | .clo f n base idx, v => v = .func (.func f) #[] #[.pointer (some (at_ ρ n (base + idx)))]
 | .any, v => v.oneCell' = true
 | .vec n, v => v = .slice (ρ n).a (ρ n).len (ρ n).cap
 | .vsl n z i len, v => ∃ A cap, v = .slice A len cap ∧ len ≤ cap ∧ i + len ≤ (ρ n).len ∧ (cap = 0 ∨ (i + cap ≤ (ρ n).cap ∧ A = (ρ n).a.map (·.add (i * z)))) ∧ ((ρ n).len ≠ 0 → (ρ n).a = some ((ρ n).at 0)) ∧ i + cap = (ρ n).cap
 | .vcl n z i len, v => ∃ A cap, v = .slice A len cap ∧ len ≤ cap ∧ i + len ≤ (ρ n).len ∧ (cap = 0 ∨ (i + cap ≤ (ρ n).cap ∧ A = (ρ n).a.map (·.add (i * z)))) ∧ ((ρ n).len ≠ 0 → (ρ n).a = some ((ρ n).at 0))
 | .vptr n z i b j, v => v = .pointer (some (at_ ρ n (i * z + b + j))) ∧ i < (ρ n).len
 | .el n c i, v => v = .slice ((ρ n).el c i).a ((ρ n).el c i).len ((ρ n).el c i).cap ∧ i < (ρ n).len
 | .esl n c i o len, v => ∃ A cap, v = .slice A len cap ∧ len ≤ cap ∧ o + len ≤ ((ρ n).el c i).len ∧ i < (ρ n).len ∧ (cap = 0 ∨ A = ((ρ n).el c i).a.map (·.add o)) ∧ (((ρ n).el c i).len ≠ 0 → ∃ a, ((ρ n).el c i).a = some a)
 | .eptr n c i o, v => ∃ a, ((ρ n).el c i).a = some a ∧ v = .pointer (some (a.add o)) ∧ o < ((ρ n).el c i).len ∧ i < (ρ n).len
 | .hs k j off len, v => ∃ A cap, v = .slice A len cap ∧ len ≤ cap ∧ off + len ≤ ((ρ (hname k)).el 0 j).len ∧ j < (ρ (hname k)).n ∧ (cap = 0 ∨ A = ((ρ (hname k)).el 0 j).a.map (·.add off)) ∧ off + cap = ((ρ (hname k)).el 0 j).cap ∧ (((ρ (hname k)).el 0 j).cap ≠ 0 → ∃ a, ((ρ (hname k)).el 0 j).a = some a)
 | .hp k j i, v => ∃ a, ((ρ (hname k)).el 0 j).a = some a ∧ v = .pointer (some (a.add i)) ∧ i < ((ρ (hname k)).el 0 j).len ∧ j < (ρ (hname k)).n
 | .map n, v => v = .map (some (ρ n).1)
def KeyV (kk : KK) (l : List Int) (v : Value) : Prop :=
 match kk with
 | .int k => ∃ n, l = [n] ∧ v = .int k n
 | .arr k m => l.length = m ∧ v = .agg (l.map (Value.int k)).toArray
structure EntL {α : Type} (kk : KK) (vv : α → Value → Prop) (l : List (List Int × α)) (es : List MapEntry) : Prop where
 len : l.length = es.length
 at_ : ∀ (i : Nat) p e, l[i]? = some p → es[i]? = some e → KeyV kk p.1 e.key ∧ vv p.2 e.val
def MRep (ρ : Rho) (kk : KK) (m : MVs) (es : List MapEntry) : Prop :=
 match m with
 | .ints k l => EntL kk (fun x v => v = .int k x) l es
 | .strs l => EntL kk (fun x v => v = .string x) l es
 | .hss k l => EntL kk (fun d v => CRep ρ (.hs k d.j d.off d.len) v) l es
def Dense (m : MVs) (es : List MapEntry) (clock : Nat) : Prop :=
 match m with
 | .hss _ _ => clock = es.length ∧ ∀ (i : Nat) e, es[i]? = some e → e.born = i
 | _ => True
theorem MRep.mono {ρ ρ' : Rho} {kk : KK} {m : MVs} {es : List MapEntry} (h : MRep ρ kk m es) (hr : ∀ {k : IntKind} {j o n : Nat} {v : Value}, CRep ρ (.hs k j o n) v → CRep ρ' (.hs k j o n) v) : MRep ρ' kk m es := by
 cases m with
 | ints k l => exact h
 | strs l => exact h
 | hss k l => exact ⟨h.len, fun i p e hp he => ⟨(h.at_ i p e hp he).1, hr (h.at_ i p e hp he).2⟩⟩
theorem CRep.one {ρ : Rho} {a : AC} {v : Value} (h : CRep ρ a v) : v.oneCell' = true := by
 cases a <;> simp only [CRep] at h
 case sl => rcases h with ⟨_, rfl | ⟨_, _, a, rfl⟩⟩ <;> rfl
 case con => obtain ⟨rfl, h⟩ := h; exact h
 case any => exact h
 case vsl => obtain ⟨_, _, rfl, _⟩ := h; rfl
 case vcl => obtain ⟨_, _, rfl, _⟩ := h; rfl
 case esl => obtain ⟨_, _, rfl, _⟩ := h; rfl
 case vptr => obtain ⟨rfl, _⟩ := h; rfl
 case el => obtain ⟨rfl, _⟩ := h; rfl
 case eptr => obtain ⟨_, _, rfl, _⟩ := h; rfl
 case hs => obtain ⟨_, _, rfl, _⟩ := h; rfl
 case hp => obtain ⟨_, _, rfl, _⟩ := h; rfl
 all_goals (subst h; rfl)
def FRep (ρ : Rho) (l : List AC) (cs : List Value) : Prop :=
 l.length = cs.length ∧ ∀ (j : Nat) a v, l[j]? = some a → cs[j]? = some v → CRep ρ a v
def TRep (ρ : Rho) : TV → Value → Prop
 | .c a, v => CRep ρ a v
 | .g s, v => segsOk s ∧ ∃ cs : List Value, v = .agg cs.toArray ∧ FRep ρ (flat s) cs
def SRep (ρ : Rho) : AV → Value → Prop
 | .one a, v => CRep ρ a v
 | .agg s, v => segsOk s ∧ ∃ cs : List Value, v = .agg cs.toArray ∧ FRep ρ (flat s) cs
 | .tup vs, v => ∃ us : List Value, v = .tuple us.toArray ∧ vs.length = us.length ∧ ∀ (j : Nat) a u, vs[j]? = some a → us[j]? = some u → TRep ρ a u
 | .undef, _ => True
def FrRep (ρ : Rho) (fr : Fr) (tmps : Array Value) : Prop :=
 fr.length = tmps.size ∧ ∀ (t : Nat) v, tmps[t]? = some v → SRep ρ (fr.get t) v
def CellsAt (ρ : Rho) (w : World) (n : Nat) (l : List AC) : Prop :=
 ∀ (j : Nat) a, l[j]? = some a → ∃ v, w.cell? (at_ ρ n j) = some v ∧ CRep ρ a v
def EltRep (w : World) (e : Elt) (k : IntKind) (l : List Int) : Prop :=
 e.len = l.length ∧ e.len ≤ e.cap ∧ (l ≠ [] → ∃ a, e.a = some a) ∧ ∀ (j : Nat) x, l[j]? = some x → ∀ a, e.a = some a → w.cell? (a.add j) = some (.int k x)
def colVal (L : Loc) (c : Nat) (col : Col) (i j : Nat) : Value :=
 match col with
 | .ints k l => .int k (lget l i)
 | .bools l => .bool (lgetb l i)
 | .arrs k _ l => .int k (lget (llget l i) j)
 | .rows _ _ => .slice (L.el c i).a (L.el c i).len (L.el c i).cap
 | .strs l => .string (sgets l i)
 | .hss _ _ => .slice (L.el c i).a (L.el c i).len (L.el c i).cap
def rowVal (L : Loc) : List Col → Nat → Nat → Nat → Value
 | [], _, _, _ => undef
 | col :: cs, c, i, t => if t < col.kd.width then colVal L c col i t else rowVal L cs (c + 1) i (t - col.kd.width)
def Col.ok (N : Nat) : Col → Prop
 | .ints _ l => l.length = N
 | .bools l => l.length = N
 | .arrs _ m l => l.length = N ∧ ∀ x ∈ l, x.length = m
 | .rows _ l => l.length = N
 | .strs l => l.length = N
 | .hss _ l => l.length = N
def cwidth (cs : List Col) : Nat := width (kdsOf cs)
structure VRep (w : World) (L : Loc) (cs : List Col) : Prop where
 ne : cs ≠ []
 wid : 0 < cwidth cs
 ok : ∀ col ∈ cs, col.ok L.len
 cap : L.len ≤ L.cap
 adr : L.len ≠ 0 → L.a = some (L.at 0)
 cells : ∀ i, i < L.len → ∀ t, t < cwidth cs → w.cell? (L.at (i * cwidth cs + t)) = some (rowVal L cs 0 i t)
 inner : ∀ c k ll, cs[c]? = some (.rows k ll) → ∀ i l, ll[i]? = some l → EltRep w (L.el c i) k l
def Writable (w : World) (L : Loc) (z : Nat) : Prop :=
 L.cap ≠ 0 → L.a = some (L.at 0) ∧ ∃ (c : Array Value) (T : TypeId) (fz : Nat × Nat), w.heap[L.1]? = some (.cells c T fz) ∧ L.2 + L.cap * z ≤ c.size ∧ ∀ j, j < c.size → ¬ (fz.1 ≤ j ∧ j < fz.2)
def Inner (L : Loc) (cs : List Col) (k : Nat) : Prop := ∃ c kk ll i l a, cs[c]? = some (.rows kk ll) ∧ ll[i]? = some l ∧ l ≠ [] ∧ (L.el c i).a = some a ∧ k = a.block
def FootL (L : Loc) (cs : List Col) (k : Nat) : Prop := (L.len ≠ 0 ∧ k = L.1) ∨ Inner L cs k
def Lnk (ρ : Rho) (L : Loc) (cs : List Col) : Prop := ∀ c k l, cs[c]? = some (.hss k l) → ∀ i d, l[i]? = some d → CRep ρ (.hs k d.j d.off d.len) (.slice (L.el c i).a (L.el c i).len (L.el c i).cap)
structure HeapRep (w : World) (L : Loc) (k : IntKind) (os : List (List Int)) : Prop where
 len0 : L.len = 0
 n : L.n = os.length
 pos : 0 < os.length
 zero : (L.el 0 0).cap = 0
 obj : ∀ j l, os[j]? = some l → VRep w (L.el 0 j).loc [.ints k l] ∧ Writable w (L.el 0 j).loc 1
 apart : ∀ i j, i < os.length → j < os.length → i ≠ j → (L.el 0 i).cap ≠ 0 → (L.el 0 j).cap ≠ 0 → (L.el 0 i).loc.1 ≠ (L.el 0 j).loc.1
def HFoot (L : Loc) (x : Nat) : Prop := ∃ j, j < L.n ∧ (L.el 0 j).cap ≠ 0 ∧ x = (L.el 0 j).loc.1
def BlkRep (ρ : Rho) (w : World) (n : Nat) : Blk → Prop
 | .own T s => segsOk s ∧ (ρ n).2 = 0 ∧ ∃ (c : List Value) (fz : Nat × Nat), w.heap[(ρ n).1]? = some (.cells c.toArray T fz) ∧ FRep ρ (flat s) c ∧ ∀ j, j < c.length → ¬ (fz.1 ≤ j ∧ j < fz.2)
 | .view s => segsOk s ∧ CellsAt ρ w n (flat s)
 | .vec cs => VRep w (ρ n) cs ∧ Writable w (ρ n) (cwidth cs) ∧ Lnk ρ (ρ n) cs
 | .rview cs => VRep w (ρ n) cs ∧ Lnk ρ (ρ n) cs
 | .heap k os => isHeap n = true ∧ HeapRep w (ρ n) k os
 | .map kk m => ∃ es clock, w.heap[(ρ n).1]? = some (.map es clock) ∧ MRep ρ kk m es.toList ∧ Dense m es.toList clock
def Foot (ρ : Rho) (n : Nat) : Blk → Nat → Prop
 | .own _ _, k => k = (ρ n).1
 | .view s, k => flat s ≠ [] ∧ k = (ρ n).1
 | .vec cs, k => ((ρ n).cap ≠ 0 ∧ k = (ρ n).1) ∨ Inner (ρ n) cs k
 | .rview cs, k => FootL (ρ n) cs k
 | .heap _ _, k => HFoot (ρ n) k
 | .map _ _, k => k = (ρ n).1
def Out (ρ : Rho) (n : Nat) : Blk → Nat → Prop
 | .own _ _, k => k = (ρ n).1
 | .vec _, k => (ρ n).cap ≠ 0 ∧ k = (ρ n).1
 | .heap _ _, k => HFoot (ρ n) k
 | .map _ _, k => k = (ρ n).1
 | _, _ => False
def Inn (ρ : Rho) (n : Nat) : Blk → Nat → Prop
 | .vec cs, k => Inner (ρ n) cs k
 | .rview cs, k => Inner (ρ n) cs k
 | _, _ => False
def Glob (ρ : Rho) : Prop := ∀ g, (ρ (gname g)).1 = g ∧ (ρ (gname g)).2 = 0
def MemRep (ρ : Rho) (σ : Mem) (w : World) : Prop := ∀ n b, Mem.find σ n = some b → BlkRep ρ w n b
theorem Fr.get_set : ∀ (fr : Fr) (t u : Nat) (v : AV), Fr.get (Fr.set fr t v) u = if t = u ∧ t < fr.length then v else Fr.get fr u
 | [], t, u, v => by simp [Fr.set, Fr.get]
 | x :: r, 0, 0, v => by simp [Fr.set, Fr.get]
 | x :: r, 0, u + 1, v => by simp [Fr.set, Fr.get]
 | x :: r, t + 1, 0, v => by simp [Fr.set, Fr.get]
 | x :: r, t + 1, u + 1, v => by simp [Fr.set, Fr.get, Fr.get_set r t u v]
theorem Fr.length_set : ∀ (fr : Fr) (t : Nat) (v : AV), (Fr.set fr t v).length = fr.length
 | [], _, _ => rfl
 | _ :: _, 0, _ => rfl
 | _ :: r, t + 1, v => by simp [Fr.set, Fr.length_set r t v]
theorem Fr.get_out : ∀ (fr : Fr) (t : Nat), fr.length ≤ t → Fr.get fr t = .undef
 | [], _, _ => rfl
 | _ :: r, 0, h => by simp at h
 | _ :: r, t + 1, h => Fr.get_out r t (by simpa using h)
theorem FrRep.put {ρ : Rho} {fr : Fr} {a : Act} (h : FrRep ρ fr a.tmps) {dst : Option Tmp} {x : AV} {v : Value} (hx : SRep ρ x v) : FrRep ρ (fr.put dst x) (a.put dst v).tmps := by
 cases dst with
 | none => exact h
 | some d =>
  refine ⟨by simp [Fr.put, Act.put, Fr.length_set, h.1], fun t u hu => ?_⟩
  simp only [Fr.put, Act.put, Fr.get_set] at hu ⊢
  by_cases hd : d = t
  ·subst hd
   by_cases hl : d < fr.length
   ·rw [if_pos ⟨rfl, hl⟩]
    rw [Array.getElem?_setIfInBounds, if_pos rfl, if_pos (by rw [← h.1]; exact hl)] at hu
    cases hu; exact hx
   ·rw [if_neg (by simp [hl]), Fr.get_out _ _ (by simpa using hl)]; trivial
  ·rw [if_neg (by simp [hd])]
   rw [Array.getElem?_setIfInBounds, if_neg hd] at hu
   exact h.2 t u hu
theorem FrRep.same {ρ : Rho} {fr : Fr} {tmps : Array Value} (h : FrRep ρ fr tmps) {s : Nat} {x : AV} (hx : ∀ v, tmps[s]? = some v → SRep ρ x v) : FrRep ρ (Fr.set fr s x) tmps := by
 refine ⟨by simp [Fr.length_set, h.1], fun t u hu => ?_⟩
 rw [Fr.get_set]
 split
 ·rename_i hc; obtain ⟨rfl, _⟩ := hc; exact hx u hu
 ·exact h.2 t u hu
theorem SRep.ofConst (ρ : Rho) (v : Value) : SRep ρ (AV.ofConst v) v := by
 cases v
 case agg cs =>
  simp only [AV.ofConst]
  split
  ·rename_i h
   refine ⟨⟨trivial, trivial⟩, cs.toList, by simp, by simp [flat, Seg.flat, cellsOf], ?_⟩
   intro j a v h1 h2
   simp only [flat, Seg.flat, List.append_nil, cellsOf, List.getElem?_map, h2, Option.map_some, Option.some.injEq] at h1
   subst h1
   have ho : v.oneCell' = true := List.all_eq_true.1 h v (List.mem_of_getElem? h2)
   cases v <;> simp_all [AC.ofConst, CRep, Value.oneCell']
  ·trivial
 all_goals simp [AV.ofConst, SRep, AC.ofConst, CRep, Value.oneCell']
theorem ev_sound {ρ : Rho} {fr : Fr} {a : Act} (hg : Glob ρ) (h : FrRep ρ fr a.tmps) (x : Operand) : SRep ρ (ev fr x) (a.eval x) := by
 cases x with
 | tmp t =>
  simp only [ev, Act.eval]
  by_cases ht : t < a.tmps.size
  ·have : a.tmps[t]? = some (a.tmps.getD t undef) := by simp [ht]
   exact h.2 t _ this
  ·rw [Fr.get_out fr t (Nat.le_trans (Nat.le_of_eq h.1) (Nat.le_of_not_lt ht))]; trivial
 | const v => exact SRep.ofConst ρ v
 | global g => simp [ev, Act.eval, SRep, CRep, at_, (hg g).1, (hg g).2]
 | func f => simp [ev, Act.eval, SRep, CRep, Value.oneCell']
theorem Seg.flat_length {s : Seg} (h : s.ok) : s.flat.length = s.len := by
 cases s <;> simp_all [Seg.flat, Seg.len, Seg.ok]
theorem flat_length : ∀ {s : List Seg}, segsOk s → (flat s).length = slen s
 | [], _ => rfl
 | s :: r, h => by simp [flat, slen, Seg.flat_length h.1, flat_length h.2]
theorem findSeg_flat : ∀ {s : List Seg} {b : Nat} {x : Seg}, segsOk s → findSeg s b = some x → x.ok ∧ ∀ i a, x.flat[i]? = some a → (flat s)[b + i]? = some a
 | [], _, _, _, h => by simp [findSeg] at h
 | s :: r, 0, x, ho, h => by
  simp only [findSeg, Option.some.injEq] at h
  subst h
  refine ⟨ho.1, fun i a hi => ?_⟩
  have hl : i < s.flat.length := (List.getElem?_eq_some_iff.1 hi).1
  simp only [flat, Nat.zero_add]
  rw [List.getElem?_append_left hl]; exact hi
 | s :: r, b + 1, x, ho, h => by
  simp only [findSeg] at h
  split at h
  ·rename_i hle
   obtain ⟨h1, h2⟩ := findSeg_flat ho.2 h
   refine ⟨h1, fun i a hi => ?_⟩
   have hf := Seg.flat_length ho.1
   simp only [flat]
   rw [List.getElem?_append_right (by omega)]
   have := h2 i a hi
   rw [show b + 1 + i - s.flat.length = b + 1 - s.len + i by omega]; exact this
  ·cases h
theorem findSeg_len : ∀ {s : List Seg} {b : Nat} {x : Seg}, findSeg s b = some x → b + x.len ≤ slen s
 | [], _, _, h => by simp [findSeg] at h
 | s :: r, 0, x, h => by simp only [findSeg, Option.some.injEq] at h; subst h; simp [slen]
 | s :: r, b + 1, x, h => by
  simp only [findSeg] at h
  split at h
  ·have := findSeg_len h; simp only [slen]; omega
  ·cases h
theorem cell_block {w w' : World} {a : Addr} (h : w'.heap[a.block]? = w.heap[a.block]?) : w'.cell? a = w.cell? a := by simp [World.cell?, h]
theorem BlkRep.cells {ρ : Rho} {w : World} {n : Nat} {b : Blk} (h : BlkRep ρ w n b) : segsOk b.segs ∧ CellsAt ρ w n (flat b.segs) := by
 cases b with
 | own T s =>
  obtain ⟨ho, hz, c, fz, hh, hf, _⟩ := h
  refine ⟨ho, fun j a hj => ?_⟩
  have hl : j < c.length := by rw [← hf.1]; exact (List.getElem?_eq_some_iff.1 hj).1
  refine ⟨c[j], ?_, hf.2 j a _ hj (List.getElem?_eq_getElem hl)⟩
  simp [World.cell?, at_, hz, hh, hl]
 | view s => exact h
 | vec cs => exact ⟨trivial, fun j a hj => by simp [Blk.segs, flat] at hj⟩
 | rview cs => exact ⟨trivial, fun j a hj => by simp [Blk.segs, flat] at hj⟩
 | heap k os => exact ⟨trivial, fun j a hj => by simp [Blk.segs, flat] at hj⟩
 | map kk m => exact ⟨trivial, fun j a hj => by simp [Blk.segs, flat] at hj⟩
theorem onex_sound {s : List Seg} {base idx : Nat} {K : AV → Prop} (h : onex s base idx K) (ho : segsOk s) {C : AC → Nat → Prop}
  (hc : ∀ (j : Nat) a, (flat s)[j]? = some a → C a j) : ∃ a, C a (base + idx) ∧ K (.one a) := by
 unfold onex at h
 split at h
 ·rename_i k N l hf
  obtain ⟨hok, hfl⟩ := findSeg_flat ho hf
  have hlt : idx < l.length := by rw [show l.length = N from hok]; exact h.1.lt
  refine ⟨.int k (lget l idx), hc _ _ (hfl idx _ ?_), h.2⟩
  simp [Seg.flat, lget, hlt, List.getD]
 ·rename_i N l hf
  obtain ⟨hok, hfl⟩ := findSeg_flat ho hf
  have hlt : idx < l.length := by rw [show l.length = N from hok]; exact h.1.lt
  refine ⟨.bool (lgetb l idx), hc _ _ (hfl idx _ ?_), h.2⟩
  simp [Seg.flat, lgetb, hlt, List.getD]
 ·rename_i cs hf
  obtain ⟨hok, hfl⟩ := findSeg_flat ho hf
  split at h
  ·rename_i c hcc
   exact ⟨c, hc _ _ (hfl idx _ hcc), h⟩
  ·exact h.elim
 ·exact h.elim
theorem partx_sound {s : List Seg} {z base idx : Nat} {K : AV → Prop} (h : partx s z base idx K) (ho : segsOk s) :
  ∃ k l, l.length = z ∧ (∀ j, j < z → (flat s)[base + idx + j]? = some (.int k (l.getD j 0))) ∧ K (.agg [.ints k z l]) := by
 unfold partx at h
 split at h
 ·rename_i k N l hf
  obtain ⟨hok, hfl⟩ := findSeg_flat ho hf
  have hle : idx + z ≤ l.length := by rw [show l.length = N from hok]; exact h.1.le
  refine ⟨k, lsub l idx z, by simp [lsub]; omega, fun j hj => ?_, h.2⟩
  have := hfl (idx + j) (.int k (l.getD (idx + j) 0)) (by simp [Seg.flat, List.getD, show idx + j < l.length by omega])
  rw [Nat.add_assoc, this]
  congr 2
  simp only [lsub, List.getD, List.getElem?_take, if_pos hj, List.getElem?_drop]
 ·exact h.elim
theorem ints_FRep (ρ : Rho) (k : IntKind) (z : Nat) (l : List Int) : FRep ρ (flat [.ints k z l]) (l.map (Value.int k)) := by
 refine ⟨by simp [flat, Seg.flat], fun j a v h1 h2 => ?_⟩
 simp only [flat, Seg.flat, List.append_nil, List.getElem?_map, Option.map_eq_some_iff] at h1 h2
 obtain ⟨x, hx, rfl⟩ := h1
 obtain ⟨y, hy, rfl⟩ := h2
 rw [hx] at hy; cases hy; rfl
theorem run_isAggB {P : Program} {t : TypeId} {b : Bool} (h : isAggB P t = some b) (w : World) : (isAgg t).run P w = .ok b w := by
 unfold isAggB at h
 unfold isAgg
 cases hu : P.underlying t with
 | none => rw [hu] at h; cases h
 | some d =>
  rw [Sem.run_bind, run_underlying hu w]
  rw [hu] at h
  cases d <;> simp_all
theorem run_sizeB {P : Program} {t : TypeId} {z : Nat} (h : sizeB P t = some z) (w : World) : (sizeOf t).run P w = .ok z w := by
 unfold sizeB at h
 cases hi : P.info? t with
 | none => rw [hi] at h; cases h
 | some i =>
  rw [hi] at h
  simp only [Option.map_some, Option.some.injEq] at h
  simp [sizeOf, typeInfo, hi, h]
theorem at_add (ρ : Rho) (n i j : Nat) : (at_ ρ n i).add j = at_ ρ n (i + j) := by
 unfold Addr.add at_
 split
 ·subst_vars; rfl
 ·simp [Nat.add_assoc]
theorem Loc.at_add (L : Loc) (i j : Nat) : (L.at i).add j = L.at (i + j) := by
 unfold Addr.add Loc.at
 split
 ·subst_vars; rfl
 ·simp [Nat.add_assoc]
theorem addr_add_add (a : Addr) (i j : Nat) : (a.add i).add j = a.add (i + j) := by
 unfold Addr.add
 by_cases hi : i = 0
 ·subst hi; simp
 ·by_cases hj : j = 0
  ·subst hj; simp
  ·simp [hi, hj, show i + j ≠ 0 by omega, Nat.add_assoc]
theorem beq_nat {a b : Nat} (h : Nat.beq a b = true) : a = b := Nat.eq_of_beq_eq_true h
theorem Col.len_ok {N : Nat} {c : Col} (h : c.ok N) : c.len = N := by
 cases c <;> simp only [Col.ok, Col.len] at h ⊢ <;> first | exact h | exact h.1
theorem clen_ok {N : Nat} {cs : List Col} (hn : cs ≠ []) (h : ∀ c ∈ cs, c.ok N) : clen cs = N := by
 cases cs with
 | nil => exact absurd rfl hn
 | cons c r =>
  have := Col.len_ok (h c (by simp))
  cases c <;> exact this
theorem VRep.len {w : World} {L : Loc} {cs : List Col} (h : VRep w L cs) : clen cs = L.len := clen_ok h.ne h.ok
theorem cell_same {w w' : World} {a : Addr} (h : w'.heap[a.block]? = w.heap[a.block]?) : w'.cell? a = w.cell? a := by simp [World.cell?, h]
theorem VRep.keeps {w w' : World} {L : Loc} {cs : List Col} (h : VRep w L cs) (hk : ∀ k, FootL L cs k → w'.heap[k]? = w.heap[k]?) : VRep w' L cs := by
 refine ⟨h.ne, h.wid, h.ok, h.cap, h.adr, fun i hi t ht => ?_, fun c k ll hc i l hl => ?_⟩
 ·rw [cell_same (hk _ (Or.inl ⟨by omega, rfl⟩))]; exact h.cells i hi t ht
 ·obtain ⟨h1, h2, h3, h4⟩ := h.inner c k ll hc i l hl
  refine ⟨h1, h2, h3, fun j x hx a ha => ?_⟩
  have hne : l ≠ [] := fun e => by subst e; simp at hx
  have hb : (a.add j).block = a.block := by unfold Addr.add; split <;> rfl
  have hq := hk a.block (Or.inr ⟨c, k, ll, i, l, a, hc, hl, hne, ha, rfl⟩)
  have hq' : w'.heap[(a.add j).block]? = w.heap[(a.add j).block]? := by rw [hb]; exact hq
  exact (cell_same hq').trans (h4 j x hx a ha)
theorem cols_sound {ρ : Rho} {σ : Mem} {w : World} {n : Nat} {cs : List Col} (hm : MemRep ρ σ w) (h : Mem.cols σ n = some cs) :
  VRep w (ρ n) cs ∧ ∃ b, Mem.find σ n = some b ∧ ((b = .vec cs) ∨ b = .rview cs) ∧ ∀ k, FootL (ρ n) cs k → Foot ρ n b k := by
 unfold Mem.cols at h
 split at h
 ·rename_i cs' hf
  cases h
  have := hm n _ hf
  exact ⟨this.1, _, hf, Or.inl rfl, fun k hk => by
   rcases hk with ⟨h1, h2⟩ | hk
   ·exact Or.inl ⟨by have := this.1.cap; omega, h2⟩
   ·exact Or.inr hk⟩
 ·rename_i cs' hf
  cases h
  exact ⟨(hm n _ hf).1, _, hf, Or.inr rfl, fun k hk => hk⟩
 ·cases h
theorem cols_lnk {ρ : Rho} {σ : Mem} {w : World} {n : Nat} {cs : List Col} (hm : MemRep ρ σ w) (h : Mem.cols σ n = some cs) : Lnk ρ (ρ n) cs := by
 unfold Mem.cols at h
 split at h
 ·rename_i cs' hf; cases h; exact (hm n _ hf).2.2
 ·rename_i cs' hf; cases h; exact (hm n _ hf).2
 ·cases h
theorem heap_find {σ : Mem} {k : IntKind} {os : List (List Int)} (h : Mem.heap σ k = some os) : Mem.find σ (hname k) = some (.heap k os) := by
 unfold Mem.heap at h
 split at h <;> try (cases h; done)
 rename_i k' os' hf
 split at h <;> try (cases h; done)
 rename_i hk
 subst hk
 cases h
 exact hf
theorem lnk_no {ρ : Rho} {L : Loc} {cs : List Col} (h : ∀ (c : Nat) (k : IntKind) (l : List HS), cs[c]? ≠ some (Col.hss k l)) : Lnk ρ L cs := fun c k l hc => absurd hc (h c k l)
theorem lnk_ints {ρ : Rho} {L : Loc} {k : IntKind} {l : List Int} : Lnk ρ L [.ints k l] := lnk_no fun c k' l' hc => by cases c <;> simp at hc
theorem noHss_lnk {ρ : Rho} {L : Loc} {cs : List Col} (h : noHss cs = true) : Lnk ρ L cs := lnk_no fun c k l hc => by
 have := List.all_eq_true.1 h _ (List.mem_of_getElem? hc)
 simp [isHss] at this
theorem rows_sound {ρ : Rho} {σ : Mem} {w : World} {n c : Nat} {k : IntKind} {ll : List (List Int)} (hm : MemRep ρ σ w) (h : Mem.rows σ n c = some (k, ll)) :
  ∃ cs, cs[c]? = some (.rows k ll) ∧ ll.length = (ρ n).len ∧ VRep w (ρ n) cs ∧ ∃ b, Mem.find σ n = some b ∧ ((b = .vec cs) ∨ b = .rview cs) ∧ ∀ k, FootL (ρ n) cs k → Foot ρ n b k := by
 unfold Mem.rows at h
 split at h
 ·rename_i cs hcs
  split at h
  ·rename_i k' ll' hc
   simp only [Option.some.injEq, Prod.mk.injEq] at h
   obtain ⟨rfl, rfl⟩ := h
   obtain ⟨h1, h2⟩ := cols_sound hm hcs
   exact ⟨cs, hc, h1.ok _ (List.mem_of_getElem? hc), h1, h2⟩
  ·cases h
 ·cases h
theorem colAt_sound {L : Loc} : ∀ {cs : List Col} {b c0 c : Nat} {col : Col}, colAt cs b c0 = some (c, col) →
  c0 ≤ c ∧ cs[c - c0]? = some col ∧ b + col.kd.width ≤ cwidth cs ∧ ∀ i j, j < col.kd.width → rowVal L cs c0 i (b + j) = colVal L c col i j
 | [], _, _, _, _, h => by simp [colAt] at h
 | x :: r, 0, c0, c, col, h => by
  simp only [colAt, Option.some.injEq, Prod.mk.injEq] at h
  obtain ⟨rfl, rfl⟩ := h
  refine ⟨Nat.le_refl _, by simp, by simp [cwidth, kdsOf, width], fun i j hj => ?_⟩
  simp only [rowVal, Nat.zero_add]
  rw [if_pos hj]
 | x :: r, b + 1, c0, c, col, h => by
  simp only [colAt] at h
  split at h
  ·rename_i hle
   have hle' : x.kd.width ≤ b + 1 := Nat.le_of_ble_eq_true hle
   obtain ⟨h1, h2, h3, h4⟩ := colAt_sound (L := L) h
   refine ⟨by omega, ?_, ?_, fun i j hj => ?_⟩
   ·rw [show c - c0 = (c - (c0 + 1)) + 1 by omega]; simpa using h2
   ·have : cwidth (x :: r) = x.kd.width + cwidth r := rfl
    omega
   ·simp only [rowVal]
    rw [if_neg (by omega), ← h4 i j hj]
    congr 1; omega
  ·cases h
theorem lsub_get {α : Type} (l : List α) (i n j : Nat) : (lsub l i n)[j]? = if j < n then l[i + j]? else none := by
 simp only [lsub, List.getElem?_take, List.getElem?_drop]
theorem lsub_len {α : Type} (l : List α) (i n : Nat) (h : i + n ≤ l.length) : (lsub l i n).length = n := by simp [lsub]; omega
theorem Col.sub_ok {N i n : Nat} {c : Col} (h : c.ok N) (hi : i + n ≤ N) : (c.sub i n).ok n := by
 cases c <;> simp only [Col.ok, Col.sub] at h ⊢
 case arrs =>
  refine ⟨lsub_len _ _ _ (by omega), fun x hx => h.2 x ?_⟩
  simp only [lsub] at hx
  exact List.mem_of_mem_drop (List.mem_of_mem_take hx)
 all_goals exact lsub_len _ _ _ (by omega)
theorem sub_kd (c : Col) (i n : Nat) : (c.sub i n).kd = c.kd := by cases c <;> rfl
theorem sub_kds (cs : List Col) (i n : Nat) : kdsOf (cs.map (Col.sub i n)) = kdsOf cs := by
 simp [kdsOf, sub_kd]
theorem getD_lsub {α : Type} (l : List α) (i n j : Nat) (d : α) (hj : j < n) : (lsub l i n).getD j d = l.getD (i + j) d := by
 simp only [List.getD, lsub_get, if_pos hj]
theorem colVal_sub {L L' : Loc} (c : Nat) (col : Col) (i n r j : Nat) (hr : r < n) (hL : L'.el c r = L.el c (i + r)) : colVal L' c (col.sub i n) r j = colVal L c col (i + r) j := by
 cases col <;> simp only [colVal, Col.sub, lget, lgetb, llget, sgets, getD_lsub _ _ _ _ _ hr, hL]
theorem rowVal_sub {L L' : Loc} (i n r : Nat) (hr : r < n) (hL : ∀ c, L'.el c r = L.el c (i + r)) : ∀ (cs : List Col) (c t : Nat), rowVal L' (cs.map (Col.sub i n)) c r t = rowVal L cs c (i + r) t
 | [], _, _ => rfl
 | x :: cs, c, t => by
  simp only [List.map_cons, rowVal, sub_kd]
  split
  ·exact colVal_sub c x i n r t hr (hL c)
  ·exact rowVal_sub i n r hr hL cs (c + 1) _
def Loc.sub (L : Loc) (z i len : Nat) (A : Option Addr) (cap : Nat) : Loc := ⟨L.1, L.2 + i * z, A, len, cap, fun c r => L.el c (i + r)⟩
theorem VRep.sub {w : World} {L : Loc} {cs : List Col} (h : VRep w L cs) {i len cap : Nat} {A : Option Addr} (hi : i + len ≤ L.len) (hc : len ≤ cap) (hA : len ≠ 0 → A = some (L.at (i * cwidth cs))) :
  VRep w (L.sub (cwidth cs) i len A cap) (cs.map (Col.sub i len)) := by
 have hw : cwidth (cs.map (Col.sub i len)) = cwidth cs := by simp [cwidth, sub_kds]
 refine ⟨by simpa using h.ne, by rw [hw]; exact h.wid, fun col hcol => ?_, hc, fun h0 => ?_, fun r hr t ht => ?_, fun c k ll hcc r l hl => ?_⟩
 ·obtain ⟨x, hx, rfl⟩ := List.mem_map.1 hcol
  exact Col.sub_ok (h.ok x hx) hi
 ·exact hA h0
 ·rw [hw] at ht ⊢
  have hr' : r < len := hr
  have := h.cells (i + r) (by omega) t ht
  rw [rowVal_sub (L := L) (L' := L.sub (cwidth cs) i len A cap) i len r hr' (fun _ => rfl) cs 0 t, ← this]
  congr 1
  simp only [Loc.at, Loc.sub, Nat.add_mul]
  congr 1
  omega
 ·simp only [List.getElem?_map, Option.map_eq_some_iff] at hcc
  obtain ⟨col, hcol, hsub⟩ := hcc
  cases col <;> simp only [Col.sub, Col.rows.injEq, reduceCtorEq] at hsub
  obtain ⟨rfl, rfl⟩ := hsub
  rw [lsub_get] at hl
  split at hl
  ·exact h.inner c _ _ hcol (i + r) l hl
  ·cases hl
theorem Lnk.sub {ρ : Rho} {L : Loc} {cs : List Col} (h : Lnk ρ L cs) {z i len cap : Nat} {A : Option Addr} : Lnk ρ (L.sub z i len A cap) (cs.map (Col.sub i len)) := by
 intro c k l hc r d hr
 simp only [List.getElem?_map, Option.map_eq_some_iff] at hc
 obtain ⟨col, hcol, hsub⟩ := hc
 cases col <;> simp only [Col.sub, Col.hss.injEq, reduceCtorEq] at hsub
 obtain ⟨rfl, rfl⟩ := hsub
 rw [lsub_get] at hr
 split at hr
 ·exact h c _ _ hcol (i + r) d hr
 ·cases hr
theorem Inner.sub {L : Loc} {cs : List Col} {z i len cap k : Nat} {A : Option Addr} (h : Inner (L.sub z i len A cap) (cs.map (Col.sub i len)) k) : Inner L cs k := by
 obtain ⟨c, kk, ll, r, l, a, h1, h2, h3, h4, h5⟩ := h
 simp only [List.getElem?_map, Option.map_eq_some_iff] at h1
 obtain ⟨col, hcol, hsub⟩ := h1
 cases col <;> simp only [Col.sub, Col.rows.injEq, reduceCtorEq] at hsub
 obtain ⟨rfl, rfl⟩ := hsub
 rw [lsub_get] at h2
 split at h2
 ·exact ⟨c, _, _, i + r, l, a, hcol, h2, h3, h4, h5⟩
 ·cases h2
theorem FootL.sub {L : Loc} {cs : List Col} {z i len cap k : Nat} {A : Option Addr} (hi : i + len ≤ L.len) (h : FootL (L.sub z i len A cap) (cs.map (Col.sub i len)) k) : FootL L cs k := by
 rcases h with ⟨h1, h2⟩ | h
 ·exact Or.inl ⟨by have : len ≠ 0 := h1; omega, h2⟩
 ·exact Or.inr h.sub
theorem spot_none {w : World} {a : Addr} {v : Value} (h : w.cell? a = some v) : a.spot = none := by
 unfold World.cell? at h
 split at h
 ·split at h
  ·cases h
  ·rename_i hs; cases hq : a.spot <;> simp_all
 ·cases h
theorem addr_add {a : Addr} (h : a.spot = none) (j : Nat) : a.add j = ⟨a.block, a.off + j, none⟩ := by
 unfold Addr.add
 split
 ·subst_vars; cases a; simp_all
 ·simp
theorem lget_some {l : List Int} {i : Nat} (h : i < l.length) : l[i]? = some (lget l i) := by
 simp [lget, List.getD, h]
theorem llget_some {l : List (List Int)} {i : Nat} (h : i < l.length) : l[i]? = some (llget l i) := by
 simp [llget, List.getD, h]
theorem VRep.ofInts {w : World} {L : Loc} {k : IntKind} {l : List Int} (hl : l.length = L.len) (hc : L.len ≤ L.cap) (ha : L.len ≠ 0 → L.a = some (L.at 0)) (h : ∀ (j : Nat) x, l[j]? = some x → w.cell? (L.at j) = some (.int k x)) : VRep w L [.ints k l] := by
 refine ⟨by simp, Nat.one_pos, fun col hcol => ?_, hc, ha, fun i hi t ht => ?_, fun c k' ll hcc => ?_⟩
 ·simp at hcol; subst hcol; exact hl
 ·have ht' : t < 1 := ht
  have : t = 0 := by omega
  subst this
  have e : cwidth [Col.ints k l] = 1 := rfl
  rw [e, Nat.mul_one, Nat.add_zero, h i _ (lget_some (by omega))]
  rfl
 ·cases c <;> simp at hcc
theorem Elt.rep {w : World} {e : Elt} {k : IntKind} {l : List Int} (h : EltRep w e k l) : VRep w e.loc [.ints k l] ∧ e.loc.a = e.a ∧ e.loc.len = e.len ∧ e.loc.cap = e.cap ∧ ∀ b, FootL e.loc [.ints k l] b → l ≠ [] ∧ ∃ a, e.a = some a ∧ b = a.block := by
 obtain ⟨h1, h2, h3, h4⟩ := h
 have fin : ∀ b, ¬ Inner e.loc [.ints k l] b := by
  rintro b ⟨c, kk, ll, i, l', a, hc, _⟩
  cases c <;> simp at hc
 cases he : e.a with
 | none =>
  have hl : l = [] := by
   by_cases hl : l = []
   ·exact hl
   ·obtain ⟨a, ha⟩ := h3 hl; rw [he] at ha; cases ha
  subst hl
  have e1 : e.loc = ⟨0, 0, none, e.len, e.cap, fun _ _ => ⟨none, 0, 0⟩⟩ := by simp [Elt.loc, he]
  simp at h1
  refine ⟨.ofInts (by simp [e1, h1]) (by rw [e1]; exact h2) (fun q => by rw [e1] at q; exact absurd h1 q) (fun j x hx => by simp at hx), by rw [e1], by rw [e1], by rw [e1], fun b hb => ?_⟩
  rcases hb with ⟨q, _⟩ | q
  ·rw [e1] at q; exact absurd h1 q
  ·exact absurd q (fin b)
 | some a =>
  have e1 : e.loc = ⟨a.block, a.off, some a, e.len, e.cap, fun _ _ => ⟨none, 0, 0⟩⟩ := by simp [Elt.loc, he]
  have sp : e.len ≠ 0 → a.spot = none := fun q => by
   have hlt : 0 < l.length := by omega
   have := h4 0 _ (lget_some hlt) a he
   have h0 : a.add 0 = a := by simp [Addr.add]
   rw [h0] at this
   exact spot_none this
  refine ⟨.ofInts (by rw [e1]; exact h1.symm) (by rw [e1]; exact h2) (fun q => ?_) (fun j x hx => ?_), by rw [e1], by rw [e1], by rw [e1], fun b hb => ?_⟩
  ·rw [e1] at q ⊢
   have := sp q
   simp only [Loc.at, Nat.add_zero]
   cases a; simp_all
  ·have hlt := (List.getElem?_eq_some_iff.1 hx).1
   have := h4 j x hx a he
   rw [addr_add (sp (by omega))] at this
   rw [e1]; exact this
  ·rcases hb with ⟨q, q2⟩ | q
   ·rw [e1] at q q2
    have q' : e.len ≠ 0 := q
    exact ⟨fun e => by rw [e] at h1; exact q' (by simpa using h1), a, rfl, q2⟩
   ·exact absurd q (fin b)
theorem cells_ints {ρ : Rho} {w : World} {n : Nat} {s : List Seg} {base idx len N : Nat} {k : IntKind} {l : List Int} (ho : segsOk s) (hc : CellsAt ρ w n (flat s)) (hf : findSeg s base = some (.ints k N l)) (hle : idx + len ≤ N) :
  l.length = N ∧ ∀ (j : Nat) x, (lsub l idx len)[j]? = some x → w.cell? (at_ ρ n (base + idx + j)) = some (.int k x) := by
 obtain ⟨hok, hfl⟩ := findSeg_flat ho hf
 refine ⟨hok, fun j x hx => ?_⟩
 rw [lsub_get] at hx
 split at hx
 ·obtain ⟨v, hv, hr⟩ := hc _ _ (hfl (idx + j) (.int k x) (by simp [Seg.flat, hx]))
  rw [show base + idx + j = base + (idx + j) by omega, hv, show v = _ from hr]
 ·cases hx
def Sep (ρ : Rho) (σ : Mem) : Prop :=
 (∀ n m b c k, Mem.find σ n = some b → Mem.find σ m = some c → n ≠ m → Out ρ n b k → ¬ Foot ρ m c k) ∧ ∀ n b k, Mem.find σ n = some b → Out ρ n b k → ¬ Inn ρ n b k
def Clean (ρ : Rho) (σ : Mem) (k : Nat) : Prop := ∀ m b, Mem.find σ m = some b → ¬ Out ρ m b k
structure Reads (ρ : Rho) (σ : Mem) (w : World) (v : Value) (cs : List Col) (L : Loc) : Prop where
 val : v = .slice L.a L.len L.cap
 rep : VRep w L cs
 clean : ∀ k, Inner L cs k → Clean ρ σ k
 lnk : Lnk ρ L cs
 root : L.len ≠ 0 → ∃ n b, Mem.find σ n = some b ∧ Foot ρ n b L.1 ∧ ∀ m c, Mem.find σ m = some c → m ≠ n → ¬ Out ρ m c L.1
theorem Inn.foot {ρ : Rho} {n k : Nat} {b : Blk} (h : Inn ρ n b k) : Foot ρ n b k := by
 cases b <;> simp only [Inn] at h <;> first | exact h.elim | exact Or.inr h
theorem Sep.inn {ρ : Rho} {σ : Mem} (hs : Sep ρ σ) {n k : Nat} {b : Blk} (hn : Mem.find σ n = some b) (h : Inn ρ n b k) : Clean ρ σ k := by
 intro m c hm ho
 by_cases e : m = n
 ·subst e
  rw [hn] at hm; cases hm
  exact hs.2 _ _ k hn ho h
 ·exact hs.1 m n c b k hm hn e ho h.foot
theorem Sep.root {ρ : Rho} {σ : Mem} (hs : Sep ρ σ) {n k : Nat} {b : Blk} (hn : Mem.find σ n = some b) (h : Foot ρ n b k) : ∃ n b, Mem.find σ n = some b ∧ Foot ρ n b k ∧ ∀ m c, Mem.find σ m = some c → m ≠ n → ¬ Out ρ m c k :=
 ⟨n, b, hn, h, fun m c hm hne ho => hs.1 m n c b k hm hn hne ho h⟩
theorem nil_kds (ks : List Kd) : kdsOf (ks.map Kd.nil) = ks := by
 induction ks with
 | nil => rfl
 | cons k r ih => cases k <;> simp_all [kdsOf, Kd.nil, Col.kd]
theorem nil_rep {w : World} {ks : List Kd} (hk : 0 < width ks) : VRep w loc0 (ks.map Kd.nil) ∧ ∀ k, ¬ FootL loc0 (ks.map Kd.nil) k := by
 have inn : ∀ k, ¬ Inner loc0 (ks.map Kd.nil) k := by
  rintro k ⟨c, kk, ll, i, l, a, hc, hl, _⟩
  simp only [List.getElem?_map, Option.map_eq_some_iff] at hc
  obtain ⟨kd, _, hkd⟩ := hc
  cases kd <;> simp [Kd.nil] at hkd
  rw [hkd.2] at hl; simp at hl
 have hne : ks ≠ [] := fun e => by rw [e] at hk; exact absurd hk (by decide)
 refine ⟨⟨by simpa using hne, by rw [cwidth, nil_kds]; exact hk, fun col hcol => ?_, Nat.le_refl _, fun q => absurd rfl q, fun i hi => absurd hi (Nat.not_lt_zero _), fun c kk ll hc i l hl => ?_⟩, fun k hk => ?_⟩
 ·obtain ⟨kd, _, rfl⟩ := List.mem_map.1 hcol
  cases kd <;> simp [Kd.nil, Col.ok, loc0]
 ·simp only [List.getElem?_map, Option.map_eq_some_iff] at hc
  obtain ⟨kd, _, hkd⟩ := hc
  cases kd <;> simp [Kd.nil] at hkd
  rw [hkd.2] at hl; simp at hl
 ·rcases hk with ⟨q, _⟩ | q
  ·exact q rfl
  ·exact inn k q
theorem nil_lnk {ρ : Rho} {L : Loc} {ks : List Kd} : Lnk ρ L (ks.map Kd.nil) := lnk_no fun c k l hc => by
 simp only [List.getElem?_map, Option.map_eq_some_iff] at hc
 obtain ⟨kd, _, hkd⟩ := hc
 cases kd <;> simp [Kd.nil] at hkd
theorem Elt.loc_facts (e : Elt) : e.loc.a = e.a ∧ e.loc.len = e.len ∧ e.loc.cap = e.cap := by
 unfold Elt.loc; split <;> simp_all
theorem heap_obj {ρ : Rho} {σ : Mem} {w : World} {k : IntKind} {os : List (List Int)} (hm : MemRep ρ σ w) (h : Mem.heap σ k = some os) {j : Nat} (hj : j < (ρ (hname k)).n) :
  VRep w ((ρ (hname k)).el 0 j).loc [.ints k (llget os j)] ∧ Writable w ((ρ (hname k)).el 0 j).loc 1 ∧ (llget os j).length = ((ρ (hname k)).el 0 j).len ∧ j < os.length := by
 obtain ⟨_, hH⟩ := hm _ _ (heap_find h)
 have hlt : j < os.length := by rw [← hH.n]; exact hj
 obtain ⟨h1, h2⟩ := hH.obj j _ (llget_some hlt)
 refine ⟨h1, h2, ?_, hlt⟩
 have := h1.ok (.ints k (llget os j)) (by simp)
 rw [← (Elt.loc_facts _).2.1]; exact this
theorem reads_hs {ρ : Rho} {σ : Mem} {w : World} {k : IntKind} {os : List (List Int)} {j off len : Nat} {v : Value} (hm : MemRep ρ σ w) (hs : Sep ρ σ) (h : Mem.heap σ k = some os) (hx : CRep ρ (.hs k j off len) v) :
  ∃ L, Reads ρ σ w v [.ints k (lsub (llget os j) off len)] L ∧ off + len ≤ (llget os j).length := by
 obtain ⟨A, cap, rfl, h2, h3, hj, h4, _, h5⟩ := hx
 obtain ⟨g1, g2, g3, g4⟩ := heap_obj hm h hj
 obtain ⟨f1, f2, f3⟩ := Elt.loc_facts ((ρ (hname k)).el 0 j)
 have inn1 : ∀ {L : Loc} {k : IntKind} {l : List Int} {b : Nat}, ¬ Inner L [.ints k l] b := by
  rintro L k l b ⟨c, kk, ll, i, l', a, hc, _⟩
  cases c <;> simp at hc
 have hA : len ≠ 0 → A = some (((ρ (hname k)).el 0 j).loc.at (off * cwidth [Col.ints k (llget os j)])) := fun q => by
  rcases h4 with h4 | h4
  ·omega
  ·have had := g1.adr (by rw [f2]; omega)
   rw [f1] at had
   rw [h4, had, Option.map_some, Loc.at_add]
   have : cwidth [Col.ints k (llget os j)] = 1 := rfl
   rw [this, Nat.mul_one, Nat.zero_add]
 refine ⟨_, ⟨rfl, g1.sub (by rw [f2]; exact h3) h2 hA, fun k hk => absurd hk.sub inn1, lnk_ints.sub, fun q => ?_⟩, by rw [g3]; exact h3⟩
 have q' : len ≠ 0 := q
 have hc : ((ρ (hname k)).el 0 j).cap ≠ 0 := by have := g1.cap; rw [f2, f3] at this; omega
 exact hs.root (heap_find h) ⟨j, hj, hc, rfl⟩
theorem rdx_sound {ρ : Rho} {σ : Mem} {w : World} {ks : List Kd} {x : AV} {v : Value} {K : List Col → Prop} (h : rdx σ ks x K) (hks : 0 < width ks) (hm : MemRep ρ σ w) (hs : Sep ρ σ) (hx : SRep ρ x v) : ∃ cs L, Reads ρ σ w v cs L ∧ K cs := by
 unfold rdx at h
 have inn1 : ∀ {L : Loc} {k : IntKind} {l : List Int} {b : Nat}, ¬ Inner L [.ints k l] b := by
  rintro L k l b ⟨c, kk, ll, i, l', a, hc, _⟩
  cases c <;> simp at hc
 split at h
 ·rename_i n
  split at h <;> try exact h.elim
  rename_i cs hcs
  obtain ⟨h1, b, hb, hbb, hf⟩ := cols_sound hm hcs
  refine ⟨cs, ρ n, ⟨hx, h1, fun k hk => hs.inn hb ?_, cols_lnk hm hcs, fun q => hs.root hb (hf _ (Or.inl ⟨q, rfl⟩))⟩, h⟩
  rcases hbb with rfl | rfl <;> exact hk
 ·rename_i n z i len
  split at h <;> try exact h.elim
  rename_i cs hcs
  split at h <;> try exact h.elim
  rename_i hz
  obtain ⟨h1, b, hb, hbb, hf⟩ := cols_sound hm hcs
  obtain ⟨A, cap, rfl, h2, h3, h4, _⟩ := hx
  have hz' := beq_nat hz
  have hz'' : z = cwidth cs := hz'
  subst hz''
  refine ⟨_, (ρ n).sub (cwidth cs) i len A cap, ⟨rfl, h1.sub h3 h2 (fun q => ?_), fun k hk => hs.inn hb ?_, (cols_lnk hm hcs).sub, fun q => hs.root hb (hf _ (Or.inl ⟨by have : len ≠ 0 := q; omega, rfl⟩))⟩, h⟩
  ·have q' : len ≠ 0 := q
   rcases h4 with h4 | ⟨_, rfl⟩
   ·omega
   ·rw [h1.adr (by omega), Option.map_some, Loc.at_add, Nat.zero_add]
  ·have := hk.sub
   rcases hbb with rfl | rfl <;> exact this
 ·rename_i n z i len
  split at h <;> try exact h.elim
  rename_i cs hcs
  split at h <;> try exact h.elim
  rename_i hz
  obtain ⟨h1, b, hb, hbb, hf⟩ := cols_sound hm hcs
  obtain ⟨A, cap, rfl, h2, h3, h4, _⟩ := hx
  have hz' := beq_nat hz
  have hz'' : z = cwidth cs := hz'
  subst hz''
  refine ⟨_, (ρ n).sub (cwidth cs) i len A cap, ⟨rfl, h1.sub h3 h2 (fun q => ?_), fun k hk => hs.inn hb ?_, (cols_lnk hm hcs).sub, fun q => hs.root hb (hf _ (Or.inl ⟨by have : len ≠ 0 := q; omega, rfl⟩))⟩, h⟩
  ·have q' : len ≠ 0 := q
   rcases h4 with h4 | ⟨_, rfl⟩
   ·omega
   ·rw [h1.adr (by omega), Option.map_some, Loc.at_add, Nat.zero_add]
  ·have := hk.sub
   rcases hbb with rfl | rfl <;> exact this
 ·rename_i n c i
  split at h <;> try exact h.elim
  rename_i k ll hr
  obtain ⟨cs, hc, hlen, h1, b, hb, hbb, hf⟩ := rows_sound hm hr
  obtain ⟨rfl, hi⟩ := hx
  have he := h1.inner c k ll hc i _ (llget_some (by omega))
  obtain ⟨g1, g2, g3, g4, g5⟩ := Elt.rep he
  refine ⟨_, _, ⟨by rw [g2, g3, g4], g1, fun k hk => absurd hk inn1, lnk_ints, fun q => ?_⟩, h⟩
  obtain ⟨hl, a, ha, hab⟩ := g5 _ (Or.inl ⟨q, rfl⟩)
  refine hs.root hb (hf _ (Or.inr ⟨c, k, ll, i, _, a, hc, llget_some (by omega), hl, ha, hab⟩))
 ·rename_i n c i o len
  split at h <;> try exact h.elim
  rename_i k ll hr
  obtain ⟨cs, hc, hlen, h1, b, hb, hbb, hf⟩ := rows_sound hm hr
  obtain ⟨A, cap, rfl, h2, h3, hi, h4, h5⟩ := hx
  have he := h1.inner c k ll hc i _ (llget_some (by omega))
  obtain ⟨g1, g2, g3, g4, g5⟩ := Elt.rep he
  have hle : o + len ≤ ((ρ n).el c i).loc.len := by rw [g3]; exact h3
  have hA : len ≠ 0 → A = some (((ρ n).el c i).loc.at (o * cwidth [Col.ints k (llget ll i)])) := fun q => by
   rcases h4 with h4 | h4
   ·omega
   ·have hne : ((ρ n).el c i).loc.len ≠ 0 := by omega
    have had := g1.adr hne
    rw [g2] at had
    rw [h4, had, Option.map_some, Loc.at_add]
    have : cwidth [Col.ints k (llget ll i)] = 1 := rfl
    rw [this, Nat.mul_one, Nat.zero_add]
  refine ⟨_, _, ⟨rfl, g1.sub hle h2 hA, fun k hk => absurd hk.sub inn1, lnk_ints.sub, fun q => ?_⟩, h⟩
  have q' : len ≠ 0 := q
  obtain ⟨hl, a, ha, hab⟩ := g5 ((ρ n).el c i).loc.1 (Or.inl ⟨by omega, rfl⟩)
  refine hs.root hb (hf _ (Or.inr ⟨c, k, ll, i, _, a, hc, llget_some (by omega), hl, ha, hab⟩))
 ·rename_i n base idx len cap
  split at h <;> try exact h.elim
  rename_i b hb
  split at h <;> try exact h.elim
  rename_i k N l hf
  obtain ⟨ho, hc⟩ := (hm n b hb).cells
  obtain ⟨h1, h2⟩ := cells_ints ho hc hf h.1.le
  have hle : idx + len ≤ N := h.1.le
  obtain ⟨hlc, hx⟩ := hx
  have hlen := lsub_len l idx len (by omega)
  have foot : len ≠ 0 → Foot ρ n b (ρ n).1 := fun q => by
   have hne : flat b.segs ≠ [] := fun e => by
    have := findSeg_len hf
    have hl := flat_length ho
    rw [e] at hl
    simp only [Seg.len] at this
    simp at hl; omega
   cases b with
   | own T s => rfl
   | view s => exact ⟨hne, rfl⟩
   | vec cs => exact absurd rfl hne
   | rview cs => exact absurd rfl hne
   | heap k os => exact absurd rfl hne
   | map kk m => exact absurd rfl hne
  rcases hx with rfl | ⟨rfl, rfl, a, rfl⟩
  ·refine ⟨_, ⟨(ρ n).1, (ρ n).2 + (base + idx), some (at_ ρ n (base + idx)), len, cap, fun _ _ => ⟨none, 0, 0⟩⟩, ⟨rfl, .ofInts hlen hlc (fun _ => rfl) (fun j x hx => ?_), fun k hk => absurd hk inn1, lnk_ints, fun q => hs.root hb (foot q)⟩, h.2⟩
   have := h2 j x hx
   simp only [at_, Loc.at] at this ⊢
   rw [← this]; congr 2; omega
  ·refine ⟨_, ⟨0, 0, a, 0, 0, fun _ _ => ⟨none, 0, 0⟩⟩, ⟨rfl, .ofInts hlen (Nat.le_refl _) (fun q => absurd rfl q) (fun j x hx => by rw [lsub_get] at hx; simp at hx), fun k hk => absurd hk inn1, lnk_ints, fun q => absurd rfl q⟩, h.2⟩
 ·obtain ⟨rfl, _⟩ := hx
  obtain ⟨g1, g2⟩ := nil_rep (w := w) hks
  exact ⟨_, loc0, ⟨rfl, g1, fun k hk => absurd (Or.inr hk) (g2 k), nil_lnk, fun q => absurd rfl q⟩, h⟩
 ·rename_i k j off len
  split at h <;> try exact h.elim
  rename_i os ho
  have hn := heap_find ho
  obtain ⟨L, hR⟩ := reads_hs hm hs ho hx
  exact ⟨_, _, hR.1, h⟩
 ·exact h.elim
theorem loadx_sound {P : Program} {ρ : Rho} {σ : Mem} {w : World} {T : TypeId} {n base idx : Nat} {K : AV → Prop} (h : loadx P σ T n base idx K) (hm : MemRep ρ σ w) :
  ∃ v av b, Mem.find σ n = some b ∧ (∀ w' : World, (∀ k, Foot ρ n b k → w'.heap[k]? = w.heap[k]?) → (loadVar T (at_ ρ n (base + idx))).run P w' = .ok v w') ∧ SRep ρ av v ∧ K av := by
 unfold loadx at h
 split at h
 ·exact h.elim
 rename_i b hb
 have hB := hm n b hb
 obtain ⟨ho, hcells⟩ := hB.cells
 have there : ∀ {w' : World} {i : Nat}, w'.heap[(ρ n).1]? = w.heap[(ρ n).1]? → w'.cell? (at_ ρ n i) = w.cell? (at_ ρ n i) := fun hw => cell_block hw
 have foot : flat b.segs ≠ [] → Foot ρ n b (ρ n).1 := fun hne => by
  cases b with
  | own T s => rfl
  | view s => exact ⟨hne, rfl⟩
  | vec cs => exact absurd rfl hne
  | rview cs => exact absurd rfl hne
  | heap k os => exact absurd rfl hne
  | map kk m => exact absurd rfl hne
 split at h
 ·rename_i z hag hsz
  have part : ∀ {K : AV → Prop}, partx b.segs (z + 1) base idx K → ∃ v av b, Mem.find σ n = some b ∧ (∀ w' : World, (∀ k, Foot ρ n b k → w'.heap[k]? = w.heap[k]?) → (loadVar T (at_ ρ n (base + idx))).run P w' = .ok v w') ∧ SRep ρ av v ∧ K av := by
   intro K h
   obtain ⟨k, l, hl, hfl, hK⟩ := partx_sound h ho
   have hne : flat b.segs ≠ [] := fun e => by have q := hfl 0 (by omega); rw [e] at q; simp at q
   refine ⟨.agg (l.map (Value.int k)).toArray, .agg [.ints k (z + 1) l], b, hb, fun w' hw0 => ?_, ⟨⟨hl, trivial⟩, l.map (Value.int k), rfl, ints_FRep ρ k (z + 1) l⟩, hK⟩
   have hw := hw0 _ (foot hne)
   have hrun := run_loadCells (P := P) w' (at_ ρ n (base + idx)) (z + 1) (fun j => .int k (l.getD j 0)) (fun j hj => by
    obtain ⟨v, hv, hr⟩ := hcells _ _ (hfl j hj)
    rw [at_add, there hw, hv, show v = _ from hr])
   have e : ((List.range (z + 1)).map fun j => Value.int k (l.getD j 0)) = l.map (Value.int k) := by
    apply List.ext_getElem?
    intro j
    by_cases hj : j < z + 1
    ·have : j < l.length := by omega
     simp [hj, this, List.getD]
    ·have : ¬ j < l.length := by omega
     simp [hj, List.getElem?_eq_none (Nat.le_of_not_lt this)]
   rw [e] at hrun
   simp [loadVar, run_isAggB hag, run_sizeB hsz, hrun]
  cases b with
  | own T' s =>
   simp only at h
   split at h
   ·split at h
    ·split at h
     ·rename_i hT _ _ hlen
      subst hT
      obtain ⟨hso, hz, c, fz, hh, hf, _⟩ := hB
      refine ⟨.agg c.toArray, .agg s, _, hb, fun w' hw0 => ?_, ⟨hso, c, rfl, hf⟩, h⟩
      have hw := hw0 _ rfl
      have hrun := run_loadCells_list (P := P) w' (at_ ρ n 0) c (fun j v hv => by
       rw [at_add, there hw]; simp [World.cell?, at_, hz, hh, hv])
      have hcl : c.length = z + 1 := by rw [← hf.1, flat_length hso]; exact hlen
      rw [hcl] at hrun
      simp [loadVar, run_isAggB hag, run_sizeB hsz, hrun]
     ·exact h.elim
    ·exact h.elim
   ·exact part h
  | view s => exact part h
  | vec cs => exact h.elim
  | rview cs => exact h.elim
  | heap k os => exact h.elim
  | map kk m => exact h.elim
 ·rename_i z hag hsz
  obtain ⟨a, ⟨⟨v, hv, hr⟩, hne⟩, hK⟩ := onex_sound h ho (C := fun a j => (∃ v, w.cell? (at_ ρ n j) = some v ∧ CRep ρ a v) ∧ (flat b.segs)[j]? = some a) (fun j a hj => ⟨hcells j a hj, hj⟩)
  exact ⟨v, .one a, b, hb, fun w' hw => by simp [loadVar, run_isAggB hag, there (hw _ (foot fun e => by rw [e] at hne; simp at hne)), hv], hr, hK⟩
 ·exact h.elim
theorem okI {P : Program} {ρ : Rho} {m : Sem Value} {k : IntKind} {n : Int} {K : AV → Prop} (hr : ∀ w : World, m.run P w = .ok (.int k n) w) (h : K (.one (.int k n))) :
  ∃ v av, (∀ w : World, m.run P w = .ok v w) ∧ SRep ρ av v ∧ K av := ⟨_, .one (.int k n), hr, rfl, h⟩
theorem okB {P : Program} {ρ : Rho} {m : Sem Value} {b : Bool} {K : AV → Prop} (hr : ∀ w : World, m.run P w = .ok (.bool b) w) (h : K (.one (.bool b))) :
  ∃ v av, (∀ w : World, m.run P w = .ok v w) ∧ SRep ρ av v ∧ K av := ⟨_, .one (.bool b), hr, rfl, h⟩
theorem intBin_sound {P : Program} {ρ : Rho} {op : BinOp} {t : TypeId} {k : IntKind} {a b : Int} {K : AV → Prop} (h : intBin op k a b K) (h1 : op ≠ .shl) (h2 : op ≠ .shr) :
  ∃ v av, (∀ w : World, (binOp op t (.int k a) (.int k b)).run P w = .ok v w) ∧ SRep ρ av v ∧ K av := by
 cases op <;> simp only [intBin] at h
 case add => exact okI (by simp [binOp, Op.intArith, add]) h
 case sub => exact okI (by simp [binOp, Op.intArith, sub]) h
 case mul => exact okI (by simp [binOp, Op.intArith, mul]) h
 case quo => exact okI (by simp [binOp, Op.intDiv, h.1.ne, quo]) h.2
 case rem => exact okI (by simp [binOp, Op.intDiv, h.1.ne, rem]) h.2
 case and => exact okI (by simp [binOp, Op.intBits, band, bits]) h
 case or => exact okI (by simp [binOp, Op.intBits, bor, bits]) h
 case xor => exact okI (by simp [binOp, Op.intBits, bxor, bits]) h
 case andNot => exact okI (by simp [binOp, Op.intBits, bclr, bits]) h
 case eql => exact okB (by simp [binOp, Op.intCmp, ieq]) h
 case neq => exact okB (by simp [binOp, Op.intCmp, ine]) h
 case lss => exact okB (by simp [binOp, Op.intCmp, ilt]) h
 case leq => exact okB (by simp [binOp, Op.intCmp, ile]) h
 case gtr => exact okB (by simp [binOp, Op.intCmp, igt]) h
 case geq => exact okB (by simp [binOp, Op.intCmp, ige]) h
 all_goals exact h.elim
theorem run_eqItems_ints {P : Program} {e : TypeId} {k : IntKind} (he : P.underlying e = some (.int k)) (kk : IntKind) (l1 l2 : List Int) (d : Nat) (w : World) :
  ∀ is : List Nat, (∀ i ∈ is, i < l1.length ∧ i < l2.length) →
   (Op.eqItems (d + 1) e 1 (l1.map (Value.int kk)).toArray (l2.map (Value.int kk)).toArray is).run P w = .ok (is.all fun i => l1.getD i 0 == l2.getD i 0) w
 | [], _ => by simp [Op.eqItems]
 | i :: is, h => by
  have h0 := h i (by simp)
  have hag : (isAgg e).run P w = .ok false w := by unfold isAgg; rw [Sem.run_bind, run_underlying he w]; simp
  have hp : ∀ l : List Int, i < l.length → (part e (l.map (Value.int kk)).toArray (i * 1)).run P w = .ok (.int kk (l.getD i 0)) w := by
   intro l hl
   simp [part, hag, hl, List.getD]
  have hq := run_equalIn_int w d e kk k (l1.getD i 0) (l2.getD i 0) he
  have ih := run_eqItems_ints he kk l1 l2 d w is (fun j hj => h j (by simp [hj]))
  simp only [Op.eqItems, Sem.run_bind, hp l1 h0.1, hp l2 h0.2, hq, Result.andThen_ok]
  rw [List.all_cons]
  generalize (l1.getD i 0 == l2.getD i 0) = q
  cases q <;> simp [ih]
theorem all_eq (l1 l2 : List Int) (n : Nat) (h1 : l1.length = n) (h2 : l2.length = n) : ((List.range n).all fun i => l1.getD i 0 == l2.getD i 0) = leq l1 l2 := by
 rw [Bool.eq_iff_iff]
 simp only [leq, List.all_eq_true, List.mem_range, beq_iff_eq]
 constructor
 ·intro h
  apply List.ext_getElem (by omega)
  intro i hi hj
  have := h i (by omega)
  simpa [List.getD, hi, hj] using this
 ·intro h i _; rw [h]
theorem run_eq_ints {P : Program} {t : TypeId} {k kk : IntKind} {n : Nat} {l1 l2 : List Int} (h : intArr P t = some (k, n)) (h1 : l1.length = n) (h2 : l2.length = n) :
  P.eqGuardType P.depth t = false ∧ ∀ w : World, (Op.equalIn 10000 t (.agg (l1.map (Value.int kk)).toArray) (.agg (l2.map (Value.int kk)).toArray)).run P w = .ok (leq l1 l2) w := by
 unfold intArr at h
 split at h
 ·rename_i n' e hu
  split at h
  ·rename_i k' he
   split at h
   ·rename_i hs
    split at h
    ·rename_i hg
     refine ⟨hg, fun w => ?_⟩
     simp only [Option.some.injEq, Prod.mk.injEq] at h
     obtain ⟨rfl, rfl⟩ := h
     unfold sizeB at hs
     cases hi : P.info? e with
     | none => rw [hi] at hs; cases hs
     | some i =>
      rw [hi] at hs
      simp only [Option.map_some, Option.some.injEq] at hs
      have hc : P.cellsOf e = 1 := by simp [Program.cellsOf, hi, hs]
      rw [run_equalIn_array w 9999 _ _ hu hi, hc, run_eqItems_ints he kk l1 l2 9998 w _ (fun i hi => by simp at hi; omega), all_eq l1 l2 n' h1 h2]
    ·cases h
   ·cases h
  ·cases h
 ·cases h
def SI (xs ys : List Value) : Prop := xs.length = ys.length ∧ ∀ (j : Nat) x y, xs[j]? = some x → ys[j]? = some y → ∃ k a b, x = .int k a ∧ y = .int k b
theorem SI.sub {xs ys : List Value} (h : SI xs ys) (o z : Nat) : SI ((xs.drop o).take z) ((ys.drop o).take z) := by
 refine ⟨by simp [h.1], fun j x y hx hy => ?_⟩
 simp only [List.getElem?_take, List.getElem?_drop] at hx hy
 split at hx
 ·rename_i q; rw [if_pos q] at hy; exact h.2 _ x y hx hy
 ·cases hx
def whole (P : Program) (t : TypeId) (xs : List Value) : Value := match isAggB P t with
 | some true => .agg xs.toArray
 | _ => xs.headD undef
theorem info_size {P : Program} {t : TypeId} {z : Nat} (h : sizeB P t = some z) : P.cellsOf t = z ∧ ∃ i, P.info? t = some i := by
 unfold sizeB at h
 cases hi : P.info? t with
 | none => rw [hi] at h; cases h
 | some i => rw [hi] at h; simp only [Option.map_some, Option.some.injEq] at h; exact ⟨by simp [Program.cellsOf, hi, h], i, rfl⟩
theorem eqI_agg {P : Program} {d z : Nat} {t : TypeId} (h : eqI P d t = some z) : (∃ k, P.underlying t = some (.int k) ∧ isAggB P t = some false ∧ z = 1) ∨ isAggB P t = some true := by
 cases d with
 | zero => simp [eqI] at h
 | succ d =>
  unfold eqI at h
  split at h
  ·rename_i k hu
   split at h
   ·cases h; exact Or.inl ⟨k, hu, by simp [isAggB, hu], rfl⟩
   ·cases h
  ·rename_i n e hu; exact Or.inr (by simp [isAggB, hu])
  ·rename_i fs hu; exact Or.inr (by simp [isAggB, hu])
  ·cases h
theorem part_whole {P : Program} {d z : Nat} {e : TypeId} (h : eqI P d e = some z) (hs : sizeB P e = some z) {xs : List Value} {o : Nat} (ho : o + z ≤ xs.length) (w : World) : (part e xs.toArray o).run P w = .ok (whole P e ((xs.drop o).take z)) w := by
 rcases eqI_agg h with ⟨k, hu, hag, rfl⟩ | hag
 ·have hlt : o < xs.length := by omega
  have : (isAgg e).run P w = .ok false w := run_isAggB hag w
  have e2 : (xs.drop o).take 1 = [xs[o]] := by rw [List.drop_eq_getElem_cons hlt]; rfl
  simp [part, this, whole, hag, hlt, e2]
 ·have h1 : (isAgg e).run P w = .ok true w := run_isAggB hag w
  have h2 : (sizeOf e).run P w = .ok z w := run_sizeB hs w
  simp [part, h1, h2, whole, hag]
def eqRun (P : Program) (D : Nat) (t : TypeId) (xs ys : List Value) : Prop := ∀ w : World, ∃ r : Bool, (Op.equalIn D t (whole P t xs) (whole P t ys)).run P w = .ok r w ∧ (r = true ↔ xs = ys)
theorem eqItems_run {P : Program} {D z : Nat} {e : TypeId} {xs ys : List Value} (hp : ∀ (l : List Value) o, o + z ≤ l.length → ∀ w, (part e l.toArray o).run P w = .ok (whole P e ((l.drop o).take z)) w)
    (hr : ∀ o, o + z ≤ xs.length → eqRun P D e ((xs.drop o).take z) ((ys.drop o).take z)) (hl : xs.length = ys.length) (w : World) : ∀ is : List Nat, (∀ i ∈ is, i * z + z ≤ xs.length) →
    ∃ r : Bool, (Op.eqItems D e z xs.toArray ys.toArray is).run P w = .ok r w ∧ (r = true ↔ ∀ i ∈ is, (xs.drop (i * z)).take z = (ys.drop (i * z)).take z)
  | [], _ => ⟨true, by simp [Op.eqItems], by simp⟩
  | i :: is, h => by
    obtain ⟨r', h1, h2⟩ := eqItems_run hp hr hl w is (fun j hj => h j (by simp [hj]))
    have h0 := h i (by simp)
    obtain ⟨r, g1, g2⟩ := hr (i * z) h0 w
    simp only [Op.eqItems, Sem.run_bind, hp xs _ h0, hp ys _ (by rw [← hl]; exact h0), g1, Result.andThen_ok]
    cases r
    · exact ⟨false, by simp, by simp only [Bool.false_eq_true, List.mem_cons, forall_eq_or_imp, false_iff, not_and]; intro e; rw [← g2] at e; cases e⟩
    · exact ⟨r', by simpa using h1, by rw [h2]; simp only [List.mem_cons, forall_eq_or_imp]; constructor
                                       · exact fun q => ⟨g2.1 rfl, q⟩
                                       · exact fun q => q.2⟩
theorem eqFields_run {P : Program} {D : Nat} {f : TypeId → Option Nat} {xs ys : List Value} (hl : xs.length = ys.length) (hp : ∀ e z, f e = some z → sizeB P e = some z → ∀ (l : List Value) o, o + z ≤ l.length → ∀ w, (part e l.toArray o).run P w = .ok (whole P e ((l.drop o).take z)) w)
  (hr : ∀ e z, f e = some z → sizeB P e = some z → ∀ o, o + z ≤ xs.length → eqRun P D e ((xs.drop o).take z) ((ys.drop o).take z)) (w : World) : ∀ (fs : List Field) (o m : Nat), eqFs f (sizeB P) fs o = some m → m ≤ xs.length →
  o ≤ m ∧ ∃ r : Bool, (Op.eqFields D xs.toArray ys.toArray fs).run P w = .ok r w ∧ (r = true ↔ (xs.drop o).take (m - o) = (ys.drop o).take (m - o))
 | [], o, m, h, hm => by
  simp only [eqFs, Option.some.injEq] at h
  subst h
  exact ⟨Nat.le_refl _, true, by simp [Op.eqFields], by simp⟩
 | fd :: fs, o, m, h, hm => by
  simp only [eqFs] at h
  split at h
  ·rename_i z z' hz hz'
   split at h
   ·rename_i hc
    simp only [Bool.and_eq_true, bne_iff_ne, ne_eq] at hc
    obtain ⟨⟨c1, c2⟩, c3⟩ := hc
    have c1 := beq_nat c1
    have c2 := beq_nat c2
    subst c1
    obtain ⟨h0, r', h1, h2⟩ := eqFields_run hl hp hr w fs (o + z) m h hm
    obtain ⟨r, g1, g2⟩ := hr fd.type z hz hz' o (by omega) w
    refine ⟨by omega, ?_⟩
    have key : ((xs.drop o).take (m - o) = (ys.drop o).take (m - o)) ↔ ((xs.drop o).take z = (ys.drop o).take z ∧ (xs.drop (o + z)).take (m - (o + z)) = (ys.drop (o + z)).take (m - (o + z))) := by
     have e : ∀ l : List Value, (l.drop o).take (m - o) = (l.drop o).take z ++ (l.drop (o + z)).take (m - (o + z)) := fun l => by
      rw [show m - o = z + (m - (o + z)) by omega, List.take_add, List.drop_drop]
     rw [e xs, e ys]
     refine ⟨fun q => List.append_inj q (by simp; omega), fun q => by rw [q.1, q.2]⟩
    simp only [Op.eqFields, c3, ne_eq, not_false_eq_true, if_true, Sem.run_bind, c2, hp fd.type z hz hz' xs o (by omega), hp fd.type z hz hz' ys o (by omega), g1, Result.andThen_ok]
    cases r
    ·exact ⟨false, by simp, by rw [key]; simp only [Bool.false_eq_true, false_iff, not_and]; intro e; rw [← g2] at e; cases e⟩
    ·exact ⟨r', by simpa using h1, by rw [h2, key]; exact ⟨fun q => ⟨g2.1 rfl, q⟩, fun q => q.2⟩⟩
   ·cases h
  ·cases h
theorem eqI_run {P : Program} : ∀ (d : Nat) (t : TypeId) (z : Nat), eqI P d t = some z → ∀ D, d ≤ D → ∀ xs ys : List Value, xs.length = z → SI xs ys → eqRun P D t xs ys
 | 0, _, _, h => by simp [eqI] at h
 | d + 1, t, z, h => by
  intro D hD xs ys hx hsi w
  obtain ⟨D, rfl⟩ : ∃ k, D = k + 1 := ⟨D - 1, by omega⟩
  have h0 := h
  unfold eqI at h
  split at h
  ·rename_i k hu
   split at h
   ·cases h
    have hag : isAggB P t = some false := by simp [isAggB, hu]
    match xs, ys, hx, hsi with
    | [x], [y], _, hsi =>
     obtain ⟨kk, a, b, rfl, rfl⟩ := hsi.2 0 x y rfl rfl
     refine ⟨a == b, by simpa [whole, hag] using run_equalIn_int w D t kk k a b hu, by simp⟩
    | [_], [], _, hsi => simp [SI] at hsi
    | [_], _ :: _ :: _, _, hsi => simp [SI] at hsi
   ·cases h
  ·rename_i n e hu
   split at h
   ·rename_i z0 z1 he hz
    split at h
    ·rename_i hq
     have hq := beq_nat hq
     subst hq
     cases h
     obtain ⟨hc, i, hi⟩ := info_size hz
     have hag : isAggB P t = some true := by simp [isAggB, hu]
     obtain ⟨r, g1, g2⟩ := eqItems_run (P := P) (D := D) (z := z0) (e := e) (xs := xs) (ys := ys) (fun l o ho w => part_whole he hz ho w) (fun o ho => eqI_run d e z0 he D (by omega) _ _ (by simp; omega) (hsi.sub o z0)) hsi.1 w (List.range n) (fun i hi => by
      simp only [List.mem_range] at hi
      rw [hx, ← Nat.succ_mul]; exact Nat.mul_le_mul_right _ (by omega))
     refine ⟨r, ?_, ?_⟩
     ·simp only [whole, hag]
      rw [run_equalIn_array w D _ _ hu hi, hc]; exact g1
     ·rw [g2]
      refine ⟨fun q => List.ext_getElem? fun j => ?_, fun q i hi => by rw [q]⟩
      by_cases hj : j < xs.length
      ·have hz0 : 0 < z0 := by
        rcases Nat.eq_zero_or_pos z0 with e0 | e0
        ·rw [e0] at hx; simp at hx; rw [hx] at hj; simp at hj
        ·exact e0
       have h1 := q (j / z0) (by simp only [List.mem_range]; exact Nat.div_lt_of_lt_mul (by rw [Nat.mul_comm]; omega))
       have h2 := congrArg (fun l => l[j % z0]?) h1
       have h3 : j / z0 * z0 + j % z0 = j := by rw [Nat.mul_comm]; exact Nat.div_add_mod j z0
       simpa [List.getElem?_take, List.getElem?_drop, Nat.mod_lt _ hz0, h3] using h2
      ·rw [List.getElem?_eq_none (by omega), List.getElem?_eq_none (by rw [← hsi.1]; omega)]
    ·cases h
   ·cases h
  ·rename_i fs hu
   split at h
   ·rename_i hst
    have hag : isAggB P t = some true := by simp [isAggB, hu]
    have hfo : P.fieldsOf t = fs := by simp [Program.fieldsOf, hu]
    obtain ⟨_, r, g1, g2⟩ := eqFields_run (P := P) (D := D) (f := eqI P d) (xs := xs) (ys := ys) hsi.1 (fun e z he hz l o ho w => part_whole he hz ho w) (fun e z he hz o ho => eqI_run d e z he D (by omega) _ _ (by simp; omega) (hsi.sub o z)) w fs.toList 0 z h (by omega)
    refine ⟨r, ?_, ?_⟩
    ·simp only [whole, hag]
     rw [run_equalIn_struct w D t _ _ (by rw [hfo]; exact hu) hst, hfo]; exact g1
    ·rw [g2]
     have hl := hsi.1
     simp only [List.drop_zero, Nat.sub_zero]
     rw [List.take_of_length_le (by omega), List.take_of_length_le (by omega)]
   ·cases h
  ·cases h
theorem eqSegs_sound {ρ : Rho} : ∀ {s s' : List Seg} {b : Bool} {c c' : List Value}, eqSegs s s' = some b → segsOk s → segsOk s' → FRep ρ (flat s) c → FRep ρ (flat s') c' → SI c c' ∧ (b = true ↔ c = c') := by
 have one : ∀ {k : IntKind} {a : List Int} {c : List Value} {r : List AC}, FRep ρ (a.map (.int k) ++ r) c → ∃ c2, c = a.map (Value.int k) ++ c2 ∧ FRep ρ r c2 := by
  intro k a c r h
  refine ⟨c.drop a.length, ?_, by have := h.1; simp at this ⊢; omega, fun j x v hx hv => ?_⟩
  ·conv => lhs; rw [← List.take_append_drop a.length c]
   congr 1
   refine List.ext_getElem? fun j => ?_
   rw [List.getElem?_take]
   by_cases hj : j < a.length
   ·rw [if_pos hj]
    have hlt : j < c.length := by have := h.1; simp at this; omega
    have := h.2 j (.int k a[j]) c[j] (by rw [List.getElem?_append_left (by simpa using hj)]; simp [hj]) (List.getElem?_eq_getElem hlt)
    simp only [CRep] at this
    simp [hj, hlt, this]
   ·rw [if_neg hj, List.getElem?_eq_none (by simpa using hj)]
  ·refine h.2 (a.length + j) x v (by rw [List.getElem?_append_right (by simp)]; simpa using hx) (by simpa using hv)
 intro s
 induction s with
 | nil =>
  intro s' b c c' h _ _ hc hc'
  cases s' with
  | nil =>
   simp only [eqSegs, Option.some.injEq] at h
   subst h
   obtain rfl : c = [] := List.length_eq_zero_iff.1 hc.1.symm
   obtain rfl : c' = [] := List.length_eq_zero_iff.1 hc'.1.symm
   exact ⟨⟨rfl, fun j x y hx => by simp at hx⟩, by simp⟩
  | cons y r => simp [eqSegs] at h
 | cons x r ih =>
  intro s' b c c' h ho ho' hc hc'
  have si : ∀ {k : IntKind} {a b : List Int}, a.length = b.length → SI (a.map (Value.int k)) (b.map (Value.int k)) := fun hl => ⟨by simpa using hl, fun j x y hx hy => by
   simp only [List.getElem?_map, Option.map_eq_some_iff] at hx hy
   obtain ⟨p, _, rfl⟩ := hx
   obtain ⟨q, _, rfl⟩ := hy
   exact ⟨_, _, _, rfl, rfl⟩⟩
  have inj : ∀ {k : IntKind} {a b : List Int}, a.map (Value.int k) = b.map (Value.int k) ↔ a = b := by
   intro k a b
   refine ⟨fun q => ?_, fun q => by rw [q]⟩
   have := congrArg (List.map fun v => match v with | Value.int _ n => n | _ => 0) q
   simpa [List.map_map, Function.comp_def] using this
  cases s' with
  | nil => cases x <;> simp [eqSegs] at h
  | cons y r' =>
   cases x with
   | bools n l => simp [eqSegs] at h
   | cells cs => simp [eqSegs] at h
   | ints k n a =>
    cases y with
    | bools n l => simp [eqSegs] at h
    | cells cs => simp [eqSegs] at h
    | ints k' n' b' =>
     simp only [eqSegs] at h
     split at h
     ·rename_i b2 h2
      split at h
      ·rename_i e1; subst e1
       split at h
       ·rename_i e2; subst e2
        cases h
        obtain ⟨c2, e3, f2⟩ := one (a := a) (r := flat r) hc
        obtain ⟨c2', e3', f2'⟩ := one (a := b') (r := flat r') hc'
        obtain ⟨g1, g2⟩ := ih h2 ho.2 ho'.2 f2 f2'
        have hl : a.length = b'.length := by rw [show a.length = n from ho.1, show b'.length = n from ho'.1]
        subst e3 e3'
        refine ⟨⟨by simp [hl, g1.1], fun j x y hx hy => ?_⟩, ?_⟩
        ·by_cases hj : j < a.length
         ·rw [List.getElem?_append_left (by simpa using hj)] at hx
          rw [List.getElem?_append_left (by simp; omega)] at hy
          exact (si hl).2 j x y hx hy
         ·rw [List.getElem?_append_right (by simp; omega)] at hx
          rw [List.getElem?_append_right (by simp; omega)] at hy
          simp only [List.length_map, ← hl] at hx hy
          exact g1.2 _ x y hx hy
        ·simp only [band2, Bool.and_eq_true, g2, leq, beq_iff_eq]
         refine ⟨fun q => by rw [q.1, q.2], fun q => ?_⟩
         obtain ⟨q1, q2⟩ := List.append_inj q (by simp [hl])
         exact ⟨inj.1 q1, q2⟩
       ·cases h
      ·cases h
     ·cases h
theorem aggEq_sound {P : Program} {ρ : Rho} {op : BinOp} {t : TypeId} {X Y : Operand} {s s' : List Seg} {v1 v2 : Value} {K : AV → Prop} (h : aggEq P op t s s' K) (hx : SRep ρ (.agg s) v1) (hy : SRep ρ (.agg s') v2) :
  ∃ b : Bool, (∀ w : World, (eqGuard op t X Y v1 v2).run P w = .ok () w) ∧ (∀ w : World, ∃ c c', v1 = .agg c ∧ v2 = .agg c' ∧ (Op.equalIn 10000 t (.agg c) (.agg c')).run P w = .ok b w) ∧ ((op = .eql ∧ K (.one (.bool b))) ∨ (op = .neq ∧ K (.one (.bool (bnot b))))) := by
 unfold aggEq at h
 split at h <;> try exact h.elim
 rename_i z b hz hb
 split at h <;> try exact h.elim
 rename_i hlen
 split at h <;> try exact h.elim
 rename_i hg hag
 obtain ⟨ho, c, rfl, hc⟩ := hx
 obtain ⟨ho', c', rfl, hc'⟩ := hy
 obtain ⟨hsi, hiff⟩ := eqSegs_sound hb ho ho' hc hc'
 have hl : c.length = z := by rw [← hc.1, flat_length ho, hlen]
 refine ⟨b, fun w => run_eqGuard_agg w op t X Y _ _ hg, fun w => ⟨c.toArray, c'.toArray, rfl, rfl, ?_⟩, ?_⟩
 ·obtain ⟨r, g1, g2⟩ := eqI_run 8 t z hz 10000 (by decide) c c' hl hsi w
  simp only [whole, hag] at g1
  rw [g1]
  have : r = b := by rw [Bool.eq_iff_iff, g2, hiff]
  rw [this]
 ·split at h
  ·exact Or.inl ⟨rfl, h⟩
  ·exact Or.inr ⟨rfl, h⟩
  ·exact h.elim
theorem srep_ints {ρ : Rho} {k : IntKind} {n : Nat} {l : List Int} {v : Value} (h : SRep ρ (.agg [.ints k n l]) v) : l.length = n ∧ v = .agg (l.map (Value.int k)).toArray := by
 obtain ⟨ho, cs, rfl, hf⟩ := h
 refine ⟨ho.1, ?_⟩
 congr 2
 apply List.ext_getElem?
 intro j
 have hlen := hf.1
 simp only [flat, Seg.flat, List.append_nil, List.length_map] at hlen
 by_cases hj : j < l.length
 ·have hc : j < cs.length := by omega
  have := hf.2 j (.int k l[j]) cs[j] (by simp [flat, Seg.flat, hj]) (List.getElem?_eq_getElem hc)
  simp only [CRep] at this
  simp [hj, hc, this]
 ·simp [hj, List.getElem?_eq_none (show cs.length ≤ j by omega)]
theorem srep_bools {ρ : Rho} {n : Nat} {l : List Bool} {v : Value} (h : SRep ρ (.agg [.bools n l]) v) : l.length = n ∧ v = .agg (l.map Value.bool).toArray := by
 obtain ⟨ho, cs, rfl, hf⟩ := h
 refine ⟨ho.1, ?_⟩
 congr 2
 apply List.ext_getElem?
 intro j
 have hlen := hf.1
 simp only [flat, Seg.flat, List.append_nil, List.length_map] at hlen
 by_cases hj : j < l.length
 ·have hc : j < cs.length := by omega
  have := hf.2 j (.bool l[j]) cs[j] (by simp [flat, Seg.flat, hj]) (List.getElem?_eq_getElem hc)
  simp only [CRep] at this
  simp [hj, hc, this]
 ·simp [hj, List.getElem?_eq_none (show cs.length ≤ j by omega)]
theorem boolx_sound {P : Program} {ρ : Rho} {op : BinOp} {t : TypeId} {X Y : Operand} {a b : Bool} {K : AV → Prop} (h : boolx P op t a b K) :
  ∃ v av, (∀ w : World, (do eqGuard op t X Y (.bool a) (.bool b); binOp op t (.bool a) (.bool b)).run P w = .ok v w) ∧ SRep ρ av v ∧ K av := by
 have guard : ∀ w : World, (eqGuard op t X Y (.bool a) (.bool b)).run P w = .ok () w := by intro w; cases op <;> simp [eqGuard]
 simp only [Sem.run_bind, guard, Result.andThen_ok]
 unfold boolx at h
 split at h <;> try exact h.elim
 rename_i hu
 have he : ∀ w : World, (Op.equalIn 10000 t (.bool a) (.bool b)).run P w = .ok (a == b) w := fun w => run_equalIn_bool' w 9999 t a b hu
 split at h
 ·exact okB (by intro w; simp only [binOp, Op.equal, Op.maxDepth, Sem.run_bind, he, Result.andThen_ok, Sem.run_pure, beq2]) h
 ·exact okB (by intro w; simp only [binOp, Op.equal, Op.maxDepth, Sem.run_bind, he, Result.andThen_ok, Sem.run_pure, beq2, bnot]) h
 ·exact h.elim
theorem nilcmp_sound {P : Program} {ρ : Rho} {op : BinOp} {t : TypeId} {X Y : Operand} {a b : Option Addr} {same : Bool} {K : AV → Prop} (h : nilcmp P op t same K) (hs : (a = none ∨ b = none) ∧ same = (a.isNone && b.isNone)) :
  ∃ v av, (∀ w : World, (do eqGuard op t X Y (.pointer a) (.pointer b); binOp op t (.pointer a) (.pointer b)).run P w = .ok v w) ∧ SRep ρ av v ∧ K av := by
 have guard : ∀ w : World, (eqGuard op t X Y (.pointer a) (.pointer b)).run P w = .ok () w := by intro w; cases op <;> simp [eqGuard]
 unfold nilcmp at h
 split at h <;> try exact h.elim
 rename_i e hu
 have hd : ∀ (d : Nat) (w : World), (Op.equalIn (d + 1) t (.pointer a) (.pointer b)).run P w = .ok same w := by
  intro d w
  rw [hs.2]
  rcases hs.1 with rfl | rfl
  ·cases b <;> simp [Op.equalIn, run_underlying hu]
  ·cases a <;> simp [Op.equalIn, run_underlying hu]
 have he : ∀ w : World, (Op.equalIn 10000 t (.pointer a) (.pointer b)).run P w = .ok same w := fun w => hd 9999 w
 split at h
 ·exact ⟨.bool same, .one (.lit same), by intro w; simp only [Sem.run_bind, guard, Result.andThen_ok, binOp, Op.equal, Op.maxDepth, he, Sem.run_pure], rfl, h⟩
 ·exact ⟨.bool !same, .one (.lit !same), by intro w; simp only [Sem.run_bind, guard, Result.andThen_ok, binOp, Op.equal, Op.maxDepth, he, Sem.run_pure], rfl, h⟩
 ·exact h.elim
theorem binx_sound {P : Program} {ρ : Rho} {op : BinOp} {t : TypeId} {X Y : Operand} {x y : AV} {v1 v2 : Value} {K : AV → Prop} (h : binx P op t x y K) (hx : SRep ρ x v1) (hy : SRep ρ y v2) :
  ∃ v av, (∀ w : World, (do eqGuard op t X Y v1 v2; binOp op t v1 v2).run P w = .ok v w) ∧ SRep ρ av v ∧ K av := by
 unfold binx at h
 split at h
 ·cases (show v1 = _ from hx); cases (show v2 = _ from hy.1); exact nilcmp_sound h ⟨Or.inr rfl, rfl⟩
 ·cases (show v1 = _ from hx.1); cases (show v2 = _ from hy); exact nilcmp_sound h ⟨Or.inl rfl, rfl⟩
 ·cases (show v1 = _ from hx.1); cases (show v2 = _ from hy.1); exact nilcmp_sound h ⟨Or.inl rfl, rfl⟩
 ·rename_i k a k' b
  cases (show v1 = _ from hx)
  cases (show v2 = _ from hy)
  have guard : ∀ w : World, (eqGuard op t X Y (.int k a) (.int k' b)).run P w = .ok () w := by intro w; cases op <;> simp [eqGuard]
  simp only [Sem.run_bind, guard, Result.andThen_ok]
  split at h
  ·refine okI ?_ h.2
   have := h.1.le
   simp [binOp, Op.shift, shl, show ¬ b < 0 by omega]
  ·refine okI ?_ h.2
   have := h.1.le
   simp [binOp, Op.shift, shr, show ¬ b < 0 by omega]
  ·rename_i h1 h2
   split at h
   ·rename_i hk; subst hk
    exact intBin_sound h (fun e => h1 e) (fun e => h2 e)
   ·exact h.elim
 ·rename_i a b
  cases (show v1 = _ from hx)
  cases (show v2 = _ from hy)
  have guard : ∀ w : World, (eqGuard op t X Y (.string a) (.string b)).run P w = .ok () w := by intro w; cases op <;> simp [eqGuard]
  simp only [Sem.run_bind, guard, Result.andThen_ok]
  split at h
  ·exact okB (by simp [binOp, Op.stringOp, seq2]) h
  ·exact okB (by simp [binOp, Op.stringOp, seq2, bnot]) h
  ·have hle := h.1.le
   have hn : ¬ ((a.size + b.size : Nat) : Int) > IntKind.i64.max := by
    have e : IntKind.i64.max = 9223372036854775807 := rfl
    simp only [nadd, slen_] at hle
    rw [e]; omega
   exact ⟨_, .one (.str (sadd a b)), by intro w; simp only [binOp, Op.stringOp, sadd, if_neg hn, Sem.run_pure], rfl, h.2⟩
  ·exact h.elim
 ·cases (show v1 = _ from hx); cases (show v2 = _ from hy); exact boolx_sound h
 ·cases (show v1 = _ from hx); cases (show v2 = _ from hy); exact boolx_sound h
 ·cases (show v1 = _ from hx); cases (show v2 = _ from hy); exact boolx_sound h
 ·cases (show v1 = _ from hx); cases (show v2 = _ from hy); exact boolx_sound h
 ·rename_i k n a k' n' b
  obtain ⟨hl1, rfl⟩ := srep_ints hx
  obtain ⟨hl2, rfl⟩ := srep_ints hy
  split at h
  ·rename_i kk m hi
   split at h <;> try exact h.elim
   split at h <;> try exact h.elim
   split at h <;> try exact h.elim
   split at h <;> try exact h.elim
   rename_i e1 e2 e3 e4
   subst e1 e2 e3
   obtain ⟨hg, hr⟩ := run_eq_ints (kk := kk) (l1 := a) (l2 := b) hi hl1 (by omega)
   have guard : ∀ w : World, (eqGuard op t X Y (.agg (a.map (Value.int kk)).toArray) (.agg (b.map (Value.int kk)).toArray)).run P w = .ok () w := fun w => run_eqGuard_agg w op t X Y _ _ hg
   simp only [Sem.run_bind, guard, Result.andThen_ok]
   split at h
   ·exact okB (by intro w; rw [run_eql_struct, hr]; simp) h
   ·exact okB (by intro w; rw [run_neq_struct, hr]; simp [bnot]) h
   ·exact h.elim
  ·obtain ⟨b', g1, g2, g3⟩ := aggEq_sound (X := X) (Y := Y) h hx hy
   simp only [Sem.run_bind, g1, Result.andThen_ok]
   rcases g3 with ⟨rfl, hK⟩ | ⟨rfl, hK⟩
   ·exact okB (by intro w; obtain ⟨c, c', e1, e2, g⟩ := g2 w; rw [e1, e2, run_eql_struct, g]; simp) hK
   ·exact okB (by intro w; obtain ⟨c, c', e1, e2, g⟩ := g2 w; rw [e1, e2, run_neq_struct, g]; simp [bnot]) hK
 ·obtain ⟨b', g1, g2, g3⟩ := aggEq_sound (X := X) (Y := Y) h hx hy
  simp only [Sem.run_bind, g1, Result.andThen_ok]
  rcases g3 with ⟨rfl, hK⟩ | ⟨rfl, hK⟩
  ·exact okB (by intro w; obtain ⟨c, c', e1, e2, g⟩ := g2 w; rw [e1, e2, run_eql_struct, g]; simp) hK
  ·exact okB (by intro w; obtain ⟨c, c', e1, e2, g⟩ := g2 w; rw [e1, e2, run_neq_struct, g]; simp [bnot]) hK
 ·exact h.elim
section
variable {P : Program} {ρ : Rho} {σ : Mem} {w : World} {K : AV → Prop}
theorem ok1 {m : Sem Value} {v : Value} {a : AC} (hr : ∀ w : World, m.run P w = .ok v w) (hv : CRep ρ a v) (h : K (.one a)) : ∃ v av, (∀ w : World, m.run P w = .ok v w) ∧ SRep ρ av v ∧ K av := ⟨_, .one a, hr, hv, h⟩
theorem load_run {T : TypeId} {s : Nat} (hag : isAggB P T = some true) (hsz : sizeB P T = some s) {w' : World} {a : Addr} {k : IntKind} {l : List Int} (hl : l.length = s) (h : ∀ (j : Nat) x, l[j]? = some x → w'.cell? (a.add j) = some (.int k x)) :
  (loadVar T a).run P w' = .ok (.agg (l.map (Value.int k)).toArray) w' := by
 have hrun := run_loadCells_list (P := P) w' a (l.map (Value.int k)) (fun j v hv => by
  simp only [List.getElem?_map, Option.map_eq_some_iff] at hv
  obtain ⟨x, hx, rfl⟩ := hv
  exact h j x hx)
 simp only [List.length_map, hl] at hrun
 simp [loadVar, run_isAggB hag, run_sizeB hsz, hrun]
theorem ints_srep (ρ : Rho) {k : IntKind} {z : Nat} {l : List Int} (h : l.length = z) : SRep ρ (.agg [.ints k z l]) (.agg (l.map (Value.int k)).toArray) := ⟨⟨h, trivial⟩, _, rfl, ints_FRep ρ k z l⟩
theorem rowVal_all {L : Loc} {cs : List Col} {b c : Nat} {col : Col} (h : colAt cs b 0 = some (c, col)) (i j : Nat) (hj : j < col.kd.width) : b + j < cwidth cs ∧ rowVal L cs 0 i (b + j) = colVal L c col i j ∧ cs[c]? = some col := by
 obtain ⟨_, h2, h3, h4⟩ := colAt_sound (L := L) h
 exact ⟨by omega, h4 i j hj, by simpa using h2⟩
theorem segsAt_ok {N : Nat} {n i : Nat} (hi : i < N) : ∀ {cs : List Col} (c : Nat), (∀ x ∈ cs, x.ok N) → segsOk (segsAt n i c cs) ∧ slen (segsAt n i c cs) = cwidth cs
  | [], _, _ => ⟨trivial, rfl⟩
  | x :: r, c, h => by
    obtain ⟨h1, h2⟩ := segsAt_ok (n := n) hi (c + 1) fun y hy => h y (List.mem_cons_of_mem _ hy)
    have hx := h x (by simp)
    have e : cwidth (x :: r) = x.kd.width + cwidth r := rfl
    cases x <;> simp only [segsAt, segOf, segsOk, slen, Seg.ok, Seg.len] at * <;> first
      | exact ⟨⟨trivial, h1⟩, by rw [h2, e]; rfl⟩
      | (refine ⟨⟨?_, h1⟩, by rw [h2, e]; rfl⟩
         obtain ⟨q1, q2⟩ := hx
         exact q2 _ (List.mem_of_getElem? (llget_some (by omega))))
theorem hget_some {l : List HS} {i : Nat} (h : i < l.length) : l[i]? = some (hget l i) := by
 simp [hget, List.getD, h]
theorem segsAt_rep {ρ : Rho} {n i : Nat} {L : Loc} (hL : L = ρ n) (hi : i < L.len) : ∀ {cs : List Col} (c : Nat), (∀ x ∈ cs, x.ok L.len) → (∀ q k l, cs[q]? = some (.hss k l) → ∀ i d, l[i]? = some d → CRep ρ (.hs k d.j d.off d.len) (.slice (L.el (c + q) i).a (L.el (c + q) i).len (L.el (c + q) i).cap)) → ∀ (j : Nat) a, (flat (segsAt n i c cs))[j]? = some a → CRep ρ a (rowVal L cs c i j)
  | [], _, _, _ => fun j a h => by simp [segsAt, flat] at h
  | x :: r, c, h, hlk => fun j a ha => by
    have hx := h x (by simp)
    have ho : (segOf n i c x).ok := by
      cases x <;> simp only [segOf, Seg.ok]
      obtain ⟨q1, q2⟩ := hx
      exact q2 _ (List.mem_of_getElem? (llget_some (by omega)))
    have hw : (segOf n i c x).len = x.kd.width := by cases x <;> rfl
    have hfl := Seg.flat_length ho
    simp only [segsAt, flat] at ha
    simp only [rowVal]
    by_cases hj : j < x.kd.width
    · rw [if_pos hj]
      rw [List.getElem?_append_left (by omega)] at ha
      cases x <;> simp only [segOf, Seg.flat, colVal, Col.kd, Kd.width] at ha hj ⊢
      case arrs k m l =>
        simp only [List.getElem?_map, Option.map_eq_some_iff] at ha
        obtain ⟨z, hz, rfl⟩ := ha
        have hlt := (List.getElem?_eq_some_iff.1 hz).1
        rw [lget_some hlt] at hz
        cases hz; rfl
      all_goals
        (have : j = 0 := by omega
         subst this
         simp at ha; subst ha)
      · rfl
      · rfl
      · subst hL; exact ⟨rfl, hi⟩
      · rfl
      · have := hlk 0 _ _ rfl i _ (hget_some (by rw [show _ = _ from hx]; exact hi))
        exact this
    · rw [if_neg hj]
      rw [List.getElem?_append_right (by omega)] at ha
      rw [hfl, hw] at ha
      exact segsAt_rep hL hi (c + 1) (fun y hy => h y (List.mem_cons_of_mem _ hy)) (fun q k l hq => by rw [show c + 1 + q = c + (q + 1) by omega]; exact hlk (q + 1) k l (by simpa using hq)) _ a ha
theorem loadV_sound {T : TypeId} {n z i b j : Nat} {v1 : Value} (h : loadV P σ T n z i b j K) (hm : MemRep ρ σ w) (hx : SRep ρ (.one (.vptr n z i b j)) v1) :
  ∃ v av bk, Mem.find σ n = some bk ∧ (∀ w' : World, (∀ k, Foot ρ n bk k → w'.heap[k]? = w.heap[k]?) → (Instr.loadAt T v1).run P w' = .ok v w') ∧ SRep ρ av v ∧ K av := by
 obtain ⟨rfl, hi⟩ := hx
 unfold loadV at h
 split at h <;> try exact h.elim
 rename_i cs hcs
 obtain ⟨hV, bk, hbk, _, hfoot⟩ := cols_sound hm hcs
 split at h <;> try exact h.elim
 rename_i hz
 have hz' : z = cwidth cs := beq_nat hz
 subst hz'
 have here : ∀ w' : World, (∀ k, Foot ρ n bk k → w'.heap[k]? = w.heap[k]?) → VRep w' (ρ n) cs := fun w' hw => hV.keeps fun k hk => hw k (hfoot k hk)
 have addr : ∀ (m : Sem Value) (w' : World) (q : Nat) (v : Value), (loadVar T (at_ ρ n q)).run P w' = .ok v w' → (Instr.loadAt T (.pointer (some (at_ ρ n q)))).run P w' = .ok v w' := fun m w' q v hr => by simp [Instr.loadAt, Instr.sureAddr, hr]
 have fin : ∀ {v : Value} {av : AV}, (∀ w' : World, VRep w' (ρ n) cs → (loadVar T (at_ ρ n (i * cwidth cs + b + j))).run P w' = .ok v w') → SRep ρ av v → K av →
   ∃ v av bk, Mem.find σ n = some bk ∧ (∀ w' : World, (∀ k, Foot ρ n bk k → w'.heap[k]? = w.heap[k]?) → (Instr.loadAt T (.pointer (some (at_ ρ n (i * cwidth cs + b + j))))).run P w' = .ok v w') ∧ SRep ρ av v ∧ K av :=
  fun {v av} hr hs hk => ⟨v, av, bk, hbk, fun w' hw => addr (pure v) w' _ v (hr w' (here w' hw)), hs, hk⟩
 have hL : ∀ {col : Col} {c : Nat}, cs[c]? = some col → col.ok (ρ n).len := fun hc => hV.ok _ (List.mem_of_getElem? hc)
 split at h
 ·rename_i s hag hsz
  have whole : b = 0 → Nat.beq s (cwidth cs) = true → j = 0 → K (.agg (segsAt n i 0 cs)) → _ := fun hb hs hj hK => by
   subst hb hj
   have hs := beq_nat hs
   subst hs
   obtain ⟨g1, g2⟩ := segsAt_ok (n := n) hi 0 hV.ok
   have g3 := segsAt_rep (ρ := ρ) (n := n) (i := i) rfl hi 0 hV.ok (fun q k l hq => by rw [Nat.zero_add]; exact cols_lnk hm hcs q k l hq)
   have hfl := flat_length g1
   refine fin (v := .agg ((List.range (cwidth cs)).map fun t => rowVal (ρ n) cs 0 i t).toArray) (av := .agg (segsAt n i 0 cs)) (fun w' hw => ?_) ⟨g1, _, rfl, by simp [hfl, g2], fun q a u ha hu => ?_⟩ hK
   ·have hrun := run_loadCells (P := P) w' (at_ ρ n (i * cwidth cs + 0 + 0)) (cwidth cs) (fun t => rowVal (ρ n) cs 0 i t) (fun t ht => by
     rw [at_add]; exact hw.cells i hi t ht)
    simp only [Nat.add_zero] at hrun ⊢
    simp [loadVar, run_isAggB hag, run_sizeB hsz, hrun]
   ·simp only [List.getElem?_map, Option.map_eq_some_iff] at hu
    obtain ⟨t, ht, rfl⟩ := hu
    have : t = q := by
     have hlt := (List.getElem?_eq_some_iff.1 ht)
     obtain ⟨h1, h2⟩ := hlt
     simpa using h2.symm
    subst this
    exact g3 t a ha
  split at h <;> try exact h.elim
  split at h
  ·rename_i c k m l hc
   split at h
   ·rename_i hms
    have hms := beq_nat hms
    subst hms
    have hcs : cs[c]? = some (.arrs k m l) := by have := (colAt_sound (L := ρ n) hc).2.1; simpa using this
    obtain ⟨q1, q2⟩ := hL hcs
    have hlen : (llget l i).length = m := q2 _ (List.mem_of_getElem? (llget_some (by omega)))
    refine fin (fun w' hw => ?_) (ints_srep ρ hlen) h
    refine load_run hag hsz hlen fun t x hx => ?_
    have ht := (List.getElem?_eq_some_iff.1 hx).1
    obtain ⟨r1, r2, _⟩ := rowVal_all (L := ρ n) hc i t (by show t < m; omega)
    have := hw.cells i hi (b + t) r1
    rw [at_add, show i * cwidth cs + b + 0 + t = i * cwidth cs + (b + t) by omega]
    rw [lget_some ht] at hx; cases hx
    exact this.trans (by rw [r2]; rfl)
   ·split at h <;> try exact h.elim
    exact whole rfl (by assumption) rfl h
  ·rename_i c k l hc
   split at h
   ·rename_i hone
    have hcs : cs[c]? = some (.ints k l) := by have := (colAt_sound (L := ρ n) hc).2.1; simpa using this
    have hlen : l.length = (ρ n).len := hL hcs
    have hb0 : b = 0 := by have := (colAt_sound (L := ρ n) hc).2.2.1; have e : (Col.ints k l).kd.width = 1 := rfl; rw [e] at this; omega
    subst hb0
    have hle : i + s ≤ l.length := h.1.le
    refine fin (fun w' hw => ?_) (ints_srep ρ (lsub_len l i s hle)) h.2
    refine load_run hag hsz (lsub_len l i s hle) fun t x hx => ?_
    rw [lsub_get] at hx
    split at hx
    ·have hlt := (List.getElem?_eq_some_iff.1 hx).1
     obtain ⟨r1, r2, _⟩ := rowVal_all (L := ρ n) hc (i + t) 0 (by show 0 < 1; omega)
     have := hw.cells (i + t) (by omega) (0 + 0) r1
     rw [at_add]
     rw [lget_some hlt] at hx; cases hx
     rw [r2] at this
     rw [hone] at this ⊢
     have e : at_ ρ n = (ρ n).at := rfl
     rw [e]
     exact (by simpa [colVal] using this)
    ·cases hx
   ·split at h <;> try exact h.elim
    exact whole rfl (by assumption) rfl h
  ·split at h <;> try exact h.elim
   exact whole rfl (by assumption) rfl h
  ·exact h.elim
 ·rename_i s hag hsz
  have one : ∀ {c : Nat} {col : Col} {ac : AC}, colAt cs b 0 = some (c, col) → j < col.kd.width → CRep ρ ac (colVal (ρ n) c col i j) → K (.one ac) → _ := fun {c col ac} hc hj hr hK => by
   obtain ⟨r1, r2, _⟩ := rowVal_all (L := ρ n) hc i j hj
   refine fin (v := colVal (ρ n) c col i j) (av := .one ac) (fun w' hw => ?_) hr hK
   have := hw.cells i hi (b + j) r1
   rw [r2] at this
   simp [loadVar, run_isAggB hag, show i * cwidth cs + b + j = i * cwidth cs + (b + j) by omega, show w'.cell? (at_ ρ n (i * cwidth cs + (b + j))) = _ from this]
  split at h
  ·rename_i c k l hc
   split at h <;> try exact h.elim
   exact one (ac := .int k (lget l i)) hc (by show 0 < 1; omega) rfl h
  ·rename_i c l hc
   split at h <;> try exact h.elim
   exact one (ac := .bool (lgetb l i)) hc (by show 0 < 1; omega) rfl h
  ·rename_i c k l hc
   split at h <;> try exact h.elim
   exact one (ac := .el n c i) hc (by show 0 < 1; omega) ⟨rfl, hi⟩ h
  ·rename_i c l hc
   split at h <;> try exact h.elim
   exact one (ac := .str (sgets l i)) hc (by show 0 < 1; omega) rfl h
  ·rename_i c k l hc
   split at h <;> try exact h.elim
   have hcs' : cs[c]? = some (.hss k l) := by have := (colAt_sound (L := ρ n) hc).2.1; simpa using this
   have hlen : l.length = (ρ n).len := hL hcs'
   exact one (ac := .hs k (hj (hget l i)) (ho (hget l i)) (hl (hget l i))) hc (by show 0 < 1; omega) (cols_lnk hm hcs c k l hcs' i _ (hget_some (by omega))) h
  ·rename_i c k m l hc
   exact one (ac := .int k (lget (llget l i) j)) hc h.1.lt rfl h.2
  ·exact h.elim
 ·exact h.elim
theorem loadE_sound {T : TypeId} {n c i o : Nat} {v1 : Value} (h : loadE P σ T n c i o K) (hm : MemRep ρ σ w) (hx : SRep ρ (.one (.eptr n c i o)) v1) :
  ∃ v av bk, Mem.find σ n = some bk ∧ (∀ w' : World, (∀ k, Foot ρ n bk k → w'.heap[k]? = w.heap[k]?) → (Instr.loadAt T v1).run P w' = .ok v w') ∧ SRep ρ av v ∧ K av := by
 obtain ⟨a, ha, rfl, ho, hi⟩ := hx
 unfold loadE at h
 split at h <;> try exact h.elim
 rename_i k ll hr
 obtain ⟨cs, hc, hlen, hV, bk, hbk, _, hfoot⟩ := rows_sound hm hr
 have here : ∀ w' : World, (∀ k, Foot ρ n bk k → w'.heap[k]? = w.heap[k]?) → EltRep w' ((ρ n).el c i) k (llget ll i) := fun w' hw => (hV.keeps fun k hk => hw k (hfoot k hk)).inner c k ll hc i _ (llget_some (by omega))
 have hn : ((ρ n).el c i).len = (llget ll i).length := (hV.inner c k ll hc i _ (llget_some (by omega))).1
 split at h
 ·rename_i s hag hsz
  have hle : o + s ≤ (llget ll i).length := h.1.le
  refine ⟨_, _, bk, hbk, fun w' hw => ?_, ints_srep ρ (lsub_len _ o s hle), h.2⟩
  have hE := here w' hw
  have := load_run (P := P) (w' := w') (a := a.add o) hag hsz (lsub_len _ o s hle) fun t x hx => by
   rw [lsub_get] at hx
   split at hx
   ·rw [addr_add_add]
    exact hE.2.2.2 _ x hx a ha
   ·cases hx
  simp [Instr.loadAt, Instr.sureAddr, this]
 ·rename_i s hag hsz
  refine ⟨.int k (lget (llget ll i) o), .one (.int k (lget (llget ll i) o)), bk, hbk, fun w' hw => ?_, rfl, h⟩
  have hE := here w' hw
  have := hE.2.2.2 o _ (lget_some (by omega)) a ha
  simp [Instr.loadAt, Instr.sureAddr, loadVar, run_isAggB hag, this]
 ·exact h.elim
theorem loadH_sound {T : TypeId} {k : IntKind} {j i : Nat} {v1 : Value} (h : loadH P σ T k j i K) (hm : MemRep ρ σ w) (hx : SRep ρ (.one (.hp k j i)) v1) :
  ∃ v av bk, Mem.find σ (hname k) = some bk ∧ (∀ w' : World, (∀ q, Foot ρ (hname k) bk q → w'.heap[q]? = w.heap[q]?) → (Instr.loadAt T v1).run P w' = .ok v w') ∧ SRep ρ av v ∧ K av := by
 obtain ⟨a, ha, rfl, hi, hj⟩ := hx
 unfold loadH at h
 split at h <;> try exact h.elim
 rename_i os ho
 obtain ⟨g1, g2, g3, g4⟩ := heap_obj hm ho hj
 obtain ⟨f1, f2, f3⟩ := Elt.loc_facts ((ρ (hname k)).el 0 j)
 have hcap : ((ρ (hname k)).el 0 j).cap ≠ 0 := by have := g1.cap; rw [f2, f3] at this; omega
 have here : ∀ w' : World, (∀ q, Foot ρ (hname k) (.heap k os) q → w'.heap[q]? = w.heap[q]?) → ∀ (t : Nat) x, (llget os j)[t]? = some x → w'.cell? (a.add t) = some (.int k x) := fun w' hw t x hx => by
  have hV := g1.keeps (w' := w') fun q hq => by
   rcases hq with ⟨q1, rfl⟩ | ⟨c, kk, ll, i', l', a', hc, _⟩
   ·exact hw _ ⟨j, hj, hcap, rfl⟩
   ·cases c <;> simp at hc
  have hlt := (List.getElem?_eq_some_iff.1 hx).1
  have had := hV.adr (by rw [f2]; omega)
  rw [f1, ha] at had
  cases had
  have := hV.cells t (by rw [f2]; omega) 0 (by show 0 < 1; omega)
  have e1 : cwidth [Col.ints k (llget os j)] = 1 := rfl
  rw [e1, Nat.mul_one, Nat.add_zero] at this
  rw [Loc.at_add, Nat.zero_add, this]
  simp [rowVal, Col.kd, Kd.width, colVal, lget, List.getD, hx]
 split at h
 ·rename_i s hag hsz
  have hle : i + s ≤ (llget os j).length := h.1.le
  refine ⟨_, _, _, heap_find ho, fun w' hw => ?_, ints_srep ρ (lsub_len _ i s hle), h.2⟩
  have := load_run (P := P) (w' := w') (a := a.add i) hag hsz (lsub_len _ i s hle) fun t x hx => by
   rw [lsub_get] at hx
   split at hx
   ·rw [addr_add_add]
    exact here w' hw _ x hx
   ·cases hx
  simp [Instr.loadAt, Instr.sureAddr, this]
 ·rename_i s hag hsz
  refine ⟨.int k (lget (llget os j) i), .one (.int k (lget (llget os j) i)), _, heap_find ho, fun w' hw => ?_, rfl, h⟩
  have := here w' hw i _ (lget_some (by omega))
  simp [Instr.loadAt, Instr.sureAddr, loadVar, run_isAggB hag, this]
 ·exact h.elim
theorem lenOfV_sound {x : AV} {v : Value} {n : Nat} (h : lenOfV P σ x = some n) (hm : MemRep ρ σ w) (hx : SRep ρ x v) : ∃ A cap, v = .slice A n cap ∧ n ≤ cap := by
 unfold lenOfV at h
 split at h
 ·rename_i m
  simp only [Option.map_eq_some_iff] at h
  obtain ⟨cs, hcs, rfl⟩ := h
  obtain ⟨hV, _⟩ := cols_sound hm hcs
  rw [hV.len]
  exact ⟨_, _, hx, hV.cap⟩
 ·cases h
  obtain ⟨A, cap, rfl, h2, _⟩ := hx
  exact ⟨A, cap, rfl, h2⟩
 ·cases h
  obtain ⟨A, cap, rfl, h2, _⟩ := hx
  exact ⟨A, cap, rfl, h2⟩
 ·rename_i m c i
  simp only [Option.map_eq_some_iff] at h
  obtain ⟨⟨k, ll⟩, hr, rfl⟩ := h
  obtain ⟨cs, hc, hlen, hV, _⟩ := rows_sound hm hr
  obtain ⟨rfl, hi⟩ := hx
  obtain ⟨h1, h2, _⟩ := hV.inner c k ll hc i _ (llget_some (by omega))
  have e : ((ρ m).el c i).len = llen (llget ll i) := h1
  exact ⟨_, _, by rw [e], by rw [← e]; exact h2⟩
 ·cases h
  obtain ⟨A, cap, rfl, h2, _⟩ := hx
  exact ⟨A, cap, rfl, h2⟩
 ·cases h
  obtain ⟨A, cap, rfl, h2, _⟩ := hx
  exact ⟨A, cap, rfl, h2⟩
 ·cases h
end
section
variable {P : Program} {ρ : Rho} {σ : Mem} {w0 : World} {K : AV → Prop}
theorem unx_sound {op : UnOp} {x : AV} {v1 : Value} (h : unx op x K) (hx : SRep ρ x v1) : ∃ v av, (∀ w : World, (Op.unary op v1).run P w = .ok v w) ∧ SRep ρ av v ∧ K av := by
 unfold unx at h
 split at h
 ·cases (show v1 = _ from hx); exact okI (by simp [Op.unary, Op.intArith, sub]) h
 ·cases (show v1 = _ from hx); exact okI (by simp [Op.unary, Op.intBits, bxor, bits]) h
 ·cases (show v1 = _ from hx); exact okB (by simp [Op.unary, bnot]) h
 ·rename_i b
  cases (show v1 = _ from hx); exact ok1 (a := .lit (!b)) (v := .bool (!b)) (by simp [Op.unary]) rfl h
 ·exact h.elim
theorem convx_sound {s d : TypeId} {x : AV} {v1 : Value} (h : convx P s d x K) (hx : SRep ρ x v1) : ∃ v av, (∀ w : World, (convert s d v1).run P w = .ok v w) ∧ SRep ρ av v ∧ K av := by
 unfold convx at h
 split at h
 ·cases (show v1 = _ from hx)
  split at h
  ·rename_i hs hd
   refine okI (fun w => ?_) h
   unfold convert
   simp only [Sem.run_bind, run_underlying hs, run_underlying hd, Result.andThen_ok]
   simp [Conv.intToInt, conv]
  ·exact h.elim
 ·exact h.elim
theorem indexAddrx_sound {t : TypeId} {x ix : AV} {v1 v2 : Value} (h : indexAddrx P σ t x ix K) (hm : MemRep ρ σ w0) (hx : SRep ρ x v1) (hi : SRep ρ ix v2) :
  ∃ v av, (∀ w : World, (Instr.indexAt t v1 v2).run P w = .ok v w) ∧ SRep ρ av v ∧ K av := by
 unfold indexAddrx at h
 split at h
 ·
  rename_i n k i
  cases (show v1 = _ from hx); cases (show v2 = _ from hi)
  split at h <;> try exact h.elim
  rename_i e hu
  split at h <;> try exact h.elim
  rename_i z cs hz hcs
  split at h <;> try exact h.elim
  rename_i hzw
  have hzw : z = cwidth cs := beq_nat hzw
  obtain ⟨hV, _⟩ := cols_sound hm hcs
  have h0 := h.1.lo; have h1 := h.1.hi
  have hl := hV.len
  have had := hV.adr (by omega)
  refine ok1 (a := .vptr n z (nat i) 0 0) ?_ ⟨rfl, by simp only [nat]; omega⟩ h.2
  intro w
  have e : ((ρ n).at 0).add (i.toNat * z) = at_ ρ n (nat i * z + 0 + 0) := by
   rw [Loc.at_add]; simp only [Loc.at, at_, nat]; congr 1; omega
  simp [Instr.indexAt, asIntOf, run_underlying hu, Instr.sureAddr, run_sizeB hz, h0, show i < ((ρ n).len : Int) by omega, had, e]
 ·rename_i n z b len k i
  cases (show v2 = _ from hi)
  obtain ⟨A, cap, rfl, g1, g2, g3, g4, _⟩ := hx
  split at h <;> try exact h.elim
  rename_i e hu
  split at h <;> try exact h.elim
  rename_i z' hz
  split at h <;> try exact h.elim
  rename_i hzz
  subst hzz
  have h0 := h.1.lo; have h1 := h.1.hi
  rcases g3 with g3 | ⟨g3, rfl⟩
  ·omega
  ·have had := g4 (by omega)
   refine ok1 (a := .vptr n z' (nadd b (nat i)) 0 0) ?_ ⟨rfl, by simp only [nat, nadd]; omega⟩ h.2
   intro w
   have e : (((ρ n).at 0).add (b * z')).add (i.toNat * z') = at_ ρ n (nadd b (nat i) * z' + 0 + 0) := by
    rw [addr_add_add, Loc.at_add]; simp only [at_, Loc.at, nat, nadd, Nat.add_mul]; congr 1; omega
   simp [Instr.indexAt, asIntOf, run_underlying hu, Instr.sureAddr, run_sizeB hz, h0, h1, had, e]
 ·rename_i n c r k i
  cases (show v2 = _ from hi)
  obtain ⟨rfl, hi⟩ := hx
  split at h <;> try exact h.elim
  rename_i e hu
  split at h <;> try exact h.elim
  rename_i k' ll hz hr
  obtain ⟨cs, hc, hlen, hV, _⟩ := rows_sound hm hr
  obtain ⟨q1, q2, q3, q4⟩ := hV.inner c _ ll hc r _ (llget_some (by omega))
  have h0 := h.1.lo; have h1 := h.1.hi
  have e1 : llen (llget ll r) = (llget ll r).length := rfl
  obtain ⟨a, ha⟩ := q3 (fun e => by rw [e1, e] at h1; simp at h1; omega)
  refine ok1 (a := .eptr n c r (nat i)) ?_ ⟨a, ha, rfl, by simp only [nat]; omega, hi⟩ h.2
  intro w
  simp [Instr.indexAt, asIntOf, run_underlying hu, Instr.sureAddr, run_sizeB hz, h0, show i < (((ρ n).el c r).len : Int) by omega, ha, nat]
 ·rename_i n c r o len k i
  cases (show v2 = _ from hi)
  obtain ⟨A, cap, rfl, g1, g2, g3, g4, g5⟩ := hx
  split at h <;> try exact h.elim
  rename_i e hu
  split at h <;> try exact h.elim
  rename_i hz
  have h0 := h.1.lo; have h1 := h.1.hi
  rcases g4 with g4 | rfl
  ·omega
  ·obtain ⟨a, ha⟩ := g5 (by omega)
   refine ok1 (a := .eptr n c r (nadd o (nat i))) ?_ ⟨a, ha, rfl, by simp only [nat, nadd]; omega, g3⟩ h.2
   intro w
   simp [Instr.indexAt, asIntOf, run_underlying hu, Instr.sureAddr, run_sizeB hz, h0, h1, ha, addr_add_add, nadd, nat]
 ·rename_i q j o len k i
  cases (show v2 = _ from hi)
  obtain ⟨A, cap, rfl, g1, g2, g3, g4, g5, g6⟩ := hx
  split at h <;> try exact h.elim
  rename_i e hu
  split at h <;> try exact h.elim
  rename_i hz
  have h0 := h.1.lo; have h1 := h.1.hi
  rcases g4 with g4 | rfl
  ·omega
  ·obtain ⟨a, ha⟩ := g6 (by omega)
   refine ok1 (a := .hp q j (nadd o (nat i))) ?_ ⟨a, ha, rfl, by simp only [nat, nadd]; omega, g3⟩ h.2
   intro w
   simp [Instr.indexAt, asIntOf, run_underlying hu, Instr.sureAddr, run_sizeB hz, h0, h1, ha, addr_add_add, nadd, nat]
 ·rename_i n z r b j k i
  cases (show v2 = _ from hi)
  obtain ⟨rfl, hr⟩ := hx
  split at h <;> try exact h.elim
  rename_i len e hu
  split at h <;> try exact h.elim
  rename_i hz
  have h0 := h.1.lo; have h1 := h.1.hi
  refine ok1 (a := .vptr n z r b (nadd j (nat i))) ?_ ⟨rfl, hr⟩ h.2
  intro w
  simp [Instr.indexAt, asIntOf, run_underlying hu, Instr.sureAddr, run_sizeB hz, h0, h1, at_add, nadd, nat, Nat.add_assoc]
 ·rename_i n base idx k i
  cases (show v1 = _ from hx); cases (show v2 = _ from hi)
  split at h
  ·rename_i len e hu
   split at h
   ·rename_i hz
    refine ok1 (a := .ptr n base (nadd idx (nat i))) ?_ rfl h.2
    have h0 := h.1.lo; have h1 := h.1.hi
    simp [Instr.indexAt, asIntOf, run_underlying hu, Instr.sureAddr, run_sizeB hz, h0, h1, at_add, nadd, nat, Nat.add_assoc]
   ·rename_i z _ hz
    refine ok1 (a := .ptr n base (nadd idx (nmul (nat i) z))) ?_ rfl h.2
    have h0 := h.1.lo; have h1 := h.1.hi
    simp [Instr.indexAt, asIntOf, run_underlying hu, Instr.sureAddr, run_sizeB hz, h0, h1, at_add, nadd, nat, nmul, Nat.add_assoc]
   ·exact h.elim
  ·exact h.elim
 ·rename_i n base idx len cap k i
  cases (show v2 = _ from hi)
  split at h
  ·rename_i e hu
   have key : ∀ z, sizeB P e = some z → InB i len → ∀ w : World, (Instr.indexAt t v1 (.int k i)).run P w = .ok (.pointer (some (at_ ρ n (base + (idx + nat i * z))))) w := by
    intro z hz hb w
    have h0 := hb.lo; have h1 := hb.hi
    rcases hx with ⟨_, rfl | ⟨rfl, _⟩⟩
    ·simp [Instr.indexAt, asIntOf, run_underlying hu, Instr.sureAddr, run_sizeB hz, h0, h1, at_add, nat, Nat.add_assoc]
    ·omega
   split at h
   ·rename_i hz
    refine ok1 (a := .ptr n base (nadd idx (nat i))) (key 1 hz h.1) ?_ h.2
    simp [CRep, nadd]
   ·rename_i z _ hz
    exact ok1 (a := .ptr n base (nadd idx (nmul (nat i) z))) (key z hz h.1) rfl h.2
   ·exact h.elim
  ·exact h.elim
 ·exact h.elim
theorem part_one {e : TypeId} {cs : List Value} {i : Nat} {v : Value} (hag : isAggB P e = some false) (hv : cs[i]? = some v) (w : World) : (part e cs.toArray i).run P w = .ok v w := by
 simp [part, run_isAggB hag, hv]
theorem part_agg {e : TypeId} {cs : List Value} {i z : Nat} (hag : isAggB P e = some true) (hz : sizeB P e = some z) (w : World) : (part e cs.toArray i).run P w = .ok (.agg ((cs.drop i).take z).toArray) w := by
 simp [part, run_isAggB hag, run_sizeB hz]
theorem indexx_sound {t : TypeId} {x ix : AV} {v1 v2 : Value} (h : indexx P t x ix K) (hx : SRep ρ x v1) (hi : SRep ρ ix v2) :
  ∃ v av, (∀ w : World, (Instr.index t v1 v2).run P w = .ok v w) ∧ SRep ρ av v ∧ K av := by
 unfold indexx at h
 split at h
 ·rename_i s k i
  cases (show v1 = _ from hx); cases (show v2 = _ from hi)
  split at h <;> try exact h.elim
  rename_i hu
  have h0 := h.1.lo; have h1 := h.1.hi
  have hlt : i.toNat < s.data.size := by
   have e : slen_ s = s.data.size := rfl
   omega
  refine okI ?_ h.2
  intro w
  have hs : s[i.toNat]? = some (s.data[i.toNat]) := by
   rw [getElem?_pos s i.toNat hlt]
   rfl
  simp [Instr.index, asIntOf, run_underlying hu, h0, hs, sget, nat, List.getD, hlt]
  rw [Array.getElem?_eq_getElem hlt]; rfl
 ·rename_i k N l k' i
  obtain ⟨hl, rfl⟩ := srep_ints hx
  cases (show v2 = _ from hi)
  split at h
  ·rename_i len e hu
   split at h
   ·rename_i he hz
    split at h
    ·rename_i hN
     have h0 := h.1.lo; have h1 := h.1.hi
     refine okI ?_ h.2
     have hp := part_one (P := P) (e := e) (cs := l.map (Value.int k)) (i := i.toNat) (v := .int k (lget l (nat i))) (by unfold isAggB; rw [he]) (by
      have : i.toNat < l.length := by omega
      simp [lget, nat, List.getD, this])
     simp [Instr.index, asIntOf, run_underlying hu, h0, h1, run_sizeB hz, hp]
    ·exact h.elim
   ·rename_i z he hz
    split at h
    ·rename_i hN
     have h0 := h.1.lo; have h1 := h.1.hi
     have hp := part_agg (P := P) (e := e) (cs := l.map (Value.int k)) (i := i.toNat * z) (by unfold isAggB; rw [he]) hz
     refine ⟨.agg ((lsub l (nmul (nat i) z) z).map (Value.int k)).toArray, .agg [.ints k z (lsub l (nmul (nat i) z) z)], ?_, ⟨⟨?_, trivial⟩, _, rfl, ints_FRep ρ k z _⟩, h.2⟩
     ·intro w
      simp only [Instr.index, asIntOf, Sem.run_bind, Sem.run_pure, Result.andThen_ok, run_underlying hu, h0, h1, run_sizeB hz, and_self, if_true, hp]
      simp [lsub, nmul, nat, List.map_take, List.map_drop]
     ·have hq : i.toNat * z + z ≤ len * z := by
       have : (i.toNat + 1) * z ≤ len * z := Nat.mul_le_mul_right z (by omega)
       rw [Nat.add_mul, Nat.one_mul] at this; exact this
      simp only [Seg.ok, lsub, nmul, nat, List.length_take, List.length_drop]
      omega
    ·exact h.elim
   ·exact h.elim
  ·exact h.elim
 ·rename_i N l k' i
  obtain ⟨hl, rfl⟩ := srep_bools hx
  cases (show v2 = _ from hi)
  split at h
  ·rename_i len e hu
   split at h
   ·rename_i he hz
    split at h
    ·rename_i hN
     have h0 := h.1.lo; have h1 := h.1.hi
     refine okB ?_ h.2
     have hp := part_one (P := P) (e := e) (cs := l.map Value.bool) (i := i.toNat) (v := .bool (lgetb l (nat i))) (by unfold isAggB; rw [he]) (by
      have : i.toNat < l.length := by omega
      simp [lgetb, nat, List.getD, this])
     simp [Instr.index, asIntOf, run_underlying hu, h0, h1, run_sizeB hz, hp]
    ·exact h.elim
   ·exact h.elim
  ·exact h.elim
 ·exact h.elim
theorem locate_sum : ∀ {s : List Seg} {o a b i : Nat}, locate s o a = some (b, i) → b + i = a + o
 | [], _, _, _, _, h => by simp [locate] at h
 | s :: r, o, a, b, i, h => by
  simp only [locate] at h
  split at h
  ·simp only [Option.some.injEq, Prod.mk.injEq] at h; omega
  ·have := locate_sum h; omega
theorem fieldAddrx_sound {t : TypeId} {x : AV} {f : Nat} {v1 : Value} (h : fieldAddrx P σ t x f K) (hx : SRep ρ x v1) :
  ∃ v av, (∀ w : World, (Instr.fieldAt t v1 f).run P w = .ok v w) ∧ SRep ρ av v ∧ K av := by
 unfold fieldAddrx at h
 split at h <;> try exact h.elim
 rotate_left
 ·rename_i n z i b j
  obtain ⟨rfl, hi⟩ := hx
  split at h <;> try exact h.elim
  rename_i fs hu
  split at h <;> try exact h.elim
  rename_i fd hf
  split at h <;> try exact h.elim
  rename_i z' hz
  refine ok1 (a := .vptr n z i (b + fd.offset) 0) ?_ ⟨rfl, hi⟩ h
  simp [Instr.fieldAt, run_underlying hu, hf, Instr.sureAddr, fieldPlace, run_sizeB hz, at_add, Nat.add_assoc]
 rename_i n base idx
 cases (show v1 = _ from hx)
 split at h <;> try exact h.elim
 rename_i fs hu
 split at h <;> try exact h.elim
 rename_i fd hf
 split at h <;> try exact h.elim
 rename_i z hz
 have hrun : ∀ w : World, (Instr.fieldAt t (.pointer (some (at_ ρ n (base + idx)))) f).run P w = .ok (.pointer (some (at_ ρ n (base + idx + fd.offset)))) w := by
  simp [Instr.fieldAt, run_underlying hu, hf, Instr.sureAddr, fieldPlace, run_sizeB hz, at_add]
 split at h <;> try exact h.elim
 split at h
 ·exact ok1 (a := .ptr n base (nadd idx fd.offset)) hrun (by simp [CRep, nadd, Nat.add_assoc]) h
 ·split at h <;> try exact h.elim
  rename_i b' i' hl
  have := locate_sum hl
  exact ok1 (a := .ptr n b' i') hrun (by simp [CRep, this]) h
theorem extractx_sound {x : AV} {i : Nat} {v1 : Value} (h : extractx x i K) (hx : SRep ρ x v1) : ∃ v av, (∀ w : World, (Instr.extract v1 i).run P w = .ok v w) ∧ SRep ρ av v ∧ K av := by
 unfold extractx at h
 split at h <;> try exact h.elim
 rename_i vs
 obtain ⟨us, rfl, hlen, hall⟩ := hx
 split at h <;> try exact h.elim
 rename_i t ht
 have hi : i < us.length := by rw [← hlen]; exact (List.getElem?_eq_some_iff.1 ht).1
 have := hall i t us[i] ht (List.getElem?_eq_getElem hi)
 refine ⟨us[i], t.av, by simp [Instr.extract, hi], ?_, h⟩
 cases t <;> exact this
theorem arrx_sound {t : TypeId} {x : AV} {v1 : Value} (h : arrx P σ t x K) (hm : MemRep ρ σ w0) (hx : SRep ρ x v1) : ∃ v av, (∀ w : World, (Instr.arrayAt t v1).run P w = .ok v w) ∧ SRep ρ av v ∧ K av := by
 unfold arrx at h
 split at h <;> try exact h.elim
 ·rename_i n
  split at h <;> try exact h.elim
  rename_i N e cs hu hcs
  obtain ⟨hV, _⟩ := cols_sound hm hcs
  have hl := h.1.le
  have hlen := hV.len
  have had := hV.adr (by omega)
  cases (show v1 = _ from hx)
  exact ok1 (a := .vptr n (width (kdsOf cs)) 0 0 0) (v := .pointer (some (at_ ρ n 0))) (by simp [Instr.arrayAt, run_underlying hu, show ¬ (ρ n).len < N + 1 by omega, had]; rfl) ⟨by simp, by omega⟩ h.2
 ·rename_i n z i len
  split at h <;> try exact h.elim
  rename_i N e hu
  obtain ⟨A, cap, rfl, g1, g2, g3, g4, _⟩ := hx
  have hl := h.1.le
  rcases g3 with g3 | ⟨g3, rfl⟩
  ·omega
  ·have had := g4 (by omega)
   exact ok1 (a := .vptr n z i 0 0) (v := .pointer (some (at_ ρ n (i * z)))) (by simp [Instr.arrayAt, run_underlying hu, show ¬ len < N + 1 by omega, had, Loc.at_add]; simp [Loc.at, at_]) ⟨by simp, by omega⟩ h.2
 ·rename_i n c i
  split at h <;> try exact h.elim
  rename_i N e k ll hu hr
  obtain ⟨cs, hc, hlen, hV, _⟩ := rows_sound hm hr
  obtain ⟨rfl, hi⟩ := hx
  obtain ⟨q1, q2, q3, q4⟩ := hV.inner c _ ll hc i _ (llget_some (by omega))
  have hl := h.1.le
  have e1 : llen (llget ll i) = (llget ll i).length := rfl
  obtain ⟨a, ha⟩ := q3 (fun e => by rw [e1, e] at hl; simp at hl)
  exact ok1 (a := .eptr n c i 0) (v := .pointer (some a)) (by simp [Instr.arrayAt, run_underlying hu, show ¬ ((ρ n).el c i).len < N + 1 by omega, ha]) ⟨a, ha, by simp [Addr.add], by omega, hi⟩ h.2
 ·rename_i n c i o len
  split at h <;> try exact h.elim
  rename_i N e hu
  obtain ⟨A, cap, rfl, g1, g2, g3, g4, g5⟩ := hx
  have hl := h.1.le
  rcases g4 with g4 | rfl
  ·omega
  ·obtain ⟨a, ha⟩ := g5 (by omega)
   exact ok1 (a := .eptr n c i o) (v := .pointer (some (a.add o))) (by simp [Instr.arrayAt, run_underlying hu, show ¬ len < N + 1 by omega, ha]) ⟨a, ha, rfl, by omega, g3⟩ h.2
 ·rename_i n base idx len cap
  split at h <;> try exact h.elim
  rename_i N e hu
  have hl := h.1.le
  rcases hx with ⟨_, rfl | ⟨rfl, _⟩⟩
  ·exact ok1 (a := .ptr n base idx) (by simp [Instr.arrayAt, run_underlying hu, show ¬ len < N + 1 by omega]) rfl h.2
  ·omega
 rename_i q j o len
 split at h <;> try exact h.elim
 rename_i N e hu
 obtain ⟨A, cap, rfl, g1, g2, g3, g4, g5, g6⟩ := hx
 have hl := h.1.le
 rcases g4 with g4 | rfl
 ·omega
 ·obtain ⟨a, ha⟩ := g6 (by omega)
  exact ok1 (a := .hp q j o) (v := .pointer (some (a.add o))) (by simp [Instr.arrayAt, run_underlying hu, show ¬ len < N + 1 by omega, ha]) ⟨a, ha, rfl, by omega, g3⟩ h.2
theorem lenx_sound {t : TypeId} {x : AV} {v1 : Value} (h : lenx P σ t x K) (hm : MemRep ρ σ w0) (hx : SRep ρ x v1) (ty : TypeId) : ∃ v av, (∀ w : World, (Builtin.len_ #[t] ty #[v1]).run P w = .ok v w) ∧ SRep ρ av v ∧ K av := by
 unfold lenx at h
 split at h
 ·rename_i n e hu
  exact okI (by simp [Builtin.len_, run_underlying hu, goInt, ofNat]) h
 ·rename_i e hu
  split at h
  ·rename_i len cap
   refine okI ?_ h
   intro w
   rcases hx with ⟨_, rfl | ⟨rfl, rfl, a, rfl⟩⟩ <;> simp [Builtin.len_, run_underlying hu, goInt, ofNat]
  ·obtain ⟨rfl, _⟩ := hx
   exact okI (by simp [Builtin.len_, run_underlying hu, goInt]) h
  ·split at h <;> try exact h.elim
   rename_i n hn
   obtain ⟨A, cap, rfl, _⟩ := lenOfV_sound hn hm hx
   exact okI (by simp [Builtin.len_, run_underlying hu, goInt, ofNat]) h
 ·rename_i hu
  split at h
  ·cases (show v1 = _ from hx)
   exact okI (by simp [Builtin.len_, run_underlying hu, goInt, ofNat]) h
  ·exact h.elim
 ·rename_i a hu
  split at h
  ·rename_i n e hu'
   exact okI (by simp [Builtin.len_, run_underlying hu, run_underlying hu', goInt, ofNat]) h
  ·exact h.elim
 ·exact h.elim
theorem boundx_sound {lo hi : Option AV} {vl vh : Option Value} {len cap : Nat} {K : Nat → Nat → Prop} (b : Bool) (h : boundx lo hi len cap K)
  (hl : ∀ x, lo = some x → ∃ v, vl = some v ∧ SRep ρ x v) (hl0 : lo = none → vl = none) (hh : ∀ x, hi = some x → ∃ v, vh = some v ∧ SRep ρ x v) (hh0 : hi = none → vh = none) :
  ∃ l u, K l u ∧ (∀ w : World, (Instr.sliceBounds b len cap vl vh none).run P w = .ok (l, u, cap) w) ∧ (hi = none → u = len) ∧ (hi ≠ none → u ≤ cap) ∧ (lo = none → l = 0) ∧ (lo ≠ none → l ≤ u) := by
 have bound : ∀ (k : IntKind) (i : Int) (y : Nat) (c : BoundsCode), 0 ≤ i → i.toNat ≤ y → ∀ w : World, (Instr.sliceBound (.int k i) y c).run P w = .ok i.toNat w := by
  intro k i y c h0 h1 w
  simp [Instr.sliceBound, asIntOf, h0, show i ≤ y by omega]
 unfold boundx at h
 split at h
 ·have e1 := hl0 rfl; have e2 := hh0 rfl
  subst e1 e2
  exact ⟨0, len, h, by simp [Instr.sliceBounds], by simp, by simp, by simp, by simp⟩
 ·rename_i k l
  have e2 := hh0 rfl
  obtain ⟨v, e1, hv⟩ := hl _ rfl
  cases (show v = _ from hv)
  subst e1 e2
  exact ⟨nat l, len, h.2, by simp [Instr.sliceBounds, bound _ _ _ _ h.1.1.le h.1.2.le, nat], by simp, by simp, by simp, fun _ => h.1.2.le⟩
 ·rename_i k u
  have e1 := hl0 rfl
  obtain ⟨v, e2, hv⟩ := hh _ rfl
  cases (show v = _ from hv)
  subst e1 e2
  exact ⟨0, nat u, h.2, by simp [Instr.sliceBounds, bound _ _ _ _ h.1.1.le h.1.2.le, nat], by simp, fun _ => h.1.2.le, by simp, by simp⟩
 ·rename_i k l k' u
  obtain ⟨v, e1, hv⟩ := hl _ rfl
  cases (show v = _ from hv)
  obtain ⟨v', e2, hv'⟩ := hh _ rfl
  cases (show v' = _ from hv')
  subst e1 e2
  exact ⟨nat l, nat u, h.2, by simp [Instr.sliceBounds, bound _ _ _ _ h.1.1.1.le h.1.1.2.le, bound _ _ _ _ h.1.2.1.le (show l.toNat ≤ u.toNat from h.1.2.2.le), nat], by simp, fun _ => h.1.1.2.le, by simp, fun _ => h.1.2.2.le⟩
 ·exact h.elim
theorem boundx_more {lo hi : Option AV} {vl vh : Option Value} {len cap C : Nat} {K : Nat → Nat → Prop} (b : Bool) (h : boundx lo hi len cap K) (hC : cap ≤ C) (hlen : len ≤ C)
  (hl : ∀ x, lo = some x → ∃ v, vl = some v ∧ SRep ρ x v) (hl0 : lo = none → vl = none) (hh : ∀ x, hi = some x → ∃ v, vh = some v ∧ SRep ρ x v) (hh0 : hi = none → vh = none) :
  ∃ l u, K l u ∧ (∀ w : World, (Instr.sliceBounds b len C vl vh none).run P w = .ok (l, u, C) w) ∧ (hi = none → u = len) ∧ (hi ≠ none → u ≤ cap) ∧ (lo = none → l = 0) ∧ l ≤ u := by
 have bound : ∀ (k : IntKind) (i : Int) (y : Nat) (c : BoundsCode), 0 ≤ i → i.toNat ≤ y → ∀ w : World, (Instr.sliceBound (.int k i) y c).run P w = .ok i.toNat w := by
  intro k i y c h0 h1 w
  simp [Instr.sliceBound, asIntOf, h0, show i ≤ y by omega]
 unfold boundx at h
 split at h
 ·have e1 := hl0 rfl; have e2 := hh0 rfl
  subst e1 e2
  exact ⟨0, len, h, by simp [Instr.sliceBounds], by simp, by simp, by simp, Nat.zero_le _⟩
 ·rename_i k l
  have e2 := hh0 rfl
  obtain ⟨v, e1, hv⟩ := hl _ rfl
  cases (show v = _ from hv)
  subst e1 e2
  exact ⟨nat l, len, h.2, by simp [Instr.sliceBounds, bound _ _ _ _ h.1.1.le h.1.2.le, nat], by simp, by simp, by simp, h.1.2.le⟩
 ·rename_i k u
  have e1 := hl0 rfl
  obtain ⟨v, e2, hv⟩ := hh _ rfl
  cases (show v = _ from hv)
  subst e1 e2
  have := h.1.2.le
  exact ⟨0, nat u, h.2, by simp [Instr.sliceBounds, bound _ _ _ _ h.1.1.le (show u.toNat ≤ C from by simp only [nat] at this; omega), nat], by simp, fun _ => h.1.2.le, by simp, Nat.zero_le _⟩
 ·rename_i k l k' u
  obtain ⟨v, e1, hv⟩ := hl _ rfl
  cases (show v = _ from hv)
  obtain ⟨v', e2, hv'⟩ := hh _ rfl
  cases (show v' = _ from hv')
  subst e1 e2
  have := h.1.1.2.le
  exact ⟨nat l, nat u, h.2, by simp [Instr.sliceBounds, bound _ _ _ _ h.1.1.1.le (show u.toNat ≤ C from by simp only [nat] at this; omega), bound _ _ _ _ h.1.2.1.le (show l.toNat ≤ u.toNat from h.1.2.2.le), nat], by simp, fun _ => h.1.1.2.le, by simp, h.1.2.2.le⟩
 ·exact h.elim
theorem maxx_sound {lo hi mx : Option AV} {vl vh vm : Option Value} {len cap : Nat} {K : Nat → Nat → Prop} (b : Bool) (h : maxx hi mx len (boundx lo hi len len K)) (hc : len ≤ cap)
  (hl : ∀ x, lo = some x → ∃ v, vl = some v ∧ SRep ρ x v) (hl0 : lo = none → vl = none) (hh : ∀ x, hi = some x → ∃ v, vh = some v ∧ SRep ρ x v) (hh0 : hi = none → vh = none)
  (hm : ∀ x, mx = some x → ∃ v, vm = some v ∧ SRep ρ x v) (hm0 : mx = none → vm = none) :
  ∃ l u m, K l u ∧ (∀ w : World, (Instr.sliceBounds b len cap vl vh vm).run P w = .ok (l, u, m) w) ∧ u ≤ len ∧ l ≤ u ∧ u ≤ m ∧ m ≤ cap ∧ (lo = none → l = 0) ∧ (mx = none → m = cap) := by
 have bound : ∀ (k : IntKind) (i : Int) (y : Nat) (c : BoundsCode), 0 ≤ i → i.toNat ≤ y → ∀ w : World, (Instr.sliceBound (.int k i) y c).run P w = .ok i.toNat w := by
  intro k i y c h0 h1 w
  simp [Instr.sliceBound, asIntOf, h0, show i ≤ y by omega]
 unfold maxx at h
 split at h
 ·have e := hm0 rfl
  subst e
  unfold boundx at h
  split at h
  ·have e1 := hl0 rfl; have e2 := hh0 rfl
   subst e1 e2
   exact ⟨0, len, cap, h, by simp [Instr.sliceBounds], by omega, by omega, hc, Nat.le_refl _, fun _ => rfl, fun _ => rfl⟩
  ·rename_i k l
   have e2 := hh0 rfl
   obtain ⟨v, e1, hv⟩ := hl _ rfl
   cases (show v = _ from hv)
   subst e1 e2
   have := h.1.2.le
   exact ⟨nat l, len, cap, h.2, by simp [Instr.sliceBounds, bound _ _ _ _ h.1.1.le h.1.2.le, nat], by omega, by simpa [nat] using this, hc, Nat.le_refl _, by simp, fun _ => rfl⟩
  ·rename_i k u
   have e1 := hl0 rfl
   obtain ⟨v, e2, hv⟩ := hh _ rfl
   cases (show v = _ from hv)
   subst e1 e2
   have := h.1.2.le
   exact ⟨0, nat u, cap, h.2, by simp [Instr.sliceBounds, bound _ _ _ _ h.1.1.le (show u.toNat ≤ cap from by simp only [nat] at this; omega), nat], this, by omega, by omega, Nat.le_refl _, fun _ => rfl, fun _ => rfl⟩
  ·rename_i k l k' u
   obtain ⟨v, e1, hv⟩ := hl _ rfl
   cases (show v = _ from hv)
   obtain ⟨v', e2, hv'⟩ := hh _ rfl
   cases (show v' = _ from hv')
   subst e1 e2
   have := h.1.1.2.le
   have h2 := h.1.2.2.le
   exact ⟨nat l, nat u, cap, h.2, by simp [Instr.sliceBounds, bound _ _ _ _ h.1.1.1.le (show u.toNat ≤ cap from by simp only [nat] at this; omega), bound _ _ _ _ h.1.2.1.le (show l.toNat ≤ u.toNat from h.1.2.2.le), nat], this, h2, by omega, Nat.le_refl _, by simp, fun _ => rfl⟩
  ·exact h.elim
 ·rename_i k m
  obtain ⟨v, e, hv⟩ := hm _ rfl
  cases (show v = _ from hv)
  subst e
  split at h <;> try exact h.elim
  rename_i k' u
  obtain ⟨⟨m1, m2, u1, u2⟩, h⟩ := h
  obtain ⟨v', e2, hv'⟩ := hh _ rfl
  cases (show v' = _ from hv')
  subst e2
  have m1 := m1.le; have m2 := m2.le; have u1 := u1.le; have u2 := u2.le
  simp only [nat] at m2 u2
  unfold boundx at h
  split at h
  ·rename_i q1 q2; cases q2
  ·rename_i q1 q2; cases q2
  ·rename_i k2 u' q
   cases q
   have e1 := hl0 rfl
   subst e1
   exact ⟨0, nat u, m.toNat, h.2, by simp [Instr.sliceBounds, bound _ _ _ _ m1 (show m.toNat ≤ cap by omega), bound _ _ _ _ u1 u2, nat], by simp only [nat]; omega, by omega, u2, by omega, fun _ => rfl, by simp⟩
  ·rename_i k1 l k2 u' q
   cases q
   obtain ⟨v, e1, hv⟩ := hl _ rfl
   cases (show v = _ from hv)
   subst e1
   exact ⟨nat l, nat u, m.toNat, h.2, by simp [Instr.sliceBounds, bound _ _ _ _ m1 (show m.toNat ≤ cap by omega), bound _ _ _ _ u1 u2, bound _ _ _ _ h.1.2.1.le (show l.toNat ≤ u.toNat from h.1.2.2.le), nat], by simp only [nat]; omega, h.1.2.2.le, u2, by omega, by simp, by simp⟩
  ·exact h.elim
 ·exact h.elim
theorem mulZ_eq (z n : Nat) : mulZ z n = n * z := by
 unfold mulZ nmul
 split <;> simp
end
section
variable {P : Program} {ρ : Rho} {σ : Mem} {w0 : World} {K : AV → Prop}
theorem slK_sound {lo hi : Option AV} {n base idx z l u N cap : Nat} {m : Sem Value} (hK : slK K lo n base idx z l u cap) (hN : N ≤ cap) (q1 : hi = none → u = N) (q2 : hi ≠ none → u ≤ cap) (q3 : lo = none → l = 0) (q4 : lo ≠ none → l ≤ u)
  (hr : ∀ w : World, m.run P w = .ok (.slice (some (if cap = l then at_ ρ n (base + idx) else at_ ρ n (base + idx + l * z))) (u - l) (cap - l)) w) : ∃ v av, (∀ w : World, m.run P w = .ok v w) ∧ SRep ρ av v ∧ K av := by
 have hu1 : u ≤ cap := by
  by_cases hi' : hi = none
  ·have := q1 hi'; omega
  ·exact q2 hi'
 cases lo with
 | none =>
  have hl0' := q3 rfl
  subst hl0'
  refine ok1 (a := .sl n base idx u cap) hr ⟨hu1, Or.inl ?_⟩ hK
  simp
 | some y =>
  have hlu := q4 (by simp)
  refine ok1 (a := .sl n base (nadd idx (mulZ z l)) (nsub u l) (nsub cap l)) hr ⟨by simp [nsub]; omega, ?_⟩ hK
  by_cases hc : cap = l
  ·obtain rfl : u = l := by omega
   exact Or.inr ⟨by simp [nsub], by simp [nsub, hc], _, by simp [hc]; rfl⟩
  ·exact Or.inl (by simp [hc, nadd, nsub, mulZ_eq, Nat.add_assoc])
theorem slicex_sound {t : TypeId} {x : AV} {lo hi : Option AV} {v1 : Value} {vl vh : Option Value} (h : slicex P t x lo hi K) (hx : SRep ρ x v1)
  (hl : ∀ x, lo = some x → ∃ v, vl = some v ∧ SRep ρ x v) (hl0 : lo = none → vl = none) (hh : ∀ x, hi = some x → ∃ v, vh = some v ∧ SRep ρ x v) (hh0 : hi = none → vh = none) :
  ∃ v av, (∀ w : World, (Instr.sliceAt t v1 vl vh none).run P w = .ok v w) ∧ SRep ρ av v ∧ K av := by
 unfold slicex at h
 split at h
 ·rename_i n base idx len cap
  split at h <;> try exact h.elim
  rename_i e hu
  split at h <;> try exact h.elim
  rename_i z hz
  obtain ⟨l, u, hK, hrun, q1, q2, q3, q4⟩ := boundx_sound (P := P) (ρ := ρ) true h hl hl0 hh hh0
  have hr : ∀ (A : Option Addr) (w : World), (Instr.sliceAt t (.slice A len cap) vl vh none).run P w = .ok (.slice (if cap = l then A else A.map (·.add (l * z))) (u - l) (cap - l)) w := by
   intro A w
   simp [Instr.sliceAt, Instr.slice, run_underlying hu, hrun, run_sizeB hz]
  obtain ⟨hle, hx⟩ := hx
  rcases hx with rfl | ⟨rfl, rfl, a, rfl⟩
  ·refine slK_sound hK hle q1 q2 q3 q4 ?_
   intro w
   rw [hr]
   by_cases hc : cap = l <;> simp [hc, at_add]
  ·have hu1 : u = 0 := by
    by_cases hi' : hi = none
    ·exact q1 hi'
    ·have := q2 hi'; omega
   subst hu1
   cases lo with
   | none =>
    have hl0' := q3 rfl
    subst hl0'
    exact ok1 (a := .sl n base idx 0 0) (hr _) ⟨Nat.le_refl _, Or.inr ⟨rfl, rfl, a, by simp⟩⟩ hK
   | some y =>
    have := q4 (by simp)
    obtain rfl : l = 0 := by omega
    exact ok1 (a := .sl n base (nadd idx (mulZ z 0)) (nsub 0 0) (nsub 0 0)) (hr _) ⟨Nat.le_refl _, Or.inr ⟨rfl, rfl, a, by simp⟩⟩ hK
 ·rename_i n base idx
  cases (show v1 = _ from hx)
  split at h
  ·rename_i A hu
   split at h <;> try exact h.elim
   rename_i N e hu'
   split at h <;> try exact h.elim
   rename_i z hz
   obtain ⟨l, u, hK, hrun, q1, q2, q3, q4⟩ := boundx_sound (P := P) (ρ := ρ) false h hl hl0 hh hh0
   refine slK_sound hK (Nat.le_refl _) q1 q2 q3 q4 ?_
   by_cases hc : N = l
   ·subst hc; simp [Instr.sliceAt, Instr.slice, run_underlying hu, run_underlying hu', asAddr, hrun, run_sizeB hz]
   ·simp [Instr.sliceAt, Instr.slice, run_underlying hu, run_underlying hu', asAddr, hrun, run_sizeB hz, hc, at_add]
  ·rename_i N e hu
   split at h <;> try exact h.elim
   rename_i z hz
   obtain ⟨l, u, hK, hrun, q1, q2, q3, q4⟩ := boundx_sound (P := P) (ρ := ρ) false h hl hl0 hh hh0
   refine slK_sound hK (Nat.le_refl _) q1 q2 q3 q4 ?_
   by_cases hc : N = l
   ·subst hc; simp [Instr.sliceAt, run_underlying hu, Instr.sureAddr, hrun, run_sizeB hz]
   ·simp [Instr.sliceAt, run_underlying hu, Instr.sureAddr, hrun, run_sizeB hz, hc, at_add]
  ·exact h.elim
 ·exact h.elim
theorem slicev_sound {t : TypeId} {x : AV} {lo hi mx : Option AV} {v1 : Value} {vl vh vm : Option Value} (h : slicev P σ t x lo hi mx K) (hmem : MemRep ρ σ w0) (hx : SRep ρ x v1)
  (hl : ∀ x, lo = some x → ∃ v, vl = some v ∧ SRep ρ x v) (hl0 : lo = none → vl = none) (hh : ∀ x, hi = some x → ∃ v, vh = some v ∧ SRep ρ x v) (hh0 : hi = none → vh = none)
  (hm : ∀ x, mx = some x → ∃ v, vm = some v ∧ SRep ρ x v) (hm0 : mx = none → vm = none) :
  ∃ v av, (∀ w : World, (Instr.sliceAt t v1 vl vh vm).run P w = .ok v w) ∧ SRep ρ av v ∧ K av := by
 unfold slicev at h
 split at h <;> try exact h.elim
 rename_i e hu
 split at h <;> try exact h.elim
 rename_i z len hz hlen
 obtain ⟨A, cap, rfl, hle⟩ := lenOfV_sound hlen hmem hx
 obtain ⟨l, u, m, hK, hrun, hu1, hlu, hum, hmc, hl00, hm00⟩ := maxx_sound (P := P) (ρ := ρ) true h hle hl hl0 hh hh0 hm hm0
 have hr : ∀ w : World, (Instr.sliceAt t (.slice A len cap) vl vh vm).run P w = .ok (.slice (if m = l then A else A.map (·.add (l * z))) (u - l) (m - l)) w := by
  intro w
  simp [Instr.sliceAt, Instr.slice, run_underlying hu, hrun, run_sizeB hz]
 have addr0 : ∀ a : Addr, a.add 0 = a := fun a => by simp [Addr.add]
 have amap : ∀ (B : Option Addr) (p q : Nat), (B.map (·.add p)).map (·.add q) = B.map (·.add (p + q)) := fun B p q => by cases B <;> simp [addr_add_add]
 have am0 : ∀ (B : Option Addr), B.map (·.add 0) = B := fun B => by cases B <;> simp [addr0]
 unfold cutx at hK
 split at hK
 ·rename_i n
  split at hK <;> try exact hK.elim
  rename_i cs hcs
  split at hK <;> try exact hK.elim
  rename_i hzw
  obtain ⟨hV, _⟩ := cols_sound hmem hcs
  have hx' : Value.slice A len cap = .slice (ρ n).a (ρ n).len (ρ n).cap := hx
  simp only [Value.slice.injEq] at hx'
  obtain ⟨rfl, rfl, rfl⟩ := hx'
  have key : ∀ i', i' = l → CRep ρ (.vcl n z i' (u - l)) (.slice (if m = l then (ρ n).a else (ρ n).a.map (·.add (l * z))) (u - l) (m - l)) := by
   intro i' hi'
   rw [hi']
   refine ⟨_, _, rfl, by omega, by omega, ?_, hV.adr⟩
   by_cases hml : m = l
   ·exact Or.inl (by omega)
   ·exact Or.inr ⟨by omega, by rw [if_neg hml]⟩
  have key2 : ∀ i', i' = l → m = (ρ n).cap → CRep ρ (.vsl n z i' (u - l)) (.slice (if m = l then (ρ n).a else (ρ n).a.map (·.add (l * z))) (u - l) (m - l)) := by
   intro i' hi' hmm
   obtain ⟨A, cap, hv, k1, k2, k3, k4⟩ := key i' hi'
   refine ⟨A, cap, hv, k1, k2, k3, k4, ?_⟩
   simp only [Value.slice.injEq] at hv
   obtain ⟨_, _, rfl⟩ := hv
   omega
  cases lo with
  | none =>
   have := hl00 rfl
   subst this
   cases mx with
   | none => exact ok1 (a := .vsl n z 0 u) hr (key2 0 rfl (hm00 rfl)) hK
   | some y => exact ok1 (a := .vcl n z 0 u) hr (key 0 rfl) hK
  | some y =>
   cases mx with
   | none => exact ok1 (a := .vsl n z l (nsub u l)) hr (key2 l rfl (hm00 rfl)) hK
   | some y => exact ok1 (a := .vcl n z l (nsub u l)) hr (key l rfl) hK
 ·rename_i n z' i len'
  split at hK <;> try exact hK.elim
  rename_i hzw
  have hzw : z = z' := beq_nat hzw
  subst hzw
  simp only [lenOfV, Option.some.injEq] at hlen
  subst hlen
  obtain ⟨A', cap', hv, g1, g2, g3, g4, g5⟩ := hx
  simp only [Value.slice.injEq, true_and] at hv
  obtain ⟨rfl, rfl⟩ := hv
  have key : ∀ i', i' = i + l → CRep ρ (.vcl n z i' (u - l)) (.slice (if m = l then A else A.map (·.add (l * z))) (u - l) (m - l)) := by
   intro i' hi'
   rw [hi']
   refine ⟨_, _, rfl, by omega, by omega, ?_, g4⟩
   by_cases hml : m = l
   ·exact Or.inl (by omega)
   ·rcases g3 with g3 | ⟨g3, rfl⟩
    ·exact Or.inl (by omega)
    ·exact Or.inr ⟨by omega, by rw [if_neg hml, amap, Nat.add_mul]⟩
  have key2 : ∀ i', i' = i + l → m = cap → CRep ρ (.vsl n z i' (u - l)) (.slice (if m = l then A else A.map (·.add (l * z))) (u - l) (m - l)) := by
   intro i' hi' hmm
   obtain ⟨A', cap', hv, k1, k2, k3, k4⟩ := key i' hi'
   refine ⟨A', cap', hv, k1, k2, k3, k4, ?_⟩
   simp only [Value.slice.injEq] at hv
   obtain ⟨_, _, rfl⟩ := hv
   omega
  cases lo with
  | none =>
   have := hl00 rfl
   subst this
   cases mx with
   | none => exact ok1 (a := .vsl n z i u) hr (key2 i rfl (hm00 rfl)) hK
   | some y => exact ok1 (a := .vcl n z i u) hr (key i rfl) hK
  | some y =>
   cases mx with
   | none => exact ok1 (a := .vsl n z (nadd i l) (nsub u l)) hr (key2 _ rfl (hm00 rfl)) hK
   | some y => exact ok1 (a := .vcl n z (nadd i l) (nsub u l)) hr (key _ rfl) hK
 ·rename_i n c i
  split at hK <;> try exact hK.elim
  simp only [lenOfV, Option.map_eq_some_iff] at hlen
  obtain ⟨⟨k, ll⟩, hrow, rfl⟩ := hlen
  obtain ⟨cs, hc, hlen, hV, _⟩ := rows_sound hmem hrow
  obtain ⟨hv, hi⟩ := hx
  obtain ⟨q1, q2, q3, q4⟩ := hV.inner c k ll hc i _ (llget_some (by omega))
  simp only [Value.slice.injEq] at hv
  obtain ⟨rfl, hv2, rfl⟩ := hv
  have e1 : llen (llget (k, ll).snd i) = (llget ll i).length := rfl
  have nn : ((ρ n).el c i).len ≠ 0 → ∃ a, ((ρ n).el c i).a = some a := fun q => q3 (fun e => by rw [e] at q1; exact q q1)
  have key : ∀ i', i' = l → CRep ρ (.esl n c i i' (u - l)) (.slice (if m = l then ((ρ n).el c i).a else ((ρ n).el c i).a.map (·.add (l * 1))) (u - l) (m - l)) := by
   intro i' hi'
   rw [hi']
   refine ⟨_, _, rfl, by omega, by omega, hi, ?_, nn⟩
   by_cases hml : m = l
   ·exact Or.inl (by omega)
   ·exact Or.inr (by rw [if_neg hml, Nat.mul_one])
  cases lo with
  | none =>
   have := hl00 rfl
   subst this
   exact ok1 (a := .esl n c i 0 u) hr (key 0 rfl) hK
  | some y => exact ok1 (a := .esl n c i l (nsub u l)) hr (key l rfl) hK
 ·rename_i n c i o len'
  split at hK <;> try exact hK.elim
  simp only [lenOfV, Option.some.injEq] at hlen
  subst hlen
  obtain ⟨A', cap', hv, g1, g2, g3, g4, g5⟩ := hx
  simp only [Value.slice.injEq, true_and] at hv
  obtain ⟨rfl, rfl⟩ := hv
  have key : ∀ i', i' = o + l → CRep ρ (.esl n c i i' (u - l)) (.slice (if m = l then A else A.map (·.add (l * 1))) (u - l) (m - l)) := by
   intro i' hi'
   rw [hi']
   refine ⟨_, _, rfl, by omega, by omega, g3, ?_, g5⟩
   by_cases hml : m = l
   ·exact Or.inl (by omega)
   ·rcases g4 with g4 | rfl
    ·exact Or.inl (by omega)
    ·exact Or.inr (by rw [if_neg hml, amap, Nat.mul_one])
  cases lo with
  | none =>
   have := hl00 rfl
   subst this
   exact ok1 (a := .esl n c i o u) hr (key o rfl) hK
  | some y => exact ok1 (a := .esl n c i (nadd o l) (nsub u l)) hr (key _ rfl) hK
 ·exact hK.elim
theorem sliceH_sound {t : TypeId} {k : IntKind} {j off len : Nat} {lo hi : Option AV} {v1 : Value} {vl vh : Option Value} (h : sliceH P σ t k j off len lo hi K) (hmem : MemRep ρ σ w0) (hx : SRep ρ (.one (.hs k j off len)) v1)
  (hl : ∀ x, lo = some x → ∃ v, vl = some v ∧ SRep ρ x v) (hl0 : lo = none → vl = none) (hh : ∀ x, hi = some x → ∃ v, vh = some v ∧ SRep ρ x v) (hh0 : hi = none → vh = none) :
  ∃ v av, (∀ w : World, (Instr.sliceAt t v1 vl vh none).run P w = .ok v w) ∧ SRep ρ av v ∧ K av := by
 unfold sliceH at h
 split at h <;> try exact h.elim
 rename_i e os hu ho
 split at h <;> try exact h.elim
 rename_i hz
 obtain ⟨A, cap, rfl, g1, g2, g3, g4, g5, g6⟩ := hx
 obtain ⟨f1, f2, f3, f4⟩ := heap_obj hmem ho g3
 obtain ⟨e1, e2, e3⟩ := Elt.loc_facts ((ρ (hname k)).el 0 j)
 have hcap := f1.cap
 rw [e2, e3] at hcap
 obtain ⟨l, u, hK, hrun, hu0, hu1, hl00, hlu⟩ := boundx_more (P := P) (ρ := ρ) (C := cap) true h (by simp only [nsub, llen]; omega) g1 hl hl0 hh hh0
 have huk : off + u ≤ ((ρ (hname k)).el 0 j).len ∧ u ≤ cap := by
  by_cases q : hi = none
  ·rw [hu0 q]; exact ⟨g2, g1⟩
  ·have := hu1 q; simp only [nsub, llen] at this; omega
 have hr : ∀ w : World, (Instr.sliceAt t (.slice A len cap) vl vh none).run P w = .ok (.slice (if cap = l then A else A.map (·.add (l * 1))) (u - l) (cap - l)) w := by
  intro w
  simp [Instr.sliceAt, Instr.slice, run_underlying hu, hrun, run_sizeB hz]
 have amap : ∀ (B : Option Addr) (p q : Nat), (B.map (·.add p)).map (·.add q) = B.map (·.add (p + q)) := fun B p q => by cases B <;> simp [addr_add_add]
 have key : ∀ o', o' = off + l → CRep ρ (.hs k j o' (u - l)) (.slice (if cap = l then A else A.map (·.add (l * 1))) (u - l) (cap - l)) := by
  intro o' ho'
  rw [ho']
  refine ⟨_, _, rfl, by omega, by omega, g3, ?_, by omega, g6⟩
  by_cases hml : cap = l
  ·exact Or.inl (by omega)
  ·rcases g4 with g4 | rfl
   ·exact Or.inl (by omega)
   ·exact Or.inr (by rw [if_neg hml, amap, Nat.mul_one])
 cases lo with
 | none =>
  have := hl00 rfl
  subst this
  exact ok1 (a := .hs k j off u) hr (key off rfl) hK
 | some y => exact ok1 (a := .hs k j (nadd off l) (nsub u l)) hr (key _ rfl) hK
theorem slicez_sound {t : TypeId} {x : AV} {lo hi mx : Option AV} {v1 : Value} {vl vh vm : Option Value} (h : slicez P σ t x lo hi mx K) (hmem : MemRep ρ σ w0) (hx : SRep ρ x v1)
  (hl : ∀ x, lo = some x → ∃ v, vl = some v ∧ SRep ρ x v) (hl0 : lo = none → vl = none) (hh : ∀ x, hi = some x → ∃ v, vh = some v ∧ SRep ρ x v) (hh0 : hi = none → vh = none)
  (hm : ∀ x, mx = some x → ∃ v, vm = some v ∧ SRep ρ x v) (hm0 : mx = none → vm = none) :
  ∃ v av, (∀ w : World, (Instr.sliceAt t v1 vl vh vm).run P w = .ok v w) ∧ SRep ρ av v ∧ K av := by
 unfold slicez at h
 split at h
 ·exact slicev_sound h hmem hx hl hl0 hh hh0 hm hm0
 ·split at h <;> try exact h.elim
  have := hm0 rfl
  subst this
  split at h
  ·exact sliceH_sound h hmem hx hl hl0 hh hh0
  ·exact slicex_sound h hx hl hl0 hh hh0
theorem nilx_sound {o : Oper} {a : Act} {X : Operand} {x : AV} (ho : o.op = .nilCheck X) (h : nilx x K) (hx : SRep ρ x (a.eval X)) :
  ∃ v av, (∀ w : World, (execOp a.eval o).run P w = .ok (.value v) w) ∧ SRep ρ av v ∧ K av := by
 unfold nilx at h
 split at h
 ·rename_i n b i
  have hx' : a.eval X = _ := hx
  exact ⟨_, .one (.ptr n b i), by simp [execOp, ho, hx'], rfl, h⟩
 ·rename_i n z i b j
  obtain ⟨hx', hi⟩ := hx
  exact ⟨_, .one (.vptr n z i b j), by simp [execOp, ho, hx'], ⟨rfl, hi⟩, h⟩
 ·rename_i n c i o
  obtain ⟨a', ha, hx', h1, h2⟩ := hx
  exact ⟨_, .one (.eptr n c i o), by simp [execOp, ho, hx'], ⟨a', ha, rfl, h1, h2⟩, h⟩
 ·rename_i k j i
  obtain ⟨a', ha, hx', h1, h2⟩ := hx
  exact ⟨_, .one (.hp k j i), by simp [execOp, ho, hx'], ⟨a', ha, rfl, h1, h2⟩, h⟩
 ·rename_i f p q
  obtain ⟨hx', _⟩ := hx
  exact ⟨_, .one (.con (.func (.func f) p q)), by simp [execOp, ho, hx'], ⟨rfl, rfl⟩, h⟩
 ·rename_i f n b i
  have hx' : a.eval X = _ := hx
  exact ⟨_, .one (.clo f n b i), by simp [execOp, ho, hx'], rfl, h⟩
 ·exact h.elim
theorem setSeg_flat : ∀ {s : List Seg} {b : Nat} {x y : Seg} {s' : List Seg}, segsOk s → findSeg s b = some x → y.ok → y.len = x.len → setSeg s b y = some s' →
  segsOk s' ∧ slen s' = slen s ∧ ∀ (j : Nat), (flat s')[j]? = if b ≤ j ∧ j < b + x.len then y.flat[j - b]? else (flat s)[j]?
 | [], _, _, _, _, _, h, _, _, _ => by simp [findSeg] at h
 | s :: r, 0, x, y, s', ho, hf, hy, hl, hs => by
  simp only [findSeg, Option.some.injEq] at hf
  subst hf
  simp only [setSeg, Option.some.injEq] at hs
  subst hs
  refine ⟨⟨hy, ho.2⟩, by simp [slen, hl], fun j => ?_⟩
  have h1 := Seg.flat_length ho.1
  have h2 := Seg.flat_length hy
  simp only [flat, Nat.zero_le, true_and, Nat.zero_add, Nat.sub_zero]
  split
  ·rw [List.getElem?_append_left (by omega)]
  ·rw [List.getElem?_append_right (by omega), List.getElem?_append_right (by omega), h1, h2, hl]
 | s :: r, b + 1, x, y, s', ho, hf, hy, hl, hs => by
  simp only [findSeg] at hf
  simp only [setSeg] at hs
  split at hf
  ·rename_i hle
   rw [if_pos hle] at hs
   simp only [Option.map_eq_some_iff] at hs
   obtain ⟨r', hr', rfl⟩ := hs
   obtain ⟨g1, g2, g3⟩ := setSeg_flat ho.2 hf hy hl hr'
   refine ⟨⟨ho.1, g1⟩, by simp [slen, g2], fun j => ?_⟩
   have h1 := Seg.flat_length ho.1
   simp only [flat]
   by_cases hj : j < s.len
   ·rw [List.getElem?_append_left (by omega), List.getElem?_append_left (by omega), if_neg (by omega)]
   ·rw [List.getElem?_append_right (by omega), List.getElem?_append_right (by omega), g3]
    have e : (b + 1 - s.len ≤ j - s.flat.length ∧ j - s.flat.length < b + 1 - s.len + x.len) ↔ (b + 1 ≤ j ∧ j < b + 1 + x.len) := by omega
    simp only [e]
    split
    ·congr 1; omega
    ·rfl
  ·cases hf
theorem FRep.put {ρ : Rho} {l l' : List AC} {c c' : List Value} {off z : Nat} {ys : List AC} {us : List Value} (hf : FRep ρ l c) (hlen : l'.length = l.length) (hclen : c'.length = c.length)
  (hu : ∀ (j : Nat) a v, ys[j]? = some a → us[j]? = some v → CRep ρ a v) (hl : ∀ (j : Nat), l'[j]? = if off ≤ j ∧ j < off + z then ys[j - off]? else l[j]?)
  (hc : ∀ (j : Nat), c'[j]? = if off ≤ j ∧ j < off + z then us[j - off]? else c[j]?) : FRep ρ l' c' := by
 refine ⟨by have := hf.1; omega, fun j a v ha hv => ?_⟩
 rw [hl] at ha
 rw [hc] at hv
 by_cases h1 : off ≤ j ∧ j < off + z
 ·rw [if_pos h1] at ha hv
  exact hu _ _ _ ha hv
 ·rw [if_neg h1] at ha hv
  exact hf.2 j a v ha hv
theorem storeOne_sound {s : List Seg} {base idx : Nat} {a : AC} {K : List Seg → Prop} (h : storeOne s base idx a K) (ho : segsOk s) :
  ∃ s', K s' ∧ segsOk s' ∧ slen s' = slen s ∧ base + idx < slen s ∧ ∃ a', (∀ ρ v, CRep ρ a v → CRep ρ a' v) ∧ ∀ (j : Nat), (flat s')[j]? = if base + idx ≤ j ∧ j < base + idx + 1 then [a'][j - (base + idx)]? else (flat s)[j]? := by
 have key : ∀ {x y : Seg} {s' : List Seg} {a' : AC}, findSeg s base = some x → y.ok → y.len = x.len → setSeg s base y = some s' → idx < x.len → (∀ ρ v, CRep ρ a v → CRep ρ a' v) → (∀ (j : Nat), y.flat[j]? = if j = idx then some a' else x.flat[j]?) → K s' →
   ∃ s', K s' ∧ segsOk s' ∧ slen s' = slen s ∧ base + idx < slen s ∧ ∃ a', (∀ ρ v, CRep ρ a v → CRep ρ a' v) ∧ ∀ (j : Nat), (flat s')[j]? = if base + idx ≤ j ∧ j < base + idx + 1 then [a'][j - (base + idx)]? else (flat s)[j]? := by
  intro x y s' a' hf hy hl hs hi ha hfl hK
  obtain ⟨g1, g2, g3⟩ := setSeg_flat ho hf hy hl hs
  obtain ⟨hx, hxf⟩ := findSeg_flat ho hf
  have hlen := findSeg_len hf
  have hxl := Seg.flat_length hx
  refine ⟨s', hK, g1, g2, by omega, a', ha, fun j => ?_⟩
  rw [g3]
  by_cases h1 : base ≤ j ∧ j < base + x.len
  ·rw [if_pos h1, hfl]
   by_cases h2 : j - base = idx
   ·rw [if_pos h2, if_pos (by omega)]
    have : j - (base + idx) = 0 := by omega
    simp [this]
   ·rw [if_neg h2, if_neg (by omega)]
    have hlt : j - base < x.flat.length := by omega
    have := hxf (j - base) _ (List.getElem?_eq_getElem hlt)
    rw [show base + (j - base) = j by omega] at this
    rw [this, List.getElem?_eq_getElem hlt]
  ·rw [if_neg h1, if_neg (by omega)]
 unfold storeOne at h
 split at h
 ·rename_i k N l hf
  obtain ⟨hx, _⟩ := findSeg_flat ho hf
  split at h <;> try exact h.elim
  rename_i k' v
  split at h <;> try exact h.elim
  rename_i hk
  subst hk
  obtain ⟨hlow, h⟩ := h
  split at h <;> try exact h.elim
  rename_i s' hs
  have hx' : l.length = N := hx
  refine key hf (y := .ints k N (lset l idx v)) (a' := .int k v) (by simp [Seg.ok, lset, hx']) rfl hs hlow.lt (fun _ _ h => h) (fun j => ?_) h
  simp only [Seg.flat, lset, List.getElem?_map, List.getElem?_set]
  have := hlow.lt
  by_cases hj : idx = j
  ·subst hj; simp; omega
  ·simp [hj, Ne.symm hj]
 ·rename_i N l hf
  obtain ⟨hx, _⟩ := findSeg_flat ho hf
  have hx' : l.length = N := hx
  have bb : ∀ (v : Bool) {s' : List Seg}, idx < N → setSeg s base (.bools N (lsetb l idx v)) = some s' → (∀ ρ u, CRep ρ a u → CRep ρ (.bool v) u) → K s' → _ := fun v s' hlow hs ha hK =>
   key hf (y := .bools N (lsetb l idx v)) (a' := .bool v) (by simp [Seg.ok, lsetb, hx']) rfl hs hlow ha (fun j => by
    simp only [Seg.flat, lsetb, List.getElem?_map, List.getElem?_set]
    by_cases hj : idx = j
    ·subst hj; simp; omega
    ·simp [hj, Ne.symm hj]) hK
  split at h
  ·obtain ⟨hlow, h⟩ := h
   split at h <;> try exact h.elim
   rename_i hs
   exact bb _ hlow.lt hs (fun _ _ h => h) h
  ·obtain ⟨hlow, h⟩ := h
   split at h <;> try exact h.elim
   rename_i hs
   exact bb _ hlow.lt hs (fun _ _ h => h) h
  ·exact h.elim
 ·rename_i cs hf
  split at h <;> try exact h.elim
  rename_i hlow
  split at h <;> try exact h.elim
  rename_i s' hs
  have hlow' : idx < cs.length := of_decide_eq_true hlow
  refine key hf (y := .cells (cs.set idx a)) (a' := a) trivial (by simp [Seg.len]) hs hlow' (fun _ _ h => h) (fun j => ?_) h
  simp only [Seg.flat, List.getElem?_set]
  by_cases hj : idx = j
  ·subst hj; simp [hlow']
  ·simp [hj, Ne.symm hj]
 ·exact h.elim
theorem storePart_sound {s x : List Seg} {z base idx : Nat} {K : List Seg → Prop} (h : storePart s z base idx x K) (ho : segsOk s) (hx : segsOk x) :
  ∃ s', K s' ∧ segsOk s' ∧ slen s' = slen s ∧ base + idx + z ≤ slen s ∧ (flat x).length = z ∧ ∀ (j : Nat), (flat s')[j]? = if base + idx ≤ j ∧ j < base + idx + z then (flat x)[j - (base + idx)]? else (flat s)[j]? := by
 unfold storePart at h
 split at h <;> try exact h.elim
 rename_i k N l k' z' l' hf
 split at h <;> try exact h.elim
 rename_i hk
 split at h <;> try exact h.elim
 rename_i hz
 subst hk hz
 obtain ⟨hfit, h⟩ := h
 split at h <;> try exact h.elim
 rename_i s' hs
 obtain ⟨hok, hfl⟩ := findSeg_flat ho hf
 have hl : l.length = N := hok
 have hl' : l'.length = z' := hx.1
 have hle : idx + z' ≤ N := hfit.le
 obtain ⟨g1, g2, g3⟩ := setSeg_flat ho hf (y := .ints k N (lput l idx l')) (by simp [Seg.ok, lput]; omega) rfl hs
 have hlen : base + N ≤ slen s := findSeg_len hf
 have g3 : ∀ (j : Nat), (flat s')[j]? = if base ≤ j ∧ j < base + N then ((lput l idx l').map (AC.int k))[j - base]? else (flat s)[j]? := g3
 refine ⟨s', h, g1, g2, by omega, by simp [flat, Seg.flat, hl'], fun j => ?_⟩
 rw [g3]
 by_cases h1 : base ≤ j ∧ j < base + N
 ·rw [if_pos h1]
  simp only [Seg.flat, flat, List.append_nil, List.getElem?_map, lput]
  by_cases h2 : base + idx ≤ j ∧ j < base + idx + z'
  ·rw [if_pos h2, List.append_assoc, List.getElem?_append_right (by simp; omega), List.getElem?_append_left (by simp; omega)]
   congr 2
   simp; omega
  ·rw [if_neg h2]
   have hlt : j - base < l.length := by omega
   have := hfl (j - base) (.int k l[j - base]) (by simp [Seg.flat, hlt])
   rw [show base + (j - base) = j by omega] at this
   rw [this]
   by_cases h3 : j - base < idx
   ·rw [List.append_assoc, List.getElem?_append_left (by simp; omega), List.getElem?_take, if_pos h3, List.getElem?_eq_getElem hlt]; rfl
   ·rw [List.getElem?_append_right (by simp; omega), List.getElem?_drop]
    have e : idx + l'.length + (j - base - (List.take idx l ++ l').length) = j - base := by simp; omega
    rw [e, List.getElem?_eq_getElem hlt]; rfl
 ·rw [if_neg h1, if_neg (by omega)]
end
end Go.Sx
