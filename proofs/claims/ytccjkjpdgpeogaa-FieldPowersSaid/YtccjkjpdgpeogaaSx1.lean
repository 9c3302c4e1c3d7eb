/- One operation of the symbolic walk: what it needs, and what stands behind it. -/
import Derived.Test.YtccjkjpdgpeogaaSx0
namespace Go.Sx
open Go

def AC.refs (d : Nat) : AC → Bool
  | .ptr n _ _ => n == d
  | .sl n _ _ _ _ => n == d
  | .clo _ n _ _ => n == d
  | _ => false

def Seg.refs (d : Nat) : Seg → Bool
  | .cells cs => cs.any (AC.refs d)
  | _ => false

def segsRefs (d : Nat) (s : List Seg) : Bool := s.any (Seg.refs d)

def TV.refs (d : Nat) : TV → Bool
  | .c a => a.refs d
  | .g s => segsRefs d s

def AV.refs (d : Nat) : AV → Bool
  | .one a => a.refs d
  | .agg s => segsRefs d s
  | .tup vs => vs.any (TV.refs d)
  | .undef => false

def frRefs (d : Nat) (fr : Fr) : Bool := fr.any (AV.refs d)
def memRefs (d : Nat) (σ : Mem) : Bool := σ.any fun p => p.1 == d || segsRefs d p.2.segs
def freshB (d : Nat) (fr : Fr) (σ : Mem) : Bool := decide (d < 200000) && !frRefs d fr && !memRefs d σ

/-- a new block, put in its place among the others -/
def Mem.ins (d : Nat) (b : Blk) : Mem → Mem
  | [] => [(d, b)]
  | (m, x) :: r => match Nat.ble m d with
    | true => (m, x) :: Mem.ins d b r
    | false => (d, b) :: (m, x) :: r

/-- a new block under the name of the slot -/
def newx (dst : Option Tmp) (fr : Fr) (σ : Mem) (b : Blk) (K : Nat → Mem → Prop) : Prop :=
  match dst with
  | some d => match freshB d fr σ with
    | true => K d (Mem.ins d b σ)
    | false => False
  | none => False

def partx (s : List Seg) (z base idx : Nat) (K : AV → Prop) : Prop :=
  match findSeg s base with
  | some (.ints k N l) => Fits (nadd idx z) N ∧ K (.agg [.ints k z (lsub l idx z)])
  | _ => False

def onex (s : List Seg) (base idx : Nat) (K : AV → Prop) : Prop :=
  match findSeg s base with
  | some (.ints k N l) => Low idx N ∧ K (.one (.int k (lget l idx)))
  | some (.bools N l) => Low idx N ∧ K (.one (.bool (lgetb l idx)))
  | some (.cells cs) => match cs[idx]? with
    | some c => K (.one c)
    | none => False
  | none => False

def loadx (P : Program) (σ : Mem) (T : TypeId) (n base idx : Nat) (K : AV → Prop) : Prop :=
  match Mem.find σ n with
  | none => False
  | some b =>
    match isAggB P T, sizeB P T with
    | some true, some (z + 1) => match b with
      | .own T' s => if T' = T then (match base, idx with | 0, 0 => (if slen s = z + 1 then K (.agg s) else False) | _, _ => False) else partx s (z + 1) base idx K
      | .view s => partx s (z + 1) base idx K
    | some false, some _ => onex b.segs base idx K
    | _, _ => False

def storeOne (s : List Seg) (base idx : Nat) (a : AC) (K : List Seg → Prop) : Prop :=
  match findSeg s base with
  | some (.ints k N l) => match a with
    | .int k' v => if k = k' then Low idx N ∧ (match setSeg s base (.ints k N (lset l idx v)) with | some s' => K s' | none => False) else False
    | _ => False
  | some (.bools N l) => match a with
    | .bool v => Low idx N ∧ (match setSeg s base (.bools N (lsetb l idx v)) with | some s' => K s' | none => False)
    | .lit v => Low idx N ∧ (match setSeg s base (.bools N (lsetb l idx v)) with | some s' => K s' | none => False)
    | _ => False
  | some (.cells cs) => match decide (idx < cs.length) with
    | true => (match setSeg s base (.cells (cs.set idx a)) with | some s' => K s' | none => False)
    | false => False
  | none => False

def storePart (s : List Seg) (z base idx : Nat) (x : List Seg) (K : List Seg → Prop) : Prop :=
  match findSeg s base, x with
  | some (.ints k N l), [.ints k' z' l'] =>
    if k = k' then (if z' = z then Fits (nadd idx z) N ∧ (match setSeg s base (.ints k N (lput l idx l')) with | some s' => K s' | none => False) else False) else False
  | _, _ => False

def sameShape : List Seg → List Seg → Bool
  | [], [] => true
  | .ints k n _ :: r, .ints k' n' _ :: r' => k == k' && n == n' && sameShape r r'
  | .bools n _ :: r, .bools n' _ :: r' => n == n' && sameShape r r'
  | .cells c :: r, .cells c' :: r' => c.length == c'.length && sameShape r r'
  | _, _ => false

def storex (P : Program) (σ : Mem) (T : TypeId) (n base idx : Nat) (x : AV) (K : Mem → Prop) : Prop :=
  match Mem.find σ n with
  | some (.own T' s) =>
    match isAggB P T, sizeB P T with
    | some true, some z => match x with
      | .agg xs => if T' = T then (match base, idx with | 0, 0 => (match sameShape s xs with | true => (if slen xs = z then K (σ.put n (.own T' xs)) else False) | false => False) | _, _ => False) else storePart s z base idx xs fun s' => K (σ.put n (.own T' s'))
      | _ => False
    | some false, some 1 => match x with
      | .one a => storeOne s base idx a fun s' => K (σ.put n (.own T' s'))
      | _ => False
    | _, _ => False
  | _ => False

def intBin (op : BinOp) (k : IntKind) (a b : Int) (K : AV → Prop) : Prop :=
  match op with
  | .add => K (.one (.int k (add k a b)))
  | .sub => K (.one (.int k (sub k a b)))
  | .mul => K (.one (.int k (mul k a b)))
  | .quo => NeZ b ∧ K (.one (.int k (quo k a b)))
  | .rem => NeZ b ∧ K (.one (.int k (rem a b)))
  | .and => K (.one (.int k (band k a b)))
  | .or => K (.one (.int k (bor k a b)))
  | .xor => K (.one (.int k (bxor k a b)))
  | .andNot => K (.one (.int k (bclr k a b)))
  | .eql => K (.one (.bool (ieq a b)))
  | .neq => K (.one (.bool (ine a b)))
  | .lss => K (.one (.bool (ilt a b)))
  | .leq => K (.one (.bool (ile a b)))
  | .gtr => K (.one (.bool (igt a b)))
  | .geq => K (.one (.bool (ige a b)))
  | _ => False

/-- an array of integers, of which '==' is the lists' -/
def intArr (P : Program) (t : TypeId) : Option (IntKind × Nat) :=
  match P.underlying t with
  | some (.array n e) => match P.underlying e with
    | some (.int k) => if sizeB P e = some 1 then (if P.eqGuardType P.depth t = false then some (k, n) else none) else none
    | _ => none
  | _ => none

def boolx (P : Program) (op : BinOp) (t : TypeId) (a b : Bool) (K : AV → Prop) : Prop :=
  match P.underlying t with
  | some .bool => match op with
    | .eql => K (.one (.bool (beq2 a b)))
    | .neq => K (.one (.bool (bnot (beq2 a b))))
    | _ => False
  | _ => False

def binx (P : Program) (op : BinOp) (t : TypeId) (x y : AV) (K : AV → Prop) : Prop :=
  match x, y with
  | .one (.int k a), .one (.int k' b) =>
    match op with
    | .shl => NonNeg b ∧ K (.one (.int k (shl k a b)))
    | .shr => NonNeg b ∧ K (.one (.int k (shr k a b)))
    | _ => if k = k' then intBin op k a b K else False
  | .one (.str a), .one (.str b) =>
    match op with
    | .eql => K (.one (.bool (seq2 a b)))
    | .neq => K (.one (.bool (bnot (seq2 a b))))
    | _ => False
  | .one (.bool a), .one (.bool b) => boolx P op t a b K
  | .one (.lit a), .one (.bool b) => boolx P op t a b K
  | .one (.bool a), .one (.lit b) => boolx P op t a b K
  | .one (.lit a), .one (.lit b) => boolx P op t a b K
  | .agg [.ints k n a], .agg [.ints k' n' b] =>
    match intArr P t with
    | some (kk, m) =>
      if kk = k then (if k = k' then (if n = m then (if n' = m then
        (match op with
        | .eql => K (.one (.bool (leq a b)))
        | .neq => K (.one (.bool (bnot (leq a b))))
        | _ => False) else False) else False) else False) else False
    | none => False
  | _, _ => False

def unx (op : UnOp) (x : AV) (K : AV → Prop) : Prop :=
  match op, x with
  | .neg, .one (.int k n) => K (.one (.int k (sub k 0 n)))
  | .xor, .one (.int k n) => K (.one (.int k (bxor k (if k.signed then -1 else k.max) n)))
  | .not, .one (.bool b) => K (.one (.bool (bnot b)))
  | .not, .one (.lit b) => K (.one (.lit (!b)))
  | _, _ => False

def convx (P : Program) (src dst : TypeId) (x : AV) (K : AV → Prop) : Prop :=
  match x with
  | .one (.int _ n) => match P.underlying src, P.underlying dst with
    | some _, some (.int k) => K (.one (.int k (conv k n)))
    | _, _ => False
  | _ => False

/-- the address of an element -/
def indexAddrx (P : Program) (t : TypeId) (x ix : AV) (K : AV → Prop) : Prop :=
  match x, ix with
  | .one (.ptr n base idx), .one (.int _ i) =>
    match P.underlying t with
    | some (.array len e) => match sizeB P e with
      | some 1 => InB i len ∧ K (.one (.ptr n base (nadd idx (nat i))))
      | some z => InB i len ∧ K (.one (.ptr n base (nadd idx (nmul (nat i) z))))
      | none => False
    | _ => False
  | .one (.sl n base idx len _), .one (.int _ i) =>
    match P.underlying t with
    | some (.slice e) => match sizeB P e with
      | some 1 => InB i len ∧ K (.one (.ptr n base (nadd idx (nat i))))
      | some z => InB i len ∧ K (.one (.ptr n base (nadd idx (nmul (nat i) z))))
      | none => False
    | _ => False
  | _, _ => False

/-- the value of an element -/
def indexx (P : Program) (t : TypeId) (x ix : AV) (K : AV → Prop) : Prop :=
  match x, ix with
  | .agg [.ints k N l], .one (.int _ i) =>
    match P.underlying t with
    | some (.array len e) => match P.underlying e, sizeB P e with
      | some (.int _), some 1 => if N = len then InB i len ∧ K (.one (.int k (lget l (nat i)))) else False
      | some (.array _ _), some z => if N = len * z then InB i len ∧ K (.agg [.ints k z (lsub l (nmul (nat i) z) z)]) else False
      | _, _ => False
    | _ => False
  | .agg [.bools N l], .one (.int _ i) =>
    match P.underlying t with
    | some (.array len e) => match P.underlying e, sizeB P e with
      | some .bool, some 1 => if N = len then InB i len ∧ K (.one (.bool (lgetb l (nat i)))) else False
      | _, _ => False
    | _ => False
  | _, _ => False

/-- parts of a new array or struct, one by one -/
def fillx (s : List Seg) (place : Nat → Option (Nat × Nat)) : List (Nat × AV) → (List Seg → Prop) → Prop
  | [], K => K s
  | (i, v) :: r, K =>
    match place i with
    | none => False
    | some (off, size) =>
      match locate s off 0 with
      | none => False
      | some (base, idx) =>
        match v with
        | .one a => match size with
          | 1 => storeOne s base idx a fun s' => fillx s' place r K
          | _ => False
        | .agg xs => storePart s size base idx xs fun s' => fillx s' place r K
        | _ => False

def buildx (P : Program) (t : TypeId) (parts : List (Nat × AV)) (K : AV → Prop) : Prop :=
  match zeroSegs P t with
  | none => False
  | some s =>
    match P.underlying t with
    | some (.array _ e) => match sizeB P e with
      | some z => fillx s (fun i => some (i * z, z)) parts fun s' => K (.agg s')
      | none => False
    | some (.struct fs) => match fs.toList.mapM (fun f => (sizeB P f.type).map fun z => (f.offset, z)) with
      | some places => fillx s (fun i => places[i]?) parts fun s' => K (.agg s')
      | none => False
    | _ => False

def fieldAddrx (P : Program) (σ : Mem) (t : TypeId) (x : AV) (f : Nat) (K : AV → Prop) : Prop :=
  match x with
  | .one (.ptr n base idx) =>
    match P.underlying t with
    | some (.struct fs) => match fs[f]? with
      | some fd => match sizeB P fd.type with
        | some (_ + 1) => match Mem.find σ n with
          | some b => match b.segs with
            | [_] => K (.one (.ptr n base (nadd idx fd.offset)))
            | s => match locate s (base + idx + fd.offset) 0 with
              | some (base', idx') => K (.one (.ptr n base' idx'))
              | none => False
          | none => False
        | _ => False
      | none => False
    | _ => False
  | _ => False

def fieldx (P : Program) (t : TypeId) (x : AV) (f : Nat) (K : AV → Prop) : Prop :=
  match x with
  | .agg s =>
    match P.underlying t with
    | some (.struct fs) => match fs[f]? with
      | some fd => match locate s fd.offset 0 with
        | some (base, idx) => match isAggB P fd.type, sizeB P fd.type with
          | some true, some z => partx s z base idx K
          | some false, some _ => onex s base idx K
          | _, _ => False
        | none => False
      | none => False
    | _ => False
  | _ => False

def TV.av : TV → AV
  | .c a => .one a
  | .g s => .agg s

def extractx (x : AV) (i : Nat) (K : AV → Prop) : Prop :=
  match x with
  | .tup vs => match vs[i]? with
    | some v => K v.av
    | none => False
  | _ => False

/-- low and high of a slice expression: the start, the length and the room from there -/
def boundx (lo hi : Option AV) (len cap : Nat) (K : Nat → Nat → Prop) : Prop :=
  match lo, hi with
  | none, none => K 0 len
  | some (.one (.int _ l)), none => (NonNeg l ∧ Fits (nat l) len) ∧ K (nat l) len
  | none, some (.one (.int _ h)) => (NonNeg h ∧ Fits (nat h) cap) ∧ K 0 (nat h)
  | some (.one (.int _ l)), some (.one (.int _ h)) => ((NonNeg h ∧ Fits (nat h) cap) ∧ (NonNeg l ∧ Fits (nat l) (nat h))) ∧ K (nat l) (nat h)
  | _, _ => False

def mulZ (z n : Nat) : Nat := match z with | 1 => n | _ => nmul n z

def slK (K : AV → Prop) (lo : Option AV) (n base idx z l u cap : Nat) : Prop :=
  match lo with
  | none => K (.one (.sl n base idx u cap))
  | some _ => K (.one (.sl n base (nadd idx (mulZ z l)) (nsub u l) (nsub cap l)))

def slicex (P : Program) (t : TypeId) (x : AV) (lo hi : Option AV) (K : AV → Prop) : Prop :=
  match x with
  | .one (.sl n base idx len cap) =>
    match P.underlying t with
    | some (.slice e) => match sizeB P e with
      | some z => boundx lo hi len cap fun l u => slK K lo n base idx z l u cap
      | none => False
    | _ => False
  | .one (.ptr n base idx) =>
    match P.underlying t with
    | some (.pointer a) => match P.underlying a with
      | some (.array N e) => match sizeB P e with
        | some z => boundx lo hi N N fun l u => slK K lo n base idx z l u N
        | none => False
      | _ => False
    | some (.array N e) => match sizeB P e with
      | some z => boundx lo hi N N fun l u => slK K lo n base idx z l u N
      | none => False
    | _ => False
  | _ => False

def arrx (P : Program) (arr : TypeId) (x : AV) (K : AV → Prop) : Prop :=
  match x with
  | .one (.sl n base idx len _) => match P.underlying arr with
    | some (.array (N + 1) _) => Fits (N + 1) len ∧ K (.one (.ptr n base idx))
    | _ => False
  | _ => False

def nilx (x : AV) (K : AV → Prop) : Prop :=
  match x with
  | .one (.ptr n b i) => K (.one (.ptr n b i))
  | .one (.con (.func (.func f) a b)) => K (.one (.con (.func (.func f) a b)))
  | .one (.clo f n b i) => K (.one (.clo f n b i))
  | _ => False

def lenx (P : Program) (t : TypeId) (x : AV) (K : AV → Prop) : Prop :=
  match P.underlying t with
  | some (.array n _) => K (.one (.int .i64 (ofNat n)))
  | some (.slice _) => match x with
    | .one (.sl _ _ _ len _) => K (.one (.int .i64 (ofNat len)))
    | .one (.con (.slice none 0 0)) => K (.one (.int .i64 0))
    | _ => False
  | some .string => match x with
    | .one (.str s) => K (.one (.int .i64 (ofNat s.size)))
    | _ => False
  | some (.pointer a) => match P.underlying a with
    | some (.array n _) => K (.one (.int .i64 (ofNat n)))
    | _ => False
  | _ => False

/-- an operation that leaves the memory as it is: pure, or it only reads -/
def detx (P : Program) (o : Op) (fr : Fr) (σ : Mem) (K : AV → Prop) : Prop :=
  match o with
  | .move x => K (ev fr x)
  | .assign x => K (ev fr x)
  | .load T a => match ev fr a with
    | .one (.ptr n base idx) => loadx P σ T n base idx K
    | _ => False
  | .nilCheck x => nilx (ev fr x) K
  | .binOp op t x y _ => binx P op t (ev fr x) (ev fr y) K
  | .unOp op _ x => unx op (ev fr x) K
  | .convert s d x => convx P s d (ev fr x) K
  | .sliceToArrayPointer arr x => arrx P arr (ev fr x) K
  | .slice t x lo hi none => slicex P t (ev fr x) (lo.map (ev fr)) (hi.map (ev fr)) K
  | .fieldAddr t x f => fieldAddrx P σ t (ev fr x) f K
  | .field t x f => fieldx P t (ev fr x) f K
  | .indexAddr t x i => indexAddrx P t (ev fr x) (ev fr i) K
  | .index t x i => indexx P t (ev fr x) (ev fr i) K
  | .extract x i => extractx (ev fr x) i K
  | .build t ps => buildx P t (ps.toList.map fun p => (p.1, ev fr p.2)) K
  | .call { callee := .builtin .len, args, argTypes } => match args.toList, argTypes.toList with
    | [x], [t] => lenx P t (ev fr x) K
    | _, _ => False
  | _ => False
end Go.Sx
