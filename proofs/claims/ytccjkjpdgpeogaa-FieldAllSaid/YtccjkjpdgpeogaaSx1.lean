/- One operation of the symbolic walk: what it needs, and what stands behind it. -/
import Derived.Test.YtccjkjpdgpeogaaSx0
namespace Go.Sx
open Go
set_option linter.unusedVariables false

def AC.refs (d : Nat) : AC → Bool
  | .ptr n _ _ => n == d
  | .sl n _ _ _ _ => n == d
  | .clo _ n _ _ => n == d
  | .vec n => n == d
  | .vsl n _ _ _ => n == d
  | .vptr n _ _ _ _ => n == d
  | .el n _ _ => n == d
  | .esl n _ _ _ _ => n == d
  | .eptr n _ _ _ => n == d
  | _ => false

def Seg.refs (d : Nat) : Seg → Bool
  | .cells cs => cs.any (AC.refs d)
  | _ => false

def segsRefs (d : Nat) (s : List Seg) : Bool := s.any (Seg.refs d)

def TV.refs (d : Nat) : TV → Bool
  | .c a => a.refs d
  | .g s => segsRefs d s

def AV.refs (d : Nat) : AV → Bool
  | .one a => a.refs d
  | .agg s => segsRefs d s
  | .tup vs => vs.any (TV.refs d)
  | .undef => false

def frRefs (d : Nat) (fr : Fr) : Bool := fr.any (AV.refs d)
def memRefs (d : Nat) (σ : Mem) : Bool := σ.any fun p => p.1 == d || segsRefs d p.2.segs
def freshB (d : Nat) (fr : Fr) (σ : Mem) : Bool := decide (d < 200000) && !frRefs d fr && !memRefs d σ

/-- a new block, put in its place among the others -/
def Mem.ins (d : Nat) (b : Blk) : Mem → Mem
  | [] => [(d, b)]
  | (m, x) :: r => match Nat.ble m d with
    | true => (m, x) :: Mem.ins d b r
    | false => (d, b) :: (m, x) :: r

/-- a new block under the name of the slot -/
def newx (dst : Option Tmp) (fr : Fr) (σ : Mem) (b : Blk) (K : Nat → Mem → Prop) : Prop :=
  match dst with
  | some d => match freshB d fr σ with
    | true => K d (Mem.ins d b σ)
    | false => False
  | none => False

def partx (s : List Seg) (z base idx : Nat) (K : AV → Prop) : Prop :=
  match findSeg s base with
  | some (.ints k N l) => Fits (nadd idx z) N ∧ K (.agg [.ints k z (lsub l idx z)])
  | _ => False

def onex (s : List Seg) (base idx : Nat) (K : AV → Prop) : Prop :=
  match findSeg s base with
  | some (.ints k N l) => Low idx N ∧ K (.one (.int k (lget l idx)))
  | some (.bools N l) => Low idx N ∧ K (.one (.bool (lgetb l idx)))
  | some (.cells cs) => match cs[idx]? with
    | some c => K (.one c)
    | none => False
  | none => False

def loadx (P : Program) (σ : Mem) (T : TypeId) (n base idx : Nat) (K : AV → Prop) : Prop :=
  match Mem.find σ n with
  | none => False
  | some b =>
    match isAggB P T, sizeB P T with
    | some true, some (z + 1) => match b with
      | .own T' s => if T' = T then (match base, idx with | 0, 0 => (if slen s = z + 1 then K (.agg s) else False) | _, _ => False) else partx s (z + 1) base idx K
      | .view s => partx s (z + 1) base idx K
      | _ => False
    | some false, some _ => onex b.segs base idx K
    | _, _ => False

/-! records -/
def Mem.cols (σ : Mem) (n : Nat) : Option (List Col) :=
  match Mem.find σ n with
  | some (.vec cs) => some cs
  | some (.rview cs) => some cs
  | _ => none

/-- the slices in a column -/
def Mem.rows (σ : Mem) (n c : Nat) : Option (IntKind × List (List Int)) :=
  match Mem.cols σ n with
  | some cs => match cs[c]? with
    | some (.rows k ll) => some (k, ll)
    | _ => none
  | none => none

def segOf (n i c : Nat) : Col → Seg
  | .ints k l => .cells [.int k (lget l i)]
  | .bools l => .cells [.bool (lgetb l i)]
  | .arrs k m l => .ints k m (llget l i)
  | .rows _ _ => .cells [.el n c i]

def segsAt (n i : Nat) : Nat → List Col → List Seg
  | _, [] => []
  | c, x :: r => segOf n i c x :: segsAt n i (c + 1) r

def loadV (P : Program) (σ : Mem) (T : TypeId) (n z i b j : Nat) (K : AV → Prop) : Prop :=
  match Mem.cols σ n with
  | none => False
  | some cs => match Nat.beq z (width (kdsOf cs)) with
    | false => False
    | true => match isAggB P T, sizeB P T with
      | some true, some s => match j with
        | 0 => match colAt cs b 0 with
          | some (_, .arrs k m l) => match Nat.beq m s with
            | true => K (.agg [.ints k m (llget l i)])
            | false => match b, Nat.beq s z with
              | 0, true => K (.agg (segsAt n i 0 cs))
              | _, _ => False
          | some (_, .ints k l) => match z with
            | 1 => Fits (nadd i s) (llen l) ∧ K (.agg [.ints k s (lsub l i s)])
            | _ => match b, Nat.beq s z with
              | 0, true => K (.agg (segsAt n i 0 cs))
              | _, _ => False
          | some _ => match b, Nat.beq s z with
            | 0, true => K (.agg (segsAt n i 0 cs))
            | _, _ => False
          | none => False
        | _ => False
      | some false, some _ => match colAt cs b 0 with
        | some (_, .ints k l) => match j with
          | 0 => K (.one (.int k (lget l i)))
          | _ => False
        | some (_, .bools l) => match j with
          | 0 => K (.one (.bool (lgetb l i)))
          | _ => False
        | some (c, .rows _ _) => match j with
          | 0 => K (.one (.el n c i))
          | _ => False
        | some (_, .arrs k m l) => Low j m ∧ K (.one (.int k (lget (llget l i) j)))
        | none => False
      | _, _ => False

def loadE (P : Program) (σ : Mem) (T : TypeId) (n c i o : Nat) (K : AV → Prop) : Prop :=
  match Mem.rows σ n c with
  | none => False
  | some (k, ll) => match isAggB P T, sizeB P T with
    | some true, some s => Fits (nadd o s) (llen (llget ll i)) ∧ K (.agg [.ints k s (lsub (llget ll i) o s)])
    | some false, some _ => K (.one (.int k (lget (llget ll i) o)))
    | _, _ => False

/-- what a slice reads -/
def rdx (σ : Mem) (ks : List Kd) (x : AV) (K : List Col → Prop) : Prop :=
  match x with
  | .one (.vec n) => match Mem.cols σ n with
    | some cs => K cs
    | none => False
  | .one (.vsl n z i len) => match Mem.cols σ n with
    | some cs => match Nat.beq z (width (kdsOf cs)) with
      | true => K (cs.map (Col.sub i len))
      | false => False
    | none => False
  | .one (.el n c i) => match Mem.rows σ n c with
    | some (k, ll) => K [.ints k (llget ll i)]
    | none => False
  | .one (.esl n c i o len) => match Mem.rows σ n c with
    | some (k, ll) => K [.ints k (lsub (llget ll i) o len)]
    | none => False
  | .one (.sl n base idx len _) => match Mem.find σ n with
    | some b => match findSeg b.segs base with
      | some (.ints k N l) => Fits (nadd idx len) N ∧ K [.ints k (lsub l idx len)]
      | _ => False
    | none => False
  | .one (.con (.slice none 0 0)) => K (ks.map Kd.nil)
  | _ => False

/-- the same, a string's bytes too -/
def rdy (σ : Mem) (ks : List Kd) (x : AV) (K : List Col → Prop) : Prop :=
  match x with
  | .one (.str s) => match kdsEq ks [.ints .u8] with
    | true => K [.ints .u8 (bytesIn s)]
    | false => False
  | x => rdx σ ks x K

/-- what a slice reads whose memory is the walk's own; its block is given up -/
def takex (σ : Mem) (ks : List Kd) (x : AV) (K : List Col → Mem → Prop) : Prop :=
  match x with
  | .one (.vec n) => match Mem.find σ n with
    | some (.vec cs) => K cs (σ.erase n)
    | _ => False
  | .one (.vsl n z i len) => match Mem.find σ n with
    | some (.vec cs) => match Nat.beq z (width (kdsOf cs)) with
      | true => K (cs.map (Col.sub i len)) (σ.erase n)
      | false => False
    | _ => False
  | .one (.sl n base idx len cap) => match Mem.find σ n with
    | some (.own _ s) => match findSeg s base with
      | some (.ints k N l) => Fits (nadd idx cap) N ∧ K [.ints k (lsub l idx len)] (σ.erase n)
      | _ => False
    | _ => False
  | .one (.con (.slice none 0 0)) => K (ks.map Kd.nil) σ
  | _ => False

/-- what a slice reads that is laid into another list: its block, if it is the walk's own, is given up -/
def oneInts (k : IntKind) (K : List Int → Prop) (cs : List Col) : Prop :=
  match cs with
  | [.ints k' l] => if k' = k then K l else False
  | _ => False

def sharex (σ : Mem) (k : IntKind) (x : AC) (K : List Int → Mem → Prop) : Prop :=
  let go (σ' : Mem) : Prop := rdx σ [.ints k] (.one x) (oneInts k fun l => K l σ')
  match x with
  | .vec n => match Mem.find σ n with
    | some (.vec _) => go (σ.erase n)
    | _ => go σ
  | .vsl n _ _ _ => match Mem.find σ n with
    | some (.vec _) => go (σ.erase n)
    | _ => go σ
  | .sl n _ _ _ _ => match Mem.find σ n with
    | some (.own _ _) => go (σ.erase n)
    | _ => go σ
  | _ => go σ

def storeOne (s : List Seg) (base idx : Nat) (a : AC) (K : List Seg → Prop) : Prop :=
  match findSeg s base with
  | some (.ints k N l) => match a with
    | .int k' v => if k = k' then Low idx N ∧ (match setSeg s base (.ints k N (lset l idx v)) with | some s' => K s' | none => False) else False
    | _ => False
  | some (.bools N l) => match a with
    | .bool v => Low idx N ∧ (match setSeg s base (.bools N (lsetb l idx v)) with | some s' => K s' | none => False)
    | .lit v => Low idx N ∧ (match setSeg s base (.bools N (lsetb l idx v)) with | some s' => K s' | none => False)
    | _ => False
  | some (.cells cs) => match decide (idx < cs.length) with
    | true => (match setSeg s base (.cells (cs.set idx a)) with | some s' => K s' | none => False)
    | false => False
  | none => False

def storePart (s : List Seg) (z base idx : Nat) (x : List Seg) (K : List Seg → Prop) : Prop :=
  match findSeg s base, x with
  | some (.ints k N l), [.ints k' z' l'] =>
    if k = k' then (if z' = z then Fits (nadd idx z) N ∧ (match setSeg s base (.ints k N (lput l idx l')) with | some s' => K s' | none => False) else False) else False
  | _, _ => False

def sameShape : List Seg → List Seg → Bool
  | [], [] => true
  | .ints k n _ :: r, .ints k' n' _ :: r' => k == k' && n == n' && sameShape r r'
  | .bools n _ :: r, .bools n' _ :: r' => n == n' && sameShape r r'
  | .cells c :: r, .cells c' :: r' => c.length == c'.length && sameShape r r'
  | _, _ => false

def storex (P : Program) (σ : Mem) (T : TypeId) (n base idx : Nat) (x : AV) (K : Mem → Prop) : Prop :=
  match Mem.find σ n with
  | some (.own T' s) =>
    match isAggB P T, sizeB P T with
    | some true, some z => match x with
      | .agg xs => if T' = T then (match base, idx with | 0, 0 => (match sameShape s xs with | true => (if slen xs = z then K (σ.put n (.own T' xs)) else False) | false => False) | _, _ => False) else storePart s z base idx xs fun s' => K (σ.put n (.own T' s'))
      | _ => False
    | some false, some 1 => match x with
      | .one a => storeOne s base idx a fun s' => K (σ.put n (.own T' s'))
      | _ => False
    | _, _ => False
  | _ => False

def storeV (P : Program) (σ : Mem) (T : TypeId) (n z i b j : Nat) (x : AV) (K : Mem → Prop) : Prop :=
  match Mem.find σ n with
  | some (.vec cs) => match Nat.beq z (width (kdsOf cs)) with
    | false => False
    | true => match isAggB P T, sizeB P T with
      | some false, some 1 => match colAt cs b 0, x with
        | some (c, .ints k l), .one (.int k' v) => match j with
          | 0 => if k = k' then K (σ.put n (.vec (setCol cs c (.ints k (lset l i v))))) else False
          | _ => False
        | some (c, .bools l), .one (.bool v) => match j with
          | 0 => K (σ.put n (.vec (setCol cs c (.bools (lsetb l i v)))))
          | _ => False
        | some (c, .bools l), .one (.lit v) => match j with
          | 0 => K (σ.put n (.vec (setCol cs c (.bools (lsetb l i v)))))
          | _ => False
        | some (c, .arrs k m l), .one (.int k' v) => if k = k' then Low j m ∧ K (σ.put n (.vec (setCol cs c (.arrs k m (llset l i (lset (llget l i) j v)))))) else False
        | _, _ => False
      | some true, some s => match j, colAt cs b 0, x with
        | 0, some (c, .arrs k m l), .agg [.ints k' m' v] => if k = k' then (if m' = m then (if m = s then K (σ.put n (.vec (setCol cs c (.arrs k m (llset l i v))))) else False) else False) else False
        | _, _, _ => False
      | _, _ => False
  | _ => False

def intBin (op : BinOp) (k : IntKind) (a b : Int) (K : AV → Prop) : Prop :=
  match op with
  | .add => K (.one (.int k (add k a b)))
  | .sub => K (.one (.int k (sub k a b)))
  | .mul => K (.one (.int k (mul k a b)))
  | .quo => NeZ b ∧ K (.one (.int k (quo k a b)))
  | .rem => NeZ b ∧ K (.one (.int k (rem a b)))
  | .and => K (.one (.int k (band k a b)))
  | .or => K (.one (.int k (bor k a b)))
  | .xor => K (.one (.int k (bxor k a b)))
  | .andNot => K (.one (.int k (bclr k a b)))
  | .eql => K (.one (.bool (ieq a b)))
  | .neq => K (.one (.bool (ine a b)))
  | .lss => K (.one (.bool (ilt a b)))
  | .leq => K (.one (.bool (ile a b)))
  | .gtr => K (.one (.bool (igt a b)))
  | .geq => K (.one (.bool (ige a b)))
  | _ => False

/-- an array of integers, of which '==' is the lists' -/
def intArr (P : Program) (t : TypeId) : Option (IntKind × Nat) :=
  match P.underlying t with
  | some (.array n e) => match P.underlying e with
    | some (.int k) => if sizeB P e = some 1 then (if P.eqGuardType P.depth t = false then some (k, n) else none) else none
    | _ => none
  | _ => none

def boolx (P : Program) (op : BinOp) (t : TypeId) (a b : Bool) (K : AV → Prop) : Prop :=
  match P.underlying t with
  | some .bool => match op with
    | .eql => K (.one (.bool (beq2 a b)))
    | .neq => K (.one (.bool (bnot (beq2 a b))))
    | _ => False
  | _ => False

/-- a pointer held against nil -/
def nilcmp (P : Program) (op : BinOp) (t : TypeId) (same : Bool) (K : AV → Prop) : Prop :=
  match P.underlying t with
  | some (.pointer _) => match op with
    | .eql => K (.one (.lit same))
    | .neq => K (.one (.lit (!same)))
    | _ => False
  | _ => False

def binx (P : Program) (op : BinOp) (t : TypeId) (x y : AV) (K : AV → Prop) : Prop :=
  match x, y with
  | .one (.ptr _ _ _), .one (.con (.pointer none)) => nilcmp P op t false K
  | .one (.con (.pointer none)), .one (.ptr _ _ _) => nilcmp P op t false K
  | .one (.con (.pointer none)), .one (.con (.pointer none)) => nilcmp P op t true K
  | .one (.int k a), .one (.int k' b) =>
    match op with
    | .shl => NonNeg b ∧ K (.one (.int k (shl k a b)))
    | .shr => NonNeg b ∧ K (.one (.int k (shr k a b)))
    | _ => if k = k' then intBin op k a b K else False
  | .one (.str a), .one (.str b) =>
    match op with
    | .eql => K (.one (.bool (seq2 a b)))
    | .neq => K (.one (.bool (bnot (seq2 a b))))
    | _ => False
  | .one (.bool a), .one (.bool b) => boolx P op t a b K
  | .one (.lit a), .one (.bool b) => boolx P op t a b K
  | .one (.bool a), .one (.lit b) => boolx P op t a b K
  | .one (.lit a), .one (.lit b) => boolx P op t a b K
  | .agg [.ints k n a], .agg [.ints k' n' b] =>
    match intArr P t with
    | some (kk, m) =>
      if kk = k then (if k = k' then (if n = m then (if n' = m then
        (match op with
        | .eql => K (.one (.bool (leq a b)))
        | .neq => K (.one (.bool (bnot (leq a b))))
        | _ => False) else False) else False) else False) else False
    | none => False
  | _, _ => False

def unx (op : UnOp) (x : AV) (K : AV → Prop) : Prop :=
  match op, x with
  | .neg, .one (.int k n) => K (.one (.int k (sub k 0 n)))
  | .xor, .one (.int k n) => K (.one (.int k (bxor k (if k.signed then -1 else k.max) n)))
  | .not, .one (.bool b) => K (.one (.bool (bnot b)))
  | .not, .one (.lit b) => K (.one (.lit (!b)))
  | _, _ => False

def convx (P : Program) (src dst : TypeId) (x : AV) (K : AV → Prop) : Prop :=
  match x with
  | .one (.int _ n) => match P.underlying src, P.underlying dst with
    | some _, some (.int k) => K (.one (.int k (conv k n)))
    | _, _ => False
  | _ => False

/-- the address of an element -/
def indexAddrx (P : Program) (σ : Mem) (t : TypeId) (x ix : AV) (K : AV → Prop) : Prop :=
  match x, ix with
  | .one (.vec n), .one (.int _ i) =>
    match P.underlying t with
    | some (.slice e) => match sizeB P e, Mem.cols σ n with
      | some z, some cs => match Nat.beq z (width (kdsOf cs)) with
        | true => InB i (clen cs) ∧ K (.one (.vptr n z (nat i) 0 0))
        | false => False
      | _, _ => False
    | _ => False
  | .one (.vsl n z b len), .one (.int _ i) =>
    match P.underlying t with
    | some (.slice e) => match sizeB P e with
      | some z' => if z' = z then InB i len ∧ K (.one (.vptr n z (nadd b (nat i)) 0 0)) else False
      | _ => False
    | _ => False
  | .one (.el n c r), .one (.int _ i) =>
    match P.underlying t with
    | some (.slice e) => match sizeB P e, Mem.rows σ n c with
      | some 1, some (_, ll) => InB i (llen (llget ll r)) ∧ K (.one (.eptr n c r (nat i)))
      | _, _ => False
    | _ => False
  | .one (.esl n c r o len), .one (.int _ i) =>
    match P.underlying t with
    | some (.slice e) => match sizeB P e with
      | some 1 => InB i len ∧ K (.one (.eptr n c r (nadd o (nat i))))
      | _ => False
    | _ => False
  | .one (.vptr n z r b j), .one (.int _ i) =>
    match P.underlying t with
    | some (.array len e) => match sizeB P e with
      | some 1 => InB i len ∧ K (.one (.vptr n z r b (nadd j (nat i))))
      | _ => False
    | _ => False
  | .one (.ptr n base idx), .one (.int _ i) =>
    match P.underlying t with
    | some (.array len e) => match sizeB P e with
      | some 1 => InB i len ∧ K (.one (.ptr n base (nadd idx (nat i))))
      | some z => InB i len ∧ K (.one (.ptr n base (nadd idx (nmul (nat i) z))))
      | none => False
    | _ => False
  | .one (.sl n base idx len _), .one (.int _ i) =>
    match P.underlying t with
    | some (.slice e) => match sizeB P e with
      | some 1 => InB i len ∧ K (.one (.ptr n base (nadd idx (nat i))))
      | some z => InB i len ∧ K (.one (.ptr n base (nadd idx (nmul (nat i) z))))
      | none => False
    | _ => False
  | _, _ => False

/-- the value of an element -/
def indexx (P : Program) (t : TypeId) (x ix : AV) (K : AV → Prop) : Prop :=
  match x, ix with
  | .one (.str s), .one (.int _ i) =>
    match P.underlying t with
    | some .string => InB i (slen_ s) ∧ K (.one (.int .u8 (sget s (nat i))))
    | _ => False
  | .agg [.ints k N l], .one (.int _ i) =>
    match P.underlying t with
    | some (.array len e) => match P.underlying e, sizeB P e with
      | some (.int _), some 1 => if N = len then InB i len ∧ K (.one (.int k (lget l (nat i)))) else False
      | some (.array _ _), some z => if N = len * z then InB i len ∧ K (.agg [.ints k z (lsub l (nmul (nat i) z) z)]) else False
      | _, _ => False
    | _ => False
  | .agg [.bools N l], .one (.int _ i) =>
    match P.underlying t with
    | some (.array len e) => match P.underlying e, sizeB P e with
      | some .bool, some 1 => if N = len then InB i len ∧ K (.one (.bool (lgetb l (nat i)))) else False
      | _, _ => False
    | _ => False
  | _, _ => False

/-- parts of a new array or struct, one by one -/
def fillx (s : List Seg) (place : Nat → Option (Nat × Nat)) : List (Nat × AV) → (List Seg → Prop) → Prop
  | [], K => K s
  | (i, v) :: r, K =>
    match place i with
    | none => False
    | some (off, size) =>
      match locate s off 0 with
      | none => False
      | some (base, idx) =>
        match v with
        | .one a => match size with
          | 1 => storeOne s base idx a fun s' => fillx s' place r K
          | _ => False
        | .agg xs => storePart s size base idx xs fun s' => fillx s' place r K
        | _ => False

def buildx (P : Program) (t : TypeId) (parts : List (Nat × AV)) (K : AV → Prop) : Prop :=
  match zeroSegs P t with
  | none => False
  | some s =>
    match P.underlying t with
    | some (.array _ e) => match sizeB P e with
      | some z => fillx s (fun i => some (i * z, z)) parts fun s' => K (.agg s')
      | none => False
    | some (.struct fs) => match fs.toList.mapM (fun f => (sizeB P f.type).map fun z => (f.offset, z)) with
      | some places => fillx s (fun i => places[i]?) parts fun s' => K (.agg s')
      | none => False
    | _ => False

def fieldAddrx (P : Program) (σ : Mem) (t : TypeId) (x : AV) (f : Nat) (K : AV → Prop) : Prop :=
  match x with
  | .one (.ptr n base idx) =>
    match P.underlying t with
    | some (.struct fs) => match fs[f]? with
      | some fd => match sizeB P fd.type with
        | some (_ + 1) => match Mem.find σ n with
          | some b => match b.segs with
            | [_] => K (.one (.ptr n base (nadd idx fd.offset)))
            | s => match locate s (base + idx + fd.offset) 0 with
              | some (base', idx') => K (.one (.ptr n base' idx'))
              | none => False
          | none => False
        | _ => False
      | none => False
    | _ => False
  | .one (.vptr n z i b j) =>
    match P.underlying t with
    | some (.struct fs) => match fs[f]?, j with
      | some fd, 0 => match sizeB P fd.type with
        | some (_ + 1) => K (.one (.vptr n z i (b + fd.offset) 0))
        | _ => False
      | _, _ => False
    | _ => False
  | _ => False

def fieldx (P : Program) (t : TypeId) (x : AV) (f : Nat) (K : AV → Prop) : Prop :=
  match x with
  | .agg s =>
    match P.underlying t with
    | some (.struct fs) => match fs[f]? with
      | some fd => match locate s fd.offset 0 with
        | some (base, idx) => match isAggB P fd.type, sizeB P fd.type with
          | some true, some z => partx s z base idx K
          | some false, some _ => onex s base idx K
          | _, _ => False
        | none => False
      | none => False
    | _ => False
  | _ => False

def TV.av : TV → AV
  | .c a => .one a
  | .g s => .agg s

def extractx (x : AV) (i : Nat) (K : AV → Prop) : Prop :=
  match x with
  | .tup vs => match vs[i]? with
    | some v => K v.av
    | none => False
  | _ => False

/-- low and high of a slice expression: the start, the length and the room from there -/
def boundx (lo hi : Option AV) (len cap : Nat) (K : Nat → Nat → Prop) : Prop :=
  match lo, hi with
  | none, none => K 0 len
  | some (.one (.int _ l)), none => (NonNeg l ∧ Fits (nat l) len) ∧ K (nat l) len
  | none, some (.one (.int _ h)) => (NonNeg h ∧ Fits (nat h) cap) ∧ K 0 (nat h)
  | some (.one (.int _ l)), some (.one (.int _ h)) => ((NonNeg h ∧ Fits (nat h) cap) ∧ (NonNeg l ∧ Fits (nat l) (nat h))) ∧ K (nat l) (nat h)
  | _, _ => False

def mulZ (z n : Nat) : Nat := match z with | 1 => n | _ => nmul n z

def slK (K : AV → Prop) (lo : Option AV) (n base idx z l u cap : Nat) : Prop :=
  match lo with
  | none => K (.one (.sl n base idx u cap))
  | some _ => K (.one (.sl n base (nadd idx (mulZ z l)) (nsub u l) (nsub cap l)))

/-- the greatest bound -/
def maxx (hi mx : Option AV) (len : Nat) (K : Prop) : Prop :=
  match mx with
  | none => K
  | some (.one (.int _ m)) => match hi with
    | some (.one (.int _ h)) => (NonNeg m ∧ Fits (nat m) len ∧ NonNeg h ∧ Fits (nat h) (nat m)) ∧ K
    | _ => False
  | _ => False

def lenOfV (P : Program) (σ : Mem) (x : AV) : Option Nat :=
  match x with
  | .one (.vec n) => (Mem.cols σ n).map clen
  | .one (.vsl _ _ _ len) => some len
  | .one (.el n c i) => (Mem.rows σ n c).map fun p => llen (llget p.2 i)
  | .one (.esl _ _ _ _ len) => some len
  | _ => none

def cutx (P : Program) (σ : Mem) (z : Nat) (x : AV) (lo : Option AV) (l u : Nat) (K : AV → Prop) : Prop :=
  match x with
  | .one (.vec n) => match Mem.cols σ n with
    | some cs => match Nat.beq z (width (kdsOf cs)) with
      | true => match lo with
        | none => K (.one (.vsl n z 0 u))
        | some _ => K (.one (.vsl n z l (nsub u l)))
      | false => False
    | none => False
  | .one (.vsl n z' i _) => match Nat.beq z z' with
    | true => match lo with
      | none => K (.one (.vsl n z i u))
      | some _ => K (.one (.vsl n z (nadd i l) (nsub u l)))
    | false => False
  | .one (.el n c i) => match z with
    | 1 => match lo with
      | none => K (.one (.esl n c i 0 u))
      | some _ => K (.one (.esl n c i l (nsub u l)))
    | _ => False
  | .one (.esl n c i o _) => match z with
    | 1 => match lo with
      | none => K (.one (.esl n c i o u))
      | some _ => K (.one (.esl n c i (nadd o l) (nsub u l)))
    | _ => False
  | _ => False

def slicev (P : Program) (σ : Mem) (t : TypeId) (x : AV) (lo hi mx : Option AV) (K : AV → Prop) : Prop :=
  match P.underlying t with
  | some (.slice e) => match sizeB P e, lenOfV P σ x with
    | some z, some len => maxx hi mx len (boundx lo hi len len fun l u => cutx P σ z x lo l u K)
    | _, _ => False
  | _ => False

def slicex (P : Program) (t : TypeId) (x : AV) (lo hi : Option AV) (K : AV → Prop) : Prop :=
  match x with
  | .one (.sl n base idx len cap) =>
    match P.underlying t with
    | some (.slice e) => match sizeB P e with
      | some z => boundx lo hi len cap fun l u => slK K lo n base idx z l u cap
      | none => False
    | _ => False
  | .one (.ptr n base idx) =>
    match P.underlying t with
    | some (.pointer a) => match P.underlying a with
      | some (.array N e) => match sizeB P e with
        | some z => boundx lo hi N N fun l u => slK K lo n base idx z l u N
        | none => False
      | _ => False
    | some (.array N e) => match sizeB P e with
      | some z => boundx lo hi N N fun l u => slK K lo n base idx z l u N
      | none => False
    | _ => False
  | _ => False

def isV : AV → Bool
  | .one (.vec _) => true
  | .one (.vsl _ _ _ _) => true
  | .one (.el _ _ _) => true
  | .one (.esl _ _ _ _ _) => true
  | _ => false

def slicez (P : Program) (σ : Mem) (t : TypeId) (x : AV) (lo hi mx : Option AV) (K : AV → Prop) : Prop :=
  match isV x with
  | true => slicev P σ t x lo hi mx K
  | false => match mx with
    | none => slicex P t x lo hi K
    | some _ => False

def arrx (P : Program) (σ : Mem) (arr : TypeId) (x : AV) (K : AV → Prop) : Prop :=
  match x with
  | .one (.vec n) => match P.underlying arr, Mem.cols σ n with
    | some (.array (N + 1) _), some cs => Fits (N + 1) (clen cs) ∧ K (.one (.vptr n (width (kdsOf cs)) 0 0 0))
    | _, _ => False
  | .one (.vsl n z i len) => match P.underlying arr with
    | some (.array (N + 1) _) => Fits (N + 1) len ∧ K (.one (.vptr n z i 0 0))
    | _ => False
  | .one (.el n c i) => match P.underlying arr, Mem.rows σ n c with
    | some (.array (N + 1) _), some (_, ll) => Fits (N + 1) (llen (llget ll i)) ∧ K (.one (.eptr n c i 0))
    | _, _ => False
  | .one (.esl n c i o len) => match P.underlying arr with
    | some (.array (N + 1) _) => Fits (N + 1) len ∧ K (.one (.eptr n c i o))
    | _ => False
  | .one (.sl n base idx len _) => match P.underlying arr with
    | some (.array (N + 1) _) => Fits (N + 1) len ∧ K (.one (.ptr n base idx))
    | _ => False
  | _ => False

def nilx (x : AV) (K : AV → Prop) : Prop :=
  match x with
  | .one (.ptr n b i) => K (.one (.ptr n b i))
  | .one (.vptr n z i b j) => K (.one (.vptr n z i b j))
  | .one (.eptr n c i o) => K (.one (.eptr n c i o))
  | .one (.con (.func (.func f) a b)) => K (.one (.con (.func (.func f) a b)))
  | .one (.clo f n b i) => K (.one (.clo f n b i))
  | _ => False

def lenx (P : Program) (σ : Mem) (t : TypeId) (x : AV) (K : AV → Prop) : Prop :=
  match P.underlying t with
  | some (.array n _) => K (.one (.int .i64 (ofNat n)))
  | some (.slice _) => match x with
    | .one (.sl _ _ _ len _) => K (.one (.int .i64 (ofNat len)))
    | .one (.con (.slice none 0 0)) => K (.one (.int .i64 0))
    | x => match lenOfV P σ x with
      | some n => K (.one (.int .i64 (ofNat n)))
      | none => False
  | some .string => match x with
    | .one (.str s) => K (.one (.int .i64 (ofNat s.size)))
    | _ => False
  | some (.pointer a) => match P.underlying a with
    | some (.array n _) => K (.one (.int .i64 (ofNat n)))
    | _ => False
  | _ => False

def minmax (lo : Bool) (x y : AV) (K : AV → Prop) : Prop :=
  match x, y with
  | .one (.int k a), .one (.int k' b) => if k = k' then K (.one (.int k (match lo with | true => imin a b | false => imax a b))) else False
  | _, _ => False

def funcx (f : Fn) (first : List Operand) (capt : List AV) (K : AV → Prop) : Prop :=
  match f, first, capt with
  | .func g, [], [] => K (.one (.con (.func (.func g) #[] #[])))
  | .func g, [], [.one (.ptr n b i)] => K (.one (.clo g n b i))
  | _, _, _ => False

/-- an operation that leaves the memory as it is: pure, or it only reads -/
def detx (P : Program) (o : Op) (fr : Fr) (σ : Mem) (K : AV → Prop) : Prop :=
  match o with
  | .move x => K (ev fr x)
  | .assign x => K (ev fr x)
  | .load T a => match ev fr a with
    | .one (.ptr n base idx) => loadx P σ T n base idx K
    | .one (.vptr n z i b j) => loadV P σ T n z i b j K
    | .one (.eptr n c i o) => loadE P σ T n c i o K
    | _ => False
  | .nilCheck x => nilx (ev fr x) K
  | .binOp op t x y _ => binx P op t (ev fr x) (ev fr y) K
  | .unOp op _ x => unx op (ev fr x) K
  | .convert s d x => convx P s d (ev fr x) K
  | .sliceToArrayPointer arr x => arrx P σ arr (ev fr x) K
  | .slice t x lo hi mx => slicez P σ t (ev fr x) (lo.map (ev fr)) (hi.map (ev fr)) (mx.map (ev fr)) K
  | .makeFunc f first capt => funcx f first.toList (capt.toList.map (ev fr)) K
  | .fieldAddr t x f => fieldAddrx P σ t (ev fr x) f K
  | .field t x f => fieldx P t (ev fr x) f K
  | .indexAddr t x i => indexAddrx P σ t (ev fr x) (ev fr i) K
  | .index t x i => indexx P t (ev fr x) (ev fr i) K
  | .extract x i => extractx (ev fr x) i K
  | .build t ps => buildx P t (ps.toList.map fun p => (p.1, ev fr p.2)) K
  | .call { callee := .builtin .len, args, argTypes } => match args.toList, argTypes.toList with
    | [x], [t] => lenx P σ t (ev fr x) K
    | _, _ => False
  | .call { callee := .builtin .min, args, argTypes := _ } => match args.toList with
    | [x, y] => minmax true (ev fr x) (ev fr y) K
    | _ => False
  | .call { callee := .builtin .max, args, argTypes := _ } => match args.toList with
    | [x, y] => minmax false (ev fr x) (ev fr y) K
    | _ => False
  | _ => False
end Go.Sx
