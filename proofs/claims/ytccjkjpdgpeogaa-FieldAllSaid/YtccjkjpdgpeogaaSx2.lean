/- The symbolic walk of a function's code: regions, branches, loops, calls. -/
import Derived.Test.YtccjkjpdgpeogaaSx1
namespace Go.Sx
open Go
set_option linter.unusedVariables false

/-- what a call is known to do: of the arguments and the memory, the result and the memory behind it -/
structure Spec where
  news : Nat
  mods : Bool
  sem : Nat → List AV → Mem → (AV → Mem → Prop) → Prop

abbrev Gam := FuncId → Option Spec

def freshAll (d : Nat) (fr : Fr) (σ : Mem) : Nat → Bool
  | 0 => true
  | k + 1 => freshB (d + 10000 * k) fr σ && freshAll d fr σ k

def callx (Γ : Gam) (f : FuncId) (dst : Option Tmp) (args : List AV) (fr : Fr) (σ : Mem) (K : AV → Mem → Prop) : Prop :=
  match Γ f with
  | none => False
  | some s => match dst with
    | some d => match freshAll d fr σ s.news with
      | true => s.sem d args σ K
      | false => False
    | none => match s.news with
      | 0 => s.sem 0 args σ K
      | _ => False

/-! lists -/
inductive Fld where
  | a (x : AC)
  | g (k : IntKind) (m : Nat) (l : List Int)

def fldsOf : List Seg → Option (List Fld)
  | [] => some []
  | .cells cs :: r => (fldsOf r).map (cs.map Fld.a ++ ·)
  | .ints k n l :: r => (fldsOf r).map (.g k n l :: ·)
  | .bools _ _ :: _ => none

/-- one record -/
def recx : Mem → List Kd → List Fld → (List Col → Mem → Prop) → Prop
  | σ, [], [], K => K [] σ
  | σ, .ints k :: r, .a (.int k' v) :: s, K => if k' = k then recx σ r s fun cs σ' => K (.ints k [v] :: cs) σ' else False
  | σ, .bools :: r, .a (.bool v) :: s, K => recx σ r s fun cs σ' => K (.bools [v] :: cs) σ'
  | σ, .bools :: r, .a (.lit v) :: s, K => recx σ r s fun cs σ' => K (.bools [v] :: cs) σ'
  | σ, .arrs k m :: r, .g k' m' l :: s, K => if k' = k then (if m' = m then recx σ r s fun cs σ' => K (.arrs k m [l] :: cs) σ' else False) else False
  | σ, .rows k :: r, .a x :: s, K => sharex σ k x fun l σ1 => recx σ1 r s fun cs σ' => K (.rows k [l] :: cs) σ'
  | _, _, _, _ => False

def Col.push : Col → Col → Col
  | .ints k l, .ints _ l' => .ints k (l ++ l')
  | .bools l, .bools l' => .bools (l ++ l')
  | .arrs k m l, .arrs _ _ l' => .arrs k m (l ++ l')
  | .rows k l, .rows _ l' => .rows k (l ++ l')
  | c, _ => c

def pushCols : List Col → List Col → List Col
  | a :: r, b :: s => a.push b :: pushCols r s
  | _, _ => []

def recsx (ks : List Kd) (len : Nat) : Mem → Nat → List (Nat × AV) → List Col → (List Col → Mem → Prop) → Prop
  | σ, i, [], acc, K => match Nat.beq i len with
    | true => K acc σ
    | false => False
  | σ, i, (j, v) :: r, acc, K => match Nat.beq i j with
    | true => match (v.segs).bind fldsOf with
      | some fl => recx σ ks fl fun cs σ' => recsx ks len σ' (i + 1) r (pushCols acc cs) K
      | none => False
    | false => False

def appendx (P : Program) (tx ty : TypeId) (x y : AV) (dst : Option Tmp) (fr : Fr) (σ : Mem) (K : AV → Mem → Prop) : Prop :=
  match P.underlying tx with
  | some (.slice e) => match elemKinds P e with
    | some (ks, bytes) => match isSeq P ty with
      | true => rdy σ ks y fun cy => takex σ ks x fun cx σ1 => match kdsEq (kdsOf cx) ks && kdsEq (kdsOf cy) ks with
        | true => Room (nadd (clen cx) (clen cy)) bytes ∧ newx dst fr σ1 (.vec (catCols cx cy)) fun n σ' => K (.one (.vec n)) σ'
        | false => False
      | false => False
    | none => False
  | _ => False
where
  isSeq (P : Program) (t : TypeId) : Bool := match P.underlying t with
    | some (.slice _) => true
    | some .string => true
    | _ => false

/-- the numbers, the last ones over those from place i on -/
def copyx (P : Program) (tx : TypeId) (x y : AV) (σ : Mem) (K : AV → Mem → Prop) : Prop :=
  match P.underlying tx with
  | some (.slice e) => match elemKinds P e with
    | some ([.ints k], _) => rdy σ [.ints k] y fun cy => match cy with
      | [.ints k1 src] => if k1 = k then (match x with
        | .one (.vec n) => match Mem.find σ n with
          | some (.vec [.ints k2 l]) => if k2 = k then K (.one (.int .i64 (ofNat (nmin (llen src) (llen l))))) (σ.put n (.vec [.ints k (lput l 0 (lsub src 0 (nmin (llen src) (llen l))))])) else False
          | _ => False
        | .one (.vsl n 1 i len) => match Mem.find σ n with
          | some (.vec [.ints k2 l]) => if k2 = k then K (.one (.int .i64 (ofNat (nmin (llen src) len)))) (σ.put n (.vec [.ints k (lput l i (lsub src 0 (nmin (llen src) len)))])) else False
          | _ => False
        | .one (.sl n base idx len _) => match Mem.find σ n with
          | some (.own T s) => match findSeg s base with
            | some (.ints k2 N l) => if k2 = k then Fits (nadd idx len) N ∧ (match setSeg s base (.ints k N (lput l idx (lsub src 0 (nmin (llen src) len)))) with
              | some s' => K (.one (.int .i64 (ofNat (nmin (llen src) len)))) (σ.put n (.own T s'))
              | none => False) else False
            | _ => False
          | _ => False
        | _ => False) else False
      | _ => False
    | _ => False
  | _ => False

def bytesT (P : Program) (t : TypeId) : Bool := match P.underlying t with
  | some (.slice e) => match P.underlying e with
    | some (.int .u8) => match sizeB P e with
      | some 1 => true
      | _ => false
    | _ => false
  | _ => false

def strT (P : Program) (t : TypeId) : Bool := match P.underlying t with
  | some .string => true
  | _ => false

def textx (P : Program) (s d : TypeId) (x : AV) (dst : Option Tmp) (fr : Fr) (σ : Mem) (K : AV → Mem → Prop) : Prop :=
  match x with
  | .one (.str b) => match strT P s, strT P d, bytesT P d with
    | true, true, _ => K (.one (.str b)) σ
    | true, false, true => newx dst fr σ (.vec [.ints .u8 (bytesIn b)]) fun n σ' => K (.one (.vec n)) σ'
    | _, _, _ => False
  | .one (.int k n) => convx P s d (.one (.int k n)) fun v => K v σ
  | x => match Nat.beq s d with
    | true => match x with
      | .one (.vec n) => match bytesT P s, Mem.find σ n with
        | true, some (.vec [.ints .u8 l]) => InB 0 (llen l) ∧ K (.one (.vec n)) (σ.put n (.rview [.ints .u8 l]))
        | _, _ => False
      | _ => False
    | false => match bytesT P s, strT P d with
      | true, true => rdx σ [.ints .u8] x fun cs => match cs with
        | [.ints .u8 l] => K (.one (.str (bytesOf l))) σ
        | _ => False
      | _, _ => False

/-- an operation that changes or makes memory -/
def effx (P : Program) (Γ : Gam) (o : Op) (dst : Option Tmp) (fr : Fr) (σ : Mem) (K : AV → Mem → Prop) : Prop :=
  match o with
  | .alloc T => match zeroSegs P T with
    | some s => newx dst fr σ (.own T s) fun n σ' => K (.one (.ptr n 0 0)) σ'
    | none => False
  | .box T x => match (ev fr x).segs with
    | some s => newx dst fr σ (.own T s) fun n σ' => K (.one (.ptr n 0 0)) σ'
    | none => False
  | .store T a x => match ev fr a with
    | .one (.ptr n base idx) => storex P σ T n base idx (ev fr x) fun σ' => K (.tup []) σ'
    | .one (.vptr n z i b j) => storeV P σ T n z i b j (ev fr x) fun σ' => K (.tup []) σ'
    | _ => False
  | .makeSlice t l c => match P.underlying t with
    | some (.slice e) => match elemKinds P e, ev fr l, ev fr c with
      | some (ks, bytes), .one (.int _ a), .one (.int _ b) => Mk a b bytes ∧ newx dst fr σ (.vec (ks.map (Kd.zero (nat a)))) fun n σ' => K (.one (.vec n)) σ'
      | _, _, _ => False
    | _ => False
  | .buildSlice t len parts => match P.underlying t with
    | some (.slice e) => match elemKinds P e with
      | some (ks, _) => match Nat.ble (len * width ks) 16777216 with
        | true => recsx ks len σ 0 (parts.toList.map fun p => (p.1, ev fr p.2)) (ks.map Kd.nil) fun cs σ1 => newx dst fr σ1 (.vec cs) fun n σ' => K (.one (.vec n)) σ'
        | false => False
      | none => False
    | _ => False
  | .convert s d x => textx P s d (ev fr x) dst fr σ K
  | .call { callee := .builtin .append, args, argTypes } => match args.toList, argTypes.toList with
    | [x, y], [tx, ty] => appendx P tx ty (ev fr x) (ev fr y) dst fr σ K
    | _, _ => False
  | .call { callee := .builtin .copy, args, argTypes } => match args.toList, argTypes.toList with
    | [x, y], [tx, ty] => match appendx.isSeq P ty with
      | true => copyx P tx (ev fr x) (ev fr y) σ K
      | false => False
    | _, _ => False
  | .call { callee := .value f, args, argTypes := _ } => match ev fr f with
    | .one (.con (.func (.func g) first capt)) => match first.toList, capt.toList with
      | [], [] => callx Γ g dst (args.toList.map (ev fr)) fr σ K
      | _, _ => False
    | .one (.clo g n b i) => callx Γ g dst (args.toList.map (ev fr) ++ [.one (.ptr n b i)]) fr σ K
    | _ => False
  | _ => False

def isEff (P : Program) : Op → Bool
  | .alloc _ | .box _ _ | .store _ _ _ => true
  | .makeSlice _ _ _ | .buildSlice _ _ _ => true
  | .convert s d _ => match Nat.beq s d with
    | true => true
    | false => match P.underlying d with
      | some (.int _) => false
      | _ => true
  | .call { callee := .value _, .. } => true
  | .call { callee := .builtin .append, .. } => true
  | .call { callee := .builtin .copy, .. } => true
  | _ => false

def pickx (fr : Fr) (c a b : Operand) (K : Fr → AV → Prop) : Prop :=
  match ev fr c with
  | .one (.lit true) => K fr (ev fr a)
  | .one (.lit false) => K fr (ev fr b)
  | .one (.bool t) => match c with
    | .tmp s => (t = true → K (fr.set s (.one (.lit true))) (ev fr a)) ∧ (t = false → K (fr.set s (.one (.lit false))) (ev fr b))
    | _ => False
  | _ => False

def execx (P : Program) (Γ : Gam) (o : Oper) (fr : Fr) (σ : Mem) (K : Fr → Mem → Prop) : Prop :=
  match o.op with
  | .pick c a b => pickx fr c a b fun fr' v => K (fr'.put o.dst v) σ
  | op => match isEff P op with
    | true => effx P Γ op o.dst fr σ fun v σ' => K (fr.put o.dst v) σ'
    | false => detx P op fr σ fun v => K (fr.put o.dst v) σ

def stepx (P : Program) (Γ : Gam) (ops : List Oper) (o : Oper) (fr : Fr) (σ : Mem) (K : Fr → Mem → Prop) : Prop :=
  match o.guard with
  | none => execx P Γ o fr σ K
  | some (j, want) => match (ops[j]?).bind (·.dst) with
    | some t => match fr.get t with
      | .one (.lit b) => match b == want with
        | true => execx P Γ o fr σ K
        | false => K (fr.put o.dst (.tup [])) σ
      | .one (.bool b) => (b = want → execx P Γ o (fr.set t (.one (.lit want))) σ K) ∧ (b = !want → K ((fr.set t (.one (.lit !want))).put o.dst (.tup [])) σ)
      | .tup [] => K (fr.put o.dst (.tup [])) σ
      | _ => False
    | none => False

def opsx (P : Program) (Γ : Gam) (ops : List Oper) (K : Fr → Mem → Prop) : List Oper → Fr → Mem → Prop
  | [], fr, σ => K fr σ
  | o :: r, fr, σ => stepx P Γ ops o fr σ (opsx P Γ ops K r)

/-! regions that draw their order -/
def modOp (Γ : Gam) : Op → Bool
  | .store _ _ _ => true
  | .buildSlice _ _ _ => true
  | .convert s d _ => Nat.beq s d
  | .call { callee := .builtin .append, .. } => true
  | .call { callee := .builtin .copy, .. } => true
  | .call { callee := .value (.func g), .. } => match Γ g with
    | some s => s.mods
    | none => true
  | .call { callee := .value _, .. } => true
  | _ => false

/-- the names that an operation may give to new blocks -/
def newNames (Γ : Gam) (fr : Fr) (op : Op) (dst : Option Tmp) : List Nat :=
  match dst with
  | none => []
  | some d => match op with
    | .alloc _ => [d]
    | .box _ _ => [d]
    | .makeSlice _ _ _ => [d]
    | .buildSlice _ _ _ => [d]
    | .convert _ _ _ => [d]
    | .call { callee := .builtin .append, .. } => [d]
    | .call { callee := .value f, .. } => match ev fr f with
      | .one (.con (.func (.func g) _ _)) => match Γ g with
        | some s => (List.range s.news).map fun k => d + 10000 * k
        | none => []
      | .one (.clo g _ _ _) => match Γ g with
        | some s => (List.range s.news).map fun k => d + 10000 * k
        | none => []
      | _ => []
    | _ => []

/-- the block into which an address leads, told ahead -/
def rootOf (ops : List Oper) (fr : Fr) : Nat → Operand → Option Nat
  | 0, _ => none
  | d + 1, x => match x with
    | .tmp t => match ops.find? (fun o => o.dst == some t) with
      | some o => match o.op with
        | .indexAddr _ y _ => rootOf ops fr d y
        | .fieldAddr _ y _ => rootOf ops fr d y
        | .nilCheck y => rootOf ops fr d y
        | .move y => rootOf ops fr d y
        | .assign y => rootOf ops fr d y
        | .alloc _ => some t
        | .box _ _ => some t
        | _ => none
      | none => match fr.get t with
        | .one (.ptr n _ _) => some n
        | .one (.sl n _ _ _ _) => some n
        | .one (.vec n) => some n
        | .one (.vsl n _ _ _) => some n
        | .one (.vptr n _ _ _ _) => some n
        | _ => none
    | .global g => some (gname g)
    | _ => none

def rootsOf (ops : List Oper) (fr : Fr) : List (Option Nat) := ops.map fun o => match o.op with
  | .store _ x _ => rootOf ops fr 8 x
  | _ => none

/-- what was told ahead is so -/
def rootOk (fr : Fr) (op : Op) : Option Nat → Bool
  | none => true
  | some r => match op with
    | .store _ x _ => match ev fr x with
      | .one (.ptr n _ _) => n == r
      | .one (.vptr n _ _ _ _) => n == r
      | _ => true
    | _ => true

/-- may operation j write into block m? -/
def modAt (Γ : Gam) (ops : Array Oper) (rts : List (Option Nat)) (j m : Nat) : Bool :=
  match ops[j]? with
  | none => false
  | some o => modOp Γ o.op && match o.op with
    | .store _ _ _ => match rts.getD j none with
      | some r => r == m
      | none => true
    | _ => true

def dependsOn (o : Oper) (i : Nat) : Bool := o.after.any fun e => Region.binds .any e && e.on == i

/-- the block of an address -/
def addrName : AV → Option Nat
  | .one (.ptr n _ _) => some n
  | .one (.vptr n _ _ _ _) => some n
  | .one (.eptr n _ _ _) => some n
  | _ => none

def takeable (P : Program) (Γ : Gam) (ops : Array Oper) (rts : List (Option Nat)) (listed : Array Bool) (fr : Fr) (σ0 : Mem) (i : Nat) : Bool :=
  match ops[i]? with
  | none => false
  | some o => !isEff P o.op && Region.free .any ops listed i &&
    match o.op with
    | .load _ x => match addrName (ev fr x) with
      | some n => (Mem.find σ0 n).isSome && (List.range ops.size).all fun j => match ops[j]? with
        | some oj => !modAt Γ ops rts j n || (!listed.getD j true && dependsOn oj i)
        | none => true
      | none => true
    | _ => true

def allOf (f : Nat → Prop) : List Nat → Prop
  | [] => True
  | [i] => f i
  | i :: r => f i ∧ allOf f r

def drawx (P : Program) (Γ : Gam) (ops : Array Oper) (rts : List (Option Nat)) (σ0 : Mem) (K : Fr → Mem → Prop) : Nat → Array Bool → Fr → Mem → Prop
  | 0, listed, fr, σ => match Region.ready .any ops listed with
    | [] => K fr σ
    | _ => False
  | n + 1, listed, fr, σ =>
    match Region.ready .any ops listed with
    | [] => K fr σ
    | rs =>
      match rs.find? (takeable P Γ ops rts listed fr σ0) with
      | some i => match ops[i]? with
        | some o => stepx P Γ ops.toList o fr σ (drawx P Γ ops rts σ0 K n (listed.setIfInBounds i true))
        | none => False
      | none => allOf (fun i => match ops[i]? with
        | some o => match rootOk fr o.op (rts.getD i none) && (newNames Γ fr o.op o.dst).all fun m => (Mem.find σ0 m).isNone with
          | true => stepx P Γ ops.toList o fr σ (drawx P Γ ops rts σ0 K n (listed.setIfInBounds i true))
          | false => False
        | none => False) rs

/-! what a loop's round reads before it writes it -/
def operandTmps (l : List Operand) : List Nat := l.filterMap fun | .tmp t => some t | _ => none

def scanOps : List Oper → List Nat × List Nat → List Nat × List Nat
  | [], s => s
  | o :: r, (read, writ) =>
    let read := (operandTmps o.op.operands.toList).foldl (fun a t => if writ.contains t || a.contains t then a else t :: a) read
    scanOps r (read, match o.dst with | some d => if read.contains d || writ.contains d then writ else d :: writ | none => writ)

def scan : Code → List Nat × List Nat → List Nat × List Nat
  | .region _ ops _, s => scanOps ops.toList s
  | .seq a b, s => scan b (scan a s)
  | .cond c x y, (read, writ) => scan y (scan x ((operandTmps [c]).foldl (fun a t => if writ.contains t || a.contains t then a else t :: a) read, writ))
  | .block _ c, s => scan c s
  | .loop c, s => scan c s
  | _, s => s

def dsts : Code → List Nat
  | .region _ ops _ => ops.toList.filterMap (·.dst)
  | .seq a b => dsts a ++ dsts b
  | .cond _ x y => dsts x ++ dsts y
  | .block _ c => dsts c
  | .loop c => dsts c
  | _ => []

def scrubFr (l : List Nat) (fr : Fr) : Fr := l.foldr (fun t fr => Fr.set fr t .undef) fr

def dropMem (l : List Nat) (fr : Fr) (σ : Mem) : Mem :=
  σ.filter fun p => !(l.contains p.1) || frRefs p.1 fr || σ.any (fun q => segsRefs p.1 q.2.segs)

/-- the slots of l that are not read here -/
def unread : Code → List Nat → List Nat
  | .region _ ops _, l => ops.toList.foldl (fun l o => (operandTmps o.op.operands.toList).foldl (fun l t => l.erase t) l) l
  | .seq a b, l => unread b (unread a l)
  | .cond c x y, l => unread y (unread x ((operandTmps [c]).foldl (fun l t => l.erase t) l))
  | .block _ c, l => unread c l
  | .loop c, l => unread c l
  | _, l => l

def unreadK : List Item → List Nat → List Nat
  | [], l => l
  | .code c :: k, l => unreadK k (unread c l)
  | .inLoop c :: k, l => unreadK k (unread c l)
  | _ :: k, l => unreadK k l

def headFr (c : Code) (k : List Item) (fr : Fr) : Fr := scrubFr (unreadK (.code c :: k) (List.range fr.length)) (scrubFr (scan c ([], [])).2 fr)
def headMem (c : Code) (k : List Item) (fr : Fr) (σ : Mem) : Mem := dropMem ((σ.map (·.1)).filter fun n => Nat.blt n 200000) (headFr c k fr) σ

/-! what a loop's head writes anew: named slots' lists get a block of the slot's own name -/
structure Hint where
  slot : Nat
  ks : List Kd
  own : Bool
  ret : Bool := false

abbrev Hints := List Hint

def nameOf (h : Hint) : Nat := 100000 + h.slot

/-- a readable list, without conditions -/
def rdo (σ : Mem) (ks : List Kd) (x : AV) : Option (List Col × Mem) :=
  match x with
  | .one (.vec n) => match Mem.find σ n with
    | some (.vec cs) => some (cs, σ.erase n)
    | some (.rview cs) => some (cs, σ)
    | _ => none
  | .one (.vsl n z i len) => match Mem.find σ n with
    | some (.vec cs) => match Nat.beq z (width (kdsOf cs)) with
      | true => some (cs.map (Col.sub i len), σ.erase n)
      | false => none
    | some (.rview cs) => match Nat.beq z (width (kdsOf cs)) with
      | true => some (cs.map (Col.sub i len), σ)
      | false => none
    | _ => none
  | .one (.el n c i) => match Mem.rows σ n c with
    | some (k, ll) => some ([.ints k (llget ll i)], σ)
    | none => none
  | .one (.esl n c i o len) => match Mem.rows σ n c with
    | some (k, ll) => some ([.ints k (lsub (llget ll i) o len)], σ)
    | none => none
  | .one (.sl n base idx len _) => match Mem.find σ n with
    | some (.own _ s) => match findSeg s base with
      | some (.ints k N l) => match Nat.ble (idx + len) N with
        | true => some ([.ints k (lsub l idx len)], σ.erase n)
        | false => none
      | _ => none
    | _ => none
  | .one (.con (.slice none 0 0)) => some (ks.map Kd.nil, σ)
  | _ => none

/-- the walk's own list, whole -/
def rdw (σ : Mem) (ks : List Kd) (x : AV) : Option (List Col × Mem) :=
  match x with
  | .one (.vec n) => match Mem.find σ n with
    | some (.vec cs) => some (cs, σ.erase n)
    | _ => none
  | .one (.vsl n z i len) => match Mem.find σ n with
    | some (.vec cs) => match Nat.beq z (width (kdsOf cs)) with
      | true => some (cs.map (Col.sub i len), σ.erase n)
      | false => none
    | _ => none
  | .one (.con (.slice none 0 0)) => some (ks.map Kd.nil, σ)
  | _ => none

def hintOne0 (h : Hint) (fr : Fr) (σ : Mem) : Fr × Mem :=
  match (match h.own with | true => rdw σ h.ks (fr.get h.slot) | false => rdo σ h.ks (fr.get h.slot)) with
  | none => (fr, σ)
  | some (cs, σ1) => match Nat.blt 0 (width h.ks) && kdsEq (kdsOf cs) h.ks && freshB (nameOf h) (fr.set h.slot .undef) σ1 with
    | true => (fr.set h.slot (.one (.vec (nameOf h))), Mem.ins (nameOf h) (match h.own with | true => .vec cs | false => .rview cs) σ1)
    | false => (fr, σ)

/-- no kinds: a truth value that is known is no longer told by its case -/
def hintOne (h : Hint) (fr : Fr) (σ : Mem) : Fr × Mem :=
  match h.ks, fr.get h.slot with
  | [], .one (.lit b) => (fr.set h.slot (.one (.bool b)), σ)
  | _, _ => hintOne0 h fr σ

def hintAll : Hints → Fr → Mem → Fr × Mem
  | [], fr, σ => (fr, σ)
  | h :: r, fr, σ => match hintOne h fr σ with
    | (fr', σ') => hintAll r fr' σ'

/-- names that nobody holds any more -/
def staleAV (σ : Mem) : AV → Bool
  | .one a => match a with
    | .vec n => (Mem.find σ n).isNone
    | .vsl n _ _ _ => (Mem.find σ n).isNone
    | .vptr n _ _ _ _ => (Mem.find σ n).isNone
    | .el n _ _ => (Mem.find σ n).isNone
    | .esl n _ _ _ _ => (Mem.find σ n).isNone
    | .eptr n _ _ _ => (Mem.find σ n).isNone
    | .sl n _ _ _ _ => (Mem.find σ n).isNone
    | .ptr n _ _ => (Mem.find σ n).isNone && Nat.blt n 200000
    | _ => false
  | _ => false

def fresher (σ : Mem) (fr : Fr) : Fr := fr.map fun x => match staleAV σ x with | true => .undef | false => x

def headSt (D : Hints) (c : Code) (k : List Item) (fr : Fr) (σ : Mem) : Fr × Mem :=
  match hintAll (D.filter fun h => !h.ret) (headFr c k fr) (headMem c k fr σ) with
  | (fr', σ') => (fresher σ' fr', dropMem ((σ'.map (·.1)).filter fun n => Nat.blt n 200000) (fresher σ' fr') σ')

/-- behind a question, what nobody reads any more is let go: asked for by the hint of slot 777777 -/
def joins (D : Hints) : Bool := D.any fun h => Nat.beq h.slot 777777
def joinFr (D : Hints) (c : Code) (k : List Item) (fr : Fr) : Fr := match joins D with
  | true => scrubFr (unreadK (.code c :: k) (List.range fr.length)) fr
  | false => fr
def joinMem (D : Hints) (c : Code) (k : List Item) (fr : Fr) (σ : Mem) : Mem := match joins D with
  | true => dropMem ((σ.map (·.1)).filter fun n => Nat.blt n 200000) (joinFr D c k fr) σ
  | false => σ

/-- one item of what is to be done; 'ih': all that is behind it; 'lp': the head of a loop's next round -/
def itemx (P : Program) (Γ : Gam) (D : Hints) (R : Fr → Mem → Prop) (lp ih : List Item → Fr → Mem → Prop) : List Item → Fr → Mem → Prop
  | [], fr, σ => R fr σ
  | .code c :: k, fr, σ => match c with
    | .skip => ih k fr σ
    | .region _ ops false => opsx P Γ ops.toList (fun fr σ => ih k fr σ) ops.toList fr σ
    | .region _ ops true => match Region.noSelect ops with
      | true => drawx P Γ ops (rootsOf ops.toList fr) σ (fun fr σ => ih k fr σ) ops.size (Array.replicate ops.size false) fr σ
      | false => False
    | .seq a b => ih (.code a :: .code b :: k) fr σ
    | .cond t x y => match ev fr t with
      | .one (.lit true) => ih (.code x :: k) (joinFr D x k fr) (joinMem D x k fr σ)
      | .one (.lit false) => ih (.code y :: k) (joinFr D y k fr) (joinMem D y k fr σ)
      | .one (.bool b) => match t with
        | .tmp s => (b = true → ih (.code x :: k) (joinFr D x k (fr.set s (.one (.lit true)))) (joinMem D x k (fr.set s (.one (.lit true))) σ)) ∧ (b = false → ih (.code y :: k) (joinFr D y k (fr.set s (.one (.lit false)))) (joinMem D y k (fr.set s (.one (.lit false))) σ))
        | _ => False
      | _ => False
    | .block id c => ih (.code c :: .inBlock id :: k) fr σ
    | .loop c => lp (.code c :: .inLoop c :: k) (headSt D c k fr σ).1 (headSt D c k fr σ).2
    | .exit id => match exitTo id k with
      | some k' => ih k' fr σ
      | none => False
    | .ret => R fr σ
    | _ => False
  | .inBlock _ :: k, fr, σ => ih k fr σ
  | .inLoop c :: k, fr, σ => lp (.code c :: .inLoop c :: k) (headSt D c k fr σ).1 (headSt D c k fr σ).2
  | _, _, _ => False

def runM (P : Program) (Γ : Gam) (D : Hints) (R : Fr → Mem → Prop) (lp : List Item → Fr → Mem → Prop) : Nat → List Item → Fr → Mem → Prop :=
  fun m => Nat.rec (fun _ _ _ => False) (fun _ ih => itemx P Γ D R lp ih) m

theorem runM_zero (P : Program) (Γ : Gam) (D : Hints) (R : Fr → Mem → Prop) (lp : List Item → Fr → Mem → Prop) : runM P Γ D R lp 0 = fun _ _ _ => False := rfl
theorem runM_succ (P : Program) (Γ : Gam) (D : Hints) (R : Fr → Mem → Prop) (lp : List Item → Fr → Mem → Prop) (m : Nat) : runM P Γ D R lp (m + 1) = itemx P Γ D R lp (runM P Γ D R lp m) := rfl

/-- 'n': how many heads of loops may be passed -/
def run (P : Program) (Γ : Gam) (D : Hints) (R : Fr → Mem → Prop) : Nat → List Item → Fr → Mem → Prop :=
  fun n => Nat.rec (fun _ _ _ => False) (fun _ ih => runM P Γ D R ih 4000) n

theorem run_zero (P : Program) (Γ : Gam) (D : Hints) (R : Fr → Mem → Prop) : run P Γ D R 0 = fun _ _ _ => False := rfl
theorem run_succ (P : Program) (Γ : Gam) (D : Hints) (R : Fr → Mem → Prop) (n : Nat) : run P Γ D R (n + 1) = runM P Γ D R (run P Γ D R n) 4000 := rfl

/-- the result -/
def resOne (P : Program) (fr : Fr) (σ : Mem) (r : ResultVar) (K : TV → Prop) : Prop :=
  match r with
  | .tmp t => match fr.get t with
    | .one a => K (.c a)
    | .agg s => K (.g s)
    | _ => False
  | .cell t T => match fr.get t with
    | .one (.ptr n b i) => loadx P σ T n b i fun v => match v with
      | .one a => K (.c a)
      | .agg s => K (.g s)
      | _ => False
    | _ => False

def resAll (P : Program) (fr : Fr) (σ : Mem) : List ResultVar → (List TV → Prop) → Prop
  | [], K => K []
  | r :: rs, K => resOne P fr σ r fun v => resAll P fr σ rs fun vs => K (v :: vs)

def resx (P : Program) (rs : List ResultVar) (R : AV → Mem → Prop) (fr : Fr) (σ : Mem) : Prop :=
  resAll P fr σ rs fun vs => match vs with
    | [v] => R v.av σ
    | vs => R (.tup vs) σ

/-- the result, its lists named anew -/
def resh (P : Program) (D : Hints) (rs : List ResultVar) (R : AV → Mem → Prop) (fr : Fr) (σ : Mem) : Prop :=
  match hintAll (D.filter fun h => h.ret) fr σ with
  | (fr', σ') => resx P rs R fr' σ'

/-- a part of a code -/
def cAt : Code → List Nat → Code
  | c, [] => c
  | .seq a b, i :: p => match i with
    | 0 => cAt a p
    | _ => cAt b p
  | .cond _ x y, i :: p => match i with
    | 0 => cAt x p
    | _ => cAt y p
  | .block _ c, _ :: p => cAt c p
  | .loop c, _ :: p => cAt c p
  | c, _ => c

/-- the frame at the beginning -/
def startFr (n : Nat) (args : List AV) : Fr := args ++ List.replicate (n - args.length) (.tup [])

def bodyOf (f : Func) : Code := match f.body with | some c => c | none => .skip

/-- a call of a function with this text, with so much fuel -/
def callsx (P : Program) (Γ : Gam) (D : Hints) (f : Func) (n : Nat) (args : List AV) (σ : Mem) (R : AV → Mem → Prop) : Prop :=
  run P Γ D (resh P D f.results.toList R) n [.code (bodyOf f)] (startFr f.ntmps args) σ

/-- a statement behind a name, so that nothing unfolds it -/
structure Has (p : Prop) : Prop where
  out : p
end Go.Sx
