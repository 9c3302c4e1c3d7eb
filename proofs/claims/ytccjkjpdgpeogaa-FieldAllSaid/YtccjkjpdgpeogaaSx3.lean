/- What the symbolic walk's words mean in a world, and that operations which leave the memory alone come to what it says. -/
import Derived.Test.YtccjkjpdgpeogaaSx2
namespace Go.Sx
open Go
set_option linter.unusedSimpArgs false
set_option linter.unusedVariables false

/-- a slice that stands in a list -/
structure Elt where
  a : Option Addr
  len : Nat
  cap : Nat

/-- where a block lies: its place, the slice value that is it, the slices that stand in it -/
structure Loc where
  b : Nat
  o : Nat
  a : Option Addr
  len : Nat
  cap : Nat
  el : Nat → Nat → Elt

abbrev Rho := Nat → Loc

def at_ (ρ : Rho) (n i : Nat) : Addr := ⟨(ρ n).1, (ρ n).2 + i, none⟩
def Loc.at (L : Loc) (i : Nat) : Addr := ⟨L.1, L.2 + i, none⟩
def loc0 : Loc := ⟨0, 0, none, 0, 0, fun _ _ => ⟨none, 0, 0⟩⟩

def CRep (ρ : Rho) : AC → Value → Prop
  | .int k n, v => v = .int k n
  | .lit b, v => v = .bool b
  | .bool b, v => v = .bool b
  | .str s, v => v = .string s
  | .ptr n base idx, v => v = .pointer (some (at_ ρ n (base + idx)))
  | .sl n base idx len cap, v => len ≤ cap ∧ (v = .slice (some (at_ ρ n (base + idx))) len cap ∨ (len = 0 ∧ cap = 0 ∧ ∃ a, v = .slice a 0 0))
  | .con c, v => v = c ∧ c.oneCell' = true
  | .clo f n base idx, v => v = .func (.func f) #[] #[.pointer (some (at_ ρ n (base + idx)))]
  | .any, v => v.oneCell' = true
  | .vec n, v => v = .slice (ρ n).a (ρ n).len (ρ n).cap
  | .vsl n z i len, v => ∃ A cap, v = .slice A len cap ∧ len ≤ cap ∧ i + len ≤ (ρ n).len ∧ (cap = 0 ∨ (i + cap ≤ (ρ n).cap ∧ A = (ρ n).a.map (·.add (i * z)))) ∧ ((ρ n).len ≠ 0 → (ρ n).a = some ((ρ n).at 0))
  | .vptr n z i b j, v => v = .pointer (some (at_ ρ n (i * z + b + j))) ∧ i < (ρ n).len
  | .el n c i, v => v = .slice ((ρ n).el c i).a ((ρ n).el c i).len ((ρ n).el c i).cap ∧ i < (ρ n).len
  | .esl n c i o len, v => ∃ A cap, v = .slice A len cap ∧ len ≤ cap ∧ o + len ≤ ((ρ n).el c i).len ∧ i < (ρ n).len ∧ (cap = 0 ∨ A = ((ρ n).el c i).a.map (·.add o)) ∧ (((ρ n).el c i).len ≠ 0 → ∃ a, ((ρ n).el c i).a = some a)
  | .eptr n c i o, v => ∃ a, ((ρ n).el c i).a = some a ∧ v = .pointer (some (a.add o)) ∧ o < ((ρ n).el c i).len ∧ i < (ρ n).len

theorem CRep.one {ρ : Rho} {a : AC} {v : Value} (h : CRep ρ a v) : v.oneCell' = true := by
  cases a <;> simp only [CRep] at h
  case sl => rcases h with ⟨_, rfl | ⟨_, _, a, rfl⟩⟩ <;> rfl
  case con => obtain ⟨rfl, h⟩ := h; exact h
  case any => exact h
  case vsl => obtain ⟨_, _, rfl, _⟩ := h; rfl
  case esl => obtain ⟨_, _, rfl, _⟩ := h; rfl
  case vptr => obtain ⟨rfl, _⟩ := h; rfl
  case el => obtain ⟨rfl, _⟩ := h; rfl
  case eptr => obtain ⟨_, _, rfl, _⟩ := h; rfl
  all_goals (subst h; rfl)

/-- a row of cells -/
def FRep (ρ : Rho) (l : List AC) (cs : List Value) : Prop :=
  l.length = cs.length ∧ ∀ (j : Nat) a v, l[j]? = some a → cs[j]? = some v → CRep ρ a v

def TRep (ρ : Rho) : TV → Value → Prop
  | .c a, v => CRep ρ a v
  | .g s, v => segsOk s ∧ ∃ cs : List Value, v = .agg cs.toArray ∧ FRep ρ (flat s) cs

def SRep (ρ : Rho) : AV → Value → Prop
  | .one a, v => CRep ρ a v
  | .agg s, v => segsOk s ∧ ∃ cs : List Value, v = .agg cs.toArray ∧ FRep ρ (flat s) cs
  | .tup vs, v => ∃ us : List Value, v = .tuple us.toArray ∧ vs.length = us.length ∧ ∀ (j : Nat) a u, vs[j]? = some a → us[j]? = some u → TRep ρ a u
  | .undef, _ => True

def FrRep (ρ : Rho) (fr : Fr) (tmps : Array Value) : Prop :=
  fr.length = tmps.size ∧ ∀ (t : Nat) v, tmps[t]? = some v → SRep ρ (fr.get t) v

def CellsAt (ρ : Rho) (w : World) (n : Nat) (l : List AC) : Prop :=
  ∀ (j : Nat) a, l[j]? = some a → ∃ v, w.cell? (at_ ρ n j) = some v ∧ CRep ρ a v

/-! lists of records -/
def EltRep (w : World) (e : Elt) (k : IntKind) (l : List Int) : Prop :=
  e.len = l.length ∧ e.len ≤ e.cap ∧ (l ≠ [] → ∃ a, e.a = some a) ∧ ∀ (j : Nat) x, l[j]? = some x → ∀ a, e.a = some a → w.cell? (a.add j) = some (.int k x)

def colVal (L : Loc) (c : Nat) (col : Col) (i j : Nat) : Value :=
  match col with
  | .ints k l => .int k (lget l i)
  | .bools l => .bool (lgetb l i)
  | .arrs k _ l => .int k (lget (llget l i) j)
  | .rows _ _ => .slice (L.el c i).a (L.el c i).len (L.el c i).cap

def rowVal (L : Loc) : List Col → Nat → Nat → Nat → Value
  | [], _, _, _ => undef
  | col :: cs, c, i, t => if t < col.kd.width then colVal L c col i t else rowVal L cs (c + 1) i (t - col.kd.width)

def Col.ok (N : Nat) : Col → Prop
  | .ints _ l => l.length = N
  | .bools l => l.length = N
  | .arrs _ m l => l.length = N ∧ ∀ x ∈ l, x.length = m
  | .rows _ l => l.length = N

def cwidth (cs : List Col) : Nat := width (kdsOf cs)

structure VRep (w : World) (L : Loc) (cs : List Col) : Prop where
  ne : cs ≠ []
  wid : 0 < cwidth cs
  ok : ∀ col ∈ cs, col.ok L.len
  cap : L.len ≤ L.cap
  adr : L.len ≠ 0 → L.a = some (L.at 0)
  cells : ∀ i, i < L.len → ∀ t, t < cwidth cs → w.cell? (L.at (i * cwidth cs + t)) = some (rowVal L cs 0 i t)
  inner : ∀ c k ll, cs[c]? = some (.rows k ll) → ∀ i l, ll[i]? = some l → EltRep w (L.el c i) k l

/-- memory behind a list that may be written -/
def Writable (w : World) (L : Loc) (z : Nat) : Prop :=
  L.cap ≠ 0 → L.a = some (L.at 0) ∧ ∃ (c : Array Value) (T : TypeId) (fz : Nat × Nat), w.heap[L.1]? = some (.cells c T fz) ∧ L.2 + L.cap * z ≤ c.size ∧ ∀ j, j < c.size → ¬ (fz.1 ≤ j ∧ j < fz.2)

def Inner (L : Loc) (cs : List Col) (k : Nat) : Prop := ∃ c kk ll i l a, cs[c]? = some (.rows kk ll) ∧ ll[i]? = some l ∧ l ≠ [] ∧ (L.el c i).a = some a ∧ k = a.block

/-- the blocks on which the knowledge of a list rests -/
def FootL (L : Loc) (cs : List Col) (k : Nat) : Prop := (L.len ≠ 0 ∧ k = L.1) ∨ Inner L cs k

def BlkRep (ρ : Rho) (w : World) (n : Nat) : Blk → Prop
  | .own T s => segsOk s ∧ (ρ n).2 = 0 ∧ ∃ (c : List Value) (fz : Nat × Nat), w.heap[(ρ n).1]? = some (.cells c.toArray T fz) ∧ FRep ρ (flat s) c ∧ ∀ j, j < c.length → ¬ (fz.1 ≤ j ∧ j < fz.2)
  | .view s => segsOk s ∧ CellsAt ρ w n (flat s)
  | .vec cs => VRep w (ρ n) cs ∧ Writable w (ρ n) (cwidth cs)
  | .rview cs => VRep w (ρ n) cs

/-- the blocks on which the knowledge of a block rests -/
def Foot (ρ : Rho) (n : Nat) : Blk → Nat → Prop
  | .own _ _, k => k = (ρ n).1
  | .view s, k => flat s ≠ [] ∧ k = (ρ n).1
  | .vec cs, k => ((ρ n).cap ≠ 0 ∧ k = (ρ n).1) ∨ Inner (ρ n) cs k
  | .rview cs, k => FootL (ρ n) cs k

/-- the block that may be written -/
def Out (ρ : Rho) (n : Nat) : Blk → Nat → Prop
  | .own _ _, k => k = (ρ n).1
  | .vec _, k => (ρ n).cap ≠ 0 ∧ k = (ρ n).1
  | _, _ => False

def Inn (ρ : Rho) (n : Nat) : Blk → Nat → Prop
  | .vec cs, k => Inner (ρ n) cs k
  | .rview cs, k => Inner (ρ n) cs k
  | _, _ => False

def Glob (ρ : Rho) : Prop := ∀ g, (ρ (gname g)).1 = g ∧ (ρ (gname g)).2 = 0

def MemRep (ρ : Rho) (σ : Mem) (w : World) : Prop := ∀ n b, Mem.find σ n = some b → BlkRep ρ w n b

/-! ### frames -/
theorem Fr.get_set : ∀ (fr : Fr) (t u : Nat) (v : AV), Fr.get (Fr.set fr t v) u = if t = u ∧ t < fr.length then v else Fr.get fr u
  | [], t, u, v => by simp [Fr.set, Fr.get]
  | x :: r, 0, 0, v => by simp [Fr.set, Fr.get]
  | x :: r, 0, u + 1, v => by simp [Fr.set, Fr.get]
  | x :: r, t + 1, 0, v => by simp [Fr.set, Fr.get]
  | x :: r, t + 1, u + 1, v => by simp [Fr.set, Fr.get, Fr.get_set r t u v]

theorem Fr.length_set : ∀ (fr : Fr) (t : Nat) (v : AV), (Fr.set fr t v).length = fr.length
  | [], _, _ => rfl
  | _ :: _, 0, _ => rfl
  | _ :: r, t + 1, v => by simp [Fr.set, Fr.length_set r t v]

theorem Fr.get_out : ∀ (fr : Fr) (t : Nat), fr.length ≤ t → Fr.get fr t = .undef
  | [], _, _ => rfl
  | _ :: r, 0, h => by simp at h
  | _ :: r, t + 1, h => Fr.get_out r t (by simpa using h)

theorem FrRep.put {ρ : Rho} {fr : Fr} {a : Act} (h : FrRep ρ fr a.tmps) {dst : Option Tmp} {x : AV} {v : Value} (hx : SRep ρ x v) : FrRep ρ (fr.put dst x) (a.put dst v).tmps := by
  cases dst with
  | none => exact h
  | some d =>
    refine ⟨by simp [Fr.put, Act.put, Fr.length_set, h.1], fun t u hu => ?_⟩
    simp only [Fr.put, Act.put, Fr.get_set] at hu ⊢
    by_cases hd : d = t
    · subst hd
      by_cases hl : d < fr.length
      · rw [if_pos ⟨rfl, hl⟩]
        rw [Array.getElem?_setIfInBounds, if_pos rfl, if_pos (by rw [← h.1]; exact hl)] at hu
        cases hu; exact hx
      · rw [if_neg (by simp [hl]), Fr.get_out _ _ (by simpa using hl)]; trivial
    · rw [if_neg (by simp [hd])]
      rw [Array.getElem?_setIfInBounds, if_neg hd] at hu
      exact h.2 t u hu

/-- a slot that is known to hold this may be written anew so -/
theorem FrRep.same {ρ : Rho} {fr : Fr} {tmps : Array Value} (h : FrRep ρ fr tmps) {s : Nat} {x : AV} (hx : ∀ v, tmps[s]? = some v → SRep ρ x v) : FrRep ρ (Fr.set fr s x) tmps := by
  refine ⟨by simp [Fr.length_set, h.1], fun t u hu => ?_⟩
  rw [Fr.get_set]
  split
  · rename_i hc; obtain ⟨rfl, _⟩ := hc; exact hx u hu
  · exact h.2 t u hu

theorem SRep.ofConst (ρ : Rho) (v : Value) : SRep ρ (AV.ofConst v) v := by
  cases v
  case agg cs =>
    simp only [AV.ofConst]
    split
    · rename_i h
      refine ⟨⟨trivial, trivial⟩, cs.toList, by simp, by simp [flat, Seg.flat, cellsOf], ?_⟩
      intro j a v h1 h2
      simp only [flat, Seg.flat, List.append_nil, cellsOf, List.getElem?_map, h2, Option.map_some, Option.some.injEq] at h1
      subst h1
      have ho : v.oneCell' = true := List.all_eq_true.1 h v (List.mem_of_getElem? h2)
      cases v <;> simp_all [AC.ofConst, CRep, Value.oneCell']
    · trivial
  all_goals simp [AV.ofConst, SRep, AC.ofConst, CRep, Value.oneCell']

theorem ev_sound {ρ : Rho} {fr : Fr} {a : Act} (hg : Glob ρ) (h : FrRep ρ fr a.tmps) (x : Operand) : SRep ρ (ev fr x) (a.eval x) := by
  cases x with
  | tmp t =>
    simp only [ev, Act.eval]
    by_cases ht : t < a.tmps.size
    · have : a.tmps[t]? = some (a.tmps.getD t undef) := by simp [ht]
      exact h.2 t _ this
    · rw [Fr.get_out fr t (Nat.le_trans (Nat.le_of_eq h.1) (Nat.le_of_not_lt ht))]; trivial
  | const v => exact SRep.ofConst ρ v
  | global g => simp [ev, Act.eval, SRep, CRep, at_, (hg g).1, (hg g).2]
  | func f => simp [ev, Act.eval, SRep, CRep, Value.oneCell']

/-! ### parts of rows -/
theorem Seg.flat_length {s : Seg} (h : s.ok) : s.flat.length = s.len := by
  cases s <;> simp_all [Seg.flat, Seg.len, Seg.ok]

theorem flat_length : ∀ {s : List Seg}, segsOk s → (flat s).length = slen s
  | [], _ => rfl
  | s :: r, h => by simp [flat, slen, Seg.flat_length h.1, flat_length h.2]

/-- what stands in a part stands in the whole -/
theorem findSeg_flat : ∀ {s : List Seg} {b : Nat} {x : Seg}, segsOk s → findSeg s b = some x → x.ok ∧ ∀ i a, x.flat[i]? = some a → (flat s)[b + i]? = some a
  | [], _, _, _, h => by simp [findSeg] at h
  | s :: r, 0, x, ho, h => by
    simp only [findSeg, Option.some.injEq] at h
    subst h
    refine ⟨ho.1, fun i a hi => ?_⟩
    have hl : i < s.flat.length := (List.getElem?_eq_some_iff.1 hi).1
    simp only [flat, Nat.zero_add]
    rw [List.getElem?_append_left hl]; exact hi
  | s :: r, b + 1, x, ho, h => by
    simp only [findSeg] at h
    split at h
    · rename_i hle
      obtain ⟨h1, h2⟩ := findSeg_flat ho.2 h
      refine ⟨h1, fun i a hi => ?_⟩
      have hf := Seg.flat_length ho.1
      simp only [flat]
      rw [List.getElem?_append_right (by omega)]
      have := h2 i a hi
      rw [show b + 1 + i - s.flat.length = b + 1 - s.len + i by omega]; exact this
    · cases h

theorem findSeg_len : ∀ {s : List Seg} {b : Nat} {x : Seg}, findSeg s b = some x → b + x.len ≤ slen s
  | [], _, _, h => by simp [findSeg] at h
  | s :: r, 0, x, h => by simp only [findSeg, Option.some.injEq] at h; subst h; simp [slen]
  | s :: r, b + 1, x, h => by
    simp only [findSeg] at h
    split at h
    · have := findSeg_len h; simp only [slen]; omega
    · cases h

theorem cell_block {w w' : World} {a : Addr} (h : w'.heap[a.block]? = w.heap[a.block]?) : w'.cell? a = w.cell? a := by simp [World.cell?, h]

theorem BlkRep.cells {ρ : Rho} {w : World} {n : Nat} {b : Blk} (h : BlkRep ρ w n b) : segsOk b.segs ∧ CellsAt ρ w n (flat b.segs) := by
  cases b with
  | own T s =>
    obtain ⟨ho, hz, c, fz, hh, hf, _⟩ := h
    refine ⟨ho, fun j a hj => ?_⟩
    have hl : j < c.length := by rw [← hf.1]; exact (List.getElem?_eq_some_iff.1 hj).1
    refine ⟨c[j], ?_, hf.2 j a _ hj (List.getElem?_eq_getElem hl)⟩
    simp [World.cell?, at_, hz, hh, hl]
  | view s => exact h
  | vec cs => exact ⟨trivial, fun j a hj => by simp [Blk.segs, flat] at hj⟩
  | rview cs => exact ⟨trivial, fun j a hj => by simp [Blk.segs, flat] at hj⟩

theorem onex_sound {s : List Seg} {base idx : Nat} {K : AV → Prop} (h : onex s base idx K) (ho : segsOk s) {C : AC → Nat → Prop}
    (hc : ∀ (j : Nat) a, (flat s)[j]? = some a → C a j) : ∃ a, C a (base + idx) ∧ K (.one a) := by
  unfold onex at h
  split at h
  · rename_i k N l hf
    obtain ⟨hok, hfl⟩ := findSeg_flat ho hf
    have hlt : idx < l.length := by rw [show l.length = N from hok]; exact h.1.lt
    refine ⟨.int k (lget l idx), hc _ _ (hfl idx _ ?_), h.2⟩
    simp [Seg.flat, lget, hlt, List.getD]
  · rename_i N l hf
    obtain ⟨hok, hfl⟩ := findSeg_flat ho hf
    have hlt : idx < l.length := by rw [show l.length = N from hok]; exact h.1.lt
    refine ⟨.bool (lgetb l idx), hc _ _ (hfl idx _ ?_), h.2⟩
    simp [Seg.flat, lgetb, hlt, List.getD]
  · rename_i cs hf
    obtain ⟨hok, hfl⟩ := findSeg_flat ho hf
    split at h
    · rename_i c hcc
      exact ⟨c, hc _ _ (hfl idx _ hcc), h⟩
    · exact h.elim
  · exact h.elim

theorem partx_sound {s : List Seg} {z base idx : Nat} {K : AV → Prop} (h : partx s z base idx K) (ho : segsOk s) :
    ∃ k l, l.length = z ∧ (∀ j, j < z → (flat s)[base + idx + j]? = some (.int k (l.getD j 0))) ∧ K (.agg [.ints k z l]) := by
  unfold partx at h
  split at h
  · rename_i k N l hf
    obtain ⟨hok, hfl⟩ := findSeg_flat ho hf
    have hle : idx + z ≤ l.length := by rw [show l.length = N from hok]; exact h.1.le
    refine ⟨k, lsub l idx z, by simp [lsub]; omega, fun j hj => ?_, h.2⟩
    have := hfl (idx + j) (.int k (l.getD (idx + j) 0)) (by simp [Seg.flat, List.getD, show idx + j < l.length by omega])
    rw [Nat.add_assoc, this]
    congr 2
    simp only [lsub, List.getD, List.getElem?_take, if_pos hj, List.getElem?_drop]
  · exact h.elim

theorem ints_FRep (ρ : Rho) (k : IntKind) (z : Nat) (l : List Int) : FRep ρ (flat [.ints k z l]) (l.map (Value.int k)) := by
  refine ⟨by simp [flat, Seg.flat], fun j a v h1 h2 => ?_⟩
  simp only [flat, Seg.flat, List.append_nil, List.getElem?_map, Option.map_eq_some_iff] at h1 h2
  obtain ⟨x, hx, rfl⟩ := h1
  obtain ⟨y, hy, rfl⟩ := h2
  rw [hx] at hy; cases hy; rfl
end Go.Sx
