/- Lists of records: what reading them comes to. -/
import Derived.Test.YtccjkjpdgpeogaaSx3
namespace Go.Sx
open Go
set_option linter.unusedSimpArgs false
set_option linter.unusedVariables false

theorem run_isAggB {P : Program} {t : TypeId} {b : Bool} (h : isAggB P t = some b) (w : World) : (isAgg t).run P w = .ok b w := by
  unfold isAggB at h
  unfold isAgg
  cases hu : P.underlying t with
  | none => rw [hu] at h; cases h
  | some d =>
    rw [Sem.run_bind, run_underlying hu w]
    rw [hu] at h
    cases d <;> simp_all

theorem run_sizeB {P : Program} {t : TypeId} {z : Nat} (h : sizeB P t = some z) (w : World) : (sizeOf t).run P w = .ok z w := by
  unfold sizeB at h
  cases hi : P.info? t with
  | none => rw [hi] at h; cases h
  | some i =>
    rw [hi] at h
    simp only [Option.map_some, Option.some.injEq] at h
    simp [sizeOf, typeInfo, hi, h]

theorem at_add (ρ : Rho) (n i j : Nat) : (at_ ρ n i).add j = at_ ρ n (i + j) := by
  unfold Addr.add at_
  split
  · subst_vars; rfl
  · simp [Nat.add_assoc]

theorem Loc.at_add (L : Loc) (i j : Nat) : (L.at i).add j = L.at (i + j) := by
  unfold Addr.add Loc.at
  split
  · subst_vars; rfl
  · simp [Nat.add_assoc]

theorem addr_add_add (a : Addr) (i j : Nat) : (a.add i).add j = a.add (i + j) := by
  unfold Addr.add
  by_cases hi : i = 0
  · subst hi; simp
  · by_cases hj : j = 0
    · subst hj; simp
    · simp [hi, hj, show i + j ≠ 0 by omega, Nat.add_assoc]

theorem beq_nat {a b : Nat} (h : Nat.beq a b = true) : a = b := Nat.eq_of_beq_eq_true h

theorem Col.len_ok {N : Nat} {c : Col} (h : c.ok N) : c.len = N := by
  cases c <;> simp only [Col.ok, Col.len] at h ⊢ <;> first | exact h | exact h.1

theorem clen_ok {N : Nat} {cs : List Col} (hn : cs ≠ []) (h : ∀ c ∈ cs, c.ok N) : clen cs = N := by
  cases cs with
  | nil => exact absurd rfl hn
  | cons c r =>
    have := Col.len_ok (h c (by simp))
    cases c <;> exact this

theorem VRep.len {w : World} {L : Loc} {cs : List Col} (h : VRep w L cs) : clen cs = L.len := clen_ok h.ne h.ok

/-- what a list of records is known by, is there in every world with these blocks -/
theorem cell_same {w w' : World} {a : Addr} (h : w'.heap[a.block]? = w.heap[a.block]?) : w'.cell? a = w.cell? a := by simp [World.cell?, h]

theorem VRep.keeps {w w' : World} {L : Loc} {cs : List Col} (h : VRep w L cs) (hk : ∀ k, FootL L cs k → w'.heap[k]? = w.heap[k]?) : VRep w' L cs := by
  refine ⟨h.ne, h.wid, h.ok, h.cap, h.adr, fun i hi t ht => ?_, fun c k ll hc i l hl => ?_⟩
  · rw [cell_same (hk _ (Or.inl ⟨by omega, rfl⟩))]; exact h.cells i hi t ht
  · obtain ⟨h1, h2, h3, h4⟩ := h.inner c k ll hc i l hl
    refine ⟨h1, h2, h3, fun j x hx a ha => ?_⟩
    have hne : l ≠ [] := fun e => by subst e; simp at hx
    have hb : (a.add j).block = a.block := by unfold Addr.add; split <;> rfl
    have hq := hk a.block (Or.inr ⟨c, k, ll, i, l, a, hc, hl, hne, ha, rfl⟩)
    have hq' : w'.heap[(a.add j).block]? = w.heap[(a.add j).block]? := by rw [hb]; exact hq
    exact (cell_same hq').trans (h4 j x hx a ha)

theorem cols_sound {ρ : Rho} {σ : Mem} {w : World} {n : Nat} {cs : List Col} (hm : MemRep ρ σ w) (h : Mem.cols σ n = some cs) :
    VRep w (ρ n) cs ∧ ∃ b, Mem.find σ n = some b ∧ ((b = .vec cs) ∨ b = .rview cs) ∧ ∀ k, FootL (ρ n) cs k → Foot ρ n b k := by
  unfold Mem.cols at h
  split at h
  · rename_i cs' hf
    cases h
    have := hm n _ hf
    exact ⟨this.1, _, hf, Or.inl rfl, fun k hk => by
      rcases hk with ⟨h1, h2⟩ | hk
      · exact Or.inl ⟨by have := this.1.cap; omega, h2⟩
      · exact Or.inr hk⟩
  · rename_i cs' hf
    cases h
    exact ⟨hm n _ hf, _, hf, Or.inr rfl, fun k hk => hk⟩
  · cases h

theorem rows_sound {ρ : Rho} {σ : Mem} {w : World} {n c : Nat} {k : IntKind} {ll : List (List Int)} (hm : MemRep ρ σ w) (h : Mem.rows σ n c = some (k, ll)) :
    ∃ cs, cs[c]? = some (.rows k ll) ∧ ll.length = (ρ n).len ∧ VRep w (ρ n) cs ∧ ∃ b, Mem.find σ n = some b ∧ ((b = .vec cs) ∨ b = .rview cs) ∧ ∀ k, FootL (ρ n) cs k → Foot ρ n b k := by
  unfold Mem.rows at h
  split at h
  · rename_i cs hcs
    split at h
    · rename_i k' ll' hc
      simp only [Option.some.injEq, Prod.mk.injEq] at h
      obtain ⟨rfl, rfl⟩ := h
      obtain ⟨h1, h2⟩ := cols_sound hm hcs
      exact ⟨cs, hc, h1.ok _ (List.mem_of_getElem? hc), h1, h2⟩
    · cases h
  · cases h

theorem colAt_sound {L : Loc} : ∀ {cs : List Col} {b c0 c : Nat} {col : Col}, colAt cs b c0 = some (c, col) →
    c0 ≤ c ∧ cs[c - c0]? = some col ∧ b + col.kd.width ≤ cwidth cs ∧ ∀ i j, j < col.kd.width → rowVal L cs c0 i (b + j) = colVal L c col i j
  | [], _, _, _, _, h => by simp [colAt] at h
  | x :: r, 0, c0, c, col, h => by
    simp only [colAt, Option.some.injEq, Prod.mk.injEq] at h
    obtain ⟨rfl, rfl⟩ := h
    refine ⟨Nat.le_refl _, by simp, by simp [cwidth, kdsOf, width], fun i j hj => ?_⟩
    simp only [rowVal, Nat.zero_add]
    rw [if_pos hj]
  | x :: r, b + 1, c0, c, col, h => by
    simp only [colAt] at h
    split at h
    · rename_i hle
      have hle' : x.kd.width ≤ b + 1 := Nat.le_of_ble_eq_true hle
      obtain ⟨h1, h2, h3, h4⟩ := colAt_sound (L := L) h
      refine ⟨by omega, ?_, ?_, fun i j hj => ?_⟩
      · rw [show c - c0 = (c - (c0 + 1)) + 1 by omega]; simpa using h2
      · have : cwidth (x :: r) = x.kd.width + cwidth r := rfl
        omega
      · simp only [rowVal]
        rw [if_neg (by omega), ← h4 i j hj]
        congr 1; omega
    · cases h

theorem lsub_get {α : Type} (l : List α) (i n j : Nat) : (lsub l i n)[j]? = if j < n then l[i + j]? else none := by
  simp only [lsub, List.getElem?_take, List.getElem?_drop]

theorem lsub_len {α : Type} (l : List α) (i n : Nat) (h : i + n ≤ l.length) : (lsub l i n).length = n := by simp [lsub]; omega

theorem Col.sub_ok {N i n : Nat} {c : Col} (h : c.ok N) (hi : i + n ≤ N) : (c.sub i n).ok n := by
  cases c <;> simp only [Col.ok, Col.sub] at h ⊢
  case arrs =>
    refine ⟨lsub_len _ _ _ (by omega), fun x hx => h.2 x ?_⟩
    simp only [lsub] at hx
    exact List.mem_of_mem_drop (List.mem_of_mem_take hx)
  all_goals exact lsub_len _ _ _ (by omega)

theorem sub_kd (c : Col) (i n : Nat) : (c.sub i n).kd = c.kd := by cases c <;> rfl
theorem sub_kds (cs : List Col) (i n : Nat) : kdsOf (cs.map (Col.sub i n)) = kdsOf cs := by
  simp [kdsOf, sub_kd]

theorem getD_lsub {α : Type} (l : List α) (i n j : Nat) (d : α) (hj : j < n) : (lsub l i n).getD j d = l.getD (i + j) d := by
  simp only [List.getD, lsub_get, if_pos hj]

theorem colVal_sub {L L' : Loc} (c : Nat) (col : Col) (i n r j : Nat) (hr : r < n) (hL : L'.el c r = L.el c (i + r)) : colVal L' c (col.sub i n) r j = colVal L c col (i + r) j := by
  cases col <;> simp only [colVal, Col.sub, lget, lgetb, llget, getD_lsub _ _ _ _ _ hr, hL]

theorem rowVal_sub {L L' : Loc} (i n r : Nat) (hr : r < n) (hL : ∀ c, L'.el c r = L.el c (i + r)) : ∀ (cs : List Col) (c t : Nat), rowVal L' (cs.map (Col.sub i n)) c r t = rowVal L cs c (i + r) t
  | [], _, _ => rfl
  | x :: cs, c, t => by
    simp only [List.map_cons, rowVal, sub_kd]
    split
    · exact colVal_sub c x i n r t hr (hL c)
    · exact rowVal_sub i n r hr hL cs (c + 1) _

/-- a part of a list -/
def Loc.sub (L : Loc) (z i len : Nat) (A : Option Addr) (cap : Nat) : Loc := ⟨L.1, L.2 + i * z, A, len, cap, fun c r => L.el c (i + r)⟩

theorem VRep.sub {w : World} {L : Loc} {cs : List Col} (h : VRep w L cs) {i len cap : Nat} {A : Option Addr} (hi : i + len ≤ L.len) (hc : len ≤ cap) (hA : len ≠ 0 → A = some (L.at (i * cwidth cs))) :
    VRep w (L.sub (cwidth cs) i len A cap) (cs.map (Col.sub i len)) := by
  have hw : cwidth (cs.map (Col.sub i len)) = cwidth cs := by simp [cwidth, sub_kds]
  refine ⟨by simpa using h.ne, by rw [hw]; exact h.wid, fun col hcol => ?_, hc, fun h0 => ?_, fun r hr t ht => ?_, fun c k ll hcc r l hl => ?_⟩
  · obtain ⟨x, hx, rfl⟩ := List.mem_map.1 hcol
    exact Col.sub_ok (h.ok x hx) hi
  · exact hA h0
  · rw [hw] at ht ⊢
    have hr' : r < len := hr
    have := h.cells (i + r) (by omega) t ht
    rw [rowVal_sub (L := L) (L' := L.sub (cwidth cs) i len A cap) i len r hr' (fun _ => rfl) cs 0 t, ← this]
    congr 1
    simp only [Loc.at, Loc.sub, Nat.add_mul]
    congr 1
    omega
  · simp only [List.getElem?_map, Option.map_eq_some_iff] at hcc
    obtain ⟨col, hcol, hsub⟩ := hcc
    cases col <;> simp only [Col.sub, Col.rows.injEq, reduceCtorEq] at hsub
    obtain ⟨rfl, rfl⟩ := hsub
    rw [lsub_get] at hl
    split at hl
    · exact h.inner c _ _ hcol (i + r) l hl
    · cases hl

theorem Inner.sub {L : Loc} {cs : List Col} {z i len cap k : Nat} {A : Option Addr} (h : Inner (L.sub z i len A cap) (cs.map (Col.sub i len)) k) : Inner L cs k := by
  obtain ⟨c, kk, ll, r, l, a, h1, h2, h3, h4, h5⟩ := h
  simp only [List.getElem?_map, Option.map_eq_some_iff] at h1
  obtain ⟨col, hcol, hsub⟩ := h1
  cases col <;> simp only [Col.sub, Col.rows.injEq, reduceCtorEq] at hsub
  obtain ⟨rfl, rfl⟩ := hsub
  rw [lsub_get] at h2
  split at h2
  · exact ⟨c, _, _, i + r, l, a, hcol, h2, h3, h4, h5⟩
  · cases h2

theorem FootL.sub {L : Loc} {cs : List Col} {z i len cap k : Nat} {A : Option Addr} (hi : i + len ≤ L.len) (h : FootL (L.sub z i len A cap) (cs.map (Col.sub i len)) k) : FootL L cs k := by
  rcases h with ⟨h1, h2⟩ | h
  · exact Or.inl ⟨by have : len ≠ 0 := h1; omega, h2⟩
  · exact Or.inr h.sub

/-- a slice that stands in a list, as a list -/
def Elt.loc (e : Elt) : Loc := match e.a with
  | some a => ⟨a.block, a.off, e.a, e.len, e.cap, fun _ _ => ⟨none, 0, 0⟩⟩
  | none => ⟨0, 0, none, e.len, e.cap, fun _ _ => ⟨none, 0, 0⟩⟩

theorem spot_none {w : World} {a : Addr} {v : Value} (h : w.cell? a = some v) : a.spot = none := by
  unfold World.cell? at h
  split at h
  · split at h
    · cases h
    · rename_i hs; cases hq : a.spot <;> simp_all
  · cases h

theorem addr_add {a : Addr} (h : a.spot = none) (j : Nat) : a.add j = ⟨a.block, a.off + j, none⟩ := by
  unfold Addr.add
  split
  · subst_vars; cases a; simp_all
  · simp

theorem lget_some {l : List Int} {i : Nat} (h : i < l.length) : l[i]? = some (lget l i) := by
  simp [lget, List.getD, h]
theorem llget_some {l : List (List Int)} {i : Nat} (h : i < l.length) : l[i]? = some (llget l i) := by
  simp [llget, List.getD, h]
theorem lgetb_some {l : List Bool} {i : Nat} (h : i < l.length) : l[i]? = some (lgetb l i) := by
  simp [lgetb, List.getD, h]

/-- one column of numbers, by its cells -/
theorem VRep.ofInts {w : World} {L : Loc} {k : IntKind} {l : List Int} (hl : l.length = L.len) (hc : L.len ≤ L.cap) (ha : L.len ≠ 0 → L.a = some (L.at 0)) (h : ∀ (j : Nat) x, l[j]? = some x → w.cell? (L.at j) = some (.int k x)) : VRep w L [.ints k l] := by
  refine ⟨by simp, Nat.one_pos, fun col hcol => ?_, hc, ha, fun i hi t ht => ?_, fun c k' ll hcc => ?_⟩
  · simp at hcol; subst hcol; exact hl
  · have ht' : t < 1 := ht
    have : t = 0 := by omega
    subst this
    have e : cwidth [Col.ints k l] = 1 := rfl
    rw [e, Nat.mul_one, Nat.add_zero, h i _ (lget_some (by omega))]
    rfl
  · cases c <;> simp at hcc

theorem Elt.rep {w : World} {e : Elt} {k : IntKind} {l : List Int} (h : EltRep w e k l) : VRep w e.loc [.ints k l] ∧ e.loc.a = e.a ∧ e.loc.len = e.len ∧ e.loc.cap = e.cap ∧ ∀ b, FootL e.loc [.ints k l] b → l ≠ [] ∧ ∃ a, e.a = some a ∧ b = a.block := by
  obtain ⟨h1, h2, h3, h4⟩ := h
  have fin : ∀ b, ¬ Inner e.loc [.ints k l] b := by
    rintro b ⟨c, kk, ll, i, l', a, hc, _⟩
    cases c <;> simp at hc
  cases he : e.a with
  | none =>
    have hl : l = [] := by
      by_cases hl : l = []
      · exact hl
      · obtain ⟨a, ha⟩ := h3 hl; rw [he] at ha; cases ha
    subst hl
    have e1 : e.loc = ⟨0, 0, none, e.len, e.cap, fun _ _ => ⟨none, 0, 0⟩⟩ := by simp [Elt.loc, he]
    simp at h1
    refine ⟨.ofInts (by simp [e1, h1]) (by rw [e1]; exact h2) (fun q => by rw [e1] at q; exact absurd h1 q) (fun j x hx => by simp at hx), by rw [e1], by rw [e1], by rw [e1], fun b hb => ?_⟩
    rcases hb with ⟨q, _⟩ | q
    · rw [e1] at q; exact absurd h1 q
    · exact absurd q (fin b)
  | some a =>
    have e1 : e.loc = ⟨a.block, a.off, some a, e.len, e.cap, fun _ _ => ⟨none, 0, 0⟩⟩ := by simp [Elt.loc, he]
    have sp : e.len ≠ 0 → a.spot = none := fun q => by
      have hlt : 0 < l.length := by omega
      have := h4 0 _ (lget_some hlt) a he
      have h0 : a.add 0 = a := by simp [Addr.add]
      rw [h0] at this
      exact spot_none this
    refine ⟨.ofInts (by rw [e1]; exact h1.symm) (by rw [e1]; exact h2) (fun q => ?_) (fun j x hx => ?_), by rw [e1], by rw [e1], by rw [e1], fun b hb => ?_⟩
    · rw [e1] at q ⊢
      have := sp q
      simp only [Loc.at, Nat.add_zero]
      cases a; simp_all
    · have hlt := (List.getElem?_eq_some_iff.1 hx).1
      have := h4 j x hx a he
      rw [addr_add (sp (by omega))] at this
      rw [e1]; exact this
    · rcases hb with ⟨q, q2⟩ | q
      · rw [e1] at q q2
        have q' : e.len ≠ 0 := q
        exact ⟨fun e => by rw [e] at h1; exact q' (by simpa using h1), a, rfl, q2⟩
      · exact absurd q (fin b)

/-- a run of cells, as a list of numbers -/
theorem cells_ints {ρ : Rho} {w : World} {n : Nat} {s : List Seg} {base idx len N : Nat} {k : IntKind} {l : List Int} (ho : segsOk s) (hc : CellsAt ρ w n (flat s)) (hf : findSeg s base = some (.ints k N l)) (hle : idx + len ≤ N) :
    l.length = N ∧ ∀ (j : Nat) x, (lsub l idx len)[j]? = some x → w.cell? (at_ ρ n (base + idx + j)) = some (.int k x) := by
  obtain ⟨hok, hfl⟩ := findSeg_flat ho hf
  refine ⟨hok, fun j x hx => ?_⟩
  rw [lsub_get] at hx
  split at hx
  · obtain ⟨v, hv, hr⟩ := hc _ _ (hfl (idx + j) (.int k x) (by simp [Seg.flat, hx]))
    rw [show base + idx + j = base + (idx + j) by omega, hv, show v = _ from hr]
  · cases hx

/-- what may be written lies apart from all else that is known -/
def Sep (ρ : Rho) (σ : Mem) : Prop :=
  (∀ n m b c k, Mem.find σ n = some b → Mem.find σ m = some c → n ≠ m → Out ρ n b k → ¬ Foot ρ m c k) ∧ ∀ n b k, Mem.find σ n = some b → Out ρ n b k → ¬ Inn ρ n b k

/-- no block of the walk's own -/
def Clean (ρ : Rho) (σ : Mem) (k : Nat) : Prop := ∀ m b, Mem.find σ m = some b → ¬ Out ρ m b k

/-- a slice that can be read: a list -/
structure Reads (ρ : Rho) (σ : Mem) (w : World) (v : Value) (cs : List Col) (L : Loc) : Prop where
  val : v = .slice L.a L.len L.cap
  rep : VRep w L cs
  clean : ∀ k, Inner L cs k → Clean ρ σ k
  root : L.len ≠ 0 → ∃ n b, Mem.find σ n = some b ∧ Foot ρ n b L.1 ∧ ∀ m c, Mem.find σ m = some c → m ≠ n → ¬ Out ρ m c L.1

theorem Inn.foot {ρ : Rho} {n k : Nat} {b : Blk} (h : Inn ρ n b k) : Foot ρ n b k := by
  cases b <;> simp only [Inn] at h <;> first | exact h.elim | exact Or.inr h

theorem Sep.inn {ρ : Rho} {σ : Mem} (hs : Sep ρ σ) {n k : Nat} {b : Blk} (hn : Mem.find σ n = some b) (h : Inn ρ n b k) : Clean ρ σ k := by
  intro m c hm ho
  by_cases e : m = n
  · subst e
    rw [hn] at hm; cases hm
    exact hs.2 _ _ k hn ho h
  · exact hs.1 m n c b k hm hn e ho h.foot

theorem Sep.root {ρ : Rho} {σ : Mem} (hs : Sep ρ σ) {n k : Nat} {b : Blk} (hn : Mem.find σ n = some b) (h : Foot ρ n b k) : ∃ n b, Mem.find σ n = some b ∧ Foot ρ n b k ∧ ∀ m c, Mem.find σ m = some c → m ≠ n → ¬ Out ρ m c k :=
  ⟨n, b, hn, h, fun m c hm hne ho => hs.1 m n c b k hm hn hne ho h⟩

theorem nil_kds (ks : List Kd) : kdsOf (ks.map Kd.nil) = ks := by
  induction ks with
  | nil => rfl
  | cons k r ih => cases k <;> simp_all [kdsOf, Kd.nil, Col.kd]

theorem nil_rep {w : World} {ks : List Kd} (hk : 0 < width ks) : VRep w loc0 (ks.map Kd.nil) ∧ ∀ k, ¬ FootL loc0 (ks.map Kd.nil) k := by
  have inn : ∀ k, ¬ Inner loc0 (ks.map Kd.nil) k := by
    rintro k ⟨c, kk, ll, i, l, a, hc, hl, _⟩
    simp only [List.getElem?_map, Option.map_eq_some_iff] at hc
    obtain ⟨kd, _, hkd⟩ := hc
    cases kd <;> simp [Kd.nil] at hkd
    rw [hkd.2] at hl; simp at hl
  have hne : ks ≠ [] := fun e => by rw [e] at hk; exact absurd hk (by decide)
  refine ⟨⟨by simpa using hne, by rw [cwidth, nil_kds]; exact hk, fun col hcol => ?_, Nat.le_refl _, fun q => absurd rfl q, fun i hi => absurd hi (Nat.not_lt_zero _), fun c kk ll hc i l hl => ?_⟩, fun k hk => ?_⟩
  · obtain ⟨kd, _, rfl⟩ := List.mem_map.1 hcol
    cases kd <;> simp [Kd.nil, Col.ok, loc0]
  · simp only [List.getElem?_map, Option.map_eq_some_iff] at hc
    obtain ⟨kd, _, hkd⟩ := hc
    cases kd <;> simp [Kd.nil] at hkd
    rw [hkd.2] at hl; simp at hl
  · rcases hk with ⟨q, _⟩ | q
    · exact q rfl
    · exact inn k q

theorem rdx_sound {ρ : Rho} {σ : Mem} {w : World} {ks : List Kd} {x : AV} {v : Value} {K : List Col → Prop} (h : rdx σ ks x K) (hks : 0 < width ks) (hm : MemRep ρ σ w) (hs : Sep ρ σ) (hx : SRep ρ x v) : ∃ cs L, Reads ρ σ w v cs L ∧ K cs := by
  unfold rdx at h
  have inn1 : ∀ {L : Loc} {k : IntKind} {l : List Int} {b : Nat}, ¬ Inner L [.ints k l] b := by
    rintro L k l b ⟨c, kk, ll, i, l', a, hc, _⟩
    cases c <;> simp at hc
  split at h
  · rename_i n
    split at h <;> try exact h.elim
    rename_i cs hcs
    obtain ⟨h1, b, hb, hbb, hf⟩ := cols_sound hm hcs
    refine ⟨cs, ρ n, ⟨hx, h1, fun k hk => hs.inn hb ?_, fun q => hs.root hb (hf _ (Or.inl ⟨q, rfl⟩))⟩, h⟩
    rcases hbb with rfl | rfl <;> exact hk
  · rename_i n z i len
    split at h <;> try exact h.elim
    rename_i cs hcs
    split at h <;> try exact h.elim
    rename_i hz
    obtain ⟨h1, b, hb, hbb, hf⟩ := cols_sound hm hcs
    obtain ⟨A, cap, rfl, h2, h3, h4, _⟩ := hx
    have hz' := beq_nat hz
    have hz'' : z = cwidth cs := hz'
    subst hz''
    refine ⟨_, (ρ n).sub (cwidth cs) i len A cap, ⟨rfl, h1.sub h3 h2 (fun q => ?_), fun k hk => hs.inn hb ?_, fun q => hs.root hb (hf _ (Or.inl ⟨by have : len ≠ 0 := q; omega, rfl⟩))⟩, h⟩
    · have q' : len ≠ 0 := q
      rcases h4 with h4 | ⟨_, rfl⟩
      · omega
      · rw [h1.adr (by omega), Option.map_some, Loc.at_add, Nat.zero_add]
    · have := hk.sub
      rcases hbb with rfl | rfl <;> exact this
  · rename_i n c i
    split at h <;> try exact h.elim
    rename_i k ll hr
    obtain ⟨cs, hc, hlen, h1, b, hb, hbb, hf⟩ := rows_sound hm hr
    obtain ⟨rfl, hi⟩ := hx
    have he := h1.inner c k ll hc i _ (llget_some (by omega))
    obtain ⟨g1, g2, g3, g4, g5⟩ := Elt.rep he
    refine ⟨_, _, ⟨by rw [g2, g3, g4], g1, fun k hk => absurd hk inn1, fun q => ?_⟩, h⟩
    obtain ⟨hl, a, ha, hab⟩ := g5 _ (Or.inl ⟨q, rfl⟩)
    refine hs.root hb (hf _ (Or.inr ⟨c, k, ll, i, _, a, hc, llget_some (by omega), hl, ha, hab⟩))
  · rename_i n c i o len
    split at h <;> try exact h.elim
    rename_i k ll hr
    obtain ⟨cs, hc, hlen, h1, b, hb, hbb, hf⟩ := rows_sound hm hr
    obtain ⟨A, cap, rfl, h2, h3, hi, h4, h5⟩ := hx
    have he := h1.inner c k ll hc i _ (llget_some (by omega))
    obtain ⟨g1, g2, g3, g4, g5⟩ := Elt.rep he
    have hle : o + len ≤ ((ρ n).el c i).loc.len := by rw [g3]; exact h3
    have hA : len ≠ 0 → A = some (((ρ n).el c i).loc.at (o * cwidth [Col.ints k (llget ll i)])) := fun q => by
      rcases h4 with h4 | h4
      · omega
      · have hne : ((ρ n).el c i).loc.len ≠ 0 := by omega
        have had := g1.adr hne
        rw [g2] at had
        rw [h4, had, Option.map_some, Loc.at_add]
        have : cwidth [Col.ints k (llget ll i)] = 1 := rfl
        rw [this, Nat.mul_one, Nat.zero_add]
    refine ⟨_, _, ⟨rfl, g1.sub hle h2 hA, fun k hk => absurd hk.sub inn1, fun q => ?_⟩, h⟩
    have q' : len ≠ 0 := q
    obtain ⟨hl, a, ha, hab⟩ := g5 ((ρ n).el c i).loc.1 (Or.inl ⟨by omega, rfl⟩)
    refine hs.root hb (hf _ (Or.inr ⟨c, k, ll, i, _, a, hc, llget_some (by omega), hl, ha, hab⟩))
  · rename_i n base idx len cap
    split at h <;> try exact h.elim
    rename_i b hb
    split at h <;> try exact h.elim
    rename_i k N l hf
    obtain ⟨ho, hc⟩ := (hm n b hb).cells
    obtain ⟨h1, h2⟩ := cells_ints ho hc hf h.1.le
    have hle : idx + len ≤ N := h.1.le
    obtain ⟨hlc, hx⟩ := hx
    have hlen := lsub_len l idx len (by omega)
    have foot : len ≠ 0 → Foot ρ n b (ρ n).1 := fun q => by
      have hne : flat b.segs ≠ [] := fun e => by
        have := findSeg_len hf
        have hl := flat_length ho
        rw [e] at hl
        simp only [Seg.len] at this
        simp at hl; omega
      cases b with
      | own T s => rfl
      | view s => exact ⟨hne, rfl⟩
      | vec cs => exact absurd rfl hne
      | rview cs => exact absurd rfl hne
    rcases hx with rfl | ⟨rfl, rfl, a, rfl⟩
    · refine ⟨_, ⟨(ρ n).1, (ρ n).2 + (base + idx), some (at_ ρ n (base + idx)), len, cap, fun _ _ => ⟨none, 0, 0⟩⟩, ⟨rfl, .ofInts hlen hlc (fun _ => rfl) (fun j x hx => ?_), fun k hk => absurd hk inn1, fun q => hs.root hb (foot q)⟩, h.2⟩
      have := h2 j x hx
      simp only [at_, Loc.at] at this ⊢
      rw [← this]; congr 2; omega
    · refine ⟨_, ⟨0, 0, a, 0, 0, fun _ _ => ⟨none, 0, 0⟩⟩, ⟨rfl, .ofInts hlen (Nat.le_refl _) (fun q => absurd rfl q) (fun j x hx => by rw [lsub_get] at hx; simp at hx), fun k hk => absurd hk inn1, fun q => absurd rfl q⟩, h.2⟩
  · obtain ⟨rfl, _⟩ := hx
    obtain ⟨g1, g2⟩ := nil_rep (w := w) hks
    exact ⟨_, loc0, ⟨rfl, g1, fun k hk => absurd (Or.inr hk) (g2 k), fun q => absurd rfl q⟩, h⟩
  · exact h.elim
end Go.Sx
