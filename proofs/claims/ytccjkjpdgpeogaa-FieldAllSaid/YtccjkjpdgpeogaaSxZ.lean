/- New lists: their cells, their blocks. -/
import Derived.Test.YtccjkjpdgpeogaaSxY
import Derived.Laws.MakeOwn
import Derived.Laws.IdiomStrings
import Derived.Laws.BytesArg
namespace Go.Sx
open Go
set_option linter.unusedSimpArgs false
set_option linter.unusedVariables false

theorem elemKinds_sound {P : Program} {e : TypeId} {ks : List Kd} {bytes : Nat} (h : elemKinds P e = some (ks, bytes)) :
    ∃ i z, P.info? e = some i ∧ i.zero = some z ∧ zeroIs ks z.cells.toList = true ∧ i.size = width ks ∧ 0 < width ks ∧ i.bytes = bytes ∧ 0 < bytes := by
  unfold elemKinds at h
  split at h <;> try (cases h; done)
  rename_i ks' i hk hi
  split at h <;> try (cases h; done)
  rename_i z hz
  split at h <;> try (cases h; done)
  rename_i hb
  simp only [Option.some.injEq, Prod.mk.injEq] at h
  obtain ⟨rfl, rfl⟩ := h
  simp only [Bool.and_eq_true] at hb
  obtain ⟨⟨⟨h1, h2⟩, h3⟩, h4⟩ := hb
  exact ⟨i, z, hi, hz, h1, beq_nat h2, by simpa using h3, rfl, by simpa using h4⟩

theorem kd_eq {a b : Kd} (h : a.beq b = true) : a = b := by
  have ik : ∀ {k k' : IntKind}, (k == k') = true → k = k' := fun {k k'} h => eq_of_beq h
  cases a <;> cases b <;> simp only [Kd.beq, Bool.and_eq_true, Bool.false_eq_true] at h
  · rw [ik h]
  · rfl
  · rw [ik h.1, eq_of_beq h.2]
  · rw [ik h]

theorem kdsEq_eq : ∀ {a b : List Kd}, kdsEq a b = true → a = b
  | [], [], _ => rfl
  | [], _ :: _, h => by simp [kdsEq] at h
  | _ :: _, [], h => by simp [kdsEq] at h
  | x :: r, y :: s, h => by
    simp only [kdsEq, Bool.and_eq_true] at h
    rw [kd_eq h.1, kdsEq_eq h.2]

/-! ### cells of lists -/
def rowCells (L : Loc) (cs : List Col) : List Value := (List.range (L.len * cwidth cs)).map fun q => rowVal L cs 0 (q / cwidth cs) (q % cwidth cs)

theorem divmod {i z t : Nat} (ht : t < z) : (i * z + t) / z = i ∧ (i * z + t) % z = t := by
  have hz : 0 < z := by omega
  rw [Nat.mul_comm i z]
  exact ⟨by rw [Nat.mul_add_div hz, Nat.div_eq_of_lt ht, Nat.add_zero], by rw [Nat.mul_add_mod, Nat.mod_eq_of_lt ht]⟩

theorem cell_lt_len {i n z t : Nat} (hi : i < n) (ht : t < z) : i * z + t < n * z := by
  have : (i + 1) * z ≤ n * z := Nat.mul_le_mul_right _ hi
  rw [Nat.add_mul, Nat.one_mul] at this; omega

theorem rowCells_len (L : Loc) (cs : List Col) : (rowCells L cs).length = L.len * cwidth cs := by simp [rowCells]

theorem rowCells_get {L : Loc} {cs : List Col} {i t : Nat} (hi : i < L.len) (ht : t < cwidth cs) : (rowCells L cs)[i * cwidth cs + t]? = some (rowVal L cs 0 i t) := by
  have := cell_lt_len hi ht
  obtain ⟨h1, h2⟩ := divmod (i := i) ht
  simp [rowCells, this, h1, h2]

theorem rowVal_one {L : Loc} : ∀ {cs : List Col} {c i t : Nat}, t < cwidth cs → (rowVal L cs c i t).oneCell' = true
  | [], _, _, _, h => absurd h (Nat.not_lt_zero _)
  | x :: r, c, i, t, h => by
    have e : cwidth (x :: r) = x.kd.width + cwidth r := rfl
    simp only [rowVal]
    split
    · cases x <;> rfl
    · exact rowVal_one (by omega)

theorem rowCells_one (L : Loc) (cs : List Col) (hw : 0 < cwidth cs) : ∀ u ∈ rowCells L cs, u.oneCell' = true := by
  intro u hu
  obtain ⟨q, _, rfl⟩ := List.mem_map.1 hu
  exact rowVal_one (Nat.mod_lt _ hw)

theorem VRep.cell {w : World} {L : Loc} {cs : List Col} (h : VRep w L cs) {j : Nat} {v : Value} (hj : (rowCells L cs)[j]? = some v) : w.cell? (L.at j) = some v := by
  have hlt : j < L.len * cwidth cs := by rw [← rowCells_len]; exact (List.getElem?_eq_some_iff.1 hj).1
  have hm : j % cwidth cs < cwidth cs := Nat.mod_lt _ h.wid
  have hd : j / cwidth cs < L.len := Nat.div_lt_of_lt_mul (by rw [Nat.mul_comm]; exact hlt)
  have e : j / cwidth cs * cwidth cs + j % cwidth cs = j := by rw [Nat.mul_comm]; exact Nat.div_add_mod j _
  have h1 := h.cells _ hd _ hm
  have h2 := rowCells_get (L := L) (cs := cs) hd hm
  rw [e] at h1 h2
  rw [h2] at hj; cases hj
  exact h1

section
variable {P : Program}

/-- what is read of a list, handed to append or copy -/
theorem VRep.src {w : World} {L : Loc} {cs : List Col} (h : VRep w L cs) {tx : TypeId} (hk : (∃ e', P.underlying tx = some (.slice e')) ∨ P.underlying tx = some .string) : Src P (cwidth cs) tx (.slice L.a L.len L.cap) L.len (rowCells L cs) w := by
  have hone := rowCells_one L cs h.wid
  cases ha : L.a with
  | none =>
    have hl : L.len = 0 := by
      by_cases q : L.len = 0
      · exact q
      · have := h.adr q; rw [ha] at this; cases this
    have hr : rowCells L cs = [] := by simp [rowCells, hl]
    rw [hl, hr]
    exact ⟨hk, fun _ => rfl, run_firstCells_none w (cwidth cs) 0 0 L.cap, run_firstCells_none w.drew (cwidth cs) 0 0 L.cap, by simp, fun _ h => by cases h⟩
  | some x =>
    have hnews : ∀ (j : Nat) u, (rowCells L cs)[j]? = some u → w.cell? (x.add j) = some u := ?_
    · exact ⟨hk, fun _ => rfl, run_firstCells_some w (cwidth cs) L.len x L.len L.cap _ (rowCells_len L cs) hnews, run_firstCells_some w.drew (cwidth cs) L.len x L.len L.cap _ (rowCells_len L cs) (by simpa using hnews), rowCells_len L cs, hone⟩
    intro j u hj
    have hlt : j < L.len * cwidth cs := by rw [← rowCells_len]; exact (List.getElem?_eq_some_iff.1 hj).1
    have hl : L.len ≠ 0 := fun q => by rw [q] at hlt; simp at hlt
    have := h.adr hl
    rw [ha] at this
    cases this
    rw [Loc.at_add, Nat.zero_add]
    exact h.cell hj

theorem VRep.first {w : World} {L : Loc} {cs : List Col} (h : VRep w L cs) : (Builtin.firstCells (cwidth cs) L.len (.slice L.a L.len L.cap)).run P w = .ok (rowCells L cs).toArray w := by
  cases ha : L.a with
  | none =>
    have hl : L.len = 0 := by
      by_cases q : L.len = 0
      · exact q
      · have := h.adr q; rw [ha] at this; cases this
    have hr : rowCells L cs = [] := by simp [rowCells, hl]
    rw [hr]
    simpa using run_firstCells_none (P := P) w (cwidth cs) L.len L.len L.cap
  | some x =>
    refine run_firstCells_some w (cwidth cs) L.len x L.len L.cap _ (rowCells_len L cs) (fun j u hj => ?_)
    have hlt : j < L.len * cwidth cs := by rw [← rowCells_len]; exact (List.getElem?_eq_some_iff.1 hj).1
    have hl : L.len ≠ 0 := fun q => by rw [q] at hlt; simp at hlt
    have := h.adr hl
    rw [ha] at this
    cases this
    rw [Loc.at_add, Nat.zero_add]
    exact h.cell hj
end

theorem VRep.firstN {P : Program} {w : World} {L : Loc} {cs : List Col} (h : VRep w L cs) {n : Nat} (hn : n ≤ L.len) : (Builtin.firstCells (cwidth cs) n (.slice L.a L.len L.cap)).run P w = .ok ((rowCells L cs).take (n * cwidth cs)).toArray w := by
  have hle : n * cwidth cs ≤ L.len * cwidth cs := Nat.mul_le_mul_right _ hn
  have hl : ((rowCells L cs).take (n * cwidth cs)).length = n * cwidth cs := by rw [List.length_take, rowCells_len]; omega
  cases ha : L.a with
  | none =>
    have hl : L.len = 0 := by
      by_cases q : L.len = 0
      · exact q
      · have := h.adr q; rw [ha] at this; cases this
    have hr : rowCells L cs = [] := by simp [rowCells, hl]
    rw [hr]
    simpa using run_firstCells_none (P := P) w (cwidth cs) n L.len L.cap
  | some x =>
    refine run_firstCells_some w (cwidth cs) n x L.len L.cap _ hl (fun j u hj => ?_)
    rw [List.getElem?_take] at hj
    split at hj
    · have hlt : j < L.len * cwidth cs := by rw [← rowCells_len]; exact (List.getElem?_eq_some_iff.1 hj).1
      have hl : L.len ≠ 0 := fun q => by rw [q] at hlt; simp at hlt
      have := h.adr hl
      rw [ha] at this
      cases this
      rw [Loc.at_add, Nat.zero_add]
      exact h.cell hj
    · cases hj

theorem VRep.drew {w : World} {L : Loc} {cs : List Col} (h : VRep w L cs) : VRep w.drew L cs := h.keeps fun _ _ => rfl

/-! ### two lists, one behind the other -/
theorem lget_cat (a b : List Int) (i : Nat) : lget (lcat a b) i = if i < a.length then lget a i else lget b (i - a.length) := by
  simp only [lget, lcat, List.getD, List.getElem?_append]
  split <;> rfl
theorem lgetb_cat (a b : List Bool) (i : Nat) : lgetb (lcat a b) i = if i < a.length then lgetb a i else lgetb b (i - a.length) := by
  simp only [lgetb, lcat, List.getD, List.getElem?_append]
  split <;> rfl
theorem llget_cat (a b : List (List Int)) (i : Nat) : llget (lcat a b) i = if i < a.length then llget a i else llget b (i - a.length) := by
  simp only [llget, lcat, List.getD, List.getElem?_append]
  split <;> rfl

def catEl (L M : Loc) : Nat → Nat → Elt := fun c i => if i < L.len then L.el c i else M.el c (i - L.len)

theorem colVal_cat {L M N : Loc} {x y : Col} (hx : x.ok L.len) (hk : y.kd = x.kd) (hN : N.el = catEl L M) (c i j : Nat) : colVal N c (x.cat y) i j = if i < L.len then colVal L c x i j else colVal M c y (i - L.len) j := by
  cases x <;> cases y <;> simp only [Col.kd, reduceCtorEq, Kd.ints.injEq, Kd.arrs.injEq, Kd.rows.injEq] at hk <;> simp only [Col.ok] at hx
  · subst hk; simp only [Col.cat, colVal, lget_cat, hx]; split <;> rfl
  · simp only [Col.cat, colVal, lgetb_cat, hx]; split <;> rfl
  · obtain ⟨rfl, rfl⟩ := hk; simp only [Col.cat, colVal, llget_cat, hx.1]; split <;> rfl
  · subst hk; simp only [Col.cat, colVal, hN, catEl]; split <;> rfl

theorem cat_kd (x y : Col) : (x.cat y).kd = x.kd := by cases x <;> cases y <;> rfl

theorem catCols_kds : ∀ {cs ds : List Col}, kdsOf cs = kdsOf ds → kdsOf (catCols cs ds) = kdsOf cs
  | [], [], _ => rfl
  | [], _ :: _, h => by simp [kdsOf] at h
  | _ :: _, [], h => by simp [kdsOf] at h
  | x :: r, y :: s, h => by
    simp only [kdsOf, List.map_cons, List.cons.injEq] at h
    have := catCols_kds (cs := r) (ds := s) h.2
    simp only [kdsOf] at this
    simp only [catCols, kdsOf, List.map_cons, cat_kd, this]

theorem rowVal_cat {L M N : Loc} (hN : N.el = catEl L M) : ∀ {cs ds : List Col}, kdsOf cs = kdsOf ds → (∀ x ∈ cs, x.ok L.len) → ∀ (c i t : Nat), rowVal N (catCols cs ds) c i t = if i < L.len then rowVal L cs c i t else rowVal M ds c (i - L.len) t
  | [], [], _, _ => fun c i t => by simp only [catCols, rowVal]; split <;> rfl
  | [], _ :: _, h, _ => by simp [kdsOf] at h
  | _ :: _, [], h, _ => by simp [kdsOf] at h
  | x :: r, y :: s, h, hx => fun c i t => by
    simp only [kdsOf, List.map_cons, List.cons.injEq] at h
    have ih := rowVal_cat hN (cs := r) (ds := s) h.2 (fun z hz => hx z (List.mem_cons_of_mem _ hz)) (c + 1) i (t - x.kd.width)
    simp only [catCols, rowVal, cat_kd, ← h.1]
    rw [ih, colVal_cat (hx x (by simp)) h.1.symm hN]
    by_cases ht : t < x.kd.width
    · simp only [if_pos ht]
    · simp only [if_neg ht]

theorem cat_ok {n m : Nat} {x y : Col} (hx : x.ok n) (hy : y.ok m) (hk : y.kd = x.kd) : (x.cat y).ok (n + m) := by
  cases x <;> cases y <;> simp only [Col.kd, reduceCtorEq, Kd.ints.injEq, Kd.arrs.injEq, Kd.rows.injEq] at hk <;> simp only [Col.ok] at hx hy <;> simp only [Col.cat, Col.ok, lcat, List.length_append]
  · omega
  · omega
  · obtain ⟨rfl, rfl⟩ := hk
    refine ⟨by omega, fun z hz => ?_⟩
    rcases List.mem_append.1 hz with h | h
    · exact hx.2 z h
    · exact hy.2 z h
  · omega

theorem catCols_ok {n m : Nat} : ∀ {cs ds : List Col}, kdsOf cs = kdsOf ds → (∀ x ∈ cs, x.ok n) → (∀ x ∈ ds, x.ok m) → ∀ x ∈ catCols cs ds, x.ok (n + m)
  | [], [], _, _, _ => fun x h => by simp [catCols] at h
  | [], _ :: _, h, _, _ => by simp [kdsOf] at h
  | _ :: _, [], h, _, _ => by simp [kdsOf] at h
  | x :: r, y :: s, h, hx, hy => fun z hz => by
    simp only [kdsOf, List.map_cons, List.cons.injEq] at h
    simp only [catCols, List.mem_cons] at hz
    rcases hz with rfl | hz
    · exact cat_ok (hx x (by simp)) (hy y (by simp)) h.1.symm
    · exact catCols_ok (cs := r) (ds := s) h.2 (fun q hq => hx q (List.mem_cons_of_mem _ hq)) (fun q hq => hy q (List.mem_cons_of_mem _ hq)) z hz

theorem catCols_rows : ∀ {cs ds : List Col} {c : Nat} {k : IntKind} {ll : List (List Int)}, (catCols cs ds)[c]? = some (.rows k ll) → kdsOf cs = kdsOf ds → ∃ l1 l2, cs[c]? = some (.rows k l1) ∧ ds[c]? = some (.rows k l2) ∧ ll = l1 ++ l2
  | [], [], c, _, _, h, _ => by simp [catCols] at h
  | [], _ :: _, _, _, _, _, h => by simp [kdsOf] at h
  | _ :: _, [], _, _, _, _, h => by simp [kdsOf] at h
  | x :: r, y :: s, 0, k, ll, h, hk => by
    simp only [kdsOf, List.map_cons, List.cons.injEq] at hk
    simp only [catCols, List.getElem?_cons_zero, Option.some.injEq] at h
    have hk1 := hk.1
    cases x <;> cases y <;> simp only [Col.kd, reduceCtorEq, Kd.rows.injEq] at hk1 <;> simp only [Col.cat, reduceCtorEq, Col.rows.injEq] at h
    obtain ⟨rfl, rfl⟩ := h
    subst hk1
    exact ⟨_, _, rfl, rfl, rfl⟩
  | x :: r, y :: s, c + 1, k, ll, h, hk => by
    simp only [kdsOf, List.map_cons, List.cons.injEq] at hk
    simp only [catCols, List.getElem?_cons_succ] at h
    obtain ⟨l1, l2, h1, h2, h3⟩ := catCols_rows (cs := r) (ds := s) h hk.2
    exact ⟨l1, l2, by simpa using h1, by simpa using h2, h3⟩

theorem inner_cat {L M N : Loc} {cs ds : List Col} {k : Nat} (hN : N.el = catEl L M) (hk : kdsOf cs = kdsOf ds) (hx : ∀ x ∈ cs, x.ok L.len) (h : Inner N (catCols cs ds) k) : Inner L cs k ∨ Inner M ds k := by
  obtain ⟨c, kk, ll, i, l, a, h1, h2, h3, h4, h5⟩ := h
  obtain ⟨l1, l2, g1, g2, rfl⟩ := catCols_rows h1 hk
  have hl : l1.length = L.len := hx _ (List.mem_of_getElem? g1)
  rw [hN] at h4
  simp only [catEl] at h4
  rw [List.getElem?_append] at h2
  by_cases hi : i < l1.length
  · rw [if_pos hi] at h2
    rw [if_pos (by omega)] at h4
    exact Or.inl ⟨c, kk, l1, i, l, a, g1, h2, h3, h4, h5⟩
  · rw [if_neg hi] at h2
    rw [if_neg (by omega)] at h4
    rw [hl] at h2
    exact Or.inr ⟨c, kk, l2, i - L.len, l, a, g2, h2, h3, h4, h5⟩

/-- two lists that are known, laid one behind the other in cells: a list -/
theorem cat_rep {w w' : World} {L M N : Loc} {cs ds : List Col} (h1 : VRep w L cs) (h2o : ∀ x ∈ ds, x.ok M.len) (h2i : ∀ c k ll, ds[c]? = some (Col.rows k ll) → ∀ i l, ll[i]? = some l → EltRep w (M.el c i) k l) (hk : kdsOf cs = kdsOf ds) (hN : N.el = catEl L M) (hlen : N.len = L.len + M.len) (hcap : N.len ≤ N.cap) (hadr : N.len ≠ 0 → N.a = some (N.at 0))
    (hc : ∀ (j : Nat) v, (rowCells L cs ++ rowCells M ds)[j]? = some v → w'.cell? (N.at j) = some v) (hs1 : ∀ k, Inner L cs k → w'.heap[k]? = w.heap[k]?) (hs2 : ∀ k, Inner M ds k → w'.heap[k]? = w.heap[k]?) : VRep w' N (catCols cs ds) := by
  have hwd : cwidth (catCols cs ds) = cwidth cs := by simp [cwidth, catCols_kds hk]
  have hwd2 : cwidth ds = cwidth cs := by simp [cwidth, hk]
  have elt : ∀ {e : Elt} {k : IntKind} {l : List Int}, EltRep w e k l → (∀ a, l ≠ [] → e.a = some a → w'.heap[a.block]? = w.heap[a.block]?) → EltRep w' e k l := by
    intro e k l ⟨q1, q2, q3, q4⟩ hh
    refine ⟨q1, q2, q3, fun j x hx a ha => ?_⟩
    have hb : (a.add j).block = a.block := by unfold Addr.add; split <;> rfl
    have := hh a (fun e => by subst e; simp at hx) ha
    exact (cell_same (a := a.add j) (by rw [hb]; exact this)).trans (q4 j x hx a ha)
  refine ⟨fun e => by rw [e] at hwd; have := h1.wid; rw [← hwd] at this; exact absurd this (by decide), by rw [hwd]; exact h1.wid, ?_, hcap, hadr, fun i hi t ht => ?_, fun c k ll hcc i l hl => ?_⟩
  · rw [hlen]; exact catCols_ok hk h1.ok h2o
  · rw [hwd] at ht ⊢
    rw [rowVal_cat hN hk h1.ok]
    refine hc _ _ ?_
    rw [List.getElem?_append, rowCells_len]
    by_cases hlt : i < L.len
    · rw [if_pos hlt, if_pos (cell_lt_len hlt ht)]
      exact rowCells_get hlt ht
    · have hge : L.len * cwidth cs ≤ i * cwidth cs := Nat.mul_le_mul_right _ (by omega)
      rw [if_neg hlt, if_neg (by omega)]
      have e : i * cwidth cs + t - L.len * cwidth cs = (i - L.len) * cwidth ds + t := by rw [hwd2, Nat.sub_mul]; omega
      rw [e]
      exact rowCells_get (by omega) (by rw [hwd2]; exact ht)
  · obtain ⟨l1, l2, g1, g2, rfl⟩ := catCols_rows hcc hk
    have hl1 : l1.length = L.len := h1.ok _ (List.mem_of_getElem? g1)
    rw [List.getElem?_append] at hl
    rw [hN]
    simp only [catEl]
    by_cases hlt : i < L.len
    · rw [if_pos (by omega)] at hl
      rw [if_pos hlt]
      exact elt (h1.inner c k l1 g1 i l hl) fun a hne ha => hs1 _ ⟨c, k, l1, i, l, a, g1, hl, hne, ha, rfl⟩
    · rw [if_neg (by omega), hl1] at hl
      rw [if_neg hlt]
      exact elt (h2i c k l2 g2 (i - L.len) l hl) fun a hne ha => hs2 _ ⟨c, k, l2, i - L.len, l, a, g2, hl, hne, ha, rfl⟩
end Go.Sx
