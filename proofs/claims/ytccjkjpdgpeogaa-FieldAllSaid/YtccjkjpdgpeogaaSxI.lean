/- Literals of lists, laid. -/
import Derived.Test.YtccjkjpdgpeogaaSxH
namespace Go.Sx
open Go
set_option linter.unusedSimpArgs false
set_option linter.unusedVariables false
section
variable {P : Program} {E : Env} {ρ : Rho} {fr : Fr} {σ : Mem} {a : Act} {w : World}

theorem push_cat (x y : Col) : x.push y = x.cat y := by cases x <;> cases y <;> rfl
theorem pushCols_cat : ∀ (cs ds : List Col), pushCols cs ds = catCols cs ds
  | [], [] => rfl
  | [], _ :: _ => rfl
  | _ :: _, [] => rfl
  | x :: r, y :: s => by simp only [pushCols, catCols, push_cat, pushCols_cat r s]

/-- parts laid one behind the other fill the row -/
theorem fill_list (size : Nat) : ∀ (parts : List (Nat × Value)) (i : Nat) (cells : Array Value), (∀ j p, parts[j]? = some p → p.1 = i + j ∧ p.2.cells.size = size) → (i + parts.length) * size ≤ cells.size →
    ∃ cells', Instr.fill (fun i => some (i * size, size)) cells parts = some cells' ∧ cells'.size = cells.size ∧ (∀ q, q < i * size → cells'[q]? = cells[q]?) ∧ ∀ (j : Nat) p t, parts[j]? = some p → t < size → cells'[(i + j) * size + t]? = p.2.cells[t]?
  | [], i, cells, _, _ => ⟨cells, rfl, rfl, fun _ _ => rfl, fun j p t h => by simp at h⟩
  | (i', v) :: parts, i, cells, hp, hfit => by
    obtain ⟨h1, h2⟩ := hp 0 _ rfl
    simp only [Nat.add_zero] at h1 h2
    subst h1
    simp only [List.length_cons] at hfit
    have hsz : i' * size + size ≤ cells.size := by
      have : (i' + 1) * size ≤ (i' + (parts.length + 1)) * size := Nat.mul_le_mul_right _ (by omega)
      rw [Nat.add_mul, Nat.one_mul] at this; omega
    obtain ⟨g1, g2⟩ := foldl_put (i' * size) v.cells.toList 0 cells
    have g2 := g2 (by simp; omega)
    have hfold : v.cells.zipIdx.foldl (fun cs (c, j) => cs.setIfInBounds (i' * size + j) c) cells = (v.cells.toList.zipIdx 0).foldl (fun cs p => cs.setIfInBounds (i' * size + p.2) p.1) cells := by
      rw [← Array.foldl_toList, Array.toList_zipIdx]
    obtain ⟨cells', e1, e2, e3, e4⟩ := fill_list size parts (i' + 1) ((v.cells.toList.zipIdx 0).foldl (fun cs p => cs.setIfInBounds (i' * size + p.2) p.1) cells) (fun j p hj => by
      have := hp (j + 1) p (by simpa using hj)
      exact ⟨by omega, this.2⟩) (by rw [g1]; rw [show i' + 1 + parts.length = i' + (parts.length + 1) by omega]; exact hfit)
    refine ⟨cells', ?_, e2.trans g1, fun q hq => ?_, fun j p t hj ht => ?_⟩
    · simp only [Instr.fill]
      rw [if_neg (by simp [h2]; omega), hfold]
      exact e1
    · rw [e3 q (by rw [Nat.add_mul]; omega), g2 q, if_neg (by omega)]
    · cases j with
      | zero =>
        simp only [List.getElem?_cons_zero, Option.some.injEq] at hj
        subst hj
        rw [Nat.add_zero, e3 _ (by rw [Nat.add_mul]; omega), g2 _, if_pos (by simp [h2]; omega)]
        rw [Array.getElem?_toList]
        congr 1; omega
      | succ j =>
        have := e4 j p t (by simpa using hj) ht
        rw [show i' + 1 + j = i' + (j + 1) by omega] at this
        exact this

/-- what is known behind some parts of a literal -/
structure Built (ρ : Rho) (σ : Mem) (w : World) (ks : List Kd) (vals : List Value) (cs : List Col) (L : Loc) : Prop where
  len : L.len = vals.length
  kds : kdsOf cs = ks
  ok : ∀ x ∈ cs, x.ok L.len
  cells : ∀ i v, vals[i]? = some v → ∀ t, t < width ks → v.cells[t]? = some (rowVal L cs 0 i t)
  sizes : ∀ v ∈ vals, v.cells.size = width ks
  inner : ∀ j k ll, cs[j]? = some (Col.rows k ll) → ∀ i l, ll[i]? = some l → EltRep w (L.el j i) k l ∧ (l ≠ [] → ∀ x, (L.el j i).a = some x → Clean ρ σ x.block ∧ x.block < w.heap.size)

theorem Built.cat {ks : List Kd} {vals : List Value} {v : Value} {cs ds : List Col} {L M : Loc} {σ1 : Mem} (h : Built ρ σ w ks vals cs L) (hr : Recs ρ σ w v.cells.toList ks ds 0 M σ1) : Built ρ σ1 w ks (vals ++ [v]) (catCols cs ds) ⟨0, 0, none, L.len + M.len, 0, catEl L M⟩ := by
  have hk : kdsOf cs = kdsOf ds := h.kds.trans hr.kds.symm
  refine ⟨by simp [h.len, hr.len], by rw [catCols_kds hk, h.kds], catCols_ok hk h.ok (by rw [hr.len]; exact hr.ok), fun i u hu t ht => ?_, fun u hu => ?_, fun j k ll hc i l hl => ?_⟩
  · rw [rowVal_cat rfl hk h.ok]
    by_cases hi : i < vals.length
    · rw [List.getElem?_append_left hi] at hu
      rw [if_pos (by rw [h.len]; exact hi)]
      exact h.cells i u hu t ht
    · rw [List.getElem?_append_right (by omega)] at hu
      have : i - vals.length = 0 := by
        by_cases q : i - vals.length = 0
        · exact q
        · obtain ⟨p, hp⟩ : ∃ p, i - vals.length = p + 1 := ⟨i - vals.length - 1, by omega⟩
          rw [hp] at hu; simp at hu
      rw [this] at hu
      simp at hu
      subst hu
      rw [if_neg (by rw [h.len]; exact hi), h.len, this]
      have := hr.cells t ht
      rw [Array.getElem?_toList] at this
      exact this
  · rcases List.mem_append.1 hu with hu | hu
    · exact h.sizes u hu
    · simp at hu; subst hu; have := hr.vlen; simpa using this
  · obtain ⟨l1, l2, g1, g2, rfl⟩ := catCols_rows hc hk
    have hl1 : l1.length = L.len := h.ok _ (List.mem_of_getElem? g1)
    rw [List.getElem?_append] at hl
    simp only [catEl]
    by_cases hi : i < l1.length
    · rw [if_pos hi] at hl
      rw [if_pos (by omega)]
      obtain ⟨q1, q2⟩ := h.inner j k l1 g1 i l hl
      exact ⟨q1, fun hne x hx => ⟨(q2 hne x hx).1.less hr.less, (q2 hne x hx).2⟩⟩
    · rw [if_neg hi, hl1] at hl
      rw [if_neg (by omega)]
      have := hr.inner j k l2 g2 (i - L.len) l hl
      rw [Nat.zero_add] at this
      exact this

theorem recsx_sound {ks : List Kd} {len : Nat} : ∀ {parts : List (Nat × AV)} {ps : List (Nat × Value)} {σ : Mem} {i : Nat} {acc : List Col} {vals : List Value} {L : Loc} {K : List Col → Mem → Prop}, recsx ks len σ i parts acc K → MemRep ρ σ w → Sep ρ σ → Built ρ σ w ks vals acc L → vals.length = i →
    parts.length = ps.length → (∀ (j : Nat) p q, parts[j]? = some p → ps[j]? = some q → p.1 = q.1 ∧ SRep ρ p.2 q.2) →
    ∃ cs M σ1, Built ρ σ1 w ks (vals ++ ps.map (·.2)) cs M ∧ K cs σ1 ∧ (∀ m b, Mem.find σ1 m = some b → Mem.find σ m = some b) ∧ i + ps.length = len ∧ ∀ (j : Nat) q, ps[j]? = some q → q.1 = i + j
  | [], [], σ, i, acc, vals, L, K, h, hm, hs, hb, hi, _, _ => by
    simp only [recsx] at h
    split at h <;> try exact h.elim
    rename_i hq
    exact ⟨acc, L, σ, by simpa using hb, h, fun _ _ q => q, by simpa using beq_nat hq, fun j q hj => by simp at hj⟩
  | (j, v) :: parts, (j', u) :: ps, σ, i, acc, vals, L, K, h, hm, hs, hb, hi, hl, hps => by
    simp only [recsx] at h
    split at h <;> try exact h.elim
    rename_i hij
    split at h <;> try exact h.elim
    rename_i fl hfl
    simp only [Option.bind_eq_some_iff] at hfl
    obtain ⟨sg, hsg, hfl⟩ := hfl
    obtain ⟨h0, hv⟩ := hps 0 _ _ rfl rfl
    simp only at h0 hv
    obtain ⟨ho, hf⟩ := AV.segs_sound hsg hv
    obtain ⟨ds, M, σ1, hr, h⟩ := recx_sound (c := 0) h (flds_rep hfl ho hf) hm hs
    obtain ⟨hm1, hs1⟩ := Rep.sub hm hs hr.less
    rw [pushCols_cat] at h
    obtain ⟨cs, N, σ2, e1, e2, e3, e4, e5⟩ := recsx_sound (parts := parts) (ps := ps) h hm1 hs1 (hb.cat hr) (by simp [hi]) (by simpa using hl) (fun j p q h1 h2 => hps (j + 1) p q (by simpa using h1) (by simpa using h2))
    refine ⟨cs, N, σ2, by simpa using e1, e2, fun m b q => hr.less m b (e3 m b q), by simp only [List.length_cons]; omega, fun k q hk => ?_⟩
    cases k with
    | zero => simp at hk; subst hk; have := beq_nat hij; simp only; omega
    | succ k => have := e5 k q (by simpa using hk); omega
  | [], _ :: _, _, _, _, _, _, _, _, _, _, _, _, hl, _ => by simp at hl
  | _ :: _, [], _, _, _, _, _, _, _, _, _, _, _, hl, _ => by simp at hl

theorem nil_built {ks : List Kd} : Built ρ σ w ks [] (ks.map Kd.nil) loc0 := by
  refine ⟨rfl, nil_kds ks, fun x hx => ?_, fun i v h => by simp at h, fun v h => by simp at h, fun j k ll hc i l hl => ?_⟩
  · obtain ⟨kd, _, rfl⟩ := List.mem_map.1 hx
    cases kd <;> simp [Kd.nil, Col.ok, loc0]
  · simp only [List.getElem?_map, Option.map_eq_some_iff] at hc
    obtain ⟨kd, _, hkd⟩ := hc
    cases kd <;> simp [Kd.nil] at hkd
    rw [hkd.2] at hl; simp at hl

theorem literal_sound {t e : TypeId} {ks : List Kd} {bytes len d : Nat} {parts : List (Nat × AV)} {ps : Array (Nat × Value)} {K : List Col → Mem → Prop} (hR : Rep E ρ fr σ a w) (hu : P.underlying t = some (.slice e)) (hk : elemKinds P e = some (ks, bytes)) (hle : len * width ks ≤ 16777216)
    (h : recsx ks len σ 0 parts (ks.map Kd.nil) K) (hl : parts.length = ps.toList.length) (hps : ∀ (j : Nat) p q, parts[j]? = some p → ps.toList[j]? = some q → p.1 = q.1 ∧ SRep ρ p.2 q.2) :
    ∃ cs σ1, K cs σ1 ∧ Rep E ρ fr σ1 a w ∧ (freshB d fr σ1 = true → ∃ v w' L, (Instr.buildSlice t len ps).run P w = .ok v w' ∧ v = .slice L.a L.len L.cap ∧ w.heap.size ≤ w'.heap.size ∧ Rep E (upd ρ d L) fr (Mem.ins d (.vec cs) σ1) a w') := by
  obtain ⟨i, z, hi, hz, hzero, hsize, hwid, hbytes, _⟩ := elemKinds_sound hk
  obtain ⟨cs, M, σ1, hB, hK, hless, hlen, hidx⟩ := recsx_sound (ps := ps.toList) h hR.mem hR.sep nil_built rfl hl hps
  rw [List.nil_append] at hB
  have hR1 : Rep E ρ fr σ1 a w := hR.less hR.fr hless
  refine ⟨cs, σ1, hK, hR1, fun hd => ?_⟩
  have hMl : M.len = len := by rw [hB.len, List.length_map]; omega
  have hcw : cwidth cs = width ks := by rw [cwidth, hB.kds]
  have hzs : z.cells.size = width ks := by have := zero_len hzero; simpa using this
  obtain ⟨cells', e1, e2, e3, e4⟩ := fill_list (width ks) ps.toList 0 ((Array.range (len * width ks)).map fun q => if len * width ks = 0 then (#[] : Array Value)[q % (#[] : Array Value).size]! else z.cells[q % z.cells.size]!) (fun j p hj => ⟨hidx j p hj, hB.sizes p.2 (List.mem_map.2 ⟨p, List.mem_of_getElem? hj, rfl⟩)⟩) (by
    rw [Nat.zero_add, Array.size_map, Array.size_range]; rw [show ps.toList.length = len by omega]; exact Nat.le_refl _)
  have hcs : cells'.size = len * width ks := by rw [e2, Array.size_map, Array.size_range]
  have hrun : (Instr.buildSlice t len ps).run P w = .ok (.slice (some ⟨w.heap.size, 0, none⟩) len len) (w.alloc (.cells cells' e)) := by
    have hn : ¬ (16777216 < len * width ks) := by omega
    by_cases h0 : len * width ks = 0
    · simp only [h0, if_true] at e1
      simp [Instr.buildSlice, run_underlying hu, sizeOf, typeInfo, hi, hsize, h0, newRow]
      have e0 : ∀ f : Nat → Value, Array.map f (Array.range 0) = #[] := fun f => by simp [Array.range]
      rw [e0] at e1 ⊢
      rw [e1]
      simp
    · simp only [h0, if_false] at e1
      simp [Instr.buildSlice, run_underlying hu, sizeOf, typeInfo, hi, hsize, h0, hn, zeroValue, hz, newRow, e1]
  let L : Loc := ⟨w.heap.size, 0, some ⟨w.heap.size, 0, none⟩, len, len, M.el⟩
  have new : (w.alloc (.cells cells' e)).heap[w.heap.size]? = some (.cells cells' e) := by
    show (w.heap.push _)[w.heap.size]? = _
    simp
  have old : ∀ k, k < w.heap.size → (w.alloc (.cells cells' e)).heap[k]? = w.heap[k]? := fun k hk => with_old (o := .cells cells' e) hk
  have rowel : ∀ {cs : List Col} {c i t : Nat}, rowVal L cs c i t = rowVal M cs c i t := by
    intro cs
    induction cs with
    | nil => intro c i t; rfl
    | cons x r ih =>
      intro c i t
      simp only [rowVal]
      split
      · cases x <;> rfl
      · exact ih
  have hV : VRep (w.alloc (.cells cells' e)) L cs := by
    refine ⟨fun q => by rw [q] at hcw; rw [← hcw] at hwid; exact absurd hwid (by decide), by rw [hcw]; exact hwid, fun x hx => by have := hB.ok x hx; rw [hMl] at this; exact this, Nat.le_refl _, fun _ => rfl, fun r hr t ht => ?_, fun c k ll hc r l hl => ?_⟩
    · have hr' : r < len := hr
      rw [hcw] at ht ⊢
      have hrl : r < ps.toList.length := by omega
      have h4 := e4 r _ t (List.getElem?_eq_getElem hrl) ht
      rw [Nat.zero_add] at h4
      simp only [World.cell?, Loc.at, L, new, Option.isSome_none, Bool.false_eq_true, if_false, Nat.zero_add]
      rw [h4, hB.cells r _ (by rw [List.getElem?_map, List.getElem?_eq_getElem hrl]; rfl) t ht, ← rowel]
    · obtain ⟨⟨q1, q2, q3, q4⟩, q5⟩ := hB.inner c k ll hc r l hl
      refine ⟨q1, q2, q3, fun j x hx A hA => ?_⟩
      have hbk : (A.add j).block = A.block := by unfold Addr.add; split <;> rfl
      have := old A.block (q5 (fun e => by subst e; simp at hx) A hA).2
      exact (cell_same (a := A.add j) (by rw [hbk]; exact this)).trans (q4 j x hx A hA)
  refine ⟨_, _, L, hrun, rfl, by show _ ≤ (w.heap.push _).size; simp, newvec (L := L) hR1 hd (C := cells') (T := e) (fz := (0, 0)) rfl rfl rfl rfl hV rfl rfl rfl (by rw [hcw, hcs]; exact Nat.le_refl _) (fun j _ => by simp) (fun k hk => ?_)⟩
  obtain ⟨c, kk, ll, r, l, A, h1, h2, h3, h4, rfl⟩ := hk
  exact (hB.inner c kk ll h1 r l h2).2 h3 A h4
end
end Go.Sx
