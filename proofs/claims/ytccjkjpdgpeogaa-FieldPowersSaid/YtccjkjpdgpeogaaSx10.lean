/- Stores. -/
import Derived.Test.YtccjkjpdgpeogaaSx9
namespace Go.Sx
open Go
set_option linter.unusedSimpArgs false
set_option linter.unusedVariables false

theorem heap_setCell_at {w : World} {g o : Nat} {cur : List Value} {t : TypeId} {fz : Nat × Nat} {v : Value} (hg : w.heap[g]? = some (.cells cur.toArray t fz)) :
    (w.setCell ⟨g, o, none⟩ v).heap[g]? = some (.cells (cur.set o v).toArray t fz) := by
  simp [World.setCell, Array.getElem?_modify, hg]

theorem store_cells (P : Program) {g o : Nat} {t : TypeId} {fz : Nat × Nat} : ∀ (vs : List Value) (i : Nat) (cur : List Value) (w : World), w.heap[g]? = some (.cells cur.toArray t fz) → (∀ j, j < cur.length → ¬ (fz.1 ≤ j ∧ j < fz.2)) →
    o + i + vs.length ≤ cur.length → (∀ v ∈ vs, v.oneCell' = true) → ∃ (w' : World) (cur' : List Value), (storeCells ⟨g, o, none⟩ vs i).run P w = .ok () w' ∧ w'.heap[g]? = some (.cells cur'.toArray t fz) ∧ (∀ k, k ≠ g → w'.heap[k]? = w.heap[k]?) ∧
      w'.heap.size = w.heap.size ∧ w'.os = w.os ∧ w'.tape = w.tape ∧ w'.output = w.output ∧ cur'.length = cur.length ∧ ∀ (j : Nat), cur'[j]? = if o + i ≤ j ∧ j < o + i + vs.length then vs[j - (o + i)]? else cur[j]?
  | [], i, cur, w, hg, _, _, _ => ⟨w, cur, by simp [storeCells], hg, fun _ _ => rfl, rfl, rfl, rfl, rfl, rfl, fun j => by simp; omega⟩
  | v :: vs, i, cur, w, hg, hfz, hle, h1 => by
    simp only [List.length_cons] at hle
    have hadd : (⟨g, o, none⟩ : Addr).add i = ⟨g, o + i, none⟩ := by unfold Addr.add; split <;> simp_all
    have hlt : o + i < cur.length := by omega
    have hcell : w.cell? ⟨g, o + i, none⟩ = some cur[o + i] := by simp [World.cell?, hg, hlt]
    have hfr : w.frozen? ⟨g, o + i, none⟩ = false := by
      have := hfz (o + i) hlt
      simp only [World.frozen?, hg]
      simpa using this
    have hst : (store (⟨g, o + i, none⟩ : Addr) v).run P w = .ok () (w.setCell ⟨g, o + i, none⟩ v) := by
      rw [run_store P w _ v .plain (h1 v (by simp)), hcell]; simp [hfr]
    obtain ⟨w', cur', e1, e2, e3, e4, e5, e6, e7, e8, e9⟩ := store_cells P (g := g) (o := o) vs (i + 1) (cur.set (o + i) v) (w.setCell ⟨g, o + i, none⟩ v) (heap_setCell_at hg) (by simpa using hfz) (by simp; omega) (fun u hu => h1 u (by simp [hu]))
    refine ⟨w', cur', by simp [storeCells, hadd, hst, e1], e2, fun k hk => ?_, ?_, e5, e6, e7, by simpa using e8, fun j => ?_⟩
    · rw [e3 k hk]
      simp only [World.setCell, Array.getElem?_modify]
      rw [if_neg (Ne.symm hk)]
    · rw [e4]; simp [World.setCell]
    · rw [e9 j]
      by_cases ha : o + (i + 1) ≤ j ∧ j < o + (i + 1) + vs.length
      · rw [if_pos ha, if_pos (by simp; omega)]
        have : j - (o + i) = (j - (o + (i + 1))) + 1 := by omega
        rw [this]; simp
      · rw [if_neg ha, List.getElem?_set]
        by_cases hb : o + i = j
        · subst hb
          rw [if_pos rfl, if_pos (by omega), if_pos (by simp)]; simp
        · rw [if_neg hb, if_neg (by simp; omega)]

theorem find_put : ∀ {σ : Mem} {n m : Nat} {b : Blk}, Mem.find (σ.put n b) m = if m = n then (Mem.find σ n).map (fun _ => b) else Mem.find σ m
  | [], n, m, b => by simp [Mem.put, Mem.find]
  | (k, x) :: r, n, m, b => by
    simp only [Mem.put]
    by_cases hk : k = n
    · subst hk
      rw [if_pos rfl]
      simp only [Mem.find]
      by_cases hm : m = k
      · subst hm; simp
      · rw [if_neg (Ne.symm hm), if_neg hm, if_neg (Ne.symm hm)]
    · rw [if_neg hk]
      simp only [Mem.find]
      by_cases hm : k = m
      · subst hm; rw [if_pos rfl, if_neg hk, if_pos rfl]
      · rw [if_neg hm, if_neg hm, if_neg hk]
        exact find_put

theorem sameShape_len : ∀ {s x : List Seg}, sameShape s x = true → slen s = slen x
  | [], [], _ => rfl
  | [], _ :: _, h => by simp [sameShape] at h
  | a :: r, [], h => by cases a <;> simp [sameShape] at h
  | a :: r, b :: r', h => by
    cases a <;> cases b <;> simp [sameShape, Bool.and_eq_true] at h <;> simp only [slen, Seg.len, sameShape_len h.2] <;> omega

section
variable {P : Program}

/-- a store into a block of the walk's own -/
theorem put_sound {E : Env} {ρ : Rho} {fr : Fr} {σ : Mem} {a : Act} {w : World} (h : Rep E ρ fr σ a w) {n off z : Nat} {T T' : TypeId} {s s' ys : List Seg} {yl : List AC} {v : Value} (hn : Mem.find σ n = some (.own T' s)) (ho' : segsOk s') (hlen : slen s' = slen s) (hfit : off + z ≤ slen s)
    (hsz : sizeB P T = some z) (hv : v.cells.size = z) (h1 : ∀ u ∈ v.cells.toList, u.oneCell' = true) (hu : ∀ (j : Nat) b u, yl[j]? = some b → v.cells.toList[j]? = some u → CRep ρ b u)
    (hl : ∀ (j : Nat), (flat s')[j]? = if off ≤ j ∧ j < off + z then yl[j - off]? else (flat s)[j]?) :
    ∃ w', (storeVar T (at_ ρ n off) v).run P w = .ok () w' ∧ w'.heap.size = w.heap.size ∧ Rep E ρ fr (σ.put n (.own T' s')) a w' ∧ ∀ k, k ≠ (ρ n).1 → w'.heap[k]? = w.heap[k]? := by
  obtain ⟨ho, hz, c, fz, hh, hf, hfz⟩ := h.mem n _ hn
  have hcl : c.length = slen s := by rw [← hf.1, flat_length ho]
  obtain ⟨w', cur', e1, e2, e3, e4, e5, e6, e7, e8, e9⟩ := store_cells P (g := (ρ n).1) (o := off) v.cells.toList 0 c w hh hfz (by simp; omega) h1
  have haddr : at_ ρ n off = ⟨(ρ n).1, off, none⟩ := by simp [at_, hz]
  have hrow : FRep ρ (flat s') cur' := by
    refine FRep.put (off := off) (z := z) (ys := yl) (us := v.cells.toList) hf (by rw [flat_length ho', flat_length ho, hlen]) e8 hu hl (fun j => ?_)
    rw [e9 j]; simp [hv]
  refine ⟨w', by rw [haddr]; simp [storeVar, run_sizeB hsz, hv, e1], e4, ⟨h.fr, h.df, ?_, ?_, h.fix, ?_, ?_⟩, e3⟩
  · intro m b hm
    rw [find_put] at hm
    split at hm
    · rename_i e; subst e
      rw [hn] at hm
      simp only [Option.map_some, Option.some.injEq] at hm
      subst hm
      exact ⟨ho', hz, cur', fz, e2, hrow, fun j hj => hfz j (by omega)⟩
    · rename_i hne
      have key : ∀ n' b', Mem.find σ n' = some b' → n' ≠ n → ((∃ T s, b' = .own T s) ∨ flat b'.segs ≠ []) → w'.heap[(ρ n').1]? = w.heap[(ρ n').1]? := fun n' b' hb' hq hne' => e3 _ (Ne.symm (h.sep n n' T' s b' hn hb' (Ne.symm hq) hne'))
      have hB := h.mem m b hm
      cases b with
      | own T2 s2 =>
        obtain ⟨a1, a2, c2, fz2, a3, a4, a5⟩ := hB
        exact ⟨a1, a2, c2, fz2, by rw [key m _ hm hne (Or.inl ⟨_, _, rfl⟩)]; exact a3, a4, a5⟩
      | view s2 =>
        refine ⟨hB.1, fun j x hx => ?_⟩
        obtain ⟨u, hu1, hu2⟩ := hB.2 j x hx
        have hne' : flat (Blk.view s2).segs ≠ [] := by
          intro e; simp only [Blk.segs] at e; rw [e] at hx; simp at hx
        refine ⟨u, ?_, hu2⟩
        rw [← hu1]
        exact cell_block (key m _ hm hne (Or.inr hne'))
  · intro n1 m1 T1 s1 b1 hn1 hm1 hne hq
    rw [find_put] at hn1 hm1
    have g1 : ∃ T2 s2, Mem.find σ n1 = some (.own T2 s2) := by
      split at hn1
      · rename_i e; subst e; exact ⟨_, _, hn⟩
      · exact ⟨_, _, hn1⟩
    obtain ⟨T2, s2, g1⟩ := g1
    split at hm1
    · rename_i e; subst e
      exact h.sep n1 m1 T2 s2 _ g1 hn hne (Or.inl ⟨_, _, rfl⟩)
    · exact h.sep n1 m1 T2 s2 _ g1 hm1 hne hq
  · intro m T2 s2 hm
    rw [find_put] at hm
    split at hm
    · rename_i e; subst e; exact h.own _ _ _ hn
    · exact h.own _ _ _ hm
  · refine ⟨e5.trans h.keep.os, e6.trans h.keep.tape, e7.trans h.keep.output, by rw [e4]; exact h.keep.size, fun k hk hx => ?_⟩
    rw [← h.keep.block k hk hx]
    refine e3 k fun e => ?_
    subst e
    rcases h.own n _ _ hn with q | q
    · omega
    · exact hx q

theorem FRep.one {ρ : Rho} {l : List AC} {c : List Value} (h : FRep ρ l c) : ∀ u ∈ c, u.oneCell' = true := by
  intro u hu
  obtain ⟨j, hj⟩ := List.mem_iff_getElem?.1 hu
  have hlt : j < l.length := by rw [h.1]; exact (List.getElem?_eq_some_iff.1 hj).1
  exact (h.2 j l[j] u (List.getElem?_eq_getElem hlt) hj).one

theorem storex_sound {E : Env} {ρ : Rho} {fr : Fr} {σ : Mem} {a : Act} {w : World} {T : TypeId} {n base idx : Nat} {x : AV} {v : Value} {K : Mem → Prop} (h : storex P σ T n base idx x K) (hR : Rep E ρ fr σ a w) (hx : SRep ρ x v) :
    ∃ w' σ', (storeVar T (at_ ρ n (base + idx)) v).run P w = .ok () w' ∧ w'.heap.size = w.heap.size ∧ Rep E ρ fr σ' a w' ∧ K σ' ∧ (∀ k, k ≠ (ρ n).1 → w'.heap[k]? = w.heap[k]?) ∧ (∀ m, m ≠ n → Mem.find σ' m = Mem.find σ m) ∧ ∃ T' s, Mem.find σ n = some (.own T' s) := by
  unfold storex at h
  split at h <;> try exact h.elim
  rename_i T' s hn
  have ho : segsOk s := (hR.mem n _ hn).1
  split at h
  · rename_i z hag hsz
    split at h <;> try exact h.elim
    rename_i xs
    have hseg := AV.segs_sound (s := xs) rfl hx
    have hvl : v.cells.size = slen xs := by have := hseg.2.1; rw [flat_length hseg.1] at this; simpa using this.symm
    split at h
    · split at h <;> try exact h.elim
      split at h <;> try exact h.elim
      split at h <;> try exact h.elim
      rename_i hsame hz
      have hl := sameShape_len hsame
      obtain ⟨w', e1, e0, e2, e7⟩ := put_sound (P := P) hR (off := 0) (z := z) (s' := xs) (yl := flat xs) (ys := xs) hn hseg.1 hl.symm (by omega) hsz (by omega) hseg.2.one (fun j b u h1 h2 => hseg.2.2 j b u h1 h2) (fun j => by
        by_cases hj : j < z
        · rw [if_pos (by omega)]; simp
        · rw [if_neg (by omega), List.getElem?_eq_none (by rw [flat_length hseg.1]; omega), List.getElem?_eq_none (by rw [flat_length ho]; omega)])
      exact ⟨w', _, e1, e0, e2, h, e7, fun m hm => by rw [find_put, if_neg hm], _, _, hn⟩
    · obtain ⟨s', hK, g1, g2, g3, g5, g4⟩ := storePart_sound h ho hseg.1
      have hzz : v.cells.size = z := by rw [hvl, ← flat_length hseg.1]; exact g5
      obtain ⟨w', e1, e0, e2, e7⟩ := put_sound (P := P) hR (ys := xs) hn g1 g2 g3 hsz hzz hseg.2.one (fun j b u h1 h2 => hseg.2.2 j b u h1 h2) g4
      exact ⟨w', _, e1, e0, e2, hK, e7, fun m hm => by rw [find_put, if_neg hm], _, _, hn⟩
  · rename_i hag hsz
    split at h <;> try exact h.elim
    rename_i b
    have hseg := AV.segs_sound (s := [.cells [b]]) rfl hx
    obtain ⟨s', hK, g1, g2, g3, b', hb', g4⟩ := storeOne_sound h ho
    have hv1 : v.cells.size = 1 := by have := hseg.2.1; simpa [flat, Seg.flat] using this.symm
    obtain ⟨w', e1, e0, e2, e7⟩ := put_sound (P := P) hR (ys := []) (yl := [b']) hn g1 g2 (by omega) hsz hv1 hseg.2.one (fun j c u h1 h2 => by
      cases j with
      | zero => simp at h1; subst h1; exact hb' _ _ (hseg.2.2 0 b u (by simp [flat, Seg.flat]) h2)
      | succ j => simp at h1) g4
    exact ⟨w', _, e1, e0, e2, hK, e7, fun m hm => by rw [find_put, if_neg hm], _, _, hn⟩
  · exact h.elim
end
end Go.Sx
