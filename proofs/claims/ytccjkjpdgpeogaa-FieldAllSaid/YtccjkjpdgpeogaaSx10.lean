/- Stores. -/
import Derived.Test.YtccjkjpdgpeogaaSx9
namespace Go.Sx
open Go
set_option linter.unusedSimpArgs false
set_option linter.unusedVariables false

theorem heap_setCell_at {w : World} {g o : Nat} {cur : List Value} {t : TypeId} {fz : Nat × Nat} {v : Value} (hg : w.heap[g]? = some (.cells cur.toArray t fz)) :
    (w.setCell ⟨g, o, none⟩ v).heap[g]? = some (.cells (cur.set o v).toArray t fz) := by
  simp [World.setCell, Array.getElem?_modify, hg]

theorem store_cells (P : Program) {g o : Nat} {t : TypeId} {fz : Nat × Nat} : ∀ (vs : List Value) (i : Nat) (cur : List Value) (w : World), w.heap[g]? = some (.cells cur.toArray t fz) → (∀ j, j < cur.length → ¬ (fz.1 ≤ j ∧ j < fz.2)) →
    o + i + vs.length ≤ cur.length → (∀ v ∈ vs, v.oneCell' = true) → ∃ (w' : World) (cur' : List Value), (storeCells ⟨g, o, none⟩ vs i).run P w = .ok () w' ∧ w'.heap[g]? = some (.cells cur'.toArray t fz) ∧ (∀ k, k ≠ g → w'.heap[k]? = w.heap[k]?) ∧
      w'.heap.size = w.heap.size ∧ w'.os = w.os ∧ w'.tape = w.tape ∧ w'.output = w.output ∧ cur'.length = cur.length ∧ ∀ (j : Nat), cur'[j]? = if o + i ≤ j ∧ j < o + i + vs.length then vs[j - (o + i)]? else cur[j]?
  | [], i, cur, w, hg, _, _, _ => ⟨w, cur, by simp [storeCells], hg, fun _ _ => rfl, rfl, rfl, rfl, rfl, rfl, fun j => by simp; omega⟩
  | v :: vs, i, cur, w, hg, hfz, hle, h1 => by
    simp only [List.length_cons] at hle
    have hadd : (⟨g, o, none⟩ : Addr).add i = ⟨g, o + i, none⟩ := by unfold Addr.add; split <;> simp_all
    have hlt : o + i < cur.length := by omega
    have hcell : w.cell? ⟨g, o + i, none⟩ = some cur[o + i] := by simp [World.cell?, hg, hlt]
    have hfr : w.frozen? ⟨g, o + i, none⟩ = false := by
      have := hfz (o + i) hlt
      simp only [World.frozen?, hg]
      simpa using this
    have hst : (store (⟨g, o + i, none⟩ : Addr) v).run P w = .ok () (w.setCell ⟨g, o + i, none⟩ v) := by
      rw [run_store P w _ v .plain (h1 v (by simp)), hcell]; simp [hfr]
    obtain ⟨w', cur', e1, e2, e3, e4, e5, e6, e7, e8, e9⟩ := store_cells P (g := g) (o := o) vs (i + 1) (cur.set (o + i) v) (w.setCell ⟨g, o + i, none⟩ v) (heap_setCell_at hg) (by simpa using hfz) (by simp; omega) (fun u hu => h1 u (by simp [hu]))
    refine ⟨w', cur', by simp [storeCells, hadd, hst, e1], e2, fun k hk => ?_, ?_, e5, e6, e7, by simpa using e8, fun j => ?_⟩
    · rw [e3 k hk]
      simp only [World.setCell, Array.getElem?_modify]
      rw [if_neg (Ne.symm hk)]
    · rw [e4]; simp [World.setCell]
    · rw [e9 j]
      by_cases ha : o + (i + 1) ≤ j ∧ j < o + (i + 1) + vs.length
      · rw [if_pos ha, if_pos (by simp; omega)]
        have : j - (o + i) = (j - (o + (i + 1))) + 1 := by omega
        rw [this]; simp
      · rw [if_neg ha, List.getElem?_set]
        by_cases hb : o + i = j
        · subst hb
          rw [if_pos rfl, if_pos (by omega), if_pos (by simp)]; simp
        · rw [if_neg hb, if_neg (by simp; omega)]

theorem find_put : ∀ {σ : Mem} {n m : Nat} {b : Blk}, Mem.find (σ.put n b) m = if m = n then (Mem.find σ n).map (fun _ => b) else Mem.find σ m
  | [], n, m, b => by simp [Mem.put, Mem.find]
  | (k, x) :: r, n, m, b => by
    simp only [Mem.put]
    by_cases hk : k = n
    · subst hk
      rw [if_pos rfl]
      simp only [Mem.find]
      by_cases hm : m = k
      · subst hm; simp
      · rw [if_neg (Ne.symm hm), if_neg hm, if_neg (Ne.symm hm)]
    · rw [if_neg hk]
      simp only [Mem.find]
      by_cases hm : k = m
      · subst hm; rw [if_pos rfl, if_neg hk, if_pos rfl]
      · rw [if_neg hm, if_neg hm, if_neg hk]
        exact find_put

theorem sameShape_len : ∀ {s x : List Seg}, sameShape s x = true → slen s = slen x
  | [], [], _ => rfl
  | [], _ :: _, h => by simp [sameShape] at h
  | a :: r, [], h => by cases a <;> simp [sameShape] at h
  | a :: r, b :: r', h => by
    cases a <;> cases b <;> simp [sameShape, Bool.and_eq_true] at h <;> simp only [slen, Seg.len, sameShape_len h.2] <;> omega

section
variable {P : Program}

/-- a block of the walk's own changes -/
theorem change_sound {E : Env} {ρ : Rho} {fr : Fr} {σ : Mem} {a : Act} {w w' : World} {n g : Nat} {b b' : Blk} (h : Rep E ρ fr σ a w) (hn : Mem.find σ n = some b) (hg : Out ρ n b g) (hw : ∀ k, k ≠ g → w'.heap[k]? = w.heap[k]?) (hsz : w'.heap.size = w.heap.size)
    (h1 : w'.os = w.os) (h2 : w'.tape = w.tape) (h3 : w'.output = w.output) (hb : BlkRep ρ w' n b') (ho : ∀ k, Out ρ n b' k → Out ρ n b k) (hf : ∀ k, Foot ρ n b' k → Foot ρ n b k) (hi : ∀ k, Inn ρ n b' k → Inn ρ n b k) :
    Rep E ρ fr (σ.put n b') a w' := by
  have un : ∀ {m c}, Mem.find (σ.put n b') m = some c → (m = n ∧ c = b') ∨ (m ≠ n ∧ Mem.find σ m = some c) := by
    intro m c hm
    rw [find_put] at hm
    split at hm
    · rename_i e; rw [hn] at hm; simp only [Option.map_some, Option.some.injEq] at hm; exact Or.inl ⟨e, hm.symm⟩
    · rename_i e; exact Or.inr ⟨e, hm⟩
  refine ⟨h.fr, h.df, fun m c hm => ?_, ⟨fun m q c d k hm hq hmq hO hF => ?_, fun m c k hm hO hI => ?_⟩, h.fix, fun m c k hm hO => ?_, ?_⟩
  · rcases un hm with ⟨e, e'⟩ | ⟨hne, hm'⟩
    · rw [e, e']; exact hb
    · exact (h.mem m c hm').keeps fun k hk => hw k fun e => by subst e; exact h.sep.1 n m b c k hn hm' (Ne.symm hne) hg hk
  · rcases un hm with ⟨e, e'⟩ | ⟨hne, hm'⟩
    · rw [e, e'] at hO
      rcases un hq with ⟨f, f'⟩ | ⟨hne', hq'⟩
      · exact hmq (e.trans f.symm)
      · exact h.sep.1 n q b d k hn hq' (fun f => hmq (e.trans f)) (ho k hO) hF
    · rcases un hq with ⟨f, f'⟩ | ⟨hne', hq'⟩
      · rw [f, f'] at hF
        exact h.sep.1 m n c b k hm' hn hne hO (hf k hF)
      · exact h.sep.1 m q c d k hm' hq' hmq hO hF
  · rcases un hm with ⟨e, e'⟩ | ⟨hne, hm'⟩
    · rw [e, e'] at hO hI
      exact h.sep.2 n b k hn (ho k hO) (hi k hI)
    · exact h.sep.2 m c k hm' hO hI
  · rcases un hm with ⟨e, e'⟩ | ⟨hne, hm'⟩
    · rw [e, e'] at hO
      exact h.own n b k hn (ho k hO)
    · exact h.own m c k hm' hO
  · refine ⟨h1.trans h.keep.os, h2.trans h.keep.tape, h3.trans h.keep.output, by rw [hsz]; exact h.keep.size, fun k hk hx => ?_⟩
    rw [← h.keep.block k hk hx]
    refine hw k fun e => ?_
    subst e
    rcases h.own n b k hn hg with q | q
    · omega
    · exact hx q

/-- a store into a block of the walk's own -/
theorem put_sound {E : Env} {ρ : Rho} {fr : Fr} {σ : Mem} {a : Act} {w : World} (h : Rep E ρ fr σ a w) {n off z : Nat} {T' : TypeId} {s s' : List Seg} {yl : List AC} {vs : List Value} (hn : Mem.find σ n = some (.own T' s)) (ho' : segsOk s') (hlen : slen s' = slen s) (hfit : off + z ≤ slen s)
    (hv : vs.length = z) (h1 : ∀ u ∈ vs, u.oneCell' = true) (hu : ∀ (j : Nat) b u, yl[j]? = some b → vs[j]? = some u → CRep ρ b u)
    (hl : ∀ (j : Nat), (flat s')[j]? = if off ≤ j ∧ j < off + z then yl[j - off]? else (flat s)[j]?) :
    ∃ w', (storeCells (at_ ρ n off) vs).run P w = .ok () w' ∧ w'.heap.size = w.heap.size ∧ Rep E ρ fr (σ.put n (.own T' s')) a w' ∧ ∀ k, k ≠ (ρ n).1 → w'.heap[k]? = w.heap[k]? := by
  obtain ⟨ho, hz, c, fz, hh, hf, hfz⟩ := h.mem n _ hn
  have hcl : c.length = slen s := by rw [← hf.1, flat_length ho]
  obtain ⟨w', cur', e1, e2, e3, e4, e5, e6, e7, e8, e9⟩ := store_cells P (g := (ρ n).1) (o := off) vs 0 c w hh hfz (by omega) h1
  have haddr : at_ ρ n off = ⟨(ρ n).1, off, none⟩ := by simp [at_, hz]
  have hrow : FRep ρ (flat s') cur' := by
    refine FRep.put (off := off) (z := z) (ys := yl) (us := vs) hf (by rw [flat_length ho', flat_length ho, hlen]) e8 hu hl (fun j => ?_)
    rw [e9 j]; simp [hv]
  exact ⟨w', by rw [haddr]; exact e1, e4, change_sound h hn (g := (ρ n).1) rfl e3 e4 e5 e6 e7 ⟨ho', hz, cur', fz, e2, hrow, fun j hj => hfz j (by omega)⟩ (fun k hk => hk) (fun k hk => hk) (fun k hk => hk), e3⟩

theorem storeVar_run {T : TypeId} {z : Nat} {v : Value} {A : Addr} {w w' : World} (hsz : sizeB P T = some z) (hv : v.cells.size = z) (h : (storeCells A v.cells.toList).run P w = .ok () w') : (storeVar T A v).run P w = .ok () w' := by
  simp [storeVar, run_sizeB hsz, hv, h]

theorem FRep.one {ρ : Rho} {l : List AC} {c : List Value} (h : FRep ρ l c) : ∀ u ∈ c, u.oneCell' = true := by
  intro u hu
  obtain ⟨j, hj⟩ := List.mem_iff_getElem?.1 hu
  have hlt : j < l.length := by rw [h.1]; exact (List.getElem?_eq_some_iff.1 hj).1
  exact (h.2 j l[j] u (List.getElem?_eq_getElem hlt) hj).one

theorem storex_sound {E : Env} {ρ : Rho} {fr : Fr} {σ : Mem} {a : Act} {w : World} {T : TypeId} {n base idx : Nat} {x : AV} {v : Value} {K : Mem → Prop} (h : storex P σ T n base idx x K) (hR : Rep E ρ fr σ a w) (hx : SRep ρ x v) :
    ∃ w' σ' bk, (storeVar T (at_ ρ n (base + idx)) v).run P w = .ok () w' ∧ w'.heap.size = w.heap.size ∧ Rep E ρ fr σ' a w' ∧ K σ' ∧ (∀ k, k ≠ (ρ n).1 → w'.heap[k]? = w.heap[k]?) ∧ (∀ m, m ≠ n → Mem.find σ' m = Mem.find σ m) ∧ Mem.find σ n = some bk ∧ Out ρ n bk (ρ n).1 := by
  unfold storex at h
  split at h <;> try exact h.elim
  rename_i T' s hn
  have ho : segsOk s := (hR.mem n _ hn).1
  split at h
  · rename_i z hag hsz
    split at h <;> try exact h.elim
    rename_i xs
    have hseg := AV.segs_sound (s := xs) rfl hx
    have hvl : v.cells.size = slen xs := by have := hseg.2.1; rw [flat_length hseg.1] at this; simpa using this.symm
    split at h
    · split at h <;> try exact h.elim
      split at h <;> try exact h.elim
      split at h <;> try exact h.elim
      rename_i hsame hz
      have hl := sameShape_len hsame
      obtain ⟨w', e1, e0, e2, e7⟩ := put_sound (P := P) hR (off := 0) (z := z) (s' := xs) (yl := flat xs) (vs := v.cells.toList) hn hseg.1 hl.symm (by omega) (by simp; omega) hseg.2.one (fun j b u h1 h2 => hseg.2.2 j b u h1 h2) (fun j => by
        by_cases hj : j < z
        · rw [if_pos (by omega)]; simp
        · rw [if_neg (by omega), List.getElem?_eq_none (by rw [flat_length hseg.1]; omega), List.getElem?_eq_none (by rw [flat_length ho]; omega)])
      exact ⟨w', _, _, storeVar_run hsz (by omega) e1, e0, e2, h, e7, fun m hm => by rw [find_put, if_neg hm], hn, rfl⟩
    · obtain ⟨s', hK, g1, g2, g3, g5, g4⟩ := storePart_sound h ho hseg.1
      have hzz : v.cells.size = z := by rw [hvl, ← flat_length hseg.1]; exact g5
      obtain ⟨w', e1, e0, e2, e7⟩ := put_sound (P := P) hR (vs := v.cells.toList) hn g1 g2 g3 (by simpa using hzz) hseg.2.one (fun j b u h1 h2 => hseg.2.2 j b u h1 h2) g4
      exact ⟨w', _, _, storeVar_run hsz hzz e1, e0, e2, hK, e7, fun m hm => by rw [find_put, if_neg hm], hn, rfl⟩
  · rename_i hag hsz
    split at h <;> try exact h.elim
    rename_i b
    have hseg := AV.segs_sound (s := [.cells [b]]) rfl hx
    obtain ⟨s', hK, g1, g2, g3, b', hb', g4⟩ := storeOne_sound h ho
    have hv1 : v.cells.size = 1 := by have := hseg.2.1; simpa [flat, Seg.flat] using this.symm
    obtain ⟨w', e1, e0, e2, e7⟩ := put_sound (P := P) hR (vs := v.cells.toList) (z := 1) (yl := [b']) hn g1 g2 (by omega) (by simpa using hv1) hseg.2.one (fun j c u h1 h2 => by
      cases j with
      | zero => simp at h1; subst h1; exact hb' _ _ (hseg.2.2 0 b u (by simp [flat, Seg.flat]) h2)
      | succ j => simp at h1) g4
    exact ⟨w', _, _, storeVar_run hsz hv1 e1, e0, e2, hK, e7, fun m hm => by rw [find_put, if_neg hm], hn, rfl⟩
  · exact h.elim

/-! ### stores into lists -/
theorem vec_store {E : Env} {ρ : Rho} {fr : Fr} {σ : Mem} {a : Act} {w : World} (h : Rep E ρ fr σ a w) {n q : Nat} {cs cs' : List Col} {vs : List Value} (hn : Mem.find σ n = some (.vec cs)) (hk : kdsOf cs' = kdsOf cs) (hok : ∀ col ∈ cs', col.ok (ρ n).len)
    (hr : ∀ (c : Nat) k ll, cs'[c]? = some (Col.rows k ll) → cs[c]? = some (Col.rows k ll)) (hfit : q + vs.length ≤ (ρ n).len * cwidth cs) (h1 : ∀ u ∈ vs, u.oneCell' = true)
    (hv : ∀ i, i < (ρ n).len → ∀ t, t < cwidth cs → some (rowVal (ρ n) cs' 0 i t) = if q ≤ i * cwidth cs + t ∧ i * cwidth cs + t < q + vs.length then vs[i * cwidth cs + t - q]? else some (rowVal (ρ n) cs 0 i t)) :
    ∃ w', (storeCells (at_ ρ n q) vs).run P w = .ok () w' ∧ w'.heap.size = w.heap.size ∧ Rep E ρ fr (σ.put n (.vec cs')) a w' ∧ ∀ k, k ≠ (ρ n).1 → w'.heap[k]? = w.heap[k]? := by
  obtain ⟨hV, hW⟩ := h.mem n _ hn
  have hwd : cwidth cs' = cwidth cs := by simp [cwidth, hk]
  have inn : ∀ k, Inner (ρ n) cs' k → Inner (ρ n) cs k := by
    rintro k ⟨c, kk, ll, i, l, A, g1, g2⟩
    exact ⟨c, kk, ll, i, l, A, hr c kk ll g1, g2⟩
  have hne : cs' ≠ [] := fun e => by rw [e] at hwd; have := hV.wid; rw [← hwd] at this; exact absurd this (by decide)
  by_cases hcap : (ρ n).cap = 0
  · -- nothing lies there
    have hlen : (ρ n).len = 0 := by have := hV.cap; omega
    have hvs : vs = [] := by rw [hlen] at hfit; cases vs <;> simp_all
    subst hvs
    refine ⟨w, by simp [storeCells], rfl, ?_, fun _ _ => rfl⟩
    have hB : BlkRep ρ w n (.vec cs') := ⟨⟨hne, by rw [hwd]; exact hV.wid, hok, hV.cap, hV.adr, fun i hi => by omega, fun c k ll hc i l hl => hV.inner c k ll (hr c k ll hc) i l hl⟩, fun q => absurd hcap q⟩
    have un : ∀ {m c}, Mem.find (σ.put n (.vec cs')) m = some c → (m = n ∧ c = .vec cs') ∨ (m ≠ n ∧ Mem.find σ m = some c) := by
      intro m c hm
      rw [find_put] at hm
      split at hm
      · rename_i e; rw [hn] at hm; simp only [Option.map_some, Option.some.injEq] at hm; exact Or.inl ⟨e, hm.symm⟩
      · rename_i e; exact Or.inr ⟨e, hm⟩
    have out : ∀ k, ¬ Out ρ n (.vec cs') k := fun k q => q.1 hcap
    have foot : ∀ k, Foot ρ n (.vec cs') k → Foot ρ n (.vec cs) k := fun k q => by
      rcases q with q | q
      · exact Or.inl q
      · exact Or.inr (inn k q)
    refine ⟨h.fr, h.df, fun m c hm => ?_, ⟨fun m q c d k hm hq hmq hO hF => ?_, fun m c k hm hO hI => ?_⟩, h.fix, fun m c k hm hO => ?_, h.keep⟩
    · rcases un hm with ⟨e, e'⟩ | ⟨_, hm'⟩
      · rw [e, e']; exact hB
      · exact h.mem m c hm'
    · rcases un hm with ⟨e, e'⟩ | ⟨_, hm'⟩
      · rw [e, e'] at hO; exact out k hO
      · rcases un hq with ⟨f, f'⟩ | ⟨_, hq'⟩
        · rw [f, f'] at hF; exact h.sep.1 m n c _ k hm' hn (fun g => hmq (g.trans f.symm)) hO (foot k hF)
        · exact h.sep.1 m q c d k hm' hq' hmq hO hF
    · rcases un hm with ⟨e, e'⟩ | ⟨_, hm'⟩
      · rw [e, e'] at hO; exact out k hO
      · exact h.sep.2 m c k hm' hO hI
    · rcases un hm with ⟨e, e'⟩ | ⟨_, hm'⟩
      · rw [e, e'] at hO; exact absurd hO (out k)
      · exact h.own m c k hm' hO
  · obtain ⟨ha, c, T, fz, hh, hsz, hfz⟩ := hW hcap
    have hle : (ρ n).len * cwidth cs ≤ (ρ n).cap * cwidth cs := Nat.mul_le_mul_right _ hV.cap
    obtain ⟨w', cur', e1, e2, e3, e4, e5, e6, e7, e8, e9⟩ := store_cells P (g := (ρ n).1) (o := (ρ n).2 + q) vs 0 c.toList w hh (by simpa using hfz) (by simp; omega) h1
    have hinn : ∀ k, Inner (ρ n) cs k → w'.heap[k]? = w.heap[k]? := fun k hk => e3 k fun e => h.sep.2 n _ (ρ n).1 hn ⟨hcap, rfl⟩ (by rw [← e]; exact hk)
    have inner' : ∀ (c : Nat) k ll, cs[c]? = some (Col.rows k ll) → ∀ (i : Nat) l, ll[i]? = some l → EltRep w' ((ρ n).el c i) k l := fun c k ll hc i l hl => by
      obtain ⟨q1, q2, q3, q4⟩ := hV.inner c k ll hc i l hl
      refine ⟨q1, q2, q3, fun j x hx A hA => ?_⟩
      have hb : (A.add j).block = A.block := by unfold Addr.add; split <;> rfl
      have := hinn A.block ⟨c, k, ll, i, l, A, hc, hl, fun e => by subst e; simp at hx, hA, rfl⟩
      exact (cell_same (a := A.add j) (by rw [hb]; exact this)).trans (q4 j x hx A hA)
    refine ⟨w', e1, e4, change_sound h hn (g := (ρ n).1) ⟨hcap, rfl⟩ e3 e4 e5 e6 e7 ⟨⟨hne, by rw [hwd]; exact hV.wid, hok, hV.cap, hV.adr, fun i hi t ht => ?_, fun c k ll hc => inner' c k ll (hr c k ll hc)⟩, fun _ => ⟨ha, cur'.toArray, T, fz, e2, by rw [hwd]; simp [e8]; omega, by simpa [e8] using hfz⟩⟩ (fun k q => q) (fun k q => ?_) inn, e3⟩
    · rw [hwd] at ht ⊢
      have hb : i * cwidth cs + t < (ρ n).len * cwidth cs := by
        have : (i + 1) * cwidth cs ≤ (ρ n).len * cwidth cs := Nat.mul_le_mul_right _ (by omega)
        rw [Nat.add_mul, Nat.one_mul] at this; omega
      have h9 := e9 ((ρ n).2 + (i * cwidth cs + t))
      have old := hV.cells i hi t ht
      simp only [World.cell?, Loc.at, hh, Option.isSome_none, Bool.false_eq_true, if_false] at old
      simp only [World.cell?, Loc.at, e2, Option.isSome_none, Bool.false_eq_true, if_false]
      rw [List.getElem?_toArray, h9, hv i hi t ht]
      by_cases hin : q ≤ i * cwidth cs + t ∧ i * cwidth cs + t < q + vs.length
      · rw [if_pos hin, if_pos (by omega)]
        congr 1; omega
      · rw [if_neg hin, if_neg (by omega)]
        simpa using old
    · rcases q with q | q
      · exact Or.inl q
      · exact Or.inr (inn k q)
end
end Go.Sx
