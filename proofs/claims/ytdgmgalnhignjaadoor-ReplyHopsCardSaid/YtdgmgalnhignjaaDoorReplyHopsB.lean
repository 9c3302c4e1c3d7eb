/- Own texts of this proof, laid one behind the other: Sx10, SxY, SxZ, SxE, SxF, SxG, SxH, SxI, Sx11, Sx12, Sx13, Sx14, Sx15, Sx16, SxN. -/
import Derived.Test.YtdgmgalnhignjaaDoorReplyHopsA
import Derived.Laws.MakeOwn
import Derived.Laws.IdiomStrings
import Derived.Laws.BytesArg

/- Stores. -/
namespace Go.Sx
open Go
set_option linter.unusedSimpArgs false
set_option linter.unusedVariables false

theorem heap_setCell_at {w : World} {g o : Nat} {cur : List Value} {t : TypeId} {fz : Nat × Nat} {v : Value} (hg : w.heap[g]? = some (.cells cur.toArray t fz)) :
    (w.setCell ⟨g, o, none⟩ v).heap[g]? = some (.cells (cur.set o v).toArray t fz) := by
  simp [World.setCell, Array.getElem?_modify, hg]

theorem store_cells (P : Program) {g o : Nat} {t : TypeId} {fz : Nat × Nat} : ∀ (vs : List Value) (i : Nat) (cur : List Value) (w : World), w.heap[g]? = some (.cells cur.toArray t fz) → (∀ j, j < cur.length → ¬ (fz.1 ≤ j ∧ j < fz.2)) →
    o + i + vs.length ≤ cur.length → (∀ v ∈ vs, v.oneCell' = true) → ∃ (w' : World) (cur' : List Value), (storeCells ⟨g, o, none⟩ vs i).run P w = .ok () w' ∧ w'.heap[g]? = some (.cells cur'.toArray t fz) ∧ (∀ k, k ≠ g → w'.heap[k]? = w.heap[k]?) ∧
      w'.heap.size = w.heap.size ∧ w'.os = w.os ∧ w'.tape = w.tape ∧ w'.output = w.output ∧ cur'.length = cur.length ∧ ∀ (j : Nat), cur'[j]? = if o + i ≤ j ∧ j < o + i + vs.length then vs[j - (o + i)]? else cur[j]?
  | [], i, cur, w, hg, _, _, _ => ⟨w, cur, by simp [storeCells], hg, fun _ _ => rfl, rfl, rfl, rfl, rfl, rfl, fun j => by simp; omega⟩
  | v :: vs, i, cur, w, hg, hfz, hle, h1 => by
    simp only [List.length_cons] at hle
    have hadd : (⟨g, o, none⟩ : Addr).add i = ⟨g, o + i, none⟩ := by unfold Addr.add; split <;> simp_all
    have hlt : o + i < cur.length := by omega
    have hcell : w.cell? ⟨g, o + i, none⟩ = some cur[o + i] := by simp [World.cell?, hg, hlt]
    have hfr : w.frozen? ⟨g, o + i, none⟩ = false := by
      have := hfz (o + i) hlt
      simp only [World.frozen?, hg]
      simpa using this
    have hst : (store (⟨g, o + i, none⟩ : Addr) v).run P w = .ok () (w.setCell ⟨g, o + i, none⟩ v) := by
      rw [run_store P w _ v .plain (h1 v (by simp)), hcell]; simp [hfr]
    obtain ⟨w', cur', e1, e2, e3, e4, e5, e6, e7, e8, e9⟩ := store_cells P (g := g) (o := o) vs (i + 1) (cur.set (o + i) v) (w.setCell ⟨g, o + i, none⟩ v) (heap_setCell_at hg) (by simpa using hfz) (by simp; omega) (fun u hu => h1 u (by simp [hu]))
    refine ⟨w', cur', by simp [storeCells, hadd, hst, e1], e2, fun k hk => ?_, ?_, e5, e6, e7, by simpa using e8, fun j => ?_⟩
    · rw [e3 k hk]
      simp only [World.setCell, Array.getElem?_modify]
      rw [if_neg (Ne.symm hk)]
    · rw [e4]; simp [World.setCell]
    · rw [e9 j]
      by_cases ha : o + (i + 1) ≤ j ∧ j < o + (i + 1) + vs.length
      · rw [if_pos ha, if_pos (by simp; omega)]
        have : j - (o + i) = (j - (o + (i + 1))) + 1 := by omega
        rw [this]; simp
      · rw [if_neg ha, List.getElem?_set]
        by_cases hb : o + i = j
        · subst hb
          rw [if_pos rfl, if_pos (by omega), if_pos (by simp)]; simp
        · rw [if_neg hb, if_neg (by simp; omega)]

theorem find_put : ∀ {σ : Mem} {n m : Nat} {b : Blk}, Mem.find (σ.put n b) m = if m = n then (Mem.find σ n).map (fun _ => b) else Mem.find σ m
  | [], n, m, b => by simp [Mem.put, Mem.find]
  | (k, x) :: r, n, m, b => by
    simp only [Mem.put]
    by_cases hk : k = n
    · subst hk
      rw [if_pos rfl]
      simp only [Mem.find]
      by_cases hm : m = k
      · subst hm; simp
      · rw [if_neg (Ne.symm hm), if_neg hm, if_neg (Ne.symm hm)]
    · rw [if_neg hk]
      simp only [Mem.find]
      by_cases hm : k = m
      · subst hm; rw [if_pos rfl, if_neg hk, if_pos rfl]
      · rw [if_neg hm, if_neg hm, if_neg hk]
        exact find_put

theorem sameShape_len : ∀ {s x : List Seg}, sameShape s x = true → slen s = slen x
  | [], [], _ => rfl
  | [], _ :: _, h => by simp [sameShape] at h
  | a :: r, [], h => by cases a <;> simp [sameShape] at h
  | a :: r, b :: r', h => by
    cases a <;> cases b <;> simp [sameShape, Bool.and_eq_true] at h <;> simp only [slen, Seg.len, sameShape_len h.2] <;> omega

section
variable {P : Program}

/-- a block of the walk's own changes -/
theorem change_sound {E : Env} {ρ : Rho} {fr : Fr} {σ : Mem} {a : Act} {w w' : World} {n g : Nat} {b b' : Blk} (h : Rep E ρ fr σ a w) (hn : Mem.find σ n = some b) (hg : Out ρ n b g) (hw : ∀ k, k ≠ g → w'.heap[k]? = w.heap[k]?) (hsz : w'.heap.size = w.heap.size)
    (h1 : w'.os = w.os) (h2 : w'.tape = w.tape) (h3 : w'.output = w.output) (hb : BlkRep ρ w' n b') (ho : ∀ k, Out ρ n b' k → Out ρ n b k) (hf : ∀ k, Foot ρ n b' k → Foot ρ n b k) (hi : ∀ k, Inn ρ n b' k → Inn ρ n b k) :
    Rep E ρ fr (σ.put n b') a w' := by
  have un : ∀ {m c}, Mem.find (σ.put n b') m = some c → (m = n ∧ c = b') ∨ (m ≠ n ∧ Mem.find σ m = some c) := by
    intro m c hm
    rw [find_put] at hm
    split at hm
    · rename_i e; rw [hn] at hm; simp only [Option.map_some, Option.some.injEq] at hm; exact Or.inl ⟨e, hm.symm⟩
    · rename_i e; exact Or.inr ⟨e, hm⟩
  refine ⟨h.fr, h.df, fun m c hm => ?_, ⟨fun m q c d k hm hq hmq hO hF => ?_, fun m c k hm hO hI => ?_⟩, h.fix, fun m c k hm hO => ?_, ?_⟩
  · rcases un hm with ⟨e, e'⟩ | ⟨hne, hm'⟩
    · rw [e, e']; exact hb
    · exact (h.mem m c hm').keeps fun k hk => hw k fun e => by subst e; exact h.sep.1 n m b c k hn hm' (Ne.symm hne) hg hk
  · rcases un hm with ⟨e, e'⟩ | ⟨hne, hm'⟩
    · rw [e, e'] at hO
      rcases un hq with ⟨f, f'⟩ | ⟨hne', hq'⟩
      · exact hmq (e.trans f.symm)
      · exact h.sep.1 n q b d k hn hq' (fun f => hmq (e.trans f)) (ho k hO) hF
    · rcases un hq with ⟨f, f'⟩ | ⟨hne', hq'⟩
      · rw [f, f'] at hF
        exact h.sep.1 m n c b k hm' hn hne hO (hf k hF)
      · exact h.sep.1 m q c d k hm' hq' hmq hO hF
  · rcases un hm with ⟨e, e'⟩ | ⟨hne, hm'⟩
    · rw [e, e'] at hO hI
      exact h.sep.2 n b k hn (ho k hO) (hi k hI)
    · exact h.sep.2 m c k hm' hO hI
  · rcases un hm with ⟨e, e'⟩ | ⟨hne, hm'⟩
    · rw [e, e'] at hO
      exact h.own n b k hn (ho k hO)
    · exact h.own m c k hm' hO
  · refine ⟨h1.trans h.keep.os, h2.trans h.keep.tape, h3.trans h.keep.output, by rw [hsz]; exact h.keep.size, fun k hk hx => ?_⟩
    rw [← h.keep.block k hk hx]
    refine hw k fun e => ?_
    subst e
    rcases h.own n b k hn hg with q | q
    · omega
    · exact hx q

/-- a store into a block of the walk's own -/
theorem put_sound {E : Env} {ρ : Rho} {fr : Fr} {σ : Mem} {a : Act} {w : World} (h : Rep E ρ fr σ a w) {n off z : Nat} {T' : TypeId} {s s' : List Seg} {yl : List AC} {vs : List Value} (hn : Mem.find σ n = some (.own T' s)) (ho' : segsOk s') (hlen : slen s' = slen s) (hfit : off + z ≤ slen s)
    (hv : vs.length = z) (h1 : ∀ u ∈ vs, u.oneCell' = true) (hu : ∀ (j : Nat) b u, yl[j]? = some b → vs[j]? = some u → CRep ρ b u)
    (hl : ∀ (j : Nat), (flat s')[j]? = if off ≤ j ∧ j < off + z then yl[j - off]? else (flat s)[j]?) :
    ∃ w', (storeCells (at_ ρ n off) vs).run P w = .ok () w' ∧ w'.heap.size = w.heap.size ∧ Rep E ρ fr (σ.put n (.own T' s')) a w' ∧ ∀ k, k ≠ (ρ n).1 → w'.heap[k]? = w.heap[k]? := by
  obtain ⟨ho, hz, c, fz, hh, hf, hfz⟩ := h.mem n _ hn
  have hcl : c.length = slen s := by rw [← hf.1, flat_length ho]
  obtain ⟨w', cur', e1, e2, e3, e4, e5, e6, e7, e8, e9⟩ := store_cells P (g := (ρ n).1) (o := off) vs 0 c w hh hfz (by omega) h1
  have haddr : at_ ρ n off = ⟨(ρ n).1, off, none⟩ := by simp [at_, hz]
  have hrow : FRep ρ (flat s') cur' := by
    refine FRep.put (off := off) (z := z) (ys := yl) (us := vs) hf (by rw [flat_length ho', flat_length ho, hlen]) e8 hu hl (fun j => ?_)
    rw [e9 j]; simp [hv]
  exact ⟨w', by rw [haddr]; exact e1, e4, change_sound h hn (g := (ρ n).1) rfl e3 e4 e5 e6 e7 ⟨ho', hz, cur', fz, e2, hrow, fun j hj => hfz j (by omega)⟩ (fun k hk => hk) (fun k hk => hk) (fun k hk => hk), e3⟩

theorem storeVar_run {T : TypeId} {z : Nat} {v : Value} {A : Addr} {w w' : World} (hsz : sizeB P T = some z) (hv : v.cells.size = z) (h : (storeCells A v.cells.toList).run P w = .ok () w') : (storeVar T A v).run P w = .ok () w' := by
  simp [storeVar, run_sizeB hsz, hv, h]

theorem FRep.one {ρ : Rho} {l : List AC} {c : List Value} (h : FRep ρ l c) : ∀ u ∈ c, u.oneCell' = true := by
  intro u hu
  obtain ⟨j, hj⟩ := List.mem_iff_getElem?.1 hu
  have hlt : j < l.length := by rw [h.1]; exact (List.getElem?_eq_some_iff.1 hj).1
  exact (h.2 j l[j] u (List.getElem?_eq_getElem hlt) hj).one

theorem storex_sound {E : Env} {ρ : Rho} {fr : Fr} {σ : Mem} {a : Act} {w : World} {T : TypeId} {n base idx : Nat} {x : AV} {v : Value} {K : Mem → Prop} (h : storex P σ T n base idx x K) (hR : Rep E ρ fr σ a w) (hx : SRep ρ x v) :
    ∃ w' σ' bk, (storeVar T (at_ ρ n (base + idx)) v).run P w = .ok () w' ∧ w'.heap.size = w.heap.size ∧ Rep E ρ fr σ' a w' ∧ K σ' ∧ (∀ k, k ≠ (ρ n).1 → w'.heap[k]? = w.heap[k]?) ∧ (∀ m, m ≠ n → Mem.find σ' m = Mem.find σ m) ∧ Mem.find σ n = some bk ∧ Out ρ n bk (ρ n).1 := by
  unfold storex at h
  split at h <;> try exact h.elim
  rename_i T' s hn
  have ho : segsOk s := (hR.mem n _ hn).1
  split at h
  · rename_i z hag hsz
    split at h <;> try exact h.elim
    rename_i xs
    have hseg := AV.segs_sound (s := xs) rfl hx
    have hvl : v.cells.size = slen xs := by have := hseg.2.1; rw [flat_length hseg.1] at this; simpa using this.symm
    split at h
    · split at h <;> try exact h.elim
      split at h <;> try exact h.elim
      split at h <;> try exact h.elim
      rename_i hsame hz
      have hl := sameShape_len hsame
      obtain ⟨w', e1, e0, e2, e7⟩ := put_sound (P := P) hR (off := 0) (z := z) (s' := xs) (yl := flat xs) (vs := v.cells.toList) hn hseg.1 hl.symm (by omega) (by simp; omega) hseg.2.one (fun j b u h1 h2 => hseg.2.2 j b u h1 h2) (fun j => by
        by_cases hj : j < z
        · rw [if_pos (by omega)]; simp
        · rw [if_neg (by omega), List.getElem?_eq_none (by rw [flat_length hseg.1]; omega), List.getElem?_eq_none (by rw [flat_length ho]; omega)])
      exact ⟨w', _, _, storeVar_run hsz (by omega) e1, e0, e2, h, e7, fun m hm => by rw [find_put, if_neg hm], hn, rfl⟩
    · obtain ⟨s', hK, g1, g2, g3, g5, g4⟩ := storePart_sound h ho hseg.1
      have hzz : v.cells.size = z := by rw [hvl, ← flat_length hseg.1]; exact g5
      obtain ⟨w', e1, e0, e2, e7⟩ := put_sound (P := P) hR (vs := v.cells.toList) hn g1 g2 g3 (by simpa using hzz) hseg.2.one (fun j b u h1 h2 => hseg.2.2 j b u h1 h2) g4
      exact ⟨w', _, _, storeVar_run hsz hzz e1, e0, e2, hK, e7, fun m hm => by rw [find_put, if_neg hm], hn, rfl⟩
  · rename_i hag hsz
    split at h <;> try exact h.elim
    rename_i b
    have hseg := AV.segs_sound (s := [.cells [b]]) rfl hx
    obtain ⟨s', hK, g1, g2, g3, b', hb', g4⟩ := storeOne_sound h ho
    have hv1 : v.cells.size = 1 := by have := hseg.2.1; simpa [flat, Seg.flat] using this.symm
    obtain ⟨w', e1, e0, e2, e7⟩ := put_sound (P := P) hR (vs := v.cells.toList) (z := 1) (yl := [b']) hn g1 g2 (by omega) (by simpa using hv1) hseg.2.one (fun j c u h1 h2 => by
      cases j with
      | zero => simp at h1; subst h1; exact hb' _ _ (hseg.2.2 0 b u (by simp [flat, Seg.flat]) h2)
      | succ j => simp at h1) g4
    exact ⟨w', _, _, storeVar_run hsz hv1 e1, e0, e2, hK, e7, fun m hm => by rw [find_put, if_neg hm], hn, rfl⟩
  · exact h.elim

/-! ### stores into lists -/
theorem vec_store {E : Env} {ρ : Rho} {fr : Fr} {σ : Mem} {a : Act} {w : World} (h : Rep E ρ fr σ a w) {n q : Nat} {cs cs' : List Col} {vs : List Value} (hn : Mem.find σ n = some (.vec cs)) (hk : kdsOf cs' = kdsOf cs) (hok : ∀ col ∈ cs', col.ok (ρ n).len)
    (hr : ∀ (c : Nat) k ll, cs'[c]? = some (Col.rows k ll) → cs[c]? = some (Col.rows k ll)) (hfit : q + vs.length ≤ (ρ n).len * cwidth cs) (h1 : ∀ u ∈ vs, u.oneCell' = true)
    (hv : ∀ i, i < (ρ n).len → ∀ t, t < cwidth cs → some (rowVal (ρ n) cs' 0 i t) = if q ≤ i * cwidth cs + t ∧ i * cwidth cs + t < q + vs.length then vs[i * cwidth cs + t - q]? else some (rowVal (ρ n) cs 0 i t)) :
    ∃ w', (storeCells (at_ ρ n q) vs).run P w = .ok () w' ∧ w'.heap.size = w.heap.size ∧ Rep E ρ fr (σ.put n (.vec cs')) a w' ∧ ∀ k, k ≠ (ρ n).1 → w'.heap[k]? = w.heap[k]? := by
  obtain ⟨hV, hW⟩ := h.mem n _ hn
  have hwd : cwidth cs' = cwidth cs := by simp [cwidth, hk]
  have inn : ∀ k, Inner (ρ n) cs' k → Inner (ρ n) cs k := by
    rintro k ⟨c, kk, ll, i, l, A, g1, g2⟩
    exact ⟨c, kk, ll, i, l, A, hr c kk ll g1, g2⟩
  have hne : cs' ≠ [] := fun e => by rw [e] at hwd; have := hV.wid; rw [← hwd] at this; exact absurd this (by decide)
  by_cases hcap : (ρ n).cap = 0
  · -- nothing lies there
    have hlen : (ρ n).len = 0 := by have := hV.cap; omega
    have hvs : vs = [] := by rw [hlen] at hfit; cases vs <;> simp_all
    subst hvs
    refine ⟨w, by simp [storeCells], rfl, ?_, fun _ _ => rfl⟩
    have hB : BlkRep ρ w n (.vec cs') := ⟨⟨hne, by rw [hwd]; exact hV.wid, hok, hV.cap, hV.adr, fun i hi => by omega, fun c k ll hc i l hl => hV.inner c k ll (hr c k ll hc) i l hl⟩, fun q => absurd hcap q⟩
    have un : ∀ {m c}, Mem.find (σ.put n (.vec cs')) m = some c → (m = n ∧ c = .vec cs') ∨ (m ≠ n ∧ Mem.find σ m = some c) := by
      intro m c hm
      rw [find_put] at hm
      split at hm
      · rename_i e; rw [hn] at hm; simp only [Option.map_some, Option.some.injEq] at hm; exact Or.inl ⟨e, hm.symm⟩
      · rename_i e; exact Or.inr ⟨e, hm⟩
    have out : ∀ k, ¬ Out ρ n (.vec cs') k := fun k q => q.1 hcap
    have foot : ∀ k, Foot ρ n (.vec cs') k → Foot ρ n (.vec cs) k := fun k q => by
      rcases q with q | q
      · exact Or.inl q
      · exact Or.inr (inn k q)
    refine ⟨h.fr, h.df, fun m c hm => ?_, ⟨fun m q c d k hm hq hmq hO hF => ?_, fun m c k hm hO hI => ?_⟩, h.fix, fun m c k hm hO => ?_, h.keep⟩
    · rcases un hm with ⟨e, e'⟩ | ⟨_, hm'⟩
      · rw [e, e']; exact hB
      · exact h.mem m c hm'
    · rcases un hm with ⟨e, e'⟩ | ⟨_, hm'⟩
      · rw [e, e'] at hO; exact out k hO
      · rcases un hq with ⟨f, f'⟩ | ⟨_, hq'⟩
        · rw [f, f'] at hF; exact h.sep.1 m n c _ k hm' hn (fun g => hmq (g.trans f.symm)) hO (foot k hF)
        · exact h.sep.1 m q c d k hm' hq' hmq hO hF
    · rcases un hm with ⟨e, e'⟩ | ⟨_, hm'⟩
      · rw [e, e'] at hO; exact out k hO
      · exact h.sep.2 m c k hm' hO hI
    · rcases un hm with ⟨e, e'⟩ | ⟨_, hm'⟩
      · rw [e, e'] at hO; exact absurd hO (out k)
      · exact h.own m c k hm' hO
  · obtain ⟨ha, c, T, fz, hh, hsz, hfz⟩ := hW hcap
    have hle : (ρ n).len * cwidth cs ≤ (ρ n).cap * cwidth cs := Nat.mul_le_mul_right _ hV.cap
    obtain ⟨w', cur', e1, e2, e3, e4, e5, e6, e7, e8, e9⟩ := store_cells P (g := (ρ n).1) (o := (ρ n).2 + q) vs 0 c.toList w hh (by simpa using hfz) (by simp; omega) h1
    have hinn : ∀ k, Inner (ρ n) cs k → w'.heap[k]? = w.heap[k]? := fun k hk => e3 k fun e => h.sep.2 n _ (ρ n).1 hn ⟨hcap, rfl⟩ (by rw [← e]; exact hk)
    have inner' : ∀ (c : Nat) k ll, cs[c]? = some (Col.rows k ll) → ∀ (i : Nat) l, ll[i]? = some l → EltRep w' ((ρ n).el c i) k l := fun c k ll hc i l hl => by
      obtain ⟨q1, q2, q3, q4⟩ := hV.inner c k ll hc i l hl
      refine ⟨q1, q2, q3, fun j x hx A hA => ?_⟩
      have hb : (A.add j).block = A.block := by unfold Addr.add; split <;> rfl
      have := hinn A.block ⟨c, k, ll, i, l, A, hc, hl, fun e => by subst e; simp at hx, hA, rfl⟩
      exact (cell_same (a := A.add j) (by rw [hb]; exact this)).trans (q4 j x hx A hA)
    refine ⟨w', e1, e4, change_sound h hn (g := (ρ n).1) ⟨hcap, rfl⟩ e3 e4 e5 e6 e7 ⟨⟨hne, by rw [hwd]; exact hV.wid, hok, hV.cap, hV.adr, fun i hi t ht => ?_, fun c k ll hc => inner' c k ll (hr c k ll hc)⟩, fun _ => ⟨ha, cur'.toArray, T, fz, e2, by rw [hwd]; simp [e8]; omega, by simpa [e8] using hfz⟩⟩ (fun k q => q) (fun k q => ?_) inn, e3⟩
    · rw [hwd] at ht ⊢
      have hb : i * cwidth cs + t < (ρ n).len * cwidth cs := by
        have : (i + 1) * cwidth cs ≤ (ρ n).len * cwidth cs := Nat.mul_le_mul_right _ (by omega)
        rw [Nat.add_mul, Nat.one_mul] at this; omega
      have h9 := e9 ((ρ n).2 + (i * cwidth cs + t))
      have old := hV.cells i hi t ht
      simp only [World.cell?, Loc.at, hh, Option.isSome_none, Bool.false_eq_true, if_false] at old
      simp only [World.cell?, Loc.at, e2, Option.isSome_none, Bool.false_eq_true, if_false]
      rw [List.getElem?_toArray, h9, hv i hi t ht]
      by_cases hin : q ≤ i * cwidth cs + t ∧ i * cwidth cs + t < q + vs.length
      · rw [if_pos hin, if_pos (by omega)]
        congr 1; omega
      · rw [if_neg hin, if_neg (by omega)]
        simpa using old
    · rcases q with q | q
      · exact Or.inl q
      · exact Or.inr (inn k q)
end
end Go.Sx

/- Stores into lists of records, and copy. -/
namespace Go.Sx
open Go
set_option linter.unusedSimpArgs false
set_option linter.unusedVariables false

theorem flat_rng {z i i' t b m : Nat} (ht : t < z) (hb : b + m ≤ z) : (i * z + b ≤ i' * z + t ∧ i' * z + t < i * z + b + m) ↔ (i' = i ∧ b ≤ t ∧ t < b + m) := by
  rcases Nat.lt_trichotomy i' i with h | h | h
  · have : (i' + 1) * z ≤ i * z := Nat.mul_le_mul_right _ h
    rw [Nat.add_mul, Nat.one_mul] at this
    constructor
    · intro q; omega
    · intro q; omega
  · subst h; constructor
    · intro q; omega
    · intro q; omega
  · have : (i + 1) * z ≤ i' * z := Nat.mul_le_mul_right _ h
    rw [Nat.add_mul, Nat.one_mul] at this
    constructor
    · intro q; omega
    · intro q; omega

theorem rowVal_set {L : Loc} {col' : Col} : ∀ {cs : List Col} {b c0 c : Nat} {col : Col}, colAt cs b c0 = some (c, col) → col'.kd = col.kd → ∀ i t,
    rowVal L (setCol cs (c - c0) col') c0 i t = if b ≤ t ∧ t < b + col.kd.width then colVal L c col' i (t - b) else rowVal L cs c0 i t
  | [], _, _, _, _, h, _ => by simp [colAt] at h
  | x :: r, 0, c0, c, col, h, hk => fun i t => by
    simp only [colAt, Option.some.injEq, Prod.mk.injEq] at h
    obtain ⟨rfl, rfl⟩ := h
    simp only [Nat.sub_self, setCol, rowVal, hk, Nat.zero_le, true_and, Nat.zero_add, Nat.sub_zero]
    split <;> rfl
  | x :: r, b + 1, c0, c, col, h, hk => fun i t => by
    simp only [colAt] at h
    split at h
    · rename_i hle
      have hle' : x.kd.width ≤ b + 1 := Nat.le_of_ble_eq_true hle
      have h1 := (colAt_sound (L := L) h).1
      have ih := rowVal_set (L := L) (col' := col') h hk i (t - x.kd.width)
      obtain ⟨d, hd⟩ : ∃ d, c - c0 = d + 1 := ⟨c - (c0 + 1), by omega⟩
      rw [hd]
      simp only [setCol, rowVal]
      rw [show d = c - (c0 + 1) by omega, ih]
      by_cases ht : t < x.kd.width
      · rw [if_pos ht, if_pos ht, if_neg (by omega)]
      · rw [if_neg ht, if_neg ht]
        by_cases hq : b + 1 ≤ t ∧ t < b + 1 + col.kd.width
        · rw [if_pos hq, if_pos (by omega)]
          congr 1; omega
        · rw [if_neg hq, if_neg (by omega)]
    · cases h

theorem setCol_kds : ∀ {cs : List Col} {c : Nat} {col col' : Col}, cs[c]? = some col → col'.kd = col.kd → kdsOf (setCol cs c col') = kdsOf cs
  | [], c, _, _, h, _ => by simp at h
  | x :: r, 0, col, col', h, hk => by simp at h; subst h; simp [setCol, kdsOf, hk]
  | x :: r, c + 1, col, col', h, hk => by
    have := setCol_kds (cs := r) (c := c) (by simpa using h) hk
    simp only [setCol, kdsOf, List.map_cons] at this ⊢
    rw [this]

theorem setCol_get : ∀ {cs : List Col} {c : Nat} {col' : Col} (j : Nat), c < cs.length → (setCol cs c col')[j]? = if j = c then some col' else cs[j]?
  | [], c, _, j, h => by simp at h
  | x :: r, 0, col', j, _ => by cases j <;> simp [setCol]
  | x :: r, c + 1, col', 0, _ => by simp [setCol]
  | x :: r, c + 1, col', j + 1, h => by
    simp only [setCol, List.getElem?_cons_succ]
    rw [setCol_get j (by simpa using h)]
    simp

theorem setCol_mem {cs : List Col} {c : Nat} {col' x : Col} (hc : c < cs.length) (h : x ∈ setCol cs c col') : x = col' ∨ x ∈ cs := by
  obtain ⟨j, hj⟩ := List.mem_iff_getElem?.1 h
  rw [setCol_get j hc] at hj
  split at hj
  · cases hj; exact Or.inl rfl
  · exact Or.inr (List.mem_of_getElem? hj)

section
variable {P : Program} {E : Env} {ρ : Rho} {fr : Fr} {σ : Mem} {a : Act} {w : World}

/-- a store into one column of one record -/
theorem col_store (h : Rep E ρ fr σ a w) {n b c i j0 : Nat} {cs : List Col} {col col' : Col} {vs : List Value} (hn : Mem.find σ n = some (.vec cs)) (hc : colAt cs b 0 = some (c, col)) (hkd : col'.kd = col.kd) (hok : col'.ok (ρ n).len) (hrow : ∀ k ll, col' ≠ .rows k ll) (hi : i < (ρ n).len)
    (hm : j0 + vs.length ≤ col.kd.width) (h1 : ∀ u ∈ vs, u.oneCell' = true) (hv : ∀ i' t, t < col.kd.width → some (colVal (ρ n) c col' i' t) = if i' = i ∧ j0 ≤ t ∧ t < j0 + vs.length then vs[t - j0]? else some (colVal (ρ n) c col i' t)) :
    ∃ w', (storeCells (at_ ρ n (i * cwidth cs + b + j0)) vs).run P w = .ok () w' ∧ w'.heap.size = w.heap.size ∧ Rep E ρ fr (σ.put n (.vec (setCol cs c col'))) a w' ∧ ∀ k, k ≠ (ρ n).1 → w'.heap[k]? = w.heap[k]? := by
  obtain ⟨_, q2, q3, q4⟩ := colAt_sound (L := ρ n) hc
  have q2 : cs[c]? = some col := by simpa using q2
  have hlt : c < cs.length := (List.getElem?_eq_some_iff.1 q2).1
  have hV := (h.mem n _ hn).1
  have hfit : i * cwidth cs + b + j0 + vs.length ≤ (ρ n).len * cwidth cs := by
    have : (i + 1) * cwidth cs ≤ (ρ n).len * cwidth cs := Nat.mul_le_mul_right _ hi
    rw [Nat.add_mul, Nat.one_mul] at this; omega
  refine vec_store h hn (setCol_kds q2 hkd) (fun x hx => ?_) (fun c' k ll hcc => ?_) hfit h1 (fun i' hi' t ht => ?_)
  · rcases setCol_mem hlt hx with rfl | hx
    · exact hok
    · exact hV.ok x hx
  · rw [setCol_get c' hlt] at hcc
    split at hcc
    · cases hcc; exact absurd rfl (hrow k ll)
    · exact hcc
  · have hs := rowVal_set (L := ρ n) (col' := col') hc hkd i' t
    rw [Nat.sub_zero] at hs
    rw [hs]
    have hr := flat_rng (z := cwidth cs) (i := i) (i' := i') (t := t) (b := b + j0) (m := vs.length) ht (by omega)
    rw [← Nat.add_assoc] at hr
    by_cases hb : b ≤ t ∧ t < b + col.kd.width
    · rw [if_pos hb, hv i' (t - b) (by omega)]
      by_cases hin : i' = i ∧ b + j0 ≤ t ∧ t < b + j0 + vs.length
      · rw [if_pos (hr.2 hin), if_pos (by omega)]
        obtain ⟨rfl, _⟩ := hin
        congr 1; omega
      · rw [if_neg (fun q => hin (hr.1 q)), if_neg (by omega)]
        have := q4 i' (t - b) (by omega)
        rw [show b + (t - b) = t by omega] at this
        rw [this]
    · rw [if_neg hb, if_neg (fun q => by have := hr.1 q; omega)]

theorem lset_get (l : List Int) (i i' : Nat) (v : Int) (hi : i < l.length) : lget (lset l i v) i' = if i' = i then v else lget l i' := by
  simp only [lget, lset, List.getD, List.getElem?_set]
  by_cases h : i = i'
  · subst h; simp [hi]
  · simp [h, Ne.symm h]
theorem lsetb_get (l : List Bool) (i i' : Nat) (v : Bool) (hi : i < l.length) : lgetb (lsetb l i v) i' = if i' = i then v else lgetb l i' := by
  simp only [lgetb, lsetb, List.getD, List.getElem?_set]
  by_cases h : i = i'
  · subst h; simp [hi]
  · simp [h, Ne.symm h]
theorem llset_get (l : List (List Int)) (i i' : Nat) (v : List Int) (hi : i < l.length) : llget (llset l i v) i' = if i' = i then v else llget l i' := by
  simp only [llget, llset, List.getD, List.getElem?_set]
  by_cases h : i = i'
  · subst h; simp [hi]
  · simp [h, Ne.symm h]

theorem storeV_sound {T : TypeId} {n z i b j : Nat} {x : AV} {v v1 : Value} {K : Mem → Prop} (h : storeV P σ T n z i b j x K) (hR : Rep E ρ fr σ a w) (hx : SRep ρ x v) (hp : SRep ρ (.one (.vptr n z i b j)) v1) :
    ∃ A w' σ' bk, v1 = .pointer (some A) ∧ (storeVar T A v).run P w = .ok () w' ∧ w'.heap.size = w.heap.size ∧ Rep E ρ fr σ' a w' ∧ K σ' ∧ (∀ k, k ≠ (ρ n).1 → w'.heap[k]? = w.heap[k]?) ∧ (∀ m, m ≠ n → Mem.find σ' m = Mem.find σ m) ∧ Mem.find σ n = some bk ∧ Out ρ n bk (ρ n).1 := by
  obtain ⟨rfl, hi⟩ := hp
  unfold storeV at h
  split at h <;> try exact h.elim
  rename_i cs hn
  split at h <;> try exact h.elim
  rename_i hz
  have hz' : z = cwidth cs := beq_nat hz
  subst hz'
  have hV := (hR.mem n _ hn).1
  have hcap : (ρ n).cap ≠ 0 := by have := hV.cap; omega
  have hO : Out ρ n (.vec cs) (ρ n).1 := ⟨hcap, rfl⟩
  have okc : ∀ {c : Nat} {col : Col}, colAt cs b 0 = some (c, col) → col.ok (ρ n).len := fun {c col} hc => hV.ok _ (List.mem_of_getElem? (by have := (colAt_sound (L := ρ n) hc).2.1; simpa using this))
  have fin : ∀ {c : Nat} {col col' : Col} {vs : List Value} {s : Nat} {j0 : Nat}, sizeB P T = some s → v.cells.size = s → vs = v.cells.toList → colAt cs b 0 = some (c, col) → col'.kd = col.kd → col'.ok (ρ n).len → (∀ k ll, col' ≠ .rows k ll) → j0 = j → j0 + vs.length ≤ col.kd.width →
      (∀ u ∈ vs, u.oneCell' = true) → (∀ i' t, t < col.kd.width → some (colVal (ρ n) c col' i' t) = if i' = i ∧ j0 ≤ t ∧ t < j0 + vs.length then vs[t - j0]? else some (colVal (ρ n) c col i' t)) → K (σ.put n (.vec (setCol cs c col'))) →
      ∃ A w' σ' bk, Value.pointer (some (at_ ρ n (i * cwidth cs + b + j))) = .pointer (some A) ∧ (storeVar T A v).run P w = .ok () w' ∧ w'.heap.size = w.heap.size ∧ Rep E ρ fr σ' a w' ∧ K σ' ∧ (∀ k, k ≠ (ρ n).1 → w'.heap[k]? = w.heap[k]?) ∧ (∀ m, m ≠ n → Mem.find σ' m = Mem.find σ m) ∧ Mem.find σ n = some bk ∧ Out ρ n bk (ρ n).1 := fun {c col col' vs s j0} hsz hvs hvs' hc hkd hok hrow hj hm h1 hv hK => by
    subst hvs' hj
    obtain ⟨w', e1, e2, e3, e4⟩ := col_store (P := P) hR hn hc hkd hok hrow hi hm h1 hv
    exact ⟨_, w', _, _, rfl, storeVar_run hsz hvs e1, e2, e3, hK, e4, fun m hm => by rw [find_put, if_neg hm], hn, hO⟩
  split at h
  · rename_i hag hsz
    split at h
    · rename_i c k l k' v' hc
      cases (show v = _ from hx)
      split at h <;> try exact h.elim
      split at h <;> try exact h.elim
      rename_i hk
      subst hk
      have hl : l.length = (ρ n).len := okc hc
      refine fin (col' := .ints k (lset l i v')) (vs := [.int k v']) (j0 := 0) hsz rfl rfl hc rfl (by simp [Col.ok, lset, hl]) (by simp) rfl (by show 0 + 1 ≤ 1; omega) (by simp [Value.oneCell']) (fun i' t ht => ?_) h
      have ht : t = 0 := by have : t < 1 := ht; omega
      subst ht
      simp only [colVal, lset_get _ _ _ _ (show i < l.length by omega)]
      by_cases hii : i' = i <;> simp [hii]
    · rename_i c l v' hc
      cases (show v = _ from hx)
      split at h <;> try exact h.elim
      have hl : l.length = (ρ n).len := okc hc
      refine fin (col' := .bools (lsetb l i v')) (vs := [.bool v']) (j0 := 0) hsz rfl rfl hc rfl (by simp [Col.ok, lsetb, hl]) (by simp) rfl (by show 0 + 1 ≤ 1; omega) (by simp [Value.oneCell']) (fun i' t ht => ?_) h
      have ht : t = 0 := by have : t < 1 := ht; omega
      subst ht
      simp only [colVal, lsetb_get _ _ _ _ (show i < l.length by omega)]
      by_cases hii : i' = i <;> simp [hii]
    · rename_i c l v' hc
      cases (show v = _ from hx)
      split at h <;> try exact h.elim
      have hl : l.length = (ρ n).len := okc hc
      refine fin (col' := .bools (lsetb l i v')) (vs := [.bool v']) (j0 := 0) hsz rfl rfl hc rfl (by simp [Col.ok, lsetb, hl]) (by simp) rfl (by show 0 + 1 ≤ 1; omega) (by simp [Value.oneCell']) (fun i' t ht => ?_) h
      have ht : t = 0 := by have : t < 1 := ht; omega
      subst ht
      simp only [colVal, lsetb_get _ _ _ _ (show i < l.length by omega)]
      by_cases hii : i' = i <;> simp [hii]
    · rename_i c k m l k' v' hc
      cases (show v = _ from hx)
      split at h <;> try exact h.elim
      rename_i hk
      subst hk
      obtain ⟨hj, h⟩ := h
      have hj := hj.lt
      obtain ⟨hl, hall⟩ := okc hc
      have hli : (llget l i).length = m := hall _ (List.mem_of_getElem? (llget_some (by omega)))
      refine fin (col' := .arrs k m (llset l i (lset (llget l i) j v'))) (vs := [.int k v']) (j0 := j) hsz rfl rfl hc rfl ⟨by simp [llset, hl], fun x hx => ?_⟩ (by simp) rfl (by show j + 1 ≤ m; omega) (by simp [Value.oneCell']) (fun i' t ht => ?_) h
      · simp only [llset] at hx
        rcases List.mem_or_eq_of_mem_set hx with hx | rfl
        · exact hall x hx
        · simp [lset, hli]
      · simp only [colVal, llset_get _ _ _ _ (show i < l.length by omega)]
        by_cases hii : i' = i
        · subst hii
          rw [if_pos rfl, lset_get _ _ _ _ (by omega)]
          by_cases htj : t = j
          · subst htj; simp
          · rw [if_neg htj, if_neg (by simp; omega)]
        · rw [if_neg hii, if_neg (by simp [hii])]
    · exact h.elim
  · rename_i s hag hsz
    split at h <;> try exact h.elim
    rename_i c k m l k' m' v' hc
    split at h <;> try exact h.elim
    rename_i hk
    split at h <;> try exact h.elim
    rename_i hm
    split at h <;> try exact h.elim
    rename_i hs
    subst hk hm hs
    obtain ⟨hvl, rfl⟩ := srep_ints hx
    obtain ⟨hl, hall⟩ := okc hc
    refine fin (col' := .arrs k m' (llset l i v')) (vs := v'.map (Value.int k)) (j0 := 0) hsz (by simp [Value.cells, hvl]) (by simp [Value.cells]) hc rfl ⟨by simp [llset, hl], fun x hx => ?_⟩ (by simp) rfl (by simp [hvl, Col.kd, Kd.width]) (fun u hu => ?_) (fun i' t ht => ?_) h
    · simp only [llset] at hx
      rcases List.mem_or_eq_of_mem_set hx with hx | rfl
      · exact hall x hx
      · exact hvl
    · obtain ⟨_, _, rfl⟩ := List.mem_map.1 hu; rfl
    · have ht : t < m' := ht
      simp only [colVal, llset_get _ _ _ _ (show i < l.length by omega)]
      by_cases hii : i' = i
      · subst hii
        rw [if_pos rfl, if_pos ⟨rfl, by omega, by simp; omega⟩]
        simp [lget, List.getD, show t < v'.length by omega]
      · rw [if_neg hii, if_neg (by simp [hii])]
  · exact h.elim
end
end Go.Sx

/- New lists: their cells, their blocks. -/
namespace Go.Sx
open Go
set_option linter.unusedSimpArgs false
set_option linter.unusedVariables false

theorem elemKinds_sound {P : Program} {e : TypeId} {ks : List Kd} {bytes : Nat} (h : elemKinds P e = some (ks, bytes)) :
    ∃ i z, P.info? e = some i ∧ i.zero = some z ∧ zeroIs ks z.cells.toList = true ∧ i.size = width ks ∧ 0 < width ks ∧ i.bytes = bytes ∧ 0 < bytes := by
  unfold elemKinds at h
  split at h <;> try (cases h; done)
  rename_i ks' i hk hi
  split at h <;> try (cases h; done)
  rename_i z hz
  split at h <;> try (cases h; done)
  rename_i hb
  simp only [Option.some.injEq, Prod.mk.injEq] at h
  obtain ⟨rfl, rfl⟩ := h
  simp only [Bool.and_eq_true] at hb
  obtain ⟨⟨⟨h1, h2⟩, h3⟩, h4⟩ := hb
  exact ⟨i, z, hi, hz, h1, beq_nat h2, by simpa using h3, rfl, by simpa using h4⟩

theorem kd_eq {a b : Kd} (h : a.beq b = true) : a = b := by
  have ik : ∀ {k k' : IntKind}, (k == k') = true → k = k' := fun {k k'} h => eq_of_beq h
  cases a <;> cases b <;> simp only [Kd.beq, Bool.and_eq_true, Bool.false_eq_true] at h
  · rw [ik h]
  · rfl
  · rw [ik h.1, eq_of_beq h.2]
  · rw [ik h]

theorem kdsEq_eq : ∀ {a b : List Kd}, kdsEq a b = true → a = b
  | [], [], _ => rfl
  | [], _ :: _, h => by simp [kdsEq] at h
  | _ :: _, [], h => by simp [kdsEq] at h
  | x :: r, y :: s, h => by
    simp only [kdsEq, Bool.and_eq_true] at h
    rw [kd_eq h.1, kdsEq_eq h.2]

/-! ### cells of lists -/
def rowCells (L : Loc) (cs : List Col) : List Value := (List.range (L.len * cwidth cs)).map fun q => rowVal L cs 0 (q / cwidth cs) (q % cwidth cs)

theorem divmod {i z t : Nat} (ht : t < z) : (i * z + t) / z = i ∧ (i * z + t) % z = t := by
  have hz : 0 < z := by omega
  rw [Nat.mul_comm i z]
  exact ⟨by rw [Nat.mul_add_div hz, Nat.div_eq_of_lt ht, Nat.add_zero], by rw [Nat.mul_add_mod, Nat.mod_eq_of_lt ht]⟩

theorem cell_lt_len {i n z t : Nat} (hi : i < n) (ht : t < z) : i * z + t < n * z := by
  have : (i + 1) * z ≤ n * z := Nat.mul_le_mul_right _ hi
  rw [Nat.add_mul, Nat.one_mul] at this; omega

theorem rowCells_len (L : Loc) (cs : List Col) : (rowCells L cs).length = L.len * cwidth cs := by simp [rowCells]

theorem rowCells_get {L : Loc} {cs : List Col} {i t : Nat} (hi : i < L.len) (ht : t < cwidth cs) : (rowCells L cs)[i * cwidth cs + t]? = some (rowVal L cs 0 i t) := by
  have := cell_lt_len hi ht
  obtain ⟨h1, h2⟩ := divmod (i := i) ht
  simp [rowCells, this, h1, h2]

theorem rowVal_one {L : Loc} : ∀ {cs : List Col} {c i t : Nat}, t < cwidth cs → (rowVal L cs c i t).oneCell' = true
  | [], _, _, _, h => absurd h (Nat.not_lt_zero _)
  | x :: r, c, i, t, h => by
    have e : cwidth (x :: r) = x.kd.width + cwidth r := rfl
    simp only [rowVal]
    split
    · cases x <;> rfl
    · exact rowVal_one (by omega)

theorem rowCells_one (L : Loc) (cs : List Col) (hw : 0 < cwidth cs) : ∀ u ∈ rowCells L cs, u.oneCell' = true := by
  intro u hu
  obtain ⟨q, _, rfl⟩ := List.mem_map.1 hu
  exact rowVal_one (Nat.mod_lt _ hw)

theorem VRep.cell {w : World} {L : Loc} {cs : List Col} (h : VRep w L cs) {j : Nat} {v : Value} (hj : (rowCells L cs)[j]? = some v) : w.cell? (L.at j) = some v := by
  have hlt : j < L.len * cwidth cs := by rw [← rowCells_len]; exact (List.getElem?_eq_some_iff.1 hj).1
  have hm : j % cwidth cs < cwidth cs := Nat.mod_lt _ h.wid
  have hd : j / cwidth cs < L.len := Nat.div_lt_of_lt_mul (by rw [Nat.mul_comm]; exact hlt)
  have e : j / cwidth cs * cwidth cs + j % cwidth cs = j := by rw [Nat.mul_comm]; exact Nat.div_add_mod j _
  have h1 := h.cells _ hd _ hm
  have h2 := rowCells_get (L := L) (cs := cs) hd hm
  rw [e] at h1 h2
  rw [h2] at hj; cases hj
  exact h1

section
variable {P : Program}

/-- what is read of a list, handed to append or copy -/
theorem VRep.src {w : World} {L : Loc} {cs : List Col} (h : VRep w L cs) {tx : TypeId} (hk : (∃ e', P.underlying tx = some (.slice e')) ∨ P.underlying tx = some .string) : Src P (cwidth cs) tx (.slice L.a L.len L.cap) L.len (rowCells L cs) w := by
  have hone := rowCells_one L cs h.wid
  cases ha : L.a with
  | none =>
    have hl : L.len = 0 := by
      by_cases q : L.len = 0
      · exact q
      · have := h.adr q; rw [ha] at this; cases this
    have hr : rowCells L cs = [] := by simp [rowCells, hl]
    rw [hl, hr]
    exact ⟨hk, fun _ => rfl, run_firstCells_none w (cwidth cs) 0 0 L.cap, run_firstCells_none w.drew (cwidth cs) 0 0 L.cap, by simp, fun _ h => by cases h⟩
  | some x =>
    have hnews : ∀ (j : Nat) u, (rowCells L cs)[j]? = some u → w.cell? (x.add j) = some u := ?_
    · exact ⟨hk, fun _ => rfl, run_firstCells_some w (cwidth cs) L.len x L.len L.cap _ (rowCells_len L cs) hnews, run_firstCells_some w.drew (cwidth cs) L.len x L.len L.cap _ (rowCells_len L cs) (by simpa using hnews), rowCells_len L cs, hone⟩
    intro j u hj
    have hlt : j < L.len * cwidth cs := by rw [← rowCells_len]; exact (List.getElem?_eq_some_iff.1 hj).1
    have hl : L.len ≠ 0 := fun q => by rw [q] at hlt; simp at hlt
    have := h.adr hl
    rw [ha] at this
    cases this
    rw [Loc.at_add, Nat.zero_add]
    exact h.cell hj

theorem VRep.first {w : World} {L : Loc} {cs : List Col} (h : VRep w L cs) : (Builtin.firstCells (cwidth cs) L.len (.slice L.a L.len L.cap)).run P w = .ok (rowCells L cs).toArray w := by
  cases ha : L.a with
  | none =>
    have hl : L.len = 0 := by
      by_cases q : L.len = 0
      · exact q
      · have := h.adr q; rw [ha] at this; cases this
    have hr : rowCells L cs = [] := by simp [rowCells, hl]
    rw [hr]
    simpa using run_firstCells_none (P := P) w (cwidth cs) L.len L.len L.cap
  | some x =>
    refine run_firstCells_some w (cwidth cs) L.len x L.len L.cap _ (rowCells_len L cs) (fun j u hj => ?_)
    have hlt : j < L.len * cwidth cs := by rw [← rowCells_len]; exact (List.getElem?_eq_some_iff.1 hj).1
    have hl : L.len ≠ 0 := fun q => by rw [q] at hlt; simp at hlt
    have := h.adr hl
    rw [ha] at this
    cases this
    rw [Loc.at_add, Nat.zero_add]
    exact h.cell hj
end

theorem VRep.firstN {P : Program} {w : World} {L : Loc} {cs : List Col} (h : VRep w L cs) {n : Nat} (hn : n ≤ L.len) : (Builtin.firstCells (cwidth cs) n (.slice L.a L.len L.cap)).run P w = .ok ((rowCells L cs).take (n * cwidth cs)).toArray w := by
  have hle : n * cwidth cs ≤ L.len * cwidth cs := Nat.mul_le_mul_right _ hn
  have hl : ((rowCells L cs).take (n * cwidth cs)).length = n * cwidth cs := by rw [List.length_take, rowCells_len]; omega
  cases ha : L.a with
  | none =>
    have hl : L.len = 0 := by
      by_cases q : L.len = 0
      · exact q
      · have := h.adr q; rw [ha] at this; cases this
    have hr : rowCells L cs = [] := by simp [rowCells, hl]
    rw [hr]
    simpa using run_firstCells_none (P := P) w (cwidth cs) n L.len L.cap
  | some x =>
    refine run_firstCells_some w (cwidth cs) n x L.len L.cap _ hl (fun j u hj => ?_)
    rw [List.getElem?_take] at hj
    split at hj
    · have hlt : j < L.len * cwidth cs := by rw [← rowCells_len]; exact (List.getElem?_eq_some_iff.1 hj).1
      have hl : L.len ≠ 0 := fun q => by rw [q] at hlt; simp at hlt
      have := h.adr hl
      rw [ha] at this
      cases this
      rw [Loc.at_add, Nat.zero_add]
      exact h.cell hj
    · cases hj

theorem VRep.drew {w : World} {L : Loc} {cs : List Col} (h : VRep w L cs) : VRep w.drew L cs := h.keeps fun _ _ => rfl

/-! ### two lists, one behind the other -/
theorem lget_cat (a b : List Int) (i : Nat) : lget (lcat a b) i = if i < a.length then lget a i else lget b (i - a.length) := by
  simp only [lget, lcat, List.getD, List.getElem?_append]
  split <;> rfl
theorem lgetb_cat (a b : List Bool) (i : Nat) : lgetb (lcat a b) i = if i < a.length then lgetb a i else lgetb b (i - a.length) := by
  simp only [lgetb, lcat, List.getD, List.getElem?_append]
  split <;> rfl
theorem llget_cat (a b : List (List Int)) (i : Nat) : llget (lcat a b) i = if i < a.length then llget a i else llget b (i - a.length) := by
  simp only [llget, lcat, List.getD, List.getElem?_append]
  split <;> rfl

def catEl (L M : Loc) : Nat → Nat → Elt := fun c i => if i < L.len then L.el c i else M.el c (i - L.len)

theorem colVal_cat {L M N : Loc} {x y : Col} (hx : x.ok L.len) (hk : y.kd = x.kd) (hN : N.el = catEl L M) (c i j : Nat) : colVal N c (x.cat y) i j = if i < L.len then colVal L c x i j else colVal M c y (i - L.len) j := by
  cases x <;> cases y <;> simp only [Col.kd, reduceCtorEq, Kd.ints.injEq, Kd.arrs.injEq, Kd.rows.injEq] at hk <;> simp only [Col.ok] at hx
  · subst hk; simp only [Col.cat, colVal, lget_cat, hx]; split <;> rfl
  · simp only [Col.cat, colVal, lgetb_cat, hx]; split <;> rfl
  · obtain ⟨rfl, rfl⟩ := hk; simp only [Col.cat, colVal, llget_cat, hx.1]; split <;> rfl
  · subst hk; simp only [Col.cat, colVal, hN, catEl]; split <;> rfl

theorem cat_kd (x y : Col) : (x.cat y).kd = x.kd := by cases x <;> cases y <;> rfl

theorem catCols_kds : ∀ {cs ds : List Col}, kdsOf cs = kdsOf ds → kdsOf (catCols cs ds) = kdsOf cs
  | [], [], _ => rfl
  | [], _ :: _, h => by simp [kdsOf] at h
  | _ :: _, [], h => by simp [kdsOf] at h
  | x :: r, y :: s, h => by
    simp only [kdsOf, List.map_cons, List.cons.injEq] at h
    have := catCols_kds (cs := r) (ds := s) h.2
    simp only [kdsOf] at this
    simp only [catCols, kdsOf, List.map_cons, cat_kd, this]

theorem rowVal_cat {L M N : Loc} (hN : N.el = catEl L M) : ∀ {cs ds : List Col}, kdsOf cs = kdsOf ds → (∀ x ∈ cs, x.ok L.len) → ∀ (c i t : Nat), rowVal N (catCols cs ds) c i t = if i < L.len then rowVal L cs c i t else rowVal M ds c (i - L.len) t
  | [], [], _, _ => fun c i t => by simp only [catCols, rowVal]; split <;> rfl
  | [], _ :: _, h, _ => by simp [kdsOf] at h
  | _ :: _, [], h, _ => by simp [kdsOf] at h
  | x :: r, y :: s, h, hx => fun c i t => by
    simp only [kdsOf, List.map_cons, List.cons.injEq] at h
    have ih := rowVal_cat hN (cs := r) (ds := s) h.2 (fun z hz => hx z (List.mem_cons_of_mem _ hz)) (c + 1) i (t - x.kd.width)
    simp only [catCols, rowVal, cat_kd, ← h.1]
    rw [ih, colVal_cat (hx x (by simp)) h.1.symm hN]
    by_cases ht : t < x.kd.width
    · simp only [if_pos ht]
    · simp only [if_neg ht]

theorem cat_ok {n m : Nat} {x y : Col} (hx : x.ok n) (hy : y.ok m) (hk : y.kd = x.kd) : (x.cat y).ok (n + m) := by
  cases x <;> cases y <;> simp only [Col.kd, reduceCtorEq, Kd.ints.injEq, Kd.arrs.injEq, Kd.rows.injEq] at hk <;> simp only [Col.ok] at hx hy <;> simp only [Col.cat, Col.ok, lcat, List.length_append]
  · omega
  · omega
  · obtain ⟨rfl, rfl⟩ := hk
    refine ⟨by omega, fun z hz => ?_⟩
    rcases List.mem_append.1 hz with h | h
    · exact hx.2 z h
    · exact hy.2 z h
  · omega

theorem catCols_ok {n m : Nat} : ∀ {cs ds : List Col}, kdsOf cs = kdsOf ds → (∀ x ∈ cs, x.ok n) → (∀ x ∈ ds, x.ok m) → ∀ x ∈ catCols cs ds, x.ok (n + m)
  | [], [], _, _, _ => fun x h => by simp [catCols] at h
  | [], _ :: _, h, _, _ => by simp [kdsOf] at h
  | _ :: _, [], h, _, _ => by simp [kdsOf] at h
  | x :: r, y :: s, h, hx, hy => fun z hz => by
    simp only [kdsOf, List.map_cons, List.cons.injEq] at h
    simp only [catCols, List.mem_cons] at hz
    rcases hz with rfl | hz
    · exact cat_ok (hx x (by simp)) (hy y (by simp)) h.1.symm
    · exact catCols_ok (cs := r) (ds := s) h.2 (fun q hq => hx q (List.mem_cons_of_mem _ hq)) (fun q hq => hy q (List.mem_cons_of_mem _ hq)) z hz

theorem catCols_rows : ∀ {cs ds : List Col} {c : Nat} {k : IntKind} {ll : List (List Int)}, (catCols cs ds)[c]? = some (.rows k ll) → kdsOf cs = kdsOf ds → ∃ l1 l2, cs[c]? = some (.rows k l1) ∧ ds[c]? = some (.rows k l2) ∧ ll = l1 ++ l2
  | [], [], c, _, _, h, _ => by simp [catCols] at h
  | [], _ :: _, _, _, _, _, h => by simp [kdsOf] at h
  | _ :: _, [], _, _, _, _, h => by simp [kdsOf] at h
  | x :: r, y :: s, 0, k, ll, h, hk => by
    simp only [kdsOf, List.map_cons, List.cons.injEq] at hk
    simp only [catCols, List.getElem?_cons_zero, Option.some.injEq] at h
    have hk1 := hk.1
    cases x <;> cases y <;> simp only [Col.kd, reduceCtorEq, Kd.rows.injEq] at hk1 <;> simp only [Col.cat, reduceCtorEq, Col.rows.injEq] at h
    obtain ⟨rfl, rfl⟩ := h
    subst hk1
    exact ⟨_, _, rfl, rfl, rfl⟩
  | x :: r, y :: s, c + 1, k, ll, h, hk => by
    simp only [kdsOf, List.map_cons, List.cons.injEq] at hk
    simp only [catCols, List.getElem?_cons_succ] at h
    obtain ⟨l1, l2, h1, h2, h3⟩ := catCols_rows (cs := r) (ds := s) h hk.2
    exact ⟨l1, l2, by simpa using h1, by simpa using h2, h3⟩

theorem inner_cat {L M N : Loc} {cs ds : List Col} {k : Nat} (hN : N.el = catEl L M) (hk : kdsOf cs = kdsOf ds) (hx : ∀ x ∈ cs, x.ok L.len) (h : Inner N (catCols cs ds) k) : Inner L cs k ∨ Inner M ds k := by
  obtain ⟨c, kk, ll, i, l, a, h1, h2, h3, h4, h5⟩ := h
  obtain ⟨l1, l2, g1, g2, rfl⟩ := catCols_rows h1 hk
  have hl : l1.length = L.len := hx _ (List.mem_of_getElem? g1)
  rw [hN] at h4
  simp only [catEl] at h4
  rw [List.getElem?_append] at h2
  by_cases hi : i < l1.length
  · rw [if_pos hi] at h2
    rw [if_pos (by omega)] at h4
    exact Or.inl ⟨c, kk, l1, i, l, a, g1, h2, h3, h4, h5⟩
  · rw [if_neg hi] at h2
    rw [if_neg (by omega)] at h4
    rw [hl] at h2
    exact Or.inr ⟨c, kk, l2, i - L.len, l, a, g2, h2, h3, h4, h5⟩

/-- two lists that are known, laid one behind the other in cells: a list -/
theorem cat_rep {w w' : World} {L M N : Loc} {cs ds : List Col} (h1 : VRep w L cs) (h2o : ∀ x ∈ ds, x.ok M.len) (h2i : ∀ c k ll, ds[c]? = some (Col.rows k ll) → ∀ i l, ll[i]? = some l → EltRep w (M.el c i) k l) (hk : kdsOf cs = kdsOf ds) (hN : N.el = catEl L M) (hlen : N.len = L.len + M.len) (hcap : N.len ≤ N.cap) (hadr : N.len ≠ 0 → N.a = some (N.at 0))
    (hc : ∀ (j : Nat) v, (rowCells L cs ++ rowCells M ds)[j]? = some v → w'.cell? (N.at j) = some v) (hs1 : ∀ k, Inner L cs k → w'.heap[k]? = w.heap[k]?) (hs2 : ∀ k, Inner M ds k → w'.heap[k]? = w.heap[k]?) : VRep w' N (catCols cs ds) := by
  have hwd : cwidth (catCols cs ds) = cwidth cs := by simp [cwidth, catCols_kds hk]
  have hwd2 : cwidth ds = cwidth cs := by simp [cwidth, hk]
  have elt : ∀ {e : Elt} {k : IntKind} {l : List Int}, EltRep w e k l → (∀ a, l ≠ [] → e.a = some a → w'.heap[a.block]? = w.heap[a.block]?) → EltRep w' e k l := by
    intro e k l ⟨q1, q2, q3, q4⟩ hh
    refine ⟨q1, q2, q3, fun j x hx a ha => ?_⟩
    have hb : (a.add j).block = a.block := by unfold Addr.add; split <;> rfl
    have := hh a (fun e => by subst e; simp at hx) ha
    exact (cell_same (a := a.add j) (by rw [hb]; exact this)).trans (q4 j x hx a ha)
  refine ⟨fun e => by rw [e] at hwd; have := h1.wid; rw [← hwd] at this; exact absurd this (by decide), by rw [hwd]; exact h1.wid, ?_, hcap, hadr, fun i hi t ht => ?_, fun c k ll hcc i l hl => ?_⟩
  · rw [hlen]; exact catCols_ok hk h1.ok h2o
  · rw [hwd] at ht ⊢
    rw [rowVal_cat hN hk h1.ok]
    refine hc _ _ ?_
    rw [List.getElem?_append, rowCells_len]
    by_cases hlt : i < L.len
    · rw [if_pos hlt, if_pos (cell_lt_len hlt ht)]
      exact rowCells_get hlt ht
    · have hge : L.len * cwidth cs ≤ i * cwidth cs := Nat.mul_le_mul_right _ (by omega)
      rw [if_neg hlt, if_neg (by omega)]
      have e : i * cwidth cs + t - L.len * cwidth cs = (i - L.len) * cwidth ds + t := by rw [hwd2, Nat.sub_mul]; omega
      rw [e]
      exact rowCells_get (by omega) (by rw [hwd2]; exact ht)
  · obtain ⟨l1, l2, g1, g2, rfl⟩ := catCols_rows hcc hk
    have hl1 : l1.length = L.len := h1.ok _ (List.mem_of_getElem? g1)
    rw [List.getElem?_append] at hl
    rw [hN]
    simp only [catEl]
    by_cases hlt : i < L.len
    · rw [if_pos (by omega)] at hl
      rw [if_pos hlt]
      exact elt (h1.inner c k l1 g1 i l hl) fun a hne ha => hs1 _ ⟨c, k, l1, i, l, a, g1, hl, hne, ha, rfl⟩
    · rw [if_neg (by omega), hl1] at hl
      rw [if_neg hlt]
      exact elt (h2i c k l2 g2 (i - L.len) l hl) fun a hne ha => hs2 _ ⟨c, k, l2, i - L.len, l, a, g2, hl, hne, ha, rfl⟩
end Go.Sx

/- New lists: append, make, literals, texts. -/
namespace Go.Sx
open Go
set_option linter.unusedSimpArgs false
set_option linter.unusedVariables false
section
variable {P : Program} {E : Env} {ρ : Rho} {fr : Fr} {σ : Mem} {a : Act} {w : World}

theorem find_ins {d : Nat} {b : Blk} : ∀ {σ : Mem}, memRefs d σ = false → ∀ n, Mem.find (Mem.ins d b σ) n = Mem.find ((d, b) :: σ) n
  | [], _, n => rfl
  | (m, x) :: r, h, n => by
    have hm : m ≠ d := by
      intro e
      simp [memRefs, e] at h
    have hr : memRefs d r = false := by
      simp only [memRefs, List.any_cons, Bool.or_eq_false_iff] at h ⊢
      exact h.2
    simp only [Mem.ins]
    split
    · have ih := find_ins (b := b) hr n
      simp only [Mem.find] at ih ⊢
      rw [ih]
      by_cases e1 : m = n
      · rw [if_pos e1, if_neg (fun e => hm (e1.trans e.symm)), if_pos e1]
      · rw [if_neg e1, if_neg e1]
    · rfl

theorem Rep.find_eq {σ' : Mem} (h : Rep E ρ fr σ a w) (hf : ∀ n, Mem.find σ' n = Mem.find σ n) : Rep E ρ fr σ' a w :=
  h.less h.fr fun n b hb => by rw [← hf]; exact hb

theorem freshB_parts {d : Nat} {fr : Fr} {σ : Mem} (h : freshB d fr σ = true) : d < 200000 ∧ frRefs d fr = false ∧ memRefs d σ = false := by
  simp only [freshB, Bool.and_eq_true, Bool.not_eq_true', decide_eq_true_eq] at h
  exact ⟨h.1.1, h.1.2, h.2⟩

theorem freshB_find {d : Nat} {fr : Fr} {σ : Mem} (h : freshB d fr σ = true) : ∀ m b, Mem.find σ m = some b → m ≠ d := fun m b hm => (memRefs_out (freshB_parts h).2.2 hm).1

/-- a list in a new block -/
theorem newvec {d : Nat} {L : Loc} {cs : List Col} {w' : World} {C : Array Value} {T : TypeId} {fz : Nat × Nat} (h : Rep E ρ fr σ a w) (hd : freshB d fr σ = true) (hw : w'.heap = w.heap.push (.cells C T fz)) (h1 : w'.os = w.os) (h2 : w'.tape = w.tape) (h3 : w'.output = w.output)
    (hV : VRep w' L cs) (hb : L.1 = w.heap.size) (ho : L.2 = 0) (ha : L.a = some (L.at 0)) (hsz : L.cap * cwidth cs ≤ C.size) (hfz : ∀ j, j < C.size → ¬ (fz.1 ≤ j ∧ j < fz.2)) (hin : ∀ k, Inner L cs k → Clean ρ σ k ∧ k < w.heap.size) :
    Rep E (upd ρ d L) fr (Mem.ins d (.vec cs) σ) a w' := by
  have old : ∀ {k}, k < w.heap.size → w'.heap[k]? = w.heap[k]? := fun hk => by rw [hw, Array.getElem?_push, if_neg (by omega)]
  have new : w'.heap[w.heap.size]? = some (.cells C T fz) := by rw [hw]; simp
  have hsize : w'.heap.size = w.heap.size + 1 := by rw [hw]; simp
  have hlt : ∀ {m c k}, Mem.find σ m = some c → Foot ρ m c k → k < w.heap.size := fun hm hk => in_range (h.mem _ _ hm) hk
  refine (add_sound (b := .vec cs) h hd ⟨h1.trans h.keep.os, h2.trans h.keep.tape, h3.trans h.keep.output, by rw [hsize]; have := h.keep.size; omega, fun k hk hx => by rw [old (by have := h.keep.size; omega)]; exact h.keep.block k hk hx⟩ (fun m c k hm hk => old (hlt hm hk))
    ⟨by rw [upd_eq]; exact hV, by rw [upd_eq]; exact fun _ => ⟨ha, C, T, fz, by rw [hb]; exact new, by rw [ho]; omega, hfz⟩⟩ (fun k hk => ?_) (fun k hk => ?_)).find_eq (find_ins (freshB_parts hd).2.2)
  · simp only [Out, upd_eq] at hk
    obtain ⟨_, rfl⟩ := hk
    rw [hb]
    refine ⟨Or.inl h.keep.size, fun m c hm hk => by have := hlt hm hk; omega, fun q => ?_⟩
    simp only [Inn, upd_eq] at q
    have := (hin _ q).2
    omega
  · simp only [Foot, upd_eq] at hk
    rcases hk with ⟨_, rfl⟩ | hk
    · rw [hb]; exact fun m c hm hO => by have := hlt hm hO.foot; omega
    · exact (hin k hk).1

/-- what a new list leaves as it was -/
theorem ins_old {d : Nat} {b : Blk} (hd : freshB d fr σ = true) : ∀ m c, Mem.find σ m = some c → Mem.find (Mem.ins d b σ) m = some c := fun m c hm => by
  rw [find_ins (freshB_parts hd).2.2]
  simp only [Mem.find]
  rw [if_neg (Ne.symm (freshB_find hd m c hm))]; exact hm

/-! ### make -/
theorem zero_row {L : Loc} {n i : Nat} (hL : ∀ c i, L.el c i = ⟨none, 0, 0⟩) (hi : i < n) : ∀ {ks : List Kd} {z : List Value} {c t : Nat}, zeroIs ks z = true → t < width ks → z[t]? = some (rowVal L (ks.map (Kd.zero n)) c i t)
  | [], _, _, t, _, ht => absurd ht (Nat.not_lt_zero _)
  | k :: r, z, c, t, h, ht => by
    have ik : ∀ {k k' : IntKind}, (k == k') = true → k = k' := fun {k k'} h => eq_of_beq h
    have kd : (Kd.zero n k).kd = k := by cases k <;> rfl
    have hw : width (k :: r) = k.width + width r := rfl
    simp only [List.map_cons, rowVal, kd]
    cases k with
    | ints k =>
      cases z with
      | nil => simp [zeroIs] at h
      | cons v z =>
        simp only [zeroIs, Bool.and_eq_true] at h
        have e : (Kd.ints k).width = 1 := rfl
        rw [e] at hw ⊢
        cases t with
        | zero =>
          rw [if_pos (by omega)]
          cases v <;> simp [isZeroInt] at h
          obtain ⟨⟨h1, h2⟩, h3⟩ := h
          subst h1 h2
          simp [colVal, Kd.zero, lzeros, lget, List.getD, hi]
        | succ t =>
          rw [if_neg (by omega)]
          simp only [List.getElem?_cons_succ, Nat.add_sub_cancel]
          exact zero_row hL hi h.2 (by omega)
    | bools =>
      cases z with
      | nil => simp [zeroIs] at h
      | cons v z =>
        simp only [zeroIs, Bool.and_eq_true] at h
        have e : Kd.bools.width = 1 := rfl
        rw [e] at hw ⊢
        cases t with
        | zero =>
          rw [if_pos (by omega)]
          cases v <;> simp at h
          obtain ⟨h1, h3⟩ := h
          subst h1
          simp [colVal, Kd.zero, bzeros, lgetb, List.getD, hi]
        | succ t =>
          rw [if_neg (by omega)]
          simp only [List.getElem?_cons_succ, Nat.add_sub_cancel]
          exact zero_row hL hi h.2 (by omega)
    | rows k =>
      cases z with
      | nil => simp [zeroIs] at h
      | cons v z =>
        simp only [zeroIs, Bool.and_eq_true] at h
        have e : (Kd.rows k).width = 1 := rfl
        rw [e] at hw ⊢
        cases t with
        | zero =>
          rw [if_pos (by omega)]
          obtain ⟨h1, h3⟩ := h
          have : v = .slice none 0 0 := by
            split at h1
            · rfl
            · cases h1
          subst this
          simp [colVal, Kd.zero, hL]
        | succ t =>
          rw [if_neg (by omega)]
          simp only [List.getElem?_cons_succ, Nat.add_sub_cancel]
          exact zero_row hL hi h.2 (by omega)
    | arrs k m =>
      have h : (Nat.ble m z.length = true ∧ (z.take m).all (isZeroInt k) = true) ∧ zeroIs r (z.drop m) = true := by
        cases z <;> (simp only [zeroIs, Bool.and_eq_true] at h; exact h)
      obtain ⟨⟨h1, h2⟩, h3⟩ := h
      have e : (Kd.arrs k m).width = m := rfl
      rw [e] at hw ⊢
      by_cases hlt : t < m
      · rw [if_pos hlt]
        have hl : m ≤ z.length := Nat.le_of_ble_eq_true h1
        have hv := List.all_eq_true.1 h2 z[t] (by rw [List.mem_iff_getElem?]; exact ⟨t, by rw [List.getElem?_take, if_pos hlt]; exact List.getElem?_eq_getElem (by omega)⟩)
        rw [List.getElem?_eq_getElem (by omega)]
        generalize z[t] = v at hv
        cases v <;> simp [isZeroInt] at hv
        obtain ⟨q1, q2⟩ := hv
        subst q1 q2
        simp [colVal, Kd.zero, azeros, llget, lget, List.getD, hi, hlt]
      · rw [if_neg hlt]
        have := zero_row hL hi (c := c + 1) (t := t - m) h3 (by omega)
        rw [List.getElem?_drop, show m + (t - m) = t by omega] at this
        exact this

theorem zero_kds (ks : List Kd) (n : Nat) : kdsOf (ks.map (Kd.zero n)) = ks := by
  induction ks with
  | nil => rfl
  | cons k r ih => cases k <;> simp_all [kdsOf, Kd.zero, Col.kd]

theorem zero_ok (ks : List Kd) (n : Nat) : ∀ x ∈ ks.map (Kd.zero n), x.ok n := by
  intro x hx
  obtain ⟨k, _, rfl⟩ := List.mem_map.1 hx
  cases k <;> simp [Kd.zero, Col.ok, lzeros, bzeros, azeros, rzeros]

theorem zero_len : ∀ {ks : List Kd} {z : List Value}, zeroIs ks z = true → z.length = width ks := by
    intro ks
    induction ks with
    | nil => intro z h; cases z <;> simp [zeroIs] at h; rfl
    | cons k r ih =>
      intro z h
      have hw : width (k :: r) = k.width + width r := rfl
      cases k with
      | arrs k m =>
        have h : (Nat.ble m z.length = true ∧ (z.take m).all (isZeroInt k) = true) ∧ zeroIs r (z.drop m) = true := by
          cases z <;> (simp only [zeroIs, Bool.and_eq_true] at h; exact h)
        have h1 := Nat.le_of_ble_eq_true h.1.1
        have := ih h.2
        rw [List.length_drop] at this
        rw [hw]; show z.length = m + width r
        omega
      | _ =>
        cases z with
        | nil => simp [zeroIs] at h
        | cons v z =>
          simp only [zeroIs, Bool.and_eq_true] at h
          have := ih h.2
          rw [hw]; simp only [List.length_cons, this, Kd.width]; omega

theorem make_sound {t e : TypeId} {ks : List Kd} {bytes : Nat} {A B : Int} {kl kc : IntKind} {d : Nat} (h : Rep E ρ fr σ a w) (hu : P.underlying t = some (.slice e)) (hk : elemKinds P e = some (ks, bytes)) (hm : Mk A B bytes) (hd : freshB d fr σ = true) :
    ∃ w' L, (Instr.makeSlice t (.int kl A) (.int kc B)).run P w = .ok (.slice L.a L.len L.cap) w' ∧ w.heap.size ≤ w'.heap.size ∧ Keeps (fun _ => False) w w' ∧ Rep E (upd ρ d L) fr (Mem.ins d (.vec (ks.map (Kd.zero (nat A)))) σ) a w' := by
  obtain ⟨i, z, hi, hz, hzero, hsize, hwid, hbytes, _⟩ := elemKinds_sound hk
  have h0 := hm.lo; have h1 := hm.le; have h2 := hm.hi; have h3 := hm.c63
  have hrun := run_make (P := P) w t e i z hu hi hz kl kc A B h0 h1 (by rw [hbytes, Int.mul_comm]; exact h2) h3
  have kds := zero_kds ks (nat A)
  have hcw : cwidth (ks.map (Kd.zero (nat A))) = width ks := by rw [cwidth, kds]
  let L : Loc := ⟨w.heap.size, 0, some ⟨w.heap.size, 0, none⟩, A.toNat, B.toNat, fun _ _ => ⟨none, 0, 0⟩⟩
  have hsz : (madeCells z.cells (B.toNat * i.size)).size = B.toNat * i.size := size_madeCells _ _
  refine ⟨_, L, hrun, by show _ ≤ (w.heap.push _).size; simp, ⟨rfl, rfl, rfl, by show _ ≤ (w.heap.push _).size; simp, fun k hk _ => with_old (o := .cells _ e) hk⟩, newvec (L := L) h hd (w' := w.alloc (.cells (madeCells z.cells (B.toNat * i.size)) e)) (C := madeCells z.cells (B.toNat * i.size)) (T := e) (fz := (0, 0)) rfl rfl rfl rfl ?_ rfl rfl rfl (by rw [hcw, hsz, hsize]; exact Nat.le_refl _) (fun j _ => by simp) (fun k hk => ?_)⟩
  · refine ⟨fun q => by have : ks = [] := by simpa using q
                        subst this; exact absurd hwid (by decide), by rw [hcw]; exact hwid, zero_ok ks _, by show A.toNat ≤ B.toNat; omega, fun _ => rfl, fun r hr t ht => ?_, fun c k ll hc r l hl => ?_⟩
    · rw [hcw] at ht ⊢
      have hr' : r < A.toNat := hr
      have hlt : r * width ks + t < B.toNat * i.size := by rw [hsize]; exact cell_lt_len (by omega) ht
      have hzl := zero_len hzero
      have zr := zero_row (L := L) (n := nat A) (i := r) (fun _ _ => rfl) hr' (c := 0) hzero ht
      have hcell : (madeCells z.cells (B.toNat * i.size))[r * width ks + t]? = some (z.cells[t]!) := by
        have hs : z.cells.size = width ks := by rw [← hzl]; simp
        simp [madeCells, hlt, hs, (divmod (i := r) ht).2]
      have hnew : (w.alloc (.cells (madeCells z.cells (B.toNat * i.size)) e)).heap[w.heap.size]? = some (.cells (madeCells z.cells (B.toNat * i.size)) e) := by
        show (w.heap.push _)[w.heap.size]? = _
        simp
      have : (w.alloc (.cells (madeCells z.cells (B.toNat * i.size)) e)).cell? (L.at (r * width ks + t)) = some (z.cells[t]!) := by
        simp only [World.cell?, Loc.at, L, hnew, Option.isSome_none, Bool.false_eq_true, if_false, Nat.zero_add]
        exact hcell
      rw [this]
      rw [Array.getElem?_toList] at zr
      have hs : t < z.cells.size := by rw [← Array.length_toList, hzl]; exact ht
      rw [Array.getElem?_eq_getElem hs] at zr
      rw [getElem!_pos z.cells t hs]
      exact zr
    · simp only [List.getElem?_map, Option.map_eq_some_iff] at hc
      obtain ⟨kd, _, hkd⟩ := hc
      cases kd <;> simp [Kd.zero] at hkd
      obtain ⟨_, rfl⟩ := hkd
      have : l = [] := by
        simp only [rzeros, List.getElem?_replicate] at hl
        split at hl <;> simp at hl
        exact hl
      subst this
      exact ⟨rfl, Nat.le_refl _, fun q => absurd rfl q, fun j x hx => by simp at hx⟩
  · obtain ⟨c, kk, ll, r, l, A', hc, hl, hne, _⟩ := hk
    simp only [List.getElem?_map, Option.map_eq_some_iff] at hc
    obtain ⟨kd, _, hkd⟩ := hc
    cases kd <;> simp [Kd.zero] at hkd
    obtain ⟨_, rfl⟩ := hkd
    simp only [rzeros, List.getElem?_replicate] at hl
    split at hl <;> simp at hl
    exact absurd hl hne
end
end Go.Sx

/- append. -/
namespace Go.Sx
open Go
set_option linter.unusedSimpArgs false
set_option linter.unusedVariables false

theorem not_inner_ints {L : Loc} {k : IntKind} {l : List Int} {b : Nat} : ¬ Inner L [.ints k l] b := by
  rintro ⟨c, kk, ll, i, l', a, hc, _⟩
  cases c <;> simp at hc

theorem reads_vec {ρ : Rho} {σ : Mem} {w : World} {n : Nat} {cs : List Col} {v : Value} (hm : MemRep ρ σ w) (hs : Sep ρ σ) (hcs : Mem.cols σ n = some cs) (hx : CRep ρ (.vec n) v) : Reads ρ σ w v cs (ρ n) := by
  obtain ⟨h1, b, hb, hbb, hf⟩ := cols_sound hm hcs
  refine ⟨hx, h1, fun k hk => hs.inn hb ?_, fun q => hs.root hb (hf _ (Or.inl ⟨q, rfl⟩))⟩
  rcases hbb with rfl | rfl <;> exact hk

theorem reads_vsl {ρ : Rho} {σ : Mem} {w : World} {n z i len : Nat} {cs : List Col} {v : Value} (hm : MemRep ρ σ w) (hs : Sep ρ σ) (hcs : Mem.cols σ n = some cs) (hz : z = cwidth cs) (hx : CRep ρ (.vsl n z i len) v) :
    ∃ A cap, Reads ρ σ w v (cs.map (Col.sub i len)) ((ρ n).sub (cwidth cs) i len A cap) ∧ (cap = 0 ∨ (i + cap ≤ (ρ n).cap ∧ A = (ρ n).a.map (·.add (i * cwidth cs)))) := by
  subst hz
  obtain ⟨h1, b, hb, hbb, hf⟩ := cols_sound hm hcs
  obtain ⟨A, cap, rfl, h2, h3, h4, _⟩ := hx
  refine ⟨A, cap, ⟨rfl, h1.sub h3 h2 (fun q => ?_), fun k hk => hs.inn hb ?_, fun q => hs.root hb (hf _ (Or.inl ⟨by have : len ≠ 0 := q; omega, rfl⟩))⟩, h4⟩
  · have q' : len ≠ 0 := q
    rcases h4 with h4 | ⟨_, rfl⟩
    · omega
    · rw [h1.adr (by omega), Option.map_some, Loc.at_add, Nat.zero_add]
  · have := hk.sub
    rcases hbb with rfl | rfl <;> exact this

theorem reads_sl {ρ : Rho} {σ : Mem} {w : World} {n base idx len cap N : Nat} {k : IntKind} {l : List Int} {b : Blk} {v : Value} (hm : MemRep ρ σ w) (hs : Sep ρ σ) (hb : Mem.find σ n = some b) (hf : findSeg b.segs base = some (.ints k N l)) (hle : idx + len ≤ N) (hx : CRep ρ (.sl n base idx len cap) v) :
    ∃ L, Reads ρ σ w v [.ints k (lsub l idx len)] L ∧ (L.cap ≠ 0 → L.cap = cap ∧ L.1 = (ρ n).1 ∧ L.2 = (ρ n).2 + (base + idx) ∧ L.a = some (L.at 0)) := by
  obtain ⟨ho, hc⟩ := (hm n b hb).cells
  obtain ⟨h1, h2⟩ := cells_ints ho hc hf hle
  obtain ⟨hlc, hx⟩ := hx
  have hlen := lsub_len l idx len (by omega)
  have foot : len ≠ 0 → Foot ρ n b (ρ n).1 := fun q => by
    have hne : flat b.segs ≠ [] := fun e => by
      have := findSeg_len hf
      have hl := flat_length ho
      rw [e] at hl
      simp only [Seg.len] at this
      simp at hl; omega
    cases b with
    | own T s => rfl
    | view s => exact ⟨hne, rfl⟩
    | vec cs => exact absurd rfl hne
    | rview cs => exact absurd rfl hne
  rcases hx with rfl | ⟨rfl, rfl, a, rfl⟩
  · refine ⟨⟨(ρ n).1, (ρ n).2 + (base + idx), some (at_ ρ n (base + idx)), len, cap, fun _ _ => ⟨none, 0, 0⟩⟩, ⟨rfl, .ofInts hlen hlc (fun _ => rfl) (fun j x hx => ?_), fun k hk => absurd hk not_inner_ints, fun q => hs.root hb (foot q)⟩, fun _ => ⟨rfl, rfl, rfl, rfl⟩⟩
    have := h2 j x hx
    simp only [at_, Loc.at] at this ⊢
    rw [← this]; congr 2; omega
  · exact ⟨⟨0, 0, a, 0, 0, fun _ _ => ⟨none, 0, 0⟩⟩, ⟨rfl, .ofInts hlen (Nat.le_refl _) (fun q => absurd rfl q) (fun j x hx => by rw [lsub_get] at hx; simp at hx), fun k hk => absurd hk not_inner_ints, fun q => absurd rfl q⟩, fun q => absurd rfl q⟩

theorem writable_sub {w : World} {L : Loc} {z i len cap : Nat} {A : Option Addr} (h : Writable w L z) (hA : cap = 0 ∨ (i + cap ≤ L.cap ∧ A = L.a.map (·.add (i * z)))) : Writable w (L.sub z i len A cap) z := by
  intro hc
  have hc' : cap ≠ 0 := hc
  rcases hA with hA | ⟨h1, h2⟩
  · exact absurd hA hc'
  · obtain ⟨g1, c, T, fz, g2, g3, g4⟩ := h (by omega)
    refine ⟨by show A = some (L.at (i * z)); rw [h2, g1, Option.map_some, Loc.at_add, Nat.zero_add], c, T, fz, g2, ?_, g4⟩
    show L.2 + i * z + cap * z ≤ c.size
    have : (i + cap) * z ≤ L.cap * z := Nat.mul_le_mul_right _ h1
    rw [Nat.add_mul] at this; omega

section
variable {P : Program} {E : Env} {ρ : Rho} {fr : Fr} {σ : Mem} {a : Act} {w : World}

/-- a slice that the walk may take for itself -/
structure Takes (ρ : Rho) (σ : Mem) (w : World) (v : Value) (cs : List Col) (L : Loc) (σ1 : Mem) : Prop where
  reads : Reads ρ σ w v cs L
  write : Writable w L (cwidth cs)
  less : ∀ m b, Mem.find σ1 m = some b → Mem.find σ m = some b
  gone : L.cap ≠ 0 → ∃ n b, Mem.find σ n = some b ∧ Out ρ n b L.1 ∧ Mem.find σ1 n = none

theorem erase_less (n : Nat) : ∀ m b, Mem.find (σ.erase n) m = some b → Mem.find σ m = some b := fun m b h => by
  rw [find_erase] at h; split at h <;> first | exact h | cases h
theorem erase_gone (n : Nat) : Mem.find (σ.erase n) n = none := by rw [find_erase, if_pos rfl]

theorem takex_sound {ks : List Kd} {x : AV} {v : Value} {K : List Col → Mem → Prop} (h : takex σ ks x K) (hks : 0 < width ks) (hm : MemRep ρ σ w) (hs : Sep ρ σ) (hx : SRep ρ x v) : ∃ cs L σ1, Takes ρ σ w v cs L σ1 ∧ K cs σ1 := by
  unfold takex at h
  split at h
  · rename_i n
    split at h <;> try exact h.elim
    rename_i cs hn
    have hcs : Mem.cols σ n = some cs := by simp [Mem.cols, hn]
    exact ⟨cs, ρ n, _, ⟨reads_vec hm hs hcs hx, (hm n _ hn).2, erase_less n, fun q => ⟨n, _, hn, ⟨q, rfl⟩, erase_gone n⟩⟩, h⟩
  · rename_i n z i len
    split at h <;> try exact h.elim
    rename_i cs hn
    split at h <;> try exact h.elim
    rename_i hz
    have hcs : Mem.cols σ n = some cs := by simp [Mem.cols, hn]
    obtain ⟨A, cap, h1, h2⟩ := reads_vsl hm hs hcs (beq_nat hz) hx
    have hw : cwidth (cs.map (Col.sub i len)) = cwidth cs := by simp [cwidth, sub_kds]
    refine ⟨_, _, _, ⟨h1, by rw [hw]; exact writable_sub (hm n _ hn).2 h2, erase_less n, fun q => ⟨n, _, hn, ⟨?_, rfl⟩, erase_gone n⟩⟩, h⟩
    have q' : cap ≠ 0 := q
    rcases h2 with h2 | ⟨h2, _⟩
    · exact absurd h2 q'
    · omega
  · rename_i n base idx len cap
    split at h <;> try exact h.elim
    rename_i T s hn
    split at h <;> try exact h.elim
    rename_i k N l hf
    have hle : idx + cap ≤ N := h.1.le
    have hlc : len ≤ cap := hx.1
    obtain ⟨L, h1, h2⟩ := reads_sl hm hs hn (b := .own T s) hf (by omega) hx
    refine ⟨_, L, _, ⟨h1, fun q => ?_, erase_less n, fun q => ⟨n, _, hn, (h2 q).2.1, erase_gone n⟩⟩, h.2⟩
    obtain ⟨q1, q2, q3, q4⟩ := h2 q
    obtain ⟨ho, hz, c, fz, hh, hfr, hfz⟩ := hm n _ hn
    refine ⟨q4, c.toArray, T, fz, by rw [q2]; exact hh, ?_, by simpa using hfz⟩
    have e : cwidth [Col.ints k (lsub l idx len)] = 1 := rfl
    have hl := findSeg_len hf
    have hcl : c.length = slen s := by rw [← hfr.1, flat_length ho]
    simp only [Seg.len] at hl
    rw [e, q1, q3, hz]
    simp
    omega
  · obtain ⟨rfl, _⟩ := hx
    obtain ⟨g1, g2⟩ := nil_rep (w := w) hks
    exact ⟨_, loc0, σ, ⟨⟨rfl, g1, fun k hk => absurd (Or.inr hk) (g2 k), fun q => absurd rfl q⟩, fun q => absurd rfl q, fun _ _ q => q, fun q => absurd rfl q⟩, h⟩
  · exact h.elim

theorem room_fits {need old bytes : Nat} (h : Room need bytes) (hlt : old < need) : Builtin.nextslicecap need old * bytes ≤ 281474976710656 := by
  have key : 4 * Builtin.nextslicecap need old ≤ 5 * need + 4096 := by
    unfold Builtin.nextslicecap
    split
    · omega
    · split
      · omega
      · rw [growBy_four]
        repeat' split
        all_goals omega
  have h1 : 4 * (Builtin.nextslicecap need old * bytes) ≤ (5 * need + 4096) * bytes := by
    rw [← Nat.mul_assoc]; exact Nat.mul_le_mul_right _ key
  have := h.le
  omega

/-- the bytes of a text, as a list that is read -/
theorem byteCells_rows (s : ByteArray) (L : Loc) (hL : L.len = (bytesIn s).length) : byteCells s = rowCells L [.ints .u8 (bytesIn s)] := by
  have e : cwidth [Col.ints .u8 (bytesIn s)] = 1 := rfl
  apply List.ext_getElem?
  intro j
  simp only [rowCells, e, Nat.mul_one, hL, byteCells, List.getElem?_map]
  by_cases hj : j < (bytesIn s).length
  · have hj' : j < s.data.toList.length := by simpa [bytesIn] using hj
    have ed : j / 1 = j := Nat.div_one j
    have em : j % 1 = 0 := Nat.mod_one j
    simp only [List.getElem?_range hj, Option.map_some, List.getElem?_eq_getElem hj', ed, em, rowVal, Col.kd, Kd.width, colVal, Nat.lt_one_iff, if_true]
    simp only [lget, List.getD, bytesIn, List.getElem?_map, List.getElem?_eq_getElem hj', Option.map_some, Option.getD_some]
  · have hj' : ¬ j < s.data.toList.length := by simpa [bytesIn] using hj
    rw [List.getElem?_eq_none (by simpa using hj'), List.getElem?_eq_none (by simpa using hj)]; rfl

/-- what is appended: a list or a text -/
structure Gives (P : Program) (ρ : Rho) (σ : Mem) (w : World) (ty : TypeId) (v : Value) (cs : List Col) (L : Loc) : Prop where
  src : Src P (cwidth cs) ty v L.len (rowCells L cs) w
  ok : ∀ x ∈ cs, x.ok L.len
  inner : ∀ c k ll, cs[c]? = some (Col.rows k ll) → ∀ i l, ll[i]? = some l → EltRep w (L.el c i) k l
  clean : ∀ k, Inner L cs k → Clean ρ σ k ∧ k < w.heap.size
  firstN : ∀ n, n ≤ L.len → (Builtin.firstCells (cwidth cs) n v).run P w = .ok ((rowCells L cs).take (n * cwidth cs)).toArray w

theorem seq_kind {ty : TypeId} (h : appendx.isSeq P ty = true) : (∃ e', P.underlying ty = some (.slice e')) ∨ P.underlying ty = some .string := by
  unfold appendx.isSeq at h
  split at h
  · rename_i e he; exact Or.inl ⟨e, he⟩
  · rename_i he; exact Or.inr he
  · cases h

theorem rdy_sound {ks : List Kd} {y : AV} {v : Value} {K : List Col → Prop} {ty : TypeId} (h : rdy σ ks y K) (hks : 0 < width ks) (hm : MemRep ρ σ w) (hs : Sep ρ σ) (hx : SRep ρ y v) (hty : (∃ e', P.underlying ty = some (.slice e')) ∨ P.underlying ty = some .string) :
    ∃ cs L, Gives P ρ σ w ty v cs L ∧ K cs := by
  unfold rdy at h
  split at h
  · rename_i s
    split at h <;> try exact h.elim
    cases (show v = _ from hx)
    have hl : (bytesIn s).length = s.size := by show _ = s.data.size; simp [bytesIn]
    have hr := byteCells_rows s ⟨0, 0, none, s.size, s.size, fun _ _ => ⟨none, 0, 0⟩⟩ hl.symm
    refine ⟨[.ints .u8 (bytesIn s)], ⟨0, 0, none, s.size, s.size, fun _ _ => ⟨none, 0, 0⟩⟩, ⟨?_, fun x hx => by simp at hx; subst hx; exact hl, fun c k ll hc => by cases c <;> simp at hc, fun k hk => absurd hk not_inner_ints, fun n hn => ?_⟩, h⟩
    rotate_left
    · have e : cwidth [Col.ints .u8 (bytesIn s)] = 1 := rfl
      rw [← hr, e, Nat.mul_one]
      simp [Builtin.firstCells, byteCells]
      apply Array.ext'
      simp
    rw [← hr]
    have e : cwidth [Col.ints .u8 (bytesIn s)] = 1 := rfl
    rw [e]
    exact ⟨hty, fun _ => rfl, firstCells_string s w, firstCells_string s w.drew, by rw [byteCells_length, Nat.mul_one], fun u hu => by
      obtain ⟨_, _, rfl⟩ := List.mem_map.1 hu
      rfl⟩
  · obtain ⟨cs, L, hr, hK⟩ := rdx_sound h hks hm hs hx
    refine ⟨cs, L, ⟨?_, hr.rep.ok, hr.rep.inner, fun k hk => ⟨hr.clean k hk, inner_lt hr.rep hk⟩, fun n hn => ?_⟩, hK⟩
    · rw [hr.val]
      exact hr.rep.src hty
    · rw [hr.val]
      exact hr.rep.firstN hn

/-- what appending comes to -/
theorem append_sound {tx ty ot e : TypeId} {ks : List Kd} {bytes d : Nat} {cx cy : List Col} {Lx Ly : Loc} {σ1 : Mem} {vx vy : Value} (hR : Rep E ρ fr σ a w) (hu : P.underlying tx = some (.slice e)) (hk : elemKinds P e = some (ks, bytes)) (hx : Takes ρ σ w vx cx Lx σ1) (hy : Gives P ρ σ w ty vy cy Ly)
    (h1 : kdsOf cx = ks) (h2 : kdsOf cy = ks) (hroom : Room (clen cx + clen cy) bytes) (hd : freshB d fr σ1 = true) :
    ∃ v w' L, (Builtin.append_ #[tx, ty] ot #[vx, vy]).run P w = .ok v w' ∧ v = .slice L.a L.len L.cap ∧ w.heap.size ≤ w'.heap.size ∧ Rep E (upd ρ d L) fr (Mem.ins d (.vec (catCols cx cy)) σ1) a w' := by
  obtain ⟨i, z, hi, hz, hzero, hsize, hwid, hbytes, _⟩ := elemKinds_sound hk
  have hkk : kdsOf cx = kdsOf cy := h1.trans h2.symm
  have wx : cwidth cx = width ks := by rw [cwidth, h1]
  have wy : cwidth cy = width ks := by rw [cwidth, h2]
  have wc : cwidth (catCols cx cy) = width ks := by rw [cwidth, catCols_kds hkk, h1]
  have hRx := hx.reads.rep
  have lx : clen cx = Lx.len := hRx.len
  have ly : clen cy = Ly.len := clen_ok (fun q => by rw [q] at wy; rw [← wy] at hwid; exact absurd hwid (by decide)) hy.ok
  rw [lx, ly] at hroom
  have hsrc := hy.src
  rw [wy, ← hsize] at hsrc
  have hR1 : Rep E ρ fr σ1 a w := hR.less hR.fr hx.less
  have cl1 : ∀ k, Clean ρ σ k → Clean ρ σ1 k := fun k hc m b hb => hc m b (hx.less m b hb)
  have hval := hx.reads.val
  by_cases hfit : Lx.len + Ly.len ≤ Lx.cap
  · -- there is room
    let L : Loc := ⟨Lx.1, Lx.2, Lx.a, Lx.len + Ly.len, Lx.cap, catEl Lx Ly⟩
    by_cases hcap : Lx.cap = 0
    · -- nothing at all
      have l0 : Lx.len = 0 := by omega
      have m0 : Ly.len = 0 := by omega
      have hnil : rowCells Ly cy = [] := by simp [rowCells, m0]
      have hcells := hsrc.cells
      rw [hnil, m0] at hcells
      have hrun : (Builtin.append_ #[tx, ty] ot #[vx, vy]).run P w = .ok (.slice Lx.a 0 0) w := by
        have hlen := hsrc.len
        rw [m0] at hlen
        rw [hval, l0, hcap]
        rcases hsrc.kind with ⟨e', hkd⟩ | hkd <;> cases Lx.a <;> simp [Builtin.append_, run_underlying hu, run_underlying hkd, sizeOf, typeInfo, hi, hlen, hcells, storeCells]
      have hV : VRep w L (catCols cx cy) := cat_rep (N := L) hRx hy.ok hy.inner hkk rfl rfl hfit (fun q => by have : Lx.len + Ly.len ≠ 0 := q; omega) (fun j v hj => by
        have hxn : rowCells Lx cx = [] := by simp [rowCells, l0]
        rw [hxn, hnil] at hj; simp at hj) (fun _ _ => rfl) (fun _ _ => rfl)
      refine ⟨_, w, L, hrun, by show _ = Value.slice Lx.a (Lx.len + Ly.len) Lx.cap; rw [l0, m0, hcap], Nat.le_refl _, ?_⟩
      refine (add_sound (b := .vec (catCols cx cy)) hR1 hd hR.keep (fun _ _ _ _ _ => rfl) ⟨by rw [upd_eq]; exact hV, by rw [upd_eq]; exact fun q => absurd hcap q⟩ (fun k hk => ?_) (fun k hk => ?_)).find_eq (find_ins (freshB_parts hd).2.2)
      · simp only [Out, upd_eq] at hk; exact absurd hcap hk.1
      · simp only [Foot, upd_eq] at hk
        rcases hk with ⟨q, _⟩ | hk
        · exact absurd hcap q
        · rcases inner_cat rfl hkk hRx.ok hk with q | q
          · exact cl1 k (hx.reads.clean k q)
          · exact cl1 k (hy.clean k q).1
    · obtain ⟨ha, c, T, fz, hh, hcz, hfz⟩ := hx.write hcap
      obtain ⟨n, b, hn, hO, hgone⟩ := hx.gone hcap
      rw [wx] at hcz
      have hnl := hsrc.newsLen
      have hlen2 : (Lx.len + Ly.len) * width ks ≤ Lx.cap * width ks := Nat.mul_le_mul_right _ hfit
      rw [Nat.add_mul] at hlen2
      rw [hsize] at hnl
      obtain ⟨w', cur', e1, e2, e3, e4, e5, e6, e7, e8, e9⟩ := store_cells P (g := Lx.1) (o := Lx.2 + Lx.len * width ks) (rowCells Ly cy) 0 c.toList w hh (by simpa using hfz) (by simp; omega) hsrc.one
      have hrun : (Builtin.append_ #[tx, ty] ot #[vx, vy]).run P w = .ok (.slice Lx.a (Lx.len + Ly.len) Lx.cap) w' := by
        have hcells := hsrc.cells
        have hlen := hsrc.len
        rw [hval, ha]
        have hadd : (Lx.at 0).add (Lx.len * width ks) = ⟨Lx.1, Lx.2 + Lx.len * width ks, none⟩ := by rw [Loc.at_add, Nat.zero_add]; rfl
        rw [hsize] at hcells
        rcases hsrc.kind with ⟨e', hkd⟩ | hkd <;> simp [Builtin.append_, run_underlying hu, run_underlying hkd, sizeOf, typeInfo, hi, hlen, hfit, hsize, hcells, hadd, e1]
      have hinn : ∀ k, Clean ρ σ k → w'.heap[k]? = w.heap[k]? := fun k hc => e3 k fun q => by subst q; exact hc n b hn hO
      have hV : VRep w' L (catCols cx cy) := cat_rep (N := L) hRx hy.ok hy.inner hkk rfl rfl hfit (fun _ => ha) (fun j v hj => by
        have hlt : j < Lx.len * width ks + Ly.len * width ks := by
          have := (List.getElem?_eq_some_iff.1 hj).1
          rw [List.length_append, rowCells_len, rowCells_len, wx, wy] at this; exact this
        have h9 := e9 (Lx.2 + j)
        simp only [World.cell?, Loc.at, L, e2, Option.isSome_none, Bool.false_eq_true, if_false]
        rw [List.getElem?_toArray, h9]
        rw [List.getElem?_append, rowCells_len, wx] at hj
        by_cases hjx : j < Lx.len * width ks
        · rw [if_pos hjx] at hj
          rw [if_neg (by omega)]
          have := hRx.cell hj
          simp only [World.cell?, Loc.at, hh, Option.isSome_none, Bool.false_eq_true, if_false] at this
          simpa using this
        · rw [if_neg hjx] at hj
          rw [if_pos (by omega), ← hj]
          congr 1; omega) (fun k hk => hinn k (hx.reads.clean k hk)) (fun k hk => hinn k (hy.clean k hk).1)
      have hother : ∀ m c', Mem.find σ1 m = some c' → m ≠ n := fun m c' hm q => by subst q; rw [hgone] at hm; cases hm
      refine ⟨_, w', L, hrun, rfl, by rw [e4]; exact Nat.le_refl _, ?_⟩
      refine (add_sound (b := .vec (catCols cx cy)) hR1 hd ⟨e5.trans hR.keep.os, e6.trans hR.keep.tape, e7.trans hR.keep.output, by rw [e4]; exact hR.keep.size, fun k hk hx' => ?_⟩ (fun m c' k hm hk => e3 k fun q => ?_) ⟨by rw [upd_eq]; exact hV, by rw [upd_eq]; exact fun _ => ⟨ha, cur'.toArray, T, fz, e2, by rw [wc]; show Lx.2 + Lx.cap * width ks ≤ _; simp [e8]; omega, by simpa [e8] using hfz⟩⟩ (fun k hk => ?_) (fun k hk => ?_)).find_eq (find_ins (freshB_parts hd).2.2)
      · rw [← hR.keep.block k hk hx']
        refine e3 k fun q => ?_
        subst q
        rcases hR.own n b _ hn hO with q | q
        · omega
        · exact hx' q
      · subst q
        exact hR.sep.1 n m b c' _ hn (hx.less m c' hm) (Ne.symm (hother m c' hm)) hO hk
      · simp only [Out, upd_eq] at hk
        obtain ⟨_, hk⟩ := hk
        have hk' : k = Lx.1 := hk
        subst hk'
        refine ⟨hR.own n b _ hn hO, fun m c' hm hF => hR.sep.1 n m b c' _ hn (hx.less m c' hm) (Ne.symm (hother m c' hm)) hO hF, fun hI => ?_⟩
        simp only [Inn, upd_eq] at hI
        rcases inner_cat rfl hkk hRx.ok hI with q | q
        · exact hx.reads.clean _ q n b hn hO
        · exact (hy.clean _ q).1 n b hn hO
      · simp only [Foot, upd_eq] at hk
        rcases hk with ⟨_, hk⟩ | hk
        · have hk' : k = Lx.1 := hk
          subst hk'
          exact fun m c' hm hO' => hR.sep.1 n m b c' _ hn (hx.less m c' hm) (Ne.symm (hother m c' hm)) hO hO'.foot
        · rcases inner_cat rfl hkk hRx.ok hk with q | q
          · exact cl1 k (hx.reads.clean k q)
          · exact cl1 k (hy.clean k q).1
  · -- a new block
    have hg : Lx.cap < Lx.len + Ly.len := by omega
    have hfirst := hRx.drew.first (P := P)
    rw [wx, ← hsize] at hfirst
    have hb := hroom.le
    have h63 : ((Lx.len + Ly.len : Nat) : Int) ≤ 9223372036854775807 := by
      have : (5 * (Lx.len + Ly.len) + 4096) * 1 ≤ (5 * (Lx.len + Ly.len) + 4096) * bytes := Nat.mul_le_mul_left _ (by omega)
      omega
    have hrun := run_append_grow_src (P := P) w tx ty ot e i z hu hi hz Lx.a Lx.len Lx.cap (rowCells Lx cx) hfirst vy Ly.len (rowCells Ly cy) hsrc hg h63 (by rw [hbytes]; exact room_fits hroom hg)
    rw [← hval] at hrun
    generalize hG : grownCap w (Lx.len + Ly.len) Lx.cap e = G at hrun
    have hGle : Lx.len + Ly.len ≤ G := by
      rw [← hG]; unfold grownCap Question.cut; simp
    generalize hC : (rowCells Lx cx ++ rowCells Ly cy).toArray ++ Builtin.zeroCells z.cells (G - (Lx.len + Ly.len)) = C at hrun
    have zsz : z.cells.size = width ks := by
      have := zero_len hzero
      simpa using this
    have hCs : C.size = G * width ks := by
      rw [← hC, Array.size_append, List.size_toArray, List.length_append, rowCells_len, rowCells_len, wx, wy, size_zeroCells, zsz, ← Nat.add_mul, ← Nat.add_mul]
      congr 1; omega
    let L : Loc := ⟨w.heap.size, 0, some ⟨w.heap.size, 0, none⟩, Lx.len + Ly.len, G, catEl Lx Ly⟩
    have new : (w.drew.alloc (.cells C e)).heap[w.heap.size]? = some (.cells C e) := by
      show (w.heap.push _)[w.heap.size]? = _
      simp
    have old : ∀ k, k < w.heap.size → (w.drew.alloc (.cells C e)).heap[k]? = w.heap[k]? := fun k hk => with_old (o := .cells C e) hk
    have hV : VRep (w.drew.alloc (.cells C e)) L (catCols cx cy) := cat_rep (N := L) hRx hy.ok hy.inner hkk rfl rfl hGle (fun _ => rfl) (fun j v hj => by
      simp only [World.cell?, Loc.at, L, new, Option.isSome_none, Bool.false_eq_true, if_false, Nat.zero_add]
      have hlt := (List.getElem?_eq_some_iff.1 hj).1
      rw [← hC, Array.getElem?_append, if_pos (by simpa using hlt), List.getElem?_toArray]
      exact hj) (fun k hk => old k (inner_lt hRx hk)) (fun k hk => old k (hy.clean k hk).2)
    refine ⟨_, _, L, hrun, rfl, by show _ ≤ (w.heap.push _).size; simp, newvec (L := L) hR1 hd (C := C) (T := e) (fz := (0, 0)) rfl rfl rfl rfl hV rfl rfl rfl (by rw [wc, hCs]; exact Nat.le_refl _) (fun j _ => by simp) (fun k hk => ?_)⟩
    rcases inner_cat rfl hkk hRx.ok hk with q | q
    · exact ⟨cl1 k (hx.reads.clean k q), inner_lt hRx q⟩
    · exact ⟨cl1 k (hy.clean k q).1, (hy.clean k q).2⟩
end
end Go.Sx

/- Texts and bytes; copy. -/
namespace Go.Sx
open Go
set_option linter.unusedSimpArgs false
set_option linter.unusedVariables false
section
variable {P : Program} {E : Env} {ρ : Rho} {fr : Fr} {σ : Mem} {a : Act} {w : World}

theorem bytesT_sound {t : TypeId} (h : bytesT P t = true) : ∃ e, P.underlying t = some (.slice e) ∧ P.underlying e = some (.int .u8) ∧ sizeB P e = some 1 := by
  unfold bytesT at h
  split at h <;> try (cases h; done)
  rename_i e hu
  split at h <;> try (cases h; done)
  rename_i he
  split at h <;> try (cases h; done)
  rename_i hs
  exact ⟨e, hu, he, hs⟩

theorem strT_sound {t : TypeId} (h : strT P t = true) : P.underlying t = some .string := by
  unfold strT at h
  split at h
  · rename_i hu; exact hu
  · cases h

theorem bytesRow_size (s : ByteArray) (cap : Nat) (h : s.size ≤ cap) : (bytesRow s cap).size = cap := by
  have : (s.data.map fun b => Value.int .u8 (b.toNat : Int)).size = s.size := by rw [Array.size_map]; rfl
  simp only [bytesRow, Array.size_append, this, Array.size_replicate]; omega

theorem text_bytes {s d e : TypeId} {b : ByteArray} {dn : Nat} (h : Rep E ρ fr σ a w) (hs : P.underlying s = some .string) (hd : P.underlying d = some (.slice e)) (he : P.underlying e = some (.int .u8)) (hfr : freshB dn fr σ = true) :
    ∃ v w' L, (convert s d (.string b)).run P w = .ok v w' ∧ v = .slice L.a L.len L.cap ∧ w.heap.size ≤ w'.heap.size ∧ Keeps (fun _ => False) w w' ∧ Rep E (upd ρ dn L) fr (Mem.ins dn (.vec [.ints .u8 (bytesIn b)]) σ) a w' := by
  have hrun := run_bytes_of_string (P := P) w s d e b hs hd he
  generalize hG : grownCap w b.size 0 e = G at hrun
  have hGle : b.size ≤ G := by
    rw [← hG]; unfold grownCap Question.cut; simp
  have hC := bytesRow_size b G hGle
  let L : Loc := ⟨w.heap.size, 0, some ⟨w.heap.size, 0, none⟩, b.size, G, fun _ _ => ⟨none, 0, 0⟩⟩
  have new : (w.drew.alloc (.cells (bytesRow b G) e ((bytesRow b G).size, (bytesRow b G).size + 1))).heap[w.heap.size]? = some (.cells (bytesRow b G) e ((bytesRow b G).size, (bytesRow b G).size + 1)) := by
    show (w.heap.push _)[w.heap.size]? = _
    simp
  have hl : (bytesIn b).length = b.size := by show _ = b.data.size; simp [bytesIn]
  refine ⟨_, _, L, hrun, rfl, by show _ ≤ (w.heap.push _).size; simp, ⟨rfl, rfl, rfl, by show _ ≤ (w.heap.push _).size; simp, fun k hk _ => with_old (o := .cells _ e _) hk⟩, newvec (L := L) h hfr (C := bytesRow b G) (T := e) (fz := ((bytesRow b G).size, (bytesRow b G).size + 1)) rfl rfl rfl rfl (.ofInts hl hGle (fun _ => rfl) (fun j x hx => ?_)) rfl rfl rfl (by show G * 1 ≤ _; omega) (fun j hj => by simp; omega) (fun k hk => absurd hk not_inner_ints)⟩
  simp only [World.cell?, Loc.at, L, new, Option.isSome_none, Bool.false_eq_true, if_false, Nat.zero_add]
  have hj := (List.getElem?_eq_some_iff.1 hx).1
  have hj' : j < b.data.size := by have : b.size = b.data.size := rfl
                                   omega
  simp only [bytesIn, List.getElem?_map, Array.getElem?_toList, Array.getElem?_eq_getElem hj', Option.map_some, Option.some.injEq] at hx
  subst hx
  have hjs : j < b.size := by have : b.size = b.data.size := rfl
                              omega
  simp [bytesRow, Array.getElem?_append, hjs, hj']

theorem bytes_text {s d e : TypeId} {l : List Int} {v : Value} {L : Loc} (hr : Reads ρ σ w v [.ints .u8 l] L) (hs : P.underlying s = some (.slice e)) (he : P.underlying e = some (.int .u8)) (hd : P.underlying d = some .string) :
    (convert s d v).run P w = .ok (.string (bytesOf l)) w := by
  have hl : l.length = L.len := hr.rep.ok (.ints .u8 l) (by simp)
  rw [hr.val, run_convert_bytes_string w s d e _ _ _ hs he hd]
  cases ha : L.a with
  | none =>
    have hl0 : L.len = 0 := by
      by_cases q : L.len = 0
      · exact q
      · have := hr.rep.adr q; rw [ha] at this; cases this
    have : l = [] := by cases l <;> simp_all
    subst this
    simp [Conv.bytesToString, bytesOf, ByteArray.empty, ByteArray.emptyWithCapacity]
    rfl
  | some x =>
    have hload : (loadCells x L.len).run P w = .ok (l.map (Value.int .u8)).toArray w := by
      have := run_loadCells_list (P := P) w x (l.map (Value.int .u8)) (fun j u hj => by
        simp only [List.getElem?_map, Option.map_eq_some_iff] at hj
        obtain ⟨y, hy, rfl⟩ := hj
        have hlt := (List.getElem?_eq_some_iff.1 hy).1
        have had := hr.rep.adr (by omega)
        rw [ha] at had
        cases had
        rw [Loc.at_add, Nat.zero_add]
        have := hr.rep.cells j (by omega) 0 (by show 0 < 1; omega)
        have e1 : cwidth [Col.ints .u8 l] = 1 := rfl
        rw [e1, Nat.mul_one, Nat.add_zero] at this
        rw [this]
        simp [rowVal, Col.kd, Kd.width, colVal, lget, List.getD, hy])
      rw [List.length_map, hl] at this
      exact this
    rw [run_bytesToString w x L.len L.cap l hload, foldl_push_bytes]
    simp [bytesOf, ByteArray.empty, ByteArray.emptyWithCapacity]
    rfl

/-! ### the bytes of a constant string: the row is marked, and from then on only read -/
theorem mark_sound {s e : TypeId} {n : Nat} {l : List Int} (hR : Rep E ρ fr σ a w) (hn : Mem.find σ n = some (.vec [.ints .u8 l])) (hl : 0 < l.length) (hs : P.underlying s = some (.slice e)) (he : P.underlying e = some (.int .u8)) :
    ∃ w', (convert s s (.slice (ρ n).a (ρ n).len (ρ n).cap)).run P w = .ok (.slice (ρ n).a (ρ n).len (ρ n).cap) w' ∧ w'.heap.size = w.heap.size ∧ Rep E ρ fr (σ.put n (.rview [.ints .u8 l])) a w' := by
  obtain ⟨hV, hW⟩ := hR.mem n _ hn
  have hlen : l.length = (ρ n).len := hV.ok (.ints .u8 l) (by simp)
  have hcap := hV.cap
  have hc0 : (ρ n).cap ≠ 0 := by omega
  obtain ⟨ha, c, T, fz, hh, hfit, hfz⟩ := hW hc0
  have hsh : w.shape? (ρ n).1 = some (T, c.size) := by simp [World.shape?, hh]
  refine ⟨w.freeze ⟨(ρ n).1, c.size, none⟩ 1, ?_, ?_, ?_⟩
  · rw [ha]
    simp [convert, run_underlying hs, run_underlying he, markStringish, Loc.at, hsh]
  · simp [World.freeze]
  have hother : ∀ k, k ≠ (ρ n).1 → (w.freeze ⟨(ρ n).1, c.size, none⟩ 1).heap[k]? = w.heap[k]? := fun k hk => by
    simp only [World.freeze, if_neg (show ¬ (1 : Nat) = 0 by decide), Array.getElem?_modify, if_neg (Ne.symm hk)]
  have hcell : ∀ A : Addr, (w.freeze ⟨(ρ n).1, c.size, none⟩ 1).cell? A = w.cell? A := fun A => by
    by_cases hA : A.block = (ρ n).1
    · simp only [World.cell?, World.freeze, if_neg (show ¬ (1 : Nat) = 0 by decide), Array.getElem?_modify, hA, if_pos, hh, Option.map_some]
    · simp only [World.cell?, hother _ hA]
  refine change_sound hR hn (g := (ρ n).1) ⟨hc0, rfl⟩ hother (by simp [World.freeze]) (by simp [World.freeze]) (by simp [World.freeze]) (by simp [World.freeze]) ?_ (fun k hk => hk.elim) (fun k hk => ?_) (fun k hk => hk)
  · exact ⟨hV.ne, hV.wid, hV.ok, hV.cap, hV.adr, fun i hi t ht => by rw [hcell]; exact hV.cells i hi t ht, fun c' k ll hcc => by cases c' <;> simp at hcc⟩
  · rcases hk with ⟨_, rfl⟩ | hk
    · exact Or.inl ⟨hc0, rfl⟩
    · exact Or.inr hk

/-! ### copy -/
theorem lput_get (l v : List Int) (i j : Nat) (hi : i + v.length ≤ l.length) : (lput l i v)[j]? = if i ≤ j ∧ j < i + v.length then v[j - i]? else l[j]? := by
  simp only [lput]
  by_cases h1 : j < i
  · rw [if_neg (by omega), List.append_assoc, List.getElem?_append_left (by simp; omega), List.getElem?_take, if_pos h1]
  · by_cases h2 : j < i + v.length
    · rw [if_pos (by omega), List.append_assoc, List.getElem?_append_right (by simp; omega), List.getElem?_append_left (by simp; omega)]
      congr 1; simp; omega
    · rw [if_neg (by omega), List.getElem?_append_right (by simp; omega), List.getElem?_drop]
      congr 1; simp; omega

theorem lput_len (l v : List Int) (i : Nat) (hi : i + v.length ≤ l.length) : (lput l i v).length = l.length := by simp [lput]; omega

theorem ints_cells {L : Loc} {k : IntKind} {l : List Int} (hl : l.length = L.len) : rowCells L [.ints k l] = l.map (Value.int k) := by
  have e : cwidth [Col.ints k l] = 1 := rfl
  apply List.ext_getElem?
  intro j
  simp only [rowCells, e, Nat.mul_one, List.getElem?_map]
  by_cases hj : j < L.len
  · simp [hj, show j < l.length by omega, rowVal, Col.kd, Kd.width, colVal, lget, List.getD, Nat.mod_one]
  · rw [List.getElem?_eq_none (by simpa using hj), List.getElem?_eq_none (by omega)]; rfl

/-- the model's copy, when its writes are known -/
theorem run_copy {tx ty ot e : TypeId} {k : IntKind} {src : List Int} {Ly : Loc} {vy : Value} {A : Option Addr} {dlen dcap : Nat} {w' : World} (hu : P.underlying tx = some (.slice e)) (hs : sizeB P e = some 1) (hy : Gives P ρ σ w ty vy [.ints k src] Ly)
    (hst : ∀ x, A = some x → (storeCells x ((lsub src 0 (nmin (llen src) dlen)).map (Value.int k))).run P w = .ok () w') (hn : A = none → w' = w) :
    (Builtin.copy_ #[tx, ty] ot #[.slice A dlen dcap, vy]).run P w = .ok (.int .i64 (ofNat (nmin (llen src) dlen))) w' := by
  have hl : src.length = Ly.len := hy.ok (.ints k src) (by simp)
  have hsi : ∃ i, P.info? e = some i ∧ i.size = 1 := by
    unfold sizeB at hs
    cases hi : P.info? e with
    | none => rw [hi] at hs; cases hs
    | some i => rw [hi] at hs; exact ⟨i, rfl, by simpa using hs⟩
  obtain ⟨i, hi, hi1⟩ := hsi
  have hlen := hy.src.len
  have hmin : Nat.min Ly.len dlen = nmin (llen src) dlen := by simp only [nmin, llen, hl]
  have hfirst := hy.firstN (nmin (llen src) dlen) (by rw [← hmin]; exact Nat.min_le_left _ _)
  have e1 : cwidth [Col.ints k src] = 1 := rfl
  rw [e1, Nat.mul_one, ints_cells hl] at hfirst
  have htake : (src.map (Value.int k)).take (nmin (llen src) dlen) = (lsub src 0 (nmin (llen src) dlen)).map (Value.int k) := by simp [lsub, List.map_take]
  rw [htake] at hfirst
  cases A with
  | none =>
    have := hn rfl
    subst this
    simp [Builtin.copy_, run_underlying hu, sizeOf, typeInfo, hi, hi1, hlen, hmin, hfirst, goInt, ofNat]
  | some x =>
    simp [Builtin.copy_, run_underlying hu, sizeOf, typeInfo, hi, hi1, hlen, hmin, hfirst, goInt, ofNat, hst x rfl]

theorem kinds_size {e : TypeId} {k : IntKind} {bytes : Nat} (h : elemKinds P e = some ([.ints k], bytes)) : sizeB P e = some 1 := by
  obtain ⟨i, z, hi, _, _, hsize, _⟩ := elemKinds_sound h
  simp [sizeB, hi, hsize, width, Kd.width]

/-- copying into a list of the walk's own -/
theorem copy_vec {n i len : Nat} {k : IntKind} {l src : List Int} {A : Option Addr} (hR : Rep E ρ fr σ a w) (hn : Mem.find σ n = some (.vec [.ints k l])) (hi : i + len ≤ (ρ n).len) (hA : len ≠ 0 → A = some (at_ ρ n i)) :
    ∃ w', (∀ x, A = some x → (storeCells x ((lsub src 0 (nmin (llen src) len)).map (Value.int k))).run P w = .ok () w') ∧ w'.heap.size = w.heap.size ∧ (A = none → w' = w) ∧ Rep E ρ fr (σ.put n (.vec [.ints k (lput l i (lsub src 0 (nmin (llen src) len)))])) a w' := by
  have hV := (hR.mem n _ hn).1
  have hl : l.length = (ρ n).len := hV.ok (.ints k l) (by simp)
  have hm : nmin (llen src) len ≤ len := Nat.min_le_right _ _
  have hms : nmin (llen src) len ≤ src.length := Nat.min_le_left _ _
  have hvl : (lsub src 0 (nmin (llen src) len)).length = nmin (llen src) len := lsub_len _ _ _ (by omega)
  generalize hv : lsub src 0 (nmin (llen src) len) = v at hvl ⊢
  have e1 : ∀ l, cwidth [Col.ints k l] = 1 := fun _ => rfl
  obtain ⟨w', h1, h2, h3, _⟩ := vec_store (P := P) (q := i) (cs' := [.ints k (lput l i v)]) (vs := v.map (Value.int k)) hR hn rfl (fun col hcol => by simp at hcol; subst hcol; show _ = _; rw [lput_len _ _ _ (by omega), hl]) (fun c kk ll hc => by cases c <;> simp at hc)
    (by rw [e1]; simp; omega) (fun u hu => by obtain ⟨_, _, rfl⟩ := List.mem_map.1 hu; rfl) (fun r hr t ht => by
      rw [e1] at ht ⊢
      have ht0 : t = 0 := by omega
      subst ht0
      simp only [Nat.mul_one, Nat.add_zero, rowVal, Col.kd, Kd.width, Nat.lt_one_iff, if_true, colVal, List.length_map]
      have hg := lput_get l v i r (by omega)
      rw [lget_some (l := lput l i v) (i := r) (by rw [lput_len _ _ _ (by omega)]; omega)] at hg
      by_cases hin : i ≤ r ∧ r < i + v.length
      · rw [if_pos hin] at hg ⊢
        rw [List.getElem?_map, ← hg]; rfl
      · rw [if_neg hin] at hg ⊢
        rw [lget_some (l := l) (i := r) (by omega)] at hg
        simp only [Option.some.injEq] at hg
        rw [hg])
  by_cases h0 : len = 0
  · have hv0 : v = [] := by cases v <;> simp_all
    rw [hv0] at h1 h3 ⊢
    have hw : w' = w := by simp [storeCells] at h1; exact h1.symm
    exact ⟨w', fun x _ => by rw [hw]; simp [storeCells], h2, fun _ => hw, h3⟩
  · have := hA h0
    exact ⟨w', fun x hx => (by rw [this] at hx; cases hx; exact h1), h2, fun q => (by rw [this] at q; cases q), h3⟩

theorem copyx_sound {tx ty ot : TypeId} {x y : AV} {vx vy : Value} {K : AV → Mem → Prop} (h : copyx P tx x y σ K) (hR : Rep E ρ fr σ a w) (hx : SRep ρ x vx) (hy : SRep ρ y vy) (hty : (∃ e', P.underlying ty = some (.slice e')) ∨ P.underlying ty = some .string) :
    ∃ m w' σ', (Builtin.copy_ #[tx, ty] ot #[vx, vy]).run P w = .ok (.int .i64 m) w' ∧ w.heap.size ≤ w'.heap.size ∧ Rep E ρ fr σ' a w' ∧ K (.one (.int .i64 m)) σ' := by
  unfold copyx at h
  split at h <;> try exact h.elim
  rename_i e hu
  split at h <;> try exact h.elim
  rename_i k bytes hk
  have hs := kinds_size hk
  obtain ⟨cy, Ly, hG, h'⟩ := rdy_sound (P := P) (w := w) h Nat.one_pos hR.mem hR.sep hy hty
  clear h
  have h := h'
  clear h'
  split at h <;> try exact h.elim
  rename_i k1 src
  split at h <;> try exact h.elim
  rename_i hk1
  subst hk1
  split at h <;> try exact h.elim
  · rename_i n
    split at h <;> try exact h.elim
    rename_i k2 l hn
    split at h <;> try exact h.elim
    rename_i hk2
    subst hk2
    have hV := (hR.mem n _ hn).1
    have hl : l.length = (ρ n).len := hV.ok (.ints k2 l) (by simp)
    obtain ⟨w', h1, h2, h3, h4⟩ := copy_vec (P := P) (src := src) (i := 0) (len := (ρ n).len) (A := (ρ n).a) hR hn (by omega) (fun q => hV.adr q)
    have e : llen l = (ρ n).len := hl
    rw [e] at h
    cases (show vx = _ from hx)
    exact ⟨_, w', _, run_copy hu hs hG h1 h3, by omega, h4, h⟩
  · rename_i n i len
    split at h <;> try exact h.elim
    rename_i k2 l hn
    split at h <;> try exact h.elim
    rename_i hk2
    subst hk2
    have hV := (hR.mem n _ hn).1
    obtain ⟨A, cap, rfl, g1, g2, g3, g4⟩ := hx
    obtain ⟨w', h1, h2, h3, h4⟩ := copy_vec (P := P) (src := src) (i := i) (len := len) (A := A) hR hn g2 (fun q => by
      rcases g3 with g3 | ⟨_, rfl⟩
      · omega
      · rw [g4 (by omega), Option.map_some, Loc.at_add, Nat.zero_add, Nat.mul_one]; rfl)
    exact ⟨_, w', _, run_copy hu hs hG h1 h3, by omega, h4, h⟩
  · rename_i n base idx len cap
    split at h <;> try exact h.elim
    rename_i T s hn
    split at h <;> try exact h.elim
    rename_i k2 N l hf
    split at h <;> try exact h.elim
    rename_i hk2
    subst hk2
    obtain ⟨hfit, h⟩ := h
    have hle : idx + len ≤ N := hfit.le
    split at h <;> try exact h.elim
    rename_i s' hset
    obtain ⟨hlc, hx⟩ := hx
    have hms : nmin (llen src) len ≤ src.length := Nat.min_le_left _ _
    have hml : nmin (llen src) len ≤ len := Nat.min_le_right _ _
    have hvl : (lsub src 0 (nmin (llen src) len)).length = nmin (llen src) len := lsub_len _ _ _ (by omega)
    have ho : segsOk s := (hR.mem n _ hn).1
    have hpart : storePart s (nmin (llen src) len) base idx [.ints k2 (nmin (llen src) len) (lsub src 0 (nmin (llen src) len))] (fun s'' => s'' = s') := by
      simp only [storePart, hf, if_true, hset, and_true]
      exact ⟨by simp only [nadd]; omega⟩
    obtain ⟨s'', rfl, q1, q2, q3, q4, q5⟩ := storePart_sound hpart ho ⟨hvl, trivial⟩
    obtain ⟨w', h1, h2, h3, _⟩ := put_sound (P := P) hR (vs := (lsub src 0 (nmin (llen src) len)).map (Value.int k2)) (yl := (lsub src 0 (nmin (llen src) len)).map (AC.int k2)) hn q1 q2 q3 (by simpa using hvl) (fun u hu => by obtain ⟨_, _, rfl⟩ := List.mem_map.1 hu; rfl) (fun j b u hb hu => by
      simp only [List.getElem?_map, Option.map_eq_some_iff] at hb hu
      obtain ⟨p, hp, rfl⟩ := hb
      obtain ⟨p', hp', rfl⟩ := hu
      rw [hp] at hp'; cases hp'; rfl) (fun j => by rw [q5 j]; simp [flat, Seg.flat])
    rcases hx with rfl | ⟨rfl, rfl, A, rfl⟩
    · exact ⟨_, w', _, run_copy (A := some (at_ ρ n (base + idx))) hu hs hG (fun x hx => by cases hx; exact h1) (fun q => by cases q), by omega, h3, h⟩
    · have hm0 : nmin (llen src) 0 = 0 := by omega
      have hv0 : lsub src 0 (nmin (llen src) 0) = [] := by rw [hm0] at hvl; cases hq : lsub src 0 (nmin (llen src) 0) <;> simp_all
      have hw : w' = w := by rw [hv0] at h1; simp [storeCells] at h1; exact h1.symm
      subst hw
      exact ⟨_, w', _, run_copy hu hs hG (fun x hx => by rw [hv0]; simp [storeCells]) (fun _ => rfl), by omega, h3, h⟩
end
end Go.Sx

/- Literals of lists. -/
namespace Go.Sx
open Go
set_option linter.unusedSimpArgs false
set_option linter.unusedVariables false
section
variable {P : Program} {E : Env} {ρ : Rho} {fr : Fr} {σ : Mem} {a : Act} {w : World}

theorem ints_elt {L : Loc} {k : IntKind} {l : List Int} (h : VRep w L [.ints k l]) : EltRep w ⟨L.a, L.len, L.cap⟩ k l := by
  have hl : l.length = L.len := h.ok (.ints k l) (by simp)
  have e1 : cwidth [Col.ints k l] = 1 := rfl
  refine ⟨hl.symm, h.cap, fun hne => ⟨_, h.adr (fun q => hne (by cases l <;> simp_all))⟩, fun j x hx A hA => ?_⟩
  have hlt := (List.getElem?_eq_some_iff.1 hx).1
  have had := h.adr (by omega)
  have hA' : L.a = some A := hA
  rw [had] at hA'
  cases hA'
  rw [Loc.at_add, Nat.zero_add]
  have := h.cells j (by omega) 0 (by rw [e1]; omega)
  rw [e1, Nat.mul_one, Nat.add_zero] at this
  rw [this]
  simp [rowVal, Col.kd, Kd.width, colVal, lget, List.getD, hx]

/-- a slice that is laid into a list -/
structure Shares (ρ : Rho) (σ : Mem) (w : World) (v : Value) (k : IntKind) (l : List Int) (e : Elt) (σ1 : Mem) : Prop where
  val : v = .slice e.a e.len e.cap
  rep : EltRep w e k l
  clean : l ≠ [] → ∀ x, e.a = some x → Clean ρ σ1 x.block ∧ x.block < w.heap.size
  less : ∀ m b, Mem.find σ1 m = some b → Mem.find σ m = some b

theorem Reads.shares {v : Value} {k : IntKind} {l : List Int} {L : Loc} {σ1 : Mem} (h : Reads ρ σ w v [.ints k l] L) (hc : L.len ≠ 0 → Clean ρ σ1 L.1) (hl : ∀ m b, Mem.find σ1 m = some b → Mem.find σ m = some b) : Shares ρ σ w v k l ⟨L.a, L.len, L.cap⟩ σ1 := by
  have hlen : l.length = L.len := h.rep.ok (.ints k l) (by simp)
  refine ⟨h.val, ints_elt h.rep, fun hne x hx => ?_, hl⟩
  have h0 : L.len ≠ 0 := fun q => hne (by cases l <;> simp_all)
  have had := h.rep.adr h0
  have hx' : L.a = some x := hx
  rw [had] at hx'
  cases hx'
  exact ⟨hc h0, footL_lt h.rep (Or.inl ⟨h0, rfl⟩)⟩

theorem clean_erase (hs : Sep ρ σ) {n k : Nat} {b : Blk} (hn : Mem.find σ n = some b) (hf : Foot ρ n b k) : Clean ρ (σ.erase n) k := by
  intro m c hm hO
  rw [find_erase] at hm
  split at hm
  · cases hm
  · rename_i hne
    exact hs.1 m n c b k hm hn hne hO hf

theorem clean_view (hs : Sep ρ σ) {n k : Nat} {b : Blk} (hn : Mem.find σ n = some b) (hf : Foot ρ n b k) (hv : ∀ k, ¬ Out ρ n b k) : Clean ρ σ k := by
  intro m c hm hO
  by_cases e : m = n
  · subst e; rw [hn] at hm; cases hm; exact hv k hO
  · exact hs.1 m n c b k hm hn e hO hf

theorem sharex_sound {k : IntKind} {x : AC} {v : Value} {K : List Int → Mem → Prop} (h : sharex σ k x K) (hm : MemRep ρ σ w) (hs : Sep ρ σ) (hx : CRep ρ x v) : ∃ l e σ1, Shares ρ σ w v k l e σ1 ∧ K l σ1 := by
  have one : ∀ {cs : List Col} {σ' : Mem}, oneInts k (fun l => K l σ') cs → ∃ l, cs = [.ints k l] ∧ K l σ' := by
    intro cs σ' h'
    unfold oneInts at h'
    split at h' <;> try exact h'.elim
    split at h' <;> try exact h'.elim
    rename_i hk
    subst hk
    exact ⟨_, rfl, h'⟩
  have id_less : ∀ m b, Mem.find σ m = some b → Mem.find σ m = some b := fun _ _ q => q
  cases x with
  | vec n =>
    simp only [sharex, rdx] at h
    have foot : ∀ {cs b}, Mem.find σ n = some b → Mem.cols σ n = some cs → (ρ n).len ≠ 0 → Foot ρ n b (ρ n).1 := fun {cs b} hb hcs q => by
      obtain ⟨_, b', hb', _, hf⟩ := cols_sound hm hcs
      rw [hb] at hb'; cases hb'
      exact hf _ (Or.inl ⟨q, rfl⟩)
    cases hn : Mem.find σ n with
    | none => simp [hn, Mem.cols] at h
    | some b =>
      cases b with
      | vec cs =>
        have hcs : Mem.cols σ n = some cs := by simp [Mem.cols, hn]
        simp only [hn, hcs] at h
        obtain ⟨l, rfl, hK⟩ := one h
        exact ⟨l, _, _, (reads_vec hm hs hcs hx).shares (fun q => clean_erase hs hn (foot hn hcs q)) (erase_less n), hK⟩
      | rview cs =>
        have hcs : Mem.cols σ n = some cs := by simp [Mem.cols, hn]
        simp only [hn, hcs] at h
        obtain ⟨l, rfl, hK⟩ := one h
        exact ⟨l, _, _, (reads_vec hm hs hcs hx).shares (fun q => clean_view hs hn (foot hn hcs q) (fun k q => q)) id_less, hK⟩
      | own T s => simp [hn, Mem.cols] at h
      | view s => simp [hn, Mem.cols] at h
  | vsl n z i len =>
    simp only [sharex, rdx] at h
    have foot : ∀ {cs b}, Mem.find σ n = some b → Mem.cols σ n = some cs → (ρ n).len ≠ 0 → Foot ρ n b (ρ n).1 := fun {cs b} hb hcs q => by
      obtain ⟨_, b', hb', _, hf⟩ := cols_sound hm hcs
      rw [hb] at hb'; cases hb'
      exact hf _ (Or.inl ⟨q, rfl⟩)
    have hi := hx
    obtain ⟨_, _, _, _, hle, _⟩ := hi
    cases hn : Mem.find σ n with
    | none => simp [hn, Mem.cols] at h
    | some b =>
      cases b with
      | vec cs =>
        have hcs : Mem.cols σ n = some cs := by simp [Mem.cols, hn]
        simp only [hn, hcs] at h
        split at h <;> try exact h.elim
        rename_i hz
        obtain ⟨l, hl, hK⟩ := one h
        obtain ⟨A, cap, hr, _⟩ := reads_vsl hm hs hcs (beq_nat hz) hx
        rw [hl] at hr
        exact ⟨l, _, _, hr.shares (fun q => clean_erase hs hn (foot hn hcs (by have : len ≠ 0 := q; omega))) (erase_less n), hK⟩
      | rview cs =>
        have hcs : Mem.cols σ n = some cs := by simp [Mem.cols, hn]
        simp only [hn, hcs] at h
        split at h <;> try exact h.elim
        rename_i hz
        obtain ⟨l, hl, hK⟩ := one h
        obtain ⟨A, cap, hr, _⟩ := reads_vsl hm hs hcs (beq_nat hz) hx
        rw [hl] at hr
        exact ⟨l, _, _, hr.shares (fun q => clean_view hs hn (foot hn hcs (by have : len ≠ 0 := q; omega)) (fun k q => q)) id_less, hK⟩
      | own T s => simp [hn, Mem.cols] at h
      | view s => simp [hn, Mem.cols] at h
  | sl n base idx len cap =>
    simp only [sharex, rdx] at h
    cases hn : Mem.find σ n with
    | none => simp [hn] at h
    | some b =>
      simp only [hn] at h
      have seg : ∀ {σ' : Mem}, (match findSeg b.segs base with | some (.ints k' N l) => Fits (nadd idx len) N ∧ oneInts k (fun l => K l σ') [Col.ints k' (lsub l idx len)] | _ => False) →
          ∃ N l, findSeg b.segs base = some (.ints k N l) ∧ idx + len ≤ N ∧ K (lsub l idx len) σ' := by
        intro σ' h
        split at h <;> try exact h.elim
        rename_i k' N l hf
        obtain ⟨h1, h2⟩ := h
        obtain ⟨l', hl', hK⟩ := one h2
        simp only [List.cons.injEq, Col.ints.injEq, and_true] at hl'
        obtain ⟨rfl, rfl⟩ := hl'
        exact ⟨N, l, hf, h1.le, hK⟩
      have foot : ∀ {L : Loc} {l : List Int} {N}, findSeg b.segs base = some (.ints k N l) → idx + len ≤ N → (L.cap ≠ 0 → L.cap = cap ∧ L.1 = (ρ n).1 ∧ L.2 = (ρ n).2 + (base + idx) ∧ L.a = some (L.at 0)) → Reads ρ σ w v [.ints k (lsub l idx len)] L → L.len ≠ 0 → Foot ρ n b L.1 := by
        intro L l N hf hle h2 hr q
        have hc := hr.rep.cap
        rw [(h2 (by omega)).2.1]
        have hl : (lsub l idx len).length = L.len := hr.rep.ok (.ints k _) (by simp)
        have hne : flat b.segs ≠ [] := fun e => by
          have h1 := findSeg_len hf
          have h3 := flat_length (hm n b hn).cells.1
          rw [e] at h3
          simp only [Seg.len] at h1
          simp at h3
          have : N = 0 := by omega
          have : len = 0 := by omega
          subst this
          simp [lsub] at hl
          exact q hl.symm
        cases b with
        | own T s => rfl
        | view s => exact ⟨hne, rfl⟩
        | vec cs => exact absurd rfl hne
        | rview cs => exact absurd rfl hne
      cases b with
      | own T s =>
        simp only at h
        obtain ⟨N, l, hf, hle, hK⟩ := seg h
        obtain ⟨L, hr, h2⟩ := reads_sl hm hs hn hf hle hx
        exact ⟨_, _, _, hr.shares (fun q => clean_erase hs hn (foot hf hle h2 hr q)) (erase_less n), hK⟩
      | view s =>
        simp only at h
        obtain ⟨N, l, hf, hle, hK⟩ := seg h
        obtain ⟨L, hr, h2⟩ := reads_sl hm hs hn hf hle hx
        exact ⟨_, _, _, hr.shares (fun q => clean_view hs hn (foot hf hle h2 hr q) (fun k q => q)) id_less, hK⟩
      | vec cs => simp [Blk.segs, findSeg] at h
      | rview cs => simp [Blk.segs, findSeg] at h
  | el n c i =>
    have h' : rdx σ [.ints k] (.one (.el n c i)) (oneInts k fun l => K l σ) := h
    simp only [rdx] at h'
    split at h' <;> try exact h'.elim
    rename_i k' ll hr
    obtain ⟨l, hl, hK⟩ := one h'
    cases hl
    obtain ⟨cs, hc, hlen, hV, b, hb, hbb, hf⟩ := rows_sound hm hr
    obtain ⟨rfl, hi⟩ := hx
    have he := hV.inner c k ll hc i _ (llget_some (by omega))
    refine ⟨_, _, σ, ⟨rfl, he, fun hne x hx => ?_, id_less⟩, hK⟩
    have hin : Inner (ρ n) cs x.block := ⟨c, k, ll, i, _, x, hc, llget_some (by omega), hne, hx, rfl⟩
    refine ⟨hs.inn hb ?_, inner_lt hV hin⟩
    rcases hbb with rfl | rfl <;> exact hin
  | esl n c i o len =>
    have h' : rdx σ [.ints k] (.one (.esl n c i o len)) (oneInts k fun l => K l σ) := h
    have h0 := h'
    simp only [rdx] at h'
    split at h' <;> try exact h'.elim
    rename_i k' ll hr
    obtain ⟨l, hl, hK⟩ := one h'
    cases hl
    obtain ⟨cs, hc, hlen, hV, b, hb, hbb, hf⟩ := rows_sound hm hr
    obtain ⟨A, cap, rfl, g1, g2, g3, g4, g5⟩ := hx
    have he := hV.inner c k ll hc i _ (llget_some (by omega))
    obtain ⟨q1, q2, q3, q4⟩ := he
    have hls := lsub_len (llget ll i) o len (by omega)
    refine ⟨_, ⟨A, len, cap⟩, σ, ⟨rfl, ⟨hls.symm, g1, fun hne => ?_, fun j x hx B hB => ?_⟩, fun hne x hx => ?_, id_less⟩, hK⟩
    · have h1 : len ≠ 0 := fun q => hne (by subst q; cases hq : lsub (llget ll i) o 0 <;> simp_all)
      rcases g4 with g4 | rfl
      · omega
      · obtain ⟨a', ha'⟩ := g5 (by omega)
        exact ⟨_, by rw [ha']; rfl⟩
    · rw [lsub_get] at hx
      split at hx
      · rename_i hj
        rcases g4 with g4 | rfl
        · omega
        · simp only [Option.map_eq_some_iff] at hB
          obtain ⟨a', ha', rfl⟩ := hB
          rw [addr_add_add]
          exact q4 _ x hx a' ha'
      · cases hx
    · have h1 : len ≠ 0 := fun q => hne (by subst q; cases hq : lsub (llget ll i) o 0 <;> simp_all)
      rcases g4 with g4 | rfl
      · omega
      · simp only [Option.map_eq_some_iff] at hx
        obtain ⟨a', ha', rfl⟩ := hx
        have hbk : (a'.add o).block = a'.block := by unfold Addr.add; split <;> rfl
        rw [hbk]
        have hin : Inner (ρ n) cs a'.block := ⟨c, k, ll, i, _, a', hc, llget_some (by omega), fun e => by rw [e] at q1; simp at q1; omega, ha', rfl⟩
        refine ⟨hs.inn hb ?_, inner_lt hV hin⟩
        rcases hbb with rfl | rfl <;> exact hin
  | con c =>
    have h' : rdx σ [.ints k] (.one (.con c)) (oneInts k fun l => K l σ) := h
    unfold rdx at h'
    split at h' <;> try exact h'.elim
    all_goals (try (rename_i q; cases q; done))
    rename_i q
    cases q
    obtain ⟨l, hl, hK⟩ := one h'
    simp only [List.map_cons, List.map_nil, Kd.nil, List.cons.injEq, Col.ints.injEq, true_and, and_true] at hl
    subst hl
    obtain ⟨rfl, _⟩ := hx
    exact ⟨[], ⟨none, 0, 0⟩, σ, ⟨rfl, ⟨rfl, Nat.le_refl _, fun q => absurd rfl q, fun j x hx => by simp at hx⟩, fun q => absurd rfl q, id_less⟩, hK⟩
  | int k n => simp [sharex, rdx] at h
  | lit b => simp [sharex, rdx] at h
  | bool b => simp [sharex, rdx] at h
  | str s => simp [sharex, rdx] at h
  | ptr n b i => simp [sharex, rdx] at h
  | clo f n b i => simp [sharex, rdx] at h
  | vptr n z i b j => simp [sharex, rdx] at h
  | eptr n c i o => simp [sharex, rdx] at h
  | any => simp [sharex, rdx] at h

/-! ### records -/
def FldRep (ρ : Rho) : List Fld → List Value → Prop
  | [], vs => vs = []
  | .a x :: r, vs => ∃ v s, vs = v :: s ∧ CRep ρ x v ∧ FldRep ρ r s
  | .g k m l :: r, vs => l.length = m ∧ ∃ s, vs = l.map (Value.int k) ++ s ∧ FldRep ρ r s

theorem FldRep.cells : ∀ {cs : List AC} {r : List Fld} {vs us : List Value}, FRep ρ cs vs → FldRep ρ r us → FldRep ρ (cs.map Fld.a ++ r) (vs ++ us)
  | [], r, vs, us, h, hr => by
    have : vs = [] := by have := h.1; cases vs <;> simp_all
    subst this; exact hr
  | c :: cs, r, vs, us, h, hr => by
    cases vs with
    | nil => have := h.1; simp at this
    | cons v vs =>
      refine ⟨v, vs ++ us, rfl, h.2 0 c v rfl rfl, FldRep.cells ⟨by simpa using h.1, fun j x u hx hu => h.2 (j + 1) x u (by simpa using hx) (by simpa using hu)⟩ hr⟩

theorem FRep.split {l1 l2 : List AC} {vs : List Value} (h : FRep ρ (l1 ++ l2) vs) : ∃ v1 v2, vs = v1 ++ v2 ∧ FRep ρ l1 v1 ∧ FRep ρ l2 v2 := by
  have hl := h.1
  simp at hl
  refine ⟨vs.take l1.length, vs.drop l1.length, by simp, ⟨by simp; omega, fun j x u hx hu => ?_⟩, ⟨by simp; omega, fun j x u hx hu => ?_⟩⟩
  · have hj := (List.getElem?_eq_some_iff.1 hx).1
    rw [List.getElem?_take, if_pos hj] at hu
    exact h.2 j x u (by rw [List.getElem?_append_left hj]; exact hx) hu
  · rw [List.getElem?_drop] at hu
    exact h.2 (l1.length + j) x u (by rw [List.getElem?_append_right (by omega)]; simpa using hx) hu

theorem flds_rep : ∀ {s : List Seg} {fl : List Fld} {vs : List Value}, fldsOf s = some fl → segsOk s → FRep ρ (flat s) vs → FldRep ρ fl vs
  | [], fl, vs, h, _, hf => by
    simp only [fldsOf, Option.some.injEq] at h
    subst h
    have := hf.1
    cases vs <;> simp_all [flat, FldRep]
  | .cells cs :: r, fl, vs, h, ho, hf => by
    simp only [fldsOf, Option.map_eq_some_iff] at h
    obtain ⟨fr, hr, rfl⟩ := h
    obtain ⟨v1, v2, rfl, h1, h2⟩ := hf.split
    exact FldRep.cells h1 (flds_rep hr ho.2 h2)
  | .ints k n l :: r, fl, vs, h, ho, hf => by
    simp only [fldsOf, Option.map_eq_some_iff] at h
    obtain ⟨fr, hr, rfl⟩ := h
    obtain ⟨v1, v2, rfl, h1, h2⟩ := hf.split
    refine ⟨ho.1, v2, ?_, flds_rep hr ho.2 h2⟩
    congr 1
    apply List.ext_getElem?
    intro j
    have hlen := h1.1
    simp only [Seg.flat, List.length_map] at hlen
    by_cases hj : j < l.length
    · have hv : j < v1.length := by omega
      have := h1.2 j (.int k l[j]) v1[j] (by simp [Seg.flat, hj]) (List.getElem?_eq_getElem hv)
      have e : v1[j] = .int k l[j] := this
      simp [hj, hv, e]
    · simp [List.getElem?_eq_none (show v1.length ≤ j by omega), List.getElem?_eq_none (show (l.map (Value.int k)).length ≤ j by simp; omega)]
  | .bools _ _ :: _, fl, vs, h, _, _ => by simp [fldsOf] at h

/-- one record, out of a value's parts; 'c': the number of its first column -/
structure Recs (ρ : Rho) (σ : Mem) (w : World) (vs : List Value) (ks : List Kd) (cs : List Col) (c : Nat) (L : Loc) (σ1 : Mem) : Prop where
  len : L.len = 1
  kds : kdsOf cs = ks
  ok : ∀ x ∈ cs, x.ok 1
  vlen : vs.length = width ks
  cells : ∀ t, t < width ks → vs[t]? = some (rowVal L cs c 0 t)
  inner : ∀ j k ll, cs[j]? = some (Col.rows k ll) → ∀ i l, ll[i]? = some l → EltRep w (L.el (c + j) i) k l ∧ (l ≠ [] → ∀ x, (L.el (c + j) i).a = some x → Clean ρ σ1 x.block ∧ x.block < w.heap.size)
  less : ∀ m b, Mem.find σ1 m = some b → Mem.find σ m = some b

theorem Clean.less {σ σ1 : Mem} {k : Nat} (h : Clean ρ σ k) (hl : ∀ m b, Mem.find σ1 m = some b → Mem.find σ m = some b) : Clean ρ σ1 k := fun m b hb => h m b (hl m b hb)

theorem Rep.sub {σ1 : Mem} (hm : MemRep ρ σ w) (hs : Sep ρ σ) (hl : ∀ m b, Mem.find σ1 m = some b → Mem.find σ m = some b) : MemRep ρ σ1 w ∧ Sep ρ σ1 :=
  ⟨fun n b hb => hm n b (hl n b hb), fun n m b c k hn hm => hs.1 n m b c k (hl _ _ hn) (hl _ _ hm), fun n b k hn => hs.2 n b k (hl _ _ hn)⟩

def Loc.more (L : Loc) (c : Nat) (e : Elt) : Loc := { L with el := fun c' i => if c' = c then e else L.el c' i }

theorem rowVal_more {L : Loc} {c : Nat} {e : Elt} : ∀ {cs : List Col} {c' i t : Nat}, c < c' → rowVal (L.more c e) cs c' i t = rowVal L cs c' i t
  | [], _, _, _, _ => rfl
  | x :: r, c', i, t, h => by
    simp only [rowVal]
    split
    · cases x <;> simp only [colVal]
      have hne : ¬ c' = c := by omega
      simp [Loc.more, hne]
    · exact rowVal_more (by omega)

theorem rowVal_succ1 {L : Loc} {x : Col} {r : List Col} {c i t : Nat} (h : x.kd.width = 1) : rowVal L (x :: r) c i (t + 1) = rowVal L r (c + 1) i t := by
  simp only [rowVal]
  rw [if_neg (by omega), h]
  rfl

theorem recx_sound : ∀ {ks : List Kd} {fl : List Fld} {σ : Mem} {vs : List Value} {c : Nat} {K : List Col → Mem → Prop}, recx σ ks fl K → FldRep ρ fl vs → MemRep ρ σ w → Sep ρ σ → ∃ cs L σ1, Recs ρ σ w vs ks cs c L σ1 ∧ K cs σ1
  | [], [], σ, vs, c, K, h, hf, hm, hs => by
    have : vs = [] := hf
    subst this
    exact ⟨[], ⟨0, 0, none, 1, 0, fun _ _ => ⟨none, 0, 0⟩⟩, σ, ⟨rfl, rfl, fun x hx => by simp at hx, rfl, fun t ht => absurd ht (Nat.not_lt_zero _), fun j k ll hc => by simp at hc, fun _ _ q => q⟩, h⟩
  | .ints k :: ks, .a x :: fl, σ, vs, c, K, h, hf, hm, hs => by
    cases x with
    | int k' v =>
        simp only [recx] at h
        split at h <;> try exact h.elim
        rename_i hk
        subst hk
        obtain ⟨u, us, rfl, hu, hf⟩ := hf
        obtain ⟨cs, L, σ1, hr, hK⟩ := recx_sound (c := c + 1) h hf hm hs
        have hu' : u = .int k' v := hu
        subst hu'
        refine ⟨_, L, σ1, ⟨hr.len, by simp only [kdsOf, List.map_cons, Col.kd]; rw [← hr.kds]; rfl, fun x hx => ?_, by simp only [List.length_cons, hr.vlen, width, Kd.width]; omega, fun t ht => ?_, fun j k ll hc i l hl => ?_, hr.less⟩, hK⟩
        · rcases List.mem_cons.1 hx with rfl | hx
          · rfl
          · exact hr.ok x hx
        · have hw : width (.ints k' :: ks) = 1 + width ks := rfl
          cases t with
          | zero => simp [rowVal, Col.kd, Kd.width, colVal, lget]
          | succ t => rw [rowVal_succ1 rfl]; simp only [List.getElem?_cons_succ]; exact hr.cells t (by omega)
        · cases j with
          | zero => simp at hc
          | succ j => have := hr.inner j k ll (by simpa using hc) i l hl; rw [show c + (j + 1) = c + 1 + j by omega]; exact this
    | _ => simp [recx] at h
  | .bools :: ks, .a x :: fl, σ, vs, c, K, h, hf, hm, hs => by
    cases x with
    | bool v =>
        simp only [recx] at h
        obtain ⟨u, us, rfl, hu, hf⟩ := hf
        obtain ⟨cs, L, σ1, hr, hK⟩ := recx_sound (c := c + 1) h hf hm hs
        have hu' : u = .bool v := hu
        subst hu'
        refine ⟨_, L, σ1, ⟨hr.len, by simp only [kdsOf, List.map_cons, Col.kd]; rw [← hr.kds]; rfl, fun x hx => ?_, by simp only [List.length_cons, hr.vlen, width, Kd.width]; omega, fun t ht => ?_, fun j k ll hc i l hl => ?_, hr.less⟩, hK⟩
        · rcases List.mem_cons.1 hx with rfl | hx
          · rfl
          · exact hr.ok x hx
        · have hw : width (.bools :: ks) = 1 + width ks := rfl
          cases t with
          | zero => simp [rowVal, Col.kd, Kd.width, colVal, lgetb]
          | succ t => rw [rowVal_succ1 rfl]; simp only [List.getElem?_cons_succ]; exact hr.cells t (by omega)
        · cases j with
          | zero => simp at hc
          | succ j => have := hr.inner j k ll (by simpa using hc) i l hl; rw [show c + (j + 1) = c + 1 + j by omega]; exact this
    | lit v =>
        simp only [recx] at h
        obtain ⟨u, us, rfl, hu, hf⟩ := hf
        obtain ⟨cs, L, σ1, hr, hK⟩ := recx_sound (c := c + 1) h hf hm hs
        have hu' : u = .bool v := hu
        subst hu'
        refine ⟨_, L, σ1, ⟨hr.len, by simp only [kdsOf, List.map_cons, Col.kd]; rw [← hr.kds]; rfl, fun x hx => ?_, by simp only [List.length_cons, hr.vlen, width, Kd.width]; omega, fun t ht => ?_, fun j k ll hc i l hl => ?_, hr.less⟩, hK⟩
        · rcases List.mem_cons.1 hx with rfl | hx
          · rfl
          · exact hr.ok x hx
        · have hw : width (.bools :: ks) = 1 + width ks := rfl
          cases t with
          | zero => simp [rowVal, Col.kd, Kd.width, colVal, lgetb]
          | succ t => rw [rowVal_succ1 rfl]; simp only [List.getElem?_cons_succ]; exact hr.cells t (by omega)
        · cases j with
          | zero => simp at hc
          | succ j => have := hr.inner j k ll (by simpa using hc) i l hl; rw [show c + (j + 1) = c + 1 + j by omega]; exact this
    | _ => simp [recx] at h
  | .arrs k m :: ks, .g k' m' l :: fl, σ, vs, c, K, h, hf, hm, hs => by
    simp only [recx] at h
    split at h <;> try exact h.elim
    rename_i hk
    split at h <;> try exact h.elim
    rename_i hm'
    subst hk hm'
    obtain ⟨hl, us, rfl, hf⟩ := hf
    obtain ⟨cs, L, σ1, hr, hK⟩ := recx_sound (c := c + 1) h hf hm hs
    refine ⟨_, L, σ1, ⟨hr.len, by simp only [kdsOf, List.map_cons, Col.kd]; rw [← hr.kds]; rfl, fun x hx => ?_, by simp [hr.vlen, hl, width, Kd.width], fun t ht => ?_, fun j k ll hc i l hl => ?_, hr.less⟩, hK⟩
    · rcases List.mem_cons.1 hx with rfl | hx
      · exact ⟨rfl, fun y hy => by simp at hy; subst hy; exact hl⟩
      · exact hr.ok x hx
    · have hw : width (.arrs k' m' :: ks) = m' + width ks := rfl
      have hkw : (Col.arrs k' m' [l]).kd.width = m' := rfl
      simp only [rowVal]
      rw [hkw]
      by_cases hlt : t < m'
      · rw [if_pos hlt, List.getElem?_append_left (by simp; omega)]
        simp [colVal, llget, lget, List.getD, show t < l.length by omega]
      · rw [if_neg hlt, List.getElem?_append_right (by simp; omega)]
        simp only [List.length_map, hl]
        exact hr.cells (t - m') (by omega)
    · cases j with
      | zero => simp at hc
      | succ j => have := hr.inner j k ll (by simpa using hc) i l hl; rw [show c + (j + 1) = c + 1 + j by omega]; exact this
  | .rows k :: ks, .a x :: fl, σ, vs, c, K, h, hf, hm, hs => by
    simp only [recx] at h
    obtain ⟨u, us, rfl, hu, hf⟩ := hf
    obtain ⟨l, e, σ1, hsh, h⟩ := sharex_sound h hm hs hu
    obtain ⟨hm1, hs1⟩ := Rep.sub hm hs hsh.less
    obtain ⟨cs, L, σ2, hr, hK⟩ := recx_sound (c := c + 1) h hf hm1 hs1
    refine ⟨_, L.more c e, σ2, ⟨hr.len, by simp only [kdsOf, List.map_cons, Col.kd]; rw [← hr.kds]; rfl, fun x hx => ?_, by simp only [List.length_cons, hr.vlen, width, Kd.width]; omega, fun t ht => ?_, fun j k ll hc i l' hl => ?_, fun m b hb => hsh.less m b (hr.less m b hb)⟩, hK⟩
    · rcases List.mem_cons.1 hx with rfl | hx
      · rfl
      · exact hr.ok x hx
    · have hw : width (.rows k :: ks) = 1 + width ks := rfl
      cases t with
      | zero => simp [rowVal, Col.kd, Kd.width, colVal, Loc.more, hsh.val]
      | succ t => rw [rowVal_succ1 rfl, rowVal_more (by omega)]; simp only [List.getElem?_cons_succ]; exact hr.cells t (by omega)
    · cases j with
      | zero =>
        simp only [List.getElem?_cons_zero, Option.some.injEq, Col.rows.injEq] at hc
        obtain ⟨rfl, rfl⟩ := hc
        cases i with
        | zero =>
          simp at hl
          subst hl
          simp only [Loc.more, Nat.add_zero, if_true]
          exact ⟨hsh.rep, fun hne x hx => ⟨(hsh.clean hne x hx).1.less hr.less, (hsh.clean hne x hx).2⟩⟩
        | succ i => simp at hl
      | succ j =>
        have := hr.inner j k ll (by simpa using hc) i l' hl
        rw [show c + (j + 1) = c + 1 + j by omega]
        have hne : ¬ c + 1 + j = c := by omega
        simp only [Loc.more, if_neg hne]
        exact this
  | [], _ :: _, _, _, _, _, h, _, _, _ => by simp [recx] at h
  | .ints _ :: _, [], _, _, _, _, h, _, _, _ => by simp [recx] at h
  | .bools :: _, [], _, _, _, _, h, _, _, _ => by simp [recx] at h
  | .arrs _ _ :: _, [], _, _, _, _, h, _, _, _ => by simp [recx] at h
  | .rows _ :: _, [], _, _, _, _, h, _, _, _ => by simp [recx] at h
  | .ints _ :: _, .g _ _ _ :: _, _, _, _, _, h, _, _, _ => by simp [recx] at h
  | .bools :: _, .g _ _ _ :: _, _, _, _, _, h, _, _, _ => by simp [recx] at h
  | .rows _ :: _, .g _ _ _ :: _, _, _, _, _, h, _, _, _ => by simp [recx] at h
  | .arrs _ _ :: _, .a _ :: _, _, _, _, _, h, _, _, _ => by simp [recx] at h
end
end Go.Sx

/- Literals of lists, laid. -/
namespace Go.Sx
open Go
set_option linter.unusedSimpArgs false
set_option linter.unusedVariables false
section
variable {P : Program} {E : Env} {ρ : Rho} {fr : Fr} {σ : Mem} {a : Act} {w : World}

theorem push_cat (x y : Col) : x.push y = x.cat y := by cases x <;> cases y <;> rfl
theorem pushCols_cat : ∀ (cs ds : List Col), pushCols cs ds = catCols cs ds
  | [], [] => rfl
  | [], _ :: _ => rfl
  | _ :: _, [] => rfl
  | x :: r, y :: s => by simp only [pushCols, catCols, push_cat, pushCols_cat r s]

/-- parts laid one behind the other fill the row -/
theorem fill_list (size : Nat) : ∀ (parts : List (Nat × Value)) (i : Nat) (cells : Array Value), (∀ j p, parts[j]? = some p → p.1 = i + j ∧ p.2.cells.size = size) → (i + parts.length) * size ≤ cells.size →
    ∃ cells', Instr.fill (fun i => some (i * size, size)) cells parts = some cells' ∧ cells'.size = cells.size ∧ (∀ q, q < i * size → cells'[q]? = cells[q]?) ∧ ∀ (j : Nat) p t, parts[j]? = some p → t < size → cells'[(i + j) * size + t]? = p.2.cells[t]?
  | [], i, cells, _, _ => ⟨cells, rfl, rfl, fun _ _ => rfl, fun j p t h => by simp at h⟩
  | (i', v) :: parts, i, cells, hp, hfit => by
    obtain ⟨h1, h2⟩ := hp 0 _ rfl
    simp only [Nat.add_zero] at h1 h2
    subst h1
    simp only [List.length_cons] at hfit
    have hsz : i' * size + size ≤ cells.size := by
      have : (i' + 1) * size ≤ (i' + (parts.length + 1)) * size := Nat.mul_le_mul_right _ (by omega)
      rw [Nat.add_mul, Nat.one_mul] at this; omega
    obtain ⟨g1, g2⟩ := foldl_put (i' * size) v.cells.toList 0 cells
    have g2 := g2 (by simp; omega)
    have hfold : v.cells.zipIdx.foldl (fun cs (c, j) => cs.setIfInBounds (i' * size + j) c) cells = (v.cells.toList.zipIdx 0).foldl (fun cs p => cs.setIfInBounds (i' * size + p.2) p.1) cells := by
      rw [← Array.foldl_toList, Array.toList_zipIdx]
    obtain ⟨cells', e1, e2, e3, e4⟩ := fill_list size parts (i' + 1) ((v.cells.toList.zipIdx 0).foldl (fun cs p => cs.setIfInBounds (i' * size + p.2) p.1) cells) (fun j p hj => by
      have := hp (j + 1) p (by simpa using hj)
      exact ⟨by omega, this.2⟩) (by rw [g1]; rw [show i' + 1 + parts.length = i' + (parts.length + 1) by omega]; exact hfit)
    refine ⟨cells', ?_, e2.trans g1, fun q hq => ?_, fun j p t hj ht => ?_⟩
    · simp only [Instr.fill]
      rw [if_neg (by simp [h2]; omega), hfold]
      exact e1
    · rw [e3 q (by rw [Nat.add_mul]; omega), g2 q, if_neg (by omega)]
    · cases j with
      | zero =>
        simp only [List.getElem?_cons_zero, Option.some.injEq] at hj
        subst hj
        rw [Nat.add_zero, e3 _ (by rw [Nat.add_mul]; omega), g2 _, if_pos (by simp [h2]; omega)]
        rw [Array.getElem?_toList]
        congr 1; omega
      | succ j =>
        have := e4 j p t (by simpa using hj) ht
        rw [show i' + 1 + j = i' + (j + 1) by omega] at this
        exact this

/-- what is known behind some parts of a literal -/
structure Built (ρ : Rho) (σ : Mem) (w : World) (ks : List Kd) (vals : List Value) (cs : List Col) (L : Loc) : Prop where
  len : L.len = vals.length
  kds : kdsOf cs = ks
  ok : ∀ x ∈ cs, x.ok L.len
  cells : ∀ i v, vals[i]? = some v → ∀ t, t < width ks → v.cells[t]? = some (rowVal L cs 0 i t)
  sizes : ∀ v ∈ vals, v.cells.size = width ks
  inner : ∀ j k ll, cs[j]? = some (Col.rows k ll) → ∀ i l, ll[i]? = some l → EltRep w (L.el j i) k l ∧ (l ≠ [] → ∀ x, (L.el j i).a = some x → Clean ρ σ x.block ∧ x.block < w.heap.size)

theorem Built.cat {ks : List Kd} {vals : List Value} {v : Value} {cs ds : List Col} {L M : Loc} {σ1 : Mem} (h : Built ρ σ w ks vals cs L) (hr : Recs ρ σ w v.cells.toList ks ds 0 M σ1) : Built ρ σ1 w ks (vals ++ [v]) (catCols cs ds) ⟨0, 0, none, L.len + M.len, 0, catEl L M⟩ := by
  have hk : kdsOf cs = kdsOf ds := h.kds.trans hr.kds.symm
  refine ⟨by simp [h.len, hr.len], by rw [catCols_kds hk, h.kds], catCols_ok hk h.ok (by rw [hr.len]; exact hr.ok), fun i u hu t ht => ?_, fun u hu => ?_, fun j k ll hc i l hl => ?_⟩
  · rw [rowVal_cat rfl hk h.ok]
    by_cases hi : i < vals.length
    · rw [List.getElem?_append_left hi] at hu
      rw [if_pos (by rw [h.len]; exact hi)]
      exact h.cells i u hu t ht
    · rw [List.getElem?_append_right (by omega)] at hu
      have : i - vals.length = 0 := by
        by_cases q : i - vals.length = 0
        · exact q
        · obtain ⟨p, hp⟩ : ∃ p, i - vals.length = p + 1 := ⟨i - vals.length - 1, by omega⟩
          rw [hp] at hu; simp at hu
      rw [this] at hu
      simp at hu
      subst hu
      rw [if_neg (by rw [h.len]; exact hi), h.len, this]
      have := hr.cells t ht
      rw [Array.getElem?_toList] at this
      exact this
  · rcases List.mem_append.1 hu with hu | hu
    · exact h.sizes u hu
    · simp at hu; subst hu; have := hr.vlen; simpa using this
  · obtain ⟨l1, l2, g1, g2, rfl⟩ := catCols_rows hc hk
    have hl1 : l1.length = L.len := h.ok _ (List.mem_of_getElem? g1)
    rw [List.getElem?_append] at hl
    simp only [catEl]
    by_cases hi : i < l1.length
    · rw [if_pos hi] at hl
      rw [if_pos (by omega)]
      obtain ⟨q1, q2⟩ := h.inner j k l1 g1 i l hl
      exact ⟨q1, fun hne x hx => ⟨(q2 hne x hx).1.less hr.less, (q2 hne x hx).2⟩⟩
    · rw [if_neg hi, hl1] at hl
      rw [if_neg (by omega)]
      have := hr.inner j k l2 g2 (i - L.len) l hl
      rw [Nat.zero_add] at this
      exact this

theorem recsx_sound {ks : List Kd} {len : Nat} : ∀ {parts : List (Nat × AV)} {ps : List (Nat × Value)} {σ : Mem} {i : Nat} {acc : List Col} {vals : List Value} {L : Loc} {K : List Col → Mem → Prop}, recsx ks len σ i parts acc K → MemRep ρ σ w → Sep ρ σ → Built ρ σ w ks vals acc L → vals.length = i →
    parts.length = ps.length → (∀ (j : Nat) p q, parts[j]? = some p → ps[j]? = some q → p.1 = q.1 ∧ SRep ρ p.2 q.2) →
    ∃ cs M σ1, Built ρ σ1 w ks (vals ++ ps.map (·.2)) cs M ∧ K cs σ1 ∧ (∀ m b, Mem.find σ1 m = some b → Mem.find σ m = some b) ∧ i + ps.length = len ∧ ∀ (j : Nat) q, ps[j]? = some q → q.1 = i + j
  | [], [], σ, i, acc, vals, L, K, h, hm, hs, hb, hi, _, _ => by
    simp only [recsx] at h
    split at h <;> try exact h.elim
    rename_i hq
    exact ⟨acc, L, σ, by simpa using hb, h, fun _ _ q => q, by simpa using beq_nat hq, fun j q hj => by simp at hj⟩
  | (j, v) :: parts, (j', u) :: ps, σ, i, acc, vals, L, K, h, hm, hs, hb, hi, hl, hps => by
    simp only [recsx] at h
    split at h <;> try exact h.elim
    rename_i hij
    split at h <;> try exact h.elim
    rename_i fl hfl
    simp only [Option.bind_eq_some_iff] at hfl
    obtain ⟨sg, hsg, hfl⟩ := hfl
    obtain ⟨h0, hv⟩ := hps 0 _ _ rfl rfl
    simp only at h0 hv
    obtain ⟨ho, hf⟩ := AV.segs_sound hsg hv
    obtain ⟨ds, M, σ1, hr, h⟩ := recx_sound (c := 0) h (flds_rep hfl ho hf) hm hs
    obtain ⟨hm1, hs1⟩ := Rep.sub hm hs hr.less
    rw [pushCols_cat] at h
    obtain ⟨cs, N, σ2, e1, e2, e3, e4, e5⟩ := recsx_sound (parts := parts) (ps := ps) h hm1 hs1 (hb.cat hr) (by simp [hi]) (by simpa using hl) (fun j p q h1 h2 => hps (j + 1) p q (by simpa using h1) (by simpa using h2))
    refine ⟨cs, N, σ2, by simpa using e1, e2, fun m b q => hr.less m b (e3 m b q), by simp only [List.length_cons]; omega, fun k q hk => ?_⟩
    cases k with
    | zero => simp at hk; subst hk; have := beq_nat hij; simp only; omega
    | succ k => have := e5 k q (by simpa using hk); omega
  | [], _ :: _, _, _, _, _, _, _, _, _, _, _, _, hl, _ => by simp at hl
  | _ :: _, [], _, _, _, _, _, _, _, _, _, _, _, hl, _ => by simp at hl

theorem nil_built {ks : List Kd} : Built ρ σ w ks [] (ks.map Kd.nil) loc0 := by
  refine ⟨rfl, nil_kds ks, fun x hx => ?_, fun i v h => by simp at h, fun v h => by simp at h, fun j k ll hc i l hl => ?_⟩
  · obtain ⟨kd, _, rfl⟩ := List.mem_map.1 hx
    cases kd <;> simp [Kd.nil, Col.ok, loc0]
  · simp only [List.getElem?_map, Option.map_eq_some_iff] at hc
    obtain ⟨kd, _, hkd⟩ := hc
    cases kd <;> simp [Kd.nil] at hkd
    rw [hkd.2] at hl; simp at hl

theorem literal_sound {t e : TypeId} {ks : List Kd} {bytes len d : Nat} {parts : List (Nat × AV)} {ps : Array (Nat × Value)} {K : List Col → Mem → Prop} (hR : Rep E ρ fr σ a w) (hu : P.underlying t = some (.slice e)) (hk : elemKinds P e = some (ks, bytes)) (hle : len * width ks ≤ 16777216)
    (h : recsx ks len σ 0 parts (ks.map Kd.nil) K) (hl : parts.length = ps.toList.length) (hps : ∀ (j : Nat) p q, parts[j]? = some p → ps.toList[j]? = some q → p.1 = q.1 ∧ SRep ρ p.2 q.2) :
    ∃ cs σ1, K cs σ1 ∧ Rep E ρ fr σ1 a w ∧ (freshB d fr σ1 = true → ∃ v w' L, (Instr.buildSlice t len ps).run P w = .ok v w' ∧ v = .slice L.a L.len L.cap ∧ w.heap.size ≤ w'.heap.size ∧ Rep E (upd ρ d L) fr (Mem.ins d (.vec cs) σ1) a w') := by
  obtain ⟨i, z, hi, hz, hzero, hsize, hwid, hbytes, _⟩ := elemKinds_sound hk
  obtain ⟨cs, M, σ1, hB, hK, hless, hlen, hidx⟩ := recsx_sound (ps := ps.toList) h hR.mem hR.sep nil_built rfl hl hps
  rw [List.nil_append] at hB
  have hR1 : Rep E ρ fr σ1 a w := hR.less hR.fr hless
  refine ⟨cs, σ1, hK, hR1, fun hd => ?_⟩
  have hMl : M.len = len := by rw [hB.len, List.length_map]; omega
  have hcw : cwidth cs = width ks := by rw [cwidth, hB.kds]
  have hzs : z.cells.size = width ks := by have := zero_len hzero; simpa using this
  obtain ⟨cells', e1, e2, e3, e4⟩ := fill_list (width ks) ps.toList 0 ((Array.range (len * width ks)).map fun q => if len * width ks = 0 then (#[] : Array Value)[q % (#[] : Array Value).size]! else z.cells[q % z.cells.size]!) (fun j p hj => ⟨hidx j p hj, hB.sizes p.2 (List.mem_map.2 ⟨p, List.mem_of_getElem? hj, rfl⟩)⟩) (by
    rw [Nat.zero_add, Array.size_map, Array.size_range]; rw [show ps.toList.length = len by omega]; exact Nat.le_refl _)
  have hcs : cells'.size = len * width ks := by rw [e2, Array.size_map, Array.size_range]
  have hrun : (Instr.buildSlice t len ps).run P w = .ok (.slice (some ⟨w.heap.size, 0, none⟩) len len) (w.alloc (.cells cells' e)) := by
    have hn : ¬ (16777216 < len * width ks) := by omega
    by_cases h0 : len * width ks = 0
    · simp only [h0, if_true] at e1
      simp [Instr.buildSlice, run_underlying hu, sizeOf, typeInfo, hi, hsize, h0, newRow]
      have e0 : ∀ f : Nat → Value, Array.map f (Array.range 0) = #[] := fun f => by simp [Array.range]
      rw [e0] at e1 ⊢
      rw [e1]
      simp
    · simp only [h0, if_false] at e1
      simp [Instr.buildSlice, run_underlying hu, sizeOf, typeInfo, hi, hsize, h0, hn, zeroValue, hz, newRow, e1]
  let L : Loc := ⟨w.heap.size, 0, some ⟨w.heap.size, 0, none⟩, len, len, M.el⟩
  have new : (w.alloc (.cells cells' e)).heap[w.heap.size]? = some (.cells cells' e) := by
    show (w.heap.push _)[w.heap.size]? = _
    simp
  have old : ∀ k, k < w.heap.size → (w.alloc (.cells cells' e)).heap[k]? = w.heap[k]? := fun k hk => with_old (o := .cells cells' e) hk
  have rowel : ∀ {cs : List Col} {c i t : Nat}, rowVal L cs c i t = rowVal M cs c i t := by
    intro cs
    induction cs with
    | nil => intro c i t; rfl
    | cons x r ih =>
      intro c i t
      simp only [rowVal]
      split
      · cases x <;> rfl
      · exact ih
  have hV : VRep (w.alloc (.cells cells' e)) L cs := by
    refine ⟨fun q => by rw [q] at hcw; rw [← hcw] at hwid; exact absurd hwid (by decide), by rw [hcw]; exact hwid, fun x hx => by have := hB.ok x hx; rw [hMl] at this; exact this, Nat.le_refl _, fun _ => rfl, fun r hr t ht => ?_, fun c k ll hc r l hl => ?_⟩
    · have hr' : r < len := hr
      rw [hcw] at ht ⊢
      have hrl : r < ps.toList.length := by omega
      have h4 := e4 r _ t (List.getElem?_eq_getElem hrl) ht
      rw [Nat.zero_add] at h4
      simp only [World.cell?, Loc.at, L, new, Option.isSome_none, Bool.false_eq_true, if_false, Nat.zero_add]
      rw [h4, hB.cells r _ (by rw [List.getElem?_map, List.getElem?_eq_getElem hrl]; rfl) t ht, ← rowel]
    · obtain ⟨⟨q1, q2, q3, q4⟩, q5⟩ := hB.inner c k ll hc r l hl
      refine ⟨q1, q2, q3, fun j x hx A hA => ?_⟩
      have hbk : (A.add j).block = A.block := by unfold Addr.add; split <;> rfl
      have := old A.block (q5 (fun e => by subst e; simp at hx) A hA).2
      exact (cell_same (a := A.add j) (by rw [hbk]; exact this)).trans (q4 j x hx A hA)
  refine ⟨_, _, L, hrun, rfl, by show _ ≤ (w.heap.push _).size; simp, newvec (L := L) hR1 hd (C := cells') (T := e) (fz := (0, 0)) rfl rfl rfl rfl hV rfl rfl rfl (by rw [hcw, hcs]; exact Nat.le_refl _) (fun j _ => by simp) (fun k hk => ?_)⟩
  obtain ⟨c, kk, ll, r, l, A, h1, h2, h3, h4, rfl⟩ := hk
  exact (hB.inner c kk ll h1 r l h2).2 h3 A h4
end
end Go.Sx

/- Calls. -/
namespace Go.Sx
open Go
set_option linter.unusedSimpArgs false
set_option linter.unusedVariables false

/-! ### what is known of a function -/
def OwnAt (ρ : Rho) (σ : Mem) (k : Nat) : Prop := ∃ n b, Mem.find σ n = some b ∧ Out ρ n b k

structure Good (P : Program) (f : FuncId) (s : Spec) : Prop where
  calls : ∀ d args σ (K : AV → Mem → Prop), s.sem d args σ K → ∀ (ρ : Rho) (w : World) (vals : Array Value), Glob ρ → MemRep ρ σ w → Sep ρ σ → args.length = vals.size →
    (∀ (j : Nat) x v, args[j]? = some x → vals[j]? = some v → SRep ρ x v) → (∀ k, k < s.news → d + 10000 * k < 200000 ∧ memRefs (d + 10000 * k) σ = false) →
    Calls P f vals w fun e w' => ∃ v av σ' ρ', e = .returned v ∧ K av σ' ∧ SRep ρ' av v ∧ MemRep ρ' σ' w' ∧ Sep ρ' σ' ∧ (∀ n, (∀ k, k < s.news → n ≠ d + 10000 * k) → ρ' n = ρ n) ∧
      (∀ n b k, Mem.find σ' n = some b → Out ρ' n b k → OwnAt ρ σ k ∨ w.heap.size ≤ k) ∧ Keeps (OwnAt ρ σ) w w' ∧ (s.mods = false → Keeps (fun _ => False) w w' ∧ ∀ m b, Mem.find σ m = some b → Mem.find σ' m = some b)

def GoodG (P : Program) (Γ : Gam) : Prop := ∀ f s, Γ f = some s → Good P f s ∧ ∃ fn, P.funcs[f]? = some fn ∧ fn.name ≠ "runtime.NumGoroutine" ∧ fn.body.isSome = true

theorem freshAll_sound {d : Nat} {fr : Fr} {σ : Mem} : ∀ {m : Nat}, freshAll d fr σ m = true → ∀ k, k < m → freshB (d + 10000 * k) fr σ = true
  | 0, _, k, h => by omega
  | m + 1, h, k, hk => by
    simp only [freshAll, Bool.and_eq_true] at h
    by_cases e : k = m
    · subst e; exact h.1
    · exact freshAll_sound h.2 k (by omega)

section
variable {P : Program} {Γ : Gam} {E : Env} {ρ : Rho} {fr : Fr} {σ : Mem} {a : Act} {w : World}

theorem callx_sound {f : FuncId} {dst : Option Tmp} {args : List AV} {vals : Array Value} {K : AV → Mem → Prop} (h : callx Γ f dst args fr σ K) (hΓ : GoodG P Γ) (hR : Rep E ρ fr σ a w) (hl : args.length = vals.size)
    (hv : ∀ (j : Nat) x v, args[j]? = some x → vals[j]? = some v → SRep ρ x v) :
    ∃ s d, Γ f = some s ∧ (s.news ≠ 0 → dst = some d) ∧ Calls P f vals w fun e w' => ∃ v av σ' ρ', e = .returned v ∧ K av σ' ∧ SRep ρ' av v ∧ Rep E ρ' fr σ' a w' ∧ w.heap.size ≤ w'.heap.size ∧ (∀ n, (∀ k, k < s.news → n ≠ d + 10000 * k) → ρ' n = ρ n) ∧ (s.mods = false → Keeps (fun _ => False) w w' ∧ ∀ m b, Mem.find σ m = some b → Mem.find σ' m = some b) := by
  have fin : ∀ {s : Spec} {d : Nat}, Γ f = some s → (∀ k, k < s.news → freshB (d + 10000 * k) fr σ = true) → s.sem d args σ K →
      Calls P f vals w fun e w' => ∃ v av σ' ρ', e = .returned v ∧ K av σ' ∧ SRep ρ' av v ∧ Rep E ρ' fr σ' a w' ∧ w.heap.size ≤ w'.heap.size ∧ (∀ n, (∀ k, k < s.news → n ≠ d + 10000 * k) → ρ' n = ρ n) ∧ (s.mods = false → Keeps (fun _ => False) w w' ∧ ∀ m b, Mem.find σ m = some b → Mem.find σ' m = some b) := by
    intro s d hs hfr hsem
    have unp : ∀ k, k < s.news → d + 10000 * k < 200000 ∧ frRefs (d + 10000 * k) fr = false ∧ memRefs (d + 10000 * k) σ = false := fun k hk => freshB_parts (hfr k hk)
    refine ((hΓ f s hs).1.calls d args σ K hsem ρ w vals hR.glob hR.mem hR.sep hl hv (fun k hk => ⟨(unp k hk).1, (unp k hk).2.2⟩)).mono ?_
    rintro e w' ⟨v, av, σ', ρ', rfl, hK, hav, hm, hs', hρ, hown, hk1, hk2⟩
    refine ⟨v, av, σ', ρ', rfl, hK, hav, ⟨?_, hR.df, hm, hs', fun n hn => ?_, fun n b k hn hO => ?_, ?_⟩, hk1.size, hρ, hk2⟩
    · refine hR.fr.agree fun n hn => hρ n fun k hk e => ?_
      subst e
      rw [(unp k hk).2.1] at hn; cases hn
    · rw [hρ n fun k hk e => by have := (unp k hk).1; omega]
      exact hR.fix n hn
    · rcases hown n b k hn hO with ⟨m, c, hm2, e⟩ | hge
      · exact hR.own m c k hm2 e
      · left; have := hR.keep.size; omega
    · refine hR.keep.trans hk1 fun i hi ⟨m, c, hm2, e⟩ => ?_
      rcases hR.own m c i hm2 e with q | q
      · omega
      · exact q
  unfold callx at h
  split at h <;> try exact h.elim
  rename_i s hs
  split at h
  · rename_i d
    split at h <;> try exact h.elim
    rename_i hf
    exact ⟨s, d, hs, fun _ => rfl, fin hs (freshAll_sound hf) h⟩
  · split at h <;> try exact h.elim
    rename_i hn
    exact ⟨s, 0, hs, fun q => absurd hn q, fin hs (fun k hk => by omega) h⟩
end
end Go.Sx

/- One operation of a region. -/
namespace Go.Sx
open Go
set_option linter.unusedSimpArgs false
set_option linter.unusedVariables false
section
variable {P : Program} {Γ : Gam} {E : Env} {ρ : Rho} {fr : Fr} {σ : Mem} {a : Act} {w : World}

theorem segs_refs {x : AV} {s : List Seg} (h : x.segs = some s) (d : Nat) (hx : x.refs d = false) : segsRefs d s = false := by
  cases x <;> simp only [AV.segs, Option.some.injEq] at h <;> try (cases h; done)
  · subst h; simpa [segsRefs, Seg.refs, AV.refs] using hx
  · subst h; exact hx

theorem ev_refs {d : Nat} {x : Operand} (hf : frRefs d fr = false) (hd : d < 200000) : (ev fr x).refs d = false := by
  cases x with
  | tmp t =>
    simp only [ev]
    by_cases ht : t < fr.length
    · simp only [frRefs, List.any_eq_false] at hf
      simpa using hf _ (Fr.get_mem ht)
    · rw [Fr.get_out fr t (Nat.le_of_not_lt ht)]; rfl
  | const v =>
    simp only [ev]
    have h1 : ∀ c, (AC.ofConst c).refs d = false := by intro c; cases c <;> rfl
    cases v <;> simp only [AV.ofConst] <;> first
      | exact h1 _
      | rfl
      | (split
         · simp only [AV.refs, segsRefs, List.any_cons, Seg.refs, List.any_nil, Bool.or_false, cellsOf, List.any_map, List.any_eq_false]
           intro c _; simpa using h1 c
         · rfl)
  | global g => simp only [ev, AV.refs, AC.refs, gname, beq_eq_false_iff_ne]; omega
  | func f => rfl

theorem zero_refs {t : TypeId} {s : List Seg} (h : zeroSegs P t = some s) (d : Nat) : segsRefs d s = false := by
  obtain ⟨_, _, z, _, _, hf⟩ := zeroSegs_sound h
  unfold zeroSegs at h
  split at h <;> try (cases h; done)
  split at h <;> try (cases h; done)
  rename_i hb
  simp only [Option.some.injEq] at h
  subst h
  simp only [Bool.and_eq_true] at hb
  have key : ∀ {l : List AC} {c : List Value}, flatIs l c = true → l.any (AC.refs d) = false := by
    intro l
    induction l with
    | nil => intro c _; rfl
    | cons x l ih =>
      intro c h
      cases c with
      | nil => simp [flatIs] at h
      | cons v c =>
        simp only [flatIs, Bool.and_eq_true] at h
        simp only [List.any_cons, ih h.2, Bool.or_false]
        cases x <;> first | rfl | (exfalso; cases v <;> simp [acIs] at h)
  have h2 := key hb.2
  have flatRefs : ∀ {s : List Seg}, (flat s).any (AC.refs d) = false → segsRefs d s = false := by
    intro s
    induction s with
    | nil => intro _; rfl
    | cons x r ih =>
      intro h
      simp only [flat, List.any_append, Bool.or_eq_false_iff] at h
      simp only [segsRefs, List.any_cons, Bool.or_eq_false_iff]
      refine ⟨?_, ih h.2⟩
      cases x <;> first | rfl | exact h.1
  exact flatRefs h2

theorem newx_sound {o : Oper} {T : TypeId} {s : List Seg} {c : List Value} {K : AV → Mem → Prop} (h : newx o.dst fr σ (.own T s) fun n σ' => K (.one (.ptr n 0 0)) σ') (hR : Rep E ρ fr σ a w) (ho : segsOk s) (hs : ∀ d, d < 200000 → frRefs d fr = false → segsRefs d s = false) (hf : FRep ρ (flat s) c) :
    ∃ d σ' ρ', o.dst = some d ∧ K (.one (.ptr d 0 0)) σ' ∧ SRep ρ' (.one (.ptr d 0 0)) (.pointer (some ⟨w.heap.size, 0, none⟩)) ∧ Rep E ρ' fr σ' a (World.with w (.cells c.toArray T)) ∧ (∀ n, n ≠ d → ρ' n = ρ n) ∧ ∀ m b, Mem.find σ m = some b → Mem.find σ' m = some b := by
  unfold newx at h
  split at h <;> try exact h.elim
  rename_i d hd
  split at h <;> try exact h.elim
  rename_i hfr
  obtain ⟨h1, h2, h3⟩ := freshB_parts hfr
  exact ⟨d, _, _, hd, h, by simp [SRep, CRep, at_, upd_eq, newLoc], (new_sound hR hfr ho (hs d h1 h2) hf).find_eq (find_ins h3), fun n hn => upd_ne hn, ins_old hfr⟩

theorem newx_open {dst : Option Tmp} {b : Blk} {K : Nat → Mem → Prop} (h : newx dst fr σ b K) : ∃ d, dst = some d ∧ freshB d fr σ = true ∧ K d (Mem.ins d b σ) := by
  unfold newx at h
  split at h <;> try exact h.elim
  rename_i d
  split at h <;> try exact h.elim
  rename_i hfr
  exact ⟨d, rfl, hfr, h⟩

theorem with_keeps (o : Obj) : Keeps (fun _ => False) w (World.with w o) := ⟨rfl, rfl, rfl, by rw [with_size]; omega, fun k hk _ => with_old hk⟩

theorem run_newVar (T : TypeId) (v : Value) : (newVar T v).run P w = .ok ⟨w.heap.size, 0, none⟩ (World.with w (.cells v.cells T)) := by
  simp [newVar, newRow, newObj, Sem.run, World.with, pure, Bind.bind, Sem.bind]

/-- what an operation leaves of the blocks -/
def Leaves (Γ : Gam) (ρ : Rho) (fr : Fr) (op : Op) (σ σ' : Mem) (w w' : World) : Prop :=
  (modOp Γ op = false → Keeps (fun _ => False) w w' ∧ ∀ m b, Mem.find σ m = some b → Mem.find σ' m = some b) ∧
  ∀ T x y n m, op = .store T x y → addrName (ev fr x) = some n → n ≠ m → ∀ b, Mem.find σ m = some b → (∀ k, Foot ρ m b k → w'.heap[k]? = w.heap[k]?) ∧ Mem.find σ' m = some b

theorem Leaves.of {op : Op} {σ' : Mem} {w' : World} (h : modOp Γ op = false → Keeps (fun _ => False) w w' ∧ ∀ m b, Mem.find σ m = some b → Mem.find σ' m = some b) (hs : ∀ T x y, op ≠ .store T x y) : Leaves Γ ρ fr op σ σ' w w' :=
  ⟨h, fun T x y n m q => absurd q (hs T x y)⟩

theorem effx_sound {o : Oper} {K : AV → Mem → Prop} {next : Act → World → Prop} {Q : Exit → Act → World → Prop} (h : effx P Γ o.op o.dst fr σ K) (hΓ : GoodG P Γ) (hR : Rep E ρ fr σ a w)
    (hn : ∀ v av σ' ρ' w', K av σ' → SRep ρ' av v → Rep E ρ' fr σ' a w' → w.heap.size ≤ w'.heap.size → (∀ n, n ∉ newNames Γ fr o.op o.dst → ρ' n = ρ n) → Leaves Γ ρ fr o.op σ σ' w w' → next (a.put o.dst v) w') : o.wp P a w next Q := by
  have Ev := fun x => ev_sound hR.glob hR.fr x
  unfold Oper.wp
  unfold effx at h
  split at h
  · rename_i T hop
    split at h <;> try exact h.elim
    rename_i s hs
    obtain ⟨ho, i, z, hi, hz, hf⟩ := zeroSegs_sound hs
    obtain ⟨d, σ', ρ', e1, e2, e3, e4, e5, e6⟩ := newx_sound (c := z.cells.toList) h hR ho (fun d _ _ => zero_refs hs d) (hf ρ)
    have hrun : (execOp a.eval o).run P w = .ok (.value (.pointer (some ⟨w.heap.size, 0, none⟩))) (World.with w (.cells z.cells T)) := by
      simp [execOp, hop, Instr.alloc, zeroValue, typeInfo, hi, hz, run_newVar]
    rw [hrun]
    simp only [Oper.upon]
    refine hn _ _ σ' ρ' _ e2 e3 (by simpa using e4) (by rw [with_size]; omega) (fun n hn' => e5 n ?_) (.of (fun _ => ⟨with_keeps _, e6⟩) fun _ _ _ q => by rw [hop] at q; cases q)
    simp only [newNames, hop, e1, List.mem_singleton] at hn'
    exact hn'
  · rename_i T x hop
    split at h <;> try exact h.elim
    rename_i s hs
    obtain ⟨ho, hf⟩ := AV.segs_sound hs (Ev x)
    obtain ⟨d, σ', ρ', e1, e2, e3, e4, e5, e6⟩ := newx_sound (c := (a.eval x).cells.toList) h hR ho (fun d hd hfr => segs_refs hs d (ev_refs hfr hd)) hf
    have hrun : (execOp a.eval o).run P w = .ok (.value (.pointer (some ⟨w.heap.size, 0, none⟩))) (World.with w (.cells (a.eval x).cells T)) := by
      simp [execOp, hop, Instr.box, run_newVar]
    rw [hrun]
    simp only [Oper.upon]
    refine hn _ _ σ' ρ' _ e2 e3 (by simpa using e4) (by rw [with_size]; omega) (fun n hn' => e5 n ?_) (.of (fun _ => ⟨with_keeps _, e6⟩) fun _ _ _ q => by rw [hop] at q; cases q)
    simp only [newNames, hop, e1, List.mem_singleton] at hn'
    exact hn'
  · rename_i T x y hop
    have E1 := Ev x
    split at h <;> try exact h.elim
    · rename_i n base idx hx
      rw [hx] at E1
      have hv : a.eval x = .pointer (some (at_ ρ n (base + idx))) := E1
      obtain ⟨w', σ', bk, e1, e0, e2, e3, e4, e5, e6, e7⟩ := storex_sound h hR (Ev y)
      have hrun : (execOp a.eval o).run P w = .ok .skip w' := by
        simp [execOp, hop, Instr.storeAt, hv, Instr.sureAddr, e1]
      rw [hrun]
      simp only [Oper.upon]
      exact hn _ (.tup []) σ' ρ w' e3 ⟨[], rfl, rfl, fun j t u hj => by simp at hj⟩ e2 (by omega) (fun _ _ => rfl) ⟨fun hm => by simp [modOp, hop] at hm, fun T' x' y' n' m q1 q2 q3 b hb => by
        rw [hop] at q1; cases q1
        rw [hx] at q2; cases q2
        exact ⟨fun k hk => e4 k (fun e => by subst e; exact hR.sep.1 n m bk b _ e6 hb q3 e7 hk), by rw [e5 m (Ne.symm q3)]; exact hb⟩⟩
    · rename_i n z i b0 j hx
      rw [hx] at E1
      obtain ⟨A, w', σ', bk, hv, e1, e0, e2, e3, e4, e5, e6, e7⟩ := storeV_sound h hR (Ev y) E1
      have hrun : (execOp a.eval o).run P w = .ok .skip w' := by
        simp [execOp, hop, Instr.storeAt, hv, Instr.sureAddr, e1]
      rw [hrun]
      simp only [Oper.upon]
      exact hn _ (.tup []) σ' ρ w' e3 ⟨[], rfl, rfl, fun j t u hj => by simp at hj⟩ e2 (by omega) (fun _ _ => rfl) ⟨fun hm => by simp [modOp, hop] at hm, fun T' x' y' n' m q1 q2 q3 b hb => by
        rw [hop] at q1; cases q1
        rw [hx] at q2; cases q2
        exact ⟨fun k hk => e4 k (fun e => by subst e; exact hR.sep.1 n m bk b _ e6 hb q3 e7 hk), by rw [e5 m (Ne.symm q3)]; exact hb⟩⟩
  · rename_i t l c hop
    split at h <;> try exact h.elim
    rename_i e hu
    split at h <;> try exact h.elim
    rename_i ks bytes kl A kc B hk hl hc
    obtain ⟨hmk, h⟩ := h
    obtain ⟨d, hd, hfr, hK⟩ := newx_open h
    have vl : a.eval l = .int kl A := by have := Ev l; rw [hl] at this; exact this
    have vc : a.eval c = .int kc B := by have := Ev c; rw [hc] at this; exact this
    obtain ⟨w', L, e1, e2, e3, e4⟩ := make_sound (kl := kl) (kc := kc) hR hu hk hmk hfr
    have hrun : (execOp a.eval o).run P w = .ok (.value (.slice L.a L.len L.cap)) w' := by
      simp [execOp, hop, vl, vc, e1]
    rw [hrun]
    simp only [Oper.upon]
    refine hn _ _ _ _ w' hK (by simp [SRep, CRep, upd_eq]) e4 e2 (fun n hn' => upd_ne ?_) (.of (fun _ => ⟨e3, ins_old hfr⟩) fun _ _ _ q => by rw [hop] at q; cases q)
    simp only [newNames, hop, hd, List.mem_singleton] at hn'
    exact hn'
  · rename_i t len parts hop
    split at h <;> try exact h.elim
    rename_i e hu
    split at h <;> try exact h.elim
    rename_i ks bytes hk
    split at h <;> try exact h.elim
    rename_i hle
    obtain ⟨cs, σ1, h, hR1, hlit⟩ := literal_sound (d := o.dst.getD 0) (ps := parts.map fun (i, x) => (i, a.eval x)) hR hu hk (Nat.le_of_ble_eq_true hle) h (by simp) (by
      intro j p q h1 h2
      simp only [List.getElem?_map, Option.map_eq_some_iff, Array.toList_map] at h1 h2
      obtain ⟨p', e1, rfl⟩ := h1
      obtain ⟨q', e2, rfl⟩ := h2
      rw [e1] at e2; cases e2
      exact ⟨rfl, Ev _⟩)
    obtain ⟨d, hd, hfr, hK⟩ := newx_open h
    obtain ⟨v, w', L, e1, rfl, e2, e4⟩ := hlit (by rw [hd]; exact hfr)
    have hrun : (execOp a.eval o).run P w = .ok (.value (.slice L.a L.len L.cap)) w' := by
      simp [execOp, hop, e1]
    rw [hrun]
    simp only [Oper.upon]
    rw [hd] at e4
    refine hn _ _ _ _ w' hK (by simp [SRep, CRep, upd_eq]) e4 e2 (fun n hn' => upd_ne ?_) (.of (fun q => by simp [modOp, hop] at q) fun _ _ _ q => by rw [hop] at q; cases q)
    simp only [newNames, hop, hd, List.mem_singleton] at hn'
    exact hn'
  · rename_i s d x hop
    have E1 := Ev x
    unfold textx at h
    split at h
    · rename_i b hx
      rw [hx] at E1
      have hv : a.eval x = .string b := E1
      split at h <;> try exact h.elim
      · rename_i h1 h2
        have hrun : (execOp a.eval o).run P w = .ok (.value (.string b)) w := by
          have g1 := strT_sound h1
          have g2 := strT_sound h2
          simp [execOp, hop, hv, convert, run_underlying g1, run_underlying g2]
        rw [hrun]
        simp only [Oper.upon]
        exact hn _ (.one (.str b)) σ ρ w h rfl hR (Nat.le_refl _) (fun _ _ => rfl) (.of (fun _ => ⟨Keeps.refl _ _, fun _ _ q => q⟩) fun _ _ _ q => by rw [hop] at q; cases q)
      · rename_i h1 h2 h3
        obtain ⟨e, g2, g3, _⟩ := bytesT_sound h3
        obtain ⟨dn, hd, hfr, hK⟩ := newx_open h
        obtain ⟨v, w', L, e1, rfl, e2, e3, e4⟩ := text_bytes (P := P) (b := b) hR (strT_sound h1) g2 g3 hfr
        have hrun : (execOp a.eval o).run P w = .ok (.value (.slice L.a L.len L.cap)) w' := by
          simp [execOp, hop, hv, e1]
        rw [hrun]
        simp only [Oper.upon]
        refine hn _ _ _ _ w' hK (by simp [SRep, CRep, upd_eq]) e4 e2 (fun n hn' => upd_ne ?_) (.of (fun _ => ⟨e3, ins_old hfr⟩) fun _ _ _ q => by rw [hop] at q; cases q)
        simp only [newNames, hop, hd, List.mem_singleton] at hn'
        exact hn'
    · rename_i k n hx
      rw [hx] at E1
      obtain ⟨v, av, e1, e2, e3⟩ := convx_sound h E1
      have hrun : (execOp a.eval o).run P w = .ok (.value v) w := by
        simp [execOp, hop, e1]
      rw [hrun]
      simp only [Oper.upon]
      exact hn _ av σ ρ w e3 e2 hR (Nat.le_refl _) (fun _ _ => rfl) (.of (fun _ => ⟨Keeps.refl _ _, fun _ _ q => q⟩) fun _ _ _ q => by rw [hop] at q; cases q)
    · split at h
      · rename_i hsd
        have hsd : s = d := beq_nat hsd
        subst hsd
        split at h <;> try exact h.elim
        rename_i n hx
        rw [hx] at E1
        split at h <;> try exact h.elim
        rename_i l h1 hf
        obtain ⟨hin, hK⟩ := h
        obtain ⟨e, g2, g3, _⟩ := bytesT_sound h1
        have hv : a.eval x = .slice (ρ n).a (ρ n).len (ρ n).cap := E1
        obtain ⟨w', e1, e2, e3⟩ := mark_sound (P := P) hR hf (by have := hin.hi; simp only [llen] at this; omega) g2 g3
        have hrun : (execOp a.eval o).run P w = .ok (.value (.slice (ρ n).a (ρ n).len (ρ n).cap)) w' := by
          simp [execOp, hop, hv, e1]
        rw [hrun]
        simp only [Oper.upon]
        exact hn _ (.one (.vec n)) _ ρ w' hK rfl e3 (Nat.le_of_eq e2.symm) (fun _ _ => rfl) (.of (fun q => by simp [modOp, hop] at q) fun _ _ _ q => by rw [hop] at q; cases q)
      · split at h <;> try exact h.elim
        rename_i h1 h2
        obtain ⟨cs, L, hr, h⟩ := rdx_sound h Nat.one_pos hR.mem hR.sep E1
        split at h <;> try exact h.elim
        rename_i l
        obtain ⟨e, g2, g3, _⟩ := bytesT_sound h1
        have hrun : (execOp a.eval o).run P w = .ok (.value (.string (bytesOf l))) w := by
          simp [execOp, hop, bytes_text (P := P) hr g2 g3 (strT_sound h2)]
        rw [hrun]
        simp only [Oper.upon]
        exact hn _ (.one (.str (bytesOf l))) σ ρ w h rfl hR (Nat.le_refl _) (fun _ _ => rfl) (.of (fun _ => ⟨Keeps.refl _ _, fun _ _ q => q⟩) fun _ _ _ q => by rw [hop] at q; cases q)
  · rename_i args argTypes hop
    split at h <;> try exact h.elim
    rename_i x y tx ty hx ht
    have ea : args = #[x, y] := by rw [← Array.toArray_toList (xs := args), hx]
    have et : argTypes = #[tx, ty] := by rw [← Array.toArray_toList (xs := argTypes), ht]
    subst ea et
    unfold appendx at h
    split at h <;> try exact h.elim
    rename_i e hu
    split at h <;> try exact h.elim
    rename_i ks bytes hk
    split at h <;> try exact h.elim
    rename_i hseq
    obtain ⟨_, _, _, _, _, _, hwid, _⟩ := elemKinds_sound hk
    obtain ⟨cy, Ly, hG, h⟩ := rdy_sound (P := P) (w := w) h hwid hR.mem hR.sep (Ev y) (seq_kind hseq)
    obtain ⟨cx, Lx, σ1, hT, h⟩ := takex_sound h hwid hR.mem hR.sep (Ev x)
    split at h <;> try exact h.elim
    rename_i hkd
    rw [Bool.and_eq_true] at hkd
    obtain ⟨hroom, h⟩ := h
    obtain ⟨d, hd, hfr, hK⟩ := newx_open h
    obtain ⟨v, w', L, e1, rfl, e2, e4⟩ := append_sound (ot := o.type) hR hu hk hT hG (kdsEq_eq hkd.1) (kdsEq_eq hkd.2) hroom hfr
    have hrun : (execOp a.eval o).run P w = .ok (.value (.slice L.a L.len L.cap)) w' := by
      simp [execOp, hop, resolve, invoke, builtin, e1]
    rw [hrun]
    simp only [Oper.upon]
    refine hn _ _ _ _ w' hK (by simp [SRep, CRep, upd_eq]) e4 e2 (fun n hn' => upd_ne ?_) (.of (fun q => by simp [modOp, hop] at q) fun _ _ _ q => by rw [hop] at q; cases q)
    simp only [newNames, hop, hd, List.mem_singleton] at hn'
    exact hn'
  · rename_i args argTypes hop
    split at h <;> try exact h.elim
    rename_i x y tx ty hx ht
    have ea : args = #[x, y] := by rw [← Array.toArray_toList (xs := args), hx]
    have et : argTypes = #[tx, ty] := by rw [← Array.toArray_toList (xs := argTypes), ht]
    subst ea et
    split at h <;> try exact h.elim
    rename_i hseq
    obtain ⟨m, w', σ', e1, e2, e3, hK⟩ := copyx_sound (ot := o.type) h hR (Ev x) (Ev y) (seq_kind hseq)
    have hrun : (execOp a.eval o).run P w = .ok (.value (.int .i64 m)) w' := by
      simp [execOp, hop, resolve, invoke, builtin, e1]
    rw [hrun]
    simp only [Oper.upon]
    exact hn _ (.one (.int .i64 m)) σ' ρ w' hK rfl e3 e2 (fun _ _ => rfl) (.of (fun q => by simp [modOp, hop] at q) fun _ _ _ q => by rw [hop] at q; cases q)
  · rename_i f args argTypes hop
    have hargs : ∀ (j : Nat) x v, (args.toList.map (ev fr))[j]? = some x → (args.map a.eval)[j]? = some v → SRep ρ x v := by
      intro j x v h1 h2
      simp only [List.getElem?_map, Option.map_eq_some_iff, Array.getElem?_toList, Array.getElem?_map] at h1 h2
      obtain ⟨p, hp, rfl⟩ := h1
      obtain ⟨q, hq, rfl⟩ := h2
      rw [hp] at hq; cases hq
      exact Ev p
    split at h <;> try exact h.elim
    · rename_i g first capt hf
      split at h <;> try exact h.elim
      rename_i h1 h2
      have hv : a.eval f = .func (.func g) #[] #[] := by
        have := Ev f; rw [hf] at this; obtain ⟨e, _⟩ := this
        rw [e, ← Array.toArray_toList (xs := first), ← Array.toArray_toList (xs := capt), h1, h2]
      obtain ⟨s, d, hs, hd, hc⟩ := callx_sound (vals := args.map a.eval) h hΓ hR (by simp) hargs
      obtain ⟨_, fn, hfn, hname, hbody⟩ := hΓ g s hs
      have hrun : (execOp a.eval o).run P w = .ok (.enter g (args.map a.eval)) w := by
        cases hb : fn.body with
        | none => rw [hb] at hbody; cases hbody
        | some b => simp [execOp, hop, resolve, hv, Deferred.ofValue, invoke, callFunc, hfn, hname, hb]
      rw [hrun]
      simp only [Oper.upon]
      refine hc.mono ?_
      rintro e w' ⟨v, av, σ', ρ', rfl, hK, hav, hR', hsz, hρ, hk⟩
      refine hn v av σ' ρ' w' hK hav hR' hsz (fun n hn' => hρ n fun k hk' e => ?_) (.of (fun hm => hk ?_) fun _ _ _ q => by rw [hop] at q; cases q)
      · have hd' := hd (by omega)
        apply hn'
        simp only [newNames, hop, hd', hf, hs, List.mem_map, List.mem_range]
        exact ⟨k, hk', e.symm⟩
      · simp only [modOp, hop] at hm
        cases f <;> simp only [ev] at hf
        case func g' =>
          simp only [AV.one.injEq, AC.con.injEq, Value.func.injEq, Fn.func.injEq] at hf
          obtain ⟨rfl, _⟩ := hf
          simpa [hs] using hm
        all_goals (simp at hm)
    · rename_i g n b i hf
      have hv : a.eval f = .func (.func g) #[] #[.pointer (some (at_ ρ n (b + i)))] := by have := Ev f; rw [hf] at this; exact this
      obtain ⟨s, d, hs, hd, hc⟩ := callx_sound (vals := (args.map a.eval) ++ #[.pointer (some (at_ ρ n (b + i)))]) h hΓ hR (by simp) (by
        intro j x v h1 h2
        by_cases hj : j < args.size
        · rw [List.getElem?_append_left (by simpa using hj)] at h1
          rw [Array.getElem?_append_left (by simpa using hj)] at h2
          exact hargs j x v h1 h2
        · rw [List.getElem?_append_right (by simpa using hj)] at h1
          rw [Array.getElem?_append_right (by simpa using hj)] at h2
          simp only [List.length_map, Array.length_toList, Array.size_map] at h1 h2
          by_cases he : j - args.size = 0
          · rw [he] at h1 h2
            simp at h1 h2
            subst h1 h2; rfl
          · obtain ⟨q, hq⟩ : ∃ q, j - args.size = q + 1 := ⟨j - args.size - 1, by omega⟩
            rw [hq] at h1; simp at h1)
      obtain ⟨_, fn, hfn, hname, hbody⟩ := hΓ g s hs
      have hrun : (execOp a.eval o).run P w = .ok (.enter g ((args.map a.eval) ++ #[.pointer (some (at_ ρ n (b + i)))])) w := by
        cases hb : fn.body with
        | none => rw [hb] at hbody; cases hbody
        | some b => simp [execOp, hop, resolve, hv, Deferred.ofValue, invoke, callFunc, hfn, hname, hb]
      rw [hrun]
      simp only [Oper.upon]
      refine hc.mono ?_
      rintro e w' ⟨v, av, σ', ρ', rfl, hK, hav, hR', hsz, hρ, hk⟩
      refine hn v av σ' ρ' w' hK hav hR' hsz (fun n hn' => hρ n fun k hk' e => ?_) (.of (fun hm => hk ?_) fun _ _ _ q => by rw [hop] at q; cases q)
      · have hd' := hd (by omega)
        apply hn'
        simp only [newNames, hop, hd', hf, hs, List.mem_map, List.mem_range]
        exact ⟨k, hk', e.symm⟩
      · simp only [modOp, hop] at hm
        cases f <;> simp only [ev] at hf <;> simp at hm hf
  · exact h.elim
end
end Go.Sx

/- Regions: in the text's order, and in whatever order their edges allow. -/
namespace Go.Sx
open Go
set_option linter.unusedSimpArgs false
set_option linter.unusedVariables false
section
variable {P : Program} {Γ : Gam} {E : Env} {ρ : Rho} {fr : Fr} {σ : Mem} {a : Act} {w : World}

theorem Rep.frame {fr' : Fr} (h : Rep E ρ fr σ a w) (hf : FrRep ρ fr' a.tmps) : Rep E ρ fr' σ a w := ⟨hf, h.df, h.mem, h.sep, h.fix, h.own, h.keep⟩

theorem Rep.put {dst : Option Tmp} {x : AV} {v : Value} (h : Rep E ρ fr σ a w) (hx : SRep ρ x v) : Rep E ρ (fr.put dst x) σ (a.put dst v) w :=
  ⟨h.fr.put hx, by cases dst <;> exact h.df, h.mem, h.sep, h.fix, h.own, h.keep⟩

theorem SRep.undef (ρ : Rho) : SRep ρ (.tup []) undef := ⟨[], rfl, rfl, fun j t u hj => by simp at hj⟩

/-- the slot of a bool that is known -/
theorem slot_bool {b : Bool} {t : Nat} (h : FrRep ρ fr a.tmps) (ht : fr.get t = .one (.bool b) ∨ fr.get t = .one (.lit b)) : a.tmps[t]? = some (.bool b) := by
  have hlt : t < fr.length := by
    rcases Nat.lt_or_ge t fr.length with q | q
    · exact q
    · rw [Fr.get_out fr t q] at ht; rcases ht with ht | ht <;> cases ht
  have hlt' : t < a.tmps.size := by rw [← h.1]; exact hlt
  have := h.2 t a.tmps[t] (Array.getElem?_eq_getElem hlt')
  rw [Array.getElem?_eq_getElem hlt']
  rcases ht with ht | ht <;> rw [ht] at this <;> exact congrArg some this

theorem set_lit {b : Bool} {t : Nat} (h : FrRep ρ fr a.tmps) (ht : fr.get t = .one (.bool b)) : FrRep ρ (Fr.set fr t (.one (.lit b))) a.tmps :=
  h.same fun v hv => by rw [slot_bool h (Or.inl ht)] at hv; cases hv; rfl

theorem eval_bool {b : Bool} {c : Operand} (hR : Rep E ρ fr σ a w) (h : ev fr c = .one (.bool b) ∨ ev fr c = .one (.lit b)) : a.eval c = .bool b := by
  have := ev_sound hR.glob hR.fr c
  rcases h with h | h <;> rw [h] at this <;> exact this

/-- the worlds in which a block that was there at the region's beginning is as it was -/
def Held (σ0 : Mem) (ρ0 : Rho) (w0 : World) (m : Nat) (w : World) : Prop := ∀ b, Mem.find σ0 m = some b → ∀ k, Foot ρ0 m b k → w.heap[k]? = w0.heap[k]?

/-- one operation that leaves the memory alone: it yields its value, in every world that holds what it reads -/
theorem exec_det {o : Oper} {K : Fr → Mem → Prop} (h : execx P Γ o fr σ K) (he : isEff P o.op = false) (hR : Rep E ρ fr σ a w) :
    ∃ v fr', Rep E ρ fr' σ (a.put o.dst v) w ∧ K fr' σ ∧
      ((∀ w' : World, (execOp a.eval o).run P w' = .ok (.value v) w') ∨
       (∃ T x n b, o.op = .load T x ∧ addrName (ev fr x) = some n ∧ Mem.find σ n = some b ∧ ∀ w' : World, (∀ k, Foot ρ n b k → w'.heap[k]? = w.heap[k]?) → (execOp a.eval o).run P w' = .ok (.value v) w')) := by
  unfold execx at h
  split at h
  · rename_i c x y hop
    unfold pickx at h
    have pk : ∀ {b : Bool} {fr1 : Fr} {x1 : AV}, a.eval c = .bool b → FrRep ρ fr1 a.tmps → SRep ρ x1 (if b then a.eval x else a.eval y) → K (fr1.put o.dst x1) σ →
        ∃ v fr', Rep E ρ fr' σ (a.put o.dst v) w ∧ K fr' σ ∧ ((∀ w' : World, (execOp a.eval o).run P w' = .ok (.value v) w') ∨ (∃ T x n b, o.op = .load T x ∧ addrName (ev fr x) = some n ∧ Mem.find σ n = some b ∧ ∀ w' : World, (∀ k, Foot ρ n b k → w'.heap[k]? = w.heap[k]?) → (execOp a.eval o).run P w' = .ok (.value v) w')) := by
      intro b fr1 x1 hb hf hx hK
      refine ⟨_, _, (hR.frame hf).put hx, hK, Or.inl fun w' => ?_⟩
      simp [execOp, hop, hb, asBool]
    have Ev := fun x => ev_sound hR.glob hR.fr x
    split at h <;> try exact h.elim
    · rename_i hc; exact pk (b := true) (eval_bool hR (Or.inr hc)) hR.fr (Ev x) h
    · rename_i hc; exact pk (b := false) (eval_bool hR (Or.inr hc)) hR.fr (Ev y) h
    · rename_i t hc
      split at h <;> try exact h.elim
      rename_i s
      have hs := set_lit hR.fr hc
      cases t with
      | true => exact pk (b := true) (eval_bool hR (Or.inl hc)) hs (Ev x) (h.1 rfl)
      | false => exact pk (b := false) (eval_bool hR (Or.inl hc)) hs (Ev y) (h.2 rfl)
  · rw [he] at h
    simp only at h
    by_cases hld : ∀ T x, o.op ≠ .load T x
    · obtain ⟨v, av, h1, h2, h3⟩ := pure_sound h hld hR.mem hR.fr hR.glob
      exact ⟨v, _, hR.put h2, h3, Or.inl h1⟩
    · simp only [Classical.not_forall, Classical.not_not] at hld
      obtain ⟨T, x, ho⟩ := hld
      obtain ⟨v, av, n, b, h1, h2, h3, h4, h5⟩ := load_sound h ho hR.mem hR.fr hR.glob
      exact ⟨v, _, hR.put h4, h5, Or.inr ⟨T, x, n, b, ho, h1, h2, h3⟩⟩

theorem det_facts {o : Oper} (he : isEff P o.op = false) : modOp Γ o.op = false := by
  cases hop : o.op <;> rw [hop] at he <;> first
    | rfl
    | (rename_i s d x
       show Nat.beq s d = false
       cases hq : Nat.beq s d with
       | false => rfl
       | true => exfalso; simp [isEff, hq] at he; done)
    | (exfalso; simp [isEff] at he; done)
    | (rename_i c; obtain ⟨callee, args, tys⟩ := c; cases callee <;> first
        | rfl
        | (exfalso; simp [isEff] at he; done)
        | (rename_i b; cases b <;> first | rfl | (exfalso; simp [isEff] at he; done)))

/-- one operation, carried out -/
theorem exec_sound {o : Oper} {K : Fr → Mem → Prop} {next : Act → World → Prop} {Q : Exit → Act → World → Prop} (h : execx P Γ o fr σ K) (hΓ : GoodG P Γ) (hR : Rep E ρ fr σ a w)
    (hn : ∀ v fr' σ' ρ' w', K fr' σ' → Rep E ρ' fr' σ' (a.put o.dst v) w' → w.heap.size ≤ w'.heap.size → (∀ n, n ∉ newNames Γ fr o.op o.dst → ρ' n = ρ n) → (∃ fr1, fr1 = fr ∧ Leaves Γ ρ fr1 o.op σ σ' w w') → next (a.put o.dst v) w') : o.wp P a w next Q := by
  cases he : isEff P o.op with
  | false =>
    obtain ⟨v, fr', h1, h2, h3⟩ := exec_det h he hR
    have hrun : (execOp a.eval o).run P w = .ok (.value v) w := by
      rcases h3 with h3 | ⟨T, x, n, b, _, _, _, h3⟩
      · exact h3 w
      · exact h3 w (fun _ _ => rfl)
    unfold Oper.wp
    rw [hrun]
    exact hn v fr' σ ρ w h2 h1 (Nat.le_refl _) (fun _ _ => rfl) ⟨fr, rfl, fun _ => ⟨Keeps.refl _ _, fun _ _ q => q⟩, fun _ _ _ _ _ q => by rw [q] at he; cases he⟩
  | true =>
    unfold execx at h
    split at h
    · rename_i hop; rw [hop] at he; cases he
    · rw [he] at h
      exact effx_sound h hΓ hR fun v av σ' ρ' w' hK hav hR' hsz hρ hk => hn v _ σ' ρ' w' hK (hR'.put hav) hsz hρ ⟨fr, rfl, hk⟩

theorem yielded_slot {ops : Array Oper} {j t : Nat} {b : Bool} (hd : (ops.toList[j]?).bind (·.dst) = some t) (ht : a.tmps[t]? = some (.bool b)) : yielded ops a.tmps j = some b := by
  unfold yielded
  simp only [Array.getElem?_toList] at hd
  rw [hd]
  simp [ht]

/-- the guard of an operation, read -/
theorem step_cases {ops : Array Oper} {o : Oper} {K : Fr → Mem → Prop} (h : stepx P Γ ops.toList o fr σ K) (hR : Rep E ρ fr σ a w) :
    (Region.wanted o (yielded ops a.tmps) = true ∧ ∃ fr1, Rep E ρ fr1 σ a w ∧ execx P Γ o fr1 σ K ∧ (fr1 = fr ∨ ∃ t b, fr.get t = .one (.bool b) ∧ fr1 = fr.set t (.one (.lit b)))) ∨
    (Region.wanted o (yielded ops a.tmps) = false ∧ ∃ fr', Rep E ρ fr' σ (a.put o.dst undef) w ∧ K fr' σ) := by
  unfold stepx at h
  split at h
  · rename_i hg
    exact Or.inl ⟨by simp [Region.wanted, hg], fr, hR, h, Or.inl rfl⟩
  · rename_i j want hg
    split at h <;> try exact h.elim
    rename_i t hd
    have wt : ∀ {b : Bool}, a.tmps[t]? = some (.bool b) → Region.wanted o (yielded ops a.tmps) = (b == want) := fun hb => by
      simp [Region.wanted, hg, yielded_slot hd hb]
    split at h
    · rename_i b hb
      have hs := slot_bool hR.fr (Or.inr hb)
      split at h
      · rename_i hq; exact Or.inl ⟨by rw [wt hs]; exact hq, fr, hR, h, Or.inl rfl⟩
      · rename_i hq; exact Or.inr ⟨by rw [wt hs]; exact hq, _, hR.put (SRep.undef ρ), h⟩
    · rename_i b hb
      have hs := slot_bool hR.fr (Or.inl hb)
      have hl := hR.frame (set_lit hR.fr hb)
      by_cases hq : b = want
      · subst hq
        exact Or.inl ⟨by rw [wt hs]; simp, _, hl, h.1 rfl, Or.inr ⟨t, _, hb, rfl⟩⟩
      · have hq' : b = !want := by cases b <;> cases want <;> simp_all
        subst hq'
        exact Or.inr ⟨by rw [wt hs]; cases want <;> rfl, _, hl.put (SRep.undef ρ), h.2 rfl⟩
    · rename_i ht
      have hw : Region.wanted o (yielded ops a.tmps) = false := by
        have hy : yielded ops a.tmps j = none := by
          unfold yielded
          simp only [Array.getElem?_toList] at hd
          rw [hd]
          simp only [Option.bind_some]
          cases hq : a.tmps[t]? with
          | none => rfl
          | some v =>
            have := hR.fr.2 t v hq
            rw [ht] at this
            obtain ⟨us, rfl, _, _⟩ := this
            rfl
        simp [Region.wanted, hg, hy]
      exact Or.inr ⟨hw, _, hR.put (SRep.undef ρ), h⟩
    · exact h.elim
end
end Go.Sx

/- Regions: in the text's order, and in whatever order their edges allow. -/
namespace Go.Sx
open Go
set_option linter.unusedSimpArgs false
set_option linter.unusedVariables false
section
variable {P : Program} {Γ : Gam} {E : Env}

theorem opsx_sound {ops : Array Oper} {K : Fr → Mem → Prop} {Q : Exit → Act → World → Prop} (hΓ : GoodG P Γ) (hQ : ∀ ρ fr σ a w, Rep E ρ fr σ a w → K fr σ → Q .normal a w) :
    ∀ (l : List Oper) (k : Nat) (ρ : Rho) (fr : Fr) (σ : Mem) (a : Act) (w : World), (∀ j, l[j]? = ops[k + j]?) → opsx P Γ ops.toList K l fr σ → Rep E ρ fr σ a w → wpOps P ops Q (List.range' k l.length) a w
  | [], k, ρ, fr, σ, a, w, _, h, hR => by
    simp only [List.length_nil, List.range'_zero, wpOps]
    exact hQ ρ fr σ a w hR h
  | o :: l, k, ρ, fr, σ, a, w, hl, h, hR => by
    have h0 : ops[k]? = some o := by simpa using (hl 0).symm
    have hl' : ∀ j, l[j]? = ops[k + 1 + j]? := fun j => by have := hl (j + 1); simpa [Nat.add_assoc, Nat.add_comm 1 j] using this
    simp only [List.length_cons, List.range'_succ, wpOps, h0]
    simp only [opsx] at h
    rcases step_cases h hR with ⟨hw, fr1, hR1, hx, _⟩ | ⟨hw, fr', hR', hK⟩
    · rw [if_pos hw]
      exact Or.inl (exec_sound hx hΓ hR1 fun v fr' σ' ρ' w' hK hR' _ _ _ => opsx_sound hΓ hQ l (k + 1) ρ' fr' σ' _ w' hl' hK hR')
    · rw [if_neg (by rw [hw]; simp)]
      exact opsx_sound hΓ hQ l (k + 1) ρ fr' σ _ w hl' hK hR'

/-- whatever order is picked; behind an operation that only adds to memory, what held still holds -/
def AnyM (P : Program) (ops : Array Oper) (Q : Exit → Act → World → Prop) (S : Nat → World → Prop) (mod : Nat → Nat → Bool) : Nat → Array Bool → Act → World → Prop
  | 0, listed, a, w => Region.ready .any ops listed = [] ∧ Q .normal a w
  | n + 1, listed, a, w => (Region.ready .any ops listed = [] → Q .normal a w) ∧
    ∀ i ∈ Region.ready .any ops listed, wpOp P ops Q i (fun a' w' => (∀ m, mod i m = false → (∀ j, mod j m = true → listed.getD j true = false) → S m w → S m w') ∧ AnyM P ops Q S mod n (listed.setIfInBounds i true) a' w') a w

theorem any_of_M {ops : Array Oper} {Q : Exit → Act → World → Prop} {S : Nat → World → Prop} {mod : Nat → Nat → Bool} : ∀ (n : Nat) (listed : Array Bool) (a : Act) (w : World), AnyM P ops Q S mod n listed a w → wpAny P .any ops Q n listed a w
  | 0, _, _, _, h => h
  | n + 1, _, _, _, h => ⟨h.1, fun i hi => wpOp_mono (fun a' w' q => any_of_M n _ a' w' q.2) (h.2 i hi)⟩

/-- an operation that yields the same in every world that counts may come first -/
theorem anyM_first {ops : Array Oper} {Q : Exit → Act → World → Prop} {S : Nat → World → Prop} {mod : Nat → Nat → Bool} {rd : Bool} {mm : Nat} {i : Nat} {oi : Oper} {v : Value} (hi : ops[i]? = some oi) (hsel : Region.noSelect ops = true) (hQ : ∀ c a w, ¬ Q (.panic c) a w)
    : ∀ (n : Nat) (listed : Array Bool) (a : Act) (w : World), Region.free .any ops listed i = true → (rd = true → ∀ j, j ≠ i → mod j mm = true → listed.getD j true = false → ∃ oj, ops[j]? = some oj ∧ dependsOn oj i = true) → (∀ m, mod i m = false) → (rd = true → ∀ j, mod j mm = true → listed.getD j true = false) →
      i ∈ Region.ready .any ops listed → YieldsIf P ops (fun w => rd = true → S mm w) oi v a → (rd = true → S mm w) → AnyM P ops Q S mod n (listed.setIfInBounds i true) (a.put oi.dst v) w → AnyM P ops Q S mod (n + 1) listed a w := by
  intro n
  induction n with
  | zero =>
    intro listed a w _ _ _ _ hr hy hS H
    refine ⟨fun h => (by rw [h] at hr; cases hr), fun j hj => ?_⟩
    by_cases hji : j = i
    · subst hji; exact hy.wpOp hi hS ⟨fun _ _ _ q => q, H⟩
    · have := ready_mono hj hji
      rw [H.1] at this
      cases this
  | succ n ih =>
    intro listed a w hfree hdep hmi hunl hr hy hS H
    refine ⟨fun h => (by rw [h] at hr; cases hr), fun j hj => ?_⟩
    by_cases hji : j = i
    · subst hji; exact hy.wpOp hi hS ⟨fun _ _ _ q => q, H⟩
    · have h1 := H.2 j (ready_mono hj hji)
      obtain ⟨hjun, oj, hoj, hall⟩ := mem_ready.1 hj
      have hiun := (mem_ready.1 hr).1
      have hlast : ∀ e ∈ oj.after, Region.binds .any e = true → e.on ≠ i := fun e he hb heq => by
        have q := hall e he hb
        rw [heq] at q
        rcases Nat.lt_or_ge i listed.size with h' | h'
        · simp [h'] at hiun q; rw [hiun] at q; cases q
        · simp [Array.getElem?_eq_none h'] at q
      have hap := Region.free_spec hi hfree j oj hoj hji hjun hlast
      have h2 := wpOp_putIf hoj hap (fun cs b => Region.noSelect_spec hsel i oi cs b hi) (fun cs b => Region.noSelect_spec hsel j oj cs b hoj) (fun c a w q => absurd q (hQ c _ w)) hy h1
      have hmj : rd = true → mod j mm = false := fun q => by
        cases hm : mod j mm with
        | false => rfl
        | true =>
          obtain ⟨oj', ho', hd⟩ := hdep q j hji hm hjun
          rw [hoj] at ho'; cases ho'
          unfold dependsOn at hd
          obtain ⟨e, he, hb⟩ := Array.any_eq_true'.1 hd
          simp only [Bool.and_eq_true, beq_iff_eq] at hb
          exact absurd hb.2 (hlast e he hb.1)
      have setI : ∀ m, (∀ k, mod k m = true → listed.getD k true = false) → ∀ k, mod k m = true → (listed.setIfInBounds i true).getD k true = false := fun m q k hk => by
        by_cases hik : i = k
        · subst hik; rw [hmi m] at hk; cases hk
        · rw [getD_set_ne true hik]; exact q k hk
      refine wpOp_mono (fun a' w' h3 => ?_) h2
      obtain ⟨hy', hSS, hA⟩ := h3
      have hS' : rd = true → S mm w' := fun q => hSS mm (hmj q) (setI mm (hunl q)) (hS q)
      refine ⟨fun m h1 h2 => hSS m h1 (setI m h2), ih (listed.setIfInBounds j true) a' w' ?_ ?_ hmi (fun q k hk => ?_) (ready_mono hr (Ne.symm hji)) hy' hS' ?_⟩
      · unfold Region.free at hfree ⊢
        simp only [hi, List.all_eq_true, List.mem_range] at hfree ⊢
        intro k hk
        have := hfree k hk
        by_cases hjk : j = k
        · subst hjk
          have hlt : j < listed.size := by
            rcases Nat.lt_or_ge j listed.size with h' | h'
            · exact h'
            · simp [Array.getElem?_eq_none h'] at hjun
          simp [hlt]
        · rw [getD_set_ne true hjk]; exact this
      · intro q k hki hm hun
        refine hdep q k hki hm ?_
        by_cases hjk : j = k
        · subst hjk; exact hjun
        · rw [getD_set_ne true hjk] at hun; exact hun
      · by_cases hjk : j = k
        · subst hjk; rw [hmj q] at hk; cases hk
        · rw [getD_set_ne true hjk]; exact hunl q k hk
      · rw [Array.setIfInBounds_comm _ _ hji]
        exact hA

theorem allOf_mem {f : Nat → Prop} : ∀ {l : List Nat}, allOf f l → ∀ i ∈ l, f i
  | [], _, i, hi => by cases hi
  | [j], h, i, hi => by simp at hi; subst hi; exact h
  | j :: k :: l, h, i, hi => by
    rcases List.mem_cons.1 hi with e | hi
    · subst e; exact h.1
    · exact allOf_mem h.2 i hi

theorem newNames_set {fr : Fr} {t : Nat} {b : Bool} {op : Op} {dst : Option Tmp} (ht : fr.get t = .one (.bool b)) : newNames Γ (fr.set t (.one (.lit b))) op dst = newNames Γ fr op dst := by
  cases dst with
  | none => rfl
  | some d =>
    cases op <;> try rfl
    rename_i c
    obtain ⟨callee, args, tys⟩ := c
    cases callee <;> try rfl
    rotate_left
    · rename_i bi; cases bi <;> rfl
    rename_i f
    cases f <;> try rfl
    rename_i u
    simp only [newNames, ev, Fr.get_set]
    by_cases hu : t = u ∧ t < fr.length
    · rw [if_pos hu]
      obtain ⟨rfl, _⟩ := hu
      rw [ht]
    · rw [if_neg hu]

theorem addr_lit {fr fr1 : Fr} {x : Operand} {n : Nat} (h : fr1 = fr ∨ ∃ t b, fr.get t = .one (.bool b) ∧ fr1 = fr.set t (.one (.lit b))) (hev : addrName (ev fr1 x) = some n) : ev fr x = ev fr1 x := by
  rcases h with rfl | ⟨t, b, ht, rfl⟩
  · rfl
  · cases x with
    | tmp u =>
      simp only [ev, Fr.get_set] at hev ⊢
      split at hev
      · cases hev
      · rename_i hc; rw [if_neg hc]
    | const _ => rfl
    | global _ => rfl
    | func _ => rfl

theorem store_addr {fr : Fr} {σ : Mem} {o : Oper} {K : Fr → Mem → Prop} {T : TypeId} {x y : Operand} (h : execx P Γ o fr σ K) (hop : o.op = .store T x y) : ∃ n, addrName (ev fr x) = some n ∧ ((∃ b i, ev fr x = .one (.ptr n b i)) ∨ ∃ z i b j, ev fr x = .one (.vptr n z i b j)) := by
  unfold execx at h
  rw [hop] at h
  simp only [isEff, effx] at h
  split at h <;> try exact h.elim
  · rename_i n base idx hx
    exact ⟨n, by rw [hx]; rfl, Or.inl ⟨_, _, hx⟩⟩
  · rename_i n z i b j hx
    exact ⟨n, by rw [hx]; rfl, Or.inr ⟨_, _, _, _, hx⟩⟩

theorem drawx_sound {ops : Array Oper} {rts : List (Option Nat)} {K : Fr → Mem → Prop} {Q : Exit → Act → World → Prop} {σ0 : Mem} {ρ0 : Rho} {w0 : World} (hΓ : GoodG P Γ) (hsel : Region.noSelect ops = true) (hQp : ∀ c a w, ¬ Q (.panic c) a w) (hQ : ∀ ρ fr σ a w, Rep E ρ fr σ a w → K fr σ → Q .normal a w) (h0 : MemRep ρ0 σ0 w0) :
    ∀ (n : Nat) (ρ : Rho) (listed : Array Bool) (fr : Fr) (σ : Mem) (a : Act) (w : World), drawx P Γ ops rts σ0 K n listed fr σ → Rep E ρ fr σ a w → (∀ m b, Mem.find σ0 m = some b → ρ m = ρ0 m) → w0.heap.size ≤ w.heap.size →
      (∀ m b, Mem.find σ0 m = some b → (∀ j, modAt Γ ops rts j m = true → listed.getD j true = false) → (∀ k, Foot ρ0 m b k → w.heap[k]? = w0.heap[k]?) ∧ Mem.find σ m = some b) →
      AnyM P ops Q (Held σ0 ρ0 w0) (fun j m => modAt Γ ops rts j m) n listed a w
  | 0, ρ, listed, fr, σ, a, w, h, hR, _, _, _ => by
    simp only [drawx] at h
    split at h
    · rename_i hr; exact ⟨hr, hQ ρ fr σ a w hR h⟩
    · exact h.elim
  | n + 1, ρ, listed, fr, σ, a, w, h, hR, hρ, hsz, hH => by
    simp only [drawx] at h
    split at h
    · rename_i hr
      exact ⟨fun _ => hQ ρ fr σ a w hR h, fun i hi => by rw [hr] at hi; cases hi⟩
    · rename_i rs hr
      split at h
      · rename_i i hfind
        split at h <;> try exact h.elim
        rename_i o ho
        have htake := List.find?_some hfind
        have hmem : i ∈ Region.ready .any ops listed := List.mem_of_find?_eq_some hfind
        simp only [takeable, ho, Bool.and_eq_true, Bool.not_eq_true'] at htake
        obtain ⟨⟨he, hfree⟩, hld⟩ := htake
        have hmo := det_facts (Γ := Γ) he
        have hmi : ∀ m, modAt Γ ops rts i m = false := fun m => by simp [modAt, ho, hmo]
        have next : ∀ {fr' : Fr} {v : Value}, Rep E ρ fr' σ (a.put o.dst v) w → drawx P Γ ops rts σ0 K n (listed.setIfInBounds i true) fr' σ → AnyM P ops Q (Held σ0 ρ0 w0) (fun j m => modAt Γ ops rts j m) n (listed.setIfInBounds i true) (a.put o.dst v) w := by
          intro fr' v hR' hK
          refine drawx_sound hΓ hsel hQp hQ h0 n ρ _ fr' σ _ w hK hR' hρ hsz fun m b hb hun => hH m b hb fun j hm => ?_
          have := hun j hm
          by_cases hji : i = j
          · subst hji; rw [hmi m] at hm; cases hm
          · rw [getD_set_ne true hji] at this; exact this
        rcases step_cases h hR with ⟨hw, fr1, hR1, hx, hfr1⟩ | ⟨hw, fr', hR', hK⟩
        · obtain ⟨v, fr', h1, h2, h3⟩ := exec_det hx he hR1
          rcases h3 with h3 | ⟨T, x, m, b, hop, hev, hb, h3⟩
          · exact anyM_first (rd := false) (mm := 0) ho hsel hQp n listed a w hfree (fun q => by cases q) hmi (fun q => by cases q) hmem (Or.inl ⟨hw, fun w' _ => h3 w'⟩) (fun q => by cases q) (next h1 h2)
          · have hev0 : addrName (ev fr x) = some m := by rw [addr_lit hfr1 hev]; exact hev
            rw [hop] at hld
            simp only [hev0, Bool.and_eq_true, List.all_eq_true, List.mem_range] at hld
            obtain ⟨hl1, hl2⟩ := hld
            obtain ⟨b0, hb0⟩ := Option.isSome_iff_exists.1 hl1
            have hun : ∀ j, modAt Γ ops rts j m = true → ∃ oj, ops[j]? = some oj ∧ listed.getD j true = false ∧ dependsOn oj i = true := fun j hm => by
              cases hoj : ops[j]? with
              | none => simp [modAt, hoj] at hm
              | some oj =>
                have hlt : j < ops.size := (Array.getElem?_eq_some_iff.1 hoj).1
                have := hl2 j hlt
                rw [hoj] at this
                simp only [hm, Bool.not_true, Bool.false_or, Bool.and_eq_true, Bool.not_eq_true'] at this
                exact ⟨oj, rfl, this⟩
            obtain ⟨hheld, hbb⟩ := hH m b0 hb0 fun j hm => by obtain ⟨_, _, q, _⟩ := hun j hm; exact q
            rw [hb] at hbb
            cases hbb
            refine anyM_first (rd := true) (mm := m) ho hsel hQp n listed a w hfree (fun _ j hji hm hu => ?_) hmi (fun _ j hm => by obtain ⟨_, _, q, _⟩ := hun j hm; exact q) hmem (Or.inl ⟨hw, fun w' hS => h3 w' fun k hk => ?_⟩) (fun _ b' hb' k hk => ?_) (next h1 h2)
            · obtain ⟨oj, q1, _, q3⟩ := hun j hm
              exact ⟨oj, q1, q3⟩
            · have hk0 : Foot ρ0 m b k := (Foot.agree (hρ m b hb0)).1 hk
              rw [hS rfl b hb0 k hk0, hheld k hk0]
            · rw [hb0] at hb'; cases hb'
              exact hheld k hk
        · exact anyM_first (rd := false) (mm := 0) ho hsel hQp n listed a w hfree (fun q => by cases q) hmi (fun q => by cases q) hmem (Or.inr ⟨hw, rfl⟩) (fun q => by cases q) (next hR' hK)
      · have h := allOf_mem h
        refine ⟨fun q => (hr q).elim, fun i hi => ?_⟩
        have h := h i hi
        cases ho : ops[i]? with
        | none => rw [ho] at h; exact h.elim
        | some o =>
          rw [ho] at h
          simp only at h
          split at h <;> try exact h.elim
          rename_i hnew0
          rw [Bool.and_eq_true] at hnew0
          obtain ⟨hroot, hnew⟩ := hnew0
          have hnew' : ∀ m b, Mem.find σ0 m = some b → m ∉ newNames Γ fr o.op o.dst := fun m b hb hm => by
            have := List.all_eq_true.1 hnew m hm
            rw [hb] at this; cases this
          unfold wpOp
          simp only [ho]
          have next : ∀ {ρ' : Rho} {fr' : Fr} {σ' : Mem} {v : Value} {w' : World}, Rep E ρ' fr' σ' (a.put o.dst v) w' → drawx P Γ ops rts σ0 K n (listed.setIfInBounds i true) fr' σ' → (∀ m, m ∉ newNames Γ fr o.op o.dst → ρ' m = ρ m) →
              w.heap.size ≤ w'.heap.size → (∀ m b, Mem.find σ0 m = some b → modAt Γ ops rts i m = false → Mem.find σ m = some b → (∀ k, Foot ρ0 m b k → w'.heap[k]? = w.heap[k]?) ∧ Mem.find σ' m = some b) →
              ((∀ m, modAt Γ ops rts i m = false → (∀ j, modAt Γ ops rts j m = true → listed.getD j true = false) → Held σ0 ρ0 w0 m w → Held σ0 ρ0 w0 m w') ∧ AnyM P ops Q (Held σ0 ρ0 w0) (fun j m => modAt Γ ops rts j m) n (listed.setIfInBounds i true) (a.put o.dst v) w') := by
            intro ρ' fr' σ' v w' hR' hK hρ' hsz' hk
            refine ⟨fun m hm hun q b hb k hne => by rw [(hk m b hb hm (hH m b hb hun).2).1 k hne]; exact q b hb k hne, drawx_sound hΓ hsel hQp hQ h0 n ρ' _ fr' σ' _ w' hK hR' (fun m b hb => by rw [hρ' m (hnew' m b hb)]; exact hρ m b hb) (by omega) fun m b hb hun => ?_⟩
            have hm : modAt Γ ops rts i m = false := by
              cases hq : modAt Γ ops rts i m with
              | false => rfl
              | true =>
                have := hun i hq
                have hiun := (mem_ready.1 hi).1
                have hlt : i < listed.size := by
                  rcases Nat.lt_or_ge i listed.size with h' | h'
                  · exact h'
                  · simp [Array.getElem?_eq_none h'] at hiun
                simp [hlt] at this
            obtain ⟨g1, g2⟩ := hH m b hb fun j hmj => by
              have := hun j hmj
              by_cases hji : i = j
              · subst hji; exact (mem_ready.1 hi).1
              · rw [getD_set_ne true hji] at this; exact this
            obtain ⟨k1, k2⟩ := hk m b hb hm g2
            exact ⟨fun k hne => (k1 k hne).trans (g1 k hne), k2⟩
          rcases step_cases h hR with ⟨hw, fr1, hR1, hx, hfr1⟩ | ⟨hw, fr', hR', hK⟩
          · rw [if_pos hw]
            have hnn : newNames Γ fr1 o.op o.dst = newNames Γ fr o.op o.dst := by
              rcases hfr1 with rfl | ⟨t, b, ht, rfl⟩
              · rfl
              · exact newNames_set ht
            refine Or.inl (exec_sound hx hΓ hR1 fun v fr' σ' ρ' w' hK hR' hsz' hρ' hk => next hR' hK (fun m hm => hρ' m (by rw [hnn]; exact hm)) hsz' fun m b hb hm hfind => ?_)
            obtain ⟨_, rfl, hk1, hk2⟩ := hk
            by_cases hmo : modOp Γ o.op = false
            · obtain ⟨q1, q2⟩ := hk1 hmo
              exact ⟨fun k hne => q1.block _ (by have := in_range (h0 m b hb) hne; omega) (fun q => q), q2 m b hfind⟩
            · -- a store into another block
              simp only [modAt, ho, Bool.and_eq_false_iff] at hm
              rcases hm with hm | hm
              · exact absurd hm hmo
              · split at hm <;> try (cases hm; done)
                rename_i T x y hop
                split at hm <;> try (cases hm; done)
                rename_i r hrt
                have hrm : r ≠ m := by simpa using hm
                rw [hrt, hop] at hroot
                obtain ⟨nn, hev, hform⟩ := store_addr hx hop
                have hev0 := addr_lit hfr1 hev
                have hrn : nn = r := by
                  rcases hform with ⟨q1, q2, q3⟩ | ⟨q1, q2, q3, q4, q5⟩
                  · simp only [rootOk, hev0, q3, beq_iff_eq] at hroot; exact hroot
                  · simp only [rootOk, hev0, q5, beq_iff_eq] at hroot; exact hroot
                subst hrn
                obtain ⟨q1, q2⟩ := hk2 T x y nn m hop hev hrm b hfind
                exact ⟨fun k hk => q1 k ((Foot.agree (hρ m b hb)).2 hk), q2⟩
          · rw [if_neg (by rw [hw]; simp)]
            exact next hR' hK (fun _ _ => rfl) (Nat.le_refl _) (fun m b hb hm q => ⟨fun _ _ => rfl, q⟩)
end
end Go.Sx

/- The walk of a function's code is sound: what 'callsx' says of a call, the call does. -/
namespace Go.Sx
open Go
set_option linter.unusedSimpArgs false
set_option linter.unusedVariables false
section
variable {P : Program} {Γ : Gam} {E : Env}

theorem Fr.get_eq : ∀ (fr : Fr) (t : Nat), Fr.get fr t = (fr[t]?).getD .undef
  | [], t => by simp [Fr.get]
  | x :: r, 0 => by simp [Fr.get]
  | x :: r, t + 1 => by simp [Fr.get, Fr.get_eq r t]

theorem scrub_sound {ρ : Rho} {tmps : Array Value} : ∀ (l : List Nat) {fr : Fr}, FrRep ρ fr tmps → FrRep ρ (scrubFr l fr) tmps
  | [], fr, h => h
  | t :: l, fr, h => by
    simp only [scrubFr, List.foldr_cons]
    exact (scrub_sound l h).same fun _ _ => trivial

theorem find_filter (f : Nat → Bool) : ∀ {σ : Mem} {n : Nat} {b : Blk}, Mem.find (σ.filter fun p => f p.1) n = some b → Mem.find σ n = some b
  | [], n, b, h => by simp [Mem.find] at h
  | (m, x) :: r, n, b, h => by
    simp only [Mem.find]
    cases hf : f m with
    | true =>
      rw [List.filter_cons_of_pos (by simpa using hf)] at h
      simp only [Mem.find] at h
      split at h
      · rename_i e; rw [if_pos e]; exact h
      · rename_i e; rw [if_neg e]; exact find_filter f h
    | false =>
      rw [List.filter_cons_of_neg (by simp [hf])] at h
      by_cases e : m = n
      · subst e
        exfalso
        have none : ∀ {r : Mem}, Mem.find (r.filter fun p => f p.1) m = none := by
          intro r
          induction r with
          | nil => rfl
          | cons y r ih =>
            cases hy : f y.1 with
            | true =>
              rw [List.filter_cons_of_pos (by simpa using hy)]
              obtain ⟨q, z⟩ := y
              simp only [Mem.find]
              rw [if_neg (fun e => by subst e; rw [hf] at hy; cases hy)]
              exact ih
            | false => rw [List.filter_cons_of_neg (by simp [hy])]; exact ih
        rw [none] at h; cases h
      · rw [if_neg e]; exact find_filter f h

theorem head0_sound {ρ : Rho} {fr : Fr} {σ : Mem} {a : Act} {w : World} {c : Code} {k : List Item} (h : Rep E ρ fr σ a w) : Rep E ρ (headFr c k fr) (headMem c k fr σ) a w := by
  refine h.less (scrub_sound _ (scrub_sound _ h.fr)) fun n b hb => ?_
  exact find_filter (σ := σ) (fun m => !(((σ.map fun p : Nat × Blk => p.1).filter fun n => Nat.blt n 200000).contains m) || frRefs m (headFr c k fr) || σ.any (fun q => segsRefs m q.2.segs)) hb

theorem rdw_takex {σ σ1 : Mem} {ks : List Kd} {x : AV} {cs : List Col} (h : rdw σ ks x = some (cs, σ1)) : takex σ ks x fun c s => c = cs ∧ s = σ1 := by
  have fin : ∀ {a c : List Col} {b d : Mem}, some (a, b) = some (c, d) → a = c ∧ b = d := fun q => by cases q; exact ⟨rfl, rfl⟩
  unfold rdw at h
  split at h
  · rename_i n
    show (match Mem.find σ n with | some (.vec cs) => _ | _ => False)
    split at h
    · rename_i hq; rw [hq]; exact fin h
    · cases h
  · rename_i n z i len
    show (match Mem.find σ n with | some (.vec cs) => _ | _ => False)
    split at h
    · rename_i hq
      rw [hq]
      split at h
      · rename_i hz; show (match Nat.beq z _ with | true => _ | false => False); rw [hz]; exact fin h
      · cases h
    · cases h
  · rename_i n base idx len cap
    show (match Mem.find σ n with | some (.own _ s) => _ | _ => False)
    split at h
    · rename_i hq
      rw [hq]
      split at h
      · rename_i hf
        show (match findSeg _ base with | some (.ints k N l) => _ | _ => False)
        rw [hf]
        split at h
        · rename_i hz; exact ⟨⟨Nat.le_of_ble_eq_true hz⟩, fin h⟩
        · cases h
      · cases h
    · cases h
  · exact fin h
  · cases h

theorem rdo_reads {ρ : Rho} {σ σ1 : Mem} {w : World} {ks : List Kd} {x : AV} {cs : List Col} {v : Value} (h : rdo σ ks x = some (cs, σ1)) (hks : 0 < width ks) (hm : MemRep ρ σ w) (hs : Sep ρ σ) (hx : SRep ρ x v) :
    ∃ L, Reads ρ σ w v cs L ∧ (∀ m b, Mem.find σ1 m = some b → Mem.find σ m = some b) ∧ ∀ k, FootL L cs k → Clean ρ σ1 k := by
  have fin : ∀ {L : Loc} {cs : List Col} {σ1 : Mem}, Reads ρ σ w v cs L → (∀ m b, Mem.find σ1 m = some b → Mem.find σ m = some b) → (L.len ≠ 0 → Clean ρ σ1 L.1) → ∃ L, Reads ρ σ w v cs L ∧ (∀ m b, Mem.find σ1 m = some b → Mem.find σ m = some b) ∧ ∀ k, FootL L cs k → Clean ρ σ1 k :=
    fun {L cs σ1} hr hl hc => ⟨L, hr, hl, fun k hk => by
      rcases hk with ⟨q, rfl⟩ | hk
      · exact hc q
      · exact (hr.clean k hk).less hl⟩
  have foot : ∀ {n : Nat} {cs : List Col} {b : Blk}, Mem.find σ n = some b → Mem.cols σ n = some cs → (ρ n).len ≠ 0 → Foot ρ n b (ρ n).1 := fun {n cs b} hb hcs q => by
    obtain ⟨_, b', hb', _, hf⟩ := cols_sound hm hcs
    rw [hb] at hb'; cases hb'
    exact hf _ (Or.inl ⟨q, rfl⟩)
  have idl : ∀ m b, Mem.find σ m = some b → Mem.find σ m = some b := fun _ _ q => q
  unfold rdo at h
  split at h
  · rename_i n
    split at h <;> try (cases h; done)
    · rename_i cs' hn
      simp only [Option.some.injEq, Prod.mk.injEq] at h
      obtain ⟨rfl, rfl⟩ := h
      have hcs : Mem.cols σ n = some cs' := by simp [Mem.cols, hn]
      exact fin (reads_vec hm hs hcs hx) (erase_less n) (fun q => clean_erase hs hn (foot hn hcs q))
    · rename_i cs' hn
      simp only [Option.some.injEq, Prod.mk.injEq] at h
      obtain ⟨rfl, rfl⟩ := h
      have hcs : Mem.cols σ n = some cs' := by simp [Mem.cols, hn]
      exact fin (reads_vec hm hs hcs hx) idl (fun q => clean_view hs hn (foot hn hcs q) (fun k q => q))
  · rename_i n z i len
    have hle := hx
    obtain ⟨_, _, _, _, hle, _⟩ := hle
    split at h <;> try (cases h; done)
    · rename_i cs' hn
      split at h <;> try (cases h; done)
      rename_i hz
      simp only [Option.some.injEq, Prod.mk.injEq] at h
      obtain ⟨rfl, rfl⟩ := h
      have hcs : Mem.cols σ n = some cs' := by simp [Mem.cols, hn]
      obtain ⟨A, cap, hr, _⟩ := reads_vsl hm hs hcs (beq_nat hz) hx
      exact fin hr (erase_less n) (fun q => clean_erase hs hn (foot hn hcs (by have : len ≠ 0 := q; omega)))
    · rename_i cs' hn
      split at h <;> try (cases h; done)
      rename_i hz
      simp only [Option.some.injEq, Prod.mk.injEq] at h
      obtain ⟨rfl, rfl⟩ := h
      have hcs : Mem.cols σ n = some cs' := by simp [Mem.cols, hn]
      obtain ⟨A, cap, hr, _⟩ := reads_vsl hm hs hcs (beq_nat hz) hx
      exact fin hr idl (fun q => clean_view hs hn (foot hn hcs (by have : len ≠ 0 := q; omega)) (fun k q => q))
  · rename_i n c i
    split at h <;> try (cases h; done)
    rename_i k ll hr
    simp only [Option.some.injEq, Prod.mk.injEq] at h
    obtain ⟨rfl, rfl⟩ := h
    obtain ⟨l, e, σ1, hsh, hl, hσ⟩ := sharex_sound (K := fun l s => l = llget ll i ∧ s = σ) (k := k) (x := .el n c i) (by simp [sharex, rdx, hr, oneInts]) hm hs hx
    subst hl hσ
    obtain ⟨g1, g2, g3, g4, g5⟩ := Elt.rep hsh.rep
    refine fin ⟨by rw [g2, g3, g4]; exact hsh.val, g1, fun k hk => absurd hk not_inner_ints, fun q => ?_⟩ idl (fun q => ?_)
    · obtain ⟨cs0, hc, hlen, hV, b, hb, hbb, hf⟩ := rows_sound hm hr
      obtain ⟨rfl, hi⟩ := hx
      obtain ⟨hne, a', ha', hab⟩ := g5 _ (Or.inl ⟨q, rfl⟩)
      have hin : Clean ρ σ1 e.loc.1 := by rw [hab]; exact (hsh.clean hne a' ha').1
      have hv := hsh.val
      simp only [Value.slice.injEq] at hv
      have hfo : Foot ρ n b e.loc.1 := hf _ (Or.inr ⟨c, k, ll, i, _, a', hc, llget_some (by omega), hne, by rw [hv.1]; exact ha', hab⟩)
      exact ⟨n, b, hb, hfo, fun m c' hm' _ => hin m c' hm'⟩
    · obtain ⟨hne, a', ha', hab⟩ := g5 _ (Or.inl ⟨q, rfl⟩)
      rw [hab]; exact (hsh.clean hne a' ha').1
  · rename_i n c i o len
    split at h <;> try (cases h; done)
    rename_i k ll hr
    simp only [Option.some.injEq, Prod.mk.injEq] at h
    obtain ⟨rfl, rfl⟩ := h
    obtain ⟨l, e, σ1, hsh, hl, hσ⟩ := sharex_sound (K := fun l s => l = lsub (llget ll i) o len ∧ s = σ) (k := k) (x := .esl n c i o len) (by simp [sharex, rdx, hr, oneInts]) hm hs hx
    subst hl hσ
    obtain ⟨g1, g2, g3, g4, g5⟩ := Elt.rep hsh.rep
    obtain ⟨cs', L', hrd, hcs'⟩ := rdx_sound (K := fun c => c = [Col.ints k (lsub (llget ll i) o len)]) (ks := [.ints k]) (x := .one (.esl n c i o len)) (by simp [rdx, hr]) Nat.one_pos hm hs hx
    refine fin ⟨by rw [g2, g3, g4]; exact hsh.val, g1, fun k hk => absurd hk not_inner_ints, fun q => ?_⟩ idl (fun q => ?_)
    · obtain ⟨hne, a', ha', hab⟩ := g5 _ (Or.inl ⟨q, rfl⟩)
      have hin : Clean ρ σ1 e.loc.1 := by rw [hab]; exact (hsh.clean hne a' ha').1
      have hv := hsh.val
      rw [hrd.val] at hv
      simp only [Value.slice.injEq] at hv
      have hl0 : L'.len ≠ 0 := by rw [hv.2.1, ← g3]; exact q
      obtain ⟨n', b', hb', hfo, _⟩ := hrd.root hl0
      have hL1 : L'.1 = e.loc.1 := by
        have h1 := hrd.rep.adr hl0
        have h2 := g1.adr q
        rw [g2, ← hv.1, h1] at h2
        simp only [Option.some.injEq, Loc.at, Addr.mk.injEq] at h2
        exact h2.1
      rw [hL1] at hfo
      exact ⟨n', b', hb', hfo, fun m c' hm' _ => hin m c' hm'⟩
    · obtain ⟨hne, a', ha', hab⟩ := g5 _ (Or.inl ⟨q, rfl⟩)
      rw [hab]; exact (hsh.clean hne a' ha').1
  · rename_i n base idx len cap
    split at h <;> try (cases h; done)
    rename_i T s hn
    split at h <;> try (cases h; done)
    rename_i k N l hf
    split at h <;> try (cases h; done)
    rename_i hle
    simp only [Option.some.injEq, Prod.mk.injEq] at h
    obtain ⟨rfl, rfl⟩ := h
    obtain ⟨L, hr, h2⟩ := reads_sl hm hs (b := .own T s) hn hf (Nat.le_of_ble_eq_true hle) hx
    refine fin hr (erase_less n) (fun q => clean_erase hs hn ?_)
    have := hr.rep.cap
    exact (h2 (by omega)).2.1
  · simp only [Option.some.injEq, Prod.mk.injEq] at h
    obtain ⟨rfl, rfl⟩ := h
    obtain ⟨rfl, _⟩ := hx
    obtain ⟨g1, g2⟩ := nil_rep (w := w) hks
    exact fin (L := loc0) ⟨rfl, g1, fun k hk => absurd (Or.inr hk) (g2 k), fun q => absurd rfl q⟩ idl (fun q => absurd rfl q)
  · cases h

theorem rdoN_reads {ρ : Rho} {σ σ1 : Mem} {w : World} {ks : List Kd} {x : AV} {cs : List Col} {v : Value} {name : Nat} (h : rdoN name σ ks x = some (cs, σ1)) (hks : 0 < width ks) (hm : MemRep ρ σ w) (hs : Sep ρ σ) (hx : SRep ρ x v) :
    ∃ L, Reads ρ σ w v cs L ∧ (∀ m b, Mem.find σ1 m = some b → Mem.find σ m = some b) ∧ ∀ k, FootL L cs k → Clean ρ σ1 k := by
  unfold rdoN at h
  split at h
  · rename_i cs' σ' hr
    simp only [Option.some.injEq, Prod.mk.injEq] at h
    obtain ⟨rfl, rfl⟩ := h
    obtain ⟨L, h1, h2, h3⟩ := rdo_reads hr hks hm hs hx
    exact ⟨L, h1, fun m b q => h2 m b (erase_less name m b q), fun k hk => (h3 k hk).less (erase_less name)⟩
  · cases h
theorem hintOne0_sound {ρ : Rho} {fr : Fr} {σ : Mem} {a : Act} {w : World} {hn : Hint} (h : Rep E ρ fr σ a w) : ∃ ρ', Rep E ρ' (hintOne0 hn fr σ).1 (hintOne0 hn fr σ).2 a w := by
  unfold hintOne0
  -- a new name for the slot's list
  have fin : ∀ {cs : List Col} {σ1 : Mem} {L : Loc} {b : Blk}, (∀ v, a.tmps[hn.slot]? = some v → v = .slice L.a L.len L.cap) → (∀ m b, Mem.find σ1 m = some b → Mem.find σ m = some b) → freshB (nameOf hn) (fr.set hn.slot .undef) σ1 = true →
      BlkRep (upd ρ (nameOf hn) L) w (nameOf hn) b → (∀ k, Out (upd ρ (nameOf hn) L) (nameOf hn) b k → (E.w0.heap.size ≤ k ∨ E.ex k) ∧ (∀ m c, Mem.find σ1 m = some c → ¬ Foot ρ m c k) ∧ ¬ Inn (upd ρ (nameOf hn) L) (nameOf hn) b k) → (∀ k, Foot (upd ρ (nameOf hn) L) (nameOf hn) b k → Clean ρ σ1 k) →
      Rep E (upd ρ (nameOf hn) L) (fr.set hn.slot (.one (.vec (nameOf hn)))) (Mem.ins (nameOf hn) b σ1) a w := by
    intro cs σ1 L b hval hless hfr hb ho hf
    have h1 : Rep E ρ (fr.set hn.slot .undef) σ1 a w := h.less (h.fr.same fun _ _ => trivial) hless
    have h2 := (add_sound h1 hfr h.keep (fun _ _ _ _ _ => rfl) hb ho hf).find_eq (find_ins (freshB_parts hfr).2.2)
    refine h2.less ?_ fun _ _ q => q
    have hfs := h2.fr.same (s := hn.slot) (x := .one (.vec (nameOf hn))) fun v hv => by
      show v = _
      rw [upd_eq]; exact hval v hv
    refine ⟨by rw [Fr.length_set]; exact h.fr.1, fun t v ht => ?_⟩
    have := hfs.2 t v ht
    rw [Fr.get_set] at this ⊢
    rw [Fr.length_set] at this
    by_cases hq : hn.slot = t ∧ hn.slot < fr.length
    · rw [if_pos hq] at this ⊢; exact this
    · rw [if_neg hq] at this ⊢
      rw [Fr.get_set, if_neg hq] at this
      exact this
  have slotv : ∀ {v}, a.tmps[hn.slot]? = some v → SRep ρ (fr.get hn.slot) v := fun hv => h.fr.2 _ _ hv
  have bare : a.tmps[hn.slot]? = none → fr.get hn.slot = .undef := fun hq => Fr.get_out fr _ (by rw [h.fr.1]; simpa using hq)
  split
  · exact ⟨ρ, h⟩
  · rename_i cs σ1 hrd
    split
    · rename_i hc
      simp only [Bool.and_eq_true] at hc
      obtain ⟨⟨hw, hkd⟩, hfr⟩ := hc
      have hw : 0 < width hn.ks := by simpa using hw
      cases hq : a.tmps[hn.slot]? with
      | none =>
        exfalso
        rw [bare hq] at hrd
        cases ho : hn.own <;> rw [ho] at hrd <;> simp [rdw, rdo, rdoN] at hrd
      | some v =>
        have hx := slotv hq
        cases ho : hn.own with
        | true =>
          rw [ho] at hrd
          simp only at hrd ⊢
          obtain ⟨cs', L, σ', hT, hcs, hσ⟩ := takex_sound (rdw_takex hrd) hw h.mem h.sep hx
          subst hcs hσ
          refine ⟨_, fin (L := L) (cs := cs') (fun u hu => by rw [hq] at hu; cases hu; exact hT.reads.val) hT.less hfr ⟨by rw [upd_eq]; exact hT.reads.rep, by rw [upd_eq]; exact hT.write⟩ (fun k hk => ?_) (fun k hk => ?_)⟩
          · simp only [Out, upd_eq] at hk
            obtain ⟨hc, rfl⟩ := hk
            obtain ⟨n, b, hn', hO, hg⟩ := hT.gone hc
            refine ⟨h.own n b _ hn' hO, fun m c hm hF => h.sep.1 n m b c _ hn' (hT.less m c hm) (fun e => by subst e; rw [hg] at hm; cases hm) hO hF, fun hI => ?_⟩
            simp only [Inn, upd_eq] at hI
            exact hT.reads.clean _ hI n b hn' hO
          · simp only [Foot, upd_eq] at hk
            rcases hk with ⟨hc, rfl⟩ | hk
            · obtain ⟨n, b, hn', hO, hg⟩ := hT.gone hc
              exact fun m c hm hO' => h.sep.1 n m b c _ hn' (hT.less m c hm) (fun e => by subst e; rw [hg] at hm; cases hm) hO hO'.foot
            · exact (hT.reads.clean k hk).less hT.less
        | false =>
          rw [ho] at hrd
          simp only at hrd ⊢
          obtain ⟨L, hr, hl, hc⟩ := rdoN_reads hrd hw h.mem h.sep hx
          exact ⟨_, fin (L := L) (cs := cs) (fun u hu => by rw [hq] at hu; cases hu; exact hr.val) hl hfr (by show VRep w (upd ρ _ L _) cs; rw [upd_eq]; exact hr.rep) (fun k hk => hk.elim) (fun k hk => by simp only [Foot, upd_eq] at hk; exact hc k hk)⟩
    · exact ⟨ρ, h⟩

theorem hintOne_sound {ρ : Rho} {fr : Fr} {σ : Mem} {a : Act} {w : World} {hn : Hint} (h : Rep E ρ fr σ a w) : ∃ ρ', Rep E ρ' (hintOne hn fr σ).1 (hintOne hn fr σ).2 a w := by
  unfold hintOne
  split
  · rename_i b _ hg
    refine ⟨ρ, h.less (h.fr.same fun v hv => ?_) fun _ _ q => q⟩
    have := h.fr.2 _ _ hv
    rw [hg] at this
    exact this
  · exact hintOne0_sound h

theorem hintAll_sound {a : Act} {w : World} : ∀ {D : Hints} {ρ : Rho} {fr : Fr} {σ : Mem}, Rep E ρ fr σ a w → ∃ ρ', Rep E ρ' (hintAll D fr σ).1 (hintAll D fr σ).2 a w
  | [], ρ, fr, σ, h => ⟨ρ, h⟩
  | x :: r, ρ, fr, σ, h => by
    obtain ⟨ρ1, h1⟩ := hintOne_sound (hn := x) h
    simp only [hintAll]
    generalize hintOne x fr σ = p at h1 ⊢
    obtain ⟨fr', σ'⟩ := p
    exact hintAll_sound h1

theorem fresher_sound {ρ : Rho} {σ : Mem} {fr : Fr} {tmps : Array Value} (h : FrRep ρ fr tmps) : FrRep ρ (fresher σ fr) tmps := by
  refine ⟨by simp [fresher, h.1], fun t v hv => ?_⟩
  have := h.2 t v hv
  rw [Fr.get_eq] at this ⊢
  simp only [fresher, List.getElem?_map]
  cases hq : fr[t]? with
  | none => simp [SRep]
  | some x =>
    rw [hq] at this
    simp only [Option.map_some, Option.getD_some] at this ⊢
    split
    · trivial
    · exact this

theorem head_sound {D : Hints} {ρ : Rho} {fr : Fr} {σ : Mem} {a : Act} {w : World} {c : Code} {k : List Item} (h : Rep E ρ fr σ a w) : ∃ ρ', Rep E ρ' (headSt D c k fr σ).1 (headSt D c k fr σ).2 a w := by
  have h0 := head0_sound (c := c) (k := k) h
  obtain ⟨ρ1, h1⟩ := hintAll_sound (D := D.filter fun h => !h.ret) (h0.less (fresher_sound (σ := headMem c k fr σ) h0.fr) fun _ _ q => q)
  unfold headSt
  generalize hintAll (D.filter fun h => !h.ret) (fresher (headMem c k fr σ) (headFr c k fr)) (headMem c k fr σ) = p at h1 ⊢
  obtain ⟨fr', σ'⟩ := p
  refine ⟨ρ1, h1.less (fresher_sound h1.fr) fun n b hb => ?_⟩
  exact find_filter (σ := σ') (fun m => !(((σ'.map fun p : Nat × Blk => p.1).filter fun n => Nat.blt n 200000).contains m) || frRefs m (fresher σ' fr') || σ'.any (fun q => segsRefs m q.2.segs)) hb

theorem join_sound {D : Hints} {ρ : Rho} {fr : Fr} {σ : Mem} {a : Act} {w : World} {c : Code} {k : List Item} (h : Rep E ρ fr σ a w) : Rep E ρ (joinFr D c k fr) (joinMem D c k fr σ) a w := by
  unfold joinMem
  cases hj : joins D with
  | false =>
    have e : joinFr D c k fr = fr := by unfold joinFr; rw [hj]
    rw [e]; exact h
  | true =>
    refine h.less (by unfold joinFr; rw [hj]; exact scrub_sound _ h.fr) fun n b hb => ?_
    exact find_filter (σ := σ) (fun m => !(((σ.map fun p : Nat × Blk => p.1).filter fun n => Nat.blt n 200000).contains m) || frRefs m (joinFr D c k fr) || σ.any (fun q => segsRefs m q.2.segs)) hb

/-- the machine goes on with these items to the function's end -/
def Goes (P : Program) (E : Env) (R : Fr → Mem → Prop) (stk : List Item) (a : Act) (w : World) : Prop :=
  ∀ (b : Frame) (cs : List Frame), ∃ e a' w', (e = .normal ∨ e = .ret) ∧ (∃ ρ fr σ, Rep E ρ fr σ a' w' ∧ R fr σ) ∧ Arrives P (lone (b.at a stk) cs w) b [] cs e a' w'

theorem Goes.step {R : Fr → Mem → Prop} {stk stk' : List Item} {a : Act} {w : World} (hs : ∀ (b : Frame) (cs : List Frame), Steps P (lone (b.at a stk) cs w) (lone (b.at a stk') cs w)) (h : Goes P E R stk' a w) : Goes P E R stk a w := by
  intro b cs
  obtain ⟨e, a', w', h1, h2, h3⟩ := h b cs
  exact ⟨e, a', w', h1, h2, .of_steps (hs b cs) h3⟩

theorem Goes.wp {R : Fr → Mem → Prop} {c : Code} {k : List Item} {a : Act} {w : World} (h : c.wp P (fun e a' w' => match e with | .normal => Goes P E R k a' w' | _ => False) a w) : Goes P E R (.code c :: k) a w := by
  intro b cs
  obtain ⟨e, a1, w1, hq, harr⟩ := h b k cs
  cases e with
  | normal =>
    obtain ⟨e, a', w', h1, h2, h3⟩ := hq b cs
    exact ⟨e, a', w', h1, h2, .of_steps harr h3⟩
  | _ => exact hq.elim

theorem itemx_sound {D : Hints} {R : Fr → Mem → Prop} {lp ih : List Item → Fr → Mem → Prop} (hm : P.follows .mixedOrders = true) (hΓ : GoodG P Γ) (hih : ∀ stk ρ fr σ a w, ih stk fr σ → Rep E ρ fr σ a w → Goes P E R stk a w)
    (hlp : ∀ stk ρ fr σ a w, lp stk fr σ → Rep E ρ fr σ a w → Goes P E R stk a w) (stk : List Item) (ρ : Rho) (fr : Fr) (σ : Mem) (a : Act) (w : World) (h : itemx P Γ D R lp ih stk fr σ) (hR : Rep E ρ fr σ a w) : Goes P E R stk a w := by
  unfold itemx at h
  split at h
  · exact fun b cs => ⟨.normal, a, w, Or.inl rfl, ⟨ρ, fr, σ, hR, h⟩, Steps.refl _ _⟩
  · rename_i c k
    split at h
    · exact (hih _ _ _ _ _ _ h hR).step fun b cs => .one step_skip
    · rename_i id ops
      refine Goes.wp (wp_region ?_)
      rw [List.range_eq_range', ← Array.length_toList]
      exact opsx_sound hΓ (fun ρ fr σ a w hR hK => hih _ _ _ _ _ _ hK hR) ops.toList 0 ρ fr σ a w (by simp) h hR
    · rename_i id ops
      split at h <;> try exact h.elim
      rename_i hsel
      refine Goes.wp (wp_region_any hm ?_)
      have hR' : Rep E ρ fr σ a { w with drawn := w.drawn + 1 } := ⟨hR.fr, hR.df, hR.mem.keeps (fun _ _ _ _ _ => rfl), hR.sep, hR.fix, hR.own, ⟨hR.keep.os, hR.keep.tape, hR.keep.output, hR.keep.size, hR.keep.block⟩⟩
      exact any_of_M _ _ _ _ (drawx_sound (Q := fun e a' w' => match e with | .normal => Goes P E R k a' w' | _ => False) hΓ hsel (fun c a w q => q) (fun ρ fr σ a w hR hK => hih _ _ _ _ _ _ hK hR) hR'.mem ops.size ρ _ fr σ a _ h hR' (fun _ _ _ => rfl) (Nat.le_refl _) (fun _ _ q _ => ⟨fun _ _ => rfl, q⟩))
    · exact (hih _ _ _ _ _ _ h hR).step fun b cs => .one step_seq
    · rename_i t x y
      split at h
      · rename_i hc
        exact (hih _ _ _ _ _ _ h (join_sound hR)).step fun b cs => .one (by have := step_cond (P := P) (b := b) (k := k) (cs := cs) (w := w) (x := x) (y := y) (eval_bool (b := true) hR (Or.inr hc)); simpa using this)
      · rename_i hc
        exact (hih _ _ _ _ _ _ h (join_sound hR)).step fun b cs => .one (by have := step_cond (P := P) (b := b) (k := k) (cs := cs) (w := w) (x := x) (y := y) (eval_bool (b := false) hR (Or.inr hc)); simpa using this)
      · rename_i q hc
        split at h <;> try exact h.elim
        rename_i s
        have hs := hR.frame (set_lit hR.fr hc)
        cases q with
        | true => exact (hih _ _ _ _ _ _ (h.1 rfl) (join_sound hs)).step fun b cs => .one (by have := step_cond (P := P) (b := b) (k := k) (cs := cs) (w := w) (x := x) (y := y) (eval_bool (b := true) hR (Or.inl hc)); simpa using this)
        | false => exact (hih _ _ _ _ _ _ (h.2 rfl) (join_sound hs)).step fun b cs => .one (by have := step_cond (P := P) (b := b) (k := k) (cs := cs) (w := w) (x := x) (y := y) (eval_bool (b := false) hR (Or.inl hc)); simpa using this)
      · exact h.elim
    · exact (hih _ _ _ _ _ _ h hR).step fun b cs => .one step_block
    · obtain ⟨ρ1, hR1⟩ := head_sound (D := D) (c := _) (k := _) hR
      exact (hlp _ _ _ _ _ _ h hR1).step fun b cs => .one step_loop
    · split at h <;> try exact h.elim
      rename_i k' hk
      exact (hih _ _ _ _ _ _ h hR).step fun b cs => .one (step_exit hk)
    · exact fun b cs => ⟨.ret, a, w, Or.inr rfl, ⟨ρ, fr, σ, hR, h⟩, _, .one step_ret⟩
    · exact h.elim
  · exact (hih _ _ _ _ _ _ h hR).step fun b cs => .one step_inBlock
  · obtain ⟨ρ1, hR1⟩ := head_sound (D := D) (c := _) (k := _) hR
    exact (hlp _ _ _ _ _ _ h hR1).step fun b cs => .one step_inLoop
  · exact h.elim

theorem runM_sound {D : Hints} {R : Fr → Mem → Prop} {lp : List Item → Fr → Mem → Prop} (hm : P.follows .mixedOrders = true) (hΓ : GoodG P Γ) (hlp : ∀ stk ρ fr σ a w, lp stk fr σ → Rep E ρ fr σ a w → Goes P E R stk a w) :
    ∀ (m : Nat) stk ρ fr σ a w, runM P Γ D R lp m stk fr σ → Rep E ρ fr σ a w → Goes P E R stk a w
  | 0, _, _, _, _, _, _, h, _ => by rw [runM_zero] at h; exact h.elim
  | m + 1, stk, ρ, fr, σ, a, w, h, hR => by
    rw [runM_succ] at h
    exact itemx_sound hm hΓ (fun stk ρ fr σ a w q r => runM_sound hm hΓ hlp m stk ρ fr σ a w q r) hlp stk ρ fr σ a w h hR

theorem run_sound {D : Hints} {R : Fr → Mem → Prop} (hm : P.follows .mixedOrders = true) (hΓ : GoodG P Γ) : ∀ (n : Nat) stk ρ fr σ a w, run P Γ D R n stk fr σ → Rep E ρ fr σ a w → Goes P E R stk a w
  | 0, _, _, _, _, _, _, h, _ => by rw [run_zero] at h; exact h.elim
  | n + 1, stk, ρ, fr, σ, a, w, h, hR => by
    rw [run_succ] at h
    exact runM_sound hm hΓ (fun stk ρ fr σ a w q r => run_sound hm hΓ n stk ρ fr σ a w q r) 4000 stk ρ fr σ a w h hR

/-! ### results -/
def resV (tmps : Array Value) : ResultVar → Sem Value
  | .tmp t => pure (tmps.getD t undef)
  | .cell a t => do loadVar t (← asAddr (tmps.getD a undef))

theorem resOne_sound {ρ : Rho} {fr : Fr} {σ : Mem} {a : Act} {w : World} {r : ResultVar} {K : TV → Prop} (h : resOne P fr σ r K) (hR : Rep E ρ fr σ a w) :
    ∃ v t, (resV a.tmps r).run P w = .ok v w ∧ TRep ρ t v ∧ K t := by
  have slot : ∀ (t : Nat) {x : AV}, fr.get t = x → x ≠ .undef → SRep ρ x (a.tmps.getD t undef) := by
    intro t x hx hne
    have hlt : t < fr.length := by
      rcases Nat.lt_or_ge t fr.length with q | q
      · exact q
      · rw [Fr.get_out fr t q] at hx; exact absurd hx.symm hne
    have hlt' : t < a.tmps.size := by rw [← hR.fr.1]; exact hlt
    have := hR.fr.2 t a.tmps[t] (Array.getElem?_eq_getElem hlt')
    rw [hx] at this
    simpa [hlt'] using this
  unfold resOne at h
  split at h
  · rename_i t
    split at h
    · rename_i x hx; exact ⟨_, .c x, rfl, slot t hx (by simp), h⟩
    · rename_i s hx; exact ⟨_, .g s, rfl, slot t hx (by simp), h⟩
    · exact h.elim
  · rename_i t T
    split at h <;> try exact h.elim
    rename_i n b i hx
    have hv : a.tmps.getD t undef = .pointer (some (at_ ρ n (b + i))) := slot t hx (by simp)
    obtain ⟨v, av, bk, _, h1, h2, h3⟩ := loadx_sound h hR.mem
    have hrun : (resV a.tmps (.cell t T)).run P w = .ok v w := by
      show (do let x ← asAddr (a.tmps.getD t undef); loadVar T x : Sem Value).run P w = .ok v w
      rw [hv]
      simp [asAddr, h1 w (fun _ _ => rfl)]
    split at h3
    · rename_i x; exact ⟨v, .c x, hrun, h2, h3⟩
    · rename_i s; exact ⟨v, .g s, hrun, h2, h3⟩
    · exact h3.elim

theorem resAll_sound {ρ : Rho} {fr : Fr} {σ : Mem} {a : Act} {w : World} (hR : Rep E ρ fr σ a w) : ∀ {rs : List ResultVar} {K : List TV → Prop}, resAll P fr σ rs K →
    ∃ vs ts, (rs.mapM (resV a.tmps)).run P w = .ok vs w ∧ vs.length = rs.length ∧ ts.length = vs.length ∧ (∀ (j : Nat) t v, ts[j]? = some t → vs[j]? = some v → TRep ρ t v) ∧ K ts
  | [], K, h => ⟨[], [], by simp, rfl, rfl, fun j t v hj => by simp at hj, h⟩
  | r :: rs, K, h => by
    simp only [resAll] at h
    obtain ⟨v, t, h1, h2, h3⟩ := resOne_sound h hR
    obtain ⟨vs, ts, g1, g2, g3, g4, g5⟩ := resAll_sound hR h3
    refine ⟨v :: vs, t :: ts, by simp [List.mapM_cons, h1, g1], by simp [g2], by simp [g3], fun j t' v' ht hv => ?_, g5⟩
    cases j with
    | zero => simp at ht hv; subst ht hv; exact h2
    | succ j => simp at ht hv; exact g4 j t' v' ht hv

theorem TRep.av {ρ : Rho} {t : TV} {v : Value} (h : TRep ρ t v) : SRep ρ t.av v := by cases t <;> exact h

theorem resx_sound {ρ : Rho} {fr : Fr} {σ : Mem} {a : Act} {w : World} {fn : Func} {R : AV → Mem → Prop} (h : resx P fn.results.toList R fr σ) (hR : Rep E ρ fr σ a w) :
    ∃ v av, (results fn a.tmps).run P w = .ok v w ∧ SRep ρ av v ∧ R av σ := by
  unfold resx at h
  obtain ⟨vs, ts, h1, h2, h3, h4, h5⟩ := resAll_sound hR h
  have hrun : (fn.results.mapM (resV a.tmps)).run P w = .ok vs.toArray w := by
    rw [Array.mapM_eq_mapM_toList]
    simp [h1]
  have hres : (results fn a.tmps).run P w = .ok (if h : vs.toArray.size = 1 then vs.toArray[0] else .tuple vs.toArray) w := by
    have e : results fn a.tmps = (do let vs ← fn.results.mapM (resV a.tmps); pure (if h : vs.size = 1 then vs[0] else .tuple vs)) := by
      unfold results
      congr 1
    rw [e]
    simp [hrun]
  split at h5
  · rename_i t
    obtain ⟨v, rfl⟩ : ∃ v, vs = [v] := by
      match vs, h3 with
      | [v], _ => exact ⟨v, rfl⟩
    exact ⟨v, t.av, by rw [hres]; simp, (h4 0 t v rfl rfl).av, h5⟩
  · rename_i ts' hne
    have hlen : vs.length ≠ 1 := by
      intro e
      rw [e] at h3
      have : ∀ {l : List TV}, l.length = 1 → ∃ t, l = [t] := by
        intro l hl
        match l, hl with
        | [t], _ => exact ⟨t, rfl⟩
      obtain ⟨t, ht⟩ := this h3
      exact hne t ht
    exact ⟨.tuple vs.toArray, .tup ts, by rw [hres]; simp [hlen], ⟨vs, rfl, h3, h4⟩, h5⟩

theorem resh_sound {D : Hints} {ρ : Rho} {fr : Fr} {σ : Mem} {a : Act} {w : World} {fn : Func} {R : AV → Mem → Prop} (h : resh P D fn.results.toList R fr σ) (hR : Rep E ρ fr σ a w) :
    ∃ v av ρ' fr' σ', (results fn a.tmps).run P w = .ok v w ∧ SRep ρ' av v ∧ R av σ' ∧ Rep E ρ' fr' σ' a w := by
  unfold resh at h
  obtain ⟨ρ1, h1⟩ := hintAll_sound (D := D.filter fun h => h.ret) hR
  generalize hintAll (D.filter fun h => h.ret) fr σ = p at h1 h
  obtain ⟨fr', σ'⟩ := p
  obtain ⟨v, av, g1, g2, g3⟩ := resx_sound h h1
  exact ⟨v, av, ρ1, fr', σ', g1, g2, g3, h1⟩
end
end Go.Sx

/- From the symbolic walk to calls and to what is known of functions. -/
namespace Go.Sx
open Go
set_option linter.unusedSimpArgs false
set_option linter.unusedVariables false
section
variable {P : Program} {Γ : Gam} {D : Hints}

theorem start_sound {ρ : Rho} {n : Nat} {args : List AV} {vals : Array Value} (hl : args.length = vals.size) (hv : ∀ (j : Nat) x v, args[j]? = some x → vals[j]? = some v → SRep ρ x v) :
    FrRep ρ (startFr n args) (vals ++ Array.replicate (n - vals.size) undef) := by
  refine ⟨by simp [startFr, hl], fun t v ht => ?_⟩
  rw [Fr.get_eq]
  by_cases h : t < vals.size
  · rw [Array.getElem?_append_left h] at ht
    have h' : t < args.length := by omega
    simp only [startFr]
    rw [List.getElem?_append_left h', List.getElem?_eq_getElem h']
    exact hv t _ v (List.getElem?_eq_getElem h') ht
  · rw [Array.getElem?_append_right (by omega)] at ht
    simp only [startFr]
    rw [List.getElem?_append_right (by omega)]
    rw [Array.getElem?_replicate] at ht
    split at ht
    · rename_i hq
      cases ht
      rw [List.getElem?_replicate, if_pos (by omega)]
      exact SRep.undef ρ
    · cases ht

theorem callsx_sound (hm : P.follows .mixedOrders = true) (hΓ : GoodG P Γ) {f : FuncId} {fn : Func} (hf : P.funcs[f]? = some fn) (hb : fn.body.isSome = true) {n : Nat} {args : List AV} {σ : Mem} {R : AV → Mem → Prop} (h : callsx P Γ D fn n args σ R)
    {ρ : Rho} {w : World} {vals : Array Value} {ex : Nat → Prop} (hg : Glob ρ) (hl : args.length = vals.size) (hv : ∀ (j : Nat) x v, args[j]? = some x → vals[j]? = some v → SRep ρ x v) (hmem : MemRep ρ σ w) (hsep : Sep ρ σ)
    (hown : ∀ n b k, Mem.find σ n = some b → Out ρ n b k → w.heap.size ≤ k ∨ ex k) :
    Calls P f vals w fun e w' => ∃ v av σ' ρ', e = .returned v ∧ R av σ' ∧ SRep ρ' av v ∧ MemRep ρ' σ' w' ∧ Sep ρ' σ' ∧ (∀ n, 200000 ≤ n → ρ' n = ρ n) ∧ (∀ n b k, Mem.find σ' n = some b → Out ρ' n b k → w.heap.size ≤ k ∨ ex k) ∧ Keeps ex w w' := by
  intro cs
  let E : Env := ⟨w, ρ, ex, hg⟩
  let b : Frame := { (default : Frame) with fn := f, kind := .normal }
  cases hbody : fn.body with
  | none => rw [hbody] at hb; cases hb
  | some c =>
    have hbc : bodyOf fn = c := by simp [bodyOf, hbody]
    let a : Act := { tmps := vals ++ Array.replicate (fn.ntmps - vals.size) undef, defers := [] }
    have henter : Frame.enter P f vals .normal = b.at a [.code c] := by
      simp [Frame.enter, Frame.at, hf, hbody, b, a]
    have hR : Rep E ρ (startFr fn.ntmps args) σ a w := ⟨start_sound hl hv, rfl, hmem, hsep, fun _ _ => rfl, hown, Keeps.refl _ _⟩
    unfold callsx at h
    rw [hbc] at h
    obtain ⟨e, a', w', he, ⟨ρ', fr', σ', hR', hres⟩, harr⟩ := run_sound hm hΓ n _ ρ _ σ a w h hR b cs
    rw [← henter] at harr
    obtain ⟨v, av, ρ2, fr2, σ2, hrun, hav, hRR, hR2⟩ := resh_sound hres hR'
    have post : ∃ v' av σ' ρ', (Ending.returned v) = .returned v' ∧ R av σ' ∧ SRep ρ' av v' ∧ MemRep ρ' σ' w' ∧ Sep ρ' σ' ∧ (∀ n, 200000 ≤ n → ρ' n = ρ n) ∧ (∀ n b k, Mem.find σ' n = some b → Out ρ' n b k → w.heap.size ≤ k ∨ ex k) ∧ Keeps ex w w' :=
      ⟨v, av, σ2, ρ2, rfl, hRR, hav, hR2.mem, hR2.sep, hR2.fix, hR2.own, hR2.keep⟩
    rcases he with rfl | rfl
    · exact ⟨.returned v, w', _, post, Steps.trans harr (.one step_end), rfl, rfl, hR'.df, rfl, fn, hf, hrun⟩
    · obtain ⟨todo, hs⟩ := harr
      exact ⟨.returned v, w', _, post, hs, rfl, rfl, hR'.df, rfl, fn, hf, hrun⟩

/-- no part of it is an address -/
def plainAV (x : AV) : Prop := ∀ n, x.refs n = false

theorem sep_nil (ρ : Rho) : Sep ρ [] := ⟨fun n m b c k hn => by simp [Mem.find] at hn, fun n b k hn => by simp [Mem.find] at hn⟩

/-- a function of plain values -/
theorem Good.pure (hm : P.follows .mixedOrders = true) (hΓ : GoodG P Γ) {f : FuncId} {fn : Func} (hf : P.funcs[f]? = some fn) (hb : fn.body.isSome = true) {s : Spec} (hs : s.mods = false)
    (hsem : ∀ d args σ (K : AV → Mem → Prop), s.sem d args σ K → (∀ x ∈ args, plainAV x) ∧ ∃ av, plainAV av ∧ K av σ ∧ ∃ n, callsx P Γ D fn n args [] fun av' _ => av' = av) : Good P f s := by
  refine ⟨fun d args σ K h ρ w vals hg hmem hsep hl hv hnew => ?_⟩
  obtain ⟨hpl, av, hav, hK, n, hc⟩ := hsem d args σ K h
  refine (callsx_sound hm hΓ hf hb hc (ex := fun _ => False) hg hl hv (fun n b hb => by simp [Mem.find] at hb) (sep_nil ρ) (fun n b k hn => by simp [Mem.find] at hn)).mono ?_
  rintro e w' ⟨v, av', σ', ρ', rfl, rfl, hsr, _, _, _, _, hk⟩
  have hsame : ∀ i, i < w.heap.size → w'.heap[i]? = w.heap[i]? := fun i hi => hk.block i hi (fun q => q)
  refine ⟨v, av', σ, ρ, rfl, hK, hsr.agree (fun n hn => by rw [hav n] at hn; cases hn), hmem.keeps (fun n b k hb hk => hsame _ (in_range (hmem n b hb) hk)), hsep, fun _ _ => rfl, fun n b k hn hO => Or.inl ⟨n, b, hn, hO⟩, ?_, fun _ => ⟨hk, fun _ _ q => q⟩⟩
  exact ⟨hk.os, hk.tape, hk.output, hk.size, fun k hk' _ => hsame k hk'⟩

theorem plain_int (k : IntKind) (n : Int) : plainAV (.one (.int k n)) := fun _ => rfl
theorem plain_ints (k : IntKind) (n : Nat) (l : List Int) : plainAV (.agg [.ints k n l]) := fun _ => rfl
end
end Go.Sx

/- Numbers: what the symbolic walk's words come to on plain numbers. -/
namespace Go.Sx
open Go
set_option linter.unusedSimpArgs false

theorem ilt_true {a b : Int} : ilt a b = true ↔ a < b := by simp [ilt]
theorem ilt_false {a b : Int} : ilt a b = false ↔ b ≤ a := by simp [ilt]
theorem ile_true {a b : Int} : ile a b = true ↔ a ≤ b := by simp [ile]
theorem ile_false {a b : Int} : ile a b = false ↔ b < a := by simp [ile]
theorem igt_true {a b : Int} : igt a b = true ↔ b < a := by simp [igt]
theorem igt_false {a b : Int} : igt a b = false ↔ a ≤ b := by simp [igt]
theorem ige_true {a b : Int} : ige a b = true ↔ b ≤ a := by simp [ige]
theorem ige_false {a b : Int} : ige a b = false ↔ a < b := by simp [ige]
theorem ieq_true {a b : Int} : ieq a b = true ↔ a = b := by simp [ieq]
theorem ieq_false {a b : Int} : ieq a b = false ↔ a ≠ b := by simp [ieq]
theorem ine_true {a b : Int} : ine a b = true ↔ a ≠ b := by simp [ine]
theorem ine_false {a b : Int} : ine a b = false ↔ a = b := by simp [ine]
theorem leq_true {a b : List Int} : leq a b = true ↔ a = b := by simp [leq]
theorem leq_false {a b : List Int} : leq a b = false ↔ a ≠ b := by simp [leq]
theorem bnot_true {a : Bool} : bnot a = true ↔ a = false := by simp [bnot]
theorem bnot_false {a : Bool} : bnot a = false ↔ a = true := by simp [bnot]

theorem add_i64 {a b : Int} (h1 : -9223372036854775808 ≤ a + b) (h2 : a + b < 9223372036854775808) : add .i64 a b = a + b := by
  unfold add; rw [IntKind.wrap_i64]; omega
theorem sub_i64 {a b : Int} (h1 : -9223372036854775808 ≤ a - b) (h2 : a - b < 9223372036854775808) : sub .i64 a b = a - b := by
  unfold sub; rw [IntKind.wrap_i64]; omega
theorem mul_i64 {a b : Int} (h1 : -9223372036854775808 ≤ a * b) (h2 : a * b < 9223372036854775808) : mul .i64 a b = a * b := by
  unfold mul; rw [IntKind.wrap_i64]; omega
theorem conv_i64 {a : Int} (h1 : -9223372036854775808 ≤ a) (h2 : a < 9223372036854775808) : conv .i64 a = a := by
  unfold conv; rw [IntKind.wrap_i64]; omega
theorem conv_u8 (a : Int) : conv .u8 a = a % 256 := by unfold conv; rw [IntKind.wrap_u8]
theorem conv_u32 (a : Int) : conv .u32 a = a % 4294967296 := by unfold conv; rw [IntKind.wrap_u32]
theorem conv_u64 (a : Int) : conv .u64 a = a % 18446744073709551616 := by unfold conv; rw [IntKind.wrap_u64]
theorem add_u32 (a b : Int) : add .u32 a b = (a + b) % 4294967296 := by unfold add; rw [IntKind.wrap_u32]
theorem add_u64 (a b : Int) : add .u64 a b = (a + b) % 18446744073709551616 := by unfold add; rw [IntKind.wrap_u64]
theorem add_u8 (a b : Int) : add .u8 a b = (a + b) % 256 := by unfold add; rw [IntKind.wrap_u8]

theorem bxor_u8 {a b : Nat} (ha : a < 256) (hb : b < 256) : bxor .u8 (a : Int) (b : Int) = ((a ^^^ b : Nat) : Int) := u8_xor_nat a b ha hb
theorem band_u8 {a b : Nat} (ha : a < 256) (hb : b < 256) : band .u8 (a : Int) (b : Int) = ((a &&& b : Nat) : Int) := u8_and_nat a b ha hb
theorem bor_u8 {a b : Nat} (ha : a < 256) (hb : b < 256) : bor .u8 (a : Int) (b : Int) = ((a ||| b : Nat) : Int) := u8_or_nat a b ha hb

theorem shl_u8 {a n : Nat} (hn : n ≤ 8) : shl .u8 (a : Int) (n : Int) = ((a * 2 ^ n % 256 : Nat) : Int) := by
  unfold shl
  rw [IntKind.wrap_u8]
  have : min (n : Int).toNat IntKind.u8.bits = n := by show min ((n : Int).toNat) 8 = n; omega
  rw [this]
  simp
theorem shr_u8 {a n : Nat} (hn : n ≤ 8) : shr .u8 (a : Int) (n : Int) = ((a / 2 ^ n : Nat) : Int) := by
  unfold shr
  have : min (n : Int).toNat IntKind.u8.bits = n := by show min ((n : Int).toNat) 8 = n; omega
  rw [this]
  have h : (2 : Int) ^ n = ((2 ^ n : Nat) : Int) := by simp
  rw [h, Int.fdiv_eq_ediv_of_nonneg _ (Int.natCast_nonneg _)]
  simp

/-! what is known, one more -/
def ext (Γ : Gam) (f : FuncId) (s : Spec) : Gam := fun g => if g = f then some s else Γ g
def gam0 : Gam := fun _ => none
theorem good0 (P : Program) : GoodG P gam0 := fun f s h => by cases h
theorem GoodG.ext {P : Program} {Γ : Gam} (h : GoodG P Γ) {f : FuncId} {s : Spec} (hf : Good P f s) (hn : ∃ fn, P.funcs[f]? = some fn ∧ fn.name ≠ "runtime.NumGoroutine" ∧ fn.body.isSome = true) : GoodG P (ext Γ f s) := by
  intro g t hg
  unfold Sx.ext at hg
  split at hg
  · rename_i e; subst e; cases hg; exact ⟨hf, hn⟩
  · exact h g t hg
end Go.Sx
