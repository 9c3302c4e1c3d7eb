/- Lists of records: loads, addresses, parts, lengths. -/
import Derived.Test.YtccjkjpdgpeogaaSx4
namespace Go.Sx
open Go
set_option linter.unusedSimpArgs false
set_option linter.unusedVariables false
section
variable {P : Program} {ρ : Rho} {σ : Mem} {w : World} {K : AV → Prop}

theorem ok1 {m : Sem Value} {v : Value} {a : AC} (hr : ∀ w : World, m.run P w = .ok v w) (hv : CRep ρ a v) (h : K (.one a)) : ∃ v av, (∀ w : World, m.run P w = .ok v w) ∧ SRep ρ av v ∧ K av := ⟨_, .one a, hr, hv, h⟩

/-- a run of cells of numbers, loaded as an array -/
theorem load_run {T : TypeId} {s : Nat} (hag : isAggB P T = some true) (hsz : sizeB P T = some s) {w' : World} {a : Addr} {k : IntKind} {l : List Int} (hl : l.length = s) (h : ∀ (j : Nat) x, l[j]? = some x → w'.cell? (a.add j) = some (.int k x)) :
    (loadVar T a).run P w' = .ok (.agg (l.map (Value.int k)).toArray) w' := by
  have hrun := run_loadCells_list (P := P) w' a (l.map (Value.int k)) (fun j v hv => by
    simp only [List.getElem?_map, Option.map_eq_some_iff] at hv
    obtain ⟨x, hx, rfl⟩ := hv
    exact h j x hx)
  simp only [List.length_map, hl] at hrun
  simp [loadVar, run_isAggB hag, run_sizeB hsz, hrun]

theorem ints_srep (ρ : Rho) {k : IntKind} {z : Nat} {l : List Int} (h : l.length = z) : SRep ρ (.agg [.ints k z l]) (.agg (l.map (Value.int k)).toArray) := ⟨⟨h, trivial⟩, _, rfl, ints_FRep ρ k z l⟩

theorem rowVal_all {L : Loc} {cs : List Col} {b c : Nat} {col : Col} (h : colAt cs b 0 = some (c, col)) (i j : Nat) (hj : j < col.kd.width) : b + j < cwidth cs ∧ rowVal L cs 0 i (b + j) = colVal L c col i j ∧ cs[c]? = some col := by
  obtain ⟨_, h2, h3, h4⟩ := colAt_sound (L := L) h
  exact ⟨by omega, h4 i j hj, by simpa using h2⟩

theorem segsAt_ok {N : Nat} {n i : Nat} (hi : i < N) : ∀ {cs : List Col} (c : Nat), (∀ x ∈ cs, x.ok N) → segsOk (segsAt n i c cs) ∧ slen (segsAt n i c cs) = cwidth cs
  | [], _, _ => ⟨trivial, rfl⟩
  | x :: r, c, h => by
    obtain ⟨h1, h2⟩ := segsAt_ok (n := n) hi (c + 1) fun y hy => h y (List.mem_cons_of_mem _ hy)
    have hx := h x (by simp)
    have e : cwidth (x :: r) = x.kd.width + cwidth r := rfl
    cases x <;> simp only [segsAt, segOf, segsOk, slen, Seg.ok, Seg.len] at * <;> first
      | exact ⟨⟨trivial, h1⟩, by rw [h2, e]; rfl⟩
      | (refine ⟨⟨?_, h1⟩, by rw [h2, e]; rfl⟩
         obtain ⟨q1, q2⟩ := hx
         exact q2 _ (List.mem_of_getElem? (llget_some (by omega))))

theorem segsAt_rep {ρ : Rho} {n i : Nat} {L : Loc} (hL : L = ρ n) (hi : i < L.len) : ∀ {cs : List Col} (c : Nat), (∀ x ∈ cs, x.ok L.len) → ∀ (j : Nat) a, (flat (segsAt n i c cs))[j]? = some a → CRep ρ a (rowVal L cs c i j)
  | [], _, _ => fun j a h => by simp [segsAt, flat] at h
  | x :: r, c, h => fun j a ha => by
    have hx := h x (by simp)
    have ho : (segOf n i c x).ok := by
      cases x <;> simp only [segOf, Seg.ok]
      obtain ⟨q1, q2⟩ := hx
      exact q2 _ (List.mem_of_getElem? (llget_some (by omega)))
    have hw : (segOf n i c x).len = x.kd.width := by cases x <;> rfl
    have hfl := Seg.flat_length ho
    simp only [segsAt, flat] at ha
    simp only [rowVal]
    by_cases hj : j < x.kd.width
    · rw [if_pos hj]
      rw [List.getElem?_append_left (by omega)] at ha
      cases x <;> simp only [segOf, Seg.flat, colVal, Col.kd, Kd.width] at ha hj ⊢
      case arrs k m l =>
        simp only [List.getElem?_map, Option.map_eq_some_iff] at ha
        obtain ⟨z, hz, rfl⟩ := ha
        have hlt := (List.getElem?_eq_some_iff.1 hz).1
        rw [lget_some hlt] at hz
        cases hz; rfl
      all_goals
        (have : j = 0 := by omega
         subst this
         simp at ha; subst ha)
      · rfl
      · rfl
      · subst hL; exact ⟨rfl, hi⟩
    · rw [if_neg hj]
      rw [List.getElem?_append_right (by omega)] at ha
      rw [hfl, hw] at ha
      exact segsAt_rep hL hi (c + 1) (fun y hy => h y (List.mem_cons_of_mem _ hy)) _ a ha

theorem loadV_sound {T : TypeId} {n z i b j : Nat} {v1 : Value} (h : loadV P σ T n z i b j K) (hm : MemRep ρ σ w) (hx : SRep ρ (.one (.vptr n z i b j)) v1) :
    ∃ v av bk, Mem.find σ n = some bk ∧ (∀ w' : World, (∀ k, Foot ρ n bk k → w'.heap[k]? = w.heap[k]?) → (Instr.loadAt T v1).run P w' = .ok v w') ∧ SRep ρ av v ∧ K av := by
  obtain ⟨rfl, hi⟩ := hx
  unfold loadV at h
  split at h <;> try exact h.elim
  rename_i cs hcs
  obtain ⟨hV, bk, hbk, _, hfoot⟩ := cols_sound hm hcs
  split at h <;> try exact h.elim
  rename_i hz
  have hz' : z = cwidth cs := beq_nat hz
  subst hz'
  have here : ∀ w' : World, (∀ k, Foot ρ n bk k → w'.heap[k]? = w.heap[k]?) → VRep w' (ρ n) cs := fun w' hw => hV.keeps fun k hk => hw k (hfoot k hk)
  have addr : ∀ (m : Sem Value) (w' : World) (q : Nat) (v : Value), (loadVar T (at_ ρ n q)).run P w' = .ok v w' → (Instr.loadAt T (.pointer (some (at_ ρ n q)))).run P w' = .ok v w' := fun m w' q v hr => by simp [Instr.loadAt, Instr.sureAddr, hr]
  have fin : ∀ {v : Value} {av : AV}, (∀ w' : World, VRep w' (ρ n) cs → (loadVar T (at_ ρ n (i * cwidth cs + b + j))).run P w' = .ok v w') → SRep ρ av v → K av →
      ∃ v av bk, Mem.find σ n = some bk ∧ (∀ w' : World, (∀ k, Foot ρ n bk k → w'.heap[k]? = w.heap[k]?) → (Instr.loadAt T (.pointer (some (at_ ρ n (i * cwidth cs + b + j))))).run P w' = .ok v w') ∧ SRep ρ av v ∧ K av :=
    fun {v av} hr hs hk => ⟨v, av, bk, hbk, fun w' hw => addr (pure v) w' _ v (hr w' (here w' hw)), hs, hk⟩
  have hL : ∀ {col : Col} {c : Nat}, cs[c]? = some col → col.ok (ρ n).len := fun hc => hV.ok _ (List.mem_of_getElem? hc)
  split at h
  · rename_i s hag hsz
    -- a whole record
    have whole : b = 0 → Nat.beq s (cwidth cs) = true → j = 0 → K (.agg (segsAt n i 0 cs)) → _ := fun hb hs hj hK => by
      subst hb hj
      have hs := beq_nat hs
      subst hs
      obtain ⟨g1, g2⟩ := segsAt_ok (n := n) hi 0 hV.ok
      have g3 := segsAt_rep (ρ := ρ) (n := n) (i := i) rfl hi 0 hV.ok
      have hfl := flat_length g1
      refine fin (v := .agg ((List.range (cwidth cs)).map fun t => rowVal (ρ n) cs 0 i t).toArray) (av := .agg (segsAt n i 0 cs)) (fun w' hw => ?_) ⟨g1, _, rfl, by simp [hfl, g2], fun q a u ha hu => ?_⟩ hK
      · have hrun := run_loadCells (P := P) w' (at_ ρ n (i * cwidth cs + 0 + 0)) (cwidth cs) (fun t => rowVal (ρ n) cs 0 i t) (fun t ht => by
          rw [at_add]; exact hw.cells i hi t ht)
        simp only [Nat.add_zero] at hrun ⊢
        simp [loadVar, run_isAggB hag, run_sizeB hsz, hrun]
      · simp only [List.getElem?_map, Option.map_eq_some_iff] at hu
        obtain ⟨t, ht, rfl⟩ := hu
        have : t = q := by
          have hlt := (List.getElem?_eq_some_iff.1 ht)
          obtain ⟨h1, h2⟩ := hlt
          simpa using h2.symm
        subst this
        exact g3 t a ha
    split at h <;> try exact h.elim
    split at h
    · rename_i c k m l hc
      split at h
      · rename_i hms
        have hms := beq_nat hms
        subst hms
        have hcs : cs[c]? = some (.arrs k m l) := by have := (colAt_sound (L := ρ n) hc).2.1; simpa using this
        obtain ⟨q1, q2⟩ := hL hcs
        have hlen : (llget l i).length = m := q2 _ (List.mem_of_getElem? (llget_some (by omega)))
        refine fin (fun w' hw => ?_) (ints_srep ρ hlen) h
        refine load_run hag hsz hlen fun t x hx => ?_
        have ht := (List.getElem?_eq_some_iff.1 hx).1
        obtain ⟨r1, r2, _⟩ := rowVal_all (L := ρ n) hc i t (by show t < m; omega)
        have := hw.cells i hi (b + t) r1
        rw [at_add, show i * cwidth cs + b + 0 + t = i * cwidth cs + (b + t) by omega]
        rw [lget_some ht] at hx; cases hx
        exact this.trans (by rw [r2]; rfl)
      · split at h <;> try exact h.elim
        exact whole rfl (by assumption) rfl h
    · rename_i c k l hc
      split at h
      · rename_i hone
        have hcs : cs[c]? = some (.ints k l) := by have := (colAt_sound (L := ρ n) hc).2.1; simpa using this
        have hlen : l.length = (ρ n).len := hL hcs
        have hb0 : b = 0 := by have := (colAt_sound (L := ρ n) hc).2.2.1; have e : (Col.ints k l).kd.width = 1 := rfl; rw [e] at this; omega
        subst hb0
        have hle : i + s ≤ l.length := h.1.le
        refine fin (fun w' hw => ?_) (ints_srep ρ (lsub_len l i s hle)) h.2
        refine load_run hag hsz (lsub_len l i s hle) fun t x hx => ?_
        rw [lsub_get] at hx
        split at hx
        · have hlt := (List.getElem?_eq_some_iff.1 hx).1
          obtain ⟨r1, r2, _⟩ := rowVal_all (L := ρ n) hc (i + t) 0 (by show 0 < 1; omega)
          have := hw.cells (i + t) (by omega) (0 + 0) r1
          rw [at_add]
          rw [lget_some hlt] at hx; cases hx
          rw [r2] at this
          rw [hone] at this ⊢
          have e : at_ ρ n = (ρ n).at := rfl
          rw [e]
          exact (by simpa [colVal] using this)
        · cases hx
      · split at h <;> try exact h.elim
        exact whole rfl (by assumption) rfl h
    · split at h <;> try exact h.elim
      exact whole rfl (by assumption) rfl h
    · exact h.elim
  · rename_i s hag hsz
    have one : ∀ {c : Nat} {col : Col} {ac : AC}, colAt cs b 0 = some (c, col) → j < col.kd.width → CRep ρ ac (colVal (ρ n) c col i j) → K (.one ac) → _ := fun {c col ac} hc hj hr hK => by
      obtain ⟨r1, r2, _⟩ := rowVal_all (L := ρ n) hc i j hj
      refine fin (v := colVal (ρ n) c col i j) (av := .one ac) (fun w' hw => ?_) hr hK
      have := hw.cells i hi (b + j) r1
      rw [r2] at this
      simp [loadVar, run_isAggB hag, show i * cwidth cs + b + j = i * cwidth cs + (b + j) by omega, show w'.cell? (at_ ρ n (i * cwidth cs + (b + j))) = _ from this]
    split at h
    · rename_i c k l hc
      split at h <;> try exact h.elim
      exact one (ac := .int k (lget l i)) hc (by show 0 < 1; omega) rfl h
    · rename_i c l hc
      split at h <;> try exact h.elim
      exact one (ac := .bool (lgetb l i)) hc (by show 0 < 1; omega) rfl h
    · rename_i c k l hc
      split at h <;> try exact h.elim
      exact one (ac := .el n c i) hc (by show 0 < 1; omega) ⟨rfl, hi⟩ h
    · rename_i c k m l hc
      exact one (ac := .int k (lget (llget l i) j)) hc h.1.lt rfl h.2
    · exact h.elim
  · exact h.elim

theorem loadE_sound {T : TypeId} {n c i o : Nat} {v1 : Value} (h : loadE P σ T n c i o K) (hm : MemRep ρ σ w) (hx : SRep ρ (.one (.eptr n c i o)) v1) :
    ∃ v av bk, Mem.find σ n = some bk ∧ (∀ w' : World, (∀ k, Foot ρ n bk k → w'.heap[k]? = w.heap[k]?) → (Instr.loadAt T v1).run P w' = .ok v w') ∧ SRep ρ av v ∧ K av := by
  obtain ⟨a, ha, rfl, ho, hi⟩ := hx
  unfold loadE at h
  split at h <;> try exact h.elim
  rename_i k ll hr
  obtain ⟨cs, hc, hlen, hV, bk, hbk, _, hfoot⟩ := rows_sound hm hr
  have here : ∀ w' : World, (∀ k, Foot ρ n bk k → w'.heap[k]? = w.heap[k]?) → EltRep w' ((ρ n).el c i) k (llget ll i) := fun w' hw => (hV.keeps fun k hk => hw k (hfoot k hk)).inner c k ll hc i _ (llget_some (by omega))
  have hn : ((ρ n).el c i).len = (llget ll i).length := (hV.inner c k ll hc i _ (llget_some (by omega))).1
  split at h
  · rename_i s hag hsz
    have hle : o + s ≤ (llget ll i).length := h.1.le
    refine ⟨_, _, bk, hbk, fun w' hw => ?_, ints_srep ρ (lsub_len _ o s hle), h.2⟩
    have hE := here w' hw
    have := load_run (P := P) (w' := w') (a := a.add o) hag hsz (lsub_len _ o s hle) fun t x hx => by
      rw [lsub_get] at hx
      split at hx
      · rw [addr_add_add]
        exact hE.2.2.2 _ x hx a ha
      · cases hx
    simp [Instr.loadAt, Instr.sureAddr, this]
  · rename_i s hag hsz
    refine ⟨.int k (lget (llget ll i) o), .one (.int k (lget (llget ll i) o)), bk, hbk, fun w' hw => ?_, rfl, h⟩
    have hE := here w' hw
    have := hE.2.2.2 o _ (lget_some (by omega)) a ha
    simp [Instr.loadAt, Instr.sureAddr, loadVar, run_isAggB hag, this]
  · exact h.elim

theorem lenOfV_sound {x : AV} {v : Value} {n : Nat} (h : lenOfV P σ x = some n) (hm : MemRep ρ σ w) (hx : SRep ρ x v) : ∃ A cap, v = .slice A n cap ∧ n ≤ cap := by
  unfold lenOfV at h
  split at h
  · rename_i m
    simp only [Option.map_eq_some_iff] at h
    obtain ⟨cs, hcs, rfl⟩ := h
    obtain ⟨hV, _⟩ := cols_sound hm hcs
    rw [hV.len]
    exact ⟨_, _, hx, hV.cap⟩
  · cases h
    obtain ⟨A, cap, rfl, h2, _⟩ := hx
    exact ⟨A, cap, rfl, h2⟩
  · rename_i m c i
    simp only [Option.map_eq_some_iff] at h
    obtain ⟨⟨k, ll⟩, hr, rfl⟩ := h
    obtain ⟨cs, hc, hlen, hV, _⟩ := rows_sound hm hr
    obtain ⟨rfl, hi⟩ := hx
    obtain ⟨h1, h2, _⟩ := hV.inner c k ll hc i _ (llget_some (by omega))
    have e : ((ρ m).el c i).len = llen (llget ll i) := h1
    exact ⟨_, _, by rw [e], by rw [← e]; exact h2⟩
  · cases h
    obtain ⟨A, cap, rfl, h2, _⟩ := hx
    exact ⟨A, cap, rfl, h2⟩
  · cases h
end
end Go.Sx
