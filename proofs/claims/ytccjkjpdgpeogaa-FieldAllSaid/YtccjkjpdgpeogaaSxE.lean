/- New lists: append, make, literals, texts. -/
import Derived.Test.YtccjkjpdgpeogaaSxZ
namespace Go.Sx
open Go
set_option linter.unusedSimpArgs false
set_option linter.unusedVariables false
section
variable {P : Program} {E : Env} {ρ : Rho} {fr : Fr} {σ : Mem} {a : Act} {w : World}

theorem find_ins {d : Nat} {b : Blk} : ∀ {σ : Mem}, memRefs d σ = false → ∀ n, Mem.find (Mem.ins d b σ) n = Mem.find ((d, b) :: σ) n
  | [], _, n => rfl
  | (m, x) :: r, h, n => by
    have hm : m ≠ d := by
      intro e
      simp [memRefs, e] at h
    have hr : memRefs d r = false := by
      simp only [memRefs, List.any_cons, Bool.or_eq_false_iff] at h ⊢
      exact h.2
    simp only [Mem.ins]
    split
    · have ih := find_ins (b := b) hr n
      simp only [Mem.find] at ih ⊢
      rw [ih]
      by_cases e1 : m = n
      · rw [if_pos e1, if_neg (fun e => hm (e1.trans e.symm)), if_pos e1]
      · rw [if_neg e1, if_neg e1]
    · rfl

theorem Rep.find_eq {σ' : Mem} (h : Rep E ρ fr σ a w) (hf : ∀ n, Mem.find σ' n = Mem.find σ n) : Rep E ρ fr σ' a w :=
  h.less h.fr fun n b hb => by rw [← hf]; exact hb

theorem freshB_parts {d : Nat} {fr : Fr} {σ : Mem} (h : freshB d fr σ = true) : d < 200000 ∧ frRefs d fr = false ∧ memRefs d σ = false := by
  simp only [freshB, Bool.and_eq_true, Bool.not_eq_true', decide_eq_true_eq] at h
  exact ⟨h.1.1, h.1.2, h.2⟩

theorem freshB_find {d : Nat} {fr : Fr} {σ : Mem} (h : freshB d fr σ = true) : ∀ m b, Mem.find σ m = some b → m ≠ d := fun m b hm => (memRefs_out (freshB_parts h).2.2 hm).1

/-- a list in a new block -/
theorem newvec {d : Nat} {L : Loc} {cs : List Col} {w' : World} {C : Array Value} {T : TypeId} {fz : Nat × Nat} (h : Rep E ρ fr σ a w) (hd : freshB d fr σ = true) (hw : w'.heap = w.heap.push (.cells C T fz)) (h1 : w'.os = w.os) (h2 : w'.tape = w.tape) (h3 : w'.output = w.output)
    (hV : VRep w' L cs) (hb : L.1 = w.heap.size) (ho : L.2 = 0) (ha : L.a = some (L.at 0)) (hsz : L.cap * cwidth cs ≤ C.size) (hfz : ∀ j, j < C.size → ¬ (fz.1 ≤ j ∧ j < fz.2)) (hin : ∀ k, Inner L cs k → Clean ρ σ k ∧ k < w.heap.size) :
    Rep E (upd ρ d L) fr (Mem.ins d (.vec cs) σ) a w' := by
  have old : ∀ {k}, k < w.heap.size → w'.heap[k]? = w.heap[k]? := fun hk => by rw [hw, Array.getElem?_push, if_neg (by omega)]
  have new : w'.heap[w.heap.size]? = some (.cells C T fz) := by rw [hw]; simp
  have hsize : w'.heap.size = w.heap.size + 1 := by rw [hw]; simp
  have hlt : ∀ {m c k}, Mem.find σ m = some c → Foot ρ m c k → k < w.heap.size := fun hm hk => in_range (h.mem _ _ hm) hk
  refine (add_sound (b := .vec cs) h hd ⟨h1.trans h.keep.os, h2.trans h.keep.tape, h3.trans h.keep.output, by rw [hsize]; have := h.keep.size; omega, fun k hk hx => by rw [old (by have := h.keep.size; omega)]; exact h.keep.block k hk hx⟩ (fun m c k hm hk => old (hlt hm hk))
    ⟨by rw [upd_eq]; exact hV, by rw [upd_eq]; exact fun _ => ⟨ha, C, T, fz, by rw [hb]; exact new, by rw [ho]; omega, hfz⟩⟩ (fun k hk => ?_) (fun k hk => ?_)).find_eq (find_ins (freshB_parts hd).2.2)
  · simp only [Out, upd_eq] at hk
    obtain ⟨_, rfl⟩ := hk
    rw [hb]
    refine ⟨Or.inl h.keep.size, fun m c hm hk => by have := hlt hm hk; omega, fun q => ?_⟩
    simp only [Inn, upd_eq] at q
    have := (hin _ q).2
    omega
  · simp only [Foot, upd_eq] at hk
    rcases hk with ⟨_, rfl⟩ | hk
    · rw [hb]; exact fun m c hm hO => by have := hlt hm hO.foot; omega
    · exact (hin k hk).1

/-- what a new list leaves as it was -/
theorem ins_old {d : Nat} {b : Blk} (hd : freshB d fr σ = true) : ∀ m c, Mem.find σ m = some c → Mem.find (Mem.ins d b σ) m = some c := fun m c hm => by
  rw [find_ins (freshB_parts hd).2.2]
  simp only [Mem.find]
  rw [if_neg (Ne.symm (freshB_find hd m c hm))]; exact hm

/-! ### make -/
theorem zero_row {L : Loc} {n i : Nat} (hL : ∀ c i, L.el c i = ⟨none, 0, 0⟩) (hi : i < n) : ∀ {ks : List Kd} {z : List Value} {c t : Nat}, zeroIs ks z = true → t < width ks → z[t]? = some (rowVal L (ks.map (Kd.zero n)) c i t)
  | [], _, _, t, _, ht => absurd ht (Nat.not_lt_zero _)
  | k :: r, z, c, t, h, ht => by
    have ik : ∀ {k k' : IntKind}, (k == k') = true → k = k' := fun {k k'} h => eq_of_beq h
    have kd : (Kd.zero n k).kd = k := by cases k <;> rfl
    have hw : width (k :: r) = k.width + width r := rfl
    simp only [List.map_cons, rowVal, kd]
    cases k with
    | ints k =>
      cases z with
      | nil => simp [zeroIs] at h
      | cons v z =>
        simp only [zeroIs, Bool.and_eq_true] at h
        have e : (Kd.ints k).width = 1 := rfl
        rw [e] at hw ⊢
        cases t with
        | zero =>
          rw [if_pos (by omega)]
          cases v <;> simp [isZeroInt] at h
          obtain ⟨⟨h1, h2⟩, h3⟩ := h
          subst h1 h2
          simp [colVal, Kd.zero, lzeros, lget, List.getD, hi]
        | succ t =>
          rw [if_neg (by omega)]
          simp only [List.getElem?_cons_succ, Nat.add_sub_cancel]
          exact zero_row hL hi h.2 (by omega)
    | bools =>
      cases z with
      | nil => simp [zeroIs] at h
      | cons v z =>
        simp only [zeroIs, Bool.and_eq_true] at h
        have e : Kd.bools.width = 1 := rfl
        rw [e] at hw ⊢
        cases t with
        | zero =>
          rw [if_pos (by omega)]
          cases v <;> simp at h
          obtain ⟨h1, h3⟩ := h
          subst h1
          simp [colVal, Kd.zero, bzeros, lgetb, List.getD, hi]
        | succ t =>
          rw [if_neg (by omega)]
          simp only [List.getElem?_cons_succ, Nat.add_sub_cancel]
          exact zero_row hL hi h.2 (by omega)
    | rows k =>
      cases z with
      | nil => simp [zeroIs] at h
      | cons v z =>
        simp only [zeroIs, Bool.and_eq_true] at h
        have e : (Kd.rows k).width = 1 := rfl
        rw [e] at hw ⊢
        cases t with
        | zero =>
          rw [if_pos (by omega)]
          obtain ⟨h1, h3⟩ := h
          have : v = .slice none 0 0 := by
            split at h1
            · rfl
            · cases h1
          subst this
          simp [colVal, Kd.zero, hL]
        | succ t =>
          rw [if_neg (by omega)]
          simp only [List.getElem?_cons_succ, Nat.add_sub_cancel]
          exact zero_row hL hi h.2 (by omega)
    | arrs k m =>
      have h : (Nat.ble m z.length = true ∧ (z.take m).all (isZeroInt k) = true) ∧ zeroIs r (z.drop m) = true := by
        cases z <;> (simp only [zeroIs, Bool.and_eq_true] at h; exact h)
      obtain ⟨⟨h1, h2⟩, h3⟩ := h
      have e : (Kd.arrs k m).width = m := rfl
      rw [e] at hw ⊢
      by_cases hlt : t < m
      · rw [if_pos hlt]
        have hl : m ≤ z.length := Nat.le_of_ble_eq_true h1
        have hv := List.all_eq_true.1 h2 z[t] (by rw [List.mem_iff_getElem?]; exact ⟨t, by rw [List.getElem?_take, if_pos hlt]; exact List.getElem?_eq_getElem (by omega)⟩)
        rw [List.getElem?_eq_getElem (by omega)]
        generalize z[t] = v at hv
        cases v <;> simp [isZeroInt] at hv
        obtain ⟨q1, q2⟩ := hv
        subst q1 q2
        simp [colVal, Kd.zero, azeros, llget, lget, List.getD, hi, hlt]
      · rw [if_neg hlt]
        have := zero_row hL hi (c := c + 1) (t := t - m) h3 (by omega)
        rw [List.getElem?_drop, show m + (t - m) = t by omega] at this
        exact this

theorem zero_kds (ks : List Kd) (n : Nat) : kdsOf (ks.map (Kd.zero n)) = ks := by
  induction ks with
  | nil => rfl
  | cons k r ih => cases k <;> simp_all [kdsOf, Kd.zero, Col.kd]

theorem zero_ok (ks : List Kd) (n : Nat) : ∀ x ∈ ks.map (Kd.zero n), x.ok n := by
  intro x hx
  obtain ⟨k, _, rfl⟩ := List.mem_map.1 hx
  cases k <;> simp [Kd.zero, Col.ok, lzeros, bzeros, azeros, rzeros]

theorem zero_len : ∀ {ks : List Kd} {z : List Value}, zeroIs ks z = true → z.length = width ks := by
    intro ks
    induction ks with
    | nil => intro z h; cases z <;> simp [zeroIs] at h; rfl
    | cons k r ih =>
      intro z h
      have hw : width (k :: r) = k.width + width r := rfl
      cases k with
      | arrs k m =>
        have h : (Nat.ble m z.length = true ∧ (z.take m).all (isZeroInt k) = true) ∧ zeroIs r (z.drop m) = true := by
          cases z <;> (simp only [zeroIs, Bool.and_eq_true] at h; exact h)
        have h1 := Nat.le_of_ble_eq_true h.1.1
        have := ih h.2
        rw [List.length_drop] at this
        rw [hw]; show z.length = m + width r
        omega
      | _ =>
        cases z with
        | nil => simp [zeroIs] at h
        | cons v z =>
          simp only [zeroIs, Bool.and_eq_true] at h
          have := ih h.2
          rw [hw]; simp only [List.length_cons, this, Kd.width]; omega

theorem make_sound {t e : TypeId} {ks : List Kd} {bytes : Nat} {A B : Int} {kl kc : IntKind} {d : Nat} (h : Rep E ρ fr σ a w) (hu : P.underlying t = some (.slice e)) (hk : elemKinds P e = some (ks, bytes)) (hm : Mk A B bytes) (hd : freshB d fr σ = true) :
    ∃ w' L, (Instr.makeSlice t (.int kl A) (.int kc B)).run P w = .ok (.slice L.a L.len L.cap) w' ∧ w.heap.size ≤ w'.heap.size ∧ Keeps (fun _ => False) w w' ∧ Rep E (upd ρ d L) fr (Mem.ins d (.vec (ks.map (Kd.zero (nat A)))) σ) a w' := by
  obtain ⟨i, z, hi, hz, hzero, hsize, hwid, hbytes, _⟩ := elemKinds_sound hk
  have h0 := hm.lo; have h1 := hm.le; have h2 := hm.hi; have h3 := hm.c63
  have hrun := run_make (P := P) w t e i z hu hi hz kl kc A B h0 h1 (by rw [hbytes, Int.mul_comm]; exact h2) h3
  have kds := zero_kds ks (nat A)
  have hcw : cwidth (ks.map (Kd.zero (nat A))) = width ks := by rw [cwidth, kds]
  let L : Loc := ⟨w.heap.size, 0, some ⟨w.heap.size, 0, none⟩, A.toNat, B.toNat, fun _ _ => ⟨none, 0, 0⟩⟩
  have hsz : (madeCells z.cells (B.toNat * i.size)).size = B.toNat * i.size := size_madeCells _ _
  refine ⟨_, L, hrun, by show _ ≤ (w.heap.push _).size; simp, ⟨rfl, rfl, rfl, by show _ ≤ (w.heap.push _).size; simp, fun k hk _ => with_old (o := .cells _ e) hk⟩, newvec (L := L) h hd (w' := w.alloc (.cells (madeCells z.cells (B.toNat * i.size)) e)) (C := madeCells z.cells (B.toNat * i.size)) (T := e) (fz := (0, 0)) rfl rfl rfl rfl ?_ rfl rfl rfl (by rw [hcw, hsz, hsize]; exact Nat.le_refl _) (fun j _ => by simp) (fun k hk => ?_)⟩
  · refine ⟨fun q => by have : ks = [] := by simpa using q
                        subst this; exact absurd hwid (by decide), by rw [hcw]; exact hwid, zero_ok ks _, by show A.toNat ≤ B.toNat; omega, fun _ => rfl, fun r hr t ht => ?_, fun c k ll hc r l hl => ?_⟩
    · rw [hcw] at ht ⊢
      have hr' : r < A.toNat := hr
      have hlt : r * width ks + t < B.toNat * i.size := by rw [hsize]; exact cell_lt_len (by omega) ht
      have hzl := zero_len hzero
      have zr := zero_row (L := L) (n := nat A) (i := r) (fun _ _ => rfl) hr' (c := 0) hzero ht
      have hcell : (madeCells z.cells (B.toNat * i.size))[r * width ks + t]? = some (z.cells[t]!) := by
        have hs : z.cells.size = width ks := by rw [← hzl]; simp
        simp [madeCells, hlt, hs, (divmod (i := r) ht).2]
      have hnew : (w.alloc (.cells (madeCells z.cells (B.toNat * i.size)) e)).heap[w.heap.size]? = some (.cells (madeCells z.cells (B.toNat * i.size)) e) := by
        show (w.heap.push _)[w.heap.size]? = _
        simp
      have : (w.alloc (.cells (madeCells z.cells (B.toNat * i.size)) e)).cell? (L.at (r * width ks + t)) = some (z.cells[t]!) := by
        simp only [World.cell?, Loc.at, L, hnew, Option.isSome_none, Bool.false_eq_true, if_false, Nat.zero_add]
        exact hcell
      rw [this]
      rw [Array.getElem?_toList] at zr
      have hs : t < z.cells.size := by rw [← Array.length_toList, hzl]; exact ht
      rw [Array.getElem?_eq_getElem hs] at zr
      rw [getElem!_pos z.cells t hs]
      exact zr
    · simp only [List.getElem?_map, Option.map_eq_some_iff] at hc
      obtain ⟨kd, _, hkd⟩ := hc
      cases kd <;> simp [Kd.zero] at hkd
      obtain ⟨_, rfl⟩ := hkd
      have : l = [] := by
        simp only [rzeros, List.getElem?_replicate] at hl
        split at hl <;> simp at hl
        exact hl
      subst this
      exact ⟨rfl, Nat.le_refl _, fun q => absurd rfl q, fun j x hx => by simp at hx⟩
  · obtain ⟨c, kk, ll, r, l, A', hc, hl, hne, _⟩ := hk
    simp only [List.getElem?_map, Option.map_eq_some_iff] at hc
    obtain ⟨kd, _, hkd⟩ := hc
    cases kd <;> simp [Kd.zero] at hkd
    obtain ⟨_, rfl⟩ := hkd
    simp only [rzeros, List.getElem?_replicate] at hl
    split at hl <;> simp at hl
    exact absurd hl hne
end
end Go.Sx
