/- Slices, builds; all operations that leave the memory alone. -/
import Derived.Test.YtccjkjpdgpeogaaSx5
namespace Go.Sx
open Go
set_option linter.unusedSimpArgs false
set_option linter.unusedVariables false
section
variable {P : Program} {ρ : Rho} {σ : Mem} {w0 : World} {K : AV → Prop}

theorem slK_sound {lo hi : Option AV} {n base idx z l u N cap : Nat} {m : Sem Value} (hK : slK K lo n base idx z l u cap) (hN : N ≤ cap) (q1 : hi = none → u = N) (q2 : hi ≠ none → u ≤ cap) (q3 : lo = none → l = 0) (q4 : lo ≠ none → l ≤ u)
    (hr : ∀ w : World, m.run P w = .ok (.slice (some (if cap = l then at_ ρ n (base + idx) else at_ ρ n (base + idx + l * z))) (u - l) (cap - l)) w) : ∃ v av, (∀ w : World, m.run P w = .ok v w) ∧ SRep ρ av v ∧ K av := by
  have hu1 : u ≤ cap := by
    by_cases hi' : hi = none
    · have := q1 hi'; omega
    · exact q2 hi'
  cases lo with
  | none =>
    have hl0' := q3 rfl
    subst hl0'
    refine ok1 (a := .sl n base idx u cap) hr ⟨hu1, Or.inl ?_⟩ hK
    simp
  | some y =>
    have hlu := q4 (by simp)
    refine ok1 (a := .sl n base (nadd idx (mulZ z l)) (nsub u l) (nsub cap l)) hr ⟨by simp [nsub]; omega, ?_⟩ hK
    by_cases hc : cap = l
    · obtain rfl : u = l := by omega
      exact Or.inr ⟨by simp [nsub], by simp [nsub, hc], _, by simp [hc]; rfl⟩
    · exact Or.inl (by simp [hc, nadd, nsub, mulZ_eq, Nat.add_assoc])

theorem slicex_sound {t : TypeId} {x : AV} {lo hi : Option AV} {v1 : Value} {vl vh : Option Value} (h : slicex P t x lo hi K) (hx : SRep ρ x v1)
    (hl : ∀ x, lo = some x → ∃ v, vl = some v ∧ SRep ρ x v) (hl0 : lo = none → vl = none) (hh : ∀ x, hi = some x → ∃ v, vh = some v ∧ SRep ρ x v) (hh0 : hi = none → vh = none) :
    ∃ v av, (∀ w : World, (Instr.sliceAt t v1 vl vh none).run P w = .ok v w) ∧ SRep ρ av v ∧ K av := by
  unfold slicex at h
  split at h
  · rename_i n base idx len cap
    split at h <;> try exact h.elim
    rename_i e hu
    split at h <;> try exact h.elim
    rename_i z hz
    obtain ⟨l, u, hK, hrun, q1, q2, q3, q4⟩ := boundx_sound (P := P) (ρ := ρ) true h hl hl0 hh hh0
    have hr : ∀ (A : Option Addr) (w : World), (Instr.sliceAt t (.slice A len cap) vl vh none).run P w = .ok (.slice (if cap = l then A else A.map (·.add (l * z))) (u - l) (cap - l)) w := by
      intro A w
      simp [Instr.sliceAt, Instr.slice, run_underlying hu, hrun, run_sizeB hz]
    obtain ⟨hle, hx⟩ := hx
    rcases hx with rfl | ⟨rfl, rfl, a, rfl⟩
    · refine slK_sound hK hle q1 q2 q3 q4 ?_
      intro w
      rw [hr]
      by_cases hc : cap = l <;> simp [hc, at_add]
    · have hu1 : u = 0 := by
        by_cases hi' : hi = none
        · exact q1 hi'
        · have := q2 hi'; omega
      subst hu1
      cases lo with
      | none =>
        have hl0' := q3 rfl
        subst hl0'
        exact ok1 (a := .sl n base idx 0 0) (hr _) ⟨Nat.le_refl _, Or.inr ⟨rfl, rfl, a, by simp⟩⟩ hK
      | some y =>
        have := q4 (by simp)
        obtain rfl : l = 0 := by omega
        exact ok1 (a := .sl n base (nadd idx (mulZ z 0)) (nsub 0 0) (nsub 0 0)) (hr _) ⟨Nat.le_refl _, Or.inr ⟨rfl, rfl, a, by simp⟩⟩ hK
  · rename_i n base idx
    cases (show v1 = _ from hx)
    split at h
    · rename_i A hu
      split at h <;> try exact h.elim
      rename_i N e hu'
      split at h <;> try exact h.elim
      rename_i z hz
      obtain ⟨l, u, hK, hrun, q1, q2, q3, q4⟩ := boundx_sound (P := P) (ρ := ρ) false h hl hl0 hh hh0
      refine slK_sound hK (Nat.le_refl _) q1 q2 q3 q4 ?_
      by_cases hc : N = l
      · subst hc; simp [Instr.sliceAt, Instr.slice, run_underlying hu, run_underlying hu', asAddr, hrun, run_sizeB hz]
      · simp [Instr.sliceAt, Instr.slice, run_underlying hu, run_underlying hu', asAddr, hrun, run_sizeB hz, hc, at_add]
    · rename_i N e hu
      split at h <;> try exact h.elim
      rename_i z hz
      obtain ⟨l, u, hK, hrun, q1, q2, q3, q4⟩ := boundx_sound (P := P) (ρ := ρ) false h hl hl0 hh hh0
      refine slK_sound hK (Nat.le_refl _) q1 q2 q3 q4 ?_
      by_cases hc : N = l
      · subst hc; simp [Instr.sliceAt, run_underlying hu, Instr.sureAddr, hrun, run_sizeB hz]
      · simp [Instr.sliceAt, run_underlying hu, Instr.sureAddr, hrun, run_sizeB hz, hc, at_add]
    · exact h.elim
  · exact h.elim

theorem slicev_sound {t : TypeId} {x : AV} {lo hi mx : Option AV} {v1 : Value} {vl vh vm : Option Value} (h : slicev P σ t x lo hi mx K) (hmem : MemRep ρ σ w0) (hx : SRep ρ x v1)
    (hl : ∀ x, lo = some x → ∃ v, vl = some v ∧ SRep ρ x v) (hl0 : lo = none → vl = none) (hh : ∀ x, hi = some x → ∃ v, vh = some v ∧ SRep ρ x v) (hh0 : hi = none → vh = none)
    (hm : ∀ x, mx = some x → ∃ v, vm = some v ∧ SRep ρ x v) (hm0 : mx = none → vm = none) :
    ∃ v av, (∀ w : World, (Instr.sliceAt t v1 vl vh vm).run P w = .ok v w) ∧ SRep ρ av v ∧ K av := by
  unfold slicev at h
  split at h <;> try exact h.elim
  rename_i e hu
  split at h <;> try exact h.elim
  rename_i z len hz hlen
  obtain ⟨A, cap, rfl, hle⟩ := lenOfV_sound hlen hmem hx
  obtain ⟨l, u, m, hK, hrun, hu1, hlu, hum, hmc, hl00⟩ := maxx_sound (P := P) (ρ := ρ) true h hle hl hl0 hh hh0 hm hm0
  have hr : ∀ w : World, (Instr.sliceAt t (.slice A len cap) vl vh vm).run P w = .ok (.slice (if m = l then A else A.map (·.add (l * z))) (u - l) (m - l)) w := by
    intro w
    simp [Instr.sliceAt, Instr.slice, run_underlying hu, hrun, run_sizeB hz]
  have addr0 : ∀ a : Addr, a.add 0 = a := fun a => by simp [Addr.add]
  have amap : ∀ (B : Option Addr) (p q : Nat), (B.map (·.add p)).map (·.add q) = B.map (·.add (p + q)) := fun B p q => by cases B <;> simp [addr_add_add]
  have am0 : ∀ (B : Option Addr), B.map (·.add 0) = B := fun B => by cases B <;> simp [addr0]
  unfold cutx at hK
  split at hK
  · rename_i n
    split at hK <;> try exact hK.elim
    rename_i cs hcs
    split at hK <;> try exact hK.elim
    rename_i hzw
    obtain ⟨hV, _⟩ := cols_sound hmem hcs
    have hx' : Value.slice A len cap = .slice (ρ n).a (ρ n).len (ρ n).cap := hx
    simp only [Value.slice.injEq] at hx'
    obtain ⟨rfl, rfl, rfl⟩ := hx'
    have key : ∀ i', i' = l → CRep ρ (.vsl n z i' (u - l)) (.slice (if m = l then (ρ n).a else (ρ n).a.map (·.add (l * z))) (u - l) (m - l)) := by
      intro i' hi'
      rw [hi']
      refine ⟨_, _, rfl, by omega, by omega, ?_, hV.adr⟩
      by_cases hml : m = l
      · exact Or.inl (by omega)
      · exact Or.inr ⟨by omega, by rw [if_neg hml]⟩
    cases lo with
    | none =>
      have := hl00 rfl
      subst this
      exact ok1 (a := .vsl n z 0 u) hr (key 0 rfl) hK
    | some y => exact ok1 (a := .vsl n z l (nsub u l)) hr (key l rfl) hK
  · rename_i n z' i len'
    split at hK <;> try exact hK.elim
    rename_i hzw
    have hzw : z = z' := beq_nat hzw
    subst hzw
    simp only [lenOfV, Option.some.injEq] at hlen
    subst hlen
    obtain ⟨A', cap', hv, g1, g2, g3, g4⟩ := hx
    simp only [Value.slice.injEq, true_and] at hv
    obtain ⟨rfl, rfl⟩ := hv
    have key : ∀ i', i' = i + l → CRep ρ (.vsl n z i' (u - l)) (.slice (if m = l then A else A.map (·.add (l * z))) (u - l) (m - l)) := by
      intro i' hi'
      rw [hi']
      refine ⟨_, _, rfl, by omega, by omega, ?_, g4⟩
      by_cases hml : m = l
      · exact Or.inl (by omega)
      · rcases g3 with g3 | ⟨g3, rfl⟩
        · exact Or.inl (by omega)
        · exact Or.inr ⟨by omega, by rw [if_neg hml, amap, Nat.add_mul]⟩
    cases lo with
    | none =>
      have := hl00 rfl
      subst this
      exact ok1 (a := .vsl n z i u) hr (key i rfl) hK
    | some y => exact ok1 (a := .vsl n z (nadd i l) (nsub u l)) hr (key _ rfl) hK
  · rename_i n c i
    split at hK <;> try exact hK.elim
    simp only [lenOfV, Option.map_eq_some_iff] at hlen
    obtain ⟨⟨k, ll⟩, hrow, rfl⟩ := hlen
    obtain ⟨cs, hc, hlen, hV, _⟩ := rows_sound hmem hrow
    obtain ⟨hv, hi⟩ := hx
    obtain ⟨q1, q2, q3, q4⟩ := hV.inner c k ll hc i _ (llget_some (by omega))
    simp only [Value.slice.injEq] at hv
    obtain ⟨rfl, hv2, rfl⟩ := hv
    have e1 : llen (llget (k, ll).snd i) = (llget ll i).length := rfl
    have nn : ((ρ n).el c i).len ≠ 0 → ∃ a, ((ρ n).el c i).a = some a := fun q => q3 (fun e => by rw [e] at q1; exact q q1)
    have key : ∀ i', i' = l → CRep ρ (.esl n c i i' (u - l)) (.slice (if m = l then ((ρ n).el c i).a else ((ρ n).el c i).a.map (·.add (l * 1))) (u - l) (m - l)) := by
      intro i' hi'
      rw [hi']
      refine ⟨_, _, rfl, by omega, by omega, hi, ?_, nn⟩
      by_cases hml : m = l
      · exact Or.inl (by omega)
      · exact Or.inr (by rw [if_neg hml, Nat.mul_one])
    cases lo with
    | none =>
      have := hl00 rfl
      subst this
      exact ok1 (a := .esl n c i 0 u) hr (key 0 rfl) hK
    | some y => exact ok1 (a := .esl n c i l (nsub u l)) hr (key l rfl) hK
  · rename_i n c i o len'
    split at hK <;> try exact hK.elim
    simp only [lenOfV, Option.some.injEq] at hlen
    subst hlen
    obtain ⟨A', cap', hv, g1, g2, g3, g4, g5⟩ := hx
    simp only [Value.slice.injEq, true_and] at hv
    obtain ⟨rfl, rfl⟩ := hv
    have key : ∀ i', i' = o + l → CRep ρ (.esl n c i i' (u - l)) (.slice (if m = l then A else A.map (·.add (l * 1))) (u - l) (m - l)) := by
      intro i' hi'
      rw [hi']
      refine ⟨_, _, rfl, by omega, by omega, g3, ?_, g5⟩
      by_cases hml : m = l
      · exact Or.inl (by omega)
      · rcases g4 with g4 | rfl
        · exact Or.inl (by omega)
        · exact Or.inr (by rw [if_neg hml, amap, Nat.mul_one])
    cases lo with
    | none =>
      have := hl00 rfl
      subst this
      exact ok1 (a := .esl n c i o u) hr (key o rfl) hK
    | some y => exact ok1 (a := .esl n c i (nadd o l) (nsub u l)) hr (key _ rfl) hK
  · exact hK.elim

theorem slicez_sound {t : TypeId} {x : AV} {lo hi mx : Option AV} {v1 : Value} {vl vh vm : Option Value} (h : slicez P σ t x lo hi mx K) (hmem : MemRep ρ σ w0) (hx : SRep ρ x v1)
    (hl : ∀ x, lo = some x → ∃ v, vl = some v ∧ SRep ρ x v) (hl0 : lo = none → vl = none) (hh : ∀ x, hi = some x → ∃ v, vh = some v ∧ SRep ρ x v) (hh0 : hi = none → vh = none)
    (hm : ∀ x, mx = some x → ∃ v, vm = some v ∧ SRep ρ x v) (hm0 : mx = none → vm = none) :
    ∃ v av, (∀ w : World, (Instr.sliceAt t v1 vl vh vm).run P w = .ok v w) ∧ SRep ρ av v ∧ K av := by
  unfold slicez at h
  split at h
  · exact slicev_sound h hmem hx hl hl0 hh hh0 hm hm0
  · split at h <;> try exact h.elim
    have := hm0 rfl
    subst this
    exact slicex_sound h hx hl hl0 hh hh0

theorem nilx_sound {o : Oper} {a : Act} {X : Operand} {x : AV} (ho : o.op = .nilCheck X) (h : nilx x K) (hx : SRep ρ x (a.eval X)) :
    ∃ v av, (∀ w : World, (execOp a.eval o).run P w = .ok (.value v) w) ∧ SRep ρ av v ∧ K av := by
  unfold nilx at h
  split at h
  · rename_i n b i
    have hx' : a.eval X = _ := hx
    exact ⟨_, .one (.ptr n b i), by simp [execOp, ho, hx'], rfl, h⟩
  · rename_i n z i b j
    obtain ⟨hx', hi⟩ := hx
    exact ⟨_, .one (.vptr n z i b j), by simp [execOp, ho, hx'], ⟨rfl, hi⟩, h⟩
  · rename_i n c i o
    obtain ⟨a', ha, hx', h1, h2⟩ := hx
    exact ⟨_, .one (.eptr n c i o), by simp [execOp, ho, hx'], ⟨a', ha, rfl, h1, h2⟩, h⟩
  · rename_i f p q
    obtain ⟨hx', _⟩ := hx
    exact ⟨_, .one (.con (.func (.func f) p q)), by simp [execOp, ho, hx'], ⟨rfl, rfl⟩, h⟩
  · rename_i f n b i
    have hx' : a.eval X = _ := hx
    exact ⟨_, .one (.clo f n b i), by simp [execOp, ho, hx'], rfl, h⟩
  · exact h.elim

/-! ### stores into rows -/
theorem setSeg_flat : ∀ {s : List Seg} {b : Nat} {x y : Seg} {s' : List Seg}, segsOk s → findSeg s b = some x → y.ok → y.len = x.len → setSeg s b y = some s' →
    segsOk s' ∧ slen s' = slen s ∧ ∀ (j : Nat), (flat s')[j]? = if b ≤ j ∧ j < b + x.len then y.flat[j - b]? else (flat s)[j]?
  | [], _, _, _, _, _, h, _, _, _ => by simp [findSeg] at h
  | s :: r, 0, x, y, s', ho, hf, hy, hl, hs => by
    simp only [findSeg, Option.some.injEq] at hf
    subst hf
    simp only [setSeg, Option.some.injEq] at hs
    subst hs
    refine ⟨⟨hy, ho.2⟩, by simp [slen, hl], fun j => ?_⟩
    have h1 := Seg.flat_length ho.1
    have h2 := Seg.flat_length hy
    simp only [flat, Nat.zero_le, true_and, Nat.zero_add, Nat.sub_zero]
    split
    · rw [List.getElem?_append_left (by omega)]
    · rw [List.getElem?_append_right (by omega), List.getElem?_append_right (by omega), h1, h2, hl]
  | s :: r, b + 1, x, y, s', ho, hf, hy, hl, hs => by
    simp only [findSeg] at hf
    simp only [setSeg] at hs
    split at hf
    · rename_i hle
      rw [if_pos hle] at hs
      simp only [Option.map_eq_some_iff] at hs
      obtain ⟨r', hr', rfl⟩ := hs
      obtain ⟨g1, g2, g3⟩ := setSeg_flat ho.2 hf hy hl hr'
      refine ⟨⟨ho.1, g1⟩, by simp [slen, g2], fun j => ?_⟩
      have h1 := Seg.flat_length ho.1
      simp only [flat]
      by_cases hj : j < s.len
      · rw [List.getElem?_append_left (by omega), List.getElem?_append_left (by omega), if_neg (by omega)]
      · rw [List.getElem?_append_right (by omega), List.getElem?_append_right (by omega), g3]
        have e : (b + 1 - s.len ≤ j - s.flat.length ∧ j - s.flat.length < b + 1 - s.len + x.len) ↔ (b + 1 ≤ j ∧ j < b + 1 + x.len) := by omega
        simp only [e]
        split
        · congr 1; omega
        · rfl
    · cases hf

/-- what a store of cells makes of a row that is known -/
theorem FRep.put {ρ : Rho} {l l' : List AC} {c c' : List Value} {off z : Nat} {ys : List AC} {us : List Value} (hf : FRep ρ l c) (hlen : l'.length = l.length) (hclen : c'.length = c.length)
    (hu : ∀ (j : Nat) a v, ys[j]? = some a → us[j]? = some v → CRep ρ a v) (hl : ∀ (j : Nat), l'[j]? = if off ≤ j ∧ j < off + z then ys[j - off]? else l[j]?)
    (hc : ∀ (j : Nat), c'[j]? = if off ≤ j ∧ j < off + z then us[j - off]? else c[j]?) : FRep ρ l' c' := by
  refine ⟨by have := hf.1; omega, fun j a v ha hv => ?_⟩
  rw [hl] at ha
  rw [hc] at hv
  by_cases h1 : off ≤ j ∧ j < off + z
  · rw [if_pos h1] at ha hv
    exact hu _ _ _ ha hv
  · rw [if_neg h1] at ha hv
    exact hf.2 j a v ha hv

theorem storeOne_sound {s : List Seg} {base idx : Nat} {a : AC} {K : List Seg → Prop} (h : storeOne s base idx a K) (ho : segsOk s) :
    ∃ s', K s' ∧ segsOk s' ∧ slen s' = slen s ∧ base + idx < slen s ∧ ∃ a', (∀ ρ v, CRep ρ a v → CRep ρ a' v) ∧ ∀ (j : Nat), (flat s')[j]? = if base + idx ≤ j ∧ j < base + idx + 1 then [a'][j - (base + idx)]? else (flat s)[j]? := by
  have key : ∀ {x y : Seg} {s' : List Seg} {a' : AC}, findSeg s base = some x → y.ok → y.len = x.len → setSeg s base y = some s' → idx < x.len → (∀ ρ v, CRep ρ a v → CRep ρ a' v) → (∀ (j : Nat), y.flat[j]? = if j = idx then some a' else x.flat[j]?) → K s' →
      ∃ s', K s' ∧ segsOk s' ∧ slen s' = slen s ∧ base + idx < slen s ∧ ∃ a', (∀ ρ v, CRep ρ a v → CRep ρ a' v) ∧ ∀ (j : Nat), (flat s')[j]? = if base + idx ≤ j ∧ j < base + idx + 1 then [a'][j - (base + idx)]? else (flat s)[j]? := by
    intro x y s' a' hf hy hl hs hi ha hfl hK
    obtain ⟨g1, g2, g3⟩ := setSeg_flat ho hf hy hl hs
    obtain ⟨hx, hxf⟩ := findSeg_flat ho hf
    have hlen := findSeg_len hf
    have hxl := Seg.flat_length hx
    refine ⟨s', hK, g1, g2, by omega, a', ha, fun j => ?_⟩
    rw [g3]
    by_cases h1 : base ≤ j ∧ j < base + x.len
    · rw [if_pos h1, hfl]
      by_cases h2 : j - base = idx
      · rw [if_pos h2, if_pos (by omega)]
        have : j - (base + idx) = 0 := by omega
        simp [this]
      · rw [if_neg h2, if_neg (by omega)]
        have hlt : j - base < x.flat.length := by omega
        have := hxf (j - base) _ (List.getElem?_eq_getElem hlt)
        rw [show base + (j - base) = j by omega] at this
        rw [this, List.getElem?_eq_getElem hlt]
    · rw [if_neg h1, if_neg (by omega)]
  unfold storeOne at h
  split at h
  · rename_i k N l hf
    obtain ⟨hx, _⟩ := findSeg_flat ho hf
    split at h <;> try exact h.elim
    rename_i k' v
    split at h <;> try exact h.elim
    rename_i hk
    subst hk
    obtain ⟨hlow, h⟩ := h
    split at h <;> try exact h.elim
    rename_i s' hs
    have hx' : l.length = N := hx
    refine key hf (y := .ints k N (lset l idx v)) (a' := .int k v) (by simp [Seg.ok, lset, hx']) rfl hs hlow.lt (fun _ _ h => h) (fun j => ?_) h
    simp only [Seg.flat, lset, List.getElem?_map, List.getElem?_set]
    have := hlow.lt
    by_cases hj : idx = j
    · subst hj; simp; omega
    · simp [hj, Ne.symm hj]
  · rename_i N l hf
    obtain ⟨hx, _⟩ := findSeg_flat ho hf
    have hx' : l.length = N := hx
    have bb : ∀ (v : Bool) {s' : List Seg}, idx < N → setSeg s base (.bools N (lsetb l idx v)) = some s' → (∀ ρ u, CRep ρ a u → CRep ρ (.bool v) u) → K s' → _ := fun v s' hlow hs ha hK =>
      key hf (y := .bools N (lsetb l idx v)) (a' := .bool v) (by simp [Seg.ok, lsetb, hx']) rfl hs hlow ha (fun j => by
        simp only [Seg.flat, lsetb, List.getElem?_map, List.getElem?_set]
        by_cases hj : idx = j
        · subst hj; simp; omega
        · simp [hj, Ne.symm hj]) hK
    split at h
    · obtain ⟨hlow, h⟩ := h
      split at h <;> try exact h.elim
      rename_i hs
      exact bb _ hlow.lt hs (fun _ _ h => h) h
    · obtain ⟨hlow, h⟩ := h
      split at h <;> try exact h.elim
      rename_i hs
      exact bb _ hlow.lt hs (fun _ _ h => h) h
    · exact h.elim
  · rename_i cs hf
    split at h <;> try exact h.elim
    rename_i hlow
    split at h <;> try exact h.elim
    rename_i s' hs
    have hlow' : idx < cs.length := of_decide_eq_true hlow
    refine key hf (y := .cells (cs.set idx a)) (a' := a) trivial (by simp [Seg.len]) hs hlow' (fun _ _ h => h) (fun j => ?_) h
    simp only [Seg.flat, List.getElem?_set]
    by_cases hj : idx = j
    · subst hj; simp [hlow']
    · simp [hj, Ne.symm hj]
  · exact h.elim

theorem storePart_sound {s x : List Seg} {z base idx : Nat} {K : List Seg → Prop} (h : storePart s z base idx x K) (ho : segsOk s) (hx : segsOk x) :
    ∃ s', K s' ∧ segsOk s' ∧ slen s' = slen s ∧ base + idx + z ≤ slen s ∧ (flat x).length = z ∧ ∀ (j : Nat), (flat s')[j]? = if base + idx ≤ j ∧ j < base + idx + z then (flat x)[j - (base + idx)]? else (flat s)[j]? := by
  unfold storePart at h
  split at h <;> try exact h.elim
  rename_i k N l k' z' l' hf
  split at h <;> try exact h.elim
  rename_i hk
  split at h <;> try exact h.elim
  rename_i hz
  subst hk hz
  obtain ⟨hfit, h⟩ := h
  split at h <;> try exact h.elim
  rename_i s' hs
  obtain ⟨hok, hfl⟩ := findSeg_flat ho hf
  have hl : l.length = N := hok
  have hl' : l'.length = z' := hx.1
  have hle : idx + z' ≤ N := hfit.le
  obtain ⟨g1, g2, g3⟩ := setSeg_flat ho hf (y := .ints k N (lput l idx l')) (by simp [Seg.ok, lput]; omega) rfl hs
  have hlen : base + N ≤ slen s := findSeg_len hf
  have g3 : ∀ (j : Nat), (flat s')[j]? = if base ≤ j ∧ j < base + N then ((lput l idx l').map (AC.int k))[j - base]? else (flat s)[j]? := g3
  refine ⟨s', h, g1, g2, by omega, by simp [flat, Seg.flat, hl'], fun j => ?_⟩
  rw [g3]
  by_cases h1 : base ≤ j ∧ j < base + N
  · rw [if_pos h1]
    simp only [Seg.flat, flat, List.append_nil, List.getElem?_map, lput]
    by_cases h2 : base + idx ≤ j ∧ j < base + idx + z'
    · rw [if_pos h2, List.append_assoc, List.getElem?_append_right (by simp; omega), List.getElem?_append_left (by simp; omega)]
      congr 2
      simp; omega
    · rw [if_neg h2]
      have hlt : j - base < l.length := by omega
      have := hfl (j - base) (.int k l[j - base]) (by simp [Seg.flat, hlt])
      rw [show base + (j - base) = j by omega] at this
      rw [this]
      by_cases h3 : j - base < idx
      · rw [List.append_assoc, List.getElem?_append_left (by simp; omega), List.getElem?_take, if_pos h3, List.getElem?_eq_getElem hlt]; rfl
      · rw [List.getElem?_append_right (by simp; omega), List.getElem?_drop]
        have e : idx + l'.length + (j - base - (List.take idx l ++ l').length) = j - base := by simp; omega
        rw [e, List.getElem?_eq_getElem hlt]; rfl
  · rw [if_neg h1, if_neg (by omega)]
end
end Go.Sx
