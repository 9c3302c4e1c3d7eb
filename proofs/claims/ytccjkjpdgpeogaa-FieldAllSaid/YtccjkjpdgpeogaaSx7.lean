/- New arrays and structs; all operations that leave the memory alone. -/
import Derived.Test.YtccjkjpdgpeogaaSx6
namespace Go.Sx
open Go
set_option linter.unusedSimpArgs false
set_option linter.unusedVariables false
section
variable {P : Program} {ρ : Rho} {σ : Mem} {w : World} {K : AV → Prop}

theorem acIs_sound (ρ : Rho) : ∀ {a : AC} {v : Value}, acIs a v = true → CRep ρ a v := by
  intro a v h
  unfold acIs at h
  split at h
  · rename_i k n k' n'
    simp only [Bool.and_eq_true, beq_iff_eq] at h
    obtain ⟨hk, rfl⟩ := h
    have : k = k' := by cases k <;> cases k' <;> first | rfl | (exact absurd hk (by decide))
    subst this; rfl
  · simp only [beq_iff_eq] at h; subst h; rfl
  · simp only [beq_iff_eq] at h; subst h; rfl
  · have := of_decide_eq_true h; subst this; rfl
  · exact ⟨rfl, rfl⟩
  · exact ⟨rfl, rfl⟩
  · exact ⟨rfl, rfl⟩
  · exact ⟨rfl, rfl⟩
  · exact ⟨rfl, rfl⟩
  · cases h

theorem flatIs_sound (ρ : Rho) : ∀ {l : List AC} {c : List Value}, flatIs l c = true → FRep ρ l c
  | [], [], _ => ⟨rfl, fun j a v h => by simp at h⟩
  | a :: l, v :: c, h => by
    simp only [flatIs, Bool.and_eq_true] at h
    obtain ⟨h1, h2⟩ := flatIs_sound ρ h.2
    refine ⟨by simp [h1], fun j => ?_⟩
    cases j with
    | zero => intro a' v' ha hv; simp at ha hv; subst ha hv; exact acIs_sound ρ h.1
    | succ j => intro a' v' ha hv; simp at ha hv; exact h2 j a' v' ha hv
  | [], _ :: _, h => by simp [flatIs] at h
  | _ :: _, [], h => by simp [flatIs] at h

theorem shapeB_sound : ∀ {s : List Seg}, shapeB s = true → segsOk s
  | [], _ => trivial
  | .ints k n l :: r, h => by simp only [shapeB, Bool.and_eq_true, beq_iff_eq] at h; exact ⟨h.1, shapeB_sound h.2⟩
  | .bools n l :: r, h => by simp only [shapeB, Bool.and_eq_true, beq_iff_eq] at h; exact ⟨h.1, shapeB_sound h.2⟩
  | .cells cs :: r, h => ⟨trivial, shapeB_sound h⟩

theorem zeroSegs_sound {t : TypeId} {s : List Seg} (h : zeroSegs P t = some s) : segsOk s ∧ ∃ i z, P.info? t = some i ∧ i.zero = some z ∧ ∀ ρ, FRep ρ (flat s) z.cells.toList := by
  unfold zeroSegs at h
  split at h <;> try (cases h; done)
  rename_i s' z hs hz
  split at h <;> try (cases h; done)
  rename_i hb
  simp only [Option.some.injEq] at h
  subst h
  simp only [Bool.and_eq_true] at hb
  cases hi : P.info? t with
  | none => rw [hi] at hz; simp at hz
  | some i =>
    rw [hi] at hz
    exact ⟨shapeB_sound hb.1, i, z, rfl, by simpa using hz, fun ρ => flatIs_sound ρ hb.2⟩

theorem foldl_put (off : Nat) : ∀ (us : List Value) (k : Nat) (cs : Array Value), let r := (us.zipIdx k).foldl (fun cs p => cs.setIfInBounds (off + p.2) p.1) cs
    r.size = cs.size ∧ (off + k + us.length ≤ cs.size → ∀ (j : Nat), r[j]? = if off + k ≤ j ∧ j < off + k + us.length then us[j - (off + k)]? else cs[j]?)
  | [], k, cs => by refine ⟨rfl, fun _ j => ?_⟩; simp; omega
  | u :: us, k, cs => by
    obtain ⟨h1, h2⟩ := foldl_put off us (k + 1) (cs.setIfInBounds (off + k) u)
    simp only [List.zipIdx_cons, List.foldl_cons]
    refine ⟨by rw [h1]; simp, fun hle j => ?_⟩
    simp only [List.length_cons] at hle
    rw [h2 (by simp; omega) j]
    by_cases ha : off + (k + 1) ≤ j ∧ j < off + (k + 1) + us.length
    · rw [if_pos ha, if_pos (by simp; omega)]
      have : j - (off + k) = (j - (off + (k + 1))) + 1 := by omega
      rw [this]; simp
    · rw [if_neg ha, Array.getElem?_setIfInBounds]
      by_cases hb : off + k = j
      · subst hb
        rw [if_pos rfl, if_pos (by omega), if_pos (by simp)]; simp
      · rw [if_neg hb, if_neg (by simp; omega)]

theorem AV.segs_sound {x : AV} {v : Value} {s : List Seg} (h : x.segs = some s) (hx : SRep ρ x v) : segsOk s ∧ FRep ρ (flat s) v.cells.toList := by
  cases x with
  | one a =>
    simp only [AV.segs, Option.some.injEq] at h
    subst h
    have h1 : v.cells = #[v] := by
      have := hx.one
      cases v <;> simp_all [Value.cells, Value.oneCell']
    refine ⟨⟨trivial, trivial⟩, ?_⟩
    rw [h1]
    refine ⟨rfl, fun j a' v' ha hv => ?_⟩
    cases j with
    | zero => simp [flat, Seg.flat] at ha hv; subst ha hv; exact hx
    | succ j => simp [flat, Seg.flat] at ha
  | agg s' =>
    simp only [AV.segs, Option.some.injEq] at h
    subst h
    obtain ⟨ho, cs, rfl, hf⟩ := hx
    exact ⟨ho, by simpa [Value.cells] using hf⟩
  | tup vs => simp [AV.segs] at h
  | undef => simp [AV.segs] at h

theorem fillx_sound {place : Nat → Option (Nat × Nat)} : ∀ {parts : List (Nat × AV)} {ps : List (Nat × Value)} {s : List Seg} {cells : Array Value} {K : List Seg → Prop}, fillx s place parts K → segsOk s → FRep ρ (flat s) cells.toList →
    parts.length = ps.length → (∀ (j : Nat) p q, parts[j]? = some p → ps[j]? = some q → p.1 = q.1 ∧ SRep ρ p.2 q.2) → ∃ s' cells', Instr.fill place cells ps = some cells' ∧ K s' ∧ segsOk s' ∧ FRep ρ (flat s') cells'.toList
  | [], [], s, cells, K, h, ho, hf, _, _ => ⟨s, cells, rfl, h, ho, hf⟩
  | [], _ :: _, _, _, _, _, _, _, hl, _ => by simp at hl
  | _ :: _, [], _, _, _, _, _, _, hl, _ => by simp at hl
  | (i, x) :: parts, (i', v) :: ps, s, cells, K, h, ho, hf, hl, hps => by
    obtain ⟨hi, hx⟩ := hps 0 _ _ rfl rfl
    simp only at hi hx
    subst hi
    have rest : ∀ (j : Nat) p q, parts[j]? = some p → ps[j]? = some q → p.1 = q.1 ∧ SRep ρ p.2 q.2 := fun j p q h1 h2 => hps (j + 1) p q (by simpa using h1) (by simpa using h2)
    have hl' : parts.length = ps.length := by simpa using hl
    simp only [fillx] at h
    split at h <;> try exact h.elim
    rename_i off size hp
    split at h <;> try exact h.elim
    rename_i base idx hloc
    have hsum := locate_sum hloc
    have step : ∀ {s1 : List Seg} {ys : List AC}, (∃ s0, x.segs = some s0 ∧ (flat s0).length = size) → fillx s1 place parts K → segsOk s1 → slen s1 = slen s → off + size ≤ slen s → (∀ (j : Nat) a u, ys[j]? = some a → v.cells.toList[j]? = some u → CRep ρ a u) →
        (∀ (j : Nat), (flat s1)[j]? = if off ≤ j ∧ j < off + size then ys[j - off]? else (flat s)[j]?) → ∃ s' cells', Instr.fill place cells ((i, v) :: ps) = some cells' ∧ K s' ∧ segsOk s' ∧ FRep ρ (flat s') cells'.toList := by
      intro s1 ys ⟨s0, hs0, hlen0⟩ hK ho1 hsl hfit hys hfl
      have hseg := AV.segs_sound hs0 hx
      have hvs : v.cells.size = size := by have := hseg.2.1; simp at this; omega
      have hcs : cells.size = slen s := by have := hf.1; rw [flat_length ho] at this; simpa using this.symm
      obtain ⟨g1, g2⟩ := foldl_put off v.cells.toList 0 cells
      have g2 := g2 (by simp; omega)
      have hfold : v.cells.zipIdx.foldl (fun cs (c, j) => cs.setIfInBounds (off + j) c) cells = (v.cells.toList.zipIdx 0).foldl (fun cs p => cs.setIfInBounds (off + p.2) p.1) cells := by
        rw [← Array.foldl_toList, Array.toList_zipIdx]
      have hput : FRep ρ (flat s1) ((v.cells.toList.zipIdx 0).foldl (fun cs p => cs.setIfInBounds (off + p.2) p.1) cells).toList := by
        refine FRep.put (off := off) (z := size) (ys := ys) (us := v.cells.toList) hf (by rw [flat_length ho1, flat_length ho, hsl]) (by simpa using g1) hys hfl (fun j => ?_)
        have := g2 j
        simp only [Array.getElem?_toList, Nat.add_zero, Array.length_toList, hvs] at this ⊢
        exact this
      obtain ⟨s', cells', e1, e2, e3, e4⟩ := fillx_sound hK ho1 hput hl' rest
      refine ⟨s', cells', ?_, e2, e3, e4⟩
      simp only [Instr.fill, hp]
      rw [if_neg (by simp [hvs]; omega), hfold]
      exact e1
    split at h
    · rename_i a
      split at h <;> try exact h.elim
      obtain ⟨s1, hK, g1, g2, g3, a', ha', g4⟩ := storeOne_sound h ho
      have hb : base + idx = off := by omega
      rw [hb] at g3 g4
      refine step ⟨[.cells [a]], rfl, rfl⟩ hK g1 g2 (by omega) (ys := [a']) ?_ g4
      intro j b u h1 h2
      have hseg := AV.segs_sound (s := [.cells [a]]) rfl hx
      cases j with
      | zero => simp at h1; subst h1; exact ha' _ _ (hseg.2.2 0 a u (by simp [flat, Seg.flat]) h2)
      | succ j => simp at h1
    · rename_i xs
      have hseg := AV.segs_sound (s := xs) rfl hx
      obtain ⟨s1, hK, g1, g2, g3, g5, g4⟩ := storePart_sound h ho hseg.1
      have hb : base + idx = off := by omega
      rw [hb] at g3 g4
      exact step ⟨xs, rfl, g5⟩ hK g1 g2 (by omega) (ys := flat xs) (fun j b u h1 h2 => hseg.2.2 j b u h1 h2) g4
    · exact h.elim
end
end Go.Sx
