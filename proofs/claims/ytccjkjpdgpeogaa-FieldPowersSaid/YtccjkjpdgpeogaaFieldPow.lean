/- The law FieldPowers: one power more is one factor more; the powers of 3 are all elements but 0. -/
import Derived.Test.YtccjkjpdgpeogaaFieldP4
namespace Go.Proofs.Ytccjkjpdgpeogaa.G
open Go Go.Sx Go.Fld
set_option linter.unusedSimpArgs false
set_option linter.unusedVariables false

def chk : Nat → Nat → Bool
  | 0, p => p == 1
  | d + 1, p => p != 1 && p != 0 && chk d (gm p 3)
theorem chk_three : chk 254 3 = true := by decide +kernel

theorem chk_spec : ∀ (d k : Nat), chk d (gp 3 k) = true → (∀ j, j < d → gp 3 (k + j) ≠ 1 ∧ gp 3 (k + j) ≠ 0) ∧ gp 3 (k + d) = 1
  | 0, k, h => ⟨fun j hj => by omega, by simpa [chk] using h⟩
  | d + 1, k, h => by
    simp only [chk, Bool.and_eq_true, bne_iff_ne] at h
    obtain ⟨g1, g2⟩ := chk_spec d (k + 1) h.2
    refine ⟨fun j hj => ?_, by rw [show k + (d + 1) = k + 1 + d by omega]; exact g2⟩
    cases j with
    | zero => exact h.1
    | succ j => have := g1 j (by omega); rw [show k + (j + 1) = k + 1 + j by omega]; exact this

theorem gp3 : (∀ j, 0 < j → j < 255 → gp 3 j ≠ 1 ∧ gp 3 j ≠ 0) ∧ gp 3 255 = 1 := by
  have h1 : gp 3 1 = 3 := by decide +kernel
  have h := chk_spec 254 1 (by rw [h1]; exact chk_three)
  refine ⟨fun j h0 hj => ?_, h.2⟩
  have := h.1 (j - 1) (by omega)
  rw [show 1 + (j - 1) = j by omega] at this
  exact this

theorem gp_add {a : Nat} (ha : a < 256) (j : Nat) : ∀ m, gp a (j + m) = gm (gp a j) (gp a m)
  | 0 => by simp only [gp, Nat.add_zero]; rw [gm_one _ (gp_lt ha j)]
  | m + 1 => by
    rw [← Nat.add_assoc]
    simp only [gp]
    rw [gp_add ha j m, gm_assoc (gp_lt ha j) (gp_lt ha m) ha]

theorem gp3_ne_zero {j : Nat} (hj : j < 255) : gp 3 j ≠ 0 := by
  cases j with
  | zero => decide
  | succ j => exact (gp3.1 (j + 1) (by omega) hj).2

theorem gp3_inj {i j : Nat} (hj : j < i) (hi : i < 255) : gp 3 i ≠ gp 3 j := by
  intro h
  have l := gp_lt (a := 3) (by decide) j
  have l2 := gp_lt (a := 3) (by decide) (i - j)
  have e := gp_add (a := 3) (by decide) j (i - j)
  rw [show j + (i - j) = i by omega, h] at e
  have iv := gm_inv _ l (gp3_ne_zero (by omega))
  have c : gm (gi (gp 3 j)) (gp 3 j) = 1 := by rw [gm_comm (gi_lt _) l]; exact iv
  have e2 : gm (gi (gp 3 j)) (gp 3 j) = gp 3 (i - j) := by
    have := congrArg (gm (gi (gp 3 j))) e
    rw [this, ← gm_assoc (gi_lt _) l l2, c, one_gm l2]
  exact (gp3.1 (i - j) (by omega) (by omega)).1 (by rw [← e2]; exact c)

theorem pows_l0 (R : AV → Mem → Prop) (hR : ∀ s, R (.one (.bool (ieq (1 : Int) 1))) s) : ∀ (d : Nat) (l : List Bool), d ≤ 255 → l.length = 256 → (∀ v, l.getD v false = true → ∃ j, j < 255 - d ∧ gp 3 j = v) → FieldPowers.l0 R (d + 1) ((gp 3 (255 - d) : Nat) : Int) ((255 - d : Nat) : Int) l := by
  intro d
  induction d with
  | zero =>
    intro l _ _ _
    rw [FieldPowers.l0_succ]
    refine ⟨fun q => ?_, fun _ => ?_⟩
    · rw [ilt_true] at q; omega
    · have : gp 3 (255 - 0) = 1 := gp3.2
      rw [this]; exact hR _
  | succ d ih =>
    intro l hd hl hs
    rw [FieldPowers.l0_succ]
    have hi : 255 - (d + 1) < 255 := by omega
    have hb := gp_lt (a := 3) (by decide) (255 - (d + 1))
    have nz := gp3_ne_zero hi
    simp only [nadd, nat, Int.toNat_natCast, Nat.zero_add]
    have e1 : fmul ((gp 3 (255 - (d + 1)) : Nat) : Int) 3 = (gp 3 (255 - d) : Nat) := by
      rw [show 255 - d = 255 - (d + 1) + 1 by omega]
      simp [fmul, gp]
    have e2 : fpow 3 ((255 - (d + 1) : Nat) : Int) = (gp 3 (255 - (d + 1)) : Nat) := by
      simp only [fpow]
      rw [if_neg (by omega)]
      simp
    rw [e1, e2, add_i64 (by omega) (by omega), show ((255 - (d + 1) : Nat) : Int) + 1 = ((255 - d : Nat) : Int) by omega]
    refine ⟨fun _ => ⟨fun _ => ⟨⟨by omega, by omega⟩, ⟨hb⟩, fun _ => ⟨⟨⟨by decide, by decide⟩, ⟨by omega, by omega⟩⟩, fun q => ?_, fun _ => ⟨⟨by omega, by omega⟩, ⟨hb⟩, ⟨.of hb, ⟨by decide, by decide⟩⟩, ih _ (by omega) (by simp [lsetb, hl]) ?_⟩⟩, fun q => ?_⟩, fun q => ?_⟩, fun q => ?_⟩
    · rw [ine_true] at q; exact absurd rfl q
    · intro v hv
      simp only [lsetb, List.getD_eq_getElem?_getD, List.getElem?_set] at hv
      by_cases e : gp 3 (255 - (d + 1)) = v
      · exact ⟨_, by omega, e⟩
      · rw [if_neg e] at hv
        obtain ⟨j, hj, hjv⟩ := hs v (by rw [List.getD_eq_getElem?_getD]; exact hv)
        exact ⟨j, by omega, hjv⟩
    · obtain ⟨j, hj, hjv⟩ := hs _ q
      exact absurd hjv.symm (gp3_inj hj hi)
    · rw [ieq_true] at q; omega
    · rw [ilt_false] at q; omega

theorem fieldPowers_plain {a : Nat} (ha : a < 256) {n : Int} (hn : In64 n) : callsx Try.prog gam6 Try.f5 257 [.one (.int .u8 a), .one (.int .i64 n)] [] Yes := by
  rw [FieldPowers_vc]
  have loop : FieldPowers.l0 Yes 256 1 0 (List.replicate 256 false) := by
    have h := pows_l0 Yes (fun _ => Or.inl (by rfl)) 255 (List.replicate 256 false) (by omega) List.length_replicate (fun v hv => by
      rw [List.getD_eq_getElem?_getD, List.getElem?_replicate] at hv
      split at hv <;> exact absurd hv (by simp only [Option.getD]; decide))
    exact h
  have := hn.lo
  have := hn.hi
  have hB : Byte (a : Int) := .of ha
  have f0 : fpow a 0 = 1 := by simp [fpow, gp]
  have f1 : fpow a 1 = a := by simp [fpow, gp, one_gm ha]
  have fm : fpow a (-1) = finv a := by simp [fpow, gp, finv, one_gm (gi_lt a)]
  have hf : ∀ k : Int, Byte (fpow a k) := fun k => by
    simp only [fpow]; split
    · exact .of (gp_lt (gi_lt _) _)
    · exact .of (gp_lt (by simpa using ha) _)
  have nx : n < 9223372036854775807 → (a ≠ 0 ∨ 0 ≤ n) → fmul (fpow a n) a = fpow a (add .i64 n 1) := by
    intro h1 h2
    rw [add_i64 (by omega) (by omega)]
    by_cases hneg : n < 0
    · have ha0 : a ≠ 0 := by omega
      obtain ⟨m, hm⟩ : ∃ m : Nat, n = -((m + 1 : Nat) : Int) := ⟨(-n - 1).toNat, by omega⟩
      subst hm
      have e1 : fpow a (-((m + 1 : Nat) : Int)) = (gp (gi a) (m + 1) : Nat) := by
        simp only [fpow]; rw [if_pos (by omega)]; simp
      have e2 : fpow a (-((m + 1 : Nat) : Int) + 1) = (gp (gi a) m : Nat) := by
        rw [show -((m + 1 : Nat) : Int) + 1 = -(m : Int) by omega]
        simp only [fpow]
        by_cases h0 : m = 0
        · subst h0; rw [if_neg (by omega)]; rfl
        · rw [if_pos (by omega)]; simp
      rw [e1, e2]
      have l := gp_lt (gi_lt a) m
      have : gm (gp (gi a) (m + 1)) a = gp (gi a) m := by
        simp only [gp]
        rw [gm_assoc l (gi_lt a) ha, gm_comm (gi_lt a) ha, gm_inv a ha ha0, gm_one _ l]
      rw [← this]; simp [fmul]
    · obtain ⟨m, hm⟩ : ∃ m : Nat, n = (m : Int) := ⟨n.toNat, by omega⟩
      subst hm
      have e1 : fpow a (m : Int) = (gp a m : Nat) := by
        simp only [fpow]; rw [if_neg (by omega)]; simp
      have e2 : fpow a ((m : Int) + 1) = (gp a (m + 1) : Nat) := by
        rw [show (m : Int) + 1 = ((m + 1 : Nat) : Int) by omega]
        simp only [fpow]; rw [if_neg (by omega)]; simp
      rw [e1, e2]; simp [fmul, gp]
  have i0 : In64 0 := ⟨by decide, by decide⟩
  have i1 : In64 1 := ⟨by decide, by decide⟩
  have im : In64 (-1) := ⟨by decide, by decide⟩
  have in1 : n < 9223372036854775807 → In64 (add .i64 n 1) := fun h => by
    rw [add_i64 (by omega) (by omega)]; exact ⟨by omega, by omega⟩
  rw [f0, f1, fm]
  have ff : ∀ x : Int, ine x x = false := fun x => by rw [ine_false]
  refine ⟨⟨hB, i0⟩, fun _ => ⟨⟨hB, i1⟩, fun _ => ⟨⟨hB, im⟩, hB, fun q => ?_, fun _ => ⟨fun q1 => ⟨fun q2 => ⟨fun q3 => ?_, fun _ => loop⟩, fun q2 => ?_⟩, fun _ => loop⟩⟩, fun q => ?_⟩, fun q => ?_⟩
  · rw [ff] at q; cases q
  · rw [ilt_true] at q1; rw [ige_true] at q3
    refine ⟨⟨hB, hn⟩, ⟨hf _, hB⟩, ⟨hB, in1 q1⟩, fun q => ?_, fun _ => loop⟩
    rw [nx q1 (Or.inr q3), ff] at q; cases q
  · rw [ilt_true] at q1; rw [ine_true] at q2
    refine ⟨⟨hB, hn⟩, ⟨hf _, hB⟩, ⟨hB, in1 q1⟩, fun q => ?_, fun _ => loop⟩
    rw [nx q1 (Or.inl (by omega)), ff] at q; cases q
  · rw [ff] at q; cases q
  · rw [ff] at q; cases q
end Go.Proofs.Ytccjkjpdgpeogaa.G
