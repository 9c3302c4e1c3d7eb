/- The document's inverse, powers and substitution: what they compute. -/
import Derived.Test.YtccjkjpdgpeogaaFieldR3
namespace Go.Proofs.Ytccjkjpdgpeogaa.G
open Go Go.Sx Go.Fld
set_option linter.unusedVariables false
set_option linter.unusedSimpArgs false

theorem conv8 {i : Nat} (h : i < 256) : conv .u8 (i : Int) = (i : Int) := by rw [conv_u8]; omega

theorem rinv_l0 (R : AV → Mem → Prop) {a : Nat} (ha : a < 256) (hR : R (.one (.int .u8 ((gi a : Nat) : Int))) []) : ∀ (d i : Nat), i + d = 256 → (∀ j, j < i → gm a j ≠ 1) → rInv.l0 R (a : Int) (d + 1) (i : Int)
  | 0, i, hi, hno => by
    rw [rInv.l0_succ]
    refine ⟨fun q => ?_, fun _ => ?_⟩
    · rw [ilt_true] at q; omega
    · have : gi a = 0 := by
        by_cases h0 : a = 0
        · rw [h0]; exact gi_zero
        · exact absurd (gm_inv a ha h0) (hno _ (by have := gi_lt a; omega))
      rw [this] at hR; exact hR
  | d + 1, i, hi, hno => by
    rw [rInv.l0_succ, conv8 (by omega), show fmul (a : Int) (i : Int) = ((gm a i : Nat) : Int) by simp [fmul]]
    refine ⟨fun _ => ⟨⟨Byte.of ha, Byte.of (by omega)⟩, fun q => ?_, fun q => ?_⟩, fun q => ?_⟩
    · rw [ieq_true] at q
      have := inv_one ha (i := i) (by omega) (by omega)
      rw [this]; exact hR
    · rw [ieq_false] at q
      rw [add_i64 (by omega) (by omega)]
      refine rinv_l0 R ha hR d (i + 1) (by omega) fun j hj => ?_
      by_cases e : j = i
      · subst e; omega
      · exact hno j (by omega)
    · rw [ilt_false] at q; omega

theorem good_rinv : Sx.Good Try.prog 21 (un8 finv) := by
  refine Sx.Good.pure (D := []) mixed gam7_good Try.func21 (by kernel_rfl) rfl fun d args σ K h => ?_
  simp only [un8] at h
  split at h <;> try exact h.elim
  obtain ⟨ha, hK⟩ := h
  obtain ⟨x, hx, rfl⟩ := ha.nat
  refine ⟨by simp [plain_int], _, plain_int _ _, hK, (256 + 1) + 1, ?_⟩
  rw [rInv_vc]
  exact rinv_l0 _ hx (by show AV.one (.int .u8 _) = _; simp [finv]) 256 0 rfl fun j hj => by omega

theorem fmul_gp (a i : Nat) : fmul ((gp a i : Nat) : Int) (a : Int) = ((gp a (i + 1) : Nat) : Int) := by simp [fmul, gp]

theorem rpow_l0 (R : AV → Mem → Prop) {a : Nat} (ha : a < 256) (n : Int) {K : Nat} (hK : add .i64 (rem n 255) 255 = (K : Int)) (hKb : K ≤ 255) (hR : R (.one (.int .u8 ((gp a K : Nat) : Int))) []) : ∀ (d i : Nat), i ≤ K → K ≤ i + d → rPow.l0 R (a : Int) n (d + 1) ((gp a i : Nat) : Int) (i : Int)
  | 0, i, hi, hd => by
    rw [rPow.l0_succ, hK]
    have : i = K := by omega
    subst this
    exact ⟨fun q => by rw [ilt_true] at q; omega, fun _ => hR⟩
  | d + 1, i, hi, hd => by
    rw [rPow.l0_succ, hK, fmul_gp]
    refine ⟨fun q => ⟨⟨Byte.of (gp_lt ha i), Byte.of ha⟩, ?_⟩, fun q => ?_⟩
    · rw [ilt_true] at q
      rw [add_i64 (by omega) (by omega)]
      exact rpow_l0 R ha n hK hKb hR d (i + 1) (by omega) (by omega)
    · rw [ilt_false] at q
      have : i = K := by omega
      subst this; exact hR

theorem rpow_l1 (R : AV → Mem → Prop) {a : Nat} (ha : a < 256) (n : Int) {K : Nat} (hK : rem n 255 = (K : Int)) (hKb : K ≤ 255) (hR : R (.one (.int .u8 ((gp a K : Nat) : Int))) []) : ∀ (d i : Nat), i ≤ K → K ≤ i + d → rPow.l1 R (a : Int) n (d + 1) ((gp a i : Nat) : Int) (i : Int)
  | 0, i, hi, hd => by
    rw [rPow.l1_succ, hK]
    have : i = K := by omega
    subst this
    exact ⟨fun q => by rw [ilt_true] at q; omega, fun _ => hR⟩
  | d + 1, i, hi, hd => by
    rw [rPow.l1_succ, hK, fmul_gp]
    refine ⟨fun q => ⟨⟨Byte.of (gp_lt ha i), Byte.of ha⟩, ?_⟩, fun q => ?_⟩
    · rw [ilt_true] at q
      rw [add_i64 (by omega) (by omega)]
      exact rpow_l1 R ha n hK hKb hR d (i + 1) (by omega) (by omega)
    · rw [ilt_false] at q
      have : i = K := by omega
      subst this; exact hR

theorem good_rpow : Sx.Good Try.prog 22 powS := by
  refine Sx.Good.pure (D := []) mixed gam7_good Try.func22 (by kernel_rfl) rfl fun d args σ K h => ?_
  simp only [powS] at h
  split at h <;> try exact h.elim
  rename_i a n
  obtain ⟨⟨ha, hn⟩, hK⟩ := h
  obtain ⟨x, hx, rfl⟩ := ha.nat
  have hlo := hn.lo
  have hhi := hn.hi
  refine ⟨by simp [plain_int], _, plain_int _ _, hK, (256 + 1) + 1, ?_⟩
  rw [rPow_vc]
  refine ⟨fun q => ?_, fun q => ⟨fun q0 => ?_, fun q0 => ⟨⟨by decide⟩, fun q1 => ?_, fun q1 => ?_⟩⟩⟩
  · rw [ieq_true] at q; subst q; simp [fpow, gp]
  · rw [ieq_false] at q; rw [ieq_true] at q0
    have : x = 0 := by omega
    subst this
    simp only [fpow, Int.toNat_natCast, gi_zero]
    split
    · rw [gp_zero _ (by omega)]; rfl
    · rw [gp_zero _ (by omega)]; rfl
  · rw [ieq_false] at q q0; rw [ilt_true] at q1
    have hneg : n < 0 := by
      by_cases h : 0 ≤ n
      · have : rem n 255 = n % 255 := Int.tmod_eq_emod_of_nonneg h
        omega
      · omega
    obtain ⟨m, hm⟩ := Int.eq_ofNat_of_zero_le (show 0 ≤ -n by omega)
    have er : rem n 255 = -((m % 255 : Nat) : Int) := by
      show Int.tmod n 255 = _
      rw [show n = -(m : Int) by omega, Int.neg_tmod, Int.tmod_eq_emod_of_nonneg (by omega)]
      omega
    have e2 : add .i64 (rem n 255) 255 = ((255 - m % 255 : Nat) : Int) := by
      rw [er, add_i64 (by omega) (by omega)]; omega
    have x0 : x ≠ 0 := by omega
    refine rpow_l0 _ hx n e2 (by omega) ?_ 256 0 (by omega) (by omega)
    simp only [fpow, Int.toNat_natCast]
    rw [if_pos hneg, show (-n).toNat = m by omega, gp_neg hx x0 (m := m) (q := m / 255 + 1) (by omega)]
  · rw [ieq_false] at q q0; rw [ilt_false] at q1
    have x0 : x ≠ 0 := by omega
    by_cases hneg : n < 0
    · obtain ⟨m, hm⟩ := Int.eq_ofNat_of_zero_le (show 0 ≤ -n by omega)
      have er : rem n 255 = -((m % 255 : Nat) : Int) := by
        show Int.tmod n 255 = _
        rw [show n = -(m : Int) by omega, Int.neg_tmod, Int.tmod_eq_emod_of_nonneg (by omega)]
        omega
      have hz : m % 255 = 0 := by omega
      have e2 : rem n 255 = ((0 : Nat) : Int) := by rw [er, hz]; rfl
      refine rpow_l1 _ hx n e2 (by omega) ?_ 256 0 (by omega) (by omega)
      simp only [fpow, Int.toNat_natCast]
      rw [if_pos hneg, show (-n).toNat = m by omega, gp_neg hx x0 (k := 0) (m := m) (q := m / 255) (by omega)]
    · obtain ⟨m, rfl⟩ := Int.eq_ofNat_of_zero_le (show 0 ≤ n by omega)
      have e2 : rem (m : Int) 255 = ((m % 255 : Nat) : Int) := by
        show Int.tmod (m : Int) 255 = _
        rw [Int.tmod_eq_emod_of_nonneg (by omega)]; omega
      refine rpow_l1 _ hx _ e2 (by omega) ?_ 256 0 (by omega) (by omega)
      simp only [fpow, Int.toNat_natCast]
      rw [if_neg hneg, gp_mod hx x0]

theorem gam8_good : GoodG Try.prog gam8 := by
  refine (gamCol_good.ext good_rinv ?_).ext good_rpow ?_
  · exact ⟨_, Try.func21, by decide, by kernel_rfl⟩
  · exact ⟨_, Try.func22, by decide, by kernel_rfl⟩

theorem rsub_l1 (R : AV → Mem → Prop) (F : Nat) {a : Nat} (ha : a < 256) {s i : Nat} (hi : i < 8) : ∀ (d x : Nat), d ≤ 5 → x < 2 → rSub.l0 R (a : Int) F (bor .i64 (s : Int) (shl .i64 ((t1 (gi a) i d x : Nat) : Int) (i : Int))) (add .i64 (i : Int) 1) → rSub.l1 R (a : Int) (s : Int) (i : Int) (F + d + 1) (x : Int) ((9 - d : Nat) : Int)
  | 0, x, _, hx, h => by
    rw [rSub.l1_succ]
    exact ⟨fun q => by rw [ile_true] at q; omega, fun _ => ⟨⟨by omega⟩, h⟩⟩
  | d + 1, x, hd, hx, h => by
    rw [show F + (d + 1) + 1 = (F + d + 1) + 1 from rfl, rSub.l1_succ]
    have hg := gi_lt a
    have e1 : rem (add .i64 (i : Int) ((9 - (d + 1) : Nat) : Int)) 8 = (((i + (8 - d)) % 8 : Nat) : Int) := by
      rw [add_i64 (by omega) (by omega)]
      show Int.tmod _ _ = _
      rw [Int.tmod_eq_emod_of_nonneg (by omega)]; omega
    have e2 : conv .i64 (finv (a : Int)) = ((gi a : Nat) : Int) := by
      rw [show finv (a : Int) = ((gi a : Nat) : Int) by simp [finv], conv_i64 (by omega) (by omega)]
    have e3 : band .i64 (shr .i64 ((gi a : Nat) : Int) (((i + (8 - d)) % 8 : Nat) : Int)) 1 = ((gi a / 2 ^ ((i + (8 - d)) % 8) % 2 : Nat) : Int) := by
      rw [shr_i64 (by omega), band1_i64 (Nat.lt_of_le_of_lt (Nat.div_le_self _ _) (by omega))]
    have e4 : add .i64 ((9 - (d + 1) : Nat) : Int) 1 = ((9 - d : Nat) : Int) := by rw [add_i64 (by omega) (by omega)]; omega
    rw [e1, e2, e3, e4, bxor_i64 (by omega) (by omega)]
    simp only [t1] at h
    refine ⟨fun _ => ⟨⟨by decide⟩, ⟨by omega⟩, rsub_l1 R F ha hi d _ (by omega) (Nat.xor_lt_two_pow (n := 1) hx (Nat.mod_lt _ (by decide))) h⟩, fun q => ?_⟩
    rw [ile_false] at q; omega

theorem rsub_l0 (R : AV → Mem → Prop) {a : Nat} (ha : a < 256) : ∀ (d s : Nat), d ≤ 8 → s < 256 → R (.one (.int .u8 ((t0 (gi a) d s : Nat) : Int))) [] → rSub.l0 R (a : Int) (7 * d + 1) (s : Int) ((8 - d : Nat) : Int)
  | 0, s, _, hs, h => by
    rw [rSub.l0_succ]
    refine ⟨fun q => ?_, fun _ => ?_⟩
    · rw [ilt_true] at q; omega
    · rw [conv8 hs]; exact h
  | d + 1, s, hd, hs, h => by
    rw [show 7 * (d + 1) + 1 = (7 * d + 1 + 5 + 1) + 1 by omega, rSub.l0_succ]
    have e1 : band .i64 (shr .i64 99 ((8 - (d + 1) : Nat) : Int)) 1 = ((99 / 2 ^ (7 - d) % 2 : Nat) : Int) := by
      rw [show (99 : Int) = ((99 : Nat) : Int) from rfl, shr_i64 (by omega), band1_i64 (Nat.lt_of_le_of_lt (Nat.div_le_self _ _) (by omega)), show 8 - (d + 1) = 7 - d by omega]
    rw [e1]
    simp only [t0] at h
    refine ⟨fun _ => ⟨⟨by omega⟩, ?_⟩, fun q => by rw [ilt_false] at q; omega⟩
    have ht := t1_lt (gi a) (7 - d) 5 (99 / 2 ^ (7 - d) % 2) (Nat.mod_lt _ (by decide))
    have hp : 2 ^ (7 - d) ≤ 2 ^ 7 := Nat.pow_le_pow_right (by omega) (by omega)
    have hm : t1 (gi a) (7 - d) 5 (99 / 2 ^ (7 - d) % 2) * 2 ^ (7 - d) < 256 := by
      calc _ ≤ 1 * 2 ^ 7 := Nat.mul_le_mul (by omega) hp
        _ < 256 := by decide
    have e0 : 8 - (d + 1) = 7 - d := by omega
    rw [e0]
    refine rsub_l1 R (7 * d + 1) ha (i := 7 - d) (by omega) 5 _ (by omega) (Nat.mod_lt _ (by decide)) ?_
    rw [shl_i64 (by omega) (by omega), bor_i64 (by omega) (by omega), add_i64 (by omega) (by omega), show ((7 - d : Nat) : Int) + 1 = ((8 - d : Nat) : Int) by omega]
    exact rsub_l0 R ha d _ (by omega) (Nat.or_lt_two_pow (n := 8) hs hm) h

theorem good_rsub : Sx.Good Try.prog 23 (un8 fsub) := by
  refine Sx.Good.pure (D := []) mixed gam8_good Try.func23 (by kernel_rfl) rfl fun d args σ K h => ?_
  simp only [un8] at h
  split at h <;> try exact h.elim
  obtain ⟨ha, hK⟩ := h
  obtain ⟨x, hx, rfl⟩ := ha.nat
  refine ⟨by simp [plain_int], _, plain_int _ _, hK, (7 * 8 + 1) + 1, ?_⟩
  rw [rSub_vc]
  exact ⟨Byte.of hx, rsub_l0 _ hx 8 0 (by omega) (by omega) (by show AV.one (.int .u8 _) = _; rw [t0_gs]; simp [fsub])⟩

theorem gam9_good : GoodG Try.prog gam9 := gam8_good.ext good_rsub ⟨_, Try.func23, by decide, by kernel_rfl⟩

theorem runsub_l0 (R : AV → Mem → Prop) {a : Nat} (ha : a < 256) (hR : R (.one (.int .u8 ((gu a : Nat) : Int))) []) : ∀ (d i : Nat), i + d = 256 → (∀ j, j < i → gs j ≠ a) → rUnsub.l0 R (a : Int) (d + 1) (i : Int)
  | 0, i, hi, hno => by
    exact absurd (gs_gu a ha) (hno _ (by have := gu_lt a; omega))
  | d + 1, i, hi, hno => by
    rw [rUnsub.l0_succ, conv8 (by omega), show fsub (i : Int) = ((gs i : Nat) : Int) by simp [fsub]]
    refine ⟨fun _ => ⟨Byte.of (by omega), fun q => ?_, fun q => ?_⟩, fun q => ?_⟩
    · rw [ieq_true] at q
      have e : gs i = a := by omega
      have := gu_gs i (by omega)
      rw [e] at this
      rw [← this]; exact hR
    · rw [ieq_false] at q
      rw [add_i64 (by omega) (by omega)]
      refine runsub_l0 R ha hR d (i + 1) (by omega) fun j hj => ?_
      by_cases e : j = i
      · subst e; omega
      · exact hno j (by omega)
    · rw [ilt_false] at q; omega

theorem good_runsub : Sx.Good Try.prog 24 (un8 funsub) := by
  refine Sx.Good.pure (D := []) mixed gam9_good Try.func24 (by kernel_rfl) rfl fun d args σ K h => ?_
  simp only [un8] at h
  split at h <;> try exact h.elim
  obtain ⟨ha, hK⟩ := h
  obtain ⟨x, hx, rfl⟩ := ha.nat
  refine ⟨by simp [plain_int], _, plain_int _ _, hK, (256 + 1) + 1, ?_⟩
  rw [rUnsub_vc]
  exact runsub_l0 _ hx (by show AV.one (.int .u8 _) = _; simp [funsub]) 256 0 rfl fun j hj => by omega

theorem gam10_good : GoodG Try.prog gam10 := gam9_good.ext good_runsub ⟨_, Try.func24, by decide, by kernel_rfl⟩
end Go.Proofs.Ytccjkjpdgpeogaa.G
