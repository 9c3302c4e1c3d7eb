/- Powers and columns do what the plain mathematics says. -/
import Derived.Test.YtccjkjpdgpeogaaFieldG2
import Derived.Test.YtccjkjpdgpeogaaFieldLaws
namespace Go.Proofs.Ytccjkjpdgpeogaa.G
open Go Go.Sx Go.Fld
set_option linter.unusedSimpArgs false
set_option linter.unusedVariables false

theorem gp_double {a : Nat} (ha : a < 256) : ∀ k, gp a (2 * k) = gp (gm a a) k
  | 0 => rfl
  | k + 1 => by
    have h := gp_double ha k
    have g := gp_lt (gm_lt (b := a) ha) k
    rw [show 2 * (k + 1) = (2 * k + 1) + 1 by omega]
    simp only [gp]
    rw [h, gm_assoc g ha ha]

theorem gp_step {a p m : Nat} (ha : a < 256) (hp : p < 256) : gm (if m % 2 = 1 then gm p a else p) (gp (gm a a) (m / 2)) = gm p (gp a m) := by
  have g := gp_lt (gm_lt (b := a) ha) (m / 2)
  have h := gp_double ha (m / 2)
  by_cases hm : m % 2 = 1
  · rw [if_pos hm]
    obtain ⟨k, hk⟩ : ∃ k, m = 2 * k + 1 := ⟨m / 2, by omega⟩
    have hk2 : m / 2 = k := by omega
    rw [hk2] at h g ⊢
    rw [hk]
    simp only [gp]
    rw [h, gm_comm g ha, ← gm_assoc hp ha g]
  · rw [if_neg hm]
    have hk : 2 * (m / 2) = m := by omega
    rw [hk] at h
    rw [h]

theorem band1_u64 (m : Nat) (h : m < 18446744073709551616) : band .u64 (m : Int) 1 = ((m % 2 : Nat) : Int) := by
  rw [show (1 : Int) = ((1 : Nat) : Int) from rfl, ← Nat.and_one_is_mod]
  exact u64_and_nat m 1 h (by decide)

theorem shr1_u64 (m : Nat) : shr .u64 (m : Int) 1 = ((m / 2 : Nat) : Int) := by
  unfold shr
  have : min (1 : Int).toNat IntKind.u64.bits = 1 := by decide
  rw [this, Int.fdiv_eq_ediv_of_nonneg _ (by decide)]
  simp

theorem lt64 {d m : Nat} (hm : m < 2 ^ d) (hd : d ≤ 64) : m < 18446744073709551616 :=
  Nat.lt_of_lt_of_le hm (Nat.pow_le_pow_right (n := 2) (by decide) hd)

theorem pow_l0 (R : AV → Mem → Prop) : ∀ (d a m p : Nat), m < 2 ^ d → d ≤ 64 → a < 256 → p < 256 → R (.one (.int .u8 (gm p (gp a m) : Nat))) [] → Pow.l0 R (d + 1) (a : Int) (m : Int) (p : Int) := by
  intro d
  induction d with
  | zero =>
    intro a m p hm _ ha hp h
    rw [Pow.l0_succ]
    have hm0 : m = 0 := by rw [Nat.pow_zero] at hm; omega
    subst hm0
    refine ⟨fun c => ?_, fun c => ?_⟩
    · rw [igt_true] at c; omega
    · simp only [gp] at h
      rw [gm_one p hp] at h
      exact h
  | succ d ih =>
    intro a m p hm hd ha hp h
    have hm64 := lt64 hm hd
    have hm2 : m / 2 < 2 ^ d := by rw [Nat.pow_succ] at hm; omega
    clear hm
    rw [Pow.l0_succ]
    refine ⟨fun c => ?_, fun c => ?_⟩
    · rw [band1_u64 m hm64, shr1_u64]
      have e1 : fmul (a : Int) (a : Int) = (gm a a : Nat) := by simp [fmul]
      have e2 : fmul (p : Int) (a : Int) = (gm p a : Nat) := by simp [fmul]
      have st := gp_step (m := m) ha hp
      rw [e1, e2]
      refine ⟨fun c => ⟨⟨.of hp, .of ha⟩, ⟨.of ha, .of ha⟩, ⟨by decide⟩, ih _ _ _ hm2 (by omega) (gm_lt ha) (gm_lt hp) ?_⟩, fun c => ⟨⟨.of ha, .of ha⟩, ⟨by decide⟩, ih _ _ _ hm2 (by omega) (gm_lt ha) hp ?_⟩⟩
      · rw [ieq_true] at c
        rw [if_pos (by omega)] at st
        rw [st]; exact h
      · rw [ieq_false] at c
        rw [if_neg (by omega)] at st
        rw [st]; exact h
    · rw [igt_false] at c
      have : m = 0 := by omega
      subst this
      simp only [gp] at h
      rw [gm_one p hp] at h
      exact h

theorem one_gm {a : Nat} (ha : a < 256) : gm 1 a = a := by rw [gm_comm (by decide) ha, gm_one a ha]

theorem good_pow : Sx.Good Try.prog 16 powS := by
  refine Sx.Good.pure (D := []) mixed gam4_good Try.func16 (by kernel_rfl) rfl fun d args σ K h => ?_
  simp only [powS] at h
  split at h <;> try exact h.elim
  rename_i a n
  obtain ⟨⟨ha, hn⟩, hK⟩ := h
  obtain ⟨x, hx, rfl⟩ := ha.nat
  have := hn.lo
  have := hn.hi
  refine ⟨by simp [plain_int], _, plain_int _ _, hK, 65 + 1, ?_⟩
  rw [Pow_vc]
  refine ⟨fun c => ⟨.of hx, ?_⟩, fun c => ?_⟩
  · rw [ilt_true] at c
    have e1 : sub .u64 0 (conv .u64 n) = ((-n).toNat : Int) := by
      unfold sub; rw [IntKind.wrap_u64, conv_u64]; omega
    rw [e1, show finv (x : Int) = (gi x : Nat) by simp [finv]]
    refine pow_l0 _ 64 _ _ 1 (by omega) (by decide) (gi_lt x) (by decide) ?_
    rw [one_gm (gp_lt (gi_lt x) _)]
    simp [fpow, c]
  · rw [ilt_false] at c
    have e1 : conv .u64 n = (n.toNat : Int) := by rw [conv_u64]; omega
    rw [e1]
    refine pow_l0 _ 64 _ _ 1 (by omega) (by decide) hx (by decide) ?_
    rw [one_gm (gp_lt hx _)]
    simp [fpow, show ¬ n < 0 by omega]
end Go.Proofs.Ytccjkjpdgpeogaa.G
