/- The document's product. -/
import Derived.Test.YtccjkjpdgpeogaaFieldG3
import Derived.Test.YtccjkjpdgpeogaaFieldP4
import Derived.Test.YtccjkjpdgpeogaaFieldM2
import Derived.Test.YtccjkjpdgpeogaaBitsM
namespace Go.Fld
set_option linter.unusedVariables false
set_option linter.unusedSimpArgs false
/-- the polynomials' product, from bit 8 - d on -/
def c0 (a b : Nat) : Nat → Nat → Nat
  | 0, p => p
  | d + 1, p => c0 a b d (if b / 2 ^ (7 - d) % 2 = 1 then p ^^^ (a * 2 ^ (7 - d)) else p)
/-- what is left of it, from bit 7 + d down -/
def c1 : Nat → Nat → Nat
  | 0, p => p
  | d + 1, p => c1 d (if p / 2 ^ (8 + d) % 2 = 1 then p ^^^ (283 * 2 ^ d) else p)
def rm (a b : Nat) : Nat := c1 7 (c0 a b 8 0)

theorem xs (a b n : Nat) : (a ^^^ b) / 2 ^ n % 2 = (a / 2 ^ n % 2 + b / 2 ^ n % 2) % 2 := by
  rw [← Nat.shiftRight_eq_div_pow, ← Nat.shiftRight_eq_div_pow, ← Nat.shiftRight_eq_div_pow, Nat.shiftRight_xor_distrib, xor_two]

theorem c1_lin : ∀ (d p q : Nat), c1 d (p ^^^ q) = c1 d p ^^^ c1 d q
  | 0, _, _ => rfl
  | d + 1, p, q => by
    simp only [c1]
    rw [xs, ← c1_lin d]
    congr 1
    generalize 283 * 2 ^ d = m
    rcases Nat.mod_two_eq_zero_or_one (p / 2 ^ (8 + d)) with hp | hp <;> rcases Nat.mod_two_eq_zero_or_one (q / 2 ^ (8 + d)) with hq | hq <;> rw [hp, hq]
    · rfl
    · exact Nat.xor_assoc p q m
    · have := xor4 p q m 0
      simpa using this
    · have := xor4 p m q m
      rw [Nat.xor_self, Nat.xor_zero] at this
      exact this.symm

theorem c0_lin (a a' b : Nat) : ∀ (d p q : Nat), c0 (a ^^^ a') b d (p ^^^ q) = c0 a b d p ^^^ c0 a' b d q
  | 0, _, _ => rfl
  | d + 1, p, q => by
    simp only [c0]
    rw [← c0_lin a a' b d]
    congr 1
    have e : (a ^^^ a') * 2 ^ (7 - d) = (a * 2 ^ (7 - d)) ^^^ (a' * 2 ^ (7 - d)) := by
      rw [← Nat.shiftLeft_eq, ← Nat.shiftLeft_eq, ← Nat.shiftLeft_eq, Nat.shiftLeft_xor_distrib]
    split
    · rw [e, xor4]
    · rfl

theorem rm_lin (a a' b : Nat) : rm (a ^^^ a') b = rm a b ^^^ rm a' b := by
  unfold rm
  rw [← c1_lin, ← c0_lin]
  simp
theorem rm_bits : ∀ i, i < 8 → ∀ b, b < 256 → rm (2 ^ i) b = gm (2 ^ i) b := by decide +kernel
theorem rm_eq {a b : Nat} (ha : a < 256) (hb : b < 256) : rm a b = gm a b :=
  lin_ext (f := fun a => rm a b) (g := fun a => gm a b) (fun a a' _ _ => rm_lin a a' b) (fun a a' h h' => gm_lin1 b h h') (fun i hi => rm_bits i hi b hb) a ha

theorem c0_lt {a b : Nat} (ha : a < 256) : ∀ (d p : Nat), d ≤ 8 → p < 32768 → c0 a b d p < 32768
  | 0, _, _, h => h
  | d + 1, p, hd, h => by
    simp only [c0]
    refine c0_lt ha d _ (by omega) ?_
    have : a * 2 ^ (7 - d) < 32768 := by
      have h7 : 2 ^ (7 - d) ≤ 2 ^ 7 := Nat.pow_le_pow_right (by omega) (by omega)
      calc a * 2 ^ (7 - d) ≤ 255 * 2 ^ 7 := Nat.mul_le_mul (by omega) h7
        _ < 32768 := by decide
    split
    · exact Nat.xor_lt_two_pow (n := 15) h this
    · exact h
end Go.Fld
namespace Go.Proofs.Ytccjkjpdgpeogaa.G
open Go Go.Sx Go.Fld
set_option linter.unusedVariables false

theorem rmul_l1 (R : AV → Mem → Prop) : ∀ (d p : Nat), d ≤ 7 → p < 32768 → R (.one (.int .u8 ((c1 d p % 256 : Nat) : Int))) [] → rMul.l1 R (d + 1) (p : Int) ((7 + d : Nat) : Int)
  | 0, p, _, hp, h => by
    rw [rMul.l1_succ]
    refine ⟨fun q => ?_, fun _ => ?_⟩
    · rw [ige_true] at q; omega
    · rw [conv_u8]; exact h
  | d + 1, p, hd, hp, h => by
    rw [rMul.l1_succ]
    have e0 : shr .i64 (p : Int) ((7 + (d + 1) : Nat) : Int) = ((p / 2 ^ (8 + d) : Nat) : Int) := by
      rw [shr_i64 (by omega), show 7 + (d + 1) = 8 + d by omega]
    have e1 : band .i64 (shr .i64 (p : Int) ((7 + (d + 1) : Nat) : Int)) 1 = ((p / 2 ^ (8 + d) % 2 : Nat) : Int) := by
      rw [e0, band1_i64 (Nat.lt_of_le_of_lt (Nat.div_le_self _ _) (by omega))]
    have e2 : sub .i64 ((7 + (d + 1) : Nat) : Int) 8 = (d : Int) := by rw [sub_i64 (by omega) (by omega)]; omega
    have e3 : sub .i64 ((7 + (d + 1) : Nat) : Int) 1 = ((7 + d : Nat) : Int) := by rw [sub_i64 (by omega) (by omega)]; omega
    have hm : 283 * 2 ^ d < 32768 * 4 := by
      have h7 : 2 ^ d ≤ 2 ^ 6 := Nat.pow_le_pow_right (by omega) (by omega)
      calc 283 * 2 ^ d ≤ 283 * 2 ^ 6 := Nat.mul_le_mul (by omega) h7
        _ < 32768 * 4 := by decide
    have hm' : 283 * 2 ^ d < 32768 := by
      have h7 : 2 ^ d ≤ 2 ^ 6 := Nat.pow_le_pow_right (by omega) (by omega)
      calc 283 * 2 ^ d ≤ 283 * 2 ^ 6 := Nat.mul_le_mul (by omega) h7
        _ < 32768 := by decide
    have e4 : shl .i64 283 (d : Int) = ((283 * 2 ^ d : Nat) : Int) := shl_i64 (a := 283) (by omega) (by omega)
    rw [e1, e2, e3, e4, bxor_i64 (by omega) (by omega)]
    simp only [c1] at h
    refine ⟨fun _ => ⟨⟨by omega⟩, fun q => ⟨⟨by omega⟩, ?_⟩, fun q => ?_⟩, fun q => ?_⟩
    · rw [ieq_true] at q
      rw [if_pos (by omega)] at h
      exact rmul_l1 R d _ (by omega) (Nat.xor_lt_two_pow (n := 15) hp hm') h
    · rw [ieq_false] at q
      rw [if_neg (by omega)] at h
      exact rmul_l1 R d _ (by omega) hp h
    · rw [ige_false] at q; omega

theorem rmul_l0 (R : AV → Mem → Prop) (F : Nat) {a b : Nat} (ha : a < 256) (hb : b < 256) : ∀ (d p : Nat), d ≤ 8 → p < 32768 → rMul.l1 R F ((c0 a b d p : Nat) : Int) 14 → rMul.l0 R (a : Int) (b : Int) (F + d + 1) (p : Int) ((8 - d : Nat) : Int)
  | 0, p, _, hp, h => by
    rw [rMul.l0_succ]
    refine ⟨fun q => ?_, fun _ => ?_⟩
    · rw [ilt_true] at q; omega
    · exact h
  | d + 1, p, hd, hp, h => by
    rw [show F + (d + 1) + 1 = (F + d + 1) + 1 from rfl, rMul.l0_succ]
    have e1 : band .u8 (shr .u8 (b : Int) ((8 - (d + 1) : Nat) : Int)) 1 = ((b / 2 ^ (7 - d) % 2 : Nat) : Int) := by
      rw [shr_u8 (by omega), show 8 - (d + 1) = 7 - d by omega, show (1 : Int) = ((1 : Nat) : Int) from rfl, band_u8 (Nat.lt_of_le_of_lt (Nat.div_le_self _ _) hb) (by omega), Nat.and_one_is_mod]
    have e2 : add .i64 ((8 - (d + 1) : Nat) : Int) 1 = ((8 - d : Nat) : Int) := by rw [add_i64 (by omega) (by omega)]; omega
    have hm : a * 2 ^ (7 - d) < 32768 := by
      have h7 : 2 ^ (7 - d) ≤ 2 ^ 7 := Nat.pow_le_pow_right (by omega) (by omega)
      calc a * 2 ^ (7 - d) ≤ 255 * 2 ^ 7 := Nat.mul_le_mul (by omega) h7
        _ < 32768 := by decide
    have e3 : shl .i64 (conv .i64 (a : Int)) ((8 - (d + 1) : Nat) : Int) = ((a * 2 ^ (7 - d) : Nat) : Int) := by
      rw [conv_i64 (by omega) (by omega), show 8 - (d + 1) = 7 - d by omega, shl_i64 (by omega) (by omega)]
    rw [e1, e2, e3, bxor_i64 (by omega) (by omega)]
    simp only [c0] at h
    refine ⟨fun _ => ⟨⟨by omega⟩, fun q => ⟨⟨by omega⟩, ?_⟩, fun q => ?_⟩, fun q => ?_⟩
    · rw [ieq_true] at q
      rw [if_pos (by omega)] at h
      exact rmul_l0 R F ha hb d _ (by omega) (Nat.xor_lt_two_pow (n := 15) hp hm) h
    · rw [ieq_false] at q
      rw [if_neg (by omega)] at h
      exact rmul_l0 R F ha hb d _ (by omega) hp h
    · rw [ilt_false] at q; omega

theorem good_rmul : Sx.Good Try.prog 20 (bin8 fmul) := by
  refine Sx.Good.pure (D := []) mixed (good0 _) Try.func20 (by kernel_rfl) rfl fun d args σ K h => ?_
  simp only [bin8] at h
  split at h <;> try exact h.elim
  rename_i a b
  obtain ⟨⟨ha, hb⟩, hK⟩ := h
  obtain ⟨x, hx, rfl⟩ := ha.nat
  obtain ⟨y, hy, rfl⟩ := hb.nat
  refine ⟨by simp [plain_int], _, plain_int _ _, hK, (8 + 8 + 1) + 1, ?_⟩
  rw [rMul_vc]
  refine rmul_l0 _ 8 hx hy 8 0 (by omega) (by omega) (rmul_l1 _ 7 _ (by omega) (c0_lt hx 8 0 (by omega) (by omega)) ?_)
  have e : c1 7 (c0 x y 8 0) = gm x y := rm_eq hx hy
  have hl := gm_lt (b := y) hx
  show AV.one (.int .u8 _) = _
  rw [e, Nat.mod_eq_of_lt hl]
  simp [fmul]
end Go.Proofs.Ytccjkjpdgpeogaa.G
