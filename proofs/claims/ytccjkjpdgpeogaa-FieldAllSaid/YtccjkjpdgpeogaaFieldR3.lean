/- The document's inverse, powers and substitution. -/
import Derived.Test.YtccjkjpdgpeogaaFieldR2
namespace Go.Fld
set_option linter.unusedVariables false
theorem one_gm' {a : Nat} (ha : a < 256) : gm 1 a = a := by rw [gm_comm (by decide) ha, gm_one a ha]
theorem inv_one {a i : Nat} (ha : a < 256) (hi : i < 256) (h : gm a i = 1) : i = gi a := by
  have h0 : a ≠ 0 := fun e => by subst e; rw [zero_gm] at h; cases h
  have hg := gi_lt a
  have e1 : gm (gi a) a = 1 := by rw [gm_comm hg ha, gm_inv a ha h0]
  calc i = gm 1 i := (one_gm' hi).symm
    _ = gm (gm (gi a) a) i := by rw [e1]
    _ = gm (gi a) (gm a i) := gm_assoc hg ha hi
    _ = gm (gi a) 1 := by rw [h]
    _ = gi a := gm_one _ hg

theorem gp_add {a : Nat} (ha : a < 256) (m : Nat) : ∀ n, gp a (m + n) = gm (gp a m) (gp a n)
  | 0 => by show gp a m = gm (gp a m) 1; rw [gm_one _ (gp_lt ha m)]
  | n + 1 => by
    show gm (gp a (m + n)) a = gm (gp a m) (gm (gp a n) a)
    rw [gp_add ha m n, gm_assoc (gp_lt ha m) (gp_lt ha n) ha]
theorem gp_inv {a : Nat} (ha : a < 256) (h0 : a ≠ 0) : ∀ n, gm (gp (gi a) n) (gp a n) = 1
  | 0 => gm_one 1 (by decide)
  | n + 1 => by
    have hg := gi_lt a
    have h1 := gp_lt ha n
    have h2 := gp_lt hg n
    show gm (gm (gp (gi a) n) (gi a)) (gm (gp a n) a) = 1
    rw [gm_assoc h2 hg (gm_lt h1), ← gm_assoc hg h1 ha, gm_comm hg h1, gm_assoc h1 hg ha, gm_comm hg ha, gm_inv a ha h0, gm_one _ h1]
    exact gp_inv ha h0 n
def fast (a : Nat) : Nat :=
  let b := gm a a; let c := gm b b; let d := gm c c; let e := gm d d; let f := gm e e; let g := gm f f; let h := gm g g
  gm (gm (gm (gm (gm (gm (gm a b) c) d) e) f) g) h
theorem gp_fast {a : Nat} (ha : a < 256) : gp a 255 = fast a := by
  have sq : ∀ k, gp a (2 * k) = gm (gp a k) (gp a k) := fun k => by rw [show 2 * k = k + k by omega, gp_add ha]
  have s1 : gp a 1 = a := by show gm 1 a = a; exact one_gm' ha
  have s2 : gp a 2 = gm a a := by rw [sq 1, s1]
  have s4 := sq 2
  have s8 := sq 4
  have s16 := sq 8
  have s32 := sq 16
  have s64 := sq 32
  have s128 := sq 64
  simp only [Nat.reduceMul] at s4 s8 s16 s32 s64 s128
  rw [show 255 = 1 + 2 + 4 + 8 + 16 + 32 + 64 + 128 from rfl, gp_add ha, gp_add ha, gp_add ha, gp_add ha, gp_add ha, gp_add ha, gp_add ha, s128, s64, s32, s16, s8, s4, s2, s1]
  rfl
theorem fast_one : ∀ a, a < 256 → a ≠ 0 → fast a = 1 := by decide +kernel
theorem gp_255 {a : Nat} (ha : a < 256) (h0 : a ≠ 0) : ∀ n, gp a (255 * n) = 1
  | 0 => rfl
  | n + 1 => by
    rw [show 255 * (n + 1) = 255 * n + 255 by omega, gp_add ha, gp_255 ha h0 n, gp_fast ha, fast_one a ha h0, gm_one 1 (by decide)]
theorem gp_mod {a : Nat} (ha : a < 256) (h0 : a ≠ 0) (n : Nat) : gp a (n % 255) = gp a n := by
  conv => rhs; rw [← Nat.div_add_mod n 255, gp_add ha, gp_255 ha h0]
  exact (one_gm' (gp_lt ha _)).symm
theorem gp_neg {a : Nat} (ha : a < 256) (h0 : a ≠ 0) {k m q : Nat} (h : k + m = 255 * q) : gp a k = gp (gi a) m := by
  have hg := gi_lt a
  have e1 : gm (gp a k) (gp a m) = 1 := by rw [← gp_add ha, h, gp_255 ha h0]
  have e2 := gp_inv ha h0 m
  have b1 := gp_lt ha k
  have b2 := gp_lt ha m
  have b3 := gp_lt hg m
  calc gp a k = gm (gp a k) 1 := (gm_one _ b1).symm
    _ = gm (gp a k) (gm (gp a m) (gp (gi a) m)) := by rw [gm_comm b2 b3, e2]
    _ = gm (gm (gp a k) (gp a m)) (gp (gi a) m) := (gm_assoc b1 b2 b3).symm
    _ = gp (gi a) m := by rw [e1, one_gm' b3]
theorem gp_zero : ∀ n, n ≠ 0 → gp 0 n = 0
  | 0, h => absurd rfl h
  | n + 1, _ => gm_zero _

/-- the affine map, bit by bit -/
def t1 (b i : Nat) : Nat → Nat → Nat
  | 0, x => x
  | d + 1, x => t1 b i d (x ^^^ (b / 2 ^ ((i + (8 - d)) % 8) % 2))
def t0 (b : Nat) : Nat → Nat → Nat
  | 0, s => s
  | d + 1, s => t0 b d (s ||| (t1 b (7 - d) 5 (99 / 2 ^ (7 - d) % 2) * 2 ^ (7 - d)))
theorem t1_lt (b i : Nat) : ∀ (d x : Nat), x < 2 → t1 b i d x < 2
  | 0, _, h => h
  | d + 1, x, h => t1_lt b i d _ (Nat.xor_lt_two_pow (n := 1) h (Nat.mod_lt _ (by decide)))
theorem t0_eq : ∀ b, b < 256 → t0 b 8 0 = b ^^^ turn b 1 ^^^ turn b 2 ^^^ turn b 3 ^^^ turn b 4 ^^^ 99 := by decide +kernel
theorem t0_gs (a : Nat) : t0 (gi a) 8 0 = gs a := t0_eq _ (gi_lt a)
end Go.Fld
