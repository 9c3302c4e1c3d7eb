/- The field's laws: plain mathematics. -/
import Derived.Test.YtccjkjpdgpeogaaFieldM
namespace Go.Fld

theorem x0 (a : Nat) : a ^^^ 0 = a := Nat.xor_zero a

theorem gl_acc : ∀ (d a b s t : Nat), gl d a b (s ^^^ t) = s ^^^ gl d a b t
  | 0, _, _, _, _ => rfl
  | d + 1, a, b, s, t => by
    simp only [gl]
    split
    · rw [Nat.xor_assoc, gl_acc]
    · rw [gl_acc]

theorem gl_zero (d a b s : Nat) : gl d a b s = s ^^^ gl d a b 0 := by
  have := gl_acc d a b s 0
  rwa [Nat.xor_zero] at this

theorem xt_lin : ∀ a, a < 256 → ∀ b, b < 256 → xt (a ^^^ b) = xt a ^^^ xt b := by decide +kernel

theorem xor4 (a b c d : Nat) : (a ^^^ b) ^^^ (c ^^^ d) = (a ^^^ c) ^^^ (b ^^^ d) := by
  rw [Nat.xor_assoc, Nat.xor_assoc, ← Nat.xor_assoc b c d, Nat.xor_comm b c, Nat.xor_assoc c b d]

theorem gl_lin1 : ∀ (d a a' b : Nat), a < 256 → a' < 256 → gl d (a ^^^ a') b 0 = gl d a b 0 ^^^ gl d a' b 0
  | 0, _, _, _, _, _ => by simp [gl]
  | d + 1, a, a', b, ha, ha' => by
    have ih := gl_lin1 d (xt a) (xt a') (b / 2) (xt_lt ha) (xt_lt ha')
    simp only [gl, xt_lin a ha a' ha']
    split
    · rw [gl_zero d _ _ (0 ^^^ (a ^^^ a')), gl_zero d _ _ (0 ^^^ a), gl_zero d _ _ (0 ^^^ a'), ih]
      simp only [Nat.zero_xor]
      exact xor4 a a' _ _
    · exact ih

theorem xor_half (b b' : Nat) : (b ^^^ b') / 2 = b / 2 ^^^ b' / 2 := by
  have := Nat.shiftRight_xor_distrib (a := b) (b := b') (i := 1)
  simpa [Nat.shiftRight_succ] using this

theorem xor_two (b b' : Nat) : (b ^^^ b') % 2 = (b % 2 + b' % 2) % 2 := by
  have h := Nat.testBit_xor b b' 0
  simp only [Nat.testBit_zero] at h
  rcases Nat.mod_two_eq_zero_or_one b with hb | hb <;> rcases Nat.mod_two_eq_zero_or_one b' with hb' | hb' <;> rw [hb, hb'] at h ⊢ <;> rcases Nat.mod_two_eq_zero_or_one (b ^^^ b') with hx | hx <;> rw [hx] at h ⊢ <;> simp at h ⊢

theorem gl_lin2 : ∀ (d a b b' : Nat), gl d a (b ^^^ b') 0 = gl d a b 0 ^^^ gl d a b' 0
  | 0, _, _, _ => by simp [gl]
  | d + 1, a, b, b' => by
    have ih := gl_lin2 d (xt a) (b / 2) (b' / 2)
    have h2 := xor_two b b'
    simp only [gl, xor_half]
    have z := fun s c => gl_zero d (xt a) c s
    rcases Nat.mod_two_eq_zero_or_one b with hb | hb <;> rcases Nat.mod_two_eq_zero_or_one b' with hb' | hb' <;> rw [hb, hb'] at h2 <;> simp only [h2, hb, hb', Nat.reduceAdd, Nat.reduceMod, Nat.zero_ne_one, if_true, if_false, Nat.zero_xor]
    · exact ih
    · rw [z a, z a, ih, ← Nat.xor_assoc, ← Nat.xor_assoc, Nat.xor_comm a]
    · rw [z a, z a, ih, ← Nat.xor_assoc]
    · rw [z a, z a, ih, xor4, Nat.xor_self, Nat.zero_xor]

theorem gm_lin1 {a a' : Nat} (b : Nat) (ha : a < 256) (ha' : a' < 256) : gm (a ^^^ a') b = gm a b ^^^ gm a' b := gl_lin1 8 a a' b ha ha'
theorem gm_lin2 (a b b' : Nat) : gm a (b ^^^ b') = gm a b ^^^ gm a b' := gl_lin2 8 a b b'

theorem top_bit : ∀ a, a < 256 → ∀ k, k < 8 → 2 ^ k ≤ a → a < 2 ^ (k + 1) → (a - 2 ^ k) ^^^ 2 ^ k = a := by decide +kernel

/-- two maps that go by sums and agree on the bits agree -/
theorem lin_ext {f g : Nat → Nat} (hf : ∀ a b, a < 256 → b < 256 → f (a ^^^ b) = f a ^^^ f b) (hg : ∀ a b, a < 256 → b < 256 → g (a ^^^ b) = g a ^^^ g b) (h : ∀ i, i < 8 → f (2 ^ i) = g (2 ^ i)) :
    ∀ a, a < 256 → f a = g a := by
  have zero : ∀ {f : Nat → Nat}, (∀ a b, a < 256 → b < 256 → f (a ^^^ b) = f a ^^^ f b) → f 0 = 0 := by
    intro f hf
    have := hf 0 0 (by omega) (by omega)
    rwa [Nat.xor_self, Nat.xor_self] at this
  have key : ∀ k, k ≤ 8 → ∀ a, a < 2 ^ k → f a = g a := by
    intro k
    induction k with
    | zero => intro _ a ha; have : a = 0 := by omega
              subst this; rw [zero hf, zero hg]
    | succ k ih =>
      intro hk a ha
      by_cases hlt : a < 2 ^ k
      · exact ih (by omega) a hlt
      · have hp : 2 ^ (k + 1) = 2 * 2 ^ k := by rw [Nat.pow_succ]; omega
        have h256 : 2 ^ (k + 1) ≤ 2 ^ 8 := Nat.pow_le_pow_right (by omega) hk
        have e := top_bit a (by omega) k (by omega) (by omega) ha
        rw [← e, hf _ _ (by omega) (by omega), hg _ _ (by omega) (by omega), ih (by omega) (a - 2 ^ k) (by omega), h k (by omega)]
  exact fun a ha => key 8 (by omega) a ha

theorem gm_comm_bits : ∀ i, i < 8 → ∀ j, j < 8 → gm (2 ^ i) (2 ^ j) = gm (2 ^ j) (2 ^ i) := by decide +kernel
theorem bit_lt {i : Nat} (hi : i < 8) : 2 ^ i < 256 := by
  have : 2 ^ i < 2 ^ 8 := Nat.pow_lt_pow_right (by omega) hi
  omega

theorem gm_comm {a b : Nat} (ha : a < 256) (hb : b < 256) : gm a b = gm b a := by
  refine lin_ext (f := fun a => gm a b) (g := fun a => gm b a) (fun x y hx hy => gm_lin1 b hx hy) (fun x y _ _ => gm_lin2 b x y) (fun i hi => ?_) a ha
  exact lin_ext (f := fun b => gm (2 ^ i) b) (g := fun b => gm b (2 ^ i)) (fun x y _ _ => gm_lin2 _ x y) (fun x y hx hy => gm_lin1 _ hx hy) (fun j hj => gm_comm_bits i hi j hj) b hb

theorem gm_assoc_bits : ∀ i, i < 8 → ∀ j, j < 8 → ∀ k, k < 8 → gm (gm (2 ^ i) (2 ^ j)) (2 ^ k) = gm (2 ^ i) (gm (2 ^ j) (2 ^ k)) := by decide +kernel

theorem gm_assoc {a b c : Nat} (ha : a < 256) (hb : b < 256) (hc : c < 256) : gm (gm a b) c = gm a (gm b c) := by
  refine lin_ext (f := fun a => gm (gm a b) c) (g := fun a => gm a (gm b c)) (fun x y hx hy => ?_) (fun x y hx hy => gm_lin1 _ hx hy) (fun i hi => ?_) a ha
  · show gm (gm (x ^^^ y) b) c = _
    rw [gm_lin1 b hx hy, gm_lin1 c (gm_lt hx) (gm_lt hy)]
  · refine lin_ext (f := fun b => gm (gm (2 ^ i) b) c) (g := fun b => gm (2 ^ i) (gm b c)) (fun x y hx hy => ?_) (fun x y hx hy => ?_) (fun j hj => ?_) b hb
    · show gm (gm (2 ^ i) (x ^^^ y)) c = _
      rw [gm_lin2, gm_lin1 c (gm_lt (bit_lt hi)) (gm_lt (bit_lt hi))]
    · show gm (2 ^ i) (gm (x ^^^ y) c) = _
      rw [gm_lin1 c hx hy, gm_lin2]
    · refine lin_ext (f := fun c => gm (gm (2 ^ i) (2 ^ j)) c) (g := fun c => gm (2 ^ i) (gm (2 ^ j) c)) (fun x y _ _ => gm_lin2 _ x y) (fun x y _ _ => ?_) (fun k hk => gm_assoc_bits i hi j hj k hk) c hc
      show gm (2 ^ i) (gm (2 ^ j) (x ^^^ y)) = _
      rw [gm_lin2, gm_lin2]

theorem gm_one : ∀ a, a < 256 → gm a 1 = a := by decide +kernel
theorem gm_inv : ∀ a, a < 256 → a ≠ 0 → gm a (gi a) = 1 := by decide +kernel
theorem gi_zero : gi 0 = 0 := by decide +kernel
theorem gm_zero (a : Nat) : gm a 0 = 0 := by
  have := gm_lin2 a 0 0
  rwa [Nat.xor_self, Nat.xor_self] at this
theorem zero_gm (b : Nat) : gm 0 b = 0 := by
  have := gm_lin1 (a := 0) (a' := 0) b (by omega) (by omega)
  rwa [Nat.xor_self, Nat.xor_self] at this

theorem gm_eq_zero {a b : Nat} (ha : a < 256) (hb : b < 256) : gm a b = 0 ↔ a = 0 ∨ b = 0 := by
  constructor
  · intro h
    by_cases ha0 : a = 0
    · exact Or.inl ha0
    · right
      have h1 := gm_inv a ha ha0
      have h2 : gm (gi a) (gm a b) = 0 := by rw [h, gm_zero]
      rw [← gm_assoc (gi_lt a) ha hb, gm_comm (gi_lt a) ha, h1, gm_comm (by omega) hb, gm_one b hb] at h2
      exact h2
  · rintro (rfl | rfl)
    · exact zero_gm b
    · exact gm_zero a
end Go.Fld
