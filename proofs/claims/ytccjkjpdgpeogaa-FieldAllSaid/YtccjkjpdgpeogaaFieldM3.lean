/- Columns: mixing is additive and is taken back. -/
import Derived.Test.YtccjkjpdgpeogaaFieldB2
import Derived.Test.YtccjkjpdgpeogaaFieldM2
namespace Go.Fld
set_option linter.unusedSimpArgs false
set_option linter.unusedVariables false

def L4 (a b c d : Nat) : Prop := a < 256 ∧ b < 256 ∧ c < 256 ∧ d < 256

/-- one place of the mixed column -/
def m4 (f : List Nat) (r a b c d : Nat) : Nat := gm (f.getD ((4 - r) % 4) 0) a ^^^ gm (f.getD ((5 - r) % 4) 0) b ^^^ gm (f.getD ((6 - r) % 4) 0) c ^^^ gm (f.getD ((7 - r) % 4) 0) d

theorem mix1_eq (a b c d : Nat) (f : List Nat) (r : Nat) : mix1 [a, b, c, d] f r = m4 f r a b c d := by
  simp only [mix1, ml, m4]
  simp only [List.getD_cons_zero, List.getD_cons_succ, Nat.zero_add, Nat.reduceAdd, Nat.zero_xor]

theorem mixN_eq (a b c d : Nat) (f : List Nat) : mixN [a, b, c, d] f = [m4 f 0 a b c d, m4 f 1 a b c d, m4 f 2 a b c d, m4 f 3 a b c d] := by
  simp only [mixN, mix1_eq]

theorem xor8 (a b c d a' b' c' d' : Nat) : (a ^^^ a') ^^^ (b ^^^ b') ^^^ (c ^^^ c') ^^^ (d ^^^ d') = (a ^^^ b ^^^ c ^^^ d) ^^^ (a' ^^^ b' ^^^ c' ^^^ d') := by
  rw [xor4 a a' b b', xor4 (a ^^^ b) (a' ^^^ b') c c', xor4 (a ^^^ b ^^^ c) (a' ^^^ b' ^^^ c') d d']

theorem m4_add (f : List Nat) (r a b c d a' b' c' d' : Nat) : m4 f r (a ^^^ a') (b ^^^ b') (c ^^^ c') (d ^^^ d') = m4 f r a b c d ^^^ m4 f r a' b' c' d' := by
  simp only [m4, gm_lin2]
  exact xor8 _ _ _ _ _ _ _ _

/-- mixed by f, then by g -/
def m44 (f g : List Nat) (r a b c d : Nat) : Nat := m4 g r (m4 f 0 a b c d) (m4 f 1 a b c d) (m4 f 2 a b c d) (m4 f 3 a b c d)

theorem m44_add (f g : List Nat) (r a b c d a' b' c' d' : Nat) : m44 f g r (a ^^^ a') (b ^^^ b') (c ^^^ c') (d ^^^ d') = m44 f g r a b c d ^^^ m44 f g r a' b' c' d' := by
  simp only [m44, m4_add]

theorem m44_split (f g : List Nat) (r a b c d : Nat) : m44 f g r a b c d = ((m44 f g r a 0 0 0 ^^^ m44 f g r 0 b 0 0) ^^^ m44 f g r 0 0 c 0) ^^^ m44 f g r 0 0 0 d := by
  rw [← m44_add, ← m44_add, ← m44_add]
  simp

theorem back_bits : ∀ i, i < 8 → ∀ r, r < 4 →
    (m44 [2, 3, 1, 1] [14, 11, 13, 9] r (2 ^ i) 0 0 0 = if r = 0 then 2 ^ i else 0) ∧ (m44 [2, 3, 1, 1] [14, 11, 13, 9] r 0 (2 ^ i) 0 0 = if r = 1 then 2 ^ i else 0) ∧
    (m44 [2, 3, 1, 1] [14, 11, 13, 9] r 0 0 (2 ^ i) 0 = if r = 2 then 2 ^ i else 0) ∧ (m44 [2, 3, 1, 1] [14, 11, 13, 9] r 0 0 0 (2 ^ i) = if r = 3 then 2 ^ i else 0) := by decide +kernel
theorem back_bits' : ∀ i, i < 8 → ∀ r, r < 4 →
    (m44 [14, 11, 13, 9] [2, 3, 1, 1] r (2 ^ i) 0 0 0 = if r = 0 then 2 ^ i else 0) ∧ (m44 [14, 11, 13, 9] [2, 3, 1, 1] r 0 (2 ^ i) 0 0 = if r = 1 then 2 ^ i else 0) ∧
    (m44 [14, 11, 13, 9] [2, 3, 1, 1] r 0 0 (2 ^ i) 0 = if r = 2 then 2 ^ i else 0) ∧ (m44 [14, 11, 13, 9] [2, 3, 1, 1] r 0 0 0 (2 ^ i) = if r = 3 then 2 ^ i else 0) := by decide +kernel

theorem back {f g : List Nat} (h : ∀ i, i < 8 → ∀ r, r < 4 → (m44 f g r (2 ^ i) 0 0 0 = if r = 0 then 2 ^ i else 0) ∧ (m44 f g r 0 (2 ^ i) 0 0 = if r = 1 then 2 ^ i else 0) ∧ (m44 f g r 0 0 (2 ^ i) 0 = if r = 2 then 2 ^ i else 0) ∧ (m44 f g r 0 0 0 (2 ^ i) = if r = 3 then 2 ^ i else 0))
    {a b c d : Nat} (hl : L4 a b c d) : mixN (mixN [a, b, c, d] f) g = [a, b, c, d] := by
  obtain ⟨ha, hb, hc, hd⟩ := hl
  rw [mixN_eq, mixN_eq]
  have e : ∀ r, r < 4 → m44 f g r a b c d = (((if r = 0 then a else 0) ^^^ (if r = 1 then b else 0)) ^^^ (if r = 2 then c else 0)) ^^^ (if r = 3 then d else 0) := by
    intro r hr
    rw [m44_split]
    have lin : ∀ (p : Prop) [Decidable p] (x y : Nat), (if p then x ^^^ y else 0) = (if p then x else 0) ^^^ (if p then y else 0) := fun p _ x y => by by_cases hp : p <;> simp [hp]
    rw [lin_ext (f := fun x => m44 f g r x 0 0 0) (g := fun x => if r = 0 then x else 0) (fun x y _ _ => by have := m44_add f g r x 0 0 0 y 0 0 0; simpa using this) (fun x y _ _ => lin _ x y) (fun i hi => (h i hi r hr).1) a ha,
      lin_ext (f := fun x => m44 f g r 0 x 0 0) (g := fun x => if r = 1 then x else 0) (fun x y _ _ => by have := m44_add f g r 0 x 0 0 0 y 0 0; simpa using this) (fun x y _ _ => lin _ x y) (fun i hi => (h i hi r hr).2.1) b hb,
      lin_ext (f := fun x => m44 f g r 0 0 x 0) (g := fun x => if r = 2 then x else 0) (fun x y _ _ => by have := m44_add f g r 0 0 x 0 0 0 y 0; simpa using this) (fun x y _ _ => lin _ x y) (fun i hi => (h i hi r hr).2.2.1) c hc,
      lin_ext (f := fun x => m44 f g r 0 0 0 x) (g := fun x => if r = 3 then x else 0) (fun x y _ _ => by have := m44_add f g r 0 0 0 x 0 0 0 y; simpa using this) (fun x y _ _ => lin _ x y) (fun i hi => (h i hi r hr).2.2.2) d hd]
  have e0 := e 0 (by decide); have e1 := e 1 (by decide); have e2 := e 2 (by decide); have e3 := e 3 (by decide)
  simp only [m44] at e0 e1 e2 e3
  rw [e0, e1, e2, e3]
  simp

theorem gu_gs : ∀ a, a < 256 → gu (gs a) = a := by decide +kernel
theorem gs_gu : ∀ a, a < 256 → gs (gu a) = a := by decide +kernel
theorem gs_ne : ∀ a, a < 256 → gs a ≠ a ∧ gs a ≠ 255 ^^^ a := by decide +kernel
end Go.Fld
