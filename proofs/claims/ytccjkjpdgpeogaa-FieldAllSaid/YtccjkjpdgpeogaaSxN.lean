/- Numbers: what the symbolic walk's words come to on plain numbers. -/
import Derived.Test.YtccjkjpdgpeogaaSx16
namespace Go.Sx
open Go
set_option linter.unusedSimpArgs false

theorem ilt_true {a b : Int} : ilt a b = true ↔ a < b := by simp [ilt]
theorem ilt_false {a b : Int} : ilt a b = false ↔ b ≤ a := by simp [ilt]
theorem ile_true {a b : Int} : ile a b = true ↔ a ≤ b := by simp [ile]
theorem ile_false {a b : Int} : ile a b = false ↔ b < a := by simp [ile]
theorem igt_true {a b : Int} : igt a b = true ↔ b < a := by simp [igt]
theorem igt_false {a b : Int} : igt a b = false ↔ a ≤ b := by simp [igt]
theorem ige_true {a b : Int} : ige a b = true ↔ b ≤ a := by simp [ige]
theorem ige_false {a b : Int} : ige a b = false ↔ a < b := by simp [ige]
theorem ieq_true {a b : Int} : ieq a b = true ↔ a = b := by simp [ieq]
theorem ieq_false {a b : Int} : ieq a b = false ↔ a ≠ b := by simp [ieq]
theorem ine_true {a b : Int} : ine a b = true ↔ a ≠ b := by simp [ine]
theorem ine_false {a b : Int} : ine a b = false ↔ a = b := by simp [ine]
theorem leq_true {a b : List Int} : leq a b = true ↔ a = b := by simp [leq]
theorem leq_false {a b : List Int} : leq a b = false ↔ a ≠ b := by simp [leq]
theorem bnot_true {a : Bool} : bnot a = true ↔ a = false := by simp [bnot]
theorem bnot_false {a : Bool} : bnot a = false ↔ a = true := by simp [bnot]

theorem add_i64 {a b : Int} (h1 : -9223372036854775808 ≤ a + b) (h2 : a + b < 9223372036854775808) : add .i64 a b = a + b := by
  unfold add; rw [IntKind.wrap_i64]; omega
theorem sub_i64 {a b : Int} (h1 : -9223372036854775808 ≤ a - b) (h2 : a - b < 9223372036854775808) : sub .i64 a b = a - b := by
  unfold sub; rw [IntKind.wrap_i64]; omega
theorem mul_i64 {a b : Int} (h1 : -9223372036854775808 ≤ a * b) (h2 : a * b < 9223372036854775808) : mul .i64 a b = a * b := by
  unfold mul; rw [IntKind.wrap_i64]; omega
theorem conv_i64 {a : Int} (h1 : -9223372036854775808 ≤ a) (h2 : a < 9223372036854775808) : conv .i64 a = a := by
  unfold conv; rw [IntKind.wrap_i64]; omega
theorem conv_u8 (a : Int) : conv .u8 a = a % 256 := by unfold conv; rw [IntKind.wrap_u8]
theorem conv_u32 (a : Int) : conv .u32 a = a % 4294967296 := by unfold conv; rw [IntKind.wrap_u32]
theorem conv_u64 (a : Int) : conv .u64 a = a % 18446744073709551616 := by unfold conv; rw [IntKind.wrap_u64]
theorem add_u32 (a b : Int) : add .u32 a b = (a + b) % 4294967296 := by unfold add; rw [IntKind.wrap_u32]
theorem add_u64 (a b : Int) : add .u64 a b = (a + b) % 18446744073709551616 := by unfold add; rw [IntKind.wrap_u64]
theorem add_u8 (a b : Int) : add .u8 a b = (a + b) % 256 := by unfold add; rw [IntKind.wrap_u8]

theorem bxor_u8 {a b : Nat} (ha : a < 256) (hb : b < 256) : bxor .u8 (a : Int) (b : Int) = ((a ^^^ b : Nat) : Int) := u8_xor_nat a b ha hb
theorem band_u8 {a b : Nat} (ha : a < 256) (hb : b < 256) : band .u8 (a : Int) (b : Int) = ((a &&& b : Nat) : Int) := u8_and_nat a b ha hb
theorem bor_u8 {a b : Nat} (ha : a < 256) (hb : b < 256) : bor .u8 (a : Int) (b : Int) = ((a ||| b : Nat) : Int) := u8_or_nat a b ha hb

theorem shl_u8 {a n : Nat} (hn : n ≤ 8) : shl .u8 (a : Int) (n : Int) = ((a * 2 ^ n % 256 : Nat) : Int) := by
  unfold shl
  rw [IntKind.wrap_u8]
  have : min (n : Int).toNat IntKind.u8.bits = n := by show min ((n : Int).toNat) 8 = n; omega
  rw [this]
  simp
theorem shr_u8 {a n : Nat} (hn : n ≤ 8) : shr .u8 (a : Int) (n : Int) = ((a / 2 ^ n : Nat) : Int) := by
  unfold shr
  have : min (n : Int).toNat IntKind.u8.bits = n := by show min ((n : Int).toNat) 8 = n; omega
  rw [this]
  have h : (2 : Int) ^ n = ((2 ^ n : Nat) : Int) := by simp
  rw [h, Int.fdiv_eq_ediv_of_nonneg _ (Int.natCast_nonneg _)]
  simp

/-! what is known, one more -/
def ext (Γ : Gam) (f : FuncId) (s : Spec) : Gam := fun g => if g = f then some s else Γ g
def gam0 : Gam := fun _ => none
theorem good0 (P : Program) : GoodG P gam0 := fun f s h => by cases h
theorem GoodG.ext {P : Program} {Γ : Gam} (h : GoodG P Γ) {f : FuncId} {s : Spec} (hf : Good P f s) (hn : ∃ fn, P.funcs[f]? = some fn ∧ fn.name ≠ "runtime.NumGoroutine" ∧ fn.body.isSome = true) : GoodG P (ext Γ f s) := by
  intro g t hg
  unfold Sx.ext at hg
  split at hg
  · rename_i e; subst e; cases hg; exact ⟨hf, hn⟩
  · exact h g t hg
end Go.Sx
