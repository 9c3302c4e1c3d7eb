/- Columns, and all of the field that is known. -/
import Derived.Test.YtccjkjpdgpeogaaFieldP3
namespace Go.Proofs.Ytccjkjpdgpeogaa.G
open Go Go.Sx Go.Fld
set_option linter.unusedSimpArgs false
set_option linter.unusedVariables false

theorem gam5_good : GoodG Try.prog gam5 := gam4_good.ext good_mixed ⟨_, Try.func25, by decide, by kernel_rfl⟩

theorem col_of {a b c d : Nat} (h : a < 256 ∧ b < 256 ∧ c < 256 ∧ d < 256) : FCol [(a : Int), b, c, d] :=
  ColN.col (l := [a, b, c, d]) ⟨rfl, fun x hx => by simp at hx; rcases hx with rfl | rfl | rfl | rfl <;> omega⟩

theorem good_column : Sx.Good Try.prog 8 (colS [2, 3, 1, 1]) := by
  refine Sx.Good.pure (D := []) mixed gam5_good Try.func8 (by kernel_rfl) rfl fun d args σ K h => ?_
  simp only [colS] at h
  split at h <;> try exact h.elim
  rename_i c
  obtain ⟨hc, hK⟩ := h
  refine ⟨by simp [plain_ints], _, plain_ints _ _ _, hK, 0 + 1, ?_⟩
  rw [Column_vc]
  exact ⟨⟨by decide⟩, ⟨by decide⟩, ⟨by decide⟩, ⟨by decide⟩, ⟨hc, col_of (a := 2) (b := 3) (c := 1) (d := 1) (by decide)⟩, rfl⟩

theorem good_uncolumn : Sx.Good Try.prog 10 (colS [14, 11, 13, 9]) := by
  refine Sx.Good.pure (D := []) mixed gam5_good Try.func10 (by kernel_rfl) rfl fun d args σ K h => ?_
  simp only [colS] at h
  split at h <;> try exact h.elim
  rename_i c
  obtain ⟨hc, hK⟩ := h
  refine ⟨by simp [plain_ints], _, plain_ints _ _ _, hK, 0 + 1, ?_⟩
  rw [Uncolumn_vc]
  exact ⟨⟨by decide⟩, ⟨by decide⟩, ⟨by decide⟩, ⟨by decide⟩, ⟨hc, col_of (a := 14) (b := 11) (c := 13) (d := 9) (by decide)⟩, rfl⟩

theorem gam6_good : GoodG Try.prog gam6 :=
  ((gam4_good.ext good_pow ⟨_, Try.func16, by decide, by kernel_rfl⟩).ext good_column ⟨_, Try.func8, by decide, by kernel_rfl⟩).ext good_uncolumn ⟨_, Try.func10, by decide, by kernel_rfl⟩
end Go.Proofs.Ytccjkjpdgpeogaa.G
