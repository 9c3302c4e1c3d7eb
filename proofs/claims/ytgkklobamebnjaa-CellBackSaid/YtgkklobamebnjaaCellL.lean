/- The cell's laws that compare with the document. -/
import Derived.Test.YtgkklobamebnjaaCellG2
import Derived.Test.YtgkklobamebnjaaCellP3
namespace Go.Proofs.Ytgkklobamebnjaa.G
open Go Go.Sx Go.Cel
set_option linter.unusedSimpArgs false
set_option linter.unusedVariables false

theorem good_cawake : Sx.Good Try.prog 8 yesS := by
  refine Sx.Good.reads (D := []) mixed gamC2_good Try.func8 (by kernel_rfl) rfl fun d args σ K h => ?_
  simp only [yesS] at h
  split at h <;> try exact h.elim
  refine ⟨[], [], .nil _, by simp, 1, ?_⟩
  rw [cawake_vc]
  exact ⟨⟨by decide, by decide⟩, ⟨by decide⟩, fun _ => ⟨fun _ => ⟨⟨by decide, by decide⟩, fun _ => ⟨⟨by decide, by decide⟩, fun _ => ⟨⟨by decide, by decide⟩, fun _ => ⟨⟨by decide, by decide⟩, res_bool rfl h⟩, fun q => by cases q⟩, fun q => by cases q⟩, fun q => by cases q⟩, fun q => by cases q⟩, fun q => by cases q⟩

theorem gamC4_good : GoodG Try.prog gamC4 := by
  refine gamC3_good.ext good_cawake ?_
  exact ⟨_, Try.func8, by decide, by kernel_rfl⟩

abbrev Yes : AV → Mem → Prop := fun av _ => av = .one (.bool true) ∨ av = .one (.lit true)

theorem seq2_ne {l : List Int} {p : Prop} (h : seq2 (bytesOf l) (bytesOf l) = false) : p := by rw [seq2_self rfl] at h; cases h
theorem ieq_ne {a : Int} {p : Prop} (h : ieq a a = false) : p := by rw [ieq_false] at h; exact absurd rfl h
theorem beq2_ne {a : Bool} {p : Prop} (h : beq2 a a = false) : p := by cases a <;> cases h
theorem yes_ieq {a : Int} : (AV.one (.bool (ieq a a)) = .one (.bool true)) := by rw [ieq_true.2 rfl]

theorem cellMakes_plain {p : List Int} (hs : Short p) : Has (callsx Try.prog gamC4 [] Try.f3 1 [.one (.vec 200000)] [(200000, .rview [.ints .u8 p])] Yes) := by
  constructor
  rw [CellMakes_vc]
  exact ⟨fun q => (by cases q), fun _ => ⟨hs, hs, hs, hs, hs, hs, fun _ => ⟨fun _ => ⟨fun _ => ⟨fun _ => ⟨fun _ => Or.inl yes_ieq, ieq_ne⟩, ieq_ne⟩, seq2_ne⟩, seq2_ne⟩, seq2_ne⟩⟩

theorem cellReads_plain {p : List Int} (n : Int) (hs : Short p) (hb : Bs p) : Has (callsx Try.prog gamC4 [] Try.f5 1 [.one (.vec 200000), .one (.int .i64 n)] [(200000, .rview [.ints .u8 p])] Yes) := by
  constructor
  rw [CellReads_vc]
  exact ⟨fun q => (by cases q), fun _ => ⟨hs, ⟨hs, hb⟩, hs, ⟨hs, hb⟩, fun _ => ⟨fun _ => ⟨fun _ => ⟨fun _ => Or.inl yes_ieq, beq2_ne⟩, seq2_ne⟩, ieq_ne⟩, seq2_ne⟩⟩
end Go.Proofs.Ytgkklobamebnjaa.G
