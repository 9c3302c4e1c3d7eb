/- The law FieldAll. -/
import Derived.Test.YtccjkjpdgpeogaaFieldR4
namespace Go.Proofs.Ytccjkjpdgpeogaa.G
open Go Go.Sx Go.Fld
theorem ine_ne {a : Int} {p : Prop} (h : ine a a = true) : p := by rw [ine_true] at h; exact absurd rfl h
theorem ieq_nn {a : Int} {p : Prop} (h : ieq a a = false) : p := by rw [ieq_false] at h; exact absurd rfl h
theorem fieldAll_plain {a b n : Int} (ha : Byte a) (hb : Byte b) (hn : In64 n) : Has (callsx Try.prog gam10 [] Try.f7 1 [.one (.int .u8 a), .one (.int .u8 b), .one (.int .i64 n)] [] Yes) := by
  constructor
  rw [FieldAll_vc]
  exact ⟨⟨ha, hb⟩, ⟨ha, hb⟩, fun _ => ⟨⟨ha, hb⟩, ⟨ha, hb⟩, ine_ne, fun _ => ⟨ha, ha, fun _ => ⟨⟨ha, hn⟩, ⟨ha, hn⟩, ine_ne, fun _ => ⟨ha, ha, fun _ => ⟨ha, ha, Or.inl (by rw [ieq_true.2 rfl])⟩, ieq_nn⟩⟩, ine_ne⟩⟩, ine_ne⟩
end Go.Proofs.Ytccjkjpdgpeogaa.G
