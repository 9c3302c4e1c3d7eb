/- A cell that opens is its payload's cell. -/
import Derived.Test.YtgkklobamebnjaaCellL
namespace Go.Proofs.Ytgkklobamebnjaa.G
open Go Go.Sx Go.Cel
set_option linter.unusedSimpArgs false
set_option linter.unusedVariables false

theorem zb_zeros {l : List Int} (h : zb l = true) : l = List.replicate l.length 0 := by
  induction l with
  | nil => rfl
  | cons a r ih =>
    rw [zb_cons, Bool.and_eq_true, beq_iff_eq] at h
    obtain ⟨rfl, h⟩ := h
    rw [List.length_cons, List.replicate_succ, ← ih h]

/-- a cell that opens to a payload is that payload's cell -/
theorem op_only {c : List Int} (hb : Bs c) (hy : opY c = true) : (opR c).length ≤ 48 ∧ plainR (opR c) = c := by
  have he : opE c = 0 ∧ c.getD 0 0 ≠ 0 := by simpa [opY] using hy
  obtain ⟨he, h0⟩ := he
  have hl : c.length = 320 := by
    by_cases q : c.length = 320
    · exact q
    · rw [op_len q] at he; cases he
  have h1 : c.getD 0 0 = 1 := by
    by_cases q : c.getD 0 0 = 1
    · exact q
    · rw [op_kind hl h0 q] at he; cases he
  have h2 : c.getD 1 0 ≤ 48 := by
    by_cases q : 48 < c.getD 1 0
    · rw [op_long hl h1 q] at he; cases he
    · omega
  obtain ⟨g0, g1⟩ := hb.get 1
  obtain ⟨n, hn⟩ := Int.eq_ofNat_of_zero_le g0
  have hz : zb (c.drop (2 + n)) = true := by
    cases q : zb (c.drop (2 + n)) with
    | true => rfl
    | false => rw [op_pad hl h1 h2 (by show (c.getD 1 0).toNat = n; omega) q] at he; cases he
  obtain ⟨_, _, er⟩ := op_ok hl h1 h2 (n := n) (by show (c.getD 1 0).toNat = n; omega) hz
  have hlen : (opR c).length = n := by rw [er]; simp; omega
  refine ⟨by omega, ?_⟩
  simp only [plainR]
  rw [if_pos (by omega), hlen, er, ← hn, ← h1]
  have e0 : c = c.getD 0 0 :: c.getD 1 0 :: c.drop 2 := by
    match c, hl with
    | a :: b :: r, _ => rfl
  have e1 : c.drop 2 = (c.drop 2).take n ++ c.drop (2 + n) := by
    rw [← List.drop_drop]; exact (List.take_append_drop n _).symm
  have e2 := zb_zeros hz
  have e3 : (c.drop (2 + n)).length = 320 - (c.getD 0 0 :: c.getD 1 0 :: (c.drop 2).take n).length := by simp; omega
  unfold fillL
  rw [← e3, ← e2]
  conv => rhs; rw [e0, e1]
  rfl

theorem cellOnly_plain {p : List Int} (hs : Short p) (hb : Bs p) : Has (callsx Try.prog gamC4 [] Try.f4 1 [.one (.vec 200000)] [(200000, .rview [.ints .u8 p])] Yes) := by
  constructor
  rw [CellOnly_vc]
  have no : opY p = false → (AV.one (.bool (bnot (opY p))) = .one (.bool true)) := fun q => by rw [bnot_true.2 q]
  refine ⟨fun q => (by cases q), fun _ => ⟨⟨hs, hb⟩, fun _ => ⟨fun q => ?_, fun q => ?_⟩, fun q => ?_⟩⟩
  · rw [bnot_true] at q
    exact ⟨fun _ => Or.inl (no q), fun g => by rw [ieq_false] at g; exact absurd (by simp [ofNat, llen, op_nil q]) g⟩
  · rw [bnot_false] at q
    obtain ⟨h1, h2⟩ := op_only hb q
    refine ⟨⟨by omega⟩, fun _ => ⟨fun _ => Or.inl (by rw [ile_true.2]; simp only [ofNat, llen]; omega), fun g => ?_⟩, fun g => ?_⟩
    · rw [h2] at g; exact seq2_ne g
    · rw [ieq_false] at g; exact absurd (by simp [plainE, h1]) g
  · rw [ine_true] at q
    have q := op_no q
    exact ⟨fun _ => Or.inl (no q), fun g => by rw [ieq_false] at g; exact absurd (by simp [ofNat, llen, op_nil q]) g⟩
end Go.Proofs.Ytgkklobamebnjaa.G
