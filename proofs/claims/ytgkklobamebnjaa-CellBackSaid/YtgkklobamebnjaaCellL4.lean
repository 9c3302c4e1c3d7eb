/- The law CellBack. -/
import Derived.Test.YtgkklobamebnjaaCellL3
namespace Go.Proofs.Ytgkklobamebnjaa.G
open Go Go.Sx Go.Cel
set_option linter.unusedSimpArgs false
set_option linter.unusedVariables false

theorem pad_all {p : List Int} (h : p.length ≤ 320) : padE p = 0 ∧ cutE (padR p) (p.length : Int) = 0 ∧ cutR (padR p) (p.length : Int) = p := by
  obtain ⟨c, _⟩ := pad_cut (n := (p.length : Int)) h (by omega) (by omega)
  obtain ⟨h1, h2⟩ := c (by simp [zb])
  exact ⟨by simp only [padE]; rw [if_pos h], h1, by rw [h2]; simp⟩
theorem pad_no {p : List Int} (h : ¬ p.length ≤ 320) : padE p = 1 ∧ padR p = [] := by
  simp only [padE, padR]; rw [if_neg h, if_neg h]; exact ⟨rfl, rfl⟩
theorem op_none : opE [] = 50 ∧ opY [] = false ∧ opR [] = [] := by decide

set_option maxHeartbeats 8000000 in
theorem cellBack_plain {p : List Int} {n : Int} (hs : Short p) (hb : Bs p) : Has (callsx Try.prog gamC4 [⟨10, [], true, false⟩] Try.f6 (p.length - n.toNat + 1 + 1) [.one (.vec 200000), .one (.int .i64 n)] [(200000, .rview [.ints .u8 p])] Yes) := by
  constructor
  obtain ⟨pl1, pl2⟩ := short_plain p
  obtain ⟨no1, no2⟩ := short_noise p
  have pl2 := pl2 hb
  have no2 := no2 hb
  have hpa := short_pad p
  have loop : p.length ≤ 320 → 0 ≤ n → n ≤ p.length → CellBack.l0 Yes n p (p.length - n.toNat + 1) false n := fun h h0 h1 => by
    obtain ⟨m, rfl⟩ := Int.eq_ofNat_of_zero_le h0
    exact back_l0 hs h m (by omega) (p.length - m) m rfl (Nat.le_refl _) (by omega) false (by simp)
  rw [CellBack_vc]
  generalize CellBack.l0 Yes n p (p.length - n.toNat + 1) false n = L at loop
  obtain ⟨o1, o2, o3⟩ := op_none
  by_cases h48 : p.length ≤ 48
  · obtain ⟨a1, a2, a3, a4⟩ := plain_ok h48
    obtain ⟨b1, b2, b3, b4, b5⟩ := noise_ok (p := p) (by omega)
    obtain ⟨c1, c2, c3⟩ := pad_all (p := p) (by omega)
    have i1 : (p.length : Int) ≤ 48 := by omega
    have i2 : (p.length : Int) ≤ 319 := by omega
    have i3 : ¬ (48 : Int) < p.length := by omega
    have i4 : ¬ (320 : Int) < p.length := by omega
    simp [igt, ile, ilt, ine, ieq, bnot, ofNat, llen, seq2_self, hs, pl1, pl2, no1, no2, hpa, a1, a2, a3, a4, b1, b2, b3, b4, b5, c1, c2, c3, i1, i2, i3, i4, bne]
    exact ⟨fun q0 => ⟨fun _ => Or.inr rfl, fun q1 => loop (by omega) q0 q1⟩, fun _ => Or.inr rfl⟩
  · obtain ⟨a1, a2⟩ := plain_no h48
    have i1 : ¬ (p.length : Int) ≤ 48 := by omega
    have i3 : (48 : Int) < p.length := by omega
    have s0 : Short [] := ⟨by decide⟩
    have b0 := Bs.nil
    by_cases h319 : p.length ≤ 319
    · obtain ⟨b1, b2, b3, b4, b5⟩ := noise_ok h319
      obtain ⟨c1, c2, c3⟩ := pad_all (p := p) (by omega)
      have i2 : (p.length : Int) ≤ 319 := by omega
      have i4 : ¬ (320 : Int) < p.length := by omega
      simp [igt, ile, ilt, ine, ieq, bnot, ofNat, llen, seq2_self, hs, no1, no2, hpa, a1, a2, o1, o2, o3, s0, b0, b1, b2, b3, b4, b5, c1, c2, c3, i1, i2, i3, i4, bne]
      exact ⟨fun q0 => ⟨fun _ => Or.inr rfl, fun q1 => loop (by omega) q0 q1⟩, fun _ => Or.inr rfl⟩
    · have i2 : ¬ (p.length : Int) ≤ 319 := by omega
      by_cases h320 : p.length ≤ 320
      · obtain ⟨c1, c2, c3⟩ := pad_all (p := p) h320
        have i4 : ¬ (320 : Int) < p.length := by omega
        simp [igt, ile, ilt, ine, ieq, bnot, ofNat, llen, seq2_self, hs, no1, no2, hpa, a1, a2, o1, o2, o3, s0, b0, c1, c2, c3, i1, i2, i3, i4, bne]
        exact ⟨fun q0 => ⟨fun _ => Or.inr rfl, fun q1 => loop (by omega) q0 q1⟩, fun _ => Or.inr rfl⟩
      · obtain ⟨c1, c2⟩ := pad_no h320
        have i4 : (320 : Int) < p.length := by omega
        simp [igt, ile, ilt, ine, ieq, bnot, ofNat, llen, seq2_self, hs, no1, no2, hpa, a1, a2, o1, o2, o3, s0, b0, c1, c2, i1, i2, i3, i4, bne]
        exact Or.inl rfl
end Go.Proofs.Ytgkklobamebnjaa.G
