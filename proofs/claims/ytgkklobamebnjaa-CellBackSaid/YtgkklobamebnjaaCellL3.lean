/- What was made is opened and cut again. -/
import Derived.Test.YtgkklobamebnjaaCellL2
namespace Go.Proofs.Ytgkklobamebnjaa.G
open Go Go.Sx Go.Cel
set_option linter.unusedSimpArgs false
set_option linter.unusedVariables false

theorem fill_len {f : List Int} (h : f.length ≤ 320) : (fillL f).length = 320 := by simp [fillL]; omega
theorem fill_drop {f : List Int} {n : Nat} (h : n ≤ f.length) : (fillL f).drop n = f.drop n ++ List.replicate (320 - f.length) 0 := by
  unfold fillL; rw [List.drop_append_of_le_length h]
theorem fill_take {f : List Int} {n : Nat} (h : n ≤ f.length) : (fillL f).take n = f.take n := by
  unfold fillL; rw [List.take_append_of_le_length h]
theorem zb_append (a b : List Int) : zb (a ++ b) = (zb a && zb b) := by simp [zb]
theorem zb_replicate (n : Nat) : zb (List.replicate n 0) = true := by simp [zb]
theorem fill_bs {f : List Int} (h : Bs f) : Bs (fillL f) := h.app (Bs.zeros _)

theorem plain_ok {p : List Int} (h : p.length ≤ 48) : plainE p = 0 ∧ opE (plainR p) = 0 ∧ opY (plainR p) = true ∧ opR (plainR p) = p := by
  have e : plainR p = fillL (1 :: (p.length : Int) :: p) := by simp only [plainR]; rw [if_pos h]
  have hl : (plainR p).length = 320 := by rw [e]; exact fill_len (by simp; omega)
  have g0 : lget (plainR p) 0 = 1 := by rw [e]; rfl
  have g1 : lget (plainR p) 1 = (p.length : Int) := by rw [e]; rfl
  have hd : zb ((plainR p).drop (2 + p.length)) = true := by
    rw [e, fill_drop (by simp; omega), zb_append, zb_replicate, List.drop_of_length_le (by simp; omega)]; rfl
  obtain ⟨h1, h2, h3⟩ := op_ok (n := p.length) hl g0 (by omega) (by omega) hd
  refine ⟨by simp only [plainE]; rw [if_pos h], h1, h2, ?_⟩
  rw [h3, e]
  show ((p ++ _).take p.length) = p
  rw [List.take_append_of_le_length (Nat.le_refl _), List.take_length]
theorem plain_no {p : List Int} (h : ¬ p.length ≤ 48) : plainE p = 1 ∧ plainR p = [] := by
  simp only [plainE, plainR]; rw [if_neg h, if_neg h]; exact ⟨rfl, rfl⟩
theorem noise_ok {p : List Int} (h : p.length ≤ 319) : noiseE p = 0 ∧ (noiseR p).length = 320 ∧ opE (noiseR p) = 0 ∧ opY (noiseR p) = false ∧ opR (noiseR p) = [] := by
  have e : noiseR p = fillL (0 :: p) := by simp only [noiseR]; rw [if_pos h]
  have hl : (noiseR p).length = 320 := by rw [e]; exact fill_len (by simp; omega)
  obtain ⟨h1, h2⟩ := op_noise hl (by rw [e]; rfl)
  exact ⟨by simp only [noiseE]; rw [if_pos h], hl, h1, h2, op_nil h2⟩
theorem pad_cut {p : List Int} {n : Int} (h : p.length ≤ 320) (h0 : 0 ≤ n) (h1 : n ≤ p.length) :
    (zb (p.drop n.toNat) = true → cutE (padR p) n = 0 ∧ cutR (padR p) n = p.take n.toNat) ∧ (zb (p.drop n.toNat) = false → cutE (padR p) n = 51 ∧ cutR (padR p) n = []) := by
  have e : padR p = fillL p := by simp only [padR]; rw [if_pos h]
  have hl : (padR p).length = 320 := by rw [e]; exact fill_len h
  have hz : zb ((padR p).drop n.toNat) = zb (p.drop n.toNat) := by rw [e, fill_drop (by omega), zb_append, zb_replicate, Bool.and_true]
  refine ⟨fun q => ?_, fun q => ?_⟩
  · have := cut_ok hl h0 (by omega) (by rw [hz]; exact q)
    exact ⟨this, by rw [cut_some this, e, fill_take (by omega)]⟩
  · have := cut_pad hl h0 (by omega) (by rw [hz]; exact q)
    exact ⟨this, cut_none (by rw [this]; decide)⟩

theorem short_plain (p : List Int) : Short (plainR p) ∧ (Bs p → Bs (plainR p)) := by
  simp only [plainR]
  split
  · rename_i h
    exact ⟨⟨by rw [fill_len (by simp; omega)]; decide⟩, fun hb => fill_bs (.cons (by decide) (by decide) (.cons (by omega) (by omega) hb))⟩
  · exact ⟨⟨by decide⟩, fun _ => Bs.nil⟩
theorem short_noise (p : List Int) : Short (noiseR p) ∧ (Bs p → Bs (noiseR p)) := by
  simp only [noiseR]
  split
  · rename_i h
    exact ⟨⟨by rw [fill_len (by simp; omega)]; decide⟩, fun hb => fill_bs (.cons (by decide) (by decide) hb)⟩
  · exact ⟨⟨by decide⟩, fun _ => Bs.nil⟩
theorem short_pad (p : List Int) : Short (padR p) := by
  simp only [padR]
  split
  · rename_i h
    exact ⟨by rw [fill_len h]; decide⟩
  · exact ⟨by decide⟩

theorem back_l0 {p : List Int} (hs : Short p) (h : p.length ≤ 320) (n : Nat) (hn : n ≤ p.length) : ∀ (k i : Nat), p.length - i = k → n ≤ i → i ≤ p.length → ∀ b, (b || !zb (p.drop i)) = !zb (p.drop n) → CellBack.l0 Yes n p (k + 1) b i := by
  obtain ⟨c1, c2⟩ := pad_cut (n := (n : Int)) h (by omega) (by omega)
  simp only [Int.toNat_natCast] at c1 c2
  have hle := hs.le
  intro k
  induction k with
  | zero =>
    intro i hk hi hip b hb
    rw [CellBack.l0_succ]
    have : i = p.length := by omega
    subst this
    rw [List.drop_length, show zb ([] : List Int) = true from rfl] at hb
    refine ⟨fun q => ?_, fun _ => ⟨short_pad p, ?_⟩⟩
    · rw [ilt_true] at q; simp only [ofNat, llen] at q; omega
    have hN : NonNeg (n : Int) ∧ Fits (nat (n : Int)) (llen p) := ⟨⟨by omega⟩, ⟨by simp only [nat, llen]; omega⟩⟩
    have et : lsub p 0 (nat (n : Int)) = p.take n := by simp only [nat, Int.toNat_natCast]; exact lsub_take p n
    cases b with
    | true =>
      have hz : zb (p.drop n) = false := by simpa using hb.symm
      obtain ⟨e1, e2⟩ := c2 hz
      simp only [CellBack.k0_eq, CellBack.k1_eq, CellBack.k2_eq, CellBack.k3_eq, CellBack.k4_eq, CellBack.k5_eq, CellBack.k6_eq, CellBack.k7_eq, CellBack.k8_eq, CellBack.k9_eq, e1, e2]
      simp [Yes, ieq, bnot, ofNat, llen]
    | false =>
      have hz : zb (p.drop n) = true := by simpa using hb.symm
      obtain ⟨e1, e2⟩ := c1 hz
      simp only [CellBack.k0_eq, CellBack.k1_eq, CellBack.k2_eq, CellBack.k3_eq, CellBack.k4_eq, CellBack.k5_eq, CellBack.k6_eq, CellBack.k7_eq, CellBack.k8_eq, CellBack.k9_eq, e1, e2, et]
      simp [Yes, ieq, bnot, seq2_self, hN]
  | succ k ih =>
    intro i hk hi hip b hb
    rw [CellBack.l0_succ]
    have hd := lget_succ p i (by omega)
    refine ⟨fun _ => ⟨fun q => ⟨⟨by omega, by simp only [llen]; omega⟩, ?_⟩, fun q => ?_⟩, fun q => ?_⟩
    · rw [add_i64 (by omega) (by omega)]
      refine ih (i + 1) (by omega) (by omega) (by omega) _ ?_
      rw [← hb, hd, zb_cons, q]
      simp only [nat, Int.toNat_natCast, ine]
      cases hh : (lget p i == 0) <;> simp_all [bne]
    · rw [add_i64 (by omega) (by omega)]
      refine ih (i + 1) (by omega) (by omega) (by omega) _ ?_
      rw [← hb, q]; rfl
    · rw [ilt_false] at q; simp only [ofNat, llen] at q; omega
end Go.Proofs.Ytgkklobamebnjaa.G
