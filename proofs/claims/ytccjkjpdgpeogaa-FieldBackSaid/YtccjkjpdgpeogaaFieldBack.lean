/- The law FieldBack: substitution and mixing are taken back. -/
import Derived.Test.YtccjkjpdgpeogaaFieldP4
import Derived.Test.YtccjkjpdgpeogaaFieldM3
namespace Go.Proofs.Ytccjkjpdgpeogaa.G
open Go Go.Sx Go.Fld
set_option linter.unusedSimpArgs false
set_option linter.unusedVariables false
set_option linter.constructorNameAsVariable false

theorem ColN.four {l : List Nat} (h : ColN l) : ∃ a b c d, l = [a, b, c, d] ∧ L4 a b c d := by
  obtain ⟨hl, ha⟩ := h
  match l, hl with
  | [a, b, c, d], _ => exact ⟨a, b, c, d, rfl, ha a (by simp), ha b (by simp), ha c (by simp), ha d (by simp)⟩

theorem ColN.of4 {a b c d : Nat} (h : L4 a b c d) : ColN [a, b, c, d] := ⟨rfl, fun x hx => by
  obtain ⟨h1, h2, h3, h4⟩ := h
  simp only [List.mem_cons, List.not_mem_nil, or_false] at hx
  rcases hx with rfl | rfl | rfl | rfl <;> assumption⟩

theorem ColN.mix {c f : List Nat} (hf : ColN f) : ColN (mixN c f) :=
  .of4 ⟨ml_lt hf _ _ _ (by decide), ml_lt hf _ _ _ (by decide), ml_lt hf _ _ _ (by decide), ml_lt hf _ _ _ (by decide)⟩

def fE : List Nat := [2, 3, 1, 1]
def fD : List Nat := [14, 11, 13, 9]
theorem hE : ColN fE := ⟨rfl, by decide⟩
theorem hD : ColN fD := ⟨rfl, by decide⟩
theorem fmix_E (c : List Nat) : fmix (intL c) [2, 3, 1, 1] = intL (mixN c fE) := by
  simp only [fmix, natL_intL]; rfl
theorem fmix_D (c : List Nat) : fmix (intL c) [14, 11, 13, 9] = intL (mixN c fD) := by
  simp only [fmix, natL_intL]; rfl

theorem back_l1 (R : AV → Mem → Prop) {c d : List Nat} (hc : ColN c) (hd : ColN d) (fuel i : Nat) (hi : i < 4) (x y : List Nat)
    (h : FieldBack.l1 R (intL c) (intL d) fuel ((i + 1 : Nat) : Int) (intL (x.set i (c.getD i 0 ^^^ d.getD i 0))) (intL (y.set i ((mixN c fE).getD i 0 ^^^ (mixN d fE).getD i 0)))) :
    FieldBack.l1 R (intL c) (intL d) (fuel + 1) (i : Int) (intL x) (intL y) := by
  rw [FieldBack.l1_succ]
  have x1 : ∀ p q : Nat, fxor (p : Int) (q : Int) = (p ^^^ q : Nat) := fun p q => by simp [fxor]
  simp only [nadd, nat, Int.toNat_natCast, Nat.zero_add, fmix_E, lget_intL, x1, lset_intL]
  rw [add_i64 (by omega) (by omega), show (i : Int) + 1 = ((i + 1 : Nat) : Int) by omega]
  have b1 : Byte ((c.getD i 0 : Nat) : Int) := .of (hc.at i)
  have b2 : Byte ((d.getD i 0 : Nat) : Int) := .of (hd.at i)
  have b3 : Byte (((mixN c fE).getD i 0 : Nat) : Int) := .of ((ColN.mix hE).at i)
  have b4 : Byte (((mixN d fE).getD i 0 : Nat) : Int) := .of ((ColN.mix hE).at i)
  have ib : InB (i : Int) 4 := ⟨by omega, by omega⟩
  refine ⟨fun _ => ⟨ib, ⟨hi⟩, ib, ⟨hi⟩, ib, ⟨hi⟩, ib, ⟨hi⟩, ⟨b1, b2⟩, ib, ⟨b3, b4⟩, ⟨hi⟩, ib, ⟨hi⟩, h⟩, fun q => ?_⟩
  rw [ilt_false] at q; omega

theorem back_end {c d : List Nat} (hc : ColN c) (hd : ColN d) : FieldBack.l1 Yes (intL c) (intL d) 5 0 (intL [0, 0, 0, 0]) (intL [0, 0, 0, 0]) := by
  refine back_l1 Yes hc hd 4 0 (by decide) _ _ (back_l1 Yes hc hd 3 1 (by decide) _ _ (back_l1 Yes hc hd 2 2 (by decide) _ _ (back_l1 Yes hc hd 1 3 (by decide) _ _ ?_)))
  obtain ⟨c0, c1, c2, c3, rfl, lc⟩ := hc.four
  obtain ⟨d0, d1, d2, d3, rfl, ld⟩ := hd.four
  rw [FieldBack.l1_succ]
  refine ⟨fun q => ?_, fun _ => ?_⟩
  · rw [ilt_true] at q; omega
  have s1 : (((([0, 0, 0, 0] : List Nat).set 0 ([c0, c1, c2, c3].getD 0 0 ^^^ [d0, d1, d2, d3].getD 0 0)).set 1 ([c0, c1, c2, c3].getD 1 0 ^^^ [d0, d1, d2, d3].getD 1 0)).set 2 ([c0, c1, c2, c3].getD 2 0 ^^^ [d0, d1, d2, d3].getD 2 0)).set 3 ([c0, c1, c2, c3].getD 3 0 ^^^ [d0, d1, d2, d3].getD 3 0) = [c0 ^^^ d0, c1 ^^^ d1, c2 ^^^ d2, c3 ^^^ d3] := rfl
  rw [s1]
  simp only [fmix_E, fmix_D]
  have hx : ColN [c0 ^^^ d0, c1 ^^^ d1, c2 ^^^ d2, c3 ^^^ d3] := .of4 ⟨xor_lt lc.1 ld.1, xor_lt lc.2.1 ld.2.1, xor_lt lc.2.2.1 ld.2.2.1, xor_lt lc.2.2.2 ld.2.2.2⟩
  have q1 : mixN (mixN [c0, c1, c2, c3] fE) fD = [c0, c1, c2, c3] := back back_bits lc
  have q2 : mixN (mixN [c0, c1, c2, c3] fD) fE = [c0, c1, c2, c3] := back back_bits' lc
  have q3 : mixN [c0 ^^^ d0, c1 ^^^ d1, c2 ^^^ d2, c3 ^^^ d3] fE = (((([0, 0, 0, 0] : List Nat).set 0 ((mixN [c0, c1, c2, c3] fE).getD 0 0 ^^^ (mixN [d0, d1, d2, d3] fE).getD 0 0)).set 1 ((mixN [c0, c1, c2, c3] fE).getD 1 0 ^^^ (mixN [d0, d1, d2, d3] fE).getD 1 0)).set 2 ((mixN [c0, c1, c2, c3] fE).getD 2 0 ^^^ (mixN [d0, d1, d2, d3] fE).getD 2 0)).set 3 ((mixN [c0, c1, c2, c3] fE).getD 3 0 ^^^ (mixN [d0, d1, d2, d3] fE).getD 3 0) := by
    simp only [mixN_eq, m4_add]
    rfl
  rw [q1, q2, q3]
  have lt : ∀ l : List Int, leq l l = true := fun l => by rw [leq_true]
  have lf : ∀ l : List Int, leq l l = false → False := fun l h => by rw [lt] at h; cases h
  refine ⟨(ColN.mix hE).col, fun _ => ⟨(ColN.of4 lc).col, (ColN.mix hD).col, fun _ => ⟨hx.col, ?_⟩, fun q => (lf _ q).elim⟩, fun q => (lf _ q).elim⟩
  rw [lt]
  exact Or.inl rfl

theorem sub_l0 {c d : List Nat} (hc : ColN c) (hd : ColN d) : ∀ i, i ≤ 4 → FieldBack.l0 Yes (intL c) (intL d) (5 + i + 1) ((4 - i : Nat) : Int) := by
  intro i
  induction i with
  | zero =>
    intro _
    rw [FieldBack.l0_succ]
    refine ⟨fun q => ?_, fun _ => ?_⟩
    · rw [ilt_true] at q; omega
    · have k : FieldBack.k0 Yes (intL c) ((4 - 0 : Nat) : Int) (intL d) (5 + 0) := by
        rw [FieldBack.k0_eq]
        exact back_end hc hd
      have a := hc.col
      have b := hd.col
      simp only [a, b, k, and_self]
  | succ i ih =>
    intro hi
    rw [show 5 + (i + 1) + 1 = (5 + i + 1) + 1 by omega, FieldBack.l0_succ]
    have ib : InB ((4 - (i + 1) : Nat) : Int) 4 := ⟨by omega, by omega⟩
    simp only [nat, Int.toNat_natCast, lget_intL]
    have hx := hc.at (4 - (i + 1))
    generalize c.getD (4 - (i + 1)) 0 = x at hx ⊢
    have e1 : ∀ y : Nat, fsub (y : Int) = (gs y : Nat) := fun y => by simp [fsub]
    have e2 : ∀ y : Nat, funsub (y : Int) = (gu y : Nat) := fun y => by simp [funsub]
    have e3 : bxor .u8 255 (x : Int) = ((255 ^^^ x : Nat) : Int) := bxor_u8 (a := 255) (by decide) hx
    rw [e2 x, e1 x, e2 (gs x), e1 (gu x), e3, gu_gs x hx, gs_gu x hx]
    obtain ⟨n1, n2⟩ := gs_ne x hx
    rw [add_i64 (by omega) (by omega), show ((4 - (i + 1) : Nat) : Int) + 1 = ((4 - i : Nat) : Int) by omega]
    have ff : ∀ x : Int, ine x x = true → False := fun x h => by rw [ine_true] at h; exact h rfl
    refine ⟨fun _ => ⟨ib, .of hx, .of (gs_lt x), fun _ => ⟨.of hx, .of (gu_lt x), fun _ => ⟨fun _ => ⟨fun q => ?_, fun _ => ih (by omega)⟩, fun q => ?_⟩, fun q => (ff _ q).elim⟩, fun q => (ff _ q).elim⟩, fun q => ?_⟩
    · rw [ieq_true] at q; omega
    · rw [ieq_true] at q; omega
    · rw [ilt_false] at q; omega

theorem fieldBack_plain {c d : List Nat} (hc : ColN c) (hd : ColN d) : Has (callsx Try.prog gam6 [] Try.f6 11 [.agg [.ints .u8 4 (intL c)], .agg [.ints .u8 4 (intL d)]] [] Yes) := by
  constructor
  rw [FieldBack_vc]
  exact sub_l0 hc hd 4 (by omega)
end Go.Proofs.Ytccjkjpdgpeogaa.G
