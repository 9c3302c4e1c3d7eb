/- The document's columns. -/
import Derived.Test.YtccjkjpdgpeogaaFieldR
import Derived.Test.YtccjkjpdgpeogaaFieldM3
namespace Go.Proofs.Ytccjkjpdgpeogaa.G
open Go Go.Sx Go.Fld
set_option linter.unusedVariables false
set_option linter.unusedSimpArgs false

theorem good_radd : Sx.Good Try.prog 19 (bin8 fxor) := by
  refine Sx.Good.pure (D := []) mixed (good0 _) Try.func19 (by kernel_rfl) rfl fun d args σ K h => ?_
  simp only [bin8] at h
  split at h <;> try exact h.elim
  rename_i a b
  obtain ⟨⟨ha, hb⟩, hK⟩ := h
  obtain ⟨x, hx, rfl⟩ := ha.nat
  obtain ⟨y, hy, rfl⟩ := hb.nat
  refine ⟨by simp [plain_int], _, plain_int _ _, hK, 0 + 1, ?_⟩
  rw [rAdd_vc]
  simp [fxor, bxor_u8 hx hy]

theorem gam7_good : GoodG Try.prog gam7 := by
  refine (gam6_good.ext good_rmul ?_).ext good_radd ?_
  · exact ⟨_, Try.func20, by decide, by kernel_rfl⟩
  · exact ⟨_, Try.func19, by decide, by kernel_rfl⟩

theorem rrow_l0 (R : AV → Mem → Prop) {c f : List Nat} (hc : ColN c) (hf : ColN f) {r : Nat} (hr : r < 4) : ∀ (d s : Nat), d ≤ 4 → s < 256 → (∀ σ, R (.one (.int .u8 ((ml c f r d (4 - d) s : Nat) : Int))) σ) → rrow.l0 R (r : Int) (intL c) (intL f) (d + 1) (s : Int) ((4 - d : Nat) : Int)
  | 0, s, _, hs, h => by
    rw [rrow.l0_succ]
    refine ⟨fun q => ?_, fun _ => h _⟩
    rw [ilt_true] at q; omega
  | d + 1, s, hd, hs, h => by
    rw [rrow.l0_succ]
    have e1 : rem (sub .i64 (add .i64 ((4 - (d + 1) : Nat) : Int) 4) (r : Int)) 4 = (((4 - (d + 1) + 4 - r) % 4 : Nat) : Int) := by
      rw [add_i64 (by omega) (by omega), sub_i64 (by omega) (by omega)]
      have : ((4 - (d + 1) : Nat) : Int) + 4 - (r : Int) = ((4 - (d + 1) + 4 - r : Nat) : Int) := by omega
      rw [this]
      show Int.tmod _ _ = _
      rw [Int.tmod_eq_emod_of_nonneg (by omega)]
      omega
    have e2 : add .i64 ((4 - (d + 1) : Nat) : Int) 1 = ((4 - d : Nat) : Int) := by rw [add_i64 (by omega) (by omega)]; omega
    rw [e1, e2]
    have n1 : nadd 0 (nat (((4 - (d + 1) + 4 - r) % 4 : Nat) : Int)) = (4 - (d + 1) + 4 - r) % 4 := by simp only [nadd, nat, Int.toNat_natCast]; omega
    have n2 : nadd 0 (nat ((4 - (d + 1) : Nat) : Int)) = 4 - (d + 1) := by simp only [nadd, nat, Int.toNat_natCast]; omega
    rw [n1, n2, lget_intL, lget_intL]
    have b1 := hf.at ((4 - (d + 1) + 4 - r) % 4)
    have b2 := hc.at (4 - (d + 1))
    simp only [ml] at h
    have hg : fmul ((f.getD ((4 - (d + 1) + 4 - r) % 4) 0 : Nat) : Int) ((c.getD (4 - (d + 1)) 0 : Nat) : Int) = ((gm (f.getD ((4 - (d + 1) + 4 - r) % 4) 0) (c.getD (4 - (d + 1)) 0) : Nat) : Int) := by simp [fmul]
    have b3 := gm_lt (b := c.getD (4 - (d + 1)) 0) b1
    rw [hg]
    have hx : ∀ g : Nat, fxor (s : Int) (g : Int) = ((s ^^^ g : Nat) : Int) := fun g => by simp [fxor]
    rw [hx]
    refine ⟨fun _ => ⟨⟨by decide⟩, ⟨by omega, by omega⟩, ⟨by omega⟩, ⟨by omega, by omega⟩, ⟨by omega⟩, ⟨Byte.of b1, Byte.of b2⟩, ⟨Byte.of hs, Byte.of b3⟩, ?_⟩, fun q => ?_⟩
    · refine rrow_l0 R hc hf hr d _ (by omega) (xor_lt hs b3) fun σ => ?_
      rw [show 4 - d = 4 - (d + 1) + 1 by omega]
      exact h σ
    · rw [ilt_false] at q; omega

theorem good_rrow : Sx.Good Try.prog 26 rowS := by
  refine Sx.Good.pure (D := []) mixed gam7_good Try.func26 (by kernel_rfl) rfl fun d args σ K h => ?_
  simp only [rowS] at h
  split at h <;> try exact h.elim
  rename_i c f k
  obtain ⟨⟨⟨hc, hf⟩, hk⟩, hK⟩ := h
  obtain ⟨x, hx, rfl⟩ := col_nat hc
  obtain ⟨y, hy, rfl⟩ := col_nat hf
  obtain ⟨r, rfl⟩ := Int.eq_ofNat_of_zero_le hk.lo
  have hr := hk.hi
  refine ⟨by simp [plain_int, plain_ints], _, plain_int _ _, hK, (4 + 1) + 1, ?_⟩
  rw [rrow_vc]
  refine rrow_l0 _ hx hy (by omega) 4 0 (by omega) (by omega) fun σ => ?_
  show AV.one (.int .u8 _) = _
  simp [frow, natL_intL, mix1]

theorem gam7r_good : GoodG Try.prog gam7r := gam7_good.ext good_rrow ⟨_, Try.func26, by decide, by kernel_rfl⟩

theorem low4 {k : Int} (h0 : 0 ≤ k) (h1 : k < 4) : Low4 k := ⟨h0, h1⟩

theorem good_rcolumn : Sx.Good Try.prog 9 (colS [2, 3, 1, 1]) := by
  refine Sx.Good.pure (D := []) mixed gam7r_good Try.func9 (by kernel_rfl) rfl fun d args σ K h => ?_
  simp only [colS] at h
  split at h <;> try exact h.elim
  rename_i c
  obtain ⟨hc, hK⟩ := h
  refine ⟨by simp [plain_int, plain_ints], _, plain_ints _ _ _, hK, (4 + 1) + 1, ?_⟩
  rw [rColumn_vc]
  have ef : lset (lset (lset (lset (lzeros 4) 0 2) 1 3) 2 1) 3 1 = [2, 3, 1, 1] := by decide
  have hf : FCol [2, 3, 1, 1] := col_of (a := 2) (b := 3) (c := 1) (d := 1) (by omega)
  have a0 : add .i64 0 1 = 1 := by decide
  have a1 : add .i64 1 1 = 2 := by decide
  have a2 : add .i64 2 1 = 3 := by decide
  have a3 : add .i64 3 1 = 4 := by decide
  have go : ∀ {i : Int} (h0 : 0 ≤ i) (h1 : i < 4) {x : List Int} {n : Nat}, rColumn.l0 (fun av' _ => av' = .agg [.ints .u8 4 (fmix c [2, 3, 1, 1])]) c n (add .i64 i 1) (lset x (nadd 0 (nat i)) (frow c [2, 3, 1, 1] i)) → rColumn.l0 (fun av' _ => av' = .agg [.ints .u8 4 (fmix c [2, 3, 1, 1])]) c (n + 1) i x := fun {i} h0 h1 {x n} h => by
    rw [rColumn.l0_succ, ef]
    refine ⟨fun _ => ⟨⟨by decide⟩, ⟨by decide⟩, ⟨by decide⟩, ⟨by decide⟩, ⟨⟨hc, hf⟩, low4 h0 h1⟩, ⟨h0, by omega⟩, ⟨by simp only [nadd, nat]; omega⟩, h⟩, fun q => ?_⟩
    rw [ilt_false] at q; omega
  refine go (by decide) (by decide) ?_
  rw [a0]
  refine go (by decide) (by decide) ?_
  rw [a1]
  refine go (by decide) (by decide) ?_
  rw [a2]
  refine go (by decide) (by decide) ?_
  rw [a3, rColumn.l0_succ]
  refine ⟨fun q => ?_, fun _ => rfl⟩
  rw [ilt_true] at q; omega

theorem good_runcolumn : Sx.Good Try.prog 11 (colS [14, 11, 13, 9]) := by
  refine Sx.Good.pure (D := []) mixed gam7r_good Try.func11 (by kernel_rfl) rfl fun d args σ K h => ?_
  simp only [colS] at h
  split at h <;> try exact h.elim
  rename_i c
  obtain ⟨hc, hK⟩ := h
  refine ⟨by simp [plain_int, plain_ints], _, plain_ints _ _ _, hK, (4 + 1) + 1, ?_⟩
  rw [rUncolumn_vc]
  have ef : lset (lset (lset (lset (lzeros 4) 0 14) 1 11) 2 13) 3 9 = [14, 11, 13, 9] := by decide
  have hf : FCol [14, 11, 13, 9] := col_of (a := 14) (b := 11) (c := 13) (d := 9) (by omega)
  have a0 : add .i64 0 1 = 1 := by decide
  have a1 : add .i64 1 1 = 2 := by decide
  have a2 : add .i64 2 1 = 3 := by decide
  have a3 : add .i64 3 1 = 4 := by decide
  have go : ∀ {i : Int} (h0 : 0 ≤ i) (h1 : i < 4) {x : List Int} {n : Nat}, rUncolumn.l0 (fun av' _ => av' = .agg [.ints .u8 4 (fmix c [14, 11, 13, 9])]) c n (add .i64 i 1) (lset x (nadd 0 (nat i)) (frow c [14, 11, 13, 9] i)) → rUncolumn.l0 (fun av' _ => av' = .agg [.ints .u8 4 (fmix c [14, 11, 13, 9])]) c (n + 1) i x := fun {i} h0 h1 {x n} h => by
    rw [rUncolumn.l0_succ, ef]
    refine ⟨fun _ => ⟨⟨by decide⟩, ⟨by decide⟩, ⟨by decide⟩, ⟨by decide⟩, ⟨⟨hc, hf⟩, low4 h0 h1⟩, ⟨h0, by omega⟩, ⟨by simp only [nadd, nat]; omega⟩, h⟩, fun q => ?_⟩
    rw [ilt_false] at q; omega
  refine go (by decide) (by decide) ?_
  rw [a0]
  refine go (by decide) (by decide) ?_
  rw [a1]
  refine go (by decide) (by decide) ?_
  rw [a2]
  refine go (by decide) (by decide) ?_
  rw [a3, rUncolumn.l0_succ]
  refine ⟨fun q => ?_, fun _ => rfl⟩
  rw [ilt_true] at q; omega

theorem gamCol_good : GoodG Try.prog gamCol := by
  refine (gam7r_good.ext good_rcolumn ?_).ext good_runcolumn ?_
  · exact ⟨_, Try.func9, by decide, by kernel_rfl⟩
  · exact ⟨_, Try.func11, by decide, by kernel_rfl⟩

theorem leq_self {l : List Int} : leq l l = true := leq_true.2 rfl

theorem fieldColumns_plain {c : List Int} (hc : FCol c) : Has (callsx Try.prog gamCol [] Try.f3 1 [.agg [.ints .u8 4 c]] [] Yes) := by
  constructor
  rw [FieldColumns_vc]
  have h0 : FCol (lset (lset (lset (lset (lzeros 4) 0 219) 1 19) 2 83) 3 69) := col_of (a := 219) (b := 19) (c := 83) (d := 69) (by omega)
  refine ⟨⟨by decide⟩, ⟨by decide⟩, ⟨by decide⟩, ⟨by decide⟩, ⟨by decide⟩, ⟨by decide⟩, ⟨by decide⟩, ⟨by decide⟩, h0, fun _ => ⟨hc, hc, fun _ => ⟨hc, hc, Or.inl ?_⟩, fun q => ?_⟩, fun q => by cases q⟩
  · rw [leq_self]
  · rw [leq_self] at q; cases q
end Go.Proofs.Ytccjkjpdgpeogaa.G
