/- The field's functions do what the plain mathematics says. -/
import Derived.Test.YtccjkjpdgpeogaaFieldG
namespace Go.Proofs.Ytccjkjpdgpeogaa.G
open Go Go.Sx Go.Fld
set_option linter.unusedSimpArgs false
set_option linter.unusedVariables false

theorem mixed : Try.prog.follows .mixedOrders = true := by kernel_rfl

theorem and128 : ∀ a, a < 256 → (a &&& 128 = 0 ↔ a < 128) := by decide +kernel
theorem xt_eq {a : Nat} (ha : a < 256) : xt a = if a < 128 then a * 2 ^ 1 % 256 else (a * 2 ^ 1 % 256) ^^^ 27 := by
  unfold xt
  split
  · omega
  · rw [show 2 * a - 256 = a * 2 ^ 1 % 256 by omega]

theorem mul_l0 (R : AV → Mem → Prop) : ∀ (d a b s : Nat), d ≤ 8 → a < 256 → b < 256 → s < 256 → R (.one (.int .u8 (gl d a b s : Nat))) [] → Mul.l0 R (d + 1) (a : Int) (b : Int) (s : Int) ((8 - d : Nat) : Int)
  | 0, a, b, s, _, ha, hb, hs, h => by
    rw [Mul.l0_succ]
    refine ⟨fun q => ?_, fun _ => h⟩
    rw [ilt_true] at q; omega
  | d + 1, a, b, s, hd, ha, hb, hs, h => by
    rw [Mul.l0_succ]
    have e1 : band .u8 (b : Int) 1 = ((b % 2 : Nat) : Int) := by
      rw [show (1 : Int) = ((1 : Nat) : Int) from rfl, band_u8 hb (by omega), Nat.and_one_is_mod]
    have e2 : band .u8 (a : Int) 128 = ((a &&& 128 : Nat) : Int) := by
      rw [show (128 : Int) = ((128 : Nat) : Int) from rfl, band_u8 ha (by omega)]
    have e3 : shl .u8 (a : Int) 1 = ((a * 2 ^ 1 % 256 : Nat) : Int) := shl_u8 (n := 1) (by omega)
    have e4 : shr .u8 (b : Int) 1 = ((b / 2 : Nat) : Int) := shr_u8 (n := 1) (by omega)
    have e5 : bxor .u8 (s : Int) (a : Int) = ((s ^^^ a : Nat) : Int) := bxor_u8 hs ha
    have hm : a * 2 ^ 1 % 256 < 256 := Nat.mod_lt _ (by omega)
    have e6 : bxor .u8 (((a * 2 ^ 1 % 256 : Nat) : Int)) 27 = (((a * 2 ^ 1 % 256) ^^^ 27 : Nat) : Int) := bxor_u8 (b := 27) hm (by omega)
    have e7 : add .i64 ((8 - (d + 1) : Nat) : Int) 1 = ((8 - d : Nat) : Int) := by rw [add_i64 (by omega) (by omega)]; omega
    have h128 := and128 a ha
    rw [e1, e2, e3, e4, e5, e6, e7]
    have go := fun a' s' ha' hs' hg => mul_l0 R d a' (b / 2) s' (by omega) ha' (by omega) hs' hg
    have hx := xt_eq ha
    have hxl := xt_lt ha
    simp only [gl] at h
    refine ⟨fun _ => ⟨fun q => ⟨⟨by decide⟩, ⟨by decide⟩, fun q' => ?_, fun q' => ?_⟩, fun q => ⟨⟨by decide⟩, ⟨by decide⟩, fun q' => ?_, fun q' => ?_⟩⟩, fun q => ?_⟩
    · rw [ieq_true] at q; rw [ine_true] at q'
      have c1 : b % 2 = 1 := by omega
      have c2 : ¬ a < 128 := by omega
      rw [if_neg c2] at hx
      rw [← hx] at *
      exact go _ _ hxl (xor_lt hs ha) (by simpa [c1] using h)
    · rw [ieq_true] at q; rw [ine_false] at q'
      have c1 : b % 2 = 1 := by omega
      have c2 : a < 128 := by omega
      rw [if_pos c2] at hx
      rw [← hx] at *
      exact go _ _ hxl (xor_lt hs ha) (by simpa [c1] using h)
    · rw [ieq_false] at q; rw [ine_true] at q'
      have c1 : ¬ b % 2 = 1 := by omega
      have c2 : ¬ a < 128 := by omega
      rw [if_neg c2] at hx
      rw [← hx] at *
      exact go _ _ hxl hs (by simpa [c1] using h)
    · rw [ieq_false] at q; rw [ine_false] at q'
      have c1 : ¬ b % 2 = 1 := by omega
      have c2 : a < 128 := by omega
      rw [if_pos c2] at hx
      rw [← hx] at *
      exact go _ _ hxl hs (by simpa [c1] using h)
    · rw [ilt_false] at q; omega

theorem good_mul : Sx.Good Try.prog 13 (bin8 fmul) := by
  refine Sx.Good.pure (D := []) mixed (good0 _) Try.func13 (by kernel_rfl) rfl fun d args σ K h => ?_
  simp only [bin8] at h
  split at h <;> try exact h.elim
  rename_i a b
  obtain ⟨⟨ha, hb⟩, hK⟩ := h
  obtain ⟨x, hx, rfl⟩ := ha.nat
  obtain ⟨y, hy, rfl⟩ := hb.nat
  refine ⟨by simp [plain_int], _, plain_int _ _, hK, 9 + 1, ?_⟩
  rw [Mul_vc]
  exact mul_l0 (fun av' _ => av' = .one (.int .u8 (fmul x y))) 8 x y 0 (by omega) hx hy (by omega) (by simp [fmul, gm])

theorem good_add : Sx.Good Try.prog 14 (bin8 fxor) := by
  refine Sx.Good.pure (D := []) mixed (good0 _) Try.func14 (by kernel_rfl) rfl fun d args σ K h => ?_
  simp only [bin8] at h
  split at h <;> try exact h.elim
  rename_i a b
  obtain ⟨⟨ha, hb⟩, hK⟩ := h
  obtain ⟨x, hx, rfl⟩ := ha.nat
  obtain ⟨y, hy, rfl⟩ := hb.nat
  refine ⟨by simp [plain_int], _, plain_int _ _, hK, 0 + 1, ?_⟩
  rw [fAdd_vc]
  simp [fxor, bxor_u8 hx hy]

theorem good_turned : Sx.Good Try.prog 27 turnS := by
  refine Sx.Good.pure (D := []) mixed (good0 _) Try.func27 (by kernel_rfl) rfl fun d args σ K h => ?_
  simp only [turnS] at h
  split at h <;> try exact h.elim
  rename_i a n
  obtain ⟨⟨ha, hn⟩, hK⟩ := h
  obtain ⟨x, hx, rfl⟩ := ha.nat
  obtain ⟨m, rfl⟩ := Int.eq_ofNat_of_zero_le hn.lo
  have hm : m ≤ 8 := by have := hn.hi; omega
  refine ⟨by simp [plain_int], _, plain_int _ _, hK, 0 + 1, ?_⟩
  rw [turned_vc]
  have e1 : sub .i64 8 (m : Int) = ((8 - m : Nat) : Int) := by rw [sub_i64 (by omega) (by omega)]; omega
  rw [e1, shl_u8 hm, shr_u8 (show 8 - m ≤ 8 by omega), bor_u8 (Nat.mod_lt _ (by decide)) (Nat.lt_of_le_of_lt (Nat.div_le_self _ _) hx)]
  exact ⟨⟨by omega⟩, ⟨by omega⟩, by simp [fturn, turn]⟩

theorem gam1_good : GoodG Try.prog gam1 := by
  refine ((GoodG.ext (good0 _) good_mul ?_).ext good_add ?_).ext good_turned ?_
  · exact ⟨_, Try.func13, by decide, by kernel_rfl⟩
  · exact ⟨_, Try.func14, by decide, by kernel_rfl⟩
  · exact ⟨_, Try.func27, by decide, by kernel_rfl⟩

theorem inv_l0 (R : AV → Mem → Prop) : ∀ (d p q : Nat), d ≤ 7 → p < 256 → q < 256 → R (.one (.int .u8 (il d p q : Nat))) [] → Inv.l0 R (d + 1) (p : Int) (q : Int) ((7 - d : Nat) : Int)
  | 0, p, q, _, hp, hq, h => by
    rw [Inv.l0_succ]
    refine ⟨fun c => ?_, fun _ => h⟩
    rw [ilt_true] at c; omega
  | d + 1, p, q, hd, hp, hq, h => by
    rw [Inv.l0_succ]
    have e7 : add .i64 ((7 - (d + 1) : Nat) : Int) 1 = ((7 - d : Nat) : Int) := by rw [add_i64 (by omega) (by omega)]; omega
    have e1 : fmul (q : Int) (q : Int) = (gm q q : Nat) := by simp [fmul]
    have e2 : fmul (p : Int) ((gm q q : Nat) : Int) = (gm p (gm q q) : Nat) := by simp [fmul]
    rw [e1, e2, e7]
    refine ⟨fun _ => ⟨⟨.of hq, .of hq⟩, ⟨.of hp, .of (gm_lt hq)⟩, inv_l0 R d _ _ (by omega) (gm_lt hp) (gm_lt hq) h⟩, fun c => ?_⟩
    rw [ilt_false] at c; omega

theorem good_inv : Sx.Good Try.prog 15 (un8 finv) := by
  refine Sx.Good.pure (D := []) mixed gam1_good Try.func15 (by kernel_rfl) rfl fun d args σ K h => ?_
  simp only [un8] at h
  split at h <;> try exact h.elim
  rename_i a
  obtain ⟨ha, hK⟩ := h
  obtain ⟨x, hx, rfl⟩ := ha.nat
  refine ⟨by simp [plain_int], _, plain_int _ _, hK, 8 + 1, ?_⟩
  rw [Inv_vc]
  exact inv_l0 (fun av' _ => av' = .one (.int .u8 (finv x))) 7 1 x (by omega) (by omega) hx (by simp [finv, gi])

theorem gam2_good : GoodG Try.prog gam2 := gam1_good.ext good_inv ⟨_, Try.func15, by decide, by kernel_rfl⟩

theorem fturn_nat (x n : Nat) : fturn (x : Int) (n : Int) = (turn x n : Nat) := by simp [fturn]

theorem good_sub : Sx.Good Try.prog 17 (un8 fsub) := by
  refine Sx.Good.pure (D := []) mixed gam2_good Try.func17 (by kernel_rfl) rfl fun d args σ K h => ?_
  simp only [un8] at h
  split at h <;> try exact h.elim
  rename_i a
  obtain ⟨ha, hK⟩ := h
  obtain ⟨x, hx, rfl⟩ := ha.nat
  refine ⟨by simp [plain_int], _, plain_int _ _, hK, 0 + 1, ?_⟩
  rw [Sub_vc]
  have hi := gi_lt x
  have e0 : finv (x : Int) = (gi x : Nat) := by simp [finv]
  have t : ∀ n : Nat, turn (gi x) n < 256 := fun n => turn_lt hi
  have e1 : fturn ((gi x : Nat) : Int) 1 = (turn (gi x) 1 : Nat) := fturn_nat _ 1
  have e2 : fturn ((gi x : Nat) : Int) 2 = (turn (gi x) 2 : Nat) := fturn_nat _ 2
  have e3 : fturn ((gi x : Nat) : Int) 3 = (turn (gi x) 3 : Nat) := fturn_nat _ 3
  have e4 : fturn ((gi x : Nat) : Int) 4 = (turn (gi x) 4 : Nat) := fturn_nat _ 4
  have e5 : ∀ y : Nat, y < 256 → bxor .u8 (y : Int) 99 = ((y ^^^ 99 : Nat) : Int) := fun y hy => bxor_u8 (b := 99) hy (by omega)
  rw [e0, e1, e2, e3, e4, bxor_u8 hi (t 1), bxor_u8 (xor_lt hi (t 1)) (t 2), bxor_u8 (xor_lt (xor_lt hi (t 1)) (t 2)) (t 3), bxor_u8 (xor_lt (xor_lt (xor_lt hi (t 1)) (t 2)) (t 3)) (t 4), e5 _ (xor_lt (xor_lt (xor_lt (xor_lt hi (t 1)) (t 2)) (t 3)) (t 4))]
  exact ⟨ha, ⟨.of hi, ⟨by decide, by decide⟩⟩, ⟨.of hi, ⟨by decide, by decide⟩⟩, ⟨.of hi, ⟨by decide, by decide⟩⟩, ⟨.of hi, ⟨by decide, by decide⟩⟩, by simp [fsub, gs]⟩

theorem good_unsub : Sx.Good Try.prog 18 (un8 funsub) := by
  refine Sx.Good.pure (D := []) mixed gam2_good Try.func18 (by kernel_rfl) rfl fun d args σ K h => ?_
  simp only [un8] at h
  split at h <;> try exact h.elim
  rename_i a
  obtain ⟨ha, hK⟩ := h
  obtain ⟨x, hx, rfl⟩ := ha.nat
  refine ⟨by simp [plain_int], _, plain_int _ _, hK, 0 + 1, ?_⟩
  rw [Unsub_vc]
  have t : ∀ n : Nat, turn x n < 256 := fun n => turn_lt hx
  have e1 : fturn (x : Int) 1 = (turn x 1 : Nat) := fturn_nat _ 1
  have e3 : fturn (x : Int) 3 = (turn x 3 : Nat) := fturn_nat _ 3
  have e6 : fturn (x : Int) 6 = (turn x 6 : Nat) := fturn_nat _ 6
  have e5 : ∀ y : Nat, y < 256 → bxor .u8 (y : Int) 5 = ((y ^^^ 5 : Nat) : Int) := fun y hy => bxor_u8 (b := 5) hy (by omega)
  have hx2 := xor_lt (xor_lt (t 1) (t 3)) (t 6)
  rw [e1, e3, e6, bxor_u8 (t 1) (t 3), bxor_u8 (xor_lt (t 1) (t 3)) (t 6), e5 _ hx2]
  exact ⟨⟨ha, ⟨by decide, by decide⟩⟩, ⟨ha, ⟨by decide, by decide⟩⟩, ⟨ha, ⟨by decide, by decide⟩⟩, .of (xor_lt hx2 (by decide)), by simp [funsub, gu, finv]⟩

theorem gam3_good : GoodG Try.prog gam3 :=
  (gam2_good.ext good_sub ⟨_, Try.func17, by decide, by kernel_rfl⟩).ext good_unsub ⟨_, Try.func18, by decide, by kernel_rfl⟩
end Go.Proofs.Ytccjkjpdgpeogaa.G
