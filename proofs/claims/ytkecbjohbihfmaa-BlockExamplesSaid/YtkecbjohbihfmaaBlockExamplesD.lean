/- Own texts of this proof, laid one behind the other: BlkP5, CellM, BlkB2, BlkH, BlkP6, BlkP7, BlkH2, BlkP8, BlkP9, BlkB3, BlkQ, BlkL, BitsM, BlkQ2, BlkL2, BlkQ3. -/
import Derived.Test.YtkecbjohbihfmaaBlockExamplesC

/- The document's keys and mixing. -/
namespace Go.Proofs.Ytkecbjohbihfmaa.G
open Go Go.Sx Go.Fld Go.Blk
set_option linter.unusedSimpArgs false
set_option linter.unusedVariables false

theorem good_rmixed : Sx.Good Try.prog 37 mixedS := by
  refine Sx.Good.pure (D := []) mixed gamB1_good Try.func37 (by kernel_rfl) rfl fun d args σ K h => ?_
  simp only [mixedS] at h
  split at h <;> try exact h.elim
  rename_i b
  obtain ⟨hb, hK⟩ := h
  refine ⟨by simp [plain_ints], _, plain_ints _ _ _, hK, (1 + 6 * 4) + 1, ?_⟩
  rw [rmixed_vc]
  have hF : ∀ k r, k < 4 → r < 4 → lget (fmix (lsub b ((4 * k + r) / 4 * 4) 4) [2, 3, 1, 1]) ((4 * k + r) % 4) = lget (fmix (lsub b (4 * k) 4) [2, 3, 1, 1]) r := fun k r hk hr => by
    rw [show (4 * k + r) / 4 * 4 = 4 * k by omega, show (4 * k + r) % 4 = r by omega]
  have key := loop_nby 4 (fun f i s => rmixed.l0 (fun av' _ => av' = .agg [.ints .u8 16 (qc [2, 3, 1, 1] b)]) b f i s) 4 (fun k => upto 16 (4 * k) (fun j => lget (fmix (lsub b (j / 4 * 4) 4) [2, 3, 1, 1]) (j % 4)) fun _ => 0) 6 1
    (fun g k hk hg => by
      rw [rmixed.l0_succ]
      refine ⟨fun _ => ?_, fun q => ?_⟩
      · have a1 : add .i64 ((4 * k : Nat) : Int) 1 = ((4 * k + 1 : Nat) : Int) := addN_i64 (b := 1) (by omega)
        have a2 : add .i64 ((4 * k : Nat) : Int) 2 = ((4 * k + 2 : Nat) : Int) := addN_i64 (b := 2) (by omega)
        have a3 : add .i64 ((4 * k : Nat) : Int) 3 = ((4 * k + 3 : Nat) : Int) := addN_i64 (b := 3) (by omega)
        have a4 : add .i64 ((4 * k : Nat) : Int) 4 = ((4 * (k + 1) : Nat) : Int) := addN_i64 (b := 4) (by omega)
        rw [a1, a2, a3]
        simp only [InB_iff, Low_iff, nat_cast, nadd_def, Nat.zero_add]
        refine ⟨⟨by omega, by omega⟩, by omega, ⟨by omega, by omega⟩, by omega, ⟨by omega, by omega⟩, by omega, ⟨by omega, by omega⟩, by omega, ?_⟩
        have key := fun z : Int => loop_n (fun f i s => rmixed.l1 (fun av' _ => av' = .agg [.ints .u8 16 (qc [2, 3, 1, 1] b)]) ((4 * k : Nat) : Int) (bxor .u8 (bxor .u8 (bxor .u8 (lget b (4 * k)) (lget b (4 * k + 1))) (lget b (4 * k + 2))) (lget b (4 * k + 3))) b z f i s) 4 (fun r => upto 16 (4 * k + r) (fun j => lget (fmix (lsub b (j / 4 * 4) 4) [2, 3, 1, 1]) (j % 4)) fun _ => 0) 1 (g + 1)
          (fun f r hr hf => by
            rw [rmixed.l1_succ]
            refine ⟨fun _ => ?_, fun q => ?_⟩
            · have b1 : add .i64 (r : Int) 1 = ((r + 1 : Nat) : Int) := addN_i64 (b := 1) (by omega)
              have b2 : rem ((r + 1 : Nat) : Int) 4 = (((r + 1) % 4 : Nat) : Int) := remN (b := 4)
              have b3 : add .i64 ((4 * k : Nat) : Int) (((r + 1) % 4 : Nat) : Int) = ((4 * k + (r + 1) % 4 : Nat) : Int) := addN_i64 (by omega)
              have b4 : add .i64 ((4 * k : Nat) : Int) (r : Int) = ((4 * k + r : Nat) : Int) := addN_i64 (by omega)
              rw [b1, b2, b3, b4]
              simp only [InB_iff, Low_iff, NeZ_iff, nat_cast, nadd_def, Nat.zero_add]
              refine ⟨⟨by omega, by omega⟩, by omega, ⟨by omega, by omega⟩, by omega, by decide, ⟨by omega, by omega⟩, by omega, byte_xor (hb.get _) (hb.get _), ⟨by omega, by omega⟩, by omega, ?_⟩
              rw [upto_lset (by rw [hF k r hk hr, mixed_at hb hk hr])]
              exact hf
            · rw [ilt_false] at q; omega)
          (by
            rw [rmixed.l1_succ]
            refine ⟨fun q => ?_, fun _ => ?_⟩
            · rw [ilt_true] at q; omega
            · rw [a4]; exact hg) 0 (Nat.zero_le _)
        exact key _
      · rw [ilt_false] at q; omega)
    (by
      rw [rmixed.l0_succ]
      refine ⟨fun q => ?_, fun _ => ?_⟩
      · rw [ilt_true] at q; omega
      · rw [show upto 16 (4 * 4) (fun j => lget (fmix (lsub b (j / 4 * 4) 4) [2, 3, 1, 1]) (j % 4)) (fun _ => (0 : Int)) = qc [2, 3, 1, 1] b from upto_done]) 0 (Nat.zero_le _)
  rw [lzeros_tab, ← upto_zero (F := fun j => lget (fmix (lsub b (j / 4 * 4) 4) [2, 3, 1, 1]) (j % 4))]
  exact key

theorem keys_round {R : AV → Mem → Prop} {b : List Int} (hb : BL 16 b) (g i : Nat) (h4 : 4 ≤ i) (hi : i < 44) (h : rKeys.l1 R g (rcon ((i + 1 - 1) / 4)) ((4 * (i + 1) : Nat) : Int) (upto 176 (4 * (i + 1)) (kp b) fun _ => 0)) :
    rKeys.l1 R (g + 1) (rcon ((i - 1) / 4)) ((4 * i : Nat) : Int) (upto 176 (4 * i) (kp b) fun _ => 0) := by
  have s4 : sub .i64 ((4 * i : Nat) : Int) 4 = ((4 * (i - 1) + 0 : Nat) : Int) := by rw [sub_i64 (by omega) (by omega)]; omega
  have s3 : sub .i64 ((4 * i : Nat) : Int) 3 = ((4 * (i - 1) + 1 : Nat) : Int) := by rw [sub_i64 (by omega) (by omega)]; omega
  have s2 : sub .i64 ((4 * i : Nat) : Int) 2 = ((4 * (i - 1) + 2 : Nat) : Int) := by rw [sub_i64 (by omega) (by omega)]; omega
  have s1 : sub .i64 ((4 * i : Nat) : Int) 1 = ((4 * (i - 1) + 3 : Nat) : Int) := by rw [sub_i64 (by omega) (by omega)]; omega
  have s16 : sub .i64 ((4 * i : Nat) : Int) 16 = ((4 * (i - 4) + 0 : Nat) : Int) := by rw [sub_i64 (by omega) (by omega)]; omega
  have s15 : sub .i64 ((4 * i : Nat) : Int) 15 = ((4 * (i - 4) + 1 : Nat) : Int) := by rw [sub_i64 (by omega) (by omega)]; omega
  have s14 : sub .i64 ((4 * i : Nat) : Int) 14 = ((4 * (i - 4) + 2 : Nat) : Int) := by rw [sub_i64 (by omega) (by omega)]; omega
  have s13 : sub .i64 ((4 * i : Nat) : Int) 13 = ((4 * (i - 4) + 3 : Nat) : Int) := by rw [sub_i64 (by omega) (by omega)]; omega
  have a1 : add .i64 ((4 * i : Nat) : Int) 1 = ((4 * i + 1 : Nat) : Int) := by rw [add_i64 (by omega) (by omega)]; omega
  have a2 : add .i64 ((4 * i : Nat) : Int) 2 = ((4 * i + 2 : Nat) : Int) := by rw [add_i64 (by omega) (by omega)]; omega
  have a3 : add .i64 ((4 * i : Nat) : Int) 3 = ((4 * i + 3 : Nat) : Int) := by rw [add_i64 (by omega) (by omega)]; omega
  have a4 : add .i64 ((4 * i : Nat) : Int) 4 = ((4 * (i + 1) : Nat) : Int) := by rw [add_i64 (by omega) (by omega)]; omega
  have er : rem ((4 * i : Nat) : Int) 16 = ((4 * i % 16 : Nat) : Int) := remN (b := 16)
  have hw : ∀ m j, m < i → j < 4 → lget (upto 176 (4 * i) (kp b) fun _ => 0) (4 * m + j) = kw b m j := fun m j hm hj => word_get (by omega) (by omega) hj
  have hx : ∀ (j : Nat), j < 4 → ∃ n : Nat, n < 256 ∧ kw b (i - 1) j = (n : Int) := fun j hj => (kw_byte hb (i - 1) j hj).nat
  have hbox : ∀ j, j < 4 → InB (kw b (i - 1) j) 256 ∧ sget boxC (nat (kw b (i - 1) j)) = fsub (kw b (i - 1) j) := fun j hj => by
    obtain ⟨n, hn, e⟩ := hx j hj
    rw [e, nat_cast]; exact ⟨⟨by omega, by omega⟩, box_at n hn⟩
  have e1 : lset (upto 176 (4 * i) (kp b) fun _ => 0) (4 * i) (kw b i 0) = upto 176 (4 * i + 1) (kp b) fun _ => 0 := lset_word (i := i) (j := 0) (by decide) rfl
  have e2 : lset (upto 176 (4 * i + 1) (kp b) fun _ => 0) (4 * i + 1) (kw b i 1) = upto 176 (4 * i + 2) (kp b) fun _ => 0 := lset_word (i := i) (j := 1) (by decide) rfl
  have e3 : lset (upto 176 (4 * i + 2) (kp b) fun _ => 0) (4 * i + 2) (kw b i 2) = upto 176 (4 * i + 3) (kp b) fun _ => 0 := lset_word (i := i) (j := 2) (by decide) rfl
  have e4 : lset (upto 176 (4 * i + 3) (kp b) fun _ => 0) (4 * i + 3) (kw b i 3) = upto 176 (4 * (i + 1)) (kp b) fun _ => 0 := lset_word (i := i) (j := 3) (by decide) rfl
  have g0 : lget (upto 176 (4 * i) (kp b) fun _ => 0) (4 * (i - 4) + 0) = kw b (i - 4) 0 := hw _ _ (by omega) (by decide)
  have g1 : lget (upto 176 (4 * i + 1) (kp b) fun _ => 0) (4 * (i - 4) + 1) = kw b (i - 4) 1 := word_get (by omega) (by omega) (by decide)
  have g2 : lget (upto 176 (4 * i + 2) (kp b) fun _ => 0) (4 * (i - 4) + 2) = kw b (i - 4) 2 := word_get (by omega) (by omega) (by decide)
  have g3 : lget (upto 176 (4 * i + 3) (kp b) fun _ => 0) (4 * (i - 4) + 3) = kw b (i - 4) 3 := word_get (by omega) (by omega) (by decide)
  have w0 := hw (i - 1) 0 (by omega) (by decide)
  have w1 := hw (i - 1) 1 (by omega) (by decide)
  have w2 := hw (i - 1) 2 (by omega) (by decide)
  have w3 := hw (i - 1) 3 (by omega) (by decide)
  rw [rKeys.l1_succ]
  refine ⟨fun _ => ?_, fun q => ?_⟩
  · simp only [s4, s3, s2, s1, s16, s15, s14, s13, a1, a2, a3, a4, er, nat_cast, nadd_def, Nat.zero_add, Low_iff, NeZ_iff]
    have hI : ∀ m j, m ≤ i → j < 4 → InB ((4 * m + j : Nat) : Int) 176 ∧ 4 * m + j < 176 := fun m j hm hj => ⟨⟨by omega, by omega⟩, by omega⟩
    refine ⟨(hI (i - 1) 0 (by omega) (by decide)).1, (hI (i - 1) 0 (by omega) (by decide)).2, (hI (i - 1) 1 (by omega) (by decide)).1, (hI (i - 1) 1 (by omega) (by decide)).2, (hI (i - 1) 2 (by omega) (by decide)).1, (hI (i - 1) 2 (by omega) (by decide)).2, (hI (i - 1) 3 (by omega) (by decide)).1, (hI (i - 1) 3 (by omega) (by decide)).2, by decide, fun q => ?_, fun q => ?_⟩
    · rw [ieq_true] at q
      have q4 : i % 4 = 0 := by omega
      have kt0 : ∀ j, kt i (kw b (i - 1)) j = if j = 0 then bxor .u8 (fsub (kw b (i - 1) 1)) (rcon ((i - 1) / 4)) else fsub (kw b (i - 1) ((j + 1) % 4)) := fun j => by
        unfold kt; rw [if_pos q4, show i / 4 - 1 = (i - 1) / 4 by omega]
      have k0 : bxor .u8 (kw b (i - 4) 0) (bxor .u8 (fsub (kw b (i - 1) 1)) (rcon ((i - 1) / 4))) = kw b i 0 := by rw [kw_hi b h4 (by decide : 0 < 4), kt0]; rfl
      have k1 : bxor .u8 (kw b (i - 4) 1) (fsub (kw b (i - 1) 2)) = kw b i 1 := by rw [kw_hi b h4 (by decide : 1 < 4), kt0]; rfl
      have k2 : bxor .u8 (kw b (i - 4) 2) (fsub (kw b (i - 1) 3)) = kw b i 2 := by rw [kw_hi b h4 (by decide : 2 < 4), kt0]; rfl
      have k3 : bxor .u8 (kw b (i - 4) 3) (fsub (kw b (i - 1) 0)) = kw b i 3 := by rw [kw_hi b h4 (by decide : 3 < 4), kt0]; rfl
      simp only [w0, w1, w2, w3, (hbox 0 (by decide)).2, (hbox 1 (by decide)).2, (hbox 2 (by decide)).2, (hbox 3 (by decide)).2, g0, k0, e1, g1, k1, e2, g2, k2, e3, g3, k3, e4]
      have hr2 : fmul 2 (rcon ((i - 1) / 4)) = rcon ((i + 1 - 1) / 4) := by
        rw [show (i + 1 - 1) / 4 = (i - 1) / 4 + 1 by omega]; rfl
      rw [hr2]
      exact ⟨(hbox 1 (by decide)).1, (hbox 2 (by decide)).1, (hbox 3 (by decide)).1, (hbox 0 (by decide)).1, rcon_byte _, (hI (i - 4) 0 (by omega) (by decide)).1, (hI (i - 4) 0 (by omega) (by decide)).2, (hI i 0 (by omega) (by decide)).1, (hI i 0 (by omega) (by decide)).2, (hI (i - 4) 1 (by omega) (by decide)).1, (hI (i - 4) 1 (by omega) (by decide)).2, (hI i 1 (by omega) (by decide)).1, (hI i 1 (by omega) (by decide)).2, (hI (i - 4) 2 (by omega) (by decide)).1, (hI (i - 4) 2 (by omega) (by decide)).2, (hI i 2 (by omega) (by decide)).1, (hI i 2 (by omega) (by decide)).2, (hI (i - 4) 3 (by omega) (by decide)).1, (hI (i - 4) 3 (by omega) (by decide)).2, (hI i 3 (by omega) (by decide)).1, (hI i 3 (by omega) (by decide)).2, h⟩
    · rw [ieq_false] at q
      have q4 : ¬ i % 4 = 0 := by omega
      have kt0 : ∀ j, kt i (kw b (i - 1)) j = kw b (i - 1) j := fun j => by unfold kt; rw [if_neg q4]
      have k0 : bxor .u8 (kw b (i - 4) 0) (kw b (i - 1) 0) = kw b i 0 := by rw [kw_hi b h4 (by decide : 0 < 4), kt0]
      have k1 : bxor .u8 (kw b (i - 4) 1) (kw b (i - 1) 1) = kw b i 1 := by rw [kw_hi b h4 (by decide : 1 < 4), kt0]
      have k2 : bxor .u8 (kw b (i - 4) 2) (kw b (i - 1) 2) = kw b i 2 := by rw [kw_hi b h4 (by decide : 2 < 4), kt0]
      have k3 : bxor .u8 (kw b (i - 4) 3) (kw b (i - 1) 3) = kw b i 3 := by rw [kw_hi b h4 (by decide : 3 < 4), kt0]
      simp only [w0, w1, w2, w3, g0, k0, e1, g1, k1, e2, g2, k2, e3, g3, k3, e4]
      rw [show (i - 1) / 4 = (i + 1 - 1) / 4 by omega]
      exact ⟨(hI (i - 4) 0 (by omega) (by decide)).1, (hI (i - 4) 0 (by omega) (by decide)).2, (hI i 0 (by omega) (by decide)).1, (hI i 0 (by omega) (by decide)).2, (hI (i - 4) 1 (by omega) (by decide)).1, (hI (i - 4) 1 (by omega) (by decide)).2, (hI i 1 (by omega) (by decide)).1, (hI i 1 (by omega) (by decide)).2, (hI (i - 4) 2 (by omega) (by decide)).1, (hI (i - 4) 2 (by omega) (by decide)).2, (hI i 2 (by omega) (by decide)).1, (hI i 2 (by omega) (by decide)).2, (hI (i - 4) 3 (by omega) (by decide)).1, (hI (i - 4) 3 (by omega) (by decide)).2, (hI i 3 (by omega) (by decide)).1, (hI i 3 (by omega) (by decide)).2, h⟩
  · rw [ilt_false] at q; omega

theorem good_rkeys : Sx.Good Try.prog 28 keysS := by
  refine Sx.Good.pure (D := []) mixed gamB1_good Try.func28 (by kernel_rfl) rfl fun d args σ K h => ?_
  simp only [keysS] at h
  split at h <;> try exact h.elim
  rename_i b
  obtain ⟨hb, hK⟩ := h
  refine ⟨by simp [plain_ints], _, plain_ints _ _ _, hK, (1 + 1 * (44 - 4)) + 1 + 1 * 16 + 1, ?_⟩
  rw [rKeys_vc]
  have key := loop_n (fun f i s => rKeys.l0 (fun av' _ => av' = .agg [.ints .u8 176 (ks b)]) b f i s) 16 (fun i => upto 176 i (kp b) fun _ => 0) 1 ((1 + 1 * (44 - 4)) + 1)
    (fun g i hi hg => by
      rw [rKeys.l0_succ]
      refine ⟨fun _ => ?_, fun q => ?_⟩
      · simp only [InB_iff, Low_iff, nat_cast, nadd_def, Nat.zero_add]
        refine ⟨by omega, hi, by omega, by omega, ?_⟩
        have e : kp b i = lget b i := by unfold kp; rw [kw_lo _ _ (by omega), show 4 * (i / 4) + i % 4 = i by omega]
        rw [add1_i64 (by omega), upto_lset e.symm]
        exact hg
      · rw [ilt_false] at q; omega)
    (by
      rw [rKeys.l0_succ]
      refine ⟨fun q => ?_, fun _ => ?_⟩
      · rw [ilt_true] at q; omega
      · refine loop_from (fun f i s => rKeys.l1 (fun av' _ => av' = .agg [.ints .u8 176 (ks b)]) f s.1 ((4 * i.toNat : Nat) : Int) s.2) 4 44 (fun i => (rcon ((i - 1) / 4), upto 176 (4 * i) (kp b) fun _ => 0)) 1 1 (fun g i h4 hi hg => keys_round hb g i h4 hi hg) ?_ 4 (by decide) (by decide)
        show rKeys.l1 _ (0 + 1) _ (((4 * 44 : Nat) : Int)) _
        rw [rKeys.l1_succ]
        refine ⟨fun q => ?_, fun _ => ?_⟩
        · rw [ilt_true] at q; omega
        · show AV.agg [.ints .u8 176 (upto 176 176 (kp b) fun _ => 0)] = _
          rw [upto_done]; rfl) 0 (Nat.zero_le _)
  rw [lzeros_tab, ← upto_zero (F := kp b)]
  exact key

theorem gamB2_good : GoodG Try.prog gamB2 :=
  (((((gamB1_good.ext good_with ⟨_, Try.func29, by decide, by kernel_rfl⟩).ext good_turned' ⟨_, Try.func30, by decide, by kernel_rfl⟩).ext good_each ⟨_, Try.func31, by decide, by kernel_rfl⟩).ext good_columns ⟨_, Try.func33, by decide, by kernel_rfl⟩).ext good_new ⟨_, Try.func10, by decide, by kernel_rfl⟩).ext good_next ⟨_, Try.func39, by decide, by kernel_rfl⟩
theorem gamB3_good : GoodG Try.prog gamB3 :=
  ((((gamB2_good.ext good_rkeys ⟨_, Try.func28, by decide, by kernel_rfl⟩).ext good_radded ⟨_, Try.func36, by decide, by kernel_rfl⟩).ext good_rmixed ⟨_, Try.func37, by decide, by kernel_rfl⟩).ext good_rback ⟨_, Try.func35, by decide, by kernel_rfl⟩).ext good_rnext ⟨_, Try.func40, by decide, by kernel_rfl⟩
end Go.Proofs.Ytkecbjohbihfmaa.G

/- Words for lists of bytes in memory. -/
namespace Go.Sx
structure Short (l : List Int) : Prop where
  le : l.length ≤ 140737488355328
end Go.Sx

/- What is known of the block cipher's outer functions. -/
namespace Go.Blk
/-- the round keys' number i, noughts outside -/
def rkI (w : List Int) (i : Int) : List Int := if i < 0 ∨ 10 < i then Sx.lzeros 16 else rk w i.toNat
/-- the key stream's first n bytes, none outside 0 to 65536 -/
def strmI (w s : List Int) (n : Int) : List Int := if n < 0 ∨ 65536 < n then [] else mask w s (Sx.lzeros n.toNat)
end Go.Blk
namespace Go.Sx
open Go.Fld Go.Blk

/-- the substitution, by the field or by a table -/
def fnS (σ : Mem) (x : AV) (K : Prop) : Prop :=
  match conFn x with
  | some g => match Nat.beq g 25 with
    | true => K
    | false => False
  | none => match isTold x with
    | some n => match Mem.find σ n with
      | some b => match b.segs with
        | [.ints .u8 256 t] => Tbl t ∧ K
        | _ => False
      | none => False
    | none => False
def encryptedS : Spec := ⟨0, false, fun _ args σ K => match args with
  | [.agg [.ints .u8 176 w], .agg [.ints .u8 16 b], x] => fnS σ x ((BL 176 w ∧ BL 16 b) ∧ K (.agg [.ints .u8 16 (enc w b)]) σ)
  | _ => False⟩
def encS : Spec := ⟨0, false, fun _ args σ K => match args with
  | [.agg [.ints .u8 176 w], .agg [.ints .u8 16 b]] => (BL 176 w ∧ BL 16 b) ∧ K (.agg [.ints .u8 16 (enc w b)]) σ
  | _ => False⟩
def decS : Spec := ⟨0, false, fun _ args σ K => match args with
  | [.agg [.ints .u8 176 w], .agg [.ints .u8 16 b]] => (BL 176 w ∧ BL 16 b) ∧ K (.agg [.ints .u8 16 (dec w b)]) σ
  | _ => False⟩
def roundS : Spec := ⟨0, false, fun _ args σ K => match args with
  | [.agg [.ints .u8 176 w], .one (.int .i64 i)] => BL 176 w ∧ K (.agg [.ints .u8 16 (rkI w i)]) σ
  | _ => False⟩
def kencS : Spec := ⟨0, false, fun _ args σ K => match args with
  | [.agg [.ints .u8 16 k], .agg [.ints .u8 16 b]] => (BL 16 k ∧ BL 16 b) ∧ K (.agg [.ints .u8 16 (enc (ks k) b)]) σ
  | _ => False⟩
def kdecS : Spec := ⟨0, false, fun _ args σ K => match args with
  | [.agg [.ints .u8 16 k], .agg [.ints .u8 16 b]] => (BL 16 k ∧ BL 16 b) ∧ K (.agg [.ints .u8 16 (dec (ks k) b)]) σ
  | _ => False⟩
def kroundS : Spec := ⟨0, false, fun _ args σ K => match args with
  | [.agg [.ints .u8 16 k], .one (.int .i64 i)] => BL 16 k ∧ K (.agg [.ints .u8 16 (rkI (ks k) i)]) σ
  | _ => False⟩
def maskS : Spec := ⟨1, false, fun d args σ K => match args with
  | [.agg [.ints .u8 16 k], .agg [.ints .u8 16 s], x] => rdb σ x fun p => ((BL 16 k ∧ BL 16 s) ∧ (Short p ∧ Bs p)) ∧ K (.one (.vec d)) (Mem.ins d (.vec [.ints .u8 (mask (ks k) s p)]) σ)
  | _ => False⟩
def streamS : Spec := ⟨1, false, fun d args σ K => match args with
  | [.agg [.ints .u8 16 k], .agg [.ints .u8 16 s], .one (.int .i64 n)] => (BL 16 k ∧ BL 16 s) ∧ K (.one (.vec d)) (Mem.ins d (.vec [.ints .u8 (strmI (ks k) s n)]) σ)
  | _ => False⟩

def gamB4 : Gam := ext (ext gamB3 27 encryptedS) 15 encS
def gamB5 : Gam := ext (ext (ext (ext (ext (ext gamB4 11 encS) 13 decS) 16 roundS) 12 kencS) 14 kdecS) 17 kroundS
def gamB6 : Gam := ext (ext gamB5 18 maskS) 19 maskS
def gamB7 : Gam := ext (ext gamB6 20 streamS) 21 streamS
end Go.Sx

/- The verification conditions of functions, printed by a program of this session out of their codes. -/
namespace Go.Proofs.Ytkecbjohbihfmaa.G
open Go Go.Sx Go.Fld Go.Blk
set_option linter.unusedVariables false
set_option maxRecDepth 100000

def encS.l0 (R : AV → Mem → Prop) (w : List Int) (fuel : Nat) (x0 : Int) (x1 : List Int) : Prop := run Try.prog gamB2 [] (resh Try.prog [] Try.f27.results.toList R) fuel [.code (cAt (bodyOf Try.f27) [1, 1, 0, 1, 0, 0]), .inLoop (cAt (bodyOf Try.f27) [1, 1, 0, 1, 0, 0]), .inBlock 0, .code (cAt (bodyOf Try.f27) [1, 1, 1])] [AV.undef, AV.undef, (AV.one (AC.con (Value.func (Fn.func 25) (List.toArray []) (List.toArray [])))), (AV.one (AC.ptr 3 0 0)), AV.undef, AV.undef, (AV.one (AC.ptr 6 0 0)), (AV.one (AC.ptr 7 0 0)), (AV.one (AC.int IntKind.i64 x0)), AV.undef, AV.undef, AV.undef, AV.undef, AV.undef, AV.undef, AV.undef, AV.undef, AV.undef, AV.undef, AV.undef, AV.undef, AV.undef, AV.undef, AV.undef, AV.undef, AV.undef, AV.undef, AV.undef, AV.undef, AV.undef, AV.undef, AV.undef, (AV.tup [])] [(3, Blk.own 28 [(Seg.ints IntKind.u8 176 w)]), (6, Blk.own 22 [(Seg.ints IntKind.u8 16 (lzeros 16))]), (7, Blk.own 25 [(Seg.ints IntKind.u8 16 x1)])]

theorem encS.l0_succ (R : AV → Mem → Prop) (w : List Int) (fuel : Nat) (x0 : Int) (x1 : List Int) : encS.l0 R w (fuel + 1) x0 x1 = (((((ile x0 10) = true) → ((Go.Blk.BL 16 x1) ∧ (((Go.Blk.BL 16 (Go.Blk.qe fsub x1)) ∧ (InB 1 4)) ∧ ((((ilt x0 10) = true) → ((Go.Blk.BL 16 (Go.Blk.qt 1 (Go.Blk.qe fsub x1))) ∧ ((InB x0 11) ∧ ((Fits (nadd (nadd 0 (nmul (nat x0) 16)) 16) 176) ∧ (((Go.Blk.BL 16 (Go.Blk.qc [2, 3, 1, 1] (Go.Blk.qt 1 (Go.Blk.qe fsub x1)))) ∧ (Go.Blk.BL 16 (lsub w (nadd 0 (nmul (nat x0) 16)) 16))) ∧ (encS.l0 R w fuel (add IntKind.i64 x0 1) (Go.Blk.qx (Go.Blk.qc [2, 3, 1, 1] (Go.Blk.qt 1 (Go.Blk.qe fsub x1))) (lsub w (nadd 0 (nmul (nat x0) 16)) 16)))))))) ∧ (((ilt x0 10) = false) → ((InB x0 11) ∧ ((Fits (nadd (nadd 0 (nmul (nat x0) 16)) 16) 176) ∧ (((Go.Blk.BL 16 (Go.Blk.qt 1 (Go.Blk.qe fsub x1))) ∧ (Go.Blk.BL 16 (lsub w (nadd 0 (nmul (nat x0) 16)) 16))) ∧ (encS.l0 R w fuel (add IntKind.i64 x0 1) (Go.Blk.qx (Go.Blk.qt 1 (Go.Blk.qe fsub x1)) (lsub w (nadd 0 (nmul (nat x0) 16)) 16))))))))))) ∧ (((ile x0 10) = false) → (R (AV.agg [(Seg.ints IntKind.u8 16 x1)]) [(3, Blk.own 28 [(Seg.ints IntKind.u8 176 w)]), (6, Blk.own 22 [(Seg.ints IntKind.u8 16 x1)]), (7, Blk.own 25 [(Seg.ints IntKind.u8 16 x1)])])))) := by kernel_rfl
theorem encS.l0_zero (R : AV → Mem → Prop) (w : List Int) (x0 : Int) (x1 : List Int) : encS.l0 R w 0 x0 x1 = False := by kernel_rfl

theorem encS_vc (R : AV → Mem → Prop) (fuel : Nat) (w : List Int) (b : List Int) : callsx Try.prog gamB2 [] Try.f27 (fuel + 1) [.agg [.ints .u8 176 w], .agg [.ints .u8 16 b], .one (.con (.func (.func 25) #[] #[]))] [] R = (((InB 0 11) ∧ ((Fits 16 176) ∧ (((Go.Blk.BL 16 b) ∧ (Go.Blk.BL 16 (lsub w 0 16))) ∧ (encS.l0 R w fuel 1 (Go.Blk.qx b (lsub w 0 16))))))) := by kernel_rfl

def encT.l0 (R : AV → Mem → Prop) (w : List Int) (t : List Int) (fuel : Nat) (x0 : Int) (x1 : List Int) : Prop := run Try.prog gamB2 [] (resh Try.prog [] Try.f27.results.toList R) fuel [.code (cAt (bodyOf Try.f27) [1, 1, 0, 1, 0, 0]), .inLoop (cAt (bodyOf Try.f27) [1, 1, 0, 1, 0, 0]), .inBlock 0, .code (cAt (bodyOf Try.f27) [1, 1, 1])] [AV.undef, AV.undef, (AV.one (AC.clo 38 200002 0 0)), (AV.one (AC.ptr 3 0 0)), AV.undef, AV.undef, (AV.one (AC.ptr 6 0 0)), (AV.one (AC.ptr 7 0 0)), (AV.one (AC.int IntKind.i64 x0)), AV.undef, AV.undef, AV.undef, AV.undef, AV.undef, AV.undef, AV.undef, AV.undef, AV.undef, AV.undef, AV.undef, AV.undef, AV.undef, AV.undef, AV.undef, AV.undef, AV.undef, AV.undef, AV.undef, AV.undef, AV.undef, AV.undef, AV.undef, (AV.tup [])] [(3, Blk.own 28 [(Seg.ints IntKind.u8 176 w)]), (6, Blk.own 22 [(Seg.ints IntKind.u8 16 (lzeros 16))]), (7, Blk.own 25 [(Seg.ints IntKind.u8 16 x1)]), (200002, Blk.view [(Seg.ints IntKind.u8 256 t)])]

theorem encT.l0_succ (R : AV → Mem → Prop) (w : List Int) (t : List Int) (fuel : Nat) (x0 : Int) (x1 : List Int) : encT.l0 R w t (fuel + 1) x0 x1 = (((((ile x0 10) = true) → ((Tbl t) ∧ ((Go.Blk.BL 16 x1) ∧ (((Go.Blk.BL 16 (Go.Blk.qe fsub x1)) ∧ (InB 1 4)) ∧ ((((ilt x0 10) = true) → ((Go.Blk.BL 16 (Go.Blk.qt 1 (Go.Blk.qe fsub x1))) ∧ ((InB x0 11) ∧ ((Fits (nadd (nadd 0 (nmul (nat x0) 16)) 16) 176) ∧ (((Go.Blk.BL 16 (Go.Blk.qc [2, 3, 1, 1] (Go.Blk.qt 1 (Go.Blk.qe fsub x1)))) ∧ (Go.Blk.BL 16 (lsub w (nadd 0 (nmul (nat x0) 16)) 16))) ∧ (encT.l0 R w t fuel (add IntKind.i64 x0 1) (Go.Blk.qx (Go.Blk.qc [2, 3, 1, 1] (Go.Blk.qt 1 (Go.Blk.qe fsub x1))) (lsub w (nadd 0 (nmul (nat x0) 16)) 16)))))))) ∧ (((ilt x0 10) = false) → ((InB x0 11) ∧ ((Fits (nadd (nadd 0 (nmul (nat x0) 16)) 16) 176) ∧ (((Go.Blk.BL 16 (Go.Blk.qt 1 (Go.Blk.qe fsub x1))) ∧ (Go.Blk.BL 16 (lsub w (nadd 0 (nmul (nat x0) 16)) 16))) ∧ (encT.l0 R w t fuel (add IntKind.i64 x0 1) (Go.Blk.qx (Go.Blk.qt 1 (Go.Blk.qe fsub x1)) (lsub w (nadd 0 (nmul (nat x0) 16)) 16)))))))))))) ∧ (((ile x0 10) = false) → (R (AV.agg [(Seg.ints IntKind.u8 16 x1)]) [(3, Blk.own 28 [(Seg.ints IntKind.u8 176 w)]), (6, Blk.own 22 [(Seg.ints IntKind.u8 16 x1)]), (7, Blk.own 25 [(Seg.ints IntKind.u8 16 x1)]), (200002, Blk.view [(Seg.ints IntKind.u8 256 t)])])))) := by kernel_rfl
theorem encT.l0_zero (R : AV → Mem → Prop) (w : List Int) (t : List Int) (x0 : Int) (x1 : List Int) : encT.l0 R w t 0 x0 x1 = False := by kernel_rfl

theorem encT_vc (R : AV → Mem → Prop) (fuel : Nat) (w : List Int) (b : List Int) (t : List Int) : callsx Try.prog gamB2 [] Try.f27 (fuel + 1) [.agg [.ints .u8 176 w], .agg [.ints .u8 16 b], .one (.clo 38 200002 0 0)] [(200002, .view [.ints .u8 256 t])] R = (((InB 0 11) ∧ ((Fits 16 176) ∧ (((Go.Blk.BL 16 b) ∧ (Go.Blk.BL 16 (lsub w 0 16))) ∧ (encT.l0 R w t fuel 1 (Go.Blk.qx b (lsub w 0 16))))))) := by kernel_rfl

theorem bEnc_vc (R : AV → Mem → Prop) (fuel : Nat) (w : List Int) (b : List Int) : callsx Try.prog gamB4 [] Try.f11 (fuel + 1) [.agg [.ints .u8 176 w], .agg [.ints .u8 16 b]] [] R = ((((Go.Blk.BL 176 w) ∧ (Go.Blk.BL 16 b)) ∧ (R (AV.agg [(Seg.ints IntKind.u8 16 (Go.Blk.enc w b))]) [(2, Blk.own 28 [(Seg.ints IntKind.u8 176 w)]), (3, Blk.own 22 [(Seg.ints IntKind.u8 16 b)]), (4, Blk.own 22 [(Seg.ints IntKind.u8 16 (Go.Blk.enc w b))])]))) := by kernel_rfl

def bDec.l0 (R : AV → Mem → Prop) (w : List Int) (fuel : Nat) (x0 : Int) (x1 : List Int) : Prop := run Try.prog gamB2 [] (resh Try.prog [] Try.f13.results.toList R) fuel [.code (cAt (bodyOf Try.f13) [1, 1, 0, 1, 0, 0]), .inLoop (cAt (bodyOf Try.f13) [1, 1, 0, 1, 0, 0]), .inBlock 0, .code (cAt (bodyOf Try.f13) [1, 1, 1])] [AV.undef, AV.undef, (AV.one (AC.ptr 2 0 0)), AV.undef, (AV.one (AC.ptr 4 0 0)), (AV.one (AC.ptr 5 0 0)), (AV.one (AC.int IntKind.i64 x0)), AV.undef, AV.undef, AV.undef, AV.undef, AV.undef, AV.undef, AV.undef, AV.undef, AV.undef, AV.undef, AV.undef, AV.undef, AV.undef, AV.undef, AV.undef, AV.undef, AV.undef, AV.undef, AV.undef, AV.undef, AV.undef, AV.undef, (AV.tup [])] [(2, Blk.own 28 [(Seg.ints IntKind.u8 176 w)]), (4, Blk.own 22 [(Seg.ints IntKind.u8 16 (lzeros 16))]), (5, Blk.own 25 [(Seg.ints IntKind.u8 16 x1)])]

theorem bDec.l0_succ (R : AV → Mem → Prop) (w : List Int) (fuel : Nat) (x0 : Int) (x1 : List Int) : bDec.l0 R w (fuel + 1) x0 x1 = (((((ige x0 1) = true) → ((InB (sub IntKind.i64 x0 1) 11) ∧ ((Fits (nadd (nadd 0 (nmul (nat (sub IntKind.i64 x0 1)) 16)) 16) 176) ∧ (((Go.Blk.BL 16 x1) ∧ (InB 3 4)) ∧ ((Go.Blk.BL 16 (Go.Blk.qt 3 x1)) ∧ (((Go.Blk.BL 16 (Go.Blk.qe funsub (Go.Blk.qt 3 x1))) ∧ (Go.Blk.BL 16 (lsub w (nadd 0 (nmul (nat (sub IntKind.i64 x0 1)) 16)) 16))) ∧ ((((igt x0 1) = true) → ((Go.Blk.BL 16 (Go.Blk.qx (Go.Blk.qe funsub (Go.Blk.qt 3 x1)) (lsub w (nadd 0 (nmul (nat (sub IntKind.i64 x0 1)) 16)) 16))) ∧ (let y2 : List Int := (Go.Blk.qc [14, 11, 13, 9] (Go.Blk.qx (Go.Blk.qe funsub (Go.Blk.qt 3 x1)) (lsub w (nadd 0 (nmul (nat (sub IntKind.i64 x0 1)) 16)) 16))); (bDec.l0 R w fuel (sub IntKind.i64 x0 1) y2)))) ∧ (((igt x0 1) = false) → (bDec.l0 R w fuel (sub IntKind.i64 x0 1) (Go.Blk.qx (Go.Blk.qe funsub (Go.Blk.qt 3 x1)) (lsub w (nadd 0 (nmul (nat (sub IntKind.i64 x0 1)) 16)) 16))))))))))) ∧ (((ige x0 1) = false) → (R (AV.agg [(Seg.ints IntKind.u8 16 x1)]) [(2, Blk.own 28 [(Seg.ints IntKind.u8 176 w)]), (4, Blk.own 22 [(Seg.ints IntKind.u8 16 x1)]), (5, Blk.own 25 [(Seg.ints IntKind.u8 16 x1)])])))) := by kernel_rfl
theorem bDec.l0_zero (R : AV → Mem → Prop) (w : List Int) (x0 : Int) (x1 : List Int) : bDec.l0 R w 0 x0 x1 = False := by kernel_rfl

theorem bDec_vc (R : AV → Mem → Prop) (fuel : Nat) (w : List Int) (b : List Int) : callsx Try.prog gamB2 [] Try.f13 (fuel + 1) [.agg [.ints .u8 176 w], .agg [.ints .u8 16 b]] [] R = (((InB 10 11) ∧ ((Fits 176 176) ∧ (((Go.Blk.BL 16 b) ∧ (Go.Blk.BL 16 (lsub w 160 16))) ∧ (bDec.l0 R w fuel 10 (Go.Blk.qx b (lsub w 160 16))))))) := by kernel_rfl

theorem bRound_vc (R : AV → Mem → Prop) (fuel : Nat) (w : List Int) (i : Int) : callsx Try.prog gam0 [] Try.f16 (fuel + 1) [.agg [.ints .u8 176 w], .one (.int .i64 i)] [] R = (((((ilt i 0) = false) → ((((igt i 10) = true) → (R (AV.agg [(Seg.ints IntKind.u8 16 (lzeros 16))]) [(2, Blk.own 28 [(Seg.ints IntKind.u8 176 w)]), (4, Blk.own 22 [(Seg.ints IntKind.u8 16 (lzeros 16))])])) ∧ (((igt i 10) = false) → ((InB i 11) ∧ ((Fits (nadd (nadd 0 (nmul (nat i) 16)) 16) 176) ∧ (R (AV.agg [(Seg.ints IntKind.u8 16 (lsub w (nadd 0 (nmul (nat i) 16)) 16))]) [(2, Blk.own 28 [(Seg.ints IntKind.u8 176 w)]), (4, Blk.own 22 [(Seg.ints IntKind.u8 16 (lsub w (nadd 0 (nmul (nat i) 16)) 16))])])))))) ∧ (((ilt i 0) = true) → (R (AV.agg [(Seg.ints IntKind.u8 16 (lzeros 16))]) [(2, Blk.own 28 [(Seg.ints IntKind.u8 176 w)]), (4, Blk.own 22 [(Seg.ints IntKind.u8 16 (lzeros 16))])])))) := by kernel_rfl

def rWith.l1 (R : AV → Mem → Prop) (x0 : Int) (w : List Int) (x1 : List Int) (fuel : Nat) (x2 : Int) (x3 : List Int) : Prop := run Try.prog gamB3 [] (resh Try.prog [] Try.f15.results.toList R) fuel [.code (cAt (bodyOf Try.f15) [1, 1, 0, 1, 0, 0, 1, 0, 0, 1, 0, 1, 0, 0]), .inLoop (cAt (bodyOf Try.f15) [1, 1, 0, 1, 0, 0, 1, 0, 0, 1, 0, 1, 0, 0]), .inBlock 2, .code (cAt (bodyOf Try.f15) [1, 1, 0, 1, 0, 0, 1, 0, 0, 1, 1]), .inBlock 1, .code (cAt (bodyOf Try.f15) [1, 1, 0, 1, 0, 0, 1, 1]), .inLoop (cAt (bodyOf Try.f15) [1, 1, 0, 1, 0, 0]), .inBlock 0, .code (cAt (bodyOf Try.f15) [1, 1, 1])] [AV.undef, AV.undef, (AV.one (AC.ptr 2 0 0)), (AV.one (AC.ptr 3 0 0)), (AV.one (AC.ptr 4 0 0)), (AV.one (AC.int IntKind.i64 x0)), (AV.one (AC.ptr 6 0 0)), (AV.one (AC.int IntKind.i64 x2)), AV.undef, AV.undef, AV.undef, (AV.one (AC.int IntKind.i64 x0)), (AV.one (AC.lit true)), AV.undef, AV.undef, AV.undef, AV.undef, AV.undef, AV.undef, AV.undef, AV.undef, AV.undef, AV.undef, AV.undef, AV.undef, AV.undef, AV.undef, AV.undef, AV.undef, AV.undef, AV.undef, AV.undef, AV.undef, AV.undef, AV.undef, AV.undef, AV.undef, AV.undef, AV.undef, (AV.tup [])] [(2, Blk.own 33 [(Seg.ints IntKind.u8 176 w)]), (3, Blk.own 22 [(Seg.ints IntKind.u8 16 x1)]), (4, Blk.own 22 [(Seg.ints IntKind.u8 16 (lzeros 16))]), (6, Blk.own 22 [(Seg.ints IntKind.u8 16 x3)])]

def rWith.l0 (R : AV → Mem → Prop) (w : List Int) (fuel : Nat) (x0 : Int) (x1 : List Int) : Prop := run Try.prog gamB3 [] (resh Try.prog [] Try.f15.results.toList R) fuel [.code (cAt (bodyOf Try.f15) [1, 1, 0, 1, 0, 0]), .inLoop (cAt (bodyOf Try.f15) [1, 1, 0, 1, 0, 0]), .inBlock 0, .code (cAt (bodyOf Try.f15) [1, 1, 1])] [AV.undef, AV.undef, (AV.one (AC.ptr 2 0 0)), (AV.one (AC.ptr 3 0 0)), (AV.one (AC.ptr 4 0 0)), (AV.one (AC.int IntKind.i64 x0)), AV.undef, AV.undef, AV.undef, AV.undef, AV.undef, AV.undef, AV.undef, AV.undef, AV.undef, AV.undef, AV.undef, AV.undef, AV.undef, AV.undef, AV.undef, AV.undef, AV.undef, AV.undef, AV.undef, AV.undef, AV.undef, AV.undef, AV.undef, AV.undef, AV.undef, AV.undef, AV.undef, AV.undef, AV.undef, AV.undef, AV.undef, AV.undef, AV.undef, (AV.tup [])] [(2, Blk.own 33 [(Seg.ints IntKind.u8 176 w)]), (3, Blk.own 22 [(Seg.ints IntKind.u8 16 x1)]), (4, Blk.own 22 [(Seg.ints IntKind.u8 16 (lzeros 16))])]

theorem rWith.l1_succ (R : AV → Mem → Prop) (x0 : Int) (w : List Int) (x1 : List Int) (fuel : Nat) (x2 : Int) (x3 : List Int) : rWith.l1 R x0 w x1 (fuel + 1) x2 x3 = (((((ilt x2 16) = true) → ((NeZ 4) ∧ ((NeZ 16) ∧ ((InB (rem (add IntKind.i64 x2 (mul IntKind.i64 4 (rem x2 4))) 16) 16) ∧ ((Low (nadd 0 (nat (rem (add IntKind.i64 x2 (mul IntKind.i64 4 (rem x2 4))) 16))) 16) ∧ ((InB (lget x1 (nadd 0 (nat (rem (add IntKind.i64 x2 (mul IntKind.i64 4 (rem x2 4))) 16)))) 256) ∧ ((InB x2 16) ∧ ((Low (nadd 0 (nat x2)) 16) ∧ (let y4 : Int := (sget boxC (nat (lget x1 (nadd 0 (nat (rem (add IntKind.i64 x2 (mul IntKind.i64 4 (rem x2 4))) 16)))))); (let y5 : List Int := (lset x3 (nadd 0 (nat x2)) (sget boxC (nat (lget x1 (nadd 0 (nat (rem (add IntKind.i64 x2 (mul IntKind.i64 4 (rem x2 4))) 16))))))); (rWith.l1 R x0 w x1 fuel (add IntKind.i64 x2 1) y5))))))))))) ∧ (((ilt x2 16) = false) → ((((ilt x0 10) = true) → ((Go.Blk.BL 16 x3) ∧ ((((Go.Blk.BL 16 (Go.Blk.qc [2, 3, 1, 1] x3)) ∧ (Go.Blk.BL 176 w)) ∧ (InB x0 11)) ∧ (rWith.l0 R w fuel (add IntKind.i64 x0 1) (Go.Blk.qx (Go.Blk.qc [2, 3, 1, 1] x3) (Go.Blk.rk w (nat x0))))))) ∧ (((ilt x0 10) = false) → ((((Go.Blk.BL 16 x3) ∧ (Go.Blk.BL 176 w)) ∧ (InB x0 11)) ∧ (rWith.l0 R w fuel (add IntKind.i64 x0 1) (Go.Blk.qx x3 (Go.Blk.rk w (nat x0)))))))))) := by kernel_rfl
theorem rWith.l1_zero (R : AV → Mem → Prop) (x0 : Int) (w : List Int) (x1 : List Int) (x2 : Int) (x3 : List Int) : rWith.l1 R x0 w x1 0 x2 x3 = False := by kernel_rfl

theorem rWith.l0_succ (R : AV → Mem → Prop) (w : List Int) (fuel : Nat) (x0 : Int) (x1 : List Int) : rWith.l0 R w (fuel + 1) x0 x1 = (((((ile x0 10) = true) → (rWith.l1 R x0 w x1 fuel 0 (lzeros 16))) ∧ (((ile x0 10) = false) → (R (AV.agg [(Seg.ints IntKind.u8 16 x1)]) [(2, Blk.own 33 [(Seg.ints IntKind.u8 176 w)]), (3, Blk.own 22 [(Seg.ints IntKind.u8 16 x1)]), (4, Blk.own 22 [(Seg.ints IntKind.u8 16 x1)])])))) := by kernel_rfl
theorem rWith.l0_zero (R : AV → Mem → Prop) (w : List Int) (x0 : Int) (x1 : List Int) : rWith.l0 R w 0 x0 x1 = False := by kernel_rfl

theorem rWith_vc (R : AV → Mem → Prop) (fuel : Nat) (w : List Int) (b : List Int) : callsx Try.prog gamB3 [] Try.f15 (fuel + 1) [.agg [.ints .u8 176 w], .agg [.ints .u8 16 b]] [] R = (((((Go.Blk.BL 16 b) ∧ (Go.Blk.BL 176 w)) ∧ (InB 0 11)) ∧ (rWith.l0 R w fuel 1 (Go.Blk.qx b (Go.Blk.rk w 0))))) := by kernel_rfl

theorem rEnc_vc (R : AV → Mem → Prop) (fuel : Nat) (k : List Int) (b : List Int) : callsx Try.prog gamB4 [] Try.f12 (fuel + 1) [.agg [.ints .u8 16 k], .agg [.ints .u8 16 b]] [] R = (((Go.Blk.BL 16 k) ∧ (((Go.Blk.BL 176 (Go.Blk.ks k)) ∧ (Go.Blk.BL 16 b)) ∧ (R (AV.agg [(Seg.ints IntKind.u8 16 (Go.Blk.enc (Go.Blk.ks k) b))]) [(2, Blk.own 22 [(Seg.ints IntKind.u8 16 k)]), (3, Blk.own 22 [(Seg.ints IntKind.u8 16 b)]), (4, Blk.own 22 [(Seg.ints IntKind.u8 16 (Go.Blk.enc (Go.Blk.ks k) b))]), (5, Blk.own 33 [(Seg.ints IntKind.u8 176 (Go.Blk.ks k))])])))) := by kernel_rfl

def rDec.l1 (R : AV → Mem → Prop) (x0 : Int) (x1 : List Int) (k : List Int) (fuel : Nat) (x2 : Int) (x3 : List Int) : Prop := run Try.prog gamB3 [] (resh Try.prog [] Try.f14.results.toList R) fuel [.code (cAt (bodyOf Try.f14) [1, 1, 1, 1, 0, 1, 0, 0, 1, 0, 0, 1, 0, 1, 0, 0]), .inLoop (cAt (bodyOf Try.f14) [1, 1, 1, 1, 0, 1, 0, 0, 1, 0, 0, 1, 0, 1, 0, 0]), .inBlock 2, .code (cAt (bodyOf Try.f14) [1, 1, 1, 1, 0, 1, 0, 0, 1, 0, 0, 1, 1]), .inBlock 1, .code (cAt (bodyOf Try.f14) [1, 1, 1, 1, 0, 1, 0, 0, 1, 1]), .inLoop (cAt (bodyOf Try.f14) [1, 1, 1, 1, 0, 1, 0, 0]), .inBlock 0, .code (cAt (bodyOf Try.f14) [1, 1, 1, 1, 1])] [AV.undef, AV.undef, AV.undef, (AV.one (AC.ptr 3 0 0)), (AV.one (AC.ptr 4 0 0)), (AV.one (AC.ptr 5 0 0)), (AV.one (AC.ptr 6 0 0)), (AV.one (AC.int IntKind.i64 x0)), (AV.one (AC.ptr 8 0 0)), (AV.one (AC.int IntKind.i64 x2)), AV.undef, AV.undef, AV.undef, AV.undef, AV.undef, AV.undef, (AV.one (AC.int IntKind.i64 x0)), (AV.one (AC.lit true)), AV.undef, AV.undef, AV.undef, AV.undef, AV.undef, AV.undef, AV.undef, AV.undef, AV.undef, AV.undef, AV.undef, AV.undef, AV.undef, AV.undef, AV.undef, AV.undef, AV.undef, AV.undef, AV.undef, AV.undef, AV.undef, AV.undef, AV.undef, AV.undef, AV.undef, AV.undef, AV.undef, AV.undef, AV.undef, AV.undef, AV.undef, (AV.tup [])] [(3, Blk.own 22 [(Seg.ints IntKind.u8 16 x1)]), (4, Blk.own 22 [(Seg.ints IntKind.u8 16 (lzeros 16))]), (5, Blk.own 33 [(Seg.ints IntKind.u8 176 (Go.Blk.ks k))]), (6, Blk.own 60 [(Seg.ints IntKind.u8 256 (tab 256 (fun i => funsub ↑i)))]), (8, Blk.own 22 [(Seg.ints IntKind.u8 16 x3)])]

def rDec.l0 (R : AV → Mem → Prop) (k : List Int) (fuel : Nat) (x0 : Int) (x1 : List Int) : Prop := run Try.prog gamB3 [] (resh Try.prog [] Try.f14.results.toList R) fuel [.code (cAt (bodyOf Try.f14) [1, 1, 1, 1, 0, 1, 0, 0]), .inLoop (cAt (bodyOf Try.f14) [1, 1, 1, 1, 0, 1, 0, 0]), .inBlock 0, .code (cAt (bodyOf Try.f14) [1, 1, 1, 1, 1])] [AV.undef, AV.undef, AV.undef, (AV.one (AC.ptr 3 0 0)), (AV.one (AC.ptr 4 0 0)), (AV.one (AC.ptr 5 0 0)), (AV.one (AC.ptr 6 0 0)), (AV.one (AC.int IntKind.i64 x0)), AV.undef, AV.undef, AV.undef, AV.undef, AV.undef, AV.undef, AV.undef, AV.undef, AV.undef, AV.undef, AV.undef, AV.undef, AV.undef, AV.undef, AV.undef, AV.undef, AV.undef, AV.undef, AV.undef, AV.undef, AV.undef, AV.undef, AV.undef, AV.undef, AV.undef, AV.undef, AV.undef, AV.undef, AV.undef, AV.undef, AV.undef, AV.undef, AV.undef, AV.undef, AV.undef, AV.undef, AV.undef, AV.undef, AV.undef, AV.undef, AV.undef, (AV.tup [])] [(3, Blk.own 22 [(Seg.ints IntKind.u8 16 x1)]), (4, Blk.own 22 [(Seg.ints IntKind.u8 16 (lzeros 16))]), (5, Blk.own 33 [(Seg.ints IntKind.u8 176 (Go.Blk.ks k))]), (6, Blk.own 60 [(Seg.ints IntKind.u8 256 (tab 256 (fun i => funsub ↑i)))])]

theorem rDec.l1_succ (R : AV → Mem → Prop) (x0 : Int) (x1 : List Int) (k : List Int) (fuel : Nat) (x2 : Int) (x3 : List Int) : rDec.l1 R x0 x1 k (fuel + 1) x2 x3 = (((((ilt x2 16) = true) → ((NeZ 4) ∧ ((NeZ 16) ∧ ((InB x2 16) ∧ ((Low (nadd 0 (nat x2)) 16) ∧ ((InB (lget x1 (nadd 0 (nat x2))) 256) ∧ ((Low (nadd 0 (nat (lget x1 (nadd 0 (nat x2))))) 256) ∧ ((InB (rem (add IntKind.i64 x2 (mul IntKind.i64 4 (rem x2 4))) 16) 16) ∧ ((Low (nadd 0 (nat (rem (add IntKind.i64 x2 (mul IntKind.i64 4 (rem x2 4))) 16))) 16) ∧ (let y4 : List Int := (lset x3 (nadd 0 (nat (rem (add IntKind.i64 x2 (mul IntKind.i64 4 (rem x2 4))) 16))) (lget (tab 256 (fun i => funsub ↑i)) (nadd 0 (nat (lget x1 (nadd 0 (nat x2))))))); (rDec.l1 R x0 x1 k fuel (add IntKind.i64 x2 1) y4))))))))))) ∧ (((ilt x2 16) = false) → ((((Go.Blk.BL 16 x3) ∧ (Go.Blk.BL 176 (Go.Blk.ks k))) ∧ (InB (sub IntKind.i64 x0 1) 11)) ∧ ((((igt x0 1) = true) → ((Go.Blk.BL 16 (Go.Blk.qx x3 (Go.Blk.rk (Go.Blk.ks k) (nat (sub IntKind.i64 x0 1))))) ∧ ((Go.Blk.BL 16 (Go.Blk.qc [2, 3, 1, 1] (Go.Blk.qx x3 (Go.Blk.rk (Go.Blk.ks k) (nat (sub IntKind.i64 x0 1)))))) ∧ ((Go.Blk.BL 16 (Go.Blk.qc [2, 3, 1, 1] (Go.Blk.qc [2, 3, 1, 1] (Go.Blk.qx x3 (Go.Blk.rk (Go.Blk.ks k) (nat (sub IntKind.i64 x0 1))))))) ∧ (let y5 : List Int := (Go.Blk.qc [2, 3, 1, 1] (Go.Blk.qc [2, 3, 1, 1] (Go.Blk.qc [2, 3, 1, 1] (Go.Blk.qx x3 (Go.Blk.rk (Go.Blk.ks k) (nat (sub IntKind.i64 x0 1))))))); (rDec.l0 R k fuel (sub IntKind.i64 x0 1) y5)))))) ∧ (((igt x0 1) = false) → (rDec.l0 R k fuel (sub IntKind.i64 x0 1) (Go.Blk.qx x3 (Go.Blk.rk (Go.Blk.ks k) (nat (sub IntKind.i64 x0 1))))))))))) := by kernel_rfl
theorem rDec.l1_zero (R : AV → Mem → Prop) (x0 : Int) (x1 : List Int) (k : List Int) (x2 : Int) (x3 : List Int) : rDec.l1 R x0 x1 k 0 x2 x3 = False := by kernel_rfl

theorem rDec.l0_succ (R : AV → Mem → Prop) (k : List Int) (fuel : Nat) (x0 : Int) (x1 : List Int) : rDec.l0 R k (fuel + 1) x0 x1 = (((((ige x0 1) = true) → (rDec.l1 R x0 x1 k fuel 0 (lzeros 16))) ∧ (((ige x0 1) = false) → (R (AV.agg [(Seg.ints IntKind.u8 16 x1)]) [(3, Blk.own 22 [(Seg.ints IntKind.u8 16 x1)]), (4, Blk.own 22 [(Seg.ints IntKind.u8 16 x1)]), (5, Blk.own 33 [(Seg.ints IntKind.u8 176 (Go.Blk.ks k))]), (6, Blk.own 60 [(Seg.ints IntKind.u8 256 (tab 256 (fun i => funsub ↑i)))])])))) := by kernel_rfl
theorem rDec.l0_zero (R : AV → Mem → Prop) (k : List Int) (x0 : Int) (x1 : List Int) : rDec.l0 R k 0 x0 x1 = False := by kernel_rfl

theorem rDec_vc (R : AV → Mem → Prop) (fuel : Nat) (k : List Int) (b : List Int) : callsx Try.prog gamB3 [] Try.f14 (fuel + 1) [.agg [.ints .u8 16 k], .agg [.ints .u8 16 b]] [] R = (((Go.Blk.BL 16 k) ∧ ((((Go.Blk.BL 16 b) ∧ (Go.Blk.BL 176 (Go.Blk.ks k))) ∧ (InB 10 11)) ∧ (rDec.l0 R k fuel 10 (Go.Blk.qx b (Go.Blk.rk (Go.Blk.ks k) 10)))))) := by kernel_rfl

def rRound.l0 (R : AV → Mem → Prop) (i : Int) (k : List Int) (fuel : Nat) (x0 : Int) (x1 : List Int) : Prop := run Try.prog gamB3 [] (resh Try.prog [] Try.f17.results.toList R) fuel [.code (cAt (bodyOf Try.f17) [1, 1, 1, 1, 0, 1, 0, 0]), .inLoop (cAt (bodyOf Try.f17) [1, 1, 1, 1, 0, 1, 0, 0]), .inBlock 0, .code (cAt (bodyOf Try.f17) [1, 1, 1, 1, 1])] [AV.undef, (AV.one (AC.int IntKind.i64 i)), AV.undef, AV.undef, (AV.one (AC.ptr 4 0 0)), (AV.one (AC.ptr 5 0 0)), (AV.one (AC.ptr 6 0 0)), (AV.one (AC.int IntKind.i64 x0)), AV.undef, AV.undef, AV.undef, AV.undef, AV.undef, AV.undef, AV.undef, AV.undef, AV.undef, AV.undef, AV.undef, AV.undef, AV.undef, AV.undef, AV.undef, AV.undef, AV.undef, AV.undef, AV.undef, AV.undef, AV.undef, (AV.tup [])] [(4, Blk.own 22 [(Seg.ints IntKind.u8 16 (lzeros 16))]), (5, Blk.own 22 [(Seg.ints IntKind.u8 16 x1)]), (6, Blk.own 33 [(Seg.ints IntKind.u8 176 (Go.Blk.ks k))])]

theorem rRound.l0_succ (R : AV → Mem → Prop) (i : Int) (k : List Int) (fuel : Nat) (x0 : Int) (x1 : List Int) : rRound.l0 R i k (fuel + 1) x0 x1 = (((((ilt x0 16) = true) → ((InB (add IntKind.i64 (mul IntKind.i64 16 i) x0) 176) ∧ ((Low (nadd 0 (nat (add IntKind.i64 (mul IntKind.i64 16 i) x0))) 176) ∧ ((InB x0 16) ∧ ((Low (nadd 0 (nat x0)) 16) ∧ (let y2 : List Int := (lset x1 (nadd 0 (nat x0)) (lget (Go.Blk.ks k) (nadd 0 (nat (add IntKind.i64 (mul IntKind.i64 16 i) x0))))); (rRound.l0 R i k fuel (add IntKind.i64 x0 1) y2))))))) ∧ (((ilt x0 16) = false) → (R (AV.agg [(Seg.ints IntKind.u8 16 x1)]) [(4, Blk.own 22 [(Seg.ints IntKind.u8 16 x1)]), (5, Blk.own 22 [(Seg.ints IntKind.u8 16 x1)]), (6, Blk.own 33 [(Seg.ints IntKind.u8 176 (Go.Blk.ks k))])])))) := by kernel_rfl
theorem rRound.l0_zero (R : AV → Mem → Prop) (i : Int) (k : List Int) (x0 : Int) (x1 : List Int) : rRound.l0 R i k 0 x0 x1 = False := by kernel_rfl

theorem rRound_vc (R : AV → Mem → Prop) (fuel : Nat) (k : List Int) (i : Int) : callsx Try.prog gamB3 [] Try.f17 (fuel + 1) [.agg [.ints .u8 16 k], .one (.int .i64 i)] [] R = (((((ilt i 0) = false) → ((((igt i 10) = true) → (R (AV.agg [(Seg.ints IntKind.u8 16 (lzeros 16))]) [(2, Blk.own 22 [(Seg.ints IntKind.u8 16 k)]), (4, Blk.own 22 [(Seg.ints IntKind.u8 16 (lzeros 16))]), (5, Blk.own 22 [(Seg.ints IntKind.u8 16 (lzeros 16))])])) ∧ (((igt i 10) = false) → ((Go.Blk.BL 16 k) ∧ (rRound.l0 R i k fuel 0 (lzeros 16)))))) ∧ (((ilt i 0) = true) → (R (AV.agg [(Seg.ints IntKind.u8 16 (lzeros 16))]) [(2, Blk.own 22 [(Seg.ints IntKind.u8 16 k)]), (4, Blk.own 22 [(Seg.ints IntKind.u8 16 (lzeros 16))]), (5, Blk.own 22 [(Seg.ints IntKind.u8 16 (lzeros 16))])])))) := by kernel_rfl

def bMask.l2 (R : AV → Mem → Prop) (x3 : Int) (x5 : List Int) (k : List Int) (x4 : List Int) (x2 : List Int) (p : List Int) (fuel : Nat) (x6 : Int) (x7 : List Int) : Prop := run Try.prog gamB4 [] (resh Try.prog [] Try.f18.results.toList R) fuel [.code (cAt (bodyOf Try.f18) [1, 1, 1, 1, 1, 1, 0, 1, 0, 0, 1, 0, 0, 1, 0, 1, 0, 0]), .inLoop (cAt (bodyOf Try.f18) [1, 1, 1, 1, 1, 1, 0, 1, 0, 0, 1, 0, 0, 1, 0, 1, 0, 0]), .inBlock 4, .code (cAt (bodyOf Try.f18) [1, 1, 1, 1, 1, 1, 0, 1, 0, 0, 1, 0, 0, 1, 1]), .inBlock 3, .code (cAt (bodyOf Try.f18) [1, 1, 1, 1, 1, 1, 0, 1, 0, 0, 1, 1]), .inLoop (cAt (bodyOf Try.f18) [1, 1, 1, 1, 1, 1, 0, 1, 0, 0]), .inBlock 2, .code (cAt (bodyOf Try.f18) [1, 1, 1, 1, 1, 1, 1])] [AV.undef, AV.undef, AV.undef, AV.undef, (AV.one (AC.ptr 4 0 0)), AV.undef, AV.undef, (AV.one (AC.ptr 7 0 0)), (AV.one (AC.vec 19)), (AV.one (AC.clo 38 10 0 0)), AV.undef, AV.undef, (AV.one (AC.int IntKind.i64 x3)), (AV.one (AC.ptr 13 0 0)), (AV.one (AC.int IntKind.i64 x6)), AV.undef, AV.undef, AV.undef, AV.undef, AV.undef, AV.undef, AV.undef, AV.undef, AV.undef, AV.undef, AV.undef, AV.undef, AV.undef, AV.undef, AV.undef, AV.undef, AV.undef, AV.undef, AV.undef, AV.undef, AV.undef, (AV.one (AC.int IntKind.i64 x3)), (AV.one (AC.vec 19)), (AV.one (AC.int IntKind.i64 (ofNat (llen x5)))), (AV.one (AC.lit true)), AV.undef, AV.undef, (AV.agg [(Seg.ints IntKind.u8 176 (Go.Blk.ks k))]), (AV.agg [(Seg.ints IntKind.u8 16 x4)]), (AV.one (AC.clo 38 10 0 0)), (AV.agg [(Seg.ints IntKind.u8 16 (Go.Blk.enc (Go.Blk.ks k) x4))]), (AV.one (AC.int IntKind.i64 x3)), AV.undef, AV.undef, AV.undef, AV.undef, AV.undef, AV.undef, AV.undef, AV.undef, AV.undef, AV.undef, AV.undef, AV.undef, AV.undef, AV.undef, AV.undef, AV.undef, AV.undef, AV.undef, AV.undef, AV.undef, AV.undef, AV.undef, (AV.tup [])] [(4, Blk.own 22 [(Seg.ints IntKind.u8 16 x4)]), (7, Blk.own 28 [(Seg.ints IntKind.u8 176 (Go.Blk.ks k))]), (10, Blk.own 60 [(Seg.ints IntKind.u8 256 x2)]), (13, Blk.own 22 [(Seg.ints IntKind.u8 16 (Go.Blk.enc (Go.Blk.ks k) x4))]), (19, Blk.vec [(Col.ints IntKind.u8 x7)]), (200002, Blk.rview [(Col.ints IntKind.u8 p)])]

def bMask.l1 (R : AV → Mem → Prop) (k : List Int) (x2 : List Int) (p : List Int) (fuel : Nat) (x3 : Int) (x4 : List Int) (x5 : List Int) : Prop := run Try.prog gamB4 [] (resh Try.prog [] Try.f18.results.toList R) fuel [.code (cAt (bodyOf Try.f18) [1, 1, 1, 1, 1, 1, 0, 1, 0, 0]), .inLoop (cAt (bodyOf Try.f18) [1, 1, 1, 1, 1, 1, 0, 1, 0, 0]), .inBlock 2, .code (cAt (bodyOf Try.f18) [1, 1, 1, 1, 1, 1, 1])] [AV.undef, AV.undef, AV.undef, AV.undef, (AV.one (AC.ptr 4 0 0)), AV.undef, AV.undef, (AV.one (AC.ptr 7 0 0)), (AV.one (AC.vec 19)), (AV.one (AC.clo 38 10 0 0)), AV.undef, AV.undef, (AV.one (AC.int IntKind.i64 x3)), AV.undef, AV.undef, AV.undef, AV.undef, AV.undef, AV.undef, AV.undef, AV.undef, AV.undef, AV.undef, AV.undef, AV.undef, AV.undef, AV.undef, AV.undef, AV.undef, AV.undef, AV.undef, AV.undef, AV.undef, AV.undef, AV.undef, AV.undef, AV.undef, AV.undef, AV.undef, AV.undef, AV.undef, AV.undef, AV.undef, AV.undef, AV.undef, AV.undef, AV.undef, AV.undef, AV.undef, AV.undef, AV.undef, AV.undef, AV.undef, AV.undef, AV.undef, AV.undef, AV.undef, AV.undef, AV.undef, AV.undef, AV.undef, AV.undef, AV.undef, AV.undef, AV.undef, AV.undef, AV.undef, AV.undef, AV.undef, (AV.tup [])] [(4, Blk.own 22 [(Seg.ints IntKind.u8 16 x4)]), (7, Blk.own 28 [(Seg.ints IntKind.u8 176 (Go.Blk.ks k))]), (10, Blk.own 60 [(Seg.ints IntKind.u8 256 x2)]), (19, Blk.vec [(Col.ints IntKind.u8 x5)]), (200002, Blk.rview [(Col.ints IntKind.u8 p)])]

def bMask.l0 (R : AV → Mem → Prop) (s : List Int) (k : List Int) (y0 : List Int) (p : List Int) (fuel : Nat) (x1 : Int) (x2 : List Int) : Prop := run Try.prog gamB4 [] (resh Try.prog [] Try.f18.results.toList R) fuel [.code (cAt (bodyOf Try.f18) [1, 1, 1, 1, 1, 0, 1, 0, 1, 0, 1, 0, 0]), .inLoop (cAt (bodyOf Try.f18) [1, 1, 1, 1, 1, 0, 1, 0, 1, 0, 1, 0, 0]), .inBlock 0, .code (cAt (bodyOf Try.f18) [1, 1, 1, 1, 1, 0, 1, 0, 1, 1]), .code (cAt (bodyOf Try.f18) [1, 1, 1, 1, 1, 1])] [AV.undef, AV.undef, AV.undef, AV.undef, (AV.one (AC.ptr 4 0 0)), AV.undef, AV.undef, (AV.one (AC.ptr 7 0 0)), (AV.one (AC.vec 19)), (AV.one (AC.con (Value.func (Fn.func 25) (List.toArray []) (List.toArray [])))), (AV.one (AC.ptr 10 0 0)), AV.undef, (AV.tup []), (AV.tup []), (AV.tup []), AV.undef, AV.undef, AV.undef, AV.undef, AV.undef, AV.undef, AV.undef, AV.undef, AV.undef, AV.undef, AV.undef, (AV.one (AC.int IntKind.i64 x1)), AV.undef, AV.undef, AV.undef, AV.undef, AV.undef, AV.undef, AV.undef, AV.undef, (AV.tup []), (AV.tup []), (AV.tup []), (AV.tup []), (AV.tup []), (AV.tup []), (AV.tup []), (AV.tup []), (AV.tup []), (AV.tup []), (AV.tup []), (AV.tup []), (AV.tup []), (AV.tup []), (AV.tup []), (AV.tup []), (AV.tup []), (AV.tup []), (AV.tup []), (AV.tup []), (AV.tup []), (AV.tup []), (AV.tup []), (AV.tup []), (AV.tup []), (AV.tup []), (AV.tup []), (AV.tup []), (AV.tup []), (AV.tup []), (AV.tup []), (AV.tup []), (AV.tup []), (AV.tup []), (AV.tup [])] [(4, Blk.own 22 [(Seg.ints IntKind.u8 16 s)]), (7, Blk.own 28 [(Seg.ints IntKind.u8 176 (Go.Blk.ks k))]), (10, Blk.own 60 [(Seg.ints IntKind.u8 256 x2)]), (19, Blk.vec [(Col.ints IntKind.u8 y0)]), (200002, Blk.rview [(Col.ints IntKind.u8 p)])]

def bMask.l4 (R : AV → Mem → Prop) (x10 : Int) (x12 : List Int) (k : List Int) (x11 : List Int) (p : List Int) (fuel : Nat) (x13 : Int) (x14 : List Int) : Prop := run Try.prog gamB4 [] (resh Try.prog [] Try.f18.results.toList R) fuel [.code (cAt (bodyOf Try.f18) [1, 1, 1, 1, 1, 1, 0, 1, 0, 0, 1, 0, 0, 1, 0, 1, 0, 0]), .inLoop (cAt (bodyOf Try.f18) [1, 1, 1, 1, 1, 1, 0, 1, 0, 0, 1, 0, 0, 1, 0, 1, 0, 0]), .inBlock 4, .code (cAt (bodyOf Try.f18) [1, 1, 1, 1, 1, 1, 0, 1, 0, 0, 1, 0, 0, 1, 1]), .inBlock 3, .code (cAt (bodyOf Try.f18) [1, 1, 1, 1, 1, 1, 0, 1, 0, 0, 1, 1]), .inLoop (cAt (bodyOf Try.f18) [1, 1, 1, 1, 1, 1, 0, 1, 0, 0]), .inBlock 2, .code (cAt (bodyOf Try.f18) [1, 1, 1, 1, 1, 1, 1])] [AV.undef, AV.undef, AV.undef, AV.undef, (AV.one (AC.ptr 4 0 0)), AV.undef, AV.undef, (AV.one (AC.ptr 7 0 0)), (AV.one (AC.vec 19)), (AV.one (AC.con (Value.func (Fn.func 25) (List.toArray []) (List.toArray [])))), AV.undef, AV.undef, (AV.one (AC.int IntKind.i64 x10)), (AV.one (AC.ptr 13 0 0)), (AV.one (AC.int IntKind.i64 x13)), AV.undef, AV.undef, AV.undef, AV.undef, AV.undef, AV.undef, AV.undef, AV.undef, AV.undef, AV.undef, AV.undef, AV.undef, AV.undef, AV.undef, AV.undef, AV.undef, AV.undef, AV.undef, AV.undef, AV.undef, AV.undef, (AV.one (AC.int IntKind.i64 x10)), (AV.one (AC.vec 19)), (AV.one (AC.int IntKind.i64 (ofNat (llen x12)))), (AV.one (AC.lit true)), AV.undef, AV.undef, (AV.agg [(Seg.ints IntKind.u8 176 (Go.Blk.ks k))]), (AV.agg [(Seg.ints IntKind.u8 16 x11)]), (AV.one (AC.con (Value.func (Fn.func 25) (List.toArray []) (List.toArray [])))), (AV.agg [(Seg.ints IntKind.u8 16 (Go.Blk.enc (Go.Blk.ks k) x11))]), (AV.one (AC.int IntKind.i64 x10)), AV.undef, AV.undef, AV.undef, AV.undef, AV.undef, AV.undef, AV.undef, AV.undef, AV.undef, AV.undef, AV.undef, AV.undef, AV.undef, AV.undef, AV.undef, AV.undef, AV.undef, AV.undef, AV.undef, AV.undef, AV.undef, AV.undef, (AV.tup [])] [(4, Blk.own 22 [(Seg.ints IntKind.u8 16 x11)]), (7, Blk.own 28 [(Seg.ints IntKind.u8 176 (Go.Blk.ks k))]), (13, Blk.own 22 [(Seg.ints IntKind.u8 16 (Go.Blk.enc (Go.Blk.ks k) x11))]), (19, Blk.vec [(Col.ints IntKind.u8 x14)]), (200002, Blk.rview [(Col.ints IntKind.u8 p)])]

def bMask.l3 (R : AV → Mem → Prop) (k : List Int) (p : List Int) (fuel : Nat) (x10 : Int) (x11 : List Int) (x12 : List Int) : Prop := run Try.prog gamB4 [] (resh Try.prog [] Try.f18.results.toList R) fuel [.code (cAt (bodyOf Try.f18) [1, 1, 1, 1, 1, 1, 0, 1, 0, 0]), .inLoop (cAt (bodyOf Try.f18) [1, 1, 1, 1, 1, 1, 0, 1, 0, 0]), .inBlock 2, .code (cAt (bodyOf Try.f18) [1, 1, 1, 1, 1, 1, 1])] [AV.undef, AV.undef, AV.undef, AV.undef, (AV.one (AC.ptr 4 0 0)), AV.undef, AV.undef, (AV.one (AC.ptr 7 0 0)), (AV.one (AC.vec 19)), (AV.one (AC.con (Value.func (Fn.func 25) (List.toArray []) (List.toArray [])))), AV.undef, AV.undef, (AV.one (AC.int IntKind.i64 x10)), AV.undef, AV.undef, AV.undef, AV.undef, AV.undef, AV.undef, AV.undef, AV.undef, AV.undef, AV.undef, AV.undef, AV.undef, AV.undef, AV.undef, AV.undef, AV.undef, AV.undef, AV.undef, AV.undef, AV.undef, AV.undef, AV.undef, AV.undef, AV.undef, AV.undef, AV.undef, AV.undef, AV.undef, AV.undef, AV.undef, AV.undef, AV.undef, AV.undef, AV.undef, AV.undef, AV.undef, AV.undef, AV.undef, AV.undef, AV.undef, AV.undef, AV.undef, AV.undef, AV.undef, AV.undef, AV.undef, AV.undef, AV.undef, AV.undef, AV.undef, AV.undef, AV.undef, AV.undef, AV.undef, AV.undef, AV.undef, (AV.tup [])] [(4, Blk.own 22 [(Seg.ints IntKind.u8 16 x11)]), (7, Blk.own 28 [(Seg.ints IntKind.u8 176 (Go.Blk.ks k))]), (19, Blk.vec [(Col.ints IntKind.u8 x12)]), (200002, Blk.rview [(Col.ints IntKind.u8 p)])]

theorem bMask.l2_succ (R : AV → Mem → Prop) (x3 : Int) (x5 : List Int) (k : List Int) (x4 : List Int) (x2 : List Int) (p : List Int) (fuel : Nat) (x6 : Int) (x7 : List Int) : bMask.l2 R x3 x5 k x4 x2 p (fuel + 1) x6 x7 = (((((ilt x6 (imin (add IntKind.i64 x3 16) (ofNat (llen x7)))) = true) → ((InB x6 (llen x7)) ∧ ((InB (sub IntKind.i64 x6 x3) 16) ∧ ((Low (nadd 0 (nat (sub IntKind.i64 x6 x3))) 16) ∧ ((InB x6 (llen x7)) ∧ (let y8 : Int := (bxor IntKind.u8 (lget x7 (nat x6)) (lget (Go.Blk.enc (Go.Blk.ks k) x4) (nadd 0 (nat (sub IntKind.i64 x6 x3))))); (let y9 : List Int := (lset x7 (nat x6) (bxor IntKind.u8 (lget x7 (nat x6)) (lget (Go.Blk.enc (Go.Blk.ks k) x4) (nadd 0 (nat (sub IntKind.i64 x6 x3)))))); (bMask.l2 R x3 x5 k x4 x2 p fuel (add IntKind.i64 x6 1) y9)))))))) ∧ (((ilt x6 (imin (add IntKind.i64 x3 16) (ofNat (llen x7)))) = false) → ((Go.Blk.BL 16 x4) ∧ (bMask.l1 R k x2 p fuel (add IntKind.i64 x3 16) (Go.Blk.up x4) x7))))) := by kernel_rfl
theorem bMask.l2_zero (R : AV → Mem → Prop) (x3 : Int) (x5 : List Int) (k : List Int) (x4 : List Int) (x2 : List Int) (p : List Int) (x6 : Int) (x7 : List Int) : bMask.l2 R x3 x5 k x4 x2 p 0 x6 x7 = False := by kernel_rfl

theorem bMask.l1_succ (R : AV → Mem → Prop) (k : List Int) (x2 : List Int) (p : List Int) (fuel : Nat) (x3 : Int) (x4 : List Int) (x5 : List Int) : bMask.l1 R k x2 p (fuel + 1) x3 x4 x5 = (((((ilt x3 (ofNat (llen x5))) = true) → ((Tbl x2) ∧ (((Go.Blk.BL 176 (Go.Blk.ks k)) ∧ (Go.Blk.BL 16 x4)) ∧ (bMask.l2 R x3 x5 k x4 x2 p fuel x3 x5)))) ∧ (((ilt x3 (ofNat (llen x5))) = false) → (R (AV.one (AC.vec 19)) [(4, Blk.own 22 [(Seg.ints IntKind.u8 16 x4)]), (7, Blk.own 28 [(Seg.ints IntKind.u8 176 (Go.Blk.ks k))]), (10, Blk.own 60 [(Seg.ints IntKind.u8 256 x2)]), (19, Blk.vec [(Col.ints IntKind.u8 x5)]), (200002, Blk.rview [(Col.ints IntKind.u8 p)])])))) := by kernel_rfl
theorem bMask.l1_zero (R : AV → Mem → Prop) (k : List Int) (x2 : List Int) (p : List Int) (x3 : Int) (x4 : List Int) (x5 : List Int) : bMask.l1 R k x2 p 0 x3 x4 x5 = False := by kernel_rfl

theorem bMask.l0_succ (R : AV → Mem → Prop) (s : List Int) (k : List Int) (y0 : List Int) (p : List Int) (fuel : Nat) (x1 : Int) (x2 : List Int) : bMask.l0 R s k y0 p (fuel + 1) x1 x2 = (((((ilt x1 256) = true) → ((Byte (conv IntKind.u8 x1)) ∧ ((InB x1 256) ∧ ((Low (nadd 0 (nat x1)) 256) ∧ (bMask.l0 R s k y0 p fuel (add IntKind.i64 x1 1) (lset x2 (nadd 0 (nat x1)) (fsub (conv IntKind.u8 x1)))))))) ∧ (((ilt x1 256) = false) → (bMask.l1 R k x2 p fuel 0 s y0)))) := by kernel_rfl
theorem bMask.l0_zero (R : AV → Mem → Prop) (s : List Int) (k : List Int) (y0 : List Int) (p : List Int) (x1 : Int) (x2 : List Int) : bMask.l0 R s k y0 p 0 x1 x2 = False := by kernel_rfl

theorem bMask.l4_succ (R : AV → Mem → Prop) (x10 : Int) (x12 : List Int) (k : List Int) (x11 : List Int) (p : List Int) (fuel : Nat) (x13 : Int) (x14 : List Int) : bMask.l4 R x10 x12 k x11 p (fuel + 1) x13 x14 = (((((ilt x13 (imin (add IntKind.i64 x10 16) (ofNat (llen x14)))) = true) → ((InB x13 (llen x14)) ∧ ((InB (sub IntKind.i64 x13 x10) 16) ∧ ((Low (nadd 0 (nat (sub IntKind.i64 x13 x10))) 16) ∧ ((InB x13 (llen x14)) ∧ (let y15 : Int := (bxor IntKind.u8 (lget x14 (nat x13)) (lget (Go.Blk.enc (Go.Blk.ks k) x11) (nadd 0 (nat (sub IntKind.i64 x13 x10))))); (let y16 : List Int := (lset x14 (nat x13) (bxor IntKind.u8 (lget x14 (nat x13)) (lget (Go.Blk.enc (Go.Blk.ks k) x11) (nadd 0 (nat (sub IntKind.i64 x13 x10)))))); (bMask.l4 R x10 x12 k x11 p fuel (add IntKind.i64 x13 1) y16)))))))) ∧ (((ilt x13 (imin (add IntKind.i64 x10 16) (ofNat (llen x14)))) = false) → ((Go.Blk.BL 16 x11) ∧ (bMask.l3 R k p fuel (add IntKind.i64 x10 16) (Go.Blk.up x11) x14))))) := by kernel_rfl
theorem bMask.l4_zero (R : AV → Mem → Prop) (x10 : Int) (x12 : List Int) (k : List Int) (x11 : List Int) (p : List Int) (x13 : Int) (x14 : List Int) : bMask.l4 R x10 x12 k x11 p 0 x13 x14 = False := by kernel_rfl

theorem bMask.l3_succ (R : AV → Mem → Prop) (k : List Int) (p : List Int) (fuel : Nat) (x10 : Int) (x11 : List Int) (x12 : List Int) : bMask.l3 R k p (fuel + 1) x10 x11 x12 = (((((ilt x10 (ofNat (llen x12))) = true) → (((Go.Blk.BL 176 (Go.Blk.ks k)) ∧ (Go.Blk.BL 16 x11)) ∧ (bMask.l4 R x10 x12 k x11 p fuel x10 x12))) ∧ (((ilt x10 (ofNat (llen x12))) = false) → (R (AV.one (AC.vec 19)) [(4, Blk.own 22 [(Seg.ints IntKind.u8 16 x11)]), (7, Blk.own 28 [(Seg.ints IntKind.u8 176 (Go.Blk.ks k))]), (19, Blk.vec [(Col.ints IntKind.u8 x12)]), (200002, Blk.rview [(Col.ints IntKind.u8 p)])])))) := by kernel_rfl
theorem bMask.l3_zero (R : AV → Mem → Prop) (k : List Int) (p : List Int) (x10 : Int) (x11 : List Int) (x12 : List Int) : bMask.l3 R k p 0 x10 x11 x12 = False := by kernel_rfl

theorem bMask_vc (R : AV → Mem → Prop) (fuel : Nat) (k : List Int) (s : List Int) (p : List Int) : callsx Try.prog gamB4 [] Try.f18 (fuel + 1) [.agg [.ints .u8 16 k], .agg [.ints .u8 16 s], .one (.vec 200002)] [(200002, .rview [.ints .u8 p])] R = (((Go.Blk.BL 16 k) ∧ ((Mk (ofNat (llen p)) (ofNat (llen p)) 1) ∧ (let y0 : List Int := (lput (lzeros (nat (ofNat (llen p)))) 0 (lsub p 0 (nmin (llen p) (llen (lzeros (nat (ofNat (llen p)))))))); ((((igt (ofNat (llen p)) 32) = true) → (bMask.l0 R s k y0 p fuel 0 (lzeros 256))) ∧ (((igt (ofNat (llen p)) 32) = false) → (bMask.l3 R k p fuel 0 s y0))))))) := by kernel_rfl

theorem bStream_vc (R : AV → Mem → Prop) (fuel : Nat) (k : List Int) (s : List Int) (n : Int) : callsx Try.prog gamB6 [] Try.f20 (fuel + 1) [.agg [.ints .u8 16 k], .agg [.ints .u8 16 s], .one (.int .i64 n)] [] R = (((((ilt n 0) = false) → ((((igt n 65536) = true) → (R (AV.one (AC.con (Value.slice (Option.none) 0 0))) [(3, Blk.own 22 [(Seg.ints IntKind.u8 16 k)]), (4, Blk.own 22 [(Seg.ints IntKind.u8 16 s)])])) ∧ (((igt n 65536) = false) → ((Mk n n 1) ∧ ((((Go.Blk.BL 16 k) ∧ (Go.Blk.BL 16 s)) ∧ ((Short (lzeros (nat n))) ∧ (Bs (lzeros (nat n))))) ∧ (R (AV.one (AC.vec 17)) [(3, Blk.own 22 [(Seg.ints IntKind.u8 16 k)]), (4, Blk.own 22 [(Seg.ints IntKind.u8 16 s)]), (16, Blk.vec [(Col.ints IntKind.u8 (lzeros (nat n)))]), (17, Blk.vec [(Col.ints IntKind.u8 (Go.Blk.mask (Go.Blk.ks k) s (lzeros (nat n))))])])))))) ∧ (((ilt n 0) = true) → (R (AV.one (AC.con (Value.slice (Option.none) 0 0))) [(3, Blk.own 22 [(Seg.ints IntKind.u8 16 k)]), (4, Blk.own 22 [(Seg.ints IntKind.u8 16 s)])])))) := by kernel_rfl

theorem rStream_vc (R : AV → Mem → Prop) (fuel : Nat) (k : List Int) (s : List Int) (n : Int) : callsx Try.prog gamB6 [] Try.f21 (fuel + 1) [.agg [.ints .u8 16 k], .agg [.ints .u8 16 s], .one (.int .i64 n)] [] R = (((((ilt n 0) = false) → ((((igt n 65536) = true) → (R (AV.one (AC.con (Value.slice (Option.none) 0 0))) [(3, Blk.own 22 [(Seg.ints IntKind.u8 16 k)]), (4, Blk.own 22 [(Seg.ints IntKind.u8 16 s)])])) ∧ (((igt n 65536) = false) → ((Mk n n 1) ∧ ((((Go.Blk.BL 16 k) ∧ (Go.Blk.BL 16 s)) ∧ ((Short (lzeros (nat n))) ∧ (Bs (lzeros (nat n))))) ∧ (R (AV.one (AC.vec 17)) [(3, Blk.own 22 [(Seg.ints IntKind.u8 16 k)]), (4, Blk.own 22 [(Seg.ints IntKind.u8 16 s)]), (16, Blk.vec [(Col.ints IntKind.u8 (lzeros (nat n)))]), (17, Blk.vec [(Col.ints IntKind.u8 (Go.Blk.mask (Go.Blk.ks k) s (lzeros (nat n))))])])))))) ∧ (((ilt n 0) = true) → (R (AV.one (AC.con (Value.slice (Option.none) 0 0))) [(3, Blk.own 22 [(Seg.ints IntKind.u8 16 k)]), (4, Blk.own 22 [(Seg.ints IntKind.u8 16 s)])])))) := by kernel_rfl

end Go.Proofs.Ytkecbjohbihfmaa.G

/- Encryption and decryption, by program and document. -/
set_option linter.unusedVariables false
set_option linter.unusedSimpArgs false
namespace Go.Blk
open Go.Sx Go.Fld
theorem qx_bl {b k : List Int} (hb : BL 16 b) (hk : BL 16 k) : BL 16 (qx b k) := BL.tab fun i _ => byte_xor (hb.get i) (hk.get i)
theorem qe_sub {b : List Int} : BL 16 (qe fsub b) := BL.tab fun i _ => byte_sub
theorem qe_unsub {b : List Int} : BL 16 (qe funsub b) := BL.tab fun i _ => byte_unsub
theorem qt_bl {n : Nat} {b : List Int} (hb : BL 16 b) : BL 16 (qt n b) := BL.tab fun i _ => hb.get _
theorem lsub_bl {w : List Int} {n : Nat} (hw : BL n w) {o z : Nat} (h : o + z ≤ n) : BL z (lsub w o z) := ⟨lsub_len _ _ _ (by rw [hw.len]; exact h), fun x hx => hw.all x (List.mem_of_mem_drop (List.mem_of_mem_take hx))⟩
theorem rk_bl {w : List Int} (hw : BL 176 w) {i : Nat} (hi : i < 11) : BL 16 (rk w i) := lsub_bl hw (by omega)
theorem mixN_byte {c f : List Int} (hf : ∀ x ∈ natL f, x < 256) : ∀ x ∈ fmix c f, Byte x := by
  have hg : ∀ j, (natL f).getD j 0 < 256 := fun j => by
    rw [List.getD_eq_getElem?_getD]
    cases hq : (natL f)[j]? with
    | none => simp
    | some x => exact hf x (List.mem_of_getElem? hq)
  have ml_lt : ∀ (d r i s : Nat), s < 256 → ml (natL c) (natL f) r d i s < 256 := by
    intro d
    induction d with
    | zero => intro r i s hs; exact hs
    | succ d ih => intro r i s hs; exact ih r (i + 1) _ (xor_lt hs (gm_lt (hg _)))
  have m1 : ∀ r, mix1 (natL c) (natL f) r < 256 := fun r => ml_lt 4 r 0 0 (by decide)
  intro x hx
  obtain ⟨n, hn, rfl⟩ := List.mem_map.1 hx
  simp only [mixN, List.mem_cons, List.not_mem_nil, or_false] at hn
  rcases hn with rfl | rfl | rfl | rfl <;> exact Byte.of (m1 _)
theorem fmix_bl {c f : List Int} (hf : ∀ x ∈ natL f, x < 256) : BL 4 (fmix c f) := ⟨rfl, mixN_byte hf⟩
theorem qc_bl {f b : List Int} (hf : ∀ x ∈ natL f, x < 256) : BL 16 (qc f b) := BL.tab fun i _ => (fmix_bl hf).get _
theorem there : ∀ x ∈ natL [2, 3, 1, 1], x < 256 := by decide
theorem back_ : ∀ x ∈ natL [14, 11, 13, 9], x < 256 := by decide
end Go.Blk
namespace Go.Proofs.Ytkecbjohbihfmaa.G
open Go Go.Sx Go.Fld Go.Blk
set_option linter.unusedSimpArgs false
set_option linter.unusedVariables false

theorem encN_bl {w : List Int} (hw : BL 176 w) : ∀ (n i : Nat) {x : List Int}, n + i = 11 → BL 16 x → BL 16 (encN w n i x)
  | 0, _, _, _, h => h
  | n + 1, i, x, hn, h => by
    refine encN_bl hw n (i + 1) (by omega) (qx_bl ?_ (rk_bl hw (by omega)))
    split
    · exact qc_bl there
    · exact qt_bl qe_sub
theorem enc_bl {w b : List Int} (hw : BL 176 w) (hb : BL 16 b) : BL 16 (enc w b) := encN_bl hw 10 1 rfl (qx_bl hb (rk_bl hw (by decide)))
theorem decN_bl {w : List Int} (hw : BL 176 w) : ∀ (n : Nat) {x : List Int}, n ≤ 10 → BL 16 x → BL 16 (decN w n x)
  | 0, _, _, h => h
  | n + 1, x, hn, h => by
    refine decN_bl hw n (by omega) ?_
    show BL 16 (if 1 < n + 1 then _ else _)
    split
    · exact qc_bl back_
    · exact qx_bl qe_unsub (rk_bl hw (by omega))
theorem dec_bl {w b : List Int} (hw : BL 176 w) (hb : BL 16 b) : BL 16 (dec w b) := decN_bl hw 10 (by decide) (qx_bl hb (rk_bl hw (by decide)))

theorem rk_nat (w : List Int) (i : Nat) : lsub w (nadd 0 (nmul (nat (i : Int)) 16)) 16 = rk w i := by
  simp only [nadd_def, nmul_def, nat_cast, rk]; congr 1; omega

theorem encS_run {R : AV → Mem → Prop} {w r : List Int} (hw : BL 176 w) (h : ∀ σ, R (.agg [.ints .u8 16 r]) σ) : ∀ (n i : Nat) (x : List Int), n + i = 11 → 1 ≤ i → BL 16 x → encN w n i x = r → encS.l0 R w (n + 1) (i : Int) x
  | 0, i, x, hn, h1, hx, e => by
    rw [encS.l0_succ]
    refine ⟨fun q => ?_, fun _ => ?_⟩
    · rw [ile_true] at q; omega
    · rw [show x = r from e]; exact h _
  | n + 1, i, x, hn, h1, hx, e => by
    rw [encS.l0_succ]
    have hk := rk_bl hw (i := i) (by omega)
    have hI : InB (i : Int) 11 := ⟨by omega, by omega⟩
    have hF : Fits (nadd (nadd 0 (nmul (nat (i : Int)) 16)) 16) 176 := ⟨by simp only [nadd_def, nmul_def, nat_cast]; omega⟩
    rw [rk_nat, add1_i64 (by omega)]
    refine ⟨fun _ => ⟨hx, ⟨qe_sub, by decide, by decide⟩, fun q => ⟨qt_bl qe_sub, hI, hF, ⟨qc_bl there, hk⟩, ?_⟩, fun q => ⟨hI, hF, ⟨qt_bl qe_sub, hk⟩, ?_⟩⟩, fun q => ?_⟩
    · rw [ilt_true] at q
      exact encS_run hw h n (i + 1) _ (by omega) (by omega) (qx_bl (qc_bl there) hk) (by rw [← e]; show _ = encN w n (i + 1) (qx (if i < 10 then _ else _) _); rw [if_pos (by omega)])
    · rw [ilt_false] at q
      exact encS_run hw h n (i + 1) _ (by omega) (by omega) (qx_bl (qt_bl qe_sub) hk) (by rw [← e]; show _ = encN w n (i + 1) (qx (if i < 10 then _ else _) _); rw [if_neg (by omega)])
    · rw [ile_false] at q; omega

theorem encT_run {R : AV → Mem → Prop} {w r t : List Int} (ht : Tbl t) (hw : BL 176 w) (h : ∀ σ, R (.agg [.ints .u8 16 r]) σ) : ∀ (n i : Nat) (x : List Int), n + i = 11 → 1 ≤ i → BL 16 x → encN w n i x = r → encT.l0 R w t (n + 1) (i : Int) x
  | 0, i, x, hn, h1, hx, e => by
    rw [encT.l0_succ]
    refine ⟨fun q => ?_, fun _ => ?_⟩
    · rw [ile_true] at q; omega
    · rw [show x = r from e]; exact h _
  | n + 1, i, x, hn, h1, hx, e => by
    rw [encT.l0_succ]
    have hk := rk_bl hw (i := i) (by omega)
    have hI : InB (i : Int) 11 := ⟨by omega, by omega⟩
    have hF : Fits (nadd (nadd 0 (nmul (nat (i : Int)) 16)) 16) 176 := ⟨by simp only [nadd_def, nmul_def, nat_cast]; omega⟩
    rw [rk_nat, add1_i64 (by omega)]
    refine ⟨fun _ => ⟨ht, hx, ⟨qe_sub, by decide, by decide⟩, fun q => ⟨qt_bl qe_sub, hI, hF, ⟨qc_bl there, hk⟩, ?_⟩, fun q => ⟨hI, hF, ⟨qt_bl qe_sub, hk⟩, ?_⟩⟩, fun q => ?_⟩
    · rw [ilt_true] at q
      exact encT_run ht hw h n (i + 1) _ (by omega) (by omega) (qx_bl (qc_bl there) hk) (by rw [← e]; show _ = encN w n (i + 1) (qx (if i < 10 then _ else _) _); rw [if_pos (by omega)])
    · rw [ilt_false] at q
      exact encT_run ht hw h n (i + 1) _ (by omega) (by omega) (qx_bl (qt_bl qe_sub) hk) (by rw [← e]; show _ = encN w n (i + 1) (qx (if i < 10 then _ else _) _); rw [if_neg (by omega)])
    · rw [ile_false] at q; omega

theorem good_encrypted : Sx.Good Try.prog 27 encryptedS := by
  refine Sx.Good.reads (D := []) mixed gamB2_good Try.func27 (by kernel_rfl) rfl fun d args σ K h => ?_
  simp only [encryptedS] at h
  split at h <;> try exact h.elim
  rename_i w b x
  unfold fnS at h
  have h0 : ∀ {w b : List Int}, BL 176 w → BL 16 b → BL 16 (rk w 0) := fun hw _ => rk_bl hw (by decide)
  split at h
  · rename_i g hg
    obtain rfl := conFn_eq hg
    split at h <;> try exact h.elim
    rename_i hq
    obtain rfl := beq_nat hq
    obtain ⟨⟨hw, hb⟩, hK⟩ := h
    refine ⟨_, [], .plain (plain_ints _ _ _) (.plain (plain_ints _ _ _) (.plain (plain_con _) (.nil _))), by simp, 11 + 1, ?_⟩
    rw [encS_vc]
    exact ⟨⟨by decide, by decide⟩, ⟨by decide⟩, ⟨hb, h0 hw hb⟩, encS_run hw (fun σ' => res_arr rfl hK) 10 1 _ rfl (by decide) (qx_bl hb (h0 hw hb)) rfl⟩
  · split at h <;> try exact h.elim
    rename_i n hn
    obtain rfl := isTold_eq hn
    split at h <;> try exact h.elim
    rename_i bk hbk
    split at h <;> try exact h.elim
    rename_i t ht
    obtain ⟨hT, ⟨hw, hb⟩, hK⟩ := h
    refine ⟨[.agg [.ints .u8 176 w], .agg [.ints .u8 16 b], .one (.clo 38 200002 0 0)], [(200002, .view [.ints .u8 256 t])], .plain (plain_ints _ _ _) (.plain (plain_ints _ _ _) (ht ▸ .clo hbk (by rw [ht]; intro m; rfl) (.nil _))), by simp, 11 + 1, ?_⟩
    rw [encT_vc]
    exact ⟨⟨by decide, by decide⟩, ⟨by decide⟩, ⟨hb, h0 hw hb⟩, encT_run hT hw (fun σ' => res_arr rfl hK) 10 1 _ rfl (by decide) (qx_bl hb (h0 hw hb)) rfl⟩

theorem qt1_at {b : List Int} (j : Nat) (hj : j < 16) : lget (qt 1 (qe fsub b)) j = fsub (lget b ((j + 4 * (j % 4)) % 16)) := by
  rw [qt, tab_lget _ hj, qe, tab_lget _ (by omega)]
  congr 2; omega

theorem rWith_run {R : AV → Mem → Prop} {w r : List Int} (hw : BL 176 w) (h : ∀ σ, R (.agg [.ints .u8 16 r]) σ) : ∀ (n i : Nat) (x : List Int), n + i = 11 → 1 ≤ i → BL 16 x → encN w n i x = r → rWith.l0 R w (18 * n + 1) (i : Int) x
  | 0, i, x, hn, h1, hx, e => by
    rw [rWith.l0_succ]
    refine ⟨fun q => ?_, fun _ => ?_⟩
    · rw [ile_true] at q; omega
    · rw [show x = r from e]; exact h _
  | n + 1, i, x, hn, h1, hx, e => by
    rw [rWith.l0_succ]
    have hk := rk_bl hw (i := i) (by omega)
    have hI : InB (i : Int) 11 := ⟨by omega, by omega⟩
    refine ⟨fun _ => ?_, fun q => ?_⟩
    · have key := loop_n (fun f j s => rWith.l1 R (i : Int) w x f j s) 16 (fun j => upto 16 j (lget (qt 1 (qe fsub x))) fun _ => 0) 1 (18 * n + 1 + 1)
        (fun f j hj hf => by
          rw [rWith.l1_succ]
          refine ⟨fun _ => ?_, fun q => ?_⟩
          · have e1 : rem (j : Int) 4 = ((j % 4 : Nat) : Int) := remN (b := 4)
            have e2 : mul .i64 4 ((j % 4 : Nat) : Int) = ((4 * (j % 4) : Nat) : Int) := mulN_i64 (a := 4) (by omega)
            have e3 : add .i64 (j : Int) ((4 * (j % 4) : Nat) : Int) = ((j + 4 * (j % 4) : Nat) : Int) := addN_i64 (by omega)
            have e4 : rem ((j + 4 * (j % 4) : Nat) : Int) 16 = (((j + 4 * (j % 4)) % 16 : Nat) : Int) := remN (b := 16)
            obtain ⟨m, hm, em⟩ := (hx.get ((j + 4 * (j % 4)) % 16)).nat
            have e5 : sget boxC m = lget (qt 1 (qe fsub x)) j := by rw [qt1_at j hj, em, box_at m hm]
            simp only [e1, e2, e3, e4, nat_cast, nadd_def, Nat.zero_add, em, e5, InB_iff, Low_iff, NeZ_iff]
            refine ⟨by decide, by decide, by omega, by omega, by omega, by omega, hj, ?_⟩
            rw [add1_i64 (by omega), upto_lset rfl]
            exact hf
          · rw [ilt_false] at q; omega)
        (by
          rw [rWith.l1_succ]
          refine ⟨fun q => ?_, fun _ => ?_⟩
          · rw [ilt_true] at q; omega
          · have ey : upto 16 16 (lget (qt 1 (qe fsub x))) (fun _ => 0) = qt 1 (qe fsub x) := by rw [upto_done]; exact (eq_tab (tab_len _ _)).symm
            simp only [ey, add1_i64 (show i < 9223372036854775807 by omega), nat_cast]
            refine ⟨fun q => ⟨qt_bl qe_sub, ⟨⟨qc_bl there, hw⟩, hI⟩, ?_⟩, fun q => ⟨⟨⟨qt_bl qe_sub, hw⟩, hI⟩, ?_⟩⟩
            · rw [ilt_true] at q
              exact rWith_run hw h n (i + 1) _ (by omega) (by omega) (qx_bl (qc_bl there) hk) (by rw [← e]; show _ = encN w n (i + 1) (qx (if i < 10 then _ else _) _); rw [if_pos (by omega)])
            · rw [ilt_false] at q
              exact rWith_run hw h n (i + 1) _ (by omega) (by omega) (qx_bl (qt_bl qe_sub) hk) (by rw [← e]; show _ = encN w n (i + 1) (qx (if i < 10 then _ else _) _); rw [if_neg (by omega)])) 0 (Nat.zero_le _)
      rw [upto_zero, ← lzeros_tab] at key
      exact key
    · rw [ile_false] at q; omega

theorem good_rwith : Sx.Good Try.prog 15 encS := by
  refine Sx.Good.pure (D := []) mixed gamB3_good Try.func15 (by kernel_rfl) rfl fun d args σ K h => ?_
  simp only [Sx.encS] at h
  split at h <;> try exact h.elim
  rename_i w b
  obtain ⟨⟨hw, hb⟩, hK⟩ := h
  refine ⟨by simp [plain_ints], _, plain_ints _ _ _, hK, 181 + 1, ?_⟩
  rw [rWith_vc]
  exact ⟨⟨⟨hb, hw⟩, ⟨by decide, by decide⟩⟩, rWith_run hw (fun σ' => rfl) 10 1 _ rfl (by decide) (qx_bl hb (rk_bl hw (by decide))) rfl⟩

theorem gamB4_good : GoodG Try.prog gamB4 :=
  (gamB3_good.ext good_encrypted ⟨_, Try.func27, by decide, by kernel_rfl⟩).ext good_rwith ⟨_, Try.func15, by decide, by kernel_rfl⟩

theorem good_enc : Sx.Good Try.prog 11 Sx.encS := by
  refine Sx.Good.pure (D := []) mixed gamB4_good Try.func11 (by kernel_rfl) rfl fun d args σ K h => ?_
  simp only [Sx.encS] at h
  split at h <;> try exact h.elim
  rename_i w b
  obtain ⟨hc, hK⟩ := h
  refine ⟨by simp [plain_ints], _, plain_ints _ _ _, hK, 0 + 1, ?_⟩
  rw [bEnc_vc]
  exact ⟨hc, rfl⟩

theorem bDec_run {R : AV → Mem → Prop} {w r : List Int} (hw : BL 176 w) (h : ∀ σ, R (.agg [.ints .u8 16 r]) σ) : ∀ (n : Nat) (x : List Int), n ≤ 10 → BL 16 x → decN w n x = r → bDec.l0 R w (n + 1) (n : Int) x
  | 0, x, hn, hx, e => by
    rw [bDec.l0_succ]
    refine ⟨fun q => ?_, fun _ => ?_⟩
    · rw [ige_true] at q; omega
    · rw [show x = r from e]; exact h _
  | n + 1, x, hn, hx, e => by
    rw [bDec.l0_succ]
    have hk := rk_bl hw (i := n) (by omega)
    have e1 : sub .i64 ((n + 1 : Nat) : Int) 1 = (n : Int) := by rw [sub_i64 (by omega) (by omega)]; omega
    rw [e1, rk_nat]
    have hF : Fits (nadd (nadd 0 (nmul (nat (n : Int)) 16)) 16) 176 := ⟨by simp only [nadd_def, nmul_def, nat_cast]; omega⟩
    have hy := qx_bl (b := qe funsub (qt 3 x)) (k := rk w n) qe_unsub hk
    refine ⟨fun _ => ⟨⟨by omega, by omega⟩, hF, ⟨hx, ⟨by decide, by decide⟩⟩, qt_bl hx, ⟨qe_unsub, hk⟩, fun q => ⟨hy, ?_⟩, fun q => ?_⟩, fun q => ?_⟩
    · rw [igt_true] at q
      exact bDec_run hw h n _ (by omega) (qc_bl back_) (by rw [← e]; show _ = decN w n (if 1 < n + 1 then _ else _); rw [if_pos (by omega)])
    · rw [igt_false] at q
      exact bDec_run hw h n _ (by omega) hy (by rw [← e]; show _ = decN w n (if 1 < n + 1 then _ else _); rw [if_neg (by omega)])
    · rw [ige_false] at q; omega

theorem good_dec : Sx.Good Try.prog 13 Sx.decS := by
  refine Sx.Good.pure (D := []) mixed gamB2_good Try.func13 (by kernel_rfl) rfl fun d args σ K h => ?_
  simp only [Sx.decS] at h
  split at h <;> try exact h.elim
  rename_i w b
  obtain ⟨⟨hw, hb⟩, hK⟩ := h
  refine ⟨by simp [plain_ints], _, plain_ints _ _ _, hK, 11 + 1, ?_⟩
  rw [bDec_vc]
  have hk := rk_bl hw (i := 10) (by decide)
  exact ⟨⟨by decide, by decide⟩, ⟨by decide⟩, ⟨hb, hk⟩, bDec_run hw (fun σ' => rfl) 10 _ (by decide) (qx_bl hb hk) rfl⟩
end Go.Proofs.Ytkecbjohbihfmaa.G

/- The block cipher's outer functions, by program and document. -/
namespace Go.Fld
/-- mixed three times -/
def m444 (f : List Nat) (r a b c d : Nat) : Nat := m4 f r (m44 f f 0 a b c d) (m44 f f 1 a b c d) (m44 f f 2 a b c d) (m44 f f 3 a b c d)
theorem m444_add (f : List Nat) (r a b c d a' b' c' d' : Nat) : m444 f r (a ^^^ a') (b ^^^ b') (c ^^^ c') (d ^^^ d') = m444 f r a b c d ^^^ m444 f r a' b' c' d' := by
  simp only [m444, m44_add, m4_add]
theorem bits3 : ∀ i, i < 8 → ∀ r, r < 4 →
    (m444 [2, 3, 1, 1] r (2 ^ i) 0 0 0 = m4 [14, 11, 13, 9] r (2 ^ i) 0 0 0) ∧ (m444 [2, 3, 1, 1] r 0 (2 ^ i) 0 0 = m4 [14, 11, 13, 9] r 0 (2 ^ i) 0 0) ∧
    (m444 [2, 3, 1, 1] r 0 0 (2 ^ i) 0 = m4 [14, 11, 13, 9] r 0 0 (2 ^ i) 0) ∧ (m444 [2, 3, 1, 1] r 0 0 0 (2 ^ i) = m4 [14, 11, 13, 9] r 0 0 0 (2 ^ i)) := by decide +kernel
theorem three {a b c d : Nat} (hl : L4 a b c d) : ∀ r, r < 4 → m444 [2, 3, 1, 1] r a b c d = m4 [14, 11, 13, 9] r a b c d := by
  obtain ⟨ha, hb, hc, hd⟩ := hl
  intro r hr
  have split3 : ∀ (F : Nat → Nat → Nat → Nat → Nat), (∀ a b c d a' b' c' d', F (a ^^^ a') (b ^^^ b') (c ^^^ c') (d ^^^ d') = F a b c d ^^^ F a' b' c' d') → F a b c d = ((F a 0 0 0 ^^^ F 0 b 0 0) ^^^ F 0 0 c 0) ^^^ F 0 0 0 d := fun F h => by
    rw [← h, ← h, ← h]; simp
  rw [split3 (m444 [2, 3, 1, 1] r) (m444_add _ r), split3 (m4 [14, 11, 13, 9] r) (m4_add _ r),
    lin_ext (f := fun x => m444 [2, 3, 1, 1] r x 0 0 0) (g := fun x => m4 [14, 11, 13, 9] r x 0 0 0) (fun x y _ _ => by have := m444_add [2, 3, 1, 1] r x 0 0 0 y 0 0 0; simpa using this) (fun x y _ _ => by have := m4_add [14, 11, 13, 9] r x 0 0 0 y 0 0 0; simpa using this) (fun i hi => (bits3 i hi r hr).1) a ha,
    lin_ext (f := fun x => m444 [2, 3, 1, 1] r 0 x 0 0) (g := fun x => m4 [14, 11, 13, 9] r 0 x 0 0) (fun x y _ _ => by have := m444_add [2, 3, 1, 1] r 0 x 0 0 0 y 0 0; simpa using this) (fun x y _ _ => by have := m4_add [14, 11, 13, 9] r 0 x 0 0 0 y 0 0; simpa using this) (fun i hi => (bits3 i hi r hr).2.1) b hb,
    lin_ext (f := fun x => m444 [2, 3, 1, 1] r 0 0 x 0) (g := fun x => m4 [14, 11, 13, 9] r 0 0 x 0) (fun x y _ _ => by have := m444_add [2, 3, 1, 1] r 0 0 x 0 0 0 y 0; simpa using this) (fun x y _ _ => by have := m4_add [14, 11, 13, 9] r 0 0 x 0 0 0 y 0; simpa using this) (fun i hi => (bits3 i hi r hr).2.2.1) c hc,
    lin_ext (f := fun x => m444 [2, 3, 1, 1] r 0 0 0 x) (g := fun x => m4 [14, 11, 13, 9] r 0 0 0 x) (fun x y _ _ => by have := m444_add [2, 3, 1, 1] r 0 0 0 x 0 0 0 y; simpa using this) (fun x y _ _ => by have := m4_add [14, 11, 13, 9] r 0 0 0 x 0 0 0 y; simpa using this) (fun i hi => (bits3 i hi r hr).2.2.2) d hd]
theorem mix3 {a b c d : Nat} (hl : L4 a b c d) : mixN (mixN (mixN [a, b, c, d] [2, 3, 1, 1]) [2, 3, 1, 1]) [2, 3, 1, 1] = mixN [a, b, c, d] [14, 11, 13, 9] := by
  rw [mixN_eq, mixN_eq, mixN_eq, mixN_eq]
  have h := three hl
  simp only [m444, m44] at h
  rw [h 0 (by decide), h 1 (by decide), h 2 (by decide), h 3 (by decide)]
end Go.Fld
namespace Go.Blk
open Go.Sx Go.Fld
set_option linter.unusedVariables false
theorem natL_intL (l : List Nat) : natL (intL l) = l := by
  simp only [natL, intL, List.map_map]
  conv => rhs; rw [← List.map_id l]
  exact List.map_congr_left fun x _ => rfl
theorem col_nat {b : List Int} (hb : BL 4 b) : ∃ x y z w : Nat, L4 x y z w ∧ natL b = [x, y, z, w] ∧ b = intL [x, y, z, w] := by
  obtain ⟨x, hx, ex⟩ := (hb.get 0).nat
  obtain ⟨y, hy, ey⟩ := (hb.get 1).nat
  obtain ⟨z, hz, ez⟩ := (hb.get 2).nat
  obtain ⟨w, hw, ew⟩ := (hb.get 3).nat
  have e : b = intL [x, y, z, w] := by
    rw [hb.eq]
    simp only [Sx.tab, List.range_succ, List.range_zero, List.nil_append, List.map_cons, List.map_nil, List.cons_append, ex, ey, ez, ew]; rfl
  exact ⟨x, y, z, w, ⟨hx, hy, hz, hw⟩, by rw [e, natL_intL], e⟩
theorem qc_sub {f b : List Int} (k : Nat) (hk : k < 4) : lsub (qc f b) (4 * k) 4 = fmix (lsub b (4 * k) 4) f := by
  rw [qc, tab_lsub _ (by omega), eq_tab (show (fmix (lsub b (4 * k) 4) f).length = 4 from rfl)]
  exact tab_ext fun j hj => by rw [show (4 * k + j) / 4 * 4 = 4 * k by omega, show (4 * k + j) % 4 = j by omega]
/-- column by column -/
theorem qc_ext {f : List Int} {b c : List Int} (h : ∀ k, k < 4 → fmix (lsub b (4 * k) 4) f = lsub c (4 * k) 4) (hc : c.length = 16) : qc f b = c := by
  rw [eq_tab hc]
  refine tab_ext fun j hj => ?_
  rw [show j / 4 * 4 = 4 * (j / 4) by omega, h (j / 4) (by omega), lsub_tabbed hc (by omega), tab_lget _ (by omega)]
  congr 1; omega
theorem natL2 : natL [2, 3, 1, 1] = [2, 3, 1, 1] := rfl
theorem natL14 : natL [14, 11, 13, 9] = [14, 11, 13, 9] := rfl
theorem qc3 {b : List Int} (hb : BL 16 b) : qc [2, 3, 1, 1] (qc [2, 3, 1, 1] (qc [2, 3, 1, 1] b)) = qc [14, 11, 13, 9] b := by
  refine qc_ext (fun k hk => ?_) (tab_len _ _)
  rw [qc_sub k hk, qc_sub k hk, qc_sub k hk]
  obtain ⟨x, y, z, w, hl, hn, _⟩ := col_nat (lsub_bl hb (o := 4 * k) (z := 4) (by omega))
  simp only [fmix, natL_intL, hn, natL2, natL14, mix3 hl]
theorem qc_back {b : List Int} (hb : BL 16 b) : qc [14, 11, 13, 9] (qc [2, 3, 1, 1] b) = b := by
  refine qc_ext (fun k hk => ?_) hb.len
  rw [qc_sub k hk]
  obtain ⟨x, y, z, w, hl, hn, he⟩ := col_nat (lsub_bl hb (o := 4 * k) (z := 4) (by omega))
  simp only [fmix, natL_intL, hn, natL2, natL14]
  rw [back back_bits hl, ← he]
theorem qc_back' {b : List Int} (hb : BL 16 b) : qc [2, 3, 1, 1] (qc [14, 11, 13, 9] b) = b := by
  refine qc_ext (fun k hk => ?_) hb.len
  rw [qc_sub k hk]
  obtain ⟨x, y, z, w, hl, hn, he⟩ := col_nat (lsub_bl hb (o := 4 * k) (z := 4) (by omega))
  simp only [fmix, natL_intL, hn, natL2, natL14]
  rw [back back_bits' hl, ← he]
end Go.Blk
namespace Go.Proofs.Ytkecbjohbihfmaa.G
open Go Go.Sx Go.Fld Go.Blk
set_option linter.unusedSimpArgs false
set_option linter.unusedVariables false

theorem good_renc : Sx.Good Try.prog 12 kencS := by
  refine Sx.Good.pure (D := []) mixed gamB4_good Try.func12 (by kernel_rfl) rfl fun d args σ K h => ?_
  simp only [kencS] at h
  split at h <;> try exact h.elim
  rename_i k b
  obtain ⟨⟨hk, hb⟩, hK⟩ := h
  refine ⟨by simp [plain_ints], _, plain_ints _ _ _, hK, 0 + 1, ?_⟩
  rw [rEnc_vc]
  exact ⟨hk, ⟨ks_bl hk, hb⟩, rfl⟩

/-- rows turned back and every byte -/
theorem qt3_at {x : List Int} {j : Nat} (hj : j < 16) : lget (qe funsub (qt 3 x)) ((j + 4 * (j % 4)) % 16) = funsub (lget x j) := by
  rw [qe, tab_lget _ (by omega), qt, tab_lget _ (by omega)]
  congr 2; omega

theorem rDec_run {R : AV → Mem → Prop} {k r : List Int} (hk : BL 16 k) (h : ∀ σ, R (.agg [.ints .u8 16 r]) σ) : ∀ (n : Nat) (x : List Int), n ≤ 10 → BL 16 x → decN (ks k) n x = r → rDec.l0 R k (18 * n + 1) (n : Int) x
  | 0, x, hn, hx, e => by
    rw [rDec.l0_succ]
    refine ⟨fun q => ?_, fun _ => ?_⟩
    · rw [ige_true] at q; omega
    · rw [show x = r from e]; exact h _
  | n + 1, x, hn, hx, e => by
    rw [rDec.l0_succ]
    have hw := ks_bl hk
    have hrk := rk_bl hw (i := n) (by omega)
    have e1 : sub .i64 ((n + 1 : Nat) : Int) 1 = (n : Int) := by rw [sub_i64 (by omega) (by omega)]; omega
    have hy := qx_bl (b := qe funsub (qt 3 x)) (k := rk (ks k) n) qe_unsub hrk
    refine ⟨fun _ => ?_, fun q => ?_⟩
    · have key := loop_n (fun f j s => rDec.l1 R ((n + 1 : Nat) : Int) x k f j s) 16 (fun j => tab 16 fun m => if (m + 12 * (m % 4)) % 16 < j then lget (qe funsub (qt 3 x)) m else 0) 1 (18 * n + 1 + 1)
        (fun f j hj hf => by
          rw [rDec.l1_succ]
          refine ⟨fun _ => ?_, fun q => ?_⟩
          · have a1 : rem (j : Int) 4 = ((j % 4 : Nat) : Int) := remN (b := 4)
            have a2 : mul .i64 4 ((j % 4 : Nat) : Int) = ((4 * (j % 4) : Nat) : Int) := mulN_i64 (a := 4) (by omega)
            have a3 : add .i64 (j : Int) ((4 * (j % 4) : Nat) : Int) = ((j + 4 * (j % 4) : Nat) : Int) := addN_i64 (by omega)
            have a4 : rem ((j + 4 * (j % 4) : Nat) : Int) 16 = (((j + 4 * (j % 4)) % 16 : Nat) : Int) := remN (b := 16)
            obtain ⟨m, hm, em⟩ := (hx.get j).nat
            simp only [a1, a2, a3, a4, nat_cast, nadd_def, Nat.zero_add, em, InB_iff, Low_iff, NeZ_iff]
            refine ⟨by decide, by decide, by omega, hj, by omega, hm, by omega, by omega, ?_⟩
            rw [tab_lget _ hm, tab_lset, add1_i64 (by omega)]
            have ev : (tab 16 fun q => if q = (j + 4 * (j % 4)) % 16 then funsub (m : Int) else if (q + 12 * (q % 4)) % 16 < j then lget (qe funsub (qt 3 x)) q else 0) = tab 16 fun m => if (m + 12 * (m % 4)) % 16 < j + 1 then lget (qe funsub (qt 3 x)) m else 0 := by
              refine tab_ext fun q hq => ?_
              by_cases c : q = (j + 4 * (j % 4)) % 16
              · rw [if_pos c, if_pos (by omega), c, qt3_at hj, em]
              · have : (q + 12 * (q % 4)) % 16 ≠ j := by omega
                rw [if_neg c]
                by_cases c2 : (q + 12 * (q % 4)) % 16 < j
                · rw [if_pos c2, if_pos (by omega)]
                · rw [if_neg c2, if_neg (by omega)]
            rw [ev]; exact hf
          · rw [ilt_false] at q; omega)
        (by
          rw [rDec.l1_succ]
          refine ⟨fun q => ?_, fun _ => ?_⟩
          · rw [ilt_true] at q; omega
          · have ey : (tab 16 fun m => if (m + 12 * (m % 4)) % 16 < 16 then lget (qe funsub (qt 3 x)) m else 0) = qe funsub (qt 3 x) := by
              rw [eq_tab (show (qe funsub (qt 3 x)).length = 16 from tab_len _ _)]
              refine tab_ext fun m hm => ?_
              rw [if_pos (by omega), ← eq_tab (show (qe funsub (qt 3 x)).length = 16 from tab_len _ _)]
            simp only [ey, e1, nat_cast]
            refine ⟨⟨⟨qe_unsub, hw⟩, ⟨by omega, by omega⟩⟩, fun q => ⟨hy, qc_bl there, qc_bl there, ?_⟩, fun q => ?_⟩
            · rw [igt_true] at q
              rw [qc3 hy]
              exact rDec_run hk h n _ (by omega) (qc_bl back_) (by rw [← e]; show _ = decN (ks k) n (if 1 < n + 1 then _ else _); rw [if_pos (by omega)])
            · rw [igt_false] at q
              exact rDec_run hk h n _ (by omega) hy (by rw [← e]; show _ = decN (ks k) n (if 1 < n + 1 then _ else _); rw [if_neg (by omega)])) 0 (Nat.zero_le _)
      have e0 : (tab 16 fun m => if (m + 12 * (m % 4)) % 16 < 0 then lget (qe funsub (qt 3 x)) m else 0) = lzeros 16 := by
        rw [lzeros_tab]; exact tab_ext fun m hm => by simp
      rw [e0] at key
      exact key
    · rw [ige_false] at q; omega

theorem good_rdec : Sx.Good Try.prog 14 kdecS := by
  refine Sx.Good.pure (D := []) mixed gamB3_good Try.func14 (by kernel_rfl) rfl fun d args σ K h => ?_
  simp only [kdecS] at h
  split at h <;> try exact h.elim
  rename_i k b
  obtain ⟨⟨hk, hb⟩, hK⟩ := h
  refine ⟨by simp [plain_ints], _, plain_ints _ _ _, hK, 181 + 1, ?_⟩
  rw [rDec_vc]
  exact ⟨hk, ⟨⟨hb, ks_bl hk⟩, ⟨by decide, by decide⟩⟩, rDec_run hk (fun σ' => rfl) 10 _ (by decide) (qx_bl hb (rk_bl (ks_bl hk) (by decide))) rfl⟩

theorem good_round : Sx.Good Try.prog 16 roundS := by
  refine Sx.Good.pure (D := []) mixed (good0 _) Try.func16 (by kernel_rfl) rfl fun d args σ K h => ?_
  simp only [roundS] at h
  split at h <;> try exact h.elim
  rename_i w i
  obtain ⟨hw, hK⟩ := h
  refine ⟨by simp [plain_ints, plain_int], _, plain_ints _ _ _, hK, 0 + 1, ?_⟩
  rw [bRound_vc]
  refine ⟨fun q => ⟨fun q2 => ?_, fun q2 => ?_⟩, fun q => ?_⟩
  · rw [igt_true] at q2; rw [rkI, if_pos (by omega)]
  · rw [igt_false] at q2; rw [ilt_false] at q
    obtain ⟨n, rfl⟩ := Int.eq_ofNat_of_zero_le q
    refine ⟨⟨by omega, by omega⟩, ⟨by simp only [nadd_def, nmul_def, nat_cast]; omega⟩, ?_⟩
    rw [rk_nat, rkI, if_neg (by omega)]; rfl
  · rw [ilt_true] at q; rw [rkI, if_pos (by omega)]

theorem good_rround : Sx.Good Try.prog 17 kroundS := by
  refine Sx.Good.pure (D := []) mixed gamB3_good Try.func17 (by kernel_rfl) rfl fun d args σ K h => ?_
  simp only [kroundS] at h
  split at h <;> try exact h.elim
  rename_i k i
  obtain ⟨hk, hK⟩ := h
  refine ⟨by simp [plain_ints, plain_int], _, plain_ints _ _ _, hK, (1 + 1 * 16) + 1, ?_⟩
  rw [rRound_vc]
  refine ⟨fun q => ⟨fun q2 => ?_, fun q2 => ⟨hk, ?_⟩⟩, fun q => ?_⟩
  · rw [igt_true] at q2; rw [rkI, if_pos (by omega)]
  · rw [igt_false] at q2; rw [ilt_false] at q
    obtain ⟨n, rfl⟩ := Int.eq_ofNat_of_zero_le q
    have key := loop_n (fun f j s => rRound.l0 (fun av' _ => av' = .agg [.ints .u8 16 (rkI (ks k) (n : Int))]) (n : Int) k f j s) 16 (fun j => upto 16 j (fun m => lget (ks k) (16 * n + m)) fun _ => 0) 1 1
      (fun f j hj hf => by
        rw [rRound.l0_succ]
        refine ⟨fun _ => ?_, fun q => ?_⟩
        · have a1 : mul .i64 16 (n : Int) = ((16 * n : Nat) : Int) := mulN_i64 (a := 16) (by omega)
          have a2 : add .i64 ((16 * n : Nat) : Int) (j : Int) = ((16 * n + j : Nat) : Int) := addN_i64 (by omega)
          simp only [a1, a2, nat_cast, nadd_def, Nat.zero_add, InB_iff, Low_iff]
          refine ⟨by omega, by omega, by omega, hj, ?_⟩
          rw [upto_lset rfl, add1_i64 (by omega)]
          exact hf
        · rw [ilt_false] at q; omega)
      (by
        rw [rRound.l0_succ]
        refine ⟨fun q => ?_, fun _ => ?_⟩
        · rw [ilt_true] at q; omega
        · rw [upto_done, rkI, if_neg (by omega), rk, lsub_tabbed (ks_bl hk).len (by show 16 * n + 16 ≤ 176; omega)]; rfl) 0 (Nat.zero_le _)
    rw [upto_zero, ← lzeros_tab] at key
    exact key
  · rw [ilt_true] at q; rw [rkI, if_pos (by omega)]

theorem gamB5_good : GoodG Try.prog gamB5 :=
  (((((gamB4_good.ext good_enc ⟨_, Try.func11, by decide, by kernel_rfl⟩).ext good_dec ⟨_, Try.func13, by decide, by kernel_rfl⟩).ext good_round ⟨_, Try.func16, by decide, by kernel_rfl⟩).ext good_renc ⟨_, Try.func12, by decide, by kernel_rfl⟩).ext good_rdec ⟨_, Try.func14, by decide, by kernel_rfl⟩).ext good_rround ⟨_, Try.func17, by decide, by kernel_rfl⟩
end Go.Proofs.Ytkecbjohbihfmaa.G

/- The verification conditions of functions, printed by a program of this session out of their codes. -/
namespace Go.Proofs.Ytkecbjohbihfmaa.G
open Go Go.Sx Go.Fld Go.Blk
set_option linter.unusedVariables false
set_option maxRecDepth 100000

def rMask.l0 (R : AV → Mem → Prop) (k : List Int) (p : List Int) (fuel : Nat) (x0 : Int) (x1 : List Int) (x2 : List Int) (x3 : List Int) : Prop := run Try.prog gamB4 [⟨8, [.ints .u8], true, false⟩] (resh Try.prog [⟨8, [.ints .u8], true, false⟩] Try.f19.results.toList R) fuel [.code (cAt (bodyOf Try.f19) [1, 1, 1, 1, 0, 1, 0, 0]), .inLoop (cAt (bodyOf Try.f19) [1, 1, 1, 1, 0, 1, 0, 0]), .inBlock 0, .code (cAt (bodyOf Try.f19) [1, 1, 1, 1, 1])] [AV.undef, AV.undef, (AV.one (AC.vec 200002)), AV.undef, (AV.one (AC.ptr 4 0 0)), AV.undef, AV.undef, (AV.one (AC.ptr 7 0 0)), (AV.one (AC.vec 100008)), (AV.one (AC.ptr 9 0 0)), (AV.one (AC.int IntKind.i64 x0)), AV.undef, AV.undef, AV.undef, AV.undef, AV.undef, AV.undef, AV.undef, AV.undef, AV.undef, AV.undef, AV.undef, AV.undef, AV.undef, AV.undef, AV.undef, AV.undef, AV.undef, AV.undef, AV.undef, AV.undef, AV.undef, AV.undef, AV.undef, AV.undef, AV.undef, AV.undef, AV.undef, AV.undef, AV.undef, AV.undef, AV.undef, (AV.tup [])] [(4, Blk.own 22 [(Seg.ints IntKind.u8 16 x1)]), (7, Blk.own 33 [(Seg.ints IntKind.u8 176 (Go.Blk.ks k))]), (9, Blk.own 22 [(Seg.ints IntKind.u8 16 x2)]), (100008, Blk.vec [(Col.ints IntKind.u8 x3)]), (200002, Blk.rview [(Col.ints IntKind.u8 p)])]

theorem rMask.l0_succ (R : AV → Mem → Prop) (k : List Int) (p : List Int) (fuel : Nat) (x0 : Int) (x1 : List Int) (x2 : List Int) (x3 : List Int) : rMask.l0 R k p (fuel + 1) x0 x1 x2 x3 = (((((ilt x0 (ofNat (llen p))) = true) → ((NeZ 16) ∧ ((((ieq (rem x0 16) 0) = true) → (((Go.Blk.BL 176 (Go.Blk.ks k)) ∧ (Go.Blk.BL 16 x1)) ∧ ((Go.Blk.BL 16 x1) ∧ ((InB x0 (llen p)) ∧ ((NeZ 16) ∧ ((InB (rem x0 16) 16) ∧ (((Low (nadd 0 (nat (rem x0 16))) 16) ∧ ((Room (nadd (llen x3) (llen [(bxor IntKind.u8 (lget p (nat x0)) (lget (Go.Blk.enc (Go.Blk.ks k) x1) (nadd 0 (nat (rem x0 16)))))])) 1) ∧ (let y4 : List Int := (lcat x3 [(bxor IntKind.u8 (lget p (nat x0)) (lget (Go.Blk.enc (Go.Blk.ks k) x1) (nadd 0 (nat (rem x0 16)))))]); (rMask.l0 R k p fuel (add IntKind.i64 x0 1) (Go.Blk.up x1) (Go.Blk.enc (Go.Blk.ks k) x1) y4)))) ∧ ((Low (nadd 0 (nat (rem x0 16))) 16) ∧ ((Room (nadd (llen x3) (llen [(bxor IntKind.u8 (lget p (nat x0)) (lget (Go.Blk.enc (Go.Blk.ks k) x1) (nadd 0 (nat (rem x0 16)))))])) 1) ∧ (let y4 : List Int := (lcat x3 [(bxor IntKind.u8 (lget p (nat x0)) (lget (Go.Blk.enc (Go.Blk.ks k) x1) (nadd 0 (nat (rem x0 16)))))]); (rMask.l0 R k p fuel (add IntKind.i64 x0 1) (Go.Blk.up x1) (Go.Blk.enc (Go.Blk.ks k) x1) y4))))))))))) ∧ (((ieq (rem x0 16) 0) = false) → ((InB x0 (llen p)) ∧ ((NeZ 16) ∧ ((InB (rem x0 16) 16) ∧ (((Low (nadd 0 (nat (rem x0 16))) 16) ∧ ((Room (nadd (llen x3) (llen [(bxor IntKind.u8 (lget p (nat x0)) (lget x2 (nadd 0 (nat (rem x0 16)))))])) 1) ∧ (rMask.l0 R k p fuel (add IntKind.i64 x0 1) x1 x2 (lcat x3 [(bxor IntKind.u8 (lget p (nat x0)) (lget x2 (nadd 0 (nat (rem x0 16)))))])))) ∧ ((Low (nadd 0 (nat (rem x0 16))) 16) ∧ ((Room (nadd (llen x3) (llen [(bxor IntKind.u8 (lget p (nat x0)) (lget x2 (nadd 0 (nat (rem x0 16)))))])) 1) ∧ (rMask.l0 R k p fuel (add IntKind.i64 x0 1) x1 x2 (lcat x3 [(bxor IntKind.u8 (lget p (nat x0)) (lget x2 (nadd 0 (nat (rem x0 16)))))])))))))))))) ∧ (((ilt x0 (ofNat (llen p))) = false) → (R (AV.one (AC.vec 100008)) [(4, Blk.own 22 [(Seg.ints IntKind.u8 16 x1)]), (7, Blk.own 33 [(Seg.ints IntKind.u8 176 (Go.Blk.ks k))]), (9, Blk.own 22 [(Seg.ints IntKind.u8 16 x2)]), (100008, Blk.vec [(Col.ints IntKind.u8 x3)]), (200002, Blk.rview [(Col.ints IntKind.u8 p)])])))) := by kernel_rfl
theorem rMask.l0_zero (R : AV → Mem → Prop) (k : List Int) (p : List Int) (x0 : Int) (x1 : List Int) (x2 : List Int) (x3 : List Int) : rMask.l0 R k p 0 x0 x1 x2 x3 = False := by kernel_rfl

theorem rMask_vc (R : AV → Mem → Prop) (fuel : Nat) (k : List Int) (s : List Int) (p : List Int) : callsx Try.prog gamB4 [⟨8, [.ints .u8], true, false⟩] Try.f19 (fuel + 1) [.agg [.ints .u8 16 k], .agg [.ints .u8 16 s], .one (.vec 200002)] [(200002, .rview [.ints .u8 p])] R = (((Go.Blk.BL 16 k) ∧ ((Mk 0 (ofNat (llen p)) 1) ∧ (rMask.l0 R k p fuel 0 s (lzeros 16) (lzeros 0))))) := by kernel_rfl

end Go.Proofs.Ytkecbjohbihfmaa.G

/- The key stream, by program and document. -/
namespace Go.Blk
open Go.Sx Go.Fld
set_option linter.unusedVariables false
set_option linter.unusedSimpArgs false
theorem BL.set {n : Nat} {l : List Int} (h : BL n l) (i : Nat) {v : Int} (hv : Byte v) : BL n (lset l i v) := ⟨by simp [lset, h.len], fun x hx => by
  rcases List.mem_or_eq_of_mem_set hx with hx | rfl
  · exact h.all x hx
  · exact hv⟩
theorem byte_inc {a : Int} (ha : Byte a) : Byte (add .u8 a 1) := by rw [add_u8]; exact ⟨by omega, by omega⟩
theorem upN_bl : ∀ (i : Nat) {b : List Int}, BL 16 b → BL 16 (upN i b)
  | 0, b, h => h
  | i + 1, b, h => by
    unfold upN
    split
    · exact upN_bl i (h.set i (byte_inc (h.get i)))
    · exact h.set i (byte_inc (h.get i))
theorem up_bl {b : List Int} (h : BL 16 b) : BL 16 (up b) := upN_bl 16 h
theorem ups_bl {b : List Int} (h : BL 16 b) : ∀ n, BL 16 (ups b n)
  | 0 => h
  | n + 1 => up_bl (ups_bl h n)
theorem mask_len (w s p : List Int) : (mask w s p).length = p.length := tab_len _ _
theorem BL.bs {n : Nat} {l : List Int} (h : BL n l) : Bs l := ⟨fun x hx => ⟨(h.all x hx).lo, (h.all x hx).hi⟩⟩
theorem bs_bl {l : List Int} (h : Bs l) : BL l.length l := ⟨rfl, fun x hx => ⟨(h.all x hx).1, (h.all x hx).2⟩⟩
end Go.Blk
namespace Go.Proofs.Ytkecbjohbihfmaa.G
open Go Go.Sx Go.Fld Go.Blk
set_option linter.unusedSimpArgs false
set_option linter.unusedVariables false

theorem strB_byte {w s : List Int} (hw : BL 176 w) (hs : BL 16 s) (i : Nat) : Byte (strB w s i) := (enc_bl hw (ups_bl hs _)).get _
theorem mask_bs {w s p : List Int} (hw : BL 176 w) (hs : BL 16 s) (hp : Bs p) : Bs (mask w s p) := (BL.tab fun i hi => byte_xor ((bs_bl hp).get i) (strB_byte hw hs i)).bs

theorem imin_nat (a b : Nat) : imin (a : Int) (b : Int) = ((min a b : Nat) : Int) := by
  unfold imin
  split
  · omega
  · omega

section
variable {R : AV → Mem → Prop} {k s p : List Int}
/-- one block's bytes laid over, by the table -/
theorem mask_l2 (hk : BL 16 k) (hs : BL 16 s) {m : Nat} (hm : 16 * m < p.length) (hp : p.length ≤ 140737488355328) {g : Nat} {t y : List Int} (h : bMask.l1 R k t p g ((16 * (m + 1) : Nat) : Int) (ups s (m + 1)) (upto p.length (16 * (m + 1)) (fun i => bxor .u8 (lget p i) (strB (ks k) s i)) (lget p))) :
    ∃ g', bMask.l2 R ((16 * m : Nat) : Int) y k (ups s m) t p g' ((16 * m : Nat) : Int) (upto p.length (16 * m) (fun i => bxor .u8 (lget p i) (strB (ks k) s i)) (lget p)) := by
  have e1 : add .i64 ((16 * m : Nat) : Int) 16 = ((16 * (m + 1) : Nat) : Int) := by rw [add_i64 (by omega) (by omega)]; omega
  refine loop_exfrom (fun f i x => bMask.l2 R ((16 * m : Nat) : Int) y k (ups s m) t p f i x) (16 * m) (min (16 * (m + 1)) p.length) (fun i => upto p.length i (fun i => bxor .u8 (lget p i) (strB (ks k) s i)) (lget p)) (fun g i hl hi hg => ⟨g + 1, ?_⟩) ⟨g + 1, ?_⟩ (16 * m) (Nat.le_refl _) (by omega)
  · rw [bMask.l2_succ]
    have e2 : sub .i64 (i : Int) ((16 * m : Nat) : Int) = ((i - 16 * m : Nat) : Int) := subN_i64 (by omega) (by omega)
    refine ⟨fun _ => ?_, fun q => ?_⟩
    · have e3 : lget (enc (ks k) (ups s m)) (i - 16 * m) = strB (ks k) s i := by rw [strB, show i / 16 = m by omega, show i % 16 = i - 16 * m by omega]
      simp only [e2, nat_cast, nadd_def, Nat.zero_add, llen_def, upto_len, InB_iff, Low_iff, e3]
      rw [upto_hi (Nat.le_refl _) (by omega), upto_lset rfl, add1_i64 (by omega)]
      exact ⟨by omega, by omega, by omega, by omega, hg⟩
    · rw [e1, ofNat_def, llen_def, upto_len, imin_nat, ilt_false] at q; omega
  · rw [bMask.l2_succ]
    refine ⟨fun q => ?_, fun _ => ⟨ups_bl hs m, ?_⟩⟩
    · rw [e1, ofNat_def, llen_def, upto_len, imin_nat, ilt_true] at q; omega
    · rw [e1]
      have e4 : upto p.length (min (16 * (m + 1)) p.length) (fun i => bxor .u8 (lget p i) (strB (ks k) s i)) (lget p) = upto p.length (16 * (m + 1)) (fun i => bxor .u8 (lget p i) (strB (ks k) s i)) (lget p) := by
        refine tab_ext fun j hj => ?_
        by_cases q : j < 16 * (m + 1)
        · rw [if_pos q, if_pos (by omega)]
        · rw [if_neg q, if_neg (by omega)]
      rw [e4]; exact h
/-- the same, by the field -/
theorem mask_l4 (hk : BL 16 k) (hs : BL 16 s) {m : Nat} (hm : 16 * m < p.length) (hp : p.length ≤ 140737488355328) {g : Nat} {y : List Int} (h : bMask.l3 R k p g ((16 * (m + 1) : Nat) : Int) (ups s (m + 1)) (upto p.length (16 * (m + 1)) (fun i => bxor .u8 (lget p i) (strB (ks k) s i)) (lget p))) :
    ∃ g', bMask.l4 R ((16 * m : Nat) : Int) y k (ups s m) p g' ((16 * m : Nat) : Int) (upto p.length (16 * m) (fun i => bxor .u8 (lget p i) (strB (ks k) s i)) (lget p)) := by
  have e1 : add .i64 ((16 * m : Nat) : Int) 16 = ((16 * (m + 1) : Nat) : Int) := by rw [add_i64 (by omega) (by omega)]; omega
  refine loop_exfrom (fun f i x => bMask.l4 R ((16 * m : Nat) : Int) y k (ups s m) p f i x) (16 * m) (min (16 * (m + 1)) p.length) (fun i => upto p.length i (fun i => bxor .u8 (lget p i) (strB (ks k) s i)) (lget p)) (fun g i hl hi hg => ⟨g + 1, ?_⟩) ⟨g + 1, ?_⟩ (16 * m) (Nat.le_refl _) (by omega)
  · rw [bMask.l4_succ]
    have e2 : sub .i64 (i : Int) ((16 * m : Nat) : Int) = ((i - 16 * m : Nat) : Int) := subN_i64 (by omega) (by omega)
    refine ⟨fun _ => ?_, fun q => ?_⟩
    · have e3 : lget (enc (ks k) (ups s m)) (i - 16 * m) = strB (ks k) s i := by rw [strB, show i / 16 = m by omega, show i % 16 = i - 16 * m by omega]
      simp only [e2, nat_cast, nadd_def, Nat.zero_add, llen_def, upto_len, InB_iff, Low_iff, e3]
      rw [upto_hi (Nat.le_refl _) (by omega), upto_lset rfl, add1_i64 (by omega)]
      exact ⟨by omega, by omega, by omega, by omega, hg⟩
    · rw [e1, ofNat_def, llen_def, upto_len, imin_nat, ilt_false] at q; omega
  · rw [bMask.l4_succ]
    refine ⟨fun q => ?_, fun _ => ⟨ups_bl hs m, ?_⟩⟩
    · rw [e1, ofNat_def, llen_def, upto_len, imin_nat, ilt_true] at q; omega
    · rw [e1]
      have e4 : upto p.length (min (16 * (m + 1)) p.length) (fun i => bxor .u8 (lget p i) (strB (ks k) s i)) (lget p) = upto p.length (16 * (m + 1)) (fun i => bxor .u8 (lget p i) (strB (ks k) s i)) (lget p) := by
        refine tab_ext fun j hj => ?_
        by_cases q : j < 16 * (m + 1)
        · rw [if_pos q, if_pos (by omega)]
        · rw [if_neg q, if_neg (by omega)]
      rw [e4]; exact h

theorem mask_end {n m : Nat} (h : n ≤ m) {F G : Nat → Int} : upto n m F G = tab n F := tab_ext fun j hj => by rw [if_pos (by omega)]

theorem mask_l1 (hk : BL 16 k) (hs : BL 16 s) (hp : p.length ≤ 140737488355328) {t : List Int} (ht : Tbl t) (h : ∀ x σ, R (.one (.vec 19)) [(4, Blk.own 22 [(Seg.ints IntKind.u8 16 x)]), (7, Blk.own 28 [(Seg.ints IntKind.u8 176 (ks k))]), (10, Blk.own 60 [(Seg.ints IntKind.u8 256 t)]), (19, Blk.vec [(Col.ints IntKind.u8 (mask (ks k) s p))]), σ]) :
    ∃ g, bMask.l1 R k t p g 0 s p := by
  have key := loop_exby 16 (fun f i (x : List Int × List Int) => bMask.l1 R k t p f i x.1 x.2) ((p.length + 15) / 16) (fun m => (ups s m, upto p.length (16 * m) (fun i => bxor .u8 (lget p i) (strB (ks k) s i)) (lget p)))
    (fun g m hm hg => by
      obtain ⟨g', hg'⟩ := mask_l2 (y := upto p.length (16 * m) (fun i => bxor .u8 (lget p i) (strB (ks k) s i)) (lget p)) hk hs (by omega) hp hg
      refine ⟨g' + 1, ?_⟩
      rw [bMask.l1_succ]
      refine ⟨fun _ => ⟨ht, ⟨ks_bl hk, ups_bl hs m⟩, hg'⟩, fun q => ?_⟩
      rw [ofNat_def, llen_def, upto_len, ilt_false] at q; omega)
    ⟨1, by
      show bMask.l1 R k t p (0 + 1) _ _ _
      rw [bMask.l1_succ]
      refine ⟨fun q => ?_, fun _ => ?_⟩
      · rw [ofNat_def, llen_def, upto_len, ilt_true] at q; omega
      · rw [mask_end (by omega)]; exact h _ _⟩ 0 (Nat.zero_le _)
  simpa [ups, upto_zero, ← eq_tab (l := p) rfl] using key

theorem mask_l3 (hk : BL 16 k) (hs : BL 16 s) (hp : p.length ≤ 140737488355328) (h : ∀ x σ, R (.one (.vec 19)) [(4, Blk.own 22 [(Seg.ints IntKind.u8 16 x)]), (7, Blk.own 28 [(Seg.ints IntKind.u8 176 (ks k))]), (19, Blk.vec [(Col.ints IntKind.u8 (mask (ks k) s p))]), σ]) :
    ∃ g, bMask.l3 R k p g 0 s p := by
  have key := loop_exby 16 (fun f i (x : List Int × List Int) => bMask.l3 R k p f i x.1 x.2) ((p.length + 15) / 16) (fun m => (ups s m, upto p.length (16 * m) (fun i => bxor .u8 (lget p i) (strB (ks k) s i)) (lget p)))
    (fun g m hm hg => by
      obtain ⟨g', hg'⟩ := mask_l4 (y := upto p.length (16 * m) (fun i => bxor .u8 (lget p i) (strB (ks k) s i)) (lget p)) hk hs (by omega) hp hg
      refine ⟨g' + 1, ?_⟩
      rw [bMask.l3_succ]
      refine ⟨fun _ => ⟨⟨ks_bl hk, ups_bl hs m⟩, hg'⟩, fun q => ?_⟩
      rw [ofNat_def, llen_def, upto_len, ilt_false] at q; omega)
    ⟨1, by
      show bMask.l3 R k p (0 + 1) _ _ _
      rw [bMask.l3_succ]
      refine ⟨fun q => ?_, fun _ => ?_⟩
      · rw [ofNat_def, llen_def, upto_len, ilt_true] at q; omega
      · rw [mask_end (by omega)]; exact h _ _⟩ 0 (Nat.zero_le _)
  simpa [ups, upto_zero, ← eq_tab (l := p) rfl] using key

theorem mask_l0 (hk : BL 16 k) {g : Nat} {y0 : List Int} (h : bMask.l1 R k (tab 256 fun i => fsub (i : Int)) p g 0 s y0) : ∃ g', bMask.l0 R s k y0 p g' 0 (lzeros 256) := by
  have key := loop_ex (fun f i x => bMask.l0 R s k y0 p f i x) 256 (fun i => upto 256 i (fun i => fsub (i : Int)) fun _ => 0)
    (fun g i hi hg => ⟨g + 1, by
      rw [bMask.l0_succ]
      have e1 : conv .u8 (i : Int) = (i : Int) := by rw [conv_u8]; omega
      refine ⟨fun _ => ?_, fun q => ?_⟩
      · simp only [e1, nat_cast, nadd_def, Nat.zero_add, InB_iff, Low_iff]
        rw [upto_lset rfl, add1_i64 (by omega)]
        exact ⟨Byte.of hi, by omega, hi, hg⟩
      · rw [ilt_false] at q; omega⟩)
    ⟨g + 1, by
      rw [bMask.l0_succ]
      refine ⟨fun q => ?_, fun _ => ?_⟩
      · rw [ilt_true] at q; omega
      · rw [upto_done]; exact h⟩ 0 (Nat.zero_le _)
  rw [upto_zero, ← lzeros_tab] at key
  exact key
end

theorem good_mask : Sx.Good Try.prog 18 maskS := by
  refine Sx.Good.reads (D := []) mixed gamB4_good Try.func18 (by kernel_rfl) rfl fun d args σ K h => ?_
  simp only [maskS] at h
  split at h <;> try exact h.elim
  rename_i k s x
  obtain ⟨p, ⟨⟨⟨hk, hs⟩, hsh, hp⟩, hK⟩, hr⟩ := rdb_row h
  have hle := hsh.le
  refine ⟨[.agg [.ints .u8 16 k], .agg [.ints .u8 16 s], .one (.vec 200002)], [(200002, .rview [.ints .u8 p])], .plain (plain_ints _ _ _) (.plain (plain_ints _ _ _) (.row [.ints .u8] _ hr (by decide) (.nil _))), by simp, ?_⟩
  have hy : lput (lzeros (nat (ofNat (llen p)))) 0 (lsub p 0 (nmin (llen p) (llen (lzeros (nat (ofNat (llen p))))))) = p := by
    simp only [ofNat_def, nat_cast, llen_def, lzeros, List.length_replicate, nmin_def, Nat.min_self, lsub_all, lput, List.take_zero, List.nil_append, Nat.zero_add]
    rw [List.drop_of_length_le (by simp), List.append_nil]
  have hM : Mk (ofNat (llen p)) (ofNat (llen p)) 1 := by rw [Mk_iff, ofNat_def, llen_def]; omega
  by_cases q : 32 < p.length
  · obtain ⟨g, hg⟩ := mask_l1 (R := Res d maskS.news σ K) hk hs hle (t := tab 256 fun i => fsub (i : Int)) ⟨tab_len _ _, fun i hi => tab_lget _ hi⟩ fun x σ' => res_vec rfl rfl hK
    obtain ⟨g', hg'⟩ := mask_l0 (s := s) hk hg
    refine ⟨g' + 1, ?_⟩
    rw [bMask_vc]
    refine ⟨hk, hM, ?_⟩
    show _ ∧ _
    rw [hy]
    refine ⟨fun _ => hg', fun q2 => ?_⟩
    rw [igt_false, ofNat_def, llen_def] at q2; omega
  · obtain ⟨g, hg⟩ := mask_l3 (R := Res d maskS.news σ K) hk hs hle fun x σ' => res_vec rfl rfl hK
    refine ⟨g + 1, ?_⟩
    rw [bMask_vc]
    refine ⟨hk, hM, ?_⟩
    show _ ∧ _
    rw [hy]
    refine ⟨fun q2 => ?_, fun _ => hg⟩
    rw [igt_true, ofNat_def, llen_def] at q2; omega
end Go.Proofs.Ytkecbjohbihfmaa.G

/- The document's key stream; streams. -/
namespace Go.Proofs.Ytkecbjohbihfmaa.G
open Go Go.Sx Go.Fld Go.Blk
set_option linter.unusedSimpArgs false
set_option linter.unusedVariables false

theorem good_rmask : Sx.Good Try.prog 19 maskS := by
  refine Sx.Good.reads (D := [⟨8, [.ints .u8], true, false⟩]) mixed gamB4_good Try.func19 (by kernel_rfl) rfl fun d args σ K h => ?_
  simp only [maskS] at h
  split at h <;> try exact h.elim
  rename_i k s x
  obtain ⟨p, ⟨⟨⟨hk, hs⟩, hsh, hp⟩, hK⟩, hr⟩ := rdb_row h
  have hle := hsh.le
  have hw := ks_bl hk
  refine ⟨[.agg [.ints .u8 16 k], .agg [.ints .u8 16 s], .one (.vec 200002)], [(200002, .rview [.ints .u8 p])], .plain (plain_ints _ _ _) (.plain (plain_ints _ _ _) (.row [.ints .u8] _ hr (by decide) (.nil _))), by simp, ?_⟩
  have key := loop_ex (fun f i (x : List Int × List Int × List Int) => rMask.l0 (Res d maskS.news σ K) k p f i x.1 x.2.1 x.2.2) p.length
    (fun i => (ups s ((i + 15) / 16), if i = 0 then lzeros 16 else enc (ks k) (ups s ((i - 1) / 16)), tab i fun i => bxor .u8 (lget p i) (strB (ks k) s i)))
    (fun g i hi hg => ⟨g + 1, by
      rw [rMask.l0_succ]
      have e1 : rem (i : Int) 16 = ((i % 16 : Nat) : Int) := remN (b := 16)
      have hroom : ∀ v : Int, Room (nadd (llen (tab i fun i => bxor .u8 (lget p i) (strB (ks k) s i))) (llen [v])) 1 := fun v => room1 (by rw [tab_llen, nadd_def, llen_def]; simp; omega)
      have hI : InB (i : Int) (llen p) := ⟨by omega, by rw [llen_def]; omega⟩
      have hI2 : InB ((i % 16 : Nat) : Int) 16 := ⟨by omega, by omega⟩
      have hL : Low (i % 16) 16 := ⟨by omega⟩
      have hN : NeZ 16 := ⟨by decide⟩
      refine ⟨fun _ => ?_, fun q => ?_⟩
      · rw [e1]
        simp only [nat_cast, nadd_def, Nat.zero_add, add1_i64 (show i < 9223372036854775807 by omega)]
        refine ⟨hN, fun q => ?_, fun q => ?_⟩
        · rw [ieq_true] at q
          have e2 : lget (enc (ks k) (ups s ((i + 15) / 16))) (i % 16) = strB (ks k) s i := by rw [strB, show (i + 15) / 16 = i / 16 by omega]
          have fin : rMask.l0 (Res d maskS.news σ K) k p g ((i + 1 : Nat) : Int) (up (ups s ((i + 15) / 16))) (enc (ks k) (ups s ((i + 15) / 16))) (lcat (tab i fun i => bxor .u8 (lget p i) (strB (ks k) s i)) [bxor .u8 (lget p i) (lget (enc (ks k) (ups s ((i + 15) / 16))) (i % 16))]) := by
            rw [e2]
            have h1 : up (ups s ((i + 15) / 16)) = ups s ((i + 1 + 15) / 16) := by rw [show (i + 1 + 15) / 16 = (i + 15) / 16 + 1 by omega]; rfl
            rw [h1, lcat_def, ← tab_succ i (fun i => bxor .u8 (lget p i) (strB (ks k) s i)), show (i + 15) / 16 = (i + 1 - 1) / 16 by omega]
            rw [if_neg (by omega)] at hg
            exact hg
          have hb := ups_bl hs ((i + 15) / 16)
          exact ⟨⟨hw, hb⟩, hb, hI, hN, hI2, ⟨hL, hroom _, fin⟩, hL, hroom _, fin⟩
        · rw [ieq_false] at q
          have q0 : ¬ i = 0 := fun e => q (by rw [e]; rfl)
          rw [if_neg q0]
          have e2 : lget (enc (ks k) (ups s ((i - 1) / 16))) (i % 16) = strB (ks k) s i := by rw [strB, show (i - 1) / 16 = i / 16 by omega]
          have fin : rMask.l0 (Res d maskS.news σ K) k p g ((i + 1 : Nat) : Int) (ups s ((i + 15) / 16)) (enc (ks k) (ups s ((i - 1) / 16))) (lcat (tab i fun i => bxor .u8 (lget p i) (strB (ks k) s i)) [bxor .u8 (lget p i) (lget (enc (ks k) (ups s ((i - 1) / 16))) (i % 16))]) := by
            rw [e2, lcat_def, ← tab_succ i (fun i => bxor .u8 (lget p i) (strB (ks k) s i)), show (i + 15) / 16 = (i + 1 + 15) / 16 by omega, show (i - 1) / 16 = (i + 1 - 1) / 16 by omega]
            rw [if_neg (by omega)] at hg
            exact hg
          exact ⟨hI, hN, hI2, ⟨hL, hroom _, fin⟩, hL, hroom _, fin⟩
      · rw [ofNat_def, llen_def, ilt_false] at q; omega⟩)
    ⟨1, by
      show rMask.l0 _ k p (0 + 1) _ _ _ _
      rw [rMask.l0_succ]
      refine ⟨fun q => ?_, fun _ => ?_⟩
      · rw [ofNat_def, llen_def, ilt_true] at q; omega
      · exact res_vec rfl rfl hK⟩ 0 (Nat.zero_le _)
  obtain ⟨g, hg⟩ := key
  refine ⟨g + 1, ?_⟩
  rw [rMask_vc]
  exact ⟨hk, by rw [Mk_iff, ofNat_def, llen_def]; omega, hg⟩

theorem gamB6_good : GoodG Try.prog gamB6 :=
  (gamB5_good.ext good_mask ⟨_, Try.func18, by decide, by kernel_rfl⟩).ext good_rmask ⟨_, Try.func19, by decide, by kernel_rfl⟩

theorem zeros_bs (n : Nat) : Bs (lzeros n) := Bs.zeros n

theorem good_stream : Sx.Good Try.prog 20 streamS := by
  refine Sx.Good.reads (D := []) mixed gamB6_good Try.func20 (by kernel_rfl) rfl fun d args σ K h => ?_
  simp only [streamS] at h
  split at h <;> try exact h.elim
  rename_i k s n
  obtain ⟨⟨hk, hs⟩, hK⟩ := h
  refine ⟨_, [], .plain (plain_ints _ _ _) (.plain (plain_ints _ _ _) (.plain (plain_int _ _) (.nil _))), by simp, 0 + 1, ?_⟩
  rw [bStream_vc]
  refine ⟨fun q => ⟨fun q2 => res_nil ?_ hK, fun q2 => ?_⟩, fun q => res_nil ?_ hK⟩
  · rw [igt_true] at q2; rw [strmI, if_pos (by omega)]
  · rw [igt_false] at q2; rw [ilt_false] at q
    refine ⟨by rw [Mk_iff]; omega, ⟨⟨hk, hs⟩, ⟨by simp [lzeros, nat]; omega⟩, zeros_bs _⟩, res_vec rfl ?_ hK⟩
    rw [strmI, if_neg (by omega)]; rfl
  · rw [ilt_true] at q; rw [strmI, if_pos (by omega)]

theorem good_rstream : Sx.Good Try.prog 21 streamS := by
  refine Sx.Good.reads (D := []) mixed gamB6_good Try.func21 (by kernel_rfl) rfl fun d args σ K h => ?_
  simp only [streamS] at h
  split at h <;> try exact h.elim
  rename_i k s n
  obtain ⟨⟨hk, hs⟩, hK⟩ := h
  refine ⟨_, [], .plain (plain_ints _ _ _) (.plain (plain_ints _ _ _) (.plain (plain_int _ _) (.nil _))), by simp, 0 + 1, ?_⟩
  rw [rStream_vc]
  refine ⟨fun q => ⟨fun q2 => res_nil ?_ hK, fun q2 => ?_⟩, fun q => res_nil ?_ hK⟩
  · rw [igt_true] at q2; rw [strmI, if_pos (by omega)]
  · rw [igt_false] at q2; rw [ilt_false] at q
    refine ⟨by rw [Mk_iff]; omega, ⟨⟨hk, hs⟩, ⟨by simp [lzeros, nat]; omega⟩, zeros_bs _⟩, res_vec rfl ?_ hK⟩
    rw [strmI, if_neg (by omega)]; rfl
  · rw [ilt_true] at q; rw [strmI, if_pos (by omega)]

theorem gamB7_good : GoodG Try.prog gamB7 :=
  (gamB6_good.ext good_stream ⟨_, Try.func20, by decide, by kernel_rfl⟩).ext good_rstream ⟨_, Try.func21, by decide, by kernel_rfl⟩
end Go.Proofs.Ytkecbjohbihfmaa.G

/- What is known of the functions that the statements on the block cipher use. -/
namespace Go.Blk
/-- the bytes 0, step, 2 step, .. -/
def cnt (s : Int) : List Int := Sx.tab 16 fun i => (i : Int) * s % 256
/-- the number in these bytes -/
def val (b : List Int) : Nat → Nat
  | 0 => 0
  | n + 1 => val b n * 256 + (Sx.lget b n).toNat
/-- the bytes of a number -/
def byt (v : Nat) : List Int := Sx.tab 16 fun i => ((v / 256 ^ (15 - i) % 256 : Nat) : Int)
def upI (b : List Int) (n : Int) : List Int := byt (val b 16 + n.toNat)
end Go.Blk
namespace Go.Sx
open Go.Fld Go.Blk
def countS : Spec := ⟨0, false, fun _ args σ K => match args with
  | [.one (.int .u8 s)] => Byte s ∧ K (.agg [.ints .u8 16 (cnt s)]) σ
  | _ => False⟩
def yesS : Spec := ⟨0, false, fun _ args σ K => match args with
  | [] => K (.one (.lit true)) σ
  | _ => False⟩
def upS : Spec := ⟨0, false, fun _ args σ K => match args with
  | [.agg [.ints .u8 16 b], .one (.int .i64 n)] => (BL 16 b ∧ InB n 65536) ∧ K (.agg [.ints .u8 16 (upI b n)]) σ
  | _ => False⟩
def gamB8 : Gam := ext (ext gamB7 24 countS) 23 upS
def gamB9 : Gam := ext gamB8 9 yesS
end Go.Sx

/- There and back: plain mathematics of the block cipher. -/
namespace Go.Blk
open Go.Sx Go.Fld
set_option linter.unusedVariables false
set_option linter.unusedSimpArgs false

theorem xor_back {a k : Int} (ha : Byte a) (hk : Byte k) : bxor .u8 (bxor .u8 a k) k = a := by
  obtain ⟨x, hx, rfl⟩ := ha.nat
  obtain ⟨y, hy, rfl⟩ := hk.nat
  rw [bxor_u8 hx hy, bxor_u8 (xor_lt hx hy) hy, Nat.xor_assoc, Nat.xor_self, Nat.xor_zero]
theorem qx_back {b k : List Int} (hb : BL 16 b) (hk : BL 16 k) : qx (qx b k) k = b := by
  conv => rhs; rw [hb.eq]
  refine tab_ext fun j hj => ?_
  rw [qx, tab_lget _ hj, xor_back (hb.get j) (hk.get j)]
theorem qt31 {b : List Int} (hb : BL 16 b) : qt 3 (qt 1 b) = b := by
  conv => rhs; rw [hb.eq]
  refine tab_ext fun j hj => ?_
  rw [qt, tab_lget _ (by omega)]
  congr 1; omega
theorem qt13 {b : List Int} (hb : BL 16 b) : qt 1 (qt 3 b) = b := by
  conv => rhs; rw [hb.eq]
  refine tab_ext fun j hj => ?_
  rw [qt, tab_lget _ (by omega)]
  congr 1; omega
theorem qe_qt (f : Int → Int) (n : Nat) (b : List Int) : qe f (qt n b) = qt n (qe f b) := by
  refine tab_ext fun j hj => ?_
  rw [qt, tab_lget _ hj, qe, tab_lget _ (by omega)]
theorem qe_us {b : List Int} (hb : BL 16 b) : qe funsub (qe fsub b) = b := by
  conv => rhs; rw [hb.eq]
  refine tab_ext fun j hj => ?_
  rw [qe, tab_lget _ hj]
  obtain ⟨x, hx, e⟩ := (hb.get j).nat
  rw [e]
  show ((gu (gs x) : Nat) : Int) = _
  rw [gu_gs x hx]
theorem qe_su {b : List Int} (hb : BL 16 b) : qe fsub (qe funsub b) = b := by
  conv => rhs; rw [hb.eq]
  refine tab_ext fun j hj => ?_
  rw [qe, tab_lget _ hj]
  obtain ⟨x, hx, e⟩ := (hb.get j).nat
  rw [e]
  show ((gs (gu x) : Nat) : Int) = _
  rw [gs_gu x hx]
theorem sr_back {b : List Int} (hb : BL 16 b) : qe funsub (qt 3 (qt 1 (qe fsub b))) = b := by rw [qt31 qe_sub, qe_us hb]
theorem sr_there {b : List Int} (hb : BL 16 b) : qt 1 (qe fsub (qe funsub (qt 3 b))) = b := by rw [qe_su (qt_bl hb), qt13 hb]

/-- one round -/
def rnd (w : List Int) (i : Nat) (x : List Int) : List Int := qx (if i < 10 then qc [2, 3, 1, 1] (qt 1 (qe fsub x)) else qt 1 (qe fsub x)) (rk w i)
theorem encN_snoc (w : List Int) : ∀ (n i : Nat) (x : List Int), encN w (n + 1) i x = rnd w (n + i) (encN w n i x)
  | 0, i, x => by rw [Nat.zero_add i]; rfl
  | n + 1, i, x => by
    show encN w (n + 1) (i + 1) _ = _
    rw [encN_snoc w n (i + 1), show n + (i + 1) = n + 1 + i by omega]; rfl
end Go.Blk
namespace Go.Proofs.Ytkecbjohbihfmaa.G
open Go Go.Sx Go.Fld Go.Blk
set_option linter.unusedSimpArgs false
set_option linter.unusedVariables false

theorem enc_decN {w : List Int} (hw : BL 176 w) : ∀ (n : Nat) {x : List Int}, n + 1 ≤ 10 → BL 16 x → encN w (n + 1) 1 (qx (decN w (n + 1) x) (rk w 0)) = qx (if n + 1 < 10 then qc [2, 3, 1, 1] x else x) (rk w (n + 1))
  | 0, x, hn, hx => by
    have h0 := rk_bl hw (i := 0) (by decide)
    show encN w 1 1 (qx (qx (qe funsub (qt 3 x)) (rk w 0)) (rk w 0)) = _
    rw [qx_back qe_unsub h0]
    show rnd w 1 (qe funsub (qt 3 x)) = _
    rw [rnd, sr_there hx]
  | n + 1, x, hn, hx => by
    have hk := rk_bl hw (i := n + 1) (by omega)
    have hy := qx_bl (b := qe funsub (qt 3 x)) (k := rk w (n + 1)) qe_unsub hk
    have e : decN w (n + 1 + 1) x = decN w (n + 1) (qc [14, 11, 13, 9] (qx (qe funsub (qt 3 x)) (rk w (n + 1)))) := by
      show decN w (n + 1) (if 1 < n + 1 + 1 then _ else _) = _
      rw [if_pos (by omega)]
    rw [e, encN_snoc, enc_decN hw n (by omega) (qc_bl back_), if_pos (by omega), qc_back' hy, qx_back qe_unsub hk, rnd, sr_there hx]
theorem enc_dec {w b : List Int} (hw : BL 176 w) (hb : BL 16 b) : enc w (dec w b) = b := by
  have hk := rk_bl hw (i := 10) (by decide)
  have := enc_decN hw 9 (by decide) (qx_bl hb hk)
  rw [if_neg (by decide), qx_back hb hk] at this
  exact this

theorem dec_encN {w : List Int} (hw : BL 176 w) {b : List Int} (hb : BL 16 b) : ∀ (n : Nat), n ≤ 9 → decN w (n + 1) (qt 1 (qe fsub (encN w n 1 (qx b (rk w 0))))) = b
  | 0, _ => by
    have h0 := rk_bl hw (i := 0) (by decide)
    show qx (qe funsub (qt 3 (qt 1 (qe fsub (qx b (rk w 0)))))) (rk w 0) = b
    rw [sr_back (qx_bl hb h0), qx_back hb h0]
  | n + 1, hn => by
    have hk := rk_bl hw (i := n + 1) (by omega)
    have he := encN_bl hw (n + 1) 1 (x := qx b (rk w 0))
    have h0 := rk_bl hw (i := 0) (by decide)
    have hx : BL 16 (encN w n 1 (qx b (rk w 0))) := by
      have : ∀ (m i : Nat) {x : List Int}, m + i ≤ 11 → BL 16 x → BL 16 (encN w m i x) := by
        intro m
        induction m with
        | zero => intro i x _ h; exact h
        | succ m ih =>
          intro i x hm h
          refine ih (i + 1) (by omega) (qx_bl ?_ (rk_bl hw (by omega)))
          split
          · exact qc_bl there
          · exact qt_bl qe_sub
      exact this n 1 (by omega) (qx_bl hb h0)
    rw [encN_snoc]
    have hr : BL 16 (rnd w (n + 1) (encN w n 1 (qx b (rk w 0)))) := by
      refine qx_bl ?_ hk
      split
      · exact qc_bl there
      · exact qt_bl qe_sub
    show decN w (n + 1) (if 1 < n + 1 + 1 then qc [14, 11, 13, 9] (qx (qe funsub (qt 3 (qt 1 (qe fsub (rnd w (n + 1) (encN w n 1 (qx b (rk w 0)))))))) (rk w (n + 1))) else _) = b
    rw [if_pos (by omega), sr_back hr, rnd, if_pos (by omega), qx_back (qc_bl there) hk, qc_back (qt_bl qe_sub)]
    exact dec_encN hw hb n (by omega)
theorem dec_enc {w b : List Int} (hw : BL 176 w) (hb : BL 16 b) : dec w (enc w b) = b := by
  have hk := rk_bl hw (i := 10) (by decide)
  have h := dec_encN hw hb 9 (by decide)
  have e : enc w b = qx (qt 1 (qe fsub (encN w 9 1 (qx b (rk w 0))))) (rk w 10) := by
    show encN w 10 1 _ = _
    rw [encN_snoc, rnd, if_neg (by decide)]
  rw [e, dec, qx_back (qt_bl qe_sub) hk]
  exact h

theorem mask_mask {w s p : List Int} (hw : BL 176 w) (hs : BL 16 s) (hp : Bs p) : mask w s (mask w s p) = p := by
  conv => rhs; rw [eq_tab (l := p) rfl]
  unfold mask
  rw [tab_len]
  refine tab_ext fun i hi => ?_
  rw [tab_lget _ hi, xor_back ((bs_bl hp).get i) (strB_byte hw hs i)]

theorem leq_self (a : List Int) : leq a a = true := by simp [leq]
theorem cnt_bl (s : Int) : BL 16 (cnt s) := BL.tab fun i hi => ⟨by omega, by omega⟩
theorem zeros_bl (n : Nat) : BL n (lzeros n) := by rw [lzeros_tab]; exact BL.tab fun i _ => ⟨by decide, by decide⟩

end Go.Proofs.Ytkecbjohbihfmaa.G
namespace Go.Blk
open Go.Sx Go.Fld
/-- are these the round keys? -/
def okK (key K : List Int) : Bool := K.length == 176 && (List.range 16).all (fun p => lget K p == lget key p) &&
  (List.range 44).all fun i => decide (i < 4) || (List.range 4).all fun j => lget K (4 * i + j) == bxor .u8 (lget K (4 * (i - 4) + j)) (kt i (fun j => lget K (4 * (i - 1) + j)) j)
theorem okK_eq {key K : List Int} (h : okK key K = true) : ks key = K := by
  simp only [okK, Bool.and_eq_true, beq_iff_eq, List.all_eq_true, List.mem_range, Bool.or_eq_true, decide_eq_true_eq] at h
  obtain ⟨⟨h1, h2⟩, h3⟩ := h
  have key' : ∀ i, i < 44 → ∀ j, j < 4 → kw key i j = lget K (4 * i + j) := by
    intro i
    induction i using Nat.strongRecOn with
    | _ i ih =>
      intro hi j hj
      by_cases q : i < 4
      · rw [kw_lo _ _ q, h2 _ (by omega)]
      · rcases h3 i hi with q2 | q2
        · omega
        · rw [kw_hi _ (by omega) hj, q2 j hj, ih (i - 4) (by omega) (by omega) j hj, kt_congr (fun a ha => ih (i - 1) (by omega) (by omega) a ha) hj]
  rw [eq_tab h1]
  refine tab_ext fun p hp => ?_
  rw [key' _ (by omega) _ (by omega), show 4 * (p / 4) + p % 4 = p by omega]
def aliveK : List Int := [0, 1, 2, 3, 4, 5, 6, 7, 8, 9, 10, 11, 12, 13, 14, 15, 214, 170, 116, 253, 210, 175, 114, 250, 218, 166, 120, 241, 214, 171, 118, 254, 182, 146, 207, 11, 100, 61, 189, 241, 190, 155, 197, 0, 104, 48, 179, 254, 182, 255, 116, 78, 210, 194, 201, 191, 108, 89, 12, 191, 4, 105, 191, 65, 71, 247, 247, 188, 149, 53, 62, 3, 249, 108, 50, 188, 253, 5, 141, 253, 60, 170, 163, 232, 169, 159, 157, 235, 80, 243, 175, 87, 173, 246, 34, 170, 94, 57, 15, 125, 247, 166, 146, 150, 167, 85, 61, 193, 10, 163, 31, 107, 20, 249, 112, 26, 227, 95, 226, 140, 68, 10, 223, 77, 78, 169, 192, 38, 71, 67, 135, 53, 164, 28, 101, 185, 224, 22, 186, 244, 174, 191, 122, 210, 84, 153, 50, 209, 240, 133, 87, 104, 16, 147, 237, 156, 190, 44, 151, 78, 19, 17, 29, 127, 227, 148, 74, 23, 243, 7, 167, 139, 77, 43, 48, 197]
def aliveS0 : List Int := [0, 16, 32, 48, 64, 80, 96, 112, 128, 144, 160, 176, 192, 208, 224, 240]
def aliveS1 : List Int := [137, 216, 16, 232, 133, 90, 206, 104, 45, 24, 67, 216, 203, 18, 143, 228]
def aliveS2 : List Int := [73, 21, 89, 143, 85, 229, 215, 160, 218, 202, 148, 250, 31, 10, 99, 247]
def aliveS3 : List Int := [250, 99, 106, 40, 37, 179, 57, 201, 64, 102, 138, 49, 87, 36, 77, 23]
def aliveS4 : List Int := [36, 114, 64, 35, 105, 102, 179, 250, 110, 210, 117, 50, 136, 66, 91, 108]
def aliveS5 : List Int := [200, 22, 119, 188, 155, 122, 201, 59, 37, 2, 121, 146, 176, 38, 25, 150]
def aliveS6 : List Int := [198, 47, 225, 9, 247, 94, 237, 195, 204, 121, 57, 93, 132, 249, 207, 93]
def aliveS7 : List Int := [209, 135, 108, 15, 121, 196, 48, 10, 180, 85, 148, 173, 214, 111, 244, 31]
def aliveS8 : List Int := [253, 227, 186, 210, 5, 229, 208, 215, 53, 71, 150, 78, 241, 254, 55, 241]
def aliveS9 : List Int := [189, 110, 124, 61, 242, 181, 119, 158, 11, 97, 33, 110, 139, 16, 182, 137]
def aliveS10 : List Int := [105, 196, 224, 216, 106, 123, 4, 48, 216, 205, 183, 128, 112, 180, 197, 90]
theorem alive_keys : okK (cnt 1) aliveK = true := by decide +kernel
theorem alive_s0 : qx (cnt 17) (rk aliveK 0) = aliveS0 := by decide +kernel
theorem alive_s1 : rnd aliveK 1 aliveS0 = aliveS1 := by decide +kernel
theorem alive_s2 : rnd aliveK 2 aliveS1 = aliveS2 := by decide +kernel
theorem alive_s3 : rnd aliveK 3 aliveS2 = aliveS3 := by decide +kernel
theorem alive_s4 : rnd aliveK 4 aliveS3 = aliveS4 := by decide +kernel
theorem alive_s5 : rnd aliveK 5 aliveS4 = aliveS5 := by decide +kernel
theorem alive_s6 : rnd aliveK 6 aliveS5 = aliveS6 := by decide +kernel
theorem alive_s7 : rnd aliveK 7 aliveS6 = aliveS7 := by decide +kernel
theorem alive_s8 : rnd aliveK 8 aliveS7 = aliveS8 := by decide +kernel
theorem alive_s9 : rnd aliveK 9 aliveS8 = aliveS9 := by decide +kernel
theorem alive_s10 : rnd aliveK 10 aliveS9 = aliveS10 := by decide +kernel
theorem alive_enc : enc (ks (cnt 1)) (cnt 17) = aliveS10 := by
  rw [okK_eq alive_keys, enc, alive_s0]
  show rnd aliveK 10 (rnd aliveK 9 (rnd aliveK 8 (rnd aliveK 7 (rnd aliveK 6 (rnd aliveK 5 (rnd aliveK 4 (rnd aliveK 3 (rnd aliveK 2 (rnd aliveK 1 aliveS0))))))))) = _
  rw [alive_s1, alive_s2, alive_s3, alive_s4, alive_s5, alive_s6, alive_s7, alive_s8, alive_s9, alive_s10]
end Go.Blk

/- The verification conditions of functions, printed by a program of this session out of their codes. -/
namespace Go.Proofs.Ytkecbjohbihfmaa.G
open Go Go.Sx Go.Fld Go.Blk
set_option linter.unusedVariables false
set_option maxRecDepth 100000

def lcount.l0 (R : AV → Mem → Prop) (s : Int) (fuel : Nat) (x0 : Int) (x1 : List Int) : Prop := run Try.prog gam0 [] (resh Try.prog [] Try.f24.results.toList R) fuel [.code (cAt (bodyOf Try.f24) [1, 1, 0, 1, 0, 0]), .inLoop (cAt (bodyOf Try.f24) [1, 1, 0, 1, 0, 0]), .inBlock 0, .code (cAt (bodyOf Try.f24) [1, 1, 1])] [(AV.one (AC.int IntKind.u8 s)), AV.undef, (AV.one (AC.ptr 2 0 0)), (AV.one (AC.ptr 3 0 0)), (AV.one (AC.int IntKind.i64 x0)), AV.undef, AV.undef, AV.undef, AV.undef, AV.undef, AV.undef, AV.undef, AV.undef, AV.undef, AV.undef, (AV.tup [])] [(2, Blk.own 22 [(Seg.ints IntKind.u8 16 (lzeros 16))]), (3, Blk.own 22 [(Seg.ints IntKind.u8 16 x1)])]

theorem lcount.l0_succ (R : AV → Mem → Prop) (s : Int) (fuel : Nat) (x0 : Int) (x1 : List Int) : lcount.l0 R s (fuel + 1) x0 x1 = (((((ilt x0 16) = true) → ((InB x0 16) ∧ ((Low (nadd 0 (nat x0)) 16) ∧ (lcount.l0 R s fuel (add IntKind.i64 x0 1) (lset x1 (nadd 0 (nat x0)) (mul IntKind.u8 (conv IntKind.u8 x0) s)))))) ∧ (((ilt x0 16) = false) → (R (AV.agg [(Seg.ints IntKind.u8 16 x1)]) [(2, Blk.own 22 [(Seg.ints IntKind.u8 16 x1)]), (3, Blk.own 22 [(Seg.ints IntKind.u8 16 x1)])])))) := by kernel_rfl
theorem lcount.l0_zero (R : AV → Mem → Prop) (s : Int) (x0 : Int) (x1 : List Int) : lcount.l0 R s 0 x0 x1 = False := by kernel_rfl

theorem lcount_vc (R : AV → Mem → Prop) (fuel : Nat) (s : Int) : callsx Try.prog gam0 [] Try.f24 (fuel + 1) [.one (.int .u8 s)] [] R = ((lcount.l0 R s fuel 0 (lzeros 16))) := by kernel_rfl

def lup.l0 (R : AV → Mem → Prop)  (fuel : Nat) (x0 : Int) (x1 : Int) (x2 : List Int) : Prop := run Try.prog gam0 [] (resh Try.prog [] Try.f23.results.toList R) fuel [.code (cAt (bodyOf Try.f23) [1, 0, 1, 0, 0]), .inLoop (cAt (bodyOf Try.f23) [1, 0, 1, 0, 0]), .inBlock 0, .code (cAt (bodyOf Try.f23) [1, 1])] [AV.undef, (AV.one (AC.int IntKind.i64 x0)), (AV.one (AC.ptr 2 0 0)), AV.undef, (AV.one (AC.ptr 4 0 0)), (AV.one (AC.int IntKind.i64 x1)), AV.undef, AV.undef, AV.undef, AV.undef, AV.undef, AV.undef, AV.undef, AV.undef, AV.undef, AV.undef, AV.undef, AV.undef, AV.undef, AV.undef, AV.undef, AV.undef, AV.undef, (AV.tup [])] [(2, Blk.own 22 [(Seg.ints IntKind.u8 16 x2)]), (4, Blk.own 22 [(Seg.ints IntKind.u8 16 (lzeros 16))])]

theorem lup.l0_succ (R : AV → Mem → Prop)  (fuel : Nat) (x0 : Int) (x1 : Int) (x2 : List Int) : lup.l0 R  (fuel + 1) x0 x1 x2 = (((((ige x1 0) = true) → ((InB x1 16) ∧ ((Low (nadd 0 (nat x1)) 16) ∧ ((InB x1 16) ∧ ((Low (nadd 0 (nat x1)) 16) ∧ (let y3 : Int := (conv IntKind.u8 (band IntKind.i64 (add IntKind.i64 x0 (conv IntKind.i64 (lget x2 (nadd 0 (nat x1))))) 255)); (let y4 : List Int := (lset x2 (nadd 0 (nat x1)) (conv IntKind.u8 (band IntKind.i64 (add IntKind.i64 x0 (conv IntKind.i64 (lget x2 (nadd 0 (nat x1))))) 255))); ((NonNeg 8) ∧ (lup.l0 R  fuel (shr IntKind.i64 (add IntKind.i64 x0 (conv IntKind.i64 (lget x2 (nadd 0 (nat x1))))) 8) (sub IntKind.i64 x1 1) y4))))))))) ∧ (((ige x1 0) = false) → (R (AV.agg [(Seg.ints IntKind.u8 16 x2)]) [(2, Blk.own 22 [(Seg.ints IntKind.u8 16 x2)]), (4, Blk.own 22 [(Seg.ints IntKind.u8 16 x2)])])))) := by kernel_rfl
theorem lup.l0_zero (R : AV → Mem → Prop)  (x0 : Int) (x1 : Int) (x2 : List Int) : lup.l0 R  0 x0 x1 x2 = False := by kernel_rfl

theorem lup_vc (R : AV → Mem → Prop) (fuel : Nat) (b : List Int) (n : Int) : callsx Try.prog gam0 [] Try.f23 (fuel + 1) [.agg [.ints .u8 16 b], .one (.int .i64 n)] [] R = ((lup.l0 R  fuel n 15 b)) := by kernel_rfl

def lalive.k0 (R : AV → Mem → Prop)  (fuel : Nat) : Prop := runM Try.prog gamB8 [] (resh Try.prog [] Try.f9.results.toList R) (run Try.prog gamB8 [] (resh Try.prog [] Try.f9.results.toList R) fuel) 3994 [.code (cAt (bodyOf Try.f9) [1, 1, 1])] [(AV.one (AC.lit false)), (AV.one (AC.ptr 1 0 0)), (AV.one (AC.ptr 2 0 0)), (AV.agg [(Seg.ints IntKind.u8 16 (Go.Blk.cnt 1))]), (AV.agg [(Seg.ints IntKind.u8 176 (Go.Blk.ks (Go.Blk.cnt 1)))]), (AV.agg [(Seg.ints IntKind.u8 176 (Go.Blk.ks (Go.Blk.cnt 1)))]), (AV.agg [(Seg.ints IntKind.u8 16 (Go.Blk.cnt 17))]), (AV.agg [(Seg.ints IntKind.u8 16 (Go.Blk.enc (Go.Blk.ks (Go.Blk.cnt 1)) (Go.Blk.cnt 17)))]), (AV.tup []), (AV.tup []), (AV.tup []), (AV.tup []), (AV.tup []), (AV.tup []), (AV.tup []), (AV.tup []), (AV.tup []), (AV.tup []), (AV.tup []), (AV.tup []), (AV.tup []), (AV.tup []), (AV.tup [])] [(1, Blk.own 28 [(Seg.ints IntKind.u8 176 (Go.Blk.ks (Go.Blk.cnt 1)))]), (2, Blk.own 22 [(Seg.ints IntKind.u8 16 (Go.Blk.enc (Go.Blk.ks (Go.Blk.cnt 1)) (Go.Blk.cnt 17)))])]

theorem lalive.k0_eq (R : AV → Mem → Prop)  (fuel : Nat) : lalive.k0 R  fuel = (((InB 0 16) ∧ ((Low 0 16) ∧ ((((ieq (lget (Go.Blk.enc (Go.Blk.ks (Go.Blk.cnt 1)) (Go.Blk.cnt 17)) 0) 105) = true) → ((InB 15 16) ∧ ((Low 15 16) ∧ ((((ieq (lget (Go.Blk.enc (Go.Blk.ks (Go.Blk.cnt 1)) (Go.Blk.cnt 17)) 15) 90) = true) → (((Go.Blk.BL 176 (Go.Blk.ks (Go.Blk.cnt 1))) ∧ (Go.Blk.BL 16 (Go.Blk.enc (Go.Blk.ks (Go.Blk.cnt 1)) (Go.Blk.cnt 17)))) ∧ ((Byte 17) ∧ (R (AV.one (AC.bool (leq (Go.Blk.dec (Go.Blk.ks (Go.Blk.cnt 1)) (Go.Blk.enc (Go.Blk.ks (Go.Blk.cnt 1)) (Go.Blk.cnt 17))) (Go.Blk.cnt 17)))) [(1, Blk.own 28 [(Seg.ints IntKind.u8 176 (Go.Blk.ks (Go.Blk.cnt 1)))]), (2, Blk.own 22 [(Seg.ints IntKind.u8 16 (Go.Blk.enc (Go.Blk.ks (Go.Blk.cnt 1)) (Go.Blk.cnt 17)))])])))) ∧ (((ieq (lget (Go.Blk.enc (Go.Blk.ks (Go.Blk.cnt 1)) (Go.Blk.cnt 17)) 15) 90) = false) → (R (AV.one (AC.lit false)) [(1, Blk.own 28 [(Seg.ints IntKind.u8 176 (Go.Blk.ks (Go.Blk.cnt 1)))]), (2, Blk.own 22 [(Seg.ints IntKind.u8 16 (Go.Blk.enc (Go.Blk.ks (Go.Blk.cnt 1)) (Go.Blk.cnt 17)))])])))))) ∧ (((ieq (lget (Go.Blk.enc (Go.Blk.ks (Go.Blk.cnt 1)) (Go.Blk.cnt 17)) 0) 105) = false) → (R (AV.one (AC.lit false)) [(1, Blk.own 28 [(Seg.ints IntKind.u8 176 (Go.Blk.ks (Go.Blk.cnt 1)))]), (2, Blk.own 22 [(Seg.ints IntKind.u8 16 (Go.Blk.enc (Go.Blk.ks (Go.Blk.cnt 1)) (Go.Blk.cnt 17)))])])))))) := by kernel_rfl

theorem lalive_vc (R : AV → Mem → Prop) (fuel : Nat)  : callsx Try.prog gamB8 [] Try.f9 (fuel + 1) [] [] R = (((Byte 1) ∧ ((Go.Blk.BL 16 (Go.Blk.cnt 1)) ∧ (((Byte 17) ∧ ((((Go.Blk.BL 176 (Go.Blk.ks (Go.Blk.cnt 1))) ∧ (Go.Blk.BL 16 (Go.Blk.cnt 17))) ∧ (lalive.k0 R  fuel)) ∧ (((Go.Blk.BL 176 (Go.Blk.ks (Go.Blk.cnt 1))) ∧ (Go.Blk.BL 16 (Go.Blk.cnt 17))) ∧ (lalive.k0 R  fuel)))) ∧ ((Byte 17) ∧ (((Go.Blk.BL 176 (Go.Blk.ks (Go.Blk.cnt 1))) ∧ (Go.Blk.BL 16 (Go.Blk.cnt 17))) ∧ (lalive.k0 R  fuel))))))) := by kernel_rfl

def lcrypts.l0 (R : AV → Mem → Prop) (k : List Int) (ll : List (List Int)) (fuel : Nat) (x0 : Int) : Prop := run Try.prog gamB9 [] (resh Try.prog [] Try.f3.results.toList R) fuel [.code (cAt (bodyOf Try.f3) [1, 1, 1, 1, 0, 1, 0, 0]), .inLoop (cAt (bodyOf Try.f3) [1, 1, 1, 1, 0, 1, 0, 0]), .inBlock 0, .code (cAt (bodyOf Try.f3) [1, 1, 1, 1, 1])] [AV.undef, (AV.one (AC.vec 200001)), (AV.one (AC.ptr 2 0 0)), AV.undef, AV.undef, (AV.one (AC.ptr 5 0 0)), (AV.one (AC.ptr 6 0 0)), (AV.one (AC.int IntKind.i64 x0)), AV.undef, AV.undef, AV.undef, AV.undef, AV.undef, AV.undef, AV.undef, AV.undef, AV.undef, AV.undef, AV.undef, AV.undef, AV.undef, AV.undef, AV.undef, AV.undef, AV.undef, AV.undef, AV.undef, AV.undef, AV.undef, AV.undef, AV.undef, AV.undef, AV.undef, AV.undef, AV.undef, AV.undef, AV.undef, AV.undef, AV.undef, AV.undef, AV.undef, AV.undef, AV.undef, AV.undef, AV.undef, AV.undef, AV.undef, AV.undef, AV.undef, AV.undef, AV.undef, AV.undef, AV.undef, AV.undef, AV.undef, AV.undef, AV.undef] [(2, Blk.own 22 [(Seg.ints IntKind.u8 16 k)]), (5, Blk.own 28 [(Seg.ints IntKind.u8 176 (Go.Blk.ks k))]), (6, Blk.own 28 [(Seg.ints IntKind.u8 176 (lzeros 176))]), (200001, Blk.rview [(Col.arrs IntKind.u8 16 ll)])]

theorem lcrypts.l0_succ (R : AV → Mem → Prop) (k : List Int) (ll : List (List Int)) (fuel : Nat) (x0 : Int) : lcrypts.l0 R k ll (fuel + 1) x0 = (((((ilt x0 (ofNat (llen ll))) = true) → ((InB x0 (llen ll)) ∧ (((Go.Blk.BL 176 (Go.Blk.ks k)) ∧ (Go.Blk.BL 16 (llget ll (nat x0)))) ∧ (((Go.Blk.BL 16 k) ∧ (Go.Blk.BL 16 (llget ll (nat x0)))) ∧ ((((bnot (leq (Go.Blk.enc (Go.Blk.ks k) (llget ll (nat x0))) (Go.Blk.enc (Go.Blk.ks k) (llget ll (nat x0))))) = false) → (((Go.Blk.BL 176 (Go.Blk.ks k)) ∧ (Go.Blk.BL 16 (llget ll (nat x0)))) ∧ (((Go.Blk.BL 16 k) ∧ (Go.Blk.BL 16 (llget ll (nat x0)))) ∧ ((((bnot (leq (Go.Blk.dec (Go.Blk.ks k) (llget ll (nat x0))) (Go.Blk.dec (Go.Blk.ks k) (llget ll (nat x0))))) = false) → (((Go.Blk.BL 176 (lzeros 176)) ∧ (Go.Blk.BL 16 (llget ll (nat x0)))) ∧ (((Go.Blk.BL 176 (lzeros 176)) ∧ (Go.Blk.BL 16 (llget ll (nat x0)))) ∧ ((((bnot (leq (Go.Blk.enc (lzeros 176) (llget ll (nat x0))) (Go.Blk.enc (lzeros 176) (llget ll (nat x0))))) = false) → (((Go.Blk.BL 176 (lzeros 176)) ∧ (Go.Blk.BL 16 (llget ll (nat x0)))) ∧ (((Go.Blk.BL 176 (lzeros 176)) ∧ (Go.Blk.BL 16 (Go.Blk.enc (lzeros 176) (llget ll (nat x0))))) ∧ (let y1 : Bool := (bnot (leq (Go.Blk.enc (lzeros 176) (llget ll (nat x0))) (Go.Blk.enc (lzeros 176) (llget ll (nat x0))))); (let y2 : Bool := (bnot (leq (Go.Blk.dec (lzeros 176) (Go.Blk.enc (lzeros 176) (llget ll (nat x0)))) (llget ll (nat x0)))); (((y2 = true) → (R (AV.one (AC.lit false)) [(2, Blk.own 22 [(Seg.ints IntKind.u8 16 k)]), (5, Blk.own 28 [(Seg.ints IntKind.u8 176 (Go.Blk.ks k))]), (6, Blk.own 28 [(Seg.ints IntKind.u8 176 (lzeros 176))]), (8, Blk.own 22 [(Seg.ints IntKind.u8 16 (llget ll (nat x0)))]), (200001, Blk.rview [(Col.arrs IntKind.u8 16 ll)])])) ∧ ((y2 = false) → (lcrypts.l0 R k ll fuel (add IntKind.i64 x0 1))))))))) ∧ (((bnot (leq (Go.Blk.enc (lzeros 176) (llget ll (nat x0))) (Go.Blk.enc (lzeros 176) (llget ll (nat x0))))) = true) → (let y3 : Bool := (bnot (leq (Go.Blk.enc (lzeros 176) (llget ll (nat x0))) (Go.Blk.enc (lzeros 176) (llget ll (nat x0))))); (R (AV.one (AC.lit false)) [(2, Blk.own 22 [(Seg.ints IntKind.u8 16 k)]), (5, Blk.own 28 [(Seg.ints IntKind.u8 176 (Go.Blk.ks k))]), (6, Blk.own 28 [(Seg.ints IntKind.u8 176 (lzeros 176))]), (8, Blk.own 22 [(Seg.ints IntKind.u8 16 (llget ll (nat x0)))]), (200001, Blk.rview [(Col.arrs IntKind.u8 16 ll)])]))))))) ∧ (((bnot (leq (Go.Blk.dec (Go.Blk.ks k) (llget ll (nat x0))) (Go.Blk.dec (Go.Blk.ks k) (llget ll (nat x0))))) = true) → (R (AV.one (AC.lit false)) [(2, Blk.own 22 [(Seg.ints IntKind.u8 16 k)]), (5, Blk.own 28 [(Seg.ints IntKind.u8 176 (Go.Blk.ks k))]), (6, Blk.own 28 [(Seg.ints IntKind.u8 176 (lzeros 176))]), (8, Blk.own 22 [(Seg.ints IntKind.u8 16 (llget ll (nat x0)))]), (200001, Blk.rview [(Col.arrs IntKind.u8 16 ll)])])))))) ∧ (((bnot (leq (Go.Blk.enc (Go.Blk.ks k) (llget ll (nat x0))) (Go.Blk.enc (Go.Blk.ks k) (llget ll (nat x0))))) = true) → (R (AV.one (AC.lit false)) [(2, Blk.own 22 [(Seg.ints IntKind.u8 16 k)]), (5, Blk.own 28 [(Seg.ints IntKind.u8 176 (Go.Blk.ks k))]), (6, Blk.own 28 [(Seg.ints IntKind.u8 176 (lzeros 176))]), (8, Blk.own 22 [(Seg.ints IntKind.u8 16 (llget ll (nat x0)))]), (200001, Blk.rview [(Col.arrs IntKind.u8 16 ll)])]))))))) ∧ (((ilt x0 (ofNat (llen ll))) = false) → (R (AV.one (AC.lit true)) [(2, Blk.own 22 [(Seg.ints IntKind.u8 16 k)]), (5, Blk.own 28 [(Seg.ints IntKind.u8 176 (Go.Blk.ks k))]), (6, Blk.own 28 [(Seg.ints IntKind.u8 176 (lzeros 176))]), (200001, Blk.rview [(Col.arrs IntKind.u8 16 ll)])])))) := by kernel_rfl
theorem lcrypts.l0_zero (R : AV → Mem → Prop) (k : List Int) (ll : List (List Int)) (x0 : Int) : lcrypts.l0 R k ll 0 x0 = False := by kernel_rfl

theorem lcrypts_vc (R : AV → Mem → Prop) (fuel : Nat) (k : List Int) (ll : List (List Int)) : callsx Try.prog gamB9 [] Try.f3 (fuel + 1) [.agg [.ints .u8 16 k], .one (.vec 200001)] [(200001, .rview [.arrs .u8 16 ll])] R = (((Go.Blk.BL 16 k) ∧ (lcrypts.l0 R k ll fuel 0))) := by kernel_rfl

def lrounds.l0 (R : AV → Mem → Prop) (i : Int) (k : List Int) (fuel : Nat) (x0 : Int) : Prop := run Try.prog gamB9 [] (resh Try.prog [] Try.f4.results.toList R) fuel [.code (cAt (bodyOf Try.f4) [1, 1, 1, 1, 0, 1, 0, 0]), .inLoop (cAt (bodyOf Try.f4) [1, 1, 1, 1, 0, 1, 0, 0]), .inBlock 0, .code (cAt (bodyOf Try.f4) [1, 1, 1, 1, 1])] [AV.undef, (AV.one (AC.int IntKind.i64 i)), (AV.one (AC.ptr 2 0 0)), AV.undef, AV.undef, (AV.one (AC.ptr 5 0 0)), (AV.one (AC.ptr 6 0 0)), (AV.one (AC.ptr 7 0 0)), (AV.one (AC.int IntKind.i64 x0)), AV.undef, AV.undef, AV.undef, AV.undef, AV.undef, AV.undef, AV.undef, AV.undef, AV.undef, AV.undef, AV.undef, AV.undef, AV.undef, AV.undef, AV.undef, AV.undef, AV.undef, AV.undef, (AV.tup []), (AV.tup []), (AV.tup []), (AV.tup []), (AV.tup []), (AV.tup []), (AV.tup []), (AV.tup []), (AV.tup []), (AV.tup []), (AV.tup []), (AV.tup []), (AV.tup []), (AV.tup []), (AV.tup []), (AV.tup []), (AV.tup [])] [(2, Blk.own 22 [(Seg.ints IntKind.u8 16 k)]), (5, Blk.own 28 [(Seg.ints IntKind.u8 176 (Go.Blk.ks k))]), (6, Blk.own 28 [(Seg.ints IntKind.u8 176 (Go.Blk.ks k))]), (7, Blk.own 28 [(Seg.ints IntKind.u8 176 (Go.Blk.ks k))])]

theorem lrounds.l0_succ (R : AV → Mem → Prop) (i : Int) (k : List Int) (fuel : Nat) (x0 : Int) : lrounds.l0 R i k (fuel + 1) x0 = (((((ile x0 11) = true) → ((Go.Blk.BL 176 (Go.Blk.ks k)) ∧ ((Go.Blk.BL 16 k) ∧ ((((bnot (leq (Go.Blk.rkI (Go.Blk.ks k) x0) (Go.Blk.rkI (Go.Blk.ks k) x0))) = true) → (R (AV.one (AC.lit false)) [(2, Blk.own 22 [(Seg.ints IntKind.u8 16 k)]), (5, Blk.own 28 [(Seg.ints IntKind.u8 176 (Go.Blk.ks k))]), (6, Blk.own 28 [(Seg.ints IntKind.u8 176 (Go.Blk.ks k))]), (7, Blk.own 28 [(Seg.ints IntKind.u8 176 (Go.Blk.ks k))])])) ∧ (((bnot (leq (Go.Blk.rkI (Go.Blk.ks k) x0) (Go.Blk.rkI (Go.Blk.ks k) x0))) = false) → (lrounds.l0 R i k fuel (add IntKind.i64 x0 1))))))) ∧ (((ile x0 11) = false) → ((Go.Blk.BL 176 (Go.Blk.ks k)) ∧ ((Go.Blk.BL 16 k) ∧ ((((leq (Go.Blk.rkI (Go.Blk.ks k) i) (Go.Blk.rkI (Go.Blk.ks k) i)) = true) → ((((band2 (leq (Go.Blk.ks k) (Go.Blk.ks k)) true) = true) → (R (AV.one (AC.bool (band2 (leq (Go.Blk.ks k) (Go.Blk.ks k)) true))) [(2, Blk.own 22 [(Seg.ints IntKind.u8 16 k)]), (5, Blk.own 28 [(Seg.ints IntKind.u8 176 (Go.Blk.ks k))]), (6, Blk.own 28 [(Seg.ints IntKind.u8 176 (Go.Blk.ks k))]), (7, Blk.own 28 [(Seg.ints IntKind.u8 176 (Go.Blk.ks k))])])) ∧ (((band2 (leq (Go.Blk.ks k) (Go.Blk.ks k)) true) = false) → (R (AV.one (AC.lit false)) [(2, Blk.own 22 [(Seg.ints IntKind.u8 16 k)]), (5, Blk.own 28 [(Seg.ints IntKind.u8 176 (Go.Blk.ks k))]), (6, Blk.own 28 [(Seg.ints IntKind.u8 176 (Go.Blk.ks k))]), (7, Blk.own 28 [(Seg.ints IntKind.u8 176 (Go.Blk.ks k))])])))) ∧ (((leq (Go.Blk.rkI (Go.Blk.ks k) i) (Go.Blk.rkI (Go.Blk.ks k) i)) = false) → (R (AV.one (AC.lit false)) [(2, Blk.own 22 [(Seg.ints IntKind.u8 16 k)]), (5, Blk.own 28 [(Seg.ints IntKind.u8 176 (Go.Blk.ks k))]), (6, Blk.own 28 [(Seg.ints IntKind.u8 176 (Go.Blk.ks k))]), (7, Blk.own 28 [(Seg.ints IntKind.u8 176 (Go.Blk.ks k))])])))))))) := by kernel_rfl
theorem lrounds.l0_zero (R : AV → Mem → Prop) (i : Int) (k : List Int) (x0 : Int) : lrounds.l0 R i k 0 x0 = False := by kernel_rfl

theorem lrounds_vc (R : AV → Mem → Prop) (fuel : Nat) (k : List Int) (i : Int) : callsx Try.prog gamB9 [] Try.f4 (fuel + 1) [.agg [.ints .u8 16 k], .one (.int .i64 i)] [] R = ((((Go.Blk.BL 16 k) ∧ (((Go.Blk.BL 16 k) ∧ ((lrounds.l0 R i k fuel (-1 : Int)) ∧ (lrounds.l0 R i k fuel (-1 : Int)))) ∧ ((((Go.Blk.BL 16 k) ∧ (lrounds.l0 R i k fuel (-1 : Int))) ∧ ((Go.Blk.BL 16 k) ∧ (lrounds.l0 R i k fuel (-1 : Int)))) ∧ (((Go.Blk.BL 16 k) ∧ (lrounds.l0 R i k fuel (-1 : Int))) ∧ ((Go.Blk.BL 16 k) ∧ (lrounds.l0 R i k fuel (-1 : Int))))))) ∧ ((((Go.Blk.BL 16 k) ∧ (((Go.Blk.BL 16 k) ∧ (lrounds.l0 R i k fuel (-1 : Int))) ∧ ((Go.Blk.BL 16 k) ∧ (lrounds.l0 R i k fuel (-1 : Int))))) ∧ ((Go.Blk.BL 16 k) ∧ ((Go.Blk.BL 16 k) ∧ (lrounds.l0 R i k fuel (-1 : Int))))) ∧ (((Go.Blk.BL 16 k) ∧ (((Go.Blk.BL 16 k) ∧ (lrounds.l0 R i k fuel (-1 : Int))) ∧ ((Go.Blk.BL 16 k) ∧ (lrounds.l0 R i k fuel (-1 : Int))))) ∧ ((Go.Blk.BL 16 k) ∧ ((Go.Blk.BL 16 k) ∧ (lrounds.l0 R i k fuel (-1 : Int)))))))) := by kernel_rfl

def lback.k0 (R : AV → Mem → Prop) (k : List Int) (b : List Int) (p : List Int) (fuel : Nat) : Prop := runM Try.prog gamB9 [] (resh Try.prog [] Try.f5.results.toList R) (run Try.prog gamB9 [] (resh Try.prog [] Try.f5.results.toList R) fuel) 3989 [.code (cAt (bodyOf Try.f5) [1, 0, 1, 0, 1])] [(AV.agg [(Seg.ints IntKind.u8 16 k)]), (AV.agg [(Seg.ints IntKind.u8 16 b)]), (AV.one (AC.vec 200002)), (AV.one (AC.ptr 3 0 0)), (AV.one (AC.ptr 4 0 0)), (AV.tup []), (AV.one (AC.bool (seq2 (bytesOf (Go.Blk.mask (Go.Blk.ks k) b (Go.Blk.mask (Go.Blk.ks k) b p))) (bytesOf p)))), (AV.one (AC.ptr 7 0 0)), (AV.one (AC.lit true)), (AV.one (AC.lit false)), (AV.agg [(Seg.ints IntKind.u8 16 k)]), (AV.agg [(Seg.ints IntKind.u8 176 (Go.Blk.ks k))]), (AV.agg [(Seg.ints IntKind.u8 176 (Go.Blk.ks k))]), (AV.agg [(Seg.ints IntKind.u8 176 (Go.Blk.ks k))]), (AV.agg [(Seg.ints IntKind.u8 16 b)]), (AV.agg [(Seg.ints IntKind.u8 16 (Go.Blk.enc (Go.Blk.ks k) b))]), (AV.agg [(Seg.ints IntKind.u8 16 (Go.Blk.dec (Go.Blk.ks k) (Go.Blk.enc (Go.Blk.ks k) b)))]), (AV.agg [(Seg.ints IntKind.u8 16 b)]), (AV.one (AC.bool (leq (Go.Blk.dec (Go.Blk.ks k) (Go.Blk.enc (Go.Blk.ks k) b)) b))), (AV.one (AC.lit true)), (AV.agg [(Seg.ints IntKind.u8 176 (Go.Blk.ks k))]), (AV.agg [(Seg.ints IntKind.u8 176 (Go.Blk.ks k))]), (AV.agg [(Seg.ints IntKind.u8 16 b)]), (AV.agg [(Seg.ints IntKind.u8 16 (Go.Blk.dec (Go.Blk.ks k) b))]), (AV.agg [(Seg.ints IntKind.u8 16 (Go.Blk.enc (Go.Blk.ks k) (Go.Blk.dec (Go.Blk.ks k) b)))]), (AV.agg [(Seg.ints IntKind.u8 16 b)]), (AV.one (AC.bool (leq (Go.Blk.enc (Go.Blk.ks k) (Go.Blk.dec (Go.Blk.ks k) b)) b))), (AV.one (AC.bool (leq (Go.Blk.enc (Go.Blk.ks k) (Go.Blk.dec (Go.Blk.ks k) b)) b))), (AV.one (AC.lit true)), (AV.agg [(Seg.ints IntKind.u8 16 k)]), (AV.agg [(Seg.ints IntKind.u8 16 b)]), (AV.agg [(Seg.ints IntKind.u8 16 k)]), (AV.agg [(Seg.ints IntKind.u8 16 b)]), (AV.one (AC.vec 200002)), (AV.one (AC.vec 34)), (AV.one (AC.vec 35)), (AV.one (AC.str (bytesOf (Go.Blk.mask (Go.Blk.ks k) b (Go.Blk.mask (Go.Blk.ks k) b p))))), (AV.one (AC.vec 200002)), (AV.one (AC.str (bytesOf p))), (AV.one (AC.bool (seq2 (bytesOf (Go.Blk.mask (Go.Blk.ks k) b (Go.Blk.mask (Go.Blk.ks k) b p))) (bytesOf p)))), (AV.one (AC.bool (seq2 (bytesOf (Go.Blk.mask (Go.Blk.ks k) b (Go.Blk.mask (Go.Blk.ks k) b p))) (bytesOf p))))] [(3, Blk.own 22 [(Seg.ints IntKind.u8 16 k)]), (4, Blk.own 22 [(Seg.ints IntKind.u8 16 b)]), (7, Blk.own 28 [(Seg.ints IntKind.u8 176 (Go.Blk.ks k))]), (34, Blk.vec [(Col.ints IntKind.u8 (Go.Blk.mask (Go.Blk.ks k) b p))]), (35, Blk.vec [(Col.ints IntKind.u8 (Go.Blk.mask (Go.Blk.ks k) b (Go.Blk.mask (Go.Blk.ks k) b p)))]), (200002, Blk.rview [(Col.ints IntKind.u8 p)])]

theorem lback.k0_eq (R : AV → Mem → Prop) (k : List Int) (b : List Int) (p : List Int) (fuel : Nat) : lback.k0 R k b p fuel = ((R (AV.one (AC.bool (seq2 (bytesOf (Go.Blk.mask (Go.Blk.ks k) b (Go.Blk.mask (Go.Blk.ks k) b p))) (bytesOf p)))) [(3, Blk.own 22 [(Seg.ints IntKind.u8 16 k)]), (4, Blk.own 22 [(Seg.ints IntKind.u8 16 b)]), (7, Blk.own 28 [(Seg.ints IntKind.u8 176 (Go.Blk.ks k))]), (34, Blk.vec [(Col.ints IntKind.u8 (Go.Blk.mask (Go.Blk.ks k) b p))]), (35, Blk.vec [(Col.ints IntKind.u8 (Go.Blk.mask (Go.Blk.ks k) b (Go.Blk.mask (Go.Blk.ks k) b p)))]), (200002, Blk.rview [(Col.ints IntKind.u8 p)])])) := by kernel_rfl

theorem lback_vc (R : AV → Mem → Prop) (fuel : Nat) (k : List Int) (b : List Int) (p : List Int) : callsx Try.prog gamB9 [] Try.f5 (fuel + 1) [.agg [.ints .u8 16 k], .agg [.ints .u8 16 b], .one (.vec 200002)] [(200002, .rview [.ints .u8 p])] R = (((Go.Blk.BL 16 k) ∧ (((Go.Blk.BL 176 (Go.Blk.ks k)) ∧ (Go.Blk.BL 16 b)) ∧ (((Go.Blk.BL 176 (Go.Blk.ks k)) ∧ (Go.Blk.BL 16 (Go.Blk.enc (Go.Blk.ks k) b))) ∧ ((((leq (Go.Blk.dec (Go.Blk.ks k) (Go.Blk.enc (Go.Blk.ks k) b)) b) = true) → (((Go.Blk.BL 176 (Go.Blk.ks k)) ∧ (Go.Blk.BL 16 b)) ∧ (((Go.Blk.BL 176 (Go.Blk.ks k)) ∧ (Go.Blk.BL 16 (Go.Blk.dec (Go.Blk.ks k) b))) ∧ ((((leq (Go.Blk.enc (Go.Blk.ks k) (Go.Blk.dec (Go.Blk.ks k) b)) b) = true) → (((((Go.Blk.BL 16 k) ∧ (Go.Blk.BL 16 b)) ∧ ((Short p) ∧ (Bs p))) ∧ (((((Go.Blk.BL 16 k) ∧ (Go.Blk.BL 16 b)) ∧ ((Short (Go.Blk.mask (Go.Blk.ks k) b p)) ∧ (Bs (Go.Blk.mask (Go.Blk.ks k) b p)))) ∧ ((lback.k0 R k b p fuel) ∧ (lback.k0 R k b p fuel))) ∧ ((((Go.Blk.BL 16 k) ∧ (Go.Blk.BL 16 b)) ∧ ((Short (Go.Blk.mask (Go.Blk.ks k) b p)) ∧ (Bs (Go.Blk.mask (Go.Blk.ks k) b p)))) ∧ (lback.k0 R k b p fuel)))) ∧ ((((Go.Blk.BL 16 k) ∧ (Go.Blk.BL 16 b)) ∧ ((Short p) ∧ (Bs p))) ∧ ((((Go.Blk.BL 16 k) ∧ (Go.Blk.BL 16 b)) ∧ ((Short (Go.Blk.mask (Go.Blk.ks k) b p)) ∧ (Bs (Go.Blk.mask (Go.Blk.ks k) b p)))) ∧ (lback.k0 R k b p fuel))))) ∧ (((leq (Go.Blk.enc (Go.Blk.ks k) (Go.Blk.dec (Go.Blk.ks k) b)) b) = false) → ((((R (AV.one (AC.lit false)) [(3, Blk.own 22 [(Seg.ints IntKind.u8 16 k)]), (4, Blk.own 22 [(Seg.ints IntKind.u8 16 b)]), (7, Blk.own 28 [(Seg.ints IntKind.u8 176 (Go.Blk.ks k))]), (200002, Blk.rview [(Col.ints IntKind.u8 p)])]) ∧ (R (AV.one (AC.lit false)) [(3, Blk.own 22 [(Seg.ints IntKind.u8 16 k)]), (4, Blk.own 22 [(Seg.ints IntKind.u8 16 b)]), (7, Blk.own 28 [(Seg.ints IntKind.u8 176 (Go.Blk.ks k))]), (200002, Blk.rview [(Col.ints IntKind.u8 p)])])) ∧ (R (AV.one (AC.lit false)) [(3, Blk.own 22 [(Seg.ints IntKind.u8 16 k)]), (4, Blk.own 22 [(Seg.ints IntKind.u8 16 b)]), (7, Blk.own 28 [(Seg.ints IntKind.u8 176 (Go.Blk.ks k))]), (200002, Blk.rview [(Col.ints IntKind.u8 p)])])) ∧ (R (AV.one (AC.lit false)) [(3, Blk.own 22 [(Seg.ints IntKind.u8 16 k)]), (4, Blk.own 22 [(Seg.ints IntKind.u8 16 b)]), (7, Blk.own 28 [(Seg.ints IntKind.u8 176 (Go.Blk.ks k))]), (200002, Blk.rview [(Col.ints IntKind.u8 p)])]))))))) ∧ (((leq (Go.Blk.dec (Go.Blk.ks k) (Go.Blk.enc (Go.Blk.ks k) b)) b) = false) → ((((R (AV.one (AC.lit false)) [(3, Blk.own 22 [(Seg.ints IntKind.u8 16 k)]), (4, Blk.own 22 [(Seg.ints IntKind.u8 16 b)]), (7, Blk.own 28 [(Seg.ints IntKind.u8 176 (Go.Blk.ks k))]), (200002, Blk.rview [(Col.ints IntKind.u8 p)])]) ∧ (R (AV.one (AC.lit false)) [(3, Blk.own 22 [(Seg.ints IntKind.u8 16 k)]), (4, Blk.own 22 [(Seg.ints IntKind.u8 16 b)]), (7, Blk.own 28 [(Seg.ints IntKind.u8 176 (Go.Blk.ks k))]), (200002, Blk.rview [(Col.ints IntKind.u8 p)])])) ∧ (R (AV.one (AC.lit false)) [(3, Blk.own 22 [(Seg.ints IntKind.u8 16 k)]), (4, Blk.own 22 [(Seg.ints IntKind.u8 16 b)]), (7, Blk.own 28 [(Seg.ints IntKind.u8 176 (Go.Blk.ks k))]), (200002, Blk.rview [(Col.ints IntKind.u8 p)])])) ∧ (R (AV.one (AC.lit false)) [(3, Blk.own 22 [(Seg.ints IntKind.u8 16 k)]), (4, Blk.own 22 [(Seg.ints IntKind.u8 16 b)]), (7, Blk.own 28 [(Seg.ints IntKind.u8 176 (Go.Blk.ks k))]), (200002, Blk.rview [(Col.ints IntKind.u8 p)])])))))))) := by kernel_rfl









































end Go.Proofs.Ytkecbjohbihfmaa.G

/- Bits of signed words that are not below nought. -/
namespace Go.Sx
open Go
set_option linter.unusedSimpArgs false

theorem bxor_i64 {a b : Nat} (ha : a < 9223372036854775808) (hb : b < 9223372036854775808) : bxor .i64 (a : Int) (b : Int) = ((a ^^^ b : Nat) : Int) := by
  have hx : a ^^^ b < 2 ^ 63 := Nat.xor_lt_two_pow (by omega) (by omega)
  show IntKind.i64.wrap ((BitVec.ofInt 64 (a : Int) ^^^ BitVec.ofInt 64 (b : Int)).toNat : Int) = _
  rw [BitVec.toNat_xor, ofInt_u64 a (by omega), ofInt_u64 b (by omega), IntKind.wrap_i64]
  omega
theorem bor_i64 {a b : Nat} (ha : a < 9223372036854775808) (hb : b < 9223372036854775808) : bor .i64 (a : Int) (b : Int) = ((a ||| b : Nat) : Int) := by
  have hx : a ||| b < 2 ^ 63 := Nat.or_lt_two_pow (by omega) (by omega)
  show IntKind.i64.wrap ((BitVec.ofInt 64 (a : Int) ||| BitVec.ofInt 64 (b : Int)).toNat : Int) = _
  rw [BitVec.toNat_or, ofInt_u64 a (by omega), ofInt_u64 b (by omega), IntKind.wrap_i64]
  omega
theorem band_i64 {a b : Nat} (ha : a < 9223372036854775808) (hb : b < 9223372036854775808) : band .i64 (a : Int) (b : Int) = ((a &&& b : Nat) : Int) := by
  have hx : a &&& b < 2 ^ 63 := Nat.and_lt_two_pow _ (by omega)
  show IntKind.i64.wrap ((BitVec.ofInt 64 (a : Int) &&& BitVec.ofInt 64 (b : Int)).toNat : Int) = _
  rw [BitVec.toNat_and, ofInt_u64 a (by omega), ofInt_u64 b (by omega), IntKind.wrap_i64]
  omega
theorem band1_i64 {m : Nat} (h : m < 9223372036854775808) : band .i64 (m : Int) 1 = ((m % 2 : Nat) : Int) := by
  rw [show (1 : Int) = ((1 : Nat) : Int) from rfl, ← Nat.and_one_is_mod]
  exact band_i64 h (by decide)
theorem shr_i64 {a n : Nat} (hn : n ≤ 64) : shr .i64 (a : Int) (n : Int) = ((a / 2 ^ n : Nat) : Int) := by
  unfold shr
  have : min (n : Int).toNat IntKind.i64.bits = n := by show min ((n : Int).toNat) 64 = n; omega
  rw [this]
  have h : (2 : Int) ^ n = ((2 ^ n : Nat) : Int) := by simp
  rw [h, Int.fdiv_eq_ediv_of_nonneg _ (Int.natCast_nonneg _)]
  simp
theorem shl_i64 {a n : Nat} (hn : n ≤ 64) (h : a * 2 ^ n < 9223372036854775808) : shl .i64 (a : Int) (n : Int) = ((a * 2 ^ n : Nat) : Int) := by
  unfold shl
  have : min (n : Int).toNat IntKind.i64.bits = n := by show min ((n : Int).toNat) 64 = n; omega
  rw [this]
  have e : (a : Int) * 2 ^ n = ((a * 2 ^ n : Nat) : Int) := by simp
  rw [e, IntKind.wrap_i64]
  omega
end Go.Sx

/- The statements on the block cipher, over what is known of its functions. -/
namespace Go.Blk
open Go.Sx Go.Fld
set_option linter.unusedVariables false
set_option linter.unusedSimpArgs false
theorem val_lt {b : List Int} (hb : BL 16 b) : ∀ n, val b n < 256 ^ n
  | 0 => by simp [val]
  | n + 1 => by
    have := val_lt hb n
    have h2 := (hb.get n).hi
    have h3 := (hb.get n).lo
    simp only [val, Nat.pow_succ]
    omega
end Go.Blk
namespace Go.Proofs.Ytkecbjohbihfmaa.G
open Go Go.Sx Go.Fld Go.Blk
set_option linter.unusedSimpArgs false
set_option linter.unusedVariables false

theorem good_count : Sx.Good Try.prog 24 countS := by
  refine Sx.Good.pure (D := []) mixed (good0 _) Try.func24 (by kernel_rfl) rfl fun d args σ K h => ?_
  simp only [countS] at h
  split at h <;> try exact h.elim
  rename_i s
  obtain ⟨hs, hK⟩ := h
  refine ⟨by simp [plain_int], _, plain_ints _ _ _, hK, (1 + 1 * 16) + 1, ?_⟩
  rw [lcount_vc]
  have key := loop_n (fun f i x => lcount.l0 (fun av' _ => av' = .agg [.ints .u8 16 (cnt s)]) s f i x) 16 (fun i => upto 16 i (fun i => (i : Int) * s % 256) fun _ => 0) 1 1
    (fun f i hi hf => by
      rw [lcount.l0_succ]
      have e1 : conv .u8 (i : Int) = (i : Int) := by rw [conv_u8]; omega
      have e2 : mul .u8 (i : Int) s = (i : Int) * s % 256 := conv_u8 _
      refine ⟨fun _ => ?_, fun q => ?_⟩
      · simp only [e1, e2, nat_cast, nadd_def, Nat.zero_add, InB_iff, Low_iff]
        rw [upto_lset rfl, add1_i64 (by omega)]
        exact ⟨by omega, hi, hf⟩
      · rw [ilt_false] at q; omega)
    (by
      rw [lcount.l0_succ]
      refine ⟨fun q => ?_, fun _ => ?_⟩
      · rw [ilt_true] at q; omega
      · rw [upto_done]; rfl) 0 (Nat.zero_le _)
  rw [upto_zero, ← lzeros_tab] at key
  exact key

theorem good_up : Sx.Good Try.prog 23 upS := by
  refine Sx.Good.pure (D := []) mixed (good0 _) Try.func23 (by kernel_rfl) rfl fun d args σ K h => ?_
  simp only [upS] at h
  split at h <;> try exact h.elim
  rename_i b n
  obtain ⟨⟨hb, hn⟩, hK⟩ := h
  obtain ⟨m, rfl⟩ := Int.eq_ofNat_of_zero_le hn.lo
  have hm := hn.hi
  refine ⟨by simp [plain_int, plain_ints], _, plain_ints _ _ _, hK, (1 + 1 * 16) + 1, ?_⟩
  rw [lup_vc]
  have hV : ∀ i, i ≤ 16 → val b i ≤ (val b 16 + m) / 256 ^ (16 - i) ∧ (val b 16 + m) / 256 ^ (16 - i) - val b i ≤ 65536 := by
    intro i hi
    induction hk : 16 - i generalizing i with
    | zero => obtain rfl : i = 16 := by omega
              simp; omega
    | succ k ih =>
      obtain ⟨h1, h2⟩ := ih (i + 1) (by omega) (by omega)
      have h3 := (hb.get i).hi
      have h4 := (hb.get i).lo
      have e : (val b 16 + m) / 256 ^ (k + 1) = (val b 16 + m) / 256 ^ k / 256 := by rw [Nat.pow_succ, Nat.div_div_eq_div_mul]
      rw [e]
      generalize (val b 16 + m) / 256 ^ k = q at h1 h2 ⊢
      simp only [val] at h1 h2
      omega
  have key := loop_down (fun f i (x : Int × List Int) => lup.l0 (fun av' _ => av' = .agg [.ints .u8 16 (upI b (m : Int))]) f x.1 i x.2) (fun i => ((((val b 16 + m) / 256 ^ (16 - i) - val b i : Nat) : Int), tab 16 fun j => if i ≤ j then (((val b 16 + m) / 256 ^ (15 - j) % 256 : Nat) : Int) else lget b j)) 1 1 16
    (fun f i hi hf => by
      rw [lup.l0_succ]
      refine ⟨fun _ => ?_, fun q => ?_⟩
      · obtain ⟨h1, h2⟩ := hV (i + 1) (by omega)
        obtain ⟨g1, g2⟩ := hV i (by omega)
        have h3 := (hb.get i).hi
        have h4 := (hb.get i).lo
        have el : lget (tab 16 fun j => if i + 1 ≤ j then (((val b 16 + m) / 256 ^ (15 - j) % 256 : Nat) : Int) else lget b j) i = lget b i := by rw [tab_lget _ hi, if_neg (by omega)]
        have ec : conv .i64 (lget b i) = lget b i := conv_i64 (by omega) (by omega)
        have e16 : 16 - i = (15 - i) + 1 := by omega
        have ed : (val b 16 + m) / 256 ^ (16 - i) = (val b 16 + m) / 256 ^ (15 - i) / 256 := by rw [e16, Nat.pow_succ, Nat.div_div_eq_div_mul]
        rw [show 16 - (i + 1) = 15 - i by omega] at h1 h2 ⊢
        rw [ed] at g1 g2
        have ea : add .i64 (((val b 16 + m) / 256 ^ (15 - i) - val b (i + 1) : Nat) : Int) (lget b i) = (((val b 16 + m) / 256 ^ (15 - i) - val b i * 256 : Nat) : Int) := by
          generalize (val b 16 + m) / 256 ^ (15 - i) = q at h1 h2
          simp only [val] at h1 h2 ⊢
          rw [add_i64 (by omega) (by omega)]; omega
        have eb : band .i64 (((val b 16 + m) / 256 ^ (15 - i) - val b i * 256 : Nat) : Int) 255 = (((val b 16 + m) / 256 ^ (15 - i) % 256 : Nat) : Int) := by
          generalize (val b 16 + m) / 256 ^ (15 - i) = q at h1 h2
          simp only [val] at h1 h2
          have := band_i64 (a := q - val b i * 256) (b := 255) (by omega) (by decide)
          rw [show ((255 : Nat) : Int) = 255 from rfl] at this
          rw [this]
          have e : (q - val b i * 256) &&& 255 = (q - val b i * 256) % 256 := Nat.and_two_pow_sub_one_eq_mod _ 8
          rw [e]; omega
        have ev : conv .u8 (((val b 16 + m) / 256 ^ (15 - i) % 256 : Nat) : Int) = (((val b 16 + m) / 256 ^ (15 - i) % 256 : Nat) : Int) := by
          generalize (val b 16 + m) / 256 ^ (15 - i) = q
          rw [conv_u8]; omega
        have es : shr .i64 (((val b 16 + m) / 256 ^ (15 - i) - val b i * 256 : Nat) : Int) 8 = (((val b 16 + m) / 256 ^ (16 - i) - val b i : Nat) : Int) := by
          have := shr_i64 (a := (val b 16 + m) / 256 ^ (15 - i) - val b i * 256) (n := 8) (by decide)
          rw [show ((8 : Nat) : Int) = 8 from rfl] at this
          rw [this, ed]
          generalize (val b 16 + m) / 256 ^ (15 - i) = q at h1 h2
          omega
        simp only [nat_cast, nadd_def, Nat.zero_add, el, ec, ea, eb, ev, es, InB_iff, Low_iff, NonNeg_iff]
        refine ⟨by omega, hi, by omega, hi, by decide, ?_⟩
        rw [sub_i64 (by omega) (by omega), tab_lset]
        have et : (tab 16 fun j => if j = i then (((val b 16 + m) / 256 ^ (15 - i) % 256 : Nat) : Int) else if i + 1 ≤ j then (((val b 16 + m) / 256 ^ (15 - j) % 256 : Nat) : Int) else lget b j) = tab 16 fun j => if i ≤ j then (((val b 16 + m) / 256 ^ (15 - j) % 256 : Nat) : Int) else lget b j := by
          refine tab_ext fun j hj => ?_
          by_cases c : j = i
          · subst c; simp
          · by_cases c2 : i + 1 ≤ j
            · rw [if_neg c, if_pos c2, if_pos (by omega)]
            · rw [if_neg c, if_neg c2, if_neg (by omega)]
        rw [et]; exact hf
      · rw [ige_false] at q; omega)
    (by
      rw [lup.l0_succ]
      refine ⟨fun q => ?_, fun _ => ?_⟩
      · rw [ige_true] at q; omega
      · have : (tab 16 fun j => if 0 ≤ j then (((val b 16 + m) / 256 ^ (15 - j) % 256 : Nat) : Int) else lget b j) = upI b (m : Int) := by
          unfold upI byt
          exact tab_ext fun j hj => by rw [if_pos (Nat.zero_le _)]; rfl
        rw [this]) 16 (Nat.le_refl _)
  have e0 : (tab 16 fun j => if 16 ≤ j then (((val b 16 + m) / 256 ^ (15 - j) % 256 : Nat) : Int) else lget b j) = b := by
    conv => rhs; rw [hb.eq]
    exact tab_ext fun j hj => by rw [if_neg (by omega)]
  have e1 : (((val b 16 + m) / 256 ^ (16 - 16) - val b 16 : Nat) : Int) = (m : Int) := by simp
  rw [e0, e1] at key
  exact key

theorem gamB8_good : GoodG Try.prog gamB8 :=
  (gamB7_good.ext good_count ⟨_, Try.func24, by decide, by kernel_rfl⟩).ext good_up ⟨_, Try.func23, by decide, by kernel_rfl⟩

def Yes : AV → Mem → Prop := fun av _ => av = .one (.bool true) ∨ av = .one (.lit true)

theorem good_alive : Sx.Good Try.prog 9 yesS := by
  refine Sx.Good.pure2 (D := []) mixed gamB8_good Try.func9 (by kernel_rfl) rfl fun d args σ K h => ?_
  simp only [yesS] at h
  split at h <;> try exact h.elim
  refine ⟨by simp, _, fun _ => rfl, h, 0 + 1, ?_⟩
  rw [lalive_vc]
  have hk := ks_bl (cnt_bl 1)
  have hc := cnt_bl 17
  have e0 : ieq (lget (enc (ks (cnt 1)) (cnt 17)) 0) 105 = true := by rw [alive_enc]; rfl
  have e15 : ieq (lget (enc (ks (cnt 1)) (cnt 17)) 15) 90 = true := by rw [alive_enc]; rfl
  have fin : lalive.k0 (fun av' _ => ∀ ρ v, SRep ρ av' v → SRep ρ (.one (.lit true)) v) 0 := by
    rw [lalive.k0_eq]
    refine ⟨⟨by decide, by decide⟩, ⟨by decide⟩, fun _ => ⟨⟨by decide, by decide⟩, ⟨by decide⟩, fun _ => ⟨⟨hk, enc_bl hk hc⟩, ⟨by decide, by decide⟩, ?_⟩, fun q => ?_⟩, fun q => ?_⟩
    · rw [dec_enc hk hc, leq_self]; exact fun ρ v h => h
    · rw [e15] at q; cases q
    · rw [e0] at q; cases q
  have b17 : Byte 17 := ⟨by decide, by decide⟩
  exact ⟨⟨by decide, by decide⟩, cnt_bl 1, ⟨b17, ⟨⟨hk, hc⟩, fin⟩, ⟨hk, hc⟩, fin⟩, b17, ⟨hk, hc⟩, fin⟩

theorem gamB9_good : GoodG Try.prog gamB9 := gamB8_good.ext good_alive ⟨_, Try.func9, by decide, by kernel_rfl⟩

theorem blockCrypts_plain {k : List Int} {ll : List (List Int)} (hk : BL 16 k) (hl : ∀ l ∈ ll, BL 16 l) (hs : ll.length ≤ 140737488355328) : Has (callsx Try.prog gamB9 [] Try.f3 ((1 + 1 * (ll.length - 0)) + 1) [.agg [.ints .u8 16 k], .one (.vec 200001)] [(200001, .rview [.arrs .u8 16 ll])] Yes) := by
  constructor
  rw [lcrypts_vc]
  refine ⟨hk, loop_n (fun f i (_ : Unit) => lcrypts.l0 Yes k ll f i) ll.length (fun _ => ()) 1 1 (fun f i hi hf => ?_) ?_ 0 (Nat.zero_le _)⟩
  · rw [lcrypts.l0_succ, add1_i64 (by omega)]
    have hb : BL 16 (llget ll (nat (i : Int))) := by
      rw [nat_cast]
      have : llget ll i ∈ ll := by simp [llget, List.getD, hi]
      exact hl _ this
    have hw := ks_bl hk
    have hz := zeros_bl 176
    have hi1 : InB (i : Int) (llen ll) := ⟨by omega, by rw [llen_def]; omega⟩
    simp only [leq_self, bnot, dec_enc hz hb, hb, hw, hz, hk, enc_bl hz hb, hi1, true_and, Bool.not_true, Bool.false_eq_true, false_implies, forall_const, and_true]
    refine ⟨fun _ => hf, fun q => ?_⟩
    rw [ofNat_def, llen_def, ilt_false] at q; omega
  · rw [lcrypts.l0_succ]
    refine ⟨fun q => ?_, fun _ => Or.inr rfl⟩
    rw [ofNat_def, llen_def, ilt_true] at q; omega

theorem blockRounds_plain {k : List Int} {i : Int} (hk : BL 16 k) : Has (callsx Try.prog gamB9 [] Try.f4 ((1 + 1 * (13 - 0)) + 1) [.agg [.ints .u8 16 k], .one (.int .i64 i)] [] Yes) := by
  constructor
  rw [lrounds_vc]
  have hw := ks_bl hk
  have h : lrounds.l0 Yes i k (1 + 1 * (13 - 0)) (-1 : Int) := by
    refine loop_n (fun f j (_ : Unit) => lrounds.l0 Yes i k f (j - 1)) 13 (fun _ => ()) 1 1 (fun f j hj hf => ?_) ?_ 0 (Nat.zero_le _)
    · rw [lrounds.l0_succ]
      have e : add .i64 ((j : Int) - 1) 1 = ((j + 1 : Nat) : Int) - 1 := by rw [add_i64 (by omega) (by omega)]; omega
      rw [e]
      simp only [leq_self, bnot, hw, hk, true_and, Bool.not_true, Bool.false_eq_true, false_implies, forall_const, and_true]
      refine ⟨fun _ => hf, fun q => ?_⟩
      · rw [ile_false] at q; omega
    · rw [lrounds.l0_succ]
      refine ⟨fun q => ?_, fun _ => ?_⟩
      · rw [ile_true] at q; omega
      · simp only [leq_self, bnot, band2, Bool.and_self, hw, hk, true_and, Bool.not_true, Bool.false_eq_true, Bool.true_eq_false, false_implies, forall_const, and_true]
        exact Or.inl rfl
  simp only [hk, h, true_and, and_true]

theorem blockBack_plain {k b p : List Int} (hk : BL 16 k) (hb : BL 16 b) (hs : Short p) (hp : Bs p) : Has (callsx Try.prog gamB9 [] Try.f5 (0 + 1) [.agg [.ints .u8 16 k], .agg [.ints .u8 16 b], .one (.vec 200002)] [(200002, .rview [.ints .u8 p])] Yes) := by
  constructor
  rw [lback_vc]
  have hw := ks_bl hk
  have hm := mask_bs hw hb hp
  have hms : Short (mask (ks k) b p) := ⟨by rw [mask_len]; exact hs.le⟩
  have h : lback.k0 Yes k b p 0 := by
    rw [lback.k0_eq, mask_mask hw hb hp, seq2_self rfl]; exact Or.inl rfl
  simp only [leq_self, bnot, dec_enc hw hb, enc_dec hw hb, hw, hk, hb, enc_bl hw hb, dec_bl hw hb, hs, hp, hm, hms, h, true_and, Bool.not_true, Bool.false_eq_true, Bool.true_eq_false, false_implies, forall_const, and_true]
end Go.Proofs.Ytkecbjohbihfmaa.G

/- The verification conditions of functions, printed by a program of this session out of their codes. -/
namespace Go.Proofs.Ytkecbjohbihfmaa.G
open Go Go.Sx Go.Fld Go.Blk
set_option linter.unusedVariables false
set_option maxRecDepth 100000

def lcounts.k0 (R : AV → Mem → Prop) (n : Int) (x3 : Int) (k : List Int) (s : List Int) (fuel : Nat) : Prop := runM Try.prog gamB9 [⟨777777, [], true, false⟩] (resh Try.prog [⟨777777, [], true, false⟩] Try.f7.results.toList R) (run Try.prog gamB9 [⟨777777, [], true, false⟩] (resh Try.prog [⟨777777, [], true, false⟩] Try.f7.results.toList R) fuel) 3989 [.code (cAt (bodyOf Try.f7) [1, 1, 1, 1, 1, 1, 0, 1, 0, 0, 1, 0, 0, 1, 1]), .inBlock 1, .code (cAt (bodyOf Try.f7) [1, 1, 1, 1, 1, 1, 0, 1, 0, 0, 1, 1]), .inLoop (cAt (bodyOf Try.f7) [1, 1, 1, 1, 1, 1, 0, 1, 0, 0]), .inBlock 0, .code (cAt (bodyOf Try.f7) [1, 1, 1, 1, 1, 1, 1])] [AV.undef, AV.undef, (AV.one (AC.int IntKind.i64 (band IntKind.i64 n 1023))), (AV.one (AC.ptr 3 0 0)), (AV.one (AC.ptr 4 0 0)), AV.undef, AV.undef, (AV.one (AC.vec 24)), (AV.one (AC.ptr 8 0 0)), (AV.one (AC.int IntKind.i64 x3)), (AV.one (AC.ptr 10 0 0)), AV.undef, AV.undef, AV.undef, AV.undef, AV.undef, AV.undef, AV.undef, AV.undef, AV.undef, AV.undef, AV.undef, AV.undef, AV.undef, AV.undef, AV.undef, AV.undef, AV.undef, AV.undef, AV.undef, AV.undef, AV.undef, AV.undef, AV.undef, AV.undef, AV.undef, AV.undef, AV.undef, AV.undef, AV.undef, AV.undef, AV.undef, AV.undef, AV.undef, AV.undef, AV.undef, AV.undef, AV.undef, AV.undef, AV.undef, AV.undef, AV.undef, AV.undef, AV.undef, AV.undef, AV.undef, (AV.one (AC.int IntKind.i64 x3)), (AV.one (AC.int IntKind.i64 (mul IntKind.i64 16 x3))), (AV.one (AC.int IntKind.i64 (band IntKind.i64 n 1023))), (AV.one (AC.lit true)), AV.undef, AV.undef, (AV.agg [(Seg.ints IntKind.u8 176 (Go.Blk.ks k))]), (AV.agg [(Seg.ints IntKind.u8 16 s)]), (AV.one (AC.int IntKind.i64 x3)), (AV.agg [(Seg.ints IntKind.u8 16 (Go.Blk.upI s x3))]), (AV.agg [(Seg.ints IntKind.u8 16 (Go.Blk.enc (Go.Blk.ks k) (Go.Blk.upI s x3)))]), (AV.one (AC.vec 24)), (AV.one (AC.int IntKind.i64 x3)), (AV.one (AC.int IntKind.i64 (mul IntKind.i64 16 x3))), (AV.one (AC.int IntKind.i64 (band IntKind.i64 n 1023))), (AV.one (AC.int IntKind.i64 x3)), (AV.one (AC.int IntKind.i64 (mul IntKind.i64 16 x3))), (AV.one (AC.int IntKind.i64 (add IntKind.i64 (mul IntKind.i64 16 x3) 16))), (AV.one (AC.int IntKind.i64 (imin (band IntKind.i64 n 1023) (add IntKind.i64 (mul IntKind.i64 16 x3) 16)))), (AV.one (AC.vsl 24 1 (nat (mul IntKind.i64 16 x3)) (nsub (nat (imin (band IntKind.i64 n 1023) (add IntKind.i64 (mul IntKind.i64 16 x3) 16))) (nat (mul IntKind.i64 16 x3))))), (AV.one (AC.str (bytesOf (lsub (Go.Blk.strmI (Go.Blk.ks k) s (band IntKind.i64 n 1023)) (nat (mul IntKind.i64 16 x3)) (nsub (nat (imin (band IntKind.i64 n 1023) (add IntKind.i64 (mul IntKind.i64 16 x3) 16))) (nat (mul IntKind.i64 16 x3))))))), (AV.one (AC.int IntKind.i64 (band IntKind.i64 n 1023))), (AV.one (AC.int IntKind.i64 x3)), (AV.one (AC.int IntKind.i64 (mul IntKind.i64 16 x3))), (AV.one (AC.int IntKind.i64 (sub IntKind.i64 (band IntKind.i64 n 1023) (mul IntKind.i64 16 x3)))), (AV.one (AC.int IntKind.i64 (imin 16 (sub IntKind.i64 (band IntKind.i64 n 1023) (mul IntKind.i64 16 x3))))), (AV.one (AC.sl 10 0 0 (nat (imin 16 (sub IntKind.i64 (band IntKind.i64 n 1023) (mul IntKind.i64 16 x3)))) 16)), (AV.one (AC.str (bytesOf (lsub (Go.Blk.enc (Go.Blk.ks k) (Go.Blk.upI s x3)) 0 (nat (imin 16 (sub IntKind.i64 (band IntKind.i64 n 1023) (mul IntKind.i64 16 x3)))))))), (AV.one (AC.bool (bnot (seq2 (bytesOf (lsub (Go.Blk.strmI (Go.Blk.ks k) s (band IntKind.i64 n 1023)) (nat (mul IntKind.i64 16 x3)) (nsub (nat (imin (band IntKind.i64 n 1023) (add IntKind.i64 (mul IntKind.i64 16 x3) 16))) (nat (mul IntKind.i64 16 x3))))) (bytesOf (lsub (Go.Blk.enc (Go.Blk.ks k) (Go.Blk.upI s x3)) 0 (nat (imin 16 (sub IntKind.i64 (band IntKind.i64 n 1023) (mul IntKind.i64 16 x3)))))))))), (AV.tup []), (AV.tup []), (AV.tup []), (AV.tup []), (AV.tup []), (AV.tup []), (AV.tup []), (AV.tup []), (AV.tup []), (AV.tup []), (AV.tup []), (AV.tup []), (AV.tup []), (AV.tup []), (AV.tup [])] [(3, Blk.own 22 [(Seg.ints IntKind.u8 16 k)]), (4, Blk.own 22 [(Seg.ints IntKind.u8 16 s)]), (8, Blk.own 28 [(Seg.ints IntKind.u8 176 (Go.Blk.ks k))]), (10, Blk.own 22 [(Seg.ints IntKind.u8 16 (Go.Blk.enc (Go.Blk.ks k) (Go.Blk.upI s x3)))]), (24, Blk.vec [(Col.ints IntKind.u8 (Go.Blk.strmI (Go.Blk.ks k) s (band IntKind.i64 n 1023)))])]

def lcounts.k1 (R : AV → Mem → Prop) (n : Int) (x3 : Int) (k : List Int) (s : List Int) (fuel : Nat) : Prop := runM Try.prog gamB9 [⟨777777, [], true, false⟩] (resh Try.prog [⟨777777, [], true, false⟩] Try.f7.results.toList R) (run Try.prog gamB9 [⟨777777, [], true, false⟩] (resh Try.prog [⟨777777, [], true, false⟩] Try.f7.results.toList R) fuel) 3991 [.code (cAt (bodyOf Try.f7) [1, 1, 1, 1, 1, 1, 0, 1, 0, 0, 1, 0, 0, 1]), .inBlock 1, .code (cAt (bodyOf Try.f7) [1, 1, 1, 1, 1, 1, 0, 1, 0, 0, 1, 1]), .inLoop (cAt (bodyOf Try.f7) [1, 1, 1, 1, 1, 1, 0, 1, 0, 0]), .inBlock 0, .code (cAt (bodyOf Try.f7) [1, 1, 1, 1, 1, 1, 1])] [AV.undef, AV.undef, (AV.one (AC.int IntKind.i64 (band IntKind.i64 n 1023))), (AV.one (AC.ptr 3 0 0)), (AV.one (AC.ptr 4 0 0)), AV.undef, AV.undef, (AV.one (AC.vec 24)), (AV.one (AC.ptr 8 0 0)), (AV.one (AC.int IntKind.i64 x3)), (AV.one (AC.ptr 10 0 0)), AV.undef, AV.undef, AV.undef, AV.undef, AV.undef, AV.undef, AV.undef, AV.undef, AV.undef, AV.undef, AV.undef, AV.undef, AV.undef, AV.undef, AV.undef, AV.undef, AV.undef, AV.undef, AV.undef, AV.undef, AV.undef, AV.undef, AV.undef, AV.undef, AV.undef, AV.undef, AV.undef, AV.undef, AV.undef, AV.undef, AV.undef, AV.undef, AV.undef, AV.undef, AV.undef, AV.undef, AV.undef, AV.undef, AV.undef, AV.undef, AV.undef, AV.undef, AV.undef, AV.undef, AV.undef, (AV.one (AC.int IntKind.i64 x3)), (AV.one (AC.int IntKind.i64 (mul IntKind.i64 16 x3))), (AV.one (AC.int IntKind.i64 (band IntKind.i64 n 1023))), (AV.one (AC.lit true)), AV.undef, AV.undef, (AV.agg [(Seg.ints IntKind.u8 176 (Go.Blk.ks k))]), (AV.agg [(Seg.ints IntKind.u8 16 s)]), (AV.one (AC.int IntKind.i64 x3)), (AV.agg [(Seg.ints IntKind.u8 16 (Go.Blk.upI s x3))]), (AV.agg [(Seg.ints IntKind.u8 16 (Go.Blk.enc (Go.Blk.ks k) (Go.Blk.upI s x3)))]), AV.undef, AV.undef, AV.undef, AV.undef, AV.undef, AV.undef, AV.undef, AV.undef, AV.undef, AV.undef, AV.undef, AV.undef, AV.undef, AV.undef, AV.undef, AV.undef, AV.undef, AV.undef, (AV.tup []), (AV.tup []), (AV.tup []), (AV.tup []), (AV.tup []), (AV.tup []), (AV.tup []), (AV.tup []), (AV.tup []), (AV.tup []), (AV.tup []), (AV.tup []), (AV.tup []), (AV.tup []), (AV.tup [])] [(3, Blk.own 22 [(Seg.ints IntKind.u8 16 k)]), (4, Blk.own 22 [(Seg.ints IntKind.u8 16 s)]), (8, Blk.own 28 [(Seg.ints IntKind.u8 176 (Go.Blk.ks k))]), (10, Blk.own 22 [(Seg.ints IntKind.u8 16 (Go.Blk.enc (Go.Blk.ks k) (Go.Blk.upI s x3)))]), (24, Blk.vec [(Col.ints IntKind.u8 (Go.Blk.strmI (Go.Blk.ks k) s (band IntKind.i64 n 1023)))])]

def lcounts.k2 (R : AV → Mem → Prop) (n : Int) (k : List Int) (s : List Int) (x3 : Int) (fuel : Nat) : Prop := runM Try.prog gamB9 [⟨777777, [], true, false⟩] (resh Try.prog [⟨777777, [], true, false⟩] Try.f7.results.toList R) (run Try.prog gamB9 [⟨777777, [], true, false⟩] (resh Try.prog [⟨777777, [], true, false⟩] Try.f7.results.toList R) fuel) 3993 [.code (cAt (bodyOf Try.f7) [1, 0, 1, 0, 1])] [AV.undef, AV.undef, (AV.one (AC.int IntKind.i64 (band IntKind.i64 n 1023))), (AV.one (AC.ptr 3 0 0)), (AV.one (AC.ptr 4 0 0)), AV.undef, (AV.one (AC.bool (seq2 (bytesOf (Go.Blk.strmI (Go.Blk.ks k) (Go.Blk.upI s 1) (sub IntKind.i64 (band IntKind.i64 n 1023) 16))) (bytesOf (lsub (Go.Blk.strmI (Go.Blk.ks k) s (band IntKind.i64 n 1023)) 16 (nsub (llen (Go.Blk.strmI (Go.Blk.ks k) s (band IntKind.i64 n 1023))) 16)))))), (AV.one (AC.vec 24)), (AV.one (AC.ptr 8 0 0)), (AV.one (AC.int IntKind.i64 x3)), AV.undef, AV.undef, AV.undef, AV.undef, AV.undef, AV.undef, AV.undef, AV.undef, AV.undef, AV.undef, AV.undef, AV.undef, AV.undef, AV.undef, AV.undef, AV.undef, AV.undef, AV.undef, AV.undef, AV.undef, AV.undef, AV.undef, AV.undef, AV.undef, AV.undef, AV.undef, AV.undef, AV.undef, AV.undef, AV.undef, AV.undef, AV.undef, AV.undef, AV.undef, AV.undef, AV.undef, AV.undef, AV.undef, AV.undef, AV.undef, AV.undef, AV.undef, AV.undef, AV.undef, AV.undef, AV.undef, (AV.one (AC.int IntKind.i64 x3)), (AV.one (AC.int IntKind.i64 (mul IntKind.i64 16 x3))), (AV.one (AC.int IntKind.i64 (band IntKind.i64 n 1023))), (AV.one (AC.lit false)), AV.undef, AV.undef, AV.undef, AV.undef, AV.undef, AV.undef, AV.undef, AV.undef, AV.undef, AV.undef, AV.undef, AV.undef, AV.undef, AV.undef, AV.undef, AV.undef, AV.undef, AV.undef, AV.undef, AV.undef, AV.undef, AV.undef, AV.undef, AV.undef, AV.undef, (AV.one (AC.int IntKind.i64 (band IntKind.i64 n 1023))), (AV.one (AC.bool (ilt (band IntKind.i64 n 1023) 16))), (AV.one (AC.lit false)), (AV.agg [(Seg.ints IntKind.u8 16 k)]), (AV.agg [(Seg.ints IntKind.u8 16 s)]), (AV.agg [(Seg.ints IntKind.u8 16 (Go.Blk.upI s 1))]), (AV.one (AC.int IntKind.i64 (band IntKind.i64 n 1023))), (AV.one (AC.int IntKind.i64 (sub IntKind.i64 (band IntKind.i64 n 1023) 16))), (AV.one (AC.vec 93)), (AV.one (AC.str (bytesOf (Go.Blk.strmI (Go.Blk.ks k) (Go.Blk.upI s 1) (sub IntKind.i64 (band IntKind.i64 n 1023) 16))))), (AV.one (AC.vec 24)), (AV.one (AC.vsl 24 1 16 (nsub (llen (Go.Blk.strmI (Go.Blk.ks k) s (band IntKind.i64 n 1023))) 16))), (AV.one (AC.str (bytesOf (lsub (Go.Blk.strmI (Go.Blk.ks k) s (band IntKind.i64 n 1023)) 16 (nsub (llen (Go.Blk.strmI (Go.Blk.ks k) s (band IntKind.i64 n 1023))) 16))))), (AV.one (AC.bool (seq2 (bytesOf (Go.Blk.strmI (Go.Blk.ks k) (Go.Blk.upI s 1) (sub IntKind.i64 (band IntKind.i64 n 1023) 16))) (bytesOf (lsub (Go.Blk.strmI (Go.Blk.ks k) s (band IntKind.i64 n 1023)) 16 (nsub (llen (Go.Blk.strmI (Go.Blk.ks k) s (band IntKind.i64 n 1023))) 16)))))), (AV.one (AC.bool (seq2 (bytesOf (Go.Blk.strmI (Go.Blk.ks k) (Go.Blk.upI s 1) (sub IntKind.i64 (band IntKind.i64 n 1023) 16))) (bytesOf (lsub (Go.Blk.strmI (Go.Blk.ks k) s (band IntKind.i64 n 1023)) 16 (nsub (llen (Go.Blk.strmI (Go.Blk.ks k) s (band IntKind.i64 n 1023))) 16))))))] [(3, Blk.own 22 [(Seg.ints IntKind.u8 16 k)]), (4, Blk.own 22 [(Seg.ints IntKind.u8 16 s)]), (8, Blk.own 28 [(Seg.ints IntKind.u8 176 (Go.Blk.ks k))]), (24, Blk.vec [(Col.ints IntKind.u8 (Go.Blk.strmI (Go.Blk.ks k) s (band IntKind.i64 n 1023)))]), (93, Blk.vec [(Col.ints IntKind.u8 (Go.Blk.strmI (Go.Blk.ks k) (Go.Blk.upI s 1) (sub IntKind.i64 (band IntKind.i64 n 1023) 16)))])]

def lcounts.l0 (R : AV → Mem → Prop) (n : Int) (k : List Int) (s : List Int) (fuel : Nat) (x3 : Int) : Prop := run Try.prog gamB9 [⟨777777, [], true, false⟩] (resh Try.prog [⟨777777, [], true, false⟩] Try.f7.results.toList R) fuel [.code (cAt (bodyOf Try.f7) [1, 1, 1, 1, 1, 1, 0, 1, 0, 0]), .inLoop (cAt (bodyOf Try.f7) [1, 1, 1, 1, 1, 1, 0, 1, 0, 0]), .inBlock 0, .code (cAt (bodyOf Try.f7) [1, 1, 1, 1, 1, 1, 1])] [AV.undef, AV.undef, (AV.one (AC.int IntKind.i64 (band IntKind.i64 n 1023))), (AV.one (AC.ptr 3 0 0)), (AV.one (AC.ptr 4 0 0)), AV.undef, AV.undef, (AV.one (AC.vec 24)), (AV.one (AC.ptr 8 0 0)), (AV.one (AC.int IntKind.i64 x3)), AV.undef, AV.undef, AV.undef, AV.undef, AV.undef, AV.undef, AV.undef, AV.undef, AV.undef, AV.undef, AV.undef, AV.undef, AV.undef, AV.undef, AV.undef, AV.undef, AV.undef, AV.undef, AV.undef, AV.undef, AV.undef, AV.undef, AV.undef, AV.undef, AV.undef, AV.undef, AV.undef, AV.undef, AV.undef, AV.undef, AV.undef, AV.undef, AV.undef, AV.undef, AV.undef, AV.undef, AV.undef, AV.undef, AV.undef, AV.undef, AV.undef, AV.undef, AV.undef, AV.undef, AV.undef, AV.undef, AV.undef, AV.undef, AV.undef, AV.undef, AV.undef, AV.undef, AV.undef, AV.undef, AV.undef, AV.undef, AV.undef, AV.undef, AV.undef, AV.undef, AV.undef, AV.undef, AV.undef, AV.undef, AV.undef, AV.undef, AV.undef, AV.undef, AV.undef, AV.undef, AV.undef, AV.undef, AV.undef, AV.undef, AV.undef, (AV.tup []), (AV.tup []), (AV.tup []), (AV.tup []), (AV.tup []), (AV.tup []), (AV.tup []), (AV.tup []), (AV.tup []), (AV.tup []), (AV.tup []), (AV.tup []), (AV.tup []), (AV.tup []), (AV.tup [])] [(3, Blk.own 22 [(Seg.ints IntKind.u8 16 k)]), (4, Blk.own 22 [(Seg.ints IntKind.u8 16 s)]), (8, Blk.own 28 [(Seg.ints IntKind.u8 176 (Go.Blk.ks k))]), (24, Blk.vec [(Col.ints IntKind.u8 (Go.Blk.strmI (Go.Blk.ks k) s (band IntKind.i64 n 1023)))])]

def lcounts.k3 (R : AV → Mem → Prop) (n : Int) (k : List Int) (s : List Int) (fuel : Nat) : Prop := runM Try.prog gamB9 [⟨777777, [], true, false⟩] (resh Try.prog [⟨777777, [], true, false⟩] Try.f7.results.toList R) (run Try.prog gamB9 [⟨777777, [], true, false⟩] (resh Try.prog [⟨777777, [], true, false⟩] Try.f7.results.toList R) fuel) 3983 [.code (cAt (bodyOf Try.f7) [1, 1, 1, 1, 0, 1]), .code (cAt (bodyOf Try.f7) [1, 1, 1, 1, 1])] [AV.undef, AV.undef, (AV.one (AC.int IntKind.i64 (band IntKind.i64 n 1023))), (AV.one (AC.ptr 3 0 0)), (AV.one (AC.ptr 4 0 0)), AV.undef, AV.undef, (AV.one (AC.vec 24)), (AV.tup []), (AV.tup []), (AV.tup []), AV.undef, AV.undef, AV.undef, AV.undef, AV.undef, AV.undef, AV.undef, AV.undef, (AV.one (AC.int IntKind.i64 n)), (AV.one (AC.int IntKind.i64 (band IntKind.i64 n 1023))), (AV.agg [(Seg.ints IntKind.u8 16 k)]), (AV.agg [(Seg.ints IntKind.u8 16 s)]), (AV.one (AC.int IntKind.i64 (band IntKind.i64 n 1023))), (AV.one (AC.vec 24)), (AV.one (AC.vec 24)), (AV.one (AC.int IntKind.i64 (ofNat (llen (Go.Blk.strmI (Go.Blk.ks k) s (band IntKind.i64 n 1023)))))), (AV.one (AC.int IntKind.i64 (band IntKind.i64 n 1023))), (AV.one (AC.bool (ine (ofNat (llen (Go.Blk.strmI (Go.Blk.ks k) s (band IntKind.i64 n 1023)))) (band IntKind.i64 n 1023)))), (AV.one (AC.lit false)), (AV.agg [(Seg.ints IntKind.u8 16 k)]), (AV.agg [(Seg.ints IntKind.u8 16 s)]), (AV.one (AC.int IntKind.i64 (band IntKind.i64 n 1023))), (AV.one (AC.vec 33)), (AV.one (AC.vec 34)), (AV.one (AC.str (bytesOf (Go.Blk.mask (Go.Blk.ks k) s (lzeros (nat (band IntKind.i64 n 1023))))))), (AV.one (AC.vec 24)), (AV.one (AC.str (bytesOf (Go.Blk.strmI (Go.Blk.ks k) s (band IntKind.i64 n 1023))))), (AV.one (AC.bool (bnot (seq2 (bytesOf (Go.Blk.mask (Go.Blk.ks k) s (lzeros (nat (band IntKind.i64 n 1023))))) (bytesOf (Go.Blk.strmI (Go.Blk.ks k) s (band IntKind.i64 n 1023))))))), (AV.one (AC.bool (bnot (seq2 (bytesOf (Go.Blk.mask (Go.Blk.ks k) s (lzeros (nat (band IntKind.i64 n 1023))))) (bytesOf (Go.Blk.strmI (Go.Blk.ks k) s (band IntKind.i64 n 1023))))))), (AV.one (AC.lit false)), (AV.agg [(Seg.ints IntKind.u8 16 k)]), (AV.agg [(Seg.ints IntKind.u8 16 s)]), (AV.one (AC.int IntKind.i64 (band IntKind.i64 n 1023))), (AV.one (AC.int IntKind.i64 (quo IntKind.i64 (band IntKind.i64 n 1023) 2))), (AV.one (AC.vec 45)), (AV.one (AC.str (bytesOf (Go.Blk.strmI (Go.Blk.ks k) s (quo IntKind.i64 (band IntKind.i64 n 1023) 2))))), (AV.one (AC.vec 24)), (AV.one (AC.int IntKind.i64 (band IntKind.i64 n 1023))), (AV.one (AC.int IntKind.i64 (quo IntKind.i64 (band IntKind.i64 n 1023) 2))), (AV.one (AC.vsl 24 1 0 (nat (quo IntKind.i64 (band IntKind.i64 n 1023) 2)))), (AV.one (AC.str (bytesOf (lsub (Go.Blk.strmI (Go.Blk.ks k) s (band IntKind.i64 n 1023)) 0 (nat (quo IntKind.i64 (band IntKind.i64 n 1023) 2)))))), (AV.one (AC.bool (bnot (seq2 (bytesOf (Go.Blk.strmI (Go.Blk.ks k) s (quo IntKind.i64 (band IntKind.i64 n 1023) 2))) (bytesOf (lsub (Go.Blk.strmI (Go.Blk.ks k) s (band IntKind.i64 n 1023)) 0 (nat (quo IntKind.i64 (band IntKind.i64 n 1023) 2)))))))), (AV.one (AC.bool (bnot (seq2 (bytesOf (Go.Blk.strmI (Go.Blk.ks k) s (quo IntKind.i64 (band IntKind.i64 n 1023) 2))) (bytesOf (lsub (Go.Blk.strmI (Go.Blk.ks k) s (band IntKind.i64 n 1023)) 0 (nat (quo IntKind.i64 (band IntKind.i64 n 1023) 2)))))))), (AV.tup []), (AV.tup []), (AV.tup []), (AV.tup []), (AV.tup []), (AV.tup []), (AV.tup []), (AV.tup []), (AV.tup []), (AV.tup []), (AV.tup []), (AV.tup []), (AV.tup []), (AV.tup []), (AV.tup []), (AV.tup []), (AV.tup []), (AV.tup []), (AV.tup []), (AV.tup []), (AV.tup []), (AV.tup []), (AV.tup []), (AV.tup []), (AV.tup []), (AV.tup []), (AV.tup []), (AV.tup []), (AV.tup []), (AV.tup []), (AV.tup []), (AV.tup []), (AV.tup []), (AV.tup []), (AV.tup []), (AV.tup []), (AV.tup []), (AV.tup []), (AV.tup []), (AV.tup []), (AV.tup []), (AV.tup []), (AV.tup []), (AV.tup []), (AV.tup []), (AV.tup [])] [(3, Blk.own 22 [(Seg.ints IntKind.u8 16 k)]), (4, Blk.own 22 [(Seg.ints IntKind.u8 16 s)]), (24, Blk.vec [(Col.ints IntKind.u8 (Go.Blk.strmI (Go.Blk.ks k) s (band IntKind.i64 n 1023)))]), (33, Blk.vec [(Col.ints IntKind.u8 (lzeros (nat (band IntKind.i64 n 1023))))]), (34, Blk.vec [(Col.ints IntKind.u8 (Go.Blk.mask (Go.Blk.ks k) s (lzeros (nat (band IntKind.i64 n 1023)))))]), (45, Blk.vec [(Col.ints IntKind.u8 (Go.Blk.strmI (Go.Blk.ks k) s (quo IntKind.i64 (band IntKind.i64 n 1023) 2)))])]

def lcounts.k4 (R : AV → Mem → Prop) (n : Int) (k : List Int) (s : List Int) (fuel : Nat) : Prop := runM Try.prog gamB9 [⟨777777, [], true, false⟩] (resh Try.prog [⟨777777, [], true, false⟩] Try.f7.results.toList R) (run Try.prog gamB9 [⟨777777, [], true, false⟩] (resh Try.prog [⟨777777, [], true, false⟩] Try.f7.results.toList R) fuel) 3983 [.code (cAt (bodyOf Try.f7) [1, 1, 1, 1, 0, 1]), .code (cAt (bodyOf Try.f7) [1, 1, 1, 1, 1])] [AV.undef, AV.undef, (AV.one (AC.int IntKind.i64 (band IntKind.i64 n 1023))), (AV.one (AC.ptr 3 0 0)), (AV.one (AC.ptr 4 0 0)), AV.undef, AV.undef, (AV.one (AC.vec 24)), (AV.tup []), (AV.tup []), (AV.tup []), AV.undef, AV.undef, AV.undef, AV.undef, AV.undef, AV.undef, AV.undef, AV.undef, (AV.one (AC.int IntKind.i64 n)), (AV.one (AC.int IntKind.i64 (band IntKind.i64 n 1023))), (AV.agg [(Seg.ints IntKind.u8 16 k)]), (AV.agg [(Seg.ints IntKind.u8 16 s)]), (AV.one (AC.int IntKind.i64 (band IntKind.i64 n 1023))), (AV.one (AC.vec 24)), (AV.one (AC.vec 24)), (AV.one (AC.int IntKind.i64 (ofNat (llen (Go.Blk.strmI (Go.Blk.ks k) s (band IntKind.i64 n 1023)))))), (AV.one (AC.int IntKind.i64 (band IntKind.i64 n 1023))), (AV.one (AC.bool (ine (ofNat (llen (Go.Blk.strmI (Go.Blk.ks k) s (band IntKind.i64 n 1023)))) (band IntKind.i64 n 1023)))), (AV.one (AC.lit false)), (AV.agg [(Seg.ints IntKind.u8 16 k)]), (AV.agg [(Seg.ints IntKind.u8 16 s)]), (AV.one (AC.int IntKind.i64 (band IntKind.i64 n 1023))), (AV.one (AC.vec 33)), (AV.one (AC.vec 34)), (AV.one (AC.str (bytesOf (Go.Blk.mask (Go.Blk.ks k) s (lzeros (nat (band IntKind.i64 n 1023))))))), (AV.one (AC.vec 24)), (AV.one (AC.str (bytesOf (Go.Blk.strmI (Go.Blk.ks k) s (band IntKind.i64 n 1023))))), (AV.one (AC.bool (bnot (seq2 (bytesOf (Go.Blk.mask (Go.Blk.ks k) s (lzeros (nat (band IntKind.i64 n 1023))))) (bytesOf (Go.Blk.strmI (Go.Blk.ks k) s (band IntKind.i64 n 1023))))))), (AV.one (AC.bool (bnot (seq2 (bytesOf (Go.Blk.mask (Go.Blk.ks k) s (lzeros (nat (band IntKind.i64 n 1023))))) (bytesOf (Go.Blk.strmI (Go.Blk.ks k) s (band IntKind.i64 n 1023))))))), (AV.one (AC.lit true)), (AV.tup []), (AV.tup []), (AV.tup []), (AV.tup []), (AV.tup []), (AV.tup []), (AV.tup []), (AV.tup []), (AV.tup []), (AV.tup []), (AV.tup []), (AV.tup []), (AV.one (AC.lit true)), (AV.tup []), (AV.tup []), (AV.tup []), (AV.tup []), (AV.tup []), (AV.tup []), (AV.tup []), (AV.tup []), (AV.tup []), (AV.tup []), (AV.tup []), (AV.tup []), (AV.tup []), (AV.tup []), (AV.tup []), (AV.tup []), (AV.tup []), (AV.tup []), (AV.tup []), (AV.tup []), (AV.tup []), (AV.tup []), (AV.tup []), (AV.tup []), (AV.tup []), (AV.tup []), (AV.tup []), (AV.tup []), (AV.tup []), (AV.tup []), (AV.tup []), (AV.tup []), (AV.tup []), (AV.tup []), (AV.tup []), (AV.tup []), (AV.tup []), (AV.tup []), (AV.tup []), (AV.tup []), (AV.tup []), (AV.tup []), (AV.tup []), (AV.tup []), (AV.tup []), (AV.tup [])] [(3, Blk.own 22 [(Seg.ints IntKind.u8 16 k)]), (4, Blk.own 22 [(Seg.ints IntKind.u8 16 s)]), (24, Blk.vec [(Col.ints IntKind.u8 (Go.Blk.strmI (Go.Blk.ks k) s (band IntKind.i64 n 1023)))]), (33, Blk.vec [(Col.ints IntKind.u8 (lzeros (nat (band IntKind.i64 n 1023))))]), (34, Blk.vec [(Col.ints IntKind.u8 (Go.Blk.mask (Go.Blk.ks k) s (lzeros (nat (band IntKind.i64 n 1023)))))])]

def lcounts.k5 (R : AV → Mem → Prop) (n : Int) (x12 : Int) (k : List Int) (s : List Int) (fuel : Nat) : Prop := runM Try.prog gamB9 [⟨777777, [], true, false⟩] (resh Try.prog [⟨777777, [], true, false⟩] Try.f7.results.toList R) (run Try.prog gamB9 [⟨777777, [], true, false⟩] (resh Try.prog [⟨777777, [], true, false⟩] Try.f7.results.toList R) fuel) 3989 [.code (cAt (bodyOf Try.f7) [1, 1, 1, 1, 1, 1, 0, 1, 0, 0, 1, 0, 0, 1, 1]), .inBlock 1, .code (cAt (bodyOf Try.f7) [1, 1, 1, 1, 1, 1, 0, 1, 0, 0, 1, 1]), .inLoop (cAt (bodyOf Try.f7) [1, 1, 1, 1, 1, 1, 0, 1, 0, 0]), .inBlock 0, .code (cAt (bodyOf Try.f7) [1, 1, 1, 1, 1, 1, 1])] [AV.undef, AV.undef, (AV.one (AC.int IntKind.i64 n)), (AV.one (AC.ptr 3 0 0)), (AV.one (AC.ptr 4 0 0)), AV.undef, AV.undef, (AV.one (AC.vec 24)), (AV.one (AC.ptr 8 0 0)), (AV.one (AC.int IntKind.i64 x12)), (AV.one (AC.ptr 10 0 0)), AV.undef, AV.undef, AV.undef, AV.undef, AV.undef, AV.undef, AV.undef, AV.undef, AV.undef, AV.undef, AV.undef, AV.undef, AV.undef, AV.undef, AV.undef, AV.undef, AV.undef, AV.undef, AV.undef, AV.undef, AV.undef, AV.undef, AV.undef, AV.undef, AV.undef, AV.undef, AV.undef, AV.undef, AV.undef, AV.undef, AV.undef, AV.undef, AV.undef, AV.undef, AV.undef, AV.undef, AV.undef, AV.undef, AV.undef, AV.undef, AV.undef, AV.undef, AV.undef, AV.undef, AV.undef, (AV.one (AC.int IntKind.i64 x12)), (AV.one (AC.int IntKind.i64 (mul IntKind.i64 16 x12))), (AV.one (AC.int IntKind.i64 n)), (AV.one (AC.lit true)), AV.undef, AV.undef, (AV.agg [(Seg.ints IntKind.u8 176 (Go.Blk.ks k))]), (AV.agg [(Seg.ints IntKind.u8 16 s)]), (AV.one (AC.int IntKind.i64 x12)), (AV.agg [(Seg.ints IntKind.u8 16 (Go.Blk.upI s x12))]), (AV.agg [(Seg.ints IntKind.u8 16 (Go.Blk.enc (Go.Blk.ks k) (Go.Blk.upI s x12)))]), (AV.one (AC.vec 24)), (AV.one (AC.int IntKind.i64 x12)), (AV.one (AC.int IntKind.i64 (mul IntKind.i64 16 x12))), (AV.one (AC.int IntKind.i64 n)), (AV.one (AC.int IntKind.i64 x12)), (AV.one (AC.int IntKind.i64 (mul IntKind.i64 16 x12))), (AV.one (AC.int IntKind.i64 (add IntKind.i64 (mul IntKind.i64 16 x12) 16))), (AV.one (AC.int IntKind.i64 (imin n (add IntKind.i64 (mul IntKind.i64 16 x12) 16)))), (AV.one (AC.vsl 24 1 (nat (mul IntKind.i64 16 x12)) (nsub (nat (imin n (add IntKind.i64 (mul IntKind.i64 16 x12) 16))) (nat (mul IntKind.i64 16 x12))))), (AV.one (AC.str (bytesOf (lsub (Go.Blk.strmI (Go.Blk.ks k) s n) (nat (mul IntKind.i64 16 x12)) (nsub (nat (imin n (add IntKind.i64 (mul IntKind.i64 16 x12) 16))) (nat (mul IntKind.i64 16 x12))))))), (AV.one (AC.int IntKind.i64 n)), (AV.one (AC.int IntKind.i64 x12)), (AV.one (AC.int IntKind.i64 (mul IntKind.i64 16 x12))), (AV.one (AC.int IntKind.i64 (sub IntKind.i64 n (mul IntKind.i64 16 x12)))), (AV.one (AC.int IntKind.i64 (imin 16 (sub IntKind.i64 n (mul IntKind.i64 16 x12))))), (AV.one (AC.sl 10 0 0 (nat (imin 16 (sub IntKind.i64 n (mul IntKind.i64 16 x12)))) 16)), (AV.one (AC.str (bytesOf (lsub (Go.Blk.enc (Go.Blk.ks k) (Go.Blk.upI s x12)) 0 (nat (imin 16 (sub IntKind.i64 n (mul IntKind.i64 16 x12)))))))), (AV.one (AC.bool (bnot (seq2 (bytesOf (lsub (Go.Blk.strmI (Go.Blk.ks k) s n) (nat (mul IntKind.i64 16 x12)) (nsub (nat (imin n (add IntKind.i64 (mul IntKind.i64 16 x12) 16))) (nat (mul IntKind.i64 16 x12))))) (bytesOf (lsub (Go.Blk.enc (Go.Blk.ks k) (Go.Blk.upI s x12)) 0 (nat (imin 16 (sub IntKind.i64 n (mul IntKind.i64 16 x12)))))))))), (AV.tup []), (AV.tup []), (AV.tup []), (AV.tup []), (AV.tup []), (AV.tup []), (AV.tup []), (AV.tup []), (AV.tup []), (AV.tup []), (AV.tup []), (AV.tup []), (AV.tup []), (AV.tup []), (AV.tup [])] [(3, Blk.own 22 [(Seg.ints IntKind.u8 16 k)]), (4, Blk.own 22 [(Seg.ints IntKind.u8 16 s)]), (8, Blk.own 28 [(Seg.ints IntKind.u8 176 (Go.Blk.ks k))]), (10, Blk.own 22 [(Seg.ints IntKind.u8 16 (Go.Blk.enc (Go.Blk.ks k) (Go.Blk.upI s x12)))]), (24, Blk.vec [(Col.ints IntKind.u8 (Go.Blk.strmI (Go.Blk.ks k) s n))])]

def lcounts.k6 (R : AV → Mem → Prop) (n : Int) (x12 : Int) (k : List Int) (s : List Int) (fuel : Nat) : Prop := runM Try.prog gamB9 [⟨777777, [], true, false⟩] (resh Try.prog [⟨777777, [], true, false⟩] Try.f7.results.toList R) (run Try.prog gamB9 [⟨777777, [], true, false⟩] (resh Try.prog [⟨777777, [], true, false⟩] Try.f7.results.toList R) fuel) 3991 [.code (cAt (bodyOf Try.f7) [1, 1, 1, 1, 1, 1, 0, 1, 0, 0, 1, 0, 0, 1]), .inBlock 1, .code (cAt (bodyOf Try.f7) [1, 1, 1, 1, 1, 1, 0, 1, 0, 0, 1, 1]), .inLoop (cAt (bodyOf Try.f7) [1, 1, 1, 1, 1, 1, 0, 1, 0, 0]), .inBlock 0, .code (cAt (bodyOf Try.f7) [1, 1, 1, 1, 1, 1, 1])] [AV.undef, AV.undef, (AV.one (AC.int IntKind.i64 n)), (AV.one (AC.ptr 3 0 0)), (AV.one (AC.ptr 4 0 0)), AV.undef, AV.undef, (AV.one (AC.vec 24)), (AV.one (AC.ptr 8 0 0)), (AV.one (AC.int IntKind.i64 x12)), (AV.one (AC.ptr 10 0 0)), AV.undef, AV.undef, AV.undef, AV.undef, AV.undef, AV.undef, AV.undef, AV.undef, AV.undef, AV.undef, AV.undef, AV.undef, AV.undef, AV.undef, AV.undef, AV.undef, AV.undef, AV.undef, AV.undef, AV.undef, AV.undef, AV.undef, AV.undef, AV.undef, AV.undef, AV.undef, AV.undef, AV.undef, AV.undef, AV.undef, AV.undef, AV.undef, AV.undef, AV.undef, AV.undef, AV.undef, AV.undef, AV.undef, AV.undef, AV.undef, AV.undef, AV.undef, AV.undef, AV.undef, AV.undef, (AV.one (AC.int IntKind.i64 x12)), (AV.one (AC.int IntKind.i64 (mul IntKind.i64 16 x12))), (AV.one (AC.int IntKind.i64 n)), (AV.one (AC.lit true)), AV.undef, AV.undef, (AV.agg [(Seg.ints IntKind.u8 176 (Go.Blk.ks k))]), (AV.agg [(Seg.ints IntKind.u8 16 s)]), (AV.one (AC.int IntKind.i64 x12)), (AV.agg [(Seg.ints IntKind.u8 16 (Go.Blk.upI s x12))]), (AV.agg [(Seg.ints IntKind.u8 16 (Go.Blk.enc (Go.Blk.ks k) (Go.Blk.upI s x12)))]), AV.undef, AV.undef, AV.undef, AV.undef, AV.undef, AV.undef, AV.undef, AV.undef, AV.undef, AV.undef, AV.undef, AV.undef, AV.undef, AV.undef, AV.undef, AV.undef, AV.undef, AV.undef, (AV.tup []), (AV.tup []), (AV.tup []), (AV.tup []), (AV.tup []), (AV.tup []), (AV.tup []), (AV.tup []), (AV.tup []), (AV.tup []), (AV.tup []), (AV.tup []), (AV.tup []), (AV.tup []), (AV.tup [])] [(3, Blk.own 22 [(Seg.ints IntKind.u8 16 k)]), (4, Blk.own 22 [(Seg.ints IntKind.u8 16 s)]), (8, Blk.own 28 [(Seg.ints IntKind.u8 176 (Go.Blk.ks k))]), (10, Blk.own 22 [(Seg.ints IntKind.u8 16 (Go.Blk.enc (Go.Blk.ks k) (Go.Blk.upI s x12)))]), (24, Blk.vec [(Col.ints IntKind.u8 (Go.Blk.strmI (Go.Blk.ks k) s n))])]

def lcounts.k7 (R : AV → Mem → Prop) (n : Int) (k : List Int) (s : List Int) (x12 : Int) (fuel : Nat) : Prop := runM Try.prog gamB9 [⟨777777, [], true, false⟩] (resh Try.prog [⟨777777, [], true, false⟩] Try.f7.results.toList R) (run Try.prog gamB9 [⟨777777, [], true, false⟩] (resh Try.prog [⟨777777, [], true, false⟩] Try.f7.results.toList R) fuel) 3993 [.code (cAt (bodyOf Try.f7) [1, 0, 1, 0, 1])] [AV.undef, AV.undef, (AV.one (AC.int IntKind.i64 n)), (AV.one (AC.ptr 3 0 0)), (AV.one (AC.ptr 4 0 0)), AV.undef, (AV.one (AC.bool (seq2 (bytesOf (Go.Blk.strmI (Go.Blk.ks k) (Go.Blk.upI s 1) (sub IntKind.i64 n 16))) (bytesOf (lsub (Go.Blk.strmI (Go.Blk.ks k) s n) 16 (nsub (llen (Go.Blk.strmI (Go.Blk.ks k) s n)) 16)))))), (AV.one (AC.vec 24)), (AV.one (AC.ptr 8 0 0)), (AV.one (AC.int IntKind.i64 x12)), AV.undef, AV.undef, AV.undef, AV.undef, AV.undef, AV.undef, AV.undef, AV.undef, AV.undef, AV.undef, AV.undef, AV.undef, AV.undef, AV.undef, AV.undef, AV.undef, AV.undef, AV.undef, AV.undef, AV.undef, AV.undef, AV.undef, AV.undef, AV.undef, AV.undef, AV.undef, AV.undef, AV.undef, AV.undef, AV.undef, AV.undef, AV.undef, AV.undef, AV.undef, AV.undef, AV.undef, AV.undef, AV.undef, AV.undef, AV.undef, AV.undef, AV.undef, AV.undef, AV.undef, AV.undef, AV.undef, (AV.one (AC.int IntKind.i64 x12)), (AV.one (AC.int IntKind.i64 (mul IntKind.i64 16 x12))), (AV.one (AC.int IntKind.i64 n)), (AV.one (AC.lit false)), AV.undef, AV.undef, AV.undef, AV.undef, AV.undef, AV.undef, AV.undef, AV.undef, AV.undef, AV.undef, AV.undef, AV.undef, AV.undef, AV.undef, AV.undef, AV.undef, AV.undef, AV.undef, AV.undef, AV.undef, AV.undef, AV.undef, AV.undef, AV.undef, AV.undef, (AV.one (AC.int IntKind.i64 n)), (AV.one (AC.bool (ilt n 16))), (AV.one (AC.lit false)), (AV.agg [(Seg.ints IntKind.u8 16 k)]), (AV.agg [(Seg.ints IntKind.u8 16 s)]), (AV.agg [(Seg.ints IntKind.u8 16 (Go.Blk.upI s 1))]), (AV.one (AC.int IntKind.i64 n)), (AV.one (AC.int IntKind.i64 (sub IntKind.i64 n 16))), (AV.one (AC.vec 93)), (AV.one (AC.str (bytesOf (Go.Blk.strmI (Go.Blk.ks k) (Go.Blk.upI s 1) (sub IntKind.i64 n 16))))), (AV.one (AC.vec 24)), (AV.one (AC.vsl 24 1 16 (nsub (llen (Go.Blk.strmI (Go.Blk.ks k) s n)) 16))), (AV.one (AC.str (bytesOf (lsub (Go.Blk.strmI (Go.Blk.ks k) s n) 16 (nsub (llen (Go.Blk.strmI (Go.Blk.ks k) s n)) 16))))), (AV.one (AC.bool (seq2 (bytesOf (Go.Blk.strmI (Go.Blk.ks k) (Go.Blk.upI s 1) (sub IntKind.i64 n 16))) (bytesOf (lsub (Go.Blk.strmI (Go.Blk.ks k) s n) 16 (nsub (llen (Go.Blk.strmI (Go.Blk.ks k) s n)) 16)))))), (AV.one (AC.bool (seq2 (bytesOf (Go.Blk.strmI (Go.Blk.ks k) (Go.Blk.upI s 1) (sub IntKind.i64 n 16))) (bytesOf (lsub (Go.Blk.strmI (Go.Blk.ks k) s n) 16 (nsub (llen (Go.Blk.strmI (Go.Blk.ks k) s n)) 16))))))] [(3, Blk.own 22 [(Seg.ints IntKind.u8 16 k)]), (4, Blk.own 22 [(Seg.ints IntKind.u8 16 s)]), (8, Blk.own 28 [(Seg.ints IntKind.u8 176 (Go.Blk.ks k))]), (24, Blk.vec [(Col.ints IntKind.u8 (Go.Blk.strmI (Go.Blk.ks k) s n))]), (93, Blk.vec [(Col.ints IntKind.u8 (Go.Blk.strmI (Go.Blk.ks k) (Go.Blk.upI s 1) (sub IntKind.i64 n 16)))])]

def lcounts.l1 (R : AV → Mem → Prop) (n : Int) (k : List Int) (s : List Int) (fuel : Nat) (x12 : Int) : Prop := run Try.prog gamB9 [⟨777777, [], true, false⟩] (resh Try.prog [⟨777777, [], true, false⟩] Try.f7.results.toList R) fuel [.code (cAt (bodyOf Try.f7) [1, 1, 1, 1, 1, 1, 0, 1, 0, 0]), .inLoop (cAt (bodyOf Try.f7) [1, 1, 1, 1, 1, 1, 0, 1, 0, 0]), .inBlock 0, .code (cAt (bodyOf Try.f7) [1, 1, 1, 1, 1, 1, 1])] [AV.undef, AV.undef, (AV.one (AC.int IntKind.i64 n)), (AV.one (AC.ptr 3 0 0)), (AV.one (AC.ptr 4 0 0)), AV.undef, AV.undef, (AV.one (AC.vec 24)), (AV.one (AC.ptr 8 0 0)), (AV.one (AC.int IntKind.i64 x12)), AV.undef, AV.undef, AV.undef, AV.undef, AV.undef, AV.undef, AV.undef, AV.undef, AV.undef, AV.undef, AV.undef, AV.undef, AV.undef, AV.undef, AV.undef, AV.undef, AV.undef, AV.undef, AV.undef, AV.undef, AV.undef, AV.undef, AV.undef, AV.undef, AV.undef, AV.undef, AV.undef, AV.undef, AV.undef, AV.undef, AV.undef, AV.undef, AV.undef, AV.undef, AV.undef, AV.undef, AV.undef, AV.undef, AV.undef, AV.undef, AV.undef, AV.undef, AV.undef, AV.undef, AV.undef, AV.undef, AV.undef, AV.undef, AV.undef, AV.undef, AV.undef, AV.undef, AV.undef, AV.undef, AV.undef, AV.undef, AV.undef, AV.undef, AV.undef, AV.undef, AV.undef, AV.undef, AV.undef, AV.undef, AV.undef, AV.undef, AV.undef, AV.undef, AV.undef, AV.undef, AV.undef, AV.undef, AV.undef, AV.undef, AV.undef, (AV.tup []), (AV.tup []), (AV.tup []), (AV.tup []), (AV.tup []), (AV.tup []), (AV.tup []), (AV.tup []), (AV.tup []), (AV.tup []), (AV.tup []), (AV.tup []), (AV.tup []), (AV.tup []), (AV.tup [])] [(3, Blk.own 22 [(Seg.ints IntKind.u8 16 k)]), (4, Blk.own 22 [(Seg.ints IntKind.u8 16 s)]), (8, Blk.own 28 [(Seg.ints IntKind.u8 176 (Go.Blk.ks k))]), (24, Blk.vec [(Col.ints IntKind.u8 (Go.Blk.strmI (Go.Blk.ks k) s n))])]

def lcounts.k8 (R : AV → Mem → Prop) (n : Int) (k : List Int) (s : List Int) (fuel : Nat) : Prop := runM Try.prog gamB9 [⟨777777, [], true, false⟩] (resh Try.prog [⟨777777, [], true, false⟩] Try.f7.results.toList R) (run Try.prog gamB9 [⟨777777, [], true, false⟩] (resh Try.prog [⟨777777, [], true, false⟩] Try.f7.results.toList R) fuel) 3983 [.code (cAt (bodyOf Try.f7) [1, 1, 1, 1, 0, 1]), .code (cAt (bodyOf Try.f7) [1, 1, 1, 1, 1])] [AV.undef, AV.undef, (AV.one (AC.int IntKind.i64 n)), (AV.one (AC.ptr 3 0 0)), (AV.one (AC.ptr 4 0 0)), AV.undef, AV.undef, (AV.one (AC.vec 24)), (AV.tup []), (AV.tup []), (AV.tup []), AV.undef, AV.undef, AV.undef, AV.undef, AV.undef, AV.undef, AV.undef, AV.undef, AV.undef, AV.undef, (AV.agg [(Seg.ints IntKind.u8 16 k)]), (AV.agg [(Seg.ints IntKind.u8 16 s)]), (AV.one (AC.int IntKind.i64 n)), (AV.one (AC.vec 24)), (AV.one (AC.vec 24)), (AV.one (AC.int IntKind.i64 (ofNat (llen (Go.Blk.strmI (Go.Blk.ks k) s n))))), (AV.one (AC.int IntKind.i64 n)), (AV.one (AC.bool (ine (ofNat (llen (Go.Blk.strmI (Go.Blk.ks k) s n))) n))), (AV.one (AC.lit false)), (AV.agg [(Seg.ints IntKind.u8 16 k)]), (AV.agg [(Seg.ints IntKind.u8 16 s)]), (AV.one (AC.int IntKind.i64 n)), (AV.one (AC.vec 33)), (AV.one (AC.vec 34)), (AV.one (AC.str (bytesOf (Go.Blk.mask (Go.Blk.ks k) s (lzeros (nat n)))))), (AV.one (AC.vec 24)), (AV.one (AC.str (bytesOf (Go.Blk.strmI (Go.Blk.ks k) s n)))), (AV.one (AC.bool (bnot (seq2 (bytesOf (Go.Blk.mask (Go.Blk.ks k) s (lzeros (nat n)))) (bytesOf (Go.Blk.strmI (Go.Blk.ks k) s n)))))), (AV.one (AC.bool (bnot (seq2 (bytesOf (Go.Blk.mask (Go.Blk.ks k) s (lzeros (nat n)))) (bytesOf (Go.Blk.strmI (Go.Blk.ks k) s n)))))), (AV.one (AC.lit false)), (AV.agg [(Seg.ints IntKind.u8 16 k)]), (AV.agg [(Seg.ints IntKind.u8 16 s)]), (AV.one (AC.int IntKind.i64 n)), (AV.one (AC.int IntKind.i64 (quo IntKind.i64 n 2))), (AV.one (AC.vec 45)), (AV.one (AC.str (bytesOf (Go.Blk.strmI (Go.Blk.ks k) s (quo IntKind.i64 n 2))))), (AV.one (AC.vec 24)), (AV.one (AC.int IntKind.i64 n)), (AV.one (AC.int IntKind.i64 (quo IntKind.i64 n 2))), (AV.one (AC.vsl 24 1 0 (nat (quo IntKind.i64 n 2)))), (AV.one (AC.str (bytesOf (lsub (Go.Blk.strmI (Go.Blk.ks k) s n) 0 (nat (quo IntKind.i64 n 2)))))), (AV.one (AC.bool (bnot (seq2 (bytesOf (Go.Blk.strmI (Go.Blk.ks k) s (quo IntKind.i64 n 2))) (bytesOf (lsub (Go.Blk.strmI (Go.Blk.ks k) s n) 0 (nat (quo IntKind.i64 n 2)))))))), (AV.one (AC.bool (bnot (seq2 (bytesOf (Go.Blk.strmI (Go.Blk.ks k) s (quo IntKind.i64 n 2))) (bytesOf (lsub (Go.Blk.strmI (Go.Blk.ks k) s n) 0 (nat (quo IntKind.i64 n 2)))))))), (AV.tup []), (AV.tup []), (AV.tup []), (AV.tup []), (AV.tup []), (AV.tup []), (AV.tup []), (AV.tup []), (AV.tup []), (AV.tup []), (AV.tup []), (AV.tup []), (AV.tup []), (AV.tup []), (AV.tup []), (AV.tup []), (AV.tup []), (AV.tup []), (AV.tup []), (AV.tup []), (AV.tup []), (AV.tup []), (AV.tup []), (AV.tup []), (AV.tup []), (AV.tup []), (AV.tup []), (AV.tup []), (AV.tup []), (AV.tup []), (AV.tup []), (AV.tup []), (AV.tup []), (AV.tup []), (AV.tup []), (AV.tup []), (AV.tup []), (AV.tup []), (AV.tup []), (AV.tup []), (AV.tup []), (AV.tup []), (AV.tup []), (AV.tup []), (AV.tup []), (AV.tup [])] [(3, Blk.own 22 [(Seg.ints IntKind.u8 16 k)]), (4, Blk.own 22 [(Seg.ints IntKind.u8 16 s)]), (24, Blk.vec [(Col.ints IntKind.u8 (Go.Blk.strmI (Go.Blk.ks k) s n))]), (33, Blk.vec [(Col.ints IntKind.u8 (lzeros (nat n)))]), (34, Blk.vec [(Col.ints IntKind.u8 (Go.Blk.mask (Go.Blk.ks k) s (lzeros (nat n))))]), (45, Blk.vec [(Col.ints IntKind.u8 (Go.Blk.strmI (Go.Blk.ks k) s (quo IntKind.i64 n 2)))])]

def lcounts.k9 (R : AV → Mem → Prop) (n : Int) (k : List Int) (s : List Int) (fuel : Nat) : Prop := runM Try.prog gamB9 [⟨777777, [], true, false⟩] (resh Try.prog [⟨777777, [], true, false⟩] Try.f7.results.toList R) (run Try.prog gamB9 [⟨777777, [], true, false⟩] (resh Try.prog [⟨777777, [], true, false⟩] Try.f7.results.toList R) fuel) 3989 [.code (cAt (bodyOf Try.f7) [1, 1, 0, 1, 0]), .code (cAt (bodyOf Try.f7) [1, 1, 1])] [AV.undef, AV.undef, (AV.one (AC.int IntKind.i64 n)), (AV.one (AC.ptr 3 0 0)), (AV.one (AC.ptr 4 0 0)), AV.undef, AV.undef, (AV.tup []), (AV.tup []), (AV.tup []), (AV.tup []), AV.undef, AV.undef, AV.undef, AV.undef, AV.undef, AV.undef, AV.undef, AV.undef, (AV.tup []), (AV.tup []), (AV.tup []), (AV.tup []), (AV.tup []), (AV.tup []), (AV.tup []), (AV.tup []), (AV.tup []), (AV.tup []), (AV.tup []), (AV.tup []), (AV.tup []), (AV.tup []), (AV.tup []), (AV.tup []), (AV.tup []), (AV.tup []), (AV.tup []), (AV.tup []), (AV.tup []), (AV.tup []), (AV.tup []), (AV.tup []), (AV.tup []), (AV.tup []), (AV.tup []), (AV.tup []), (AV.tup []), (AV.tup []), (AV.tup []), (AV.tup []), (AV.tup []), (AV.tup []), (AV.tup []), (AV.tup []), (AV.tup []), (AV.tup []), (AV.tup []), (AV.tup []), (AV.tup []), (AV.tup []), (AV.tup []), (AV.tup []), (AV.tup []), (AV.tup []), (AV.tup []), (AV.tup []), (AV.tup []), (AV.tup []), (AV.tup []), (AV.tup []), (AV.tup []), (AV.tup []), (AV.tup []), (AV.tup []), (AV.tup []), (AV.tup []), (AV.tup []), (AV.tup []), (AV.tup []), (AV.tup []), (AV.tup []), (AV.tup []), (AV.tup []), (AV.tup []), (AV.tup []), (AV.tup []), (AV.tup []), (AV.tup []), (AV.tup []), (AV.tup []), (AV.tup []), (AV.tup []), (AV.tup []), (AV.tup []), (AV.tup []), (AV.tup []), (AV.tup []), (AV.tup []), (AV.tup [])] [(3, Blk.own 22 [(Seg.ints IntKind.u8 16 k)]), (4, Blk.own 22 [(Seg.ints IntKind.u8 16 s)])]

theorem lcounts.k0_eq (R : AV → Mem → Prop) (n : Int) (x3 : Int) (k : List Int) (s : List Int) (fuel : Nat) : lcounts.k0 R n x3 k s fuel = ((let y4 : Nat := (nsub (nat (imin (band IntKind.i64 n 1023) (add IntKind.i64 (mul IntKind.i64 16 x3) 16))) (nat (mul IntKind.i64 16 x3))); (let y5 : ByteArray := (bytesOf (lsub (Go.Blk.strmI (Go.Blk.ks k) s (band IntKind.i64 n 1023)) (nat (mul IntKind.i64 16 x3)) (nsub (nat (imin (band IntKind.i64 n 1023) (add IntKind.i64 (mul IntKind.i64 16 x3) 16))) (nat (mul IntKind.i64 16 x3))))); (let y6 : ByteArray := (bytesOf (lsub (Go.Blk.enc (Go.Blk.ks k) (Go.Blk.upI s x3)) 0 (nat (imin 16 (sub IntKind.i64 (band IntKind.i64 n 1023) (mul IntKind.i64 16 x3)))))); (let y7 : Bool := (bnot (seq2 (bytesOf (lsub (Go.Blk.strmI (Go.Blk.ks k) s (band IntKind.i64 n 1023)) (nat (mul IntKind.i64 16 x3)) (nsub (nat (imin (band IntKind.i64 n 1023) (add IntKind.i64 (mul IntKind.i64 16 x3) 16))) (nat (mul IntKind.i64 16 x3))))) (bytesOf (lsub (Go.Blk.enc (Go.Blk.ks k) (Go.Blk.upI s x3)) 0 (nat (imin 16 (sub IntKind.i64 (band IntKind.i64 n 1023) (mul IntKind.i64 16 x3)))))))); (((y7 = true) → (R (AV.one (AC.lit false)) [(3, Blk.own 22 [(Seg.ints IntKind.u8 16 k)]), (4, Blk.own 22 [(Seg.ints IntKind.u8 16 s)]), (8, Blk.own 28 [(Seg.ints IntKind.u8 176 (Go.Blk.ks k))]), (10, Blk.own 22 [(Seg.ints IntKind.u8 16 (Go.Blk.enc (Go.Blk.ks k) (Go.Blk.upI s x3)))]), (24, Blk.vec [(Col.ints IntKind.u8 (Go.Blk.strmI (Go.Blk.ks k) s (band IntKind.i64 n 1023)))])])) ∧ ((y7 = false) → (lcounts.l0 R n k s fuel (add IntKind.i64 x3 1))))))))) := by kernel_rfl

theorem lcounts.k1_eq (R : AV → Mem → Prop) (n : Int) (x3 : Int) (k : List Int) (s : List Int) (fuel : Nat) : lcounts.k1 R n x3 k s fuel = (((((NonNeg (imin (band IntKind.i64 n 1023) (add IntKind.i64 (mul IntKind.i64 16 x3) 16))) ∧ (Fits (nat (imin (band IntKind.i64 n 1023) (add IntKind.i64 (mul IntKind.i64 16 x3) 16))) (llen (Go.Blk.strmI (Go.Blk.ks k) s (band IntKind.i64 n 1023))))) ∧ ((NonNeg (mul IntKind.i64 16 x3)) ∧ (Fits (nat (mul IntKind.i64 16 x3)) (nat (imin (band IntKind.i64 n 1023) (add IntKind.i64 (mul IntKind.i64 16 x3) 16)))))) ∧ (((NonNeg (imin 16 (sub IntKind.i64 (band IntKind.i64 n 1023) (mul IntKind.i64 16 x3)))) ∧ (Fits (nat (imin 16 (sub IntKind.i64 (band IntKind.i64 n 1023) (mul IntKind.i64 16 x3)))) 16)) ∧ (((Fits (nadd 0 (nat (imin 16 (sub IntKind.i64 (band IntKind.i64 n 1023) (mul IntKind.i64 16 x3))))) 16) ∧ (lcounts.k0 R n x3 k s fuel)) ∧ ((Fits (nadd 0 (nat (imin 16 (sub IntKind.i64 (band IntKind.i64 n 1023) (mul IntKind.i64 16 x3))))) 16) ∧ (lcounts.k0 R n x3 k s fuel)))))) := by kernel_rfl

theorem lcounts.k2_eq (R : AV → Mem → Prop) (n : Int) (k : List Int) (s : List Int) (x3 : Int) (fuel : Nat) : lcounts.k2 R n k s x3 fuel = ((let y8 : Bool := (seq2 (bytesOf (Go.Blk.strmI (Go.Blk.ks k) (Go.Blk.upI s 1) (sub IntKind.i64 (band IntKind.i64 n 1023) 16))) (bytesOf (lsub (Go.Blk.strmI (Go.Blk.ks k) s (band IntKind.i64 n 1023)) 16 (nsub (llen (Go.Blk.strmI (Go.Blk.ks k) s (band IntKind.i64 n 1023))) 16)))); (let y9 : ByteArray := (bytesOf (lsub (Go.Blk.strmI (Go.Blk.ks k) s (band IntKind.i64 n 1023)) 16 (nsub (llen (Go.Blk.strmI (Go.Blk.ks k) s (band IntKind.i64 n 1023))) 16))); (R (AV.one (AC.bool y8)) [(3, Blk.own 22 [(Seg.ints IntKind.u8 16 k)]), (4, Blk.own 22 [(Seg.ints IntKind.u8 16 s)]), (8, Blk.own 28 [(Seg.ints IntKind.u8 176 (Go.Blk.ks k))]), (24, Blk.vec [(Col.ints IntKind.u8 (Go.Blk.strmI (Go.Blk.ks k) s (band IntKind.i64 n 1023)))]), (93, Blk.vec [(Col.ints IntKind.u8 (Go.Blk.strmI (Go.Blk.ks k) (Go.Blk.upI s 1) (sub IntKind.i64 (band IntKind.i64 n 1023) 16)))])])))) := by kernel_rfl

theorem lcounts.l0_succ (R : AV → Mem → Prop) (n : Int) (k : List Int) (s : List Int) (fuel : Nat) (x3 : Int) : lcounts.l0 R n k s (fuel + 1) x3 = (((((ilt (mul IntKind.i64 16 x3) (band IntKind.i64 n 1023)) = true) → ((((Go.Blk.BL 16 s) ∧ (InB x3 65536)) ∧ ((((Go.Blk.BL 176 (Go.Blk.ks k)) ∧ (Go.Blk.BL 16 (Go.Blk.upI s x3))) ∧ (lcounts.k1 R n x3 k s fuel)) ∧ (((Go.Blk.BL 176 (Go.Blk.ks k)) ∧ (Go.Blk.BL 16 (Go.Blk.upI s x3))) ∧ (lcounts.k1 R n x3 k s fuel)))) ∧ (((Go.Blk.BL 16 s) ∧ (InB x3 65536)) ∧ (((Go.Blk.BL 176 (Go.Blk.ks k)) ∧ (Go.Blk.BL 16 (Go.Blk.upI s x3))) ∧ (lcounts.k1 R n x3 k s fuel))))) ∧ (((ilt (mul IntKind.i64 16 x3) (band IntKind.i64 n 1023)) = false) → ((((ilt (band IntKind.i64 n 1023) 16) = false) → (((NonNeg 16) ∧ (Fits 16 (llen (Go.Blk.strmI (Go.Blk.ks k) s (band IntKind.i64 n 1023))))) ∧ ((((Go.Blk.BL 16 s) ∧ (InB 1 65536)) ∧ ((((Go.Blk.BL 16 k) ∧ (Go.Blk.BL 16 (Go.Blk.upI s 1))) ∧ ((lcounts.k2 R n k s x3 fuel) ∧ (lcounts.k2 R n k s x3 fuel))) ∧ (((Go.Blk.BL 16 k) ∧ (Go.Blk.BL 16 (Go.Blk.upI s 1))) ∧ (lcounts.k2 R n k s x3 fuel)))) ∧ (((Go.Blk.BL 16 s) ∧ (InB 1 65536)) ∧ (((Go.Blk.BL 16 k) ∧ (Go.Blk.BL 16 (Go.Blk.upI s 1))) ∧ (lcounts.k2 R n k s x3 fuel)))))) ∧ (((ilt (band IntKind.i64 n 1023) 16) = true) → ((((R (AV.one (AC.lit true)) [(3, Blk.own 22 [(Seg.ints IntKind.u8 16 k)]), (4, Blk.own 22 [(Seg.ints IntKind.u8 16 s)]), (8, Blk.own 28 [(Seg.ints IntKind.u8 176 (Go.Blk.ks k))]), (24, Blk.vec [(Col.ints IntKind.u8 (Go.Blk.strmI (Go.Blk.ks k) s (band IntKind.i64 n 1023)))])]) ∧ (R (AV.one (AC.lit true)) [(3, Blk.own 22 [(Seg.ints IntKind.u8 16 k)]), (4, Blk.own 22 [(Seg.ints IntKind.u8 16 s)]), (8, Blk.own 28 [(Seg.ints IntKind.u8 176 (Go.Blk.ks k))]), (24, Blk.vec [(Col.ints IntKind.u8 (Go.Blk.strmI (Go.Blk.ks k) s (band IntKind.i64 n 1023)))])])) ∧ (R (AV.one (AC.lit true)) [(3, Blk.own 22 [(Seg.ints IntKind.u8 16 k)]), (4, Blk.own 22 [(Seg.ints IntKind.u8 16 s)]), (8, Blk.own 28 [(Seg.ints IntKind.u8 176 (Go.Blk.ks k))]), (24, Blk.vec [(Col.ints IntKind.u8 (Go.Blk.strmI (Go.Blk.ks k) s (band IntKind.i64 n 1023)))])])) ∧ (R (AV.one (AC.lit true)) [(3, Blk.own 22 [(Seg.ints IntKind.u8 16 k)]), (4, Blk.own 22 [(Seg.ints IntKind.u8 16 s)]), (8, Blk.own 28 [(Seg.ints IntKind.u8 176 (Go.Blk.ks k))]), (24, Blk.vec [(Col.ints IntKind.u8 (Go.Blk.strmI (Go.Blk.ks k) s (band IntKind.i64 n 1023)))])]))))))) := by kernel_rfl
theorem lcounts.l0_zero (R : AV → Mem → Prop) (n : Int) (k : List Int) (s : List Int) (x3 : Int) : lcounts.l0 R n k s 0 x3 = False := by kernel_rfl

theorem lcounts.k3_eq (R : AV → Mem → Prop) (n : Int) (k : List Int) (s : List Int) (fuel : Nat) : lcounts.k3 R n k s fuel = ((let y0 : Bool := (bnot (seq2 (bytesOf (Go.Blk.mask (Go.Blk.ks k) s (lzeros (nat (band IntKind.i64 n 1023))))) (bytesOf (Go.Blk.strmI (Go.Blk.ks k) s (band IntKind.i64 n 1023))))); (let y1 : ByteArray := (bytesOf (lsub (Go.Blk.strmI (Go.Blk.ks k) s (band IntKind.i64 n 1023)) 0 (nat (quo IntKind.i64 (band IntKind.i64 n 1023) 2)))); (let y2 : Bool := (bnot (seq2 (bytesOf (Go.Blk.strmI (Go.Blk.ks k) s (quo IntKind.i64 (band IntKind.i64 n 1023) 2))) (bytesOf (lsub (Go.Blk.strmI (Go.Blk.ks k) s (band IntKind.i64 n 1023)) 0 (nat (quo IntKind.i64 (band IntKind.i64 n 1023) 2)))))); (((y2 = true) → (R (AV.one (AC.lit false)) [(3, Blk.own 22 [(Seg.ints IntKind.u8 16 k)]), (4, Blk.own 22 [(Seg.ints IntKind.u8 16 s)]), (24, Blk.vec [(Col.ints IntKind.u8 (Go.Blk.strmI (Go.Blk.ks k) s (band IntKind.i64 n 1023)))])])) ∧ ((y2 = false) → ((Go.Blk.BL 16 k) ∧ (lcounts.l0 R n k s fuel 0)))))))) := by kernel_rfl

theorem lcounts.k4_eq (R : AV → Mem → Prop) (n : Int) (k : List Int) (s : List Int) (fuel : Nat) : lcounts.k4 R n k s fuel = ((let y10 : Bool := (bnot (seq2 (bytesOf (Go.Blk.mask (Go.Blk.ks k) s (lzeros (nat (band IntKind.i64 n 1023))))) (bytesOf (Go.Blk.strmI (Go.Blk.ks k) s (band IntKind.i64 n 1023))))); (R (AV.one (AC.lit false)) [(3, Blk.own 22 [(Seg.ints IntKind.u8 16 k)]), (4, Blk.own 22 [(Seg.ints IntKind.u8 16 s)]), (24, Blk.vec [(Col.ints IntKind.u8 (Go.Blk.strmI (Go.Blk.ks k) s (band IntKind.i64 n 1023)))])]))) := by kernel_rfl

theorem lcounts.k5_eq (R : AV → Mem → Prop) (n : Int) (x12 : Int) (k : List Int) (s : List Int) (fuel : Nat) : lcounts.k5 R n x12 k s fuel = ((let y13 : ByteArray := (bytesOf (lsub (Go.Blk.strmI (Go.Blk.ks k) s n) (nat (mul IntKind.i64 16 x12)) (nsub (nat (imin n (add IntKind.i64 (mul IntKind.i64 16 x12) 16))) (nat (mul IntKind.i64 16 x12))))); (let y14 : ByteArray := (bytesOf (lsub (Go.Blk.enc (Go.Blk.ks k) (Go.Blk.upI s x12)) 0 (nat (imin 16 (sub IntKind.i64 n (mul IntKind.i64 16 x12)))))); (let y15 : Bool := (bnot (seq2 (bytesOf (lsub (Go.Blk.strmI (Go.Blk.ks k) s n) (nat (mul IntKind.i64 16 x12)) (nsub (nat (imin n (add IntKind.i64 (mul IntKind.i64 16 x12) 16))) (nat (mul IntKind.i64 16 x12))))) (bytesOf (lsub (Go.Blk.enc (Go.Blk.ks k) (Go.Blk.upI s x12)) 0 (nat (imin 16 (sub IntKind.i64 n (mul IntKind.i64 16 x12)))))))); (((y15 = true) → (R (AV.one (AC.lit false)) [(3, Blk.own 22 [(Seg.ints IntKind.u8 16 k)]), (4, Blk.own 22 [(Seg.ints IntKind.u8 16 s)]), (8, Blk.own 28 [(Seg.ints IntKind.u8 176 (Go.Blk.ks k))]), (10, Blk.own 22 [(Seg.ints IntKind.u8 16 (Go.Blk.enc (Go.Blk.ks k) (Go.Blk.upI s x12)))]), (24, Blk.vec [(Col.ints IntKind.u8 (Go.Blk.strmI (Go.Blk.ks k) s n))])])) ∧ ((y15 = false) → (lcounts.l1 R n k s fuel (add IntKind.i64 x12 1)))))))) := by kernel_rfl

theorem lcounts.k6_eq (R : AV → Mem → Prop) (n : Int) (x12 : Int) (k : List Int) (s : List Int) (fuel : Nat) : lcounts.k6 R n x12 k s fuel = (((((NonNeg (imin n (add IntKind.i64 (mul IntKind.i64 16 x12) 16))) ∧ (Fits (nat (imin n (add IntKind.i64 (mul IntKind.i64 16 x12) 16))) (llen (Go.Blk.strmI (Go.Blk.ks k) s n)))) ∧ ((NonNeg (mul IntKind.i64 16 x12)) ∧ (Fits (nat (mul IntKind.i64 16 x12)) (nat (imin n (add IntKind.i64 (mul IntKind.i64 16 x12) 16)))))) ∧ (((NonNeg (imin 16 (sub IntKind.i64 n (mul IntKind.i64 16 x12)))) ∧ (Fits (nat (imin 16 (sub IntKind.i64 n (mul IntKind.i64 16 x12)))) 16)) ∧ (((Fits (nadd 0 (nat (imin 16 (sub IntKind.i64 n (mul IntKind.i64 16 x12))))) 16) ∧ (lcounts.k5 R n x12 k s fuel)) ∧ ((Fits (nadd 0 (nat (imin 16 (sub IntKind.i64 n (mul IntKind.i64 16 x12))))) 16) ∧ (lcounts.k5 R n x12 k s fuel)))))) := by kernel_rfl

theorem lcounts.k7_eq (R : AV → Mem → Prop) (n : Int) (k : List Int) (s : List Int) (x12 : Int) (fuel : Nat) : lcounts.k7 R n k s x12 fuel = ((let y16 : Bool := (seq2 (bytesOf (Go.Blk.strmI (Go.Blk.ks k) (Go.Blk.upI s 1) (sub IntKind.i64 n 16))) (bytesOf (lsub (Go.Blk.strmI (Go.Blk.ks k) s n) 16 (nsub (llen (Go.Blk.strmI (Go.Blk.ks k) s n)) 16)))); (R (AV.one (AC.bool y16)) [(3, Blk.own 22 [(Seg.ints IntKind.u8 16 k)]), (4, Blk.own 22 [(Seg.ints IntKind.u8 16 s)]), (8, Blk.own 28 [(Seg.ints IntKind.u8 176 (Go.Blk.ks k))]), (24, Blk.vec [(Col.ints IntKind.u8 (Go.Blk.strmI (Go.Blk.ks k) s n))]), (93, Blk.vec [(Col.ints IntKind.u8 (Go.Blk.strmI (Go.Blk.ks k) (Go.Blk.upI s 1) (sub IntKind.i64 n 16)))])]))) := by kernel_rfl

theorem lcounts.l1_succ (R : AV → Mem → Prop) (n : Int) (k : List Int) (s : List Int) (fuel : Nat) (x12 : Int) : lcounts.l1 R n k s (fuel + 1) x12 = (((((ilt (mul IntKind.i64 16 x12) n) = true) → ((((Go.Blk.BL 16 s) ∧ (InB x12 65536)) ∧ ((((Go.Blk.BL 176 (Go.Blk.ks k)) ∧ (Go.Blk.BL 16 (Go.Blk.upI s x12))) ∧ (lcounts.k6 R n x12 k s fuel)) ∧ (((Go.Blk.BL 176 (Go.Blk.ks k)) ∧ (Go.Blk.BL 16 (Go.Blk.upI s x12))) ∧ (lcounts.k6 R n x12 k s fuel)))) ∧ (((Go.Blk.BL 16 s) ∧ (InB x12 65536)) ∧ (((Go.Blk.BL 176 (Go.Blk.ks k)) ∧ (Go.Blk.BL 16 (Go.Blk.upI s x12))) ∧ (lcounts.k6 R n x12 k s fuel))))) ∧ (((ilt (mul IntKind.i64 16 x12) n) = false) → ((((ilt n 16) = false) → (((NonNeg 16) ∧ (Fits 16 (llen (Go.Blk.strmI (Go.Blk.ks k) s n)))) ∧ ((((Go.Blk.BL 16 s) ∧ (InB 1 65536)) ∧ ((((Go.Blk.BL 16 k) ∧ (Go.Blk.BL 16 (Go.Blk.upI s 1))) ∧ ((lcounts.k7 R n k s x12 fuel) ∧ (lcounts.k7 R n k s x12 fuel))) ∧ (((Go.Blk.BL 16 k) ∧ (Go.Blk.BL 16 (Go.Blk.upI s 1))) ∧ (lcounts.k7 R n k s x12 fuel)))) ∧ (((Go.Blk.BL 16 s) ∧ (InB 1 65536)) ∧ (((Go.Blk.BL 16 k) ∧ (Go.Blk.BL 16 (Go.Blk.upI s 1))) ∧ (lcounts.k7 R n k s x12 fuel)))))) ∧ (((ilt n 16) = true) → ((((R (AV.one (AC.lit true)) [(3, Blk.own 22 [(Seg.ints IntKind.u8 16 k)]), (4, Blk.own 22 [(Seg.ints IntKind.u8 16 s)]), (8, Blk.own 28 [(Seg.ints IntKind.u8 176 (Go.Blk.ks k))]), (24, Blk.vec [(Col.ints IntKind.u8 (Go.Blk.strmI (Go.Blk.ks k) s n))])]) ∧ (R (AV.one (AC.lit true)) [(3, Blk.own 22 [(Seg.ints IntKind.u8 16 k)]), (4, Blk.own 22 [(Seg.ints IntKind.u8 16 s)]), (8, Blk.own 28 [(Seg.ints IntKind.u8 176 (Go.Blk.ks k))]), (24, Blk.vec [(Col.ints IntKind.u8 (Go.Blk.strmI (Go.Blk.ks k) s n))])])) ∧ (R (AV.one (AC.lit true)) [(3, Blk.own 22 [(Seg.ints IntKind.u8 16 k)]), (4, Blk.own 22 [(Seg.ints IntKind.u8 16 s)]), (8, Blk.own 28 [(Seg.ints IntKind.u8 176 (Go.Blk.ks k))]), (24, Blk.vec [(Col.ints IntKind.u8 (Go.Blk.strmI (Go.Blk.ks k) s n))])])) ∧ (R (AV.one (AC.lit true)) [(3, Blk.own 22 [(Seg.ints IntKind.u8 16 k)]), (4, Blk.own 22 [(Seg.ints IntKind.u8 16 s)]), (8, Blk.own 28 [(Seg.ints IntKind.u8 176 (Go.Blk.ks k))]), (24, Blk.vec [(Col.ints IntKind.u8 (Go.Blk.strmI (Go.Blk.ks k) s n))])]))))))) := by kernel_rfl
theorem lcounts.l1_zero (R : AV → Mem → Prop) (n : Int) (k : List Int) (s : List Int) (x12 : Int) : lcounts.l1 R n k s 0 x12 = False := by kernel_rfl

theorem lcounts.k8_eq (R : AV → Mem → Prop) (n : Int) (k : List Int) (s : List Int) (fuel : Nat) : lcounts.k8 R n k s fuel = ((let y11 : Bool := (bnot (seq2 (bytesOf (Go.Blk.strmI (Go.Blk.ks k) s (quo IntKind.i64 n 2))) (bytesOf (lsub (Go.Blk.strmI (Go.Blk.ks k) s n) 0 (nat (quo IntKind.i64 n 2)))))); (((y11 = true) → (R (AV.one (AC.lit false)) [(3, Blk.own 22 [(Seg.ints IntKind.u8 16 k)]), (4, Blk.own 22 [(Seg.ints IntKind.u8 16 s)]), (24, Blk.vec [(Col.ints IntKind.u8 (Go.Blk.strmI (Go.Blk.ks k) s n))])])) ∧ ((y11 = false) → ((Go.Blk.BL 16 k) ∧ (lcounts.l1 R n k s fuel 0)))))) := by kernel_rfl

theorem lcounts.k9_eq (R : AV → Mem → Prop) (n : Int) (k : List Int) (s : List Int) (fuel : Nat) : lcounts.k9 R n k s fuel = ((((Go.Blk.BL 16 k) ∧ (Go.Blk.BL 16 s)) ∧ ((((ine (ofNat (llen (Go.Blk.strmI (Go.Blk.ks k) s (band IntKind.i64 n 1023)))) (band IntKind.i64 n 1023)) = false) → (((Mk (band IntKind.i64 n 1023) (band IntKind.i64 n 1023) 1) ∧ (((((Go.Blk.BL 16 k) ∧ (Go.Blk.BL 16 s)) ∧ ((Short (lzeros (nat (band IntKind.i64 n 1023)))) ∧ (Bs (lzeros (nat (band IntKind.i64 n 1023)))))) ∧ (((((bnot (seq2 (bytesOf (Go.Blk.mask (Go.Blk.ks k) s (lzeros (nat (band IntKind.i64 n 1023))))) (bytesOf (Go.Blk.strmI (Go.Blk.ks k) s (band IntKind.i64 n 1023))))) = false) → ((NeZ 2) ∧ ((NeZ 2) ∧ (((NonNeg (quo IntKind.i64 (band IntKind.i64 n 1023) 2)) ∧ (Fits (nat (quo IntKind.i64 (band IntKind.i64 n 1023) 2)) (llen (Go.Blk.strmI (Go.Blk.ks k) s (band IntKind.i64 n 1023))))) ∧ ((((Go.Blk.BL 16 k) ∧ (Go.Blk.BL 16 s)) ∧ ((lcounts.k3 R n k s fuel) ∧ (lcounts.k3 R n k s fuel))) ∧ (((Go.Blk.BL 16 k) ∧ (Go.Blk.BL 16 s)) ∧ (lcounts.k3 R n k s fuel))))))) ∧ (((bnot (seq2 (bytesOf (Go.Blk.mask (Go.Blk.ks k) s (lzeros (nat (band IntKind.i64 n 1023))))) (bytesOf (Go.Blk.strmI (Go.Blk.ks k) s (band IntKind.i64 n 1023))))) = true) → (((lcounts.k4 R n k s fuel) ∧ (lcounts.k4 R n k s fuel)) ∧ (lcounts.k4 R n k s fuel)))) ∧ ((((bnot (seq2 (bytesOf (Go.Blk.mask (Go.Blk.ks k) s (lzeros (nat (band IntKind.i64 n 1023))))) (bytesOf (Go.Blk.strmI (Go.Blk.ks k) s (band IntKind.i64 n 1023))))) = false) → ((NeZ 2) ∧ ((NeZ 2) ∧ (((NonNeg (quo IntKind.i64 (band IntKind.i64 n 1023) 2)) ∧ (Fits (nat (quo IntKind.i64 (band IntKind.i64 n 1023) 2)) (llen (Go.Blk.strmI (Go.Blk.ks k) s (band IntKind.i64 n 1023))))) ∧ ((((Go.Blk.BL 16 k) ∧ (Go.Blk.BL 16 s)) ∧ ((lcounts.k3 R n k s fuel) ∧ (lcounts.k3 R n k s fuel))) ∧ (((Go.Blk.BL 16 k) ∧ (Go.Blk.BL 16 s)) ∧ (lcounts.k3 R n k s fuel))))))) ∧ (((bnot (seq2 (bytesOf (Go.Blk.mask (Go.Blk.ks k) s (lzeros (nat (band IntKind.i64 n 1023))))) (bytesOf (Go.Blk.strmI (Go.Blk.ks k) s (band IntKind.i64 n 1023))))) = true) → (((lcounts.k4 R n k s fuel) ∧ (lcounts.k4 R n k s fuel)) ∧ (lcounts.k4 R n k s fuel)))))) ∧ ((((Go.Blk.BL 16 k) ∧ (Go.Blk.BL 16 s)) ∧ ((Short (lzeros (nat (band IntKind.i64 n 1023)))) ∧ (Bs (lzeros (nat (band IntKind.i64 n 1023)))))) ∧ ((((bnot (seq2 (bytesOf (Go.Blk.mask (Go.Blk.ks k) s (lzeros (nat (band IntKind.i64 n 1023))))) (bytesOf (Go.Blk.strmI (Go.Blk.ks k) s (band IntKind.i64 n 1023))))) = false) → ((NeZ 2) ∧ ((NeZ 2) ∧ (((NonNeg (quo IntKind.i64 (band IntKind.i64 n 1023) 2)) ∧ (Fits (nat (quo IntKind.i64 (band IntKind.i64 n 1023) 2)) (llen (Go.Blk.strmI (Go.Blk.ks k) s (band IntKind.i64 n 1023))))) ∧ ((((Go.Blk.BL 16 k) ∧ (Go.Blk.BL 16 s)) ∧ ((lcounts.k3 R n k s fuel) ∧ (lcounts.k3 R n k s fuel))) ∧ (((Go.Blk.BL 16 k) ∧ (Go.Blk.BL 16 s)) ∧ (lcounts.k3 R n k s fuel))))))) ∧ (((bnot (seq2 (bytesOf (Go.Blk.mask (Go.Blk.ks k) s (lzeros (nat (band IntKind.i64 n 1023))))) (bytesOf (Go.Blk.strmI (Go.Blk.ks k) s (band IntKind.i64 n 1023))))) = true) → (((lcounts.k4 R n k s fuel) ∧ (lcounts.k4 R n k s fuel)) ∧ (lcounts.k4 R n k s fuel))))))) ∧ ((Mk (band IntKind.i64 n 1023) (band IntKind.i64 n 1023) 1) ∧ ((((Go.Blk.BL 16 k) ∧ (Go.Blk.BL 16 s)) ∧ ((Short (lzeros (nat (band IntKind.i64 n 1023)))) ∧ (Bs (lzeros (nat (band IntKind.i64 n 1023)))))) ∧ ((((bnot (seq2 (bytesOf (Go.Blk.mask (Go.Blk.ks k) s (lzeros (nat (band IntKind.i64 n 1023))))) (bytesOf (Go.Blk.strmI (Go.Blk.ks k) s (band IntKind.i64 n 1023))))) = false) → ((NeZ 2) ∧ ((NeZ 2) ∧ (((NonNeg (quo IntKind.i64 (band IntKind.i64 n 1023) 2)) ∧ (Fits (nat (quo IntKind.i64 (band IntKind.i64 n 1023) 2)) (llen (Go.Blk.strmI (Go.Blk.ks k) s (band IntKind.i64 n 1023))))) ∧ ((((Go.Blk.BL 16 k) ∧ (Go.Blk.BL 16 s)) ∧ ((lcounts.k3 R n k s fuel) ∧ (lcounts.k3 R n k s fuel))) ∧ (((Go.Blk.BL 16 k) ∧ (Go.Blk.BL 16 s)) ∧ (lcounts.k3 R n k s fuel))))))) ∧ (((bnot (seq2 (bytesOf (Go.Blk.mask (Go.Blk.ks k) s (lzeros (nat (band IntKind.i64 n 1023))))) (bytesOf (Go.Blk.strmI (Go.Blk.ks k) s (band IntKind.i64 n 1023))))) = true) → (((lcounts.k4 R n k s fuel) ∧ (lcounts.k4 R n k s fuel)) ∧ (lcounts.k4 R n k s fuel)))))))) ∧ (((ine (ofNat (llen (Go.Blk.strmI (Go.Blk.ks k) s (band IntKind.i64 n 1023)))) (band IntKind.i64 n 1023)) = true) → ((((((R (AV.one (AC.lit false)) [(3, Blk.own 22 [(Seg.ints IntKind.u8 16 k)]), (4, Blk.own 22 [(Seg.ints IntKind.u8 16 s)]), (24, Blk.vec [(Col.ints IntKind.u8 (Go.Blk.strmI (Go.Blk.ks k) s (band IntKind.i64 n 1023)))])]) ∧ (R (AV.one (AC.lit false)) [(3, Blk.own 22 [(Seg.ints IntKind.u8 16 k)]), (4, Blk.own 22 [(Seg.ints IntKind.u8 16 s)]), (24, Blk.vec [(Col.ints IntKind.u8 (Go.Blk.strmI (Go.Blk.ks k) s (band IntKind.i64 n 1023)))])])) ∧ (R (AV.one (AC.lit false)) [(3, Blk.own 22 [(Seg.ints IntKind.u8 16 k)]), (4, Blk.own 22 [(Seg.ints IntKind.u8 16 s)]), (24, Blk.vec [(Col.ints IntKind.u8 (Go.Blk.strmI (Go.Blk.ks k) s (band IntKind.i64 n 1023)))])])) ∧ (((R (AV.one (AC.lit false)) [(3, Blk.own 22 [(Seg.ints IntKind.u8 16 k)]), (4, Blk.own 22 [(Seg.ints IntKind.u8 16 s)]), (24, Blk.vec [(Col.ints IntKind.u8 (Go.Blk.strmI (Go.Blk.ks k) s (band IntKind.i64 n 1023)))])]) ∧ (R (AV.one (AC.lit false)) [(3, Blk.own 22 [(Seg.ints IntKind.u8 16 k)]), (4, Blk.own 22 [(Seg.ints IntKind.u8 16 s)]), (24, Blk.vec [(Col.ints IntKind.u8 (Go.Blk.strmI (Go.Blk.ks k) s (band IntKind.i64 n 1023)))])])) ∧ (R (AV.one (AC.lit false)) [(3, Blk.own 22 [(Seg.ints IntKind.u8 16 k)]), (4, Blk.own 22 [(Seg.ints IntKind.u8 16 s)]), (24, Blk.vec [(Col.ints IntKind.u8 (Go.Blk.strmI (Go.Blk.ks k) s (band IntKind.i64 n 1023)))])]))) ∧ (((R (AV.one (AC.lit false)) [(3, Blk.own 22 [(Seg.ints IntKind.u8 16 k)]), (4, Blk.own 22 [(Seg.ints IntKind.u8 16 s)]), (24, Blk.vec [(Col.ints IntKind.u8 (Go.Blk.strmI (Go.Blk.ks k) s (band IntKind.i64 n 1023)))])]) ∧ (R (AV.one (AC.lit false)) [(3, Blk.own 22 [(Seg.ints IntKind.u8 16 k)]), (4, Blk.own 22 [(Seg.ints IntKind.u8 16 s)]), (24, Blk.vec [(Col.ints IntKind.u8 (Go.Blk.strmI (Go.Blk.ks k) s (band IntKind.i64 n 1023)))])])) ∧ (R (AV.one (AC.lit false)) [(3, Blk.own 22 [(Seg.ints IntKind.u8 16 k)]), (4, Blk.own 22 [(Seg.ints IntKind.u8 16 s)]), (24, Blk.vec [(Col.ints IntKind.u8 (Go.Blk.strmI (Go.Blk.ks k) s (band IntKind.i64 n 1023)))])]))) ∧ (((R (AV.one (AC.lit false)) [(3, Blk.own 22 [(Seg.ints IntKind.u8 16 k)]), (4, Blk.own 22 [(Seg.ints IntKind.u8 16 s)]), (24, Blk.vec [(Col.ints IntKind.u8 (Go.Blk.strmI (Go.Blk.ks k) s (band IntKind.i64 n 1023)))])]) ∧ (R (AV.one (AC.lit false)) [(3, Blk.own 22 [(Seg.ints IntKind.u8 16 k)]), (4, Blk.own 22 [(Seg.ints IntKind.u8 16 s)]), (24, Blk.vec [(Col.ints IntKind.u8 (Go.Blk.strmI (Go.Blk.ks k) s (band IntKind.i64 n 1023)))])])) ∧ (R (AV.one (AC.lit false)) [(3, Blk.own 22 [(Seg.ints IntKind.u8 16 k)]), (4, Blk.own 22 [(Seg.ints IntKind.u8 16 s)]), (24, Blk.vec [(Col.ints IntKind.u8 (Go.Blk.strmI (Go.Blk.ks k) s (band IntKind.i64 n 1023)))])]))))))) := by kernel_rfl

theorem lcounts_vc (R : AV → Mem → Prop) (fuel : Nat) (k : List Int) (s : List Int) (n : Int) : callsx Try.prog gamB9 [⟨777777, [], true, false⟩] Try.f7 (fuel + 1) [.agg [.ints .u8 16 k], .agg [.ints .u8 16 s], .one (.int .i64 n)] [] R = (((((ilt n 0) = false) → ((((igt n 4096) = true) → (lcounts.k9 R n k s fuel)) ∧ (((igt n 4096) = false) → (((Go.Blk.BL 16 k) ∧ (Go.Blk.BL 16 s)) ∧ ((((ine (ofNat (llen (Go.Blk.strmI (Go.Blk.ks k) s n))) n) = false) → (((Mk n n 1) ∧ (((((Go.Blk.BL 16 k) ∧ (Go.Blk.BL 16 s)) ∧ ((Short (lzeros (nat n))) ∧ (Bs (lzeros (nat n))))) ∧ (((((bnot (seq2 (bytesOf (Go.Blk.mask (Go.Blk.ks k) s (lzeros (nat n)))) (bytesOf (Go.Blk.strmI (Go.Blk.ks k) s n)))) = false) → ((NeZ 2) ∧ ((NeZ 2) ∧ (((NonNeg (quo IntKind.i64 n 2)) ∧ (Fits (nat (quo IntKind.i64 n 2)) (llen (Go.Blk.strmI (Go.Blk.ks k) s n)))) ∧ ((((Go.Blk.BL 16 k) ∧ (Go.Blk.BL 16 s)) ∧ ((lcounts.k8 R n k s fuel) ∧ (lcounts.k8 R n k s fuel))) ∧ (((Go.Blk.BL 16 k) ∧ (Go.Blk.BL 16 s)) ∧ (lcounts.k8 R n k s fuel))))))) ∧ (((bnot (seq2 (bytesOf (Go.Blk.mask (Go.Blk.ks k) s (lzeros (nat n)))) (bytesOf (Go.Blk.strmI (Go.Blk.ks k) s n)))) = true) → (((R (AV.one (AC.lit false)) [(3, Blk.own 22 [(Seg.ints IntKind.u8 16 k)]), (4, Blk.own 22 [(Seg.ints IntKind.u8 16 s)]), (24, Blk.vec [(Col.ints IntKind.u8 (Go.Blk.strmI (Go.Blk.ks k) s n))])]) ∧ (R (AV.one (AC.lit false)) [(3, Blk.own 22 [(Seg.ints IntKind.u8 16 k)]), (4, Blk.own 22 [(Seg.ints IntKind.u8 16 s)]), (24, Blk.vec [(Col.ints IntKind.u8 (Go.Blk.strmI (Go.Blk.ks k) s n))])])) ∧ (R (AV.one (AC.lit false)) [(3, Blk.own 22 [(Seg.ints IntKind.u8 16 k)]), (4, Blk.own 22 [(Seg.ints IntKind.u8 16 s)]), (24, Blk.vec [(Col.ints IntKind.u8 (Go.Blk.strmI (Go.Blk.ks k) s n))])])))) ∧ ((((bnot (seq2 (bytesOf (Go.Blk.mask (Go.Blk.ks k) s (lzeros (nat n)))) (bytesOf (Go.Blk.strmI (Go.Blk.ks k) s n)))) = false) → ((NeZ 2) ∧ ((NeZ 2) ∧ (((NonNeg (quo IntKind.i64 n 2)) ∧ (Fits (nat (quo IntKind.i64 n 2)) (llen (Go.Blk.strmI (Go.Blk.ks k) s n)))) ∧ ((((Go.Blk.BL 16 k) ∧ (Go.Blk.BL 16 s)) ∧ ((lcounts.k8 R n k s fuel) ∧ (lcounts.k8 R n k s fuel))) ∧ (((Go.Blk.BL 16 k) ∧ (Go.Blk.BL 16 s)) ∧ (lcounts.k8 R n k s fuel))))))) ∧ (((bnot (seq2 (bytesOf (Go.Blk.mask (Go.Blk.ks k) s (lzeros (nat n)))) (bytesOf (Go.Blk.strmI (Go.Blk.ks k) s n)))) = true) → (((R (AV.one (AC.lit false)) [(3, Blk.own 22 [(Seg.ints IntKind.u8 16 k)]), (4, Blk.own 22 [(Seg.ints IntKind.u8 16 s)]), (24, Blk.vec [(Col.ints IntKind.u8 (Go.Blk.strmI (Go.Blk.ks k) s n))])]) ∧ (R (AV.one (AC.lit false)) [(3, Blk.own 22 [(Seg.ints IntKind.u8 16 k)]), (4, Blk.own 22 [(Seg.ints IntKind.u8 16 s)]), (24, Blk.vec [(Col.ints IntKind.u8 (Go.Blk.strmI (Go.Blk.ks k) s n))])])) ∧ (R (AV.one (AC.lit false)) [(3, Blk.own 22 [(Seg.ints IntKind.u8 16 k)]), (4, Blk.own 22 [(Seg.ints IntKind.u8 16 s)]), (24, Blk.vec [(Col.ints IntKind.u8 (Go.Blk.strmI (Go.Blk.ks k) s n))])])))))) ∧ ((((Go.Blk.BL 16 k) ∧ (Go.Blk.BL 16 s)) ∧ ((Short (lzeros (nat n))) ∧ (Bs (lzeros (nat n))))) ∧ ((((bnot (seq2 (bytesOf (Go.Blk.mask (Go.Blk.ks k) s (lzeros (nat n)))) (bytesOf (Go.Blk.strmI (Go.Blk.ks k) s n)))) = false) → ((NeZ 2) ∧ ((NeZ 2) ∧ (((NonNeg (quo IntKind.i64 n 2)) ∧ (Fits (nat (quo IntKind.i64 n 2)) (llen (Go.Blk.strmI (Go.Blk.ks k) s n)))) ∧ ((((Go.Blk.BL 16 k) ∧ (Go.Blk.BL 16 s)) ∧ ((lcounts.k8 R n k s fuel) ∧ (lcounts.k8 R n k s fuel))) ∧ (((Go.Blk.BL 16 k) ∧ (Go.Blk.BL 16 s)) ∧ (lcounts.k8 R n k s fuel))))))) ∧ (((bnot (seq2 (bytesOf (Go.Blk.mask (Go.Blk.ks k) s (lzeros (nat n)))) (bytesOf (Go.Blk.strmI (Go.Blk.ks k) s n)))) = true) → (((R (AV.one (AC.lit false)) [(3, Blk.own 22 [(Seg.ints IntKind.u8 16 k)]), (4, Blk.own 22 [(Seg.ints IntKind.u8 16 s)]), (24, Blk.vec [(Col.ints IntKind.u8 (Go.Blk.strmI (Go.Blk.ks k) s n))])]) ∧ (R (AV.one (AC.lit false)) [(3, Blk.own 22 [(Seg.ints IntKind.u8 16 k)]), (4, Blk.own 22 [(Seg.ints IntKind.u8 16 s)]), (24, Blk.vec [(Col.ints IntKind.u8 (Go.Blk.strmI (Go.Blk.ks k) s n))])])) ∧ (R (AV.one (AC.lit false)) [(3, Blk.own 22 [(Seg.ints IntKind.u8 16 k)]), (4, Blk.own 22 [(Seg.ints IntKind.u8 16 s)]), (24, Blk.vec [(Col.ints IntKind.u8 (Go.Blk.strmI (Go.Blk.ks k) s n))])]))))))) ∧ ((Mk n n 1) ∧ ((((Go.Blk.BL 16 k) ∧ (Go.Blk.BL 16 s)) ∧ ((Short (lzeros (nat n))) ∧ (Bs (lzeros (nat n))))) ∧ ((((bnot (seq2 (bytesOf (Go.Blk.mask (Go.Blk.ks k) s (lzeros (nat n)))) (bytesOf (Go.Blk.strmI (Go.Blk.ks k) s n)))) = false) → ((NeZ 2) ∧ ((NeZ 2) ∧ (((NonNeg (quo IntKind.i64 n 2)) ∧ (Fits (nat (quo IntKind.i64 n 2)) (llen (Go.Blk.strmI (Go.Blk.ks k) s n)))) ∧ ((((Go.Blk.BL 16 k) ∧ (Go.Blk.BL 16 s)) ∧ ((lcounts.k8 R n k s fuel) ∧ (lcounts.k8 R n k s fuel))) ∧ (((Go.Blk.BL 16 k) ∧ (Go.Blk.BL 16 s)) ∧ (lcounts.k8 R n k s fuel))))))) ∧ (((bnot (seq2 (bytesOf (Go.Blk.mask (Go.Blk.ks k) s (lzeros (nat n)))) (bytesOf (Go.Blk.strmI (Go.Blk.ks k) s n)))) = true) → (((R (AV.one (AC.lit false)) [(3, Blk.own 22 [(Seg.ints IntKind.u8 16 k)]), (4, Blk.own 22 [(Seg.ints IntKind.u8 16 s)]), (24, Blk.vec [(Col.ints IntKind.u8 (Go.Blk.strmI (Go.Blk.ks k) s n))])]) ∧ (R (AV.one (AC.lit false)) [(3, Blk.own 22 [(Seg.ints IntKind.u8 16 k)]), (4, Blk.own 22 [(Seg.ints IntKind.u8 16 s)]), (24, Blk.vec [(Col.ints IntKind.u8 (Go.Blk.strmI (Go.Blk.ks k) s n))])])) ∧ (R (AV.one (AC.lit false)) [(3, Blk.own 22 [(Seg.ints IntKind.u8 16 k)]), (4, Blk.own 22 [(Seg.ints IntKind.u8 16 s)]), (24, Blk.vec [(Col.ints IntKind.u8 (Go.Blk.strmI (Go.Blk.ks k) s n))])])))))))) ∧ (((ine (ofNat (llen (Go.Blk.strmI (Go.Blk.ks k) s n))) n) = true) → ((((((R (AV.one (AC.lit false)) [(3, Blk.own 22 [(Seg.ints IntKind.u8 16 k)]), (4, Blk.own 22 [(Seg.ints IntKind.u8 16 s)]), (24, Blk.vec [(Col.ints IntKind.u8 (Go.Blk.strmI (Go.Blk.ks k) s n))])]) ∧ (R (AV.one (AC.lit false)) [(3, Blk.own 22 [(Seg.ints IntKind.u8 16 k)]), (4, Blk.own 22 [(Seg.ints IntKind.u8 16 s)]), (24, Blk.vec [(Col.ints IntKind.u8 (Go.Blk.strmI (Go.Blk.ks k) s n))])])) ∧ (R (AV.one (AC.lit false)) [(3, Blk.own 22 [(Seg.ints IntKind.u8 16 k)]), (4, Blk.own 22 [(Seg.ints IntKind.u8 16 s)]), (24, Blk.vec [(Col.ints IntKind.u8 (Go.Blk.strmI (Go.Blk.ks k) s n))])])) ∧ (((R (AV.one (AC.lit false)) [(3, Blk.own 22 [(Seg.ints IntKind.u8 16 k)]), (4, Blk.own 22 [(Seg.ints IntKind.u8 16 s)]), (24, Blk.vec [(Col.ints IntKind.u8 (Go.Blk.strmI (Go.Blk.ks k) s n))])]) ∧ (R (AV.one (AC.lit false)) [(3, Blk.own 22 [(Seg.ints IntKind.u8 16 k)]), (4, Blk.own 22 [(Seg.ints IntKind.u8 16 s)]), (24, Blk.vec [(Col.ints IntKind.u8 (Go.Blk.strmI (Go.Blk.ks k) s n))])])) ∧ (R (AV.one (AC.lit false)) [(3, Blk.own 22 [(Seg.ints IntKind.u8 16 k)]), (4, Blk.own 22 [(Seg.ints IntKind.u8 16 s)]), (24, Blk.vec [(Col.ints IntKind.u8 (Go.Blk.strmI (Go.Blk.ks k) s n))])]))) ∧ (((R (AV.one (AC.lit false)) [(3, Blk.own 22 [(Seg.ints IntKind.u8 16 k)]), (4, Blk.own 22 [(Seg.ints IntKind.u8 16 s)]), (24, Blk.vec [(Col.ints IntKind.u8 (Go.Blk.strmI (Go.Blk.ks k) s n))])]) ∧ (R (AV.one (AC.lit false)) [(3, Blk.own 22 [(Seg.ints IntKind.u8 16 k)]), (4, Blk.own 22 [(Seg.ints IntKind.u8 16 s)]), (24, Blk.vec [(Col.ints IntKind.u8 (Go.Blk.strmI (Go.Blk.ks k) s n))])])) ∧ (R (AV.one (AC.lit false)) [(3, Blk.own 22 [(Seg.ints IntKind.u8 16 k)]), (4, Blk.own 22 [(Seg.ints IntKind.u8 16 s)]), (24, Blk.vec [(Col.ints IntKind.u8 (Go.Blk.strmI (Go.Blk.ks k) s n))])]))) ∧ (((R (AV.one (AC.lit false)) [(3, Blk.own 22 [(Seg.ints IntKind.u8 16 k)]), (4, Blk.own 22 [(Seg.ints IntKind.u8 16 s)]), (24, Blk.vec [(Col.ints IntKind.u8 (Go.Blk.strmI (Go.Blk.ks k) s n))])]) ∧ (R (AV.one (AC.lit false)) [(3, Blk.own 22 [(Seg.ints IntKind.u8 16 k)]), (4, Blk.own 22 [(Seg.ints IntKind.u8 16 s)]), (24, Blk.vec [(Col.ints IntKind.u8 (Go.Blk.strmI (Go.Blk.ks k) s n))])])) ∧ (R (AV.one (AC.lit false)) [(3, Blk.own 22 [(Seg.ints IntKind.u8 16 k)]), (4, Blk.own 22 [(Seg.ints IntKind.u8 16 s)]), (24, Blk.vec [(Col.ints IntKind.u8 (Go.Blk.strmI (Go.Blk.ks k) s n))])]))))))))) ∧ (((ilt n 0) = true) → (lcounts.k9 R n k s fuel)))) := by kernel_rfl

end Go.Proofs.Ytkecbjohbihfmaa.G

/- A stream's blocks are the encryptions of the numbers from its start on. -/
namespace Go.Blk
open Go.Sx Go.Fld
set_option linter.unusedVariables false
set_option linter.unusedSimpArgs false

theorem val_div {b : List Int} (hb : BL 16 b) : ∀ i, i ≤ 16 → val b 16 / 256 ^ (16 - i) = val b i := by
  intro i hi
  induction hk : 16 - i generalizing i with
  | zero => obtain rfl : i = 16 := by omega
            simp
  | succ k ih =>
    have h := ih (i + 1) (by omega) (by omega)
    have h3 := (hb.get i).hi
    have h4 := (hb.get i).lo
    rw [Nat.pow_succ, ← Nat.div_div_eq_div_mul, h]
    simp only [val]; omega
theorem byt_val {b : List Int} (hb : BL 16 b) : byt (val b 16) = b := by
  conv => rhs; rw [hb.eq]
  refine tab_ext fun j hj => ?_
  have h := val_div hb (j + 1) (by omega)
  rw [show 16 - (j + 1) = 15 - j by omega] at h
  have h3 := (hb.get j).hi
  have h4 := (hb.get j).lo
  rw [h]
  simp only [val]; omega
theorem byt_bl (v : Nat) : BL 16 (byt v) := BL.tab fun i hi => ⟨by omega, by omega⟩
theorem upN_byt (v : Nat) : ∀ i, i ≤ 16 → (v + 1) % 256 ^ (16 - i) = 0 → upN i (tab 16 fun j => if j < i then ((v / 256 ^ (15 - j) % 256 : Nat) : Int) else (((v + 1) / 256 ^ (15 - j) % 256 : Nat) : Int)) = byt (v + 1)
  | 0, _, _ => tab_ext fun j hj => by rw [if_neg (by omega)]
  | i + 1, hi, hm => by
    rw [show 16 - (i + 1) = 15 - i by omega] at hm
    obtain ⟨q, hq⟩ : ∃ q, v + 1 = 256 ^ (15 - i) * q := ⟨(v + 1) / 256 ^ (15 - i), by have := Nat.div_add_mod (v + 1) (256 ^ (15 - i)); omega⟩
    have hB : 0 < 256 ^ (15 - i) := Nat.pow_pos (by decide)
    have hq0 : 0 < q := by
      rcases Nat.eq_zero_or_pos q with e | e
      · rw [e] at hq; omega
      · exact e
    have d1 : (v + 1) / 256 ^ (15 - i) = q := by rw [hq]; exact Nat.mul_div_cancel_left _ hB
    have d0 : v / 256 ^ (15 - i) = q - 1 := by
      have : v = 256 ^ (15 - i) * (q - 1) + (256 ^ (15 - i) - 1) := by
        have e : 256 ^ (15 - i) * q = 256 ^ (15 - i) * (q - 1) + 256 ^ (15 - i) := by
          conv => lhs; rw [show q = (q - 1) + 1 by omega, Nat.mul_succ]
        omega
      rw [this, Nat.mul_add_div hB, Nat.div_eq_of_lt (by omega), Nat.add_zero]
    have eg : lget (tab 16 fun j => if j < i + 1 then ((v / 256 ^ (15 - j) % 256 : Nat) : Int) else (((v + 1) / 256 ^ (15 - j) % 256 : Nat) : Int)) i = (((q - 1) % 256 : Nat) : Int) := by
      rw [tab_lget _ (by omega), if_pos (by omega), d0]
    have ea : add .u8 (((q - 1) % 256 : Nat) : Int) 1 = ((q % 256 : Nat) : Int) := by rw [add_u8]; omega
    unfold upN
    rw [eg, ea, tab_lset]
    have et : (tab 16 fun j => if j = i then ((q % 256 : Nat) : Int) else if j < i + 1 then ((v / 256 ^ (15 - j) % 256 : Nat) : Int) else (((v + 1) / 256 ^ (15 - j) % 256 : Nat) : Int)) = tab 16 fun j => if j < i then ((v / 256 ^ (15 - j) % 256 : Nat) : Int) else (((v + 1) / 256 ^ (15 - j) % 256 : Nat) : Int) := by
      refine tab_ext fun j hj => ?_
      by_cases c : j = i
      · rw [if_pos c, if_neg (by omega), c, d1]
      · by_cases c2 : j < i
        · rw [if_neg c, if_pos (by omega), if_pos c2]
        · rw [if_neg c, if_neg (by omega), if_neg c2]
    rw [et]
    split
    · rename_i h0
      refine upN_byt v i (by omega) ?_
      rw [show 16 - i = (15 - i) + 1 by omega, Nat.pow_succ, hq, Nat.mul_mod_mul_left, show q % 256 = 0 by omega, Nat.mul_zero]
    · rename_i h0
      have hne : q % 256 ≠ 0 := fun e => h0 (by rw [e]; rfl)
      refine tab_ext fun j hj => ?_
      by_cases c : j < i
      · rw [if_pos c]
        have e1 : 256 ^ (15 - j) = 256 ^ (15 - i) * (256 * 256 ^ (i - j - 1)) := by
          rw [← Nat.pow_succ', ← Nat.pow_add]; congr 1; omega
        have L : ∀ x, x / 256 ^ (15 - j) = x / 256 ^ (15 - i) / 256 / 256 ^ (i - j - 1) := fun x => by rw [e1, ← Nat.div_div_eq_div_mul, ← Nat.div_div_eq_div_mul]
        rw [L v, L (v + 1), d0, d1, show (q - 1) / 256 = q / 256 by omega]
      · rw [if_neg c]
theorem up_byt (v : Nat) : up (byt v) = byt (v + 1) := by
  have h := upN_byt v 16 (Nat.le_refl _) (by simp [Nat.mod_one])
  have e : (tab 16 fun j => if j < 16 then ((v / 256 ^ (15 - j) % 256 : Nat) : Int) else (((v + 1) / 256 ^ (15 - j) % 256 : Nat) : Int)) = byt v := tab_ext fun j hj => by rw [if_pos hj]
  rw [e] at h
  exact h
theorem ups_byt (v : Nat) : ∀ n, ups (byt v) n = byt (v + n)
  | 0 => rfl
  | n + 1 => by show up (ups (byt v) n) = _; rw [ups_byt v n, up_byt]; rfl
theorem upI_ups {b : List Int} (hb : BL 16 b) (n : Nat) : upI b (n : Int) = ups b n := by
  conv => rhs; rw [← byt_val hb, ups_byt]
  rfl
theorem ups_up (b : List Int) : ∀ n, ups (up b) n = ups b (n + 1)
  | 0 => rfl
  | n + 1 => by show up (ups (up b) n) = _; rw [ups_up b n]; rfl
end Go.Blk
namespace Go.Proofs.Ytkecbjohbihfmaa.G
open Go Go.Sx Go.Fld Go.Blk
set_option linter.unusedSimpArgs false
set_option linter.unusedVariables false

theorem strmI_eq {w s : List Int} (hw : BL 176 w) (hs : BL 16 s) {n : Nat} (hn : n ≤ 65536) : strmI w s (n : Int) = tab n (strB w s) := by
  rw [strmI, if_neg (by omega), mask]
  have e : (lzeros (n : Int).toNat).length = n := by simp [lzeros]
  rw [e]
  refine tab_ext fun i hi => ?_
  have e2 : lget (lzeros (n : Int).toNat) i = 0 := by rw [lzeros_tab, tab_lget _ (by simpa using hi)]
  obtain ⟨x, hx, ex⟩ := (strB_byte hw hs i).nat
  rw [e2, ex]
  have := bxor_u8 (a := 0) (b := x) (by decide) hx
  rw [show ((0 : Nat) : Int) = 0 from rfl] at this
  rw [this, Nat.zero_xor]
theorem tab_sub {α : Type} (g : Nat → α) (n a m : Nat) (h : a + m ≤ n) : lsub (tab n g) a m = tab m fun j => g (a + j) := tab_lsub g h

/-- what holds of a stream of N bytes -/
structure StrOk (k s : List Int) (N : Nat) : Prop where
  le : N ≤ 4096
  hk : BL 16 k
  hs : BL 16 s
theorem str_block {k s : List Int} {N : Nat} (h : StrOk k s N) {i : Nat} (hi : 16 * i < N) : lsub (strmI (ks k) s (N : Int)) (16 * i) (min N (16 * i + 16) - 16 * i) = lsub (enc (ks k) (upI s (i : Int))) 0 (min 16 (N - 16 * i)) := by
  have hw := ks_bl h.hk
  have hle := h.le
  rw [strmI_eq hw h.hs (by omega), tab_sub _ _ _ _ (by omega), upI_ups h.hs, lsub_tabbed (enc_bl hw (ups_bl h.hs i)).len (by omega), show min N (16 * i + 16) - 16 * i = min 16 (N - 16 * i) by omega]
  refine tab_ext fun j hj => ?_
  rw [strB, show (16 * i + j) / 16 = i by omega, show (16 * i + j) % 16 = 0 + j by omega]
theorem str_rest {k s : List Int} {N : Nat} (h : StrOk k s N) (hN : 16 ≤ N) : strmI (ks k) (upI s 1) ((N - 16 : Nat) : Int) = lsub (strmI (ks k) s (N : Int)) 16 (N - 16) := by
  have hw := ks_bl h.hk
  have hle := h.le
  have e1 : upI s 1 = up s := upI_ups h.hs 1
  rw [e1, strmI_eq hw (up_bl h.hs) (by omega), strmI_eq hw h.hs (by omega), tab_sub _ _ _ _ (by omega)]
  refine tab_ext fun j hj => ?_
  rw [strB, strB, ups_up, show (16 + j) / 16 = j / 16 + 1 by omega, show (16 + j) % 16 = j % 16 by omega]
theorem str_half {k s : List Int} {N : Nat} (h : StrOk k s N) : strmI (ks k) s ((N / 2 : Nat) : Int) = lsub (strmI (ks k) s (N : Int)) 0 (N / 2) := by
  have hw := ks_bl h.hk
  have hle := h.le
  rw [strmI_eq hw h.hs (by omega), strmI_eq hw h.hs (by omega), tab_sub _ _ _ _ (by omega)]
  exact tab_ext fun j hj => by rw [Nat.zero_add]
theorem str_mask {k s : List Int} {N : Nat} (h : StrOk k s N) : mask (ks k) s (lzeros N) = strmI (ks k) s (N : Int) := by
  have hle := h.le
  rw [strmI, if_neg (by omega)]; rfl
theorem str_len {k s : List Int} {N : Nat} (h : StrOk k s N) : llen (strmI (ks k) s (N : Int)) = N := by
  have hle := h.le
  rw [strmI_eq (ks_bl h.hk) h.hs (by omega), tab_llen]
theorem band1023 (n : Int) : ∃ N : Nat, band .i64 n 1023 = (N : Int) ∧ N ≤ 1023 := by
  refine ⟨(BitVec.ofInt 64 n).toNat &&& 1023, ?_, Nat.and_le_right⟩
  show IntKind.i64.wrap ((BitVec.ofInt 64 n &&& BitVec.ofInt 64 1023).toNat : Int) = _
  have h : (BitVec.ofInt 64 n).toNat &&& 1023 ≤ 1023 := Nat.and_le_right
  rw [BitVec.toNat_and, show (BitVec.ofInt 64 1023).toNat = 1023 from rfl, IntKind.wrap_i64]
  omega

theorem l0_run {n : Int} {k s : List Int} {N : Nat} (h : StrOk k s N) (hb : band .i64 n 1023 = (N : Int)) : lcounts.l0 Yes n k s (1 + 1 * ((N + 15) / 16 - 0)) 0 := by
  have hle := h.le
  have hw := ks_bl h.hk
  have hlen := str_len h
  refine loop_n (fun f i (_ : Unit) => lcounts.l0 Yes n k s f i) ((N + 15) / 16) (fun _ => ()) 1 1 (fun f i hi hf => ?_) ?_ 0 (Nat.zero_le _)
  · have hi' : 16 * i < N := by omega
    have m1 : mul .i64 16 (i : Int) = ((16 * i : Nat) : Int) := mulN_i64 (a := 16) (by omega)
    have m2 : add .i64 ((16 * i : Nat) : Int) 16 = ((16 * i + 16 : Nat) : Int) := addN_i64 (b := 16) (by omega)
    have m3 : imin (N : Int) ((16 * i + 16 : Nat) : Int) = ((min N (16 * i + 16) : Nat) : Int) := imin_nat _ _
    have m4 : sub .i64 (N : Int) ((16 * i : Nat) : Int) = ((N - 16 * i : Nat) : Int) := subN_i64 (by omega) (by omega)
    have m5 : imin 16 ((N - 16 * i : Nat) : Int) = ((min 16 (N - 16 * i) : Nat) : Int) := imin_nat 16 _
    have hu : BL 16 (upI s (i : Int)) := by rw [upI_ups h.hs]; exact ups_bl h.hs i
    have h0 : lcounts.k0 Yes n (i : Int) k s f := by
      rw [lcounts.k0_eq]
      simp only [hb, m1, m2, m3, m4, m5, nat_cast, nsub_def, str_block h hi', seq2_self rfl, bnot, Bool.not_true, Bool.false_eq_true, Bool.true_eq_false, false_implies, forall_const, true_and, add1_i64 (show i < 9223372036854775807 by omega)]
      exact hf
    have h1 : lcounts.k1 Yes n (i : Int) k s f := by
      rw [lcounts.k1_eq]
      simp only [hb, m1, m2, m3, m4, m5, nat_cast, nadd_def, Nat.zero_add, hlen, NonNeg_iff, Fits_iff]
      exact ⟨⟨⟨by omega, by omega⟩, by omega, by omega⟩, ⟨by omega, by omega⟩, ⟨by omega, h0⟩, by omega, h0⟩
    rw [lcounts.l0_succ]
    have hI : InB (i : Int) 65536 := ⟨by omega, by omega⟩
    simp only [hb, m1, h.hs, hI, hw, hu, h1, true_and, and_true]
    refine ⟨fun _ => trivial, fun q => ?_⟩
    rw [ilt_false] at q; omega
  · rw [lcounts.l0_succ]
    have m1 : mul .i64 16 (((N + 15) / 16 : Nat) : Int) = ((16 * ((N + 15) / 16) : Nat) : Int) := mulN_i64 (a := 16) (by omega)
    rw [m1]
    simp only [hb, hlen]
    refine ⟨fun q => ?_, fun _ => ⟨fun q => ?_, fun q => ?_⟩⟩
    · rw [ilt_true] at q; omega
    · rw [ilt_false] at q
      have hN : 16 ≤ N := by omega
      have hu : BL 16 (upI s 1) := by
        have : upI s 1 = ups s 1 := upI_ups h.hs 1
        rw [this]; exact ups_bl h.hs 1
      have hI : InB 1 65536 := ⟨by decide, by decide⟩
      have m4 : sub .i64 (N : Int) 16 = ((N - 16 : Nat) : Int) := subN_i64 (b := 16) (by omega) (by omega)
      have h2 : ∀ x, lcounts.k2 Yes n k s x 0 := fun x => by
        rw [lcounts.k2_eq]
        simp only [hb, m4, hlen, nsub_def, str_rest h hN, seq2_self rfl]
        exact Or.inl rfl
      have h16 : NonNeg 16 := ⟨by decide⟩
      have hF : Fits 16 N := ⟨hN⟩
      simp only [h.hs, h.hk, hI, hu, h2, h16, hF, true_and, and_true]
    · exact ⟨⟨⟨Or.inr rfl, Or.inr rfl⟩, Or.inr rfl⟩, Or.inr rfl⟩

theorem l1_run {n : Int} {k s : List Int} {N : Nat} (h : StrOk k s N) (hb : n = (N : Int)) : lcounts.l1 Yes n k s (1 + 1 * ((N + 15) / 16 - 0)) 0 := by
  subst hb
  have hle := h.le
  have hw := ks_bl h.hk
  have hlen := str_len h
  refine loop_n (fun f i (_ : Unit) => lcounts.l1 Yes (N : Int) k s f i) ((N + 15) / 16) (fun _ => ()) 1 1 (fun f i hi hf => ?_) ?_ 0 (Nat.zero_le _)
  · have hi' : 16 * i < N := by omega
    have m1 : mul .i64 16 (i : Int) = ((16 * i : Nat) : Int) := mulN_i64 (a := 16) (by omega)
    have m2 : add .i64 ((16 * i : Nat) : Int) 16 = ((16 * i + 16 : Nat) : Int) := addN_i64 (b := 16) (by omega)
    have m3 : imin (N : Int) ((16 * i + 16 : Nat) : Int) = ((min N (16 * i + 16) : Nat) : Int) := imin_nat _ _
    have m4 : sub .i64 (N : Int) ((16 * i : Nat) : Int) = ((N - 16 * i : Nat) : Int) := subN_i64 (by omega) (by omega)
    have m5 : imin 16 ((N - 16 * i : Nat) : Int) = ((min 16 (N - 16 * i) : Nat) : Int) := imin_nat 16 _
    have hu : BL 16 (upI s (i : Int)) := by rw [upI_ups h.hs]; exact ups_bl h.hs i
    have h0 : lcounts.k5 Yes (N : Int) (i : Int) k s f := by
      rw [lcounts.k5_eq]
      simp only [m1, m2, m3, m4, m5, nat_cast, nsub_def, str_block h hi', seq2_self rfl, bnot, Bool.not_true, Bool.false_eq_true, Bool.true_eq_false, false_implies, forall_const, true_and, add1_i64 (show i < 9223372036854775807 by omega)]
      exact hf
    have h1 : lcounts.k6 Yes (N : Int) (i : Int) k s f := by
      rw [lcounts.k6_eq]
      simp only [m1, m2, m3, m4, m5, nat_cast, nadd_def, Nat.zero_add, hlen, NonNeg_iff, Fits_iff]
      exact ⟨⟨⟨by omega, by omega⟩, by omega, by omega⟩, ⟨by omega, by omega⟩, ⟨by omega, h0⟩, by omega, h0⟩
    rw [lcounts.l1_succ]
    have hI : InB (i : Int) 65536 := ⟨by omega, by omega⟩
    simp only [m1, h.hs, hI, hw, hu, h1, true_and, and_true]
    refine ⟨fun _ => trivial, fun q => ?_⟩
    rw [ilt_false] at q; omega
  · rw [lcounts.l1_succ]
    have m1 : mul .i64 16 (((N + 15) / 16 : Nat) : Int) = ((16 * ((N + 15) / 16) : Nat) : Int) := mulN_i64 (a := 16) (by omega)
    rw [m1]
    simp only [hlen]
    refine ⟨fun q => ?_, fun _ => ⟨fun q => ?_, fun q => ?_⟩⟩
    · rw [ilt_true] at q; omega
    · rw [ilt_false] at q
      have hN : 16 ≤ N := by omega
      have hu : BL 16 (upI s 1) := by
        have : upI s 1 = ups s 1 := upI_ups h.hs 1
        rw [this]; exact ups_bl h.hs 1
      have hI : InB 1 65536 := ⟨by decide, by decide⟩
      have m4 : sub .i64 (N : Int) 16 = ((N - 16 : Nat) : Int) := subN_i64 (b := 16) (by omega) (by omega)
      have h2 : ∀ x, lcounts.k7 Yes (N : Int) k s x 0 := fun x => by
        rw [lcounts.k7_eq]
        simp only [m4, hlen, nsub_def, str_rest h hN, seq2_self rfl]
        exact Or.inl rfl
      have h16 : NonNeg 16 := ⟨by decide⟩
      have hF : Fits 16 N := ⟨hN⟩
      simp only [h.hs, h.hk, hI, hu, h2, h16, hF, true_and, and_true]
    · exact ⟨⟨⟨Or.inr rfl, Or.inr rfl⟩, Or.inr rfl⟩, Or.inr rfl⟩

theorem blockCounts_plain {k s : List Int} {n : Int} (hk : BL 16 k) (hs : BL 16 s) : ∃ f, Has (callsx Try.prog gamB9 [⟨777777, [], true, false⟩] Try.f7 f [.agg [.ints .u8 16 k], .agg [.ints .u8 16 s], .one (.int .i64 n)] [] Yes) := by
  have facts : ∀ N, N ≤ 4096 → StrOk k s N ∧ Short (lzeros N) ∧ Bs (lzeros N) ∧ Mk (N : Int) (N : Int) 1 ∧ quo .i64 (N : Int) 2 = ((N / 2 : Nat) : Int) := fun N hN => ⟨⟨hN, hk, hs⟩, ⟨by simp [lzeros]; omega⟩, Bs.zeros N, by rw [Mk_iff]; omega, quoN_i64 (b := 2) (by omega)⟩
  have nz : NeZ 2 := ⟨by decide⟩
  by_cases hin : n < 0 ∨ 4096 < n
  · obtain ⟨N, hb, hN⟩ := band1023 n
    obtain ⟨h, f1, f2, f3, f4⟩ := facts N (by omega)
    have hrun := l0_run h hb
    refine ⟨(1 + 1 * ((N + 15) / 16 - 0)) + 1, ⟨?_⟩⟩
    generalize 1 + 1 * ((N + 15) / 16 - 0) = F at hrun
    have h3 : lcounts.k3 Yes n k s F := by
      rw [lcounts.k3_eq]
      simp only [hb, f4, nat_cast, str_half h, seq2_self rfl, bnot, Bool.not_true, Bool.false_eq_true, Bool.true_eq_false, false_implies, forall_const, true_and]
      exact ⟨hk, hrun⟩
    have hF : NonNeg ((N / 2 : Nat) : Int) := ⟨by omega⟩
    have hF2 : Fits (N / 2) N := ⟨by omega⟩
    have ei : ine (N : Int) (N : Int) = false := by simp [ine]
    have h9 : lcounts.k9 Yes n k s F := by
      rw [lcounts.k9_eq]
      simp only [hb, nat_cast, str_mask h, seq2_self rfl, bnot, str_len h, ofNat_def, ei, hk, hs, f1, f2, f3, f4, hF, hF2, nz, h3, Bool.not_true, Bool.false_eq_true, Bool.true_eq_false, false_implies, forall_const, true_and, and_true]
    rw [lcounts_vc]
    simp only [h9, true_and, and_true]
    refine ⟨fun q => ⟨fun _ => trivial, fun q2 => ?_⟩, fun _ => ?_⟩
    · rw [ilt_false] at q; rw [igt_false] at q2; omega
    · first | trivial | exact h9
  · obtain ⟨N, rfl⟩ := Int.eq_ofNat_of_zero_le (show 0 ≤ n by omega)
    obtain ⟨h, f1, f2, f3, f4⟩ := facts N (by omega)
    have hrun := l1_run h rfl
    refine ⟨(1 + 1 * ((N + 15) / 16 - 0)) + 1, ⟨?_⟩⟩
    generalize 1 + 1 * ((N + 15) / 16 - 0) = F at hrun
    have h8 : lcounts.k8 Yes (N : Int) k s F := by
      rw [lcounts.k8_eq]
      simp only [f4, nat_cast, str_half h, seq2_self rfl, bnot, Bool.not_true, Bool.false_eq_true, Bool.true_eq_false, false_implies, forall_const, true_and]
      exact ⟨hk, hrun⟩
    have hF : NonNeg ((N / 2 : Nat) : Int) := ⟨by omega⟩
    have hF2 : Fits (N / 2) N := ⟨by omega⟩
    have ei : ine (N : Int) (N : Int) = false := by simp [ine]
    have c1 : ilt (N : Int) 0 = false := by rw [ilt_false]; omega
    have c2 : igt (N : Int) 4096 = false := by rw [igt_false]; omega
    rw [lcounts_vc]
    simp only [c1, c2, nat_cast, str_mask h, seq2_self rfl, bnot, str_len h, ofNat_def, ei, hk, hs, f1, f2, f3, f4, hF, hF2, nz, h8, Bool.not_true, Bool.false_eq_true, Bool.true_eq_false, false_implies, forall_const, true_and, and_true]
end Go.Proofs.Ytkecbjohbihfmaa.G
