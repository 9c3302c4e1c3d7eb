/- Opening a cell, and the sets of the cell's functions. -/
import Derived.Test.YtgkklobamebnjaaCellP2
namespace Go.Proofs.Ytgkklobamebnjaa.G
open Go Go.Sx Go.Cel
set_option linter.unusedSimpArgs false
set_option linter.unusedVariables false

theorem op_len {c : List Int} (h : c.length ≠ 320) : opE c = 50 := by simp only [opE]; rw [if_pos h]
theorem op_noise {c : List Int} (h : c.length = 320) (h0 : lget c 0 = 0) : opE c = 0 ∧ opY c = false := by
  have : c.getD 0 0 = 0 := h0
  constructor
  · simp only [opE]; rw [if_neg (by omega), if_pos this]
  · simp [opY]; intro _; exact h0
theorem op_kind {c : List Int} (h : c.length = 320) (h0 : lget c 0 ≠ 0) (h1 : lget c 0 ≠ 1) : opE c = 52 := by
  have g0 : c.getD 0 0 ≠ 0 := h0
  have g1 : c.getD 0 0 ≠ 1 := h1
  simp only [opE]; rw [if_neg (by omega), if_neg g0, if_pos g1]
theorem op_long {c : List Int} (h : c.length = 320) (h1 : lget c 0 = 1) (h2 : 48 < lget c 1) : opE c = 53 := by
  have g1 : c.getD 0 0 = 1 := h1
  have g2 : 48 < c.getD 1 0 := h2
  simp only [opE]; rw [if_neg (by omega), if_neg (by omega), if_neg (by omega), if_pos g2]
theorem op_pad {c : List Int} {n : Nat} (h : c.length = 320) (h1 : lget c 0 = 1) (h2 : lget c 1 ≤ 48) (hn : (lget c 1).toNat = n) (hz : zb (c.drop (2 + n)) = false) : opE c = 51 := by
  have g1 : c.getD 0 0 = 1 := h1
  have g2 : c.getD 1 0 ≤ 48 := h2
  have gn : (c.getD 1 0).toNat = n := hn
  simp only [opE]; rw [if_neg (by omega), if_neg (by omega), if_neg (by omega), if_neg (by omega), gn, if_pos hz]
theorem op_ok {c : List Int} {n : Nat} (h : c.length = 320) (h1 : lget c 0 = 1) (h2 : lget c 1 ≤ 48) (hn : (lget c 1).toNat = n) (hz : zb (c.drop (2 + n)) = true) : opE c = 0 ∧ opY c = true ∧ opR c = (c.drop 2).take n := by
  have g1 : c.getD 0 0 = 1 := h1
  have g2 : c.getD 1 0 ≤ 48 := h2
  have gn : (c.getD 1 0).toNat = n := hn
  have e0 : opE c = 0 := by
    simp only [opE]; rw [if_neg (by omega), if_neg (by omega), if_neg (by omega), if_neg (by omega), gn, if_neg (by simp [hz])]
  have e1 : opY c = true := by simp only [opY, e0, g1]; decide
  exact ⟨e0, e1, by simp only [opR]; rw [if_pos e1, gn]⟩
theorem op_no {c : List Int} (h : opE c ≠ 0) : opY c = false := by simp [opY, h]
theorem op_nil {c : List Int} (h : opY c = false) : opR c = [] := by simp [opR, h]

section
variable {d : Nat} {σ : Mem} {K : AV → Mem → Prop} {c : List Int}
theorem op_fail (hK : K (.tup [.c (.vec d), .c (.bool (opY c)), .c (.int .i64 (opE c))]) (Mem.ins d (.vec [.ints .u8 (opR c)]) σ)) {e : Int} (he : opE c = e) (hne : e ≠ 0) (σ' : Mem) : Res d 1 σ K (.tup [.c (.con (.slice none 0 0)), .c (.lit false), .c (.int .i64 e)]) σ' := by
  have hy := op_no (c := c) (by rw [he]; exact hne)
  exact res_tnil (.lit hy.symm (.int he.symm .nil)) (op_nil hy) hK
theorem op_still (hK : K (.tup [.c (.vec d), .c (.bool (opY c)), .c (.int .i64 (opE c))]) (Mem.ins d (.vec [.ints .u8 (opR c)]) σ)) (h : opE c = 0 ∧ opY c = false) (σ' : Mem) : Res d 1 σ K (.tup [.c (.con (.slice none 0 0)), .c (.lit false), .c (.int .i64 0)]) σ' :=
  res_tnil (.lit h.2.symm (.int h.1.symm .nil)) (op_nil h.2) hK
end

theorem op_words {c : List Int} (hb : Bs c) : ∃ n : Nat, lget c 1 = (n : Int) ∧ (lget c 1).toNat = n ∧ n < 256 ∧ conv .i64 (lget c 1) = (n : Int) ∧ nat (add .i64 2 (conv .i64 (lget c 1))) = 2 + n ∧ 0 ≤ add .i64 2 (conv .i64 (lget c 1)) := by
  have h := hb.get 1
  obtain ⟨n, hn⟩ := Int.eq_ofNat_of_zero_le h.1
  have hg : lget c 1 = (n : Int) := hn
  have hlt : n < 256 := by have := h.2; omega
  have hc : conv .i64 (lget c 1) = (n : Int) := by rw [hg, conv_i64 (by omega) (by omega)]
  have ha : add .i64 2 (conv .i64 (lget c 1)) = 2 + (n : Int) := by rw [hc, add_i64 (by omega) (by omega)]
  refine ⟨n, hg, by rw [hg]; rfl, hlt, hc, by rw [ha]; simp only [nat]; omega, by rw [ha]; omega⟩

theorem good_open : Sx.Good Try.prog 15 openS := by
  refine Sx.Good.reads (D := []) mixed gamC1_good Try.func15 (by kernel_rfl) rfl fun d args σ K h => ?_
  simp only [openS] at h
  split at h <;> try exact h.elim
  obtain ⟨c, ⟨⟨hs, hb⟩, hK⟩, hr⟩ := rdb_row h
  refine ⟨[.one (.vec 200000)], [(200000, .rview [.ints .u8 c])], .row [.ints .u8] _ hr (by decide) (.nil _), by simp, 1, ?_⟩
  rw [Open_vc]
  obtain ⟨n, hg, hgn, hlt, hc, hnat, h0⟩ := op_words hb
  refine ⟨fun q => ?_, fun q => ?_⟩
  · rw [ine_true] at q; simp only [ofNat, llen] at q
    exact op_fail hK (op_len (by omega)) (by decide) _
  rw [ine_false] at q; simp only [ofNat, llen] at q
  have hl : c.length = 320 := by omega
  refine ⟨⟨by omega, by simp only [llen]; omega⟩, fun q0 => ?_, fun q0 => ⟨fun q1 => ⟨⟨by omega, by simp only [llen]; omega⟩, fun q2 => ?_, fun q2 => ?_⟩, fun q1 => ?_⟩⟩
  · rw [ieq_true] at q0
    exact op_still hK (op_noise hl q0) _
  · rw [ieq_false] at q0; rw [ieq_true] at q1; rw [igt_true, hc] at q2
    exact op_fail hK (op_long hl q1 (by rw [hg]; exact q2)) (by decide) _
  · rw [ieq_false] at q0; rw [ieq_true] at q1; rw [igt_false, hc] at q2
    rw [hnat]
    have ed : lsub c (2 + n) (nsub (llen c) (2 + n)) = c.drop (2 + n) := by simp only [nsub, llen]; exact lsub_drop c _
    rw [ed]
    refine ⟨⟨⟨h0⟩, ⟨by simp only [llen]; omega⟩⟩, ⟨by simp; omega⟩, fun q3 => ?_, fun q3 => ⟨⟨⟨⟨h0⟩, ⟨by simp only [llen]; omega⟩⟩, ⟨⟨by decide⟩, ⟨by omega⟩⟩⟩, room1 (by simp only [nadd, nsub, llen, lsub, List.length_take, List.length_drop]; omega), ?_⟩⟩
    · rw [bnot_true] at q3
      exact op_fail hK (op_pad hl q1 (by rw [hg]; exact q2) hgn q3) (by decide) _
    · rw [bnot_false] at q3
      obtain ⟨e0, ey, er⟩ := op_ok hl q1 (by rw [hg]; exact q2) hgn q3
      refine res_tvec rfl (.lit ey.symm (.int e0.symm .nil)) ?_ hK
      rw [er]; simp only [lcat, List.nil_append, lsub, nsub]
      rw [show 2 + n - 2 = n by omega]
  · rw [ieq_false] at q0; rw [ieq_false] at q1
    exact op_fail hK (op_kind hl q0 q1) (by decide) _

theorem good_ropen : Sx.Good Try.prog 17 openS := by
  refine Sx.Good.reads (D := []) mixed gamC1_good Try.func17 (by kernel_rfl) rfl fun d args σ K h => ?_
  simp only [openS] at h
  split at h <;> try exact h.elim
  obtain ⟨c, ⟨⟨hs, hb⟩, hK⟩, hr⟩ := rdb_row h
  refine ⟨[.one (.vec 200000)], [(200000, .rview [.ints .u8 c])], .row [.ints .u8] _ hr (by decide) (.nil _), by simp, 1, ?_⟩
  rw [rOpen_vc]
  obtain ⟨n, hg, hgn, hlt, hc, hnat, h0⟩ := op_words hb
  refine ⟨fun q => ?_, fun q => ?_⟩
  · rw [ine_true] at q; simp only [ofNat, llen] at q
    exact op_fail hK (op_len (by omega)) (by decide) _
  rw [ine_false] at q; simp only [ofNat, llen] at q
  have hl : c.length = 320 := by omega
  have i0 : InB 0 (llen c) := ⟨by omega, by simp only [llen]; omega⟩
  have i1 : InB 1 (llen c) := ⟨by omega, by simp only [llen]; omega⟩
  have hz := hb.get 0
  have hz0 : 0 ≤ lget c 0 := hz.1
  refine ⟨i0, fun q0 => ?_, fun q0 => ⟨i0, fun q1 => ?_, fun q1 => ⟨i1, fun q2 => ?_, fun q2 => ⟨i1, ?_⟩⟩⟩⟩
  · rw [igt_true] at q0
    exact op_fail hK (op_kind hl (by omega) (by omega)) (by decide) _
  · rw [ieq_true] at q1
    exact op_still hK (op_noise hl q1) _
  · rw [igt_false] at q0; rw [ieq_false] at q1; rw [igt_true] at q2
    exact op_fail hK (op_long hl (by omega) q2) (by decide) _
  · rw [igt_false] at q0; rw [ieq_false] at q1; rw [igt_false] at q2
    have q1' : lget c 0 = 1 := by omega
    rw [hnat]
    have hn48 : n ≤ 48 := by omega
    refine ⟨⟨hs, ⟨h0⟩⟩, fun q3 => ?_, fun q3 => ⟨i1, ⟨⟨⟨h0⟩, ⟨by simp only [llen]; omega⟩⟩, ⟨⟨by decide⟩, ⟨by omega⟩⟩⟩, room1 (by simp only [nadd, nsub, llen, lsub, List.length_take, List.length_drop]; omega), ?_⟩⟩
    · rw [bnot_true] at q3
      exact op_fail hK (op_pad hl q1' q2 hgn q3) (by decide) _
    · rw [bnot_false] at q3
      obtain ⟨e0, ey, er⟩ := op_ok hl q1' q2 hgn q3
      refine res_tvec rfl (.lit ey.symm (.int e0.symm .nil)) ?_ hK
      rw [er]; simp only [lcat, List.nil_append, lsub, nsub]
      rw [show 2 + n - 2 = n by omega]

theorem gamC2_good : GoodG Try.prog gamC2 := by
  refine ((((gamC1_good.ext good_pad ?_).ext good_plain ?_).ext good_noise ?_).ext good_cut ?_).ext good_open ?_
  · exact ⟨_, Try.func12, by decide, by kernel_rfl⟩
  · exact ⟨_, Try.func13, by decide, by kernel_rfl⟩
  · exact ⟨_, Try.func14, by decide, by kernel_rfl⟩
  · exact ⟨_, Try.func18, by decide, by kernel_rfl⟩
  · exact ⟨_, Try.func15, by decide, by kernel_rfl⟩
theorem gamC3_good : GoodG Try.prog gamC3 := by
  refine ((((gamC2_good.ext good_rpad ?_).ext good_rplain ?_).ext good_rnoise ?_).ext good_rcut ?_).ext good_ropen ?_
  · exact ⟨_, Try.func9, by decide, by kernel_rfl⟩
  · exact ⟨_, Try.func10, by decide, by kernel_rfl⟩
  · exact ⟨_, Try.func11, by decide, by kernel_rfl⟩
  · exact ⟨_, Try.func16, by decide, by kernel_rfl⟩
  · exact ⟨_, Try.func17, by decide, by kernel_rfl⟩
end Go.Proofs.Ytgkklobamebnjaa.G
