/- Cells are made, cut and opened as the plain mathematics says. -/
import Derived.Test.YtgkklobamebnjaaCellP
namespace Go.Proofs.Ytgkklobamebnjaa.G
open Go Go.Sx Go.Cel
set_option linter.unusedSimpArgs false
set_option linter.unusedVariables false

theorem laid0 {p : List Int} (h : p.length ≤ 320) : LaidOk p [] 0 := ⟨rfl, by simpa using h⟩

theorem conv_len {p : List Int} (h : p.length ≤ 48) : conv .u8 (ofNat (llen p)) = (p.length : Int) := by
  rw [conv_u8]; simp only [ofNat, llen]; omega

theorem good_pad : Sx.Good Try.prog 12 (lstS padR padE) := by
  refine Sx.Good.reads (D := []) mixed gamC1_good Try.func12 (by kernel_rfl) rfl fun d args σ K h => ?_
  simp only [lstS] at h
  split at h <;> try exact h.elim
  obtain ⟨p, ⟨hs, hK⟩, hr⟩ := rdb_row h
  refine ⟨[.one (.vec 200000)], [(200000, .rview [.ints .u8 p])], .row [.ints .u8] _ hr (by decide) (.nil _), by simp, 1, ?_⟩
  rw [Pad_vc]
  refine ⟨fun q => ?_, fun q => ?_⟩
  · rw [igt_true] at q; simp only [ofNat, llen] at q
    exact res_tnil (.int (by simp only [padE]; rw [if_neg (by omega)]) .nil) (by simp only [padR]; rw [if_neg (by omega)]) hK
  · rw [igt_false] at q; simp only [ofNat, llen] at q
    have hl : p.length ≤ 320 := by omega
    exact ⟨laid0 hl, res_tvec rfl (.int (by simp only [padE]; rw [if_pos hl]) .nil) (by simp only [padR]; rw [if_pos hl]; rfl) hK⟩

theorem good_rpad : Sx.Good Try.prog 9 (lstS padR padE) := by
  refine Sx.Good.reads (D := []) mixed gamC1_good Try.func9 (by kernel_rfl) rfl fun d args σ K h => ?_
  simp only [lstS] at h
  split at h <;> try exact h.elim
  obtain ⟨p, ⟨hs, hK⟩, hr⟩ := rdb_row h
  refine ⟨[.one (.vec 200000)], [(200000, .rview [.ints .u8 p])], .row [.ints .u8] _ hr (by decide) (.nil _), by simp, 1, ?_⟩
  rw [rPad_vc]
  refine ⟨fun q => ?_, fun q => ?_⟩
  · rw [igt_true] at q; simp only [ofNat, llen] at q
    exact res_tnil (.int (by simp only [padE]; rw [if_neg (by omega)]) .nil) (by simp only [padR]; rw [if_neg (by omega)]) hK
  · rw [igt_false] at q; simp only [ofNat, llen] at q
    have hl : p.length ≤ 320 := by omega
    exact ⟨⟨hl⟩, res_tvec rfl (.int (by simp only [padE]; rw [if_pos hl]) .nil) (by simp only [padR]; rw [if_pos hl]) hK⟩

theorem good_plain : Sx.Good Try.prog 13 (lstS plainR plainE) := by
  refine Sx.Good.reads (D := []) mixed gamC1_good Try.func13 (by kernel_rfl) rfl fun d args σ K h => ?_
  simp only [lstS] at h
  split at h <;> try exact h.elim
  obtain ⟨p, ⟨hs, hK⟩, hr⟩ := rdb_row h
  refine ⟨[.one (.vec 200000)], [(200000, .rview [.ints .u8 p])], .row [.ints .u8] _ hr (by decide) (.nil _), by simp, 1, ?_⟩
  rw [Plain_vc]
  refine ⟨fun q => ?_, fun q => ?_⟩
  · rw [igt_true] at q; simp only [ofNat, llen] at q
    exact res_tnil (.int (by simp only [plainE]; rw [if_neg (by omega)]) .nil) (by simp only [plainR]; rw [if_neg (by omega)]) hK
  · rw [igt_false] at q; simp only [ofNat, llen] at q
    have hl : p.length ≤ 48 := by omega
    rw [conv_len hl]
    exact ⟨⟨rfl, by simp; omega⟩, res_tvec rfl (.int (by simp only [plainE]; rw [if_pos hl]) .nil) (by simp only [plainR]; rw [if_pos hl]; rfl) hK⟩

theorem good_rplain : Sx.Good Try.prog 10 (lstS plainR plainE) := by
  refine Sx.Good.reads (D := []) mixed gamC1_good Try.func10 (by kernel_rfl) rfl fun d args σ K h => ?_
  simp only [lstS] at h
  split at h <;> try exact h.elim
  obtain ⟨p, ⟨hs, hK⟩, hr⟩ := rdb_row h
  refine ⟨[.one (.vec 200000)], [(200000, .rview [.ints .u8 p])], .row [.ints .u8] _ hr (by decide) (.nil _), by simp, 1, ?_⟩
  rw [rPlain_vc]
  refine ⟨fun q => ?_, fun q => ?_⟩
  · rw [igt_true] at q; simp only [ofNat, llen] at q
    exact res_tnil (.int (by simp only [plainE]; rw [if_neg (by omega)]) .nil) (by simp only [plainR]; rw [if_neg (by omega)]) hK
  · rw [igt_false] at q; simp only [ofNat, llen] at q
    have hl : p.length ≤ 48 := by omega
    rw [conv_len hl]
    exact ⟨room1 (by simp only [nadd, llen, List.length_cons, List.length_nil]; omega), ⟨by simp [lcat]; omega⟩, res_tvec rfl (.int (by simp only [plainE]; rw [if_pos hl]) .nil) (by simp only [plainR]; rw [if_pos hl]; rfl) hK⟩

theorem good_noise : Sx.Good Try.prog 14 (lstS noiseR noiseE) := by
  refine Sx.Good.reads (D := []) mixed gamC1_good Try.func14 (by kernel_rfl) rfl fun d args σ K h => ?_
  simp only [lstS] at h
  split at h <;> try exact h.elim
  obtain ⟨p, ⟨hs, hK⟩, hr⟩ := rdb_row h
  refine ⟨[.one (.vec 200000)], [(200000, .rview [.ints .u8 p])], .row [.ints .u8] _ hr (by decide) (.nil _), by simp, 1, ?_⟩
  rw [Noise_vc]
  refine ⟨fun q => ?_, fun q => ?_⟩
  · rw [igt_true] at q; simp only [ofNat, llen] at q
    exact res_tnil (.int (by simp only [noiseE]; rw [if_neg (by omega)]) .nil) (by simp only [noiseR]; rw [if_neg (by omega)]) hK
  · rw [igt_false] at q; simp only [ofNat, llen] at q
    have hl : p.length ≤ 319 := by omega
    exact ⟨⟨rfl, by simp; omega⟩, res_tvec rfl (.int (by simp only [noiseE]; rw [if_pos hl]) .nil) (by simp only [noiseR]; rw [if_pos hl]; rfl) hK⟩

theorem good_rnoise : Sx.Good Try.prog 11 (lstS noiseR noiseE) := by
  refine Sx.Good.reads (D := []) mixed gamC1_good Try.func11 (by kernel_rfl) rfl fun d args σ K h => ?_
  simp only [lstS] at h
  split at h <;> try exact h.elim
  obtain ⟨p, ⟨hs, hK⟩, hr⟩ := rdb_row h
  refine ⟨[.one (.vec 200000)], [(200000, .rview [.ints .u8 p])], .row [.ints .u8] _ hr (by decide) (.nil _), by simp, 1, ?_⟩
  rw [rNoise_vc]
  refine ⟨fun q => ?_, fun q => ?_⟩
  · rw [igt_true] at q; simp only [ofNat, llen] at q
    exact res_tnil (.int (by simp only [noiseE]; rw [if_neg (by omega)]) .nil) (by simp only [noiseR]; rw [if_neg (by omega)]) hK
  · rw [igt_false] at q; simp only [ofNat, llen] at q
    have hl : p.length ≤ 319 := by omega
    exact ⟨room1 (by simp only [nadd, llen]; omega), ⟨by simp [lcat]; omega⟩, res_tvec rfl (.int (by simp only [noiseE]; rw [if_pos hl]) .nil) (by simp only [noiseR]; rw [if_pos hl]; rfl) hK⟩

/-- what both Cuts come to -/
theorem cut_len {c : List Int} {n : Int} (h : c.length ≠ 320) : cutE c n = 50 := by simp only [cutE]; rw [if_pos h]
theorem cut_arg {c : List Int} {n : Int} (h : c.length = 320) (hn : n < 0 ∨ 320 < n) : cutE c n = 2 := by simp only [cutE]; rw [if_neg (by omega), if_pos hn]
theorem cut_pad {c : List Int} {n : Int} (h : c.length = 320) (h0 : 0 ≤ n) (h1 : n ≤ 320) (hz : zb (c.drop n.toNat) = false) : cutE c n = 51 := by simp only [cutE]; rw [if_neg (by omega), if_neg (by omega), if_pos hz]
theorem cut_ok {c : List Int} {n : Int} (h : c.length = 320) (h0 : 0 ≤ n) (h1 : n ≤ 320) (hz : zb (c.drop n.toNat) = true) : cutE c n = 0 := by simp only [cutE]; rw [if_neg (by omega), if_neg (by omega), if_neg (by simp [hz])]
theorem cut_none {c : List Int} {n : Int} (h : cutE c n ≠ 0) : cutR c n = [] := by simp only [cutR]; rw [if_neg h]
theorem cut_some {c : List Int} {n : Int} (h : cutE c n = 0) : cutR c n = c.take n.toNat := by simp only [cutR]; rw [if_pos h]

theorem cut_plain (R : AV → Mem → Prop) (c : List Int) (n : Int) (hz : zb (c.drop n.toNat) = true ∨ zb (c.drop n.toNat) = false) : True := trivial

theorem good_cut : Sx.Good Try.prog 18 cutS := by
  refine Sx.Good.reads (D := []) mixed gamC1_good Try.func18 (by kernel_rfl) rfl fun d args σ K h => ?_
  simp only [cutS] at h
  split at h <;> try exact h.elim
  rename_i n
  obtain ⟨c, ⟨hs, hK⟩, hr⟩ := rdb_row h
  refine ⟨[.one (.vec 200000), .one (.int .i64 n)], [(200000, .rview [.ints .u8 c])], .row [.ints .u8] _ hr (by decide) (.plain (plain_int _ _) (.nil _)), by simp, 1, ?_⟩
  rw [Cut_vc]
  have nil : ∀ {e : Int}, cutE c n = e → e ≠ 0 → ∀ σ', Res d 1 σ K (.tup [.c (.con (.slice none 0 0)), .c (.int .i64 e)]) σ' := fun he hne σ' => res_tnil (.int he.symm .nil) (cut_none (by rw [he]; exact hne)) hK
  refine ⟨fun q => ?_, fun q => ⟨fun q0 => ⟨fun q1 => ?_, fun q1 => ?_⟩, fun q0 => ?_⟩⟩
  · rw [ine_true] at q; simp only [ofNat, llen] at q
    exact nil (cut_len (by omega)) (by decide) _
  · rw [ine_false] at q; rw [igt_true] at q1; simp only [ofNat, llen] at q
    exact nil (cut_arg (by omega) (Or.inr q1)) (by decide) _
  · rw [ine_false] at q; rw [igt_false] at q1; rw [ilt_false] at q0; simp only [ofNat, llen] at q
    have hl : c.length = 320 := by omega
    have ed : lsub c (nat n) (nsub (llen c) (nat n)) = c.drop n.toNat := by simp only [nat, nsub, llen]; exact lsub_drop c _
    have et : lsub c 0 (nat n) = c.take n.toNat := by simp only [nat]; exact lsub_take c _
    rw [ed, et]
    have hb : NonNeg n ∧ Fits (nat n) (llen c) := ⟨⟨q0⟩, ⟨by simp only [nat, llen]; omega⟩⟩
    refine ⟨hb, ⟨by simp; omega⟩, fun q2 => ?_, fun q2 => ⟨hb, room1 (by simp only [nadd, llen, List.length_take]; omega), ?_⟩⟩
    · rw [bnot_true] at q2
      exact nil (cut_pad hl q0 q1 q2) (by decide) _
    · rw [bnot_false] at q2
      have e0 := cut_ok hl q0 q1 q2
      exact res_tvec rfl (.int e0.symm .nil) (by rw [cut_some e0]; rfl) hK
  · rw [ine_false] at q; rw [ilt_true] at q0; simp only [ofNat, llen] at q
    exact nil (cut_arg (by omega) (Or.inl q0)) (by decide) _

theorem good_rcut : Sx.Good Try.prog 16 cutS := by
  refine Sx.Good.reads (D := []) mixed gamC1_good Try.func16 (by kernel_rfl) rfl fun d args σ K h => ?_
  simp only [cutS] at h
  split at h <;> try exact h.elim
  rename_i n
  obtain ⟨c, ⟨hs, hK⟩, hr⟩ := rdb_row h
  refine ⟨[.one (.vec 200000), .one (.int .i64 n)], [(200000, .rview [.ints .u8 c])], .row [.ints .u8] _ hr (by decide) (.plain (plain_int _ _) (.nil _)), by simp, 1, ?_⟩
  rw [rCut_vc]
  have nil : ∀ {e : Int}, cutE c n = e → e ≠ 0 → ∀ σ', Res d 1 σ K (.tup [.c (.con (.slice none 0 0)), .c (.int .i64 e)]) σ' := fun he hne σ' => res_tnil (.int he.symm .nil) (cut_none (by rw [he]; exact hne)) hK
  refine ⟨fun q => ?_, fun q => ⟨fun q0 => ⟨fun q1 => ?_, fun q1 => ?_⟩, fun q0 => ?_⟩⟩
  · rw [ine_true] at q; simp only [ofNat, llen] at q
    exact nil (cut_len (by omega)) (by decide) _
  · rw [ine_false] at q; rw [igt_true] at q1; simp only [ofNat, llen] at q
    exact nil (cut_arg (by omega) (Or.inr q1)) (by decide) _
  · rw [ine_false] at q; rw [igt_false] at q1; rw [ilt_false] at q0; simp only [ofNat, llen] at q
    have hl : c.length = 320 := by omega
    have ed : List.drop (nat n) c = c.drop n.toNat := rfl
    have et : lsub c 0 (nat n) = c.take n.toNat := by simp only [nat]; exact lsub_take c _
    rw [ed, et]
    have hb : NonNeg n ∧ Fits (nat n) (llen c) := ⟨⟨q0⟩, ⟨by simp only [nat, llen]; omega⟩⟩
    refine ⟨⟨hs, ⟨q0⟩⟩, fun q2 => ?_, fun q2 => ⟨hb, room1 (by simp only [nadd, llen, List.length_take]; omega), ?_⟩⟩
    · rw [bnot_true] at q2
      exact nil (cut_pad hl q0 q1 q2) (by decide) _
    · rw [bnot_false] at q2
      have e0 := cut_ok hl q0 q1 q2
      exact res_tvec rfl (.int e0.symm .nil) (by rw [cut_some e0]; rfl) hK
  · rw [ine_false] at q; rw [ilt_true] at q0; simp only [ofNat, llen] at q
    exact nil (cut_arg (by omega) (Or.inl q0)) (by decide) _
end Go.Proofs.Ytgkklobamebnjaa.G
