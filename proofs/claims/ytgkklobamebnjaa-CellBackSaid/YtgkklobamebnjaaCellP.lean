/- The cell's functions do what the plain mathematics says. -/
import Derived.Test.YtgkklobamebnjaaCellG
import Derived.Test.YtgkklobamebnjaaResM
namespace Go.Proofs.Ytgkklobamebnjaa.G
open Go Go.Sx Go.Cel
set_option linter.unusedSimpArgs false
set_option linter.unusedVariables false

theorem mixed : Try.prog.follows .mixedOrders = true := by kernel_rfl

theorem zb_cons (x : Int) (l : List Int) : zb (x :: l) = (x == 0 && zb l) := rfl

theorem noughts_l0 (R : AV → Mem → Prop) (p : List Int) (hs : Short p) : ∀ (n i : Nat), p.length - i = n → i ≤ p.length → (∀ b, b = zb (p.drop i) → R (.one (.lit b)) [(200000, .rview [.ints .u8 p])]) → noughts.l0 R p (n + 1) (i : Int) := by
  have hle := hs.le
  intro n
  induction n with
  | zero =>
    intro i hn hi h
    rw [noughts.l0_succ]
    refine ⟨fun q => ?_, fun _ => h true ?_⟩
    · rw [ilt_true] at q; simp only [ofNat, llen] at q; omega
    · rw [List.drop_of_length_le (by omega)]; rfl
  | succ n ih =>
    intro i hn hi h
    rw [noughts.l0_succ]
    have hlt : i < p.length := by omega
    have hd := lget_succ p i hlt
    refine ⟨fun _ => ⟨⟨by omega, by simp only [llen]; omega⟩, fun q => h false ?_, fun q => ?_⟩, fun q => ?_⟩
    · rw [ine_true] at q
      simp only [nat, Int.toNat_natCast] at q
      rw [hd, zb_cons]; simp [q]
    · rw [ine_false] at q
      simp only [nat, Int.toNat_natCast] at q
      rw [add_i64 (by omega) (by omega)]
      refine ih (i + 1) (by omega) (by omega) fun b hb => h b ?_
      rw [hb, hd, zb_cons, q]; rfl
    · rw [ilt_false] at q; simp only [ofNat, llen] at q; omega

theorem good_noughts : Sx.Good Try.prog 21 noughtsS := by
  refine Sx.Good.reads (D := []) mixed (good0 _) Try.func21 (by kernel_rfl) rfl fun d args σ K h => ?_
  simp only [noughtsS] at h
  split at h <;> try exact h.elim
  obtain ⟨l, ⟨hs, hK⟩, hr⟩ := rdb_row h
  refine ⟨[.one (.vec 200000)], [(200000, .rview [.ints .u8 l])], .row [.ints .u8] _ hr (by decide) (.nil _), by simp, l.length + 1 + 1, ?_⟩
  rw [noughts_vc]
  exact noughts_l0 _ l hs l.length 0 (by omega) (by omega) fun b hb => res_lit hb hK

theorem rnoughts_l0 (R : AV → Mem → Prop) (p : List Int) (hs : Short p) : ∀ (n i : Nat), p.length - i = n → (∀ b, b = zb (p.drop i) → R (.one (.lit b)) [(200000, .rview [.ints .u8 p])]) → rnoughts.l0 R p (n + 1) (i : Int) := by
  have hle := hs.le
  intro n
  induction n with
  | zero =>
    intro i hn h
    rw [rnoughts.l0_succ]
    refine ⟨fun q => ?_, fun _ => h true ?_⟩
    · rw [ilt_true] at q; simp only [ofNat, llen] at q; omega
    · rw [List.drop_of_length_le (by omega)]; rfl
  | succ n ih =>
    intro i hn h
    rw [rnoughts.l0_succ]
    have hlt : i < p.length := by omega
    have hd := lget_succ p i hlt
    refine ⟨fun _ => ⟨⟨by omega, by simp only [llen]; omega⟩, fun q => h false ?_, fun q => ?_⟩, fun q => ?_⟩
    · rw [ine_true] at q
      simp only [nat, Int.toNat_natCast] at q
      rw [hd, zb_cons]; simp [q]
    · rw [ine_false] at q
      simp only [nat, Int.toNat_natCast] at q
      rw [add_i64 (by omega) (by omega)]
      refine ih (i + 1) (by omega) fun b hb => h b ?_
      rw [hb, hd, zb_cons, q]; rfl
    · rw [ilt_false] at q; simp only [ofNat, llen] at q; omega

theorem good_rnoughts : Sx.Good Try.prog 22 noughts2S := by
  refine Sx.Good.reads (D := []) mixed (good0 _) Try.func22 (by kernel_rfl) rfl fun d args σ K h => ?_
  simp only [noughts2S] at h
  split at h <;> try exact h.elim
  rename_i i
  obtain ⟨l, ⟨⟨hs, hi⟩, hK⟩, hr⟩ := rdb_row h
  obtain ⟨j, rfl⟩ := Int.eq_ofNat_of_zero_le hi.le
  refine ⟨[.one (.vec 200000), .one (.int .i64 (j : Int))], [(200000, .rview [.ints .u8 l])], .row [.ints .u8] _ hr (by decide) (.plain (plain_int _ _) (.nil _)), by simp, l.length - j + 1 + 1, ?_⟩
  rw [rnoughts_vc]
  exact rnoughts_l0 _ l hs (l.length - j) j rfl fun b hb => res_lit (by rw [hb]; simp [nat]) hK

theorem zeros_drop (n i : Nat) : (List.replicate n (0 : Int)).drop i = List.replicate (n - i) 0 := by simp

theorem lput_zeros (f : List Int) (h : f.length ≤ 320) : lput (lzeros 320) 0 f = fillL f := by
  simp only [lput, lzeros, fillL, List.take_zero, List.nil_append, Nat.zero_add, List.drop_replicate]

theorem lput_fill (f p : List Int) (h : f.length + p.length ≤ 320) : lput (fillL f) f.length p = fillL (f ++ p) := by
  have e1 : (fillL f).take f.length = f := by simp [fillL]
  have e2 : (fillL f).drop (f.length + p.length) = List.replicate (320 - (f.length + p.length)) 0 := by
    unfold fillL
    rw [List.drop_append, List.drop_of_length_le (by omega), List.nil_append, zeros_drop]
    congr 1; omega
  simp only [lput, e1, e2]
  simp [fillL, List.append_assoc]

theorem good_laid : Sx.Good Try.prog 20 laidS := by
  refine Sx.Good.reads (D := []) mixed (good0 _) Try.func20 (by kernel_rfl) rfl fun d args σ K h => ?_
  simp only [laidS] at h
  split at h <;> try exact h.elim
  rename_i x i y
  obtain ⟨p, h, hp⟩ := rdb_row h
  obtain ⟨f, ⟨hok, hK⟩, hf⟩ := rdb_row h
  have he := hok.e
  have hle := hok.le
  refine ⟨[.one (.vec 200000), .one (.int .i64 i), .one (.vec 200002)], [(200000, .rview [.ints .u8 p]), (200002, .rview [.ints .u8 f])], .row [.ints .u8] _ hp (by decide) (.plain (plain_int _ _) (.row [.ints .u8] _ hf (by decide) (.nil _))), by simp, 1, ?_⟩
  rw [laid_vc]
  have hi : nat i = f.length := by simp only [nat]; omega
  have e1 : nmin (llen f) 320 = f.length := by simp only [nmin, llen]; omega
  rw [e1, lsub_all, lput_zeros f (by omega), hi]
  have e2 : llen (fillL f) = 320 := by simp [llen, fillL]; omega
  rw [e2]
  have e3 : nmin (llen p) (nsub 320 f.length) = p.length := by simp only [nmin, llen, nsub]; omega
  rw [e3, lsub_all, lput_fill f p hle]
  exact ⟨⟨by decide, by decide, by decide, by decide⟩, ⟨⟨by omega⟩, ⟨by omega⟩⟩, res_vec rfl rfl hK⟩

theorem fill_l0 (R : AV → Mem → Prop) (p q : List Int) : ∀ (n : Nat) (l : List Int), 320 - l.length = n → l.length ≤ 320 → R (.one (.vec 100003)) [(100003, .vec [.ints .u8 (fillL l)]), (200000, .rview [.ints .u8 p])] → fill.l0 R p (n + 1) l := by
  intro n
  induction n with
  | zero =>
    intro l hn hle h
    rw [fill.l0_succ]
    refine ⟨fun q => ?_, fun _ => ?_⟩
    · rw [ilt_true] at q; simp only [ofNat, llen] at q; omega
    · have : fillL l = l := by unfold fillL; rw [hn]; simp
      rw [this] at h; exact h
  | succ n ih =>
    intro l hn hle h
    have hl : (lcat l [0]).length = l.length + 1 := by simp [lcat]
    rw [fill.l0_succ]
    refine ⟨fun _ => ⟨room1 (by simp only [nadd, llen]; omega), ih _ (by rw [hl]; omega) (by rw [hl]; omega) ?_⟩, fun q => ?_⟩
    · have : fillL (lcat l [0]) = fillL l := by
        unfold fillL
        rw [hl, hn, show 320 - (l.length + 1) = n by omega, List.replicate_succ]
        simp [lcat]
      rw [this]; exact h
    · rw [ilt_false] at q; simp only [ofNat, llen] at q; omega

theorem good_fill : Sx.Good Try.prog 19 fillS := by
  refine Sx.Good.reads (D := [⟨3, [.ints .u8], true, false⟩]) mixed (good0 _) Try.func19 (by kernel_rfl) rfl fun d args σ K h => ?_
  simp only [fillS] at h
  split at h <;> try exact h.elim
  obtain ⟨p, ⟨hok, hK⟩, hr⟩ := rdb_row h
  have hle := hok.le
  refine ⟨[.one (.vec 200000)], [(200000, .rview [.ints .u8 p])], .row [.ints .u8] _ hr (by decide) (.nil _), by simp, 320 - p.length + 1 + 1, ?_⟩
  rw [fill_vc]
  refine ⟨room1 (by simp only [nadd, llen]; omega), fill_l0 _ p p (320 - p.length) _ (by simp [lcat]) (by simpa [lcat] using hle) ?_⟩
  exact res_vec rfl (by simp [lcat]) hK

theorem gamC1_good : GoodG Try.prog gamC1 := by
  refine ((((good0 _).ext good_noughts ?_).ext good_rnoughts ?_).ext good_laid ?_).ext good_fill ?_
  · exact ⟨_, Try.func21, by decide, by kernel_rfl⟩
  · exact ⟨_, Try.func22, by decide, by kernel_rfl⟩
  · exact ⟨_, Try.func20, by decide, by kernel_rfl⟩
  · exact ⟨_, Try.func19, by decide, by kernel_rfl⟩
end Go.Proofs.Ytgkklobamebnjaa.G
