import Derived.Test.YtacnldmmacjpoaaNoiseCellsE
set_option linter.unusedSimpArgs false
set_option linter.unusedVariables false
namespace Go.Nz
open Go Go.Sx Go.Cel Go.Blk
theorem szN_le {left : Int} (h : left ≤ 7) : szN left ≤ 286 := by unfold szN; split <;> omega
theorem nsz {left : Int} (h0 : ¬ left ≤ 0) (h8 : left ≤ 8) : nszI left = (szN left : Int) := by
 unfold nszI szN; rw [if_neg (by omega), if_neg h0]; omega
theorem ncF_len (s : List Int) (left : Int) : ∀ i, (ncF s left i).length = i
 | 0 => rfl
 | i + 1 => by simp [ncF, ncF_len s left i]
theorem stream_len {w s : List Int} {n : Nat} (h : n ≤ 65536) : (strmI w s (n : Int)).length = n := by
 unfold strmI; rw [if_neg (by omega), mask_len]; simp [lzeros]
theorem key_bl {p : List Int} (hb : Bs p) (h : 18 ≤ p.length) : BL 16 (lsub p 2 16) := ⟨lsub_len _ _ _ (by omega), fun x hx => by
 have := hb.all x (List.mem_of_mem_drop (List.mem_of_mem_take hx))
 exact ⟨this.1, this.2⟩⟩
theorem zero_bl : BL 16 (lzeros 16) := ⟨by simp [lzeros], fun x hx => by
 have := (List.mem_replicate.mp hx).2
 subst this; exact ⟨by decide, by decide⟩⟩
theorem keyst {p : List Int} (h : 18 ≤ p.length) : upto 16 16 (fun q => lget p (2 + q)) (fun _ => 0) = lsub p 2 16 := by
 rw [upto_done, eq_tab (l := lsub p 2 16) (n := 16) (lsub_len _ _ _ (by omega))]
 exact tab_ext fun i hi => (lget_sub _ _ _ _ hi).symm
theorem llget_ext {a b : List (List Int)} (hl : a.length = b.length) (h : ∀ i, i < a.length → llget a i = llget b i) : a = b :=
 list_ext hl fun i hi => by rw [llget_some hi, llget_some (by omega), h i hi]
end Go.Nz
namespace Go.Proofs.Ytacnldmmacjpoaa.G
open Go Go.Sx Go.Nz Go.Cel Go.Blk
set_option maxRecDepth 20000
theorem good_nosize : Sx.Good Try.prog 21 nsizeS := by
 refine Sx.Good.pure (D := []) mixed (good0 _) Try.func21 (by kernel_rfl) rfl fun d args σ K h => ?_
 simp only [nsizeS] at h
 split at h <;> try exact h.elim
 rename_i left
 refine ⟨by simp [plain_int], _, plain_int _ _, h, 0 + 1, ?_⟩
 rw [nosize_vc]
 refine ⟨fun q => ⟨fun r => ?_, fun r => ?_⟩, fun q => ?_⟩
 ·rw [igt_true] at r; rw [nszI, if_pos (Or.inr r)]
 ·rw [igt_false] at r; rw [ilt_false] at q
  rw [nszI, if_neg (by omega), mul_i64 (by omega) (by omega), add_i64 (by omega) (by omega)]
 ·rw [ilt_true] at q; rw [nszI, if_pos (Or.inl q)]
theorem good_nrsize : Sx.Good Try.prog 24 nsizeS := by
 refine Sx.Good.pure (D := []) mixed (good0 _) Try.func24 (by kernel_rfl) rfl fun d args σ K h => ?_
 simp only [nsizeS] at h
 split at h <;> try exact h.elim
 rename_i left
 refine ⟨by simp [plain_int], _, plain_int _ _, h, 0 + 1, ?_⟩
 rw [nrsize_vc]
 refine ⟨fun q => ⟨fun r => ?_, fun r => ?_⟩, fun q => ?_⟩
 ·rw [igt_true] at r; rw [nszI, if_pos (Or.inr r)]
 ·rw [igt_false] at r; rw [ilt_false] at q
  rw [nszI, if_neg (by omega), sub_i64 (by omega) (by omega), mul_i64 (by omega) (by omega), add_i64 (by omega) (by omega), show (82 : Int) + 34 * (left - 1) = 48 + 34 * left by omega]
 ·rw [ilt_true] at q; rw [nszI, if_pos (Or.inl q)]
theorem good_nalike : Sx.Good Try.prog 16 alikeS := by
 refine Sx.Good.reads (D := []) mixed (good0 _) Try.func16 (by kernel_rfl) rfl fun d args σ K h => ?_
 simp only [alikeS] at h
 split at h <;> try exact h.elim
 rename_i x y
 obtain ⟨a, h, ha⟩ := rdr_row h
 obtain ⟨b, ⟨⟨sa, sb⟩, hK⟩, hb⟩ := rdr_row h
 have la := sa.le
 refine ⟨[.one (.vec 200000), .one (.vec 200001)], [(200000, .rview [.rows .u8 a]), (200001, .rview [.rows .u8 b])], .rowH [.rows .u8] _ ha (by decide) (.rowH [.rows .u8] _ hb (by decide) (.nil _)), by simp, ?_⟩
 have key : a.length = b.length → ∀ n i, a.length - i = n → i ≤ a.length → (∀ j, j < i → llget a j = llget b j) → ∃ f, nalike.l0 (Res d alikeS.news σ K) a b f (i : Int) := by
  intro hl n
  induction n with
  | zero =>
   intro i hn hi hp
   refine ⟨0 + 1, ?_⟩
   rw [nalike.l0_succ]
   refine ⟨fun q => ?_, fun _ => res_lit ?_ hK⟩
   ·rw [ilt_true, ofNat_def, llen_def] at q; omega
   ·symm; unfold llq; rw [decide_eq_true_eq]
    exact llget_ext hl fun j hj => hp j (by omega)
  | succ n ih =>
   intro i hn hi hp
   by_cases e : llget a i = llget b i
   ·obtain ⟨f, hf⟩ := ih (i + 1) (by omega) (by omega) (fun j hj => by
     by_cases c : j = i
     ·rw [c]; exact e
     ·exact hp j (by omega))
    refine ⟨f + 1, ?_⟩
    have k0 : ∀ M, nalike.k0 (Res d alikeS.news σ K) (i : Int) a b f (M + 100) := fun M => by
     rw [nalike.k0_eq, add1_i64 (by omega), nat_cast, e, seq2_self rfl]
     exact ⟨fun q => (by cases q), fun _ => hf⟩
    rw [nalike.l0_succ]
    refine ⟨fun _ => ⟨⟨by omega, by rw [llen_def]; omega⟩, ⟨by omega, by rw [llen_def]; omega⟩, k0 3889, k0 3889⟩, fun q => ?_⟩
    rw [ilt_false, ofNat_def, llen_def] at q; omega
   ·refine ⟨0 + 1, ?_⟩
    have k0 : ∀ M, nalike.k0 (Res d alikeS.news σ K) (i : Int) a b 0 (M + 100) := fun M => by
     have hn : seq2 (bytesOf (llget a i)) (bytesOf (llget b i)) = false := by
      cases q : seq2 (bytesOf (llget a i)) (bytesOf (llget b i)) with
      | false => rfl
      | true => exact absurd (bytes_eq (sa.bs i (by omega)) (sb.bs i (by omega)) (seq2_true.1 q)) e
     rw [nalike.k0_eq, nat_cast, hn]
     refine ⟨fun _ => res_lit ?_ hK, fun q => (by cases q)⟩
     symm; unfold llq; rw [decide_eq_false_iff_not]; intro c; exact e (by rw [c])
    rw [nalike.l0_succ]
    refine ⟨fun _ => ⟨⟨by omega, by rw [llen_def]; omega⟩, ⟨by omega, by rw [llen_def]; omega⟩, k0 3889, k0 3889⟩, fun q => ?_⟩
    rw [ilt_false, ofNat_def, llen_def] at q; omega
 by_cases hl : a.length = b.length
 ·obtain ⟨f, hf⟩ := key hl a.length 0 (by omega) (Nat.zero_le _) (fun j hj => by omega)
  refine ⟨f + 1, ?_⟩
  rw [nalike_vc]
  refine ⟨fun q => ?_, fun _ => hf⟩
  rw [ine_true, ofNat_def, ofNat_def, llen_def, llen_def] at q; omega
 ·refine ⟨0 + 1, ?_⟩
  rw [nalike_vc]
  refine ⟨fun _ => res_lit ?_ hK, fun q => ?_⟩
  ·symm; unfold llq; rw [decide_eq_false_iff_not]; intro c; exact hl (by rw [c])
  ·rw [ine_false, ofNat_def, ofNat_def, llen_def, llen_def] at q; omega
theorem gamN6_good : GoodG Try.prog gamN6 := by
 refine (((((gamN5_good.ext good_stream ?_).ext good_rstream ?_).ext good_pad ?_).ext good_noise ?_).ext good_rpad ?_).ext good_rnoise ?_
 ·exact ⟨_, Try.func23, by decide, by kernel_rfl⟩
 ·exact ⟨_, Try.func25, by decide, by kernel_rfl⟩
 ·exact ⟨_, Try.func22, by decide, by kernel_rfl⟩
 ·exact ⟨_, Try.func20, by decide, by kernel_rfl⟩
 ·exact ⟨_, Try.func27, by decide, by kernel_rfl⟩
 ·exact ⟨_, Try.func26, by decide, by kernel_rfl⟩
theorem gamN7_good : GoodG Try.prog gamN7 := by
 refine ((gamN6_good.ext good_nosize ?_).ext good_nrsize ?_).ext good_nalike ?_
 ·exact ⟨_, Try.func21, by decide, by kernel_rfl⟩
 ·exact ⟨_, Try.func24, by decide, by kernel_rfl⟩
 ·exact ⟨_, Try.func16, by decide, by kernel_rfl⟩
structure Chk (s : List Int) (C i z : Nat) : Prop where
 f1 : (NonNeg (mul .i64 (add .i64 (i : Int) 1) (z : Int)) ∧ Fits (nat (mul .i64 (add .i64 (i : Int) 1) (z : Int))) (llen s)) ∧ (NonNeg (mul .i64 (i : Int) (z : Int)) ∧ Fits (nat (mul .i64 (i : Int) (z : Int))) (nat (mul .i64 (add .i64 (i : Int) 1) (z : Int))))
 f2 : (NonNeg (add .i64 (mul .i64 (i : Int) (z : Int)) (z : Int)) ∧ Fits (nat (add .i64 (mul .i64 (i : Int) (z : Int)) (z : Int))) (llen s)) ∧ (NonNeg (mul .i64 (i : Int) (z : Int)) ∧ Fits (nat (mul .i64 (i : Int) (z : Int))) (nat (add .i64 (mul .i64 (i : Int) (z : Int)) (z : Int))))
 p1 : lsub s (nat (mul .i64 (i : Int) (z : Int))) (nsub (nat (mul .i64 (add .i64 (i : Int) 1) (z : Int))) (nat (mul .i64 (i : Int) (z : Int)))) = lsub s (i * z) z
 p2 : lsub s (nat (mul .i64 (i : Int) (z : Int))) (nsub (nat (add .i64 (mul .i64 (i : Int) (z : Int)) (z : Int))) (nat (mul .i64 (i : Int) (z : Int)))) = lsub s (i * z) z
 len : (lsub s (i * z) z).length = z
theorem chk {s : List Int} {C i z : Nat} (hs : s.length = C * z) (hC : C ≤ 16) (hz : z ≤ 286) (hi : i < C) : Chk s C i z := by
 have h1 : (i + 1) * z ≤ C * z := Nat.mul_le_mul_right _ hi
 have h2 : C * z ≤ 16 * 286 := Nat.mul_le_mul hC hz
 have h3 : (i + 1) * z = i * z + z := Nat.succ_mul _ _
 have e1 : mul .i64 (i : Int) (z : Int) = ((i * z : Nat) : Int) := mulN_i64 (by omega)
 have e2 : add .i64 (i : Int) 1 = ((i + 1 : Nat) : Int) := add1_i64 (by omega)
 have e3 : mul .i64 ((i + 1 : Nat) : Int) (z : Int) = (((i + 1) * z : Nat) : Int) := mulN_i64 (by omega)
 have e4 : add .i64 ((i * z : Nat) : Int) (z : Int) = ((i * z + z : Nat) : Int) := addN_i64 (by omega)
 have e5 : nsub (i * z + z) (i * z) = z := by rw [nsub_def]; omega
 constructor
 ·rw [e1, e2, e3, nat_cast, nat_cast, llen_def, hs, h3]
  exact ⟨⟨⟨by omega⟩, ⟨by omega⟩⟩, ⟨by omega⟩, ⟨by omega⟩⟩
 ·rw [e1, e4, nat_cast, nat_cast, llen_def, hs]
  exact ⟨⟨⟨by omega⟩, ⟨by omega⟩⟩, ⟨by omega⟩, ⟨by omega⟩⟩
 ·rw [e1, e2, e3, nat_cast, nat_cast, h3, e5]
 ·rw [e1, e4, nat_cast, nat_cast, e5]
 ·exact lsub_len _ _ _ (by omega)
theorem hfrom_next (s : List Int) (left : Int) (i : Nat) (y : List Int) (hy : y = ncO s left i) : lcat (hfrom 1 (ncF s left i)) [(HS.mk (llen ([] :: ncF s left i)) 0 (llen y))] = hfrom 1 (ncF s left (i + 1)) ∧ List.append ([] :: ncF s left i) [y] = [] :: ncF s left (i + 1) := by
 subst hy
 refine ⟨?_, rfl⟩
 rw [ncF, hfrom_app, lcat_def, llen_def, llen_def, List.length_cons, Nat.add_comm]
theorem good_ncells : Sx.Good Try.prog 14 cellsS := by
 refine Sx.Good.priv (D := [⟨11, [.rows .u8], true, false⟩]) mixed gamN7_good Try.func14 (by kernel_rfl) rfl fun d args σ K h => ?_
 simp only [cellsS] at h
 split at h <;> try exact h.elim
 rename_i x c left
 obtain ⟨p, h, hr⟩ := rdb_row h
 split at h <;> try exact h.elim
 rename_i os ho
 obtain ⟨hp, hK⟩ := h
 have hsl := hp.short
 refine ⟨.u8, os, _, _, [(200000, .rview [.ints .u8 p]), (900004, .heap .u8 [[]])], ho, .row [.ints .u8] _ hr (by decide) (.plain (plain_int _ _) (.plain (plain_int _ _) (.nil _))), rfl, by simp [AV.refs, AC.refs, hname], by simp, fun m => ?_, ?_⟩
 ·simp only [Mem.find, hname]
  by_cases h1 : 200000 = m
  ·subst h1; simp
  ·by_cases h2 : 900004 = m
   ·subst h2; simp
   ·simp [h1, h2]
 have fail : ∀ {e : Int}, ncE p c left = e → e ≠ 0 → ResH d cellsS.news σ .u8 os K (.tup [.c (.con (.slice none 0 0)), .c (.int .i64 e)]) [(200000, .rview [.ints .u8 p]), (900004, .heap .u8 [[]])] := fun {e} he hne => by
  have hl : ncL p c left = [] := by unfold ncL; rw [if_neg (by rw [he]; exact hne)]
  rw [hl, he] at hK
  exact resH_hnil (by rfl) (.int rfl .nil) hK
 by_cases hE : ncE p c left = 0
 ·have hcl : ¬ (c < 0 ∨ 16 < c ∨ left < 0 ∨ 7 < left) := fun q => by unfold ncE at hE; rw [if_pos q] at hE; cases hE
  have h18 : 18 ≤ p.length := by
   unfold ncE at hE
   rw [if_neg hcl] at hE
   by_cases q : p.length < 18
   ·rw [if_pos q] at hE; cases hE
   ·omega
  obtain ⟨C, rfl⟩ := Int.eq_ofNat_of_zero_le (show 0 ≤ c by omega)
  have hC : C ≤ 16 := by omega
  have hz := szN_le (left := left) (by omega)
  have hcz : C * szN left ≤ 16 * 286 := Nat.mul_le_mul hC hz
  have em : mul .i64 (C : Int) (szN left : Int) = ((C * szN left : Nat) : Int) := mulN_i64 (by omega)
  generalize hs : strmI (ks (lsub p 2 16)) (lzeros 16) ((C * szN left : Nat) : Int) = s
  have hsl : s.length = C * szN left := by rw [← hs]; exact stream_len (by omega)
  have hS : ncS p (C : Int) left = s := by unfold ncS; rw [← hs]; congr 1
  have hL : ncL p (C : Int) left = ncF s left C := by unfold ncL; rw [if_pos hE, hS]; rfl
  rw [hL, hE] at hK
  have okey := key_bl hp.bs h18
  have guard : ((NonNeg 18 ∧ Fits 18 (llen p)) ∧ (NonNeg 2 ∧ Fits 2 18)) := ⟨⟨⟨by decide⟩, ⟨h18⟩⟩, ⟨by decide⟩, ⟨by decide⟩⟩
  have room : ∀ i, i ≤ C → ∀ y : List Int, Room (nadd (llen (hfrom 1 (ncF s left i))) (llen [(HS.mk (llen ([] :: ncF s left i)) 0 (llen y))])) 24 := fun i hi y => ⟨by
   rw [llen_def, hfrom_len, ncF_len]
   show (5 * (i + 1) + 4096) * 24 ≤ _
   omega⟩
  by_cases h0 : left ≤ 0
  ·have hz48 : szN left = 48 := by unfold szN; rw [if_pos h0]
   rw [hz48] at hsl hs em
   have em : mul .i64 (C : Int) 48 = ((C * 48 : Nat) : Int) := em
   refine ⟨(1 + 1 * (C - 0)) + 1, ?_⟩
   rw [ncells_vc]
   have loop := loop_n (fun f (i : Int) (st : List HS × List (List Int)) => ncells.l1 (ResH d cellsS.news σ .u8 os K) (C : Int) p f i st.1 st.2) C (fun i => (hfrom 1 (ncF s left i), [] :: ncF s left i)) 1 1 (fun g i hi hg => by
    have hck := chk hsl hC (by omega) hi
    have c1 : lsub s (nat (mul .i64 (i : Int) 48)) (nsub (nat (mul .i64 (add .i64 (i : Int) 1) 48)) (nat (mul .i64 (i : Int) 48))) = lsub s (i * 48) 48 := hck.p1
    have hO : ncO s left i = noiseR (lsub s (i * 48) 48) := by unfold ncO; rw [if_pos h0, hz48]
    obtain ⟨n1, n2⟩ := hfrom_next s left i _ hO.symm
    have hl := hck.len
    have he : noiseE (lsub s (i * 48) 48) = 0 := by unfold noiseE; rw [if_pos (by omega)]
    show ncells.l1 (ResH d cellsS.news σ .u8 os K) (C : Int) p (g + 1) (i : Int) (hfrom 1 (ncF s left i)) ([] :: ncF s left i)
    rw [ncells.l1_succ]
    simp only [em, hs, c1, he, n1, n2, ine_self]
    refine ⟨fun _ => ⟨hck.f1, ⟨by omega⟩, fun q => (by cases q), fun _ => ⟨room i (by omega) _, ?_⟩⟩, fun q => ?_⟩
    ·rw [add1_i64 (by omega)]; exact hg
    ·rw [ilt_false] at q; omega) (by
    show ncells.l1 (ResH d cellsS.news σ .u8 os K) (C : Int) p 1 (C : Int) (hfrom 1 (ncF s left C)) ([] :: ncF s left C)
    rw [ncells.l1_succ]
    refine ⟨fun q => ?_, fun _ => ?_⟩
    ·rw [ilt_true] at q; omega
    ·exact resH_hvec (by rfl) (by rfl) (.int rfl .nil) rfl hK) 0 (Nat.zero_le _)
   have ng : igt left 0 = false := by rw [igt_false]; omega
   have g1 : ilt (C : Int) 0 = false := by rw [ilt_false]; omega
   have g2 : igt (C : Int) 16 = false := by rw [igt_false]; omega
   have g3 : ilt left 0 = false := by rw [ilt_false]; omega
   have g4 : igt left 7 = false := by rw [igt_false]; omega
   have g5 : ilt (ofNat (llen p)) 18 = false := by rw [ilt_false, ofNat_def, llen_def]; omega
   simp only [g1, g2, g3, g4, g5, ng, Bool.false_eq_true, false_implies, forall_const, and_true, true_and]
   exact ⟨guard, ⟨by decide⟩, ⟨h18⟩, ⟨okey, zero_bl⟩, loop⟩
  ·have hnz := nsz h0 (by omega)
   refine ⟨(1 + 1 * (C - 0)) + 1, ?_⟩
   rw [ncells_vc]
   have loop := loop_n (fun f (i : Int) (st : List HS × List (List Int)) => ncells.l0 (ResH d cellsS.news σ .u8 os K) left (C : Int) p f i st.1 st.2) C (fun i => (hfrom 1 (ncF s left i), [] :: ncF s left i)) 1 1 (fun g i hi hg => by
    have hck := chk hsl hC hz hi
    have c1 := hck.p1
    have hO : ncO s left i = padR (lsub s (i * szN left) (szN left)) := by unfold ncO; rw [if_neg h0]
    obtain ⟨n1, n2⟩ := hfrom_next s left i _ hO.symm
    have hl := hck.len
    have he : padE (lsub s (i * szN left) (szN left)) = 0 := by unfold padE; rw [if_pos (by omega)]
    show ncells.l0 (ResH d cellsS.news σ .u8 os K) left (C : Int) p (g + 1) (i : Int) (hfrom 1 (ncF s left i)) ([] :: ncF s left i)
    rw [ncells.l0_succ]
    simp only [hnz, em, hs, c1, he, n1, n2, ine_self]
    refine ⟨fun _ => ⟨hck.f1, ⟨by omega⟩, fun q => (by cases q), fun _ => ⟨room i (by omega) _, ?_⟩⟩, fun q => ?_⟩
    ·rw [add1_i64 (by omega)]; exact hg
    ·rw [ilt_false] at q; omega) (by
    show ncells.l0 (ResH d cellsS.news σ .u8 os K) left (C : Int) p 1 (C : Int) (hfrom 1 (ncF s left C)) ([] :: ncF s left C)
    rw [ncells.l0_succ]
    refine ⟨fun q => ?_, fun _ => ?_⟩
    ·rw [ilt_true] at q; omega
    ·exact resH_hvec (by rfl) (by rfl) (.int rfl .nil) rfl hK) 0 (Nat.zero_le _)
   have ng : igt left 0 = true := by rw [igt_true]; omega
   have g1 : ilt (C : Int) 0 = false := by rw [ilt_false]; omega
   have g2 : igt (C : Int) 16 = false := by rw [igt_false]; omega
   have g3 : ilt left 0 = false := by rw [ilt_false]; omega
   have g4 : igt left 7 = false := by rw [igt_false]; omega
   have g5 : ilt (ofNat (llen p)) 18 = false := by rw [ilt_false, ofNat_def, llen_def]; omega
   simp only [g1, g2, g3, g4, g5, ng, Bool.false_eq_true, Bool.true_eq_false, false_implies, forall_const, and_true, true_and]
   exact ⟨guard, ⟨by decide⟩, ⟨h18⟩, ⟨okey, zero_bl⟩, loop⟩
 ·refine ⟨0 + 1, ?_⟩
  rw [ncells_vc]
  have two : (c < 0 ∨ 16 < c ∨ left < 0 ∨ 7 < left) → ncE p c left = 2 := fun q => by unfold ncE; rw [if_pos q]
  refine ⟨fun q1 => ⟨fun q2 => ⟨fun q3 => ⟨fun q4 => fail (two ?_) (by decide), fun q4 => ⟨fun q5 => fail ?_ (by decide), fun q5 => ?_⟩⟩, fun q3 => fail (two ?_) (by decide)⟩, fun q2 => fail (two ?_) (by decide)⟩, fun q1 => fail (two ?_) (by decide)⟩
  ·rw [igt_true] at q4; omega
  ·rw [ilt_false] at q1 q3; rw [igt_false] at q2 q4; rw [ilt_true, ofNat_def, llen_def] at q5
   unfold ncE; rw [if_neg (by omega), if_pos (by omega)]
  ·exfalso
   rw [ilt_false] at q1 q3; rw [igt_false] at q2 q4; rw [ilt_false, ofNat_def, llen_def] at q5
   apply hE
   unfold ncE; rw [if_neg (by omega), if_neg (by omega)]
  ·rw [ilt_true] at q3; omega
  ·rw [igt_true] at q2; omega
  ·rw [ilt_true] at q1; omega
theorem good_rcells : Sx.Good Try.prog 15 cellsS := by
 refine Sx.Good.priv (D := [⟨13, [.rows .u8], true, false⟩]) mixed gamN7_good Try.func15 (by kernel_rfl) rfl fun d args σ K h => ?_
 simp only [cellsS] at h
 split at h <;> try exact h.elim
 rename_i x c left
 obtain ⟨p, h, hr⟩ := rdb_row h
 split at h <;> try exact h.elim
 rename_i os ho
 obtain ⟨hp, hK⟩ := h
 have hsl := hp.short
 refine ⟨.u8, os, _, _, [(200000, .rview [.ints .u8 p]), (900004, .heap .u8 [[]])], ho, .row [.ints .u8] _ hr (by decide) (.plain (plain_int _ _) (.plain (plain_int _ _) (.nil _))), rfl, by simp [AV.refs, AC.refs, hname], by simp, fun m => ?_, ?_⟩
 ·simp only [Mem.find, hname]
  by_cases h1 : 200000 = m
  ·subst h1; simp
  ·by_cases h2 : 900004 = m
   ·subst h2; simp
   ·simp [h1, h2]
 have fail : ∀ {e : Int}, ncE p c left = e → e ≠ 0 → ResH d cellsS.news σ .u8 os K (.tup [.c (.con (.slice none 0 0)), .c (.int .i64 e)]) [(200000, .rview [.ints .u8 p]), (900004, .heap .u8 [[]])] := fun {e} he hne => by
  have hl : ncL p c left = [] := by unfold ncL; rw [if_neg (by rw [he]; exact hne)]
  rw [hl, he] at hK
  exact resH_hnil (by rfl) (.int rfl .nil) hK
 by_cases hE : ncE p c left = 0
 ·have hcl : ¬ (c < 0 ∨ 16 < c ∨ left < 0 ∨ 7 < left) := fun q => by unfold ncE at hE; rw [if_pos q] at hE; cases hE
  have h18 : 18 ≤ p.length := by
   unfold ncE at hE
   rw [if_neg hcl] at hE
   by_cases q : p.length < 18
   ·rw [if_pos q] at hE; cases hE
   ·omega
  obtain ⟨C, rfl⟩ := Int.eq_ofNat_of_zero_le (show 0 ≤ c by omega)
  have hC : C ≤ 16 := by omega
  have hz := szN_le (left := left) (by omega)
  have hcz : C * szN left ≤ 16 * 286 := Nat.mul_le_mul hC hz
  have em : mul .i64 (C : Int) (szN left : Int) = ((C * szN left : Nat) : Int) := mulN_i64 (by omega)
  generalize hs : strmI (ks (lsub p 2 16)) (lzeros 16) ((C * szN left : Nat) : Int) = s
  have hsl : s.length = C * szN left := by rw [← hs]; exact stream_len (by omega)
  have hS : ncS p (C : Int) left = s := by unfold ncS; rw [← hs]; congr 1
  have hL : ncL p (C : Int) left = ncF s left C := by unfold ncL; rw [if_pos hE, hS]; rfl
  rw [hL, hE] at hK
  have okey := key_bl hp.bs h18
  have room : ∀ i, i ≤ C → ∀ y : List Int, Room (nadd (llen (hfrom 1 (ncF s left i))) (llen [(HS.mk (llen ([] :: ncF s left i)) 0 (llen y))])) 24 := fun i hi y => ⟨by
   rw [llen_def, hfrom_len, ncF_len]
   show (5 * (i + 1) + 4096) * 24 ≤ _
   omega⟩
  have g1 : ilt (C : Int) 0 = false := by rw [ilt_false]; omega
  have g2 : igt (C : Int) 16 = false := by rw [igt_false]; omega
  have g3 : ilt left 0 = false := by rw [ilt_false]; omega
  have g4 : ige left 8 = false := by rw [ige_false]; omega
  have g5 : ilt (ofNat (llen p)) 18 = false := by rw [ilt_false, ofNat_def, llen_def]; omega
  have kz : upto 16 0 (fun q => lget p (2 + q)) (fun _ => 0) = lzeros 16 := by rw [upto_zero, lzeros_tab]
  have kstep : ∀ q : Nat, q < 16 → (InB (add .i64 2 (q : Int)) (llen p) ∧ (InB (q : Int) 16 ∧ Low (nadd 0 (nat (q : Int))) 16)) ∧ lset (upto 16 q (fun q => lget p (2 + q)) (fun _ => 0)) (nadd 0 (nat (q : Int))) (lget p (nat (add .i64 2 (q : Int)))) = upto 16 (q + 1) (fun q => lget p (2 + q)) (fun _ => 0) := fun q hq => by
   have e : add .i64 2 (q : Int) = ((2 + q : Nat) : Int) := addN_i64 (a := 2) (by omega)
   rw [e, nat_cast, nat_cast, nadd_def, Nat.zero_add]
   exact ⟨⟨⟨by omega, by rw [llen_def]; omega⟩, ⟨by omega, by omega⟩, ⟨hq⟩⟩, upto_lset rfl⟩
  by_cases h0 : left ≤ 0
  ·have hz48 : szN left = 48 := by unfold szN; rw [if_pos h0]
   rw [hz48] at hsl hs em
   have em : mul .i64 (C : Int) 48 = ((C * 48 : Nat) : Int) := em
   have ng : igt left 0 = false := by rw [igt_false]; omega
   have loop := loop_n (fun f (i : Int) (st : List HS × List (List Int)) => rcells.l3 (ResH d cellsS.news σ .u8 os K) (C : Int) left (lsub p 2 16) p f i st.1 st.2) C (fun i => (hfrom 1 (ncF s left i), [] :: ncF s left i)) 1 1 (fun g i hi hg => by
    have hck := chk hsl hC (by omega) hi
    have c1 : lsub s (nat (mul .i64 (i : Int) 48)) (nsub (nat (add .i64 (mul .i64 (i : Int) 48) 48)) (nat (mul .i64 (i : Int) 48))) = lsub s (i * 48) 48 := hck.p2
    have hO : ncO s left i = noiseR (lsub s (i * 48) 48) := by unfold ncO; rw [if_pos h0, hz48]
    obtain ⟨n1, n2⟩ := hfrom_next s left i _ hO.symm
    have hl := hck.len
    show rcells.l3 (ResH d cellsS.news σ .u8 os K) (C : Int) left (lsub p 2 16) p (g + 1) (i : Int) (hfrom 1 (ncF s left i)) ([] :: ncF s left i)
    rw [rcells.l3_succ]
    simp only [em, hs, c1, n1, n2, ng]
    refine ⟨fun _ => ⟨hck.f2, ⟨by omega⟩, fun q => (by cases q), fun _ => ⟨room i (by omega) _, ?_⟩⟩, fun q => ?_⟩
    ·rw [add1_i64 (by omega)]; exact hg
    ·rw [ilt_false] at q; omega) (by
    show rcells.l3 (ResH d cellsS.news σ .u8 os K) (C : Int) left (lsub p 2 16) p 1 (C : Int) (hfrom 1 (ncF s left C)) ([] :: ncF s left C)
    rw [rcells.l3_succ]
    refine ⟨fun q => ?_, fun _ => ?_⟩
    ·rw [ilt_true] at q; omega
    ·exact resH_hvec (by rfl) (by rfl) (.int rfl .nil) rfl hK) 0 (Nat.zero_le _)
   have keys := loop_n (fun f (i : Int) (st : List Int) => rcells.l2 (ResH d cellsS.news σ .u8 os K) (C : Int) left p f i st) 16 (fun i => upto 16 i (fun q => lget p (2 + q)) (fun _ => 0)) 1 ((1 + 1 * (C - 0)) + 1) (fun g q hq hg => by
    obtain ⟨⟨k1, k2, k3⟩, k4⟩ := kstep q hq
    show rcells.l2 (ResH d cellsS.news σ .u8 os K) (C : Int) left p (g + 1) (q : Int) (upto 16 q (fun q => lget p (2 + q)) (fun _ => 0))
    rw [rcells.l2_succ, k4]
    refine ⟨fun _ => ⟨k1, k2, k3, ?_⟩, fun r => ?_⟩
    ·rw [add1_i64 (by omega)]; exact hg
    ·rw [ilt_false] at r; omega) (by
    show rcells.l2 (ResH d cellsS.news σ .u8 os K) (C : Int) left p ((1 + 1 * (C - 0)) + 1) ((16 : Nat) : Int) (upto 16 16 (fun q => lget p (2 + q)) (fun _ => 0))
    rw [rcells.l2_succ, keyst h18]
    refine ⟨fun q => ?_, fun _ => ⟨⟨okey, zero_bl⟩, loop⟩⟩
    rw [ilt_true] at q; omega) 0 (by decide)
   refine ⟨((1 + 1 * (C - 0)) + 1 + 1 * (16 - 0)) + 1, ?_⟩
   rw [rcells_vc]
   simp only [g1, g2, g3, g4, g5, ng, Bool.false_eq_true, Bool.true_eq_false, false_implies, forall_const, and_true, true_and]
   rw [← kz]
   exact keys
  ·have hnz := nsz h0 (by omega)
   have ng : igt left 0 = true := by rw [igt_true]; omega
   have loop := loop_n (fun f (i : Int) (st : List HS × List (List Int)) => rcells.l1 (ResH d cellsS.news σ .u8 os K) (C : Int) left (lsub p 2 16) p f i st.1 st.2) C (fun i => (hfrom 1 (ncF s left i), [] :: ncF s left i)) 1 1 (fun g i hi hg => by
    have hck := chk hsl hC hz hi
    have c1 := hck.p2
    have hO : ncO s left i = padR (lsub s (i * szN left) (szN left)) := by unfold ncO; rw [if_neg h0]
    obtain ⟨n1, n2⟩ := hfrom_next s left i _ hO.symm
    have hl := hck.len
    show rcells.l1 (ResH d cellsS.news σ .u8 os K) (C : Int) left (lsub p 2 16) p (g + 1) (i : Int) (hfrom 1 (ncF s left i)) ([] :: ncF s left i)
    rw [rcells.l1_succ]
    simp only [hnz, em, hs, c1, n1, n2, ng]
    refine ⟨fun _ => ⟨hck.f2, ⟨by omega⟩, fun _ => ⟨⟨by omega⟩, room i (by omega) _, ?_⟩, fun q => (by cases q)⟩, fun q => ?_⟩
    ·rw [add1_i64 (by omega)]; exact hg
    ·rw [ilt_false] at q; omega) (by
    show rcells.l1 (ResH d cellsS.news σ .u8 os K) (C : Int) left (lsub p 2 16) p 1 (C : Int) (hfrom 1 (ncF s left C)) ([] :: ncF s left C)
    rw [rcells.l1_succ]
    refine ⟨fun q => ?_, fun _ => ?_⟩
    ·rw [ilt_true] at q; omega
    ·exact resH_hvec (by rfl) (by rfl) (.int rfl .nil) rfl hK) 0 (Nat.zero_le _)
   have keys := loop_n (fun f (i : Int) (st : List Int) => rcells.l0 (ResH d cellsS.news σ .u8 os K) (C : Int) left p f i st) 16 (fun i => upto 16 i (fun q => lget p (2 + q)) (fun _ => 0)) 1 ((1 + 1 * (C - 0)) + 1) (fun g q hq hg => by
    obtain ⟨⟨k1, k2, k3⟩, k4⟩ := kstep q hq
    show rcells.l0 (ResH d cellsS.news σ .u8 os K) (C : Int) left p (g + 1) (q : Int) (upto 16 q (fun q => lget p (2 + q)) (fun _ => 0))
    rw [rcells.l0_succ, k4]
    refine ⟨fun _ => ⟨k1, k2, k3, ?_⟩, fun r => ?_⟩
    ·rw [add1_i64 (by omega)]; exact hg
    ·rw [ilt_false] at r; omega) (by
    show rcells.l0 (ResH d cellsS.news σ .u8 os K) (C : Int) left p ((1 + 1 * (C - 0)) + 1) ((16 : Nat) : Int) (upto 16 16 (fun q => lget p (2 + q)) (fun _ => 0))
    rw [rcells.l0_succ, keyst h18]
    refine ⟨fun q => ?_, fun _ => ⟨⟨okey, zero_bl⟩, loop⟩⟩
    rw [ilt_true] at q; omega) 0 (by decide)
   refine ⟨((1 + 1 * (C - 0)) + 1 + 1 * (16 - 0)) + 1, ?_⟩
   rw [rcells_vc]
   simp only [g1, g2, g3, g4, g5, ng, Bool.false_eq_true, Bool.true_eq_false, false_implies, forall_const, and_true, true_and]
   rw [← kz]
   exact keys
 ·refine ⟨0 + 1, ?_⟩
  rw [rcells_vc]
  have two : (c < 0 ∨ 16 < c ∨ left < 0 ∨ 7 < left) → ncE p c left = 2 := fun q => by unfold ncE; rw [if_pos q]
  refine ⟨fun q1 => ⟨fun q2 => ⟨fun q3 => ⟨fun q4 => fail (two ?_) (by decide), fun q4 => ⟨fun q5 => fail ?_ (by decide), fun q5 => ?_⟩⟩, fun q3 => fail (two ?_) (by decide)⟩, fun q2 => fail (two ?_) (by decide)⟩, fun q1 => fail (two ?_) (by decide)⟩
  ·rw [ige_true] at q4; omega
  ·rw [ilt_false] at q1 q3; rw [igt_false] at q2; rw [ige_false] at q4; rw [ilt_true, ofNat_def, llen_def] at q5
   unfold ncE; rw [if_neg (by omega), if_pos (by omega)]
  ·exfalso
   rw [ilt_false] at q1 q3; rw [igt_false] at q2; rw [ige_false] at q4; rw [ilt_false, ofNat_def, llen_def] at q5
   apply hE
   unfold ncE; rw [if_neg (by omega), if_neg (by omega)]
  ·rw [ilt_true] at q3; omega
  ·rw [igt_true] at q2; omega
  ·rw [ilt_true] at q1; omega
theorem gamN8_good : GoodG Try.prog gamN8 := by
 refine (gamN7_good.ext good_ncells ?_).ext good_rcells ?_
 ·exact ⟨_, Try.func14, by decide, by kernel_rfl⟩
 ·exact ⟨_, Try.func15, by decide, by kernel_rfl⟩
end Go.Proofs.Ytacnldmmacjpoaa.G
namespace Go.Sx
open Go
noncomputable def gamN9 : Gam := ext gamN8 17 apartQ
end Go.Sx
namespace Go.Proofs.Ytacnldmmacjpoaa.G
open Go Go.Sx
theorem gamN9_good : GoodG Try.prog gamN9 := gamN8_good.ext good_apart ⟨_, Try.func17, by decide, by kernel_rfl⟩
end Go.Proofs.Ytacnldmmacjpoaa.G
