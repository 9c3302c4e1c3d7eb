/- Own texts of this proof, laid one behind the other: OniP4, OniB, OniQ, OniG3, OniA, OniG4, OniG5, OniG6, OniL, OniG8, OniL2, OniL3. -/
import Derived.Test.YtjahiggpglbgoaaDoorOnionOneE

/- A layer is taken off. -/
namespace Go.Proofs.YtjahiggpglbgoaaDoor.G
open Go Go.Sx Go.Hsh Go.Mac Go.Blk Go.Cel Go.Oni Go.Fld
set_option maxRecDepth 20000
set_option linter.unusedSimpArgs false
set_option linter.unusedVariables false

/-- what holds of a cell that is cut -/
structure Cut0 (key c : List Int) (m : Nat) : Prop where
  h1 : 1 ≤ m
  h2 : m ≤ 8
  len : key.length = 32
  clen : c.length = 320
  cut : cutR c (sizeI (m : Int)) = lsub c 0 (48 + 34 * m)
  sz : sizeI (m : Int) = ((48 + 34 * m : Nat) : Int)
  cutE : cutE c (sizeI (m : Int)) = 0
theorem cut0 {key c : List Int} {left : Int} (hlen : key.length = 32) (q2 : sizeI left ≠ 0) (q3 : cutE c (sizeI left) = 0) : ∃ m : Nat, left = (m : Int) ∧ Cut0 key c m := by
  have hrg : 1 ≤ left ∧ left ≤ 8 := by have := mt sizeI_zero.mpr q2; omega
  have hsz := sizeI_some hrg.1 hrg.2
  obtain ⟨m, rfl⟩ := Int.eq_ofNat_of_zero_le (show 0 ≤ left by omega)
  obtain ⟨c1, c2, c3, c4, c5⟩ := cutE_ok q3
  have es : sizeI (m : Int) = ((48 + 34 * m : Nat) : Int) := by rw [hsz]; omega
  refine ⟨m, rfl, by omega, by omega, hlen, c1, ?_, es, q3⟩
  rw [c5, es, Int.toNat_natCast]
theorem Cut0.bx {key c : List Int} {m : Nat} (h : Cut0 key c m) : lsub (lsub c 0 (48 + 34 * m)) 32 (48 + 34 * m - 32) = bxO (m : Int) c := by
  rw [lsub_zero_lsub (by omega)]
  unfold bxO; rw [h.sz, Int.toNat_natCast]
theorem Cut0.olen {key c : List Int} {m : Nat} (h : Cut0 key c m) : (lsub c 0 (48 + 34 * m)).length = 48 + 34 * m := lsub_length (by have := h.clen; have := h.h2; omega)
theorem Cut0.bxlen {key c : List Int} {m : Nat} (h : Cut0 key c m) : (bxO (m : Int) c).length = 16 + 34 * m := by
  have := h.clen; have := h.h2
  rw [← h.bx, lsub_length (by rw [h.olen]; omega)]; omega
theorem Cut0.pe {key c : List Int} {m : Nat} (h : Cut0 key c m) : peE key (m : Int) c = if lsub c 16 16 ≠ tagO (dvM key (nnO c)) (m : Int) (nnO c) (bxO (m : Int) c) then 70 else if inOk (opO key (m : Int) c) (m : Int) = false then 71 else 0 := by
  conv => lhs; unfold peE
  rw [if_neg (by rintro (q | q); exact q h.len; rw [h.sz] at q; omega), if_neg (by rw [h.cutE]; simp)]
theorem nn_bl {c : List Int} (hb : Bs c) (hl : c.length = 320) : BL 16 (nnO c) := bl_of (lsub_length (by omega)) (lsub_bs hb _ _)

theorem good_opeel : Sx.Good Tryd.prog 18 peelS := by
  refine Sx.Good.reads (D := []) mixed gamO3_good Tryd.func18 (by kernel_rfl) rfl fun d args σ K h => ?_
  simp only [peelS] at h
  split at h <;> try exact h.elim
  rename_i x left y
  obtain ⟨key, h, hrow⟩ := rdb_row h
  obtain ⟨c, ⟨⟨hr, hk, hlf, hc⟩, hK⟩, hrow2⟩ := rdb_row h
  refine ⟨_, _, .row [.ints .u8] _ hrow (by decide) (.plain (plain_int _ _) (.row [.ints .u8] _ hrow2 (by decide) (.glob (roots_at hr) (by intro m; rfl) (.nil _)))), by simp, 1, ?_⟩
  have e := opeel_vc (Res d peelS.news σ K) 0 key c left
  refine e.mpr ?_
  rw [pE_eq, pC_eq, pR_eq] at hK
  have fail : ∀ (e : Int) (σ' : Mem), peE key left c = e → e ≠ 0 → Res d peelS.news σ K (.tup [.g [.cells [.con (.slice none 0 0)], .ints .u8 16 (lzeros 16)], .c (.int .i64 e)]) σ' := fun e σ' he h0 =>
    res_unpeeled (peC_fail (by rw [he]; exact h0)).1 (peC_fail (by rw [he]; exact h0)).2.symm he.symm hK
  refine ⟨fun q1 => ⟨hlf, fun q2 => fail 2 _ ?_ (by decide), fun q2 => ⟨hlf, ⟨hc.sh⟩, fun q3 => fail _ _ ?_ ?_, fun q3 => ?_⟩⟩, fun q1 => fail 2 _ ?_ (by decide)⟩
  · rw [ieq_true] at q2; unfold peE; rw [if_pos (Or.inr q2)]
  · rw [ine_false] at q1; simp only [ofNat, llen] at q1; rw [ieq_false] at q2; rw [ine_true] at q3
    have hn0 : ¬ (key.length ≠ 32 ∨ sizeI left = 0) := by rintro (h | h); exact h (by omega); exact q2 h
    unfold peE; rw [if_neg hn0, if_pos q3]
  · rw [ine_true] at q3; exact q3
  · rw [ine_false] at q1 q3; simp only [ofNat, llen] at q1; rw [ieq_false] at q2
    obtain ⟨m, rfl, H⟩ := cut0 (key := key) (show key.length = 32 by omega) q2 q3
    have h1 := H.h1
    have h2 := H.h2
    have hcl := H.clen
    have hnn := nn_bl hc.bs H.clen
    have hM := dvM_bl key (nnO c)
    have hB := dvB_bl key (nnO c)
    have hR := dvR_bl key (nnO c)
    have ol := H.olen
    have bl := H.bxlen
    have f1 : lsub (lsub c 0 (48 + 34 * m)) 0 16 = nnO c := lsub_zero_lsub (by omega)
    have f2 : lsub (lsub c 0 (48 + 34 * m)) 16 16 = lsub c 16 16 := lsub_zero_lsub (by omega)
    have f3 := H.bx
    have f4 : lsub (lsub c 0 (48 + 34 * m)) 0 32 = lsub c 0 32 := lsub_zero_lsub (by omega)
    have f5 : dvE key = 0 := by unfold dvE; rw [if_pos H.len]
    have f6 : lsub (dvB key (nnO c)) 0 16 = dvB key (nnO c) := lsub_whole hB.len
    have f7 : lsub (dvR key (nnO c)) 0 32 = dvR key (nnO c) := lsub_whole hR.len
    have f8 : mask (ks (dvB key (nnO c))) (lzeros 16) (bxO (m : Int) c) = opO key (m : Int) c := rfl
    have hz : BL 16 (lzeros 16) := bl_of rfl (zeros_bs _)
    have l16 : (lsub c 16 16).length = 16 := lsub_length (by omega)
    have l32 : (lsub c 0 32).length = 32 := lsub_length (by omega)
    have tl := tagO_len (dvM key (nnO c)) (m : Int) (nnO c) (bxO (m : Int) c)
    have pl := opO_len (key := key) (left := (m : Int)) (c := c) (by omega) (by omega) hcl
    have pb : Bs (opO key (m : Int) c) := opO_bs hc.bs
    have hpe := H.pe
    simp only [H.cut, llen_def, ol, nsub_def, f1, f2, f3, f4, f5, f6, f7, f8, nadd_def, show ine 0 0 = false from rfl, Bool.false_eq_true, false_implies, true_and, forall_const, Fits_iff, NonNeg_iff]
    refine ⟨by omega, by omega, ⟨hk, ⟨hnn⟩⟩, ⟨by omega, by omega⟩, ⟨⟨by omega, by omega⟩, by omega, by omega⟩, ⟨⟨hM⟩, ⟨hnn⟩, ⟨by omega, lsub_bs hc.bs _ _⟩⟩, ⟨⟨⟨by omega⟩, lsub_bs hc.bs _ _⟩, ⟨by omega⟩, tagO_bs _ _ _ _⟩, fun t => fail 70 _ ?_ (by decide), fun t => ⟨by omega, ⟨⟨hB, hz⟩, ⟨by omega⟩, lsub_bs hc.bs _ _⟩, ⟨by omega, by omega, by rw [pl, H.sz]; omega, pb⟩, fun u => fail 71 _ ?_ (by decide), fun u => ?_⟩⟩
    · rw [bnot_true, leq_false] at t; rw [hpe, if_pos t]
    · rw [bnot_false, leq_true] at t; rw [hpe, if_neg (by rw [t]; simp), if_pos u]
    · rw [bnot_false, leq_true] at t
      have pe0 : peE key (m : Int) c = 0 := by rw [hpe, if_neg (by rw [t]; simp), if_neg (by rw [u]; simp)]
      obtain ⟨N, eN, hN, _, _⟩ := inN_nat pb
      obtain ⟨hle, _⟩ := inOk_some (show (1 : Int) ≤ (m : Int) by omega) (by omega) u
      rw [eN] at hle
      have il : (lsub (opO key (m : Int) c) 2 N).length = N := lsub_length (by rw [pl]; omega)
      have en : nat (inN (opO key (m : Int) c)) = N := by rw [eN, nat_cast]
      have einn : innO (opO key (m : Int) c) = lsub (opO key (m : Int) c) 2 N := by unfold innO; rw [eN, Int.toNat_natCast]
      have k0 : opeel.k0 (Res d peelS.news σ K) (m : Int) key c (nat (inN (opO key (m : Int) c))) (leq (lsub c 16 16) (tagO (dvM key (nnO c)) (m : Int) (nnO c) (bxO (m : Int) c))) (tagO (dvM key (nnO c)) (m : Int) (nnO c) (bxO (m : Int) c)) (opO key (m : Int) c) 0 := by
        rw [opeel.k0_eq]
        simp only [H.cut, f1, f4, f7, en, Fits_iff]
        have hres : ∀ (mm : Nat) (σ' : Mem) (l : List Int), Mem.find σ' mm = some (.vec [.ints .u8 l]) → l = peC key (m : Int) c → Res d peelS.news σ K (.tup [.g [.cells [.vec mm], .ints .u8 16 (lput (lzeros 16) 0 (lsub (tagL (dvR key (nnO c)) (lsub c 0 32)) 0 16))], .c (.int .i64 0)]) σ' := by
          intro mm σ' l hf hl
          refine res_peeled hf hl ?_ pe0.symm hK
          rw [lput_full (by rw [lsub_length (by rw [tag_len]; omega)]; rfl), tagL_eq]
          unfold peR; rw [if_pos pe0]
        refine ⟨by omega, by omega, by omega, fun v => ⟨⟨by omega⟩, fun w => ?_, fun _ => hres _ _ _ rfl ?_⟩, fun v => ⟨⟨by omega⟩, fun w => ?_, fun _ => hres _ _ _ rfl ?_⟩⟩
        · rw [ine_true] at w; exact absurd (by unfold padE; rw [if_pos (by omega)]) w
        · rw [igt_true] at v; unfold peC; rw [if_pos pe0, if_pos v, einn]
        · rw [igt_false] at v; rw [ine_true] at w; exact absurd (by unfold plainE; rw [if_pos (by omega)]) w
        · rw [igt_false] at v; unfold peC; rw [if_pos pe0, if_neg (by omega), einn]
      have sR : Sg (dvR key (nnO c)) := ⟨by rw [hR.len]; omega⟩
      exact ⟨⟨by omega, by omega⟩, ⟨by omega, ⟨sR, ⟨by omega⟩⟩, k0⟩, by omega, ⟨sR, ⟨by omega⟩⟩, k0⟩
  · rw [ine_true] at q1; simp only [ofNat, llen] at q1
    unfold peE; rw [if_pos (Or.inl (by omega))]

theorem orpeel_l1 {R : AV → Mem → Prop} {key c : List Int} {m N : Nat} (hk : Ky key) (hc : In c) (H : Cut0 key c m) (eN : inN (opO key (m : Int) c) = (N : Int))
    (eA : add .i64 (mul .i64 256 (conv .i64 (lget (opO key (m : Int) c) 0))) (conv .i64 (lget (opO key (m : Int) c) 1)) = (N : Int)) (hle : N ≤ 14 + 34 * m)
    (hno : zb ((opO key (m : Int) c).drop (2 + N)) = false → ∀ σ, R (.tup [.g [.cells [.con (.slice none 0 0)], .ints .u8 16 (lzeros 16)], .c (.int .i64 71)]) σ)
    (hyes : zb ((opO key (m : Int) c).drop (2 + N)) = true → ∀ mm σ l r, Mem.find σ mm = some (.vec [.ints .u8 l]) → l = (if 1 < (m : Int) then padR (innO (opO key (m : Int) c)) else plainR (innO (opO key (m : Int) c))) → r = lsub (hmac (dvR key (nnO c)) (lsub c 0 32)) 0 16 → R (.tup [.g [.cells [.vec mm], .ints .u8 16 r], .c (.int .i64 0)]) σ) :
    ∀ (k i : Nat), k = (opO key (m : Int) c).length - i → 2 + N ≤ i → i ≤ (opO key (m : Int) c).length → (∀ j, 2 + N ≤ j → j < i → lget (opO key (m : Int) c) j = 0) → ∃ f, orpeel.l1 R (m : Int) (opO key (m : Int) c) key (nnO c) c f (i : Int) := by
  have h1 := H.h1
  have h2 := H.h2
  have hcl := H.clen
  have ol := H.olen
  have hR := dvR_bl key (nnO c)
  have pl := opO_len (key := key) (left := (m : Int)) (c := c) (by omega) (by omega) hcl
  have f4 : lsub (lsub c 0 (48 + 34 * m)) 0 32 = lsub c 0 32 := lsub_zero_lsub (by omega)
  have f7 : lsub (dvR key (nnO c)) 0 32 = dvR key (nnO c) := lsub_whole hR.len
  have l32 : (lsub c 0 32).length = 32 := lsub_length (by omega)
  have il : (lsub (opO key (m : Int) c) 2 N).length = N := lsub_length (by rw [pl]; omega)
  have einn : innO (opO key (m : Int) c) = lsub (opO key (m : Int) c) 2 N := by unfold innO; rw [eN, Int.toNat_natCast]
  have e2 : add .i64 2 (N : Int) = ((2 + N : Nat) : Int) := addN_i64 (a := 2) (by omega)
  intro k
  induction k with
  | zero =>
    intro i hk0 hi0 hi hz
    obtain rfl : i = (opO key (m : Int) c).length := by omega
    have hzb : zb ((opO key (m : Int) c).drop (2 + N)) = true := by
      rw [zb_true]
      intro j hj
      rw [List.length_drop] at hj
      rw [lget_drop]; exact hz _ (by omega) (by omega)
    refine ⟨1, ?_⟩
    rw [orpeel.l1_succ, eA, e2]
    simp only [H.cut, llen_def, ol, nsub_def, f4, f7, nadd_def, nat_cast, ofNat_def, show 2 + N - 2 = N by omega, Fits_iff, NonNeg_iff]
    have er : lput (lzeros 16) 0 (lsub (tagL (dvR key (nnO c)) (lsub c 0 32)) 0 16) = lsub (hmac (dvR key (nnO c)) (lsub c 0 32)) 0 16 := by
      rw [lput_full (by rw [lsub_length (by rw [tag_len]; omega)]; rfl), tagL_eq]
    refine ⟨fun q => ?_, fun _ => ⟨by omega, ⟨by omega, by omega⟩, ⟨⟨hR⟩, ⟨⟨by omega⟩, lsub_bs hc.bs _ _⟩⟩, by omega, fun v => ⟨⟨⟨by omega, by omega⟩, by omega, by omega⟩, ⟨by omega⟩, hyes hzb _ _ _ _ rfl ?_ er⟩, fun v => ⟨⟨⟨by omega, by omega⟩, by omega, by omega⟩, ⟨by omega⟩, hyes hzb _ _ _ _ rfl ?_ er⟩⟩⟩
    · rw [ilt_true] at q; omega
    · rw [igt_true] at v; rw [if_pos v, einn]
    · rw [igt_false] at v; rw [if_neg (by omega), einn]
  | succ k ih =>
    intro i hk0 hi0 hi hz
    by_cases h0 : lget (opO key (m : Int) c) i = 0
    · obtain ⟨f, hf⟩ := ih (i + 1) (by omega) (by omega) (by omega) (fun j hj1 hj => by
        by_cases e : j = i
        · rw [e]; exact h0
        · exact hz j hj1 (by omega))
      refine ⟨f + 1, ?_⟩
      rw [orpeel.l1_succ]
      simp only [nat_cast, llen_def, ofNat_def, InB_iff]
      rw [add1_i64 (by omega)]
      refine ⟨fun _ => ⟨⟨by omega, by omega⟩, fun q => ?_, fun _ => hf⟩, fun q => ?_⟩
      · rw [ine_true] at q; exact absurd h0 q
      · rw [ilt_false] at q; omega
    · refine ⟨1, ?_⟩
      rw [orpeel.l1_succ]
      simp only [nat_cast, llen_def, ofNat_def, InB_iff]
      refine ⟨fun _ => ⟨⟨by omega, by omega⟩, fun _ => hno ?_ _, fun q => ?_⟩, fun q => ?_⟩
      · cases hz2 : zb ((opO key (m : Int) c).drop (2 + N)) with
        | false => rfl
        | true =>
          have := zb_true.mp hz2 (i - (2 + N)) (by rw [List.length_drop]; omega)
          rw [lget_drop, show 2 + N + (i - (2 + N)) = i by omega] at this
          exact absurd this h0
      · rw [ine_false] at q; exact absurd q h0
      · rw [ilt_false] at q; omega

theorem good_orpeel : Sx.Good Tryd.prog 17 rpeelS := by
  refine Sx.Good.reads (D := []) mixed gamO3_good Tryd.func17 (by kernel_rfl) rfl fun d args σ K h => ?_
  simp only [rpeelS] at h
  split at h <;> try exact h.elim
  rename_i x left y
  obtain ⟨key, h, hrow⟩ := rdb_row h
  obtain ⟨c, ⟨⟨hk, hlf, hc⟩, hK⟩, hrow2⟩ := rdb_row h
  refine ⟨_, _, .row [.ints .u8] _ hrow (by decide) (.plain (plain_int _ _) (.row [.ints .u8] _ hrow2 (by decide) (.nil _))), by simp, ?_⟩
  rw [pE_eq, pC_eq, pR_eq] at hK
  have fail : ∀ (e : Int) (σ' : Mem), peE key left c = e → e ≠ 0 → Res d rpeelS.news σ K (.tup [.g [.cells [.con (.slice none 0 0)], .ints .u8 16 (lzeros 16)], .c (.int .i64 e)]) σ' := fun e σ' he h0 =>
    res_unpeeled (peC_fail (by rw [he]; exact h0)).1 (peC_fail (by rw [he]; exact h0)).2.symm he.symm hK
  by_cases hgo : key.length = 32 ∧ sizeI left ≠ 0 ∧ cutE c (sizeI left) = 0
  · obtain ⟨hlen, q2, q3⟩ := hgo
    obtain ⟨m, rfl, H⟩ := cut0 hlen q2 q3
    have h1 := H.h1
    have h2 := H.h2
    have hcl := H.clen
    have hnn := nn_bl hc.bs H.clen
    have hM := dvM_bl key (nnO c)
    have hB := dvB_bl key (nnO c)
    have ol := H.olen
    have bl := H.bxlen
    have f3 := H.bx
    have f6 : lsub (dvB key (nnO c)) 0 16 = dvB key (nnO c) := lsub_whole hB.len
    have f8 : mask (ks (dvB key (nnO c))) (lzeros 16) (bxO (m : Int) c) = opO key (m : Int) c := rfl
    have hz : BL 16 (lzeros 16) := bl_of rfl (zeros_bs _)
    have pl := opO_len (key := key) (left := (m : Int)) (c := c) (by omega) (by omega) hcl
    have pb : Bs (opO key (m : Int) c) := opO_bs hc.bs
    have hpe := H.pe
    obtain ⟨N, eN, hN, _, eA⟩ := inN_nat pb
    have es4 : sub .i64 (sizeI (m : Int)) 34 = ((14 + 34 * m : Nat) : Int) := by rw [H.sz, sub_i64 (by omega) (by omega)]; omega
    have hok : inOk (opO key (m : Int) c) (m : Int) = (decide ((N : Int) ≤ sizeI (m : Int) - 34) && zb ((opO key (m : Int) c).drop (2 + N))) := by unfold inOk; rw [eN, Int.toNat_natCast]
    have nl : (nnO c).length = 16 := hnn.len
    have tl : (lsub c 16 16).length = 16 := lsub_length (by omega)
    have g1 : ∀ i, i < 16 → lget (lsub c 0 (48 + 34 * m)) i = lget (nnO c) i := fun i hi => by
      unfold nnO; rw [lget_lsub (by omega), lget_lsub hi]
    have g2 : ∀ i, i < 16 → lget (lsub c 0 (48 + 34 * m)) (16 + i) = lget (lsub c 16 16) i := fun i hi => by
      rw [lget_lsub (by omega), lget_lsub hi, Nat.zero_add]
    -- the state behind the copying
    have tail : ∃ f, orpeel.k0 (Res d rpeelS.news σ K) (m : Int) ((16 : Nat) : Int) key (nnO c) c (lsub c 16 16) f := by
      by_cases t : lsub c 16 16 = tagO (dvM key (nnO c)) (m : Int) (nnO c) (bxO (m : Int) c)
      · have hl1 : (N : Int) ≤ 14 + 34 * m → ∃ f, orpeel.l1 (Res d rpeelS.news σ K) (m : Int) (opO key (m : Int) c) key (nnO c) c f ((2 + N : Nat) : Int) := by
          intro hle
          have hok' : inOk (opO key (m : Int) c) (m : Int) = zb ((opO key (m : Int) c).drop (2 + N)) := by rw [hok, decide_eq_true (by rw [H.sz]; omega), Bool.true_and]
          refine orpeel_l1 hk hc H eN eA (by omega) (fun q σ' => fail 71 _ ?_ (by decide)) (fun q mm σ' l r hf hl hr => ?_) _ (2 + N) rfl (by omega) (by rw [pl]; omega) (fun j hj1 hj => by omega)
          · rw [hpe, if_neg (by rw [t]; simp), if_pos (by rw [hok']; exact q)]
          · have pe0 : peE key (m : Int) c = 0 := by rw [hpe, if_neg (by rw [t]; simp), if_neg (by rw [hok', q]; simp)]
            refine res_peeled hf ?_ ?_ pe0.symm hK
            · rw [hl]; unfold peC; rw [if_pos pe0]
            · rw [hr]; unfold peR; rw [if_pos pe0]
        by_cases hle : (N : Int) ≤ 14 + 34 * m
        · obtain ⟨f, hf⟩ := hl1 hle
          refine ⟨f, ?_⟩
          rw [orpeel.k0_eq]
          have e2 : add .i64 2 (N : Int) = ((2 + N : Nat) : Int) := addN_i64 (a := 2) (by omega)
          simp only [H.cut, llen_def, ol, nsub_def, f3, f6, f8, eA, es4, e2, Fits_iff, NonNeg_iff, InB_iff, pl]
          refine ⟨fun u => by rw [bnot_true, leq_false] at u; exact absurd t u, fun _ => ⟨by omega, ⟨by omega, by omega⟩, ⟨⟨hB, hz⟩, ⟨by omega⟩, lsub_bs hc.bs _ _⟩, ⟨by omega, by omega⟩, ⟨by omega, by omega⟩, hlf, fun u => ?_, fun _ => hf⟩⟩
          rw [igt_true] at u; omega
        · refine ⟨0, ?_⟩
          rw [orpeel.k0_eq]
          simp only [H.cut, llen_def, ol, nsub_def, f3, f6, f8, eA, es4, Fits_iff, NonNeg_iff, InB_iff, pl]
          refine ⟨fun u => by rw [bnot_true, leq_false] at u; exact absurd t u, fun _ => ⟨by omega, ⟨by omega, by omega⟩, ⟨⟨hB, hz⟩, ⟨by omega⟩, lsub_bs hc.bs _ _⟩, ⟨by omega, by omega⟩, ⟨by omega, by omega⟩, hlf, fun _ => fail 71 _ ?_ (by decide), fun u => ?_⟩⟩
          · rw [hpe, if_neg (by rw [t]; simp), if_pos (by rw [hok, decide_eq_false (by rw [H.sz]; omega), Bool.false_and])]
          · rw [igt_false] at u; omega
      · refine ⟨0, ?_⟩
        rw [orpeel.k0_eq]
        simp only [H.cut, llen_def, ol, nsub_def, f3]
        have tf : leq (lsub c 16 16) (tagO (dvM key (nnO c)) (m : Int) (nnO c) (bxO (m : Int) c)) = false := by rw [leq_false]; exact t
        refine ⟨fun _ => fail 70 _ (by rw [hpe, if_pos t]) (by decide), fun u => ?_⟩
        rw [tf] at u; cases u
    obtain ⟨ft, ht⟩ := tail
    obtain ⟨f, hf⟩ := loop_ex (fun f i (y : List Int × List Int) => orpeel.l0 (Res d rpeelS.news σ K) (m : Int) c key f i y.1 y.2) 16 (fun i => (upto 16 i (lget (nnO c)) (fun _ => 0), upto 16 i (lget (lsub c 16 16)) (fun _ => 0)))
      (fun g i hi h => ⟨g + 1, by
        rw [orpeel.l0_succ]
        have e16 : add .i64 16 (i : Int) = ((16 + i : Nat) : Int) := addN_i64 (a := 16) (by omega)
        simp only [H.cut, nat_cast, llen_def, ol, e16, InB_iff, Low_iff, nadd_def, Nat.zero_add]
        rw [add1_i64 (by omega)]
        refine ⟨fun _ => ?_, fun r => ?_⟩
        · rw [g1 i hi, g2 i hi, upto_lset (F := lget (nnO c)) rfl, upto_lset (F := lget (lsub c 16 16)) rfl]
          exact ⟨⟨by omega, by omega⟩, ⟨by omega, by omega⟩, by omega, ⟨by omega, by omega⟩, ⟨by omega, by omega⟩, by omega, h⟩
        · rw [ilt_false] at r; omega⟩)
      ⟨ft + 1, by
        rw [orpeel.l0_succ]
        refine ⟨fun r => ?_, fun _ => ?_⟩
        · rw [ilt_true] at r; omega
        · simp only [upto_all nl, upto_all tl, H.cut, llen_def, ol, nsub_def, f3, Fits_iff, NonNeg_iff]
          exact ⟨⟨hk, ⟨hnn⟩⟩, ⟨by omega, by omega⟩, ⟨⟨⟨hM⟩, ⟨hnn⟩, ⟨by omega, lsub_bs hc.bs _ _⟩⟩, ht⟩, ⟨⟨hM⟩, ⟨hnn⟩, ⟨by omega, lsub_bs hc.bs _ _⟩⟩, ht⟩⟩ 0 (by omega)
    refine ⟨f + 1, ?_⟩
    have e := orpeel_vc (Res d rpeelS.news σ K) f key c (m : Int)
    simp only [upto_zero, ← lzeros_tab] at hf
    refine e.mpr ⟨fun _ => ⟨hlf, fun r => ?_, fun _ => ⟨hlf, ⟨hc.sh⟩, fun r => ?_, fun _ => hf⟩⟩, fun r => ?_⟩
    · rw [ieq_true] at r; exact absurd r q2
    · rw [ine_true] at r; exact absurd q3 r
    · rw [ine_true] at r; simp only [ofNat, llen] at r; omega
  · refine ⟨1, ?_⟩
    have e := orpeel_vc (Res d rpeelS.news σ K) 0 key c left
    refine e.mpr ⟨fun q1 => ⟨hlf, fun q2 => fail 2 _ ?_ (by decide), fun q2 => ⟨hlf, ⟨hc.sh⟩, fun q3 => fail _ _ ?_ ?_, fun q3 => ?_⟩⟩, fun q1 => fail 2 _ ?_ (by decide)⟩
    · rw [ieq_true] at q2; unfold peE; rw [if_pos (Or.inr q2)]
    · rw [ine_false] at q1; simp only [ofNat, llen] at q1; rw [ieq_false] at q2; rw [ine_true] at q3
      unfold peE; rw [if_neg (by rintro (h | h); exact h (by omega); exact q2 h), if_pos q3]
    · rw [ine_true] at q3; exact q3
    · exfalso
      rw [ine_false] at q1 q3; simp only [ofNat, llen] at q1; rw [ieq_false] at q2
      exact hgo ⟨by omega, q2, q3⟩
    · rw [ine_true] at q1; simp only [ofNat, llen] at q1
      unfold peE; rw [if_pos (Or.inl (by omega))]
theorem gamO4_good : GoodG Tryd.prog gamO4 :=
  (((gamO3_good.ext good_owrap ⟨_, Tryd.func16, by decide, by kernel_rfl⟩).ext good_orwrap ⟨_, Tryd.func15, by decide, by kernel_rfl⟩).ext good_opeel ⟨_, Tryd.func18, by decide, by kernel_rfl⟩).ext good_orpeel ⟨_, Tryd.func17, by decide, by kernel_rfl⟩
end Go.Proofs.YtjahiggpglbgoaaDoor.G

/- What the laws of layers lean on. -/
namespace Go.Oni
open Go Go.Sx
def sameO (a r b s : List Int) : Bool := decide (a = b) && decide (r = s)
end Go.Oni
namespace Go.Sx
open Go.Oni
def sameS : Spec := ⟨0, false, fun _ args σ K => match args with
  | [.agg [.cells [x], .ints .u8 16 r], .agg [.cells [y], .ints .u8 16 s]] => rdb σ (.one x) fun a => rdb σ (.one y) fun b => ((In a ∧ K16 r) ∧ In b ∧ K16 s) ∧ K (.one (.bool (sameO a r b s))) σ
  | _ => False⟩
noncomputable def gamO5 : Gam := ext (ext gamO4 10 yesR) 19 sameS
end Go.Sx

/- Around a layer and back; the closed facts of one key stream block. -/
namespace Go.Blk
open Go.Sx Go.Fld
set_option maxRecDepth 20000
set_option linter.unusedVariables false
set_option linter.unusedSimpArgs false
theorem xor_back {a k : Int} (ha : Byte a) (hk : Byte k) : bxor .u8 (bxor .u8 a k) k = a := by
  obtain ⟨x, hx, rfl⟩ := ha.nat
  obtain ⟨y, hy, rfl⟩ := hk.nat
  rw [bxor_u8 hx hy, bxor_u8 (xor_lt hx hy) hy, Nat.xor_assoc, Nat.xor_self, Nat.xor_zero]
/-- one round -/
def rnd (w : List Int) (i : Nat) (x : List Int) : List Int := qx (if i < 10 then qc [2, 3, 1, 1] (qt 1 (qe fsub x)) else qt 1 (qe fsub x)) (rk w i)
/-- are these the round keys? -/
def okK (key K : List Int) : Bool := K.length == 176 && (List.range 16).all (fun p => lget K p == lget key p) &&
  (List.range 44).all fun i => decide (i < 4) || (List.range 4).all fun j => lget K (4 * i + j) == bxor .u8 (lget K (4 * (i - 4) + j)) (kt i (fun j => lget K (4 * (i - 1) + j)) j)
theorem okK_eq {key K : List Int} (h : okK key K = true) : ks key = K := by
  simp only [okK, Bool.and_eq_true, beq_iff_eq, List.all_eq_true, List.mem_range, Bool.or_eq_true, decide_eq_true_eq] at h
  obtain ⟨⟨h1, h2⟩, h3⟩ := h
  have key' : ∀ i, i < 44 → ∀ j, j < 4 → kw key i j = lget K (4 * i + j) := by
    intro i
    induction i using Nat.strongRecOn with
    | _ i ih =>
      intro hi j hj
      by_cases q : i < 4
      · rw [kw_lo _ _ q, h2 _ (by omega)]
      · rcases h3 i hi with q2 | q2
        · omega
        · rw [kw_hi _ (by omega) hj, q2 j hj, ih (i - 4) (by omega) (by omega) j hj, kt_congr (fun a ha => ih (i - 1) (by omega) (by omega) a ha) hj]
  rw [eq_tab h1]
  refine tab_ext fun p hp => ?_
  rw [key' _ (by omega) _ (by omega), show 4 * (p / 4) + p % 4 = p by omega]
def aliveKey : List Nat := [242, 228, 185, 95, 164, 139, 142, 169, 101, 20, 48, 239, 80, 215, 46, 245]
def aliveK : List Int := [242, 228, 185, 95, 164, 139, 142, 169, 101, 20, 48, 239, 80, 215, 46, 245, 253, 213, 95, 12, 89, 94, 209, 165, 60, 74, 225, 74, 108, 157, 207, 191, 161, 95, 87, 92, 248, 1, 134, 249, 196, 75, 103, 179, 168, 214, 168, 12, 83, 157, 169, 158, 171, 156, 47, 103, 111, 215, 72, 212, 199, 1, 224, 216, 39, 124, 200, 88, 140, 224, 231, 63, 227, 55, 175, 235, 36, 54, 79, 51, 50, 248, 11, 110, 190, 24, 236, 81, 93, 47, 67, 186, 121, 25, 12, 137, 198, 6, 172, 216, 120, 30, 64, 137, 37, 49, 3, 51, 92, 40, 15, 186, 178, 112, 88, 146, 202, 110, 24, 27, 239, 95, 27, 40, 179, 119, 20, 146, 199, 138, 23, 255, 13, 228, 15, 228, 226, 187, 20, 204, 81, 204, 0, 94, 151, 233, 79, 46, 154, 13, 64, 202, 120, 182, 84, 6, 41, 122, 84, 88, 123, 201, 37, 139, 225, 196, 101, 65, 153, 114, 49, 71, 176, 8, 101, 31]
def aliveS0 : List Int := [242, 228, 185, 95, 164, 139, 142, 169, 101, 20, 48, 239, 80, 215, 46, 246]
def aliveS1 : List Int := [245, 104, 37, 49, 32, 100, 74, 48, 49, 50, 96, 120, 183, 232, 189, 159]
def aliveS2 : List Int := [184, 143, 63, 83, 85, 185, 180, 247, 220, 228, 73, 77, 68, 40, 44, 28]
def aliveS3 : List Int := [214, 140, 90, 100, 111, 204, 116, 161, 57, 206, 168, 212, 10, 147, 183, 214]
def aliveS4 : List Int := [57, 183, 235, 39, 171, 230, 72, 120, 52, 109, 80, 219, 156, 124, 171, 252]
def aliveS5 : List Int := [124, 168, 250, 254, 144, 104, 57, 42, 8, 139, 93, 8, 213, 193, 15, 98]
def aliveS6 : List Int := [207, 226, 132, 174, 50, 37, 39, 15, 5, 99, 37, 231, 37, 178, 186, 15]
def aliveS7 : List Int := [181, 179, 9, 251, 138, 67, 4, 162, 73, 205, 99, 17, 38, 184, 151, 180]
def aliveS8 : List Int := [46, 240, 185, 123, 170, 119, 214, 77, 27, 97, 15, 152, 99, 110, 248, 220]
def aliveS9 : List Int := [1, 53, 246, 233, 147, 134, 226, 201, 50, 37, 246, 248, 251, 197, 30, 184]
def aliveS10 : List Int := [7, 141, 103, 231, 61, 251, 23, 95, 186, 212, 115, 154, 191, 158, 253, 94]
theorem alive_keys : okK (Go.Hsh.cN aliveKey) aliveK = true := by decide +kernel
theorem alive_up : ups (lzeros 16) 3 = [0, 0, 0, 0, 0, 0, 0, 0, 0, 0, 0, 0, 0, 0, 0, 3] := by decide +kernel
theorem alive_s0 : qx [0, 0, 0, 0, 0, 0, 0, 0, 0, 0, 0, 0, 0, 0, 0, 3] (rk aliveK 0) = aliveS0 := by decide +kernel
theorem alive_s1 : rnd aliveK 1 aliveS0 = aliveS1 := by decide +kernel
theorem alive_s2 : rnd aliveK 2 aliveS1 = aliveS2 := by decide +kernel
theorem alive_s3 : rnd aliveK 3 aliveS2 = aliveS3 := by decide +kernel
theorem alive_s4 : rnd aliveK 4 aliveS3 = aliveS4 := by decide +kernel
theorem alive_s5 : rnd aliveK 5 aliveS4 = aliveS5 := by decide +kernel
theorem alive_s6 : rnd aliveK 6 aliveS5 = aliveS6 := by decide +kernel
theorem alive_s7 : rnd aliveK 7 aliveS6 = aliveS7 := by decide +kernel
theorem alive_s8 : rnd aliveK 8 aliveS7 = aliveS8 := by decide +kernel
theorem alive_s9 : rnd aliveK 9 aliveS8 = aliveS9 := by decide +kernel
theorem alive_s10 : rnd aliveK 10 aliveS9 = aliveS10 := by decide +kernel
theorem alive_enc : enc (ks (Go.Hsh.cN aliveKey)) (ups (lzeros 16) 3) = aliveS10 := by
  rw [okK_eq alive_keys, enc, alive_up, alive_s0]
  show rnd aliveK 10 (rnd aliveK 9 (rnd aliveK 8 (rnd aliveK 7 (rnd aliveK 6 (rnd aliveK 5 (rnd aliveK 4 (rnd aliveK 3 (rnd aliveK 2 (rnd aliveK 1 aliveS0))))))))) = _
  rw [alive_s1, alive_s2, alive_s3, alive_s4, alive_s5, alive_s6, alive_s7, alive_s8, alive_s9, alive_s10]
end Go.Blk
namespace Go.Proofs.YtjahiggpglbgoaaDoor.G
open Go Go.Sx Go.Fld Go.Hsh Go.Mac Go.Blk Go.Cel Go.Oni
set_option maxRecDepth 20000
set_option linter.unusedVariables false
set_option linter.unusedSimpArgs false
theorem mask_mask {w s p : List Int} (hw : BL 176 w) (hs : BL 16 s) (hp : Bs p) : mask w s (mask w s p) = p := by
  conv => rhs; rw [eq_tab (l := p) rfl]
  unfold mask
  rw [tab_len]
  refine tab_ext fun i hi => ?_
  rw [tab_lget _ hi, xor_back ((bs_bl hp).get i) (strB_byte hw hs i)]


theorem lsub_app_lo {a b : List Int} {i n : Nat} (h : i + n ≤ a.length) : lsub (a ++ b) i n = lsub a i n := by
  unfold lsub; rw [List.drop_append_of_le_length (by omega), List.take_append_of_le_length (by rw [List.length_drop]; omega)]
theorem lsub_app_hi {a b : List Int} {i n : Nat} (h : a.length = i) : lsub (a ++ b) i n = b.take n := by
  unfold lsub; subst h; rw [List.drop_left]
/-- what a wrapped layer is when it is filled up and peeled -/
structure Bk (key nonce inner w : List Int) (m : Nat) : Prop where
  len : w.length = 48 + 34 * m
  bs : Bs w
  e : wrE key (m : Int) inner = 0
  r : wrR key nonce (m : Int) inner = w
  nn : lsub w 0 16 = nonce
  nc : nnO (padR w) = nonce
  op : opO key (m : Int) (padR w) = plO (m : Int) inner
  cutE : cutE (padR w) (sizeI (m : Int)) = 0
  pE : peE key (m : Int) (padR w) = 0
  pC : peC key (m : Int) (padR w) = if 1 < (m : Int) then padR inner else plainR inner
  pR : peR key (m : Int) (padR w) = lsub (hmac (dvR key nonce) (lsub w 0 32)) 0 16
theorem back {key nonce inner : List Int} {m : Nat} (hk : key.length = 32) (hn : BL 16 nonce) (h1 : 1 ≤ m) (h2 : m ≤ 8) (hb : Bs inner) (hl : inner.length ≤ 14 + 34 * m) :
    Bk key nonce inner (forgeO key nonce (m : Int) (plO (m : Int) inner)) m := by
  have hs : sizeI (m : Int) = ((48 + 34 * m : Nat) : Int) := by rw [sizeI_some (by omega) (by omega)]; omega
  have pl : (plO (m : Int) inner).length = 16 + 34 * m := by
    have := plO_len (left := (m : Int)) (by omega) (by omega) (inner := inner) (by rw [hs]; omega)
    rw [hs] at this; omega
  have pb : Bs (plO (m : Int) inner) := plO_bs hb (by omega)
  have hB := dvB_bl key nonce
  have hK : BL 176 (ks (dvB key nonce)) := ks_bl hB
  have hz : BL 16 (lzeros 16) := bl_of rfl (zeros_bs _)
  have bxl : (mask (ks (dvB key nonce)) (lzeros 16) (plO (m : Int) inner)).length = 16 + 34 * m := by rw [mask_length, pl]
  have bxb : Bs (mask (ks (dvB key nonce)) (lzeros 16) (plO (m : Int) inner)) := mask_bs hK hz pb
  have tl := tagO_len (dvM key nonce) (m : Int) nonce (mask (ks (dvB key nonce)) (lzeros 16) (plO (m : Int) inner))
  have nl := hn.len
  have mm := mask_mask hK hz pb
  generalize ew : forgeO key nonce (m : Int) (plO (m : Int) inner) = w
  have e0 : wrE key (m : Int) inner = 0 := by
    unfold wrE
    rw [if_neg (by rintro (h | h); exact h hk; rw [hs] at h; omega), if_neg (by rw [hs]; omega)]
  have r0 : wrR key nonce (m : Int) inner = w := by unfold wrR; rw [if_pos e0, ew]
  unfold forgeO at ew
  generalize hbx : mask (ks (dvB key nonce)) (lzeros 16) (plO (m : Int) inner) = bx at ew bxl bxb tl mm
  generalize htg : tagO (dvM key nonce) (m : Int) nonce bx = tg at ew tl
  have wl : w.length = 48 + 34 * m := by rw [← ew, List.length_append, List.length_append]; omega
  have wb : Bs w := by
    rw [← ew]
    exact ⟨fun x hx => by
      rcases List.mem_append.mp hx with hx | hx
      · rcases List.mem_append.mp hx with hx | hx
        · exact hn.bs.all x hx
        · rw [← htg] at hx; exact (tagO_bs _ _ _ _).all x hx
      · exact bxb.all x hx⟩
  have ec : padR w = w ++ List.replicate (320 - w.length) 0 := by unfold padR; rw [if_pos (by omega)]; rfl
  have cl : (padR w).length = 320 := by rw [ec]; simp; omega
  have w1 : lsub w 0 16 = nonce := by rw [← ew, List.append_assoc, lsub_app_lo (by omega), lsub_whole nl]
  have w2 : lsub w 16 16 = tg := by rw [← ew, List.append_assoc, lsub_app_hi nl, List.take_append_of_le_length (by omega), List.take_of_length_le (by omega)]
  have w3 : lsub w 32 (16 + 34 * m) = bx := by rw [← ew, lsub_app_hi (by rw [List.length_append]; omega), List.take_of_length_le (by omega)]
  have hS : ((48 + 34 * m : Nat) : Int).toNat = 48 + 34 * m := Int.toNat_natCast _
  have nc : nnO (padR w) = nonce := by unfold nnO; rw [ec, lsub_app_lo (by omega), w1]
  have tc : lsub (padR w) 16 16 = tg := by rw [ec, lsub_app_lo (by omega), w2]
  have hc32 : lsub (padR w) 0 32 = lsub w 0 32 := by rw [ec, lsub_app_lo (by omega)]
  have bc : bxO (m : Int) (padR w) = bx := by unfold bxO; rw [hs, hS, ec, show 48 + 34 * m - 32 = 16 + 34 * m by omega, lsub_app_lo (by omega), w3]
  have op : opO key (m : Int) (padR w) = plO (m : Int) inner := by unfold opO; rw [nc, bc, mm]
  have cE : cutE (padR w) (sizeI (m : Int)) = 0 := by
    unfold cutE
    rw [if_neg (by omega), if_neg (by rw [hs]; omega), if_neg]
    rw [hs, hS, ec, ← wl, List.drop_left]
    have hz0 : zb (List.replicate (320 - w.length) 0) = true := zb_true.mpr fun i hi => by
      rw [List.length_replicate] at hi
      simp [lget, List.getD, List.getElem?_replicate, hi]
    rw [hz0]; simp
  have ps := plO_some (left := (m : Int)) (by omega) (by omega) (inner := inner)
  have iN : inN (plO (m : Int) inner) = (inner.length : Int) := by
    rw [ps]; unfold inN
    show 256 * ((inner.length / 256 : Nat) : Int) + ((inner.length % 256 : Nat) : Int) = _
    omega
  have dr : (plO (m : Int) inner).drop (2 + inner.length) = lzeros (14 + (34 * (m : Int)).toNat - inner.length) := by
    rw [ps, Nat.add_comm]
    show (inner ++ _).drop inner.length = _
    rw [List.drop_left]
  have iO : inOk (plO (m : Int) inner) (m : Int) = true := by
    unfold inOk
    rw [iN, Int.toNat_natCast, dr, decide_eq_true (by rw [hs]; omega), Bool.true_and]
    exact zb_true.mpr fun i hi => by
      unfold lzeros at hi ⊢
      rw [List.length_replicate] at hi
      simp [lget, List.getD, List.getElem?_replicate, hi]
  have iR : innO (plO (m : Int) inner) = inner := by
    unfold innO
    rw [iN, Int.toNat_natCast, ps]
    show (inner ++ _).take inner.length = _
    rw [List.take_left]
  have pE0 : peE key (m : Int) (padR w) = 0 := by
    unfold peE
    rw [if_neg (by rintro (h | h); exact h hk; rw [hs] at h; omega), if_neg (by rw [cE]; simp), nc, bc, tc, htg, if_neg (by simp), op, iO, if_neg (by simp)]
  refine ⟨wl, wb, e0, r0, w1, nc, op, cE, pE0, ?_, ?_⟩
  · unfold peC; rw [if_pos pE0, op, iR]
  · unfold peR; rw [if_pos pE0, nc, hc32]
end Go.Proofs.YtjahiggpglbgoaaDoor.G

/- The verification conditions of functions, printed by a program of this session out of their codes. -/
namespace Go.Proofs.YtjahiggpglbgoaaDoor.G
open Go Go.Sx Go.Oni
set_option linter.unusedVariables false
set_option maxRecDepth 100000

theorem osame_vc (R : AV → Mem → Prop) (fuel : Nat) (a : List Int) (b : List Int) (r : List Int) (s : List Int) : callsx Tryd.prog gamO4 [] Tryd.f19 (fuel + 1) [.agg [.cells [.vec 200000], .ints .u8 16 r], .agg [.cells [.vec 200001], .ints .u8 16 s]] [(200000, .rview [.ints .u8 a]), (200001, .rview [.ints .u8 b])] R = (((((seq2 (bytesOf a) (bytesOf b)) = true) → ((Fits 16 16) ∧ ((Fits 16 16) ∧ (R (AV.one (AC.bool (leq (lsub r 0 16) (lsub s 0 16)))) [(2, Blk.own 44 [(Seg.cells [(AC.vec 200000)]), (Seg.ints IntKind.u8 16 r)]), (3, Blk.own 44 [(Seg.cells [(AC.vec 200001)]), (Seg.ints IntKind.u8 16 s)]), (200000, Blk.rview [(Col.ints IntKind.u8 a)]), (200001, Blk.rview [(Col.ints IntKind.u8 b)])])))) ∧ (((seq2 (bytesOf a) (bytesOf b)) = false) → (R (AV.one (AC.lit false)) [(2, Blk.own 44 [(Seg.cells [(AC.vec 200000)]), (Seg.ints IntKind.u8 16 r)]), (3, Blk.own 44 [(Seg.cells [(AC.vec 200001)]), (Seg.ints IntKind.u8 16 s)]), (200000, Blk.rview [(Col.ints IntKind.u8 a)]), (200001, Blk.rview [(Col.ints IntKind.u8 b)])])))) := by kernel_rfl

theorem oalive_vc (R : AV → Mem → Prop) (fuel : Nat)  : callsx Tryd.prog gamO4 [] Tryd.f10 (fuel + 1) [] [(1000000 + 0, .view [.ints .u32 64 Go.Hsh.rootsL])] R = (((Mk 32 32 1) ∧ ((Low 0 16) ∧ ((InB 0 2) ∧ (((Go.Hsh.rootsL = Go.Hsh.rootsL) ∧ ((Go.Oni.Ky (lzeros 32)) ∧ ((Go.Oni.Nn (lset (lzeros 16) 0 1)) ∧ ((Go.Oni.Lf 1) ∧ (Go.Oni.In [104, 105]))))) ∧ ((Short (Go.Oni.wL (lzeros 32) (lset (lzeros 16) 0 1) 1 [104, 105])) ∧ (((Go.Hsh.rootsL = Go.Hsh.rootsL) ∧ ((Go.Oni.Ky (lzeros 32)) ∧ ((Go.Oni.Lf 1) ∧ (Go.Oni.In (Go.Cel.padR (Go.Oni.wL (lzeros 32) (lset (lzeros 16) 0 1) 1 [104, 105])))))) ∧ ((InB 0 2) ∧ ((Short [104, 105]) ∧ (((Go.Hsh.rootsL = Go.Hsh.rootsL) ∧ ((Go.Oni.Ky (lzeros 32)) ∧ ((Go.Oni.Lf 2) ∧ (Go.Oni.In (Go.Cel.padR (Go.Oni.wL (lzeros 32) (lset (lzeros 16) 0 1) 1 [104, 105])))))) ∧ ((((ieq (Go.Oni.wE (lzeros 32) 1 [104, 105]) 0) = true) → ((((ieq (Go.Cel.padE (Go.Oni.wL (lzeros 32) (lset (lzeros 16) 0 1) 1 [104, 105])) 0) = true) → ((((ieq (Go.Oni.pE (lzeros 32) 1 (Go.Cel.padR (Go.Oni.wL (lzeros 32) (lset (lzeros 16) 0 1) 1 [104, 105]))) 0) = true) → ((((ieq (Go.Cel.plainE [104, 105]) 0) = true) → ((((ine (Go.Oni.pE (lzeros 32) 2 (Go.Cel.padR (Go.Oni.wL (lzeros 32) (lset (lzeros 16) 0 1) 1 [104, 105]))) 0) = true) → ((((ieq (ofNat (llen (Go.Oni.wL (lzeros 32) (lset (lzeros 16) 0 1) 1 [104, 105]))) 82) = true) → ((((ieq (ofNat (llen (Go.Oni.pC (lzeros 32) 1 (Go.Cel.padR (Go.Oni.wL (lzeros 32) (lset (lzeros 16) 0 1) 1 [104, 105]))))) 320) = true) → ((((seq2 (bytesOf (Go.Oni.pC (lzeros 32) 1 (Go.Cel.padR (Go.Oni.wL (lzeros 32) (lset (lzeros 16) 0 1) 1 [104, 105])))) (bytesOf (Go.Cel.plainR [104, 105]))) = true) → ((Go.Oni.Lf 2) ∧ (let y0 : Bool := (ieq (ofNat (llen (Go.Oni.pC (lzeros 32) 1 (Go.Cel.padR (Go.Oni.wL (lzeros 32) (lset (lzeros 16) 0 1) 1 [104, 105]))))) 320); (let y1 : Bool := (seq2 (bytesOf (Go.Oni.pC (lzeros 32) 1 (Go.Cel.padR (Go.Oni.wL (lzeros 32) (lset (lzeros 16) 0 1) 1 [104, 105])))) (bytesOf (Go.Cel.plainR [104, 105]))); (R (AV.one (AC.bool (ieq (Go.Oni.sizeI 2) 116))) [(6, Blk.own 44 [(Seg.cells [(AC.vec 29)]), (Seg.ints IntKind.u8 16 (Go.Oni.pR (lzeros 32) 1 (Go.Cel.padR (Go.Oni.wL (lzeros 32) (lset (lzeros 16) 0 1) 1 [104, 105]))))]), (10, Blk.own 44 [(Seg.cells [(AC.vec 41)]), (Seg.ints IntKind.u8 16 (Go.Oni.pR (lzeros 32) 2 (Go.Cel.padR (Go.Oni.wL (lzeros 32) (lset (lzeros 16) 0 1) 1 [104, 105]))))]), (12, Blk.vec [(Col.ints IntKind.u8 (lzeros 32))]), (16, Blk.rview [(Col.ints IntKind.u8 [104, 105])]), (18, Blk.vec [(Col.ints IntKind.u8 (Go.Oni.wL (lzeros 32) (lset (lzeros 16) 0 1) 1 [104, 105]))]), (23, Blk.vec [(Col.ints IntKind.u8 (Go.Cel.padR (Go.Oni.wL (lzeros 32) (lset (lzeros 16) 0 1) 1 [104, 105])))]), (29, Blk.vec [(Col.ints IntKind.u8 (Go.Oni.pC (lzeros 32) 1 (Go.Cel.padR (Go.Oni.wL (lzeros 32) (lset (lzeros 16) 0 1) 1 [104, 105]))))]), (33, Blk.rview [(Col.ints IntKind.u8 [104, 105])]), (35, Blk.vec [(Col.ints IntKind.u8 (Go.Cel.plainR [104, 105]))]), (41, Blk.vec [(Col.ints IntKind.u8 (Go.Oni.pC (lzeros 32) 2 (Go.Cel.padR (Go.Oni.wL (lzeros 32) (lset (lzeros 16) 0 1) 1 [104, 105]))))]), (1000000, Blk.view [(Seg.ints IntKind.u32 64 Go.Hsh.rootsL)])]))))) ∧ (((seq2 (bytesOf (Go.Oni.pC (lzeros 32) 1 (Go.Cel.padR (Go.Oni.wL (lzeros 32) (lset (lzeros 16) 0 1) 1 [104, 105])))) (bytesOf (Go.Cel.plainR [104, 105]))) = false) → (let y2 : Bool := (ieq (ofNat (llen (Go.Oni.pC (lzeros 32) 1 (Go.Cel.padR (Go.Oni.wL (lzeros 32) (lset (lzeros 16) 0 1) 1 [104, 105]))))) 320); (let y3 : Bool := (seq2 (bytesOf (Go.Oni.pC (lzeros 32) 1 (Go.Cel.padR (Go.Oni.wL (lzeros 32) (lset (lzeros 16) 0 1) 1 [104, 105])))) (bytesOf (Go.Cel.plainR [104, 105]))); (R (AV.one (AC.lit false)) [(6, Blk.own 44 [(Seg.cells [(AC.vec 29)]), (Seg.ints IntKind.u8 16 (Go.Oni.pR (lzeros 32) 1 (Go.Cel.padR (Go.Oni.wL (lzeros 32) (lset (lzeros 16) 0 1) 1 [104, 105]))))]), (10, Blk.own 44 [(Seg.cells [(AC.vec 41)]), (Seg.ints IntKind.u8 16 (Go.Oni.pR (lzeros 32) 2 (Go.Cel.padR (Go.Oni.wL (lzeros 32) (lset (lzeros 16) 0 1) 1 [104, 105]))))]), (12, Blk.vec [(Col.ints IntKind.u8 (lzeros 32))]), (16, Blk.rview [(Col.ints IntKind.u8 [104, 105])]), (18, Blk.vec [(Col.ints IntKind.u8 (Go.Oni.wL (lzeros 32) (lset (lzeros 16) 0 1) 1 [104, 105]))]), (23, Blk.vec [(Col.ints IntKind.u8 (Go.Cel.padR (Go.Oni.wL (lzeros 32) (lset (lzeros 16) 0 1) 1 [104, 105])))]), (29, Blk.vec [(Col.ints IntKind.u8 (Go.Oni.pC (lzeros 32) 1 (Go.Cel.padR (Go.Oni.wL (lzeros 32) (lset (lzeros 16) 0 1) 1 [104, 105]))))]), (33, Blk.rview [(Col.ints IntKind.u8 [104, 105])]), (35, Blk.vec [(Col.ints IntKind.u8 (Go.Cel.plainR [104, 105]))]), (41, Blk.vec [(Col.ints IntKind.u8 (Go.Oni.pC (lzeros 32) 2 (Go.Cel.padR (Go.Oni.wL (lzeros 32) (lset (lzeros 16) 0 1) 1 [104, 105]))))]), (1000000, Blk.view [(Seg.ints IntKind.u32 64 Go.Hsh.rootsL)])])))))) ∧ (((ieq (ofNat (llen (Go.Oni.pC (lzeros 32) 1 (Go.Cel.padR (Go.Oni.wL (lzeros 32) (lset (lzeros 16) 0 1) 1 [104, 105]))))) 320) = false) → (let y4 : Bool := (ieq (ofNat (llen (Go.Oni.pC (lzeros 32) 1 (Go.Cel.padR (Go.Oni.wL (lzeros 32) (lset (lzeros 16) 0 1) 1 [104, 105]))))) 320); (R (AV.one (AC.lit false)) [(6, Blk.own 44 [(Seg.cells [(AC.vec 29)]), (Seg.ints IntKind.u8 16 (Go.Oni.pR (lzeros 32) 1 (Go.Cel.padR (Go.Oni.wL (lzeros 32) (lset (lzeros 16) 0 1) 1 [104, 105]))))]), (10, Blk.own 44 [(Seg.cells [(AC.vec 41)]), (Seg.ints IntKind.u8 16 (Go.Oni.pR (lzeros 32) 2 (Go.Cel.padR (Go.Oni.wL (lzeros 32) (lset (lzeros 16) 0 1) 1 [104, 105]))))]), (12, Blk.vec [(Col.ints IntKind.u8 (lzeros 32))]), (16, Blk.rview [(Col.ints IntKind.u8 [104, 105])]), (18, Blk.vec [(Col.ints IntKind.u8 (Go.Oni.wL (lzeros 32) (lset (lzeros 16) 0 1) 1 [104, 105]))]), (23, Blk.vec [(Col.ints IntKind.u8 (Go.Cel.padR (Go.Oni.wL (lzeros 32) (lset (lzeros 16) 0 1) 1 [104, 105])))]), (29, Blk.vec [(Col.ints IntKind.u8 (Go.Oni.pC (lzeros 32) 1 (Go.Cel.padR (Go.Oni.wL (lzeros 32) (lset (lzeros 16) 0 1) 1 [104, 105]))))]), (33, Blk.rview [(Col.ints IntKind.u8 [104, 105])]), (35, Blk.vec [(Col.ints IntKind.u8 (Go.Cel.plainR [104, 105]))]), (41, Blk.vec [(Col.ints IntKind.u8 (Go.Oni.pC (lzeros 32) 2 (Go.Cel.padR (Go.Oni.wL (lzeros 32) (lset (lzeros 16) 0 1) 1 [104, 105]))))]), (1000000, Blk.view [(Seg.ints IntKind.u32 64 Go.Hsh.rootsL)])]))))) ∧ (((ieq (ofNat (llen (Go.Oni.wL (lzeros 32) (lset (lzeros 16) 0 1) 1 [104, 105]))) 82) = false) → (R (AV.one (AC.lit false)) [(6, Blk.own 44 [(Seg.cells [(AC.vec 29)]), (Seg.ints IntKind.u8 16 (Go.Oni.pR (lzeros 32) 1 (Go.Cel.padR (Go.Oni.wL (lzeros 32) (lset (lzeros 16) 0 1) 1 [104, 105]))))]), (10, Blk.own 44 [(Seg.cells [(AC.vec 41)]), (Seg.ints IntKind.u8 16 (Go.Oni.pR (lzeros 32) 2 (Go.Cel.padR (Go.Oni.wL (lzeros 32) (lset (lzeros 16) 0 1) 1 [104, 105]))))]), (12, Blk.vec [(Col.ints IntKind.u8 (lzeros 32))]), (16, Blk.rview [(Col.ints IntKind.u8 [104, 105])]), (18, Blk.vec [(Col.ints IntKind.u8 (Go.Oni.wL (lzeros 32) (lset (lzeros 16) 0 1) 1 [104, 105]))]), (23, Blk.vec [(Col.ints IntKind.u8 (Go.Cel.padR (Go.Oni.wL (lzeros 32) (lset (lzeros 16) 0 1) 1 [104, 105])))]), (29, Blk.vec [(Col.ints IntKind.u8 (Go.Oni.pC (lzeros 32) 1 (Go.Cel.padR (Go.Oni.wL (lzeros 32) (lset (lzeros 16) 0 1) 1 [104, 105]))))]), (33, Blk.rview [(Col.ints IntKind.u8 [104, 105])]), (35, Blk.vec [(Col.ints IntKind.u8 (Go.Cel.plainR [104, 105]))]), (41, Blk.vec [(Col.ints IntKind.u8 (Go.Oni.pC (lzeros 32) 2 (Go.Cel.padR (Go.Oni.wL (lzeros 32) (lset (lzeros 16) 0 1) 1 [104, 105]))))]), (1000000, Blk.view [(Seg.ints IntKind.u32 64 Go.Hsh.rootsL)])])))) ∧ (((ine (Go.Oni.pE (lzeros 32) 2 (Go.Cel.padR (Go.Oni.wL (lzeros 32) (lset (lzeros 16) 0 1) 1 [104, 105]))) 0) = false) → (R (AV.one (AC.lit false)) [(6, Blk.own 44 [(Seg.cells [(AC.vec 29)]), (Seg.ints IntKind.u8 16 (Go.Oni.pR (lzeros 32) 1 (Go.Cel.padR (Go.Oni.wL (lzeros 32) (lset (lzeros 16) 0 1) 1 [104, 105]))))]), (10, Blk.own 44 [(Seg.cells [(AC.vec 41)]), (Seg.ints IntKind.u8 16 (Go.Oni.pR (lzeros 32) 2 (Go.Cel.padR (Go.Oni.wL (lzeros 32) (lset (lzeros 16) 0 1) 1 [104, 105]))))]), (12, Blk.vec [(Col.ints IntKind.u8 (lzeros 32))]), (16, Blk.rview [(Col.ints IntKind.u8 [104, 105])]), (18, Blk.vec [(Col.ints IntKind.u8 (Go.Oni.wL (lzeros 32) (lset (lzeros 16) 0 1) 1 [104, 105]))]), (23, Blk.vec [(Col.ints IntKind.u8 (Go.Cel.padR (Go.Oni.wL (lzeros 32) (lset (lzeros 16) 0 1) 1 [104, 105])))]), (29, Blk.vec [(Col.ints IntKind.u8 (Go.Oni.pC (lzeros 32) 1 (Go.Cel.padR (Go.Oni.wL (lzeros 32) (lset (lzeros 16) 0 1) 1 [104, 105]))))]), (33, Blk.rview [(Col.ints IntKind.u8 [104, 105])]), (35, Blk.vec [(Col.ints IntKind.u8 (Go.Cel.plainR [104, 105]))]), (41, Blk.vec [(Col.ints IntKind.u8 (Go.Oni.pC (lzeros 32) 2 (Go.Cel.padR (Go.Oni.wL (lzeros 32) (lset (lzeros 16) 0 1) 1 [104, 105]))))]), (1000000, Blk.view [(Seg.ints IntKind.u32 64 Go.Hsh.rootsL)])])))) ∧ (((ieq (Go.Cel.plainE [104, 105]) 0) = false) → (R (AV.one (AC.lit false)) [(6, Blk.own 44 [(Seg.cells [(AC.vec 29)]), (Seg.ints IntKind.u8 16 (Go.Oni.pR (lzeros 32) 1 (Go.Cel.padR (Go.Oni.wL (lzeros 32) (lset (lzeros 16) 0 1) 1 [104, 105]))))]), (10, Blk.own 44 [(Seg.cells [(AC.vec 41)]), (Seg.ints IntKind.u8 16 (Go.Oni.pR (lzeros 32) 2 (Go.Cel.padR (Go.Oni.wL (lzeros 32) (lset (lzeros 16) 0 1) 1 [104, 105]))))]), (12, Blk.vec [(Col.ints IntKind.u8 (lzeros 32))]), (16, Blk.rview [(Col.ints IntKind.u8 [104, 105])]), (18, Blk.vec [(Col.ints IntKind.u8 (Go.Oni.wL (lzeros 32) (lset (lzeros 16) 0 1) 1 [104, 105]))]), (23, Blk.vec [(Col.ints IntKind.u8 (Go.Cel.padR (Go.Oni.wL (lzeros 32) (lset (lzeros 16) 0 1) 1 [104, 105])))]), (29, Blk.vec [(Col.ints IntKind.u8 (Go.Oni.pC (lzeros 32) 1 (Go.Cel.padR (Go.Oni.wL (lzeros 32) (lset (lzeros 16) 0 1) 1 [104, 105]))))]), (33, Blk.rview [(Col.ints IntKind.u8 [104, 105])]), (35, Blk.vec [(Col.ints IntKind.u8 (Go.Cel.plainR [104, 105]))]), (41, Blk.vec [(Col.ints IntKind.u8 (Go.Oni.pC (lzeros 32) 2 (Go.Cel.padR (Go.Oni.wL (lzeros 32) (lset (lzeros 16) 0 1) 1 [104, 105]))))]), (1000000, Blk.view [(Seg.ints IntKind.u32 64 Go.Hsh.rootsL)])])))) ∧ (((ieq (Go.Oni.pE (lzeros 32) 1 (Go.Cel.padR (Go.Oni.wL (lzeros 32) (lset (lzeros 16) 0 1) 1 [104, 105]))) 0) = false) → (R (AV.one (AC.lit false)) [(6, Blk.own 44 [(Seg.cells [(AC.vec 29)]), (Seg.ints IntKind.u8 16 (Go.Oni.pR (lzeros 32) 1 (Go.Cel.padR (Go.Oni.wL (lzeros 32) (lset (lzeros 16) 0 1) 1 [104, 105]))))]), (10, Blk.own 44 [(Seg.cells [(AC.vec 41)]), (Seg.ints IntKind.u8 16 (Go.Oni.pR (lzeros 32) 2 (Go.Cel.padR (Go.Oni.wL (lzeros 32) (lset (lzeros 16) 0 1) 1 [104, 105]))))]), (12, Blk.vec [(Col.ints IntKind.u8 (lzeros 32))]), (16, Blk.rview [(Col.ints IntKind.u8 [104, 105])]), (18, Blk.vec [(Col.ints IntKind.u8 (Go.Oni.wL (lzeros 32) (lset (lzeros 16) 0 1) 1 [104, 105]))]), (23, Blk.vec [(Col.ints IntKind.u8 (Go.Cel.padR (Go.Oni.wL (lzeros 32) (lset (lzeros 16) 0 1) 1 [104, 105])))]), (29, Blk.vec [(Col.ints IntKind.u8 (Go.Oni.pC (lzeros 32) 1 (Go.Cel.padR (Go.Oni.wL (lzeros 32) (lset (lzeros 16) 0 1) 1 [104, 105]))))]), (33, Blk.rview [(Col.ints IntKind.u8 [104, 105])]), (35, Blk.vec [(Col.ints IntKind.u8 (Go.Cel.plainR [104, 105]))]), (41, Blk.vec [(Col.ints IntKind.u8 (Go.Oni.pC (lzeros 32) 2 (Go.Cel.padR (Go.Oni.wL (lzeros 32) (lset (lzeros 16) 0 1) 1 [104, 105]))))]), (1000000, Blk.view [(Seg.ints IntKind.u32 64 Go.Hsh.rootsL)])])))) ∧ (((ieq (Go.Cel.padE (Go.Oni.wL (lzeros 32) (lset (lzeros 16) 0 1) 1 [104, 105])) 0) = false) → (R (AV.one (AC.lit false)) [(6, Blk.own 44 [(Seg.cells [(AC.vec 29)]), (Seg.ints IntKind.u8 16 (Go.Oni.pR (lzeros 32) 1 (Go.Cel.padR (Go.Oni.wL (lzeros 32) (lset (lzeros 16) 0 1) 1 [104, 105]))))]), (10, Blk.own 44 [(Seg.cells [(AC.vec 41)]), (Seg.ints IntKind.u8 16 (Go.Oni.pR (lzeros 32) 2 (Go.Cel.padR (Go.Oni.wL (lzeros 32) (lset (lzeros 16) 0 1) 1 [104, 105]))))]), (12, Blk.vec [(Col.ints IntKind.u8 (lzeros 32))]), (16, Blk.rview [(Col.ints IntKind.u8 [104, 105])]), (18, Blk.vec [(Col.ints IntKind.u8 (Go.Oni.wL (lzeros 32) (lset (lzeros 16) 0 1) 1 [104, 105]))]), (23, Blk.vec [(Col.ints IntKind.u8 (Go.Cel.padR (Go.Oni.wL (lzeros 32) (lset (lzeros 16) 0 1) 1 [104, 105])))]), (29, Blk.vec [(Col.ints IntKind.u8 (Go.Oni.pC (lzeros 32) 1 (Go.Cel.padR (Go.Oni.wL (lzeros 32) (lset (lzeros 16) 0 1) 1 [104, 105]))))]), (33, Blk.rview [(Col.ints IntKind.u8 [104, 105])]), (35, Blk.vec [(Col.ints IntKind.u8 (Go.Cel.plainR [104, 105]))]), (41, Blk.vec [(Col.ints IntKind.u8 (Go.Oni.pC (lzeros 32) 2 (Go.Cel.padR (Go.Oni.wL (lzeros 32) (lset (lzeros 16) 0 1) 1 [104, 105]))))]), (1000000, Blk.view [(Seg.ints IntKind.u32 64 Go.Hsh.rootsL)])])))) ∧ (((ieq (Go.Oni.wE (lzeros 32) 1 [104, 105]) 0) = false) → (R (AV.one (AC.lit false)) [(6, Blk.own 44 [(Seg.cells [(AC.vec 29)]), (Seg.ints IntKind.u8 16 (Go.Oni.pR (lzeros 32) 1 (Go.Cel.padR (Go.Oni.wL (lzeros 32) (lset (lzeros 16) 0 1) 1 [104, 105]))))]), (10, Blk.own 44 [(Seg.cells [(AC.vec 41)]), (Seg.ints IntKind.u8 16 (Go.Oni.pR (lzeros 32) 2 (Go.Cel.padR (Go.Oni.wL (lzeros 32) (lset (lzeros 16) 0 1) 1 [104, 105]))))]), (12, Blk.vec [(Col.ints IntKind.u8 (lzeros 32))]), (16, Blk.rview [(Col.ints IntKind.u8 [104, 105])]), (18, Blk.vec [(Col.ints IntKind.u8 (Go.Oni.wL (lzeros 32) (lset (lzeros 16) 0 1) 1 [104, 105]))]), (23, Blk.vec [(Col.ints IntKind.u8 (Go.Cel.padR (Go.Oni.wL (lzeros 32) (lset (lzeros 16) 0 1) 1 [104, 105])))]), (29, Blk.vec [(Col.ints IntKind.u8 (Go.Oni.pC (lzeros 32) 1 (Go.Cel.padR (Go.Oni.wL (lzeros 32) (lset (lzeros 16) 0 1) 1 [104, 105]))))]), (33, Blk.rview [(Col.ints IntKind.u8 [104, 105])]), (35, Blk.vec [(Col.ints IntKind.u8 (Go.Cel.plainR [104, 105]))]), (41, Blk.vec [(Col.ints IntKind.u8 (Go.Oni.pC (lzeros 32) 2 (Go.Cel.padR (Go.Oni.wL (lzeros 32) (lset (lzeros 16) 0 1) 1 [104, 105]))))]), (1000000, Blk.view [(Seg.ints IntKind.u32 64 Go.Hsh.rootsL)])]))))))))))))) := by kernel_rfl

end Go.Proofs.YtjahiggpglbgoaaDoor.G

/- The fixed facts of the laws of layers. -/
namespace Go.Proofs.YtjahiggpglbgoaaDoor.G
open Go Go.Sx Go.Fld Go.Hsh Go.Mac Go.Blk Go.Cel Go.Oni
set_option maxRecDepth 20000
set_option linter.unusedVariables false
set_option linter.unusedSimpArgs false

def n1N : List Nat := [1, 0, 0, 0, 0, 0, 0, 0, 0, 0, 0, 0, 0, 0, 0, 0]
def z32N : List Nat := List.replicate 32 0
set_option maxRecDepth 100000 in
theorem key_seven : (hmacN (hmacN n1N z32N) [99, 104, 117, 114, 110, 1]).take 16 = aliveKey := by decide +kernel
theorem key_cN : dvB (lzeros 32) (lset (lzeros 16) 0 1) = cN aliveKey := by
  unfold dvB
  rw [if_pos (show (lzeros 32).length = 32 from rfl), lsub_take]
  unfold kB
  rw [show (80 : Int) = ((80 : Nat) : Int) from rfl, exR_first (m := 80) (k := 16) (by decide) (by decide) (by decide)]
  have e1 : hmac (lset (lzeros 16) 0 1) (lzeros 32) = cN (hmacN n1N z32N) := hmac_nat (k := n1N) (msg := z32N) (by decide) (by decide) (by decide) (by decide)
  have hb : Bs (cN (hmacN n1N z32N)) := by rw [← e1]; exact hmac_bytes _ _
  have hl : (hmacN n1N z32N).length = 32 := by rw [← cN_len, ← e1]; exact hmac_len _ _
  have e2 : hmac (cN (hmacN n1N z32N)) (churn ++ [1]) = cN (hmacN (hmacN n1N z32N) [99, 104, 117, 114, 110, 1]) := hmac_nat (k := hmacN n1N z32N) (msg := [99, 104, 117, 114, 110, 1]) (cN_lt hb) (by omega) (by decide) (by decide)
  rw [e1, e2, ← key_seven]
  unfold cN
  rw [List.map_take]
theorem pad_app {w : List Int} (h : w.length ≤ 320) : padR w = w ++ List.replicate (320 - w.length) 0 := by unfold padR; rw [if_pos h]; rfl
theorem pad_len {w : List Int} (h : w.length ≤ 320) : (padR w).length = 320 := by rw [pad_app h]; simp; omega
theorem opO_at {key c : List Int} {left : Int} {i : Nat} (h : i < (sizeI left).toNat - 32) (hl : (sizeI left).toNat ≤ c.length) : lget (opO key left c) i = bxor .u8 (lget c (32 + i)) (strB (ks (dvB key (nnO c))) (lzeros 16) i) := by
  unfold opO mask
  rw [tab_lget _ (by unfold bxO; rw [lsub_length (by omega)]; exact h)]
  unfold bxO
  rw [lget_lsub h]
theorem two_no {w : List Int} (b : Bk (lzeros 32) (lset (lzeros 16) 0 1) [104, 105] w 1) : peE (lzeros 32) 2 (padR w) ≠ 0 := by
  intro h
  have hok : inOk (opO (lzeros 32) 2 (padR w)) 2 = true := by
    unfold peE at h
    split at h
    · cases h
    · split at h
      · rename_i q; exact absurd h q
      · split at h
        · cases h
        · split at h
          · cases h
          · rename_i q; simpa using q
  obtain ⟨_, hz⟩ := inOk_some (left := 2) (by decide) (by decide) hok
  have wl : w.length = 82 := b.len
  have cl := pad_len (w := w) (by omega)
  have s1 : sizeI 1 = 82 := rfl
  have s2 : sizeI 2 = 116 := rfl
  have op : opO (lzeros 32) 1 (padR w) = plO 1 [104, 105] := b.op
  have same : ∀ i, i < 50 → lget (opO (lzeros 32) 2 (padR w)) i = lget (plO 1 [104, 105]) i := fun i hi => by
    rw [← op, opO_at (left := 2) (by rw [s2]; show i < 84; omega) (by rw [s2, cl]; decide), opO_at (left := 1) (by rw [s1]; show i < 50; omega) (by rw [s1, cl]; decide)]
  have p0 : lget (plO 1 [104, 105]) 0 = 0 := rfl
  have p1 : lget (plO 1 [104, 105]) 1 = 2 := rfl
  have hN : inN (opO (lzeros 32) 2 (padR w)) = 2 := by unfold inN; rw [same 0 (by decide), same 1 (by decide), p0, p1]; rfl
  have ol : (opO (lzeros 32) 2 (padR w)).length = 84 := opO_len (left := 2) (by decide) (by decide) cl
  rw [hN] at hz
  have h50 := zb_true.mp hz 46 (by rw [List.length_drop, ol]; decide)
  rw [lget_drop] at h50
  have e50 := opO_at (key := lzeros 32) (c := padR w) (left := 2) (i := 50) (by rw [s2]; decide) (by rw [s2, cl]; decide)
  have c82 : lget (padR w) 82 = 0 := by
    rw [pad_app (by omega)]
    unfold lget List.getD
    rw [List.getElem?_append_right (by omega), List.getElem?_replicate, if_pos (by omega)]; rfl
  have st : strB (ks (dvB (lzeros 32) (nnO (padR w)))) (lzeros 16) 50 = lget aliveS10 2 := by
    rw [b.nc, key_cN, ← alive_enc]; rfl
  have h50' : lget (opO (lzeros 32) 2 (padR w)) 50 = 0 := h50
  rw [e50, show 32 + 50 = 82 from rfl, c82, st] at h50'
  exact absurd h50' (by decide +kernel)

theorem good_oalive : Sx.Good Tryd.prog 10 yesR := by
  refine Sx.Good.reads (D := []) mixed gamO4_good Tryd.func10 (by kernel_rfl) rfl fun d args σ K h => ?_
  simp only [yesR] at h
  split at h <;> try exact h.elim
  obtain ⟨hr, hK⟩ := h
  refine ⟨_, _, .glob (roots_at hr) (by intro m; rfl) (.nil _), by simp, 1, ?_⟩
  have e := oalive_vc (Res d yesR.news σ K) 0
  refine e.mpr ?_
  have nb : BL 16 (lset (lzeros 16) 0 1) := bl_of rfl ⟨by decide⟩
  have hb : Bs [104, 105] := ⟨by decide⟩
  obtain ⟨w, b⟩ : ∃ w, Bk (lzeros 32) (lset (lzeros 16) 0 1) [104, 105] w 1 := ⟨_, back rfl nb (by decide) (by decide) hb (by decide)⟩
  have wl : w.length = 82 := b.len
  have cl := pad_len (w := w) (by omega)
  have hw : wL (lzeros 32) (lset (lzeros 16) 0 1) 1 [104, 105] = w := by rw [wL_eq]; exact b.r
  have g1 : ieq (wE (lzeros 32) 1 [104, 105]) 0 = true := by rw [wE_eq, ieq_true]; exact b.e
  have g2 : ieq (padE w) 0 = true := by rw [ieq_true]; unfold padE; rw [if_pos (by omega)]
  have g3 : ieq (pE (lzeros 32) 1 (padR w)) 0 = true := by rw [pE_eq, ieq_true]; exact b.pE
  have g4 : ieq (plainE [104, 105]) 0 = true := rfl
  have g5 : ine (pE (lzeros 32) 2 (padR w)) 0 = true := by rw [pE_eq, ine_true]; exact two_no b
  have g6 : ieq (ofNat (llen w)) 82 = true := by rw [ieq_true]; simp only [ofNat, llen, wl]; rfl
  have hp : pC (lzeros 32) 1 (padR w) = plainR [104, 105] := by rw [pC_eq]; exact b.pC.trans (if_neg (by decide))
  have g7 : ieq (ofNat (llen (plainR [104, 105]))) 320 = true := by decide +kernel
  have g8 := seq_self (plainR [104, 105])
  have g9 : ieq (sizeI 2) 116 = true := rfl
  have pb : Bs (padR w) := by
    rw [pad_app (by omega)]
    exact ⟨fun x hx => by
      rcases List.mem_append.mp hx with hx | hx
      · exact b.bs.all x hx
      · rw [(List.mem_replicate.mp hx).2]; decide⟩
  have ky : Ky (lzeros 32) := ⟨⟨by decide⟩, ⟨by decide⟩⟩
  have nn : Nn (lset (lzeros 16) 0 1) := ⟨nb⟩
  have i1 : In [104, 105] := ⟨by decide, hb⟩
  have i2 : In (padR w) := ⟨by omega, pb⟩
  have sh1 : Short w := ⟨by omega⟩
  have sh2 : Short [104, 105] := ⟨by decide⟩
  have l1 : Lf 1 := ⟨by decide, by decide⟩
  have l2 : Lf 2 := ⟨by decide, by decide⟩
  simp only [hw, g1, g2, g3, g4, g5, g6, hp, g7, g8, true_and, and_true, Bool.true_eq_false, false_implies, forall_const]
  exact ⟨⟨by omega, by omega, by omega, by omega⟩, ⟨by omega⟩, ⟨by omega, by omega⟩, ⟨ky, nn, l1, i1⟩, sh1, ⟨ky, l1, i2⟩, ⟨by omega, by omega⟩, sh2, ⟨ky, l2, i2⟩, l2, res_yes g9 hK⟩
theorem res_bool {d : Nat} {σ σ' : Mem} {K : AV → Mem → Prop} {b c : Bool} (e : b = c) (hK : K (.one (.bool c)) σ) : Res d 0 σ K (.one (.bool b)) σ' := by
  subst e
  have hv : ResV [] d (.one (.bool b)) (.one (.bool b)) := Or.inl ⟨fun _ => rfl, fun _ => rfl, fun _ _ q => q⟩
  exact res_plain hv hK
theorem res_litb {d : Nat} {σ σ' : Mem} {K : AV → Mem → Prop} {b c : Bool} (e : b = c) (hK : K (.one (.bool c)) σ) : Res d 0 σ K (.one (.lit b)) σ' := by
  subst e
  have hv : ResV [] d (.one (.lit b)) (.one (.bool b)) := Or.inl ⟨fun _ => rfl, fun _ => rfl, fun _ _ q => q⟩
  exact res_plain hv hK
theorem good_osame : Sx.Good Tryd.prog 19 sameS := by
  refine Sx.Good.reads (D := []) mixed gamO4_good Tryd.func19 (by kernel_rfl) rfl fun d args σ K h => ?_
  simp only [sameS] at h
  split at h <;> try exact h.elim
  rename_i x r y s
  obtain ⟨a, h, hrow⟩ := rdb_row h
  obtain ⟨b, ⟨⟨⟨ha, hr⟩, hb, hs⟩, hK⟩, hrow2⟩ := rdb_row h
  refine ⟨_, _, .aggrow [.ints .u8] _ hrow (by decide) (by intro m; rfl) (.aggrow [.ints .u8] _ hrow2 (by decide) (by intro m; rfl) (.nil _)), by simp, 1, ?_⟩
  have e := osame_vc (Res d sameS.news σ K) 0 a b r s
  refine e.mpr ⟨fun q => ⟨⟨by omega⟩, ⟨by omega⟩, res_bool ?_ hK⟩, fun q => res_litb ?_ hK⟩
  · have hab : a = b := bytes_eq ha.bs hb.bs (seq2_true.mp q)
    unfold sameO
    rw [lsub_whole hr.bl.len, lsub_whole hs.bl.len, decide_eq_true hab, Bool.true_and]
    cases hq : leq r s with
    | true => rw [leq_true] at hq; exact (decide_eq_true hq).symm
    | false => rw [leq_false] at hq; exact (decide_eq_false hq).symm
  · unfold sameO
    have hab : a ≠ b := by rintro rfl; rw [seq_self] at q; cases q
    rw [decide_eq_false hab]; rfl
theorem gamO5_good : GoodG Tryd.prog gamO5 := (gamO4_good.ext good_oalive ⟨_, Tryd.func10, by decide, by kernel_rfl⟩).ext good_osame ⟨_, Tryd.func19, by decide, by kernel_rfl⟩
end Go.Proofs.YtjahiggpglbgoaaDoor.G

/- The verification conditions of functions, printed by a program of this session out of their codes. -/
namespace Go.Proofs.YtjahiggpglbgoaaDoor.G
open Go Go.Sx Go.Oni
set_option linter.unusedVariables false
set_option maxRecDepth 100000

theorem londer_vc (R : AV → Mem → Prop) (fuel : Nat) (key : List Int) (nonce : List Int) (left : Int) : callsx Tryd.prog gamO5 [] Tryd.f4 (fuel + 1) [.one (.vec 200000), .agg [.ints .u8 16 nonce], .one (.int .i64 left)] [(200000, .rview [.ints .u8 key]), (1000000 + 0, .view [.ints .u32 64 Go.Hsh.rootsL])] R = (((Go.Hsh.rootsL = Go.Hsh.rootsL) ∧ (((Go.Oni.Ky key) ∧ (Go.Oni.Nn nonce)) ∧ (((Go.Hsh.rootsL = Go.Hsh.rootsL) ∧ ((Go.Oni.Ky key) ∧ (Go.Oni.Nn nonce))) ∧ ((((band2 (leq (Go.Oni.dvB key nonce) (Go.Oni.dvB key nonce)) (band2 (leq (Go.Oni.dvM key nonce) (Go.Oni.dvM key nonce)) (band2 (leq (Go.Oni.dvR key nonce) (Go.Oni.dvR key nonce)) true))) = true) → ((((ieq (Go.Oni.dvE key) (Go.Oni.dvE key)) = true) → ((Go.Oni.Lf left) ∧ ((Go.Oni.Lf left) ∧ (let y0 : Bool := (band2 (leq (Go.Oni.dvB key nonce) (Go.Oni.dvB key nonce)) (band2 (leq (Go.Oni.dvM key nonce) (Go.Oni.dvM key nonce)) (band2 (leq (Go.Oni.dvR key nonce) (Go.Oni.dvR key nonce)) true))); (R (AV.one (AC.bool (ieq (Go.Oni.sizeI left) (Go.Oni.sizeI left)))) [(4, Blk.own 25 [(Seg.ints IntKind.u8 16 nonce)]), (7, Blk.own 28 [(Seg.ints IntKind.u8 16 (Go.Oni.dvB key nonce)), (Seg.ints IntKind.u8 32 (Go.Oni.dvM key nonce)), (Seg.ints IntKind.u8 32 (Go.Oni.dvR key nonce))]), (9, Blk.own 28 [(Seg.ints IntKind.u8 16 (Go.Oni.dvB key nonce)), (Seg.ints IntKind.u8 32 (Go.Oni.dvM key nonce)), (Seg.ints IntKind.u8 32 (Go.Oni.dvR key nonce))]), (200000, Blk.rview [(Col.ints IntKind.u8 key)]), (1000000, Blk.view [(Seg.ints IntKind.u32 64 Go.Hsh.rootsL)])]))))) ∧ (((ieq (Go.Oni.dvE key) (Go.Oni.dvE key)) = false) → (let y1 : Bool := (band2 (leq (Go.Oni.dvB key nonce) (Go.Oni.dvB key nonce)) (band2 (leq (Go.Oni.dvM key nonce) (Go.Oni.dvM key nonce)) (band2 (leq (Go.Oni.dvR key nonce) (Go.Oni.dvR key nonce)) true))); (R (AV.one (AC.lit false)) [(4, Blk.own 25 [(Seg.ints IntKind.u8 16 nonce)]), (7, Blk.own 28 [(Seg.ints IntKind.u8 16 (Go.Oni.dvB key nonce)), (Seg.ints IntKind.u8 32 (Go.Oni.dvM key nonce)), (Seg.ints IntKind.u8 32 (Go.Oni.dvR key nonce))]), (9, Blk.own 28 [(Seg.ints IntKind.u8 16 (Go.Oni.dvB key nonce)), (Seg.ints IntKind.u8 32 (Go.Oni.dvM key nonce)), (Seg.ints IntKind.u8 32 (Go.Oni.dvR key nonce))]), (200000, Blk.rview [(Col.ints IntKind.u8 key)]), (1000000, Blk.view [(Seg.ints IntKind.u32 64 Go.Hsh.rootsL)])]))))) ∧ (((band2 (leq (Go.Oni.dvB key nonce) (Go.Oni.dvB key nonce)) (band2 (leq (Go.Oni.dvM key nonce) (Go.Oni.dvM key nonce)) (band2 (leq (Go.Oni.dvR key nonce) (Go.Oni.dvR key nonce)) true))) = false) → (let y2 : Bool := (band2 (leq (Go.Oni.dvB key nonce) (Go.Oni.dvB key nonce)) (band2 (leq (Go.Oni.dvM key nonce) (Go.Oni.dvM key nonce)) (band2 (leq (Go.Oni.dvR key nonce) (Go.Oni.dvR key nonce)) true))); (R (AV.one (AC.lit false)) [(4, Blk.own 25 [(Seg.ints IntKind.u8 16 nonce)]), (7, Blk.own 28 [(Seg.ints IntKind.u8 16 (Go.Oni.dvB key nonce)), (Seg.ints IntKind.u8 32 (Go.Oni.dvM key nonce)), (Seg.ints IntKind.u8 32 (Go.Oni.dvR key nonce))]), (9, Blk.own 28 [(Seg.ints IntKind.u8 16 (Go.Oni.dvB key nonce)), (Seg.ints IntKind.u8 32 (Go.Oni.dvM key nonce)), (Seg.ints IntKind.u8 32 (Go.Oni.dvR key nonce))]), (200000, Blk.rview [(Col.ints IntKind.u8 key)]), (1000000, Blk.view [(Seg.ints IntKind.u32 64 Go.Hsh.rootsL)])])))))))) := by kernel_rfl

theorem lonwrap_vc (R : AV → Mem → Prop) (fuel : Nat) (key : List Int) (nonce : List Int) (inner : List Int) (left : Int) : callsx Tryd.prog gamO5 [] Tryd.f5 (fuel + 1) [.agg [.cells [.vec 200000], .ints .u8 16 nonce, .cells [.int .i64 left], .cells [.vec 200001]]] [(200000, .rview [.ints .u8 key]), (200001, .rview [.ints .u8 inner]), (1000000 + 0, .view [.ints .u32 64 Go.Hsh.rootsL])] R = (((Go.Hsh.rootsL = Go.Hsh.rootsL) ∧ ((Fits 16 16) ∧ (((Go.Oni.Ky key) ∧ ((Go.Oni.Nn (lsub nonce 0 16)) ∧ ((Go.Oni.Lf left) ∧ (Go.Oni.In inner)))) ∧ ((Fits 16 16) ∧ (((Go.Hsh.rootsL = Go.Hsh.rootsL) ∧ ((Go.Oni.Ky key) ∧ ((Go.Oni.Nn (lsub nonce 0 16)) ∧ ((Go.Oni.Lf left) ∧ (Go.Oni.In inner))))) ∧ ((((seq2 (bytesOf (Go.Oni.wL key (lsub nonce 0 16) left inner)) (bytesOf (Go.Oni.wL key (lsub nonce 0 16) left inner))) = true) → (R (AV.one (AC.bool (ieq (Go.Oni.wE key left inner) (Go.Oni.wE key left inner)))) [(1, Blk.own 36 [(Seg.cells [(AC.vec 200000)]), (Seg.ints IntKind.u8 16 nonce), (Seg.cells [(AC.int IntKind.i64 left)]), (Seg.cells [(AC.vec 200001)])]), (18, Blk.vec [(Col.ints IntKind.u8 (Go.Oni.wL key (lsub nonce 0 16) left inner))]), (30, Blk.vec [(Col.ints IntKind.u8 (Go.Oni.wL key (lsub nonce 0 16) left inner))]), (200000, Blk.rview [(Col.ints IntKind.u8 key)]), (200001, Blk.rview [(Col.ints IntKind.u8 inner)]), (1000000, Blk.view [(Seg.ints IntKind.u32 64 Go.Hsh.rootsL)])])) ∧ (((seq2 (bytesOf (Go.Oni.wL key (lsub nonce 0 16) left inner)) (bytesOf (Go.Oni.wL key (lsub nonce 0 16) left inner))) = false) → (R (AV.one (AC.lit false)) [(1, Blk.own 36 [(Seg.cells [(AC.vec 200000)]), (Seg.ints IntKind.u8 16 nonce), (Seg.cells [(AC.int IntKind.i64 left)]), (Seg.cells [(AC.vec 200001)])]), (18, Blk.vec [(Col.ints IntKind.u8 (Go.Oni.wL key (lsub nonce 0 16) left inner))]), (30, Blk.vec [(Col.ints IntKind.u8 (Go.Oni.wL key (lsub nonce 0 16) left inner))]), (200000, Blk.rview [(Col.ints IntKind.u8 key)]), (200001, Blk.rview [(Col.ints IntKind.u8 inner)]), (1000000, Blk.view [(Seg.ints IntKind.u32 64 Go.Hsh.rootsL)])]))))))))) := by kernel_rfl

end Go.Proofs.YtjahiggpglbgoaaDoor.G

/- The verification conditions of functions, printed by a program of this session out of their codes. -/
namespace Go.Proofs.YtjahiggpglbgoaaDoor.G
open Go Go.Sx Go.Oni
set_option linter.unusedVariables false
set_option maxRecDepth 100000

def lonnames.l0 (R : AV → Mem → Prop)  (fuel : Nat) (x0 : Int) : Prop := run Tryd.prog gamO5 [] (resh Tryd.prog [] Tryd.f3.results.toList R) fuel [.code (cAt (bodyOf Tryd.f3) [1, 1, 0, 1, 0, 0]), .inLoop (cAt (bodyOf Tryd.f3) [1, 1, 0, 1, 0, 0]), .inBlock 0, .code (cAt (bodyOf Tryd.f3) [1, 1, 1])] [AV.undef, (AV.one (AC.int IntKind.i64 x0)), AV.undef, AV.undef, AV.undef, AV.undef, AV.undef, AV.undef, AV.undef, AV.undef, AV.undef, AV.undef, AV.undef, AV.undef, AV.undef, AV.undef, AV.undef, (AV.tup []), (AV.tup []), (AV.tup []), (AV.tup []), (AV.tup []), (AV.tup []), (AV.tup []), (AV.tup []), (AV.tup []), (AV.tup []), (AV.tup []), (AV.tup []), (AV.tup []), (AV.tup [])] [(1000000, Blk.view [(Seg.ints IntKind.u32 64 Go.Hsh.rootsL)])]

theorem lonnames.l0_succ (R : AV → Mem → Prop)  (fuel : Nat) (x0 : Int) : lonnames.l0 R  (fuel + 1) x0 = (((((ile x0 8) = true) → ((Go.Oni.Lf x0) ∧ ((((ine (Go.Oni.sizeI x0) (add IntKind.i64 82 (mul IntKind.i64 34 (sub IntKind.i64 x0 1)))) = true) → (R (AV.one (AC.lit false)) [(1000000, Blk.view [(Seg.ints IntKind.u32 64 Go.Hsh.rootsL)])])) ∧ (((ine (Go.Oni.sizeI x0) (add IntKind.i64 82 (mul IntKind.i64 34 (sub IntKind.i64 x0 1)))) = false) → (lonnames.l0 R  fuel (add IntKind.i64 x0 1)))))) ∧ (((ile x0 8) = false) → ((Go.Oni.Lf 0) ∧ ((((ieq (Go.Oni.sizeI 0) 0) = true) → ((Go.Oni.Lf 9) ∧ ((((ieq (Go.Oni.sizeI 9) 0) = true) → ((Go.Oni.Lf (-9223372036854775808 : Int)) ∧ ((((ieq (Go.Oni.sizeI (-9223372036854775808 : Int)) 0) = true) → ((Go.Oni.Lf 9223372036854775807) ∧ (R (AV.one (AC.bool (ieq (Go.Oni.sizeI 9223372036854775807) 0))) [(1000000, Blk.view [(Seg.ints IntKind.u32 64 Go.Hsh.rootsL)])]))) ∧ (((ieq (Go.Oni.sizeI (-9223372036854775808 : Int)) 0) = false) → (R (AV.one (AC.lit false)) [(1000000, Blk.view [(Seg.ints IntKind.u32 64 Go.Hsh.rootsL)])]))))) ∧ (((ieq (Go.Oni.sizeI 9) 0) = false) → (R (AV.one (AC.lit false)) [(1000000, Blk.view [(Seg.ints IntKind.u32 64 Go.Hsh.rootsL)])]))))) ∧ (((ieq (Go.Oni.sizeI 0) 0) = false) → (R (AV.one (AC.lit false)) [(1000000, Blk.view [(Seg.ints IntKind.u32 64 Go.Hsh.rootsL)])]))))))) := by kernel_rfl
theorem lonnames.l0_zero (R : AV → Mem → Prop)  (x0 : Int) : lonnames.l0 R  0 x0 = False := by kernel_rfl

theorem lonnames_vc (R : AV → Mem → Prop) (fuel : Nat)  : callsx Tryd.prog gamO5 [] Tryd.f3 (fuel + 1) [] [(1000000 + 0, .view [.ints .u32 64 Go.Hsh.rootsL])] R = (((Go.Hsh.rootsL = Go.Hsh.rootsL) ∧ (lonnames.l0 R  fuel 1))) := by kernel_rfl

end Go.Proofs.YtjahiggpglbgoaaDoor.G

/- The verification conditions of functions, printed by a program of this session out of their codes. -/
namespace Go.Proofs.YtjahiggpglbgoaaDoor.G
open Go Go.Sx Go.Oni
set_option linter.unusedVariables false
set_option maxRecDepth 100000

def lonpeels.l0 (R : AV → Mem → Prop) (left : Int) (key : List Int) (L : List (List Int)) (fuel : Nat) (x0 : Int) : Prop := run Tryd.prog gamO5 [] (resh Tryd.prog [] Tryd.f6.results.toList R) fuel [.code (cAt (bodyOf Tryd.f6) [1, 1, 0, 1, 0, 0]), .inLoop (cAt (bodyOf Tryd.f6) [1, 1, 0, 1, 0, 0]), .inBlock 0, .code (cAt (bodyOf Tryd.f6) [1, 1, 1])] [(AV.one (AC.vec 200000)), (AV.one (AC.int IntKind.i64 left)), (AV.one (AC.vec 200002)), AV.undef, AV.undef, AV.undef, AV.undef, (AV.one (AC.int IntKind.i64 x0)), AV.undef, AV.undef, AV.undef, AV.undef, AV.undef, AV.undef, AV.undef, AV.undef, AV.undef, AV.undef, AV.undef, AV.undef, AV.undef, AV.undef, AV.undef, AV.undef, AV.undef, AV.undef, AV.undef, AV.undef, AV.undef, AV.undef, AV.undef, AV.undef, AV.undef, AV.undef, AV.undef, AV.undef, AV.undef, AV.undef, AV.undef, AV.undef, AV.undef, AV.undef, AV.undef, AV.undef, AV.undef, AV.undef, AV.undef, AV.undef, AV.undef] [(200000, Blk.rview [(Col.ints IntKind.u8 key)]), (200002, Blk.rview [(Col.rows IntKind.u8 L)]), (1000000, Blk.view [(Seg.ints IntKind.u32 64 Go.Hsh.rootsL)])]

theorem lonpeels.l0_succ (R : AV → Mem → Prop) (left : Int) (key : List Int) (L : List (List Int)) (fuel : Nat) (x0 : Int) : lonpeels.l0 R left key L (fuel + 1) x0 = (((((ilt x0 (ofNat (llen L))) = true) → ((InB x0 (llen L)) ∧ (((Go.Oni.Ky key) ∧ ((Go.Oni.Lf left) ∧ (Go.Oni.In (llget L (nat x0))))) ∧ ((InB x0 (llen L)) ∧ (((Go.Hsh.rootsL = Go.Hsh.rootsL) ∧ ((Go.Oni.Ky key) ∧ ((Go.Oni.Lf left) ∧ (Go.Oni.In (llget L (nat x0)))))) ∧ ((((Go.Oni.In (Go.Oni.pC key left (llget L (nat x0)))) ∧ (Go.Oni.K16 (Go.Oni.pR key left (llget L (nat x0))))) ∧ ((Go.Oni.In (Go.Oni.pC key left (llget L (nat x0)))) ∧ (Go.Oni.K16 (Go.Oni.pR key left (llget L (nat x0)))))) ∧ ((((bnot (Go.Oni.sameO (Go.Oni.pC key left (llget L (nat x0))) (Go.Oni.pR key left (llget L (nat x0))) (Go.Oni.pC key left (llget L (nat x0))) (Go.Oni.pR key left (llget L (nat x0))))) = false) → (let y1 : Bool := (Go.Oni.sameO (Go.Oni.pC key left (llget L (nat x0))) (Go.Oni.pR key left (llget L (nat x0))) (Go.Oni.pC key left (llget L (nat x0))) (Go.Oni.pR key left (llget L (nat x0)))); (let y2 : Bool := (bnot (Go.Oni.sameO (Go.Oni.pC key left (llget L (nat x0))) (Go.Oni.pR key left (llget L (nat x0))) (Go.Oni.pC key left (llget L (nat x0))) (Go.Oni.pR key left (llget L (nat x0))))); ((((ine (Go.Oni.pE key left (llget L (nat x0))) (Go.Oni.pE key left (llget L (nat x0)))) = true) → (R (AV.one (AC.lit false)) [(8, Blk.own 44 [(Seg.cells [(AC.vec 27)]), (Seg.ints IntKind.u8 16 (Go.Oni.pR key left (llget L (nat x0))))]), (10, Blk.own 44 [(Seg.cells [(AC.vec 37)]), (Seg.ints IntKind.u8 16 (Go.Oni.pR key left (llget L (nat x0))))]), (27, Blk.vec [(Col.ints IntKind.u8 (Go.Oni.pC key left (llget L (nat x0))))]), (37, Blk.vec [(Col.ints IntKind.u8 (Go.Oni.pC key left (llget L (nat x0))))]), (200000, Blk.rview [(Col.ints IntKind.u8 key)]), (200002, Blk.rview [(Col.rows IntKind.u8 L)]), (1000000, Blk.view [(Seg.ints IntKind.u32 64 Go.Hsh.rootsL)])])) ∧ (((ine (Go.Oni.pE key left (llget L (nat x0))) (Go.Oni.pE key left (llget L (nat x0)))) = false) → (lonpeels.l0 R left key L fuel (add IntKind.i64 x0 1))))))) ∧ (((bnot (Go.Oni.sameO (Go.Oni.pC key left (llget L (nat x0))) (Go.Oni.pR key left (llget L (nat x0))) (Go.Oni.pC key left (llget L (nat x0))) (Go.Oni.pR key left (llget L (nat x0))))) = true) → (let y3 : Bool := (Go.Oni.sameO (Go.Oni.pC key left (llget L (nat x0))) (Go.Oni.pR key left (llget L (nat x0))) (Go.Oni.pC key left (llget L (nat x0))) (Go.Oni.pR key left (llget L (nat x0)))); (let y4 : Bool := (bnot (Go.Oni.sameO (Go.Oni.pC key left (llget L (nat x0))) (Go.Oni.pR key left (llget L (nat x0))) (Go.Oni.pC key left (llget L (nat x0))) (Go.Oni.pR key left (llget L (nat x0))))); (R (AV.one (AC.lit false)) [(8, Blk.own 44 [(Seg.cells [(AC.vec 27)]), (Seg.ints IntKind.u8 16 (Go.Oni.pR key left (llget L (nat x0))))]), (10, Blk.own 44 [(Seg.cells [(AC.vec 37)]), (Seg.ints IntKind.u8 16 (Go.Oni.pR key left (llget L (nat x0))))]), (27, Blk.vec [(Col.ints IntKind.u8 (Go.Oni.pC key left (llget L (nat x0))))]), (37, Blk.vec [(Col.ints IntKind.u8 (Go.Oni.pC key left (llget L (nat x0))))]), (200000, Blk.rview [(Col.ints IntKind.u8 key)]), (200002, Blk.rview [(Col.rows IntKind.u8 L)]), (1000000, Blk.view [(Seg.ints IntKind.u32 64 Go.Hsh.rootsL)])]))))))))))) ∧ (((ilt x0 (ofNat (llen L))) = false) → (R (AV.one (AC.lit true)) [(200000, Blk.rview [(Col.ints IntKind.u8 key)]), (200002, Blk.rview [(Col.rows IntKind.u8 L)]), (1000000, Blk.view [(Seg.ints IntKind.u32 64 Go.Hsh.rootsL)])])))) := by kernel_rfl
theorem lonpeels.l0_zero (R : AV → Mem → Prop) (left : Int) (key : List Int) (L : List (List Int)) (x0 : Int) : lonpeels.l0 R left key L 0 x0 = False := by kernel_rfl

theorem lonpeels_vc (R : AV → Mem → Prop) (fuel : Nat) (key : List Int) (left : Int) (L : List (List Int)) : callsx Tryd.prog gamO5 [] Tryd.f6 (fuel + 1) [.one (.vec 200000), .one (.int .i64 left), .one (.vec 200002)] [(200000, .rview [.ints .u8 key]), (200002, .rview [.rows .u8 L]), (1000000 + 0, .view [.ints .u32 64 Go.Hsh.rootsL])] R = (((Go.Hsh.rootsL = Go.Hsh.rootsL) ∧ (lonpeels.l0 R left key L fuel 0))) := by kernel_rfl

end Go.Proofs.YtjahiggpglbgoaaDoor.G

/- The laws of layers. -/
namespace Go.Proofs.YtjahiggpglbgoaaDoor.G
open Go Go.Sx Go.Fld Go.Hsh Go.Mac Go.Blk Go.Cel Go.Oni
set_option maxRecDepth 20000
set_option linter.unusedVariables false
set_option linter.unusedSimpArgs false

theorem onionDerives_plain {key nonce : List Int} {left : Int} (hk : Ky key) (hn : BL 16 nonce) (hl : Lf left) :
    ∃ n, Has (callsx Tryd.prog gamO5 [] Tryd.f4 n [.one (.vec 200000), .agg [.ints .u8 16 nonce], .one (.int .i64 left)] [(200000, .rview [.ints .u8 key]), (gname 0, .view [.ints .u32 64 rootsL])] fun av _ => av = .one (.bool true) ∨ av = .one (.lit true)) := by
  refine ⟨1, ⟨?_⟩⟩
  have e := londer_vc okR 0 key nonce left
  refine e.mpr ?_
  have g1 : ∀ a : Int, ieq a a = true := fun a => by rw [ieq_true]
  have g2 : ∀ a : List Int, leq a a = true := fun a => by rw [leq_true]
  have g3 : band2 true (band2 true (band2 true true)) = true := rfl
  simp only [g1, g2, g3, true_and, and_true, Bool.true_eq_false, false_implies, forall_const]
  exact ⟨⟨hk, ⟨hn⟩⟩, ⟨hk, ⟨hn⟩⟩, hl, hl, okR_bool rfl⟩
theorem onionWraps_plain {key nonce inner : List Int} {left : Int} (hk : Ky key) (hn : BL 16 nonce) (hl : Lf left) (hi : In inner) :
    ∃ n, Has (callsx Tryd.prog gamO5 [] Tryd.f5 n [.agg [.cells [.vec 200000], .ints .u8 16 nonce, .cells [.int .i64 left], .cells [.vec 200001]]] [(200000, .rview [.ints .u8 key]), (200001, .rview [.ints .u8 inner]), (gname 0, .view [.ints .u32 64 rootsL])] fun av _ => av = .one (.bool true) ∨ av = .one (.lit true)) := by
  refine ⟨1, ⟨?_⟩⟩
  have e := lonwrap_vc okR 0 key nonce inner left
  refine e.mpr ?_
  have g1 : ∀ a : Int, ieq a a = true := fun a => by rw [ieq_true]
  simp only [g1, seq_self, lsub_whole hn.len, true_and, and_true, Bool.true_eq_false, false_implies, forall_const]
  exact ⟨⟨by omega⟩, ⟨hk, ⟨hn⟩, hl, hi⟩, ⟨by omega⟩, ⟨hk, ⟨hn⟩, hl, hi⟩, okR_bool rfl⟩
theorem lonnames_end {R : AV → Mem → Prop} (h : ∀ σ, R (.one (.bool true)) σ) : lonnames.l0 R 1 9 := by
  rw [lonnames.l0_succ]
  have z1 : ieq (sizeI 0) 0 = true := rfl
  have z2 : ieq (sizeI 9) 0 = true := rfl
  have z3 : ieq (sizeI (-9223372036854775808 : Int)) 0 = true := rfl
  have z4 : ieq (sizeI 9223372036854775807) 0 = true := rfl
  have z5 : ile 9 8 = false := rfl
  simp only [z1, z2, z3, z4, z5, true_and, and_true, Bool.true_eq_false, Bool.false_eq_true, false_implies, forall_const]
  exact ⟨⟨by decide, by decide⟩, ⟨by decide, by decide⟩, ⟨by decide, by decide⟩, ⟨by decide, by decide⟩, h _⟩
theorem lonnames_step {R : AV → Mem → Prop} {f i : Nat} (h1 : 1 ≤ i) (h2 : i ≤ 8) (h : lonnames.l0 R f ((i + 1 : Nat) : Int)) : lonnames.l0 R (f + 1) (i : Int) := by
  rw [lonnames.l0_succ, add1_i64 (by omega)]
  have e : add .i64 82 (mul .i64 34 (sub .i64 (i : Int) 1)) = sizeI (i : Int) := by
    have : ∀ j : Fin 9, 1 ≤ j.val → add .i64 82 (mul .i64 34 (sub .i64 (j.val : Int) 1)) = sizeI (j.val : Int) := by decide +kernel
    exact this ⟨i, by omega⟩ h1
  refine ⟨fun _ => ⟨⟨by omega, by omega⟩, fun q => ?_, fun _ => h⟩, fun q => ?_⟩
  · rw [e, ine_true] at q; exact absurd rfl q
  · rw [ile_false] at q; omega
theorem onionNames_plain :
    ∃ n, Has (callsx Tryd.prog gamO5 [] Tryd.f3 n [] [(gname 0, .view [.ints .u32 64 rootsL])] fun av _ => av = .one (.bool true) ∨ av = .one (.lit true)) := by
  refine ⟨10, ⟨?_⟩⟩
  have e := lonnames_vc okR 9
  refine e.mpr ⟨rfl, ?_⟩
  have h9 : lonnames.l0 okR 1 ((9 : Nat) : Int) := lonnames_end fun _ => okR_bool rfl
  exact lonnames_step (i := 1) (by decide) (by decide) (lonnames_step (i := 2) (by decide) (by decide) (lonnames_step (i := 3) (by decide) (by decide) (lonnames_step (i := 4) (by decide) (by decide) (lonnames_step (i := 5) (by decide) (by decide) (lonnames_step (i := 6) (by decide) (by decide) (lonnames_step (i := 7) (by decide) (by decide) (lonnames_step (i := 8) (by decide) (by decide) h9)))))))
theorem fillL_len {l : List Int} (h : l.length ≤ 320) : (fillL l).length = 320 := by unfold fillL; simp; omega
theorem fillL_bs {l : List Int} (h : Bs l) : Bs (fillL l) := ⟨fun x hx => by
  unfold fillL at hx
  rcases List.mem_append.mp hx with hx | hx
  · exact h.all x hx
  · rw [(List.mem_replicate.mp hx).2]; decide⟩
theorem padR_in {l : List Int} (h : Bs l) : In (padR l) := by
  unfold padR; split
  · exact ⟨by rw [fillL_len (by omega)]; decide, fillL_bs h⟩
  · exact ⟨by decide, ⟨by simp⟩⟩
theorem plainR_in {l : List Int} (h : Bs l) : In (plainR l) := by
  unfold plainR; split
  · exact ⟨by rw [fillL_len (by simp; omega)]; decide, fillL_bs ⟨fun x hx => by
      rcases List.mem_cons.mp hx with hx | hx
      · subst hx; decide
      · rcases List.mem_cons.mp hx with hx | hx
        · subst hx; omega
        · exact h.all x hx⟩⟩
  · exact ⟨by decide, ⟨by simp⟩⟩
theorem pC_in {key c : List Int} {left : Int} (hc : Bs c) : In (pC key left c) := by
  rw [pC_eq]
  unfold peC
  have hi : Bs (innO (opO key left c)) := by unfold innO; exact lsub_bs (opO_bs hc) _ _
  split
  · split
    · exact padR_in hi
    · exact plainR_in hi
  · exact ⟨by decide, ⟨by simp⟩⟩
theorem pR_bl (key c : List Int) (left : Int) : BL 16 (pR key left c) := by
  rw [pR_eq]
  unfold peR
  split
  · exact bl_of (lsub_length (by rw [hmac_len]; omega)) (lsub_bs (hmac_bytes _ _) _ _)
  · exact bl_of rfl (zeros_bs _)
theorem same_self (a r : List Int) : sameO a r a r = true := by simp [sameO]
theorem onionPeels_plain {key : List Int} {left : Int} {L : List (List Int)} (hk : Ky key) (hl : Lf left) (hL : L.length ≤ 140737488355328) (hb : ∀ i, In (llget L i)) :
    ∃ n, Has (callsx Tryd.prog gamO5 [] Tryd.f6 n [.one (.vec 200000), .one (.int .i64 left), .one (.vec 200002)] [(200000, .rview [.ints .u8 key]), (200002, .rview [.rows .u8 L]), (gname 0, .view [.ints .u32 64 rootsL])] fun av _ => av = .one (.bool true) ∨ av = .one (.lit true)) := by
  have run : ∀ k i : Nat, k = L.length - i → i ≤ L.length → ∃ f, lonpeels.l0 okR left key L f (i : Int) := by
    intro k
    induction k with
    | zero =>
      intro i hk0 hi
      refine ⟨1, ?_⟩
      rw [lonpeels.l0_succ]
      refine ⟨fun q => ?_, fun _ => okR_lit⟩
      rw [ilt_true] at q; simp only [ofNat, llen] at q; omega
    | succ k ih =>
      intro i hk0 hi
      obtain ⟨f, hf⟩ := ih (i + 1) (by omega) (by omega)
      refine ⟨f + 1, ?_⟩
      rw [lonpeels.l0_succ, add1_i64 (by omega)]
      have hp : In (pC key left (llget L (nat (i : Int)))) := pC_in (hb _).bs
      have hr : K16 (pR key left (llget L (nat (i : Int)))) := ⟨pR_bl _ _ _⟩
      have g0 : bnot true = false := rfl
      have g1 : ∀ a : Int, ine a a = false := fun a => by rw [ine_false]
      have g2 : ilt (i : Int) (ofNat (llen L)) = true := by rw [ilt_true]; simp only [ofNat, llen]; omega
      simp only [same_self, g0, g1, g2, true_and, and_true, Bool.true_eq_false, Bool.false_eq_true, false_implies, forall_const]
      exact ⟨⟨by omega, by simp only [llen]; omega⟩, ⟨hk, hl, hb _⟩, ⟨by omega, by simp only [llen]; omega⟩, ⟨hk, hl, hb _⟩, ⟨⟨hp, hr⟩, hp, hr⟩, hf⟩
  obtain ⟨f, hf⟩ := run L.length 0 rfl (by omega)
  refine ⟨f + 1, ⟨?_⟩⟩
  have e := lonpeels_vc okR f key left L
  exact e.mpr ⟨rfl, hf⟩
end Go.Proofs.YtjahiggpglbgoaaDoor.G

/- The verification conditions of functions, printed by a program of this session out of their codes. -/
namespace Go.Proofs.YtjahiggpglbgoaaDoor.G
open Go Go.Sx Go.Oni
set_option linter.unusedVariables false
set_option maxRecDepth 100000

theorem lonone_vc (R : AV → Mem → Prop) (fuel : Nat) (key : List Int) (c : List Int) (left : Int) : callsx Tryd.prog gamO5 [] Tryd.f8 (fuel + 1) [.one (.vec 200000), .one (.int .i64 left), .one (.vec 200002)] [(200000, .rview [.ints .u8 key]), (200002, .rview [.ints .u8 c]), (1000000 + 0, .view [.ints .u32 64 Go.Hsh.rootsL])] R = (((Go.Hsh.rootsL = Go.Hsh.rootsL) ∧ (((Go.Hsh.rootsL = Go.Hsh.rootsL) ∧ ((Go.Oni.Ky key) ∧ ((Go.Oni.Lf left) ∧ (Go.Oni.In c)))) ∧ ((((ine (Go.Oni.pE key left c) 0) = true) → ((((ieq (ofNat (llen (Go.Oni.pC key left c))) 0) = true) → ((Fits 16 16) ∧ (R (AV.one (AC.bool (leq (lsub (Go.Oni.pR key left c) 0 16) (lzeros 16)))) [(7, Blk.own 44 [(Seg.cells [(AC.vec 28)]), (Seg.ints IntKind.u8 16 (Go.Oni.pR key left c))]), (28, Blk.vec [(Col.ints IntKind.u8 (Go.Oni.pC key left c))]), (200000, Blk.rview [(Col.ints IntKind.u8 key)]), (200002, Blk.rview [(Col.ints IntKind.u8 c)]), (1000000, Blk.view [(Seg.ints IntKind.u32 64 Go.Hsh.rootsL)])]))) ∧ (((ieq (ofNat (llen (Go.Oni.pC key left c))) 0) = false) → (R (AV.one (AC.lit false)) [(7, Blk.own 44 [(Seg.cells [(AC.vec 28)]), (Seg.ints IntKind.u8 16 (Go.Oni.pR key left c))]), (28, Blk.vec [(Col.ints IntKind.u8 (Go.Oni.pC key left c))]), (200000, Blk.rview [(Col.ints IntKind.u8 key)]), (200002, Blk.rview [(Col.ints IntKind.u8 c)]), (1000000, Blk.view [(Seg.ints IntKind.u32 64 Go.Hsh.rootsL)])])))) ∧ (((ine (Go.Oni.pE key left c) 0) = false) → ((((ine (ofNat (llen c)) 320) = false) → ((((ilt left 1) = false) → ((((igt left 8) = true) → (R (AV.one (AC.lit false)) [(7, Blk.own 44 [(Seg.cells [(AC.vec 28)]), (Seg.ints IntKind.u8 16 (Go.Oni.pR key left c))]), (28, Blk.vec [(Col.ints IntKind.u8 (Go.Oni.pC key left c))]), (200000, Blk.rview [(Col.ints IntKind.u8 key)]), (200002, Blk.rview [(Col.ints IntKind.u8 c)]), (1000000, Blk.view [(Seg.ints IntKind.u32 64 Go.Hsh.rootsL)])])) ∧ (((igt left 8) = false) → ((Fits 16 16) ∧ (((Go.Hsh.rootsL = Go.Hsh.rootsL) ∧ ((Go.Oni.Ky key) ∧ (Go.Oni.Nn (lput (lzeros 16) 0 (lsub c 0 (nmin (llen c) 16)))))) ∧ ((Go.Oni.Lf left) ∧ ((((ine (Go.Oni.dvE key) 0) = false) → ((((ilt (Go.Oni.sizeI left) 82) = false) → ((((igt (Go.Oni.sizeI left) 320) = true) → (R (AV.one (AC.lit false)) [(7, Blk.own 44 [(Seg.cells [(AC.vec 28)]), (Seg.ints IntKind.u8 16 (Go.Oni.pR key left c))]), (9, Blk.own 25 [(Seg.ints IntKind.u8 16 (lput (lzeros 16) 0 (lsub c 0 (nmin (llen c) 16))))]), (10, Blk.own 28 [(Seg.ints IntKind.u8 16 (Go.Oni.dvB key (lput (lzeros 16) 0 (lsub c 0 (nmin (llen c) 16))))), (Seg.ints IntKind.u8 32 (Go.Oni.dvM key (lput (lzeros 16) 0 (lsub c 0 (nmin (llen c) 16))))), (Seg.ints IntKind.u8 32 (Go.Oni.dvR key (lput (lzeros 16) 0 (lsub c 0 (nmin (llen c) 16)))))]), (28, Blk.vec [(Col.ints IntKind.u8 (Go.Oni.pC key left c))]), (200000, Blk.rview [(Col.ints IntKind.u8 key)]), (200002, Blk.rview [(Col.ints IntKind.u8 c)]), (1000000, Blk.view [(Seg.ints IntKind.u32 64 Go.Hsh.rootsL)])])) ∧ (((igt (Go.Oni.sizeI left) 320) = false) → ((Fits 16 16) ∧ ((((NonNeg (Go.Oni.sizeI left)) ∧ (Fits (nat (Go.Oni.sizeI left)) (llen c))) ∧ ((NonNeg 32) ∧ (Fits 32 (nat (Go.Oni.sizeI left))))) ∧ ((((Go.Blk.BL 16 (lsub (Go.Oni.dvB key (lput (lzeros 16) 0 (lsub c 0 (nmin (llen c) 16)))) 0 16)) ∧ (Go.Blk.BL 16 (lzeros 16))) ∧ ((Short (lsub c 32 (nsub (nat (Go.Oni.sizeI left)) 32))) ∧ (Bs (lsub c 32 (nsub (nat (Go.Oni.sizeI left)) 32))))) ∧ (let y0 : List Int := (Go.Blk.mask (Go.Blk.ks (lsub (Go.Oni.dvB key (lput (lzeros 16) 0 (lsub c 0 (nmin (llen c) 16)))) 0 16)) (lzeros 16) (lsub c 32 (nsub (nat (Go.Oni.sizeI left)) 32))); ((((ine (ofNat (llen y0)) (sub IntKind.i64 (Go.Oni.sizeI left) 32)) = true) → (R (AV.one (AC.lit false)) [(7, Blk.own 44 [(Seg.cells [(AC.vec 28)]), (Seg.ints IntKind.u8 16 (Go.Oni.pR key left c))]), (9, Blk.own 25 [(Seg.ints IntKind.u8 16 (lput (lzeros 16) 0 (lsub c 0 (nmin (llen c) 16))))]), (10, Blk.own 28 [(Seg.ints IntKind.u8 16 (Go.Oni.dvB key (lput (lzeros 16) 0 (lsub c 0 (nmin (llen c) 16))))), (Seg.ints IntKind.u8 32 (Go.Oni.dvM key (lput (lzeros 16) 0 (lsub c 0 (nmin (llen c) 16))))), (Seg.ints IntKind.u8 32 (Go.Oni.dvR key (lput (lzeros 16) 0 (lsub c 0 (nmin (llen c) 16)))))]), (28, Blk.vec [(Col.ints IntKind.u8 (Go.Oni.pC key left c))]), (81, Blk.vec [(Col.ints IntKind.u8 y0)]), (200000, Blk.rview [(Col.ints IntKind.u8 key)]), (200002, Blk.rview [(Col.ints IntKind.u8 c)]), (1000000, Blk.view [(Seg.ints IntKind.u32 64 Go.Hsh.rootsL)])])) ∧ (((ine (ofNat (llen y0)) (sub IntKind.i64 (Go.Oni.sizeI left) 32)) = false) → ((InB 0 (llen y0)) ∧ ((InB 1 (llen y0)) ∧ (let y1 : Bool := (igt (add IntKind.i64 (mul IntKind.i64 256 (conv IntKind.i64 (lget y0 0))) (conv IntKind.i64 (lget y0 1))) (sub IntKind.i64 (Go.Oni.sizeI left) 34)); (((y1 = true) → (R (AV.one (AC.lit false)) [(7, Blk.own 44 [(Seg.cells [(AC.vec 28)]), (Seg.ints IntKind.u8 16 (Go.Oni.pR key left c))]), (9, Blk.own 25 [(Seg.ints IntKind.u8 16 (lput (lzeros 16) 0 (lsub c 0 (nmin (llen c) 16))))]), (10, Blk.own 28 [(Seg.ints IntKind.u8 16 (Go.Oni.dvB key (lput (lzeros 16) 0 (lsub c 0 (nmin (llen c) 16))))), (Seg.ints IntKind.u8 32 (Go.Oni.dvM key (lput (lzeros 16) 0 (lsub c 0 (nmin (llen c) 16))))), (Seg.ints IntKind.u8 32 (Go.Oni.dvR key (lput (lzeros 16) 0 (lsub c 0 (nmin (llen c) 16)))))]), (28, Blk.vec [(Col.ints IntKind.u8 (Go.Oni.pC key left c))]), (81, Blk.vec [(Col.ints IntKind.u8 y0)]), (200000, Blk.rview [(Col.ints IntKind.u8 key)]), (200002, Blk.rview [(Col.ints IntKind.u8 c)]), (1000000, Blk.view [(Seg.ints IntKind.u32 64 Go.Hsh.rootsL)])])) ∧ ((y1 = false) → ((((NonNeg (add IntKind.i64 2 (add IntKind.i64 (mul IntKind.i64 256 (conv IntKind.i64 (lget y0 0))) (conv IntKind.i64 (lget y0 1))))) ∧ (Fits (nat (add IntKind.i64 2 (add IntKind.i64 (mul IntKind.i64 256 (conv IntKind.i64 (lget y0 0))) (conv IntKind.i64 (lget y0 1))))) (llen y0))) ∧ ((NonNeg 2) ∧ (Fits 2 (nat (add IntKind.i64 2 (add IntKind.i64 (mul IntKind.i64 256 (conv IntKind.i64 (lget y0 0))) (conv IntKind.i64 (lget y0 1)))))))) ∧ (let y2 : Nat := (nsub (nat (add IntKind.i64 2 (add IntKind.i64 (mul IntKind.i64 256 (conv IntKind.i64 (lget y0 0))) (conv IntKind.i64 (lget y0 1))))) 2); (let y3 : Int := (add IntKind.i64 2 (add IntKind.i64 (mul IntKind.i64 256 (conv IntKind.i64 (lget y0 0))) (conv IntKind.i64 (lget y0 1)))); (((Go.Hsh.rootsL = Go.Hsh.rootsL) ∧ ((Go.Oni.Ky key) ∧ ((Go.Oni.Nn (lput (lzeros 16) 0 (lsub c 0 (nmin (llen c) 16)))) ∧ ((Go.Oni.Lf left) ∧ (Go.Oni.In (lsub y0 2 y2)))))) ∧ ((Short (Go.Oni.wL key (lput (lzeros 16) 0 (lsub c 0 (nmin (llen c) 16))) left (lsub y0 2 y2))) ∧ ((Short (lsub y0 2 y2)) ∧ ((((ieq left 1) = true) → ((Short (lsub y0 2 y2)) ∧ ((((ieq (Go.Oni.wE key left (lsub y0 2 y2)) 0) = true) → ((((ieq (Go.Cel.padE (Go.Oni.wL key (lput (lzeros 16) 0 (lsub c 0 (nmin (llen c) 16))) left (lsub y0 2 y2))) 0) = true) → ((((ieq (Go.Cel.plainE (lsub y0 2 y2)) 0) = true) → ((((seq2 (bytesOf (Go.Cel.padR (Go.Oni.wL key (lput (lzeros 16) 0 (lsub c 0 (nmin (llen c) 16))) left (lsub y0 2 y2)))) (bytesOf c)) = true) → (let y4 : ByteArray := (bytesOf (Go.Cel.padR (Go.Oni.wL key (lput (lzeros 16) 0 (lsub c 0 (nmin (llen c) 16))) left (lsub y0 2 y2)))); (let y5 : Bool := (seq2 (bytesOf (Go.Cel.padR (Go.Oni.wL key (lput (lzeros 16) 0 (lsub c 0 (nmin (llen c) 16))) left (lsub y0 2 y2)))) (bytesOf c)); (R (AV.one (AC.bool (seq2 (bytesOf (Go.Oni.pC key left c)) (bytesOf (Go.Cel.plainR (lsub y0 2 y2)))))) [(7, Blk.own 44 [(Seg.cells [(AC.vec 28)]), (Seg.ints IntKind.u8 16 (Go.Oni.pR key left c))]), (9, Blk.own 25 [(Seg.ints IntKind.u8 16 (lput (lzeros 16) 0 (lsub c 0 (nmin (llen c) 16))))]), (10, Blk.own 28 [(Seg.ints IntKind.u8 16 (Go.Oni.dvB key (lput (lzeros 16) 0 (lsub c 0 (nmin (llen c) 16))))), (Seg.ints IntKind.u8 32 (Go.Oni.dvM key (lput (lzeros 16) 0 (lsub c 0 (nmin (llen c) 16))))), (Seg.ints IntKind.u8 32 (Go.Oni.dvR key (lput (lzeros 16) 0 (lsub c 0 (nmin (llen c) 16)))))]), (28, Blk.vec [(Col.ints IntKind.u8 (Go.Oni.pC key left c))]), (81, Blk.vec [(Col.ints IntKind.u8 y0)]), (110, Blk.vec [(Col.ints IntKind.u8 (Go.Oni.wL key (lput (lzeros 16) 0 (lsub c 0 (nmin (llen c) 16))) left (lsub y0 2 y2)))]), (115, Blk.vec [(Col.ints IntKind.u8 (Go.Cel.padR (Go.Oni.wL key (lput (lzeros 16) 0 (lsub c 0 (nmin (llen c) 16))) left (lsub y0 2 y2))))]), (120, Blk.vec [(Col.ints IntKind.u8 (Go.Cel.padR (lsub y0 2 y2)))]), (127, Blk.vec [(Col.ints IntKind.u8 (Go.Cel.plainR (lsub y0 2 y2)))]), (200000, Blk.rview [(Col.ints IntKind.u8 key)]), (200002, Blk.rview [(Col.ints IntKind.u8 c)]), (1000000, Blk.view [(Seg.ints IntKind.u32 64 Go.Hsh.rootsL)])])))) ∧ (((seq2 (bytesOf (Go.Cel.padR (Go.Oni.wL key (lput (lzeros 16) 0 (lsub c 0 (nmin (llen c) 16))) left (lsub y0 2 y2)))) (bytesOf c)) = false) → (let y6 : ByteArray := (bytesOf (Go.Cel.padR (Go.Oni.wL key (lput (lzeros 16) 0 (lsub c 0 (nmin (llen c) 16))) left (lsub y0 2 y2)))); (let y7 : Bool := (seq2 (bytesOf (Go.Cel.padR (Go.Oni.wL key (lput (lzeros 16) 0 (lsub c 0 (nmin (llen c) 16))) left (lsub y0 2 y2)))) (bytesOf c)); (R (AV.one (AC.lit false)) [(7, Blk.own 44 [(Seg.cells [(AC.vec 28)]), (Seg.ints IntKind.u8 16 (Go.Oni.pR key left c))]), (9, Blk.own 25 [(Seg.ints IntKind.u8 16 (lput (lzeros 16) 0 (lsub c 0 (nmin (llen c) 16))))]), (10, Blk.own 28 [(Seg.ints IntKind.u8 16 (Go.Oni.dvB key (lput (lzeros 16) 0 (lsub c 0 (nmin (llen c) 16))))), (Seg.ints IntKind.u8 32 (Go.Oni.dvM key (lput (lzeros 16) 0 (lsub c 0 (nmin (llen c) 16))))), (Seg.ints IntKind.u8 32 (Go.Oni.dvR key (lput (lzeros 16) 0 (lsub c 0 (nmin (llen c) 16)))))]), (28, Blk.vec [(Col.ints IntKind.u8 (Go.Oni.pC key left c))]), (81, Blk.vec [(Col.ints IntKind.u8 y0)]), (110, Blk.vec [(Col.ints IntKind.u8 (Go.Oni.wL key (lput (lzeros 16) 0 (lsub c 0 (nmin (llen c) 16))) left (lsub y0 2 y2)))]), (115, Blk.vec [(Col.ints IntKind.u8 (Go.Cel.padR (Go.Oni.wL key (lput (lzeros 16) 0 (lsub c 0 (nmin (llen c) 16))) left (lsub y0 2 y2))))]), (120, Blk.vec [(Col.ints IntKind.u8 (Go.Cel.padR (lsub y0 2 y2)))]), (127, Blk.vec [(Col.ints IntKind.u8 (Go.Cel.plainR (lsub y0 2 y2)))]), (200000, Blk.rview [(Col.ints IntKind.u8 key)]), (200002, Blk.rview [(Col.ints IntKind.u8 c)]), (1000000, Blk.view [(Seg.ints IntKind.u32 64 Go.Hsh.rootsL)])])))))) ∧ (((ieq (Go.Cel.plainE (lsub y0 2 y2)) 0) = false) → (R (AV.one (AC.lit false)) [(7, Blk.own 44 [(Seg.cells [(AC.vec 28)]), (Seg.ints IntKind.u8 16 (Go.Oni.pR key left c))]), (9, Blk.own 25 [(Seg.ints IntKind.u8 16 (lput (lzeros 16) 0 (lsub c 0 (nmin (llen c) 16))))]), (10, Blk.own 28 [(Seg.ints IntKind.u8 16 (Go.Oni.dvB key (lput (lzeros 16) 0 (lsub c 0 (nmin (llen c) 16))))), (Seg.ints IntKind.u8 32 (Go.Oni.dvM key (lput (lzeros 16) 0 (lsub c 0 (nmin (llen c) 16))))), (Seg.ints IntKind.u8 32 (Go.Oni.dvR key (lput (lzeros 16) 0 (lsub c 0 (nmin (llen c) 16)))))]), (28, Blk.vec [(Col.ints IntKind.u8 (Go.Oni.pC key left c))]), (81, Blk.vec [(Col.ints IntKind.u8 y0)]), (110, Blk.vec [(Col.ints IntKind.u8 (Go.Oni.wL key (lput (lzeros 16) 0 (lsub c 0 (nmin (llen c) 16))) left (lsub y0 2 y2)))]), (115, Blk.vec [(Col.ints IntKind.u8 (Go.Cel.padR (Go.Oni.wL key (lput (lzeros 16) 0 (lsub c 0 (nmin (llen c) 16))) left (lsub y0 2 y2))))]), (120, Blk.vec [(Col.ints IntKind.u8 (Go.Cel.padR (lsub y0 2 y2)))]), (127, Blk.vec [(Col.ints IntKind.u8 (Go.Cel.plainR (lsub y0 2 y2)))]), (200000, Blk.rview [(Col.ints IntKind.u8 key)]), (200002, Blk.rview [(Col.ints IntKind.u8 c)]), (1000000, Blk.view [(Seg.ints IntKind.u32 64 Go.Hsh.rootsL)])])))) ∧ (((ieq (Go.Cel.padE (Go.Oni.wL key (lput (lzeros 16) 0 (lsub c 0 (nmin (llen c) 16))) left (lsub y0 2 y2))) 0) = false) → (R (AV.one (AC.lit false)) [(7, Blk.own 44 [(Seg.cells [(AC.vec 28)]), (Seg.ints IntKind.u8 16 (Go.Oni.pR key left c))]), (9, Blk.own 25 [(Seg.ints IntKind.u8 16 (lput (lzeros 16) 0 (lsub c 0 (nmin (llen c) 16))))]), (10, Blk.own 28 [(Seg.ints IntKind.u8 16 (Go.Oni.dvB key (lput (lzeros 16) 0 (lsub c 0 (nmin (llen c) 16))))), (Seg.ints IntKind.u8 32 (Go.Oni.dvM key (lput (lzeros 16) 0 (lsub c 0 (nmin (llen c) 16))))), (Seg.ints IntKind.u8 32 (Go.Oni.dvR key (lput (lzeros 16) 0 (lsub c 0 (nmin (llen c) 16)))))]), (28, Blk.vec [(Col.ints IntKind.u8 (Go.Oni.pC key left c))]), (81, Blk.vec [(Col.ints IntKind.u8 y0)]), (110, Blk.vec [(Col.ints IntKind.u8 (Go.Oni.wL key (lput (lzeros 16) 0 (lsub c 0 (nmin (llen c) 16))) left (lsub y0 2 y2)))]), (115, Blk.vec [(Col.ints IntKind.u8 (Go.Cel.padR (Go.Oni.wL key (lput (lzeros 16) 0 (lsub c 0 (nmin (llen c) 16))) left (lsub y0 2 y2))))]), (120, Blk.vec [(Col.ints IntKind.u8 (Go.Cel.padR (lsub y0 2 y2)))]), (127, Blk.vec [(Col.ints IntKind.u8 (Go.Cel.plainR (lsub y0 2 y2)))]), (200000, Blk.rview [(Col.ints IntKind.u8 key)]), (200002, Blk.rview [(Col.ints IntKind.u8 c)]), (1000000, Blk.view [(Seg.ints IntKind.u32 64 Go.Hsh.rootsL)])])))) ∧ (((ieq (Go.Oni.wE key left (lsub y0 2 y2)) 0) = false) → (R (AV.one (AC.lit false)) [(7, Blk.own 44 [(Seg.cells [(AC.vec 28)]), (Seg.ints IntKind.u8 16 (Go.Oni.pR key left c))]), (9, Blk.own 25 [(Seg.ints IntKind.u8 16 (lput (lzeros 16) 0 (lsub c 0 (nmin (llen c) 16))))]), (10, Blk.own 28 [(Seg.ints IntKind.u8 16 (Go.Oni.dvB key (lput (lzeros 16) 0 (lsub c 0 (nmin (llen c) 16))))), (Seg.ints IntKind.u8 32 (Go.Oni.dvM key (lput (lzeros 16) 0 (lsub c 0 (nmin (llen c) 16))))), (Seg.ints IntKind.u8 32 (Go.Oni.dvR key (lput (lzeros 16) 0 (lsub c 0 (nmin (llen c) 16)))))]), (28, Blk.vec [(Col.ints IntKind.u8 (Go.Oni.pC key left c))]), (81, Blk.vec [(Col.ints IntKind.u8 y0)]), (110, Blk.vec [(Col.ints IntKind.u8 (Go.Oni.wL key (lput (lzeros 16) 0 (lsub c 0 (nmin (llen c) 16))) left (lsub y0 2 y2)))]), (115, Blk.vec [(Col.ints IntKind.u8 (Go.Cel.padR (Go.Oni.wL key (lput (lzeros 16) 0 (lsub c 0 (nmin (llen c) 16))) left (lsub y0 2 y2))))]), (120, Blk.vec [(Col.ints IntKind.u8 (Go.Cel.padR (lsub y0 2 y2)))]), (127, Blk.vec [(Col.ints IntKind.u8 (Go.Cel.plainR (lsub y0 2 y2)))]), (200000, Blk.rview [(Col.ints IntKind.u8 key)]), (200002, Blk.rview [(Col.ints IntKind.u8 c)]), (1000000, Blk.view [(Seg.ints IntKind.u32 64 Go.Hsh.rootsL)])]))))) ∧ (((ieq left 1) = false) → ((((ieq (Go.Oni.wE key left (lsub y0 2 y2)) 0) = true) → ((((ieq (Go.Cel.padE (Go.Oni.wL key (lput (lzeros 16) 0 (lsub c 0 (nmin (llen c) 16))) left (lsub y0 2 y2))) 0) = true) → ((((ieq (Go.Cel.padE (lsub y0 2 y2)) 0) = true) → ((((seq2 (bytesOf (Go.Cel.padR (Go.Oni.wL key (lput (lzeros 16) 0 (lsub c 0 (nmin (llen c) 16))) left (lsub y0 2 y2)))) (bytesOf c)) = true) → (let y8 : ByteArray := (bytesOf (Go.Cel.padR (Go.Oni.wL key (lput (lzeros 16) 0 (lsub c 0 (nmin (llen c) 16))) left (lsub y0 2 y2)))); (let y9 : Bool := (seq2 (bytesOf (Go.Cel.padR (Go.Oni.wL key (lput (lzeros 16) 0 (lsub c 0 (nmin (llen c) 16))) left (lsub y0 2 y2)))) (bytesOf c)); (R (AV.one (AC.bool (seq2 (bytesOf (Go.Oni.pC key left c)) (bytesOf (Go.Cel.padR (lsub y0 2 y2)))))) [(7, Blk.own 44 [(Seg.cells [(AC.vec 28)]), (Seg.ints IntKind.u8 16 (Go.Oni.pR key left c))]), (9, Blk.own 25 [(Seg.ints IntKind.u8 16 (lput (lzeros 16) 0 (lsub c 0 (nmin (llen c) 16))))]), (10, Blk.own 28 [(Seg.ints IntKind.u8 16 (Go.Oni.dvB key (lput (lzeros 16) 0 (lsub c 0 (nmin (llen c) 16))))), (Seg.ints IntKind.u8 32 (Go.Oni.dvM key (lput (lzeros 16) 0 (lsub c 0 (nmin (llen c) 16))))), (Seg.ints IntKind.u8 32 (Go.Oni.dvR key (lput (lzeros 16) 0 (lsub c 0 (nmin (llen c) 16)))))]), (28, Blk.vec [(Col.ints IntKind.u8 (Go.Oni.pC key left c))]), (81, Blk.vec [(Col.ints IntKind.u8 y0)]), (110, Blk.vec [(Col.ints IntKind.u8 (Go.Oni.wL key (lput (lzeros 16) 0 (lsub c 0 (nmin (llen c) 16))) left (lsub y0 2 y2)))]), (115, Blk.vec [(Col.ints IntKind.u8 (Go.Cel.padR (Go.Oni.wL key (lput (lzeros 16) 0 (lsub c 0 (nmin (llen c) 16))) left (lsub y0 2 y2))))]), (120, Blk.vec [(Col.ints IntKind.u8 (Go.Cel.padR (lsub y0 2 y2)))]), (200000, Blk.rview [(Col.ints IntKind.u8 key)]), (200002, Blk.rview [(Col.ints IntKind.u8 c)]), (1000000, Blk.view [(Seg.ints IntKind.u32 64 Go.Hsh.rootsL)])])))) ∧ (((seq2 (bytesOf (Go.Cel.padR (Go.Oni.wL key (lput (lzeros 16) 0 (lsub c 0 (nmin (llen c) 16))) left (lsub y0 2 y2)))) (bytesOf c)) = false) → (let y10 : ByteArray := (bytesOf (Go.Cel.padR (Go.Oni.wL key (lput (lzeros 16) 0 (lsub c 0 (nmin (llen c) 16))) left (lsub y0 2 y2)))); (let y11 : Bool := (seq2 (bytesOf (Go.Cel.padR (Go.Oni.wL key (lput (lzeros 16) 0 (lsub c 0 (nmin (llen c) 16))) left (lsub y0 2 y2)))) (bytesOf c)); (R (AV.one (AC.lit false)) [(7, Blk.own 44 [(Seg.cells [(AC.vec 28)]), (Seg.ints IntKind.u8 16 (Go.Oni.pR key left c))]), (9, Blk.own 25 [(Seg.ints IntKind.u8 16 (lput (lzeros 16) 0 (lsub c 0 (nmin (llen c) 16))))]), (10, Blk.own 28 [(Seg.ints IntKind.u8 16 (Go.Oni.dvB key (lput (lzeros 16) 0 (lsub c 0 (nmin (llen c) 16))))), (Seg.ints IntKind.u8 32 (Go.Oni.dvM key (lput (lzeros 16) 0 (lsub c 0 (nmin (llen c) 16))))), (Seg.ints IntKind.u8 32 (Go.Oni.dvR key (lput (lzeros 16) 0 (lsub c 0 (nmin (llen c) 16)))))]), (28, Blk.vec [(Col.ints IntKind.u8 (Go.Oni.pC key left c))]), (81, Blk.vec [(Col.ints IntKind.u8 y0)]), (110, Blk.vec [(Col.ints IntKind.u8 (Go.Oni.wL key (lput (lzeros 16) 0 (lsub c 0 (nmin (llen c) 16))) left (lsub y0 2 y2)))]), (115, Blk.vec [(Col.ints IntKind.u8 (Go.Cel.padR (Go.Oni.wL key (lput (lzeros 16) 0 (lsub c 0 (nmin (llen c) 16))) left (lsub y0 2 y2))))]), (120, Blk.vec [(Col.ints IntKind.u8 (Go.Cel.padR (lsub y0 2 y2)))]), (200000, Blk.rview [(Col.ints IntKind.u8 key)]), (200002, Blk.rview [(Col.ints IntKind.u8 c)]), (1000000, Blk.view [(Seg.ints IntKind.u32 64 Go.Hsh.rootsL)])])))))) ∧ (((ieq (Go.Cel.padE (lsub y0 2 y2)) 0) = false) → (R (AV.one (AC.lit false)) [(7, Blk.own 44 [(Seg.cells [(AC.vec 28)]), (Seg.ints IntKind.u8 16 (Go.Oni.pR key left c))]), (9, Blk.own 25 [(Seg.ints IntKind.u8 16 (lput (lzeros 16) 0 (lsub c 0 (nmin (llen c) 16))))]), (10, Blk.own 28 [(Seg.ints IntKind.u8 16 (Go.Oni.dvB key (lput (lzeros 16) 0 (lsub c 0 (nmin (llen c) 16))))), (Seg.ints IntKind.u8 32 (Go.Oni.dvM key (lput (lzeros 16) 0 (lsub c 0 (nmin (llen c) 16))))), (Seg.ints IntKind.u8 32 (Go.Oni.dvR key (lput (lzeros 16) 0 (lsub c 0 (nmin (llen c) 16)))))]), (28, Blk.vec [(Col.ints IntKind.u8 (Go.Oni.pC key left c))]), (81, Blk.vec [(Col.ints IntKind.u8 y0)]), (110, Blk.vec [(Col.ints IntKind.u8 (Go.Oni.wL key (lput (lzeros 16) 0 (lsub c 0 (nmin (llen c) 16))) left (lsub y0 2 y2)))]), (115, Blk.vec [(Col.ints IntKind.u8 (Go.Cel.padR (Go.Oni.wL key (lput (lzeros 16) 0 (lsub c 0 (nmin (llen c) 16))) left (lsub y0 2 y2))))]), (120, Blk.vec [(Col.ints IntKind.u8 (Go.Cel.padR (lsub y0 2 y2)))]), (200000, Blk.rview [(Col.ints IntKind.u8 key)]), (200002, Blk.rview [(Col.ints IntKind.u8 c)]), (1000000, Blk.view [(Seg.ints IntKind.u32 64 Go.Hsh.rootsL)])])))) ∧ (((ieq (Go.Cel.padE (Go.Oni.wL key (lput (lzeros 16) 0 (lsub c 0 (nmin (llen c) 16))) left (lsub y0 2 y2))) 0) = false) → (R (AV.one (AC.lit false)) [(7, Blk.own 44 [(Seg.cells [(AC.vec 28)]), (Seg.ints IntKind.u8 16 (Go.Oni.pR key left c))]), (9, Blk.own 25 [(Seg.ints IntKind.u8 16 (lput (lzeros 16) 0 (lsub c 0 (nmin (llen c) 16))))]), (10, Blk.own 28 [(Seg.ints IntKind.u8 16 (Go.Oni.dvB key (lput (lzeros 16) 0 (lsub c 0 (nmin (llen c) 16))))), (Seg.ints IntKind.u8 32 (Go.Oni.dvM key (lput (lzeros 16) 0 (lsub c 0 (nmin (llen c) 16))))), (Seg.ints IntKind.u8 32 (Go.Oni.dvR key (lput (lzeros 16) 0 (lsub c 0 (nmin (llen c) 16)))))]), (28, Blk.vec [(Col.ints IntKind.u8 (Go.Oni.pC key left c))]), (81, Blk.vec [(Col.ints IntKind.u8 y0)]), (110, Blk.vec [(Col.ints IntKind.u8 (Go.Oni.wL key (lput (lzeros 16) 0 (lsub c 0 (nmin (llen c) 16))) left (lsub y0 2 y2)))]), (115, Blk.vec [(Col.ints IntKind.u8 (Go.Cel.padR (Go.Oni.wL key (lput (lzeros 16) 0 (lsub c 0 (nmin (llen c) 16))) left (lsub y0 2 y2))))]), (120, Blk.vec [(Col.ints IntKind.u8 (Go.Cel.padR (lsub y0 2 y2)))]), (200000, Blk.rview [(Col.ints IntKind.u8 key)]), (200002, Blk.rview [(Col.ints IntKind.u8 c)]), (1000000, Blk.view [(Seg.ints IntKind.u32 64 Go.Hsh.rootsL)])])))) ∧ (((ieq (Go.Oni.wE key left (lsub y0 2 y2)) 0) = false) → (R (AV.one (AC.lit false)) [(7, Blk.own 44 [(Seg.cells [(AC.vec 28)]), (Seg.ints IntKind.u8 16 (Go.Oni.pR key left c))]), (9, Blk.own 25 [(Seg.ints IntKind.u8 16 (lput (lzeros 16) 0 (lsub c 0 (nmin (llen c) 16))))]), (10, Blk.own 28 [(Seg.ints IntKind.u8 16 (Go.Oni.dvB key (lput (lzeros 16) 0 (lsub c 0 (nmin (llen c) 16))))), (Seg.ints IntKind.u8 32 (Go.Oni.dvM key (lput (lzeros 16) 0 (lsub c 0 (nmin (llen c) 16))))), (Seg.ints IntKind.u8 32 (Go.Oni.dvR key (lput (lzeros 16) 0 (lsub c 0 (nmin (llen c) 16)))))]), (28, Blk.vec [(Col.ints IntKind.u8 (Go.Oni.pC key left c))]), (81, Blk.vec [(Col.ints IntKind.u8 y0)]), (110, Blk.vec [(Col.ints IntKind.u8 (Go.Oni.wL key (lput (lzeros 16) 0 (lsub c 0 (nmin (llen c) 16))) left (lsub y0 2 y2)))]), (115, Blk.vec [(Col.ints IntKind.u8 (Go.Cel.padR (Go.Oni.wL key (lput (lzeros 16) 0 (lsub c 0 (nmin (llen c) 16))) left (lsub y0 2 y2))))]), (120, Blk.vec [(Col.ints IntKind.u8 (Go.Cel.padR (lsub y0 2 y2)))]), (200000, Blk.rview [(Col.ints IntKind.u8 key)]), (200002, Blk.rview [(Col.ints IntKind.u8 c)]), (1000000, Blk.view [(Seg.ints IntKind.u32 64 Go.Hsh.rootsL)])]))))))))))))))))))))))))) ∧ (((ilt (Go.Oni.sizeI left) 82) = true) → (R (AV.one (AC.lit false)) [(7, Blk.own 44 [(Seg.cells [(AC.vec 28)]), (Seg.ints IntKind.u8 16 (Go.Oni.pR key left c))]), (9, Blk.own 25 [(Seg.ints IntKind.u8 16 (lput (lzeros 16) 0 (lsub c 0 (nmin (llen c) 16))))]), (10, Blk.own 28 [(Seg.ints IntKind.u8 16 (Go.Oni.dvB key (lput (lzeros 16) 0 (lsub c 0 (nmin (llen c) 16))))), (Seg.ints IntKind.u8 32 (Go.Oni.dvM key (lput (lzeros 16) 0 (lsub c 0 (nmin (llen c) 16))))), (Seg.ints IntKind.u8 32 (Go.Oni.dvR key (lput (lzeros 16) 0 (lsub c 0 (nmin (llen c) 16)))))]), (28, Blk.vec [(Col.ints IntKind.u8 (Go.Oni.pC key left c))]), (200000, Blk.rview [(Col.ints IntKind.u8 key)]), (200002, Blk.rview [(Col.ints IntKind.u8 c)]), (1000000, Blk.view [(Seg.ints IntKind.u32 64 Go.Hsh.rootsL)])])))) ∧ (((ine (Go.Oni.dvE key) 0) = true) → (R (AV.one (AC.lit false)) [(7, Blk.own 44 [(Seg.cells [(AC.vec 28)]), (Seg.ints IntKind.u8 16 (Go.Oni.pR key left c))]), (9, Blk.own 25 [(Seg.ints IntKind.u8 16 (lput (lzeros 16) 0 (lsub c 0 (nmin (llen c) 16))))]), (10, Blk.own 28 [(Seg.ints IntKind.u8 16 (Go.Oni.dvB key (lput (lzeros 16) 0 (lsub c 0 (nmin (llen c) 16))))), (Seg.ints IntKind.u8 32 (Go.Oni.dvM key (lput (lzeros 16) 0 (lsub c 0 (nmin (llen c) 16))))), (Seg.ints IntKind.u8 32 (Go.Oni.dvR key (lput (lzeros 16) 0 (lsub c 0 (nmin (llen c) 16)))))]), (28, Blk.vec [(Col.ints IntKind.u8 (Go.Oni.pC key left c))]), (200000, Blk.rview [(Col.ints IntKind.u8 key)]), (200002, Blk.rview [(Col.ints IntKind.u8 c)]), (1000000, Blk.view [(Seg.ints IntKind.u32 64 Go.Hsh.rootsL)])]))))))))) ∧ (((ilt left 1) = true) → (R (AV.one (AC.lit false)) [(7, Blk.own 44 [(Seg.cells [(AC.vec 28)]), (Seg.ints IntKind.u8 16 (Go.Oni.pR key left c))]), (28, Blk.vec [(Col.ints IntKind.u8 (Go.Oni.pC key left c))]), (200000, Blk.rview [(Col.ints IntKind.u8 key)]), (200002, Blk.rview [(Col.ints IntKind.u8 c)]), (1000000, Blk.view [(Seg.ints IntKind.u32 64 Go.Hsh.rootsL)])])))) ∧ (((ine (ofNat (llen c)) 320) = true) → (R (AV.one (AC.lit false)) [(7, Blk.own 44 [(Seg.cells [(AC.vec 28)]), (Seg.ints IntKind.u8 16 (Go.Oni.pR key left c))]), (28, Blk.vec [(Col.ints IntKind.u8 (Go.Oni.pC key left c))]), (200000, Blk.rview [(Col.ints IntKind.u8 key)]), (200002, Blk.rview [(Col.ints IntKind.u8 c)]), (1000000, Blk.view [(Seg.ints IntKind.u32 64 Go.Hsh.rootsL)])])))))))) := by kernel_rfl

end Go.Proofs.YtjahiggpglbgoaaDoor.G

/- A peeled layer is the one that was wrapped. -/
namespace Go.Proofs.YtjahiggpglbgoaaDoor.G
open Go Go.Sx Go.Fld Go.Hsh Go.Mac Go.Blk Go.Cel Go.Oni
set_option maxRecDepth 20000
set_option linter.unusedVariables false
set_option linter.unusedSimpArgs false

/-- a layer that is peeled, wrapped again -/
structure Again (key c : List Int) (m : Nat) : Prop where
  wE : wrE key (m : Int) (innO (opO key (m : Int) c)) = 0
  pE : padE (wrR key (nnO c) (m : Int) (innO (opO key (m : Int) c))) = 0
  wR : padR (wrR key (nnO c) (m : Int) (innO (opO key (m : Int) c))) = c
  pC : peC key (m : Int) c = if 1 < (m : Int) then padR (innO (opO key (m : Int) c)) else plainR (innO (opO key (m : Int) c))
  sh : (wrR key (nnO c) (m : Int) (innO (opO key (m : Int) c))).length ≤ 320
theorem peE_zero {key c : List Int} {left : Int} (h : peE key left c = 0) : key.length = 32 ∧ sizeI left ≠ 0 ∧ cutE c (sizeI left) = 0 := by
  unfold peE at h
  split at h
  · cases h
  · rename_i q
    split at h
    · rename_i q2; exact absurd h q2
    · rename_i q2; exact ⟨Decidable.byContradiction fun g => q (Or.inl g), fun g => q (Or.inr g), Decidable.byContradiction fun g => q2 g⟩
theorem two_bytes {a b N : Int} (ha : 0 ≤ a ∧ a < 256) (hb : 0 ≤ b ∧ b < 256) (n : Nat) (h : 256 * a + b = (n : Int)) : ((n / 256 : Nat) : Int) = a ∧ ((n % 256 : Nat) : Int) = b := by omega
theorem again {key c : List Int} {m : Nat} (H : Cut0 key c m) (hb : Bs c) (h0 : peE key (m : Int) c = 0) : Again key c m := by
  have h1 := H.h1
  have h2 := H.h2
  have hcl := H.clen
  have hs := H.sz
  have hpe := H.pe
  have tg : lsub c 16 16 = tagO (dvM key (nnO c)) (m : Int) (nnO c) (bxO (m : Int) c) := Decidable.byContradiction fun g => by rw [hpe, if_pos g] at h0; cases h0
  have ok : inOk (opO key (m : Int) c) (m : Int) = true := by
    cases hq : inOk (opO key (m : Int) c) (m : Int) with
    | true => rfl
    | false => rw [hpe, if_neg (by rw [tg]; simp), if_pos hq] at h0; cases h0
  have pb : Bs (opO key (m : Int) c) := opO_bs hb
  have pl := opO_len (key := key) (left := (m : Int)) (c := c) (by omega) (by omega) hcl
  obtain ⟨N, eN, hN, _, _⟩ := inN_nat pb
  obtain ⟨hle, hz⟩ := inOk_some (show (1 : Int) ≤ (m : Int) by omega) (by omega) ok
  rw [eN] at hle
  rw [eN, Int.toNat_natCast] at hz
  have einn : innO (opO key (m : Int) c) = lsub (opO key (m : Int) c) 2 N := by unfold innO; rw [eN, Int.toNat_natCast]
  have il : (lsub (opO key (m : Int) c) 2 N).length = N := lsub_length (by rw [pl]; omega)
  have e0 : wrE key (m : Int) (innO (opO key (m : Int) c)) = 0 := by
    unfold wrE
    rw [if_neg (by rintro (h | h); exact h H.len; rw [hs] at h; omega), if_neg (by rw [hs, einn, il]; omega)]
  have hpl : plO (m : Int) (innO (opO key (m : Int) c)) = opO key (m : Int) c := by
    rw [einn]
    generalize hP : opO key (m : Int) c = P at *
    obtain ⟨a, b, r, rfl⟩ : ∃ a b r, P = a :: b :: r := by
      match P, pl with
      | a :: b :: r, _ => exact ⟨a, b, r, rfl⟩
      | [_], h => simp at h; omega
      | [], h => simp at h; omega
    have ha := pb.all a (by simp)
    have hb2 := pb.all b (by simp)
    have e1 : inN (a :: b :: r) = 256 * a + b := rfl
    obtain ⟨q1, q2⟩ := two_bytes (N := 0) ha hb2 N (by rw [← e1, eN])
    have rl : r.length = 14 + (34 * (m : Int)).toNat := by simp at pl; omega
    have es : lsub (a :: b :: r) 2 N = r.take N := rfl
    rw [plO_some (by omega) (by omega), es]
    have tl : (r.take N).length = N := by rw [List.length_take]; omega
    rw [tl, q1, q2]
    congr 2
    have hd : r.drop N = lzeros (14 + (34 * (m : Int)).toNat - N) := by
      have e2 : (a :: b :: r).drop (2 + N) = r.drop N := by rw [Nat.add_comm]; rfl
      rw [e2] at hz
      unfold lzeros
      refine List.eq_replicate_iff.mpr ⟨by rw [List.length_drop, rl], fun x hx => ?_⟩
      have := List.all_eq_true.mp hz x hx
      simpa using this
    rw [← hd, List.take_append_drop]
  have hB := dvB_bl key (nnO c)
  have hK : BL 176 (ks (dvB key (nnO c))) := ks_bl hB
  have hz16 : BL 16 (lzeros 16) := bl_of rfl (zeros_bs _)
  have hbx : mask (ks (dvB key (nnO c))) (lzeros 16) (opO key (m : Int) c) = bxO (m : Int) c := by
    unfold opO
    exact mask_mask hK hz16 (by unfold bxO; exact lsub_bs hb _ _)
  have hw : wrR key (nnO c) (m : Int) (innO (opO key (m : Int) c)) = c.take (48 + 34 * m) := by
    unfold wrR
    rw [if_pos e0]
    unfold forgeO
    rw [hpl, hbx, ← tg]
    unfold nnO bxO
    rw [hs, Int.toNat_natCast]
    unfold lsub
    rw [List.drop_zero, show 48 + 34 * m = 16 + (16 + (48 + 34 * m - 32)) by omega, List.take_add, List.take_add, List.drop_drop, List.append_assoc]
    congr 3
    omega
  have wl : (c.take (48 + 34 * m)).length = 48 + 34 * m := by rw [List.length_take]; omega
  obtain ⟨_, _, _, cz, _⟩ := cutE_ok H.cutE
  rw [hs, Int.toNat_natCast] at cz
  refine ⟨e0, by rw [hw]; unfold padE; rw [if_pos (by omega)], ?_, ?_, by rw [hw]; omega⟩
  · rw [hw, pad_app (by omega), wl]
    have hd : c.drop (48 + 34 * m) = List.replicate (320 - (48 + 34 * m)) 0 := by
      refine List.eq_replicate_iff.mpr ⟨by rw [List.length_drop, hcl], fun x hx => ?_⟩
      have := List.all_eq_true.mp cz x hx
      simpa using this
    rw [← hd, List.take_append_drop]
  · unfold peC; rw [if_pos h0]
end Go.Proofs.YtjahiggpglbgoaaDoor.G

/- The law: a peeled layer is the one that was wrapped. -/
namespace Go.Proofs.YtjahiggpglbgoaaDoor.G
open Go Go.Sx Go.Fld Go.Hsh Go.Mac Go.Blk Go.Cel Go.Oni
set_option maxRecDepth 20000
set_option linter.unusedVariables false
set_option linter.unusedSimpArgs false

theorem onionOne_plain {key c : List Int} {left : Int} (hk : Ky key) (hl : Lf left) (hc : In c) :
    ∃ n, Has (callsx Tryd.prog gamO5 [] Tryd.f8 n [.one (.vec 200000), .one (.int .i64 left), .one (.vec 200002)] [(200000, .rview [.ints .u8 key]), (200002, .rview [.ints .u8 c]), (gname 0, .view [.ints .u32 64 rootsL])] fun av _ => av = .one (.bool true) ∨ av = .one (.lit true)) := by
  refine ⟨1, ⟨?_⟩⟩
  have e := lonone_vc okR 0 key c left
  refine e.mpr ⟨rfl, ⟨rfl, hk, hl, hc⟩, fun q => ?_, fun q => ?_⟩
  · rw [pE_eq, ine_true] at q
    obtain ⟨f1, f2⟩ := peC_fail q
    rw [pC_eq, pR_eq, f1, f2]
    have g : ieq (ofNat (llen ([] : List Int))) 0 = true := rfl
    have g2 : leq (lsub (lzeros 16) 0 16) (lzeros 16) = true := rfl
    simp only [g, g2, true_and, and_true, Bool.true_eq_false, Bool.false_eq_true, false_implies, forall_const]
    exact ⟨⟨by omega⟩, okR_bool rfl⟩
  · rw [pE_eq, ine_false] at q
    obtain ⟨hlen, q2, q3⟩ := peE_zero q
    obtain ⟨m, rfl, H⟩ := cut0 (key := key) hlen q2 q3
    have h1 := H.h1
    have h2 := H.h2
    have hcl := H.clen
    have hs := H.sz
    have A := again H hc.bs q
    have pb : Bs (opO key (m : Int) c) := opO_bs hc.bs
    have pl : (opO key (m : Int) c).length = 16 + 34 * m := by
      have := opO_len (key := key) (left := (m : Int)) (c := c) (by omega) (by omega) hcl
      omega
    have ok : inOk (opO key (m : Int) c) (m : Int) = true := by
      cases hq : inOk (opO key (m : Int) c) (m : Int) with
      | true => rfl
      | false =>
        exfalso
        rw [H.pe] at q
        split at q
        · cases q
        · first | cases q | (rw [if_pos hq] at q; cases q)
    obtain ⟨N, eN, hN, _, eA⟩ := inN_nat pb
    obtain ⟨hle, hz⟩ := inOk_some (show (1 : Int) ≤ (m : Int) by omega) (by omega) ok
    rw [eN] at hle
    have einn : lsub (opO key (m : Int) c) 2 N = innO (opO key (m : Int) c) := by unfold innO; rw [eN, Int.toNat_natCast]
    have il : (innO (opO key (m : Int) c)).length = N := by rw [← einn]; exact lsub_length (by rw [pl]; omega)
    have hb16 := dvB_bl key (nnO c)
    have nb := nn_bl hc.bs hcl
    have g1 : ine (ofNat (llen c)) 320 = false := by rw [ine_false]; simp only [ofNat, llen, hcl]; rfl
    have g2 : ilt (m : Int) 1 = false := by rw [ilt_false]; omega
    have g3 : igt (m : Int) 8 = false := by rw [igt_false]; omega
    have g4 : lput (lzeros 16) 0 (lsub c 0 (nmin (llen c) 16)) = nnO c := by
      rw [llen_def, hcl, nmin_def, show min 320 16 = 16 from rfl, lput_full (by rw [lsub_length (by omega)]; rfl)]; rfl
    have g5 : ine (dvE key) 0 = false := by rw [ine_false]; unfold dvE; rw [if_pos hlen]
    have g6 : ilt (sizeI (m : Int)) 82 = false := by rw [ilt_false, hs]; omega
    have g7 : igt (sizeI (m : Int)) 320 = false := by rw [igt_false, hs]; omega
    have g8 : nat (sizeI (m : Int)) = 48 + 34 * m := by rw [hs, nat_cast]
    have g9 : lsub (dvB key (nnO c)) 0 16 = dvB key (nnO c) := lsub_whole hb16.len
    have g10 : mask (ks (dvB key (nnO c))) (lzeros 16) (lsub c 32 (48 + 34 * m - 32)) = opO key (m : Int) c := by unfold opO bxO; rw [hs, Int.toNat_natCast]
    have g11 : ine (ofNat (llen (opO key (m : Int) c))) (sub .i64 (sizeI (m : Int)) 32) = false := by
      rw [ine_false, hs, sub_i64 (by omega) (by omega)]; simp only [ofNat, llen, pl]; omega
    have g12 : igt (N : Int) (sub .i64 (sizeI (m : Int)) 34) = false := by rw [igt_false, hs, sub_i64 (by omega) (by omega)]; omega
    have g13 : add .i64 2 (N : Int) = ((2 + N : Nat) : Int) := addN_i64 (a := 2) (by omega)
    have g14 : 2 + N - 2 = N := by omega
    have g15 : ieq (wE key (m : Int) (innO (opO key (m : Int) c))) 0 = true := by rw [ieq_true, wE_eq]; exact A.wE
    have g16 : ieq (padE (wL key (nnO c) (m : Int) (innO (opO key (m : Int) c)))) 0 = true := by rw [ieq_true, wL_eq]; exact A.pE
    have g17 : padR (wL key (nnO c) (m : Int) (innO (opO key (m : Int) c))) = c := by rw [wL_eq]; exact A.wR
    have ws : Short (wL key (nnO c) (m : Int) (innO (opO key (m : Int) c))) := ⟨by rw [wL_eq]; have := A.sh; omega⟩
    have is : Short (innO (opO key (m : Int) c)) := ⟨by omega⟩
    have ib : Bs (innO (opO key (m : Int) c)) := by rw [← einn]; exact lsub_bs pb _ _
    have hz16 : BL 16 (lzeros 16) := bl_of rfl (zeros_bs _)
    have bs : Short (lsub c 32 (48 + 34 * m - 32)) := ⟨by rw [lsub_length (by omega)]; omega⟩
    simp only [g1, g2, g3, g4, g5, g6, g7, g8, g9, nsub_def, g10, g11, eA, g12, g13, nat_cast, g14, einn, g15, g16, g17, seq_self, true_and, and_true, Bool.true_eq_false, Bool.false_eq_true, false_implies, forall_const]
    refine ⟨⟨by omega⟩, ⟨hk, ⟨nb⟩⟩, hl, ⟨by omega⟩, ⟨⟨⟨by omega⟩, ⟨by rw [llen_def]; omega⟩⟩, ⟨by omega⟩, ⟨by omega⟩⟩, ⟨⟨hb16, hz16⟩, bs, lsub_bs hc.bs _ _⟩, ⟨by omega, by rw [llen_def]; omega⟩, ⟨by omega, by rw [llen_def]; omega⟩, ⟨⟨⟨by omega⟩, ⟨by rw [llen_def]; omega⟩⟩, ⟨by omega⟩, ⟨by omega⟩⟩, ⟨hk, ⟨nb⟩, hl, ⟨by omega, ib⟩⟩, ws, is, fun r => ?_, fun r => ?_⟩
    · rw [ieq_true] at r
      have g18 : ieq (plainE (innO (opO key (m : Int) c))) 0 = true := by rw [ieq_true]; unfold plainE; rw [if_pos (by omega)]
      have g19 : pC key (m : Int) c = plainR (innO (opO key (m : Int) c)) := by rw [pC_eq, A.pC, if_neg (by omega)]
      simp only [g18, g19, seq_self, true_and, and_true, Bool.true_eq_false, Bool.false_eq_true, false_implies, forall_const]
      exact ⟨is, okR_bool rfl⟩
    · rw [ieq_false] at r
      have g18 : ieq (padE (innO (opO key (m : Int) c))) 0 = true := by rw [ieq_true]; unfold padE; rw [if_pos (by omega)]
      have g19 : pC key (m : Int) c = padR (innO (opO key (m : Int) c)) := by rw [pC_eq, A.pC, if_pos (by omega)]
      simp only [g18, g19, seq_self, true_and, and_true, Bool.true_eq_false, Bool.false_eq_true, false_implies, forall_const]
      exact okR_bool rfl
end Go.Proofs.YtjahiggpglbgoaaDoor.G
