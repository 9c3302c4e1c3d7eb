/- Own texts of this proof, laid one behind the other: RouL. -/
import Derived.Test.YtienfecnkglilaaDoorRouteKeysF

/- The laws of chains. -/
namespace Go.Proofs.YtienfecnkglilaaDoor.G
open Go Go.Sx Go.Fld Go.Hsh Go.Mac Go.Blk Go.Cel Go.Oni Go.Rou
set_option maxRecDepth 20000
set_option linter.unusedVariables false
set_option linter.unusedSimpArgs false
theorem routeKeys_plain {m : List Int} {e : Int} (hm : Ky m) (he : Lf e) :
    ∃ n, Has (callsx Tryd.prog gamR2 [] Tryd.f3 n [.one (.vec 200000), .one (.int .i64 e)] [(200000, .rview [.ints .u8 m]), (gname 0, .view [.ints .u32 64 rootsL])] fun av _ => av = .one (.bool true) ∨ av = .one (.lit true)) := by
  refine ⟨1, ⟨?_⟩⟩
  have ev := lrkeys_vc okR 0 m e
  refine ev.mpr ?_
  have g1 : ∀ a : Int, ieq a a = true := fun a => by rw [ieq_true]
  simp only [g1, seq_self, true_and, and_true, Bool.true_eq_false, false_implies, forall_const]
  exact ⟨⟨hm, he⟩, ⟨hm, he⟩, okR_bool rfl⟩
theorem routeWraps_plain {KL NL : List (List Int)} {pay : List Int} (hk : Kys KL) (hn : Ncs NL) (hp : In pay) :
    ∃ n, Has (callsx Tryd.prog gamR2 [] Tryd.f4 n [.agg [.cells [.vec 200000], .cells [.vec 200001], .cells [.vec 200002]]] [(200000, .rview [.rows .u8 KL]), (200001, .rview [.arrs .u8 16 NL]), (200002, .rview [.ints .u8 pay]), (gname 0, .view [.ints .u32 64 rootsL])] fun av _ => av = .one (.bool true) ∨ av = .one (.lit true)) := by
  refine ⟨1, ⟨?_⟩⟩
  have ev := lrwraps_vc okR 0 KL NL pay
  refine ev.mpr ?_
  have g1 : ∀ a : Int, ieq a a = true := fun a => by rw [ieq_true]
  simp only [g1, seq_self, true_and, and_true, Bool.true_eq_false, false_implies, forall_const]
  exact ⟨⟨hk, hn, hp⟩, ⟨hk, hn, hp⟩, okR_bool rfl⟩
theorem llget_lsub {L : List (List Int)} {a n i : Nat} (h : i < n) : llget (lsub L a n) i = llget L (a + i) := by
  unfold llget lsub; rw [List.getD_eq_getElem?_getD, List.getD_eq_getElem?_getD, List.getElem?_take, if_pos h, List.getElem?_drop]
theorem llget_beyond {L : List (List Int)} {i : Nat} (h : L.length ≤ i) : llget L i = [] := by
  unfold llget; rw [List.getD_eq_getElem?_getD, List.getElem?_eq_none h]; rfl
theorem kys_lsub {L : List (List Int)} {a n : Nat} (hk : Kys L) (h : a + n ≤ L.length) : Kys (lsub L a n) := by
  have hl : (lsub L a n).length = n := lsub_len _ _ _ h
  refine ⟨by rw [hl]; have := hk.n; omega, fun i => ?_⟩
  by_cases hi : i < n
  · rw [llget_lsub hi]; exact hk.all _
  · rw [llget_beyond (by omega)]; exact ⟨Nat.zero_le _, Bs.nil⟩
theorem ncs_lsub {L : List (List Int)} {a n : Nat} (hk : Ncs L) (h : a + n ≤ L.length) : Ncs (lsub L a n) := by
  have hl : (lsub L a n).length = n := lsub_len _ _ _ h
  refine ⟨by rw [hl]; have := hk.n; omega, fun i hi => ?_⟩
  rw [hl] at hi
  rw [llget_lsub hi]; exact hk.all _ (by omega)
theorem rest_ok {KL NL : List (List Int)} {pay : List Int} (h : rcE KL NL pay = 0) (h2 : 1 < KL.length) : rcE (lsub KL 1 (KL.length - 1)) (lsub NL 1 (NL.length - 1)) pay = 0 := by
  obtain ⟨g1, g2⟩ := rcE_ok h
  obtain ⟨q1, q2, q3, q4⟩ := faE_ok g1
  have l1 : (lsub KL 1 (KL.length - 1)).length = KL.length - 1 := lsub_len _ _ _ (by omega)
  have l2 : (lsub NL 1 (NL.length - 1)).length = NL.length - 1 := lsub_len _ _ _ (by omega)
  have a : all32 (lsub KL 1 (KL.length - 1)) = true := all32_true.mpr fun i hi => by
    rw [l1] at hi
    rw [llget_lsub hi]; exact all32_true.mp q4 _ (by omega)
  have f : faE (lsub KL 1 (KL.length - 1)) (lsub NL 1 (NL.length - 1)) = 0 := by
    unfold faE; rw [if_neg (by rw [l1, l2]; omega), a]; rfl
  unfold rcE; rw [if_neg (by rw [f]; simp), if_neg (by omega)]
theorem rest_cell {KL NL : List (List Int)} {pay : List Int} (h : rcE KL NL pay = 0) (h2 : 1 < KL.length) : rcR (lsub KL 1 (KL.length - 1)) (lsub NL 1 (NL.length - 1)) pay = padR (chainO (llget KL) (llget NL) KL.length pay (KL.length - 1)) := by
  obtain ⟨g1, g2⟩ := rcE_ok h
  obtain ⟨q1, q2, q3, q4⟩ := faE_ok g1
  have l1 : (lsub KL 1 (KL.length - 1)).length = KL.length - 1 := lsub_len _ _ _ (by omega)
  unfold rcR
  rw [if_pos (rest_ok h h2), l1]
  obtain ⟨n, hn⟩ : ∃ n, KL.length = n + 1 := ⟨KL.length - 1, by omega⟩
  have e1 := chainO_rest (llget KL) (llget NL) n pay n (Nat.le_refl _)
  have e2 := chainO_congr (key := llget (lsub KL 1 n)) (key' := fun i => llget KL (i + 1)) (nonce := llget (lsub NL 1 (NL.length - 1))) (nonce' := fun i => llget NL (i + 1)) (h := n) pay (fun i hi => by rw [llget_lsub hi, Nat.add_comm]) (fun i hi => by rw [llget_lsub (by omega), Nat.add_comm]) n (Nat.le_refl _)
  rw [show KL.length - 1 = n by omega, e2, e1, hn]
theorem first_peeled {KL NL : List (List Int)} {pay : List Int} (hn : Ncs NL) (hb : Bs pay) (h : rcE KL NL pay = 0) : pE (llget KL 0) (KL.length : Int) (wcR KL NL pay) = 0 ∧
    pC (llget KL 0) (KL.length : Int) (wcR KL NL pay) = if 1 < KL.length then padR (chainO (llget KL) (llget NL) KL.length pay (KL.length - 1)) else plainR pay := by
  obtain ⟨g1, g2⟩ := rcE_ok h
  obtain ⟨q1, q2, q3, q4⟩ := faE_ok g1
  have C := Ch.of hn hb h
  have b := C.layer (j := KL.length - 1) (by omega)
  rw [show KL.length - 1 - (KL.length - 1) = 0 by omega, show KL.length - 1 + 1 = KL.length by omega] at b
  have ew : wcR KL NL pay = padR (chainO (llget KL) (llget NL) KL.length pay KL.length) := by rw [wcR_eq]; unfold rcR; rw [if_pos h]
  rw [ew]
  refine ⟨by rw [pE_eq]; exact b.pE, ?_⟩
  rw [pC_eq, b.pC]
  by_cases h1 : 1 < KL.length
  · rw [if_pos (by omega), if_pos h1]
  · rw [if_neg (by omega), if_neg h1, show KL.length - 1 = 0 by omega, chainO_zero]
theorem routeRest_plain {KL NL : List (List Int)} {pay : List Int} (hk : Kys KL) (hn : Ncs NL) (hp : In pay) :
    ∃ n, Has (callsx Tryd.prog gamR2 [⟨777777, [], true, false⟩] Tryd.f5 n [.agg [.cells [.vec 200000], .cells [.vec 200001], .cells [.vec 200002]]] [(200000, .rview [.rows .u8 KL]), (200001, .rview [.arrs .u8 16 NL]), (200002, .rview [.ints .u8 pay]), (gname 0, .view [.ints .u32 64 rootsL])] fun av _ => av = .one (.bool true) ∨ av = .one (.lit true)) := by
  refine ⟨1, ⟨?_⟩⟩
  have ev := lrrest_vc okR 0 KL NL pay
  refine ev.mpr ?_
  rw [lrrest.k15_eq, lrrest.k14_eq, lrrest.k13_eq]
  refine ⟨rfl, ⟨hk, hn, hp⟩, fun _ => ?_, fun r => ?_⟩
  · rw [lrrest.k0_eq]; exact okR_lit
  · have r : rightB KL NL pay = true := by cases hq : rightB KL NL pay with | true => rfl | false => rw [hq] at r; cases r
    have h := right_true.mp r
    obtain ⟨g1, g2⟩ := rcE_ok h
    obtain ⟨q1, q2, q3, q4⟩ := faE_ok g1
    obtain ⟨pe, pc⟩ := first_peeled hn hp.bs h
    have w0 : wcE KL NL pay = 0 := by rw [wcE_eq]; exact h
    rw [lrrest.k12_eq, lrrest.k11_eq, lrrest.k10_eq]
    refine ⟨⟨rfl, hk, hn, hp⟩, ⟨by omega, by rw [llen_def]; omega⟩, ⟨rfl, ⟨⟨by have := (hk.all 0).sh; omega⟩, (hk.all 0).bs⟩, ⟨by simp only [ofNat, llen]; omega, by simp only [ofNat, llen]; omega⟩, wcR_in hn hp.bs⟩, fun _ => ?_, fun q => ?_⟩
    · rw [lrrest.k9_eq]
      refine ⟨fun q => ?_, fun _ => ?_⟩
      · rw [ine_true] at q; exact absurd pe q
      · rw [lrrest.k8_eq]
        refine ⟨fun q => ?_, fun q => ?_⟩
        · rw [ieq_true] at q; simp only [ofNat, llen] at q
          have h1 : ¬ 1 < KL.length := by omega
          rw [if_neg h1] at pc
          rw [lrrest.k3_eq, lrrest.k2_eq]
          refine ⟨⟨by have := hp.sh; omega⟩, ?_⟩
          simp only [ofNat_def, llen_def, pc]
          exact okR_bool (seq_self _)
        · rw [ieq_false] at q; simp only [ofNat, llen] at q
          have h1 : 1 < KL.length := by omega
          rw [if_pos h1] at pc
          have r0 := rest_ok h h1
          have rc := rest_cell h h1
          rw [← wcE_eq] at r0
          rw [← wcR_eq] at rc
          rw [lrrest.k7_eq, lrrest.k6_eq]
          simp only [llen_def, nsub_def, NonNeg_iff, Fits_iff]
          refine ⟨⟨by omega, by omega⟩, ⟨by omega, by omega⟩, ⟨trivial, kys_lsub hk (by omega), ncs_lsub hn (by omega), hp⟩, fun _ => ?_, fun q => ?_⟩
          · rw [lrrest.k4_eq]
            simp only [ofNat_def, llen_def, nsub_def, pc, rc]
            exact okR_bool (seq_self _)
          · rw [ieq_false] at q; exact absurd r0 q
    · rw [ine_true] at q; exact absurd w0 q
end Go.Proofs.YtienfecnkglilaaDoor.G
