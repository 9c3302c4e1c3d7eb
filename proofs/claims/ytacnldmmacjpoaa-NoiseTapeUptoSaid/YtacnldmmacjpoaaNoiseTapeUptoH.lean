import Derived.Test.YtacnldmmacjpoaaNoiseTapeUptoG
import Derived.Deep.Slices
import Derived.Test.YtacnldmmacjpoaaRows
set_option linter.unusedSimpArgs false
set_option linter.unusedVariables false
namespace Go.Proofs.Ytacnldmmacjpoaa.G
open Go Go.Sx Go.Nz Go.Cel Go.Blk
set_option maxRecDepth 20000
set_option maxHeartbeats 1000000
theorem llq_self (a : List (List Int)) : llq a a = true := by simp [llq]
theorem noiseTape_plain {p q : List Int} {n d k c l : Int} (hp : p.length ≤ 1048576) (hq : q.length ≤ 1048576) (hpb : Bs p) (hqb : Bs q) :
  ∃ f, Has (callsx Try.prog gamN9 [⟨777777, [], true, false⟩] Try.f7 f [.agg [.cells [.vec 200000], .cells [.int .i64 n], .cells [.int .i64 d], .cells [.int .i64 k], .cells [.int .i64 c], .cells [.int .i64 l]], .one (.vec 200001)] [(200000, .rview [.ints .u8 p]), (200001, .rview [.ints .u8 q]), (900004, .heap .u8 [[]])] Yes) := by
 have sp : Short p := ⟨by omega⟩
 have ip : InC p := ⟨by omega, hpb⟩
 have hF : lcat (lcat [] p) q = p ++ q := rfl
 by_cases h18 : p.length < 18
 ·
  have hE : ncE p c l = 2 ∨ ncE p c l = 3 := by
   rcases ncE_is p c l with h | h | h
   ·have := ncE_ok h; omega
   ·exact Or.inl h
   ·exact Or.inr h.1
  have hC : cntE p n d k = 2 ∨ cntE p n d k = 3 := by
   unfold cntE
   by_cases h : fitB n d k = true
   ·rw [if_pos h, if_pos h18]; exact Or.inr rfl
   ·rw [if_neg h]; exact Or.inl rfl
  have hN : cntN p n d k = 0 := by
   unfold cntN; rw [if_neg]; rcases hC with h | h <;> rw [h] <;> decide
  have hL : ncL p c l = [] := ncL_fail (by rcases hE with h | h <;> rw [h] <;> decide)
  have e0 : ieq (ofNat (llen (hfrom 1 (ncL p c l)))) 0 = true := by rw [hL]; rfl
  have k13 : ∀ M, ltape.k13 Yes p n d k c l q 0 (M + 200) := fun M => by
   have k0 : ∀ M, ltape.k0 Yes p c l n d k q 0 (M + 100) := fun M => by rw [ltape.k0_eq, e0]; exact Or.inl rfl
   have k3 : ∀ M, ltape.k3 Yes p c l n d k q 0 (M + 100) := fun M => by rw [ltape.k3_eq, e0]; exact Or.inl rfl
   have k6 : ∀ M, ltape.k6 Yes p c l n d k q 0 (M + 100) := fun M => by rw [ltape.k6_eq, e0]; exact Or.inl rfl
   have k9 : ∀ M, ltape.k9 Yes p c l n d k q 0 (M + 100) := fun M => by rw [ltape.k9_eq, e0]; exact Or.inl rfl
   rw [ltape.k13_eq Yes p n d k c l q 0 (M + 198)]
   have z1 : ieq (cntN p n d k) 0 = true := by rw [hN]; rfl
   have a1 : ine (cntE p n d k) 0 = true := by rcases hC with h | h <;> rw [h] <;> rfl
   have a2 : ine (ncE p c l) 0 = true := by rcases hE with h | h <;> rw [h] <;> rfl
   simp only [z1, a1, a2, k0 (M + 98), k3 (M + 98), k6 (M + 98), k9 (M + 98), Bool.true_eq_false, Bool.false_eq_true, false_implies, forall_const, and_true, true_and]
   have b1 : ieq (cntE p n d k) 2 = true ∨ (ieq (cntE p n d k) 2 = false ∧ ieq (cntE p n d k) 3 = true) := by
    rcases hC with h | h <;> rw [h]
    ·exact Or.inl rfl
    ·exact Or.inr ⟨rfl, rfl⟩
   have b2 : ieq (ncE p c l) 2 = true ∨ (ieq (ncE p c l) 2 = false ∧ ieq (ncE p c l) 3 = true) := by
    rcases hE with h | h <;> rw [h]
    ·exact Or.inl rfl
    ·exact Or.inr ⟨rfl, rfl⟩
   rcases b1 with b1 | ⟨b1, b1'⟩ <;> rcases b2 with b2 | ⟨b2, b2'⟩ <;> simp only [b1, b2, Bool.true_eq_false, Bool.false_eq_true, false_implies, forall_const, and_true, true_and]
   ·rw [b2']; simp
   ·rw [b1']; simp
   ·rw [b1', b2']; simp
  refine ⟨0 + 1, ⟨?_⟩⟩
  rw [ltape_vc, ltape.k55_eq Yes n d k c l p q 0 3991, ltape.k54_eq Yes p n d k c l q 0 3986, ltape.k53_eq Yes p n d k c l q 0 3985]
  have g : ilt (ofNat (llen p)) 18 = true := by rw [ilt_true, ofNat_def, llen_def]; omega
  simp only [g, k13 3785, Bool.true_eq_false, false_implies, forall_const, and_true]
  exact ⟨⟨sp, hpb⟩, ip⟩
 ·have h18 : 18 ≤ p.length := by omega
  have hPl : (p ++ q).length = p.length + q.length := List.length_append
  have hPb : Bs (p ++ q) := hpb.app hqb
  have lp : ∀ {x : List Int}, 18 ≤ x.length → (p.length < 18 ↔ x.length < 18) := fun h => ⟨fun a => by omega, fun a => by omega⟩
  have hE3 : ncE p c l ≠ 3 := fun e => by
   rcases ncE_is p c l with h | h | h
   ·rw [h] at e; cases e
   ·rw [h] at e; cases e
   ·omega
  have hC3 : cntE p n d k ≠ 3 := fun e => by
   unfold cntE at e
   by_cases h : fitB n d k = true
   ·rw [if_pos h, if_neg (by omega)] at e; cases e
   ·rw [if_neg h] at e; cases e
  have eE := fun {x : List Int} (h : 18 ≤ x.length) => (ncE_eq c l (lp h)).symm
  have subP : lsub (p ++ q) 2 16 = lsub p 2 16 := by
   simp only [lsub]
   rw [List.drop_append_of_le_length (by omega), List.take_append_of_le_length (by simp; omega)]
  have eP : ncE (p ++ q) c l = ncE p c l := eE (by rw [hPl]; omega)
  have eL : ncL (p ++ q) c l = ncL p c l := (ncL_eq c l (lp (by rw [hPl]; omega)) subP.symm).symm
  have few := ncL_few (p := p) (c := c) (l := l) hpb
  have at1 : ∀ {H M}, H = [[]] ++ (ncL p c l ++ M) → hcons H (hfrom 1 (ncL p c l)) = ncL p c l := fun h => hcons_at (os := [[]]) h
  have last : ∀ y10 M0, y10 = [[]] ++ (ncL p c l ++ M0) → ncE p c l = 0 → ∃ F, ltape.l1 Yes p c l n d k q y10 F 0 := by
   intro y10 M0 hy hE
   refine ⟨1 + 1 * ((ncL p c l).length - 0), ?_⟩
   refine loop_n (fun f i (_ : Unit) => ltape.l1 Yes p c l n d k q y10 f i) (ncL p c l).length (fun _ => ()) 1 1 (fun f i hi hf => ?_) ?_ 0 (Nat.zero_le _)
   ·have a1 : add .i64 (i : Int) 1 = ((i + 1 : Nat) : Int) := add1_i64 (by have := ncL_le p c l; omega)
    obtain ⟨c1, c2, c3⟩ := ncL_cell hpb hi
    have hg : hget (hfrom 1 (ncL p c l)) i = ⟨1 + i, 0, (llget (ncL p c l) i).length⟩ := hfrom_get hi
    have hll : llget y10 (1 + i) = llget (ncL p c l) i := by rw [hy]; exact llget_at (os := [[]]) hi
    have k22 : ∀ y13 y14 M, ltape.k22 Yes p c l (i : Int) y13 y14 n d k q y10 f (M + 100) := fun _ _ M => by rw [ltape.k22_eq, a1]; exact hf
    have k24 : ∀ M, ltape.k24 Yes p c l (i : Int) n d k q y10 f (M + 100) := fun M => by rw [ltape.k24_eq, a1]; exact hf
    have k26 : ∀ M, ltape.k26 Yes p c l (i : Int) n d k q y10 f (M + 200) := fun M => by
     rw [ltape.k26_eq Yes p c l (i : Int) n d k q y10 f (M + 194)]
     have h320 : ine (ofNat (hl (hget (hfrom 1 (ncL p c l)) (nat (i : Int))))) 320 = false := by
      rw [nat_cast, hg, ine_false]; show ((llget (ncL p c l) i).length : Int) = 320; omega
     have hin : InB 0 (hl (hget (hfrom 1 (ncL p c l)) (nat (i : Int)))) := by
      rw [nat_cast, hg]; exact ⟨by omega, by show (0 : Int) < ((llget (ncL p c l) i).length : Nat); omega⟩
     simp only [h320, Bool.true_eq_false, Bool.false_eq_true, false_implies, forall_const, and_true, true_and]
     refine ⟨fun h0 => ⟨hin, ?_⟩, fun _ => k24 (M + 94)⟩
     rw [ieq_true] at h0
     rw [ltape.k23_eq Yes p c l (i : Int) y10 n d k q f (M + 194)]
     have hz : ine (lget (llget y10 (hj (hget (hfrom 1 (ncL p c l)) (nat (i : Int))))) (nadd (ho (hget (hfrom 1 (ncL p c l)) (nat (i : Int)))) 0)) 0 = false := by
      rw [nat_cast, hg, ine_false]
      show lget (llget y10 (1 + i)) (0 + 0) = 0
      rw [hll]; exact c3 h0
     simp only [hz, k22 _ _ (M + 94), Bool.true_eq_false, Bool.false_eq_true, false_implies, forall_const, and_true, true_and]
    show ltape.l1 Yes p c l n d k q y10 (f + 1) (i : Int)
    rw [ltape.l1_succ, ltape.k29_eq Yes p c l (i : Int) n d k q y10 f 3993, ltape.k27_eq Yes p c l (i : Int) n d k q y10 f 3991]
    refine ⟨fun _ => ⟨⟨by omega, by rw [llen_def, hfrom_len]; omega⟩, k26 3791⟩, fun r => ?_⟩
    rw [ilt_false, ofNat_def, llen_def, hfrom_len] at r; omega
   ·show ltape.l1 Yes p c l n d k q y10 (0 + 1) (((ncL p c l).length : Nat) : Int)
    rw [ltape.l1_succ, ltape.k29_eq Yes p c l _ n d k q y10 0 3993, ltape.k28_eq Yes p c l _ n d k q y10 0 3893]
    refine ⟨fun r => ?_, fun _ => Or.inr rfl⟩
    rw [ilt_true, ofNat_def, llen_def, hfrom_len] at r; omega
  have fin : ∃ F, ∀ y6 : List Int, y6.length = (p ++ q).length → Bs y6 → lsub y6 2 16 = lsub p 2 16 → ∀ x3 y4 y5 M, ltape.k37 Yes p c l y6 x3 y4 y5 n d k q F (M + 500) := by
   have base : ∀ F y6, y6.length = (p ++ q).length → Bs y6 → lsub y6 2 16 = lsub p 2 16 → (ncE p c l = 0 → c ≠ 0 → ∀ M, ltape.k33 Yes y6 c l n d k p q F (M + 300)) → ∀ x3 y4 y5 M, ltape.k37 Yes p c l y6 x3 y4 y5 n d k q F (M + 500) := by
    intro F y6 h1 h2 h3 h33 x3 y4 y5 M
    have l18 : 18 ≤ y6.length := by rw [h1, hPl]; omega
    have e1 : ncE y6 c l = ncE p c l := eE l18
    have e2 : ncL y6 c l = ncL p c l := (ncL_eq c l (lp l18) h3.symm).symm
    have k19 : ncL p c l = [] → ∀ M, ltape.k19 Yes p c l y6 n d k q F (M + 100) := fun h M => by
     rw [ltape.k19_eq, h]; exact Or.inl rfl
    have hc1 : hcons (lcat (lcat (lcat [[]] (ncL p c l)) (ncL (lcat (lcat [] p) q) c l)) (ncL y6 c l)) (hfrom 1 (ncL p c l)) = ncL p c l := at1 (M := ncL (p ++ q) c l ++ ncL y6 c l) (by simp [lcat])
    have hc2 : hcons (lcat (lcat (lcat [[]] (ncL p c l)) (ncL (lcat (lcat [] p) q) c l)) (ncL y6 c l)) (hfrom (llen (lcat (lcat [[]] (ncL p c l)) (ncL (lcat (lcat [] p) q) c l))) (ncL y6 c l)) = ncL p c l := by
     rw [e2]
     exact hcons_from (lcat (lcat [[]] (ncL p c l)) (ncL (lcat (lcat [] p) q) c l)) (ncL p c l)
    rw [ltape.k37_eq Yes p c l y6 x3 y4 y5 n d k q F (M + 494)]
    have n1 : ine (ncE p c l) (ncE y6 c l) = false := by rw [e1]; exact ine_self _
    simp only [n1, hc1, hc2, Bool.true_eq_false, Bool.false_eq_true, false_implies, forall_const, and_true, true_and]
    refine ⟨⟨few, few⟩, ?_⟩
    rw [ltape.k36_eq Yes p c l y6 x3 y4 y5 q n d k F (M + 494)]
    simp only [hc1, hc2, llq_self, bnot, Bool.not_true, Bool.true_eq_false, Bool.false_eq_true, false_implies, forall_const, and_true, true_and]
    rw [ltape.k35_eq Yes p c l y6 n d k q F (M + 489)]
    refine ⟨fun q0 => ?_, fun q0 => k19 (ncL_fail (by rw [ine_true] at q0; exact q0)) (M + 389)⟩
    rw [ine_false] at q0
    rw [ltape.k34_eq Yes p c l y6 n d k q F (M + 489)]
    refine ⟨fun qc => k19 ?_ (M + 389), fun qc => h33 q0 (by rw [ieq_false] at qc; exact qc) (M + 191)⟩
    rw [ieq_true] at qc
    rw [ncL_ok q0, qc]; rfl
   have hF0 : ∃ F, ncE p c l = 0 → c ≠ 0 → ltape.l1 Yes p c l n d k q (((([[]] ++ ncL p c l) ++ ncL p c l) ++ ncL p c l) ++ ncL p (c - 1) l) F 0 := by
    by_cases hE : ncE p c l = 0
    ·obtain ⟨F, hF1⟩ := last (((([[]] ++ ncL p c l) ++ ncL p c l) ++ ncL p c l) ++ ncL p (c - 1) l) (ncL p c l ++ ncL p c l ++ ncL p (c - 1) l) (by simp) hE
     exact ⟨F, fun _ _ => hF1⟩
    ·exact ⟨0, fun h => absurd h hE⟩
   obtain ⟨F, hF0⟩ := hF0
   refine ⟨F, fun y6 h1 h2 h3 => base F y6 h1 h2 h3 ?_⟩
   intro hE hc
   have hF1 := hF0 hE hc
   obtain ⟨k1, k2, k3, k4, k5⟩ := ncE_ok hE
   obtain ⟨t1, t2⟩ := ncL_take hE hc
   have hL : (ncL p c l).length = c.toNat := ncL_len hE
   have s1 : sub .i64 c 1 = c - 1 := sub_i64 (by omega) (by omega)
   have l18 : 18 ≤ y6.length := by rw [h1, hPl]; omega
   have e2 : ncL y6 c l = ncL p c l := (ncL_eq c l (lp l18) h3.symm).symm
   have e3 : ncE y6 (c - 1) l = 0 := by rw [← ncE_eq (c - 1) l (lp l18)]; exact t1
   have e4 : ncL y6 (c - 1) l = ncL p (c - 1) l := (ncL_eq (c - 1) l (lp l18) h3.symm).symm
   have e5 : ncL (lcat (lcat [] p) q) c l = ncL p c l := eL
   have iy : InC y6 := ⟨by rw [h1, hPl]; omega, h2⟩
   have hy10 : lcat (lcat (lcat (lcat [[]] (ncL p c l)) (ncL p c l)) (ncL p c l)) (ncL p (c - 1) l) = (((([[]] ++ ncL p c l) ++ ncL p c l) ++ ncL p c l) ++ ncL p (c - 1) l) := rfl
   have hc1 : hcons (((([[]] ++ ncL p c l) ++ ncL p c l) ++ ncL p c l) ++ ncL p (c - 1) l) (hfrom (llen (lcat (lcat (lcat [[]] (ncL p c l)) (ncL p c l)) (ncL p c l))) (ncL p (c - 1) l)) = ncL p (c - 1) l := hcons_from _ _
   have hc2 : hcons (((([[]] ++ ncL p c l) ++ ncL p c l) ++ ncL p c l) ++ ncL p (c - 1) l) (lsub (hfrom 1 (ncL p c l)) 0 (nat (c - 1))) = ncL p (c - 1) l := by
    rw [hcons_take, at1 (M := ncL p c l ++ ncL p c l ++ ncL p (c - 1) l) (by simp), t2]; rfl
   have fe : Few (ncL p (c - 1) l) := ncL_few hpb
   have k30 : ∀ M, ltape.k30 Yes p c l n d k q (((([[]] ++ ncL p c l) ++ ncL p c l) ++ ncL p c l) ++ ncL p (c - 1) l) F (M + 100) := fun M => by rw [ltape.k30_eq]; exact hF1
   intro M
   rw [ltape.k33_eq Yes y6 c l n d k p q F (M + 297), ltape.k32_eq Yes y6 c l n d k p q F (M + 291)]
   simp only [s1, e2, e3, e4, e5, hy10, hc1, hc2]
   have m1 : ine (ofNat (llen (hfrom 1 (ncL p c l)))) c = false := by
    rw [ine_false, ofNat_def, llen_def, hfrom_len, hL]; omega
   refine ⟨iy, fun _ => ⟨fun _ => ⟨⟨⟨by omega⟩, ⟨by rw [llen_def, hfrom_len, hL]; simp only [nat]; omega⟩⟩, ⟨fe, fe⟩, ?_⟩, fun r => by rw [m1] at r; cases r⟩, fun r => by cases r⟩
   rw [ltape.k31_eq Yes y6 c l p _ _ n d k q F (M + 289)]
   simp only [s1, hc1, hc2, llq_self, bnot, Bool.not_true, Bool.true_eq_false, Bool.false_eq_true, false_implies, forall_const, and_true, true_and]
   exact k30 (M + 189)
  obtain ⟨F, hfin⟩ := fin
  have loop : ∃ F', ltape.l0 Yes p n d k c l q F' 2 (p ++ q) := by
   obtain ⟨N, hN⟩ : ∃ N, (p ++ q).length = N := ⟨_, rfl⟩
   refine ⟨(F + 1) + 1 * (N - 2), ?_⟩
   suffices h : ∀ m i, 2 ≤ i → i + m = N → ∀ x3 : List Int, x3.length = N → Bs x3 → lget x3 0 = lget p 0 → lget x3 1 = lget p 1 → ltape.l0 Yes p n d k c l q (F + 1 + m) (i : Int) x3 by
    have := h (N - 2) 2 (Nat.le_refl _) (by omega) (p ++ q) hN hPb (by rw [lget_app, if_pos (by omega)]) (by rw [lget_app, if_pos (by omega)])
    rw [show (F + 1) + 1 * (N - 2) = F + 1 + (N - 2) by omega]
    exact this
   intro m
   induction m with
   | zero =>
    intro i h2 hi x3 h1 hb g0 g1
    have l18 : 18 ≤ x3.length := by omega
    show ltape.l0 Yes p n d k c l q (F + 1) (i : Int) x3
    rw [ltape.l0_succ, ltape.k44_eq Yes p n d k c l q (i : Int) x3 F 3996]
    refine ⟨fun r => ?_, fun _ => ?_⟩
    ·rw [ilt_true, ofNat_def, llen_def] at r; omega
    have c1 : ine (cntN p n d k) (cntN x3 n d k) = false := by rw [cntN_like n d k (lp l18) g0.symm g1.symm]; exact ine_self _
    have c2 : ine (cntE p n d k) (cntE x3 n d k) = false := by rw [cntE_like n d k (lp l18)]; exact ine_self _
    rw [ltape.k43_eq Yes p n d k c l q (i : Int) x3 F 3993, ltape.k42_eq Yes p n d k c l x3 q (i : Int) F 3987, ltape.k41_eq Yes p n d k c l x3 q (i : Int) F 3987, ltape.k40_eq Yes p c l q n d k x3 F 3986]
    simp only [c1, c2, Bool.true_eq_false, Bool.false_eq_true, false_implies, forall_const, and_true, true_and]
    refine ⟨⟨⟨by omega⟩, hb⟩, ⟨⟨by decide⟩, ⟨h18⟩⟩, ?_⟩
    have v : lsub (lsub p 0 18) 0 (nmin (llen (lsub p 0 18)) (llen x3)) = p.take 18 := by
     have e1 : (lsub p 0 18) = p.take 18 := by simp [lsub]
     rw [e1, nmin_def, llen_def, llen_def]
     have : (p.take 18).length = 18 := by simp; omega
     rw [this, Nat.min_eq_left l18]
     simp [lsub, List.take_take]
    have hv : (p.take 18).length = 18 := by simp; omega
    have hz : (lput x3 0 (p.take 18)).length = N := by rw [lput_len2 _ _ _ (Nat.zero_le _), hv]; omega
    have hzb : Bs (lput x3 0 (p.take 18)) := ⟨fun x hx => by
     simp only [lput, List.take_zero, List.nil_append, List.mem_append] at hx
     rcases hx with hx | hx
     ·exact hpb.all x (List.mem_of_mem_take hx)
     ·exact hb.all x (List.mem_of_mem_drop hx)⟩
    rw [ltape.k39_eq Yes p c l q x3 n d k F 3984]
    simp only [v]
    have inb : ∀ {i : Int} {x : List Int}, x.length = N → 0 ≤ i → i < 18 → InB i (llen x) := fun h h1 h2 => ⟨h1, by rw [llen_def, h]; omega⟩
    refine ⟨inb hz (by decide) (by decide), inb hz (by decide) (by decide), inb hz (by decide) (by decide), inb (by simpa [lset] using hz) (by decide) (by decide), ?_⟩
    rw [ltape.k38_eq Yes p c l q x3 n d k F 3982]
    simp only [v]
    have b0 := hzb.get 0
    have b1 := hzb.get 1
    have x0 := byte_xor (a := lget (lput x3 0 (p.take 18)) 0) (b := 129) ⟨b0.1, b0.2⟩ ⟨by decide, by decide⟩
    have x1 := byte_xor (a := lget (lput x3 0 (p.take 18)) 1) (b := 24) ⟨b1.1, b1.2⟩ ⟨by decide, by decide⟩
    have hyl : (lset (lset (lput x3 0 (p.take 18)) 0 (bxor .u8 (lget (lput x3 0 (p.take 18)) 0) 129)) 1 (bxor .u8 (lget (lput x3 0 (p.take 18)) 1) 24)).length = N := by simpa [lset] using hz
    have hyb : Bs (lset (lset (lput x3 0 (p.take 18)) 0 (bxor .u8 (lget (lput x3 0 (p.take 18)) 0) 129)) 1 (bxor .u8 (lget (lput x3 0 (p.take 18)) 1) 24)) := (hzb.set 0 x0.lo x0.hi).set 1 x1.lo x1.hi
    refine ⟨⟨by rw [hyl]; omega, hyb⟩, ?_⟩
    refine hfin _ (hyl.trans hN.symm) hyb ?_ x3 _ _ 3482
    refine list_ext (by rw [lsub_len _ _ _ (by rw [hyl]; omega), lsub_len _ _ _ (by omega)]) fun j hj => ?_
    rw [lsub_len _ _ _ (by rw [hyl]; omega)] at hj
    have e1 : ∀ y : List Int, (lsub y 2 16)[j]? = y[2 + j]? := fun y => by simp only [lsub, List.getElem?_take, if_pos hj, List.getElem?_drop]
    rw [e1, e1]
    simp only [lset, List.getElem?_set]
    rw [if_neg (by omega), if_neg (by omega), lput_get2 _ _ _ _ (Nat.zero_le _), if_pos ⟨Nat.zero_le _, by omega⟩]
    rw [Nat.sub_zero, List.getElem?_take, if_pos (by omega)]
   | succ m ih =>
    intro i h2 hi x3 h1 hb g0 g1
    have a1 : add .i64 (i : Int) 1 = ((i + 1 : Nat) : Int) := add1_i64 (by omega)
    have hx := hb.get i
    have xx := byte_xor (a := lget x3 i) (b := 60) ⟨hx.1, hx.2⟩ ⟨by decide, by decide⟩
    have hnext := ih (i + 1) (by omega) (by omega) (lset x3 i (bxor .u8 (lget x3 i) 60)) (by simpa [lset] using h1) (hb.set i xx.lo xx.hi) (by rw [lset_get _ _ _ _ (by omega), if_neg (by omega)]; exact g0) (by rw [lset_get _ _ _ _ (by omega), if_neg (by omega)]; exact g1)
    show ltape.l0 Yes p n d k c l q ((F + 1 + m) + 1) (i : Int) x3
    rw [ltape.l0_succ, ltape.k44_eq Yes p n d k c l q (i : Int) x3 (F + 1 + m) 3996, ltape.k16_eq Yes p n d k c l q (i : Int) x3 (F + 1 + m) 3990, ltape.k15_eq Yes p n d k c l q (i : Int) x3 (F + 1 + m) 3890, a1, nat_cast]
    refine ⟨fun _ => ⟨⟨by omega, by rw [llen_def]; omega⟩, ⟨by omega, by rw [llen_def]; omega⟩, hnext⟩, fun r => ?_⟩
    rw [ilt_false, ofNat_def, llen_def] at r; omega
  obtain ⟨F', hl0⟩ := loop
  refine ⟨F' + 1, ⟨?_⟩⟩
  have hc1 : hcons (lcat (lcat [[]] (ncL p c l)) (ncL (lcat (lcat [] p) q) c l)) (hfrom 1 (ncL p c l)) = ncL p c l := at1 (M := ncL (p ++ q) c l) (by simp [lcat])
  have hc2 : hcons (lcat (lcat [[]] (ncL p c l)) (ncL (lcat (lcat [] p) q) c l)) (hfrom (llen (lcat [[]] (ncL p c l))) (ncL (lcat (lcat [] p) q) c l)) = ncL p c l := by
   rw [show ncL (lcat (lcat [] p) q) c l = ncL p c l from eL]
   exact hcons_from (lcat [[]] (ncL p c l)) (ncL p c l)
  have k45 : ∀ M, ltape.k45 Yes p n d k c l q F' (M + 100) := fun M => by rw [ltape.k45_eq, hF]; exact hl0
  have k46 : ∀ M, ltape.k46 Yes p n d k c l q F' (M + 200) := fun M => by
   rw [ltape.k46_eq Yes p n d k c l q F' (M + 195)]
   have c4 : ieq (ncE p c l) 3 = false := by rw [ieq_false]; exact hE3
   simp only [c4, Bool.true_eq_false, Bool.false_eq_true, false_implies, forall_const, and_true, true_and]
   exact k45 (M + 95)
  have k49 : ∀ M, ltape.k49 Yes p n d k c l q F' (M + 300) := fun M => by
   rw [ltape.k49_eq Yes p n d k c l q F' (M + 294)]
   have c1 : ine (cntN p n d k) (cntN (lcat (lcat [] p) q) n d k) = false := by
    rw [hF, cntN_like (p := p) (p' := p ++ q) n d k (lp (by rw [hPl]; omega)) (by rw [lget_app, if_pos (by omega)]) (by rw [lget_app, if_pos (by omega)])]; exact ine_self _
   have c2 : ine (cntE p n d k) (cntE (lcat (lcat [] p) q) n d k) = false := by
    rw [hF, cntE_like (p := p) (p' := p ++ q) n d k (lp (by rw [hPl]; omega))]; exact ine_self _
   have c3 : ine (ncE p c l) (ncE (lcat (lcat [] p) q) c l) = false := by rw [hF, eP]; exact ine_self _
   have c4 : ieq (cntE p n d k) 3 = false := by rw [ieq_false]; exact hC3
   simp only [c1, c2, c3, c4, hc1, hc2, llq_self, bnot, Bool.not_true, Bool.true_eq_false, Bool.false_eq_true, false_implies, forall_const, and_true, true_and]
   exact ⟨⟨few, few⟩, k46 (M + 97)⟩
  have g : ilt (ofNat (llen p)) 18 = false := by rw [ilt_false, ofNat_def, llen_def]; omega
  rw [ltape_vc, ltape.k55_eq Yes n d k c l p q F' 3991, ltape.k54_eq Yes p n d k c l q F' 3986, ltape.k53_eq Yes p n d k c l q F' 3985, ltape.k52_eq Yes p n d k c l q F' 3982, ltape.k51_eq Yes p n d k c l q F' 3980, ltape.k50_eq Yes p n d k c l q F' 3978]
  simp only [g, hF, k49 3678, Bool.true_eq_false, Bool.false_eq_true, false_implies, forall_const, and_true, true_and]
  exact ⟨⟨sp, hpb⟩, ip, ⟨by show (5 * (0 + p.length) + 4096) * 1 ≤ _; omega⟩, ⟨by show (5 * (p.length + q.length) + 4096) * 1 ≤ _; omega⟩, ⟨⟨by rw [hPl]; omega⟩, hPb⟩, ⟨by rw [hPl]; omega, hPb⟩⟩
end Go.Proofs.Ytacnldmmacjpoaa.G
namespace Go.Sx
open Go Go.ChangeShapes Go.WideShapes Go.ChangeAt Go.RowKit
def fieldsO (P : Program) (f : TypeId → Option (List Kd)) : List Field → Nat → Option (List Kd)
 | [], o => some []
 | fd :: r, o => match f fd.type, fieldsO P f r (o + P.cellsOf fd.type) with
  | some k1, some k2 => if fd.offset = o ∧ P.cellsOf fd.type = width k1 then some (k1 ++ k2) else none
  | _, _ => none
def kindsO (P : Program) : Nat → TypeId → Option (List Kd)
 | 0, _ => none
 | d + 1, t => match P.underlying t with
  | some (.int k) => if P.cellsOf t = 1 then some [.ints k] else none
  | some .bool => if P.cellsOf t = 1 then some [.bools] else none
  | some (.slice e) => match P.underlying e with
   | some (.int k) => if P.cellsOf e = 1 ∧ P.cellsOf t = 1 ∧ 1 ≤ P.bytesOf e then some [.rows k] else none
   | _ => none
  | some (.array m e) => match P.underlying e with
   | some (.int k) => if P.cellsOf e = 1 ∧ P.cellsOf t = m then some [.arrs k m] else none
   | _ => none
  | some (.struct fs) => match fieldsO P (kindsO P d) fs.toList 0 with
   | some ks => if P.cellsOf t = width ks then some ks else none
   | none => none
  | _ => none
def KdAt (w : World) (k : Kd) (cs : List Value) (o : Nat) : Prop :=
 match k with
 | .ints q => ∃ n, cs[o]? = some (.int q n) ∧ (Lit.int q n).wf = true
 | .bools => ∃ b, cs[o]? = some (.bool b)
 | .arrs q m => ∃ l : List Int, l.length = m ∧ (∀ (j : Nat) x, l[j]? = some x → cs[o + j]? = some (.int q x)) ∧ ∀ x ∈ l, (Lit.int q x).wf = true
 | .rows q => ∃ A L C Z, cs[o]? = some (.slice A L C) ∧ IsRow q w A L C Z ∧ Z.length ≤ reachBytes
 | .strs => ∃ b, cs[o]? = some (.string b)
def KdsAt (w : World) : List Kd → List Value → Nat → Prop
 | [], _, _ => True
 | k :: r, cs, o => KdAt w k cs o ∧ KdsAt w r cs (o + k.width)
theorem KdsAt.append {w : World} {cs : List Value} : ∀ {a b : List Kd} {o : Nat}, KdsAt w a cs o → KdsAt w b cs (o + width a) → KdsAt w (a ++ b) cs o
 | [], b, o, _, h => by simpa [width] using h
 | k :: a, b, o, h, g => ⟨h.1, KdsAt.append h.2 (by simpa [width, Nat.add_assoc] using g)⟩
theorem KdAt.shift {w : World} {cs : List Value} {o z : Nat} {k : Kd} {p : Nat} (hp : p + k.width ≤ z) (h : KdAt w k ((cs.drop o).take z) p) : KdAt w k cs (o + p) := by
 have get : ∀ i, i < z → ((cs.drop o).take z)[i]? = cs[o + i]? := fun i hi => by rw [List.getElem?_take, if_pos hi, List.getElem?_drop]
 cases k with
 | ints q =>
  obtain ⟨n, h1, h2⟩ := h
  exact ⟨n, by rw [← get p (by simp [Kd.width] at hp; omega)]; exact h1, h2⟩
 | bools =>
  obtain ⟨b, h1⟩ := h
  exact ⟨b, by rw [← get p (by simp [Kd.width] at hp; omega)]; exact h1⟩
 | arrs q m =>
  obtain ⟨l, h1, h2, h3⟩ := h
  refine ⟨l, h1, fun j x hj => ?_, h3⟩
  have : j < m := by rw [← h1]; exact (List.getElem?_eq_some_iff.1 hj).1
  rw [Nat.add_assoc, ← get (p + j) (by simp [Kd.width] at hp; omega)]
  exact h2 j x hj
 | strs =>
  obtain ⟨b, h1⟩ := h
  exact ⟨b, by rw [← get p (by simp [Kd.width] at hp; omega)]; exact h1⟩
 | rows q =>
  obtain ⟨A, L, C, Z, h1, h2⟩ := h
  exact ⟨A, L, C, Z, by rw [← get p (by simp [Kd.width] at hp; omega)]; exact h1, h2⟩
theorem KdsAt.shift {w : World} {cs : List Value} {o z : Nat} : ∀ {ks : List Kd} {p : Nat}, p + width ks ≤ z → KdsAt w ks ((cs.drop o).take z) p → KdsAt w ks cs (o + p)
 | [], _, _, _ => trivial
 | k :: r, p, hp, h => ⟨h.1.shift (by simp [width] at hp; omega), by have := KdsAt.shift (ks := r) (p := p + k.width) (by simp [width] at hp; omega) h.2; rwa [← Nat.add_assoc] at this⟩
section
variable {H : Type} {enc : TypeId × Value → H} {P : Program} {w : World} {base : Nat} {held : Bool}
theorem row_of_trod {t e : TypeId} {k : IntKind} {fuel : Nat} {cs : List Value} {x : DataW H × List MemPlace} (ht : P.underlying t = some (.slice e)) (he : P.underlying e = some (.int k)) (hc : P.cellsOf e = 1) (hb : 1 ≤ P.bytesOf e)
  (h : DataW.trod enc P w base (fun _ => true) held fuel t cs = some x) (hz : ∀ n ∈ x.1.weights P t, n ≤ reachBytes) : ∃ A L C Z, cs = [.slice A L C] ∧ IsRow k w A L C Z ∧ Z.length ≤ reachBytes := by
 rcases open_ints ht he hc h with ⟨rfl, rfl⟩ | ⟨a, len, cap, zs, rfl, _, hl, hm, hlen, rfl, hcell, hw⟩
 ·exact ⟨none, 0, 0, [], rfl, .inl ⟨rfl, rfl, rfl, rfl⟩, Nat.zero_le _⟩
 ·refine ⟨some a, len, cap, zs, rfl, .inr ⟨a, rfl, hl, hm, by simpa using hlen, hcell, hw⟩, ?_⟩
  have := hz (((lits (H := H) k (zs.take len)).length + (lits (H := H) k (zs.drop len)).length) * P.bytesOf e) (by simp [DataW.weights, ht])
  simp only [lits, List.length_map, List.length_take, List.length_drop] at this
  have e1 : min len zs.length + (zs.length - len) = zs.length := by omega
  rw [e1] at this
  exact Nat.le_trans (Nat.le_mul_of_pos_right _ hb) this
theorem kinds_of_trod : ∀ (d : Nat) {t : TypeId} {ks : List Kd} {fuel : Nat} {cs : List Value} {x : DataW H × List MemPlace}, kindsO P d t = some ks → DataW.trod enc P w base (fun _ => true) held fuel t cs = some x → (∀ n ∈ x.1.weights P t, n ≤ reachBytes) →
  cs.length = width ks ∧ KdsAt w ks cs 0
 | 0, _, _, _, _, _, h, _, _ => by simp [kindsO] at h
 | d + 1, t, ks, fuel, cs, x, h, htr, hz => by
  unfold kindsO at h
  split at h
  ·rename_i k hu
   split at h
   ·cases h
    obtain ⟨n, rfl, rfl, hw⟩ := DataW.trod_int hu htr
    exact ⟨rfl, ⟨n, rfl, hw⟩, trivial⟩
   ·cases h
  ·rename_i hu
   split at h
   ·cases h
    obtain ⟨b, rfl, rfl⟩ := DataW.trod_bool hu htr
    exact ⟨rfl, ⟨b, rfl⟩, trivial⟩
   ·cases h
  ·rename_i e hu
   split at h
   ·rename_i k he
    split at h
    ·rename_i hc
     cases h
     obtain ⟨A, L, C, Z, rfl, hr, hl⟩ := row_of_trod hu he hc.1 hc.2.2 htr hz
     exact ⟨rfl, ⟨A, L, C, Z, rfl, hr, hl⟩, trivial⟩
    ·cases h
   ·cases h
  ·rename_i m e hu
   split at h
   ·rename_i k he
    split at h
    ·rename_i hc
     cases h
     obtain ⟨xs, n, _, _, hcl, hxl, hx⟩ := DataW.trod_array hu htr
     rw [hc.2] at hcl
     have each : ∀ i, i < m → ∃ n, cs[i]? = some (.int k n) ∧ (Lit.int k n).wf = true := by
      intro i hi
      have h1 := hx i hi
      rw [hc.1, Nat.mul_one] at h1
      have h2 : xs[i]? = some (xs[i]'(by omega)) := List.getElem?_eq_getElem (by omega)
      rw [h2] at h1
      obtain ⟨n, e1, _, hw⟩ := DataW.trod_int he h1
      have hlt : i < cs.length := by omega
      rw [List.drop_eq_getElem_cons hlt] at e1
      simp only [List.take_succ_cons, List.take_zero, List.cons.injEq, and_true] at e1
      exact ⟨n, by rw [List.getElem?_eq_getElem hlt, e1], hw⟩
     refine ⟨by simp [width, Kd.width, hcl], ⟨cs.map fun v => match v with | .int _ n => n | _ => 0, by simp [hcl], fun j y hj => ?_, fun y hy => ?_⟩, trivial⟩
     ·simp only [List.getElem?_map, Option.map_eq_some_iff] at hj
      obtain ⟨v, hv, rfl⟩ := hj
      have hlt : j < cs.length := (List.getElem?_eq_some_iff.1 hv).1
      obtain ⟨n, e1, _⟩ := each j (by omega)
      rw [e1] at hv; cases hv
      rw [Nat.zero_add, e1]
     ·obtain ⟨v, hv, rfl⟩ := List.mem_map.1 hy
      obtain ⟨j, hj⟩ := List.getElem?_of_mem hv
      have hlt : j < cs.length := (List.getElem?_eq_some_iff.1 hj).1
      obtain ⟨n, e1, hw⟩ := each j (by omega)
      rw [e1] at hj; cases hj
      exact hw
    ·cases h
   ·cases h
  ·rename_i fs hu
   split at h
   ·rename_i ks' hks
    split at h
    ·rename_i hc
     cases h
     obtain ⟨xs, n, _, rfl, hcl, hxl, hx⟩ := DataW.trod_struct hu htr
     refine ⟨by rw [hcl, hc], ?_⟩
     have wt : ∀ (i : Nat) f y, fs[i]? = some f → xs[i]? = some y → ∀ n ∈ y.1.weights P f.type, n ≤ reachBytes := by
      intro i f y hf hy n hn
      refine hz n ?_
      simp only [DataW.weights, hu]
      exact DataW.weights_mem_each (j := i) (t := f.type) (d := y.1) (by simp [List.getElem?_map]; exact ⟨f, by simpa using hf, rfl⟩) (by simp [List.getElem?_map, hy]) n hn
     have all : ∀ (fl : List Field) (o i : Nat) (ks : List Kd), fieldsO P (kindsO P d) fl o = some ks → (∀ j f, fl[j]? = some f → fs[i + j]? = some f) → KdsAt w ks cs o := by
      intro fl
      induction fl with
      | nil => intro o i ks h _; simp only [fieldsO, Option.some.injEq] at h; subst h; trivial
      | cons fd r ih =>
       intro o i ks h hf
       simp only [fieldsO] at h
       split at h
       ·rename_i k1 k2 h1 h2
        split at h
        ·rename_i hq
         cases h
         obtain ⟨ho, hcw⟩ := hq
         have hfi : fs[i]? = some fd := by simpa using hf 0 fd rfl
         have hxi := hx i fd hfi
         have hlt : i < xs.length := by rw [hxl]; exact (Array.getElem?_eq_some_iff.1 hfi).1
         have h3 : xs[i]? = some xs[i] := List.getElem?_eq_getElem hlt
         rw [h3] at hxi
         obtain ⟨_, g2⟩ := kinds_of_trod d h1 hxi (wt i fd _ hfi h3)
         rw [ho, hcw] at g2
         refine KdsAt.append (by have := KdsAt.shift (p := 0) (by omega) g2; simpa using this) ?_
         rw [← hcw]
         exact ih (o + P.cellsOf fd.type) (i + 1) k2 h2 fun j f hj => by have := hf (j + 1) f (by simpa using hj); rwa [show i + 1 + j = i + (j + 1) by omega]
        ·cases h
       ·cases h
     exact all fs.toList 0 0 ks hks fun j f hj => by rw [Nat.zero_add]; simpa using hj
    ·cases h
   ·cases h
  ·cases h
end
def Col.wf : Col → Prop
 | .ints k l => ∀ x ∈ l, (Lit.int k x).wf = true
 | .bools _ => True
 | .arrs k _ ll => ∀ l ∈ ll, ∀ x ∈ l, (Lit.int k x).wf = true
 | .rows k ll => ∀ l ∈ ll, l.length ≤ reachBytes ∧ ∀ x ∈ l, (Lit.int k x).wf = true
 | .strs _ => True
 | .hss _ _ => False
theorem wf_noHss {cs : List Col} (h : ∀ col ∈ cs, col.wf) : noHss cs = true := by
 simp only [noHss, List.all_eq_true, Bool.not_eq_true']
 intro c hc
 have := h c hc
 cases c <;> first | rfl | exact this.elim
section
variable {H : Type} {enc : TypeId × Value → H} {P : Program} {w : World}
theorem LawArgs.recs {j : Nat} {A : Option Addr} {len cap : Nat} {L : Loc} {cs : List Col} {xs : List AV} {vs : List Value} {τ : Mem} (hV : VRep w L cs) (hv : Value.slice A len cap = .slice L.a L.len L.cap) (t : LawArgs w (j + 1) xs vs τ) (hj : j < 1000 := by decide) (hn : noHss cs = true := by first | rfl | exact wf_noHss (by assumption)) :
  LawArgs w j (.one (.vec (200000 + j)) :: xs) (.slice A len cap :: vs) ((200000 + j, .rview cs) :: τ) := .row L cs hj hV hv t hn
theorem KdsAt.rows {q : IntKind} {r : List Kd} {cs : List Value} {o : Nat} (h : KdsAt w (.rows q :: r) cs o) : ∃ A L C Z, IsRow q w A L C Z ∧ Z.length ≤ reachBytes ∧ cs.drop o = .slice A L C :: cs.drop (o + 1) ∧ KdsAt w r cs (o + 1) := by
 obtain ⟨⟨A, L, C, Z, h1, h2, h3⟩, h4⟩ := h
 have hlt := (List.getElem?_eq_some_iff.1 h1)
 obtain ⟨hl, he⟩ := hlt
 exact ⟨A, L, C, Z, h2, h3, by rw [List.drop_eq_getElem_cons hl, he], h4⟩
theorem KdsAt.ints {q : IntKind} {r : List Kd} {cs : List Value} {o : Nat} (h : KdsAt w (.ints q :: r) cs o) : ∃ n, (Lit.int q n).wf = true ∧ cs.drop o = .int q n :: cs.drop (o + 1) ∧ KdsAt w r cs (o + 1) := by
 obtain ⟨⟨n, h1, h2⟩, h4⟩ := h
 obtain ⟨hl, he⟩ := (List.getElem?_eq_some_iff.1 h1)
 exact ⟨n, h2, by rw [List.drop_eq_getElem_cons hl, he], h4⟩
theorem KdsAt.bools {r : List Kd} {cs : List Value} {o : Nat} (h : KdsAt w (.bools :: r) cs o) : ∃ b, cs.drop o = .bool b :: cs.drop (o + 1) ∧ KdsAt w r cs (o + 1) := by
 obtain ⟨⟨b, h1⟩, h4⟩ := h
 obtain ⟨hl, he⟩ := (List.getElem?_eq_some_iff.1 h1)
 exact ⟨b, by rw [List.drop_eq_getElem_cons hl, he], h4⟩
theorem KdsAt.arrs {q : IntKind} {m : Nat} {r : List Kd} {cs : List Value} {o : Nat} (h : KdsAt w (.arrs q m :: r) cs o) (hl : o + m ≤ cs.length) : ∃ l : List Int, l.length = m ∧ (∀ x ∈ l, (Lit.int q x).wf = true) ∧ cs.drop o = l.map (Value.int q) ++ cs.drop (o + m) ∧ KdsAt w r cs (o + m) := by
 obtain ⟨⟨l, h1, h2, h3⟩, h4⟩ := h
 refine ⟨l, h1, h3, ?_, h4⟩
 conv => lhs; rw [← List.take_append_drop m (cs.drop o), List.drop_drop]
 congr 1
 refine List.ext_getElem? fun j => ?_
 rw [List.getElem?_take]
 by_cases hj : j < m
 ·rw [if_pos hj, List.getElem?_drop]
  have : l[j]? = some (l[j]'(by omega)) := List.getElem?_eq_getElem (by omega)
  rw [h2 j _ this]
  simp [this]
 ·rw [if_neg hj, List.getElem?_eq_none (by simp; omega)]
theorem open_struct {t : TypeId} {fs : Array Field} {ks : List Kd} {v : Value} {d : DataW H} {ps : List MemPlace} {r : Reach} {b0 : Nat} (ht : P.underlying t = some (.struct fs)) (hk : kindsO P 8 t = some ks) (hv : Value.okWide P w r b0 t v)
  (h : DataW.Trod enc P w 0 (fun _ => true) true t v d ps) {ts : List TypeId} {ds : List (DataW H)} (hsz : (DataW.weightsEach P ts ds).all (· ≤ reachBytes) = true) {j : Nat} (htj : ts[j]? = some t) (hdj : ds[j]? = some d) :
  ∃ cs : List Value, v = .agg cs.toArray ∧ cs.length = width ks ∧ KdsAt w ks cs 0 := by
 obtain ⟨cs, rfl, _⟩ := okWide_struct ht hv
 obtain ⟨fuel, hf⟩ := h
 have hall : ∀ n ∈ d.weights P t, n ≤ reachBytes := fun n hn => by
  have := List.all_eq_true.1 hsz n (DataW.weights_mem_each htj hdj n hn)
  simpa using this
 obtain ⟨h1, h2⟩ := kinds_of_trod 8 hk hf hall
 exact ⟨cs.toList, by simp, h1, h2⟩
end
inductive KF where
 | ks (l : List Kd)
 | recs (l : List Kd) (bytes : Nat)
def KF.width : KF → Nat
 | .ks l => Sx.width l
 | .recs _ _ => 1
structure RecsIn (w : World) (l : List Kd) (bytes : Nat) (A : Option Addr) (len cap : Nat) (L : Loc) (cols : List Col) : Prop where
 rep : VRep w L cols
 val : Value.slice A len cap = .slice L.a L.len L.cap
 kds : kdsOf cols = l
 wf : ∀ col ∈ cols, col.wf
 size : L.len * bytes ≤ reachBytes
def KF.at (w : World) (k : KF) (cs : List Value) (o : Nat) : Prop :=
 match k with
 | .ks l => KdsAt w l cs o
 | .recs l b => ∃ A len cap L cols, cs[o]? = some (.slice A len cap) ∧ RecsIn w l b A len cap L cols
def KFsAt (w : World) : List KF → List Value → Nat → Prop
 | [], _, _ => True
 | k :: r, cs, o => k.at w cs o ∧ KFsAt w r cs (o + k.width)
section
variable {H : Type} {enc : TypeId × Value → H} {P : Program} {w : World}
theorem KFsAt.recs {l : List Kd} {b : Nat} {r : List KF} {cs : List Value} {o : Nat} (h : KFsAt w (.recs l b :: r) cs o) : ∃ A len cap L cols, RecsIn w l b A len cap L cols ∧ cs.drop o = .slice A len cap :: cs.drop (o + 1) ∧ KFsAt w r cs (o + 1) := by
 obtain ⟨⟨A, len, cap, L, cols, h1, h2⟩, h4⟩ := h
 obtain ⟨hl, he⟩ := (List.getElem?_eq_some_iff.1 h1)
 exact ⟨A, len, cap, L, cols, h2, by rw [List.drop_eq_getElem_cons hl, he], h4⟩
theorem KFsAt.rows {q : IntKind} {r : List KF} {cs : List Value} {o : Nat} (h : KFsAt w (.ks [.rows q] :: r) cs o) : ∃ A L C Z, IsRow q w A L C Z ∧ Z.length ≤ reachBytes ∧ cs.drop o = .slice A L C :: cs.drop (o + 1) ∧ KFsAt w r cs (o + 1) := by
 obtain ⟨A, L, C, Z, h1, h2, h3, _⟩ := KdsAt.rows h.1
 exact ⟨A, L, C, Z, h1, h2, h3, h.2⟩
theorem KFsAt.ints {q : IntKind} {r : List KF} {cs : List Value} {o : Nat} (h : KFsAt w (.ks [.ints q] :: r) cs o) : ∃ n, (Lit.int q n).wf = true ∧ cs.drop o = .int q n :: cs.drop (o + 1) ∧ KFsAt w r cs (o + 1) := by
 obtain ⟨n, h1, h2, _⟩ := KdsAt.ints h.1
 exact ⟨n, h1, h2, h.2⟩
theorem KFsAt.bools {r : List KF} {cs : List Value} {o : Nat} (h : KFsAt w (.ks [.bools] :: r) cs o) : ∃ b, cs.drop o = .bool b :: cs.drop (o + 1) ∧ KFsAt w r cs (o + 1) := by
 obtain ⟨b, h1, _⟩ := KdsAt.bools h.1
 exact ⟨b, h1, h.2⟩
theorem KFsAt.arrs {q : IntKind} {m : Nat} {r : List KF} {cs : List Value} {o : Nat} (h : KFsAt w (.ks [.arrs q m] :: r) cs o) (hl : o + m ≤ cs.length) : ∃ l : List Int, l.length = m ∧ (∀ x ∈ l, (Lit.int q x).wf = true) ∧ cs.drop o = l.map (Value.int q) ++ cs.drop (o + m) ∧ KFsAt w r cs (o + m) := by
 obtain ⟨l, h1, h2, h3, _⟩ := KdsAt.arrs h.1 hl
 have e : (KF.ks [.arrs q m]).width = m := by simp [KF.width, Sx.width, Kd.width]
 have := h.2
 rw [e] at this
 exact ⟨l, h1, h2, h3, this⟩
theorem AggArgs.recs {j j' : Nat} {l : List Kd} {b : Nat} {A : Option Addr} {len cap : Nat} {L : Loc} {cols : List Col} {s : List Seg} {cs : List Value} {τ : Mem} (h : RecsIn w l b A len cap L cols) (t : AggArgs w (j + 1) s cs τ j') (hj : j < 1000 := by decide) :
  AggArgs w j (.cells [.vec (200000 + j)] :: s) (.slice A len cap :: cs) ((200000 + j, .rview cols) :: τ) j' := .row L cols hj h.rep h.val t (wf_noHss h.wf)
end
end Go.Sx
namespace Go.Proofs.Ytacnldmmacjpoaa.upto
open Go Go.Sx Go.ChangeShapes
theorem part_le {H : Type} {d : DataW H} {l : List (DataW H)} (h : d ∈ l) : Rows.uptoBulk d ≤ Rows.uptoBulkAll l := by
 induction l with
 | nil => cases h
 | cons x r ih =>
  simp only [Rows.uptoBulkAll]
  cases List.mem_cons.1 h with
  | inl e => subst e; omega
  | inr e => have := ih e; omega
theorem one_le {H : Type} (d : DataW H) : 1 ≤ Rows.uptoBulk d := by
 cases d with
 | lit l => cases l <;> simp [Rows.uptoBulk]
 | nil => simp [Rows.uptoBulk]
 | ptr d => simp [Rows.uptoBulk]
 | slice elems spare => simp [Rows.uptoBulk]
 | agg parts => simp [Rows.uptoBulk]
 | iface t d => simp [Rows.uptoBulk]
 | map entries => simp [Rows.uptoBulk]
 | held h => simp [Rows.uptoBulk]
theorem length_le {H : Type} (l : List (DataW H)) : l.length ≤ Rows.uptoBulkAll l := by
 induction l with
 | nil => simp [Rows.uptoBulkAll]
 | cons x r ih => have := one_le x; simp only [Rows.uptoBulkAll, List.length_cons]; omega
theorem small {H : Type} {l : List (DataW H)} (hk : Rows.uptoSmall H l = true) : Rows.uptoBulkAll l ≤ 1048576 := of_decide_eq_true hk
theorem each {H : Type} {l : List (DataW H)} {d : DataW H} (hk : Rows.uptoSmall H l = true) (hd : d ∈ l) : Rows.uptoBulk d ≤ 1048576 := Nat.le_trans (part_le hd) (small hk)
theorem IsRow.cap_eq {w : World} {k : IntKind} {a : Option Addr} {len cap : Nat} {zs : List Int} (h : IsRow k w a len cap zs) : zs.length = cap := by
 rcases h with ⟨rfl, rfl, rfl, rfl⟩ | ⟨x, rfl, hl, hm, hz, hc, hw⟩
 ·rfl
 ·simpa using hz
section
variable {H : Type} {enc : TypeId × Value → H} {P : Program} {w : World}
theorem cap_cells {t e : TypeId} {k : IntKind} {fuel : Nat} {a : Option Addr} {len cap : Nat} {x : DataW H × List MemPlace} (ht : P.underlying t = some (.slice e)) (he : P.underlying e = some (.int k)) (hc : P.cellsOf e = 1)
  (hf : DataW.trod enc P w 0 (fun _ => true) true fuel t [.slice a len cap] = some x) : cap ≤ Rows.uptoBulk x.1 := by
 rcases open_ints ht he hc hf with ⟨hcs, _⟩ | ⟨y, l, c, zs, hcs, _, hl, hm, hz, hd, _⟩
 ·cases hcs; exact Nat.zero_le _
 ·cases hcs
  have hz' : zs.length = cap := by simpa using hz
  rw [hd]
  simp only [Rows.uptoBulk]
  have h1 := length_le (H := H) (lits k (zs.take len)); have h2 := length_le (H := H) (lits k (zs.drop len))
  simp only [lits, List.length_map, List.length_take, List.length_drop] at h1 h2
  simp only [lits]
  omega
theorem cap_slice {t e : TypeId} {k : IntKind} {a : Option Addr} {len cap : Nat} {d : DataW H} {ps : List MemPlace} (ht : P.underlying t = some (.slice e)) (he : P.underlying e = some (.int k)) (hc : P.cellsOf e = 1)
  (h : DataW.Trod enc P w 0 (fun _ => true) true t (.slice a len cap) d ps) : cap ≤ Rows.uptoBulk d := by
 obtain ⟨fuel, hf⟩ := h
 exact cap_cells (x := (d, ps)) ht he hc (by simpa [Value.cells] using hf)
theorem cap_field {t : TypeId} {fs : Array Field} {cs : List Value} {d : DataW H} {ps : List MemPlace} (hu : P.underlying t = some (.struct fs)) (h : DataW.Trod enc P w 0 (fun _ => true) true t (.agg cs.toArray) d ps)
  {i : Nat} {f : Field} {e : TypeId} {k : IntKind} {a : Option Addr} {len cap : Nat} (hf : fs[i]? = some f) (ht : P.underlying f.type = some (.slice e)) (he : P.underlying e = some (.int k)) (hc : P.cellsOf e = 1) (h1 : P.cellsOf f.type = 1)
  (hs : cs[f.offset]? = some (.slice a len cap)) : cap ≤ Rows.uptoBulk d := by
 obtain ⟨fuel, htr⟩ := h
 obtain ⟨xs, n, _, hd, hcl, hxl, hx⟩ := DataW.trod_struct hu htr
 have hxi := hx i f hf
 have hlt : i < xs.length := by rw [hxl]; exact (Array.getElem?_eq_some_iff.1 hf).1
 rw [List.getElem?_eq_getElem hlt, h1] at hxi
 have e1 : (((Value.agg cs.toArray).cells.toList.drop f.offset).take 1) = [Value.slice a len cap] := by
  show ((cs.toArray.toList).drop f.offset).take 1 = _
  obtain ⟨hl, he⟩ := List.getElem?_eq_some_iff.1 hs
  rw [List.drop_eq_getElem_cons (by simpa using hl)]
  simp [he]
 rw [e1] at hxi
 have q := cap_cells ht he hc hxi
 have hd1 := congrArg Prod.fst hd
 simp only at hd1
 rw [hd1]
 simp only [Rows.uptoBulk]
 have := part_le (l := xs.map (·.1)) (List.mem_map.2 ⟨xs[i], List.getElem_mem hlt, rfl⟩)
 omega
end
end Go.Proofs.Ytacnldmmacjpoaa.upto
