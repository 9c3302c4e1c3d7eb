import Derived.Test.YtgkklobamebnjaaCellKeepsE
import Derived.Deep.Slices
set_option linter.unusedSimpArgs false
set_option linter.unusedVariables false
namespace Go.Sx
open Go
structure Ok (A : Prop) : Prop where
 ok : A
theorem two_ok {A : Prop} (h : Ok A) : A ∧ A := ⟨h.ok, h.ok⟩
theorem and_ok {A B : Prop} (a : A) (h : Ok B) : A ∧ B := ⟨a, h.ok⟩
theorem tt_l {A B : Prop} (h : A) : (true = true → A) ∧ (true = false → B) := ⟨fun _ => h, fun q => (by cases q)⟩
theorem ff_l {A B : Prop} (h : A) : (false = false → A) ∧ (false = true → B) := ⟨fun _ => h, fun q => (by cases q)⟩
theorem ff_r {A B : Prop} (h : B) : (false = true → A) ∧ (false = false → B) := ⟨fun q => (by cases q), fun _ => h⟩
theorem hfrom_app2 (n : Nat) (A B : List (List Int)) : hfrom n (A ++ B) = hfrom n A ++ hfrom (n + A.length) B := by
 induction A generalizing n with
 | nil => rfl
 | cons c r ih =>
  simp only [List.cons_append, hfrom, ih, List.length_cons]
  rw [show n + 1 + r.length = n + (r.length + 1) by omega]
theorem llget_at {os L M : List (List Int)} {i : Nat} (hi : i < L.length) : llget (os ++ (L ++ M)) (os.length + i) = llget L i := by
 simp only [llget, List.getD]
 rw [List.getElem?_append_right (by omega), Nat.add_sub_cancel_left, List.getElem?_append_left hi]
theorem apart_from {H os L : List (List Int)} (h : H = os ++ L) (hz : llget H 0 = []) (hl : ∀ i, i < L.length → (llget L i).length ≤ 1000000) : ApartOk2 (hfrom os.length L) H := by
 have g : ∀ k, k < L.length → hget (hfrom os.length L) k = ⟨os.length + k, 0, (llget L k).length⟩ := fun k hk => hfrom_get hk
 have e : ∀ k, k < L.length → llget H (os.length + k) = llget L k := fun k hk => by have := llget_at (os := os) (M := []) hk; rw [h]; simpa using this
 refine ⟨hz, fun k hk => ?_, fun k k' hk hk' hne he => ?_⟩
 ·rw [hfrom_len] at hk
  rw [g k hk]
  have := hl k hk
  exact ⟨by rw [h]; simp; omega, by show 0 + (llget L k).length ≤ _; rw [e k hk]; omega, by show (llget L k).length ≤ _; omega⟩
 ·rw [hfrom_len] at hk hk'
  rw [g k hk, g k' hk'] at he
  have : os.length + k = os.length + k' := he
  omega
end Go.Sx
namespace Go.Proofs.Ytgkklobamebnjaa.G
open Go Go.Sx Go.Cel
set_option maxRecDepth 20000
set_option maxHeartbeats 1000000
theorem ck_l11 {c : List Int} (hs : Short c) (hb : Bs c) {x12 : List HS} {H : List (List Int)} (h12 : x12.length = 10)
  (e0 : lsub (llget H (hj (hget x12 0))) (ho (hget x12 0)) (hl (hget x12 0)) = padR c) (e4 : lsub (llget H (hj (hget x12 4))) (ho (hget x12 4)) (hl (hget x12 4)) = opR c) (s : List Int) :
  lkeeps.l11 Yes c x12 H (1 + tot (fun _ => 1) 0 c.length) 0 s := by
 have hsl := hs.le
 refine loop_inv (fun f i (s : List Int) => lkeeps.l11 Yes c x12 H f i s) c.length (fun _ _ => True) (fun _ => 1) 1 (fun g i s hi _ nx => ?_) (fun s _ => ?_) c.length 0 s (by omega) trivial
 ·have a1 : add .i64 (i : Int) 1 = ((i + 1 : Nat) : Int) := add1_i64 (by omega)
  have g1 : ilt (i : Int) (ofNat (nat (ofNat (llen c)))) = true := by rw [ilt_true, ofNat_def, ofNat_def, nat_cast, llen_def]; omega
  have ib : InB (i : Int) (nat (ofNat (llen c))) := ⟨by omega, by rw [ofNat_def, nat_cast, llen_def]; omega⟩
  have n1 := nx (lset s (nadd 0 (nat (i : Int))) (bxor .u8 (lget s (nadd 0 (nat (i : Int)))) 17)) trivial
  show lkeeps.l11 Yes c x12 H (g + 1) (i : Int) s
  rw [lkeeps.l11_succ Yes c x12 H g (i : Int) s, lkeeps.k56_eq Yes c (i : Int) s x12 H g 3996, lkeeps.k50_eq Yes c (i : Int) s x12 H g 3990, lkeeps.k49_eq Yes c (i : Int) s x12 H g 3890, a1, g1]
  exact tt_l ⟨ib, ib, n1⟩
 ·have g1 : ilt ((c.length : Nat) : Int) (ofNat (nat (ofNat (llen c)))) = false := by rw [ilt_false, ofNat_def, ofNat_def, nat_cast, llen_def]; omega
  have i0 : InB 0 (llen x12) := ⟨by omega, by rw [llen_def, h12]; omega⟩
  have i4 : InB 4 (llen x12) := ⟨by omega, by rw [llen_def, h12]; omega⟩
  have k51 : Ok (lkeeps.k51 Yes c H x12 ((c.length : Nat) : Int) s 0 3989) := by
   constructor
   rw [lkeeps.k51_eq Yes c H x12 ((c.length : Nat) : Int) s 0 3889, e4, seq2_self rfl]
   exact Or.inl rfl
  show lkeeps.l11 Yes c x12 H (0 + 1) ((c.length : Nat) : Int) s
  rw [lkeeps.l11_succ Yes c x12 H 0 ((c.length : Nat) : Int) s, lkeeps.k56_eq Yes c ((c.length : Nat) : Int) s x12 H 0 3996, lkeeps.k55_eq Yes c ((c.length : Nat) : Int) s x12 H 0 3993, lkeeps.k54_eq Yes c ((c.length : Nat) : Int) s x12 H 0 3991, lkeeps.k53_eq Yes c ((c.length : Nat) : Int) s x12 H 0 3989, g1, e0, seq2_self rfl]
  exact ff_r ⟨hs, ⟨hs, hb⟩, i0, tt_l ⟨i4, two_ok k51⟩, tt_l ⟨i4, two_ok k51⟩⟩
theorem ck_l10 {N : Nat} (hN : N = 400) {c : List Int} (hs : Short c) {x12 : List HS} {H : List (List Int)} {f : Nat} (h11 : lkeeps.l11 Yes c x12 H f 0 (c ++ List.replicate 400 165)) :
  lkeeps.l10 Yes c (c ++ List.replicate 400 165) x12 H ((f + 1) + tot (fun _ => 1) 0 (c.length + N)) 0 := by
 have hsl := hs.le
 have hll : llen (c ++ List.replicate 400 (165 : Int)) = c.length + 400 := by rw [llen_def, List.length_append, List.length_replicate]
 refine loop_inv (fun f i (_ : Unit) => lkeeps.l10 Yes c (c ++ List.replicate 400 165) x12 H f i) (c.length + N) (fun _ _ => True) (fun _ => 1) (f + 1) (fun g i s hi _ nx => ?_) (fun s _ => ?_) (c.length + N) 0 () (by omega) trivial
 ·have a1 : add .i64 (i : Int) 1 = ((i + 1 : Nat) : Int) := add1_i64 (by omega)
  have g1 : ilt (i : Int) (ofNat (llen (c ++ List.replicate 400 (165 : Int)))) = true := by rw [ilt_true, ofNat_def, hll]; omega
  have ib : InB (i : Int) (llen (c ++ List.replicate 400 (165 : Int))) := ⟨by omega, by rw [hll]; omega⟩
  have n1 := nx () trivial
  show lkeeps.l10 Yes c (c ++ List.replicate 400 165) x12 H (g + 1) (i : Int)
  rw [lkeeps.l10_succ Yes c (c ++ List.replicate 400 165) x12 H g (i : Int), lkeeps.k58_eq Yes c (i : Int) (c ++ List.replicate 400 165) x12 H g 3992, lkeeps.k48_eq Yes c (i : Int) (c ++ List.replicate 400 165) x12 H g 3987,
   lkeeps.k42_eq Yes c (i : Int) (c ++ List.replicate 400 165) x12 H g 3887, lkeeps.k46_eq Yes c (i : Int) (c ++ List.replicate 400 165) x12 H g 3987, lkeeps.k45_eq Yes c (i : Int) (c ++ List.replicate 400 165) x12 H g 3887, a1, g1, nat_cast]
  by_cases q : i < c.length
  ·have g2 : ilt (i : Int) (ofNat (llen c)) = true := by rw [ilt_true, ofNat_def, llen_def]; omega
   have g3 : ige (i : Int) (ofNat (llen c)) = false := by rw [ige_false, ofNat_def, llen_def]; omega
   have g4 : ine (lget (c ++ List.replicate 400 165) i) (lget c i) = false := by
    rw [ine_false]; simp only [lget, List.getD]; rw [List.getElem?_append_left q]
   have ic : InB (i : Int) (llen c) := ⟨by omega, by rw [llen_def]; omega⟩
   rw [g2, g3, g4]
   exact tt_l (tt_l ⟨ib, ic, ff_l (ff_r n1)⟩)
  ·have g2 : ilt (i : Int) (ofNat (llen c)) = false := by rw [ilt_false, ofNat_def, llen_def]; omega
   have g3 : ige (i : Int) (ofNat (llen c)) = true := by rw [ige_true, ofNat_def, llen_def]; omega
   have g4 : ine (lget (c ++ List.replicate 400 165) i) 165 = false := by
    rw [ine_false]; simp only [lget, List.getD]; rw [List.getElem?_append_right (by omega), List.getElem?_replicate, if_pos (by omega)]; rfl
   rw [g2, g3, g4]
   exact tt_l (ff_r (tt_l ⟨ib, ff_r n1⟩))
 ·have g1 : ilt ((c.length + N : Nat) : Int) (ofNat (llen (c ++ List.replicate 400 (165 : Int)))) = false := by rw [ilt_false, ofNat_def, hll]; omega
  show lkeeps.l10 Yes c (c ++ List.replicate 400 165) x12 H (f + 1) ((c.length + N : Nat) : Int)
  rw [lkeeps.l10_succ Yes c (c ++ List.replicate 400 165) x12 H f ((c.length + N : Nat) : Int), lkeeps.k58_eq Yes c ((c.length + N : Nat) : Int) (c ++ List.replicate 400 165) x12 H f 3992, lkeeps.k57_eq Yes c ((c.length + N : Nat) : Int) (c ++ List.replicate 400 165) x12 H f 3892, g1]
  exact ff_r h11
theorem tot_one' : ∀ i m, tot (fun _ => 1) i m = m
 | i, 0 => rfl
 | i, m + 1 => by simp only [tot, tot_one' (i + 1) m]; omega
def ckV (E : List (List Int)) (i t k u : Nat) : Int := if k < i ∨ (k = i ∧ u < t) then conv .u8 (add .i64 (k : Int) 1) else lget (llget E k) u
structure CkIn (E : List (List Int)) (x3 x12 : List HS) (os : List (List Int)) : Prop where
 n3 : x3.length = 10
 n12 : x12.length = 10
 apart : ApartOk2 (x3 ++ x12) os
 small : ∀ i, i < 10 → (hget x3 i).len ≤ 320
theorem CkIn.at3 {E os : List (List Int)} {x3 x12 : List HS} (h : CkIn E x3 x12 os) {i : Nat} (hi : i < 10) : hget x3 i = hget (x3 ++ x12) i ∧ i < (x3 ++ x12).length := by
 have := h.n3; have := h.n12
 refine ⟨?_, by rw [List.length_append]; omega⟩
 simp only [hget, List.getD]; rw [List.getElem?_append_left (by omega)]
theorem CkIn.at12 {E os : List (List Int)} {x3 x12 : List HS} (h : CkIn E x3 x12 os) {i : Nat} (hi : i < 10) : hget x12 i = hget (x3 ++ x12) (10 + i) ∧ 10 + i < (x3 ++ x12).length := by
 have := h.n3; have := h.n12
 refine ⟨?_, by rw [List.length_append]; omega⟩
 simp only [hget, List.getD]; rw [List.getElem?_append_right (by omega), h.n3, Nat.add_sub_cancel_left]
theorem ck_l9 {N : Nat} (hN : N = 400) {c rm : List Int} {E os : List (List Int)} {x3 x12 : List HS} (h : CkIn E x3 x12 os) {x27 : Int} {i g : Nat} (hi : i < 10) {V : Nat → Nat → Int} {H : List (List Int)} (hH : Holds (x3 ++ x12) V H)
  (nx : ∀ H', Holds (x3 ++ x12) V H' → lkeeps.l7 Yes c x27 rm x3 x12 g ((i + 1 : Nat) : Int) H') (x31 : Int) :
  lkeeps.l9 Yes c x27 (i : Int) x31 x3 rm x12 ((g + 1) + tot (fun _ => 1) 0 N) (hget x3 i).j (hget x3 i).off (hget x3 i).len 0 H := by
 obtain ⟨e3, l3⟩ := h.at3 hi
 have hsm := h.small i hi
 have ai : add .i64 (i : Int) 1 = ((i + 1 : Nat) : Int) := add1_i64 (by omega)
 refine loop_inv (fun f t (s : HS × List (List Int)) => lkeeps.l9 Yes c x27 (i : Int) x31 x3 rm x12 f s.1.j s.1.off s.1.len t s.2) N
  (fun t s => Holds (x3 ++ x12) V s.2 ∧ Tip (x3 ++ x12) s.2 i s.1 ∧ s.1.len = (hget x3 i).len + t) (fun _ => 1) (g + 1) (fun f t s ht hI hnx => ?_) (fun s hI => ?_) N 0 (hget x3 i, H) (by omega) ⟨hH, by rw [e3]; exact hH.tip l3, rfl⟩
 ·obtain ⟨i1, i2, i3⟩ := hI
  have a1 : add .i64 (t : Int) 1 = ((t + 1 : Nat) : Int) := add1_i64 (by omega)
  have g1 : ilt (t : Int) 400 = true := by rw [ilt_true]; omega
  have rm1 : Room (nadd s.1.len 1) 1 := ⟨by show (5 * (s.1.len + 1) + 4096) * 1 ≤ _; omega⟩
  have n1 : ∀ os' j' off', AppR s.2 s.1.j s.1.off s.1.len [238] os' j' off' → lkeeps.l9 Yes c x27 (i : Int) x31 x3 rm x12 f j' off' (nadd s.1.len 1) ((t + 1 : Nat) : Int) os' := fun os' j' off' hA => by
   obtain ⟨q1, q2⟩ := i1.grow h.apart l3 i2 (by simp) hA
   exact hnx (⟨j', off', s.1.len + 1⟩, os') ⟨q1, q2, by show s.1.len + 1 = _; omega⟩
  show lkeeps.l9 Yes c x27 (i : Int) x31 x3 rm x12 (f + 1) s.1.j s.1.off s.1.len (t : Int) s.2
  rw [lkeeps.l9_succ Yes c x27 (i : Int) x31 x3 rm x12 f s.1.j s.1.off s.1.len (t : Int) s.2, lkeeps.k31_eq Yes c x27 (i : Int) s.1.j s.1.off s.1.len x31 (t : Int) x3 rm x12 s.2 f 3993, lkeeps.k29_eq Yes c x27 (i : Int) s.1.j s.1.off s.1.len x31 (t : Int) x3 rm x12 s.2 f 3990, g1]
  refine tt_l ⟨rm1, ?_⟩
  intro os' j' off' hA
  have q := n1 os' j' off' hA
  rw [lkeeps.k28_eq Yes c x27 (i : Int) j' off' s.1.len x31 (t : Int) x3 s.1.j s.1.off rm x12 os' f 3890, a1]
  exact q
 ·obtain ⟨i1, i2, i3⟩ := hI
  have g1 : ilt ((N : Nat) : Int) 400 = false := by rw [ilt_false]; omega
  have q := nx s.2 i1
  show lkeeps.l9 Yes c x27 (i : Int) x31 x3 rm x12 (g + 1) s.1.j s.1.off s.1.len ((N : Nat) : Int) s.2
  rw [lkeeps.l9_succ Yes c x27 (i : Int) x31 x3 rm x12 g s.1.j s.1.off s.1.len ((N : Nat) : Int) s.2, lkeeps.k31_eq Yes c x27 (i : Int) s.1.j s.1.off s.1.len x31 ((N : Nat) : Int) x3 rm x12 s.2 g 3993, lkeeps.k30_eq Yes c x27 (i : Int) s.1.j s.1.off s.1.len x31 ((N : Nat) : Int) x3 rm x12 s.2 g 3893, g1, ai]
  exact ff_r q
theorem ck_l8 {N : Nat} (hN : N = 400) {c rm : List Int} {E os : List (List Int)} {x3 x12 : List HS} (h : CkIn E x3 x12 os) {x27 : Int} {i g : Nat} (hi : i < 10) {H : List (List Int)} (hH : Holds (x3 ++ x12) (ckV E 10 0) H)
  (nx : ∀ H', Holds (x3 ++ x12) (ckV E 10 0) H' → lkeeps.l7 Yes c x27 rm x3 x12 g ((i + 1 : Nat) : Int) H') :
  lkeeps.l8 Yes c x27 (i : Int) x3 rm x12 H ((((g + 1) + tot (fun _ => 1) 0 N) + 1) + tot (fun _ => 1) 0 (hget x3 i).len) 0 := by
 obtain ⟨e3, l3⟩ := h.at3 hi
 have hsm := h.small i hi
 refine loop_inv (fun f t (_ : Unit) => lkeeps.l8 Yes c x27 (i : Int) x3 rm x12 H f t) (hget x3 i).len (fun _ _ => True) (fun _ => 1) (((g + 1) + tot (fun _ => 1) 0 N) + 1) (fun f t s ht _ hnx => ?_) (fun s _ => ?_) (hget x3 i).len 0 () (by omega) trivial
 ·have a1 : add .i64 (t : Int) 1 = ((t + 1 : Nat) : Int) := add1_i64 (by omega)
  have g1 : ilt (t : Int) (ofNat (Go.Sx.hl (hget x3 i))) = true := by rw [ilt_true, ofNat_def]; show (t : Int) < ((hget x3 i).len : Nat); omega
  have ib : InB (t : Int) (Go.Sx.hl (hget x3 i)) := ⟨by omega, by show (t : Int) < ((hget x3 i).len : Nat); omega⟩
  have g2 : ine (lget (llget H (hj (hget x3 i))) (nadd (ho (hget x3 i)) t)) (conv .u8 (add .i64 (i : Int) 1)) = false := by
   rw [ine_false]
   have := hH.val i l3 t (by rw [← e3]; omega)
   rw [← e3] at this
   refine this.trans ?_
   unfold ckV; rw [if_pos (Or.inl hi)]
  have q := hnx () trivial
  show lkeeps.l8 Yes c x27 (i : Int) x3 rm x12 H (f + 1) (t : Int)
  rw [lkeeps.l8_succ Yes c x27 (i : Int) x3 rm x12 H f (t : Int), lkeeps.k33_eq Yes c x27 (i : Int) x3 (t : Int) rm x12 H f 3993, lkeeps.k27_eq Yes c x27 (i : Int) x3 (t : Int) rm x12 H f 3991, lkeeps.k26_eq Yes c x27 (i : Int) x3 (t : Int) H rm x12 f 3987, lkeeps.k25_eq Yes c x27 (i : Int) x3 (t : Int) H rm x12 f 3887, nat_cast, nat_cast, g1, g2, a1]
  exact tt_l ⟨ib, ff_r q⟩
 ·have g1 : ilt ((hget x3 i).len : Int) (ofNat (Go.Sx.hl (hget x3 i))) = false := by rw [ilt_false, ofNat_def]; show ((hget x3 i).len : Int) ≤ ((hget x3 i).len : Nat); omega
  have q := ck_l9 hN h hi hH nx ((hget x3 i).len : Int)
  show lkeeps.l8 Yes c x27 (i : Int) x3 rm x12 H (((g + 1) + tot (fun _ => 1) 0 N) + 1) ((hget x3 i).len : Int)
  rw [lkeeps.l8_succ Yes c x27 (i : Int) x3 rm x12 H ((g + 1) + tot (fun _ => 1) 0 N) ((hget x3 i).len : Int), lkeeps.k33_eq Yes c x27 (i : Int) x3 ((hget x3 i).len : Int) rm x12 H ((g + 1) + tot (fun _ => 1) 0 N) 3993, lkeeps.k32_eq Yes c x27 (i : Int) x3 ((hget x3 i).len : Int) rm x12 H ((g + 1) + tot (fun _ => 1) 0 N) 3893, nat_cast, g1]
  exact ff_r q
theorem ck_l7 {N K : Nat} (hN : N = 400) (hK : K = 10) {c rm : List Int} {E os : List (List Int)} {x3 x12 : List HS} (h : CkIn E x3 x12 os) {x27 : Nat} (h27 : x27 < 2) {f : Nat}
  (nx : ∀ H', Holds (x3 ++ x12) (ckV E 10 0) H' → lkeeps.l6 Yes c rm x3 x12 f ((x27 + 1 : Nat) : Int) H') : ∀ H, Holds (x3 ++ x12) (ckV E 10 0) H →
  lkeeps.l7 Yes c (x27 : Int) rm x3 x12 ((f + 1) + tot (fun i => (hget x3 i).len + (N + 3)) 0 K) 0 H := fun H hH => by
 have hL : llen x3 = K := h.n3.trans hK.symm
 refine loop_inv (fun f i (H : List (List Int)) => lkeeps.l7 Yes c (x27 : Int) rm x3 x12 f i H) K (fun _ H => Holds (x3 ++ x12) (ckV E 10 0) H) (fun i => (hget x3 i).len + (N + 3)) (f + 1) (fun g i H hi hI hnx => ?_) (fun H hI => ?_) K 0 H (by omega) hH
 ·have g1 : ilt (i : Int) (ofNat (llen x3)) = true := by rw [ilt_true, ofNat_def, hL]; omega
  have ib : InB (i : Int) (llen x3) := ⟨by omega, by rw [hL]; omega⟩
  have q := ck_l8 hN (g := g) h (by omega) hI hnx
  rw [tot_one', tot_one'] at q
  show lkeeps.l7 Yes c (x27 : Int) rm x3 x12 (g + ((hget x3 i).len + (N + 3))) (i : Int) H
  rw [show g + ((hget x3 i).len + (N + 3)) = (((g + 1) + N) + 1 + (hget x3 i).len) + 1 by omega, lkeeps.l7_succ Yes c (x27 : Int) rm x3 x12 (((g + 1) + N) + 1 + (hget x3 i).len) (i : Int) H, lkeeps.k37_eq Yes c (x27 : Int) (i : Int) x3 rm x12 H (((g + 1) + N) + 1 + (hget x3 i).len) 3993, lkeeps.k35_eq Yes c (x27 : Int) (i : Int) x3 rm x12 H (((g + 1) + N) + 1 + (hget x3 i).len) 3988, lkeeps.k34_eq Yes c (x27 : Int) (i : Int) x3 rm x12 H (((g + 1) + N) + 1 + (hget x3 i).len) 3888, g1]
  exact tt_l ⟨ib, q⟩
 ·have g1 : ilt ((K : Nat) : Int) (ofNat (llen x3)) = false := by rw [ilt_false, ofNat_def, hL]; omega
  have a1 : add .i64 (x27 : Int) 1 = ((x27 + 1 : Nat) : Int) := add1_i64 (by omega)
  have q := nx H hI
  show lkeeps.l7 Yes c (x27 : Int) rm x3 x12 (f + 1) ((K : Nat) : Int) H
  rw [lkeeps.l7_succ Yes c (x27 : Int) rm x3 x12 f ((K : Nat) : Int) H, lkeeps.k37_eq Yes c (x27 : Int) ((K : Nat) : Int) x3 rm x12 H f 3993, lkeeps.k36_eq Yes c (x27 : Int) ((K : Nat) : Int) x3 rm x12 H f 3893, g1, a1]
  exact ff_r q
theorem ck_l6 {N K T : Nat} (hN : N = 400) (hK : K = 10) (hT : T = 2) {c rm : List Int} {E os : List (List Int)} {x3 x12 : List HS} (h : CkIn E x3 x12 os) {f : Nat}
  (nx : ∀ H', Holds (x3 ++ x12) (ckV E 10 0) H' → lkeeps.l10 Yes c rm x12 H' f 0) : ∀ H, Holds (x3 ++ x12) (ckV E 10 0) H →
  lkeeps.l6 Yes c rm x3 x12 ((f + 1) + tot (fun _ => 2 + tot (fun i => (hget x3 i).len + (N + 3)) 0 K) 0 T) 0 H := fun H hH => by
 refine loop_inv (fun f i (H : List (List Int)) => lkeeps.l6 Yes c rm x3 x12 f i H) T (fun _ H => Holds (x3 ++ x12) (ckV E 10 0) H) (fun _ => 2 + tot (fun i => (hget x3 i).len + (N + 3)) 0 K) (f + 1) (fun g i H hi hI hnx => ?_) (fun H hI => ?_) T 0 H (by omega) hH
 ·have g1 : ilt (i : Int) 2 = true := by rw [ilt_true]; omega
  have q := ck_l7 hN hK h (by omega) hnx H hI
  show lkeeps.l6 Yes c rm x3 x12 (g + (2 + tot (fun i => (hget x3 i).len + (N + 3)) 0 K)) (i : Int) H
  rw [show g + (2 + tot (fun i => (hget x3 i).len + (N + 3)) 0 K) = ((g + 1) + tot (fun i => (hget x3 i).len + (N + 3)) 0 K) + 1 by omega, lkeeps.l6_succ Yes c rm x3 x12 ((g + 1) + tot (fun i => (hget x3 i).len + (N + 3)) 0 K) (i : Int) H, lkeeps.k60_eq Yes c (i : Int) rm x3 x12 H ((g + 1) + tot (fun i => (hget x3 i).len + (N + 3)) 0 K) 3991, lkeeps.k38_eq Yes c (i : Int) rm x3 x12 H ((g + 1) + tot (fun i => (hget x3 i).len + (N + 3)) 0 K) 3891, g1]
  exact tt_l q
 ·have g1 : ilt ((T : Nat) : Int) 2 = false := by rw [ilt_false]; omega
  have q := nx H hI
  show lkeeps.l6 Yes c rm x3 x12 (f + 1) ((T : Nat) : Int) H
  rw [lkeeps.l6_succ Yes c rm x3 x12 f ((T : Nat) : Int) H, lkeeps.k60_eq Yes c ((T : Nat) : Int) rm x3 x12 H f 3991, lkeeps.k59_eq Yes c ((T : Nat) : Int) rm x3 x12 H f 3892, g1]
  exact ff_r q
theorem ckV_step {E ls os : _} {H : List (List Int)} {i t : Nat} (hO : ApartOk2 ls os) (h : Holds ls (ckV E i t) H) (hi : i < ls.length) (ht : t < (hget ls i).len) :
  Holds ls (ckV E i (t + 1)) (llset H (hget ls i).j (lset (llget H (hget ls i).j) ((hget ls i).off + t) (conv .u8 (add .i64 (i : Int) 1)))) := by
 refine (h.store (conv .u8 (add .i64 (i : Int) 1)) hO hi ht).congr fun k hk u hu => ?_
 simp only [ckV]
 by_cases q : k = i ∧ u = t
 ·rw [if_pos q, if_pos (Or.inr ⟨q.1, by omega⟩), q.1]
 ·rw [if_neg q]
  by_cases r : k < i ∨ (k = i ∧ u < t)
  ·rw [if_pos r, if_pos (by omega)]
  ·rw [if_neg r, if_neg (by omega)]
theorem ckV_next {E ls : _} {H : List (List Int)} {i : Nat} (h : Holds ls (ckV E i (hget ls i).len) H) : Holds ls (ckV E (i + 1) 0) H := by
 refine h.congr fun k hk u hu => ?_
 simp only [ckV]
 by_cases r : k < i ∨ (k = i ∧ u < (hget ls i).len)
 ·rw [if_pos r, if_pos (by omega)]
 ·rw [if_neg r, if_neg ?_]
  rintro (q | q)
  ·exact r (by
    by_cases e : k = i
    ·subst e; exact Or.inr ⟨rfl, hu⟩
    ·exact Or.inl (by omega))
  ·omega
theorem ck_l5 {c rm : List Int} {E os : List (List Int)} {x3 x12 : List HS} (h : CkIn E x3 x12 os) {i g : Nat} (hi : i < 10)
  (nx : ∀ H', Holds (x3 ++ x12) (ckV E (i + 1) 0) H' → lkeeps.l4 Yes c rm x3 x12 g ((i + 1 : Nat) : Int) H') : ∀ H, Holds (x3 ++ x12) (ckV E i 0) H →
  lkeeps.l5 Yes c (i : Int) x3 rm x12 ((g + 1) + tot (fun _ => 1) 0 (hget x3 i).len) 0 H := fun H hH => by
 obtain ⟨e3, l3⟩ := h.at3 hi
 have hsm := h.small i hi
 have ai : add .i64 (i : Int) 1 = ((i + 1 : Nat) : Int) := add1_i64 (by omega)
 have i3 : InB (i : Int) (llen x3) := ⟨by omega, by rw [llen_def, h.n3]; omega⟩
 refine loop_inv (fun f t (H : List (List Int)) => lkeeps.l5 Yes c (i : Int) x3 rm x12 f t H) (hget x3 i).len (fun t H => Holds (x3 ++ x12) (ckV E i t) H) (fun _ => 1) (g + 1) (fun f t H ht hI hnx => ?_) (fun H hI => ?_) (hget x3 i).len 0 H (by omega) hH
 ·have a1 : add .i64 (t : Int) 1 = ((t + 1 : Nat) : Int) := add1_i64 (by omega)
  have g1 : ilt (t : Int) (ofNat (Go.Sx.hl (hget x3 (nat (i : Int))))) = true := by rw [ilt_true, ofNat_def]; show (t : Int) < ((hget x3 i).len : Nat); omega
  have ib : InB (t : Int) (Go.Sx.hl (hget x3 (nat (i : Int)))) := ⟨by omega, by show (t : Int) < ((hget x3 i).len : Nat); omega⟩
  have st := ckV_step h.apart hI l3 (by rw [← e3]; exact ht)
  rw [← e3] at st
  have q18 : Ok (lkeeps.k18 Yes c (i : Int) (t : Int) x3 rm x12 (llset H (hj (hget x3 (nat (i : Int)))) (lset (llget H (hj (hget x3 (nat (i : Int))))) (nadd (ho (hget x3 (nat (i : Int)))) (nat (t : Int))) (conv .u8 (add .i64 (i : Int) 1)))) f 3990) := by
   constructor
   rw [lkeeps.k18_eq Yes c (i : Int) (t : Int) x3 rm x12 _ f 3890, a1]
   exact hnx _ st
  show lkeeps.l5 Yes c (i : Int) x3 rm x12 (f + 1) (t : Int) H
  rw [lkeeps.l5_succ Yes c (i : Int) x3 rm x12 f (t : Int) H, lkeeps.k22_eq Yes c (i : Int) (t : Int) x3 rm x12 H f 3997, lkeeps.k21_eq Yes c (i : Int) (t : Int) x3 rm x12 H f 3993, lkeeps.k19_eq Yes c (i : Int) (t : Int) x3 rm x12 H f 3990, g1]
  exact ⟨i3, tt_l ⟨i3, and_ok ib q18⟩⟩
 ·have g1 : ilt ((hget x3 i).len : Int) (ofNat (Go.Sx.hl (hget x3 (nat (i : Int))))) = false := by rw [ilt_false, ofNat_def]; show ((hget x3 i).len : Int) ≤ ((hget x3 i).len : Nat); omega
  rw [e3] at hI
  have q := nx H (ckV_next hI)
  show lkeeps.l5 Yes c (i : Int) x3 rm x12 (g + 1) ((hget x3 i).len : Int) H
  rw [lkeeps.l5_succ Yes c (i : Int) x3 rm x12 g ((hget x3 i).len : Int) H, lkeeps.k22_eq Yes c (i : Int) ((hget x3 i).len : Int) x3 rm x12 H g 3997, lkeeps.k21_eq Yes c (i : Int) ((hget x3 i).len : Int) x3 rm x12 H g 3993, lkeeps.k20_eq Yes c (i : Int) ((hget x3 i).len : Int) x3 rm x12 H g 3893, g1, ai]
  exact ⟨i3, ff_r q⟩
theorem ck_l4 {K : Nat} (hK : K = 10) {c rm : List Int} {E os : List (List Int)} {x3 x12 : List HS} (h : CkIn E x3 x12 os) {f : Nat}
  (nx : ∀ H', Holds (x3 ++ x12) (ckV E K 0) H' → lkeeps.l6 Yes c rm x3 x12 f 0 H') : ∀ H, Holds (x3 ++ x12) (ckV E 0 0) H →
  lkeeps.l4 Yes c rm x3 x12 ((f + 1) + tot (fun i => (hget x3 i).len + 2) 0 K) 0 H := fun H hH => by
 have hL : llen x3 = K := h.n3.trans hK.symm
 refine loop_inv (fun f i (H : List (List Int)) => lkeeps.l4 Yes c rm x3 x12 f i H) K (fun i H => Holds (x3 ++ x12) (ckV E i 0) H) (fun i => (hget x3 i).len + 2) (f + 1) (fun g i H hi hI hnx => ?_) (fun H hI => ?_) K 0 H (by omega) hH
 ·have g1 : ilt (i : Int) (ofNat (llen x3)) = true := by rw [ilt_true, ofNat_def, hL]; omega
  have q := ck_l5 h (by omega) hnx H hI
  rw [tot_one'] at q
  show lkeeps.l4 Yes c rm x3 x12 (g + ((hget x3 i).len + 2)) (i : Int) H
  rw [show g + ((hget x3 i).len + 2) = ((g + 1) + (hget x3 i).len) + 1 by omega, lkeeps.l4_succ Yes c rm x3 x12 ((g + 1) + (hget x3 i).len) (i : Int) H, lkeeps.k62_eq Yes c (i : Int) x3 rm x12 H ((g + 1) + (hget x3 i).len) 3991, lkeeps.k23_eq Yes c (i : Int) x3 rm x12 H ((g + 1) + (hget x3 i).len) 3891, g1]
  exact tt_l q
 ·have g1 : ilt ((K : Nat) : Int) (ofNat (llen x3)) = false := by rw [ilt_false, ofNat_def, hL]; omega
  have q := nx H hI
  show lkeeps.l4 Yes c rm x3 x12 (f + 1) ((K : Nat) : Int) H
  rw [lkeeps.l4_succ Yes c rm x3 x12 f ((K : Nat) : Int) H, lkeeps.k62_eq Yes c ((K : Nat) : Int) x3 rm x12 H f 3991, lkeeps.k61_eq Yes c ((K : Nat) : Int) x3 rm x12 H f 3892, g1]
  exact ff_r q
theorem ff_rO {A B : Prop} (h : Ok B) : (false = true → A) ∧ (false = false → B) := ⟨fun q => (by cases q), fun _ => h.ok⟩
theorem ck_l3 {T : Nat} (hT : T = 5) {c rm : List Int} {x3 x12 : List HS} {H : List (List Int)} (h12 : x12.length = 10) (hc : ∀ i, i < 5 → hcon H (hget x12 i) = hcon H (hget x12 (i + 5))) {f : Nat} (nx : lkeeps.l4 Yes c rm x3 x12 f 0 H) :
  lkeeps.l3 Yes c rm x3 x12 H ((f + 1) + tot (fun _ => 1) 0 T) 0 := by
 have hL : llen x12 = 10 := h12
 refine loop_inv (fun f i (_ : Unit) => lkeeps.l3 Yes c rm x3 x12 H f i) T (fun _ _ => True) (fun _ => 1) (f + 1) (fun g i s hi _ hnx => ?_) (fun s _ => ?_) T 0 () (by omega) trivial
 ·have a1 : add .i64 (i : Int) 1 = ((i + 1 : Nat) : Int) := add1_i64 (by omega)
  have a5 : add .i64 (i : Int) 5 = ((i + 5 : Nat) : Int) := addN_i64 (a := i) (b := 5) (by omega)
  have g1 : ilt (i : Int) 5 = true := by rw [ilt_true]; omega
  have i1 : InB (i : Int) (llen x12) := ⟨by omega, by rw [hL]; omega⟩
  have i5 : InB ((i + 5 : Nat) : Int) (llen x12) := ⟨by omega, by rw [hL]; omega⟩
  have g2 : bnot (seq2 (bytesOf (lsub (llget H (hj (hget x12 (nat (i : Int))))) (ho (hget x12 (nat (i : Int)))) (Go.Sx.hl (hget x12 (nat (i : Int)))))) (bytesOf (lsub (llget H (hj (hget x12 (nat ((i + 5 : Nat) : Int))))) (ho (hget x12 (nat ((i + 5 : Nat) : Int)))) (Go.Sx.hl (hget x12 (nat ((i + 5 : Nat) : Int))))))) = false := by
   rw [bnot_false]; exact seq2_self (hc i (by omega))
  have n1 := hnx () trivial
  have q : ∀ y19 y20, Ok (lkeeps.k15 Yes c (i : Int) x12 y19 y20 rm x3 H g 3987) := by
   intro y19 y20
   constructor
   rw [lkeeps.k15_eq Yes c (i : Int) x12 y19 y20 rm x3 H g 3887, a1]
   exact n1
  show lkeeps.l3 Yes c rm x3 x12 H (g + 1) (i : Int)
  rw [lkeeps.l3_succ Yes c rm x3 x12 H g (i : Int), lkeeps.k64_eq Yes c (i : Int) rm x3 x12 H g 3992, lkeeps.k17_eq Yes c (i : Int) rm x3 x12 H g 3991, lkeeps.k16_eq Yes c (i : Int) x12 H rm x3 g 3987, a5, g2, g1]
  exact tt_l ⟨i1, i5, ff_rO (q _ _), ff_rO (q _ _)⟩
 ·have g1 : ilt ((T : Nat) : Int) 5 = false := by rw [ilt_false]; omega
  show lkeeps.l3 Yes c rm x3 x12 H (f + 1) ((T : Nat) : Int)
  rw [lkeeps.l3_succ Yes c rm x3 x12 H f ((T : Nat) : Int), lkeeps.k64_eq Yes c ((T : Nat) : Int) rm x3 x12 H f 3992, lkeeps.k63_eq Yes c ((T : Nat) : Int) rm x3 x12 H f 3892, g1]
  exact ff_r nx
theorem ck_l2 {K : Nat} {c rm : List Int} {D : List (List Int)} (hK : K = D.length) (hD : D.length = 10) (hsm : ∀ i, i < 10 → (llget D i).length ≤ 320) {f : Nat}
  (nx : lkeeps.l3 Yes c rm (hfrom 1 D) (hfrom 11 D) ([[]] ++ (D ++ D)) f 0) : lkeeps.l2 Yes c rm (hfrom 1 D) ((f + 1) + tot (fun _ => 1) 0 K) 0 [] ([[]] ++ D) := by
 have hL : llen (hfrom 1 D) = K := by rw [llen_def, hfrom_len, hK]
 refine loop_inv (fun f i (s : List HS × List (List Int)) => lkeeps.l2 Yes c rm (hfrom 1 D) f i s.1 s.2) K (fun i s => s = (hfrom 11 (D.take i), [[]] ++ (D ++ D.take i))) (fun _ => 1) (f + 1) (fun g i s hi hI hnx => ?_) (fun s hI => ?_) K 0 ([], [[]] ++ D) (by omega) (by simp [hfrom])
 ·subst hI
  have a1 : add .i64 (i : Int) 1 = ((i + 1 : Nat) : Int) := add1_i64 (by omega)
  have g1 : ilt (i : Int) (ofNat (llen (hfrom 1 D))) = true := by rw [ilt_true, ofNat_def, hL]; omega
  have ib : InB (i : Int) (llen (hfrom 1 D)) := ⟨by omega, by rw [hL]; omega⟩
  have hs := hsm i (by omega)
  have hg : hget (hfrom 1 D) (nat (i : Int)) = ⟨1 + i, 0, (llget D i).length⟩ := hfrom_get (i := i) (by omega)
  have hll : llget ([[]] ++ (D ++ D.take i)) (1 + i) = llget D i := llget_at (os := [[]]) (by omega)
  have hcon0 : lsub (llget ([[]] ++ (D ++ D.take i)) (hj (hget (hfrom 1 D) (nat (i : Int))))) (ho (hget (hfrom 1 D) (nat (i : Int)))) (Go.Sx.hl (hget (hfrom 1 D) (nat (i : Int)))) = llget D i := by
   rw [hg]
   show lsub (llget ([[]] ++ (D ++ D.take i)) (1 + i)) 0 (llget D i).length = _
   rw [hll]; simp [lsub]
  have hx : ([[]] ++ (D ++ D.take i) : List (List Int)).length = 11 + i := by simp; omega
  have n1 := hnx (lcat (hfrom 11 (D.take i)) [(HS.mk (llen ([[]] ++ (D ++ D.take i))) 0 (llen (lcat [] (llget D i))))], List.append ([[]] ++ (D ++ D.take i)) [(lcat [] (llget D i))]) (by
   have ht : D.take (i + 1) = D.take i ++ [llget D i] := by
    rw [List.take_add_one, List.getElem?_eq_getElem (by omega)]
    simp [llget, List.getD, List.getElem?_eq_getElem (show i < D.length by omega)]
   rw [ht, hfrom_app]
   refine Prod.ext ?_ ?_
   ·show hfrom 11 (D.take i) ++ [HS.mk (llen ([[]] ++ (D ++ D.take i))) 0 (llget D i).length] = _
    rw [llen_def, hx, List.length_take, Nat.min_eq_left (by omega)]
   ·show ([[]] ++ (D ++ D.take i)) ++ [llget D i] = _
    simp)
  have r1 : Room (nadd 0 (llen (llget D i))) 1 := ⟨by show (5 * (0 + (llget D i).length) + 4096) * 1 ≤ _; omega⟩
  have r2 : Room (nadd (llen (hfrom 11 (D.take i))) (llen [(HS.mk (llen ([[]] ++ (D ++ D.take i))) 0 (llen (lcat [] (llget D i))))])) 24 := ⟨by
   show (5 * ((hfrom 11 (D.take i)).length + 1) + 4096) * 24 ≤ _
   rw [hfrom_len, List.length_take]; omega⟩
  have q : ∀ y14 y15, Ok (lkeeps.k11 Yes c (i : Int) (hfrom 1 D) ([[]] ++ (D ++ D.take i)) y14 y15 (lcat (hfrom 11 (D.take i)) [(HS.mk (llen ([[]] ++ (D ++ D.take i))) 0 (llen (lcat [] (llget D i))))]) rm (List.append ([[]] ++ (D ++ D.take i)) [(lcat [] (llget D i))]) g 3990) := by
   intro y14 y15
   constructor
   rw [lkeeps.k11_eq Yes c (i : Int) (hfrom 1 D) _ y14 y15 _ rm _ g 3890, a1]
   exact n1
  show lkeeps.l2 Yes c rm (hfrom 1 D) (g + 1) (i : Int) (hfrom 11 (D.take i)) ([[]] ++ (D ++ D.take i))
  rw [lkeeps.l2_succ Yes c rm (hfrom 1 D) g (i : Int) (hfrom 11 (D.take i)) ([[]] ++ (D ++ D.take i)), lkeeps.k66_eq Yes c (i : Int) (hfrom 1 D) rm (hfrom 11 (D.take i)) ([[]] ++ (D ++ D.take i)) g 3992, lkeeps.k13_eq Yes c (i : Int) (hfrom 1 D) rm (hfrom 11 (D.take i)) ([[]] ++ (D ++ D.take i)) g 3992,
   lkeeps.k12_eq Yes c (i : Int) (hfrom 1 D) ([[]] ++ (D ++ D.take i)) (hfrom 11 (D.take i)) rm g 3990, g1, hcon0]
  exact tt_l ⟨ib, r1, and_ok r2 (q _ _)⟩
 ·subst hI
  have g1 : ilt ((K : Nat) : Int) (ofNat (llen (hfrom 1 D))) = false := by rw [ilt_false, ofNat_def, hL]; omega
  have e : D.take K = D := by rw [hK, List.take_length]
  show lkeeps.l2 Yes c rm (hfrom 1 D) (f + 1) ((K : Nat) : Int) (hfrom 11 (D.take K)) ([[]] ++ (D ++ D.take K))
  rw [e, lkeeps.l2_succ Yes c rm (hfrom 1 D) f ((K : Nat) : Int) (hfrom 11 D) ([[]] ++ (D ++ D)), lkeeps.k66_eq Yes c ((K : Nat) : Int) (hfrom 1 D) rm (hfrom 11 D) ([[]] ++ (D ++ D)) f 3992, lkeeps.k65_eq Yes c ((K : Nat) : Int) (hfrom 1 D) rm (hfrom 11 D) ([[]] ++ (D ++ D)) f 3892, g1]
  exact ff_r nx
def ckL (c : List Int) (n : Int) : List (List Int) := [padR c, cutR c n, plainR c, noiseR c, opR c]
def ckR (c : List Int) (n : Int) : Nat → List (List Int)
 | 0 => []
 | i + 1 => ckR c n i ++ ckL c n
theorem ck_l1 {T : Nat} (hT : T = 2) {c rm : List Int} {n : Int} (hs : Short c) (hb : Bs c) (hrm : lsub rm 0 (nat (ofNat (llen c))) = c) {f : Nat} (nx : lkeeps.l2 Yes c rm (hfrom 1 (ckR c n T)) f 0 [] ([[]] ++ ckR c n T)) :
  lkeeps.l1 Yes n c rm ((f + 1) + tot (fun _ => 1) 0 T) 0 [] [[]] := by
 have hlen : ∀ i, (ckR c n i).length = 5 * i := fun i => by
  induction i with
  | zero => rfl
  | succ i ih => simp only [ckR, List.length_append, ih, ckL, List.length_cons, List.length_nil]; omega
 refine loop_inv (fun f i (s : List HS × List (List Int)) => lkeeps.l1 Yes n c rm f i s.1 s.2) T (fun i s => s = (hfrom 1 (ckR c n i), [[]] ++ ckR c n i)) (fun _ => 1) (f + 1) (fun g i s hi hI hnx => ?_) (fun s hI => ?_) T 0 ([], [[]]) (by omega) rfl
 ·subst hI
  have a1 : add .i64 (i : Int) 1 = ((i + 1 : Nat) : Int) := add1_i64 (by omega)
  have g1 : ilt (i : Int) 2 = true := by rw [ilt_true]; omega
  generalize hX : ([[]] ++ ckR c n i : List (List Int)) = X at hnx
  have hXl : X.length = 1 + 5 * i := by rw [← hX]; simp [hlen]; omega
  generalize hY : hfrom 1 (ckR c n i) = Y at hnx
  have hYl : Y.length = 5 * i := by rw [← hY, hfrom_len, hlen]
  have n1 := hnx (lcat Y [(HS.mk (llen X) 0 (llen (padR c))), (HS.mk (llen (List.append X [(padR c)])) 0 (llen (cutR c n))), (HS.mk (llen (List.append (List.append X [(padR c)]) [(cutR c n)])) 0 (llen (plainR c))), (HS.mk (llen (List.append (List.append (List.append X [(padR c)]) [(cutR c n)]) [(plainR c)])) 0 (llen (noiseR c))), (HS.mk (llen (List.append (List.append (List.append (List.append X [(padR c)]) [(cutR c n)]) [(plainR c)]) [(noiseR c)])) 0 (llen (opR c)))],
   List.append (List.append (List.append (List.append (List.append X [(padR c)]) [(cutR c n)]) [(plainR c)]) [(noiseR c)]) [(opR c)]) (by
   refine Prod.ext ?_ ?_
   ·show Y ++ _ = hfrom 1 (ckR c n i ++ ckL c n)
    rw [hfrom_app2, hY, hlen]
    simp only [llen_def, hXl, List.append_eq, List.length_append, List.length_cons, List.length_nil, ckL, hfrom]
   ·show _ = [[]] ++ (ckR c n i ++ ckL c n)
    rw [← List.append_assoc, hX]
    simp [ckL])
  have r1 : Room (nadd (llen Y) (llen [(HS.mk (llen X) 0 (llen (padR c))), (HS.mk (llen (List.append X [(padR c)])) 0 (llen (cutR c n))), (HS.mk (llen (List.append (List.append X [(padR c)]) [(cutR c n)])) 0 (llen (plainR c))), (HS.mk (llen (List.append (List.append (List.append X [(padR c)]) [(cutR c n)]) [(plainR c)])) 0 (llen (noiseR c))), (HS.mk (llen (List.append (List.append (List.append (List.append X [(padR c)]) [(cutR c n)]) [(plainR c)]) [(noiseR c)])) 0 (llen (opR c)))])) 24 := ⟨by
   show (5 * (Y.length + 5) + 4096) * 24 ≤ _; omega⟩
  have q : ∀ y5 y6 y7 y8 y9 y10, (y9, y10) = (lcat Y [(HS.mk (llen X) 0 (llen (padR c))), (HS.mk (llen (List.append X [(padR c)])) 0 (llen (cutR c n))), (HS.mk (llen (List.append (List.append X [(padR c)]) [(cutR c n)])) 0 (llen (plainR c))), (HS.mk (llen (List.append (List.append (List.append X [(padR c)]) [(cutR c n)]) [(plainR c)])) 0 (llen (noiseR c))), (HS.mk (llen (List.append (List.append (List.append (List.append X [(padR c)]) [(cutR c n)]) [(plainR c)]) [(noiseR c)])) 0 (llen (opR c)))],
   List.append (List.append (List.append (List.append (List.append X [(padR c)]) [(cutR c n)]) [(plainR c)]) [(noiseR c)]) [(opR c)]) → Ok (lkeeps.k3 Yes n c (i : Int) X rm y5 y6 y7 y8 y9 y10 g 3980) := by
   intro y5 y6 y7 y8 y9 y10 he
   obtain ⟨rfl, rfl⟩ := Prod.mk.inj he
   constructor
   rw [lkeeps.k3_eq Yes n c (i : Int) X rm y5 y6 y7 y8 _ _ g 3880, a1]
   exact n1
  show lkeeps.l1 Yes n c rm (g + 1) (i : Int) Y X
  rw [lkeeps.l1_succ Yes n c rm g (i : Int) Y X, lkeeps.k68_eq Yes n c (i : Int) rm Y X g 3992, lkeeps.k10_eq Yes n c (i : Int) rm Y X g 3991, lkeeps.k9_eq Yes n c (i : Int) rm Y X g 3989, lkeeps.k8_eq Yes n c (i : Int) rm Y X g 3987, lkeeps.k7_eq Yes n c (i : Int) rm Y X g 3985, lkeeps.k6_eq Yes n c (i : Int) rm Y X g 3983, lkeeps.k5_eq Yes n c (i : Int) rm Y X g 3982, lkeeps.k4_eq Yes n c (i : Int) X rm Y g 3980, hrm, g1]
  exact tt_l ⟨hs, hs, hs, hs, ⟨hs, hb⟩, and_ok r1 (q _ _ _ _ _ _ rfl)⟩
 ·subst hI
  have g1 : ilt ((T : Nat) : Int) 2 = false := by rw [ilt_false]; omega
  show lkeeps.l1 Yes n c rm (f + 1) ((T : Nat) : Int) (hfrom 1 (ckR c n T)) ([[]] ++ ckR c n T)
  rw [lkeeps.l1_succ Yes n c rm f ((T : Nat) : Int) (hfrom 1 (ckR c n T)) ([[]] ++ ckR c n T), lkeeps.k68_eq Yes n c ((T : Nat) : Int) rm (hfrom 1 (ckR c n T)) ([[]] ++ ckR c n T) f 3992, lkeeps.k67_eq Yes n c ((T : Nat) : Int) rm (hfrom 1 (ckR c n T)) ([[]] ++ ckR c n T) f 3892, g1]
  exact ff_r nx
theorem ck_l0 {N : Nat} (hN : N = 400) {c : List Int} {n : Int} (hs : Short c) {f : Nat} (nx : lkeeps.l1 Yes n c (c ++ List.replicate 400 165) f 0 [] [[]]) :
  lkeeps.l0 Yes n c ((f + 1) + tot (fun _ => 1) 0 N) 0 c := by
 have hsl := hs.le
 refine loop_inv (fun f i (s : List Int) => lkeeps.l0 Yes n c f i s) N (fun i s => s = c ++ List.replicate i 165) (fun _ => 1) (f + 1) (fun g i s hi hI hnx => ?_) (fun s hI => ?_) N 0 c (by omega) (by simp)
 ·have a1 : add .i64 (i : Int) 1 = ((i + 1 : Nat) : Int) := add1_i64 (by omega)
  have g1 : ilt (i : Int) 400 = true := by rw [ilt_true]; omega
  have hl1 : s.length = c.length + i := by rw [hI]; simp
  have r1 : Room (nadd (llen s) 1) 1 := ⟨by show (5 * (s.length + 1) + 4096) * 1 ≤ _; omega⟩
  have n1 := hnx (lcat s [165]) (by rw [hI]; show c ++ List.replicate i 165 ++ [165] = _; rw [List.append_assoc, List.replicate_succ'])
  show lkeeps.l0 Yes n c (g + 1) (i : Int) s
  rw [lkeeps.l0_succ Yes n c g (i : Int) s, lkeeps.k71_eq Yes n (i : Int) s c g 3996, lkeeps.k2_eq Yes n (i : Int) s c g 3990, lkeeps.k1_eq Yes n (i : Int) s c g 3890, a1, g1]
  exact tt_l ⟨r1, n1⟩
 ·subst hI
  subst hN
  have g1 : ilt ((400 : Nat) : Int) 400 = false := by rw [ilt_false]; omega
  have n3 : NonNeg (ofNat (llen c)) := ⟨by rw [ofNat_def]; omega⟩
  have f3 : Fits (nat (ofNat (llen c))) (llen (c ++ List.replicate 400 (165 : Int))) := ⟨by rw [ofNat_def, nat_cast, llen_def, llen_def]; simp⟩
  show lkeeps.l0 Yes n c (f + 1) ((400 : Nat) : Int) (c ++ List.replicate 400 165)
  rw [lkeeps.l0_succ Yes n c f ((400 : Nat) : Int) (c ++ List.replicate 400 165), lkeeps.k71_eq Yes n ((400 : Nat) : Int) (c ++ List.replicate 400 165) c f 3996, lkeeps.k70_eq Yes n ((400 : Nat) : Int) (c ++ List.replicate 400 165) c f 3988, lkeeps.k69_eq Yes n ((400 : Nat) : Int) c (c ++ List.replicate 400 165) f 3888, g1]
  exact ff_r ⟨⟨n3, f3⟩, nx⟩
theorem ck_small {c : List Int} {n : Int} {l : List Int} (h : l ∈ ckL c n) : l.length ≤ 320 := by
 simp only [ckL, List.mem_cons, List.not_mem_nil, or_false] at h
 have fl : ∀ f : List Int, f.length ≤ 320 → (fillL f).length ≤ 320 := fun f hf => by simp [fillL]; omega
 rcases h with rfl | rfl | rfl | rfl | rfl
 ·unfold padR; split
  ·exact fl _ (by assumption)
  ·simp
 ·unfold cutR; split
  ·rename_i q
   have : c.length = 320 := Classical.byContradiction fun h => by rw [cut_len h] at q; cases q
   simp; omega
  ·simp
 ·unfold plainR; split
  ·exact fl _ (by simp; omega)
  ·simp
 ·unfold noiseR; split
  ·exact fl _ (by simp; omega)
  ·simp
 ·unfold opR; split
  ·rename_i q
   simp only [List.length_take, List.length_drop]
   by_cases h : c.length = 320
   ·omega
   ·have := op_len h
    unfold opY at q
    simp [this] at q
  ·simp
theorem ck_start {c : List Int} {n : Int} (hs : Short c) {F : Nat} (q0 : lkeeps.l0 Yes n c F 0 c) : ∃ f, Has (callsx Try.prog gamC4 [⟨5, [.ints .u8], true, false⟩, ⟨8, [.rows .u8], true, false⟩, ⟨9, [.rows .u8], true, false⟩, ⟨777777, [], true, false⟩] Try.f7 f [.one (.vec 200000), .one (.int .i64 n)] [(200000, .rview [.ints .u8 c]), (900004, .heap .u8 [[]])] Yes) := by
 have hsl := hs.le
 have r1 : Room (nadd 0 (llen c)) 1 := ⟨by show (5 * (0 + c.length) + 4096) * 1 ≤ _; omega⟩
 refine ⟨F + 1, ⟨?_⟩⟩
 rw [lkeeps_vc, lkeeps.k74_eq Yes n c F 3992, lkeeps.k73_eq Yes n c F 3988, lkeeps.k72_eq Yes n c F 3888]
 exact ff_r ⟨r1, q0⟩
theorem cellKeeps_all {N K T V : Nat} (hN : N = 400) (hK : K = 10) (hT : T = 2) (hV : V = 5) {c : List Int} {n : Int} (hs : Short c) (hb : Bs c) :
  ∃ f, Has (callsx Try.prog gamC4 [⟨5, [.ints .u8], true, false⟩, ⟨8, [.rows .u8], true, false⟩, ⟨9, [.rows .u8], true, false⟩, ⟨777777, [], true, false⟩] Try.f7 f [.one (.vec 200000), .one (.int .i64 n)] [(200000, .rview [.ints .u8 c]), (900004, .heap .u8 [[]])] Yes) := by
 have hsl := hs.le
 have hrm : lsub (c ++ List.replicate 400 (165 : Int)) 0 (nat (ofNat (llen c))) = c := by
  rw [ofNat_def, nat_cast, llen_def]; simp [lsub]
 obtain ⟨D, hD⟩ : ∃ D, D = ckR c n T := ⟨_, rfl⟩
 have hD2 : D = ckL c n ++ ckL c n := by rw [hD, hT]; rfl
 have hDl : D.length = 10 := by rw [hD2]; rfl
 have sm : ∀ i, i < D.length → (llget D i).length ≤ 320 := fun i hi => by
  have : llget D i ∈ D := by simp only [llget, List.getD]; rw [List.getElem?_eq_getElem hi]; exact List.getElem_mem hi
  have m : llget D i ∈ ckL c n ++ ckL c n := by rw [← hD2]; exact this
  rcases List.mem_append.1 m with h | h
  ·exact ck_small h
  ·exact ck_small h
 have half : ∀ i, i < 5 → llget D i = llget D (i + 5) := fun i hi => by
  rw [hD2]
  match i, hi with
  | 0, _ => rfl
  | 1, _ => rfl
  | 2, _ => rfl
  | 3, _ => rfl
  | 4, _ => rfl
 have d0 : llget D 0 = padR c := by rw [hD2]; rfl
 have d4 : llget D 4 = opR c := by rw [hD2]; rfl
 have g3 : ∀ i, i < 10 → hget (hfrom 1 D) i = ⟨1 + i, 0, (llget D i).length⟩ := fun i hi => hfrom_get (by omega)
 have g12 : ∀ i, i < 10 → hget (hfrom 11 D) i = ⟨11 + i, 0, (llget D i).length⟩ := fun i hi => hfrom_get (by omega)
 have hls : hfrom 1 D ++ hfrom 11 D = hfrom 1 (D ++ D) := by rw [hfrom_app2, hDl]
 have hE : ∀ i, i < (D ++ D).length → (llget (D ++ D) i).length ≤ 320 := fun i hi => by
  simp only [llget, List.getD] at sm ⊢
  rw [List.length_append] at hi
  by_cases q : i < D.length
  ·rw [List.getElem?_append_left q]; exact sm i q
  ·rw [List.getElem?_append_right (by omega)]; exact sm _ (by omega)
 have hap : ApartOk2 (hfrom 1 D ++ hfrom 11 D) ([[]] ++ (D ++ D)) := by
  rw [hls]; exact apart_from (os := [[]]) rfl rfl fun i hi => by have := hE i hi; omega
 have hIn : CkIn (D ++ D) (hfrom 1 D) (hfrom 11 D) ([[]] ++ (D ++ D)) := ⟨by rw [hfrom_len, hDl], by rw [hfrom_len, hDl], hap, fun i hi => by rw [g3 i hi]; exact sm i (by omega)⟩
 have h0 : Holds (hfrom 1 D ++ hfrom 11 D) (ckV (D ++ D) 0 0) ([[]] ++ (D ++ D)) := by
  refine ⟨rfl, fun k hk => ⟨(hap.inn k hk).1, (hap.inn k hk).2.1⟩, fun k hk u hu => ?_⟩
  rw [hls] at hk hu ⊢
  rw [hfrom_len] at hk
  rw [hfrom_get hk]
  show lget (llget ([[]] ++ (D ++ D)) (1 + k)) (0 + u) = _
  have := llget_at (os := [[]]) (L := D ++ D) (M := []) hk
  rw [List.append_nil] at this
  rw [show ([[]] : List (List Int)).length = 1 from rfl] at this
  rw [this, Nat.zero_add]
  unfold ckV; rw [if_neg (by omega)]
 have c12 : ∀ H', Holds (hfrom 1 D ++ hfrom 11 D) (ckV (D ++ D) 10 0) H' → ∀ i, i < 10 → hcon H' (hget (hfrom 11 D) i) = llget D i := fun H' h' i hi => by
  obtain ⟨a1, a2⟩ := hIn.at12 hi
  rw [a1, h'.con a2, ← a1, g12 i hi]
  refine Eq.trans ?_ (eq_tab (l := llget D i) rfl).symm
  refine tab_ext fun u hu => ?_
  unfold ckV; rw [if_neg (by omega)]
  congr 1
  simp only [llget, List.getD]; rw [List.getElem?_append_right (by omega), hDl, Nat.add_sub_cancel_left]
 have q10 := fun H' (h' : Holds (hfrom 1 D ++ hfrom 11 D) (ckV (D ++ D) 10 0) H') => ck_l10 hN hs (ck_l11 hs hb (x12 := hfrom 11 D) (H := H') (by rw [hfrom_len, hDl]) ((c12 H' h' 0 (by omega)).trans d0) ((c12 H' h' 4 (by omega)).trans d4) (c ++ List.replicate 400 165))
 have q6 := ck_l6 hN hK hT hIn q10
 have q4 := ck_l4 hK hIn (fun H' (h' : Holds (hfrom 1 D ++ hfrom 11 D) (ckV (D ++ D) K 0) H') => q6 H' (by rw [hK] at h'; exact h')) _ h0
 have c0 : ∀ i, i < 10 → hcon ([[]] ++ (D ++ D)) (hget (hfrom 11 D) i) = llget D i := fun i hi => by
  rw [g12 i hi]
  have := llget_at (os := [[]] ++ D) (L := D) (M := []) (i := i) (by omega)
  rw [List.append_nil, List.append_assoc, List.length_append, hDl] at this
  show lsub (llget ([[]] ++ (D ++ D)) (11 + i)) 0 (llget D i).length = _
  rw [show 11 + i = [([] : List Int)].length + 10 + i from rfl, this]; simp [lsub]
 have q3 := ck_l3 hV (rm := c ++ List.replicate 400 165) (c := c) (x3 := hfrom 1 D) (by rw [hfrom_len, hDl]) (fun i hi => by rw [c0 i (by omega), c0 (i + 5) (by omega)]; exact half i hi) q4
 have q2 := ck_l2 (hK.trans hDl.symm) hDl (fun i hi => sm i (by omega)) q3
 rw [hD] at q2
 have q1 := ck_l1 hT hs hb hrm q2
 have q0 := ck_l0 hN hs q1
 exact ck_start hs q0
theorem cellKeeps_plain {c : List Int} {n : Int} (hs : Short c) (hb : Bs c) :
  ∃ f, Has (callsx Try.prog gamC4 [⟨5, [.ints .u8], true, false⟩, ⟨8, [.rows .u8], true, false⟩, ⟨9, [.rows .u8], true, false⟩, ⟨777777, [], true, false⟩] Try.f7 f [.one (.vec 200000), .one (.int .i64 n)] [(200000, .rview [.ints .u8 c]), (900004, .heap .u8 [[]])] Yes) := cellKeeps_all rfl rfl rfl rfl hs hb
end Go.Proofs.Ytgkklobamebnjaa.G
namespace Go.Sx
open Go Go.ChangeShapes Go.WideShapes Go.ChangeAt Go.RowKit
def KdAt (w : World) (k : Kd) (cs : List Value) (o : Nat) : Prop :=
 match k with
 | .ints q => ∃ n, cs[o]? = some (.int q n) ∧ (Lit.int q n).wf = true
 | .bools => ∃ b, cs[o]? = some (.bool b)
 | .arrs q m => ∃ l : List Int, l.length = m ∧ (∀ (j : Nat) x, l[j]? = some x → cs[o + j]? = some (.int q x)) ∧ ∀ x ∈ l, (Lit.int q x).wf = true
 | .rows q => ∃ A L C Z, cs[o]? = some (.slice A L C) ∧ IsRow q w A L C Z ∧ Z.length ≤ reachBytes
 | .strs => ∃ b, cs[o]? = some (.string b)
def KdsAt (w : World) : List Kd → List Value → Nat → Prop
 | [], _, _ => True
 | k :: r, cs, o => KdAt w k cs o ∧ KdsAt w r cs (o + k.width)
theorem KdsAt.append {w : World} {cs : List Value} : ∀ {a b : List Kd} {o : Nat}, KdsAt w a cs o → KdsAt w b cs (o + width a) → KdsAt w (a ++ b) cs o
 | [], b, o, _, h => by simpa [width] using h
 | k :: a, b, o, h, g => ⟨h.1, KdsAt.append h.2 (by simpa [width, Nat.add_assoc] using g)⟩
section
variable {H : Type} {enc : TypeId × Value → H} {P : Program} {w : World} {base : Nat} {held : Bool}
end
def Col.wf : Col → Prop
 | .ints k l => ∀ x ∈ l, (Lit.int k x).wf = true
 | .bools _ => True
 | .arrs k _ ll => ∀ l ∈ ll, ∀ x ∈ l, (Lit.int k x).wf = true
 | .rows k ll => ∀ l ∈ ll, l.length ≤ reachBytes ∧ ∀ x ∈ l, (Lit.int k x).wf = true
 | .strs _ => True
 | .hss _ _ => False
theorem wf_noHss {cs : List Col} (h : ∀ col ∈ cs, col.wf) : noHss cs = true := by
 simp only [noHss, List.all_eq_true, Bool.not_eq_true']
 intro c hc
 have := h c hc
 cases c <;> first | rfl | exact this.elim
section
variable {H : Type} {enc : TypeId × Value → H} {P : Program} {w : World}
theorem LawArgs.recs {j : Nat} {A : Option Addr} {len cap : Nat} {L : Loc} {cs : List Col} {xs : List AV} {vs : List Value} {τ : Mem} (hV : VRep w L cs) (hv : Value.slice A len cap = .slice L.a L.len L.cap) (t : LawArgs w (j + 1) xs vs τ) (hj : j < 1000 := by decide) (hn : noHss cs = true := by first | rfl | exact wf_noHss (by assumption)) :
  LawArgs w j (.one (.vec (200000 + j)) :: xs) (.slice A len cap :: vs) ((200000 + j, .rview cs) :: τ) := .row L cs hj hV hv t hn
theorem KdsAt.rows {q : IntKind} {r : List Kd} {cs : List Value} {o : Nat} (h : KdsAt w (.rows q :: r) cs o) : ∃ A L C Z, IsRow q w A L C Z ∧ Z.length ≤ reachBytes ∧ cs.drop o = .slice A L C :: cs.drop (o + 1) ∧ KdsAt w r cs (o + 1) := by
 obtain ⟨⟨A, L, C, Z, h1, h2, h3⟩, h4⟩ := h
 have hlt := (List.getElem?_eq_some_iff.1 h1)
 obtain ⟨hl, he⟩ := hlt
 exact ⟨A, L, C, Z, h2, h3, by rw [List.drop_eq_getElem_cons hl, he], h4⟩
theorem KdsAt.ints {q : IntKind} {r : List Kd} {cs : List Value} {o : Nat} (h : KdsAt w (.ints q :: r) cs o) : ∃ n, (Lit.int q n).wf = true ∧ cs.drop o = .int q n :: cs.drop (o + 1) ∧ KdsAt w r cs (o + 1) := by
 obtain ⟨⟨n, h1, h2⟩, h4⟩ := h
 obtain ⟨hl, he⟩ := (List.getElem?_eq_some_iff.1 h1)
 exact ⟨n, h2, by rw [List.drop_eq_getElem_cons hl, he], h4⟩
theorem KdsAt.bools {r : List Kd} {cs : List Value} {o : Nat} (h : KdsAt w (.bools :: r) cs o) : ∃ b, cs.drop o = .bool b :: cs.drop (o + 1) ∧ KdsAt w r cs (o + 1) := by
 obtain ⟨⟨b, h1⟩, h4⟩ := h
 obtain ⟨hl, he⟩ := (List.getElem?_eq_some_iff.1 h1)
 exact ⟨b, by rw [List.drop_eq_getElem_cons hl, he], h4⟩
theorem KdsAt.arrs {q : IntKind} {m : Nat} {r : List Kd} {cs : List Value} {o : Nat} (h : KdsAt w (.arrs q m :: r) cs o) (hl : o + m ≤ cs.length) : ∃ l : List Int, l.length = m ∧ (∀ x ∈ l, (Lit.int q x).wf = true) ∧ cs.drop o = l.map (Value.int q) ++ cs.drop (o + m) ∧ KdsAt w r cs (o + m) := by
 obtain ⟨⟨l, h1, h2, h3⟩, h4⟩ := h
 refine ⟨l, h1, h3, ?_, h4⟩
 conv => lhs; rw [← List.take_append_drop m (cs.drop o), List.drop_drop]
 congr 1
 refine List.ext_getElem? fun j => ?_
 rw [List.getElem?_take]
 by_cases hj : j < m
 ·rw [if_pos hj, List.getElem?_drop]
  have : l[j]? = some (l[j]'(by omega)) := List.getElem?_eq_getElem (by omega)
  rw [h2 j _ this]
  simp [this]
 ·rw [if_neg hj, List.getElem?_eq_none (by simp; omega)]
end
inductive KF where
 | ks (l : List Kd)
 | recs (l : List Kd) (bytes : Nat)
def KF.width : KF → Nat
 | .ks l => Sx.width l
 | .recs _ _ => 1
structure RecsIn (w : World) (l : List Kd) (bytes : Nat) (A : Option Addr) (len cap : Nat) (L : Loc) (cols : List Col) : Prop where
 rep : VRep w L cols
 val : Value.slice A len cap = .slice L.a L.len L.cap
 kds : kdsOf cols = l
 wf : ∀ col ∈ cols, col.wf
 size : L.len * bytes ≤ reachBytes
def KF.at (w : World) (k : KF) (cs : List Value) (o : Nat) : Prop :=
 match k with
 | .ks l => KdsAt w l cs o
 | .recs l b => ∃ A len cap L cols, cs[o]? = some (.slice A len cap) ∧ RecsIn w l b A len cap L cols
def KFsAt (w : World) : List KF → List Value → Nat → Prop
 | [], _, _ => True
 | k :: r, cs, o => k.at w cs o ∧ KFsAt w r cs (o + k.width)
section
variable {H : Type} {enc : TypeId × Value → H} {P : Program} {w : World}
theorem KFsAt.recs {l : List Kd} {b : Nat} {r : List KF} {cs : List Value} {o : Nat} (h : KFsAt w (.recs l b :: r) cs o) : ∃ A len cap L cols, RecsIn w l b A len cap L cols ∧ cs.drop o = .slice A len cap :: cs.drop (o + 1) ∧ KFsAt w r cs (o + 1) := by
 obtain ⟨⟨A, len, cap, L, cols, h1, h2⟩, h4⟩ := h
 obtain ⟨hl, he⟩ := (List.getElem?_eq_some_iff.1 h1)
 exact ⟨A, len, cap, L, cols, h2, by rw [List.drop_eq_getElem_cons hl, he], h4⟩
theorem KFsAt.rows {q : IntKind} {r : List KF} {cs : List Value} {o : Nat} (h : KFsAt w (.ks [.rows q] :: r) cs o) : ∃ A L C Z, IsRow q w A L C Z ∧ Z.length ≤ reachBytes ∧ cs.drop o = .slice A L C :: cs.drop (o + 1) ∧ KFsAt w r cs (o + 1) := by
 obtain ⟨A, L, C, Z, h1, h2, h3, _⟩ := KdsAt.rows h.1
 exact ⟨A, L, C, Z, h1, h2, h3, h.2⟩
theorem KFsAt.ints {q : IntKind} {r : List KF} {cs : List Value} {o : Nat} (h : KFsAt w (.ks [.ints q] :: r) cs o) : ∃ n, (Lit.int q n).wf = true ∧ cs.drop o = .int q n :: cs.drop (o + 1) ∧ KFsAt w r cs (o + 1) := by
 obtain ⟨n, h1, h2, _⟩ := KdsAt.ints h.1
 exact ⟨n, h1, h2, h.2⟩
theorem KFsAt.bools {r : List KF} {cs : List Value} {o : Nat} (h : KFsAt w (.ks [.bools] :: r) cs o) : ∃ b, cs.drop o = .bool b :: cs.drop (o + 1) ∧ KFsAt w r cs (o + 1) := by
 obtain ⟨b, h1, _⟩ := KdsAt.bools h.1
 exact ⟨b, h1, h.2⟩
theorem KFsAt.arrs {q : IntKind} {m : Nat} {r : List KF} {cs : List Value} {o : Nat} (h : KFsAt w (.ks [.arrs q m] :: r) cs o) (hl : o + m ≤ cs.length) : ∃ l : List Int, l.length = m ∧ (∀ x ∈ l, (Lit.int q x).wf = true) ∧ cs.drop o = l.map (Value.int q) ++ cs.drop (o + m) ∧ KFsAt w r cs (o + m) := by
 obtain ⟨l, h1, h2, h3, _⟩ := KdsAt.arrs h.1 hl
 have e : (KF.ks [.arrs q m]).width = m := by simp [KF.width, Sx.width, Kd.width]
 have := h.2
 rw [e] at this
 exact ⟨l, h1, h2, h3, this⟩
theorem AggArgs.recs {j j' : Nat} {l : List Kd} {b : Nat} {A : Option Addr} {len cap : Nat} {L : Loc} {cols : List Col} {s : List Seg} {cs : List Value} {τ : Mem} (h : RecsIn w l b A len cap L cols) (t : AggArgs w (j + 1) s cs τ j') (hj : j < 1000 := by decide) :
  AggArgs w j (.cells [.vec (200000 + j)] :: s) (.slice A len cap :: cs) ((200000 + j, .rview cols) :: τ) j' := .row L cols hj h.rep h.val t (wf_noHss h.wf)
end
end Go.Sx
