import Derived.Test.YtienfecnkglilaaDoorRouteWalksD
import Derived.Test.YtienfecnkglilaaDoorProg
set_option linter.unusedSimpArgs false
set_option linter.unusedVariables false
namespace Go.Proofs.YtienfecnkglilaaDoor.G
open Go Go.Sx Go.Fld
set_option maxRecDepth 100000
def Mul.l0 (R : AV → Mem → Prop)  (fuel : Nat) (x0 x1 x2 x3 : Int) : Prop := rN Tryd.prog gam0 [] Tryd.f61 R fuel [kc Tryd.f61 [1,1,0,1,0,0],ki Tryd.f61 [1,1,0,1,0,0],.inBlock 0,kc Tryd.f61 [1,1,1]] (AV.one (AC.int IntKind.u8 x0)::AV.one (AC.int IntKind.u8 x1)::Uu::Uu::Uu::AV.one (AC.int IntKind.u8 x2)::Uu::Ii x3::(us 18 [Zz])) []
theorem Mul.l0_succ (R : AV → Mem → Prop)  (fuel : Nat) (x0 x1 x2 x3 : Int) : Mul.l0 R  (fuel + 1) x0 x1 x2 x3 = (((((ilt x3 8) = true) → ((((ieq (band IntKind.u8 x1 1) 1) = true) → ((NonNeg 1) ∧ ((NonNeg 1) ∧ ((((ine (band IntKind.u8 x0 128) 0) = true) → (Mul.l0 R  fuel (bxor IntKind.u8 (shl IntKind.u8 x0 1) 27) (shr IntKind.u8 x1 1) (bxor IntKind.u8 x2 x0) (add IntKind.i64 x3 1))) ∧ (((ine (band IntKind.u8 x0 128) 0) = false) → (Mul.l0 R  fuel (shl IntKind.u8 x0 1) (shr IntKind.u8 x1 1) (bxor IntKind.u8 x2 x0) (add IntKind.i64 x3 1))))))) ∧ (((ieq (band IntKind.u8 x1 1) 1) = false) → ((NonNeg 1) ∧ ((NonNeg 1) ∧ ((((ine (band IntKind.u8 x0 128) 0) = true) → (Mul.l0 R  fuel (bxor IntKind.u8 (shl IntKind.u8 x0 1) 27) (shr IntKind.u8 x1 1) x2 (add IntKind.i64 x3 1))) ∧ (((ine (band IntKind.u8 x0 128) 0) = false) → (Mul.l0 R  fuel (shl IntKind.u8 x0 1) (shr IntKind.u8 x1 1) x2 (add IntKind.i64 x3 1))))))))) ∧ (((ilt x3 8) = false) → (R (AV.one (AC.int IntKind.u8 x2)) [])))) := by kernel_rfl
theorem Mul_vc (R : AV → Mem → Prop) (fuel : Nat) (a : Int) (b : Int) : callsx Tryd.prog gam0 [] Tryd.f61 (fuel + 1) [.one (.int .u8 a), .one (.int .u8 b)] [] R = ((Mul.l0 R  fuel a b 0 0)) := by kernel_rfl
theorem turned_vc (R : AV → Mem → Prop) (fuel : Nat) (a : Int) (b : Int) : callsx Tryd.prog gam0 [] Tryd.f63 (fuel + 1) [.one (.int .u8 a), .one (.int .i64 b)] [] R = (((NonNeg b) ∧ ((NonNeg (sub IntKind.i64 8 b)) ∧ (R (AV.one (AC.int IntKind.u8 (bor IntKind.u8 (shl IntKind.u8 a b) (shr IntKind.u8 a (sub IntKind.i64 8 b))))) [])))) := by kernel_rfl
def Inv.l0 (R : AV → Mem → Prop)  (fuel : Nat) (x0 x1 x2 : Int) : Prop := rN Tryd.prog gam1 [] Tryd.f62 R fuel [kc Tryd.f62 [1,1,0,1,0,0],ki Tryd.f62 [1,1,0,1,0,0],.inBlock 0,kc Tryd.f62 [1,1,1]] (Uu::Uu::Uu::AV.one (AC.int IntKind.u8 x0)::AV.one (AC.int IntKind.u8 x1)::Uu::Ii x2::(us 8 [Zz])) []
theorem Inv.l0_succ (R : AV → Mem → Prop)  (fuel : Nat) (x0 x1 x2 : Int) : Inv.l0 R  (fuel + 1) x0 x1 x2 = (((((ilt x2 7) = true) → (((Byte x1) ∧ (Byte x1)) ∧ (((Byte x0) ∧ (Byte (fmul x1 x1))) ∧ (Inv.l0 R  fuel (fmul x0 (fmul x1 x1)) (fmul x1 x1) (add IntKind.i64 x2 1))))) ∧ (((ilt x2 7) = false) → (R (AV.one (AC.int IntKind.u8 x0)) [])))) := by kernel_rfl
theorem Inv_vc (R : AV → Mem → Prop) (fuel : Nat) (a : Int) : callsx Tryd.prog gam1 [] Tryd.f62 (fuel + 1) [.one (.int .u8 a)] [] R = ((Inv.l0 R  fuel 1 a 0)) := by kernel_rfl
theorem Sub_vc (R : AV → Mem → Prop) (fuel : Nat) (a : Int) : callsx Tryd.prog gam2 [] Tryd.f47 (fuel + 1) [.one (.int .u8 a)] [] R = (((Byte a) ∧ (((Byte (finv a)) ∧ (InB 1 9)) ∧ (((Byte (finv a)) ∧ (InB 2 9)) ∧ (((Byte (finv a)) ∧ (InB 3 9)) ∧ (((Byte (finv a)) ∧ (InB 4 9)) ∧ (R (AV.one (AC.int IntKind.u8 (bxor IntKind.u8 (bxor IntKind.u8 (bxor IntKind.u8 (bxor IntKind.u8 (bxor IntKind.u8 (finv a) (fturn (finv a) 1)) (fturn (finv a) 2)) (fturn (finv a) 3)) (fturn (finv a) 4)) 99))) []))))))) := by kernel_rfl
def mixd.l1 (R : AV → Mem → Prop) (x0 : Int) (c f : List Int) (fuel : Nat) (x2 : Int) (x3 : List Int) : Prop := rN Tryd.prog gam4 [] Tryd.f79 R fuel [kc Tryd.f79 [1,1,0,1,0,0,1,1,0,0,1,1,0,0],ki Tryd.f79 [1,1,0,1,0,0,1,1,0,0,1,1,0,0],.inBlock 2,.inBlock 1,kc Tryd.f79 [1,1,0,1,0,0,1,1,1],ki Tryd.f79 [1,1,0,1,0,0],.inBlock 0,kc Tryd.f79 [1,1,1]] (Uu::Uu::AV.one (AC.ptr 2 0 0)::AV.one (AC.ptr 3 0 0)::AV.one (AC.ptr 4 0 0)::AV.one (AC.ptr 5 0 0)::Ii x0::Uu::Ii x0::Ll true::Ii x0::Ii x2::(us 20 [Zz])) [(2,Blk.own 104 [Seg.ints IntKind.u8 4 c]),(3,Blk.own 104 [Seg.ints IntKind.u8 4 f]),(4,Blk.own 104 [Seg.ints IntKind.u8 4 (lzeros 4)]),(5,Blk.own 104 [Seg.ints IntKind.u8 4 x3])]
def mixd.l0 (R : AV → Mem → Prop) (c f : List Int) (fuel : Nat) (x0 : Int) (x1 : List Int) : Prop := rN Tryd.prog gam4 [] Tryd.f79 R fuel [kc Tryd.f79 [1,1,0,1,0,0],ki Tryd.f79 [1,1,0,1,0,0],.inBlock 0,kc Tryd.f79 [1,1,1]] (Uu::Uu::AV.one (AC.ptr 2 0 0)::AV.one (AC.ptr 3 0 0)::AV.one (AC.ptr 4 0 0)::AV.one (AC.ptr 5 0 0)::Uu::Uu::Ii x0::(us 23 [Zz])) [(2,Blk.own 104 [Seg.ints IntKind.u8 4 c]),(3,Blk.own 104 [Seg.ints IntKind.u8 4 f]),(4,Blk.own 104 [Seg.ints IntKind.u8 4 (lzeros 4)]),(5,Blk.own 104 [Seg.ints IntKind.u8 4 x1])]
theorem mixd.l1_succ (R : AV → Mem → Prop) (x0 : Int) (c f : List Int) (fuel : Nat) (x2 : Int) (x3 : List Int) : mixd.l1 R x0 c f (fuel + 1) x2 x3 = (((((ilt x2 4) = true) → ((InB x0 4) ∧ ((Low (nadd 0 (nat x0)) 4) ∧ ((NeZ 4) ∧ ((InB (rem (add IntKind.i64 (sub IntKind.i64 x2 x0) 4) 4) 4) ∧ ((Low (nadd 0 (nat (rem (add IntKind.i64 (sub IntKind.i64 x2 x0) 4) 4))) 4) ∧ ((InB x2 4) ∧ ((Low (nadd 0 (nat x2)) 4) ∧ (((Byte (lget f (nadd 0 (nat (rem (add IntKind.i64 (sub IntKind.i64 x2 x0) 4) 4))))) ∧ (Byte (lget c (nadd 0 (nat x2))))) ∧ ((InB x0 4) ∧ ((Low (nadd 0 (nat x0)) 4) ∧ (mixd.l1 R x0 c f fuel (add IntKind.i64 x2 1) (lset x3 (nadd 0 (nat x0)) (bxor IntKind.u8 (lget x3 (nadd 0 (nat x0))) (fmul (lget f (nadd 0 (nat (rem (add IntKind.i64 (sub IntKind.i64 x2 x0) 4) 4)))) (lget c (nadd 0 (nat x2)))))))))))))))))) ∧ (((ilt x2 4) = false) → (mixd.l0 R c f fuel (add IntKind.i64 x0 1) x3)))) := by kernel_rfl
theorem mixd.l0_succ (R : AV → Mem → Prop) (c f : List Int) (fuel : Nat) (x0 : Int) (x1 : List Int) : mixd.l0 R c f (fuel + 1) x0 x1 = (((((ilt x0 4) = true) → (mixd.l1 R x0 c f fuel 0 x1)) ∧ (((ilt x0 4) = false) → (R (AV.agg [Seg.ints IntKind.u8 4 x1]) [(2,Blk.own 104 [Seg.ints IntKind.u8 4 c]),(3,Blk.own 104 [Seg.ints IntKind.u8 4 f]),(4,Blk.own 104 [Seg.ints IntKind.u8 4 x1]),(5,Blk.own 104 [Seg.ints IntKind.u8 4 x1])])))) := by kernel_rfl
theorem mixd_vc (R : AV → Mem → Prop) (fuel : Nat) (c : List Int) (f : List Int) : callsx Tryd.prog gam4 [] Tryd.f79 (fuel + 1) [.agg [.ints .u8 4 c], .agg [.ints .u8 4 f]] [] R = ((mixd.l0 R c f fuel 0 (lzeros 4))) := by kernel_rfl
theorem Column_vc (R : AV → Mem → Prop) (fuel : Nat) (c : List Int) : callsx Tryd.prog gam5 [] Tryd.f68 (fuel + 1) [.agg [.ints .u8 4 c]] [] R = (((Low 0 4) ∧ ((Low 1 4) ∧ ((Low 2 4) ∧ ((Low 3 4) ∧ (((FCol c) ∧ (FCol (lset (lset (lset (lset (lzeros 4) 0 2) 1 3) 2 1) 3 1))) ∧ (R (AV.agg [(Seg.ints IntKind.u8 4 (fmix c (lset (lset (lset (lset (lzeros 4) 0 2) 1 3) 2 1) 3 1)))]) [(1, Blk.own 104 [(Seg.ints IntKind.u8 4 c)]), (2, Blk.own 104 [(Seg.ints IntKind.u8 4 (fmix c (lset (lset (lset (lset (lzeros 4) 0 2) 1 3) 2 1) 3 1)))])]))))))) := by kernel_rfl
theorem and128 : ∀ a, a < 256 → (a &&& 128 = 0 ↔ a < 128) := by decide +kernel
theorem xt_eq {a : Nat} (ha : a < 256) : xt a = if a < 128 then a * 2 ^ 1 % 256 else (a * 2 ^ 1 % 256) ^^^ 27 := by
 unfold xt
 split
 ·omega
 ·rw [show 2 * a - 256 = a * 2 ^ 1 % 256 by omega]
theorem mul_l0 (R : AV → Mem → Prop) : ∀ (d a b s : Nat), d ≤ 8 → a < 256 → b < 256 → s < 256 → R (.one (.int .u8 (gl d a b s : Nat))) [] → Mul.l0 R (d + 1) (a : Int) (b : Int) (s : Int) ((8 - d : Nat) : Int)
 | 0, a, b, s, _, ha, hb, hs, h => by
  rw [Mul.l0_succ]
  refine ⟨fun q => ?_, fun _ => h⟩
  rw [ilt_true] at q; omega
 | d + 1, a, b, s, hd, ha, hb, hs, h => by
  rw [Mul.l0_succ]
  have e1 : band .u8 (b : Int) 1 = ((b % 2 : Nat) : Int) := by
   rw [show (1 : Int) = ((1 : Nat) : Int) from rfl, band_u8 hb (by omega), Nat.and_one_is_mod]
  have e2 : band .u8 (a : Int) 128 = ((a &&& 128 : Nat) : Int) := by
   rw [show (128 : Int) = ((128 : Nat) : Int) from rfl, band_u8 ha (by omega)]
  have e3 : shl .u8 (a : Int) 1 = ((a * 2 ^ 1 % 256 : Nat) : Int) := shl_u8 (n := 1) (by omega)
  have e4 : shr .u8 (b : Int) 1 = ((b / 2 : Nat) : Int) := shr_u8 (n := 1) (by omega)
  have e5 : bxor .u8 (s : Int) (a : Int) = ((s ^^^ a : Nat) : Int) := bxor_u8 hs ha
  have hm : a * 2 ^ 1 % 256 < 256 := Nat.mod_lt _ (by omega)
  have e6 : bxor .u8 (((a * 2 ^ 1 % 256 : Nat) : Int)) 27 = (((a * 2 ^ 1 % 256) ^^^ 27 : Nat) : Int) := bxor_u8 (b := 27) hm (by omega)
  have e7 : add .i64 ((8 - (d + 1) : Nat) : Int) 1 = ((8 - d : Nat) : Int) := by rw [add_i64 (by omega) (by omega)]; omega
  have h128 := and128 a ha
  rw [e1, e2, e3, e4, e5, e6, e7]
  have go := fun a' s' ha' hs' hg => mul_l0 R d a' (b / 2) s' (by omega) ha' (by omega) hs' hg
  have hx := xt_eq ha
  have hxl := xt_lt ha
  simp only [gl] at h
  refine ⟨fun _ => ⟨fun q => ⟨⟨by decide⟩, ⟨by decide⟩, fun q' => ?_, fun q' => ?_⟩, fun q => ⟨⟨by decide⟩, ⟨by decide⟩, fun q' => ?_, fun q' => ?_⟩⟩, fun q => ?_⟩
  ·rw [ieq_true] at q; rw [ine_true] at q'
   have c1 : b % 2 = 1 := by omega
   have c2 : ¬ a < 128 := by omega
   rw [if_neg c2] at hx
   rw [← hx] at *
   exact go _ _ hxl (xor_lt hs ha) (by simpa [c1] using h)
  ·rw [ieq_true] at q; rw [ine_false] at q'
   have c1 : b % 2 = 1 := by omega
   have c2 : a < 128 := by omega
   rw [if_pos c2] at hx
   rw [← hx] at *
   exact go _ _ hxl (xor_lt hs ha) (by simpa [c1] using h)
  ·rw [ieq_false] at q; rw [ine_true] at q'
   have c1 : ¬ b % 2 = 1 := by omega
   have c2 : ¬ a < 128 := by omega
   rw [if_neg c2] at hx
   rw [← hx] at *
   exact go _ _ hxl hs (by simpa [c1] using h)
  ·rw [ieq_false] at q; rw [ine_false] at q'
   have c1 : ¬ b % 2 = 1 := by omega
   have c2 : a < 128 := by omega
   rw [if_pos c2] at hx
   rw [← hx] at *
   exact go _ _ hxl hs (by simpa [c1] using h)
  ·rw [ilt_false] at q; omega
theorem good_mul : Sx.Good Tryd.prog 61 (bin8 fmul) := by
 refine Sx.Good.pure (D := []) mixed (good0 _) Tryd.func61 (by kernel_rfl) rfl fun d args σ K h => ?_
 simp only [bin8] at h
 split at h <;> try exact h.elim
 rename_i a b
 obtain ⟨⟨ha, hb⟩, hK⟩ := h
 obtain ⟨x, hx, rfl⟩ := ha.nat
 obtain ⟨y, hy, rfl⟩ := hb.nat
 refine ⟨by simp [plain_int], _, plain_int _ _, hK, 9 + 1, ?_⟩
 rw [Mul_vc]
 exact mul_l0 (fun av' _ => av' = .one (.int .u8 (fmul x y))) 8 x y 0 (by omega) hx hy (by omega) (by simp [fmul, gm])
theorem good_turned : Sx.Good Tryd.prog 63 turnS := by
 refine Sx.Good.pure (D := []) mixed (good0 _) Tryd.func63 (by kernel_rfl) rfl fun d args σ K h => ?_
 simp only [turnS] at h
 split at h <;> try exact h.elim
 rename_i a n
 obtain ⟨⟨ha, hn⟩, hK⟩ := h
 obtain ⟨x, hx, rfl⟩ := ha.nat
 obtain ⟨m, rfl⟩ := Int.eq_ofNat_of_zero_le hn.lo
 have hm : m ≤ 8 := by have := hn.hi; omega
 refine ⟨by simp [plain_int], _, plain_int _ _, hK, 0 + 1, ?_⟩
 rw [turned_vc]
 have e1 : sub .i64 8 (m : Int) = ((8 - m : Nat) : Int) := by rw [sub_i64 (by omega) (by omega)]; omega
 rw [e1, shl_u8 hm, shr_u8 (show 8 - m ≤ 8 by omega), bor_u8 (Nat.mod_lt _ (by decide)) (Nat.lt_of_le_of_lt (Nat.div_le_self _ _) hx)]
 exact ⟨⟨by omega⟩, ⟨by omega⟩, by simp [fturn, turn]⟩
theorem gam1_good : GoodG Tryd.prog gam1 := (((good0 _).ext good_mul ⟨_, Tryd.func61, by decide, by kernel_rfl⟩).ext good_turned ⟨_, Tryd.func63, by decide, by kernel_rfl⟩)
theorem inv_l0 (R : AV → Mem → Prop) : ∀ (d p q : Nat), d ≤ 7 → p < 256 → q < 256 → R (.one (.int .u8 (il d p q : Nat))) [] → Inv.l0 R (d + 1) (p : Int) (q : Int) ((7 - d : Nat) : Int)
 | 0, p, q, _, hp, hq, h => by
  rw [Inv.l0_succ]
  refine ⟨fun c => ?_, fun _ => h⟩
  rw [ilt_true] at c; omega
 | d + 1, p, q, hd, hp, hq, h => by
  rw [Inv.l0_succ]
  have e7 : add .i64 ((7 - (d + 1) : Nat) : Int) 1 = ((7 - d : Nat) : Int) := by rw [add_i64 (by omega) (by omega)]; omega
  have e1 : fmul (q : Int) (q : Int) = (gm q q : Nat) := by simp [fmul]
  have e2 : fmul (p : Int) ((gm q q : Nat) : Int) = (gm p (gm q q) : Nat) := by simp [fmul]
  rw [e1, e2, e7]
  refine ⟨fun _ => ⟨⟨.of hq, .of hq⟩, ⟨.of hp, .of (gm_lt hq)⟩, inv_l0 R d _ _ (by omega) (gm_lt hp) (gm_lt hq) h⟩, fun c => ?_⟩
  rw [ilt_false] at c; omega
theorem good_inv : Sx.Good Tryd.prog 62 (un8 finv) := by
 refine Sx.Good.pure (D := []) mixed gam1_good Tryd.func62 (by kernel_rfl) rfl fun d args σ K h => ?_
 simp only [un8] at h
 split at h <;> try exact h.elim
 rename_i a
 obtain ⟨ha, hK⟩ := h
 obtain ⟨x, hx, rfl⟩ := ha.nat
 refine ⟨by simp [plain_int], _, plain_int _ _, hK, 8 + 1, ?_⟩
 rw [Inv_vc]
 exact inv_l0 (fun av' _ => av' = .one (.int .u8 (finv x))) 7 1 x (by omega) (by omega) hx (by simp [finv, gi])
theorem gam2_good : GoodG Tryd.prog gam2 := gam1_good.ext good_inv ⟨_, Tryd.func62, by decide, by kernel_rfl⟩
theorem fturn_nat (x n : Nat) : fturn (x : Int) (n : Int) = (turn x n : Nat) := by simp [fturn]
theorem good_sub : Sx.Good Tryd.prog 47 (un8 fsub) := by
 refine Sx.Good.pure (D := []) mixed gam2_good Tryd.func47 (by kernel_rfl) rfl fun d args σ K h => ?_
 simp only [un8] at h
 split at h <;> try exact h.elim
 rename_i a
 obtain ⟨ha, hK⟩ := h
 obtain ⟨x, hx, rfl⟩ := ha.nat
 refine ⟨by simp [plain_int], _, plain_int _ _, hK, 0 + 1, ?_⟩
 rw [Sub_vc]
 have hi := gi_lt x
 have e0 : finv (x : Int) = (gi x : Nat) := by simp [finv]
 have t : ∀ n : Nat, turn (gi x) n < 256 := fun n => turn_lt hi
 have e1 : fturn ((gi x : Nat) : Int) 1 = (turn (gi x) 1 : Nat) := fturn_nat _ 1
 have e2 : fturn ((gi x : Nat) : Int) 2 = (turn (gi x) 2 : Nat) := fturn_nat _ 2
 have e3 : fturn ((gi x : Nat) : Int) 3 = (turn (gi x) 3 : Nat) := fturn_nat _ 3
 have e4 : fturn ((gi x : Nat) : Int) 4 = (turn (gi x) 4 : Nat) := fturn_nat _ 4
 have e5 : ∀ y : Nat, y < 256 → bxor .u8 (y : Int) 99 = ((y ^^^ 99 : Nat) : Int) := fun y hy => bxor_u8 (b := 99) hy (by omega)
 rw [e0, e1, e2, e3, e4, bxor_u8 hi (t 1), bxor_u8 (xor_lt hi (t 1)) (t 2), bxor_u8 (xor_lt (xor_lt hi (t 1)) (t 2)) (t 3), bxor_u8 (xor_lt (xor_lt (xor_lt hi (t 1)) (t 2)) (t 3)) (t 4), e5 _ (xor_lt (xor_lt (xor_lt (xor_lt hi (t 1)) (t 2)) (t 3)) (t 4))]
 exact ⟨ha, ⟨.of hi, ⟨by decide, by decide⟩⟩, ⟨.of hi, ⟨by decide, by decide⟩⟩, ⟨.of hi, ⟨by decide, by decide⟩⟩, ⟨.of hi, ⟨by decide, by decide⟩⟩, by simp [fsub, gs]⟩
theorem gam3_good : GoodG Tryd.prog gam3 := (gam2_good.ext good_sub ⟨_, Tryd.func47, by decide, by kernel_rfl⟩)
theorem gam4_good : GoodG Tryd.prog gam4 := gam3_good
theorem lget_intL (l : List Nat) (i : Nat) : lget (intL l) i = ((l.getD i 0 : Nat) : Int) := by
 simp only [lget, intL, List.getD_eq_getElem?_getD, List.getElem?_map]
 cases l[i]? <;> simp
theorem lset_intL (l : List Nat) (i v : Nat) : lset (intL l) i (v : Int) = intL (l.set i v) := by
 simp only [lset, intL, List.map_set]
theorem natL_intL (l : List Nat) : natL (intL l) = l := by
 simp [natL, intL, Function.comp_def]
structure ColN (l : List Nat) : Prop where
 len : l.length = 4
 all : ∀ x ∈ l, x < 256
theorem ColN.at {l : List Nat} (h : ColN l) (i : Nat) : l.getD i 0 < 256 := by
 rw [List.getD_eq_getElem?_getD]
 cases hq : l[i]? with
 | none => simp
 | some x => exact h.all x (List.mem_of_getElem? hq)
theorem ColN.set {l : List Nat} (h : ColN l) (i v : Nat) (hv : v < 256) : ColN (l.set i v) :=
  ⟨by simp [h.len], fun x hx => by rcases List.mem_or_eq_of_mem_set hx with h' | h'
                                   · exact h.all x h'
                                   · omega⟩
theorem col_nat {c : List Int} (h : FCol c) : ∃ l, ColN l ∧ c = intL l := by
 refine ⟨natL c, ⟨by simp [natL, h.len], fun x hx => ?_⟩, ?_⟩
 ·simp only [natL, List.mem_map] at hx
  obtain ⟨y, hy, rfl⟩ := hx
  have hb := h.all y hy
  have := hb.lo; have := hb.hi; omega
 ·simp only [intL, natL, List.map_map]
  symm
  rw [List.map_congr_left (g := id) fun y hy => by have := (h.all y hy).lo; simp; omega]
  simp
theorem ColN.col {l : List Nat} (h : ColN l) : FCol (intL l) := ⟨by simp [intL, h.len], fun x hx => by
 simp only [intL, List.mem_map] at hx
 obtain ⟨y, hy, rfl⟩ := hx
 exact .of (h.all y hy)⟩
theorem rot {r i : Nat} (hr : r < 4) (hi : i < 4) : rem (add .i64 (sub .i64 (i : Int) (r : Int)) 4) 4 = (((i + 4 - r) % 4 : Nat) : Int) := by
 rw [sub_i64 (by omega) (by omega), add_i64 (by omega) (by omega)]
 unfold rem
 rw [Int.tmod_eq_emod_of_nonneg (by omega)]
 omega
theorem ml_lt {c f : List Nat} (hf : ColN f) {r : Nat} : ∀ (d i s : Nat), s < 256 → ml c f r d i s < 256
 | 0, _, _, h => h
 | d + 1, i, s, h => ml_lt hf d _ _ (xor_lt h (gm_lt (hf.at _)))
theorem mix_l1 (R : AV → Mem → Prop) (c f : List Nat) (hc : ColN c) (hf : ColN f) (fuel r : Nat) (hr : r < 4) : ∀ (d : Nat) (x : List Nat), d ≤ 4 → ColN x →
  (mixd.l0 R (intL c) (intL f) fuel ((r + 1 : Nat) : Int) (intL (x.set r (ml c f r d (4 - d) (x.getD r 0))))) → mixd.l1 R (r : Int) (intL c) (intL f) (fuel + d + 1) ((4 - d : Nat) : Int) (intL x) := by
 intro d
 induction d with
 | zero =>
  intro x _ hx h
  rw [Nat.add_zero, mixd.l1_succ]
  refine ⟨fun q => ?_, fun _ => ?_⟩
  ·rw [ilt_true] at q; omega
  ·rw [add_i64 (by omega) (by omega)]
   have e : x.set r (ml c f r 0 (4 - 0) (x.getD r 0)) = x := by
    simp only [ml]
    apply List.ext_getElem (by simp)
    intro j h1 h2
    rw [List.getElem_set]
    split
    ·rename_i q; subst q; simp [List.getD_eq_getElem?_getD, List.getElem?_eq_getElem h2]
    ·rfl
   rw [e] at h
   exact h
 | succ d ih =>
  intro x hd hx h
  rw [show fuel + (d + 1) + 1 = (fuel + d + 1) + 1 by omega, mixd.l1_succ]
  have hi : 4 - (d + 1) < 4 := by omega
  rw [rot hr hi]
  simp only [nadd, nat, Int.toNat_natCast, Nat.zero_add, lget_intL]
  have e1 : fmul ((f.getD ((4 - (d + 1) + 4 - r) % 4) 0 : Nat) : Int) ((c.getD (4 - (d + 1)) 0 : Nat) : Int) = (gm (f.getD ((4 - (d + 1) + 4 - r) % 4) 0) (c.getD (4 - (d + 1)) 0) : Nat) := by simp [fmul]
  rw [e1, bxor_u8 (hx.at r) (gm_lt (hf.at _)), lset_intL, add_i64 (by omega) (by omega)]
  refine ⟨fun _ => ⟨⟨by omega, by omega⟩, ⟨by omega⟩, ⟨by decide⟩, ⟨by omega, by omega⟩, ⟨by omega⟩, ⟨by omega, by omega⟩, ⟨by omega⟩, ⟨.of (hf.at _), .of (hc.at _)⟩, ⟨by omega, by omega⟩, ⟨by omega⟩, ?_⟩, fun q => ?_⟩
  ·rw [show ((4 - (d + 1) : Nat) : Int) + 1 = ((4 - d : Nat) : Int) by omega]
   refine ih _ (by omega) (hx.set _ _ (xor_lt (hx.at r) (gm_lt (hf.at _)))) ?_
   rw [List.set_set]
   have e2 : (x.set r (x.getD r 0 ^^^ gm (f.getD ((4 - (d + 1) + 4 - r) % 4) 0) (c.getD (4 - (d + 1)) 0))).getD r 0 = x.getD r 0 ^^^ gm (f.getD ((4 - (d + 1) + 4 - r) % 4) 0) (c.getD (4 - (d + 1)) 0) := by
    simp [List.getD_eq_getElem?_getD, hx.len, hr]
   rw [e2]
   simp only [ml] at h
   rw [show 4 - (d + 1) + 1 = 4 - d by omega] at h
   exact h
  ·rw [ilt_false] at q; omega
theorem mix_l0 (R : AV → Mem → Prop) (c f x : List Nat) (hc : ColN c) (hf : ColN f) {r : Nat} (hr : r < 4) (hx : ColN x) (fuel : Nat) (h : mixd.l0 R (intL c) (intL f) fuel ((r + 1 : Nat) : Int) (intL (x.set r (ml c f r 4 0 (x.getD r 0))))) :
  mixd.l0 R (intL c) (intL f) (fuel + 6) (r : Int) (intL x) := by
 rw [mixd.l0_succ]
 refine ⟨fun _ => mix_l1 R c f hc hf fuel r hr 4 x (by omega) hx h, fun q => ?_⟩
 rw [ilt_false] at q; omega
theorem mix_all (v : AV) (c f : List Nat) (hc : ColN c) (hf : ColN f) (hv : v = .agg [.ints .u8 4 (intL (mixN c f))]) : mixd.l0 (fun av' _ => av' = v) (intL c) (intL f) 25 0 (intL [0, 0, 0, 0]) := by
 have z : ColN [0, 0, 0, 0] := ⟨rfl, by simp⟩
 have l := fun r s (hs : s < 256) => ml_lt (c := c) hf (r := r) 4 0 s hs
 have s1 := z.set 0 _ (l 0 _ (z.at 0))
 have s2 := s1.set 1 _ (l 1 _ (s1.at 1))
 have s3 := s2.set 2 _ (l 2 _ (s2.at 2))
 refine mix_l0 _ c f _ hc hf (r := 0) (by omega) z 19 (mix_l0 _ c f _ hc hf (r := 1) (by omega) s1 13 (mix_l0 _ c f _ hc hf (r := 2) (by omega) s2 7 (mix_l0 _ c f _ hc hf (r := 3) (by omega) s3 1 ?_)))
 rw [mixd.l0_succ]
 refine ⟨fun q => ?_, fun _ => ?_⟩
 ·rw [ilt_true] at q; omega
 ·rw [hv]; rfl
theorem good_mixed : Sx.Good Tryd.prog 79 mixS := by
 refine Sx.Good.pure (D := []) mixed gam4_good Tryd.func79 (by kernel_rfl) rfl fun d args σ K h => ?_
 simp only [mixS] at h
 split at h <;> try exact h.elim
 rename_i c f
 obtain ⟨⟨hc, hf⟩, hK⟩ := h
 obtain ⟨c, hc', rfl⟩ := col_nat hc
 obtain ⟨f, hf', rfl⟩ := col_nat hf
 refine ⟨by simp [plain_ints], _, plain_ints _ _ _, hK, 25 + 1, ?_⟩
 rw [mixd_vc]
 exact mix_all _ c f hc' hf' (by simp [fmix, natL_intL])
theorem gam5_good : GoodG Tryd.prog gam5 := gam4_good.ext good_mixed ⟨_, Tryd.func79, by decide, by kernel_rfl⟩
theorem col_of {a b c d : Nat} (h : a < 256 ∧ b < 256 ∧ c < 256 ∧ d < 256) : FCol [(a : Int), b, c, d] :=
 ColN.col (l := [a, b, c, d]) ⟨rfl, fun x hx => by simp at hx; rcases hx with rfl | rfl | rfl | rfl <;> omega⟩
theorem good_column : Sx.Good Tryd.prog 68 (colS [2, 3, 1, 1]) := by
 refine Sx.Good.pure (D := []) mixed gam5_good Tryd.func68 (by kernel_rfl) rfl fun d args σ K h => ?_
 simp only [colS] at h
 split at h <;> try exact h.elim
 rename_i c
 obtain ⟨hc, hK⟩ := h
 refine ⟨by simp [plain_ints], _, plain_ints _ _ _, hK, 0 + 1, ?_⟩
 rw [Column_vc]
 exact ⟨⟨by decide⟩, ⟨by decide⟩, ⟨by decide⟩, ⟨by decide⟩, ⟨hc, col_of (a := 2) (b := 3) (c := 1) (d := 1) (by decide)⟩, rfl⟩
theorem gam6_good : GoodG Tryd.prog gam6 := (gam4_good.ext good_column ⟨_, Tryd.func68, by decide, by kernel_rfl⟩)
end Go.Proofs.YtienfecnkglilaaDoor.G
namespace Go.Proofs.YtienfecnkglilaaDoor.G
open Go Go.Sx Go.Fld Go.Blk
theorem good_with : Sx.Good Tryd.prog 64 withS := by
 refine Sx.Good.pure (D := []) mixed (good0 _) Tryd.func64 (by kernel_rfl) rfl fun d args σ K h => ?_
 simp only [withS] at h
 split at h <;> try exact h.elim
 rename_i b k
 obtain ⟨⟨hb, hk⟩, hK⟩ := h
 refine ⟨by simp [plain_ints], _, plain_ints _ _ _, hK, 16 + 1 + 1, ?_⟩
 rw [bwith_vc]
 have key := loop_up0 (fun f i s => bwith.l0 (fun av' _ => av' = .agg [.ints .u8 16 (qx b k)]) k f i s) 16 (fun i => upto 16 i (fun j => bxor .u8 (lget b j) (lget k j)) (lget b))
  (fun f i hi h => by
   rw [bwith.l0_succ]
   refine ⟨fun _ => ?_, fun q => ?_⟩
   ·simp only [InB_iff, Low_iff, nat_cast, nadd_def, Nat.zero_add]
    refine ⟨by omega, hi, by omega, hi, by omega, hi, ?_⟩
    rw [add1_i64 (by omega), upto_hi (Nat.le_refl _) hi, upto_lset rfl]
    exact h
   ·rw [ilt_false] at q; omega)
  (fun f => by
   rw [bwith.l0_succ]
   refine ⟨fun q => ?_, fun _ => ?_⟩
   ·rw [ilt_true] at q; omega
   ·rw [upto_done]; rfl) 0
 rw [upto_zero, ← hb.eq] at key
 exact key
theorem eachS_run {R : AV → Mem → Prop} {b : List Int} (hb : BL 16 b) (m : Nat) (h : ∀ σ, R (.agg [.ints .u8 16 (qe fsub b)]) σ) : eachS.l0 R (16 + 1 + m) 0 b := by
 have key := loop_up0 (fun f i s => eachS.l0 R f i s) 16 (fun i => upto 16 i (fun j => fsub (lget b j)) (lget b))
  (fun f i hi h => by
   rw [eachS.l0_succ]
   refine ⟨fun _ => ?_, fun q => ?_⟩
   ·simp only [InB_iff, Low_iff, nat_cast, nadd_def, Nat.zero_add]
    rw [upto_hi (Nat.le_refl _) hi]
    refine ⟨by omega, hi, hb.get _, by omega, hi, ?_⟩
    rw [add1_i64 (by omega), upto_lset rfl]
    exact h
   ·rw [ilt_false] at q; omega)
  (fun f => by
   rw [eachS.l0_succ]
   refine ⟨fun q => ?_, fun _ => ?_⟩
   ·rw [ilt_true] at q; omega
   ·rw [upto_done]; exact h _) m
 rw [upto_zero, ← hb.eq] at key
 exact key
theorem eachT_run {R : AV → Mem → Prop} {b t : List Int} (hb : BL 16 b) (ht : Tbl t) (m : Nat) (h : ∀ σ, R (.agg [.ints .u8 16 (qe fsub b)]) σ) : eachT.l0 R t (16 + 1 + m) 0 b := by
 have key := loop_up0 (fun f i s => eachT.l0 R t f i s) 16 (fun i => upto 16 i (fun j => fsub (lget b j)) (lget b))
  (fun f i hi h => by
   rw [eachT.l0_succ]
   refine ⟨fun _ => ?_, fun q => ?_⟩
   ·simp only [InB_iff, Low_iff, nat_cast, nadd_def, Nat.zero_add]
    rw [upto_hi (Nat.le_refl _) hi]
    refine ⟨by omega, hi, ⟨hb.get _, ht⟩, by omega, hi, ?_⟩
    rw [add1_i64 (by omega), upto_lset rfl]
    exact h
   ·rw [ilt_false] at q; omega)
  (fun f => by
   rw [eachT.l0_succ]
   refine ⟨fun q => ?_, fun _ => ?_⟩
   ·rw [ilt_true] at q; omega
   ·rw [upto_done]; exact h _) m
 rw [upto_zero, ← hb.eq] at key
 exact key
theorem good_told : Sx.Good Tryd.prog 48 tblS := by
 refine Sx.Good.reads (D := []) mixed (good0 _) Tryd.func48 (by kernel_rfl) rfl fun d args σ K h => ?_
 simp only [tblS] at h
 split at h <;> try exact h.elim
 rename_i a n
 split at h <;> try exact h.elim
 rename_i b hn
 split at h <;> try exact h.elim
 rename_i t hs
 obtain ⟨⟨ha, ht⟩, hK⟩ := h
 obtain ⟨i, hi, rfl⟩ := ha.nat
 refine ⟨[.one (.int .u8 (i : Int)), .one (.ptr 200001 0 0)], [(200001, .view [.ints .u8 256 t])], .plain (plain_int _ _) (hs ▸ .ptr hn (by rw [hs]; intro m; rfl) (.nil _)), by simp, 0 + 1, ?_⟩
 rw [told_vc]
 simp only [InB_iff, Low_iff, nat_cast, nadd_def, Nat.zero_add]
 exact ⟨⟨by omega, by omega⟩, hi, res_int (ht.at_ i hi) hK⟩
theorem gamB1'_good : GoodG Tryd.prog (ext gam6 48 tblS) := gam6_good.ext good_told ⟨_, Tryd.func48, by decide, by kernel_rfl⟩
theorem colsC_run {R : AV → Mem → Prop} {b : List Int} (hb : BL 16 b) (m : Nat) (h : ∀ σ, R (.agg [.ints .u8 16 (qc [2, 3, 1, 1] b)]) σ) : colsC.l0 R (4 + 1 + m) 0 b := by
 have key := loop_by 4 (fun f i s => colsC.l0 R f i s) 4 (fun i => upto 16 (4 * i) (fun j => lget (fmix (lsub b (j / 4 * 4) 4) [2, 3, 1, 1]) (j % 4)) (lget b))
  (fun f i hi h => by
   rw [colsC.l0_succ]
   refine ⟨fun _ => ?_, fun q => ?_⟩
   ·have e0 : add .i64 ((4 * i : Nat) : Int) 4 = ((4 * (i + 1) : Nat) : Int) := by rw [add_i64 (by omega) (by omega)]; omega
    have el : lsub (upto 16 (4 * i) (fun j => lget (fmix (lsub b (j / 4 * 4) 4) [2, 3, 1, 1]) (j % 4)) (lget b)) (4 * i) 4 = lsub b (4 * i) 4 := by
     rw [upto, tab_lsub _ (by omega), hb.eq, tab_lsub _ (by omega)]
     refine tab_ext fun j hj => ?_
     rw [if_neg (by omega), ← hb.eq]
    have hc : FCol (lsub b (4 * i) 4) := by
     refine ⟨lsub_len _ _ _ (by rw [hb.len]; omega), fun x hx => hb.all x ?_⟩
     exact List.mem_of_mem_drop (List.mem_of_mem_take hx)
    have hl : (fmix (lsub b (4 * i) 4) [2, 3, 1, 1]).length = 4 := rfl
    simp only [InB_iff, Low_iff, Fits_iff, NonNeg_iff, nat_cast, nadd_def, nsub_def, Nat.zero_add, e0, el]
    refine ⟨⟨⟨by omega, by omega⟩, by omega, by omega⟩, by omega, by omega, hc, ⟨by omega, by omega⟩, by omega, by omega, ?_⟩
    have e1 : lsub (fmix (lsub b (4 * i) 4) [2, 3, 1, 1]) 0 4 = fmix (lsub b (4 * i) 4) [2, 3, 1, 1] := by
     have := lsub_all (fmix (lsub b (4 * i) 4) [2, 3, 1, 1]); rwa [hl] at this
    have e2 : nmin (llen (fmix (lsub b (4 * i) 4) [2, 3, 1, 1])) (16 - 4 * i) = 4 := by rw [llen_def, hl, nmin_def]; omega
    rw [e1, e2, e1, eq_tab hl, upto, tab_lput _ _ (by omega)]
    have e3 : (tab 16 fun j => if 4 * i ≤ j ∧ j < 4 * i + 4 then lget (fmix (lsub b (4 * i) 4) [2, 3, 1, 1]) (j - 4 * i) else if j < 4 * i then lget (fmix (lsub b (j / 4 * 4) 4) [2, 3, 1, 1]) (j % 4) else lget b j) = upto 16 (4 * (i + 1)) (fun j => lget (fmix (lsub b (j / 4 * 4) 4) [2, 3, 1, 1]) (j % 4)) (lget b) := by
     refine tab_ext fun j hj => ?_
     by_cases q1 : j < 4 * i
     ·rw [if_neg (by omega), if_pos q1, if_pos (by omega)]
     ·by_cases q2 : j < 4 * i + 4
      ·rw [if_pos ⟨by omega, q2⟩, if_pos (by omega)]; show _ = lget (fmix (lsub b (j / 4 * 4) 4) [2, 3, 1, 1]) (j % 4); rw [show j / 4 * 4 = 4 * i by omega, show j % 4 = j - 4 * i by omega]
      ·rw [if_neg (by omega), if_neg q1, if_neg (by omega)]
    rw [e3]
    exact h
   ·rw [ilt_false] at q; omega)
  (fun f => by
   rw [colsC.l0_succ]
   refine ⟨fun q => ?_, fun _ => ?_⟩
   ·rw [ilt_true] at q; omega
   ·show R (.agg [.ints .u8 16 (upto 16 16 _ _)]) _
    rw [upto_done]; exact h _) m
 rw [upto_zero, ← hb.eq] at key
 exact key
theorem turned_run {R : AV → Mem → Prop} {b : List Int} {n : Nat} (hb : BL 16 b) (hn : n < 4) (h : ∀ σ, R (.agg [.ints .u8 16 (qt n b)]) σ) : bturned.l0 R (n : Int) b (1 + 6 * 4) 0 (lzeros 16) := by
 have hs : ∀ g r, r < 4 → bturned.l0 R (n : Int) b g ((r + 1 : Nat) : Int) (tab 16 fun j => if j % 4 < r + 1 then lget b (4 * ((j / 4 + j % 4 * n) % 4) + j % 4) else 0) →
   bturned.l0 R (n : Int) b (g + 6) (r : Int) (tab 16 fun j => if j % 4 < r then lget b (4 * ((j / 4 + j % 4 * n) % 4) + j % 4) else 0) := by
  intro g r hr hg
  rw [bturned.l0_succ]
  refine ⟨fun _ => ?_, fun q => ?_⟩
  ·have key := loop_n (fun f i s => bturned.l1 R (n : Int) (r : Int) b f i s) 4 (fun c => tab 16 fun j => if j % 4 < r ∨ (j % 4 = r ∧ j / 4 < c) then lget b (4 * ((j / 4 + j % 4 * n) % 4) + j % 4) else 0) 1 (g + 1)
    (fun f c hc hf => by
     rw [bturned.l1_succ]
     refine ⟨fun _ => ?_, fun q => ?_⟩
     ·have hrn : r * n ≤ 9 := Nat.mul_le_mul (show r ≤ 3 by omega) (show n ≤ 3 by omega)
      have e1 : mul .i64 (r : Int) (n : Int) = ((r * n : Nat) : Int) := mulN_i64 (by omega)
      have e2 : add .i64 (c : Int) ((r * n : Nat) : Int) = ((c + r * n : Nat) : Int) := addN_i64 (by omega)
      have e3 : rem ((c + r * n : Nat) : Int) 4 = (((c + r * n) % 4 : Nat) : Int) := remN (b := 4)
      have e4 : mul .i64 4 (((c + r * n) % 4 : Nat) : Int) = ((4 * ((c + r * n) % 4) : Nat) : Int) := mulN_i64 (a := 4) (by omega)
      have e5 : add .i64 ((4 * ((c + r * n) % 4) : Nat) : Int) (r : Int) = ((4 * ((c + r * n) % 4) + r : Nat) : Int) := addN_i64 (by omega)
      have e6 : mul .i64 4 (c : Int) = ((4 * c : Nat) : Int) := mulN_i64 (a := 4) (by omega)
      have e7 : add .i64 ((4 * c : Nat) : Int) (r : Int) = ((4 * c + r : Nat) : Int) := addN_i64 (by omega)
      rw [e1, e2, e3, e4, e5, e6, e7]
      simp only [InB_iff, Low_iff, NeZ_iff, nat_cast, nadd_def, Nat.zero_add]
      refine ⟨by decide, ⟨by omega, by omega⟩, by omega, ⟨by omega, by omega⟩, by omega, ?_⟩
      rw [add1_i64 (by omega), tab_lset]
      have e8 : (tab 16 fun j => if j = 4 * c + r then lget b (4 * ((c + r * n) % 4) + r) else if j % 4 < r ∨ (j % 4 = r ∧ j / 4 < c) then lget b (4 * ((j / 4 + j % 4 * n) % 4) + j % 4) else 0) =
        tab 16 fun j => if j % 4 < r ∨ (j % 4 = r ∧ j / 4 < c + 1) then lget b (4 * ((j / 4 + j % 4 * n) % 4) + j % 4) else 0 := by
       refine tab_ext fun j hj => ?_
       by_cases q : j = 4 * c + r
       ·rw [if_pos q, if_pos (by omega), show j / 4 = c by omega, show j % 4 = r by omega]
       ·rw [if_neg q]
        by_cases q2 : j % 4 < r ∨ (j % 4 = r ∧ j / 4 < c)
        ·rw [if_pos q2, if_pos (by omega)]
        ·rw [if_neg q2, if_neg (by omega)]
      rw [e8]
      exact hf
     ·rw [ilt_false] at q; omega)
    (by
     rw [bturned.l1_succ]
     refine ⟨fun q => ?_, fun _ => ?_⟩
     ·rw [ilt_true] at q; omega
     ·rw [add1_i64 (by omega)]
      have : (tab 16 fun j => if j % 4 < r ∨ (j % 4 = r ∧ j / 4 < 4) then lget b (4 * ((j / 4 + j % 4 * n) % 4) + j % 4) else 0) = tab 16 fun j => if j % 4 < r + 1 then lget b (4 * ((j / 4 + j % 4 * n) % 4) + j % 4) else 0 := by
       refine tab_ext fun j hj => ?_
       by_cases q : j % 4 < r + 1
       ·rw [if_pos q, if_pos (by omega)]
       ·rw [if_neg q, if_neg (by omega)]
      rw [this]; exact hg) 0 (Nat.zero_le _)
   have e : (tab 16 fun j => if j % 4 < r ∨ (j % 4 = r ∧ j / 4 < 0) then lget b (4 * ((j / 4 + j % 4 * n) % 4) + j % 4) else 0) = tab 16 fun j => if j % 4 < r then lget b (4 * ((j / 4 + j % 4 * n) % 4) + j % 4) else 0 := by
    refine tab_ext fun j hj => ?_
    simp
   rw [e] at key
   exact key
  ·rw [ilt_false] at q; omega
 have key := loop_n (fun f i s => bturned.l0 R (n : Int) b f i s) 4 (fun r => tab 16 fun j => if j % 4 < r then lget b (4 * ((j / 4 + j % 4 * n) % 4) + j % 4) else 0) 6 1 hs
  (by
   rw [bturned.l0_succ]
   refine ⟨fun q => ?_, fun _ => ?_⟩
   ·rw [ilt_true] at q; omega
   ·have : (tab 16 fun j => if j % 4 < 4 then lget b (4 * ((j / 4 + j % 4 * n) % 4) + j % 4) else 0) = qt n b := tab_ext fun j hj => by rw [if_pos (by omega)]
    rw [this]; exact h _) 0 (Nat.zero_le _)
 rw [lzeros_tab]
 have e : (tab 16 fun j => if j % 4 < 0 then lget b (4 * ((j / 4 + j % 4 * n) % 4) + j % 4) else 0) = tab 16 fun _ => (0 : Int) := tab_ext fun j hj => by simp
 rw [e] at key
 exact key
theorem next_run {R : AV → Mem → Prop} (h : ∀ b σ, R (.agg [.ints .u8 16 b]) σ → True) {b0 : List Int} (hR : ∀ σ, R (.agg [.ints .u8 16 (up b0)]) σ) : ∀ (i : Nat) (b : List Int), i ≤ 16 → b.length = 16 → upN i b = up b0 → bnext.l0 R (i + 1) ((i : Int) - 1) b := by
 intro i
 induction i with
 | zero =>
  intro b _ _ e
  rw [bnext.l0_succ]
  refine ⟨fun q => ?_, fun _ => ?_⟩
  ·rw [ige_true] at q; omega
  ·rw [show b = up b0 from e]; exact hR _
 | succ i ih =>
  intro b hi hb e
  rw [bnext.l0_succ, show ((i + 1 : Nat) : Int) - 1 = (i : Int) by omega]
  refine ⟨fun _ => ?_, fun q => ?_⟩
  ·have hl : lget (lset b i (add .u8 (lget b i) 1)) i = add .u8 (lget b i) 1 := by
    simp [lget, lset, List.getD, hb, show i < 16 by omega]
   simp only [InB_iff, Low_iff, nat_cast, nadd_def, Nat.zero_add, hl]
   refine ⟨by omega, by omega, by omega, by omega, by omega, by omega, fun q => ?_, fun q => ?_⟩
   ·rw [ine_true] at q
    rw [upN, if_neg q] at e
    rw [e]; exact hR _
   ·rw [ine_false] at q
    rw [upN, if_pos q] at e
    rw [sub_i64 (by omega) (by omega)]
    exact ih _ (by omega) (by simp [lset, hb]) e
  ·rw [ige_false] at q; omega
def kp (key : List Int) (p : Nat) : Int := kw key (p / 4) (p % 4)
theorem kp_word (key : List Int) (i j : Nat) (h : j < 4) : kp key (4 * i + j) = kw key i j := by
 unfold kp; rw [show (4 * i + j) / 4 = i by omega, show (4 * i + j) % 4 = j by omega]
theorem new_l0 {R : AV → Mem → Prop} {b : List Int} (hb : BL 16 b) {f : Nat} (h : bNew.l1 R f 1 4 (upto 176 16 (kp b) fun _ => 0)) : bNew.l0 R b (f + 1 + 1 * 4) 0 (lzeros 176) := by
 have key := loop_n (fun f i s => bNew.l0 R b f i s) 4 (fun i => upto 176 (4 * i) (kp b) fun _ => 0) 1 (f + 1)
  (fun g i hi hg => by
   rw [bNew.l0_succ]
   refine ⟨fun _ => ?_, fun q => ?_⟩
   ·have e1 : mul .i64 4 (i : Int) = ((4 * i : Nat) : Int) := mulN_i64 (a := 4) (by omega)
    rw [e1]
    simp only [InB_iff, Low_iff, Fits_iff, NonNeg_iff, nat_cast, nadd_def, nsub_def, nmul_def, Nat.zero_add]
    refine ⟨by omega, ⟨by omega, by omega⟩, by omega, by omega, ?_⟩
    have e2 : lsub (lsub b (4 * i) (16 - 4 * i)) 0 (nmin (llen (lsub b (4 * i) (16 - 4 * i))) 4) = tab 4 (fun k => kp b (4 * i + k)) := by
     rw [llen_def, lsub_len _ _ _ (by rw [hb.len]; omega), nmin_def, show min (16 - 4 * i) 4 = 4 by omega, lsub_lsub _ _ _ _ _ (by omega), lsub_tabbed hb.len (by omega)]
     refine tab_ext fun k hk => ?_
     rw [kp_word _ _ _ hk, kw_lo _ _ hi, Nat.add_zero]
    rw [e2, add1_i64 (by omega), show i * 4 = 4 * i by omega, upto_lput rfl (by omega)]
    exact hg
   ·rw [ilt_false] at q; omega)
  (by
   rw [bNew.l0_succ]
   refine ⟨fun q => ?_, fun _ => ?_⟩
   ·rw [ilt_true] at q; omega
   ·exact h) 0 (Nat.zero_le _)
 rw [show upto 176 (4 * 0) (kp b) (fun _ => 0) = tab 176 (fun _ => 0) from upto_zero, ← lzeros_tab] at key
 exact key
theorem new_l4 {R : AV → Mem → Prop} {w : List Int} (hw : w.length = 176) {f : Nat} (h : ∀ σ, R (.agg [.ints .u8 176 w]) σ) : bNew.l4 R w (f + 1 + 1 * 44) 0 (lzeros 176) := by
 have key := loop_n (fun f i s => bNew.l4 R w f i s) 44 (fun i => upto 176 (4 * i) (lget w) fun _ => 0) 1 (f + 1)
  (fun g i hi hg => by
   rw [bNew.l4_succ]
   refine ⟨fun _ => ?_, fun q => ?_⟩
   ·have e1 : quo .i64 (i : Int) 4 = ((i / 4 : Nat) : Int) := quoN_i64 (b := 4) (by omega)
    have e2 : rem (i : Int) 4 = ((i % 4 : Nat) : Int) := remN (b := 4)
    have e3 : mul .i64 ((i % 4 : Nat) : Int) 4 = ((i % 4 * 4 : Nat) : Int) := mulN_i64 (b := 4) (by omega)
    rw [e1, e2, e3]
    simp only [InB_iff, Low_iff, Fits_iff, NonNeg_iff, NeZ_iff, nat_cast, nadd_def, nsub_def, nmul_def, Nat.zero_add]
    refine ⟨by omega, by decide, by omega, by decide, ⟨by omega, by omega⟩, by omega, by omega, ?_⟩
    have e4 : lsub (lsub (lsub w (i * 4) 4) 0 4) 0 (nmin (llen (lsub (lsub w (i * 4) 4) 0 4)) (16 - i % 4 * 4)) = tab 4 (fun k => lget w (4 * i + k)) := by
     have e5 : lsub (lsub w (i * 4) 4) 0 4 = lsub w (i * 4) 4 := lsub_lsub _ _ _ _ _ (by decide)
     rw [e5, llen_def, lsub_len _ _ _ (by omega), nmin_def, show min 4 (16 - i % 4 * 4) = 4 by omega, e5, lsub_tabbed hw (by omega)]
     exact tab_ext fun k hk => by rw [show i * 4 + k = 4 * i + k by omega]
    rw [e4, add1_i64 (by omega), show i / 4 * 16 + i % 4 * 4 = 4 * i by omega, upto_lput rfl (by omega)]
    exact hg
   ·rw [ilt_false] at q; omega)
  (by
   rw [bNew.l4_succ]
   refine ⟨fun q => ?_, fun _ => ?_⟩
   ·rw [ilt_true] at q; omega
   ·rw [show upto 176 (4 * 44) (lget w) (fun _ => 0) = tab 176 (lget w) from upto_done, ← eq_tab hw]; exact h _) 0 (Nat.zero_le _)
 rw [show upto 176 (4 * 0) (lget w) (fun _ => 0) = tab 176 (fun _ => 0) from upto_zero, ← lzeros_tab] at key
 exact key
theorem lset_word {key : List Int} {i j : Nat} {v : Int} (hj : j < 4) (hv : v = kw key i j) : lset (upto 176 (4 * i + j) (kp key) fun _ => 0) (4 * i + j) v = upto 176 (4 * i + (j + 1)) (kp key) fun _ => 0 := by
 rw [upto_lset (by rw [kp_word _ _ _ hj]; exact hv)]; rfl
theorem word_get {key : List Int} {n i j : Nat} (h : 4 * i + j < n) (hn : n ≤ 176) (hj : j < 4) : lget (upto 176 n (kp key) fun _ => 0) (4 * i + j) = kw key i j := by
 rw [upto_lo h hn, kp_word _ _ _ hj]
theorem word_sub {key : List Int} {n i : Nat} (h : 4 * i + 4 ≤ n) (hn : n ≤ 176) : lsub (upto 176 n (kp key) fun _ => 0) (i * 4) 4 = tab 4 (kw key i) := by
 rw [lsub_tabbed upto_len (by omega)]
 exact tab_ext fun j hj => by rw [show i * 4 + j = 4 * i + j by omega, word_get (by omega) hn hj]
theorem new_round {R : AV → Mem → Prop} {b : List Int} (hb : BL 16 b) (g i : Nat) (h4 : 4 ≤ i) (hi : i < 44) (h : bNew.l1 R g (rcon ((i + 1 - 1) / 4)) ((i + 1 : Nat) : Int) (upto 176 (4 * (i + 1)) (kp b) fun _ => 0)) :
  bNew.l1 R (g + 6) (rcon ((i - 1) / 4)) (i : Int) (upto 176 (4 * i) (kp b) fun _ => 0) := by
 have e1 : sub .i64 (i : Int) 1 = ((i - 1 : Nat) : Int) := subN_i64 (b := 1) (by omega) (by omega)
 have e4 : sub .i64 (i : Int) 4 = ((i - 4 : Nat) : Int) := subN_i64 (b := 4) (by omega) (by omega)
 have er : rem (i : Int) 4 = ((i % 4 : Nat) : Int) := remN (b := 4)
 have ew : lsub (upto 176 (4 * i) (kp b) fun _ => 0) ((i - 1) * 4) 4 = tab 4 (kw b (i - 1)) := word_sub (by omega) (by omega)
 rw [bNew.l1_succ]
 refine ⟨fun _ => ?_, fun q => ?_⟩
 ·rw [e1, er]
  simp only [InB_iff, Low_iff, Fits_iff, NonNeg_iff, NeZ_iff, nat_cast, nadd_def, nsub_def, nmul_def, Nat.zero_add, ew]
  refine ⟨by omega, by omega, by decide, fun q => ?_, fun q => ?_⟩
  ·rw [ieq_true] at q
   have q4 : i % 4 = 0 := by omega
   have hbw := fun j (hj : j < 4) => kw_byte hb (i - 1) j hj
   rw [tab_lget _ (by decide : 1 < 4), tab_lget _ (by decide : 2 < 4), tab_lget _ (by decide : 3 < 4), tab_lget _ (by decide : 0 < 4)]
   refine ⟨⟨by decide, by decide⟩, by decide, ⟨by decide, by decide⟩, by decide, ⟨by decide, by decide⟩, by decide, ⟨by decide, by decide⟩, by decide, hbw 1 (by decide), hbw 2 (by decide), hbw 3 (by decide), hbw 0 (by decide), by decide, by decide, by decide, by decide, ⟨⟨by decide, by decide⟩, rcon_byte _⟩, ?_⟩
   have key := loop_n (fun f j s => bNew.l2 R (rcon ((i - 1) / 4)) (i : Int) (upto 176 (4 * i) (kp b) fun _ => 0) f j s) 4 (fun j => upto 176 (4 * i + j) (kp b) fun _ => 0) 1 (g + 1)
    (fun f j hj hf => by
     rw [bNew.l2_succ]
     refine ⟨fun _ => ?_, fun q => ?_⟩
     ·rw [e4, e1]
      simp only [InB_iff, Low_iff, Fits_iff, NonNeg_iff, NeZ_iff, nat_cast, nadd_def, nsub_def, nmul_def, Nat.zero_add]
      refine ⟨by omega, by omega, by omega, by omega, hj, by omega, by omega, by omega, ?_⟩
      have e : tab 4 (fun j => kt i (kw b (i - 1)) j) = lset (lset (lset (lset (lzeros 4) 0 (bxor IntKind.u8 (fsub (kw b (i - 1) 1)) (rcon ((i - 1) / 4)))) 1 (fsub (kw b (i - 1) 2))) 2 (fsub (kw b (i - 1) 3))) 3 (fsub (kw b (i - 1) 0)) := by
       simp only [tab, List.range_succ, List.range_zero, List.nil_append, List.map_cons, List.map_nil, List.cons_append, lset, lzeros, List.replicate, List.set, kt, q4, if_true, Nat.reduceEqDiff, if_false, Nat.reduceAdd, Nat.reduceMod]
       rw [show i / 4 - 1 = (i - 1) / 4 by omega]
      rw [ew, tab_lget _ (by decide : 1 < 4), tab_lget _ (by decide : 2 < 4), tab_lget _ (by decide : 3 < 4), tab_lget _ (by decide : 0 < 4), ← e, tab_lget _ hj]
      rw [show (i - 4) * 4 + j = 4 * (i - 4) + j by omega, show i * 4 + j = 4 * i + j by omega, word_get (by omega) (by omega) hj, lset_word hj (by rw [kw_hi _ h4 hj]), add1_i64 (by omega)]
      exact hf
     ·rw [ilt_false] at q; omega)
    (by
     rw [bNew.l2_succ]
     refine ⟨fun q => ?_, fun _ => ?_⟩
     ·rw [ilt_true] at q; omega
     ·rw [add1_i64 (by omega)]
      have : fmul 2 (rcon ((i - 1) / 4)) = rcon ((i + 1 - 1) / 4) := by
       rw [show (i + 1 - 1) / 4 = (i - 1) / 4 + 1 by omega]; rfl
      rw [this]; exact h) 0 (Nat.zero_le _)
   exact key
  ·rw [ieq_false] at q
   have q4 : ¬ i % 4 = 0 := by omega
   have key := loop_n (fun f j s => bNew.l3 R (rcon ((i - 1) / 4)) (i : Int) (upto 176 (4 * i) (kp b) fun _ => 0) f j s) 4 (fun j => upto 176 (4 * i + j) (kp b) fun _ => 0) 1 (g + 1)
    (fun f j hj hf => by
     rw [bNew.l3_succ]
     refine ⟨fun _ => ?_, fun q => ?_⟩
     ·rw [e4, e1]
      simp only [InB_iff, Low_iff, Fits_iff, NonNeg_iff, NeZ_iff, nat_cast, nadd_def, nsub_def, nmul_def, Nat.zero_add]
      refine ⟨by omega, by omega, by omega, by omega, hj, by omega, by omega, by omega, ?_⟩
      rw [ew, tab_lget _ hj, show (i - 4) * 4 + j = 4 * (i - 4) + j by omega, show i * 4 + j = 4 * i + j by omega, word_get (by omega) (by omega) hj, lset_word hj (by rw [kw_hi _ h4 hj]; unfold kt; rw [if_neg q4]), add1_i64 (by omega)]
      exact hf
     ·rw [ilt_false] at q; omega)
    (by
     rw [bNew.l3_succ]
     refine ⟨fun q => ?_, fun _ => ?_⟩
     ·rw [ilt_true] at q; omega
     ·rw [add1_i64 (by omega), show (i - 1) / 4 = (i + 1 - 1) / 4 by omega]; exact h) 0 (Nat.zero_le _)
   exact key
 ·rw [ilt_false] at q; omega
theorem new_l1 {R : AV → Mem → Prop} {b : List Int} (hb : BL 16 b) (h : ∀ σ, R (.agg [.ints .u8 176 (ks b)]) σ) : bNew.l1 R (0 + 1 + 1 * 44 + 1 + 6 * (44 - 4)) 1 4 (upto 176 16 (kp b) fun _ => 0) := by
 refine loop_from (fun f i s => bNew.l1 R f s.1 i s.2) 4 44 (fun i => (rcon ((i - 1) / 4), upto 176 (4 * i) (kp b) fun _ => 0)) 6 (0 + 1 + 1 * 44 + 1) (fun g i h4 hi hg => ?_) ?_ 4 (by decide) (by decide)
 ·exact new_round hb g i h4 hi hg
 ·rw [bNew.l1_succ]
  refine ⟨fun q => ?_, fun _ => ?_⟩
  ·rw [ilt_true] at q; omega
  ·show bNew.l4 R (upto 176 176 (kp b) fun _ => 0) _ _ _
   rw [upto_done]
   exact new_l4 (tab_len _ _) h
set_option maxRecDepth 100000
def rKeys.l1 (R : AV → Mem → Prop)  (fuel : Nat) (x2 x3 : Int) (x4 : List Int) : Prop := rN Tryd.prog gamB1 [] Tryd.f74 R fuel [kc Tryd.f74 [1,1,1,1,0,1,0,0],ki Tryd.f74 [1,1,1,1,0,1,0,0],.inBlock 2,kc Tryd.f74 [1,1,1,1,1]] (Uu::Uu::AV.one (AC.ptr 2 0 0)::AV.one (AC.ptr 3 0 0)::Uu::AV.one (AC.int IntKind.u8 x2)::Ii x3::(us 85 [Zz])) [(2,Blk.own 118 [Seg.ints IntKind.u8 176 (lzeros 176)]),(3,Blk.own 118 [Seg.ints IntKind.u8 176 x4])]
def rKeys.l0 (R : AV → Mem → Prop) (b : List Int) (fuel : Nat) (x0 : Int) (x1 : List Int) : Prop := rN Tryd.prog gamB1 [] Tryd.f74 R fuel [kc Tryd.f74 [1,1,0,1,0,0],ki Tryd.f74 [1,1,0,1,0,0],.inBlock 0,kc Tryd.f74 [1,1,1]] (Uu::AV.one (AC.ptr 1 0 0)::AV.one (AC.ptr 2 0 0)::AV.one (AC.ptr 3 0 0)::Ii x0::(zs 7 (us 9 (zs 72 [])))) [(1,Blk.own 37 [Seg.ints IntKind.u8 16 b]),(2,Blk.own 118 [Seg.ints IntKind.u8 176 (lzeros 176)]),(3,Blk.own 118 [Seg.ints IntKind.u8 176 x1])]
theorem rKeys.l1_succ (R : AV → Mem → Prop)  (fuel : Nat) (x2 x3 : Int) (x4 : List Int) : rKeys.l1 R  (fuel + 1) x2 x3 x4 = (((((ilt x3 176) = true) → ((InB (sub IntKind.i64 x3 4) 176) ∧ ((Low (nadd 0 (nat (sub IntKind.i64 x3 4))) 176) ∧ ((InB (sub IntKind.i64 x3 3) 176) ∧ ((Low (nadd 0 (nat (sub IntKind.i64 x3 3))) 176) ∧ ((InB (sub IntKind.i64 x3 2) 176) ∧ ((Low (nadd 0 (nat (sub IntKind.i64 x3 2))) 176) ∧ ((InB (sub IntKind.i64 x3 1) 176) ∧ ((Low (nadd 0 (nat (sub IntKind.i64 x3 1))) 176) ∧ ((NeZ 16) ∧ ((((ieq (rem x3 16) 0) = true) → ((InB (lget x4 (nadd 0 (nat (sub IntKind.i64 x3 3)))) 256) ∧ ((InB (lget x4 (nadd 0 (nat (sub IntKind.i64 x3 2)))) 256) ∧ ((InB (lget x4 (nadd 0 (nat (sub IntKind.i64 x3 1)))) 256) ∧ (let y5 : Int := (bxor IntKind.u8 (sget boxC (nat (lget x4 (nadd 0 (nat (sub IntKind.i64 x3 3)))))) x2); (let y6 : Int := (sget boxC (nat (lget x4 (nadd 0 (nat (sub IntKind.i64 x3 2)))))); (let y7 : Int := (sget boxC (nat (lget x4 (nadd 0 (nat (sub IntKind.i64 x3 1)))))); (let y8 : Int := (sget boxC (nat (lget x4 (nadd 0 (nat (sub IntKind.i64 x3 3)))))); ((InB (lget x4 (nadd 0 (nat (sub IntKind.i64 x3 4)))) 256) ∧ (let y9 : Int := (sget boxC (nat (lget x4 (nadd 0 (nat (sub IntKind.i64 x3 4)))))); ((Byte x2) ∧ ((InB (sub IntKind.i64 x3 16) 176) ∧ ((Low (nadd 0 (nat (sub IntKind.i64 x3 16))) 176) ∧ ((InB x3 176) ∧ ((Low (nadd 0 (nat x3)) 176) ∧ (let y10 : List Int := (lset x4 (nadd 0 (nat x3)) (bxor IntKind.u8 (lget x4 (nadd 0 (nat (sub IntKind.i64 x3 16)))) y5)); ((InB (sub IntKind.i64 x3 15) 176) ∧ ((Low (nadd 0 (nat (sub IntKind.i64 x3 15))) 176) ∧ ((InB (add IntKind.i64 x3 1) 176) ∧ ((Low (nadd 0 (nat (add IntKind.i64 x3 1))) 176) ∧ (let y11 : List Int := (lset y10 (nadd 0 (nat (add IntKind.i64 x3 1))) (bxor IntKind.u8 (lget y10 (nadd 0 (nat (sub IntKind.i64 x3 15)))) y6)); ((InB (sub IntKind.i64 x3 14) 176) ∧ ((Low (nadd 0 (nat (sub IntKind.i64 x3 14))) 176) ∧ ((InB (add IntKind.i64 x3 2) 176) ∧ ((Low (nadd 0 (nat (add IntKind.i64 x3 2))) 176) ∧ (let y12 : List Int := (lset y11 (nadd 0 (nat (add IntKind.i64 x3 2))) (bxor IntKind.u8 (lget y11 (nadd 0 (nat (sub IntKind.i64 x3 14)))) y7)); ((InB (sub IntKind.i64 x3 13) 176) ∧ ((Low (nadd 0 (nat (sub IntKind.i64 x3 13))) 176) ∧ ((InB (add IntKind.i64 x3 3) 176) ∧ ((Low (nadd 0 (nat (add IntKind.i64 x3 3))) 176) ∧ (let y13 : List Int := (lset y12 (nadd 0 (nat (add IntKind.i64 x3 3))) (bxor IntKind.u8 (lget y12 (nadd 0 (nat (sub IntKind.i64 x3 13)))) y9)); (rKeys.l1 R  fuel (fmul 2 x2) (add IntKind.i64 x3 4) y13)))))))))))))))))))))))))))))))) ∧ (((ieq (rem x3 16) 0) = false) → ((InB (sub IntKind.i64 x3 16) 176) ∧ ((Low (nadd 0 (nat (sub IntKind.i64 x3 16))) 176) ∧ ((InB x3 176) ∧ ((Low (nadd 0 (nat x3)) 176) ∧ (let y14 : Int := (bxor IntKind.u8 (lget x4 (nadd 0 (nat (sub IntKind.i64 x3 16)))) (lget x4 (nadd 0 (nat (sub IntKind.i64 x3 4))))); (let y15 : List Int := (lset x4 (nadd 0 (nat x3)) (bxor IntKind.u8 (lget x4 (nadd 0 (nat (sub IntKind.i64 x3 16)))) (lget x4 (nadd 0 (nat (sub IntKind.i64 x3 4)))))); ((InB (sub IntKind.i64 x3 15) 176) ∧ ((Low (nadd 0 (nat (sub IntKind.i64 x3 15))) 176) ∧ ((InB (add IntKind.i64 x3 1) 176) ∧ ((Low (nadd 0 (nat (add IntKind.i64 x3 1))) 176) ∧ (let y16 : Int := (bxor IntKind.u8 (lget y15 (nadd 0 (nat (sub IntKind.i64 x3 15)))) (lget x4 (nadd 0 (nat (sub IntKind.i64 x3 3))))); (let y17 : List Int := (lset y15 (nadd 0 (nat (add IntKind.i64 x3 1))) (bxor IntKind.u8 (lget y15 (nadd 0 (nat (sub IntKind.i64 x3 15)))) (lget x4 (nadd 0 (nat (sub IntKind.i64 x3 3)))))); ((InB (sub IntKind.i64 x3 14) 176) ∧ ((Low (nadd 0 (nat (sub IntKind.i64 x3 14))) 176) ∧ ((InB (add IntKind.i64 x3 2) 176) ∧ ((Low (nadd 0 (nat (add IntKind.i64 x3 2))) 176) ∧ (let y18 : Int := (bxor IntKind.u8 (lget y17 (nadd 0 (nat (sub IntKind.i64 x3 14)))) (lget x4 (nadd 0 (nat (sub IntKind.i64 x3 2))))); (let y19 : List Int := (lset y17 (nadd 0 (nat (add IntKind.i64 x3 2))) (bxor IntKind.u8 (lget y17 (nadd 0 (nat (sub IntKind.i64 x3 14)))) (lget x4 (nadd 0 (nat (sub IntKind.i64 x3 2)))))); ((InB (sub IntKind.i64 x3 13) 176) ∧ ((Low (nadd 0 (nat (sub IntKind.i64 x3 13))) 176) ∧ ((InB (add IntKind.i64 x3 3) 176) ∧ ((Low (nadd 0 (nat (add IntKind.i64 x3 3))) 176) ∧ (let y20 : Int := (bxor IntKind.u8 (lget y19 (nadd 0 (nat (sub IntKind.i64 x3 13)))) (lget x4 (nadd 0 (nat (sub IntKind.i64 x3 1))))); (let y21 : List Int := (lset y19 (nadd 0 (nat (add IntKind.i64 x3 3))) (bxor IntKind.u8 (lget y19 (nadd 0 (nat (sub IntKind.i64 x3 13)))) (lget x4 (nadd 0 (nat (sub IntKind.i64 x3 1)))))); (rKeys.l1 R  fuel x2 (add IntKind.i64 x3 4) y21))))))))))))))))))))))))))))))))))))) ∧ (((ilt x3 176) = false) → (R (AV.agg [Seg.ints IntKind.u8 176 x4]) [(2,Blk.own 118 [Seg.ints IntKind.u8 176 x4]),(3,Blk.own 118 [Seg.ints IntKind.u8 176 x4])])))) := by kernel_rfl
theorem rKeys.l0_succ (R : AV → Mem → Prop) (b : List Int) (fuel : Nat) (x0 : Int) (x1 : List Int) : rKeys.l0 R b (fuel + 1) x0 x1 = (((((ilt x0 16) = true) → ((InB x0 16) ∧ ((Low (nadd 0 (nat x0)) 16) ∧ ((InB x0 176) ∧ ((Low (nadd 0 (nat x0)) 176) ∧ (rKeys.l0 R b fuel (add IntKind.i64 x0 1) (lset x1 (nadd 0 (nat x0)) (lget b (nadd 0 (nat x0)))))))))) ∧ (((ilt x0 16) = false) → (rKeys.l1 R  fuel 1 16 x1)))) := by kernel_rfl
theorem rKeys_vc (R : AV → Mem → Prop) (fuel : Nat) (b : List Int) : callsx Tryd.prog gamB1 [] Tryd.f74 (fuel + 1) [.agg [.ints .u8 16 b]] [] R = ((rKeys.l0 R b fuel 0 (lzeros 176))) := by kernel_rfl
theorem rtwice_vc (R : AV → Mem → Prop) (fuel : Nat) (b : Int) : callsx Tryd.prog gam0 [] Tryd.f81 (fuel + 1) [.one (.int .u8 b)] [] R = (((((ige b 128) = true) → ((NonNeg 1) ∧ (R (AV.one (AC.int IntKind.u8 (bxor IntKind.u8 (shl IntKind.u8 b 1) 27))) []))) ∧ (((ige b 128) = false) → ((NonNeg 1) ∧ (R (AV.one (AC.int IntKind.u8 (shl IntKind.u8 b 1))) []))))) := by kernel_rfl
def radded.l0 (R : AV → Mem → Prop) (i : Int) (k : List Int) (fuel : Nat) (x0 : Int) (x1 : List Int) : Prop := rN Tryd.prog gam0 [] Tryd.f82 R fuel [kc Tryd.f82 [1,0,1,0,0],ki Tryd.f82 [1,0,1,0,0],.inBlock 0,kc Tryd.f82 [1,1]] (Uu::Uu::Ii i::AV.one (AC.ptr 3 0 0)::AV.one (AC.ptr 4 0 0)::Uu::AV.one (AC.ptr 6 0 0)::Ii x0::(us 15 [Zz])) [(3,Blk.own 37 [Seg.ints IntKind.u8 16 x1]),(4,Blk.own 118 [Seg.ints IntKind.u8 176 k]),(6,Blk.own 37 [Seg.ints IntKind.u8 16 (lzeros 16)])]
theorem radded.l0_succ (R : AV → Mem → Prop) (i : Int) (k : List Int) (fuel : Nat) (x0 : Int) (x1 : List Int) : radded.l0 R i k (fuel + 1) x0 x1 = (((((ilt x0 16) = true) → ((InB x0 16) ∧ ((Low (nadd 0 (nat x0)) 16) ∧ ((InB (add IntKind.i64 (mul IntKind.i64 16 i) x0) 176) ∧ ((Low (nadd 0 (nat (add IntKind.i64 (mul IntKind.i64 16 i) x0))) 176) ∧ ((InB x0 16) ∧ ((Low (nadd 0 (nat x0)) 16) ∧ (let y2 : Int := (bxor IntKind.u8 (lget x1 (nadd 0 (nat x0))) (lget k (nadd 0 (nat (add IntKind.i64 (mul IntKind.i64 16 i) x0))))); (let y3 : List Int := (lset x1 (nadd 0 (nat x0)) (bxor IntKind.u8 (lget x1 (nadd 0 (nat x0))) (lget k (nadd 0 (nat (add IntKind.i64 (mul IntKind.i64 16 i) x0)))))); (radded.l0 R i k fuel (add IntKind.i64 x0 1) y3)))))))))) ∧ (((ilt x0 16) = false) → (R (AV.agg [Seg.ints IntKind.u8 16 x1]) [(3,Blk.own 37 [Seg.ints IntKind.u8 16 x1]),(4,Blk.own 118 [Seg.ints IntKind.u8 176 k]),(6,Blk.own 37 [Seg.ints IntKind.u8 16 x1])])))) := by kernel_rfl
theorem radded_vc (R : AV → Mem → Prop) (fuel : Nat) (b : List Int) (k : List Int) (i : Int) : callsx Tryd.prog gam0 [] Tryd.f82 (fuel + 1) [.agg [.ints .u8 16 b], .agg [.ints .u8 176 k], .one (.int .i64 i)] [] R = ((radded.l0 R i k fuel 0 b)) := by kernel_rfl
def rmixed.l1 (R : AV → Mem → Prop) (x0 y2 : Int) (b : List Int) (y3 : Int) (fuel : Nat) (x4 : Int) (x5 : List Int) : Prop := rN Tryd.prog gamB1 [] Tryd.f83 R fuel [kc Tryd.f83 [1,1,0,1,0,0,1,0,0,1,1,0,0],ki Tryd.f83 [1,1,0,1,0,0,1,0,0,1,1,0,0],.inBlock 2,.inBlock 1,kc Tryd.f83 [1,1,0,1,0,0,1,1],ki Tryd.f83 [1,1,0,1,0,0],.inBlock 0,kc Tryd.f83 [1,1,1]] (Uu::AV.one (AC.ptr 1 0 0)::AV.one (AC.ptr 2 0 0)::AV.one (AC.ptr 3 0 0)::Ii x0::AV.one (AC.int IntKind.u8 y2)::Ii x4::Ii x0::Ll true::Uu::Uu::Ii x0::AV.one (AC.ptr 1 0 (nadd 0 (nat x0)))::AV.one (AC.int IntKind.u8 (lget b (nadd 0 (nat x0))))::Ii x0::Ii (add IntKind.i64 x0 1)::AV.one (AC.ptr 1 0 (nadd 0 (nat (add IntKind.i64 x0 1))))::AV.one (AC.int IntKind.u8 (lget b (nadd 0 (nat (add IntKind.i64 x0 1)))))::AV.one (AC.int IntKind.u8 (bxor IntKind.u8 (lget b (nadd 0 (nat x0))) (lget b (nadd 0 (nat (add IntKind.i64 x0 1))))))::Ii x0::Ii (add IntKind.i64 x0 2)::AV.one (AC.ptr 1 0 (nadd 0 (nat (add IntKind.i64 x0 2))))::AV.one (AC.int IntKind.u8 (lget b (nadd 0 (nat (add IntKind.i64 x0 2)))))::AV.one (AC.int IntKind.u8 y3)::Ii x0::Ii (add IntKind.i64 x0 3)::AV.one (AC.ptr 1 0 (nadd 0 (nat (add IntKind.i64 x0 3))))::AV.one (AC.int IntKind.u8 (lget b (nadd 0 (nat (add IntKind.i64 x0 3)))))::AV.one (AC.int IntKind.u8 y2)::(us 30 [Zz])) [(1,Blk.own 37 [Seg.ints IntKind.u8 16 b]),(2,Blk.own 37 [Seg.ints IntKind.u8 16 (lzeros 16)]),(3,Blk.own 37 [Seg.ints IntKind.u8 16 x5])]
def rmixed.l0 (R : AV → Mem → Prop) (b : List Int) (fuel : Nat) (x0 : Int) (x1 : List Int) : Prop := rN Tryd.prog gamB1 [] Tryd.f83 R fuel [kc Tryd.f83 [1,1,0,1,0,0],ki Tryd.f83 [1,1,0,1,0,0],.inBlock 0,kc Tryd.f83 [1,1,1]] (Uu::AV.one (AC.ptr 1 0 0)::AV.one (AC.ptr 2 0 0)::AV.one (AC.ptr 3 0 0)::Ii x0::(us 54 [Zz])) [(1,Blk.own 37 [Seg.ints IntKind.u8 16 b]),(2,Blk.own 37 [Seg.ints IntKind.u8 16 (lzeros 16)]),(3,Blk.own 37 [Seg.ints IntKind.u8 16 x1])]
theorem rmixed.l1_succ (R : AV → Mem → Prop) (x0 y2 : Int) (b : List Int) (y3 : Int) (fuel : Nat) (x4 : Int) (x5 : List Int) : rmixed.l1 R x0 y2 b y3 (fuel + 1) x4 x5 = (((((ilt x4 4) = true) → ((InB (add IntKind.i64 x0 x4) 16) ∧ ((Low (nadd 0 (nat (add IntKind.i64 x0 x4))) 16) ∧ ((InB (add IntKind.i64 x0 x4) 16) ∧ ((Low (nadd 0 (nat (add IntKind.i64 x0 x4))) 16) ∧ ((NeZ 4) ∧ ((InB (add IntKind.i64 x0 (rem (add IntKind.i64 x4 1) 4)) 16) ∧ ((Low (nadd 0 (nat (add IntKind.i64 x0 (rem (add IntKind.i64 x4 1) 4)))) 16) ∧ ((Byte (bxor IntKind.u8 (lget b (nadd 0 (nat (add IntKind.i64 x0 x4)))) (lget b (nadd 0 (nat (add IntKind.i64 x0 (rem (add IntKind.i64 x4 1) 4))))))) ∧ ((InB (add IntKind.i64 x0 x4) 16) ∧ ((Low (nadd 0 (nat (add IntKind.i64 x0 x4))) 16) ∧ (let y6 : Int := (bxor IntKind.u8 (lget b (nadd 0 (nat (add IntKind.i64 x0 x4)))) (lget b (nadd 0 (nat (add IntKind.i64 x0 (rem (add IntKind.i64 x4 1) 4)))))); (let y7 : Int := (fmul 2 (bxor IntKind.u8 (lget b (nadd 0 (nat (add IntKind.i64 x0 x4)))) (lget b (nadd 0 (nat (add IntKind.i64 x0 (rem (add IntKind.i64 x4 1) 4))))))); (let y8 : Int := (bxor IntKind.u8 (bxor IntKind.u8 (lget b (nadd 0 (nat (add IntKind.i64 x0 x4)))) y2) (fmul 2 (bxor IntKind.u8 (lget b (nadd 0 (nat (add IntKind.i64 x0 x4)))) (lget b (nadd 0 (nat (add IntKind.i64 x0 (rem (add IntKind.i64 x4 1) 4)))))))); (let y9 : List Int := (lset x5 (nadd 0 (nat (add IntKind.i64 x0 x4))) (bxor IntKind.u8 (bxor IntKind.u8 (lget b (nadd 0 (nat (add IntKind.i64 x0 x4)))) y2) (fmul 2 (bxor IntKind.u8 (lget b (nadd 0 (nat (add IntKind.i64 x0 x4)))) (lget b (nadd 0 (nat (add IntKind.i64 x0 (rem (add IntKind.i64 x4 1) 4))))))))); (rmixed.l1 R x0 y2 b y3 fuel (add IntKind.i64 x4 1) y9)))))))))))))))) ∧ (((ilt x4 4) = false) → (rmixed.l0 R b fuel (add IntKind.i64 x0 4) x5)))) := by kernel_rfl
theorem rmixed.l0_succ (R : AV → Mem → Prop) (b : List Int) (fuel : Nat) (x0 : Int) (x1 : List Int) : rmixed.l0 R b (fuel + 1) x0 x1 = (((((ilt x0 16) = true) → ((InB x0 16) ∧ ((Low (nadd 0 (nat x0)) 16) ∧ ((InB (add IntKind.i64 x0 1) 16) ∧ ((Low (nadd 0 (nat (add IntKind.i64 x0 1))) 16) ∧ ((InB (add IntKind.i64 x0 2) 16) ∧ ((Low (nadd 0 (nat (add IntKind.i64 x0 2))) 16) ∧ ((InB (add IntKind.i64 x0 3) 16) ∧ ((Low (nadd 0 (nat (add IntKind.i64 x0 3))) 16) ∧ (let y2 : Int := (bxor IntKind.u8 (bxor IntKind.u8 (bxor IntKind.u8 (lget b (nadd 0 (nat x0))) (lget b (nadd 0 (nat (add IntKind.i64 x0 1))))) (lget b (nadd 0 (nat (add IntKind.i64 x0 2))))) (lget b (nadd 0 (nat (add IntKind.i64 x0 3))))); (let y3 : Int := (bxor IntKind.u8 (bxor IntKind.u8 (lget b (nadd 0 (nat x0))) (lget b (nadd 0 (nat (add IntKind.i64 x0 1))))) (lget b (nadd 0 (nat (add IntKind.i64 x0 2))))); (rmixed.l1 R x0 y2 b y3 fuel 0 x1)))))))))))) ∧ (((ilt x0 16) = false) → (R (AV.agg [Seg.ints IntKind.u8 16 x1]) [(1,Blk.own 37 [Seg.ints IntKind.u8 16 b]),(2,Blk.own 37 [Seg.ints IntKind.u8 16 x1]),(3,Blk.own 37 [Seg.ints IntKind.u8 16 x1])])))) := by kernel_rfl
theorem rmixed_vc (R : AV → Mem → Prop) (fuel : Nat) (b : List Int) : callsx Tryd.prog gamB1 [] Tryd.f83 (fuel + 1) [.agg [.ints .u8 16 b]] [] R = ((rmixed.l0 R b fuel 0 (lzeros 16))) := by kernel_rfl
def rnext.l0 (R : AV → Mem → Prop)  (fuel : Nat) (x0 : Int) (x1 : List Int) : Prop := rN Tryd.prog gam0 [] Tryd.f76 R fuel [kc Tryd.f76 [1,0,1,0,0],ki Tryd.f76 [1,0,1,0,0],.inBlock 0,kc Tryd.f76 [1,1]] (Uu::AV.one (AC.ptr 1 0 0)::AV.one (AC.ptr 2 0 0)::Ii x0::(us 14 [Zz])) [(1,Blk.own 37 [Seg.ints IntKind.u8 16 x1]),(2,Blk.own 37 [Seg.ints IntKind.u8 16 (lzeros 16)])]
theorem rnext.l0_succ (R : AV → Mem → Prop)  (fuel : Nat) (x0 : Int) (x1 : List Int) : rnext.l0 R  (fuel + 1) x0 x1 = (((((ige x0 0) = true) → ((InB x0 16) ∧ ((Low (nadd 0 (nat x0)) 16) ∧ ((InB x0 16) ∧ ((Low (nadd 0 (nat x0)) 16) ∧ ((InB x0 16) ∧ ((Low (nadd 0 (nat x0)) 16) ∧ (let y2 : Int := (lget (lset x1 (nadd 0 (nat x0)) (add IntKind.u8 (lget x1 (nadd 0 (nat x0))) 1)) (nadd 0 (nat x0))); (let y3 : Bool := (ine (lget (lset x1 (nadd 0 (nat x0)) (add IntKind.u8 (lget x1 (nadd 0 (nat x0))) 1)) (nadd 0 (nat x0))) 0); (((y3 = true) → (R (AV.agg [Seg.ints IntKind.u8 16 (lset x1 (nadd 0 (nat x0)) (add IntKind.u8 (lget x1 (nadd 0 (nat x0))) 1))]) [(1,Blk.own 37 [Seg.ints IntKind.u8 16 (lset x1 (nadd 0 (nat x0)) (add IntKind.u8 (lget x1 (nadd 0 (nat x0))) 1))]),(2,Blk.own 37 [Seg.ints IntKind.u8 16 (lset x1 (nadd 0 (nat x0)) (add IntKind.u8 (lget x1 (nadd 0 (nat x0))) 1))])])) ∧ ((y3 = false) → (rnext.l0 R  fuel (sub IntKind.i64 x0 1) (lset x1 (nadd 0 (nat x0)) (add IntKind.u8 (lget x1 (nadd 0 (nat x0))) 1)))))))))))))) ∧ (((ige x0 0) = false) → (R (AV.agg [Seg.ints IntKind.u8 16 x1]) [(1,Blk.own 37 [Seg.ints IntKind.u8 16 x1]),(2,Blk.own 37 [Seg.ints IntKind.u8 16 x1])])))) := by kernel_rfl
theorem rnext_vc (R : AV → Mem → Prop) (fuel : Nat) (b : List Int) : callsx Tryd.prog gam0 [] Tryd.f76 (fuel + 1) [.agg [.ints .u8 16 b]] [] R = ((rnext.l0 R  fuel 15 b)) := by kernel_rfl
theorem plain_con (v : Value) : plainAV (.one (.con v)) := fun _ => rfl
theorem good_rtwice : Sx.Good Tryd.prog 81 twiceS := by
 refine Sx.Good.pure (D := []) mixed (good0 _) Tryd.func81 (by kernel_rfl) rfl fun d args σ K h => ?_
 simp only [twiceS] at h
 split at h <;> try exact h.elim
 rename_i b
 obtain ⟨hb, hK⟩ := h
 refine ⟨by simp [plain_int], _, plain_int _ _, hK, 0 + 1, ?_⟩
 rw [rtwice_vc]
 obtain ⟨i, hi, rfl⟩ := hb.nat
 have key : ∀ i : Nat, i < 256 → fmul 2 (i : Int) = if 128 ≤ i then bxor .u8 (shl .u8 (i : Int) 1) 27 else shl .u8 (i : Int) 1 := by decide +kernel
 refine ⟨fun q => ⟨⟨by decide⟩, ?_⟩, fun q => ⟨⟨by decide⟩, ?_⟩⟩
 ·rw [ige_true] at q; rw [key i hi, if_pos (by omega)]
 ·rw [ige_false] at q; rw [key i hi, if_neg (by omega)]
theorem gamB1_good : GoodG Tryd.prog gamB1 := gamB1'_good.ext good_rtwice ⟨_, Tryd.func81, by decide, by kernel_rfl⟩
theorem good_turned' : Sx.Good Tryd.prog 66 turnedS := by
 refine Sx.Good.pure (D := []) mixed (good0 _) Tryd.func66 (by kernel_rfl) rfl fun d args σ K h => ?_
 simp only [turnedS] at h
 split at h <;> try exact h.elim
 rename_i b n
 obtain ⟨⟨hb, hn⟩, hK⟩ := h
 obtain ⟨i, rfl⟩ := Int.eq_ofNat_of_zero_le hn.lo
 have hi := hn.hi
 refine ⟨by simp [plain_int, plain_ints], _, plain_ints _ _ _, hK, 25 + 1, ?_⟩
 rw [bturned_vc]
 exact turned_run hb (by omega) fun σ => rfl
theorem good_columns : Sx.Good Tryd.prog 67 columnsS := by
 refine Sx.Good.pure (D := []) mixed gam6_good Tryd.func67 (by kernel_rfl) rfl fun d args σ K h => ?_
 simp only [columnsS] at h
 split at h <;> try exact h.elim
 rename_i b x
 split at h <;> try exact h.elim
 rename_i f hf
 obtain ⟨hb, hK⟩ := h
 cases hx : conFn x with
 | none => rw [hx] at hf; cases hf
 | some g =>
  obtain rfl := conFn_eq hx
  rw [hx] at hf
  simp only [Option.bind_some, colOf] at hf
  split at hf
  ·rename_i e; subst e; cases hf
   refine ⟨by simp [plain_ints, plain_con], _, plain_ints _ _ _, hK, 5 + 1, ?_⟩
   rw [colsC_vc]
   exact colsC_run hb 0 fun σ => rfl
  ·cases hf
theorem good_new : Sx.Good Tryd.prog 46 keysS := by
 refine Sx.Good.pure (D := []) mixed gam6_good Tryd.func46 (by kernel_rfl) rfl fun d args σ K h => ?_
 simp only [keysS] at h
 split at h <;> try exact h.elim
 rename_i b
 obtain ⟨hb, hK⟩ := h
 refine ⟨by simp [plain_ints], _, plain_ints _ _ _, hK, (0 + 1 + 1 * 44 + 1 + 6 * (44 - 4)) + 1 + 1 * 4 + 1, ?_⟩
 rw [bNew_vc]
 exact new_l0 hb (new_l1 hb fun σ => rfl)
theorem good_next : Sx.Good Tryd.prog 50 nextS := by
 refine Sx.Good.pure (D := []) mixed (good0 _) Tryd.func50 (by kernel_rfl) rfl fun d args σ K h => ?_
 simp only [nextS] at h
 split at h <;> try exact h.elim
 rename_i b
 obtain ⟨hb, hK⟩ := h
 refine ⟨by simp [plain_ints], _, plain_ints _ _ _, hK, 17 + 1, ?_⟩
 rw [bnext_vc]
 exact next_run (fun _ _ _ => trivial) (fun σ => rfl) 16 b (Nat.le_refl _) hb.len rfl
theorem good_each : Sx.Good Tryd.prog 65 eachSp := by
 refine Sx.Good.reads (D := []) mixed gamB1_good Tryd.func65 (by kernel_rfl) rfl fun d args σ K h => ?_
 simp only [eachSp] at h
 split at h <;> try exact h.elim
 rename_i b x
 unfold fnx at h
 split at h
 ·rename_i g hg
  obtain rfl := conFn_eq hg
  split at h <;> try exact h.elim
  rename_i f hf
  obtain ⟨hb, hK⟩ := h
  unfold subOf at hf
  split at hf
  ·rename_i e; subst e; cases hf
   refine ⟨_, [], .plain (plain_ints _ _ _) (.plain (plain_con _) (.nil _)), by simp, 17 + 1, ?_⟩
   rw [eachS_vc]
   exact eachS_run hb 0 fun σ' => res_arr rfl hK
  ·cases hf
 ·split at h <;> try exact h.elim
  rename_i n hn
  obtain rfl := isTold_eq hn
  split at h <;> try exact h.elim
  rename_i bk hbk
  split at h <;> try exact h.elim
  rename_i t ht
  obtain ⟨hT, hb, hK⟩ := h
  refine ⟨[.agg [.ints .u8 16 b], .one (.clo 48 200001 0 0)], [(200001, .view [.ints .u8 256 t])], .plain (plain_ints _ _ _) (ht ▸ .clo hbk (by rw [ht]; intro m; rfl) (.nil _)), by simp, 17 + 1, ?_⟩
  rw [eachT_vc]
  exact eachT_run hb hT 0 fun σ' => res_arr rfl hK
end Go.Proofs.YtienfecnkglilaaDoor.G
namespace Go.Fld
theorem x0 (a : Nat) : a ^^^ 0 = a := Nat.xor_zero a
theorem gl_acc : ∀ (d a b s t : Nat), gl d a b (s ^^^ t) = s ^^^ gl d a b t
 | 0, _, _, _, _ => rfl
 | d + 1, a, b, s, t => by
  simp only [gl]
  split
  ·rw [Nat.xor_assoc, gl_acc]
  ·rw [gl_acc]
theorem gl_zero (d a b s : Nat) : gl d a b s = s ^^^ gl d a b 0 := by
 have := gl_acc d a b s 0
 rwa [Nat.xor_zero] at this
theorem xor4 (a b c d : Nat) : (a ^^^ b) ^^^ (c ^^^ d) = (a ^^^ c) ^^^ (b ^^^ d) := by
 rw [Nat.xor_assoc, Nat.xor_assoc, ← Nat.xor_assoc b c d, Nat.xor_comm b c, Nat.xor_assoc c b d]
theorem xor_half (b b' : Nat) : (b ^^^ b') / 2 = b / 2 ^^^ b' / 2 := by
 have := Nat.shiftRight_xor_distrib (a := b) (b := b') (i := 1)
 simpa [Nat.shiftRight_succ] using this
theorem xor_two (b b' : Nat) : (b ^^^ b') % 2 = (b % 2 + b' % 2) % 2 := by
 have h := Nat.testBit_xor b b' 0
 simp only [Nat.testBit_zero] at h
 rcases Nat.mod_two_eq_zero_or_one b with hb | hb <;> rcases Nat.mod_two_eq_zero_or_one b' with hb' | hb' <;> rw [hb, hb'] at h ⊢ <;> rcases Nat.mod_two_eq_zero_or_one (b ^^^ b') with hx | hx <;> rw [hx] at h ⊢ <;> simp at h ⊢
theorem gl_lin2 : ∀ (d a b b' : Nat), gl d a (b ^^^ b') 0 = gl d a b 0 ^^^ gl d a b' 0
 | 0, _, _, _ => by simp [gl]
 | d + 1, a, b, b' => by
  have ih := gl_lin2 d (xt a) (b / 2) (b' / 2)
  have h2 := xor_two b b'
  simp only [gl, xor_half]
  have z := fun s c => gl_zero d (xt a) c s
  rcases Nat.mod_two_eq_zero_or_one b with hb | hb <;> rcases Nat.mod_two_eq_zero_or_one b' with hb' | hb' <;> rw [hb, hb'] at h2 <;> simp only [h2, hb, hb', Nat.reduceAdd, Nat.reduceMod, Nat.zero_ne_one, if_true, if_false, Nat.zero_xor]
  ·exact ih
  ·rw [z a, z a, ih, ← Nat.xor_assoc, ← Nat.xor_assoc, Nat.xor_comm a]
  ·rw [z a, z a, ih, ← Nat.xor_assoc]
  ·rw [z a, z a, ih, xor4, Nat.xor_self, Nat.zero_xor]
theorem gm_lin2 (a b b' : Nat) : gm a (b ^^^ b') = gm a b ^^^ gm a b' := gl_lin2 8 a b b'
theorem top_bit : ∀ a, a < 256 → ∀ k, k < 8 → 2 ^ k ≤ a → a < 2 ^ (k + 1) → (a - 2 ^ k) ^^^ 2 ^ k = a := by decide +kernel
theorem lin_ext {f g : Nat → Nat} (hf : ∀ a b, a < 256 → b < 256 → f (a ^^^ b) = f a ^^^ f b) (hg : ∀ a b, a < 256 → b < 256 → g (a ^^^ b) = g a ^^^ g b) (h : ∀ i, i < 8 → f (2 ^ i) = g (2 ^ i)) :
    ∀ a, a < 256 → f a = g a := by
  have zero : ∀ {f : Nat → Nat}, (∀ a b, a < 256 → b < 256 → f (a ^^^ b) = f a ^^^ f b) → f 0 = 0 := by
    intro f hf
    have := hf 0 0 (by omega) (by omega)
    rwa [Nat.xor_self, Nat.xor_self] at this
  have key : ∀ k, k ≤ 8 → ∀ a, a < 2 ^ k → f a = g a := by
    intro k
    induction k with
    | zero => intro _ a ha; have : a = 0 := by omega
              subst this; rw [zero hf, zero hg]
    | succ k ih =>
      intro hk a ha
      by_cases hlt : a < 2 ^ k
      · exact ih (by omega) a hlt
      · have hp : 2 ^ (k + 1) = 2 * 2 ^ k := by rw [Nat.pow_succ]; omega
        have h256 : 2 ^ (k + 1) ≤ 2 ^ 8 := Nat.pow_le_pow_right (by omega) hk
        have e := top_bit a (by omega) k (by omega) (by omega) ha
        rw [← e, hf _ _ (by omega) (by omega), hg _ _ (by omega) (by omega), ih (by omega) (a - 2 ^ k) (by omega), h k (by omega)]
  exact fun a ha => key 8 (by omega) a ha
def L4 (a b c d : Nat) : Prop := a < 256 ∧ b < 256 ∧ c < 256 ∧ d < 256
def m4 (f : List Nat) (r a b c d : Nat) : Nat := gm (f.getD ((4 - r) % 4) 0) a ^^^ gm (f.getD ((5 - r) % 4) 0) b ^^^ gm (f.getD ((6 - r) % 4) 0) c ^^^ gm (f.getD ((7 - r) % 4) 0) d
theorem mix1_eq (a b c d : Nat) (f : List Nat) (r : Nat) : mix1 [a, b, c, d] f r = m4 f r a b c d := by
 simp only [mix1, ml, m4]
 simp only [List.getD_cons_zero, List.getD_cons_succ, Nat.zero_add, Nat.reduceAdd, Nat.zero_xor]
theorem mixN_eq (a b c d : Nat) (f : List Nat) : mixN [a, b, c, d] f = [m4 f 0 a b c d, m4 f 1 a b c d, m4 f 2 a b c d, m4 f 3 a b c d] := by
 simp only [mixN, mix1_eq]
theorem xor8 (a b c d a' b' c' d' : Nat) : (a ^^^ a') ^^^ (b ^^^ b') ^^^ (c ^^^ c') ^^^ (d ^^^ d') = (a ^^^ b ^^^ c ^^^ d) ^^^ (a' ^^^ b' ^^^ c' ^^^ d') := by
 rw [xor4 a a' b b', xor4 (a ^^^ b) (a' ^^^ b') c c', xor4 (a ^^^ b ^^^ c) (a' ^^^ b' ^^^ c') d d']
theorem m4_add (f : List Nat) (r a b c d a' b' c' d' : Nat) : m4 f r (a ^^^ a') (b ^^^ b') (c ^^^ c') (d ^^^ d') = m4 f r a b c d ^^^ m4 f r a' b' c' d' := by
 simp only [m4, gm_lin2]
 exact xor8 _ _ _ _ _ _ _ _
def m44 (f g : List Nat) (r a b c d : Nat) : Nat := m4 g r (m4 f 0 a b c d) (m4 f 1 a b c d) (m4 f 2 a b c d) (m4 f 3 a b c d)
theorem m44_add (f g : List Nat) (r a b c d a' b' c' d' : Nat) : m44 f g r (a ^^^ a') (b ^^^ b') (c ^^^ c') (d ^^^ d') = m44 f g r a b c d ^^^ m44 f g r a' b' c' d' := by
 simp only [m44, m4_add]
theorem m44_split (f g : List Nat) (r a b c d : Nat) : m44 f g r a b c d = ((m44 f g r a 0 0 0 ^^^ m44 f g r 0 b 0 0) ^^^ m44 f g r 0 0 c 0) ^^^ m44 f g r 0 0 0 d := by
 rw [← m44_add, ← m44_add, ← m44_add]
 simp
theorem back {f g : List Nat} (h : ∀ i, i < 8 → ∀ r, r < 4 → (m44 f g r (2 ^ i) 0 0 0 = if r = 0 then 2 ^ i else 0) ∧ (m44 f g r 0 (2 ^ i) 0 0 = if r = 1 then 2 ^ i else 0) ∧ (m44 f g r 0 0 (2 ^ i) 0 = if r = 2 then 2 ^ i else 0) ∧ (m44 f g r 0 0 0 (2 ^ i) = if r = 3 then 2 ^ i else 0))
  {a b c d : Nat} (hl : L4 a b c d) : mixN (mixN [a, b, c, d] f) g = [a, b, c, d] := by
 obtain ⟨ha, hb, hc, hd⟩ := hl
 rw [mixN_eq, mixN_eq]
 have e : ∀ r, r < 4 → m44 f g r a b c d = (((if r = 0 then a else 0) ^^^ (if r = 1 then b else 0)) ^^^ (if r = 2 then c else 0)) ^^^ (if r = 3 then d else 0) := by
  intro r hr
  rw [m44_split]
  have lin : ∀ (p : Prop) [Decidable p] (x y : Nat), (if p then x ^^^ y else 0) = (if p then x else 0) ^^^ (if p then y else 0) := fun p _ x y => by by_cases hp : p <;> simp [hp]
  rw [lin_ext (f := fun x => m44 f g r x 0 0 0) (g := fun x => if r = 0 then x else 0) (fun x y _ _ => by have := m44_add f g r x 0 0 0 y 0 0 0; simpa using this) (fun x y _ _ => lin _ x y) (fun i hi => (h i hi r hr).1) a ha,
   lin_ext (f := fun x => m44 f g r 0 x 0 0) (g := fun x => if r = 1 then x else 0) (fun x y _ _ => by have := m44_add f g r 0 x 0 0 0 y 0 0; simpa using this) (fun x y _ _ => lin _ x y) (fun i hi => (h i hi r hr).2.1) b hb,
   lin_ext (f := fun x => m44 f g r 0 0 x 0) (g := fun x => if r = 2 then x else 0) (fun x y _ _ => by have := m44_add f g r 0 0 x 0 0 0 y 0; simpa using this) (fun x y _ _ => lin _ x y) (fun i hi => (h i hi r hr).2.2.1) c hc,
   lin_ext (f := fun x => m44 f g r 0 0 0 x) (g := fun x => if r = 3 then x else 0) (fun x y _ _ => by have := m44_add f g r 0 0 0 x 0 0 0 y; simpa using this) (fun x y _ _ => lin _ x y) (fun i hi => (h i hi r hr).2.2.2) d hd]
 have e0 := e 0 (by decide); have e1 := e 1 (by decide); have e2 := e 2 (by decide); have e3 := e 3 (by decide)
 simp only [m44] at e0 e1 e2 e3
 rw [e0, e1, e2, e3]
 simp
end Go.Fld
namespace Go.Proofs.YtienfecnkglilaaDoor.G
open Go Go.Sx Go.Fld Go.Blk
theorem box_at : ∀ i : Nat, i < 256 → sget boxC i = fsub (i : Int) := by decide +kernel
theorem good_radded : Sx.Good Tryd.prog 82 addedS := by
 refine Sx.Good.pure (D := []) mixed (good0 _) Tryd.func82 (by kernel_rfl) rfl fun d args σ K h => ?_
 simp only [addedS] at h
 split at h <;> try exact h.elim
 rename_i b w i
 obtain ⟨⟨⟨hb, hw⟩, hi⟩, hK⟩ := h
 obtain ⟨n, rfl⟩ := Int.eq_ofNat_of_zero_le hi.lo
 have hn := hi.hi
 refine ⟨by simp [plain_int, plain_ints], _, plain_ints _ _ _, hK, (1 + 1 * 16) + 1, ?_⟩
 rw [radded_vc]
 have key := loop_n (fun f i s => radded.l0 (fun av' _ => av' = .agg [.ints .u8 16 (qx b (rk w (nat (n : Int))))]) (n : Int) w f i s) 16 (fun i => upto 16 i (fun j => bxor .u8 (lget b j) (lget w (16 * n + j))) (lget b)) 1 1
  (fun f i hi h => by
   rw [radded.l0_succ]
   refine ⟨fun _ => ?_, fun q => ?_⟩
   ·have e1 : mul .i64 16 (n : Int) = ((16 * n : Nat) : Int) := mulN_i64 (a := 16) (by omega)
    have e2 : add .i64 ((16 * n : Nat) : Int) (i : Int) = ((16 * n + i : Nat) : Int) := addN_i64 (by omega)
    rw [e1, e2]
    simp only [InB_iff, Low_iff, nat_cast, nadd_def, Nat.zero_add]
    refine ⟨by omega, hi, by omega, by omega, by omega, hi, ?_⟩
    rw [add1_i64 (by omega), upto_hi (Nat.le_refl _) hi, upto_lset rfl]
    exact h
   ·rw [ilt_false] at q; omega)
  (by
   rw [radded.l0_succ]
   refine ⟨fun q => ?_, fun _ => ?_⟩
   ·rw [ilt_true] at q; omega
   ·rw [upto_done, nat_cast]
    have : (tab 16 fun j => bxor .u8 (lget b j) (lget w (16 * n + j))) = qx b (rk w n) := by
     refine tab_ext fun j hj => ?_
     rw [rk, lsub_tabbed hw.len (by omega), tab_lget _ hj]
    rw [this]) 0 (Nat.zero_le _)
 rw [upto_zero, ← hb.eq] at key
 exact key
theorem good_rnext : Sx.Good Tryd.prog 76 nextS := by
 refine Sx.Good.pure (D := []) mixed (good0 _) Tryd.func76 (by kernel_rfl) rfl fun d args σ K h => ?_
 simp only [nextS] at h
 split at h <;> try exact h.elim
 rename_i b
 obtain ⟨hb, hK⟩ := h
 refine ⟨by simp [plain_ints], _, plain_ints _ _ _, hK, 17 + 1, ?_⟩
 rw [rnext_vc]
 have key : ∀ (i : Nat) (c : List Int), i ≤ 16 → c.length = 16 → upN i c = up b → rnext.l0 (fun av' _ => av' = .agg [.ints .u8 16 (up b)]) (i + 1) ((i : Int) - 1) c := by
  intro i
  induction i with
  | zero =>
   intro c _ _ e
   rw [rnext.l0_succ]
   refine ⟨fun q => ?_, fun _ => ?_⟩
   ·rw [ige_true] at q; omega
   ·rw [show c = up b from e]
  | succ i ih =>
   intro c hi hc e
   rw [rnext.l0_succ, show ((i + 1 : Nat) : Int) - 1 = (i : Int) by omega]
   refine ⟨fun _ => ?_, fun q => ?_⟩
   ·have hl : lget (lset c i (add .u8 (lget c i) 1)) i = add .u8 (lget c i) 1 := by
     simp [lget, lset, List.getD, hc, show i < 16 by omega]
    simp only [InB_iff, Low_iff, nat_cast, nadd_def, Nat.zero_add, hl]
    refine ⟨by omega, by omega, by omega, by omega, by omega, by omega, fun q => ?_, fun q => ?_⟩
    ·rw [ine_true] at q
     rw [upN, if_neg q] at e
     rw [e]
    ·rw [ine_false] at q
     rw [upN, if_pos q] at e
     rw [sub_i64 (by omega) (by omega)]
     exact ih _ (by omega) (by simp [lset, hc]) e
   ·rw [ige_false] at q; omega
 exact key 16 b (Nat.le_refl _) hb.len rfl
theorem gm2_byte {a : Nat} (ha : a < 256) : gm 2 a < 256 := gm_lt (by decide)
theorem gm3 : ∀ a : Nat, a < 256 → gm 3 a = gm 2 a ^^^ a := by decide +kernel
theorem gm1 : ∀ a : Nat, a < 256 → gm 1 a = a := by decide +kernel
theorem mix_eq {a b c d : Nat} (ha : a < 256) (hb : b < 256) (hc : c < 256) (hd : d < 256) :
  m4 [2, 3, 1, 1] 0 a b c d = a ^^^ (a ^^^ b ^^^ c ^^^ d) ^^^ gm 2 (a ^^^ b) ∧ m4 [2, 3, 1, 1] 1 a b c d = b ^^^ (a ^^^ b ^^^ c ^^^ d) ^^^ gm 2 (b ^^^ c) ∧
  m4 [2, 3, 1, 1] 2 a b c d = c ^^^ (a ^^^ b ^^^ c ^^^ d) ^^^ gm 2 (c ^^^ d) ∧ m4 [2, 3, 1, 1] 3 a b c d = d ^^^ (a ^^^ b ^^^ c ^^^ d) ^^^ gm 2 (d ^^^ a) := by
 simp only [m4, List.getD_cons_zero, List.getD_cons_succ, List.getD_nil, Nat.reduceMod, Nat.reduceSub, gm3 _ ha, gm3 _ hb, gm3 _ hc, gm3 _ hd, gm1 _ ha, gm1 _ hb, gm1 _ hc, gm1 _ hd, gm_lin2]
 refine ⟨?_, ?_, ?_, ?_⟩ <;> (apply Nat.eq_of_testBit_eq; intro i; simp only [Nat.testBit_xor]; generalize a.testBit i = p; generalize b.testBit i = q; generalize c.testBit i = r; generalize d.testBit i = s; generalize (gm 2 a).testBit i = p'; generalize (gm 2 b).testBit i = q'; generalize (gm 2 c).testBit i = r'; generalize (gm 2 d).testBit i = s'; revert p q r s p' q' r' s'; decide)
theorem mixed_at {b : List Int} (hb : BL 16 b) {k r : Nat} (hk : k < 4) (hr : r < 4) :
  lget (fmix (lsub b (4 * k) 4) [2, 3, 1, 1]) r = bxor .u8 (bxor .u8 (lget b (4 * k + r)) (bxor .u8 (bxor .u8 (bxor .u8 (lget b (4 * k)) (lget b (4 * k + 1))) (lget b (4 * k + 2))) (lget b (4 * k + 3)))) (fmul 2 (bxor .u8 (lget b (4 * k + r)) (lget b (4 * k + (r + 1) % 4)))) := by
 obtain ⟨x0, h0, e0⟩ := (hb.get (4 * k)).nat
 obtain ⟨x1, h1, e1⟩ := (hb.get (4 * k + 1)).nat
 obtain ⟨x2, h2, e2⟩ := (hb.get (4 * k + 2)).nat
 obtain ⟨x3, h3, e3⟩ := (hb.get (4 * k + 3)).nat
 have el : lsub b (4 * k) 4 = [(x0 : Int), x1, x2, x3] := by
  rw [lsub_tabbed hb.len (by omega)]
  simp only [tab, List.range_succ, List.range_zero, List.nil_append, List.map_cons, List.map_nil, List.cons_append, Nat.add_zero, e0, e1, e2, e3]
 obtain ⟨m0, m1, m2, m3⟩ := mix_eq h0 h1 h2 h3
 have em : fmix (lsub b (4 * k) 4) [2, 3, 1, 1] = [((m4 [2, 3, 1, 1] 0 x0 x1 x2 x3 : Nat) : Int), ((m4 [2, 3, 1, 1] 1 x0 x1 x2 x3 : Nat) : Int), ((m4 [2, 3, 1, 1] 2 x0 x1 x2 x3 : Nat) : Int), ((m4 [2, 3, 1, 1] 3 x0 x1 x2 x3 : Nat) : Int)] := by
  rw [el]
  show intL (mixN [x0, x1, x2, x3] [2, 3, 1, 1]) = _
  rw [mixN_eq]; rfl
 have hx : ∀ {p q : Nat}, p < 256 → q < 256 → bxor .u8 (p : Int) (q : Int) = ((p ^^^ q : Nat) : Int) := fun hp hq => bxor_u8 hp hq
 have hm : ∀ {p : Nat}, p < 256 → fmul 2 (p : Int) = ((gm 2 p : Nat) : Int) := fun _ => rfl
 have all := xor_lt (xor_lt (xor_lt h0 h1) h2) h3
 rw [em]
 match r, hr with
 | 0, _ => simp only [Nat.add_zero, Nat.zero_add, Nat.reduceMod, e0, e1, e2, e3]; rw [hx h0 h1, hx (xor_lt h0 h1) h2, hx (xor_lt (xor_lt h0 h1) h2) h3, hx h0 all, hm (xor_lt h0 h1), hx (xor_lt h0 all) (gm2_byte (xor_lt h0 h1)), ← m0]; rfl
 | 1, _ => simp only [Nat.reduceAdd, Nat.reduceMod, e0, e1, e2, e3]; rw [hx h0 h1, hx (xor_lt h0 h1) h2, hx (xor_lt (xor_lt h0 h1) h2) h3, hx h1 all, hx h1 h2, hm (xor_lt h1 h2), hx (xor_lt h1 all) (gm2_byte (xor_lt h1 h2)), ← m1]; rfl
 | 2, _ => simp only [Nat.reduceAdd, Nat.reduceMod, e0, e1, e2, e3]; rw [hx h0 h1, hx (xor_lt h0 h1) h2, hx (xor_lt (xor_lt h0 h1) h2) h3, hx h2 all, hx h2 h3, hm (xor_lt h2 h3), hx (xor_lt h2 all) (gm2_byte (xor_lt h2 h3)), ← m2]; rfl
 | 3, _ => simp only [Nat.reduceAdd, Nat.reduceMod, Nat.add_zero, e0, e1, e2, e3]; rw [hx h0 h1, hx (xor_lt h0 h1) h2, hx (xor_lt (xor_lt h0 h1) h2) h3, hx h3 all, hx h3 h0, hm (xor_lt h3 h0), hx (xor_lt h3 all) (gm2_byte (xor_lt h3 h0)), ← m3]; rfl
theorem good_rmixed : Sx.Good Tryd.prog 83 mixedS := by
 refine Sx.Good.pure (D := []) mixed gamB1_good Tryd.func83 (by kernel_rfl) rfl fun d args σ K h => ?_
 simp only [mixedS] at h
 split at h <;> try exact h.elim
 rename_i b
 obtain ⟨hb, hK⟩ := h
 refine ⟨by simp [plain_ints], _, plain_ints _ _ _, hK, (1 + 6 * 4) + 1, ?_⟩
 rw [rmixed_vc]
 have hF : ∀ k r, k < 4 → r < 4 → lget (fmix (lsub b ((4 * k + r) / 4 * 4) 4) [2, 3, 1, 1]) ((4 * k + r) % 4) = lget (fmix (lsub b (4 * k) 4) [2, 3, 1, 1]) r := fun k r hk hr => by
  rw [show (4 * k + r) / 4 * 4 = 4 * k by omega, show (4 * k + r) % 4 = r by omega]
 have key := loop_nby 4 (fun f i s => rmixed.l0 (fun av' _ => av' = .agg [.ints .u8 16 (qc [2, 3, 1, 1] b)]) b f i s) 4 (fun k => upto 16 (4 * k) (fun j => lget (fmix (lsub b (j / 4 * 4) 4) [2, 3, 1, 1]) (j % 4)) fun _ => 0) 6 1
  (fun g k hk hg => by
   rw [rmixed.l0_succ]
   refine ⟨fun _ => ?_, fun q => ?_⟩
   ·have a1 : add .i64 ((4 * k : Nat) : Int) 1 = ((4 * k + 1 : Nat) : Int) := addN_i64 (b := 1) (by omega)
    have a2 : add .i64 ((4 * k : Nat) : Int) 2 = ((4 * k + 2 : Nat) : Int) := addN_i64 (b := 2) (by omega)
    have a3 : add .i64 ((4 * k : Nat) : Int) 3 = ((4 * k + 3 : Nat) : Int) := addN_i64 (b := 3) (by omega)
    have a4 : add .i64 ((4 * k : Nat) : Int) 4 = ((4 * (k + 1) : Nat) : Int) := addN_i64 (b := 4) (by omega)
    rw [a1, a2, a3]
    simp only [InB_iff, Low_iff, nat_cast, nadd_def, Nat.zero_add]
    refine ⟨⟨by omega, by omega⟩, by omega, ⟨by omega, by omega⟩, by omega, ⟨by omega, by omega⟩, by omega, ⟨by omega, by omega⟩, by omega, ?_⟩
    have key := fun z : Int => loop_n (fun f i s => rmixed.l1 (fun av' _ => av' = .agg [.ints .u8 16 (qc [2, 3, 1, 1] b)]) ((4 * k : Nat) : Int) (bxor .u8 (bxor .u8 (bxor .u8 (lget b (4 * k)) (lget b (4 * k + 1))) (lget b (4 * k + 2))) (lget b (4 * k + 3))) b z f i s) 4 (fun r => upto 16 (4 * k + r) (fun j => lget (fmix (lsub b (j / 4 * 4) 4) [2, 3, 1, 1]) (j % 4)) fun _ => 0) 1 (g + 1)
     (fun f r hr hf => by
      rw [rmixed.l1_succ]
      refine ⟨fun _ => ?_, fun q => ?_⟩
      ·have b1 : add .i64 (r : Int) 1 = ((r + 1 : Nat) : Int) := addN_i64 (b := 1) (by omega)
       have b2 : rem ((r + 1 : Nat) : Int) 4 = (((r + 1) % 4 : Nat) : Int) := remN (b := 4)
       have b3 : add .i64 ((4 * k : Nat) : Int) (((r + 1) % 4 : Nat) : Int) = ((4 * k + (r + 1) % 4 : Nat) : Int) := addN_i64 (by omega)
       have b4 : add .i64 ((4 * k : Nat) : Int) (r : Int) = ((4 * k + r : Nat) : Int) := addN_i64 (by omega)
       rw [b1, b2, b3, b4]
       simp only [InB_iff, Low_iff, NeZ_iff, nat_cast, nadd_def, Nat.zero_add]
       refine ⟨⟨by omega, by omega⟩, by omega, ⟨by omega, by omega⟩, by omega, by decide, ⟨by omega, by omega⟩, by omega, byte_xor (hb.get _) (hb.get _), ⟨by omega, by omega⟩, by omega, ?_⟩
       rw [upto_lset (by rw [hF k r hk hr, mixed_at hb hk hr])]
       exact hf
      ·rw [ilt_false] at q; omega)
     (by
      rw [rmixed.l1_succ]
      refine ⟨fun q => ?_, fun _ => ?_⟩
      ·rw [ilt_true] at q; omega
      ·rw [a4]; exact hg) 0 (Nat.zero_le _)
    exact key _
   ·rw [ilt_false] at q; omega)
  (by
   rw [rmixed.l0_succ]
   refine ⟨fun q => ?_, fun _ => ?_⟩
   ·rw [ilt_true] at q; omega
   ·rw [show upto 16 (4 * 4) (fun j => lget (fmix (lsub b (j / 4 * 4) 4) [2, 3, 1, 1]) (j % 4)) (fun _ => (0 : Int)) = qc [2, 3, 1, 1] b from upto_done]) 0 (Nat.zero_le _)
 rw [lzeros_tab, ← upto_zero (F := fun j => lget (fmix (lsub b (j / 4 * 4) 4) [2, 3, 1, 1]) (j % 4))]
 exact key
theorem keys_round {R : AV → Mem → Prop} {b : List Int} (hb : BL 16 b) (g i : Nat) (h4 : 4 ≤ i) (hi : i < 44) (h : rKeys.l1 R g (rcon ((i + 1 - 1) / 4)) ((4 * (i + 1) : Nat) : Int) (upto 176 (4 * (i + 1)) (kp b) fun _ => 0)) :
  rKeys.l1 R (g + 1) (rcon ((i - 1) / 4)) ((4 * i : Nat) : Int) (upto 176 (4 * i) (kp b) fun _ => 0) := by
 have s4 : sub .i64 ((4 * i : Nat) : Int) 4 = ((4 * (i - 1) + 0 : Nat) : Int) := by rw [sub_i64 (by omega) (by omega)]; omega
 have s3 : sub .i64 ((4 * i : Nat) : Int) 3 = ((4 * (i - 1) + 1 : Nat) : Int) := by rw [sub_i64 (by omega) (by omega)]; omega
 have s2 : sub .i64 ((4 * i : Nat) : Int) 2 = ((4 * (i - 1) + 2 : Nat) : Int) := by rw [sub_i64 (by omega) (by omega)]; omega
 have s1 : sub .i64 ((4 * i : Nat) : Int) 1 = ((4 * (i - 1) + 3 : Nat) : Int) := by rw [sub_i64 (by omega) (by omega)]; omega
 have s16 : sub .i64 ((4 * i : Nat) : Int) 16 = ((4 * (i - 4) + 0 : Nat) : Int) := by rw [sub_i64 (by omega) (by omega)]; omega
 have s15 : sub .i64 ((4 * i : Nat) : Int) 15 = ((4 * (i - 4) + 1 : Nat) : Int) := by rw [sub_i64 (by omega) (by omega)]; omega
 have s14 : sub .i64 ((4 * i : Nat) : Int) 14 = ((4 * (i - 4) + 2 : Nat) : Int) := by rw [sub_i64 (by omega) (by omega)]; omega
 have s13 : sub .i64 ((4 * i : Nat) : Int) 13 = ((4 * (i - 4) + 3 : Nat) : Int) := by rw [sub_i64 (by omega) (by omega)]; omega
 have a1 : add .i64 ((4 * i : Nat) : Int) 1 = ((4 * i + 1 : Nat) : Int) := by rw [add_i64 (by omega) (by omega)]; omega
 have a2 : add .i64 ((4 * i : Nat) : Int) 2 = ((4 * i + 2 : Nat) : Int) := by rw [add_i64 (by omega) (by omega)]; omega
 have a3 : add .i64 ((4 * i : Nat) : Int) 3 = ((4 * i + 3 : Nat) : Int) := by rw [add_i64 (by omega) (by omega)]; omega
 have a4 : add .i64 ((4 * i : Nat) : Int) 4 = ((4 * (i + 1) : Nat) : Int) := by rw [add_i64 (by omega) (by omega)]; omega
 have er : rem ((4 * i : Nat) : Int) 16 = ((4 * i % 16 : Nat) : Int) := remN (b := 16)
 have hw : ∀ m j, m < i → j < 4 → lget (upto 176 (4 * i) (kp b) fun _ => 0) (4 * m + j) = kw b m j := fun m j hm hj => word_get (by omega) (by omega) hj
 have hx : ∀ (j : Nat), j < 4 → ∃ n : Nat, n < 256 ∧ kw b (i - 1) j = (n : Int) := fun j hj => (kw_byte hb (i - 1) j hj).nat
 have hbox : ∀ j, j < 4 → InB (kw b (i - 1) j) 256 ∧ sget boxC (nat (kw b (i - 1) j)) = fsub (kw b (i - 1) j) := fun j hj => by
  obtain ⟨n, hn, e⟩ := hx j hj
  rw [e, nat_cast]; exact ⟨⟨by omega, by omega⟩, box_at n hn⟩
 have e1 : lset (upto 176 (4 * i) (kp b) fun _ => 0) (4 * i) (kw b i 0) = upto 176 (4 * i + 1) (kp b) fun _ => 0 := lset_word (i := i) (j := 0) (by decide) rfl
 have e2 : lset (upto 176 (4 * i + 1) (kp b) fun _ => 0) (4 * i + 1) (kw b i 1) = upto 176 (4 * i + 2) (kp b) fun _ => 0 := lset_word (i := i) (j := 1) (by decide) rfl
 have e3 : lset (upto 176 (4 * i + 2) (kp b) fun _ => 0) (4 * i + 2) (kw b i 2) = upto 176 (4 * i + 3) (kp b) fun _ => 0 := lset_word (i := i) (j := 2) (by decide) rfl
 have e4 : lset (upto 176 (4 * i + 3) (kp b) fun _ => 0) (4 * i + 3) (kw b i 3) = upto 176 (4 * (i + 1)) (kp b) fun _ => 0 := lset_word (i := i) (j := 3) (by decide) rfl
 have g0 : lget (upto 176 (4 * i) (kp b) fun _ => 0) (4 * (i - 4) + 0) = kw b (i - 4) 0 := hw _ _ (by omega) (by decide)
 have g1 : lget (upto 176 (4 * i + 1) (kp b) fun _ => 0) (4 * (i - 4) + 1) = kw b (i - 4) 1 := word_get (by omega) (by omega) (by decide)
 have g2 : lget (upto 176 (4 * i + 2) (kp b) fun _ => 0) (4 * (i - 4) + 2) = kw b (i - 4) 2 := word_get (by omega) (by omega) (by decide)
 have g3 : lget (upto 176 (4 * i + 3) (kp b) fun _ => 0) (4 * (i - 4) + 3) = kw b (i - 4) 3 := word_get (by omega) (by omega) (by decide)
 have w0 := hw (i - 1) 0 (by omega) (by decide)
 have w1 := hw (i - 1) 1 (by omega) (by decide)
 have w2 := hw (i - 1) 2 (by omega) (by decide)
 have w3 := hw (i - 1) 3 (by omega) (by decide)
 rw [rKeys.l1_succ]
 refine ⟨fun _ => ?_, fun q => ?_⟩
 ·simp only [s4, s3, s2, s1, s16, s15, s14, s13, a1, a2, a3, a4, er, nat_cast, nadd_def, Nat.zero_add, Low_iff, NeZ_iff]
  have hI : ∀ m j, m ≤ i → j < 4 → InB ((4 * m + j : Nat) : Int) 176 ∧ 4 * m + j < 176 := fun m j hm hj => ⟨⟨by omega, by omega⟩, by omega⟩
  refine ⟨(hI (i - 1) 0 (by omega) (by decide)).1, (hI (i - 1) 0 (by omega) (by decide)).2, (hI (i - 1) 1 (by omega) (by decide)).1, (hI (i - 1) 1 (by omega) (by decide)).2, (hI (i - 1) 2 (by omega) (by decide)).1, (hI (i - 1) 2 (by omega) (by decide)).2, (hI (i - 1) 3 (by omega) (by decide)).1, (hI (i - 1) 3 (by omega) (by decide)).2, by decide, fun q => ?_, fun q => ?_⟩
  ·rw [ieq_true] at q
   have q4 : i % 4 = 0 := by omega
   have kt0 : ∀ j, kt i (kw b (i - 1)) j = if j = 0 then bxor .u8 (fsub (kw b (i - 1) 1)) (rcon ((i - 1) / 4)) else fsub (kw b (i - 1) ((j + 1) % 4)) := fun j => by
    unfold kt; rw [if_pos q4, show i / 4 - 1 = (i - 1) / 4 by omega]
   have k0 : bxor .u8 (kw b (i - 4) 0) (bxor .u8 (fsub (kw b (i - 1) 1)) (rcon ((i - 1) / 4))) = kw b i 0 := by rw [kw_hi b h4 (by decide : 0 < 4), kt0]; rfl
   have k1 : bxor .u8 (kw b (i - 4) 1) (fsub (kw b (i - 1) 2)) = kw b i 1 := by rw [kw_hi b h4 (by decide : 1 < 4), kt0]; rfl
   have k2 : bxor .u8 (kw b (i - 4) 2) (fsub (kw b (i - 1) 3)) = kw b i 2 := by rw [kw_hi b h4 (by decide : 2 < 4), kt0]; rfl
   have k3 : bxor .u8 (kw b (i - 4) 3) (fsub (kw b (i - 1) 0)) = kw b i 3 := by rw [kw_hi b h4 (by decide : 3 < 4), kt0]; rfl
   simp only [w0, w1, w2, w3, (hbox 0 (by decide)).2, (hbox 1 (by decide)).2, (hbox 2 (by decide)).2, (hbox 3 (by decide)).2, g0, k0, e1, g1, k1, e2, g2, k2, e3, g3, k3, e4]
   have hr2 : fmul 2 (rcon ((i - 1) / 4)) = rcon ((i + 1 - 1) / 4) := by
    rw [show (i + 1 - 1) / 4 = (i - 1) / 4 + 1 by omega]; rfl
   rw [hr2]
   exact ⟨(hbox 1 (by decide)).1, (hbox 2 (by decide)).1, (hbox 3 (by decide)).1, (hbox 0 (by decide)).1, rcon_byte _, (hI (i - 4) 0 (by omega) (by decide)).1, (hI (i - 4) 0 (by omega) (by decide)).2, (hI i 0 (by omega) (by decide)).1, (hI i 0 (by omega) (by decide)).2, (hI (i - 4) 1 (by omega) (by decide)).1, (hI (i - 4) 1 (by omega) (by decide)).2, (hI i 1 (by omega) (by decide)).1, (hI i 1 (by omega) (by decide)).2, (hI (i - 4) 2 (by omega) (by decide)).1, (hI (i - 4) 2 (by omega) (by decide)).2, (hI i 2 (by omega) (by decide)).1, (hI i 2 (by omega) (by decide)).2, (hI (i - 4) 3 (by omega) (by decide)).1, (hI (i - 4) 3 (by omega) (by decide)).2, (hI i 3 (by omega) (by decide)).1, (hI i 3 (by omega) (by decide)).2, h⟩
  ·rw [ieq_false] at q
   have q4 : ¬ i % 4 = 0 := by omega
   have kt0 : ∀ j, kt i (kw b (i - 1)) j = kw b (i - 1) j := fun j => by unfold kt; rw [if_neg q4]
   have k0 : bxor .u8 (kw b (i - 4) 0) (kw b (i - 1) 0) = kw b i 0 := by rw [kw_hi b h4 (by decide : 0 < 4), kt0]
   have k1 : bxor .u8 (kw b (i - 4) 1) (kw b (i - 1) 1) = kw b i 1 := by rw [kw_hi b h4 (by decide : 1 < 4), kt0]
   have k2 : bxor .u8 (kw b (i - 4) 2) (kw b (i - 1) 2) = kw b i 2 := by rw [kw_hi b h4 (by decide : 2 < 4), kt0]
   have k3 : bxor .u8 (kw b (i - 4) 3) (kw b (i - 1) 3) = kw b i 3 := by rw [kw_hi b h4 (by decide : 3 < 4), kt0]
   simp only [w0, w1, w2, w3, g0, k0, e1, g1, k1, e2, g2, k2, e3, g3, k3, e4]
   rw [show (i - 1) / 4 = (i + 1 - 1) / 4 by omega]
   exact ⟨(hI (i - 4) 0 (by omega) (by decide)).1, (hI (i - 4) 0 (by omega) (by decide)).2, (hI i 0 (by omega) (by decide)).1, (hI i 0 (by omega) (by decide)).2, (hI (i - 4) 1 (by omega) (by decide)).1, (hI (i - 4) 1 (by omega) (by decide)).2, (hI i 1 (by omega) (by decide)).1, (hI i 1 (by omega) (by decide)).2, (hI (i - 4) 2 (by omega) (by decide)).1, (hI (i - 4) 2 (by omega) (by decide)).2, (hI i 2 (by omega) (by decide)).1, (hI i 2 (by omega) (by decide)).2, (hI (i - 4) 3 (by omega) (by decide)).1, (hI (i - 4) 3 (by omega) (by decide)).2, (hI i 3 (by omega) (by decide)).1, (hI i 3 (by omega) (by decide)).2, h⟩
 ·rw [ilt_false] at q; omega
theorem good_rkeys : Sx.Good Tryd.prog 74 keysS := by
 refine Sx.Good.pure (D := []) mixed gamB1_good Tryd.func74 (by kernel_rfl) rfl fun d args σ K h => ?_
 simp only [keysS] at h
 split at h <;> try exact h.elim
 rename_i b
 obtain ⟨hb, hK⟩ := h
 refine ⟨by simp [plain_ints], _, plain_ints _ _ _, hK, (1 + 1 * (44 - 4)) + 1 + 1 * 16 + 1, ?_⟩
 rw [rKeys_vc]
 have key := loop_n (fun f i s => rKeys.l0 (fun av' _ => av' = .agg [.ints .u8 176 (ks b)]) b f i s) 16 (fun i => upto 176 i (kp b) fun _ => 0) 1 ((1 + 1 * (44 - 4)) + 1)
  (fun g i hi hg => by
   rw [rKeys.l0_succ]
   refine ⟨fun _ => ?_, fun q => ?_⟩
   ·simp only [InB_iff, Low_iff, nat_cast, nadd_def, Nat.zero_add]
    refine ⟨by omega, hi, by omega, by omega, ?_⟩
    have e : kp b i = lget b i := by unfold kp; rw [kw_lo _ _ (by omega), show 4 * (i / 4) + i % 4 = i by omega]
    rw [add1_i64 (by omega), upto_lset e.symm]
    exact hg
   ·rw [ilt_false] at q; omega)
  (by
   rw [rKeys.l0_succ]
   refine ⟨fun q => ?_, fun _ => ?_⟩
   ·rw [ilt_true] at q; omega
   ·refine loop_from (fun f i s => rKeys.l1 (fun av' _ => av' = .agg [.ints .u8 176 (ks b)]) f s.1 ((4 * i.toNat : Nat) : Int) s.2) 4 44 (fun i => (rcon ((i - 1) / 4), upto 176 (4 * i) (kp b) fun _ => 0)) 1 1 (fun g i h4 hi hg => keys_round hb g i h4 hi hg) ?_ 4 (by decide) (by decide)
    show rKeys.l1 _ (0 + 1) _ (((4 * 44 : Nat) : Int)) _
    rw [rKeys.l1_succ]
    refine ⟨fun q => ?_, fun _ => ?_⟩
    ·rw [ilt_true] at q; omega
    ·show AV.agg [.ints .u8 176 (upto 176 176 (kp b) fun _ => 0)] = _
     rw [upto_done]; rfl) 0 (Nat.zero_le _)
 rw [lzeros_tab, ← upto_zero (F := kp b)]
 exact key
theorem gamB2_good : GoodG Tryd.prog gamB2 :=
 (((((gamB1_good.ext good_with ⟨_, Tryd.func64, by decide, by kernel_rfl⟩).ext good_turned' ⟨_, Tryd.func66, by decide, by kernel_rfl⟩).ext good_each ⟨_, Tryd.func65, by decide, by kernel_rfl⟩).ext good_columns ⟨_, Tryd.func67, by decide, by kernel_rfl⟩).ext good_new ⟨_, Tryd.func46, by decide, by kernel_rfl⟩).ext good_next ⟨_, Tryd.func50, by decide, by kernel_rfl⟩
theorem gamB3_good : GoodG Tryd.prog gamB3 := ((((gamB2_good.ext good_rkeys ⟨_, Tryd.func74, by decide, by kernel_rfl⟩).ext good_radded ⟨_, Tryd.func82, by decide, by kernel_rfl⟩).ext good_rmixed ⟨_, Tryd.func83, by decide, by kernel_rfl⟩).ext good_rnext ⟨_, Tryd.func76, by decide, by kernel_rfl⟩)
end Go.Proofs.YtienfecnkglilaaDoor.G
namespace Go.Sx
structure Short (l : List Int) : Prop where
 le : l.length ≤ 140737488355328
end Go.Sx
namespace Go.Sx
open Go.Fld Go.Blk
def fnS (σ : Mem) (x : AV) (K : Prop) : Prop :=
 match conFn x with
 | some g => match Nat.beq g 47 with
  | true => K
  | false => False
 | none => match isTold x with
  | some n => match Mem.find σ n with
   | some b => match b.segs with
    | [.ints .u8 256 t] => Tbl t ∧ K
    | _ => False
   | none => False
  | none => False
def encryptedS : Spec := ⟨0, false, fun _ args σ K => match args with
 | [.agg [.ints .u8 176 w], .agg [.ints .u8 16 b], x] => fnS σ x ((BL 176 w ∧ BL 16 b) ∧ K (.agg [.ints .u8 16 (enc w b)]) σ)
 | _ => False⟩
def encS : Spec := ⟨0, false, fun _ args σ K => match args with
 | [.agg [.ints .u8 176 w], .agg [.ints .u8 16 b]] => (BL 176 w ∧ BL 16 b) ∧ K (.agg [.ints .u8 16 (enc w b)]) σ
 | _ => False⟩
def maskS : Spec := ⟨1, false, fun d args σ K => match args with
 | [.agg [.ints .u8 16 k], .agg [.ints .u8 16 s], x] => rdb σ x fun p => ((BL 16 k ∧ BL 16 s) ∧ (Short p ∧ Bs p)) ∧ K (.one (.vec d)) (Mem.ins d (.vec [.ints .u8 (mask (ks k) s p)]) σ)
 | _ => False⟩
def gamB4 : Gam := ext (ext gamB3 49 encryptedS) 75 encS
end Go.Sx
namespace Go.Proofs.YtienfecnkglilaaDoor.G
open Go Go.Sx Go.Fld Go.Blk
set_option maxRecDepth 100000
def encS.l0 (R : AV → Mem → Prop) (w : List Int) (fuel : Nat) (x0 : Int) (x1 : List Int) : Prop := rN Tryd.prog gamB2 [] Tryd.f49 R fuel [kc Tryd.f49 [1,1,0,1,0,0],ki Tryd.f49 [1,1,0,1,0,0],.inBlock 0,kc Tryd.f49 [1,1,1]] (Uu::Uu::AV.one (AC.con (Value.func (Fn.func 47) (List.toArray []) (List.toArray [])))::AV.one (AC.ptr 3 0 0)::Uu::Uu::AV.one (AC.ptr 6 0 0)::AV.one (AC.ptr 7 0 0)::Ii x0::(us 23 [Zz])) [(3,Blk.own 83 [Seg.ints IntKind.u8 176 w]),(6,Blk.own 37 [Seg.ints IntKind.u8 16 (lzeros 16)]),(7,Blk.own 80 [Seg.ints IntKind.u8 16 x1])]
theorem encS.l0_succ (R : AV → Mem → Prop) (w : List Int) (fuel : Nat) (x0 : Int) (x1 : List Int) : encS.l0 R w (fuel + 1) x0 x1 = (((((ile x0 10) = true) → ((BL 16 x1) ∧ (((BL 16 (qe fsub x1)) ∧ (InB 1 4)) ∧ ((((ilt x0 10) = true) → ((BL 16 (qt 1 (qe fsub x1))) ∧ ((InB x0 11) ∧ ((Fits (nadd (nadd 0 (nmul (nat x0) 16)) 16) 176) ∧ (((BL 16 (qc [2,3,1,1] (qt 1 (qe fsub x1)))) ∧ (BL 16 (lsub w (nadd 0 (nmul (nat x0) 16)) 16))) ∧ (encS.l0 R w fuel (add IntKind.i64 x0 1) (qx (qc [2,3,1,1] (qt 1 (qe fsub x1))) (lsub w (nadd 0 (nmul (nat x0) 16)) 16)))))))) ∧ (((ilt x0 10) = false) → ((InB x0 11) ∧ ((Fits (nadd (nadd 0 (nmul (nat x0) 16)) 16) 176) ∧ (((BL 16 (qt 1 (qe fsub x1))) ∧ (BL 16 (lsub w (nadd 0 (nmul (nat x0) 16)) 16))) ∧ (encS.l0 R w fuel (add IntKind.i64 x0 1) (qx (qt 1 (qe fsub x1)) (lsub w (nadd 0 (nmul (nat x0) 16)) 16))))))))))) ∧ (((ile x0 10) = false) → (R (AV.agg [Seg.ints IntKind.u8 16 x1]) [(3,Blk.own 83 [Seg.ints IntKind.u8 176 w]),(6,Blk.own 37 [Seg.ints IntKind.u8 16 x1]),(7,Blk.own 80 [Seg.ints IntKind.u8 16 x1])])))) := by kernel_rfl
theorem encS_vc (R : AV → Mem → Prop) (fuel : Nat) (w : List Int) (b : List Int) : callsx Tryd.prog gamB2 [] Tryd.f49 (fuel + 1) [.agg [.ints .u8 176 w], .agg [.ints .u8 16 b], .one (.con (.func (.func 47) #[] #[]))] [] R = (((InB 0 11) ∧ ((Fits 16 176) ∧ (((Go.Blk.BL 16 b) ∧ (Go.Blk.BL 16 (lsub w 0 16))) ∧ (encS.l0 R w fuel 1 (Go.Blk.qx b (lsub w 0 16))))))) := by kernel_rfl
def encT.l0 (R : AV → Mem → Prop) (w t : List Int) (fuel : Nat) (x0 : Int) (x1 : List Int) : Prop := rN Tryd.prog gamB2 [] Tryd.f49 R fuel [kc Tryd.f49 [1,1,0,1,0,0],ki Tryd.f49 [1,1,0,1,0,0],.inBlock 0,kc Tryd.f49 [1,1,1]] (Uu::Uu::AV.one (AC.clo 48 200002 0 0)::AV.one (AC.ptr 3 0 0)::Uu::Uu::AV.one (AC.ptr 6 0 0)::AV.one (AC.ptr 7 0 0)::Ii x0::(us 23 [Zz])) [(3,Blk.own 83 [Seg.ints IntKind.u8 176 w]),(6,Blk.own 37 [Seg.ints IntKind.u8 16 (lzeros 16)]),(7,Blk.own 80 [Seg.ints IntKind.u8 16 x1]),(200002,Blk.view [Seg.ints IntKind.u8 256 t])]
theorem encT.l0_succ (R : AV → Mem → Prop) (w t : List Int) (fuel : Nat) (x0 : Int) (x1 : List Int) : encT.l0 R w t (fuel + 1) x0 x1 = (((((ile x0 10) = true) → ((Tbl t) ∧ ((BL 16 x1) ∧ (((BL 16 (qe fsub x1)) ∧ (InB 1 4)) ∧ ((((ilt x0 10) = true) → ((BL 16 (qt 1 (qe fsub x1))) ∧ ((InB x0 11) ∧ ((Fits (nadd (nadd 0 (nmul (nat x0) 16)) 16) 176) ∧ (((BL 16 (qc [2,3,1,1] (qt 1 (qe fsub x1)))) ∧ (BL 16 (lsub w (nadd 0 (nmul (nat x0) 16)) 16))) ∧ (encT.l0 R w t fuel (add IntKind.i64 x0 1) (qx (qc [2,3,1,1] (qt 1 (qe fsub x1))) (lsub w (nadd 0 (nmul (nat x0) 16)) 16)))))))) ∧ (((ilt x0 10) = false) → ((InB x0 11) ∧ ((Fits (nadd (nadd 0 (nmul (nat x0) 16)) 16) 176) ∧ (((BL 16 (qt 1 (qe fsub x1))) ∧ (BL 16 (lsub w (nadd 0 (nmul (nat x0) 16)) 16))) ∧ (encT.l0 R w t fuel (add IntKind.i64 x0 1) (qx (qt 1 (qe fsub x1)) (lsub w (nadd 0 (nmul (nat x0) 16)) 16)))))))))))) ∧ (((ile x0 10) = false) → (R (AV.agg [Seg.ints IntKind.u8 16 x1]) [(3,Blk.own 83 [Seg.ints IntKind.u8 176 w]),(6,Blk.own 37 [Seg.ints IntKind.u8 16 x1]),(7,Blk.own 80 [Seg.ints IntKind.u8 16 x1]),(200002,Blk.view [Seg.ints IntKind.u8 256 t])])))) := by kernel_rfl
theorem encT_vc (R : AV → Mem → Prop) (fuel : Nat) (w : List Int) (b : List Int) (t : List Int) : callsx Tryd.prog gamB2 [] Tryd.f49 (fuel + 1) [.agg [.ints .u8 176 w], .agg [.ints .u8 16 b], .one (.clo 48 200002 0 0)] [(200002, .view [.ints .u8 256 t])] R = (((InB 0 11) ∧ ((Fits 16 176) ∧ (((Go.Blk.BL 16 b) ∧ (Go.Blk.BL 16 (lsub w 0 16))) ∧ (encT.l0 R w t fuel 1 (Go.Blk.qx b (lsub w 0 16))))))) := by kernel_rfl
def rWith.l1 (R : AV → Mem → Prop) (x0 : Int) (w x1 : List Int) (fuel : Nat) (x2 : Int) (x3 : List Int) : Prop := rN Tryd.prog gamB3 [] Tryd.f75 R fuel [kc Tryd.f75 [1,1,0,1,0,0,1,0,0,1,0,1,0,0],ki Tryd.f75 [1,1,0,1,0,0,1,0,0,1,0,1,0,0],.inBlock 2,kc Tryd.f75 [1,1,0,1,0,0,1,0,0,1,1],.inBlock 1,kc Tryd.f75 [1,1,0,1,0,0,1,1],ki Tryd.f75 [1,1,0,1,0,0],.inBlock 0,kc Tryd.f75 [1,1,1]] (Uu::Uu::AV.one (AC.ptr 2 0 0)::AV.one (AC.ptr 3 0 0)::AV.one (AC.ptr 4 0 0)::Ii x0::AV.one (AC.ptr 6 0 0)::Ii x2::Uu::Uu::Uu::Ii x0::Ll true::(us 26 [Zz])) [(2,Blk.own 118 [Seg.ints IntKind.u8 176 w]),(3,Blk.own 37 [Seg.ints IntKind.u8 16 x1]),(4,Blk.own 37 [Seg.ints IntKind.u8 16 (lzeros 16)]),(6,Blk.own 37 [Seg.ints IntKind.u8 16 x3])]
def rWith.l0 (R : AV → Mem → Prop) (w : List Int) (fuel : Nat) (x0 : Int) (x1 : List Int) : Prop := rN Tryd.prog gamB3 [] Tryd.f75 R fuel [kc Tryd.f75 [1,1,0,1,0,0],ki Tryd.f75 [1,1,0,1,0,0],.inBlock 0,kc Tryd.f75 [1,1,1]] (Uu::Uu::AV.one (AC.ptr 2 0 0)::AV.one (AC.ptr 3 0 0)::AV.one (AC.ptr 4 0 0)::Ii x0::(us 33 [Zz])) [(2,Blk.own 118 [Seg.ints IntKind.u8 176 w]),(3,Blk.own 37 [Seg.ints IntKind.u8 16 x1]),(4,Blk.own 37 [Seg.ints IntKind.u8 16 (lzeros 16)])]
theorem rWith.l1_succ (R : AV → Mem → Prop) (x0 : Int) (w x1 : List Int) (fuel : Nat) (x2 : Int) (x3 : List Int) : rWith.l1 R x0 w x1 (fuel + 1) x2 x3 = (((((ilt x2 16) = true) → ((NeZ 4) ∧ ((NeZ 16) ∧ ((InB (rem (add IntKind.i64 x2 (mul IntKind.i64 4 (rem x2 4))) 16) 16) ∧ ((Low (nadd 0 (nat (rem (add IntKind.i64 x2 (mul IntKind.i64 4 (rem x2 4))) 16))) 16) ∧ ((InB (lget x1 (nadd 0 (nat (rem (add IntKind.i64 x2 (mul IntKind.i64 4 (rem x2 4))) 16)))) 256) ∧ ((InB x2 16) ∧ ((Low (nadd 0 (nat x2)) 16) ∧ (let y4 : Int := (sget boxC (nat (lget x1 (nadd 0 (nat (rem (add IntKind.i64 x2 (mul IntKind.i64 4 (rem x2 4))) 16)))))); (let y5 : List Int := (lset x3 (nadd 0 (nat x2)) (sget boxC (nat (lget x1 (nadd 0 (nat (rem (add IntKind.i64 x2 (mul IntKind.i64 4 (rem x2 4))) 16))))))); (rWith.l1 R x0 w x1 fuel (add IntKind.i64 x2 1) y5))))))))))) ∧ (((ilt x2 16) = false) → ((((ilt x0 10) = true) → ((BL 16 x3) ∧ ((((BL 16 (qc [2,3,1,1] x3)) ∧ (BL 176 w)) ∧ (InB x0 11)) ∧ (rWith.l0 R w fuel (add IntKind.i64 x0 1) (qx (qc [2,3,1,1] x3) (rk w (nat x0))))))) ∧ (((ilt x0 10) = false) → ((((BL 16 x3) ∧ (BL 176 w)) ∧ (InB x0 11)) ∧ (rWith.l0 R w fuel (add IntKind.i64 x0 1) (qx x3 (rk w (nat x0)))))))))) := by kernel_rfl
theorem rWith.l0_succ (R : AV → Mem → Prop) (w : List Int) (fuel : Nat) (x0 : Int) (x1 : List Int) : rWith.l0 R w (fuel + 1) x0 x1 = (((((ile x0 10) = true) → (rWith.l1 R x0 w x1 fuel 0 (lzeros 16))) ∧ (((ile x0 10) = false) → (R (AV.agg [Seg.ints IntKind.u8 16 x1]) [(2,Blk.own 118 [Seg.ints IntKind.u8 176 w]),(3,Blk.own 37 [Seg.ints IntKind.u8 16 x1]),(4,Blk.own 37 [Seg.ints IntKind.u8 16 x1])])))) := by kernel_rfl
theorem rWith_vc (R : AV → Mem → Prop) (fuel : Nat) (w : List Int) (b : List Int) : callsx Tryd.prog gamB3 [] Tryd.f75 (fuel + 1) [.agg [.ints .u8 176 w], .agg [.ints .u8 16 b]] [] R = (((((Go.Blk.BL 16 b) ∧ (Go.Blk.BL 176 w)) ∧ (InB 0 11)) ∧ (rWith.l0 R w fuel 1 (Go.Blk.qx b (Go.Blk.rk w 0))))) := by kernel_rfl
def bMask.l2 (R : AV → Mem → Prop) (x3 : Int) (x5 k x4 x2 p : List Int) (fuel : Nat) (x6 : Int) (x7 : List Int) : Prop := rN Tryd.prog gamB4 [] Tryd.f33 R fuel [kc Tryd.f33 [1,1,1,1,1,1,0,1,0,0,1,0,0,1,0,1,0,0],ki Tryd.f33 [1,1,1,1,1,1,0,1,0,0,1,0,0,1,0,1,0,0],.inBlock 4,kc Tryd.f33 [1,1,1,1,1,1,0,1,0,0,1,0,0,1,1],.inBlock 3,kc Tryd.f33 [1,1,1,1,1,1,0,1,0,0,1,1],ki Tryd.f33 [1,1,1,1,1,1,0,1,0,0],.inBlock 2,kc Tryd.f33 [1,1,1,1,1,1,1]] (us 4 (AV.one (AC.ptr 4 0 0)::Uu::Uu::AV.one (AC.ptr 7 0 0)::Vv 19::AV.one (AC.clo 48 10 0 0)::Uu::Uu::Ii x3::AV.one (AC.ptr 13 0 0)::Ii x6::(us 21 (Ii x3::Vv 19::Ii (ofNat (llen x5))::Ll true::Uu::Uu::(AV.agg [Seg.ints IntKind.u8 176 (ks k)])::(AV.agg [Seg.ints IntKind.u8 16 x4])::AV.one (AC.clo 48 10 0 0)::(AV.agg [Seg.ints IntKind.u8 16 (enc (ks k) x4)])::Ii x3::(us 22 [Zz]))))) [(4,Blk.own 37 [Seg.ints IntKind.u8 16 x4]),(7,Blk.own 83 [Seg.ints IntKind.u8 176 (ks k)]),(10,Blk.own 86 [Seg.ints IntKind.u8 256 x2]),(13,Blk.own 37 [Seg.ints IntKind.u8 16 (enc (ks k) x4)]),(19,Blk.vec [Col.ints IntKind.u8 x7]),(200002,Blk.rview [Col.ints IntKind.u8 p])]
def bMask.l1 (R : AV → Mem → Prop) (k x2 p : List Int) (fuel : Nat) (x3 : Int) (x4 x5 : List Int) : Prop := rN Tryd.prog gamB4 [] Tryd.f33 R fuel [kc Tryd.f33 [1,1,1,1,1,1,0,1,0,0],ki Tryd.f33 [1,1,1,1,1,1,0,1,0,0],.inBlock 2,kc Tryd.f33 [1,1,1,1,1,1,1]] (us 4 (AV.one (AC.ptr 4 0 0)::Uu::Uu::AV.one (AC.ptr 7 0 0)::Vv 19::AV.one (AC.clo 48 10 0 0)::Uu::Uu::Ii x3::(us 56 [Zz]))) [(4,Blk.own 37 [Seg.ints IntKind.u8 16 x4]),(7,Blk.own 83 [Seg.ints IntKind.u8 176 (ks k)]),(10,Blk.own 86 [Seg.ints IntKind.u8 256 x2]),(19,Blk.vec [Col.ints IntKind.u8 x5]),(200002,Blk.rview [Col.ints IntKind.u8 p])]
def bMask.l0 (R : AV → Mem → Prop) (s k y0 p : List Int) (fuel : Nat) (x1 : Int) (x2 : List Int) : Prop := rN Tryd.prog gamB4 [] Tryd.f33 R fuel [kc Tryd.f33 [1,1,1,1,1,0,1,0,1,0,1,0,0],ki Tryd.f33 [1,1,1,1,1,0,1,0,1,0,1,0,0],.inBlock 0,kc Tryd.f33 [1,1,1,1,1,0,1,0,1,1],kc Tryd.f33 [1,1,1,1,1,1]] (us 4 (AV.one (AC.ptr 4 0 0)::Uu::Uu::AV.one (AC.ptr 7 0 0)::Vv 19::AV.one (AC.con (Value.func (Fn.func 47) (List.toArray []) (List.toArray [])))::AV.one (AC.ptr 10 0 0)::Uu::Zz::Zz::Zz::(us 11 (Ii x1::(us 8 (zs 35 [])))))) [(4,Blk.own 37 [Seg.ints IntKind.u8 16 s]),(7,Blk.own 83 [Seg.ints IntKind.u8 176 (ks k)]),(10,Blk.own 86 [Seg.ints IntKind.u8 256 x2]),(19,Blk.vec [Col.ints IntKind.u8 y0]),(200002,Blk.rview [Col.ints IntKind.u8 p])]
def bMask.l4 (R : AV → Mem → Prop) (x10 : Int) (x12 k x11 p : List Int) (fuel : Nat) (x13 : Int) (x14 : List Int) : Prop := rN Tryd.prog gamB4 [] Tryd.f33 R fuel [kc Tryd.f33 [1,1,1,1,1,1,0,1,0,0,1,0,0,1,0,1,0,0],ki Tryd.f33 [1,1,1,1,1,1,0,1,0,0,1,0,0,1,0,1,0,0],.inBlock 4,kc Tryd.f33 [1,1,1,1,1,1,0,1,0,0,1,0,0,1,1],.inBlock 3,kc Tryd.f33 [1,1,1,1,1,1,0,1,0,0,1,1],ki Tryd.f33 [1,1,1,1,1,1,0,1,0,0],.inBlock 2,kc Tryd.f33 [1,1,1,1,1,1,1]] (us 4 (AV.one (AC.ptr 4 0 0)::Uu::Uu::AV.one (AC.ptr 7 0 0)::Vv 19::AV.one (AC.con (Value.func (Fn.func 47) (List.toArray []) (List.toArray [])))::Uu::Uu::Ii x10::AV.one (AC.ptr 13 0 0)::Ii x13::(us 21 (Ii x10::Vv 19::Ii (ofNat (llen x12))::Ll true::Uu::Uu::(AV.agg [Seg.ints IntKind.u8 176 (ks k)])::(AV.agg [Seg.ints IntKind.u8 16 x11])::AV.one (AC.con (Value.func (Fn.func 47) (List.toArray []) (List.toArray [])))::(AV.agg [Seg.ints IntKind.u8 16 (enc (ks k) x11)])::Ii x10::(us 22 [Zz]))))) [(4,Blk.own 37 [Seg.ints IntKind.u8 16 x11]),(7,Blk.own 83 [Seg.ints IntKind.u8 176 (ks k)]),(13,Blk.own 37 [Seg.ints IntKind.u8 16 (enc (ks k) x11)]),(19,Blk.vec [Col.ints IntKind.u8 x14]),(200002,Blk.rview [Col.ints IntKind.u8 p])]
def bMask.l3 (R : AV → Mem → Prop) (k p : List Int) (fuel : Nat) (x10 : Int) (x11 x12 : List Int) : Prop := rN Tryd.prog gamB4 [] Tryd.f33 R fuel [kc Tryd.f33 [1,1,1,1,1,1,0,1,0,0],ki Tryd.f33 [1,1,1,1,1,1,0,1,0,0],.inBlock 2,kc Tryd.f33 [1,1,1,1,1,1,1]] (us 4 (AV.one (AC.ptr 4 0 0)::Uu::Uu::AV.one (AC.ptr 7 0 0)::Vv 19::AV.one (AC.con (Value.func (Fn.func 47) (List.toArray []) (List.toArray [])))::Uu::Uu::Ii x10::(us 56 [Zz]))) [(4,Blk.own 37 [Seg.ints IntKind.u8 16 x11]),(7,Blk.own 83 [Seg.ints IntKind.u8 176 (ks k)]),(19,Blk.vec [Col.ints IntKind.u8 x12]),(200002,Blk.rview [Col.ints IntKind.u8 p])]
theorem bMask.l2_succ (R : AV → Mem → Prop) (x3 : Int) (x5 k x4 x2 p : List Int) (fuel : Nat) (x6 : Int) (x7 : List Int) : bMask.l2 R x3 x5 k x4 x2 p (fuel + 1) x6 x7 = (((((ilt x6 (imin (add IntKind.i64 x3 16) (ofNat (llen x7)))) = true) → ((InB x6 (llen x7)) ∧ ((InB (sub IntKind.i64 x6 x3) 16) ∧ ((Low (nadd 0 (nat (sub IntKind.i64 x6 x3))) 16) ∧ ((InB x6 (llen x7)) ∧ (let y8 : Int := (bxor IntKind.u8 (lget x7 (nat x6)) (lget (enc (ks k) x4) (nadd 0 (nat (sub IntKind.i64 x6 x3))))); (let y9 : List Int := (lset x7 (nat x6) (bxor IntKind.u8 (lget x7 (nat x6)) (lget (enc (ks k) x4) (nadd 0 (nat (sub IntKind.i64 x6 x3)))))); (bMask.l2 R x3 x5 k x4 x2 p fuel (add IntKind.i64 x6 1) y9)))))))) ∧ (((ilt x6 (imin (add IntKind.i64 x3 16) (ofNat (llen x7)))) = false) → ((BL 16 x4) ∧ (bMask.l1 R k x2 p fuel (add IntKind.i64 x3 16) (up x4) x7))))) := by kernel_rfl
theorem bMask.l1_succ (R : AV → Mem → Prop) (k x2 p : List Int) (fuel : Nat) (x3 : Int) (x4 x5 : List Int) : bMask.l1 R k x2 p (fuel + 1) x3 x4 x5 = (((((ilt x3 (ofNat (llen x5))) = true) → ((Tbl x2) ∧ (((BL 176 (ks k)) ∧ (BL 16 x4)) ∧ (bMask.l2 R x3 x5 k x4 x2 p fuel x3 x5)))) ∧ (((ilt x3 (ofNat (llen x5))) = false) → (R (Vv 19) [(4,Blk.own 37 [Seg.ints IntKind.u8 16 x4]),(7,Blk.own 83 [Seg.ints IntKind.u8 176 (ks k)]),(10,Blk.own 86 [Seg.ints IntKind.u8 256 x2]),(19,Blk.vec [Col.ints IntKind.u8 x5]),(200002,Blk.rview [Col.ints IntKind.u8 p])])))) := by kernel_rfl
theorem bMask.l0_succ (R : AV → Mem → Prop) (s k y0 p : List Int) (fuel : Nat) (x1 : Int) (x2 : List Int) : bMask.l0 R s k y0 p (fuel + 1) x1 x2 = (((((ilt x1 256) = true) → ((Byte (conv IntKind.u8 x1)) ∧ ((InB x1 256) ∧ ((Low (nadd 0 (nat x1)) 256) ∧ (bMask.l0 R s k y0 p fuel (add IntKind.i64 x1 1) (lset x2 (nadd 0 (nat x1)) (fsub (conv IntKind.u8 x1)))))))) ∧ (((ilt x1 256) = false) → (bMask.l1 R k x2 p fuel 0 s y0)))) := by kernel_rfl
theorem bMask.l4_succ (R : AV → Mem → Prop) (x10 : Int) (x12 k x11 p : List Int) (fuel : Nat) (x13 : Int) (x14 : List Int) : bMask.l4 R x10 x12 k x11 p (fuel + 1) x13 x14 = (((((ilt x13 (imin (add IntKind.i64 x10 16) (ofNat (llen x14)))) = true) → ((InB x13 (llen x14)) ∧ ((InB (sub IntKind.i64 x13 x10) 16) ∧ ((Low (nadd 0 (nat (sub IntKind.i64 x13 x10))) 16) ∧ ((InB x13 (llen x14)) ∧ (let y15 : Int := (bxor IntKind.u8 (lget x14 (nat x13)) (lget (enc (ks k) x11) (nadd 0 (nat (sub IntKind.i64 x13 x10))))); (let y16 : List Int := (lset x14 (nat x13) (bxor IntKind.u8 (lget x14 (nat x13)) (lget (enc (ks k) x11) (nadd 0 (nat (sub IntKind.i64 x13 x10)))))); (bMask.l4 R x10 x12 k x11 p fuel (add IntKind.i64 x13 1) y16)))))))) ∧ (((ilt x13 (imin (add IntKind.i64 x10 16) (ofNat (llen x14)))) = false) → ((BL 16 x11) ∧ (bMask.l3 R k p fuel (add IntKind.i64 x10 16) (up x11) x14))))) := by kernel_rfl
theorem bMask.l3_succ (R : AV → Mem → Prop) (k p : List Int) (fuel : Nat) (x10 : Int) (x11 x12 : List Int) : bMask.l3 R k p (fuel + 1) x10 x11 x12 = (((((ilt x10 (ofNat (llen x12))) = true) → (((BL 176 (ks k)) ∧ (BL 16 x11)) ∧ (bMask.l4 R x10 x12 k x11 p fuel x10 x12))) ∧ (((ilt x10 (ofNat (llen x12))) = false) → (R (Vv 19) [(4,Blk.own 37 [Seg.ints IntKind.u8 16 x11]),(7,Blk.own 83 [Seg.ints IntKind.u8 176 (ks k)]),(19,Blk.vec [Col.ints IntKind.u8 x12]),(200002,Blk.rview [Col.ints IntKind.u8 p])])))) := by kernel_rfl
theorem bMask_vc (R : AV → Mem → Prop) (fuel : Nat) (k : List Int) (s : List Int) (p : List Int) : callsx Tryd.prog gamB4 [] Tryd.f33 (fuel + 1) [.agg [.ints .u8 16 k], .agg [.ints .u8 16 s], .one (.vec 200002)] [(200002, .rview [.ints .u8 p])] R = (((Go.Blk.BL 16 k) ∧ ((Mk (ofNat (llen p)) (ofNat (llen p)) 1) ∧ (let y0 : List Int := (lput (lzeros (nat (ofNat (llen p)))) 0 (lsub p 0 (nmin (llen p) (llen (lzeros (nat (ofNat (llen p)))))))); ((((igt (ofNat (llen p)) 32) = true) → (bMask.l0 R s k y0 p fuel 0 (lzeros 256))) ∧ (((igt (ofNat (llen p)) 32) = false) → (bMask.l3 R k p fuel 0 s y0))))))) := by kernel_rfl
end Go.Proofs.YtienfecnkglilaaDoor.G
namespace Go.Blk
open Go.Sx Go.Fld
theorem qx_bl {b k : List Int} (hb : BL 16 b) (hk : BL 16 k) : BL 16 (qx b k) := BL.tab fun i _ => byte_xor (hb.get i) (hk.get i)
theorem qe_sub {b : List Int} : BL 16 (qe fsub b) := BL.tab fun i _ => byte_sub
theorem qt_bl {n : Nat} {b : List Int} (hb : BL 16 b) : BL 16 (qt n b) := BL.tab fun i _ => hb.get _
theorem lsub_bl {w : List Int} {n : Nat} (hw : BL n w) {o z : Nat} (h : o + z ≤ n) : BL z (lsub w o z) := ⟨lsub_len _ _ _ (by rw [hw.len]; exact h), fun x hx => hw.all x (List.mem_of_mem_drop (List.mem_of_mem_take hx))⟩
theorem rk_bl {w : List Int} (hw : BL 176 w) {i : Nat} (hi : i < 11) : BL 16 (rk w i) := lsub_bl hw (by omega)
theorem mixN_byte {c f : List Int} (hf : ∀ x ∈ natL f, x < 256) : ∀ x ∈ fmix c f, Byte x := by
 have hg : ∀ j, (natL f).getD j 0 < 256 := fun j => by
  rw [List.getD_eq_getElem?_getD]
  cases hq : (natL f)[j]? with
  | none => simp
  | some x => exact hf x (List.mem_of_getElem? hq)
 have ml_lt : ∀ (d r i s : Nat), s < 256 → ml (natL c) (natL f) r d i s < 256 := by
  intro d
  induction d with
  | zero => intro r i s hs; exact hs
  | succ d ih => intro r i s hs; exact ih r (i + 1) _ (xor_lt hs (gm_lt (hg _)))
 have m1 : ∀ r, mix1 (natL c) (natL f) r < 256 := fun r => ml_lt 4 r 0 0 (by decide)
 intro x hx
 obtain ⟨n, hn, rfl⟩ := List.mem_map.1 hx
 simp only [mixN, List.mem_cons, List.not_mem_nil, or_false] at hn
 rcases hn with rfl | rfl | rfl | rfl <;> exact Byte.of (m1 _)
theorem fmix_bl {c f : List Int} (hf : ∀ x ∈ natL f, x < 256) : BL 4 (fmix c f) := ⟨rfl, mixN_byte hf⟩
theorem qc_bl {f b : List Int} (hf : ∀ x ∈ natL f, x < 256) : BL 16 (qc f b) := BL.tab fun i _ => (fmix_bl hf).get _
theorem there : ∀ x ∈ natL [2, 3, 1, 1], x < 256 := by decide
end Go.Blk
namespace Go.Proofs.YtienfecnkglilaaDoor.G
open Go Go.Sx Go.Fld Go.Blk
theorem encN_bl {w : List Int} (hw : BL 176 w) : ∀ (n i : Nat) {x : List Int}, n + i = 11 → BL 16 x → BL 16 (encN w n i x)
 | 0, _, _, _, h => h
 | n + 1, i, x, hn, h => by
  refine encN_bl hw n (i + 1) (by omega) (qx_bl ?_ (rk_bl hw (by omega)))
  split
  ·exact qc_bl there
  ·exact qt_bl qe_sub
theorem enc_bl {w b : List Int} (hw : BL 176 w) (hb : BL 16 b) : BL 16 (enc w b) := encN_bl hw 10 1 rfl (qx_bl hb (rk_bl hw (by decide)))
theorem rk_nat (w : List Int) (i : Nat) : lsub w (nadd 0 (nmul (nat (i : Int)) 16)) 16 = rk w i := by
 simp only [nadd_def, nmul_def, nat_cast, rk]; congr 1; omega
theorem encS_run {R : AV → Mem → Prop} {w r : List Int} (hw : BL 176 w) (h : ∀ σ, R (.agg [.ints .u8 16 r]) σ) : ∀ (n i : Nat) (x : List Int), n + i = 11 → 1 ≤ i → BL 16 x → encN w n i x = r → encS.l0 R w (n + 1) (i : Int) x
 | 0, i, x, hn, h1, hx, e => by
  rw [encS.l0_succ]
  refine ⟨fun q => ?_, fun _ => ?_⟩
  ·rw [ile_true] at q; omega
  ·rw [show x = r from e]; exact h _
 | n + 1, i, x, hn, h1, hx, e => by
  rw [encS.l0_succ]
  have hk := rk_bl hw (i := i) (by omega)
  have hI : InB (i : Int) 11 := ⟨by omega, by omega⟩
  have hF : Fits (nadd (nadd 0 (nmul (nat (i : Int)) 16)) 16) 176 := ⟨by simp only [nadd_def, nmul_def, nat_cast]; omega⟩
  rw [rk_nat, add1_i64 (by omega)]
  refine ⟨fun _ => ⟨hx, ⟨qe_sub, by decide, by decide⟩, fun q => ⟨qt_bl qe_sub, hI, hF, ⟨qc_bl there, hk⟩, ?_⟩, fun q => ⟨hI, hF, ⟨qt_bl qe_sub, hk⟩, ?_⟩⟩, fun q => ?_⟩
  ·rw [ilt_true] at q
   exact encS_run hw h n (i + 1) _ (by omega) (by omega) (qx_bl (qc_bl there) hk) (by rw [← e]; show _ = encN w n (i + 1) (qx (if i < 10 then _ else _) _); rw [if_pos (by omega)])
  ·rw [ilt_false] at q
   exact encS_run hw h n (i + 1) _ (by omega) (by omega) (qx_bl (qt_bl qe_sub) hk) (by rw [← e]; show _ = encN w n (i + 1) (qx (if i < 10 then _ else _) _); rw [if_neg (by omega)])
  ·rw [ile_false] at q; omega
theorem encT_run {R : AV → Mem → Prop} {w r t : List Int} (ht : Tbl t) (hw : BL 176 w) (h : ∀ σ, R (.agg [.ints .u8 16 r]) σ) : ∀ (n i : Nat) (x : List Int), n + i = 11 → 1 ≤ i → BL 16 x → encN w n i x = r → encT.l0 R w t (n + 1) (i : Int) x
 | 0, i, x, hn, h1, hx, e => by
  rw [encT.l0_succ]
  refine ⟨fun q => ?_, fun _ => ?_⟩
  ·rw [ile_true] at q; omega
  ·rw [show x = r from e]; exact h _
 | n + 1, i, x, hn, h1, hx, e => by
  rw [encT.l0_succ]
  have hk := rk_bl hw (i := i) (by omega)
  have hI : InB (i : Int) 11 := ⟨by omega, by omega⟩
  have hF : Fits (nadd (nadd 0 (nmul (nat (i : Int)) 16)) 16) 176 := ⟨by simp only [nadd_def, nmul_def, nat_cast]; omega⟩
  rw [rk_nat, add1_i64 (by omega)]
  refine ⟨fun _ => ⟨ht, hx, ⟨qe_sub, by decide, by decide⟩, fun q => ⟨qt_bl qe_sub, hI, hF, ⟨qc_bl there, hk⟩, ?_⟩, fun q => ⟨hI, hF, ⟨qt_bl qe_sub, hk⟩, ?_⟩⟩, fun q => ?_⟩
  ·rw [ilt_true] at q
   exact encT_run ht hw h n (i + 1) _ (by omega) (by omega) (qx_bl (qc_bl there) hk) (by rw [← e]; show _ = encN w n (i + 1) (qx (if i < 10 then _ else _) _); rw [if_pos (by omega)])
  ·rw [ilt_false] at q
   exact encT_run ht hw h n (i + 1) _ (by omega) (by omega) (qx_bl (qt_bl qe_sub) hk) (by rw [← e]; show _ = encN w n (i + 1) (qx (if i < 10 then _ else _) _); rw [if_neg (by omega)])
  ·rw [ile_false] at q; omega
theorem good_encrypted : Sx.Good Tryd.prog 49 encryptedS := by
 refine Sx.Good.reads (D := []) mixed gamB2_good Tryd.func49 (by kernel_rfl) rfl fun d args σ K h => ?_
 simp only [encryptedS] at h
 split at h <;> try exact h.elim
 rename_i w b x
 unfold fnS at h
 have h0 : ∀ {w b : List Int}, BL 176 w → BL 16 b → BL 16 (rk w 0) := fun hw _ => rk_bl hw (by decide)
 split at h
 ·rename_i g hg
  obtain rfl := conFn_eq hg
  split at h <;> try exact h.elim
  rename_i hq
  obtain rfl := beq_nat hq
  obtain ⟨⟨hw, hb⟩, hK⟩ := h
  refine ⟨_, [], .plain (plain_ints _ _ _) (.plain (plain_ints _ _ _) (.plain (plain_con _) (.nil _))), by simp, 11 + 1, ?_⟩
  rw [encS_vc]
  exact ⟨⟨by decide, by decide⟩, ⟨by decide⟩, ⟨hb, h0 hw hb⟩, encS_run hw (fun σ' => res_arr rfl hK) 10 1 _ rfl (by decide) (qx_bl hb (h0 hw hb)) rfl⟩
 ·split at h <;> try exact h.elim
  rename_i n hn
  obtain rfl := isTold_eq hn
  split at h <;> try exact h.elim
  rename_i bk hbk
  split at h <;> try exact h.elim
  rename_i t ht
  obtain ⟨hT, ⟨hw, hb⟩, hK⟩ := h
  refine ⟨[.agg [.ints .u8 176 w], .agg [.ints .u8 16 b], .one (.clo 48 200002 0 0)], [(200002, .view [.ints .u8 256 t])], .plain (plain_ints _ _ _) (.plain (plain_ints _ _ _) (ht ▸ .clo hbk (by rw [ht]; intro m; rfl) (.nil _))), by simp, 11 + 1, ?_⟩
  rw [encT_vc]
  exact ⟨⟨by decide, by decide⟩, ⟨by decide⟩, ⟨hb, h0 hw hb⟩, encT_run hT hw (fun σ' => res_arr rfl hK) 10 1 _ rfl (by decide) (qx_bl hb (h0 hw hb)) rfl⟩
theorem qt1_at {b : List Int} (j : Nat) (hj : j < 16) : lget (qt 1 (qe fsub b)) j = fsub (lget b ((j + 4 * (j % 4)) % 16)) := by
 rw [qt, tab_lget _ hj, qe, tab_lget _ (by omega)]
 congr 2; omega
theorem rWith_run {R : AV → Mem → Prop} {w r : List Int} (hw : BL 176 w) (h : ∀ σ, R (.agg [.ints .u8 16 r]) σ) : ∀ (n i : Nat) (x : List Int), n + i = 11 → 1 ≤ i → BL 16 x → encN w n i x = r → rWith.l0 R w (18 * n + 1) (i : Int) x
 | 0, i, x, hn, h1, hx, e => by
  rw [rWith.l0_succ]
  refine ⟨fun q => ?_, fun _ => ?_⟩
  ·rw [ile_true] at q; omega
  ·rw [show x = r from e]; exact h _
 | n + 1, i, x, hn, h1, hx, e => by
  rw [rWith.l0_succ]
  have hk := rk_bl hw (i := i) (by omega)
  have hI : InB (i : Int) 11 := ⟨by omega, by omega⟩
  refine ⟨fun _ => ?_, fun q => ?_⟩
  ·have key := loop_n (fun f j s => rWith.l1 R (i : Int) w x f j s) 16 (fun j => upto 16 j (lget (qt 1 (qe fsub x))) fun _ => 0) 1 (18 * n + 1 + 1)
    (fun f j hj hf => by
     rw [rWith.l1_succ]
     refine ⟨fun _ => ?_, fun q => ?_⟩
     ·have e1 : rem (j : Int) 4 = ((j % 4 : Nat) : Int) := remN (b := 4)
      have e2 : mul .i64 4 ((j % 4 : Nat) : Int) = ((4 * (j % 4) : Nat) : Int) := mulN_i64 (a := 4) (by omega)
      have e3 : add .i64 (j : Int) ((4 * (j % 4) : Nat) : Int) = ((j + 4 * (j % 4) : Nat) : Int) := addN_i64 (by omega)
      have e4 : rem ((j + 4 * (j % 4) : Nat) : Int) 16 = (((j + 4 * (j % 4)) % 16 : Nat) : Int) := remN (b := 16)
      obtain ⟨m, hm, em⟩ := (hx.get ((j + 4 * (j % 4)) % 16)).nat
      have e5 : sget boxC m = lget (qt 1 (qe fsub x)) j := by rw [qt1_at j hj, em, box_at m hm]
      simp only [e1, e2, e3, e4, nat_cast, nadd_def, Nat.zero_add, em, e5, InB_iff, Low_iff, NeZ_iff]
      refine ⟨by decide, by decide, by omega, by omega, by omega, by omega, hj, ?_⟩
      rw [add1_i64 (by omega), upto_lset rfl]
      exact hf
     ·rw [ilt_false] at q; omega)
    (by
     rw [rWith.l1_succ]
     refine ⟨fun q => ?_, fun _ => ?_⟩
     ·rw [ilt_true] at q; omega
     ·have ey : upto 16 16 (lget (qt 1 (qe fsub x))) (fun _ => 0) = qt 1 (qe fsub x) := by rw [upto_done]; exact (eq_tab (tab_len _ _)).symm
      simp only [ey, add1_i64 (show i < 9223372036854775807 by omega), nat_cast]
      refine ⟨fun q => ⟨qt_bl qe_sub, ⟨⟨qc_bl there, hw⟩, hI⟩, ?_⟩, fun q => ⟨⟨⟨qt_bl qe_sub, hw⟩, hI⟩, ?_⟩⟩
      ·rw [ilt_true] at q
       exact rWith_run hw h n (i + 1) _ (by omega) (by omega) (qx_bl (qc_bl there) hk) (by rw [← e]; show _ = encN w n (i + 1) (qx (if i < 10 then _ else _) _); rw [if_pos (by omega)])
      ·rw [ilt_false] at q
       exact rWith_run hw h n (i + 1) _ (by omega) (by omega) (qx_bl (qt_bl qe_sub) hk) (by rw [← e]; show _ = encN w n (i + 1) (qx (if i < 10 then _ else _) _); rw [if_neg (by omega)])) 0 (Nat.zero_le _)
   rw [upto_zero, ← lzeros_tab] at key
   exact key
  ·rw [ile_false] at q; omega
theorem good_rwith : Sx.Good Tryd.prog 75 encS := by
 refine Sx.Good.pure (D := []) mixed gamB3_good Tryd.func75 (by kernel_rfl) rfl fun d args σ K h => ?_
 simp only [Sx.encS] at h
 split at h <;> try exact h.elim
 rename_i w b
 obtain ⟨⟨hw, hb⟩, hK⟩ := h
 refine ⟨by simp [plain_ints], _, plain_ints _ _ _, hK, 181 + 1, ?_⟩
 rw [rWith_vc]
 exact ⟨⟨⟨hb, hw⟩, ⟨by decide, by decide⟩⟩, rWith_run hw (fun σ' => rfl) 10 1 _ rfl (by decide) (qx_bl hb (rk_bl hw (by decide))) rfl⟩
theorem gamB4_good : GoodG Tryd.prog gamB4 :=
 (gamB3_good.ext good_encrypted ⟨_, Tryd.func49, by decide, by kernel_rfl⟩).ext good_rwith ⟨_, Tryd.func75, by decide, by kernel_rfl⟩
end Go.Proofs.YtienfecnkglilaaDoor.G
namespace Go.Blk
open Go.Sx Go.Fld
theorem natL_intL (l : List Nat) : natL (intL l) = l := by
 simp only [natL, intL, List.map_map]
 conv => rhs; rw [← List.map_id l]
 exact List.map_congr_left fun x _ => rfl
theorem col_nat {b : List Int} (hb : BL 4 b) : ∃ x y z w : Nat, L4 x y z w ∧ natL b = [x, y, z, w] ∧ b = intL [x, y, z, w] := by
 obtain ⟨x, hx, ex⟩ := (hb.get 0).nat
 obtain ⟨y, hy, ey⟩ := (hb.get 1).nat
 obtain ⟨z, hz, ez⟩ := (hb.get 2).nat
 obtain ⟨w, hw, ew⟩ := (hb.get 3).nat
 have e : b = intL [x, y, z, w] := by
  rw [hb.eq]
  simp only [Sx.tab, List.range_succ, List.range_zero, List.nil_append, List.map_cons, List.map_nil, List.cons_append, ex, ey, ez, ew]; rfl
 exact ⟨x, y, z, w, ⟨hx, hy, hz, hw⟩, by rw [e, natL_intL], e⟩
end Go.Blk
namespace Go.Proofs.YtienfecnkglilaaDoor.G
open Go Go.Sx Go.Fld Go.Blk
set_option maxRecDepth 100000
def rMask.l0 (R : AV → Mem → Prop) (k p : List Int) (fuel : Nat) (x0 : Int) (x1 x2 x3 : List Int) : Prop := rN Tryd.prog gamB4 [⟨8,[.ints .u8],true,false⟩] Tryd.f57 R fuel [kc Tryd.f57 [1,1,1,1,0,1,0,0],ki Tryd.f57 [1,1,1,1,0,1,0,0],.inBlock 0,kc Tryd.f57 [1,1,1,1,1]] (Uu::Uu::Vv 200002::Uu::AV.one (AC.ptr 4 0 0)::Uu::Uu::AV.one (AC.ptr 7 0 0)::Vv 100008::AV.one (AC.ptr 9 0 0)::Ii x0::(us 31 [Zz])) [(4,Blk.own 37 [Seg.ints IntKind.u8 16 x1]),(7,Blk.own 118 [Seg.ints IntKind.u8 176 (ks k)]),(9,Blk.own 37 [Seg.ints IntKind.u8 16 x2]),(100008,Blk.vec [Col.ints IntKind.u8 x3]),(200002,Blk.rview [Col.ints IntKind.u8 p])]
theorem rMask.l0_succ (R : AV → Mem → Prop) (k p : List Int) (fuel : Nat) (x0 : Int) (x1 x2 x3 : List Int) : rMask.l0 R k p (fuel + 1) x0 x1 x2 x3 = (((((ilt x0 (ofNat (llen p))) = true) → ((NeZ 16) ∧ ((((ieq (rem x0 16) 0) = true) → (((BL 176 (ks k)) ∧ (BL 16 x1)) ∧ ((BL 16 x1) ∧ ((InB x0 (llen p)) ∧ ((NeZ 16) ∧ ((InB (rem x0 16) 16) ∧ (((Low (nadd 0 (nat (rem x0 16))) 16) ∧ ((Room (nadd (llen x3) (llen [(bxor IntKind.u8 (lget p (nat x0)) (lget (enc (ks k) x1) (nadd 0 (nat (rem x0 16)))))])) 1) ∧ (let y4 : List Int := (lcat x3 [(bxor IntKind.u8 (lget p (nat x0)) (lget (enc (ks k) x1) (nadd 0 (nat (rem x0 16)))))]); (rMask.l0 R k p fuel (add IntKind.i64 x0 1) (up x1) (enc (ks k) x1) y4)))) ∧ ((Low (nadd 0 (nat (rem x0 16))) 16) ∧ ((Room (nadd (llen x3) (llen [(bxor IntKind.u8 (lget p (nat x0)) (lget (enc (ks k) x1) (nadd 0 (nat (rem x0 16)))))])) 1) ∧ (let y4 : List Int := (lcat x3 [(bxor IntKind.u8 (lget p (nat x0)) (lget (enc (ks k) x1) (nadd 0 (nat (rem x0 16)))))]); (rMask.l0 R k p fuel (add IntKind.i64 x0 1) (up x1) (enc (ks k) x1) y4))))))))))) ∧ (((ieq (rem x0 16) 0) = false) → ((InB x0 (llen p)) ∧ ((NeZ 16) ∧ ((InB (rem x0 16) 16) ∧ (((Low (nadd 0 (nat (rem x0 16))) 16) ∧ ((Room (nadd (llen x3) (llen [(bxor IntKind.u8 (lget p (nat x0)) (lget x2 (nadd 0 (nat (rem x0 16)))))])) 1) ∧ (rMask.l0 R k p fuel (add IntKind.i64 x0 1) x1 x2 (lcat x3 [(bxor IntKind.u8 (lget p (nat x0)) (lget x2 (nadd 0 (nat (rem x0 16)))))])))) ∧ ((Low (nadd 0 (nat (rem x0 16))) 16) ∧ ((Room (nadd (llen x3) (llen [(bxor IntKind.u8 (lget p (nat x0)) (lget x2 (nadd 0 (nat (rem x0 16)))))])) 1) ∧ (rMask.l0 R k p fuel (add IntKind.i64 x0 1) x1 x2 (lcat x3 [(bxor IntKind.u8 (lget p (nat x0)) (lget x2 (nadd 0 (nat (rem x0 16)))))])))))))))))) ∧ (((ilt x0 (ofNat (llen p))) = false) → (R (Vv 100008) [(4,Blk.own 37 [Seg.ints IntKind.u8 16 x1]),(7,Blk.own 118 [Seg.ints IntKind.u8 176 (ks k)]),(9,Blk.own 37 [Seg.ints IntKind.u8 16 x2]),(100008,Blk.vec [Col.ints IntKind.u8 x3]),(200002,Blk.rview [Col.ints IntKind.u8 p])])))) := by kernel_rfl
theorem rMask_vc (R : AV → Mem → Prop) (fuel : Nat) (k : List Int) (s : List Int) (p : List Int) : callsx Tryd.prog gamB4 [⟨8, [.ints .u8], true, false⟩] Tryd.f57 (fuel + 1) [.agg [.ints .u8 16 k], .agg [.ints .u8 16 s], .one (.vec 200002)] [(200002, .rview [.ints .u8 p])] R = (((Go.Blk.BL 16 k) ∧ ((Mk 0 (ofNat (llen p)) 1) ∧ (rMask.l0 R k p fuel 0 s (lzeros 16) (lzeros 0))))) := by kernel_rfl
end Go.Proofs.YtienfecnkglilaaDoor.G
namespace Go.Blk
open Go.Sx Go.Fld
theorem BL.set {n : Nat} {l : List Int} (h : BL n l) (i : Nat) {v : Int} (hv : Byte v) : BL n (lset l i v) := ⟨by simp [lset, h.len], fun x hx => by
 rcases List.mem_or_eq_of_mem_set hx with hx | rfl
 ·exact h.all x hx
 ·exact hv⟩
theorem byte_inc {a : Int} (ha : Byte a) : Byte (add .u8 a 1) := by rw [add_u8]; exact ⟨by omega, by omega⟩
theorem upN_bl : ∀ (i : Nat) {b : List Int}, BL 16 b → BL 16 (upN i b)
 | 0, b, h => h
 | i + 1, b, h => by
  unfold upN
  split
  ·exact upN_bl i (h.set i (byte_inc (h.get i)))
  ·exact h.set i (byte_inc (h.get i))
theorem up_bl {b : List Int} (h : BL 16 b) : BL 16 (up b) := upN_bl 16 h
theorem ups_bl {b : List Int} (h : BL 16 b) : ∀ n, BL 16 (ups b n)
 | 0 => h
 | n + 1 => up_bl (ups_bl h n)
theorem BL.bs {n : Nat} {l : List Int} (h : BL n l) : Bs l := ⟨fun x hx => ⟨(h.all x hx).lo, (h.all x hx).hi⟩⟩
theorem bs_bl {l : List Int} (h : Bs l) : BL l.length l := ⟨rfl, fun x hx => ⟨(h.all x hx).1, (h.all x hx).2⟩⟩
end Go.Blk
namespace Go.Proofs.YtienfecnkglilaaDoor.G
open Go Go.Sx Go.Fld Go.Blk
theorem strB_byte {w s : List Int} (hw : BL 176 w) (hs : BL 16 s) (i : Nat) : Byte (strB w s i) := (enc_bl hw (ups_bl hs _)).get _
theorem mask_bs {w s p : List Int} (hw : BL 176 w) (hs : BL 16 s) (hp : Bs p) : Bs (mask w s p) := (BL.tab fun i hi => byte_xor ((bs_bl hp).get i) (strB_byte hw hs i)).bs
theorem imin_nat (a b : Nat) : imin (a : Int) (b : Int) = ((min a b : Nat) : Int) := by
 unfold imin
 split
 ·omega
 ·omega
section
variable {R : AV → Mem → Prop} {k s p : List Int}
theorem mask_l2 (hk : BL 16 k) (hs : BL 16 s) {m : Nat} (hm : 16 * m < p.length) (hp : p.length ≤ 140737488355328) {g : Nat} {t y : List Int} (h : bMask.l1 R k t p g ((16 * (m + 1) : Nat) : Int) (ups s (m + 1)) (upto p.length (16 * (m + 1)) (fun i => bxor .u8 (lget p i) (strB (ks k) s i)) (lget p))) :
  ∃ g', bMask.l2 R ((16 * m : Nat) : Int) y k (ups s m) t p g' ((16 * m : Nat) : Int) (upto p.length (16 * m) (fun i => bxor .u8 (lget p i) (strB (ks k) s i)) (lget p)) := by
 have e1 : add .i64 ((16 * m : Nat) : Int) 16 = ((16 * (m + 1) : Nat) : Int) := by rw [add_i64 (by omega) (by omega)]; omega
 refine loop_exfrom (fun f i x => bMask.l2 R ((16 * m : Nat) : Int) y k (ups s m) t p f i x) (16 * m) (min (16 * (m + 1)) p.length) (fun i => upto p.length i (fun i => bxor .u8 (lget p i) (strB (ks k) s i)) (lget p)) (fun g i hl hi hg => ⟨g + 1, ?_⟩) ⟨g + 1, ?_⟩ (16 * m) (Nat.le_refl _) (by omega)
 ·rw [bMask.l2_succ]
  have e2 : sub .i64 (i : Int) ((16 * m : Nat) : Int) = ((i - 16 * m : Nat) : Int) := subN_i64 (by omega) (by omega)
  refine ⟨fun _ => ?_, fun q => ?_⟩
  ·have e3 : lget (enc (ks k) (ups s m)) (i - 16 * m) = strB (ks k) s i := by rw [strB, show i / 16 = m by omega, show i % 16 = i - 16 * m by omega]
   simp only [e2, nat_cast, nadd_def, Nat.zero_add, llen_def, upto_len, InB_iff, Low_iff, e3]
   rw [upto_hi (Nat.le_refl _) (by omega), upto_lset rfl, add1_i64 (by omega)]
   exact ⟨by omega, by omega, by omega, by omega, hg⟩
  ·rw [e1, ofNat_def, llen_def, upto_len, imin_nat, ilt_false] at q; omega
 ·rw [bMask.l2_succ]
  refine ⟨fun q => ?_, fun _ => ⟨ups_bl hs m, ?_⟩⟩
  ·rw [e1, ofNat_def, llen_def, upto_len, imin_nat, ilt_true] at q; omega
  ·rw [e1]
   have e4 : upto p.length (min (16 * (m + 1)) p.length) (fun i => bxor .u8 (lget p i) (strB (ks k) s i)) (lget p) = upto p.length (16 * (m + 1)) (fun i => bxor .u8 (lget p i) (strB (ks k) s i)) (lget p) := by
    refine tab_ext fun j hj => ?_
    by_cases q : j < 16 * (m + 1)
    ·rw [if_pos q, if_pos (by omega)]
    ·rw [if_neg q, if_neg (by omega)]
   rw [e4]; exact h
theorem mask_l4 (hk : BL 16 k) (hs : BL 16 s) {m : Nat} (hm : 16 * m < p.length) (hp : p.length ≤ 140737488355328) {g : Nat} {y : List Int} (h : bMask.l3 R k p g ((16 * (m + 1) : Nat) : Int) (ups s (m + 1)) (upto p.length (16 * (m + 1)) (fun i => bxor .u8 (lget p i) (strB (ks k) s i)) (lget p))) :
  ∃ g', bMask.l4 R ((16 * m : Nat) : Int) y k (ups s m) p g' ((16 * m : Nat) : Int) (upto p.length (16 * m) (fun i => bxor .u8 (lget p i) (strB (ks k) s i)) (lget p)) := by
 have e1 : add .i64 ((16 * m : Nat) : Int) 16 = ((16 * (m + 1) : Nat) : Int) := by rw [add_i64 (by omega) (by omega)]; omega
 refine loop_exfrom (fun f i x => bMask.l4 R ((16 * m : Nat) : Int) y k (ups s m) p f i x) (16 * m) (min (16 * (m + 1)) p.length) (fun i => upto p.length i (fun i => bxor .u8 (lget p i) (strB (ks k) s i)) (lget p)) (fun g i hl hi hg => ⟨g + 1, ?_⟩) ⟨g + 1, ?_⟩ (16 * m) (Nat.le_refl _) (by omega)
 ·rw [bMask.l4_succ]
  have e2 : sub .i64 (i : Int) ((16 * m : Nat) : Int) = ((i - 16 * m : Nat) : Int) := subN_i64 (by omega) (by omega)
  refine ⟨fun _ => ?_, fun q => ?_⟩
  ·have e3 : lget (enc (ks k) (ups s m)) (i - 16 * m) = strB (ks k) s i := by rw [strB, show i / 16 = m by omega, show i % 16 = i - 16 * m by omega]
   simp only [e2, nat_cast, nadd_def, Nat.zero_add, llen_def, upto_len, InB_iff, Low_iff, e3]
   rw [upto_hi (Nat.le_refl _) (by omega), upto_lset rfl, add1_i64 (by omega)]
   exact ⟨by omega, by omega, by omega, by omega, hg⟩
  ·rw [e1, ofNat_def, llen_def, upto_len, imin_nat, ilt_false] at q; omega
 ·rw [bMask.l4_succ]
  refine ⟨fun q => ?_, fun _ => ⟨ups_bl hs m, ?_⟩⟩
  ·rw [e1, ofNat_def, llen_def, upto_len, imin_nat, ilt_true] at q; omega
  ·rw [e1]
   have e4 : upto p.length (min (16 * (m + 1)) p.length) (fun i => bxor .u8 (lget p i) (strB (ks k) s i)) (lget p) = upto p.length (16 * (m + 1)) (fun i => bxor .u8 (lget p i) (strB (ks k) s i)) (lget p) := by
    refine tab_ext fun j hj => ?_
    by_cases q : j < 16 * (m + 1)
    ·rw [if_pos q, if_pos (by omega)]
    ·rw [if_neg q, if_neg (by omega)]
   rw [e4]; exact h
theorem mask_end {n m : Nat} (h : n ≤ m) {F G : Nat → Int} : upto n m F G = tab n F := tab_ext fun j hj => by rw [if_pos (by omega)]
theorem mask_l1 (hk : BL 16 k) (hs : BL 16 s) (hp : p.length ≤ 140737488355328) {t : List Int} (ht : Tbl t) (h : ∀ x σ, R (.one (.vec 19)) [(4, Blk.own 37 [(Seg.ints IntKind.u8 16 x)]), (7, Blk.own 83 [(Seg.ints IntKind.u8 176 (ks k))]), (10, Blk.own 86 [(Seg.ints IntKind.u8 256 t)]), (19, Blk.vec [(Col.ints IntKind.u8 (mask (ks k) s p))]), σ]) :
  ∃ g, bMask.l1 R k t p g 0 s p := by
 have key := loop_exby 16 (fun f i (x : List Int × List Int) => bMask.l1 R k t p f i x.1 x.2) ((p.length + 15) / 16) (fun m => (ups s m, upto p.length (16 * m) (fun i => bxor .u8 (lget p i) (strB (ks k) s i)) (lget p)))
  (fun g m hm hg => by
   obtain ⟨g', hg'⟩ := mask_l2 (y := upto p.length (16 * m) (fun i => bxor .u8 (lget p i) (strB (ks k) s i)) (lget p)) hk hs (by omega) hp hg
   refine ⟨g' + 1, ?_⟩
   rw [bMask.l1_succ]
   refine ⟨fun _ => ⟨ht, ⟨ks_bl hk, ups_bl hs m⟩, hg'⟩, fun q => ?_⟩
   rw [ofNat_def, llen_def, upto_len, ilt_false] at q; omega)
  ⟨1, by
   show bMask.l1 R k t p (0 + 1) _ _ _
   rw [bMask.l1_succ]
   refine ⟨fun q => ?_, fun _ => ?_⟩
   ·rw [ofNat_def, llen_def, upto_len, ilt_true] at q; omega
   ·rw [mask_end (by omega)]; exact h _ _⟩ 0 (Nat.zero_le _)
 simpa [ups, upto_zero, ← eq_tab (l := p) rfl] using key
theorem mask_l3 (hk : BL 16 k) (hs : BL 16 s) (hp : p.length ≤ 140737488355328) (h : ∀ x σ, R (.one (.vec 19)) [(4, Blk.own 37 [(Seg.ints IntKind.u8 16 x)]), (7, Blk.own 83 [(Seg.ints IntKind.u8 176 (ks k))]), (19, Blk.vec [(Col.ints IntKind.u8 (mask (ks k) s p))]), σ]) :
  ∃ g, bMask.l3 R k p g 0 s p := by
 have key := loop_exby 16 (fun f i (x : List Int × List Int) => bMask.l3 R k p f i x.1 x.2) ((p.length + 15) / 16) (fun m => (ups s m, upto p.length (16 * m) (fun i => bxor .u8 (lget p i) (strB (ks k) s i)) (lget p)))
  (fun g m hm hg => by
   obtain ⟨g', hg'⟩ := mask_l4 (y := upto p.length (16 * m) (fun i => bxor .u8 (lget p i) (strB (ks k) s i)) (lget p)) hk hs (by omega) hp hg
   refine ⟨g' + 1, ?_⟩
   rw [bMask.l3_succ]
   refine ⟨fun _ => ⟨⟨ks_bl hk, ups_bl hs m⟩, hg'⟩, fun q => ?_⟩
   rw [ofNat_def, llen_def, upto_len, ilt_false] at q; omega)
  ⟨1, by
   show bMask.l3 R k p (0 + 1) _ _ _
   rw [bMask.l3_succ]
   refine ⟨fun q => ?_, fun _ => ?_⟩
   ·rw [ofNat_def, llen_def, upto_len, ilt_true] at q; omega
   ·rw [mask_end (by omega)]; exact h _ _⟩ 0 (Nat.zero_le _)
 simpa [ups, upto_zero, ← eq_tab (l := p) rfl] using key
theorem mask_l0 (hk : BL 16 k) {g : Nat} {y0 : List Int} (h : bMask.l1 R k (tab 256 fun i => fsub (i : Int)) p g 0 s y0) : ∃ g', bMask.l0 R s k y0 p g' 0 (lzeros 256) := by
 have key := loop_ex (fun f i x => bMask.l0 R s k y0 p f i x) 256 (fun i => upto 256 i (fun i => fsub (i : Int)) fun _ => 0)
  (fun g i hi hg => ⟨g + 1, by
   rw [bMask.l0_succ]
   have e1 : conv .u8 (i : Int) = (i : Int) := by rw [conv_u8]; omega
   refine ⟨fun _ => ?_, fun q => ?_⟩
   ·simp only [e1, nat_cast, nadd_def, Nat.zero_add, InB_iff, Low_iff]
    rw [upto_lset rfl, add1_i64 (by omega)]
    exact ⟨Byte.of hi, by omega, hi, hg⟩
   ·rw [ilt_false] at q; omega⟩)
  ⟨g + 1, by
   rw [bMask.l0_succ]
   refine ⟨fun q => ?_, fun _ => ?_⟩
   ·rw [ilt_true] at q; omega
   ·rw [upto_done]; exact h⟩ 0 (Nat.zero_le _)
 rw [upto_zero, ← lzeros_tab] at key
 exact key
end
theorem good_mask : Sx.Good Tryd.prog 33 maskS := by
 refine Sx.Good.reads (D := []) mixed gamB4_good Tryd.func33 (by kernel_rfl) rfl fun d args σ K h => ?_
 simp only [maskS] at h
 split at h <;> try exact h.elim
 rename_i k s x
 obtain ⟨p, ⟨⟨⟨hk, hs⟩, hsh, hp⟩, hK⟩, hr⟩ := rdb_row h
 have hle := hsh.le
 refine ⟨[.agg [.ints .u8 16 k], .agg [.ints .u8 16 s], .one (.vec 200002)], [(200002, .rview [.ints .u8 p])], .plain (plain_ints _ _ _) (.plain (plain_ints _ _ _) (.row [.ints .u8] _ hr (by decide) (.nil _))), by simp, ?_⟩
 have hy : lput (lzeros (nat (ofNat (llen p)))) 0 (lsub p 0 (nmin (llen p) (llen (lzeros (nat (ofNat (llen p))))))) = p := by
  simp only [ofNat_def, nat_cast, llen_def, lzeros, List.length_replicate, nmin_def, Nat.min_self, lsub_all, lput, List.take_zero, List.nil_append, Nat.zero_add]
  rw [List.drop_of_length_le (by simp), List.append_nil]
 have hM : Mk (ofNat (llen p)) (ofNat (llen p)) 1 := by rw [Mk_iff, ofNat_def, llen_def]; omega
 by_cases q : 32 < p.length
 ·obtain ⟨g, hg⟩ := mask_l1 (R := Res d maskS.news σ K) hk hs hle (t := tab 256 fun i => fsub (i : Int)) ⟨tab_len _ _, fun i hi => tab_lget _ hi⟩ fun x σ' => res_vec rfl rfl hK
  obtain ⟨g', hg'⟩ := mask_l0 (s := s) hk hg
  refine ⟨g' + 1, ?_⟩
  rw [bMask_vc]
  refine ⟨hk, hM, ?_⟩
  show _ ∧ _
  rw [hy]
  refine ⟨fun _ => hg', fun q2 => ?_⟩
  rw [igt_false, ofNat_def, llen_def] at q2; omega
 ·obtain ⟨g, hg⟩ := mask_l3 (R := Res d maskS.news σ K) hk hs hle fun x σ' => res_vec rfl rfl hK
  refine ⟨g + 1, ?_⟩
  rw [bMask_vc]
  refine ⟨hk, hM, ?_⟩
  show _ ∧ _
  rw [hy]
  refine ⟨fun q2 => ?_, fun _ => hg⟩
  rw [igt_true, ofNat_def, llen_def] at q2; omega
theorem good_rmask : Sx.Good Tryd.prog 57 maskS := by
 refine Sx.Good.reads (D := [⟨8, [.ints .u8], true, false⟩]) mixed gamB4_good Tryd.func57 (by kernel_rfl) rfl fun d args σ K h => ?_
 simp only [maskS] at h
 split at h <;> try exact h.elim
 rename_i k s x
 obtain ⟨p, ⟨⟨⟨hk, hs⟩, hsh, hp⟩, hK⟩, hr⟩ := rdb_row h
 have hle := hsh.le
 have hw := ks_bl hk
 refine ⟨[.agg [.ints .u8 16 k], .agg [.ints .u8 16 s], .one (.vec 200002)], [(200002, .rview [.ints .u8 p])], .plain (plain_ints _ _ _) (.plain (plain_ints _ _ _) (.row [.ints .u8] _ hr (by decide) (.nil _))), by simp, ?_⟩
 have key := loop_ex (fun f i (x : List Int × List Int × List Int) => rMask.l0 (Res d maskS.news σ K) k p f i x.1 x.2.1 x.2.2) p.length
  (fun i => (ups s ((i + 15) / 16), if i = 0 then lzeros 16 else enc (ks k) (ups s ((i - 1) / 16)), tab i fun i => bxor .u8 (lget p i) (strB (ks k) s i)))
  (fun g i hi hg => ⟨g + 1, by
   rw [rMask.l0_succ]
   have e1 : rem (i : Int) 16 = ((i % 16 : Nat) : Int) := remN (b := 16)
   have hroom : ∀ v : Int, Room (nadd (llen (tab i fun i => bxor .u8 (lget p i) (strB (ks k) s i))) (llen [v])) 1 := fun v => room1 (by rw [tab_llen, nadd_def, llen_def]; simp; omega)
   have hI : InB (i : Int) (llen p) := ⟨by omega, by rw [llen_def]; omega⟩
   have hI2 : InB ((i % 16 : Nat) : Int) 16 := ⟨by omega, by omega⟩
   have hL : Low (i % 16) 16 := ⟨by omega⟩
   have hN : NeZ 16 := ⟨by decide⟩
   refine ⟨fun _ => ?_, fun q => ?_⟩
   ·rw [e1]
    simp only [nat_cast, nadd_def, Nat.zero_add, add1_i64 (show i < 9223372036854775807 by omega)]
    refine ⟨hN, fun q => ?_, fun q => ?_⟩
    ·rw [ieq_true] at q
     have e2 : lget (enc (ks k) (ups s ((i + 15) / 16))) (i % 16) = strB (ks k) s i := by rw [strB, show (i + 15) / 16 = i / 16 by omega]
     have fin : rMask.l0 (Res d maskS.news σ K) k p g ((i + 1 : Nat) : Int) (up (ups s ((i + 15) / 16))) (enc (ks k) (ups s ((i + 15) / 16))) (lcat (tab i fun i => bxor .u8 (lget p i) (strB (ks k) s i)) [bxor .u8 (lget p i) (lget (enc (ks k) (ups s ((i + 15) / 16))) (i % 16))]) := by
      rw [e2]
      have h1 : up (ups s ((i + 15) / 16)) = ups s ((i + 1 + 15) / 16) := by rw [show (i + 1 + 15) / 16 = (i + 15) / 16 + 1 by omega]; rfl
      rw [h1, lcat_def, ← tab_succ i (fun i => bxor .u8 (lget p i) (strB (ks k) s i)), show (i + 15) / 16 = (i + 1 - 1) / 16 by omega]
      rw [if_neg (by omega)] at hg
      exact hg
     have hb := ups_bl hs ((i + 15) / 16)
     exact ⟨⟨hw, hb⟩, hb, hI, hN, hI2, ⟨hL, hroom _, fin⟩, hL, hroom _, fin⟩
    ·rw [ieq_false] at q
     have q0 : ¬ i = 0 := fun e => q (by rw [e]; rfl)
     rw [if_neg q0]
     have e2 : lget (enc (ks k) (ups s ((i - 1) / 16))) (i % 16) = strB (ks k) s i := by rw [strB, show (i - 1) / 16 = i / 16 by omega]
     have fin : rMask.l0 (Res d maskS.news σ K) k p g ((i + 1 : Nat) : Int) (ups s ((i + 15) / 16)) (enc (ks k) (ups s ((i - 1) / 16))) (lcat (tab i fun i => bxor .u8 (lget p i) (strB (ks k) s i)) [bxor .u8 (lget p i) (lget (enc (ks k) (ups s ((i - 1) / 16))) (i % 16))]) := by
      rw [e2, lcat_def, ← tab_succ i (fun i => bxor .u8 (lget p i) (strB (ks k) s i)), show (i + 15) / 16 = (i + 1 + 15) / 16 by omega, show (i - 1) / 16 = (i + 1 - 1) / 16 by omega]
      rw [if_neg (by omega)] at hg
      exact hg
     exact ⟨hI, hN, hI2, ⟨hL, hroom _, fin⟩, hL, hroom _, fin⟩
   ·rw [ofNat_def, llen_def, ilt_false] at q; omega⟩)
  ⟨1, by
   show rMask.l0 _ k p (0 + 1) _ _ _ _
   rw [rMask.l0_succ]
   refine ⟨fun q => ?_, fun _ => ?_⟩
   ·rw [ofNat_def, llen_def, ilt_true] at q; omega
   ·exact res_vec rfl rfl hK⟩ 0 (Nat.zero_le _)
 obtain ⟨g, hg⟩ := key
 refine ⟨g + 1, ?_⟩
 rw [rMask_vc]
 exact ⟨hk, by rw [Mk_iff, ofNat_def, llen_def]; omega, hg⟩
theorem zeros_bs (n : Nat) : Bs (lzeros n) := Bs.zeros n
end Go.Proofs.YtienfecnkglilaaDoor.G
namespace Go.Cel
open Go Go.Sx
def zb (l : List Int) : Bool := l.all fun x => x == 0
def fillL (l : List Int) : List Int := l ++ List.replicate (320 - l.length) 0
structure LaidOk (p f : List Int) (i : Int) : Prop where
 e : (f.length : Int) = i
 le : f.length + p.length ≤ 320
structure FillOk (p : List Int) : Prop where
 le : p.length ≤ 320
def padR (p : List Int) : List Int := if p.length ≤ 320 then fillL p else []
def padE (p : List Int) : Int := if p.length ≤ 320 then 0 else 1
def plainR (p : List Int) : List Int := if p.length ≤ 48 then fillL (1 :: (p.length : Int) :: p) else []
def plainE (p : List Int) : Int := if p.length ≤ 48 then 0 else 1
def cutE (c : List Int) (n : Int) : Int := if c.length ≠ 320 then 50 else if n < 0 ∨ 320 < n then 2 else if zb (c.drop n.toNat) = false then 51 else 0
def cutR (c : List Int) (n : Int) : List Int := if cutE c n = 0 then c.take n.toNat else []
def opE (c : List Int) : Int := if c.length ≠ 320 then 50 else if c.getD 0 0 = 0 then 0 else if c.getD 0 0 ≠ 1 then 52 else if 48 < c.getD 1 0 then 53 else if zb (c.drop (2 + (c.getD 1 0).toNat)) = false then 51 else 0
def opY (c : List Int) : Bool := decide (opE c = 0) && decide (c.getD 0 0 ≠ 0)
def opR (c : List Int) : List Int := if opY c = true then (c.drop 2).take (c.getD 1 0).toNat else []
end Go.Cel
namespace Go.Sx
open Go.Cel
def noughtsS : Spec := ⟨0, false, fun _ args σ K => match args with
 | [x] => rdb σ x fun l => Short l ∧ K (.one (.bool (zb l))) σ
 | _ => False⟩
def noughts2S : Spec := ⟨0, false, fun _ args σ K => match args with
 | [x, .one (.int .i64 i)] => rdb σ x fun l => (Short l ∧ NonNeg i) ∧ K (.one (.bool (zb (l.drop (nat i))))) σ
 | _ => False⟩
def laidS : Spec := ⟨1, false, fun d args σ K => match args with
 | [x, .one (.int .i64 i), y] => rdb σ x fun p => rdb σ y fun f => LaidOk p f i ∧ K (.one (.vec d)) (Mem.ins d (.vec [.ints .u8 (fillL (lcat f p))]) σ)
 | _ => False⟩
def fillS : Spec := ⟨1, false, fun d args σ K => match args with
 | [x] => rdb σ x fun p => FillOk p ∧ K (.one (.vec d)) (Mem.ins d (.vec [.ints .u8 (fillL p)]) σ)
 | _ => False⟩
def lstS (r : List Int → List Int) (e : List Int → Int) : Spec := ⟨1, false, fun d args σ K => match args with
 | [x] => rdb σ x fun p => Short p ∧ K (.tup [.c (.vec d), .c (.int .i64 (e p))]) (Mem.ins d (.vec [.ints .u8 (r p)]) σ)
 | _ => False⟩
def cutS : Spec := ⟨1, false, fun d args σ K => match args with
 | [x, .one (.int .i64 n)] => rdb σ x fun c => Short c ∧ K (.tup [.c (.vec d), .c (.int .i64 (cutE c n))]) (Mem.ins d (.vec [.ints .u8 (cutR c n)]) σ)
 | _ => False⟩
def openS : Spec := ⟨1, false, fun d args σ K => match args with
 | [x] => rdb σ x fun c => (Short c ∧ Bs c) ∧ K (.tup [.c (.vec d), .c (.bool (opY c)), .c (.int .i64 (opE c))]) (Mem.ins d (.vec [.ints .u8 (opR c)]) σ)
 | _ => False⟩
def gamC1 : Gam := ext (ext (ext (ext gam0 37 noughtsS) 73 noughts2S) 35 laidS) 44 fillS
end Go.Sx
namespace Go.Proofs.YtienfecnkglilaaDoor.G
open Go Go.Sx Go.Cel
set_option maxRecDepth 100000
def noughts.l0 (R : AV → Mem → Prop) (p : List Int) (fuel : Nat) (x0 : Int) : Prop := rN Tryd.prog gam0 [] Tryd.f37 R fuel [kc Tryd.f37 [1,0,1,0,0],ki Tryd.f37 [1,0,1,0,0],.inBlock 0,kc Tryd.f37 [1,1]] (us 5 (Vv 200000::Ii (ofNat (llen p))::Ii x0::(us 6 []))) [(200000,Blk.rview [Col.ints IntKind.u8 p])]
theorem noughts.l0_succ (R : AV → Mem → Prop) (p : List Int) (fuel : Nat) (x0 : Int) : noughts.l0 R p (fuel + 1) x0 = (((((ilt x0 (ofNat (llen p))) = true) → ((InB x0 (llen p)) ∧ ((((ine (lget p (nat x0)) 0) = true) → (R (Ll false) [(200000,Blk.rview [Col.ints IntKind.u8 p])])) ∧ (((ine (lget p (nat x0)) 0) = false) → (noughts.l0 R p fuel (add IntKind.i64 x0 1)))))) ∧ (((ilt x0 (ofNat (llen p))) = false) → (R (Ll true) [(200000,Blk.rview [Col.ints IntKind.u8 p])])))) := by kernel_rfl
theorem noughts_vc (R : AV → Mem → Prop) (fuel : Nat) (p : List Int) : callsx Tryd.prog gam0 [] Tryd.f37 (fuel + 1) [.one (.vec 200000)] [(200000, .rview [.ints .u8 p])] R = ((noughts.l0 R p fuel 0)) := by kernel_rfl
def rnoughts.l0 (R : AV → Mem → Prop) (p : List Int) (fuel : Nat) (x0 : Int) : Prop := rN Tryd.prog gam0 [] Tryd.f73 R fuel [kc Tryd.f73 [1,0,0,0],ki Tryd.f73 [1,0,0,0],.inBlock 0,kc Tryd.f73 [1,1]] (Vv 200000::Ii x0::(us 14 [])) [(200000,Blk.rview [Col.ints IntKind.u8 p])]
theorem rnoughts.l0_succ (R : AV → Mem → Prop) (p : List Int) (fuel : Nat) (x0 : Int) : rnoughts.l0 R p (fuel + 1) x0 = (((((ilt x0 (ofNat (llen p))) = true) → ((InB x0 (llen p)) ∧ ((((ine (lget p (nat x0)) 0) = true) → (R (Ll false) [(200000,Blk.rview [Col.ints IntKind.u8 p])])) ∧ (((ine (lget p (nat x0)) 0) = false) → (rnoughts.l0 R p fuel (add IntKind.i64 x0 1)))))) ∧ (((ilt x0 (ofNat (llen p))) = false) → (R (Ll true) [(200000,Blk.rview [Col.ints IntKind.u8 p])])))) := by kernel_rfl
theorem rnoughts_vc (R : AV → Mem → Prop) (fuel : Nat) (p : List Int) (i : Int) : callsx Tryd.prog gam0 [] Tryd.f73 (fuel + 1) [.one (.vec 200000), .one (.int .i64 i)] [(200000, .rview [.ints .u8 p])] R = ((rnoughts.l0 R p fuel i)) := by kernel_rfl
theorem laid_vc (R : AV → Mem → Prop) (fuel : Nat) (p : List Int) (f : List Int) (i : Int) : callsx Tryd.prog gam0 [] Tryd.f35 (fuel + 1) [.one (.vec 200000), .one (.int .i64 i), .one (.vec 200002)] [(200000, .rview [.ints .u8 p]), (200002, .rview [.ints .u8 f])] R = (((Mk 320 320 1) ∧ (((NonNeg i) ∧ (Fits (nat i) (llen (lput (lzeros 320) 0 (lsub f 0 (nmin (llen f) 320)))))) ∧ (R (AV.one (AC.vec 8)) [(8, Blk.vec [(Col.ints IntKind.u8 (lput (lput (lzeros 320) 0 (lsub f 0 (nmin (llen f) 320))) (nat i) (lsub p 0 (nmin (llen p) (nsub (llen (lput (lzeros 320) 0 (lsub f 0 (nmin (llen f) 320)))) (nat i))))))]), (200000, Blk.rview [(Col.ints IntKind.u8 p)]), (200002, Blk.rview [(Col.ints IntKind.u8 f)])])))) := by kernel_rfl
def fill.l0 (R : AV → Mem → Prop) (p : List Int) (fuel : Nat) (x0 : List Int) : Prop := rN Tryd.prog gam0 [⟨3,[.ints .u8],true,false⟩] Tryd.f44 R fuel [kc Tryd.f44 [1,1,0,0,0],ki Tryd.f44 [1,1,0,0,0],.inBlock 0,kc Tryd.f44 [1,1,1]] (Uu::Uu::Uu::Vv 100003::(us 9 [Zz])) [(100003,Blk.vec [Col.ints IntKind.u8 x0]),(200000,Blk.rview [Col.ints IntKind.u8 p])]
theorem fill.l0_succ (R : AV → Mem → Prop) (p : List Int) (fuel : Nat) (x0 : List Int) : fill.l0 R p (fuel + 1) x0 = (((((ilt (ofNat (llen x0)) 320) = true) → ((Room (nadd (llen x0) 1) 1) ∧ (fill.l0 R p fuel (lcat x0 [0])))) ∧ (((ilt (ofNat (llen x0)) 320) = false) → (R (Vv 100003) [(100003,Blk.vec [Col.ints IntKind.u8 x0]),(200000,Blk.rview [Col.ints IntKind.u8 p])])))) := by kernel_rfl
theorem fill_vc (R : AV → Mem → Prop) (fuel : Nat) (p : List Int) : callsx Tryd.prog gam0 [⟨3, [.ints .u8], true, false⟩] Tryd.f44 (fuel + 1) [.one (.vec 200000)] [(200000, .rview [.ints .u8 p])] R = (((Room (nadd 0 (llen p)) 1) ∧ (fill.l0 R p fuel (lcat [] p)))) := by kernel_rfl
theorem Pad_vc (R : AV → Mem → Prop) (fuel : Nat) (p : List Int) : callsx Tryd.prog gamC1 [] Tryd.f26 (fuel + 1) [.one (.vec 200000)] [(200000, .rview [.ints .u8 p])] R = (((((igt (ofNat (llen p)) 320) = true) → (R (AV.tup [(TV.c (AC.con (Value.slice (Option.none) 0 0))), (TV.c (AC.int IntKind.i64 1))]) [(200000, Blk.rview [(Col.ints IntKind.u8 p)])])) ∧ (((igt (ofNat (llen p)) 320) = false) → ((Go.Cel.LaidOk p [] 0) ∧ (R (AV.tup [(TV.c (AC.vec 8)), (TV.c (AC.int IntKind.i64 0))]) [(8, Blk.vec [(Col.ints IntKind.u8 (Go.Cel.fillL (lcat [] p)))]), (200000, Blk.rview [(Col.ints IntKind.u8 p)])]))))) := by kernel_rfl
theorem Plain_vc (R : AV → Mem → Prop) (fuel : Nat) (p : List Int) : callsx Tryd.prog gamC1 [] Tryd.f16 (fuel + 1) [.one (.vec 200000)] [(200000, .rview [.ints .u8 p])] R = (((((igt (ofNat (llen p)) 48) = true) → (R (AV.tup [(TV.c (AC.con (Value.slice (Option.none) 0 0))), (TV.c (AC.int IntKind.i64 1))]) [(200000, Blk.rview [(Col.ints IntKind.u8 p)])])) ∧ (((igt (ofNat (llen p)) 48) = false) → ((Go.Cel.LaidOk p [1, (conv IntKind.u8 (ofNat (llen p)))] 2) ∧ (R (AV.tup [(TV.c (AC.vec 12)), (TV.c (AC.int IntKind.i64 0))]) [(11, Blk.vec [(Col.ints IntKind.u8 [1, (conv IntKind.u8 (ofNat (llen p)))])]), (12, Blk.vec [(Col.ints IntKind.u8 (Go.Cel.fillL (lcat [1, (conv IntKind.u8 (ofNat (llen p)))] p)))]), (200000, Blk.rview [(Col.ints IntKind.u8 p)])]))))) := by kernel_rfl
theorem Cut_vc (R : AV → Mem → Prop) (fuel : Nat) (p : List Int) (n : Int) : callsx Tryd.prog gamC1 [] Tryd.f28 (fuel + 1) [.one (.vec 200000), .one (.int .i64 n)] [(200000, .rview [.ints .u8 p])] R = (((((ine (ofNat (llen p)) 320) = true) → (R (AV.tup [(TV.c (AC.con (Value.slice (Option.none) 0 0))), (TV.c (AC.int IntKind.i64 50))]) [(200000, Blk.rview [(Col.ints IntKind.u8 p)])])) ∧ (((ine (ofNat (llen p)) 320) = false) → ((((ilt n 0) = false) → ((((igt n 320) = true) → (R (AV.tup [(TV.c (AC.con (Value.slice (Option.none) 0 0))), (TV.c (AC.int IntKind.i64 2))]) [(200000, Blk.rview [(Col.ints IntKind.u8 p)])])) ∧ (((igt n 320) = false) → (((NonNeg n) ∧ (Fits (nat n) (llen p))) ∧ ((Go.Sx.Short (lsub p (nat n) (nsub (llen p) (nat n)))) ∧ ((((bnot (Go.Cel.zb (lsub p (nat n) (nsub (llen p) (nat n))))) = true) → (R (AV.tup [(TV.c (AC.con (Value.slice (Option.none) 0 0))), (TV.c (AC.int IntKind.i64 51))]) [(200000, Blk.rview [(Col.ints IntKind.u8 p)])])) ∧ (((bnot (Go.Cel.zb (lsub p (nat n) (nsub (llen p) (nat n))))) = false) → (((NonNeg n) ∧ (Fits (nat n) (llen p))) ∧ ((Room (nadd 0 (llen (lsub p 0 (nat n)))) 1) ∧ (R (AV.tup [(TV.c (AC.vec 26)), (TV.c (AC.int IntKind.i64 0))]) [(26, Blk.vec [(Col.ints IntKind.u8 (lcat [] (lsub p 0 (nat n))))]), (200000, Blk.rview [(Col.ints IntKind.u8 p)])])))))))))) ∧ (((ilt n 0) = true) → (R (AV.tup [(TV.c (AC.con (Value.slice (Option.none) 0 0))), (TV.c (AC.int IntKind.i64 2))]) [(200000, Blk.rview [(Col.ints IntKind.u8 p)])])))))) := by kernel_rfl
theorem Open_vc (R : AV → Mem → Prop) (fuel : Nat) (p : List Int) : callsx Tryd.prog gamC1 [] Tryd.f20 (fuel + 1) [.one (.vec 200000)] [(200000, .rview [.ints .u8 p])] R = (((((ine (ofNat (llen p)) 320) = true) → (R (AV.tup [(TV.c (AC.con (Value.slice (Option.none) 0 0))), (TV.c (AC.lit false)), (TV.c (AC.int IntKind.i64 50))]) [(200000, Blk.rview [(Col.ints IntKind.u8 p)])])) ∧ (((ine (ofNat (llen p)) 320) = false) → ((InB 0 (llen p)) ∧ ((((ieq (lget p 0) 0) = true) → (R (AV.tup [(TV.c (AC.con (Value.slice (Option.none) 0 0))), (TV.c (AC.lit false)), (TV.c (AC.int IntKind.i64 0))]) [(200000, Blk.rview [(Col.ints IntKind.u8 p)])])) ∧ (((ieq (lget p 0) 0) = false) → ((((ieq (lget p 0) 1) = true) → ((InB 1 (llen p)) ∧ ((((igt (conv IntKind.i64 (lget p 1)) 48) = true) → (R (AV.tup [(TV.c (AC.con (Value.slice (Option.none) 0 0))), (TV.c (AC.lit false)), (TV.c (AC.int IntKind.i64 53))]) [(200000, Blk.rview [(Col.ints IntKind.u8 p)])])) ∧ (((igt (conv IntKind.i64 (lget p 1)) 48) = false) → (((NonNeg (add IntKind.i64 2 (conv IntKind.i64 (lget p 1)))) ∧ (Fits (nat (add IntKind.i64 2 (conv IntKind.i64 (lget p 1)))) (llen p))) ∧ ((Go.Sx.Short (lsub p (nat (add IntKind.i64 2 (conv IntKind.i64 (lget p 1)))) (nsub (llen p) (nat (add IntKind.i64 2 (conv IntKind.i64 (lget p 1))))))) ∧ ((((bnot (Go.Cel.zb (lsub p (nat (add IntKind.i64 2 (conv IntKind.i64 (lget p 1)))) (nsub (llen p) (nat (add IntKind.i64 2 (conv IntKind.i64 (lget p 1)))))))) = true) → (R (AV.tup [(TV.c (AC.con (Value.slice (Option.none) 0 0))), (TV.c (AC.lit false)), (TV.c (AC.int IntKind.i64 51))]) [(200000, Blk.rview [(Col.ints IntKind.u8 p)])])) ∧ (((bnot (Go.Cel.zb (lsub p (nat (add IntKind.i64 2 (conv IntKind.i64 (lget p 1)))) (nsub (llen p) (nat (add IntKind.i64 2 (conv IntKind.i64 (lget p 1)))))))) = false) → ((((NonNeg (add IntKind.i64 2 (conv IntKind.i64 (lget p 1)))) ∧ (Fits (nat (add IntKind.i64 2 (conv IntKind.i64 (lget p 1)))) (llen p))) ∧ ((NonNeg 2) ∧ (Fits 2 (nat (add IntKind.i64 2 (conv IntKind.i64 (lget p 1))))))) ∧ ((Room (nadd 0 (llen (lsub p 2 (nsub (nat (add IntKind.i64 2 (conv IntKind.i64 (lget p 1)))) 2)))) 1) ∧ (R (AV.tup [(TV.c (AC.vec 32)), (TV.c (AC.lit true)), (TV.c (AC.int IntKind.i64 0))]) [(32, Blk.vec [(Col.ints IntKind.u8 (lcat [] (lsub p 2 (nsub (nat (add IntKind.i64 2 (conv IntKind.i64 (lget p 1)))) 2))))]), (200000, Blk.rview [(Col.ints IntKind.u8 p)])]))))))))))) ∧ (((ieq (lget p 0) 1) = false) → (R (AV.tup [(TV.c (AC.con (Value.slice (Option.none) 0 0))), (TV.c (AC.lit false)), (TV.c (AC.int IntKind.i64 52))]) [(200000, Blk.rview [(Col.ints IntKind.u8 p)])]))))))))) := by kernel_rfl
theorem rPad_vc (R : AV → Mem → Prop) (fuel : Nat) (p : List Int) : callsx Tryd.prog gamC1 [] Tryd.f24 (fuel + 1) [.one (.vec 200000)] [(200000, .rview [.ints .u8 p])] R = (((((igt (ofNat (llen p)) 320) = true) → (R (AV.tup [(TV.c (AC.con (Value.slice (Option.none) 0 0))), (TV.c (AC.int IntKind.i64 1))]) [(200000, Blk.rview [(Col.ints IntKind.u8 p)])])) ∧ (((igt (ofNat (llen p)) 320) = false) → ((Go.Cel.FillOk p) ∧ (R (AV.tup [(TV.c (AC.vec 8)), (TV.c (AC.int IntKind.i64 0))]) [(8, Blk.vec [(Col.ints IntKind.u8 (Go.Cel.fillL p))]), (200000, Blk.rview [(Col.ints IntKind.u8 p)])]))))) := by kernel_rfl
theorem rPlain_vc (R : AV → Mem → Prop) (fuel : Nat) (p : List Int) : callsx Tryd.prog gamC1 [] Tryd.f59 (fuel + 1) [.one (.vec 200000)] [(200000, .rview [.ints .u8 p])] R = (((((igt (ofNat (llen p)) 48) = true) → (R (AV.tup [(TV.c (AC.con (Value.slice (Option.none) 0 0))), (TV.c (AC.int IntKind.i64 1))]) [(200000, Blk.rview [(Col.ints IntKind.u8 p)])])) ∧ (((igt (ofNat (llen p)) 48) = false) → ((Room (nadd (llen [1, (conv IntKind.u8 (ofNat (llen p)))]) (llen p)) 1) ∧ ((Go.Cel.FillOk (lcat [1, (conv IntKind.u8 (ofNat (llen p)))] p)) ∧ (R (AV.tup [(TV.c (AC.vec 13)), (TV.c (AC.int IntKind.i64 0))]) [(12, Blk.vec [(Col.ints IntKind.u8 (lcat [1, (conv IntKind.u8 (ofNat (llen p)))] p))]), (13, Blk.vec [(Col.ints IntKind.u8 (Go.Cel.fillL (lcat [1, (conv IntKind.u8 (ofNat (llen p)))] p)))]), (200000, Blk.rview [(Col.ints IntKind.u8 p)])])))))) := by kernel_rfl
theorem rCut_vc (R : AV → Mem → Prop) (fuel : Nat) (p : List Int) (n : Int) : callsx Tryd.prog gamC1 [] Tryd.f54 (fuel + 1) [.one (.vec 200000), .one (.int .i64 n)] [(200000, .rview [.ints .u8 p])] R = (((((ine (ofNat (llen p)) 320) = true) → (R (AV.tup [(TV.c (AC.con (Value.slice (Option.none) 0 0))), (TV.c (AC.int IntKind.i64 50))]) [(200000, Blk.rview [(Col.ints IntKind.u8 p)])])) ∧ (((ine (ofNat (llen p)) 320) = false) → ((((ilt n 0) = false) → ((((igt n 320) = true) → (R (AV.tup [(TV.c (AC.con (Value.slice (Option.none) 0 0))), (TV.c (AC.int IntKind.i64 2))]) [(200000, Blk.rview [(Col.ints IntKind.u8 p)])])) ∧ (((igt n 320) = false) → (((Go.Sx.Short p) ∧ (NonNeg n)) ∧ ((((bnot (Go.Cel.zb (List.drop (nat n) p))) = true) → (R (AV.tup [(TV.c (AC.con (Value.slice (Option.none) 0 0))), (TV.c (AC.int IntKind.i64 51))]) [(200000, Blk.rview [(Col.ints IntKind.u8 p)])])) ∧ (((bnot (Go.Cel.zb (List.drop (nat n) p))) = false) → (((NonNeg n) ∧ (Fits (nat n) (llen p))) ∧ ((Room (nadd 0 (llen (lsub p 0 (nat n)))) 1) ∧ (R (AV.tup [(TV.c (AC.vec 26)), (TV.c (AC.int IntKind.i64 0))]) [(26, Blk.vec [(Col.ints IntKind.u8 (lcat [] (lsub p 0 (nat n))))]), (200000, Blk.rview [(Col.ints IntKind.u8 p)])]))))))))) ∧ (((ilt n 0) = true) → (R (AV.tup [(TV.c (AC.con (Value.slice (Option.none) 0 0))), (TV.c (AC.int IntKind.i64 2))]) [(200000, Blk.rview [(Col.ints IntKind.u8 p)])])))))) := by kernel_rfl
set_option maxRecDepth 20000
theorem zb_cons (x : Int) (l : List Int) : zb (x :: l) = (x == 0 && zb l) := rfl
theorem noughts_l0 (R : AV → Mem → Prop) (p : List Int) (hs : Short p) : ∀ (n i : Nat), p.length - i = n → i ≤ p.length → (∀ b, b = zb (p.drop i) → R (.one (.lit b)) [(200000, .rview [.ints .u8 p])]) → noughts.l0 R p (n + 1) (i : Int) := by
 have hle := hs.le
 intro n
 induction n with
 | zero =>
  intro i hn hi h
  rw [noughts.l0_succ]
  refine ⟨fun q => ?_, fun _ => h true ?_⟩
  ·rw [ilt_true] at q; simp only [ofNat, llen] at q; omega
  ·rw [List.drop_of_length_le (by omega)]; rfl
 | succ n ih =>
  intro i hn hi h
  rw [noughts.l0_succ]
  have hlt : i < p.length := by omega
  have hd := lget_succ p i hlt
  refine ⟨fun _ => ⟨⟨by omega, by simp only [llen]; omega⟩, fun q => h false ?_, fun q => ?_⟩, fun q => ?_⟩
  ·rw [ine_true] at q
   simp only [nat, Int.toNat_natCast] at q
   rw [hd, zb_cons]; simp [q]
  ·rw [ine_false] at q
   simp only [nat, Int.toNat_natCast] at q
   rw [add_i64 (by omega) (by omega)]
   refine ih (i + 1) (by omega) (by omega) fun b hb => h b ?_
   rw [hb, hd, zb_cons, q]; rfl
  ·rw [ilt_false] at q; simp only [ofNat, llen] at q; omega
theorem good_noughts : Sx.Good Tryd.prog 37 noughtsS := by
 refine Sx.Good.reads (D := []) mixed (good0 _) Tryd.func37 (by kernel_rfl) rfl fun d args σ K h => ?_
 simp only [noughtsS] at h
 split at h <;> try exact h.elim
 obtain ⟨l, ⟨hs, hK⟩, hr⟩ := rdb_row h
 refine ⟨[.one (.vec 200000)], [(200000, .rview [.ints .u8 l])], .row [.ints .u8] _ hr (by decide) (.nil _), by simp, l.length + 1 + 1, ?_⟩
 rw [noughts_vc]
 exact noughts_l0 _ l hs l.length 0 (by omega) (by omega) fun b hb => res_lit hb hK
theorem rnoughts_l0 (R : AV → Mem → Prop) (p : List Int) (hs : Short p) : ∀ (n i : Nat), p.length - i = n → (∀ b, b = zb (p.drop i) → R (.one (.lit b)) [(200000, .rview [.ints .u8 p])]) → rnoughts.l0 R p (n + 1) (i : Int) := by
 have hle := hs.le
 intro n
 induction n with
 | zero =>
  intro i hn h
  rw [rnoughts.l0_succ]
  refine ⟨fun q => ?_, fun _ => h true ?_⟩
  ·rw [ilt_true] at q; simp only [ofNat, llen] at q; omega
  ·rw [List.drop_of_length_le (by omega)]; rfl
 | succ n ih =>
  intro i hn h
  rw [rnoughts.l0_succ]
  have hlt : i < p.length := by omega
  have hd := lget_succ p i hlt
  refine ⟨fun _ => ⟨⟨by omega, by simp only [llen]; omega⟩, fun q => h false ?_, fun q => ?_⟩, fun q => ?_⟩
  ·rw [ine_true] at q
   simp only [nat, Int.toNat_natCast] at q
   rw [hd, zb_cons]; simp [q]
  ·rw [ine_false] at q
   simp only [nat, Int.toNat_natCast] at q
   rw [add_i64 (by omega) (by omega)]
   refine ih (i + 1) (by omega) fun b hb => h b ?_
   rw [hb, hd, zb_cons, q]; rfl
  ·rw [ilt_false] at q; simp only [ofNat, llen] at q; omega
theorem good_rnoughts : Sx.Good Tryd.prog 73 noughts2S := by
 refine Sx.Good.reads (D := []) mixed (good0 _) Tryd.func73 (by kernel_rfl) rfl fun d args σ K h => ?_
 simp only [noughts2S] at h
 split at h <;> try exact h.elim
 rename_i i
 obtain ⟨l, ⟨⟨hs, hi⟩, hK⟩, hr⟩ := rdb_row h
 obtain ⟨j, rfl⟩ := Int.eq_ofNat_of_zero_le hi.le
 refine ⟨[.one (.vec 200000), .one (.int .i64 (j : Int))], [(200000, .rview [.ints .u8 l])], .row [.ints .u8] _ hr (by decide) (.plain (plain_int _ _) (.nil _)), by simp, l.length - j + 1 + 1, ?_⟩
 rw [rnoughts_vc]
 exact rnoughts_l0 _ l hs (l.length - j) j rfl fun b hb => res_lit (by rw [hb]; simp [nat]) hK
theorem zeros_drop (n i : Nat) : (List.replicate n (0 : Int)).drop i = List.replicate (n - i) 0 := by simp
theorem lput_zeros (f : List Int) (h : f.length ≤ 320) : lput (lzeros 320) 0 f = fillL f := by
 simp only [lput, lzeros, fillL, List.take_zero, List.nil_append, Nat.zero_add, List.drop_replicate]
theorem lput_fill (f p : List Int) (h : f.length + p.length ≤ 320) : lput (fillL f) f.length p = fillL (f ++ p) := by
 have e1 : (fillL f).take f.length = f := by simp [fillL]
 have e2 : (fillL f).drop (f.length + p.length) = List.replicate (320 - (f.length + p.length)) 0 := by
  unfold fillL
  rw [List.drop_append, List.drop_of_length_le (by omega), List.nil_append, zeros_drop]
  congr 1; omega
 simp only [lput, e1, e2]
 simp [fillL, List.append_assoc]
theorem good_laid : Sx.Good Tryd.prog 35 laidS := by
 refine Sx.Good.reads (D := []) mixed (good0 _) Tryd.func35 (by kernel_rfl) rfl fun d args σ K h => ?_
 simp only [laidS] at h
 split at h <;> try exact h.elim
 rename_i x i y
 obtain ⟨p, h, hp⟩ := rdb_row h
 obtain ⟨f, ⟨hok, hK⟩, hf⟩ := rdb_row h
 have he := hok.e
 have hle := hok.le
 refine ⟨[.one (.vec 200000), .one (.int .i64 i), .one (.vec 200002)], [(200000, .rview [.ints .u8 p]), (200002, .rview [.ints .u8 f])], .row [.ints .u8] _ hp (by decide) (.plain (plain_int _ _) (.row [.ints .u8] _ hf (by decide) (.nil _))), by simp, 1, ?_⟩
 rw [laid_vc]
 have hi : nat i = f.length := by simp only [nat]; omega
 have e1 : nmin (llen f) 320 = f.length := by simp only [nmin, llen]; omega
 rw [e1, lsub_all, lput_zeros f (by omega), hi]
 have e2 : llen (fillL f) = 320 := by simp [llen, fillL]; omega
 rw [e2]
 have e3 : nmin (llen p) (nsub 320 f.length) = p.length := by simp only [nmin, llen, nsub]; omega
 rw [e3, lsub_all, lput_fill f p hle]
 exact ⟨⟨by decide, by decide, by decide, by decide⟩, ⟨⟨by omega⟩, ⟨by omega⟩⟩, res_vec rfl rfl hK⟩
theorem fill_l0 (R : AV → Mem → Prop) (p q : List Int) : ∀ (n : Nat) (l : List Int), 320 - l.length = n → l.length ≤ 320 → R (.one (.vec 100003)) [(100003, .vec [.ints .u8 (fillL l)]), (200000, .rview [.ints .u8 p])] → fill.l0 R p (n + 1) l := by
 intro n
 induction n with
 | zero =>
  intro l hn hle h
  rw [fill.l0_succ]
  refine ⟨fun q => ?_, fun _ => ?_⟩
  ·rw [ilt_true] at q; simp only [ofNat, llen] at q; omega
  ·have : fillL l = l := by unfold fillL; rw [hn]; simp
   rw [this] at h; exact h
 | succ n ih =>
  intro l hn hle h
  have hl : (lcat l [0]).length = l.length + 1 := by simp [lcat]
  rw [fill.l0_succ]
  refine ⟨fun _ => ⟨room1 (by simp only [nadd, llen]; omega), ih _ (by rw [hl]; omega) (by rw [hl]; omega) ?_⟩, fun q => ?_⟩
  ·have : fillL (lcat l [0]) = fillL l := by
    unfold fillL
    rw [hl, hn, show 320 - (l.length + 1) = n by omega, List.replicate_succ]
    simp [lcat]
   rw [this]; exact h
  ·rw [ilt_false] at q; simp only [ofNat, llen] at q; omega
theorem good_fill : Sx.Good Tryd.prog 44 fillS := by
 refine Sx.Good.reads (D := [⟨3, [.ints .u8], true, false⟩]) mixed (good0 _) Tryd.func44 (by kernel_rfl) rfl fun d args σ K h => ?_
 simp only [fillS] at h
 split at h <;> try exact h.elim
 obtain ⟨p, ⟨hok, hK⟩, hr⟩ := rdb_row h
 have hle := hok.le
 refine ⟨[.one (.vec 200000)], [(200000, .rview [.ints .u8 p])], .row [.ints .u8] _ hr (by decide) (.nil _), by simp, 320 - p.length + 1 + 1, ?_⟩
 rw [fill_vc]
 refine ⟨room1 (by simp only [nadd, llen]; omega), fill_l0 _ p p (320 - p.length) _ (by simp [lcat]) (by simpa [lcat] using hle) ?_⟩
 exact res_vec rfl (by simp [lcat]) hK
theorem gamC1_good : GoodG Tryd.prog gamC1 := by
 refine ((((good0 _).ext good_noughts ?_).ext good_rnoughts ?_).ext good_laid ?_).ext good_fill ?_
 ·exact ⟨_, Tryd.func37, by decide, by kernel_rfl⟩
 ·exact ⟨_, Tryd.func73, by decide, by kernel_rfl⟩
 ·exact ⟨_, Tryd.func35, by decide, by kernel_rfl⟩
 ·exact ⟨_, Tryd.func44, by decide, by kernel_rfl⟩
theorem laid0 {p : List Int} (h : p.length ≤ 320) : LaidOk p [] 0 := ⟨rfl, by simpa using h⟩
theorem conv_len {p : List Int} (h : p.length ≤ 48) : conv .u8 (ofNat (llen p)) = (p.length : Int) := by
 rw [conv_u8]; simp only [ofNat, llen]; omega
theorem good_pad : Sx.Good Tryd.prog 26 (lstS padR padE) := by
 refine Sx.Good.reads (D := []) mixed gamC1_good Tryd.func26 (by kernel_rfl) rfl fun d args σ K h => ?_
 simp only [lstS] at h
 split at h <;> try exact h.elim
 obtain ⟨p, ⟨hs, hK⟩, hr⟩ := rdb_row h
 refine ⟨[.one (.vec 200000)], [(200000, .rview [.ints .u8 p])], .row [.ints .u8] _ hr (by decide) (.nil _), by simp, 1, ?_⟩
 rw [Pad_vc]
 refine ⟨fun q => ?_, fun q => ?_⟩
 ·rw [igt_true] at q; simp only [ofNat, llen] at q
  exact res_tnil (.int (by simp only [padE]; rw [if_neg (by omega)]) .nil) (by simp only [padR]; rw [if_neg (by omega)]) hK
 ·rw [igt_false] at q; simp only [ofNat, llen] at q
  have hl : p.length ≤ 320 := by omega
  exact ⟨laid0 hl, res_tvec rfl (.int (by simp only [padE]; rw [if_pos hl]) .nil) (by simp only [padR]; rw [if_pos hl]; rfl) hK⟩
theorem good_rpad : Sx.Good Tryd.prog 24 (lstS padR padE) := by
 refine Sx.Good.reads (D := []) mixed gamC1_good Tryd.func24 (by kernel_rfl) rfl fun d args σ K h => ?_
 simp only [lstS] at h
 split at h <;> try exact h.elim
 obtain ⟨p, ⟨hs, hK⟩, hr⟩ := rdb_row h
 refine ⟨[.one (.vec 200000)], [(200000, .rview [.ints .u8 p])], .row [.ints .u8] _ hr (by decide) (.nil _), by simp, 1, ?_⟩
 rw [rPad_vc]
 refine ⟨fun q => ?_, fun q => ?_⟩
 ·rw [igt_true] at q; simp only [ofNat, llen] at q
  exact res_tnil (.int (by simp only [padE]; rw [if_neg (by omega)]) .nil) (by simp only [padR]; rw [if_neg (by omega)]) hK
 ·rw [igt_false] at q; simp only [ofNat, llen] at q
  have hl : p.length ≤ 320 := by omega
  exact ⟨⟨hl⟩, res_tvec rfl (.int (by simp only [padE]; rw [if_pos hl]) .nil) (by simp only [padR]; rw [if_pos hl]) hK⟩
theorem good_plain : Sx.Good Tryd.prog 16 (lstS plainR plainE) := by
 refine Sx.Good.reads (D := []) mixed gamC1_good Tryd.func16 (by kernel_rfl) rfl fun d args σ K h => ?_
 simp only [lstS] at h
 split at h <;> try exact h.elim
 obtain ⟨p, ⟨hs, hK⟩, hr⟩ := rdb_row h
 refine ⟨[.one (.vec 200000)], [(200000, .rview [.ints .u8 p])], .row [.ints .u8] _ hr (by decide) (.nil _), by simp, 1, ?_⟩
 rw [Plain_vc]
 refine ⟨fun q => ?_, fun q => ?_⟩
 ·rw [igt_true] at q; simp only [ofNat, llen] at q
  exact res_tnil (.int (by simp only [plainE]; rw [if_neg (by omega)]) .nil) (by simp only [plainR]; rw [if_neg (by omega)]) hK
 ·rw [igt_false] at q; simp only [ofNat, llen] at q
  have hl : p.length ≤ 48 := by omega
  rw [conv_len hl]
  exact ⟨⟨rfl, by simp; omega⟩, res_tvec rfl (.int (by simp only [plainE]; rw [if_pos hl]) .nil) (by simp only [plainR]; rw [if_pos hl]; rfl) hK⟩
theorem good_rplain : Sx.Good Tryd.prog 59 (lstS plainR plainE) := by
 refine Sx.Good.reads (D := []) mixed gamC1_good Tryd.func59 (by kernel_rfl) rfl fun d args σ K h => ?_
 simp only [lstS] at h
 split at h <;> try exact h.elim
 obtain ⟨p, ⟨hs, hK⟩, hr⟩ := rdb_row h
 refine ⟨[.one (.vec 200000)], [(200000, .rview [.ints .u8 p])], .row [.ints .u8] _ hr (by decide) (.nil _), by simp, 1, ?_⟩
 rw [rPlain_vc]
 refine ⟨fun q => ?_, fun q => ?_⟩
 ·rw [igt_true] at q; simp only [ofNat, llen] at q
  exact res_tnil (.int (by simp only [plainE]; rw [if_neg (by omega)]) .nil) (by simp only [plainR]; rw [if_neg (by omega)]) hK
 ·rw [igt_false] at q; simp only [ofNat, llen] at q
  have hl : p.length ≤ 48 := by omega
  rw [conv_len hl]
  exact ⟨room1 (by simp only [nadd, llen, List.length_cons, List.length_nil]; omega), ⟨by simp [lcat]; omega⟩, res_tvec rfl (.int (by simp only [plainE]; rw [if_pos hl]) .nil) (by simp only [plainR]; rw [if_pos hl]; rfl) hK⟩
theorem cut_len {c : List Int} {n : Int} (h : c.length ≠ 320) : cutE c n = 50 := by simp only [cutE]; rw [if_pos h]
theorem cut_arg {c : List Int} {n : Int} (h : c.length = 320) (hn : n < 0 ∨ 320 < n) : cutE c n = 2 := by simp only [cutE]; rw [if_neg (by omega), if_pos hn]
theorem cut_pad {c : List Int} {n : Int} (h : c.length = 320) (h0 : 0 ≤ n) (h1 : n ≤ 320) (hz : zb (c.drop n.toNat) = false) : cutE c n = 51 := by simp only [cutE]; rw [if_neg (by omega), if_neg (by omega), if_pos hz]
theorem cut_ok {c : List Int} {n : Int} (h : c.length = 320) (h0 : 0 ≤ n) (h1 : n ≤ 320) (hz : zb (c.drop n.toNat) = true) : cutE c n = 0 := by simp only [cutE]; rw [if_neg (by omega), if_neg (by omega), if_neg (by simp [hz])]
theorem cut_none {c : List Int} {n : Int} (h : cutE c n ≠ 0) : cutR c n = [] := by simp only [cutR]; rw [if_neg h]
theorem cut_some {c : List Int} {n : Int} (h : cutE c n = 0) : cutR c n = c.take n.toNat := by simp only [cutR]; rw [if_pos h]
theorem good_cut : Sx.Good Tryd.prog 28 cutS := by
 refine Sx.Good.reads (D := []) mixed gamC1_good Tryd.func28 (by kernel_rfl) rfl fun d args σ K h => ?_
 simp only [cutS] at h
 split at h <;> try exact h.elim
 rename_i n
 obtain ⟨c, ⟨hs, hK⟩, hr⟩ := rdb_row h
 refine ⟨[.one (.vec 200000), .one (.int .i64 n)], [(200000, .rview [.ints .u8 c])], .row [.ints .u8] _ hr (by decide) (.plain (plain_int _ _) (.nil _)), by simp, 1, ?_⟩
 rw [Cut_vc]
 have nil : ∀ {e : Int}, cutE c n = e → e ≠ 0 → ∀ σ', Res d 1 σ K (.tup [.c (.con (.slice none 0 0)), .c (.int .i64 e)]) σ' := fun he hne σ' => res_tnil (.int he.symm .nil) (cut_none (by rw [he]; exact hne)) hK
 refine ⟨fun q => ?_, fun q => ⟨fun q0 => ⟨fun q1 => ?_, fun q1 => ?_⟩, fun q0 => ?_⟩⟩
 ·rw [ine_true] at q; simp only [ofNat, llen] at q
  exact nil (cut_len (by omega)) (by decide) _
 ·rw [ine_false] at q; rw [igt_true] at q1; simp only [ofNat, llen] at q
  exact nil (cut_arg (by omega) (Or.inr q1)) (by decide) _
 ·rw [ine_false] at q; rw [igt_false] at q1; rw [ilt_false] at q0; simp only [ofNat, llen] at q
  have hl : c.length = 320 := by omega
  have ed : lsub c (nat n) (nsub (llen c) (nat n)) = c.drop n.toNat := by simp only [nat, nsub, llen]; exact lsub_drop c _
  have et : lsub c 0 (nat n) = c.take n.toNat := by simp only [nat]; exact lsub_take c _
  rw [ed, et]
  have hb : NonNeg n ∧ Fits (nat n) (llen c) := ⟨⟨q0⟩, ⟨by simp only [nat, llen]; omega⟩⟩
  refine ⟨hb, ⟨by simp; omega⟩, fun q2 => ?_, fun q2 => ⟨hb, room1 (by simp only [nadd, llen, List.length_take]; omega), ?_⟩⟩
  ·rw [bnot_true] at q2
   exact nil (cut_pad hl q0 q1 q2) (by decide) _
  ·rw [bnot_false] at q2
   have e0 := cut_ok hl q0 q1 q2
   exact res_tvec rfl (.int e0.symm .nil) (by rw [cut_some e0]; rfl) hK
 ·rw [ine_false] at q; rw [ilt_true] at q0; simp only [ofNat, llen] at q
  exact nil (cut_arg (by omega) (Or.inl q0)) (by decide) _
theorem good_rcut : Sx.Good Tryd.prog 54 cutS := by
 refine Sx.Good.reads (D := []) mixed gamC1_good Tryd.func54 (by kernel_rfl) rfl fun d args σ K h => ?_
 simp only [cutS] at h
 split at h <;> try exact h.elim
 rename_i n
 obtain ⟨c, ⟨hs, hK⟩, hr⟩ := rdb_row h
 refine ⟨[.one (.vec 200000), .one (.int .i64 n)], [(200000, .rview [.ints .u8 c])], .row [.ints .u8] _ hr (by decide) (.plain (plain_int _ _) (.nil _)), by simp, 1, ?_⟩
 rw [rCut_vc]
 have nil : ∀ {e : Int}, cutE c n = e → e ≠ 0 → ∀ σ', Res d 1 σ K (.tup [.c (.con (.slice none 0 0)), .c (.int .i64 e)]) σ' := fun he hne σ' => res_tnil (.int he.symm .nil) (cut_none (by rw [he]; exact hne)) hK
 refine ⟨fun q => ?_, fun q => ⟨fun q0 => ⟨fun q1 => ?_, fun q1 => ?_⟩, fun q0 => ?_⟩⟩
 ·rw [ine_true] at q; simp only [ofNat, llen] at q
  exact nil (cut_len (by omega)) (by decide) _
 ·rw [ine_false] at q; rw [igt_true] at q1; simp only [ofNat, llen] at q
  exact nil (cut_arg (by omega) (Or.inr q1)) (by decide) _
 ·rw [ine_false] at q; rw [igt_false] at q1; rw [ilt_false] at q0; simp only [ofNat, llen] at q
  have hl : c.length = 320 := by omega
  have ed : List.drop (nat n) c = c.drop n.toNat := rfl
  have et : lsub c 0 (nat n) = c.take n.toNat := by simp only [nat]; exact lsub_take c _
  rw [ed, et]
  have hb : NonNeg n ∧ Fits (nat n) (llen c) := ⟨⟨q0⟩, ⟨by simp only [nat, llen]; omega⟩⟩
  refine ⟨⟨hs, ⟨q0⟩⟩, fun q2 => ?_, fun q2 => ⟨hb, room1 (by simp only [nadd, llen, List.length_take]; omega), ?_⟩⟩
  ·rw [bnot_true] at q2
   exact nil (cut_pad hl q0 q1 q2) (by decide) _
  ·rw [bnot_false] at q2
   have e0 := cut_ok hl q0 q1 q2
   exact res_tvec rfl (.int e0.symm .nil) (by rw [cut_some e0]; rfl) hK
 ·rw [ine_false] at q; rw [ilt_true] at q0; simp only [ofNat, llen] at q
  exact nil (cut_arg (by omega) (Or.inl q0)) (by decide) _
theorem op_len {c : List Int} (h : c.length ≠ 320) : opE c = 50 := by simp only [opE]; rw [if_pos h]
theorem op_noise {c : List Int} (h : c.length = 320) (h0 : lget c 0 = 0) : opE c = 0 ∧ opY c = false := by
 have : c.getD 0 0 = 0 := h0
 constructor
 ·simp only [opE]; rw [if_neg (by omega), if_pos this]
 ·simp [opY]; intro _; exact h0
theorem op_kind {c : List Int} (h : c.length = 320) (h0 : lget c 0 ≠ 0) (h1 : lget c 0 ≠ 1) : opE c = 52 := by
 have g0 : c.getD 0 0 ≠ 0 := h0
 have g1 : c.getD 0 0 ≠ 1 := h1
 simp only [opE]; rw [if_neg (by omega), if_neg g0, if_pos g1]
theorem op_long {c : List Int} (h : c.length = 320) (h1 : lget c 0 = 1) (h2 : 48 < lget c 1) : opE c = 53 := by
 have g1 : c.getD 0 0 = 1 := h1
 have g2 : 48 < c.getD 1 0 := h2
 simp only [opE]; rw [if_neg (by omega), if_neg (by omega), if_neg (by omega), if_pos g2]
theorem op_pad {c : List Int} {n : Nat} (h : c.length = 320) (h1 : lget c 0 = 1) (h2 : lget c 1 ≤ 48) (hn : (lget c 1).toNat = n) (hz : zb (c.drop (2 + n)) = false) : opE c = 51 := by
 have g1 : c.getD 0 0 = 1 := h1
 have g2 : c.getD 1 0 ≤ 48 := h2
 have gn : (c.getD 1 0).toNat = n := hn
 simp only [opE]; rw [if_neg (by omega), if_neg (by omega), if_neg (by omega), if_neg (by omega), gn, if_pos hz]
theorem op_ok {c : List Int} {n : Nat} (h : c.length = 320) (h1 : lget c 0 = 1) (h2 : lget c 1 ≤ 48) (hn : (lget c 1).toNat = n) (hz : zb (c.drop (2 + n)) = true) : opE c = 0 ∧ opY c = true ∧ opR c = (c.drop 2).take n := by
 have g1 : c.getD 0 0 = 1 := h1
 have g2 : c.getD 1 0 ≤ 48 := h2
 have gn : (c.getD 1 0).toNat = n := hn
 have e0 : opE c = 0 := by
  simp only [opE]; rw [if_neg (by omega), if_neg (by omega), if_neg (by omega), if_neg (by omega), gn, if_neg (by simp [hz])]
 have e1 : opY c = true := by simp only [opY, e0, g1]; decide
 exact ⟨e0, e1, by simp only [opR]; rw [if_pos e1, gn]⟩
theorem op_no {c : List Int} (h : opE c ≠ 0) : opY c = false := by simp [opY, h]
theorem op_nil {c : List Int} (h : opY c = false) : opR c = [] := by simp [opR, h]
section
variable {d : Nat} {σ : Mem} {K : AV → Mem → Prop} {c : List Int}
theorem op_fail (hK : K (.tup [.c (.vec d), .c (.bool (opY c)), .c (.int .i64 (opE c))]) (Mem.ins d (.vec [.ints .u8 (opR c)]) σ)) {e : Int} (he : opE c = e) (hne : e ≠ 0) (σ' : Mem) : Res d 1 σ K (.tup [.c (.con (.slice none 0 0)), .c (.lit false), .c (.int .i64 e)]) σ' := by
 have hy := op_no (c := c) (by rw [he]; exact hne)
 exact res_tnil (.lit hy.symm (.int he.symm .nil)) (op_nil hy) hK
theorem op_still (hK : K (.tup [.c (.vec d), .c (.bool (opY c)), .c (.int .i64 (opE c))]) (Mem.ins d (.vec [.ints .u8 (opR c)]) σ)) (h : opE c = 0 ∧ opY c = false) (σ' : Mem) : Res d 1 σ K (.tup [.c (.con (.slice none 0 0)), .c (.lit false), .c (.int .i64 0)]) σ' :=
 res_tnil (.lit h.2.symm (.int h.1.symm .nil)) (op_nil h.2) hK
end
theorem op_words {c : List Int} (hb : Bs c) : ∃ n : Nat, lget c 1 = (n : Int) ∧ (lget c 1).toNat = n ∧ n < 256 ∧ conv .i64 (lget c 1) = (n : Int) ∧ nat (add .i64 2 (conv .i64 (lget c 1))) = 2 + n ∧ 0 ≤ add .i64 2 (conv .i64 (lget c 1)) := by
 have h := hb.get 1
 obtain ⟨n, hn⟩ := Int.eq_ofNat_of_zero_le h.1
 have hg : lget c 1 = (n : Int) := hn
 have hlt : n < 256 := by have := h.2; omega
 have hc : conv .i64 (lget c 1) = (n : Int) := by rw [hg, conv_i64 (by omega) (by omega)]
 have ha : add .i64 2 (conv .i64 (lget c 1)) = 2 + (n : Int) := by rw [hc, add_i64 (by omega) (by omega)]
 refine ⟨n, hg, by rw [hg]; rfl, hlt, hc, by rw [ha]; simp only [nat]; omega, by rw [ha]; omega⟩
theorem good_open : Sx.Good Tryd.prog 20 openS := by
 refine Sx.Good.reads (D := []) mixed gamC1_good Tryd.func20 (by kernel_rfl) rfl fun d args σ K h => ?_
 simp only [openS] at h
 split at h <;> try exact h.elim
 obtain ⟨c, ⟨⟨hs, hb⟩, hK⟩, hr⟩ := rdb_row h
 refine ⟨[.one (.vec 200000)], [(200000, .rview [.ints .u8 c])], .row [.ints .u8] _ hr (by decide) (.nil _), by simp, 1, ?_⟩
 rw [Open_vc]
 obtain ⟨n, hg, hgn, hlt, hc, hnat, h0⟩ := op_words hb
 refine ⟨fun q => ?_, fun q => ?_⟩
 ·rw [ine_true] at q; simp only [ofNat, llen] at q
  exact op_fail hK (op_len (by omega)) (by decide) _
 rw [ine_false] at q; simp only [ofNat, llen] at q
 have hl : c.length = 320 := by omega
 refine ⟨⟨by omega, by simp only [llen]; omega⟩, fun q0 => ?_, fun q0 => ⟨fun q1 => ⟨⟨by omega, by simp only [llen]; omega⟩, fun q2 => ?_, fun q2 => ?_⟩, fun q1 => ?_⟩⟩
 ·rw [ieq_true] at q0
  exact op_still hK (op_noise hl q0) _
 ·rw [ieq_false] at q0; rw [ieq_true] at q1; rw [igt_true, hc] at q2
  exact op_fail hK (op_long hl q1 (by rw [hg]; exact q2)) (by decide) _
 ·rw [ieq_false] at q0; rw [ieq_true] at q1; rw [igt_false, hc] at q2
  rw [hnat]
  have ed : lsub c (2 + n) (nsub (llen c) (2 + n)) = c.drop (2 + n) := by simp only [nsub, llen]; exact lsub_drop c _
  rw [ed]
  refine ⟨⟨⟨h0⟩, ⟨by simp only [llen]; omega⟩⟩, ⟨by simp; omega⟩, fun q3 => ?_, fun q3 => ⟨⟨⟨⟨h0⟩, ⟨by simp only [llen]; omega⟩⟩, ⟨⟨by decide⟩, ⟨by omega⟩⟩⟩, room1 (by simp only [nadd, nsub, llen, lsub, List.length_take, List.length_drop]; omega), ?_⟩⟩
  ·rw [bnot_true] at q3
   exact op_fail hK (op_pad hl q1 (by rw [hg]; exact q2) hgn q3) (by decide) _
  ·rw [bnot_false] at q3
   obtain ⟨e0, ey, er⟩ := op_ok hl q1 (by rw [hg]; exact q2) hgn q3
   refine res_tvec rfl (.lit ey.symm (.int e0.symm .nil)) ?_ hK
   rw [er]; simp only [lcat, List.nil_append, lsub, nsub]
   rw [show 2 + n - 2 = n by omega]
 ·rw [ieq_false] at q0; rw [ieq_false] at q1
  exact op_fail hK (op_kind hl q0 q1) (by decide) _
end Go.Proofs.YtienfecnkglilaaDoor.G
namespace Go.Sx
open Go
def ViewC (args cargs : List AV) (σ : Mem) (a b : AC) : Prop :=
 ∃ j n z i len cs, args[j]? = some (.one (.vec n)) ∧ cargs[j]? = some (.one (.vec (200000 + j))) ∧ Mem.cols σ n = some cs ∧ a = .vsl (200000 + j) z i len ∧ b = .vsl n z i len
def PlainC (a b : AC) : Prop := ∀ ρ ρ' v, CRep ρ a v → CRep ρ' b v
def ViewT (args cargs : List AV) (σ : Mem) : List TV → List TV → Prop
 | [], [] => True
 | .c a :: r, .c b :: s => (PlainC a b ∨ ViewC args cargs σ a b) ∧ ViewT args cargs σ r s
 | _, _ => False
section
variable {P : Program} {Γ : Gam} {D : Hints}
theorem viewT_sound {args cargs : List AV} {σ : Mem} {ρ ρ' : Rho} (hV : ∀ a b v, ViewC args cargs σ a b → CRep ρ a v → CRep ρ' b v) : ∀ {l m : List TV}, ViewT args cargs σ l m → l.length = m.length ∧ ∀ (j : Nat) a b v, l[j]? = some a → m[j]? = some b → TRep ρ a v → TRep ρ' b v
 | [], [], _ => ⟨rfl, fun j a b v h => by simp at h⟩
 | .c a :: l, .c b :: m, h => by
  obtain ⟨g1, g2⟩ := viewT_sound hV h.2
  refine ⟨by simp [g1], fun j x y v hx hy hr => ?_⟩
  cases j with
  | zero =>
   simp only [List.getElem?_cons_zero, Option.some.injEq] at hx hy
   subst hx hy
   rcases h.1 with q | q
   ·exact q ρ ρ' v hr
   ·exact hV a b v q hr
  | succ j => exact g2 j x y v (by simpa using hx) (by simpa using hy) hr
 | [], _ :: _, h => by simp [ViewT] at h
 | .c _ :: _, [], h => by simp [ViewT] at h
 | .g _ :: _, _, h => by simp [ViewT] at h
 | .c _ :: _, .g _ :: _, h => by simp [ViewT] at h
theorem Good.view (hm : P.follows .mixedOrders = true) (hΓ : GoodG P Γ) {f : FuncId} {fn : Func} (hf : P.funcs[f]? = some fn) (hb : fn.body.isSome = true) {s : Spec} (hs : s.mods = false)
  (hsem : ∀ d args σ (K : AV → Mem → Prop), s.sem d args σ K → ∃ cargs τ, Canon σ 0 args cargs τ ∧ args.length ≤ 1000 ∧ ∃ n, callsx P Γ D fn n cargs τ (fun av _ => ∃ ts us, av = .tup ts ∧ ViewT args cargs σ ts us ∧ K (.tup us) σ)) : Good P f s := by
 refine ⟨fun d args σ K h ρ w vals hg hmem hsep hl hv hnew => ?_⟩
 obtain ⟨cargs, τ, hcan, hlen, n, hc⟩ := hsem d args σ K h
 obtain ⟨h1, Ls, h2⟩ := canon_sound hmem hsep hcan vals.toList (by simpa using hl) (fun i x v hx hu => hv i x v hx (by simpa using hu))
 generalize hρ0 : rhoC ρ (fun n => Ls (n % 1000) (n / 1000)) = ρc
 have hρc : ∀ i f, 0 ≤ i → i < 0 + args.length → f < 100 → ρc (200000 + (i + 1000 * f)) = Ls i f := fun i f _ hi hf => by
  rw [← hρ0, rhoC_arg (by omega)]
  show Ls ((i + 1000 * f) % 1000) ((i + 1000 * f) / 1000) = Ls i f
  rw [show (i + 1000 * f) % 1000 = i by omega, show (i + 1000 * f) / 1000 = f by omega]
 have hgg : ∀ g, ρc (gname g) = ρ (gname g) := fun g => by rw [← hρ0]; exact rhoC_glob
 obtain ⟨g1, g2⟩ := h2 ρc hρc hgg (fun n hn => by rw [← hρ0]; exact rhoC_heap hn)
 have hgc : Glob ρc := fun g => by rw [hgg]; exact hg g
 have hno := canon_views hcan ρc
 have hsepc : Sep ρc τ := ⟨fun n m b c k hn _ _ hO => absurd hO (hno n b k hn), fun n b k hn hO => absurd hO (hno n b k hn)⟩
 refine (callsx_sound hm hΓ hf hb hc (ex := fun _ => False) hgc (by simpa using h1) (fun i y v hy hu => g1 i y v hy (by simpa using hu)) g2 hsepc (fun n b k hn hO => absurd hO (hno n b k hn))).mono ?_
 rintro e w' ⟨v, av', σ'', ρ'', rfl, ⟨ts, us, rfl, hT, hK⟩, hsr, hmem'', hsep'', hkeep, _, hown'', hk⟩
 have hsame : ∀ i, i < w.heap.size → w'.heap[i]? = w.heap[i]? := fun i hi => hk.block i hi (fun q => q)
 have hk' : Keeps (OwnAt ρ σ) w w' := ⟨hk.os, hk.tape, hk.output, hk.size, fun k hk' _ => hsame k hk'⟩
 have hV : ∀ a b v, ViewC args cargs σ a b → CRep ρ'' a v → CRep ρ b v := by
  rintro a b v ⟨j, n, z, i, len, cs, ha, hca, hcs, rfl, rfl⟩ hr
  have hjl : j < args.length := (List.getElem?_eq_some_iff.1 ha).1
  have hvj : j < vals.size := by omega
  have e1 := hv j _ vals[j] ha (by simp [hvj])
  have e2 := g1 j _ vals[j] hca (by simp [hvj])
  have e3 : ρ'' (200000 + j) = ρc (200000 + j) := hkeep _ (by omega) (isHeap_no (Or.inl (by omega)))
  have e4 : vals[j] = .slice (ρ n).a (ρ n).len (ρ n).cap := e1
  have e5 : vals[j] = .slice (ρc (200000 + j)).a (ρc (200000 + j)).len (ρc (200000 + j)).cap := e2
  rw [e4] at e5
  simp only [Value.slice.injEq] at e5
  obtain ⟨q1, q2, q3⟩ := e5
  obtain ⟨A, cap, rfl, r1, r2, r3, r4, r6⟩ := hr
  rw [e3] at r2 r3 r4 r6
  obtain ⟨hVR, _⟩ := cols_sound hmem hcs
  refine ⟨A, cap, rfl, r1, by rw [q2]; exact r2, ?_, hVR.adr, by rw [q3]; exact r6⟩
  rcases r3 with r3 | ⟨r3, r5⟩
  ·exact Or.inl r3
  ·exact Or.inr ⟨by rw [q3]; exact r3, by rw [q1]; exact r5⟩
 refine ⟨v, .tup us, σ, ρ, rfl, hK, ?_, hmem.keeps (fun n b k hb hk => hsame _ (in_range (hmem n b hb) hk)), hsep, fun n _ _ => rfl, fun _ _ => .refl _, fun n b k hn hO => Or.inl ⟨n, b, hn, hO⟩, hk', fun _ => ⟨hk, fun _ _ q => q, fun _ _ => rfl⟩⟩
 obtain ⟨vs, rfl, hl', hall⟩ := hsr
 obtain ⟨l1, l2⟩ := viewT_sound hV hT
 refine ⟨vs, rfl, by omega, fun j b u hb' hu => ?_⟩
 have hj : j < ts.length := by have := (List.getElem?_eq_some_iff.1 hb').1; omega
 exact l2 j ts[j] b u (by simp [hj]) hb' (hall j ts[j] u (by simp [hj]) hu)
end
end Go.Sx
namespace Go.Oni
open Go Go.Sx Go.Hsh Go.Mac Go.Blk Go.Cel
def churn : List Int := [99, 104, 117, 114, 110]
def kB (key nonce : List Int) : List Int := exR (hmac nonce key) churn 80
def dvE (key : List Int) : Int := if key.length = 32 then 0 else 2
def dvB (key nonce : List Int) : List Int := if key.length = 32 then lsub (kB key nonce) 0 16 else lzeros 16
def dvM (key nonce : List Int) : List Int := if key.length = 32 then lsub (kB key nonce) 16 32 else lzeros 32
def dvR (key nonce : List Int) : List Int := if key.length = 32 then lsub (kB key nonce) 48 32 else lzeros 32
def sizeI (left : Int) : Int := if left < 1 ∨ 8 < left then 0 else 48 + 34 * left
def roomI (left : Int) : Int := sizeI left - 34
def tagO (mc : List Int) (left : Int) (nonce box : List Int) : List Int := lsub (hmac mc ([conv .u8 left] ++ nonce ++ box)) 0 16
def plO (left : Int) (inner : List Int) : List Int := ((inner.length / 256 : Nat) : Int) :: ((inner.length % 256 : Nat) : Int) :: (inner ++ lzeros ((sizeI left - 34).toNat - inner.length))
def forgeO (key nonce : List Int) (left : Int) (plain : List Int) : List Int :=
 nonce ++ tagO (dvM key nonce) left nonce (mask (ks (dvB key nonce)) (lzeros 16) plain) ++ mask (ks (dvB key nonce)) (lzeros 16) plain
def wrE (key : List Int) (left : Int) (inner : List Int) : Int := if key.length ≠ 32 ∨ sizeI left = 0 then 2 else if sizeI left - 34 < (inner.length : Int) then 1 else 0
def wrR (key nonce : List Int) (left : Int) (inner : List Int) : List Int := if wrE key left inner = 0 then forgeO key nonce left (plO left inner) else []
def inN (pl : List Int) : Int := 256 * lget pl 0 + lget pl 1
def inOk (pl : List Int) (left : Int) : Bool := decide (inN pl ≤ sizeI left - 34) && zb (pl.drop (2 + (inN pl).toNat))
def nnO (c : List Int) : List Int := lsub c 0 16
def bxO (left : Int) (c : List Int) : List Int := lsub c 32 ((sizeI left).toNat - 32)
def opO (key : List Int) (left : Int) (c : List Int) : List Int := mask (ks (dvB key (nnO c))) (lzeros 16) (bxO left c)
def innO (pl : List Int) : List Int := lsub pl 2 (inN pl).toNat
def peE (key : List Int) (left : Int) (c : List Int) : Int :=
 if key.length ≠ 32 ∨ sizeI left = 0 then 2 else if cutE c (sizeI left) ≠ 0 then cutE c (sizeI left) else
 if lsub c 16 16 ≠ tagO (dvM key (nnO c)) left (nnO c) (bxO left c) then 70 else if inOk (opO key left c) left = false then 71 else 0
def peC (key : List Int) (left : Int) (c : List Int) : List Int := if peE key left c = 0 then (if 1 < left then padR (innO (opO key left c)) else plainR (innO (opO key left c))) else []
def peR (key : List Int) (left : Int) (c : List Int) : List Int := if peE key left c = 0 then lsub (hmac (dvR key (nnO c)) (lsub c 0 32)) 0 16 else lzeros 16
noncomputable def wL : List Int → List Int → Int → List Int → List Int := hide wrR
noncomputable def wE : List Int → Int → List Int → Int := hide wrE
noncomputable def pE : List Int → Int → List Int → Int := hide peE
noncomputable def pC : List Int → Int → List Int → List Int := hide peC
noncomputable def pR : List Int → Int → List Int → List Int := hide peR
theorem wL_eq (key nonce : List Int) (left : Int) (inner : List Int) : wL key nonce left inner = wrR key nonce left inner := by unfold wL; rw [hide_eq]
theorem wE_eq (key : List Int) (left : Int) (inner : List Int) : wE key left inner = wrE key left inner := by unfold wE; rw [hide_eq]
theorem pE_eq (key : List Int) (left : Int) (c : List Int) : pE key left c = peE key left c := by unfold pE; rw [hide_eq]
theorem pC_eq (key : List Int) (left : Int) (c : List Int) : pC key left c = peC key left c := by unfold pC; rw [hide_eq]
theorem pR_eq (key : List Int) (left : Int) (c : List Int) : pR key left c = peR key left c := by unfold pR; rw [hide_eq]
structure Ky (key : List Int) : Prop where
 sg : Sg key
 bs : Bs key
structure Nn (nonce : List Int) : Prop where
 bl : BL 16 nonce
structure In (l : List Int) : Prop where
 sh : l.length ≤ 140737488355328
 bs : Bs l
structure K32 (l : List Int) : Prop where
 bl : BL 32 l
structure Lf (left : Int) : Prop where
 lo : -9223372036854775808 ≤ left
 hi : left < 9223372036854775808
structure Bx (left : Int) (pl : List Int) : Prop where
 lo : 1 ≤ left
 hi : left ≤ 8
 len : (pl.length : Int) = sizeI left - 32
 bs : Bs pl
structure Fg (key nonce : List Int) (left : Int) (pl : List Int) : Prop where
 ky : Ky key
 len : key.length = 32
 nn : BL 16 nonce
 lo : 1 ≤ left
 hi : left ≤ 8
 few : pl.length ≤ 1000
 bs : Bs pl
end Go.Oni
namespace Go.Sx
open Go.Hsh Go.Mac Go.Blk Go.Cel Go.Oni
def sizeS : Spec := ⟨0, false, fun _ args σ K => match args with
 | [.one (.int .i64 left)] => Lf left ∧ K (.one (.int .i64 (sizeI left))) σ
 | _ => False⟩
def roomS : Spec := ⟨0, false, fun _ args σ K => match args with
 | [.one (.int .i64 left)] => Lf left ∧ K (.one (.int .i64 (roomI left))) σ
 | _ => False⟩
def derS : Spec := ⟨0, false, fun _ args σ K => match args with
 | [x, .agg [.ints .u8 16 nonce]] => rdb σ x fun key => (hasRoots σ ∧ Ky key ∧ Nn nonce) ∧ K (.tup [.g [.ints .u8 16 (dvB key nonce), .ints .u8 32 (dvM key nonce), .ints .u8 32 (dvR key nonce)], .c (.int .i64 (dvE key))]) σ
 | _ => False⟩
def rderS : Spec := ⟨0, false, fun _ args σ K => match args with
 | [x, .agg [.ints .u8 16 nonce]] => rdb σ x fun key => (Ky key ∧ Nn nonce) ∧ K (.tup [.g [.ints .u8 16 (dvB key nonce), .ints .u8 32 (dvM key nonce), .ints .u8 32 (dvR key nonce)], .c (.int .i64 (dvE key))]) σ
 | _ => False⟩
def taggedS : Spec := ⟨1, false, fun d args σ K => match args with
 | [.agg [.ints .u8 16 _, .ints .u8 32 m, .ints .u8 32 _], .one (.int .i64 left), .agg [.ints .u8 16 nonce], x] => rdb σ x fun box => (hasRoots σ ∧ K32 m ∧ Nn nonce ∧ In box) ∧ K (.one (.vec d)) (Mem.ins d (.vec [.ints .u8 (tagO m left nonce box)]) σ)
 | _ => False⟩
def rtagOS : Spec := ⟨0, false, fun _ args σ K => match args with
 | [.agg [.ints .u8 16 _, .ints .u8 32 m, .ints .u8 32 _], .one (.int .i64 left), .agg [.ints .u8 16 nonce], x] => rdb σ x fun box => (K32 m ∧ Nn nonce ∧ In box) ∧ K (.agg [.ints .u8 16 (tagO m left nonce box)]) σ
 | _ => False⟩
noncomputable def halfS : Spec := ⟨0, false, fun _ args σ K => match args with
 | [.agg [.ints .u8 32 m], x] => rdb σ x fun msg => (K32 m ∧ Ky msg) ∧ K (.agg [.ints .u8 16 (lsub (tagL m msg) 0 16)]) σ
 | _ => False⟩
def forgeS : Spec := ⟨1, false, fun d args σ K => match args with
 | [x, .agg [.ints .u8 16 nonce], .one (.int .i64 left), y] => rdb σ x fun key => rdb σ y fun pl => Fg key nonce left pl ∧ K (.one (.vec d)) (Mem.ins d (.vec [.ints .u8 (forgeO key nonce left pl)]) σ)
 | _ => False⟩
def insideS : Spec := ⟨0, false, fun _ args σ K => match args with
 | [.one (.vec n), .one (.int .i64 left)] => match Mem.cols σ n with
  | some [.ints .u8 pl] => Bx left pl ∧ ((inOk pl left = false → K (.tup [.c (.con (.slice none 0 0)), .c (.lit false)]) σ) ∧ (inOk pl left = true → K (.tup [.c (.vsl n 1 2 (nat (inN pl))), .c (.lit true)]) σ))
  | _ => False
 | _ => False⟩
noncomputable def wrapS : Spec := ⟨1, false, fun d args σ K => match args with
 | [x, .agg [.ints .u8 16 nonce], .one (.int .i64 left), y] => rdb σ x fun key => rdb σ y fun inner => (hasRoots σ ∧ Ky key ∧ Nn nonce ∧ Lf left ∧ In inner) ∧ K (.tup [.c (.vec d), .c (.int .i64 (wE key left inner))]) (Mem.ins d (.vec [.ints .u8 (wL key nonce left inner)]) σ)
 | _ => False⟩
noncomputable def rwrapS : Spec := ⟨1, false, fun d args σ K => match args with
 | [x, .agg [.ints .u8 16 nonce], .one (.int .i64 left), y] => rdb σ x fun key => rdb σ y fun inner => (Ky key ∧ Nn nonce ∧ Lf left ∧ In inner) ∧ K (.tup [.c (.vec d), .c (.int .i64 (wE key left inner))]) (Mem.ins d (.vec [.ints .u8 (wL key nonce left inner)]) σ)
 | _ => False⟩
noncomputable def peelS : Spec := ⟨1, false, fun d args σ K => match args with
 | [x, .one (.int .i64 left), y] => rdb σ x fun key => rdb σ y fun c => (hasRoots σ ∧ Ky key ∧ Lf left ∧ In c) ∧ K (.tup [.g [.cells [.vec d], .ints .u8 16 (pR key left c)], .c (.int .i64 (pE key left c))]) (Mem.ins d (.vec [.ints .u8 (pC key left c)]) σ)
 | _ => False⟩
noncomputable def rpeelS : Spec := ⟨1, false, fun d args σ K => match args with
 | [x, .one (.int .i64 left), y] => rdb σ x fun key => rdb σ y fun c => (Ky key ∧ Lf left ∧ In c) ∧ K (.tup [.g [.cells [.vec d], .ints .u8 16 (pR key left c)], .c (.int .i64 (pE key left c))]) (Mem.ins d (.vec [.ints .u8 (pC key left c)]) σ)
 | _ => False⟩
noncomputable def gamO0 : Gam :=
 ext (ext (ext (ext (ext (ext (ext (ext (ext (ext (ext (ext (ext gam0 22 deriveS) 21 rderiveS) 34 tagS) 60 rtagS) 30 equalS)
  33 maskS) 57 maskS) 26 (lstS padR padE)) 16 (lstS plainR plainE)) 28 cutS) 24 (lstS padR padE)) 59 (lstS plainR plainE)) 54 cutS
noncomputable def gamO1 : Gam := ext (ext (ext (ext (ext (ext gamO0 27 sizeS) 42 sizeS) 29 derS) 55 rderS) 58 halfS) 31 taggedS
noncomputable def gamO1x : Gam := ext gamO1 45 roomS
noncomputable def gamO2 : Gam := ext (ext gamO1x 56 rtagOS) 32 insideS
noncomputable def gamO3 : Gam := ext gamO2 43 forgeS
noncomputable def gamO4 : Gam := ext (ext (ext (ext gamO3 25 wrapS) 23 rwrapS) 15 peelS) 36 rpeelS
end Go.Sx
