/- Own texts of this proof, laid one behind the other: BlkL, BitsM, BlkQ2, SxB, AptM, AptG, AptP, AptS, BlkL5, BlkL6, SxO, SxP. -/
import Derived.Test.YtkecbjohbihfmaaBlockMasksD
import Derived.Test.YtkecbjohbihfmaaProg
import Derived.Deep.Slices

/- The verification conditions of functions, printed by a program of this session out of their codes. -/
namespace Go.Proofs.Ytkecbjohbihfmaa.G
open Go Go.Sx Go.Fld Go.Blk
set_option linter.unusedVariables false
set_option maxRecDepth 100000

def lcount.l0 (R : AV → Mem → Prop) (s : Int) (fuel : Nat) (x0 : Int) (x1 : List Int) : Prop := run Try.prog gam0 [] (resh Try.prog [] Try.f24.results.toList R) fuel [.code (cAt (bodyOf Try.f24) [1, 1, 0, 1, 0, 0]), .inLoop (cAt (bodyOf Try.f24) [1, 1, 0, 1, 0, 0]), .inBlock 0, .code (cAt (bodyOf Try.f24) [1, 1, 1])] [(AV.one (AC.int IntKind.u8 s)), AV.undef, (AV.one (AC.ptr 2 0 0)), (AV.one (AC.ptr 3 0 0)), (AV.one (AC.int IntKind.i64 x0)), AV.undef, AV.undef, AV.undef, AV.undef, AV.undef, AV.undef, AV.undef, AV.undef, AV.undef, AV.undef, (AV.tup [])] [(2, Blk.own 22 [(Seg.ints IntKind.u8 16 (lzeros 16))]), (3, Blk.own 22 [(Seg.ints IntKind.u8 16 x1)])]

theorem lcount.l0_succ (R : AV → Mem → Prop) (s : Int) (fuel : Nat) (x0 : Int) (x1 : List Int) : lcount.l0 R s (fuel + 1) x0 x1 = (((((ilt x0 16) = true) → ((InB x0 16) ∧ ((Low (nadd 0 (nat x0)) 16) ∧ (lcount.l0 R s fuel (add IntKind.i64 x0 1) (lset x1 (nadd 0 (nat x0)) (mul IntKind.u8 (conv IntKind.u8 x0) s)))))) ∧ (((ilt x0 16) = false) → (R (AV.agg [(Seg.ints IntKind.u8 16 x1)]) [(2, Blk.own 22 [(Seg.ints IntKind.u8 16 x1)]), (3, Blk.own 22 [(Seg.ints IntKind.u8 16 x1)])])))) := by kernel_rfl
theorem lcount.l0_zero (R : AV → Mem → Prop) (s : Int) (x0 : Int) (x1 : List Int) : lcount.l0 R s 0 x0 x1 = False := by kernel_rfl

theorem lcount_vc (R : AV → Mem → Prop) (fuel : Nat) (s : Int) : callsx Try.prog gam0 [] Try.f24 (fuel + 1) [.one (.int .u8 s)] [] R = ((lcount.l0 R s fuel 0 (lzeros 16))) := by kernel_rfl

def lup.l0 (R : AV → Mem → Prop)  (fuel : Nat) (x0 : Int) (x1 : Int) (x2 : List Int) : Prop := run Try.prog gam0 [] (resh Try.prog [] Try.f23.results.toList R) fuel [.code (cAt (bodyOf Try.f23) [1, 0, 1, 0, 0]), .inLoop (cAt (bodyOf Try.f23) [1, 0, 1, 0, 0]), .inBlock 0, .code (cAt (bodyOf Try.f23) [1, 1])] [AV.undef, (AV.one (AC.int IntKind.i64 x0)), (AV.one (AC.ptr 2 0 0)), AV.undef, (AV.one (AC.ptr 4 0 0)), (AV.one (AC.int IntKind.i64 x1)), AV.undef, AV.undef, AV.undef, AV.undef, AV.undef, AV.undef, AV.undef, AV.undef, AV.undef, AV.undef, AV.undef, AV.undef, AV.undef, AV.undef, AV.undef, AV.undef, AV.undef, (AV.tup [])] [(2, Blk.own 22 [(Seg.ints IntKind.u8 16 x2)]), (4, Blk.own 22 [(Seg.ints IntKind.u8 16 (lzeros 16))])]

theorem lup.l0_succ (R : AV → Mem → Prop)  (fuel : Nat) (x0 : Int) (x1 : Int) (x2 : List Int) : lup.l0 R  (fuel + 1) x0 x1 x2 = (((((ige x1 0) = true) → ((InB x1 16) ∧ ((Low (nadd 0 (nat x1)) 16) ∧ ((InB x1 16) ∧ ((Low (nadd 0 (nat x1)) 16) ∧ (let y3 : Int := (conv IntKind.u8 (band IntKind.i64 (add IntKind.i64 x0 (conv IntKind.i64 (lget x2 (nadd 0 (nat x1))))) 255)); (let y4 : List Int := (lset x2 (nadd 0 (nat x1)) (conv IntKind.u8 (band IntKind.i64 (add IntKind.i64 x0 (conv IntKind.i64 (lget x2 (nadd 0 (nat x1))))) 255))); ((NonNeg 8) ∧ (lup.l0 R  fuel (shr IntKind.i64 (add IntKind.i64 x0 (conv IntKind.i64 (lget x2 (nadd 0 (nat x1))))) 8) (sub IntKind.i64 x1 1) y4))))))))) ∧ (((ige x1 0) = false) → (R (AV.agg [(Seg.ints IntKind.u8 16 x2)]) [(2, Blk.own 22 [(Seg.ints IntKind.u8 16 x2)]), (4, Blk.own 22 [(Seg.ints IntKind.u8 16 x2)])])))) := by kernel_rfl
theorem lup.l0_zero (R : AV → Mem → Prop)  (x0 : Int) (x1 : Int) (x2 : List Int) : lup.l0 R  0 x0 x1 x2 = False := by kernel_rfl

theorem lup_vc (R : AV → Mem → Prop) (fuel : Nat) (b : List Int) (n : Int) : callsx Try.prog gam0 [] Try.f23 (fuel + 1) [.agg [.ints .u8 16 b], .one (.int .i64 n)] [] R = ((lup.l0 R  fuel n 15 b)) := by kernel_rfl

def lalive.k0 (R : AV → Mem → Prop)  (fuel : Nat) : Prop := runM Try.prog gamB8 [] (resh Try.prog [] Try.f9.results.toList R) (run Try.prog gamB8 [] (resh Try.prog [] Try.f9.results.toList R) fuel) 3994 [.code (cAt (bodyOf Try.f9) [1, 1, 1])] [(AV.one (AC.lit false)), (AV.one (AC.ptr 1 0 0)), (AV.one (AC.ptr 2 0 0)), (AV.agg [(Seg.ints IntKind.u8 16 (Go.Blk.cnt 1))]), (AV.agg [(Seg.ints IntKind.u8 176 (Go.Blk.ks (Go.Blk.cnt 1)))]), (AV.agg [(Seg.ints IntKind.u8 176 (Go.Blk.ks (Go.Blk.cnt 1)))]), (AV.agg [(Seg.ints IntKind.u8 16 (Go.Blk.cnt 17))]), (AV.agg [(Seg.ints IntKind.u8 16 (Go.Blk.enc (Go.Blk.ks (Go.Blk.cnt 1)) (Go.Blk.cnt 17)))]), (AV.tup []), (AV.tup []), (AV.tup []), (AV.tup []), (AV.tup []), (AV.tup []), (AV.tup []), (AV.tup []), (AV.tup []), (AV.tup []), (AV.tup []), (AV.tup []), (AV.tup []), (AV.tup []), (AV.tup [])] [(1, Blk.own 28 [(Seg.ints IntKind.u8 176 (Go.Blk.ks (Go.Blk.cnt 1)))]), (2, Blk.own 22 [(Seg.ints IntKind.u8 16 (Go.Blk.enc (Go.Blk.ks (Go.Blk.cnt 1)) (Go.Blk.cnt 17)))])]

theorem lalive.k0_eq (R : AV → Mem → Prop)  (fuel : Nat) : lalive.k0 R  fuel = (((InB 0 16) ∧ ((Low 0 16) ∧ ((((ieq (lget (Go.Blk.enc (Go.Blk.ks (Go.Blk.cnt 1)) (Go.Blk.cnt 17)) 0) 105) = true) → ((InB 15 16) ∧ ((Low 15 16) ∧ ((((ieq (lget (Go.Blk.enc (Go.Blk.ks (Go.Blk.cnt 1)) (Go.Blk.cnt 17)) 15) 90) = true) → (((Go.Blk.BL 176 (Go.Blk.ks (Go.Blk.cnt 1))) ∧ (Go.Blk.BL 16 (Go.Blk.enc (Go.Blk.ks (Go.Blk.cnt 1)) (Go.Blk.cnt 17)))) ∧ ((Byte 17) ∧ (R (AV.one (AC.bool (leq (Go.Blk.dec (Go.Blk.ks (Go.Blk.cnt 1)) (Go.Blk.enc (Go.Blk.ks (Go.Blk.cnt 1)) (Go.Blk.cnt 17))) (Go.Blk.cnt 17)))) [(1, Blk.own 28 [(Seg.ints IntKind.u8 176 (Go.Blk.ks (Go.Blk.cnt 1)))]), (2, Blk.own 22 [(Seg.ints IntKind.u8 16 (Go.Blk.enc (Go.Blk.ks (Go.Blk.cnt 1)) (Go.Blk.cnt 17)))])])))) ∧ (((ieq (lget (Go.Blk.enc (Go.Blk.ks (Go.Blk.cnt 1)) (Go.Blk.cnt 17)) 15) 90) = false) → (R (AV.one (AC.lit false)) [(1, Blk.own 28 [(Seg.ints IntKind.u8 176 (Go.Blk.ks (Go.Blk.cnt 1)))]), (2, Blk.own 22 [(Seg.ints IntKind.u8 16 (Go.Blk.enc (Go.Blk.ks (Go.Blk.cnt 1)) (Go.Blk.cnt 17)))])])))))) ∧ (((ieq (lget (Go.Blk.enc (Go.Blk.ks (Go.Blk.cnt 1)) (Go.Blk.cnt 17)) 0) 105) = false) → (R (AV.one (AC.lit false)) [(1, Blk.own 28 [(Seg.ints IntKind.u8 176 (Go.Blk.ks (Go.Blk.cnt 1)))]), (2, Blk.own 22 [(Seg.ints IntKind.u8 16 (Go.Blk.enc (Go.Blk.ks (Go.Blk.cnt 1)) (Go.Blk.cnt 17)))])])))))) := by kernel_rfl

theorem lalive_vc (R : AV → Mem → Prop) (fuel : Nat)  : callsx Try.prog gamB8 [] Try.f9 (fuel + 1) [] [] R = (((Byte 1) ∧ ((Go.Blk.BL 16 (Go.Blk.cnt 1)) ∧ (((Byte 17) ∧ ((((Go.Blk.BL 176 (Go.Blk.ks (Go.Blk.cnt 1))) ∧ (Go.Blk.BL 16 (Go.Blk.cnt 17))) ∧ (lalive.k0 R  fuel)) ∧ (((Go.Blk.BL 176 (Go.Blk.ks (Go.Blk.cnt 1))) ∧ (Go.Blk.BL 16 (Go.Blk.cnt 17))) ∧ (lalive.k0 R  fuel)))) ∧ ((Byte 17) ∧ (((Go.Blk.BL 176 (Go.Blk.ks (Go.Blk.cnt 1))) ∧ (Go.Blk.BL 16 (Go.Blk.cnt 17))) ∧ (lalive.k0 R  fuel))))))) := by kernel_rfl

def lcrypts.l0 (R : AV → Mem → Prop) (k : List Int) (ll : List (List Int)) (fuel : Nat) (x0 : Int) : Prop := run Try.prog gamB9 [] (resh Try.prog [] Try.f3.results.toList R) fuel [.code (cAt (bodyOf Try.f3) [1, 1, 1, 1, 0, 1, 0, 0]), .inLoop (cAt (bodyOf Try.f3) [1, 1, 1, 1, 0, 1, 0, 0]), .inBlock 0, .code (cAt (bodyOf Try.f3) [1, 1, 1, 1, 1])] [AV.undef, (AV.one (AC.vec 200001)), (AV.one (AC.ptr 2 0 0)), AV.undef, AV.undef, (AV.one (AC.ptr 5 0 0)), (AV.one (AC.ptr 6 0 0)), (AV.one (AC.int IntKind.i64 x0)), AV.undef, AV.undef, AV.undef, AV.undef, AV.undef, AV.undef, AV.undef, AV.undef, AV.undef, AV.undef, AV.undef, AV.undef, AV.undef, AV.undef, AV.undef, AV.undef, AV.undef, AV.undef, AV.undef, AV.undef, AV.undef, AV.undef, AV.undef, AV.undef, AV.undef, AV.undef, AV.undef, AV.undef, AV.undef, AV.undef, AV.undef, AV.undef, AV.undef, AV.undef, AV.undef, AV.undef, AV.undef, AV.undef, AV.undef, AV.undef, AV.undef, AV.undef, AV.undef, AV.undef, AV.undef, AV.undef, AV.undef, AV.undef, AV.undef] [(2, Blk.own 22 [(Seg.ints IntKind.u8 16 k)]), (5, Blk.own 28 [(Seg.ints IntKind.u8 176 (Go.Blk.ks k))]), (6, Blk.own 28 [(Seg.ints IntKind.u8 176 (lzeros 176))]), (200001, Blk.rview [(Col.arrs IntKind.u8 16 ll)])]

theorem lcrypts.l0_succ (R : AV → Mem → Prop) (k : List Int) (ll : List (List Int)) (fuel : Nat) (x0 : Int) : lcrypts.l0 R k ll (fuel + 1) x0 = (((((ilt x0 (ofNat (llen ll))) = true) → ((InB x0 (llen ll)) ∧ (((Go.Blk.BL 176 (Go.Blk.ks k)) ∧ (Go.Blk.BL 16 (llget ll (nat x0)))) ∧ (((Go.Blk.BL 16 k) ∧ (Go.Blk.BL 16 (llget ll (nat x0)))) ∧ ((((bnot (leq (Go.Blk.enc (Go.Blk.ks k) (llget ll (nat x0))) (Go.Blk.enc (Go.Blk.ks k) (llget ll (nat x0))))) = false) → (((Go.Blk.BL 176 (Go.Blk.ks k)) ∧ (Go.Blk.BL 16 (llget ll (nat x0)))) ∧ (((Go.Blk.BL 16 k) ∧ (Go.Blk.BL 16 (llget ll (nat x0)))) ∧ ((((bnot (leq (Go.Blk.dec (Go.Blk.ks k) (llget ll (nat x0))) (Go.Blk.dec (Go.Blk.ks k) (llget ll (nat x0))))) = false) → (((Go.Blk.BL 176 (lzeros 176)) ∧ (Go.Blk.BL 16 (llget ll (nat x0)))) ∧ (((Go.Blk.BL 176 (lzeros 176)) ∧ (Go.Blk.BL 16 (llget ll (nat x0)))) ∧ ((((bnot (leq (Go.Blk.enc (lzeros 176) (llget ll (nat x0))) (Go.Blk.enc (lzeros 176) (llget ll (nat x0))))) = false) → (((Go.Blk.BL 176 (lzeros 176)) ∧ (Go.Blk.BL 16 (llget ll (nat x0)))) ∧ (((Go.Blk.BL 176 (lzeros 176)) ∧ (Go.Blk.BL 16 (Go.Blk.enc (lzeros 176) (llget ll (nat x0))))) ∧ (let y1 : Bool := (bnot (leq (Go.Blk.enc (lzeros 176) (llget ll (nat x0))) (Go.Blk.enc (lzeros 176) (llget ll (nat x0))))); (let y2 : Bool := (bnot (leq (Go.Blk.dec (lzeros 176) (Go.Blk.enc (lzeros 176) (llget ll (nat x0)))) (llget ll (nat x0)))); (((y2 = true) → (R (AV.one (AC.lit false)) [(2, Blk.own 22 [(Seg.ints IntKind.u8 16 k)]), (5, Blk.own 28 [(Seg.ints IntKind.u8 176 (Go.Blk.ks k))]), (6, Blk.own 28 [(Seg.ints IntKind.u8 176 (lzeros 176))]), (8, Blk.own 22 [(Seg.ints IntKind.u8 16 (llget ll (nat x0)))]), (200001, Blk.rview [(Col.arrs IntKind.u8 16 ll)])])) ∧ ((y2 = false) → (lcrypts.l0 R k ll fuel (add IntKind.i64 x0 1))))))))) ∧ (((bnot (leq (Go.Blk.enc (lzeros 176) (llget ll (nat x0))) (Go.Blk.enc (lzeros 176) (llget ll (nat x0))))) = true) → (let y3 : Bool := (bnot (leq (Go.Blk.enc (lzeros 176) (llget ll (nat x0))) (Go.Blk.enc (lzeros 176) (llget ll (nat x0))))); (R (AV.one (AC.lit false)) [(2, Blk.own 22 [(Seg.ints IntKind.u8 16 k)]), (5, Blk.own 28 [(Seg.ints IntKind.u8 176 (Go.Blk.ks k))]), (6, Blk.own 28 [(Seg.ints IntKind.u8 176 (lzeros 176))]), (8, Blk.own 22 [(Seg.ints IntKind.u8 16 (llget ll (nat x0)))]), (200001, Blk.rview [(Col.arrs IntKind.u8 16 ll)])]))))))) ∧ (((bnot (leq (Go.Blk.dec (Go.Blk.ks k) (llget ll (nat x0))) (Go.Blk.dec (Go.Blk.ks k) (llget ll (nat x0))))) = true) → (R (AV.one (AC.lit false)) [(2, Blk.own 22 [(Seg.ints IntKind.u8 16 k)]), (5, Blk.own 28 [(Seg.ints IntKind.u8 176 (Go.Blk.ks k))]), (6, Blk.own 28 [(Seg.ints IntKind.u8 176 (lzeros 176))]), (8, Blk.own 22 [(Seg.ints IntKind.u8 16 (llget ll (nat x0)))]), (200001, Blk.rview [(Col.arrs IntKind.u8 16 ll)])])))))) ∧ (((bnot (leq (Go.Blk.enc (Go.Blk.ks k) (llget ll (nat x0))) (Go.Blk.enc (Go.Blk.ks k) (llget ll (nat x0))))) = true) → (R (AV.one (AC.lit false)) [(2, Blk.own 22 [(Seg.ints IntKind.u8 16 k)]), (5, Blk.own 28 [(Seg.ints IntKind.u8 176 (Go.Blk.ks k))]), (6, Blk.own 28 [(Seg.ints IntKind.u8 176 (lzeros 176))]), (8, Blk.own 22 [(Seg.ints IntKind.u8 16 (llget ll (nat x0)))]), (200001, Blk.rview [(Col.arrs IntKind.u8 16 ll)])]))))))) ∧ (((ilt x0 (ofNat (llen ll))) = false) → (R (AV.one (AC.lit true)) [(2, Blk.own 22 [(Seg.ints IntKind.u8 16 k)]), (5, Blk.own 28 [(Seg.ints IntKind.u8 176 (Go.Blk.ks k))]), (6, Blk.own 28 [(Seg.ints IntKind.u8 176 (lzeros 176))]), (200001, Blk.rview [(Col.arrs IntKind.u8 16 ll)])])))) := by kernel_rfl
theorem lcrypts.l0_zero (R : AV → Mem → Prop) (k : List Int) (ll : List (List Int)) (x0 : Int) : lcrypts.l0 R k ll 0 x0 = False := by kernel_rfl

theorem lcrypts_vc (R : AV → Mem → Prop) (fuel : Nat) (k : List Int) (ll : List (List Int)) : callsx Try.prog gamB9 [] Try.f3 (fuel + 1) [.agg [.ints .u8 16 k], .one (.vec 200001)] [(200001, .rview [.arrs .u8 16 ll])] R = (((Go.Blk.BL 16 k) ∧ (lcrypts.l0 R k ll fuel 0))) := by kernel_rfl

def lrounds.l0 (R : AV → Mem → Prop) (i : Int) (k : List Int) (fuel : Nat) (x0 : Int) : Prop := run Try.prog gamB9 [] (resh Try.prog [] Try.f4.results.toList R) fuel [.code (cAt (bodyOf Try.f4) [1, 1, 1, 1, 0, 1, 0, 0]), .inLoop (cAt (bodyOf Try.f4) [1, 1, 1, 1, 0, 1, 0, 0]), .inBlock 0, .code (cAt (bodyOf Try.f4) [1, 1, 1, 1, 1])] [AV.undef, (AV.one (AC.int IntKind.i64 i)), (AV.one (AC.ptr 2 0 0)), AV.undef, AV.undef, (AV.one (AC.ptr 5 0 0)), (AV.one (AC.ptr 6 0 0)), (AV.one (AC.ptr 7 0 0)), (AV.one (AC.int IntKind.i64 x0)), AV.undef, AV.undef, AV.undef, AV.undef, AV.undef, AV.undef, AV.undef, AV.undef, AV.undef, AV.undef, AV.undef, AV.undef, AV.undef, AV.undef, AV.undef, AV.undef, AV.undef, AV.undef, (AV.tup []), (AV.tup []), (AV.tup []), (AV.tup []), (AV.tup []), (AV.tup []), (AV.tup []), (AV.tup []), (AV.tup []), (AV.tup []), (AV.tup []), (AV.tup []), (AV.tup []), (AV.tup []), (AV.tup []), (AV.tup []), (AV.tup [])] [(2, Blk.own 22 [(Seg.ints IntKind.u8 16 k)]), (5, Blk.own 28 [(Seg.ints IntKind.u8 176 (Go.Blk.ks k))]), (6, Blk.own 28 [(Seg.ints IntKind.u8 176 (Go.Blk.ks k))]), (7, Blk.own 28 [(Seg.ints IntKind.u8 176 (Go.Blk.ks k))])]

theorem lrounds.l0_succ (R : AV → Mem → Prop) (i : Int) (k : List Int) (fuel : Nat) (x0 : Int) : lrounds.l0 R i k (fuel + 1) x0 = (((((ile x0 11) = true) → ((Go.Blk.BL 176 (Go.Blk.ks k)) ∧ ((Go.Blk.BL 16 k) ∧ ((((bnot (leq (Go.Blk.rkI (Go.Blk.ks k) x0) (Go.Blk.rkI (Go.Blk.ks k) x0))) = true) → (R (AV.one (AC.lit false)) [(2, Blk.own 22 [(Seg.ints IntKind.u8 16 k)]), (5, Blk.own 28 [(Seg.ints IntKind.u8 176 (Go.Blk.ks k))]), (6, Blk.own 28 [(Seg.ints IntKind.u8 176 (Go.Blk.ks k))]), (7, Blk.own 28 [(Seg.ints IntKind.u8 176 (Go.Blk.ks k))])])) ∧ (((bnot (leq (Go.Blk.rkI (Go.Blk.ks k) x0) (Go.Blk.rkI (Go.Blk.ks k) x0))) = false) → (lrounds.l0 R i k fuel (add IntKind.i64 x0 1))))))) ∧ (((ile x0 11) = false) → ((Go.Blk.BL 176 (Go.Blk.ks k)) ∧ ((Go.Blk.BL 16 k) ∧ ((((leq (Go.Blk.rkI (Go.Blk.ks k) i) (Go.Blk.rkI (Go.Blk.ks k) i)) = true) → ((((band2 (leq (Go.Blk.ks k) (Go.Blk.ks k)) true) = true) → (R (AV.one (AC.bool (band2 (leq (Go.Blk.ks k) (Go.Blk.ks k)) true))) [(2, Blk.own 22 [(Seg.ints IntKind.u8 16 k)]), (5, Blk.own 28 [(Seg.ints IntKind.u8 176 (Go.Blk.ks k))]), (6, Blk.own 28 [(Seg.ints IntKind.u8 176 (Go.Blk.ks k))]), (7, Blk.own 28 [(Seg.ints IntKind.u8 176 (Go.Blk.ks k))])])) ∧ (((band2 (leq (Go.Blk.ks k) (Go.Blk.ks k)) true) = false) → (R (AV.one (AC.lit false)) [(2, Blk.own 22 [(Seg.ints IntKind.u8 16 k)]), (5, Blk.own 28 [(Seg.ints IntKind.u8 176 (Go.Blk.ks k))]), (6, Blk.own 28 [(Seg.ints IntKind.u8 176 (Go.Blk.ks k))]), (7, Blk.own 28 [(Seg.ints IntKind.u8 176 (Go.Blk.ks k))])])))) ∧ (((leq (Go.Blk.rkI (Go.Blk.ks k) i) (Go.Blk.rkI (Go.Blk.ks k) i)) = false) → (R (AV.one (AC.lit false)) [(2, Blk.own 22 [(Seg.ints IntKind.u8 16 k)]), (5, Blk.own 28 [(Seg.ints IntKind.u8 176 (Go.Blk.ks k))]), (6, Blk.own 28 [(Seg.ints IntKind.u8 176 (Go.Blk.ks k))]), (7, Blk.own 28 [(Seg.ints IntKind.u8 176 (Go.Blk.ks k))])])))))))) := by kernel_rfl
theorem lrounds.l0_zero (R : AV → Mem → Prop) (i : Int) (k : List Int) (x0 : Int) : lrounds.l0 R i k 0 x0 = False := by kernel_rfl

theorem lrounds_vc (R : AV → Mem → Prop) (fuel : Nat) (k : List Int) (i : Int) : callsx Try.prog gamB9 [] Try.f4 (fuel + 1) [.agg [.ints .u8 16 k], .one (.int .i64 i)] [] R = ((((Go.Blk.BL 16 k) ∧ (((Go.Blk.BL 16 k) ∧ ((lrounds.l0 R i k fuel (-1 : Int)) ∧ (lrounds.l0 R i k fuel (-1 : Int)))) ∧ ((((Go.Blk.BL 16 k) ∧ (lrounds.l0 R i k fuel (-1 : Int))) ∧ ((Go.Blk.BL 16 k) ∧ (lrounds.l0 R i k fuel (-1 : Int)))) ∧ (((Go.Blk.BL 16 k) ∧ (lrounds.l0 R i k fuel (-1 : Int))) ∧ ((Go.Blk.BL 16 k) ∧ (lrounds.l0 R i k fuel (-1 : Int))))))) ∧ ((((Go.Blk.BL 16 k) ∧ (((Go.Blk.BL 16 k) ∧ (lrounds.l0 R i k fuel (-1 : Int))) ∧ ((Go.Blk.BL 16 k) ∧ (lrounds.l0 R i k fuel (-1 : Int))))) ∧ ((Go.Blk.BL 16 k) ∧ ((Go.Blk.BL 16 k) ∧ (lrounds.l0 R i k fuel (-1 : Int))))) ∧ (((Go.Blk.BL 16 k) ∧ (((Go.Blk.BL 16 k) ∧ (lrounds.l0 R i k fuel (-1 : Int))) ∧ ((Go.Blk.BL 16 k) ∧ (lrounds.l0 R i k fuel (-1 : Int))))) ∧ ((Go.Blk.BL 16 k) ∧ ((Go.Blk.BL 16 k) ∧ (lrounds.l0 R i k fuel (-1 : Int)))))))) := by kernel_rfl

def lback.k0 (R : AV → Mem → Prop) (k : List Int) (b : List Int) (p : List Int) (fuel : Nat) : Prop := runM Try.prog gamB9 [] (resh Try.prog [] Try.f5.results.toList R) (run Try.prog gamB9 [] (resh Try.prog [] Try.f5.results.toList R) fuel) 3989 [.code (cAt (bodyOf Try.f5) [1, 0, 1, 0, 1])] [(AV.agg [(Seg.ints IntKind.u8 16 k)]), (AV.agg [(Seg.ints IntKind.u8 16 b)]), (AV.one (AC.vec 200002)), (AV.one (AC.ptr 3 0 0)), (AV.one (AC.ptr 4 0 0)), (AV.tup []), (AV.one (AC.bool (seq2 (bytesOf (Go.Blk.mask (Go.Blk.ks k) b (Go.Blk.mask (Go.Blk.ks k) b p))) (bytesOf p)))), (AV.one (AC.ptr 7 0 0)), (AV.one (AC.lit true)), (AV.one (AC.lit false)), (AV.agg [(Seg.ints IntKind.u8 16 k)]), (AV.agg [(Seg.ints IntKind.u8 176 (Go.Blk.ks k))]), (AV.agg [(Seg.ints IntKind.u8 176 (Go.Blk.ks k))]), (AV.agg [(Seg.ints IntKind.u8 176 (Go.Blk.ks k))]), (AV.agg [(Seg.ints IntKind.u8 16 b)]), (AV.agg [(Seg.ints IntKind.u8 16 (Go.Blk.enc (Go.Blk.ks k) b))]), (AV.agg [(Seg.ints IntKind.u8 16 (Go.Blk.dec (Go.Blk.ks k) (Go.Blk.enc (Go.Blk.ks k) b)))]), (AV.agg [(Seg.ints IntKind.u8 16 b)]), (AV.one (AC.bool (leq (Go.Blk.dec (Go.Blk.ks k) (Go.Blk.enc (Go.Blk.ks k) b)) b))), (AV.one (AC.lit true)), (AV.agg [(Seg.ints IntKind.u8 176 (Go.Blk.ks k))]), (AV.agg [(Seg.ints IntKind.u8 176 (Go.Blk.ks k))]), (AV.agg [(Seg.ints IntKind.u8 16 b)]), (AV.agg [(Seg.ints IntKind.u8 16 (Go.Blk.dec (Go.Blk.ks k) b))]), (AV.agg [(Seg.ints IntKind.u8 16 (Go.Blk.enc (Go.Blk.ks k) (Go.Blk.dec (Go.Blk.ks k) b)))]), (AV.agg [(Seg.ints IntKind.u8 16 b)]), (AV.one (AC.bool (leq (Go.Blk.enc (Go.Blk.ks k) (Go.Blk.dec (Go.Blk.ks k) b)) b))), (AV.one (AC.bool (leq (Go.Blk.enc (Go.Blk.ks k) (Go.Blk.dec (Go.Blk.ks k) b)) b))), (AV.one (AC.lit true)), (AV.agg [(Seg.ints IntKind.u8 16 k)]), (AV.agg [(Seg.ints IntKind.u8 16 b)]), (AV.agg [(Seg.ints IntKind.u8 16 k)]), (AV.agg [(Seg.ints IntKind.u8 16 b)]), (AV.one (AC.vec 200002)), (AV.one (AC.vec 34)), (AV.one (AC.vec 35)), (AV.one (AC.str (bytesOf (Go.Blk.mask (Go.Blk.ks k) b (Go.Blk.mask (Go.Blk.ks k) b p))))), (AV.one (AC.vec 200002)), (AV.one (AC.str (bytesOf p))), (AV.one (AC.bool (seq2 (bytesOf (Go.Blk.mask (Go.Blk.ks k) b (Go.Blk.mask (Go.Blk.ks k) b p))) (bytesOf p)))), (AV.one (AC.bool (seq2 (bytesOf (Go.Blk.mask (Go.Blk.ks k) b (Go.Blk.mask (Go.Blk.ks k) b p))) (bytesOf p))))] [(3, Blk.own 22 [(Seg.ints IntKind.u8 16 k)]), (4, Blk.own 22 [(Seg.ints IntKind.u8 16 b)]), (7, Blk.own 28 [(Seg.ints IntKind.u8 176 (Go.Blk.ks k))]), (34, Blk.vec [(Col.ints IntKind.u8 (Go.Blk.mask (Go.Blk.ks k) b p))]), (35, Blk.vec [(Col.ints IntKind.u8 (Go.Blk.mask (Go.Blk.ks k) b (Go.Blk.mask (Go.Blk.ks k) b p)))]), (200002, Blk.rview [(Col.ints IntKind.u8 p)])]

theorem lback.k0_eq (R : AV → Mem → Prop) (k : List Int) (b : List Int) (p : List Int) (fuel : Nat) : lback.k0 R k b p fuel = ((R (AV.one (AC.bool (seq2 (bytesOf (Go.Blk.mask (Go.Blk.ks k) b (Go.Blk.mask (Go.Blk.ks k) b p))) (bytesOf p)))) [(3, Blk.own 22 [(Seg.ints IntKind.u8 16 k)]), (4, Blk.own 22 [(Seg.ints IntKind.u8 16 b)]), (7, Blk.own 28 [(Seg.ints IntKind.u8 176 (Go.Blk.ks k))]), (34, Blk.vec [(Col.ints IntKind.u8 (Go.Blk.mask (Go.Blk.ks k) b p))]), (35, Blk.vec [(Col.ints IntKind.u8 (Go.Blk.mask (Go.Blk.ks k) b (Go.Blk.mask (Go.Blk.ks k) b p)))]), (200002, Blk.rview [(Col.ints IntKind.u8 p)])])) := by kernel_rfl

theorem lback_vc (R : AV → Mem → Prop) (fuel : Nat) (k : List Int) (b : List Int) (p : List Int) : callsx Try.prog gamB9 [] Try.f5 (fuel + 1) [.agg [.ints .u8 16 k], .agg [.ints .u8 16 b], .one (.vec 200002)] [(200002, .rview [.ints .u8 p])] R = (((Go.Blk.BL 16 k) ∧ (((Go.Blk.BL 176 (Go.Blk.ks k)) ∧ (Go.Blk.BL 16 b)) ∧ (((Go.Blk.BL 176 (Go.Blk.ks k)) ∧ (Go.Blk.BL 16 (Go.Blk.enc (Go.Blk.ks k) b))) ∧ ((((leq (Go.Blk.dec (Go.Blk.ks k) (Go.Blk.enc (Go.Blk.ks k) b)) b) = true) → (((Go.Blk.BL 176 (Go.Blk.ks k)) ∧ (Go.Blk.BL 16 b)) ∧ (((Go.Blk.BL 176 (Go.Blk.ks k)) ∧ (Go.Blk.BL 16 (Go.Blk.dec (Go.Blk.ks k) b))) ∧ ((((leq (Go.Blk.enc (Go.Blk.ks k) (Go.Blk.dec (Go.Blk.ks k) b)) b) = true) → (((((Go.Blk.BL 16 k) ∧ (Go.Blk.BL 16 b)) ∧ ((Short p) ∧ (Bs p))) ∧ (((((Go.Blk.BL 16 k) ∧ (Go.Blk.BL 16 b)) ∧ ((Short (Go.Blk.mask (Go.Blk.ks k) b p)) ∧ (Bs (Go.Blk.mask (Go.Blk.ks k) b p)))) ∧ ((lback.k0 R k b p fuel) ∧ (lback.k0 R k b p fuel))) ∧ ((((Go.Blk.BL 16 k) ∧ (Go.Blk.BL 16 b)) ∧ ((Short (Go.Blk.mask (Go.Blk.ks k) b p)) ∧ (Bs (Go.Blk.mask (Go.Blk.ks k) b p)))) ∧ (lback.k0 R k b p fuel)))) ∧ ((((Go.Blk.BL 16 k) ∧ (Go.Blk.BL 16 b)) ∧ ((Short p) ∧ (Bs p))) ∧ ((((Go.Blk.BL 16 k) ∧ (Go.Blk.BL 16 b)) ∧ ((Short (Go.Blk.mask (Go.Blk.ks k) b p)) ∧ (Bs (Go.Blk.mask (Go.Blk.ks k) b p)))) ∧ (lback.k0 R k b p fuel))))) ∧ (((leq (Go.Blk.enc (Go.Blk.ks k) (Go.Blk.dec (Go.Blk.ks k) b)) b) = false) → ((((R (AV.one (AC.lit false)) [(3, Blk.own 22 [(Seg.ints IntKind.u8 16 k)]), (4, Blk.own 22 [(Seg.ints IntKind.u8 16 b)]), (7, Blk.own 28 [(Seg.ints IntKind.u8 176 (Go.Blk.ks k))]), (200002, Blk.rview [(Col.ints IntKind.u8 p)])]) ∧ (R (AV.one (AC.lit false)) [(3, Blk.own 22 [(Seg.ints IntKind.u8 16 k)]), (4, Blk.own 22 [(Seg.ints IntKind.u8 16 b)]), (7, Blk.own 28 [(Seg.ints IntKind.u8 176 (Go.Blk.ks k))]), (200002, Blk.rview [(Col.ints IntKind.u8 p)])])) ∧ (R (AV.one (AC.lit false)) [(3, Blk.own 22 [(Seg.ints IntKind.u8 16 k)]), (4, Blk.own 22 [(Seg.ints IntKind.u8 16 b)]), (7, Blk.own 28 [(Seg.ints IntKind.u8 176 (Go.Blk.ks k))]), (200002, Blk.rview [(Col.ints IntKind.u8 p)])])) ∧ (R (AV.one (AC.lit false)) [(3, Blk.own 22 [(Seg.ints IntKind.u8 16 k)]), (4, Blk.own 22 [(Seg.ints IntKind.u8 16 b)]), (7, Blk.own 28 [(Seg.ints IntKind.u8 176 (Go.Blk.ks k))]), (200002, Blk.rview [(Col.ints IntKind.u8 p)])]))))))) ∧ (((leq (Go.Blk.dec (Go.Blk.ks k) (Go.Blk.enc (Go.Blk.ks k) b)) b) = false) → ((((R (AV.one (AC.lit false)) [(3, Blk.own 22 [(Seg.ints IntKind.u8 16 k)]), (4, Blk.own 22 [(Seg.ints IntKind.u8 16 b)]), (7, Blk.own 28 [(Seg.ints IntKind.u8 176 (Go.Blk.ks k))]), (200002, Blk.rview [(Col.ints IntKind.u8 p)])]) ∧ (R (AV.one (AC.lit false)) [(3, Blk.own 22 [(Seg.ints IntKind.u8 16 k)]), (4, Blk.own 22 [(Seg.ints IntKind.u8 16 b)]), (7, Blk.own 28 [(Seg.ints IntKind.u8 176 (Go.Blk.ks k))]), (200002, Blk.rview [(Col.ints IntKind.u8 p)])])) ∧ (R (AV.one (AC.lit false)) [(3, Blk.own 22 [(Seg.ints IntKind.u8 16 k)]), (4, Blk.own 22 [(Seg.ints IntKind.u8 16 b)]), (7, Blk.own 28 [(Seg.ints IntKind.u8 176 (Go.Blk.ks k))]), (200002, Blk.rview [(Col.ints IntKind.u8 p)])])) ∧ (R (AV.one (AC.lit false)) [(3, Blk.own 22 [(Seg.ints IntKind.u8 16 k)]), (4, Blk.own 22 [(Seg.ints IntKind.u8 16 b)]), (7, Blk.own 28 [(Seg.ints IntKind.u8 176 (Go.Blk.ks k))]), (200002, Blk.rview [(Col.ints IntKind.u8 p)])])))))))) := by kernel_rfl









































end Go.Proofs.Ytkecbjohbihfmaa.G

/- Bits of signed words that are not below nought. -/
namespace Go.Sx
open Go
set_option linter.unusedSimpArgs false

theorem bxor_i64 {a b : Nat} (ha : a < 9223372036854775808) (hb : b < 9223372036854775808) : bxor .i64 (a : Int) (b : Int) = ((a ^^^ b : Nat) : Int) := by
  have hx : a ^^^ b < 2 ^ 63 := Nat.xor_lt_two_pow (by omega) (by omega)
  show IntKind.i64.wrap ((BitVec.ofInt 64 (a : Int) ^^^ BitVec.ofInt 64 (b : Int)).toNat : Int) = _
  rw [BitVec.toNat_xor, ofInt_u64 a (by omega), ofInt_u64 b (by omega), IntKind.wrap_i64]
  omega
theorem bor_i64 {a b : Nat} (ha : a < 9223372036854775808) (hb : b < 9223372036854775808) : bor .i64 (a : Int) (b : Int) = ((a ||| b : Nat) : Int) := by
  have hx : a ||| b < 2 ^ 63 := Nat.or_lt_two_pow (by omega) (by omega)
  show IntKind.i64.wrap ((BitVec.ofInt 64 (a : Int) ||| BitVec.ofInt 64 (b : Int)).toNat : Int) = _
  rw [BitVec.toNat_or, ofInt_u64 a (by omega), ofInt_u64 b (by omega), IntKind.wrap_i64]
  omega
theorem band_i64 {a b : Nat} (ha : a < 9223372036854775808) (hb : b < 9223372036854775808) : band .i64 (a : Int) (b : Int) = ((a &&& b : Nat) : Int) := by
  have hx : a &&& b < 2 ^ 63 := Nat.and_lt_two_pow _ (by omega)
  show IntKind.i64.wrap ((BitVec.ofInt 64 (a : Int) &&& BitVec.ofInt 64 (b : Int)).toNat : Int) = _
  rw [BitVec.toNat_and, ofInt_u64 a (by omega), ofInt_u64 b (by omega), IntKind.wrap_i64]
  omega
theorem band1_i64 {m : Nat} (h : m < 9223372036854775808) : band .i64 (m : Int) 1 = ((m % 2 : Nat) : Int) := by
  rw [show (1 : Int) = ((1 : Nat) : Int) from rfl, ← Nat.and_one_is_mod]
  exact band_i64 h (by decide)
theorem shr_i64 {a n : Nat} (hn : n ≤ 64) : shr .i64 (a : Int) (n : Int) = ((a / 2 ^ n : Nat) : Int) := by
  unfold shr
  have : min (n : Int).toNat IntKind.i64.bits = n := by show min ((n : Int).toNat) 64 = n; omega
  rw [this]
  have h : (2 : Int) ^ n = ((2 ^ n : Nat) : Int) := by simp
  rw [h, Int.fdiv_eq_ediv_of_nonneg _ (Int.natCast_nonneg _)]
  simp
theorem shl_i64 {a n : Nat} (hn : n ≤ 64) (h : a * 2 ^ n < 9223372036854775808) : shl .i64 (a : Int) (n : Int) = ((a * 2 ^ n : Nat) : Int) := by
  unfold shl
  have : min (n : Int).toNat IntKind.i64.bits = n := by show min ((n : Int).toNat) 64 = n; omega
  rw [this]
  have e : (a : Int) * 2 ^ n = ((a * 2 ^ n : Nat) : Int) := by simp
  rw [e, IntKind.wrap_i64]
  omega
end Go.Sx

/- The statements on the block cipher, over what is known of its functions. -/
namespace Go.Blk
open Go.Sx Go.Fld
set_option linter.unusedVariables false
set_option linter.unusedSimpArgs false
theorem val_lt {b : List Int} (hb : BL 16 b) : ∀ n, val b n < 256 ^ n
  | 0 => by simp [val]
  | n + 1 => by
    have := val_lt hb n
    have h2 := (hb.get n).hi
    have h3 := (hb.get n).lo
    simp only [val, Nat.pow_succ]
    omega
end Go.Blk
namespace Go.Proofs.Ytkecbjohbihfmaa.G
open Go Go.Sx Go.Fld Go.Blk
set_option linter.unusedSimpArgs false
set_option linter.unusedVariables false

theorem good_count : Sx.Good Try.prog 24 countS := by
  refine Sx.Good.pure (D := []) mixed (good0 _) Try.func24 (by kernel_rfl) rfl fun d args σ K h => ?_
  simp only [countS] at h
  split at h <;> try exact h.elim
  rename_i s
  obtain ⟨hs, hK⟩ := h
  refine ⟨by simp [plain_int], _, plain_ints _ _ _, hK, (1 + 1 * 16) + 1, ?_⟩
  rw [lcount_vc]
  have key := loop_n (fun f i x => lcount.l0 (fun av' _ => av' = .agg [.ints .u8 16 (cnt s)]) s f i x) 16 (fun i => upto 16 i (fun i => (i : Int) * s % 256) fun _ => 0) 1 1
    (fun f i hi hf => by
      rw [lcount.l0_succ]
      have e1 : conv .u8 (i : Int) = (i : Int) := by rw [conv_u8]; omega
      have e2 : mul .u8 (i : Int) s = (i : Int) * s % 256 := conv_u8 _
      refine ⟨fun _ => ?_, fun q => ?_⟩
      · simp only [e1, e2, nat_cast, nadd_def, Nat.zero_add, InB_iff, Low_iff]
        rw [upto_lset rfl, add1_i64 (by omega)]
        exact ⟨by omega, hi, hf⟩
      · rw [ilt_false] at q; omega)
    (by
      rw [lcount.l0_succ]
      refine ⟨fun q => ?_, fun _ => ?_⟩
      · rw [ilt_true] at q; omega
      · rw [upto_done]; rfl) 0 (Nat.zero_le _)
  rw [upto_zero, ← lzeros_tab] at key
  exact key

theorem good_up : Sx.Good Try.prog 23 upS := by
  refine Sx.Good.pure (D := []) mixed (good0 _) Try.func23 (by kernel_rfl) rfl fun d args σ K h => ?_
  simp only [upS] at h
  split at h <;> try exact h.elim
  rename_i b n
  obtain ⟨⟨hb, hn⟩, hK⟩ := h
  obtain ⟨m, rfl⟩ := Int.eq_ofNat_of_zero_le hn.lo
  have hm := hn.hi
  refine ⟨by simp [plain_int, plain_ints], _, plain_ints _ _ _, hK, (1 + 1 * 16) + 1, ?_⟩
  rw [lup_vc]
  have hV : ∀ i, i ≤ 16 → val b i ≤ (val b 16 + m) / 256 ^ (16 - i) ∧ (val b 16 + m) / 256 ^ (16 - i) - val b i ≤ 65536 := by
    intro i hi
    induction hk : 16 - i generalizing i with
    | zero => obtain rfl : i = 16 := by omega
              simp; omega
    | succ k ih =>
      obtain ⟨h1, h2⟩ := ih (i + 1) (by omega) (by omega)
      have h3 := (hb.get i).hi
      have h4 := (hb.get i).lo
      have e : (val b 16 + m) / 256 ^ (k + 1) = (val b 16 + m) / 256 ^ k / 256 := by rw [Nat.pow_succ, Nat.div_div_eq_div_mul]
      rw [e]
      generalize (val b 16 + m) / 256 ^ k = q at h1 h2 ⊢
      simp only [val] at h1 h2
      omega
  have key := loop_down (fun f i (x : Int × List Int) => lup.l0 (fun av' _ => av' = .agg [.ints .u8 16 (upI b (m : Int))]) f x.1 i x.2) (fun i => ((((val b 16 + m) / 256 ^ (16 - i) - val b i : Nat) : Int), tab 16 fun j => if i ≤ j then (((val b 16 + m) / 256 ^ (15 - j) % 256 : Nat) : Int) else lget b j)) 1 1 16
    (fun f i hi hf => by
      rw [lup.l0_succ]
      refine ⟨fun _ => ?_, fun q => ?_⟩
      · obtain ⟨h1, h2⟩ := hV (i + 1) (by omega)
        obtain ⟨g1, g2⟩ := hV i (by omega)
        have h3 := (hb.get i).hi
        have h4 := (hb.get i).lo
        have el : lget (tab 16 fun j => if i + 1 ≤ j then (((val b 16 + m) / 256 ^ (15 - j) % 256 : Nat) : Int) else lget b j) i = lget b i := by rw [tab_lget _ hi, if_neg (by omega)]
        have ec : conv .i64 (lget b i) = lget b i := conv_i64 (by omega) (by omega)
        have e16 : 16 - i = (15 - i) + 1 := by omega
        have ed : (val b 16 + m) / 256 ^ (16 - i) = (val b 16 + m) / 256 ^ (15 - i) / 256 := by rw [e16, Nat.pow_succ, Nat.div_div_eq_div_mul]
        rw [show 16 - (i + 1) = 15 - i by omega] at h1 h2 ⊢
        rw [ed] at g1 g2
        have ea : add .i64 (((val b 16 + m) / 256 ^ (15 - i) - val b (i + 1) : Nat) : Int) (lget b i) = (((val b 16 + m) / 256 ^ (15 - i) - val b i * 256 : Nat) : Int) := by
          generalize (val b 16 + m) / 256 ^ (15 - i) = q at h1 h2
          simp only [val] at h1 h2 ⊢
          rw [add_i64 (by omega) (by omega)]; omega
        have eb : band .i64 (((val b 16 + m) / 256 ^ (15 - i) - val b i * 256 : Nat) : Int) 255 = (((val b 16 + m) / 256 ^ (15 - i) % 256 : Nat) : Int) := by
          generalize (val b 16 + m) / 256 ^ (15 - i) = q at h1 h2
          simp only [val] at h1 h2
          have := band_i64 (a := q - val b i * 256) (b := 255) (by omega) (by decide)
          rw [show ((255 : Nat) : Int) = 255 from rfl] at this
          rw [this]
          have e : (q - val b i * 256) &&& 255 = (q - val b i * 256) % 256 := Nat.and_two_pow_sub_one_eq_mod _ 8
          rw [e]; omega
        have ev : conv .u8 (((val b 16 + m) / 256 ^ (15 - i) % 256 : Nat) : Int) = (((val b 16 + m) / 256 ^ (15 - i) % 256 : Nat) : Int) := by
          generalize (val b 16 + m) / 256 ^ (15 - i) = q
          rw [conv_u8]; omega
        have es : shr .i64 (((val b 16 + m) / 256 ^ (15 - i) - val b i * 256 : Nat) : Int) 8 = (((val b 16 + m) / 256 ^ (16 - i) - val b i : Nat) : Int) := by
          have := shr_i64 (a := (val b 16 + m) / 256 ^ (15 - i) - val b i * 256) (n := 8) (by decide)
          rw [show ((8 : Nat) : Int) = 8 from rfl] at this
          rw [this, ed]
          generalize (val b 16 + m) / 256 ^ (15 - i) = q at h1 h2
          omega
        simp only [nat_cast, nadd_def, Nat.zero_add, el, ec, ea, eb, ev, es, InB_iff, Low_iff, NonNeg_iff]
        refine ⟨by omega, hi, by omega, hi, by decide, ?_⟩
        rw [sub_i64 (by omega) (by omega), tab_lset]
        have et : (tab 16 fun j => if j = i then (((val b 16 + m) / 256 ^ (15 - i) % 256 : Nat) : Int) else if i + 1 ≤ j then (((val b 16 + m) / 256 ^ (15 - j) % 256 : Nat) : Int) else lget b j) = tab 16 fun j => if i ≤ j then (((val b 16 + m) / 256 ^ (15 - j) % 256 : Nat) : Int) else lget b j := by
          refine tab_ext fun j hj => ?_
          by_cases c : j = i
          · subst c; simp
          · by_cases c2 : i + 1 ≤ j
            · rw [if_neg c, if_pos c2, if_pos (by omega)]
            · rw [if_neg c, if_neg c2, if_neg (by omega)]
        rw [et]; exact hf
      · rw [ige_false] at q; omega)
    (by
      rw [lup.l0_succ]
      refine ⟨fun q => ?_, fun _ => ?_⟩
      · rw [ige_true] at q; omega
      · have : (tab 16 fun j => if 0 ≤ j then (((val b 16 + m) / 256 ^ (15 - j) % 256 : Nat) : Int) else lget b j) = upI b (m : Int) := by
          unfold upI byt
          exact tab_ext fun j hj => by rw [if_pos (Nat.zero_le _)]; rfl
        rw [this]) 16 (Nat.le_refl _)
  have e0 : (tab 16 fun j => if 16 ≤ j then (((val b 16 + m) / 256 ^ (15 - j) % 256 : Nat) : Int) else lget b j) = b := by
    conv => rhs; rw [hb.eq]
    exact tab_ext fun j hj => by rw [if_neg (by omega)]
  have e1 : (((val b 16 + m) / 256 ^ (16 - 16) - val b 16 : Nat) : Int) = (m : Int) := by simp
  rw [e0, e1] at key
  exact key

theorem gamB8_good : GoodG Try.prog gamB8 :=
  (gamB7_good.ext good_count ⟨_, Try.func24, by decide, by kernel_rfl⟩).ext good_up ⟨_, Try.func23, by decide, by kernel_rfl⟩

def Yes : AV → Mem → Prop := fun av _ => av = .one (.bool true) ∨ av = .one (.lit true)

theorem good_alive : Sx.Good Try.prog 9 yesS := by
  refine Sx.Good.pure2 (D := []) mixed gamB8_good Try.func9 (by kernel_rfl) rfl fun d args σ K h => ?_
  simp only [yesS] at h
  split at h <;> try exact h.elim
  refine ⟨by simp, _, fun _ => rfl, h, 0 + 1, ?_⟩
  rw [lalive_vc]
  have hk := ks_bl (cnt_bl 1)
  have hc := cnt_bl 17
  have e0 : ieq (lget (enc (ks (cnt 1)) (cnt 17)) 0) 105 = true := by rw [alive_enc]; rfl
  have e15 : ieq (lget (enc (ks (cnt 1)) (cnt 17)) 15) 90 = true := by rw [alive_enc]; rfl
  have fin : lalive.k0 (fun av' _ => ∀ ρ v, SRep ρ av' v → SRep ρ (.one (.lit true)) v) 0 := by
    rw [lalive.k0_eq]
    refine ⟨⟨by decide, by decide⟩, ⟨by decide⟩, fun _ => ⟨⟨by decide, by decide⟩, ⟨by decide⟩, fun _ => ⟨⟨hk, enc_bl hk hc⟩, ⟨by decide, by decide⟩, ?_⟩, fun q => ?_⟩, fun q => ?_⟩
    · rw [dec_enc hk hc, leq_self]; exact fun ρ v h => h
    · rw [e15] at q; cases q
    · rw [e0] at q; cases q
  have b17 : Byte 17 := ⟨by decide, by decide⟩
  exact ⟨⟨by decide, by decide⟩, cnt_bl 1, ⟨b17, ⟨⟨hk, hc⟩, fin⟩, ⟨hk, hc⟩, fin⟩, b17, ⟨hk, hc⟩, fin⟩

theorem gamB9_good : GoodG Try.prog gamB9 := gamB8_good.ext good_alive ⟨_, Try.func9, by decide, by kernel_rfl⟩

theorem blockCrypts_plain {k : List Int} {ll : List (List Int)} (hk : BL 16 k) (hl : ∀ l ∈ ll, BL 16 l) (hs : ll.length ≤ 140737488355328) : Has (callsx Try.prog gamB9 [] Try.f3 ((1 + 1 * (ll.length - 0)) + 1) [.agg [.ints .u8 16 k], .one (.vec 200001)] [(200001, .rview [.arrs .u8 16 ll])] Yes) := by
  constructor
  rw [lcrypts_vc]
  refine ⟨hk, loop_n (fun f i (_ : Unit) => lcrypts.l0 Yes k ll f i) ll.length (fun _ => ()) 1 1 (fun f i hi hf => ?_) ?_ 0 (Nat.zero_le _)⟩
  · rw [lcrypts.l0_succ, add1_i64 (by omega)]
    have hb : BL 16 (llget ll (nat (i : Int))) := by
      rw [nat_cast]
      have : llget ll i ∈ ll := by simp [llget, List.getD, hi]
      exact hl _ this
    have hw := ks_bl hk
    have hz := zeros_bl 176
    have hi1 : InB (i : Int) (llen ll) := ⟨by omega, by rw [llen_def]; omega⟩
    simp only [leq_self, bnot, dec_enc hz hb, hb, hw, hz, hk, enc_bl hz hb, hi1, true_and, Bool.not_true, Bool.false_eq_true, false_implies, forall_const, and_true]
    refine ⟨fun _ => hf, fun q => ?_⟩
    rw [ofNat_def, llen_def, ilt_false] at q; omega
  · rw [lcrypts.l0_succ]
    refine ⟨fun q => ?_, fun _ => Or.inr rfl⟩
    rw [ofNat_def, llen_def, ilt_true] at q; omega

theorem blockRounds_plain {k : List Int} {i : Int} (hk : BL 16 k) : Has (callsx Try.prog gamB9 [] Try.f4 ((1 + 1 * (13 - 0)) + 1) [.agg [.ints .u8 16 k], .one (.int .i64 i)] [] Yes) := by
  constructor
  rw [lrounds_vc]
  have hw := ks_bl hk
  have h : lrounds.l0 Yes i k (1 + 1 * (13 - 0)) (-1 : Int) := by
    refine loop_n (fun f j (_ : Unit) => lrounds.l0 Yes i k f (j - 1)) 13 (fun _ => ()) 1 1 (fun f j hj hf => ?_) ?_ 0 (Nat.zero_le _)
    · rw [lrounds.l0_succ]
      have e : add .i64 ((j : Int) - 1) 1 = ((j + 1 : Nat) : Int) - 1 := by rw [add_i64 (by omega) (by omega)]; omega
      rw [e]
      simp only [leq_self, bnot, hw, hk, true_and, Bool.not_true, Bool.false_eq_true, false_implies, forall_const, and_true]
      refine ⟨fun _ => hf, fun q => ?_⟩
      · rw [ile_false] at q; omega
    · rw [lrounds.l0_succ]
      refine ⟨fun q => ?_, fun _ => ?_⟩
      · rw [ile_true] at q; omega
      · simp only [leq_self, bnot, band2, Bool.and_self, hw, hk, true_and, Bool.not_true, Bool.false_eq_true, Bool.true_eq_false, false_implies, forall_const, and_true]
        exact Or.inl rfl
  simp only [hk, h, true_and, and_true]

theorem blockBack_plain {k b p : List Int} (hk : BL 16 k) (hb : BL 16 b) (hs : Short p) (hp : Bs p) : Has (callsx Try.prog gamB9 [] Try.f5 (0 + 1) [.agg [.ints .u8 16 k], .agg [.ints .u8 16 b], .one (.vec 200002)] [(200002, .rview [.ints .u8 p])] Yes) := by
  constructor
  rw [lback_vc]
  have hw := ks_bl hk
  have hm := mask_bs hw hb hp
  have hms : Short (mask (ks k) b p) := ⟨by rw [mask_len]; exact hs.le⟩
  have h : lback.k0 Yes k b p 0 := by
    rw [lback.k0_eq, mask_mask hw hb hp, seq2_self rfl]; exact Or.inl rfl
  simp only [leq_self, bnot, dec_enc hw hb, enc_dec hw hb, hw, hk, hb, enc_bl hw hb, dec_bl hw hb, hs, hp, hm, hms, h, true_and, Bool.not_true, Bool.false_eq_true, Bool.true_eq_false, false_implies, forall_const, and_true]
end Go.Proofs.Ytkecbjohbihfmaa.G

/- Functions that work on a heap. -/
namespace Go.Sx
open Go
set_option linter.unusedSimpArgs false
set_option linter.unusedVariables false

/-- the arguments of a call that hands on its heap -/
inductive CanonH (σ : Mem) : Nat → List AV → List AV → Mem → Prop
  | nil (j : Nat) : CanonH σ j [] [] []
  | same {j : Nat} {x : AV} {xs ys : List AV} {τ : Mem} : (∀ m, x.refs m = true → isHeap m = true) → CanonH σ (j + 1) xs ys τ → CanonH σ j (x :: xs) (x :: ys) τ
  | row {j n : Nat} {xs ys : List AV} {τ : Mem} (cs : List Col) : Mem.cols σ n = some cs → CanonH σ (j + 1) xs ys τ → CanonH σ j (.one (.vec n) :: xs) (.one (.vec (200000 + j)) :: ys) ((200000 + j, .rview cs) :: τ)
  | glob {j g : Nat} {b : Blk} {xs ys : List AV} {τ : Mem} : Mem.find σ (gname g) = some b → (∀ m, segsRefs m b.segs = false) → CanonH σ j xs ys τ → CanonH σ j xs ys ((gname g, .view b.segs) :: τ)

def notHeap : Blk → Bool
  | .heap _ _ => false
  | _ => true

theorem canonH_sound {σ τ : Mem} {ρ : Rho} {w : World} (hm : MemRep ρ σ w) (hs : Sep ρ σ) : ∀ {j : Nat} {xs ys : List AV}, CanonH σ j xs ys τ → ∀ (vals : List Value), j + xs.length ≤ 1000 → xs.length = vals.length → (∀ (i : Nat) x v, xs[i]? = some x → vals[i]? = some v → SRep ρ x v) →
    ys.length = vals.length ∧ ∃ Ls : Nat → Loc, ∀ ρc : Rho, (∀ i, j ≤ i → i < j + xs.length → ρc (200000 + i) = Ls i) → (∀ g, ρc (gname g) = ρ (gname g)) → (∀ n, isHeap n = true → ρc n = ρ n) →
      (∀ (i : Nat) y v, ys[i]? = some y → vals[i]? = some v → SRep ρc y v) ∧ MemRep ρc τ w ∧ ∀ n b, Mem.find τ n = some b → isHeap n = false ∧ (∀ k, ¬ Out ρc n b k) ∧ ∀ k, Foot ρc n b k → ∃ m c, Mem.find σ m = some c ∧ notHeap c = true ∧ Foot ρ m c k := by
  intro j xs ys h
  induction h with
  | nil j => intro vals _ hl _; exact ⟨hl, fun _ => loc0, fun ρc _ _ _ => ⟨fun i y v hy => by simp at hy, fun n b hb => by simp [Mem.find] at hb, fun n b hb => by simp [Mem.find] at hb⟩⟩
  | @same j x xs ys τ hp _ ih =>
    intro vals hj hl hv
    cases vals with
    | nil => simp at hl
    | cons v vals =>
      obtain ⟨h1, Ls, h2⟩ := ih vals (by simp only [List.length_cons] at hj; omega) (by simpa using hl) (fun i x u hx hu => hv (i + 1) x u (by simpa using hx) (by simpa using hu))
      refine ⟨by simpa using h1, Ls, fun ρc hc hcg hch => ?_⟩
      obtain ⟨g1, g2⟩ := h2 ρc (fun i hi hlt => hc i (by omega) (by simp only [List.length_cons]; omega)) hcg hch
      refine ⟨fun i y u hy hu => ?_, g2⟩
      cases i with
      | zero => simp at hy hu; subst hy hu; exact (hv 0 x v rfl rfl).agree fun n hn => .of_eq (hch n (hp n hn))
      | succ i => exact g1 i y u (by simpa using hy) (by simpa using hu)
  | @row j n xs ys τ cs hcs _ ih =>
    intro vals hjl hl hv
    cases vals with
    | nil => simp at hl
    | cons v vals =>
      simp only [List.length_cons] at hjl
      obtain ⟨h1, Ls, h2⟩ := ih vals (by omega) (by simpa using hl) (fun i x u hx hu => hv (i + 1) x u (by simpa using hx) (by simpa using hu))
      have hR := reads_vec hm hs hcs (hv 0 _ v rfl rfl)
      obtain ⟨_, b0, hb0, hbb, hf⟩ := cols_sound hm hcs
      refine ⟨by simpa using h1, fun i => if i = j then ρ n else Ls i, fun ρc hc hcg hch => ?_⟩
      have hj : ρc (200000 + j) = ρ n := by have q := hc j (Nat.le_refl _) (by simp); simpa using q
      obtain ⟨g1, g2, g3⟩ := h2 ρc (fun i hi hlt => by rw [hc i (by omega) (by simp only [List.length_cons]; omega)]; show (if i = j then _ else Ls i) = Ls i; rw [if_neg (by omega)]) hcg hch
      refine ⟨fun i y u hy hu => ?_, fun m b hb => ?_, fun m b hb => ?_⟩
      · cases i with
        | zero =>
          simp at hy hu
          subst hy hu
          show v = _
          rw [hj]; exact hR.val
        | succ i => exact g1 i y u (by simpa using hy) (by simpa using hu)
      · simp only [Mem.find] at hb
        split at hb
        · rename_i e; subst e; cases hb
          exact ⟨by rw [hj]; exact hR.rep, by rw [hj]; exact hR.lnk.heaps hch⟩
        · exact g2 m b hb
      · simp only [Mem.find] at hb
        split at hb
        · rename_i e; subst e; cases hb
          refine ⟨isHeap_no (Or.inl (by omega)), fun k q => q, fun k hk => ⟨n, b0, hb0, by rcases hbb with rfl | rfl <;> rfl, hf k ?_⟩⟩
          have hk : FootL (ρc (200000 + j)) cs k := hk
          rw [hj] at hk; exact hk
        · exact g3 m b hb
  | @glob j g b xs ys τ hn hp _ ih =>
    intro vals hj hl hv
    obtain ⟨h1, Ls, h2⟩ := ih vals hj hl hv
    refine ⟨h1, Ls, fun ρc hc hcg hch => ?_⟩
    obtain ⟨g1, g2, g3⟩ := h2 ρc hc hcg hch
    refine ⟨g1, fun m b' hb => ?_, fun m b' hb => ?_⟩
    · simp only [Mem.find] at hb
      split at hb
      · rename_i e; subst e; cases hb
        obtain ⟨q1, q2⟩ := (hm (gname g) b hn).cells
        refine ⟨q1, fun i a ha => ?_⟩
        obtain ⟨u, hu1, hu2⟩ := q2 i a ha
        refine ⟨u, by simp only [at_, hcg]; exact hu1, hu2.agree fun m hm' => ?_⟩
        have := flat_refs' (List.any_eq_true.2 ⟨a, List.mem_of_getElem? ha, hm'⟩)
        rw [hp m] at this; cases this
      · exact g2 m b' hb
    · simp only [Mem.find] at hb
      split at hb
      · rename_i e; subst e; cases hb
        refine ⟨isHeap_gname g, fun k q => q, fun k hk => ⟨gname g, b, hn, ?_, ?_⟩⟩
        · obtain ⟨hne, _⟩ := hk
          cases b <;> first | rfl | exact absurd rfl hne
        · obtain ⟨hne, rfl⟩ := hk
          rw [hcg]
          cases b with
          | own T s => exact rfl
          | view s => exact ⟨hne, rfl⟩
          | vec cs => exact absurd rfl hne
          | rview cs => exact absurd rfl hne
          | heap q os => exact absurd rfl hne
      · exact g3 m b' hb

section
variable {P : Program} {Γ : Gam} {D : Hints}

/-- a function that works on a heap, and on nothing else of what was there -/
theorem Good.heap (hm : P.follows .mixedOrders = true) (hΓ : GoodG P Γ) {f : FuncId} {fn : Func} (hf : P.funcs[f]? = some fn) (hb : fn.body.isSome = true) {s : Spec} (hs : s.mods = true)
    (hsem : ∀ d args σ (K : AV → Mem → Prop), s.sem d args σ K → ∃ k os cargs τ τ', Mem.heap σ k = some os ∧ CanonH σ 0 args cargs τ ∧ args.length ≤ 1000 ∧ (∀ n, Mem.find τ' n = Mem.find ((hname k, .heap k os) :: τ) n) ∧ ∃ n, callsx P Γ D fn n cargs τ' fun av σ' => ∃ os' av', Mem.heap σ' k = some os' ∧ (∀ m, av'.refs m = true → m = hname k) ∧ (∀ ρ v, SRep ρ av v → SRep ρ av' v) ∧ K av' (σ.put (hname k) (.heap k os'))) : Good P f s := by
  refine ⟨fun d args σ K h ρ w vals hg hmem hsep hl hv hnew => ?_⟩
  obtain ⟨k, os, cargs, τ, τ', ho, hcan, hlen, hτ, n, hc⟩ := hsem d args σ K h
  obtain ⟨h1, Ls, h2⟩ := canonH_sound hmem hsep hcan vals.toList (by omega) (by simpa using hl) (fun i x v hx hu => hv i x v hx (by simpa using hu))
  generalize hρ0 : rhoC ρ Ls = ρc
  have hρc : ∀ i, 0 ≤ i → i < 0 + args.length → ρc (200000 + i) = Ls i := fun i _ hi => by rw [← hρ0, rhoC_arg (by omega)]
  have hgg : ∀ g, ρc (gname g) = ρ (gname g) := fun g => by rw [← hρ0]; exact rhoC_glob
  have hhh : ∀ n, isHeap n = true → ρc n = ρ n := fun n hn => by rw [← hρ0]; exact rhoC_heap hn
  obtain ⟨g1, g2, g3⟩ := h2 ρc hρc hgg hhh
  have hgc : Glob ρc := fun g => by rw [hgg]; exact hg g
  have hfd := heap_find ho
  have hhp := isHeap_hname k
  have hρk := hhh _ hhp
  obtain ⟨_, hH⟩ := hmem _ _ hfd
  have unf : ∀ {m b}, Mem.find τ' m = some b → (m = hname k ∧ b = .heap k os) ∨ (m ≠ hname k ∧ Mem.find τ m = some b) := by
    intro m b hb
    rw [hτ] at hb
    simp only [Mem.find] at hb
    split at hb
    · rename_i e; cases hb; exact Or.inl ⟨e.symm, rfl⟩
    · rename_i e; exact Or.inr ⟨Ne.symm e, hb⟩
  have hmemc : MemRep ρc τ' w := fun m b hb => by
    rcases unf hb with ⟨rfl, rfl⟩ | ⟨_, hb⟩
    · exact ⟨hhp, by rw [hρk]; exact hH⟩
    · exact g2 m b hb
  have hout : ∀ q, Out ρc (hname k) (.heap k os) q → HFoot (ρ (hname k)) q := fun q hq => by simpa only [Out, hρk] using hq
  have hsepc : Sep ρc τ' := by
    refine ⟨fun m m' b c q hb hc hne hO hF => ?_, fun m b q hb hO hI => ?_⟩
    · rcases unf hb with ⟨rfl, rfl⟩ | ⟨_, hb⟩
      · rcases unf hc with ⟨rfl, rfl⟩ | ⟨_, hc⟩
        · exact hne rfl
        · obtain ⟨m0, c0, h0, h0h, h0f⟩ := (g3 m' c hc).2.2 q hF
          exact hsep.1 _ m0 _ c0 q hfd h0 (fun e => by subst e; rw [hfd] at h0; cases h0; cases h0h) (hout q hO) h0f
      · exact (g3 m b hb).2.1 q hO
    · rcases unf hb with ⟨rfl, rfl⟩ | ⟨_, hb⟩
      · exact hI
      · exact (g3 m b hb).2.1 q hO
  refine (callsx_sound hm hΓ hf hb hc (ex := fun q => HFoot (ρ (hname k)) q) hgc (by simpa using h1) (fun i y v hy hu => g1 i y v hy (by simpa using hu)) hmemc hsepc (fun m b q hn hO => by
    rcases unf hn with ⟨rfl, rfl⟩ | ⟨_, hb⟩
    · exact Or.inr (hout q hO)
    · exact absurd hO ((g3 m b hb).2.1 q))).mono ?_
  rintro e w' ⟨v, av, σ'', ρ'', rfl, ⟨os', av', ho', hrefs, hav, hK⟩, hsr, hmem'', hsep'', hfix, hext, hown, hk⟩
  have hfd' := heap_find ho'
  obtain ⟨_, hH'⟩ := hmem'' _ _ hfd'
  let E : Env := ⟨w, ρ, OwnAt ρ σ, hg⟩
  let a : Act := { tmps := #[], defers := [] }
  have hk' : Keeps (OwnAt ρ σ) w w' := ⟨hk.os, hk.tape, hk.output, hk.size, fun q hq hx => hk.block q hq fun hF => hx ⟨hname k, _, hfd, hF⟩⟩
  have hR : Rep E ρ [] σ a w := ⟨⟨rfl, fun t v ht => by simp [a] at ht⟩, rfl, hmem, hsep, fun _ _ _ => rfl, fun _ _ => .refl _, fun n b q hn hO => Or.inr ⟨n, b, hn, hO⟩, Keeps.refl _ _⟩
  have hx : HExt (ρ (hname k)) (ρ'' (hname k)) := by have := hext _ hhp; rw [hρk] at this; exact this
  have grown := heap_grow (L' := ρ'' (hname k)) hR hhp hfd hx hH' hk' (fun m c q hm hmh hF => hk.block q (in_range (hmem m c hm) hF) fun hq => hsep.1 _ m _ c q hfd hm (Ne.symm hmh) hq hF) (fun q hq => by
    rcases hown _ _ q hfd' hq with h | h
    · exact Or.inr ⟨Or.inl h, fun m c hm _ hF => by have := in_range (hmem m c hm) hF; omega⟩
    · exact Or.inl h)
  refine ⟨v, av', _, _, rfl, hK, (hav _ _ hsr).agree fun m hm => ?_, grown.mem, grown.sep, fun m hm _ => upd_ne fun q => (by subst q; rw [hhp] at hm; cases hm), fun m _ => ext_upd hx m, fun m b q hm hO => ?_, hk', fun q => by rw [hs] at q; cases q⟩
  · have e := hrefs m hm
    subst e; rw [upd_eq]; exact .refl _
  · rcases grown.own m b q hm hO with h | h
    · exact Or.inr h
    · exact Or.inl h
end
end Go.Sx

/- Slices that share no memory, grown by turns: the plain law. -/
namespace Go.Sx
open Go
set_option linter.unusedSimpArgs false
set_option linter.unusedVariables false

def tot (c : Nat → Nat) : Nat → Nat → Nat
  | _, 0 => 0
  | i, m + 1 => c i + tot c (i + 1) m

theorem loop_inv {S : Type} (L : Nat → Int → S → Prop) (n : Nat) (Inv : Nat → S → Prop) (c : Nat → Nat) (f0 : Nat) (hs : ∀ g i s, i < n → Inv i s → (∀ s', Inv (i + 1) s' → L g ((i + 1 : Nat) : Int) s') → L (g + c i) (i : Int) s) (he : ∀ s, Inv n s → L f0 (n : Int) s) :
    ∀ m i s, i + m = n → Inv i s → L (f0 + tot c i m) (i : Int) s
  | 0, i, s, h, hi => by
    obtain rfl : i = n := by omega
    exact he s hi
  | m + 1, i, s, h, hi => by
    have := hs (f0 + tot c (i + 1) m) i s (by omega) hi fun s' h' => loop_inv L n Inv c f0 hs he m (i + 1) s' (by omega) h'
    rw [show f0 + tot c i (m + 1) = f0 + tot c (i + 1) m + c i by simp only [tot]; omega]
    exact this

theorem loop_inv_ex {S : Type} (L : Nat → Int → S → Prop) (n : Nat) (Inv : Nat → S → Prop) (c : Nat → Nat) (f0 : Nat) (hs : ∀ g i s, i < n → Inv i s → (∀ s', Inv (i + 1) s' → L g ((i + 1 : Nat) : Int) s') → L (g + c i) (i : Int) s) (he : ∀ s, Inv n s → L f0 (n : Int) s) :
    ∃ F, ∀ s, Inv 0 s → L F 0 s := ⟨f0 + tot c 0 n, fun s h => loop_inv L n Inv c f0 hs he n 0 s (by omega) h⟩

/-- slices grown by turns: how far each has come -/
structure Grown (ls : List HS) (c : Nat → Nat) (gs : List HS) (H : List (List Int)) : Prop where
  len : gs.length = ls.length
  z : llget H 0 = []
  own : ∀ k, k < ls.length → (hget gs k).j < H.length ∧ (hget gs k).len = (hget ls k).len + c k ∧ (hget gs k).off + (hget gs k).len ≤ (llget H (hget gs k).j).length ∧ ∀ t, t < (hget gs k).len → lget (llget H (hget gs k).j) ((hget gs k).off + t) = if t < (hget ls k).len then (k : Int) else 100 + (k : Int)
  old : ∀ k, k < ls.length → (hget ls k).j < H.length ∧ (hget ls k).off + (hget ls k).len ≤ (llget H (hget ls k).j).length ∧ ∀ t, t < (hget ls k).len → lget (llget H (hget ls k).j) ((hget ls k).off + t) = (k : Int)
  same : ∀ k, k < ls.length → (hget gs k).j = (hget ls k).j → (hget gs k).off = (hget ls k).off ∨ (hget gs k).j = 0
  ne : ∀ k k', k < ls.length → k' < ls.length → k ≠ k' → ((hget gs k).j = (hget gs k').j → (hget gs k).j = 0) ∧ ((hget gs k).j = (hget ls k').j → (hget gs k).j = 0)

theorem hget_set (l : List HS) (i i' : Nat) (v : HS) (hi : i < l.length) : hget (hset l i v) i' = if i' = i then v else hget l i' := by
  simp only [hget, hset, List.getD, List.getElem?_set]
  by_cases h : i = i'
  · subst h; simp [hi]
  · simp [h, Ne.symm h]
theorem lget_lput (l v : List Int) (p t : Nat) (h : p ≤ l.length) : lget (lput l p v) t = if p ≤ t ∧ t < p + v.length then lget v (t - p) else lget l t := by
  simp only [lget, List.getD]
  rw [lput_get2 _ _ _ _ h]
  split <;> rfl
theorem llget_app (H : List (List Int)) (x : List Int) (q : Nat) : llget (H ++ [x]) q = if q < H.length then llget H q else if q = H.length then x else [] := by
  simp only [llget, List.getD, List.getElem?_append]
  by_cases h : q < H.length
  · rw [if_pos h, if_pos h]
  · rw [if_neg h, if_neg h]
    by_cases e : q = H.length
    · rw [if_pos e, e, Nat.sub_self]; rfl
    · rw [if_neg e, List.getElem?_eq_none (by simp; omega)]; rfl
theorem lget_app (a b : List Int) (t : Nat) : lget (a ++ b) t = if t < a.length then lget a t else lget b (t - a.length) := lget_cat a b t
theorem lget_sub (l : List Int) (o n t : Nat) (h : t < n) : lget (lsub l o n) t = lget l (o + t) := by
  simp only [lget, lsub, List.getD, List.getElem?_take, if_pos h, List.getElem?_drop]

theorem grown_step {ls gs H H' : _} {c : Nat → Nat} {k j' off' : Nat} (h : Grown ls c gs H) (hk : k < ls.length) (hA : AppR H (hget gs k).j (hget gs k).off (hget gs k).len [100 + (k : Int)] H' j' off') :
    Grown ls (fun i => if i = k then c k + 1 else c i) (hset gs k ⟨j', off', (hget gs k).len + 1⟩) H' := by
  obtain ⟨o1, o2, o3, o4⟩ := h.own k hk
  have hkg : k < gs.length := by rw [h.len]; exact hk
  cases hA with
  | here hj0 =>
    have hj0 := hj0 (by simp)
    have obj : ∀ q, llget (llset H (hget gs k).j (lput (llget H (hget gs k).j) ((hget gs k).off + (hget gs k).len) [100 + (k : Int)])) q = if q = (hget gs k).j then lput (llget H (hget gs k).j) ((hget gs k).off + (hget gs k).len) [100 + (k : Int)] else llget H q := fun q => llset_get _ _ _ _ o1
    have hl : ∀ q, (llget H q).length ≤ (llget (llset H (hget gs k).j (lput (llget H (hget gs k).j) ((hget gs k).off + (hget gs k).len) [100 + (k : Int)])) q).length := fun q => by
      rw [obj]; split
      · rename_i e; rw [e, lput_len2 _ _ _ o3]; omega
      · exact Nat.le_refl _
    have low : ∀ t, t < (hget gs k).off + (hget gs k).len → lget (lput (llget H (hget gs k).j) ((hget gs k).off + (hget gs k).len) [100 + (k : Int)]) t = lget (llget H (hget gs k).j) t := fun t ht => by
      rw [lget_lput _ _ _ _ o3, if_neg (by omega)]
    refine ⟨by simp [hset, h.len], ?_, fun i hi => ?_, fun i hi => ?_, fun i hi => ?_, fun i i' hi hi' hii => ?_⟩
    · rw [obj, if_neg (Ne.symm hj0)]; exact h.z
    · rw [hget_set _ _ _ _ hkg]
      by_cases e : i = k
      · subst e
        simp only [if_true]
        refine ⟨by simpa [llset] using o1, by omega, ?_, fun t ht => ?_⟩
        · rw [obj, if_pos rfl, lput_len2 _ _ _ o3]; simp; omega
        · rw [obj, if_pos rfl]
          by_cases ht' : t < (hget gs i).len
          · rw [low _ (by omega)]; exact o4 t ht'
          · obtain rfl : t = (hget gs i).len := by omega
            rw [lget_lput _ _ _ _ o3, if_pos (by simp), Nat.sub_self, if_neg (by omega)]; rfl
      · simp only [if_neg e]
        obtain ⟨p1, p2, p3, p4⟩ := h.own i hi
        have hd : (hget gs i).j ≠ (hget gs k).j := fun q => hj0 (by have := (h.ne k i hk hi (Ne.symm e)).1 q.symm; exact this)
        refine ⟨by simpa [llset] using p1, p2, Nat.le_trans p3 (hl _), fun t ht => ?_⟩
        rw [obj, if_neg hd]; exact p4 t ht
    · obtain ⟨p1, p2, p3⟩ := h.old i hi
      refine ⟨by simpa [llset] using p1, Nat.le_trans p2 (hl _), fun t ht => ?_⟩
      rw [obj]
      split
      · rename_i e
        by_cases hik : i = k
        · subst hik
          rcases h.same i hi e.symm with q | q
          · rw [low _ (by omega), ← e]; exact p3 t ht
          · exact absurd q hj0
        · exact absurd ((h.ne k i hk hi (Ne.symm hik)).2 e.symm) hj0
      · exact p3 t ht
    · rw [hget_set _ _ _ _ hkg]
      by_cases e : i = k
      · subst e; simp only [if_true]; exact h.same i hi
      · simp only [if_neg e]; exact h.same i hi
    · rw [hget_set _ _ _ _ hkg, hget_set _ _ _ _ hkg]
      by_cases e : i = k
      · subst e
        rw [if_pos rfl, if_neg (Ne.symm hii)]
        exact h.ne i i' hi hi' hii
      · rw [if_neg e]
        by_cases e' : i' = k
        · subst e'; rw [if_pos rfl]; exact h.ne i i' hi hi' hii
        · rw [if_neg e']; exact h.ne i i' hi hi' hii
  | new =>
    have obj : ∀ q, q < H.length → llget (H ++ [lsub (llget H (hget gs k).j) (hget gs k).off (hget gs k).len ++ [100 + (k : Int)]]) q = llget H q := fun q hq => by rw [llget_app, if_pos hq]
    have top : llget (H ++ [lsub (llget H (hget gs k).j) (hget gs k).off (hget gs k).len ++ [100 + (k : Int)]]) H.length = lsub (llget H (hget gs k).j) (hget gs k).off (hget gs k).len ++ [100 + (k : Int)] := by rw [llget_app, if_neg (by omega), if_pos rfl]
    have hsl : (lsub (llget H (hget gs k).j) (hget gs k).off (hget gs k).len).length = (hget gs k).len := lsub_len _ _ _ o3
    refine ⟨by simp [hset, h.len], ?_, fun i hi => ?_, fun i hi => ?_, fun i hi => ?_, fun i i' hi hi' hii => ?_⟩
    · rw [obj _ (by omega)]; exact h.z
    · rw [hget_set _ _ _ _ hkg]
      by_cases e : i = k
      · subst e
        simp only [if_true]
        refine ⟨by simp, by omega, ?_, fun t ht => ?_⟩
        · rw [top, List.length_append, hsl]; simp
        · rw [top, Nat.zero_add, lget_app, hsl]
          by_cases ht' : t < (hget gs i).len
          · rw [if_pos ht', lget_sub _ _ _ _ ht']; exact o4 t ht'
          · obtain rfl : t = (hget gs i).len := by omega
            rw [if_neg ht', if_neg (by omega), Nat.sub_self]; rfl
      · simp only [if_neg e]
        obtain ⟨p1, p2, p3, p4⟩ := h.own i hi
        refine ⟨by simp; omega, p2, by rw [obj _ p1]; exact p3, fun t ht => by rw [obj _ p1]; exact p4 t ht⟩
    · obtain ⟨p1, p2, p3⟩ := h.old i hi
      exact ⟨by simp; omega, by rw [obj _ p1]; exact p2, fun t ht => by rw [obj _ p1]; exact p3 t ht⟩
    · rw [hget_set _ _ _ _ hkg]
      by_cases e : i = k
      · subst e; simp only [if_true]
        intro q
        have := (h.old i hi).1
        omega
      · simp only [if_neg e]; exact h.same i hi
    · rw [hget_set _ _ _ _ hkg, hget_set _ _ _ _ hkg]
      by_cases e : i = k
      · subst e
        rw [if_pos rfl, if_neg (Ne.symm hii)]
        have q1 := (h.own i' hi').1
        have q2 := (h.old i' hi').1
        exact ⟨fun q => by simp only at q; omega, fun q => by simp only at q; omega⟩
      · rw [if_neg e]
        by_cases e' : i' = k
        · subst e'; rw [if_pos rfl]
          have q1 := (h.own i hi).1
          exact ⟨fun q => by simp only at q; omega, (h.ne i i' hi hi' hii).2⟩
        · rw [if_neg e']; exact h.ne i i' hi hi' hii
end Go.Sx

/- The verification conditions of functions, printed by a program of this session out of their codes. -/
namespace Go.Proofs.Ytkecbjohbihfmaa.G
open Go Go.Sx Go.Sx
set_option linter.unusedVariables false
set_option maxRecDepth 100000

def lapart.l1 (R : AV → Mem → Prop) (x0 : Int) (ls : List HS) (x1 : List HS) (fuel : Nat) (x3 : Int) (x4 : List (List Int)) : Prop := run Try.prog gam0 [] (resh Try.prog [] Try.f22.results.toList R) fuel [.code (cAt (bodyOf Try.f22) [1, 1, 0, 1, 0, 0, 1, 0, 0, 0, 1, 0, 0]), .inLoop (cAt (bodyOf Try.f22) [1, 1, 0, 1, 0, 0, 1, 0, 0, 0, 1, 0, 0]), .inBlock 2, .code (cAt (bodyOf Try.f22) [1, 1, 0, 1, 0, 0, 1, 0, 0, 1]), .inBlock 1, .code (cAt (bodyOf Try.f22) [1, 1, 0, 1, 0, 0, 1, 1]), .inLoop (cAt (bodyOf Try.f22) [1, 1, 0, 1, 0, 0]), .inBlock 0, .code (cAt (bodyOf Try.f22) [1, 1, 1])] [(AV.one (AC.vec 200000)), AV.undef, AV.undef, (AV.one (AC.vec 13)), (AV.one (AC.int IntKind.i64 x0)), (AV.one (AC.int IntKind.i64 x3)), (AV.tup []), (AV.tup []), (AV.tup []), (AV.tup []), (AV.tup []), AV.undef, AV.undef, AV.undef, (AV.one (AC.int IntKind.i64 x0)), (AV.one (AC.vec 200000)), (AV.one (AC.int IntKind.i64 (ofNat (llen ls)))), (AV.one (AC.lit true)), AV.undef, AV.undef, AV.undef, AV.undef, AV.undef, AV.undef, AV.undef, AV.undef, AV.undef, AV.undef, AV.undef, AV.undef, AV.undef, AV.undef, AV.undef, AV.undef, AV.undef, AV.undef, AV.undef, AV.undef, AV.undef, AV.undef, AV.undef, AV.undef, AV.undef, AV.undef, (AV.tup []), (AV.tup []), (AV.tup []), (AV.tup []), (AV.tup []), (AV.tup []), (AV.tup []), (AV.tup []), (AV.tup []), (AV.tup []), (AV.tup []), (AV.tup []), (AV.tup []), (AV.tup []), (AV.tup []), (AV.tup []), (AV.tup []), (AV.tup []), (AV.tup []), (AV.tup []), (AV.tup []), (AV.tup []), (AV.tup []), (AV.tup []), (AV.tup []), (AV.tup []), (AV.tup []), (AV.tup []), (AV.tup []), (AV.tup []), (AV.tup []), (AV.tup []), (AV.tup []), (AV.tup []), (AV.tup []), (AV.tup []), (AV.tup []), (AV.tup []), (AV.tup []), (AV.tup []), (AV.tup []), (AV.tup []), (AV.tup []), (AV.tup []), (AV.tup []), (AV.tup []), (AV.tup []), (AV.tup []), (AV.tup []), (AV.tup []), (AV.tup []), (AV.tup []), (AV.tup []), (AV.tup []), (AV.tup []), (AV.tup []), (AV.tup []), (AV.tup []), (AV.tup []), (AV.tup []), (AV.tup []), (AV.tup []), (AV.tup []), (AV.tup []), (AV.tup []), (AV.tup []), (AV.tup [])] [(13, Blk.vec [(Col.hss IntKind.u8 x1)]), (200000, Blk.rview [(Col.hss IntKind.u8 ls)]), (900004, Blk.heap IntKind.u8 x4)]

def lapart.l3 (R : AV → Mem → Prop) (x7 : Int) (ls : List HS) (fuel : Nat) (x10 : Int) (x11 : List HS) (x12 : List (List Int)) : Prop := run Try.prog gam0 [] (resh Try.prog [] Try.f22.results.toList R) fuel [.code (cAt (bodyOf Try.f22) [1, 1, 1, 0, 1, 0, 0, 1, 0, 0, 1, 0, 0]), .inLoop (cAt (bodyOf Try.f22) [1, 1, 1, 0, 1, 0, 0, 1, 0, 0, 1, 0, 0]), .inBlock 6, .inBlock 5, .code (cAt (bodyOf Try.f22) [1, 1, 1, 0, 1, 0, 0, 1, 1]), .inLoop (cAt (bodyOf Try.f22) [1, 1, 1, 0, 1, 0, 0]), .inBlock 4, .code (cAt (bodyOf Try.f22) [1, 1, 1, 1])] [(AV.one (AC.vec 200000)), AV.undef, AV.undef, (AV.one (AC.vec 13)), AV.undef, AV.undef, (AV.one (AC.int IntKind.i64 x7)), (AV.one (AC.int IntKind.i64 x10)), (AV.tup []), (AV.tup []), (AV.tup []), AV.undef, AV.undef, AV.undef, AV.undef, AV.undef, AV.undef, AV.undef, AV.undef, AV.undef, AV.undef, AV.undef, AV.undef, AV.undef, AV.undef, AV.undef, AV.undef, AV.undef, AV.undef, AV.undef, AV.undef, AV.undef, AV.undef, AV.undef, AV.undef, AV.undef, AV.undef, AV.undef, AV.undef, AV.undef, AV.undef, AV.undef, AV.undef, AV.undef, (AV.one (AC.int IntKind.i64 x7)), (AV.one (AC.lit true)), AV.undef, AV.undef, AV.undef, AV.undef, AV.undef, AV.undef, AV.undef, AV.undef, AV.undef, AV.undef, AV.undef, AV.undef, AV.undef, AV.undef, AV.undef, AV.undef, AV.undef, AV.undef, AV.undef, AV.undef, (AV.tup []), (AV.tup []), (AV.tup []), (AV.tup []), (AV.tup []), (AV.tup []), (AV.tup []), (AV.tup []), (AV.tup []), (AV.tup []), (AV.tup []), (AV.tup []), (AV.tup []), (AV.tup []), (AV.tup []), (AV.tup []), (AV.tup []), (AV.tup []), (AV.tup []), (AV.tup []), (AV.tup []), (AV.tup []), (AV.tup []), (AV.tup []), (AV.tup []), (AV.tup []), (AV.tup []), (AV.tup []), (AV.tup []), (AV.tup []), (AV.tup []), (AV.tup []), (AV.tup []), (AV.tup []), (AV.tup []), (AV.tup []), (AV.tup []), (AV.tup []), (AV.tup []), (AV.tup []), (AV.tup []), (AV.tup []), (AV.tup []), (AV.tup []), (AV.tup [])] [(13, Blk.vec [(Col.hss IntKind.u8 x11)]), (200000, Blk.rview [(Col.hss IntKind.u8 ls)]), (900004, Blk.heap IntKind.u8 x12)]

def lapart.l5 (R : AV → Mem → Prop) (x17 : Int) (x8 : List HS) (ls : List HS) (x9 : List (List Int)) (fuel : Nat) (x18 : Int) : Prop := run Try.prog gam0 [] (resh Try.prog [] Try.f22.results.toList R) fuel [.code (cAt (bodyOf Try.f22) [1, 1, 1, 1, 0, 1, 0, 0, 1, 0, 0, 1, 0, 0]), .inLoop (cAt (bodyOf Try.f22) [1, 1, 1, 1, 0, 1, 0, 0, 1, 0, 0, 1, 0, 0]), .inBlock 10, .inBlock 9, .code (cAt (bodyOf Try.f22) [1, 1, 1, 1, 0, 1, 0, 0, 1, 1]), .inLoop (cAt (bodyOf Try.f22) [1, 1, 1, 1, 0, 1, 0, 0]), .inBlock 8, .code (cAt (bodyOf Try.f22) [1, 1, 1, 1, 1])] [(AV.one (AC.vec 200000)), AV.undef, AV.undef, (AV.one (AC.vec 13)), AV.undef, AV.undef, AV.undef, AV.undef, (AV.one (AC.int IntKind.i64 x17)), (AV.one (AC.int IntKind.i64 x18)), AV.undef, AV.undef, AV.undef, AV.undef, AV.undef, AV.undef, AV.undef, AV.undef, AV.undef, AV.undef, AV.undef, AV.undef, AV.undef, AV.undef, AV.undef, AV.undef, AV.undef, AV.undef, AV.undef, AV.undef, AV.undef, AV.undef, AV.undef, AV.undef, AV.undef, AV.undef, AV.undef, AV.undef, AV.undef, AV.undef, AV.undef, AV.undef, AV.undef, AV.undef, AV.undef, AV.undef, AV.undef, AV.undef, AV.undef, AV.undef, AV.undef, AV.undef, AV.undef, AV.undef, AV.undef, AV.undef, AV.undef, AV.undef, AV.undef, AV.undef, AV.undef, AV.undef, AV.undef, AV.undef, AV.undef, AV.undef, (AV.one (AC.int IntKind.i64 x17)), (AV.one (AC.vec 13)), (AV.one (AC.int IntKind.i64 (ofNat (llen x8)))), (AV.one (AC.lit true)), AV.undef, AV.undef, AV.undef, AV.undef, AV.undef, AV.undef, AV.undef, AV.undef, AV.undef, AV.undef, AV.undef, AV.undef, AV.undef, AV.undef, AV.undef, AV.undef, AV.undef, AV.undef, AV.undef, AV.undef, AV.undef, AV.undef, AV.undef, AV.undef, AV.undef, AV.undef, AV.undef, AV.undef, AV.undef, AV.undef, AV.undef, AV.undef, AV.undef, AV.undef, AV.undef, AV.undef, AV.undef, AV.undef, AV.undef, AV.undef, AV.undef] [(13, Blk.vec [(Col.hss IntKind.u8 x8)]), (200000, Blk.rview [(Col.hss IntKind.u8 ls)]), (900004, Blk.heap IntKind.u8 x9)]

def lapart.l4 (R : AV → Mem → Prop) (x8 : List HS) (ls : List HS) (x9 : List (List Int)) (fuel : Nat) (x17 : Int) : Prop := run Try.prog gam0 [] (resh Try.prog [] Try.f22.results.toList R) fuel [.code (cAt (bodyOf Try.f22) [1, 1, 1, 1, 0, 1, 0, 0]), .inLoop (cAt (bodyOf Try.f22) [1, 1, 1, 1, 0, 1, 0, 0]), .inBlock 8, .code (cAt (bodyOf Try.f22) [1, 1, 1, 1, 1])] [(AV.one (AC.vec 200000)), AV.undef, AV.undef, (AV.one (AC.vec 13)), AV.undef, AV.undef, AV.undef, AV.undef, (AV.one (AC.int IntKind.i64 x17)), AV.undef, AV.undef, AV.undef, AV.undef, AV.undef, AV.undef, AV.undef, AV.undef, AV.undef, AV.undef, AV.undef, AV.undef, AV.undef, AV.undef, AV.undef, AV.undef, AV.undef, AV.undef, AV.undef, AV.undef, AV.undef, AV.undef, AV.undef, AV.undef, AV.undef, AV.undef, AV.undef, AV.undef, AV.undef, AV.undef, AV.undef, AV.undef, AV.undef, AV.undef, AV.undef, AV.undef, AV.undef, AV.undef, AV.undef, AV.undef, AV.undef, AV.undef, AV.undef, AV.undef, AV.undef, AV.undef, AV.undef, AV.undef, AV.undef, AV.undef, AV.undef, AV.undef, AV.undef, AV.undef, AV.undef, AV.undef, AV.undef, AV.undef, AV.undef, AV.undef, AV.undef, AV.undef, AV.undef, AV.undef, AV.undef, AV.undef, AV.undef, AV.undef, AV.undef, AV.undef, AV.undef, AV.undef, AV.undef, AV.undef, AV.undef, AV.undef, AV.undef, AV.undef, AV.undef, AV.undef, AV.undef, AV.undef, AV.undef, AV.undef, AV.undef, AV.undef, AV.undef, AV.undef, AV.undef, AV.undef, AV.undef, AV.undef, AV.undef, AV.undef, AV.undef, AV.undef, AV.undef, AV.undef, AV.undef, AV.undef, AV.undef, AV.undef] [(13, Blk.vec [(Col.hss IntKind.u8 x8)]), (200000, Blk.rview [(Col.hss IntKind.u8 ls)]), (900004, Blk.heap IntKind.u8 x9)]

def lapart.l2 (R : AV → Mem → Prop) (ls : List HS) (fuel : Nat) (x7 : Int) (x8 : List HS) (x9 : List (List Int)) : Prop := run Try.prog gam0 [] (resh Try.prog [] Try.f22.results.toList R) fuel [.code (cAt (bodyOf Try.f22) [1, 1, 1, 0, 1, 0, 0]), .inLoop (cAt (bodyOf Try.f22) [1, 1, 1, 0, 1, 0, 0]), .inBlock 4, .code (cAt (bodyOf Try.f22) [1, 1, 1, 1])] [(AV.one (AC.vec 200000)), AV.undef, AV.undef, (AV.one (AC.vec 13)), AV.undef, AV.undef, (AV.one (AC.int IntKind.i64 x7)), AV.undef, (AV.tup []), (AV.tup []), (AV.tup []), AV.undef, AV.undef, AV.undef, AV.undef, AV.undef, AV.undef, AV.undef, AV.undef, AV.undef, AV.undef, AV.undef, AV.undef, AV.undef, AV.undef, AV.undef, AV.undef, AV.undef, AV.undef, AV.undef, AV.undef, AV.undef, AV.undef, AV.undef, AV.undef, AV.undef, AV.undef, AV.undef, AV.undef, AV.undef, AV.undef, AV.undef, AV.undef, AV.undef, AV.undef, AV.undef, AV.undef, AV.undef, AV.undef, AV.undef, AV.undef, AV.undef, AV.undef, AV.undef, AV.undef, AV.undef, AV.undef, AV.undef, AV.undef, AV.undef, AV.undef, AV.undef, AV.undef, AV.undef, AV.undef, AV.undef, (AV.tup []), (AV.tup []), (AV.tup []), (AV.tup []), (AV.tup []), (AV.tup []), (AV.tup []), (AV.tup []), (AV.tup []), (AV.tup []), (AV.tup []), (AV.tup []), (AV.tup []), (AV.tup []), (AV.tup []), (AV.tup []), (AV.tup []), (AV.tup []), (AV.tup []), (AV.tup []), (AV.tup []), (AV.tup []), (AV.tup []), (AV.tup []), (AV.tup []), (AV.tup []), (AV.tup []), (AV.tup []), (AV.tup []), (AV.tup []), (AV.tup []), (AV.tup []), (AV.tup []), (AV.tup []), (AV.tup []), (AV.tup []), (AV.tup []), (AV.tup []), (AV.tup []), (AV.tup []), (AV.tup []), (AV.tup []), (AV.tup []), (AV.tup []), (AV.tup [])] [(13, Blk.vec [(Col.hss IntKind.u8 x8)]), (200000, Blk.rview [(Col.hss IntKind.u8 ls)]), (900004, Blk.heap IntKind.u8 x9)]

def lapart.l0 (R : AV → Mem → Prop) (ls : List HS) (fuel : Nat) (x0 : Int) (x1 : List HS) (x2 : List (List Int)) : Prop := run Try.prog gam0 [] (resh Try.prog [] Try.f22.results.toList R) fuel [.code (cAt (bodyOf Try.f22) [1, 1, 0, 1, 0, 0]), .inLoop (cAt (bodyOf Try.f22) [1, 1, 0, 1, 0, 0]), .inBlock 0, .code (cAt (bodyOf Try.f22) [1, 1, 1])] [(AV.one (AC.vec 200000)), AV.undef, AV.undef, (AV.one (AC.vec 13)), (AV.one (AC.int IntKind.i64 x0)), AV.undef, (AV.tup []), (AV.tup []), (AV.tup []), (AV.tup []), (AV.tup []), AV.undef, AV.undef, AV.undef, AV.undef, AV.undef, AV.undef, AV.undef, AV.undef, AV.undef, AV.undef, AV.undef, AV.undef, AV.undef, AV.undef, AV.undef, AV.undef, AV.undef, AV.undef, AV.undef, AV.undef, AV.undef, AV.undef, AV.undef, AV.undef, AV.undef, AV.undef, AV.undef, AV.undef, AV.undef, AV.undef, AV.undef, AV.undef, AV.undef, (AV.tup []), (AV.tup []), (AV.tup []), (AV.tup []), (AV.tup []), (AV.tup []), (AV.tup []), (AV.tup []), (AV.tup []), (AV.tup []), (AV.tup []), (AV.tup []), (AV.tup []), (AV.tup []), (AV.tup []), (AV.tup []), (AV.tup []), (AV.tup []), (AV.tup []), (AV.tup []), (AV.tup []), (AV.tup []), (AV.tup []), (AV.tup []), (AV.tup []), (AV.tup []), (AV.tup []), (AV.tup []), (AV.tup []), (AV.tup []), (AV.tup []), (AV.tup []), (AV.tup []), (AV.tup []), (AV.tup []), (AV.tup []), (AV.tup []), (AV.tup []), (AV.tup []), (AV.tup []), (AV.tup []), (AV.tup []), (AV.tup []), (AV.tup []), (AV.tup []), (AV.tup []), (AV.tup []), (AV.tup []), (AV.tup []), (AV.tup []), (AV.tup []), (AV.tup []), (AV.tup []), (AV.tup []), (AV.tup []), (AV.tup []), (AV.tup []), (AV.tup []), (AV.tup []), (AV.tup []), (AV.tup []), (AV.tup []), (AV.tup []), (AV.tup []), (AV.tup []), (AV.tup []), (AV.tup [])] [(13, Blk.vec [(Col.hss IntKind.u8 x1)]), (200000, Blk.rview [(Col.hss IntKind.u8 ls)]), (900004, Blk.heap IntKind.u8 x2)]

theorem lapart.l1_succ (R : AV → Mem → Prop) (x0 : Int) (ls : List HS) (x1 : List HS) (fuel : Nat) (x3 : Int) (x4 : List (List Int)) : lapart.l1 R x0 ls x1 (fuel + 1) x3 x4 = (((InB x0 (llen ls)) ∧ ((((ilt x3 (ofNat (hl (hget ls (nat x0))))) = true) → ((InB x0 (llen ls)) ∧ ((InB x3 (hl (hget ls (nat x0)))) ∧ (let y5 : List (List Int) := (llset x4 (hj (hget ls (nat x0))) (lset (llget x4 (hj (hget ls (nat x0)))) (nadd (ho (hget ls (nat x0))) (nat x3)) (conv IntKind.u8 x0))); (lapart.l1 R x0 ls x1 fuel (add IntKind.i64 x3 1) y5))))) ∧ (((ilt x3 (ofNat (hl (hget ls (nat x0))))) = false) → ((InB x0 (llen ls)) ∧ ((InB x0 (llen x1)) ∧ (let y6 : List HS := (hset x1 (nat x0) (HS.mk (hj (hget ls (nat x0))) (ho (hget ls (nat x0))) (hl (hget ls (nat x0))))); (lapart.l0 R ls fuel (add IntKind.i64 x0 1) y6 x4)))))))) := by kernel_rfl
theorem lapart.l1_zero (R : AV → Mem → Prop) (x0 : Int) (ls : List HS) (x1 : List HS) (x3 : Int) (x4 : List (List Int)) : lapart.l1 R x0 ls x1 0 x3 x4 = False := by kernel_rfl

theorem lapart.l3_succ (R : AV → Mem → Prop) (x7 : Int) (ls : List HS) (fuel : Nat) (x10 : Int) (x11 : List HS) (x12 : List (List Int)) : lapart.l3 R x7 ls (fuel + 1) x10 x11 x12 = (((((ilt x10 (ofNat (llen x11))) = true) → ((InB x10 (llen x11)) ∧ ((Room (nadd (hl (hget x11 (nat x10))) (llen [(conv IntKind.u8 (add IntKind.i64 100 x10))])) 1) ∧ (∀ os'13 : List (List Int), (∀ j'14 : Nat, (∀ off'15 : Nat, ((AppR x12 (hj (hget x11 (nat x10))) (ho (hget x11 (nat x10))) (hl (hget x11 (nat x10))) [(conv IntKind.u8 (add IntKind.i64 100 x10))] os'13 j'14 off'15) → ((InB x10 (llen x11)) ∧ (let y16 : List HS := (hset x11 (nat x10) (HS.mk j'14 off'15 (nadd (hl (hget x11 (nat x10))) (llen [(conv IntKind.u8 (add IntKind.i64 100 x10))])))); (lapart.l3 R x7 ls fuel (add IntKind.i64 x10 1) y16 os'13)))))))))) ∧ (((ilt x10 (ofNat (llen x11))) = false) → (lapart.l2 R ls fuel (add IntKind.i64 x7 1) x11 x12)))) := by kernel_rfl
theorem lapart.l3_zero (R : AV → Mem → Prop) (x7 : Int) (ls : List HS) (x10 : Int) (x11 : List HS) (x12 : List (List Int)) : lapart.l3 R x7 ls 0 x10 x11 x12 = False := by kernel_rfl

theorem lapart.l5_succ (R : AV → Mem → Prop) (x17 : Int) (x8 : List HS) (ls : List HS) (x9 : List (List Int)) (fuel : Nat) (x18 : Int) : lapart.l5 R x17 x8 ls x9 (fuel + 1) x18 = (((InB x17 (llen x8)) ∧ ((((ilt x18 (ofNat (hl (hget x8 (nat x17))))) = true) → ((InB x17 (llen ls)) ∧ ((((ige x18 (ofNat (hl (hget ls (nat x17))))) = true) → ((InB x17 (llen x8)) ∧ ((InB x18 (hl (hget x8 (nat x17)))) ∧ (let y19 : Bool := (ine (lget (llget x9 (hj (hget x8 (nat x17)))) (nadd (ho (hget x8 (nat x17))) (nat x18))) (conv IntKind.u8 (add IntKind.i64 100 x17))); (((y19 = true) → (R (AV.one (AC.lit false)) [(13, Blk.vec [(Col.hss IntKind.u8 x8)]), (200000, Blk.rview [(Col.hss IntKind.u8 ls)]), (900004, Blk.heap IntKind.u8 x9)])) ∧ ((y19 = false) → (lapart.l5 R x17 x8 ls x9 fuel (add IntKind.i64 x18 1)))))))) ∧ (((ige x18 (ofNat (hl (hget ls (nat x17))))) = false) → ((InB x17 (llen ls)) ∧ ((InB x18 (hl (hget ls (nat x17)))) ∧ (let y20 : Bool := (ine (lget (llget x9 (hj (hget ls (nat x17)))) (nadd (ho (hget ls (nat x17))) (nat x18))) (conv IntKind.u8 x17)); (((y20 = true) → (R (AV.one (AC.lit false)) [(13, Blk.vec [(Col.hss IntKind.u8 x8)]), (200000, Blk.rview [(Col.hss IntKind.u8 ls)]), (900004, Blk.heap IntKind.u8 x9)])) ∧ ((y20 = false) → ((InB x17 (llen x8)) ∧ ((InB x18 (hl (hget x8 (nat x17)))) ∧ (let y21 : Bool := (ine (lget (llget x9 (hj (hget x8 (nat x17)))) (nadd (ho (hget x8 (nat x17))) (nat x18))) (conv IntKind.u8 x17)); (((y21 = true) → (R (AV.one (AC.lit false)) [(13, Blk.vec [(Col.hss IntKind.u8 x8)]), (200000, Blk.rview [(Col.hss IntKind.u8 ls)]), (900004, Blk.heap IntKind.u8 x9)])) ∧ ((y21 = false) → (lapart.l5 R x17 x8 ls x9 fuel (add IntKind.i64 x18 1)))))))))))))))) ∧ (((ilt x18 (ofNat (hl (hget x8 (nat x17))))) = false) → (lapart.l4 R x8 ls x9 fuel (add IntKind.i64 x17 1)))))) := by kernel_rfl
theorem lapart.l5_zero (R : AV → Mem → Prop) (x17 : Int) (x8 : List HS) (ls : List HS) (x9 : List (List Int)) (x18 : Int) : lapart.l5 R x17 x8 ls x9 0 x18 = False := by kernel_rfl

theorem lapart.l4_succ (R : AV → Mem → Prop) (x8 : List HS) (ls : List HS) (x9 : List (List Int)) (fuel : Nat) (x17 : Int) : lapart.l4 R x8 ls x9 (fuel + 1) x17 = (((((ilt x17 (ofNat (llen x8))) = true) → (lapart.l5 R x17 x8 ls x9 fuel 0)) ∧ (((ilt x17 (ofNat (llen x8))) = false) → (R (AV.one (AC.lit true)) [(13, Blk.vec [(Col.hss IntKind.u8 x8)]), (200000, Blk.rview [(Col.hss IntKind.u8 ls)]), (900004, Blk.heap IntKind.u8 x9)])))) := by kernel_rfl
theorem lapart.l4_zero (R : AV → Mem → Prop) (x8 : List HS) (ls : List HS) (x9 : List (List Int)) (x17 : Int) : lapart.l4 R x8 ls x9 0 x17 = False := by kernel_rfl

theorem lapart.l2_succ (R : AV → Mem → Prop) (ls : List HS) (fuel : Nat) (x7 : Int) (x8 : List HS) (x9 : List (List Int)) : lapart.l2 R ls (fuel + 1) x7 x8 x9 = (((((ilt x7 20) = true) → (lapart.l3 R x7 ls fuel 0 x8 x9)) ∧ (((ilt x7 20) = false) → (lapart.l4 R x8 ls x9 fuel 0)))) := by kernel_rfl
theorem lapart.l2_zero (R : AV → Mem → Prop) (ls : List HS) (x7 : Int) (x8 : List HS) (x9 : List (List Int)) : lapart.l2 R ls 0 x7 x8 x9 = False := by kernel_rfl

theorem lapart.l0_succ (R : AV → Mem → Prop) (ls : List HS) (fuel : Nat) (x0 : Int) (x1 : List HS) (x2 : List (List Int)) : lapart.l0 R ls (fuel + 1) x0 x1 x2 = (((((ilt x0 (ofNat (llen ls))) = true) → (lapart.l1 R x0 ls x1 fuel 0 x2)) ∧ (((ilt x0 (ofNat (llen ls))) = false) → (lapart.l2 R ls fuel 0 x1 x2)))) := by kernel_rfl
theorem lapart.l0_zero (R : AV → Mem → Prop) (ls : List HS) (x0 : Int) (x1 : List HS) (x2 : List (List Int)) : lapart.l0 R ls 0 x0 x1 x2 = False := by kernel_rfl

theorem lapart_vc (R : AV → Mem → Prop) (fuel : Nat) (ls : List HS) (os : List (List Int)) : callsx Try.prog gam0 [] Try.f22 (fuel + 1) [.one (.vec 200000)] [(200000, .rview [.hss .u8 ls]), (900004, .heap .u8 os)] R = (((Mk (ofNat (llen ls)) (ofNat (llen ls)) 24) ∧ (lapart.l0 R ls fuel 0 (hzeros (nat (ofNat (llen ls)))) os))) := by kernel_rfl

end Go.Proofs.Ytkecbjohbihfmaa.G

/- Slices that share no memory: the function that looks for it says yes. -/
namespace Go.Sx
open Go
set_option linter.unusedSimpArgs false
set_option linter.unusedVariables false

/-- these slices of a heap share no memory -/
structure ApartOk (ls : List HS) (os : List (List Int)) : Prop where
  n : ls.length ≤ 100
  z : llget os 0 = []
  inn : ∀ k, k < ls.length → (hget ls k).j < os.length ∧ (hget ls k).off + (hget ls k).len ≤ (llget os (hget ls k).j).length ∧ (hget ls k).len ≤ 140737488355328
  ne : ∀ k k', k < ls.length → k' < ls.length → k ≠ k' → (hget ls k).j = (hget ls k').j → (hget ls k).j = 0

/-- marked up to place t of slice i -/
structure Marked (ls : List HS) (i t : Nat) (H : List (List Int)) : Prop where
  z : llget H 0 = []
  inn : ∀ k, k < ls.length → (hget ls k).j < H.length ∧ (hget ls k).off + (hget ls k).len ≤ (llget H (hget ls k).j).length
  done : ∀ k, k < ls.length → ∀ u, u < (hget ls k).len → (k < i ∨ (k = i ∧ u < t)) → lget (llget H (hget ls k).j) ((hget ls k).off + u) = (k : Int)

theorem marked_step {ls os H : _} {i t : Nat} (hO : ApartOk ls os) (h : Marked ls i t H) (hi : i < ls.length) (ht : t < (hget ls i).len) :
    Marked ls i (t + 1) (llset H (hget ls i).j (lset (llget H (hget ls i).j) ((hget ls i).off + t) (i : Int))) := by
  obtain ⟨h1, h2⟩ := h.inn i hi
  have hj0 : (hget ls i).j ≠ 0 := fun q => by rw [q, h.z] at h2; simp at h2; omega
  have obj : ∀ q, llget (llset H (hget ls i).j (lset (llget H (hget ls i).j) ((hget ls i).off + t) (i : Int))) q = if q = (hget ls i).j then lset (llget H (hget ls i).j) ((hget ls i).off + t) (i : Int) else llget H q := fun q => llset_get _ _ _ _ h1
  refine ⟨by rw [obj, if_neg (Ne.symm hj0)]; exact h.z, fun k hk => ?_, fun k hk u hu hc => ?_⟩
  · obtain ⟨p1, p2⟩ := h.inn k hk
    refine ⟨by simpa [llset] using p1, ?_⟩
    rw [obj]
    split
    · rename_i e; rw [e] at p2; simpa [lset] using p2
    · exact p2
  · rw [obj]
    split
    · rename_i e
      have hki : k = i := by
        refine Classical.byContradiction fun q => ?_
        exact hj0 (e ▸ hO.ne k i hk hi q e)
      subst hki
      rw [lset_get _ _ _ _ (by omega)]
      by_cases hut : u = t
      · subst hut; rw [if_pos rfl]
      · rw [if_neg (by omega)]
        exact h.done k hk u hu (by omega)
    · rename_i e
      refine h.done k hk u hu ?_
      rcases hc with hc | ⟨rfl, hc⟩
      · exact Or.inl hc
      · exact absurd rfl e
theorem marked_next {ls H : _} {i : Nat} (h : Marked ls i (hget ls i).len H) : Marked ls (i + 1) 0 H :=
  ⟨h.z, h.inn, fun k hk u hu hc => h.done k hk u hu (by
    rcases hc with hc | ⟨_, hc⟩
    · by_cases e : k = i
      · subst e; exact Or.inr ⟨rfl, hu⟩
      · exact Or.inl (by omega)
    · omega)⟩
theorem Grown.congr {ls gs H : _} {c c' : Nat → Nat} (h : Grown ls c gs H) (hc : ∀ k, k < ls.length → c k = c' k) : Grown ls c' gs H :=
  ⟨h.len, h.z, fun k hk => by rw [← hc k hk]; exact h.own k hk, h.old, h.same, h.ne⟩
theorem tot_one : ∀ i m, tot (fun _ => 1) i m = m
  | _, 0 => rfl
  | i, m + 1 => by simp only [tot, tot_one (i + 1) m]; omega
theorem grown_start {ls os gs H : _} (hO : ApartOk ls os) (h : Marked ls ls.length 0 H) (hl : gs.length = ls.length) (hg : ∀ k, k < ls.length → hget gs k = hget ls k) : Grown ls (fun _ => 0) gs H := by
  refine ⟨hl, h.z, fun k hk => ?_, fun k hk => ?_, fun k hk _ => Or.inl (by rw [hg k hk]), fun k k' hk hk' hne => ?_⟩
  · rw [hg k hk]
    exact ⟨(h.inn k hk).1, rfl, (h.inn k hk).2, fun t ht => by rw [if_pos ht]; exact h.done k hk t ht (Or.inl hk)⟩
  · exact ⟨(h.inn k hk).1, (h.inn k hk).2, fun t ht => h.done k hk t ht (Or.inl hk)⟩
  · rw [hg k hk, hg k' hk']
    exact ⟨fun q => hO.ne k k' hk hk' hne q, fun q => hO.ne k k' hk hk' hne q⟩
end Go.Sx
namespace Go.Proofs.Ytkecbjohbihfmaa.G
open Go Go.Sx
set_option maxRecDepth 20000
set_option linter.unusedSimpArgs false
set_option linter.unusedVariables false

theorem apart_conv (i : Nat) (hi : i < 100) : conv .u8 (i : Int) = (i : Int) ∧ add .i64 100 (i : Int) = ((100 + i : Nat) : Int) ∧ conv .u8 ((100 + i : Nat) : Int) = 100 + (i : Int) :=
  ⟨by rw [conv_u8]; omega, addN_i64 (a := 100) (by omega), by rw [conv_u8]; omega⟩
theorem apart_look {R : AV → Mem → Prop} {ls : List HS} {os : List (List Int)} (hO : ApartOk ls os) (hR : ∀ gs H, R (.one (.lit true)) [(13, Blk.vec [.hss .u8 gs]), (200000, .rview [.hss .u8 ls]), (900004, .heap .u8 H)]) : ∃ f4, ∀ gs H, Grown ls (fun _ => 20) gs H → lapart.l4 R gs ls H f4 0 := by
    have hn := hO.n
    have hc := apart_conv
    refine ⟨1 + tot (fun i => (hget ls i).len + 22) 0 ls.length, fun gs H hG => ?_⟩
    refine loop_inv (fun f i (_ : Unit) => lapart.l4 R gs ls H f i) ls.length (fun _ _ => True) (fun i => (hget ls i).len + 22) 1 (fun g i _ hi _ hnext => ?_) (fun _ _ => ?_) ls.length 0 () (by omega) trivial
    · have hrest := hnext () trivial
      obtain ⟨o1, o2, o3, o4⟩ := hG.own i hi
      obtain ⟨p1, p2, p3⟩ := hG.old i hi
      have hd := (hO.inn i hi).2.2
      have hlen := hG.len
      obtain ⟨c1, c2, c3⟩ := hc i (by omega)
      have key := loop_n (fun f t (_ : Unit) => lapart.l5 R (i : Int) gs ls H f t) (hget gs i).len (fun _ => ()) 1 (g + 1) (fun f t ht hf => by
        rw [lapart.l5_succ]
        have a1 : add .i64 (t : Int) 1 = ((t + 1 : Nat) : Int) := add1_i64 (by omega)
        have v := o4 t ht
        refine ⟨⟨by omega, by rw [llen]; omega⟩, fun _ => ⟨⟨by omega, by rw [llen]; omega⟩, fun q => ?_, fun q => ?_⟩, fun q => ?_⟩
        · rw [ige_true] at q
          simp only [nat_cast, ofNat_def, hl] at q
          rw [if_neg (by omega)] at v
          simp only [nat_cast, nadd_def, hj, ho, hl, c2, c3, v, a1, ine]
          refine ⟨⟨by omega, by rw [llen]; omega⟩, ⟨by omega, by omega⟩, fun q => ?_, fun _ => hf⟩
          simp at q
        · rw [ige_false] at q
          simp only [nat_cast, ofNat_def, hl] at q
          have htd : t < (hget ls i).len := by omega
          rw [if_pos htd] at v
          have v2 := p3 t htd
          simp only [nat_cast, nadd_def, hj, ho, hl, c1, v, v2, a1, ine]
          refine ⟨⟨by omega, by rw [llen]; omega⟩, ⟨by omega, by omega⟩, fun q => ?_, fun _ => ⟨⟨by omega, by rw [llen]; omega⟩, ⟨by omega, by omega⟩, fun q => ?_, fun _ => hf⟩⟩
          · simp at q
          · simp at q
        · rw [ilt_false] at q
          simp only [nat_cast, ofNat_def, hl] at q
          omega) (by
        rw [lapart.l5_succ]
        have a1 : add .i64 (i : Int) 1 = ((i + 1 : Nat) : Int) := add1_i64 (by omega)
        refine ⟨⟨by omega, by rw [llen]; omega⟩, fun q => ?_, fun _ => ?_⟩
        · rw [ilt_true] at q
          simp only [nat_cast, ofNat_def, hl] at q
          omega
        · rw [a1]; exact hrest) 0 (Nat.zero_le _)
      show lapart.l4 R gs ls H (g + ((hget ls i).len + 22)) (i : Int)
      rw [show g + ((hget ls i).len + 22) = (g + 1 + 1 * ((hget gs i).len - 0)) + 1 by omega, lapart.l4_succ]
      refine ⟨fun _ => key, fun q => ?_⟩
      rw [ilt_false] at q
      simp only [ofNat_def, llen] at q
      omega
    · show lapart.l4 R gs ls H 1 (ls.length : Int)
      rw [lapart.l4_succ]
      have hlen := hG.len
      refine ⟨fun q => ?_, fun _ => hR gs H⟩
      rw [ilt_true] at q
      simp only [ofNat_def, llen] at q
      omega
set_option maxHeartbeats 1000000 in
theorem apart_turns {R : AV → Mem → Prop} {ls : List HS} {os : List (List Int)} {f4 : Nat} (hO : ApartOk ls os) (look : ∀ gs H, Grown ls (fun _ => 20) gs H → lapart.l4 R gs ls H f4 0)   : ∃ f2, ∀ gs H, Grown ls (fun _ => 0) gs H → lapart.l2 R ls f2 0 gs H := by
    have hn := hO.n
    have hc := apart_conv
    suffices h : ∃ F, ∀ s : List HS × List (List Int), Grown ls (fun _ => 0) s.1 s.2 → lapart.l2 R ls F 0 s.1 s.2 from ⟨h.choose, fun gs H hG => h.choose_spec (gs, H) hG⟩
    refine loop_inv_ex (fun f r (s : List HS × List (List Int)) => lapart.l2 R ls f r s.1 s.2) 20 (fun r s => Grown ls (fun _ => r) s.1 s.2) (fun _ => ls.length + 2) (f4 + 1) (fun g r s hr hI hnext => ?_) (fun s hI => ?_)
    · show lapart.l2 R ls (g + (ls.length + 2)) (r : Int) s.1 s.2
      have inner := loop_inv (fun f i (s : List HS × List (List Int)) => lapart.l3 R (r : Int) ls f i s.1 s.2) ls.length (fun i s => Grown ls (fun k => if k < i then r + 1 else r) s.1 s.2) (fun _ => 1) (g + 1) (fun g' i s hi hJ hnx => by
        obtain ⟨o1, o2, o3, o4⟩ := hJ.own i hi
        have hd := (hO.inn i hi).2.2
        have hlen := hJ.len
        obtain ⟨c1, c2, c3⟩ := hc i (by omega)
        have a1 : add .i64 (i : Int) 1 = ((i + 1 : Nat) : Int) := add1_i64 (by omega)
        have o2' : (hget s.1 i).len ≤ 140737488355328 + 21 := by rw [o2]; split <;> omega
        show lapart.l3 R (r : Int) ls (g' + 1) (i : Int) s.1 s.2
        rw [lapart.l3_succ]
        refine ⟨fun _ => ⟨⟨by omega, by rw [llen]; omega⟩, ⟨?_⟩, fun os' j' off' hA => ⟨⟨by omega, by rw [llen]; omega⟩, ?_⟩⟩, fun q => ?_⟩
        · show (5 * ((hget s.1 i).len + 1) + 4096) * 1 ≤ _
          omega
        · rw [c2, c3] at hA
          rw [a1]
          have hG' := (grown_step hJ hi hA).congr (c' := fun k => if k < i + 1 then r + 1 else r) fun k hk => by
            by_cases e : k = i
            · subst e; simp
            · simp only [if_neg e]
              by_cases e2 : k < i
              · rw [if_pos e2, if_pos (by omega)]
              · rw [if_neg e2, if_neg (by omega)]
          exact hnx (hset s.1 i ⟨j', off', (hget s.1 i).len + 1⟩, os') hG'
        · rw [ilt_false] at q
          simp only [ofNat_def, llen] at q
          omega) (fun s hJ => by
        have hlen := hJ.len
        have a1 : add .i64 (r : Int) 1 = ((r + 1 : Nat) : Int) := add1_i64 (by omega)
        show lapart.l3 R (r : Int) ls (g + 1) (ls.length : Int) s.1 s.2
        rw [lapart.l3_succ]
        refine ⟨fun q => ?_, fun _ => ?_⟩
        · rw [ilt_true] at q
          simp only [ofNat_def, llen] at q
          omega
        · rw [a1]
          exact hnext s (hJ.congr fun k hk => by rw [if_pos hk])) ls.length 0 s (by omega) (hI.congr fun k _ => by simp)
      rw [tot_one] at inner
      rw [show g + (ls.length + 2) = (g + 1 + ls.length) + 1 by omega, lapart.l2_succ]
      refine ⟨fun _ => inner, fun q => ?_⟩
      rw [ilt_false] at q
      omega
    · show lapart.l2 R ls (f4 + 1) ((20 : Nat) : Int) s.1 s.2
      rw [lapart.l2_succ]
      refine ⟨fun q => ?_, fun _ => look s.1 s.2 hI⟩
      rw [ilt_true] at q
      omega
set_option maxHeartbeats 1000000 in
theorem apart_marks {R : AV → Mem → Prop} {ls : List HS} {os : List (List Int)} {f2 : Nat} (hO : ApartOk ls os) (turns : ∀ gs H, Grown ls (fun _ => 0) gs H → lapart.l2 R ls f2 0 gs H) : ∃ f, callsx Try.prog gam0 [] Try.f22 f [.one (.vec 200000)] [(200000, .rview [.hss .u8 ls]), (900004, .heap .u8 os)] R := by
  have hn := hO.n
  have hc := apart_conv
  obtain ⟨F, marks⟩ := loop_inv_ex (fun f i (s : List HS × List (List Int)) => lapart.l0 R ls f i s.1 s.2) ls.length (fun i s => Marked ls i 0 s.2 ∧ s.1.length = ls.length ∧ ∀ k, k < i → hget s.1 k = hget ls k) (fun i => (hget ls i).len + 2) (f2 + 1) (fun g i s hi hI hnext => by
    obtain ⟨hM, hl1, hcp⟩ := hI
    have hd := (hO.inn i hi).2.2
    obtain ⟨c1, c2, c3⟩ := hc i (by omega)
    have a1 : add .i64 (i : Int) 1 = ((i + 1 : Nat) : Int) := add1_i64 (by omega)
    have inner := loop_inv (fun f t (H : List (List Int)) => lapart.l1 R (i : Int) ls s.1 f t H) (hget ls i).len (fun t H => Marked ls i t H) (fun _ => 1) (g + 1) (fun g' t H ht hJ hnx => by
      have a2 : add .i64 (t : Int) 1 = ((t + 1 : Nat) : Int) := add1_i64 (by omega)
      show lapart.l1 R (i : Int) ls s.1 (g' + 1) (t : Int) H
      rw [lapart.l1_succ]
      refine ⟨⟨by omega, by rw [llen]; omega⟩, fun _ => ⟨⟨by omega, by rw [llen]; omega⟩, ⟨by omega, by simp only [nat_cast, hl]; omega⟩, ?_⟩, fun q => ?_⟩
      · rw [a2, c1]
        exact hnx _ (marked_step hO hJ hi ht)
      · rw [ilt_false] at q
        simp only [nat_cast, ofNat_def, hl] at q
        omega) (fun H hJ => by
      show lapart.l1 R (i : Int) ls s.1 (g + 1) ((hget ls i).len : Int) H
      rw [lapart.l1_succ]
      refine ⟨⟨by omega, by rw [llen]; omega⟩, fun q => ?_, fun _ => ⟨⟨by omega, by rw [llen]; omega⟩, ⟨by omega, by rw [llen]; omega⟩, ?_⟩⟩
      · rw [ilt_true] at q
        simp only [nat_cast, ofNat_def, hl] at q
        omega
      · rw [a1]
        refine hnext (hset s.1 i (hget ls i), H) ⟨marked_next hJ, by simpa [hset] using hl1, fun k hk => ?_⟩
        show hget (hset s.1 i (hget ls i)) k = _
        rw [hget_set _ _ _ _ (by omega)]
        by_cases e : k = i
        · subst e; rw [if_pos rfl]
        · rw [if_neg e]; exact hcp k (by omega)) (hget ls i).len 0 s.2 (by omega) hM
    rw [tot_one] at inner
    show lapart.l0 R ls (g + ((hget ls i).len + 2)) (i : Int) s.1 s.2
    rw [show g + ((hget ls i).len + 2) = (g + 1 + (hget ls i).len) + 1 by omega, lapart.l0_succ]
    refine ⟨fun _ => inner, fun q => ?_⟩
    rw [ilt_false] at q
    simp only [ofNat_def, llen] at q
    omega) (fun s hI => by
    obtain ⟨hM, hl1, hcp⟩ := hI
    show lapart.l0 R ls (f2 + 1) (ls.length : Int) s.1 s.2
    rw [lapart.l0_succ]
    refine ⟨fun q => ?_, fun _ => turns s.1 s.2 (grown_start hO hM hl1 hcp)⟩
    rw [ilt_true] at q
    simp only [ofNat_def, llen] at q
    omega)
  have first := marks (hzeros ls.length, os) ⟨⟨hO.z, fun k hk => ⟨(hO.inn k hk).1, (hO.inn k hk).2.1⟩, fun k _ u _ q => by omega⟩, by simp [hzeros], fun k q => by omega⟩
  refine ⟨F + 1, ?_⟩
  rw [lapart_vc]
  exact ⟨⟨by simp only [ofNat_def]; omega, by omega, by simp only [ofNat_def, llen]; omega, by simp only [ofNat_def, llen]; omega⟩, first⟩
theorem apart_yes {R : AV → Mem → Prop} {ls : List HS} {os : List (List Int)} (hO : ApartOk ls os) (hR : ∀ gs H, R (.one (.lit true)) [(13, Blk.vec [.hss .u8 gs]), (200000, .rview [.hss .u8 ls]), (900004, .heap .u8 H)]) : ∃ f, callsx Try.prog gam0 [] Try.f22 f [.one (.vec 200000)] [(200000, .rview [.hss .u8 ls]), (900004, .heap .u8 os)] R :=
  (apart_look hO hR).elim fun _ h4 => (apart_turns hO h4).elim fun _ h2 => apart_marks hO h2
end Go.Proofs.Ytkecbjohbihfmaa.G

/- What is known of the function that looks whether slices share memory. -/
namespace Go.Sx
open Go
set_option linter.unusedVariables false
def apartS : Spec := ⟨0, true, fun _ args σ K => match args with
  | [.one (.vec n)] => match Mem.cols σ n, Mem.heap σ .u8 with
    | some [.hss .u8 ls], some os => ApartOk ls os ∧ ∀ os', K (.one (.lit true)) (σ.put 900004 (.heap .u8 os'))
    | _, _ => False
  | _ => False⟩
def gamB10 : Gam := ext gamB9 22 apartS
end Go.Sx
namespace Go.Proofs.Ytkecbjohbihfmaa.G
open Go Go.Sx
set_option maxRecDepth 20000
set_option linter.unusedVariables false
theorem good_apart : Sx.Good Try.prog 22 apartS := by
  refine Sx.Good.heap (D := []) mixed (good0 _) Try.func22 (by kernel_rfl) rfl fun d args σ K h => ?_
  simp only [apartS] at h
  split at h <;> try exact h.elim
  rename_i n
  split at h <;> try exact h.elim
  rename_i ls os hcs ho
  obtain ⟨hO, hK⟩ := h
  refine ⟨.u8, os, _, _, [(200000, .rview [.hss .u8 ls]), (900004, .heap .u8 os)], ho, .row _ hcs (.nil _), by simp, fun m => ?_, apart_yes hO fun gs H => ⟨H, .one (.lit true), rfl, fun m hm => by simp [AV.refs, AC.refs] at hm, fun ρ v hv => hv, hK H⟩⟩
  simp only [Mem.find, hname]
  by_cases h1 : 200000 = m
  · subst h1; simp
  · by_cases h2 : 900004 = m
    · subst h2; simp
    · simp [h1, h2]
end Go.Proofs.Ytkecbjohbihfmaa.G

/- The verification conditions of functions, printed by a program of this session out of their codes. -/
namespace Go.Proofs.Ytkecbjohbihfmaa.G
open Go Go.Sx Go.Fld Go.Blk
set_option linter.unusedVariables false
set_option maxRecDepth 100000

def lmasks.k0 (R : AV → Mem → Prop) (k : List Int) (s : List Int) (p : List Int) (fuel m : Nat) : Prop := runM Try.prog gamB10 [⟨777777, [], true, false⟩] (resh Try.prog [⟨777777, [], true, false⟩] Try.f6.results.toList R) (run Try.prog gamB10 [⟨777777, [], true, false⟩] (resh Try.prog [⟨777777, [], true, false⟩] Try.f6.results.toList R) fuel) m [.code (cAt (bodyOf Try.f6) [1, 0, 1, 0, 1]), .code (cAt (bodyOf Try.f6) [1, 1, 1, 1, 1])] [AV.undef, AV.undef, (AV.one (AC.lit false)), (AV.one (AC.ptr 3 0 0)), (AV.one (AC.ptr 4 0 0)), AV.undef, (AV.one (AC.vec 200000)), (AV.one (AC.vec 29)), (AV.tup []), (AV.tup []), (AV.tup []), (AV.tup []), (AV.tup []), (AV.tup []), (AV.tup []), (AV.tup []), AV.undef, AV.undef, AV.undef, AV.undef, AV.undef, AV.undef, AV.undef, AV.undef, AV.undef, AV.undef, AV.undef, AV.undef, AV.undef, AV.undef, AV.undef, AV.undef, AV.undef, AV.undef, AV.undef, AV.undef, AV.undef, AV.undef, AV.undef, AV.undef, AV.undef, (AV.tup []), (AV.tup []), (AV.tup []), (AV.tup []), (AV.tup []), (AV.tup []), (AV.tup []), (AV.tup []), (AV.tup []), (AV.tup []), (AV.tup []), (AV.tup []), (AV.tup []), (AV.tup []), (AV.tup []), (AV.tup []), (AV.tup []), (AV.tup []), (AV.tup []), (AV.tup []), (AV.tup []), (AV.tup []), (AV.tup []), (AV.tup []), (AV.tup []), (AV.tup []), (AV.tup []), (AV.tup []), (AV.tup []), (AV.tup []), (AV.tup []), (AV.tup []), (AV.tup []), (AV.tup []), (AV.tup []), (AV.tup []), (AV.tup []), (AV.tup []), (AV.tup []), (AV.tup []), (AV.tup []), (AV.tup []), (AV.tup []), (AV.tup []), (AV.tup []), (AV.tup []), (AV.tup []), (AV.tup []), (AV.tup []), (AV.tup []), (AV.tup []), (AV.tup []), (AV.tup []), (AV.tup []), (AV.tup []), (AV.tup []), (AV.tup []), (AV.tup []), (AV.tup []), (AV.tup []), (AV.tup []), (AV.tup []), (AV.tup []), (AV.tup []), (AV.tup []), (AV.tup []), (AV.tup []), (AV.tup []), (AV.tup []), (AV.tup []), (AV.tup []), (AV.tup []), (AV.tup []), (AV.tup []), (AV.tup []), (AV.tup []), (AV.tup []), (AV.tup []), (AV.tup []), (AV.tup []), (AV.tup []), (AV.tup []), (AV.tup []), (AV.tup []), (AV.tup []), (AV.tup []), (AV.tup []), (AV.tup []), (AV.tup []), (AV.tup []), (AV.tup []), (AV.tup []), (AV.tup []), (AV.tup []), (AV.tup []), (AV.tup []), (AV.tup []), (AV.tup []), (AV.tup []), (AV.tup []), (AV.tup []), (AV.tup []), (AV.tup []), (AV.tup []), (AV.tup []), (AV.tup []), (AV.tup []), (AV.tup []), (AV.tup []), (AV.tup []), (AV.tup []), (AV.tup []), (AV.tup [])] [(3, Blk.own 22 [(Seg.ints IntKind.u8 16 (lsub k 0 16))]), (4, Blk.own 22 [(Seg.ints IntKind.u8 16 (lsub s 0 16))]), (29, Blk.vec [(Col.ints IntKind.u8 (Go.Blk.mask (Go.Blk.ks (lsub k 0 16)) (lsub s 0 16) p))]), (200000, Blk.rview [(Col.ints IntKind.u8 p)]), (900004, Blk.heap IntKind.u8 [[]])]

def lmasks.k1 (R : AV → Mem → Prop) (p : List Int) (k : List Int) (s : List Int) (y1 : List Int) (fuel m : Nat) : Prop := runM Try.prog gamB10 [⟨777777, [], true, false⟩] (resh Try.prog [⟨777777, [], true, false⟩] Try.f6.results.toList R) (run Try.prog gamB10 [⟨777777, [], true, false⟩] (resh Try.prog [⟨777777, [], true, false⟩] Try.f6.results.toList R) fuel) m [.code (cAt (bodyOf Try.f6) [1, 0, 1, 0, 1]), .code (cAt (bodyOf Try.f6) [1, 1, 1, 1, 1, 1, 1, 1, 1])] [AV.undef, AV.undef, (AV.one (AC.lit false)), (AV.one (AC.ptr 3 0 0)), (AV.one (AC.ptr 4 0 0)), AV.undef, (AV.one (AC.vec 200000)), (AV.one (AC.vec 29)), AV.undef, (AV.one (AC.vsl 45 1 0 (nat (ofNat (llen p))))), (AV.one (AC.vec 53)), (AV.one (AC.vec 57)), (AV.tup []), (AV.tup []), (AV.tup []), (AV.tup []), AV.undef, AV.undef, AV.undef, AV.undef, AV.undef, AV.undef, AV.undef, AV.undef, AV.undef, AV.undef, AV.undef, AV.undef, AV.undef, AV.undef, AV.undef, AV.undef, AV.undef, AV.undef, AV.undef, AV.undef, AV.undef, AV.undef, AV.undef, AV.undef, AV.undef, AV.undef, AV.undef, AV.undef, AV.undef, AV.undef, AV.undef, AV.undef, AV.undef, AV.undef, AV.undef, AV.undef, AV.undef, AV.undef, AV.undef, AV.undef, AV.undef, AV.undef, AV.undef, AV.undef, AV.undef, AV.undef, AV.undef, AV.undef, AV.undef, AV.undef, AV.undef, AV.undef, AV.undef, AV.undef, AV.undef, AV.undef, AV.undef, AV.undef, AV.undef, AV.undef, AV.undef, AV.undef, AV.undef, AV.undef, AV.undef, AV.undef, AV.undef, AV.undef, AV.undef, AV.undef, AV.undef, AV.undef, AV.undef, AV.undef, AV.undef, AV.undef, AV.undef, AV.undef, (AV.tup []), (AV.tup []), (AV.tup []), (AV.tup []), (AV.tup []), (AV.tup []), (AV.tup []), (AV.tup []), (AV.tup []), (AV.tup []), (AV.tup []), (AV.tup []), (AV.tup []), (AV.tup []), (AV.tup []), (AV.tup []), (AV.tup []), (AV.tup []), (AV.tup []), (AV.tup []), (AV.tup []), (AV.tup []), (AV.tup []), (AV.tup []), (AV.tup []), (AV.tup []), (AV.tup []), (AV.tup []), (AV.tup []), (AV.tup []), (AV.tup []), (AV.tup []), (AV.tup []), (AV.tup []), (AV.tup []), (AV.tup []), (AV.tup []), (AV.tup []), (AV.tup []), (AV.tup []), (AV.tup []), (AV.tup []), (AV.tup []), (AV.tup []), (AV.tup []), (AV.tup []), (AV.tup []), (AV.tup []), (AV.tup []), (AV.tup []), (AV.tup []), (AV.tup []), (AV.tup []), (AV.tup []), (AV.tup []), (AV.tup []), (AV.tup []), (AV.tup []), (AV.tup []), (AV.tup [])] [(3, Blk.own 22 [(Seg.ints IntKind.u8 16 (lsub k 0 16))]), (4, Blk.own 22 [(Seg.ints IntKind.u8 16 (lsub s 0 16))]), (29, Blk.vec [(Col.ints IntKind.u8 (Go.Blk.mask (Go.Blk.ks (lsub k 0 16)) (lsub s 0 16) p))]), (45, Blk.vec [(Col.ints IntKind.u8 (lcat (lcat [] p) [161, 162]))]), (53, Blk.vec [(Col.ints IntKind.u8 y1)]), (57, Blk.vec [(Col.ints IntKind.u8 y1)]), (200000, Blk.rview [(Col.ints IntKind.u8 p)]), (900004, Blk.heap IntKind.u8 [[]])]

def lmasks.k2 (R : AV → Mem → Prop) (p : List Int) (x7 : Int) (x8 : List Int) (k : List Int) (s : List Int) (y6 : List Int) (os'3 : List (List Int)) (fuel m : Nat) : Prop := runM Try.prog gamB10 [⟨777777, [], true, false⟩] (resh Try.prog [⟨777777, [], true, false⟩] Try.f6.results.toList R) (run Try.prog gamB10 [⟨777777, [], true, false⟩] (resh Try.prog [⟨777777, [], true, false⟩] Try.f6.results.toList R) fuel) m [.inLoop (cAt (bodyOf Try.f6) [1, 1, 1, 1, 1, 1, 1, 1, 1, 1, 1, 1, 0, 1, 0, 0]), .inBlock 0, .code (cAt (bodyOf Try.f6) [1, 1, 1, 1, 1, 1, 1, 1, 1, 1, 1, 1, 1])] [AV.undef, AV.undef, AV.undef, (AV.one (AC.ptr 3 0 0)), (AV.one (AC.ptr 4 0 0)), AV.undef, AV.undef, (AV.one (AC.vec 29)), AV.undef, (AV.one (AC.vsl 45 1 0 (nat (ofNat (llen p))))), AV.undef, AV.undef, AV.undef, AV.undef, (AV.one (AC.vec 123)), (AV.one (AC.int IntKind.i64 (add IntKind.i64 x7 1))), AV.undef, AV.undef, AV.undef, AV.undef, AV.undef, AV.undef, AV.undef, AV.undef, AV.undef, AV.undef, AV.undef, AV.undef, AV.undef, AV.undef, AV.undef, AV.undef, AV.undef, AV.undef, AV.undef, AV.undef, AV.undef, AV.undef, AV.undef, AV.undef, AV.undef, AV.undef, AV.undef, AV.undef, AV.undef, AV.undef, AV.undef, AV.undef, AV.undef, AV.undef, AV.undef, AV.undef, AV.undef, AV.undef, AV.undef, AV.undef, AV.undef, AV.undef, AV.undef, AV.undef, AV.undef, AV.undef, AV.undef, AV.undef, AV.undef, AV.undef, AV.undef, AV.undef, AV.undef, AV.undef, AV.undef, AV.undef, AV.undef, AV.undef, AV.undef, AV.undef, AV.undef, AV.undef, AV.undef, AV.undef, AV.undef, AV.undef, AV.undef, AV.undef, AV.undef, AV.undef, AV.undef, AV.undef, AV.undef, AV.undef, AV.undef, AV.undef, AV.undef, AV.undef, AV.undef, AV.undef, AV.undef, AV.undef, AV.undef, AV.undef, AV.undef, AV.undef, AV.undef, AV.undef, AV.undef, AV.undef, AV.undef, AV.undef, AV.undef, AV.undef, AV.undef, AV.undef, AV.undef, AV.undef, AV.undef, AV.undef, AV.undef, AV.undef, AV.undef, AV.undef, AV.undef, AV.undef, AV.undef, AV.undef, (AV.one (AC.int IntKind.i64 x7)), (AV.one (AC.vsl 45 1 0 (nat (ofNat (llen p))))), (AV.one (AC.int IntKind.i64 (ofNat (nat (ofNat (llen p)))))), (AV.one (AC.lit true)), (AV.one (AC.int IntKind.i64 x7)), (AV.one (AC.int IntKind.i64 (add IntKind.i64 x7 1))), (AV.one (AC.vsl 45 1 0 (nat (ofNat (llen p))))), (AV.one (AC.int IntKind.i64 x7)), (AV.one (AC.vptr 45 1 (nadd 0 (nat x7)) 0 0)), (AV.one (AC.int IntKind.u8 (lget x8 (nadd 0 (nat x7))))), (AV.one (AC.int IntKind.u8 (bxor IntKind.u8 (lget x8 (nadd 0 (nat x7))) 85))), (AV.one (AC.vptr 45 1 (nadd 0 (nat x7)) 0 0)), (AV.tup []), (AV.tup []), (AV.tup []), (AV.tup []), (AV.tup []), (AV.tup []), (AV.tup []), (AV.tup []), (AV.tup []), (AV.tup []), (AV.tup []), (AV.tup []), (AV.tup []), (AV.tup []), (AV.tup []), (AV.tup []), (AV.tup []), (AV.tup [])] [(3, Blk.own 22 [(Seg.ints IntKind.u8 16 (lsub k 0 16))]), (4, Blk.own 22 [(Seg.ints IntKind.u8 16 (lsub s 0 16))]), (29, Blk.vec [(Col.ints IntKind.u8 (Go.Blk.mask (Go.Blk.ks (lsub k 0 16)) (lsub s 0 16) p))]), (45, Blk.vec [(Col.ints IntKind.u8 (lset x8 (nadd 0 (nat x7)) (bxor IntKind.u8 (lget x8 (nadd 0 (nat x7))) 85)))]), (123, Blk.vec [(Col.ints IntKind.u8 y6)]), (200000, Blk.rview [(Col.ints IntKind.u8 p)]), (900004, Blk.heap IntKind.u8 os'3)]

def lmasks.k3 (R : AV → Mem → Prop) (p : List Int) (x7 : Int) (k : List Int) (s : List Int) (x8 : List Int) (y6 : List Int) (os'3 : List (List Int)) (fuel m : Nat) : Prop := runM Try.prog gamB10 [⟨777777, [], true, false⟩] (resh Try.prog [⟨777777, [], true, false⟩] Try.f6.results.toList R) (run Try.prog gamB10 [⟨777777, [], true, false⟩] (resh Try.prog [⟨777777, [], true, false⟩] Try.f6.results.toList R) fuel) m [.code (cAt (bodyOf Try.f6) [1, 0, 1, 1]), .code (cAt (bodyOf Try.f6) [1, 1, 1, 1, 1, 1, 1, 1, 1, 1, 1, 1, 0, 1, 0, 0, 1]), .inLoop (cAt (bodyOf Try.f6) [1, 1, 1, 1, 1, 1, 1, 1, 1, 1, 1, 1, 0, 1, 0, 0]), .inBlock 0, .code (cAt (bodyOf Try.f6) [1, 1, 1, 1, 1, 1, 1, 1, 1, 1, 1, 1, 1])] [AV.undef, AV.undef, AV.undef, (AV.one (AC.ptr 3 0 0)), (AV.one (AC.ptr 4 0 0)), AV.undef, AV.undef, (AV.one (AC.vec 29)), AV.undef, (AV.one (AC.vsl 45 1 0 (nat (ofNat (llen p))))), AV.undef, AV.undef, AV.undef, AV.undef, (AV.one (AC.vec 123)), (AV.one (AC.int IntKind.i64 x7)), AV.undef, AV.undef, AV.undef, AV.undef, AV.undef, AV.undef, AV.undef, AV.undef, AV.undef, AV.undef, AV.undef, AV.undef, AV.undef, AV.undef, AV.undef, AV.undef, AV.undef, AV.undef, AV.undef, AV.undef, AV.undef, AV.undef, AV.undef, AV.undef, AV.undef, AV.undef, AV.undef, AV.undef, AV.undef, AV.undef, AV.undef, AV.undef, AV.undef, AV.undef, AV.undef, AV.undef, AV.undef, AV.undef, AV.undef, AV.undef, AV.undef, AV.undef, AV.undef, AV.undef, AV.undef, AV.undef, AV.undef, AV.undef, AV.undef, AV.undef, AV.undef, AV.undef, AV.undef, AV.undef, AV.undef, AV.undef, AV.undef, AV.undef, AV.undef, AV.undef, AV.undef, AV.undef, AV.undef, AV.undef, AV.undef, AV.undef, AV.undef, AV.undef, AV.undef, AV.undef, AV.undef, AV.undef, AV.undef, AV.undef, AV.undef, AV.undef, AV.undef, AV.undef, AV.undef, AV.undef, AV.undef, AV.undef, AV.undef, AV.undef, AV.undef, AV.undef, AV.undef, AV.undef, AV.undef, AV.undef, AV.undef, AV.undef, AV.undef, AV.undef, AV.undef, AV.undef, AV.undef, AV.undef, AV.undef, AV.undef, AV.undef, AV.undef, AV.undef, AV.undef, AV.undef, AV.undef, AV.undef, AV.undef, (AV.one (AC.int IntKind.i64 x7)), (AV.one (AC.vsl 45 1 0 (nat (ofNat (llen p))))), (AV.one (AC.int IntKind.i64 (ofNat (nat (ofNat (llen p)))))), (AV.one (AC.lit true)), AV.undef, AV.undef, AV.undef, AV.undef, AV.undef, AV.undef, AV.undef, AV.undef, (AV.tup []), (AV.tup []), (AV.tup []), (AV.tup []), (AV.tup []), (AV.tup []), (AV.tup []), (AV.tup []), (AV.tup []), (AV.tup []), (AV.tup []), (AV.tup []), (AV.tup []), (AV.tup []), (AV.tup []), (AV.tup []), (AV.tup []), (AV.tup [])] [(3, Blk.own 22 [(Seg.ints IntKind.u8 16 (lsub k 0 16))]), (4, Blk.own 22 [(Seg.ints IntKind.u8 16 (lsub s 0 16))]), (29, Blk.vec [(Col.ints IntKind.u8 (Go.Blk.mask (Go.Blk.ks (lsub k 0 16)) (lsub s 0 16) p))]), (45, Blk.vec [(Col.ints IntKind.u8 x8)]), (123, Blk.vec [(Col.ints IntKind.u8 y6)]), (200000, Blk.rview [(Col.ints IntKind.u8 p)]), (900004, Blk.heap IntKind.u8 os'3)]

def lmasks.k4 (R : AV → Mem → Prop) (k : List Int) (s : List Int) (x8 : List Int) (p : List Int) (x7 : Int) (y6 : List Int) (os'3 : List (List Int)) (fuel m : Nat) : Prop := runM Try.prog gamB10 [⟨777777, [], true, false⟩] (resh Try.prog [⟨777777, [], true, false⟩] Try.f6.results.toList R) (run Try.prog gamB10 [⟨777777, [], true, false⟩] (resh Try.prog [⟨777777, [], true, false⟩] Try.f6.results.toList R) fuel) m [.code (cAt (bodyOf Try.f6) [1, 0, 1, 0, 1])] [AV.undef, AV.undef, (AV.one (AC.bool (seq2 (bytesOf (Go.Blk.mask (Go.Blk.ks (lsub k 0 16)) (lsub s 0 16) (lsub x8 0 (nat (ofNat (llen p)))))) (bytesOf (Go.Blk.mask (Go.Blk.ks (lsub k 0 16)) (lsub s 0 16) (lsub x8 0 (nat (ofNat (llen p))))))))), (AV.one (AC.ptr 3 0 0)), (AV.one (AC.ptr 4 0 0)), AV.undef, AV.undef, (AV.one (AC.vec 29)), AV.undef, (AV.one (AC.vsl 45 1 0 (nat (ofNat (llen p))))), AV.undef, AV.undef, AV.undef, AV.undef, (AV.one (AC.vec 123)), (AV.one (AC.int IntKind.i64 x7)), AV.undef, AV.undef, AV.undef, AV.undef, AV.undef, AV.undef, AV.undef, AV.undef, AV.undef, AV.undef, AV.undef, AV.undef, AV.undef, AV.undef, AV.undef, AV.undef, AV.undef, AV.undef, AV.undef, AV.undef, AV.undef, AV.undef, AV.undef, AV.undef, AV.undef, AV.undef, AV.undef, AV.undef, AV.undef, AV.undef, AV.undef, AV.undef, AV.undef, AV.undef, AV.undef, AV.undef, AV.undef, AV.undef, AV.undef, AV.undef, AV.undef, AV.undef, AV.undef, AV.undef, AV.undef, AV.undef, AV.undef, AV.undef, AV.undef, AV.undef, AV.undef, AV.undef, AV.undef, AV.undef, AV.undef, AV.undef, AV.undef, AV.undef, AV.undef, AV.undef, AV.undef, AV.undef, AV.undef, AV.undef, AV.undef, AV.undef, AV.undef, AV.undef, AV.undef, AV.undef, AV.undef, AV.undef, AV.undef, AV.undef, AV.undef, AV.undef, AV.undef, AV.undef, AV.undef, AV.undef, AV.undef, AV.undef, AV.undef, AV.undef, AV.undef, AV.undef, AV.undef, AV.undef, AV.undef, AV.undef, AV.undef, AV.undef, AV.undef, AV.undef, AV.undef, AV.undef, AV.undef, AV.undef, AV.undef, AV.undef, AV.undef, AV.undef, AV.undef, AV.undef, AV.undef, AV.undef, AV.undef, AV.undef, (AV.one (AC.int IntKind.i64 x7)), (AV.one (AC.vsl 45 1 0 (nat (ofNat (llen p))))), (AV.one (AC.int IntKind.i64 (ofNat (nat (ofNat (llen p)))))), (AV.one (AC.lit false)), AV.undef, AV.undef, AV.undef, AV.undef, AV.undef, AV.undef, AV.undef, AV.undef, (AV.one (AC.vec 123)), (AV.one (AC.str (bytesOf y6))), (AV.one (AC.vec 29)), (AV.one (AC.str (bytesOf (Go.Blk.mask (Go.Blk.ks (lsub k 0 16)) (lsub s 0 16) p)))), (AV.one (AC.bool (seq2 (bytesOf y6) (bytesOf (Go.Blk.mask (Go.Blk.ks (lsub k 0 16)) (lsub s 0 16) p))))), (AV.one (AC.lit true)), (AV.agg [(Seg.ints IntKind.u8 16 (lsub k 0 16))]), (AV.agg [(Seg.ints IntKind.u8 16 (lsub s 0 16))]), (AV.one (AC.vsl 45 1 0 (nat (ofNat (llen p))))), (AV.one (AC.vec 145)), (AV.one (AC.str (bytesOf (Go.Blk.mask (Go.Blk.ks (lsub k 0 16)) (lsub s 0 16) (lsub x8 0 (nat (ofNat (llen p)))))))), (AV.agg [(Seg.ints IntKind.u8 16 (lsub k 0 16))]), (AV.agg [(Seg.ints IntKind.u8 16 (lsub s 0 16))]), (AV.one (AC.vsl 45 1 0 (nat (ofNat (llen p))))), (AV.one (AC.vec 150)), (AV.one (AC.str (bytesOf (Go.Blk.mask (Go.Blk.ks (lsub k 0 16)) (lsub s 0 16) (lsub x8 0 (nat (ofNat (llen p)))))))), (AV.one (AC.bool (seq2 (bytesOf (Go.Blk.mask (Go.Blk.ks (lsub k 0 16)) (lsub s 0 16) (lsub x8 0 (nat (ofNat (llen p)))))) (bytesOf (Go.Blk.mask (Go.Blk.ks (lsub k 0 16)) (lsub s 0 16) (lsub x8 0 (nat (ofNat (llen p))))))))), (AV.one (AC.bool (seq2 (bytesOf (Go.Blk.mask (Go.Blk.ks (lsub k 0 16)) (lsub s 0 16) (lsub x8 0 (nat (ofNat (llen p)))))) (bytesOf (Go.Blk.mask (Go.Blk.ks (lsub k 0 16)) (lsub s 0 16) (lsub x8 0 (nat (ofNat (llen p)))))))))] [(3, Blk.own 22 [(Seg.ints IntKind.u8 16 (lsub k 0 16))]), (4, Blk.own 22 [(Seg.ints IntKind.u8 16 (lsub s 0 16))]), (29, Blk.vec [(Col.ints IntKind.u8 (Go.Blk.mask (Go.Blk.ks (lsub k 0 16)) (lsub s 0 16) p))]), (45, Blk.vec [(Col.ints IntKind.u8 x8)]), (123, Blk.vec [(Col.ints IntKind.u8 y6)]), (145, Blk.vec [(Col.ints IntKind.u8 (Go.Blk.mask (Go.Blk.ks (lsub k 0 16)) (lsub s 0 16) (lsub x8 0 (nat (ofNat (llen p))))))]), (150, Blk.vec [(Col.ints IntKind.u8 (Go.Blk.mask (Go.Blk.ks (lsub k 0 16)) (lsub s 0 16) (lsub x8 0 (nat (ofNat (llen p))))))]), (200000, Blk.rview [(Col.ints IntKind.u8 p)]), (900004, Blk.heap IntKind.u8 os'3)]

def lmasks.k5 (R : AV → Mem → Prop) (p : List Int) (x7 : Int) (y6 : List Int) (k : List Int) (s : List Int) (x8 : List Int) (os'3 : List (List Int)) (fuel m : Nat) : Prop := runM Try.prog gamB10 [⟨777777, [], true, false⟩] (resh Try.prog [⟨777777, [], true, false⟩] Try.f6.results.toList R) (run Try.prog gamB10 [⟨777777, [], true, false⟩] (resh Try.prog [⟨777777, [], true, false⟩] Try.f6.results.toList R) fuel) m [.code (cAt (bodyOf Try.f6) [1, 0, 1, 0, 1])] [AV.undef, AV.undef, (AV.one (AC.lit false)), (AV.one (AC.ptr 3 0 0)), (AV.one (AC.ptr 4 0 0)), AV.undef, AV.undef, (AV.one (AC.vec 29)), AV.undef, (AV.one (AC.vsl 45 1 0 (nat (ofNat (llen p))))), AV.undef, AV.undef, AV.undef, AV.undef, (AV.one (AC.vec 123)), (AV.one (AC.int IntKind.i64 x7)), AV.undef, AV.undef, AV.undef, AV.undef, AV.undef, AV.undef, AV.undef, AV.undef, AV.undef, AV.undef, AV.undef, AV.undef, AV.undef, AV.undef, AV.undef, AV.undef, AV.undef, AV.undef, AV.undef, AV.undef, AV.undef, AV.undef, AV.undef, AV.undef, AV.undef, AV.undef, AV.undef, AV.undef, AV.undef, AV.undef, AV.undef, AV.undef, AV.undef, AV.undef, AV.undef, AV.undef, AV.undef, AV.undef, AV.undef, AV.undef, AV.undef, AV.undef, AV.undef, AV.undef, AV.undef, AV.undef, AV.undef, AV.undef, AV.undef, AV.undef, AV.undef, AV.undef, AV.undef, AV.undef, AV.undef, AV.undef, AV.undef, AV.undef, AV.undef, AV.undef, AV.undef, AV.undef, AV.undef, AV.undef, AV.undef, AV.undef, AV.undef, AV.undef, AV.undef, AV.undef, AV.undef, AV.undef, AV.undef, AV.undef, AV.undef, AV.undef, AV.undef, AV.undef, AV.undef, AV.undef, AV.undef, AV.undef, AV.undef, AV.undef, AV.undef, AV.undef, AV.undef, AV.undef, AV.undef, AV.undef, AV.undef, AV.undef, AV.undef, AV.undef, AV.undef, AV.undef, AV.undef, AV.undef, AV.undef, AV.undef, AV.undef, AV.undef, AV.undef, AV.undef, AV.undef, AV.undef, AV.undef, AV.undef, (AV.one (AC.int IntKind.i64 x7)), (AV.one (AC.vsl 45 1 0 (nat (ofNat (llen p))))), (AV.one (AC.int IntKind.i64 (ofNat (nat (ofNat (llen p)))))), (AV.one (AC.lit false)), AV.undef, AV.undef, AV.undef, AV.undef, AV.undef, AV.undef, AV.undef, AV.undef, (AV.one (AC.vec 123)), (AV.one (AC.str (bytesOf y6))), (AV.one (AC.vec 29)), (AV.one (AC.str (bytesOf (Go.Blk.mask (Go.Blk.ks (lsub k 0 16)) (lsub s 0 16) p)))), (AV.one (AC.bool (seq2 (bytesOf y6) (bytesOf (Go.Blk.mask (Go.Blk.ks (lsub k 0 16)) (lsub s 0 16) p))))), (AV.one (AC.lit false)), (AV.tup []), (AV.tup []), (AV.tup []), (AV.tup []), (AV.tup []), (AV.tup []), (AV.tup []), (AV.tup []), (AV.tup []), (AV.tup []), (AV.tup []), (AV.one (AC.lit false))] [(3, Blk.own 22 [(Seg.ints IntKind.u8 16 (lsub k 0 16))]), (4, Blk.own 22 [(Seg.ints IntKind.u8 16 (lsub s 0 16))]), (29, Blk.vec [(Col.ints IntKind.u8 (Go.Blk.mask (Go.Blk.ks (lsub k 0 16)) (lsub s 0 16) p))]), (45, Blk.vec [(Col.ints IntKind.u8 x8)]), (123, Blk.vec [(Col.ints IntKind.u8 y6)]), (200000, Blk.rview [(Col.ints IntKind.u8 p)]), (900004, Blk.heap IntKind.u8 os'3)]

def lmasks.k6 (R : AV → Mem → Prop) (p : List Int) (x7 : Int) (k : List Int) (s : List Int) (x8 : List Int) (y6 : List Int) (os'3 : List (List Int)) (fuel m : Nat) : Prop := runM Try.prog gamB10 [⟨777777, [], true, false⟩] (resh Try.prog [⟨777777, [], true, false⟩] Try.f6.results.toList R) (run Try.prog gamB10 [⟨777777, [], true, false⟩] (resh Try.prog [⟨777777, [], true, false⟩] Try.f6.results.toList R) fuel) m [.code (cAt (bodyOf Try.f6) [1, 1, 1, 1, 1, 1, 1, 1, 1, 1, 1, 1, 0, 1, 0, 0, 0, 1, 1]), .code (cAt (bodyOf Try.f6) [1, 1, 1, 1, 1, 1, 1, 1, 1, 1, 1, 1, 0, 1, 0, 0, 1]), .inLoop (cAt (bodyOf Try.f6) [1, 1, 1, 1, 1, 1, 1, 1, 1, 1, 1, 1, 0, 1, 0, 0]), .inBlock 0, .code (cAt (bodyOf Try.f6) [1, 1, 1, 1, 1, 1, 1, 1, 1, 1, 1, 1, 1])] [AV.undef, AV.undef, AV.undef, (AV.one (AC.ptr 3 0 0)), (AV.one (AC.ptr 4 0 0)), AV.undef, AV.undef, (AV.one (AC.vec 29)), AV.undef, (AV.one (AC.vsl 45 1 0 (nat (ofNat (llen p))))), AV.undef, AV.undef, AV.undef, AV.undef, (AV.one (AC.vec 123)), (AV.one (AC.int IntKind.i64 x7)), AV.undef, AV.undef, AV.undef, AV.undef, AV.undef, AV.undef, AV.undef, AV.undef, AV.undef, AV.undef, AV.undef, AV.undef, AV.undef, AV.undef, AV.undef, AV.undef, AV.undef, AV.undef, AV.undef, AV.undef, AV.undef, AV.undef, AV.undef, AV.undef, AV.undef, AV.undef, AV.undef, AV.undef, AV.undef, AV.undef, AV.undef, AV.undef, AV.undef, AV.undef, AV.undef, AV.undef, AV.undef, AV.undef, AV.undef, AV.undef, AV.undef, AV.undef, AV.undef, AV.undef, AV.undef, AV.undef, AV.undef, AV.undef, AV.undef, AV.undef, AV.undef, AV.undef, AV.undef, AV.undef, AV.undef, AV.undef, AV.undef, AV.undef, AV.undef, AV.undef, AV.undef, AV.undef, AV.undef, AV.undef, AV.undef, AV.undef, AV.undef, AV.undef, AV.undef, AV.undef, AV.undef, AV.undef, AV.undef, AV.undef, AV.undef, AV.undef, AV.undef, AV.undef, AV.undef, AV.undef, AV.undef, AV.undef, AV.undef, AV.undef, AV.undef, AV.undef, AV.undef, AV.undef, AV.undef, AV.undef, AV.undef, AV.undef, AV.undef, AV.undef, AV.undef, AV.undef, AV.undef, AV.undef, AV.undef, AV.undef, AV.undef, AV.undef, AV.undef, AV.undef, AV.undef, AV.undef, AV.undef, AV.undef, (AV.one (AC.int IntKind.i64 x7)), (AV.one (AC.vsl 45 1 0 (nat (ofNat (llen p))))), (AV.one (AC.int IntKind.i64 (ofNat (nat (ofNat (llen p)))))), (AV.one (AC.lit false)), AV.undef, AV.undef, AV.undef, AV.undef, AV.undef, AV.undef, AV.undef, AV.undef, (AV.tup []), (AV.tup []), (AV.tup []), (AV.tup []), (AV.tup []), (AV.tup []), (AV.tup []), (AV.tup []), (AV.tup []), (AV.tup []), (AV.tup []), (AV.tup []), (AV.tup []), (AV.tup []), (AV.tup []), (AV.tup []), (AV.tup []), (AV.tup [])] [(3, Blk.own 22 [(Seg.ints IntKind.u8 16 (lsub k 0 16))]), (4, Blk.own 22 [(Seg.ints IntKind.u8 16 (lsub s 0 16))]), (29, Blk.vec [(Col.ints IntKind.u8 (Go.Blk.mask (Go.Blk.ks (lsub k 0 16)) (lsub s 0 16) p))]), (45, Blk.vec [(Col.ints IntKind.u8 x8)]), (123, Blk.vec [(Col.ints IntKind.u8 y6)]), (200000, Blk.rview [(Col.ints IntKind.u8 p)]), (900004, Blk.heap IntKind.u8 os'3)]

def lmasks.k7 (R : AV → Mem → Prop) (p : List Int) (x7 : Int) (k : List Int) (s : List Int) (x8 : List Int) (y6 : List Int) (os'3 : List (List Int)) (fuel m : Nat) : Prop := runM Try.prog gamB10 [⟨777777, [], true, false⟩] (resh Try.prog [⟨777777, [], true, false⟩] Try.f6.results.toList R) (run Try.prog gamB10 [⟨777777, [], true, false⟩] (resh Try.prog [⟨777777, [], true, false⟩] Try.f6.results.toList R) fuel) m [.code (cAt (bodyOf Try.f6) [1, 1, 1, 1, 1, 1, 1, 1, 1, 1, 1, 1, 0, 1, 0, 0, 0, 1]), .code (cAt (bodyOf Try.f6) [1, 1, 1, 1, 1, 1, 1, 1, 1, 1, 1, 1, 0, 1, 0, 0, 1]), .inLoop (cAt (bodyOf Try.f6) [1, 1, 1, 1, 1, 1, 1, 1, 1, 1, 1, 1, 0, 1, 0, 0]), .inBlock 0, .code (cAt (bodyOf Try.f6) [1, 1, 1, 1, 1, 1, 1, 1, 1, 1, 1, 1, 1])] [AV.undef, AV.undef, AV.undef, (AV.one (AC.ptr 3 0 0)), (AV.one (AC.ptr 4 0 0)), AV.undef, AV.undef, (AV.one (AC.vec 29)), AV.undef, (AV.one (AC.vsl 45 1 0 (nat (ofNat (llen p))))), AV.undef, AV.undef, AV.undef, AV.undef, (AV.one (AC.vec 123)), (AV.one (AC.int IntKind.i64 x7)), AV.undef, AV.undef, AV.undef, AV.undef, AV.undef, AV.undef, AV.undef, AV.undef, AV.undef, AV.undef, AV.undef, AV.undef, AV.undef, AV.undef, AV.undef, AV.undef, AV.undef, AV.undef, AV.undef, AV.undef, AV.undef, AV.undef, AV.undef, AV.undef, AV.undef, AV.undef, AV.undef, AV.undef, AV.undef, AV.undef, AV.undef, AV.undef, AV.undef, AV.undef, AV.undef, AV.undef, AV.undef, AV.undef, AV.undef, AV.undef, AV.undef, AV.undef, AV.undef, AV.undef, AV.undef, AV.undef, AV.undef, AV.undef, AV.undef, AV.undef, AV.undef, AV.undef, AV.undef, AV.undef, AV.undef, AV.undef, AV.undef, AV.undef, AV.undef, AV.undef, AV.undef, AV.undef, AV.undef, AV.undef, AV.undef, AV.undef, AV.undef, AV.undef, AV.undef, AV.undef, AV.undef, AV.undef, AV.undef, AV.undef, AV.undef, AV.undef, AV.undef, AV.undef, AV.undef, AV.undef, AV.undef, AV.undef, AV.undef, AV.undef, AV.undef, AV.undef, AV.undef, AV.undef, AV.undef, AV.undef, AV.undef, AV.undef, AV.undef, AV.undef, AV.undef, AV.undef, AV.undef, AV.undef, AV.undef, AV.undef, AV.undef, AV.undef, AV.undef, AV.undef, AV.undef, AV.undef, AV.undef, AV.undef, (AV.one (AC.int IntKind.i64 x7)), (AV.one (AC.vsl 45 1 0 (nat (ofNat (llen p))))), (AV.one (AC.int IntKind.i64 (ofNat (nat (ofNat (llen p)))))), (AV.one (AC.bool (ilt x7 (ofNat (nat (ofNat (llen p))))))), AV.undef, AV.undef, AV.undef, AV.undef, AV.undef, AV.undef, AV.undef, AV.undef, (AV.tup []), (AV.tup []), (AV.tup []), (AV.tup []), (AV.tup []), (AV.tup []), (AV.tup []), (AV.tup []), (AV.tup []), (AV.tup []), (AV.tup []), (AV.tup []), (AV.tup []), (AV.tup []), (AV.tup []), (AV.tup []), (AV.tup []), (AV.tup [])] [(3, Blk.own 22 [(Seg.ints IntKind.u8 16 (lsub k 0 16))]), (4, Blk.own 22 [(Seg.ints IntKind.u8 16 (lsub s 0 16))]), (29, Blk.vec [(Col.ints IntKind.u8 (Go.Blk.mask (Go.Blk.ks (lsub k 0 16)) (lsub s 0 16) p))]), (45, Blk.vec [(Col.ints IntKind.u8 x8)]), (123, Blk.vec [(Col.ints IntKind.u8 y6)]), (200000, Blk.rview [(Col.ints IntKind.u8 p)]), (900004, Blk.heap IntKind.u8 os'3)]

def lmasks.l0 (R : AV → Mem → Prop) (p : List Int) (k : List Int) (s : List Int) (y6 : List Int) (os'3 : List (List Int)) (fuel : Nat) (x7 : Int) (x8 : List Int) : Prop := run Try.prog gamB10 [⟨777777, [], true, false⟩] (resh Try.prog [⟨777777, [], true, false⟩] Try.f6.results.toList R) fuel [.code (cAt (bodyOf Try.f6) [1, 1, 1, 1, 1, 1, 1, 1, 1, 1, 1, 1, 0, 1, 0, 0]), .inLoop (cAt (bodyOf Try.f6) [1, 1, 1, 1, 1, 1, 1, 1, 1, 1, 1, 1, 0, 1, 0, 0]), .inBlock 0, .code (cAt (bodyOf Try.f6) [1, 1, 1, 1, 1, 1, 1, 1, 1, 1, 1, 1, 1])] [AV.undef, AV.undef, AV.undef, (AV.one (AC.ptr 3 0 0)), (AV.one (AC.ptr 4 0 0)), AV.undef, AV.undef, (AV.one (AC.vec 29)), AV.undef, (AV.one (AC.vsl 45 1 0 (nat (ofNat (llen p))))), AV.undef, AV.undef, AV.undef, AV.undef, (AV.one (AC.vec 123)), (AV.one (AC.int IntKind.i64 x7)), AV.undef, AV.undef, AV.undef, AV.undef, AV.undef, AV.undef, AV.undef, AV.undef, AV.undef, AV.undef, AV.undef, AV.undef, AV.undef, AV.undef, AV.undef, AV.undef, AV.undef, AV.undef, AV.undef, AV.undef, AV.undef, AV.undef, AV.undef, AV.undef, AV.undef, AV.undef, AV.undef, AV.undef, AV.undef, AV.undef, AV.undef, AV.undef, AV.undef, AV.undef, AV.undef, AV.undef, AV.undef, AV.undef, AV.undef, AV.undef, AV.undef, AV.undef, AV.undef, AV.undef, AV.undef, AV.undef, AV.undef, AV.undef, AV.undef, AV.undef, AV.undef, AV.undef, AV.undef, AV.undef, AV.undef, AV.undef, AV.undef, AV.undef, AV.undef, AV.undef, AV.undef, AV.undef, AV.undef, AV.undef, AV.undef, AV.undef, AV.undef, AV.undef, AV.undef, AV.undef, AV.undef, AV.undef, AV.undef, AV.undef, AV.undef, AV.undef, AV.undef, AV.undef, AV.undef, AV.undef, AV.undef, AV.undef, AV.undef, AV.undef, AV.undef, AV.undef, AV.undef, AV.undef, AV.undef, AV.undef, AV.undef, AV.undef, AV.undef, AV.undef, AV.undef, AV.undef, AV.undef, AV.undef, AV.undef, AV.undef, AV.undef, AV.undef, AV.undef, AV.undef, AV.undef, AV.undef, AV.undef, AV.undef, AV.undef, AV.undef, AV.undef, AV.undef, AV.undef, AV.undef, AV.undef, AV.undef, AV.undef, AV.undef, AV.undef, AV.undef, (AV.tup []), (AV.tup []), (AV.tup []), (AV.tup []), (AV.tup []), (AV.tup []), (AV.tup []), (AV.tup []), (AV.tup []), (AV.tup []), (AV.tup []), (AV.tup []), (AV.tup []), (AV.tup []), (AV.tup []), (AV.tup []), (AV.tup []), (AV.tup [])] [(3, Blk.own 22 [(Seg.ints IntKind.u8 16 (lsub k 0 16))]), (4, Blk.own 22 [(Seg.ints IntKind.u8 16 (lsub s 0 16))]), (29, Blk.vec [(Col.ints IntKind.u8 (Go.Blk.mask (Go.Blk.ks (lsub k 0 16)) (lsub s 0 16) p))]), (45, Blk.vec [(Col.ints IntKind.u8 x8)]), (123, Blk.vec [(Col.ints IntKind.u8 y6)]), (200000, Blk.rview [(Col.ints IntKind.u8 p)]), (900004, Blk.heap IntKind.u8 os'3)]

def lmasks.k8 (R : AV → Mem → Prop) (p : List Int) (k : List Int) (s : List Int) (y6 : List Int) (os'3 : List (List Int)) (fuel m : Nat) : Prop := runM Try.prog gamB10 [⟨777777, [], true, false⟩] (resh Try.prog [⟨777777, [], true, false⟩] Try.f6.results.toList R) (run Try.prog gamB10 [⟨777777, [], true, false⟩] (resh Try.prog [⟨777777, [], true, false⟩] Try.f6.results.toList R) fuel) m [.code (cAt (bodyOf Try.f6) [1, 1, 1, 1, 1, 1, 1, 1, 1, 1, 1, 1, 0, 1]), .code (cAt (bodyOf Try.f6) [1, 1, 1, 1, 1, 1, 1, 1, 1, 1, 1, 1, 1])] [AV.undef, AV.undef, AV.undef, (AV.one (AC.ptr 3 0 0)), (AV.one (AC.ptr 4 0 0)), AV.undef, AV.undef, (AV.one (AC.vec 29)), AV.undef, (AV.one (AC.vsl 45 1 0 (nat (ofNat (llen p))))), AV.undef, AV.undef, AV.undef, AV.undef, (AV.one (AC.vec 123)), (AV.one (AC.int IntKind.i64 0)), AV.undef, AV.undef, AV.undef, AV.undef, AV.undef, AV.undef, AV.undef, AV.undef, AV.undef, AV.undef, AV.undef, AV.undef, AV.undef, AV.undef, AV.undef, AV.undef, AV.undef, AV.undef, AV.undef, AV.undef, AV.undef, AV.undef, AV.undef, AV.undef, AV.undef, AV.undef, AV.undef, AV.undef, AV.undef, AV.undef, AV.undef, AV.undef, AV.undef, AV.undef, AV.undef, AV.undef, AV.undef, AV.undef, AV.undef, AV.undef, AV.undef, AV.undef, AV.undef, AV.undef, AV.undef, AV.undef, AV.undef, AV.undef, AV.undef, AV.undef, AV.undef, AV.undef, AV.undef, AV.undef, AV.undef, AV.undef, AV.undef, AV.undef, AV.undef, AV.undef, AV.undef, AV.undef, AV.undef, AV.undef, AV.undef, AV.undef, AV.undef, AV.undef, AV.undef, AV.undef, AV.undef, AV.undef, AV.undef, AV.undef, AV.undef, AV.undef, AV.undef, AV.undef, AV.undef, AV.undef, AV.undef, AV.undef, AV.undef, AV.undef, AV.undef, AV.undef, AV.undef, AV.undef, AV.undef, AV.undef, AV.undef, AV.undef, AV.undef, AV.undef, AV.undef, AV.undef, AV.undef, AV.undef, AV.undef, AV.undef, AV.undef, AV.undef, AV.undef, AV.undef, (AV.agg [(Seg.ints IntKind.u8 16 (lsub k 0 16))]), (AV.agg [(Seg.ints IntKind.u8 16 (lsub s 0 16))]), (AV.one (AC.vsl 45 1 0 (nat (ofNat (llen p))))), (AV.one (AC.vec 123)), (AV.tup []), (AV.tup []), (AV.tup []), (AV.tup []), (AV.tup []), (AV.tup []), (AV.tup []), (AV.tup []), (AV.tup []), (AV.tup []), (AV.tup []), (AV.tup []), (AV.tup []), (AV.tup []), (AV.tup []), (AV.tup []), (AV.tup []), (AV.tup []), (AV.tup []), (AV.tup []), (AV.tup []), (AV.tup []), (AV.tup []), (AV.tup []), (AV.tup []), (AV.tup []), (AV.tup []), (AV.tup []), (AV.tup []), (AV.tup [])] [(3, Blk.own 22 [(Seg.ints IntKind.u8 16 (lsub k 0 16))]), (4, Blk.own 22 [(Seg.ints IntKind.u8 16 (lsub s 0 16))]), (29, Blk.vec [(Col.ints IntKind.u8 (Go.Blk.mask (Go.Blk.ks (lsub k 0 16)) (lsub s 0 16) p))]), (45, Blk.vec [(Col.ints IntKind.u8 (lcat (lcat [] p) [161, 162]))]), (123, Blk.vec [(Col.ints IntKind.u8 y6)]), (200000, Blk.rview [(Col.ints IntKind.u8 p)]), (900004, Blk.heap IntKind.u8 os'3)]

def lmasks.k9 (R : AV → Mem → Prop) (p : List Int) (k : List Int) (s : List Int) (os'3 : List (List Int)) (fuel m : Nat) : Prop := runM Try.prog gamB10 [⟨777777, [], true, false⟩] (resh Try.prog [⟨777777, [], true, false⟩] Try.f6.results.toList R) (run Try.prog gamB10 [⟨777777, [], true, false⟩] (resh Try.prog [⟨777777, [], true, false⟩] Try.f6.results.toList R) fuel) m [.code (cAt (bodyOf Try.f6) [1, 0, 1, 1]), .code (cAt (bodyOf Try.f6) [1, 1, 1, 1, 1, 1, 1, 1, 1, 1, 1])] [AV.undef, AV.undef, AV.undef, (AV.one (AC.ptr 3 0 0)), (AV.one (AC.ptr 4 0 0)), AV.undef, AV.undef, (AV.one (AC.vec 29)), AV.undef, (AV.one (AC.vsl 45 1 0 (nat (ofNat (llen p))))), AV.undef, AV.undef, AV.undef, AV.undef, (AV.tup []), (AV.tup []), AV.undef, AV.undef, AV.undef, AV.undef, AV.undef, AV.undef, AV.undef, AV.undef, AV.undef, AV.undef, AV.undef, AV.undef, AV.undef, AV.undef, AV.undef, AV.undef, AV.undef, AV.undef, AV.undef, AV.undef, AV.undef, AV.undef, AV.undef, AV.undef, AV.undef, AV.undef, AV.undef, AV.undef, AV.undef, AV.undef, AV.undef, AV.undef, AV.undef, AV.undef, AV.undef, AV.undef, AV.undef, AV.undef, AV.undef, AV.undef, AV.undef, AV.undef, AV.undef, AV.undef, AV.undef, AV.undef, AV.undef, AV.undef, AV.undef, AV.undef, AV.undef, AV.undef, AV.undef, AV.undef, AV.undef, AV.undef, AV.undef, AV.undef, AV.undef, AV.undef, AV.undef, AV.undef, AV.undef, AV.undef, AV.undef, AV.undef, AV.undef, AV.undef, AV.undef, AV.undef, AV.undef, AV.undef, AV.undef, AV.undef, AV.undef, AV.undef, AV.undef, AV.undef, AV.undef, AV.undef, AV.undef, AV.undef, AV.undef, AV.undef, AV.undef, AV.undef, AV.undef, AV.undef, AV.undef, AV.undef, AV.undef, AV.undef, AV.undef, AV.undef, AV.undef, AV.undef, AV.undef, AV.undef, AV.undef, AV.undef, AV.undef, AV.undef, AV.undef, AV.undef, (AV.tup []), (AV.tup []), (AV.tup []), (AV.tup []), (AV.tup []), (AV.tup []), (AV.tup []), (AV.tup []), (AV.tup []), (AV.tup []), (AV.tup []), (AV.tup []), (AV.tup []), (AV.tup []), (AV.tup []), (AV.tup []), (AV.tup []), (AV.tup []), (AV.tup []), (AV.tup []), (AV.tup []), (AV.tup []), (AV.tup []), (AV.tup []), (AV.tup []), (AV.tup []), (AV.tup []), (AV.tup []), (AV.tup []), (AV.tup []), (AV.tup []), (AV.tup []), (AV.tup []), (AV.tup [])] [(3, Blk.own 22 [(Seg.ints IntKind.u8 16 (lsub k 0 16))]), (4, Blk.own 22 [(Seg.ints IntKind.u8 16 (lsub s 0 16))]), (29, Blk.vec [(Col.ints IntKind.u8 (Go.Blk.mask (Go.Blk.ks (lsub k 0 16)) (lsub s 0 16) p))]), (45, Blk.vec [(Col.ints IntKind.u8 (lcat (lcat [] p) [161, 162]))]), (200000, Blk.rview [(Col.ints IntKind.u8 p)]), (900004, Blk.heap IntKind.u8 os'3)]

def lmasks.k10 (R : AV → Mem → Prop) (p : List Int) (y1 : List Int) (k : List Int) (s : List Int) (os'3 : List (List Int)) (fuel m : Nat) : Prop := runM Try.prog gamB10 [⟨777777, [], true, false⟩] (resh Try.prog [⟨777777, [], true, false⟩] Try.f6.results.toList R) (run Try.prog gamB10 [⟨777777, [], true, false⟩] (resh Try.prog [⟨777777, [], true, false⟩] Try.f6.results.toList R) fuel) m [.code (cAt (bodyOf Try.f6) [1, 1, 1, 1, 1, 1, 1, 1, 1, 1, 0, 1]), .code (cAt (bodyOf Try.f6) [1, 1, 1, 1, 1, 1, 1, 1, 1, 1, 1])] [AV.undef, AV.undef, AV.undef, (AV.one (AC.ptr 3 0 0)), (AV.one (AC.ptr 4 0 0)), AV.undef, (AV.one (AC.vec 200000)), (AV.one (AC.vec 29)), AV.undef, (AV.one (AC.vsl 45 1 0 (nat (ofNat (llen p))))), (AV.one (AC.hs IntKind.u8 1 0 (llen y1))), (AV.one (AC.hs IntKind.u8 (llen [[], y1]) 0 (llen y1))), (AV.one (AC.hs IntKind.u8 (llen [[], y1, y1]) 0 (llen (Go.Blk.strmI (Go.Blk.ks (lsub k 0 16)) (lsub s 0 16) (rem (ofNat (llen p)) 100))))), (AV.one (AC.hs IntKind.u8 (llen [[], y1, y1, (Go.Blk.strmI (Go.Blk.ks (lsub k 0 16)) (lsub s 0 16) (rem (ofNat (llen p)) 100))]) 0 (llen (Go.Blk.strmI (Go.Blk.ks (lsub k 0 16)) (lsub s 0 16) (rem (ofNat (llen p)) 100))))), (AV.tup []), (AV.tup []), AV.undef, AV.undef, AV.undef, AV.undef, AV.undef, AV.undef, AV.undef, AV.undef, AV.undef, AV.undef, AV.undef, AV.undef, AV.undef, AV.undef, AV.undef, AV.undef, AV.undef, AV.undef, AV.undef, AV.undef, AV.undef, AV.undef, AV.undef, AV.undef, AV.undef, AV.undef, AV.undef, AV.undef, AV.undef, AV.undef, AV.undef, AV.undef, AV.undef, AV.undef, AV.undef, AV.undef, AV.undef, AV.undef, AV.undef, AV.undef, AV.undef, AV.undef, AV.undef, AV.undef, AV.undef, AV.undef, AV.undef, AV.undef, AV.undef, AV.undef, AV.undef, AV.undef, AV.undef, AV.undef, AV.undef, AV.undef, AV.undef, AV.undef, AV.undef, AV.undef, AV.undef, AV.undef, AV.undef, AV.undef, AV.undef, AV.undef, AV.undef, AV.undef, AV.undef, AV.undef, AV.undef, AV.undef, AV.undef, AV.undef, AV.undef, AV.undef, AV.undef, AV.undef, (AV.agg [(Seg.ints IntKind.u8 16 (lsub k 0 16))]), (AV.agg [(Seg.ints IntKind.u8 16 (lsub s 0 16))]), (AV.one (AC.vec 200000)), (AV.one (AC.int IntKind.i64 (ofNat (llen p)))), (AV.one (AC.int IntKind.i64 (rem (ofNat (llen p)) 100))), (AV.one (AC.hs IntKind.u8 (llen [[], y1, y1]) 0 (llen (Go.Blk.strmI (Go.Blk.ks (lsub k 0 16)) (lsub s 0 16) (rem (ofNat (llen p)) 100))))), (AV.agg [(Seg.ints IntKind.u8 16 (lsub k 0 16))]), (AV.agg [(Seg.ints IntKind.u8 16 (lsub s 0 16))]), (AV.one (AC.vec 200000)), (AV.one (AC.int IntKind.i64 (ofNat (llen p)))), (AV.one (AC.int IntKind.i64 (rem (ofNat (llen p)) 100))), (AV.one (AC.hs IntKind.u8 (llen [[], y1, y1, (Go.Blk.strmI (Go.Blk.ks (lsub k 0 16)) (lsub s 0 16) (rem (ofNat (llen p)) 100))]) 0 (llen (Go.Blk.strmI (Go.Blk.ks (lsub k 0 16)) (lsub s 0 16) (rem (ofNat (llen p)) 100))))), (AV.one (AC.hs IntKind.u8 (llen [[], y1, y1]) 0 (llen (Go.Blk.strmI (Go.Blk.ks (lsub k 0 16)) (lsub s 0 16) (rem (ofNat (llen p)) 100))))), (AV.one (AC.str (bytesOf (Go.Blk.strmI (Go.Blk.ks (lsub k 0 16)) (lsub s 0 16) (rem (ofNat (llen p)) 100))))), (AV.one (AC.hs IntKind.u8 (llen [[], y1, y1, (Go.Blk.strmI (Go.Blk.ks (lsub k 0 16)) (lsub s 0 16) (rem (ofNat (llen p)) 100))]) 0 (llen (Go.Blk.strmI (Go.Blk.ks (lsub k 0 16)) (lsub s 0 16) (rem (ofNat (llen p)) 100))))), (AV.one (AC.str (bytesOf (Go.Blk.strmI (Go.Blk.ks (lsub k 0 16)) (lsub s 0 16) (rem (ofNat (llen p)) 100))))), (AV.one (AC.bool (bnot (seq2 (bytesOf (Go.Blk.strmI (Go.Blk.ks (lsub k 0 16)) (lsub s 0 16) (rem (ofNat (llen p)) 100))) (bytesOf (Go.Blk.strmI (Go.Blk.ks (lsub k 0 16)) (lsub s 0 16) (rem (ofNat (llen p)) 100))))))), (AV.one (AC.lit false)), (AV.one (AC.hs IntKind.u8 1 0 (llen y1))), (AV.one (AC.hs IntKind.u8 (llen [[], y1]) 0 (llen y1))), (AV.one (AC.hs IntKind.u8 (llen [[], y1, y1]) 0 (llen (Go.Blk.strmI (Go.Blk.ks (lsub k 0 16)) (lsub s 0 16) (rem (ofNat (llen p)) 100))))), (AV.one (AC.hs IntKind.u8 (llen [[], y1, y1, (Go.Blk.strmI (Go.Blk.ks (lsub k 0 16)) (lsub s 0 16) (rem (ofNat (llen p)) 100))]) 0 (llen (Go.Blk.strmI (Go.Blk.ks (lsub k 0 16)) (lsub s 0 16) (rem (ofNat (llen p)) 100))))), (AV.one (AC.vec 116)), (AV.one (AC.lit true)), (AV.one (AC.lit false)), (AV.one (AC.lit false)), (AV.tup []), (AV.tup []), (AV.tup []), (AV.tup []), (AV.tup []), (AV.tup []), (AV.tup []), (AV.tup []), (AV.tup []), (AV.tup []), (AV.tup []), (AV.tup []), (AV.tup []), (AV.tup []), (AV.tup []), (AV.tup []), (AV.tup []), (AV.tup []), (AV.tup []), (AV.tup []), (AV.tup []), (AV.tup []), (AV.tup []), (AV.tup []), (AV.tup []), (AV.tup []), (AV.tup []), (AV.tup []), (AV.tup []), (AV.tup []), (AV.tup []), (AV.tup []), (AV.tup []), (AV.tup [])] [(3, Blk.own 22 [(Seg.ints IntKind.u8 16 (lsub k 0 16))]), (4, Blk.own 22 [(Seg.ints IntKind.u8 16 (lsub s 0 16))]), (29, Blk.vec [(Col.ints IntKind.u8 (Go.Blk.mask (Go.Blk.ks (lsub k 0 16)) (lsub s 0 16) p))]), (45, Blk.vec [(Col.ints IntKind.u8 (lcat (lcat [] p) [161, 162]))]), (116, Blk.vec [(Col.hss IntKind.u8 [(HS.mk 1 0 (llen y1)), (HS.mk (llen [[], y1]) 0 (llen y1)), (HS.mk (llen [[], y1, y1]) 0 (llen (Go.Blk.strmI (Go.Blk.ks (lsub k 0 16)) (lsub s 0 16) (rem (ofNat (llen p)) 100)))), (HS.mk (llen [[], y1, y1, (Go.Blk.strmI (Go.Blk.ks (lsub k 0 16)) (lsub s 0 16) (rem (ofNat (llen p)) 100))]) 0 (llen (Go.Blk.strmI (Go.Blk.ks (lsub k 0 16)) (lsub s 0 16) (rem (ofNat (llen p)) 100))))])]), (200000, Blk.rview [(Col.ints IntKind.u8 p)]), (900004, Blk.heap IntKind.u8 os'3)]

def lmasks.k11 (R : AV → Mem → Prop) (p : List Int) (k : List Int) (s : List Int) (fuel m : Nat) : Prop := runM Try.prog gamB10 [⟨777777, [], true, false⟩] (resh Try.prog [⟨777777, [], true, false⟩] Try.f6.results.toList R) (run Try.prog gamB10 [⟨777777, [], true, false⟩] (resh Try.prog [⟨777777, [], true, false⟩] Try.f6.results.toList R) fuel) m [.code (cAt (bodyOf Try.f6) [1, 0, 1, 0, 1]), .code (cAt (bodyOf Try.f6) [1, 1, 1, 1, 1, 1, 1, 1, 1, 1, 1])] [AV.undef, AV.undef, (AV.one (AC.lit false)), (AV.one (AC.ptr 3 0 0)), (AV.one (AC.ptr 4 0 0)), AV.undef, AV.undef, (AV.one (AC.vec 29)), AV.undef, (AV.one (AC.vsl 45 1 0 (nat (ofNat (llen p))))), AV.undef, AV.undef, AV.undef, AV.undef, (AV.tup []), (AV.tup []), AV.undef, AV.undef, AV.undef, AV.undef, AV.undef, AV.undef, AV.undef, AV.undef, AV.undef, AV.undef, AV.undef, AV.undef, AV.undef, AV.undef, AV.undef, AV.undef, AV.undef, AV.undef, AV.undef, AV.undef, AV.undef, AV.undef, AV.undef, AV.undef, AV.undef, AV.undef, AV.undef, AV.undef, AV.undef, AV.undef, AV.undef, AV.undef, AV.undef, AV.undef, AV.undef, AV.undef, AV.undef, AV.undef, AV.undef, AV.undef, AV.undef, AV.undef, AV.undef, AV.undef, AV.undef, AV.undef, AV.undef, AV.undef, AV.undef, AV.undef, AV.undef, AV.undef, AV.undef, AV.undef, AV.undef, AV.undef, AV.undef, AV.undef, AV.undef, AV.undef, AV.undef, AV.undef, AV.undef, AV.undef, AV.undef, AV.undef, AV.undef, AV.undef, AV.undef, AV.undef, AV.undef, AV.undef, AV.undef, AV.undef, AV.undef, AV.undef, AV.undef, AV.undef, AV.undef, AV.undef, AV.undef, AV.undef, AV.undef, AV.undef, AV.undef, AV.undef, AV.undef, AV.undef, AV.undef, AV.undef, AV.undef, AV.undef, AV.undef, AV.undef, AV.undef, AV.undef, AV.undef, AV.undef, AV.undef, AV.undef, AV.undef, AV.undef, AV.undef, AV.undef, (AV.tup []), (AV.tup []), (AV.tup []), (AV.tup []), (AV.tup []), (AV.tup []), (AV.tup []), (AV.tup []), (AV.tup []), (AV.tup []), (AV.tup []), (AV.tup []), (AV.tup []), (AV.tup []), (AV.tup []), (AV.tup []), (AV.tup []), (AV.tup []), (AV.tup []), (AV.tup []), (AV.tup []), (AV.tup []), (AV.tup []), (AV.tup []), (AV.tup []), (AV.tup []), (AV.tup []), (AV.tup []), (AV.tup []), (AV.tup []), (AV.tup []), (AV.tup []), (AV.tup []), (AV.tup [])] [(3, Blk.own 22 [(Seg.ints IntKind.u8 16 (lsub k 0 16))]), (4, Blk.own 22 [(Seg.ints IntKind.u8 16 (lsub s 0 16))]), (29, Blk.vec [(Col.ints IntKind.u8 (Go.Blk.mask (Go.Blk.ks (lsub k 0 16)) (lsub s 0 16) p))]), (45, Blk.vec [(Col.ints IntKind.u8 (lcat (lcat [] p) [161, 162]))]), (200000, Blk.rview [(Col.ints IntKind.u8 p)]), (900004, Blk.heap IntKind.u8 [[]])]

def lmasks.k12 (R : AV → Mem → Prop) (p : List Int) (k : List Int) (s : List Int) (y1 : List Int) (fuel m : Nat) : Prop := runM Try.prog gamB10 [⟨777777, [], true, false⟩] (resh Try.prog [⟨777777, [], true, false⟩] Try.f6.results.toList R) (run Try.prog gamB10 [⟨777777, [], true, false⟩] (resh Try.prog [⟨777777, [], true, false⟩] Try.f6.results.toList R) fuel) m [.code (cAt (bodyOf Try.f6) [1, 1, 1, 1, 1, 1, 1, 1, 1, 1])] [AV.undef, AV.undef, AV.undef, (AV.one (AC.ptr 3 0 0)), (AV.one (AC.ptr 4 0 0)), AV.undef, (AV.one (AC.vec 200000)), (AV.one (AC.vec 29)), AV.undef, (AV.one (AC.vsl 45 1 0 (nat (ofNat (llen p))))), (AV.one (AC.vec 53)), (AV.one (AC.vec 57)), (AV.one (AC.vec 99)), (AV.one (AC.vec 105)), (AV.tup []), (AV.tup []), AV.undef, AV.undef, AV.undef, AV.undef, AV.undef, AV.undef, AV.undef, AV.undef, AV.undef, AV.undef, AV.undef, AV.undef, AV.undef, AV.undef, AV.undef, AV.undef, AV.undef, AV.undef, AV.undef, AV.undef, AV.undef, AV.undef, AV.undef, AV.undef, AV.undef, AV.undef, AV.undef, AV.undef, AV.undef, AV.undef, AV.undef, AV.undef, AV.undef, AV.undef, AV.undef, AV.undef, AV.undef, AV.undef, AV.undef, AV.undef, AV.undef, AV.undef, AV.undef, AV.undef, AV.undef, AV.undef, AV.undef, AV.undef, AV.undef, AV.undef, AV.undef, AV.undef, AV.undef, AV.undef, AV.undef, AV.undef, AV.undef, AV.undef, AV.undef, AV.undef, AV.undef, AV.undef, AV.undef, AV.undef, AV.undef, AV.undef, AV.undef, AV.undef, AV.undef, AV.undef, AV.undef, AV.undef, AV.undef, AV.undef, AV.undef, AV.undef, AV.undef, AV.undef, (AV.agg [(Seg.ints IntKind.u8 16 (lsub k 0 16))]), (AV.agg [(Seg.ints IntKind.u8 16 (lsub s 0 16))]), (AV.one (AC.vec 200000)), (AV.one (AC.int IntKind.i64 (ofNat (llen p)))), (AV.one (AC.int IntKind.i64 (rem (ofNat (llen p)) 100))), (AV.one (AC.vec 99)), (AV.agg [(Seg.ints IntKind.u8 16 (lsub k 0 16))]), (AV.agg [(Seg.ints IntKind.u8 16 (lsub s 0 16))]), (AV.one (AC.vec 200000)), (AV.one (AC.int IntKind.i64 (ofNat (llen p)))), (AV.one (AC.int IntKind.i64 (rem (ofNat (llen p)) 100))), (AV.one (AC.vec 105)), (AV.tup []), (AV.tup []), (AV.tup []), (AV.tup []), (AV.tup []), (AV.tup []), (AV.tup []), (AV.tup []), (AV.tup []), (AV.tup []), (AV.tup []), (AV.tup []), (AV.tup []), (AV.tup []), (AV.tup []), (AV.tup []), (AV.tup []), (AV.tup []), (AV.tup []), (AV.tup []), (AV.tup []), (AV.tup []), (AV.tup []), (AV.tup []), (AV.tup []), (AV.tup []), (AV.tup []), (AV.tup []), (AV.tup []), (AV.tup []), (AV.tup []), (AV.tup []), (AV.tup []), (AV.tup []), (AV.tup []), (AV.tup []), (AV.tup []), (AV.tup []), (AV.tup []), (AV.tup []), (AV.tup []), (AV.tup []), (AV.tup []), (AV.tup []), (AV.tup []), (AV.tup []), (AV.tup []), (AV.tup [])] [(3, Blk.own 22 [(Seg.ints IntKind.u8 16 (lsub k 0 16))]), (4, Blk.own 22 [(Seg.ints IntKind.u8 16 (lsub s 0 16))]), (29, Blk.vec [(Col.ints IntKind.u8 (Go.Blk.mask (Go.Blk.ks (lsub k 0 16)) (lsub s 0 16) p))]), (45, Blk.vec [(Col.ints IntKind.u8 (lcat (lcat [] p) [161, 162]))]), (53, Blk.vec [(Col.ints IntKind.u8 y1)]), (57, Blk.vec [(Col.ints IntKind.u8 y1)]), (99, Blk.vec [(Col.ints IntKind.u8 (Go.Blk.strmI (Go.Blk.ks (lsub k 0 16)) (lsub s 0 16) (rem (ofNat (llen p)) 100)))]), (105, Blk.vec [(Col.ints IntKind.u8 (Go.Blk.strmI (Go.Blk.ks (lsub k 0 16)) (lsub s 0 16) (rem (ofNat (llen p)) 100)))]), (200000, Blk.rview [(Col.ints IntKind.u8 p)]), (900004, Blk.heap IntKind.u8 [[]])]

def lmasks.k13 (R : AV → Mem → Prop) (p : List Int) (k : List Int) (s : List Int) (y1 : List Int) (fuel m : Nat) : Prop := runM Try.prog gamB10 [⟨777777, [], true, false⟩] (resh Try.prog [⟨777777, [], true, false⟩] Try.f6.results.toList R) (run Try.prog gamB10 [⟨777777, [], true, false⟩] (resh Try.prog [⟨777777, [], true, false⟩] Try.f6.results.toList R) fuel) m [.code (cAt (bodyOf Try.f6) [1, 0, 1, 1]), .code (cAt (bodyOf Try.f6) [1, 1, 1, 1, 1, 1, 1, 1, 1])] [AV.undef, AV.undef, AV.undef, (AV.one (AC.ptr 3 0 0)), (AV.one (AC.ptr 4 0 0)), AV.undef, (AV.one (AC.vec 200000)), (AV.one (AC.vec 29)), AV.undef, (AV.one (AC.vsl 45 1 0 (nat (ofNat (llen p))))), (AV.one (AC.vec 53)), (AV.one (AC.vec 57)), (AV.tup []), (AV.tup []), (AV.tup []), (AV.tup []), AV.undef, AV.undef, AV.undef, AV.undef, AV.undef, AV.undef, AV.undef, AV.undef, AV.undef, AV.undef, AV.undef, AV.undef, AV.undef, AV.undef, AV.undef, AV.undef, AV.undef, AV.undef, AV.undef, AV.undef, AV.undef, AV.undef, AV.undef, AV.undef, AV.undef, AV.undef, AV.undef, AV.undef, AV.undef, AV.undef, AV.undef, AV.undef, AV.undef, AV.undef, AV.undef, AV.undef, AV.undef, AV.undef, AV.undef, AV.undef, AV.undef, AV.undef, AV.undef, AV.undef, AV.undef, AV.undef, AV.undef, AV.undef, AV.undef, AV.undef, AV.undef, AV.undef, AV.undef, AV.undef, AV.undef, AV.undef, AV.undef, AV.undef, AV.undef, AV.undef, AV.undef, AV.undef, AV.undef, AV.undef, AV.undef, AV.undef, AV.undef, AV.undef, AV.undef, AV.undef, AV.undef, AV.undef, AV.undef, AV.undef, AV.undef, AV.undef, AV.undef, AV.undef, (AV.tup []), (AV.tup []), (AV.tup []), (AV.tup []), (AV.tup []), (AV.tup []), (AV.tup []), (AV.tup []), (AV.tup []), (AV.tup []), (AV.tup []), (AV.tup []), (AV.tup []), (AV.tup []), (AV.tup []), (AV.tup []), (AV.tup []), (AV.tup []), (AV.tup []), (AV.tup []), (AV.tup []), (AV.tup []), (AV.tup []), (AV.tup []), (AV.tup []), (AV.tup []), (AV.tup []), (AV.tup []), (AV.tup []), (AV.tup []), (AV.tup []), (AV.tup []), (AV.tup []), (AV.tup []), (AV.tup []), (AV.tup []), (AV.tup []), (AV.tup []), (AV.tup []), (AV.tup []), (AV.tup []), (AV.tup []), (AV.tup []), (AV.tup []), (AV.tup []), (AV.tup []), (AV.tup []), (AV.tup []), (AV.tup []), (AV.tup []), (AV.tup []), (AV.tup []), (AV.tup []), (AV.tup []), (AV.tup []), (AV.tup []), (AV.tup []), (AV.tup []), (AV.tup []), (AV.tup [])] [(3, Blk.own 22 [(Seg.ints IntKind.u8 16 (lsub k 0 16))]), (4, Blk.own 22 [(Seg.ints IntKind.u8 16 (lsub s 0 16))]), (29, Blk.vec [(Col.ints IntKind.u8 (Go.Blk.mask (Go.Blk.ks (lsub k 0 16)) (lsub s 0 16) p))]), (45, Blk.vec [(Col.ints IntKind.u8 (lcat (lcat [] p) [161, 162]))]), (53, Blk.vec [(Col.ints IntKind.u8 y1)]), (57, Blk.vec [(Col.ints IntKind.u8 y1)]), (200000, Blk.rview [(Col.ints IntKind.u8 p)]), (900004, Blk.heap IntKind.u8 [[]])]

def lmasks.k14 (R : AV → Mem → Prop) (p : List Int) (k : List Int) (s : List Int) (y1 : List Int) (fuel m : Nat) : Prop := runM Try.prog gamB10 [⟨777777, [], true, false⟩] (resh Try.prog [⟨777777, [], true, false⟩] Try.f6.results.toList R) (run Try.prog gamB10 [⟨777777, [], true, false⟩] (resh Try.prog [⟨777777, [], true, false⟩] Try.f6.results.toList R) fuel) m [.code (cAt (bodyOf Try.f6) [1, 1, 1, 1, 1, 1, 1, 1, 0, 1]), .code (cAt (bodyOf Try.f6) [1, 1, 1, 1, 1, 1, 1, 1, 1])] [AV.undef, AV.undef, AV.undef, (AV.one (AC.ptr 3 0 0)), (AV.one (AC.ptr 4 0 0)), AV.undef, (AV.one (AC.vec 200000)), (AV.one (AC.vec 29)), (AV.one (AC.vec 45)), (AV.one (AC.vsl 45 1 0 (nat (ofNat (llen p))))), (AV.one (AC.vec 53)), (AV.one (AC.vec 57)), (AV.tup []), (AV.tup []), (AV.tup []), (AV.tup []), AV.undef, AV.undef, AV.undef, AV.undef, AV.undef, AV.undef, AV.undef, AV.undef, AV.undef, AV.undef, AV.undef, AV.undef, AV.undef, AV.undef, AV.undef, AV.undef, AV.undef, AV.undef, AV.undef, AV.undef, AV.undef, AV.undef, AV.undef, AV.undef, AV.undef, (AV.one (AC.vec 41)), (AV.one (AC.vec 200000)), (AV.one (AC.vec 43)), (AV.one (AC.vec 44)), (AV.one (AC.vec 45)), (AV.one (AC.vec 45)), (AV.one (AC.vec 200000)), (AV.one (AC.int IntKind.i64 (ofNat (llen p)))), (AV.one (AC.vsl 45 1 0 (nat (ofNat (llen p))))), (AV.agg [(Seg.ints IntKind.u8 16 (lsub k 0 16))]), (AV.agg [(Seg.ints IntKind.u8 16 (lsub s 0 16))]), (AV.one (AC.vsl 45 1 0 (nat (ofNat (llen p))))), (AV.one (AC.vec 53)), (AV.agg [(Seg.ints IntKind.u8 16 (lsub k 0 16))]), (AV.agg [(Seg.ints IntKind.u8 16 (lsub s 0 16))]), (AV.one (AC.vsl 45 1 0 (nat (ofNat (llen p))))), (AV.one (AC.vec 57)), (AV.one (AC.vec 53)), (AV.one (AC.str (bytesOf y1))), (AV.one (AC.vec 29)), (AV.one (AC.str (bytesOf (Go.Blk.mask (Go.Blk.ks (lsub k 0 16)) (lsub s 0 16) p)))), (AV.one (AC.bool (bnot (seq2 (bytesOf y1) (bytesOf (Go.Blk.mask (Go.Blk.ks (lsub k 0 16)) (lsub s 0 16) p)))))), (AV.one (AC.lit false)), (AV.one (AC.vec 57)), (AV.one (AC.str (bytesOf y1))), (AV.one (AC.vec 29)), (AV.one (AC.str (bytesOf (Go.Blk.mask (Go.Blk.ks (lsub k 0 16)) (lsub s 0 16) p)))), (AV.one (AC.bool (bnot (seq2 (bytesOf y1) (bytesOf (Go.Blk.mask (Go.Blk.ks (lsub k 0 16)) (lsub s 0 16) p)))))), (AV.one (AC.bool (bnot (seq2 (bytesOf y1) (bytesOf (Go.Blk.mask (Go.Blk.ks (lsub k 0 16)) (lsub s 0 16) p)))))), (AV.one (AC.lit false)), (AV.one (AC.vsl 45 1 0 (nat (ofNat (llen p))))), (AV.one (AC.str (bytesOf (lsub (lcat (lcat [] p) [161, 162]) 0 (nat (ofNat (llen p))))))), (AV.one (AC.vec 200000)), (AV.one (AC.str (bytesOf p))), (AV.one (AC.bool (bnot (seq2 (bytesOf (lsub (lcat (lcat [] p) [161, 162]) 0 (nat (ofNat (llen p))))) (bytesOf p))))), (AV.one (AC.bool (bnot (seq2 (bytesOf (lsub (lcat (lcat [] p) [161, 162]) 0 (nat (ofNat (llen p))))) (bytesOf p))))), (AV.one (AC.lit false)), (AV.one (AC.vec 45)), (AV.one (AC.vec 200000)), (AV.one (AC.int IntKind.i64 (ofNat (llen p)))), (AV.one (AC.vptr 45 1 (nat (ofNat (llen p))) 0 0)), (AV.one (AC.int IntKind.u8 (lget (lcat (lcat [] p) [161, 162]) (nat (ofNat (llen p)))))), (AV.one (AC.bool (ine (lget (lcat (lcat [] p) [161, 162]) (nat (ofNat (llen p)))) 161))), (AV.one (AC.bool (ine (lget (lcat (lcat [] p) [161, 162]) (nat (ofNat (llen p)))) 161))), (AV.one (AC.lit false)), (AV.one (AC.vec 45)), (AV.one (AC.vec 200000)), (AV.one (AC.int IntKind.i64 (ofNat (llen p)))), (AV.one (AC.int IntKind.i64 (add IntKind.i64 (ofNat (llen p)) 1))), (AV.one (AC.vptr 45 1 (nat (add IntKind.i64 (ofNat (llen p)) 1)) 0 0)), (AV.one (AC.int IntKind.u8 (lget (lcat (lcat [] p) [161, 162]) (nat (add IntKind.i64 (ofNat (llen p)) 1))))), (AV.one (AC.bool (ine (lget (lcat (lcat [] p) [161, 162]) (nat (add IntKind.i64 (ofNat (llen p)) 1))) 162))), (AV.one (AC.bool (ine (lget (lcat (lcat [] p) [161, 162]) (nat (add IntKind.i64 (ofNat (llen p)) 1))) 162))), (AV.tup []), (AV.tup []), (AV.tup []), (AV.tup []), (AV.tup []), (AV.tup []), (AV.tup []), (AV.tup []), (AV.tup []), (AV.tup []), (AV.tup []), (AV.tup []), (AV.tup []), (AV.tup []), (AV.tup []), (AV.tup []), (AV.tup []), (AV.tup []), (AV.tup []), (AV.tup []), (AV.tup []), (AV.tup []), (AV.tup []), (AV.tup []), (AV.tup []), (AV.tup []), (AV.tup []), (AV.tup []), (AV.tup []), (AV.tup []), (AV.tup []), (AV.tup []), (AV.tup []), (AV.tup []), (AV.tup []), (AV.tup []), (AV.tup []), (AV.tup []), (AV.tup []), (AV.tup []), (AV.tup []), (AV.tup []), (AV.tup []), (AV.tup []), (AV.tup []), (AV.tup []), (AV.tup []), (AV.tup []), (AV.tup []), (AV.tup []), (AV.tup []), (AV.tup []), (AV.tup []), (AV.tup []), (AV.tup []), (AV.tup []), (AV.tup []), (AV.tup []), (AV.tup []), (AV.tup [])] [(3, Blk.own 22 [(Seg.ints IntKind.u8 16 (lsub k 0 16))]), (4, Blk.own 22 [(Seg.ints IntKind.u8 16 (lsub s 0 16))]), (29, Blk.vec [(Col.ints IntKind.u8 (Go.Blk.mask (Go.Blk.ks (lsub k 0 16)) (lsub s 0 16) p))]), (44, Blk.vec [(Col.ints IntKind.u8 [161, 162])]), (45, Blk.vec [(Col.ints IntKind.u8 (lcat (lcat [] p) [161, 162]))]), (53, Blk.vec [(Col.ints IntKind.u8 y1)]), (57, Blk.vec [(Col.ints IntKind.u8 y1)]), (200000, Blk.rview [(Col.ints IntKind.u8 p)]), (900004, Blk.heap IntKind.u8 [[]])]

def lmasks.k15 (R : AV → Mem → Prop) (p : List Int) (k : List Int) (s : List Int) (fuel m : Nat) : Prop := runM Try.prog gamB10 [⟨777777, [], true, false⟩] (resh Try.prog [⟨777777, [], true, false⟩] Try.f6.results.toList R) (run Try.prog gamB10 [⟨777777, [], true, false⟩] (resh Try.prog [⟨777777, [], true, false⟩] Try.f6.results.toList R) fuel) m [.code (cAt (bodyOf Try.f6) [1, 1, 1, 1, 1, 1, 1, 1])] [AV.undef, AV.undef, AV.undef, (AV.one (AC.ptr 3 0 0)), (AV.one (AC.ptr 4 0 0)), AV.undef, (AV.one (AC.vec 200000)), (AV.one (AC.vec 29)), (AV.one (AC.vec 45)), (AV.one (AC.vsl 45 1 0 (nat (ofNat (llen p))))), (AV.one (AC.vec 53)), (AV.one (AC.vec 57)), (AV.tup []), (AV.tup []), (AV.tup []), (AV.tup []), AV.undef, AV.undef, AV.undef, AV.undef, AV.undef, AV.undef, AV.undef, AV.undef, AV.undef, AV.undef, AV.undef, AV.undef, AV.undef, AV.undef, AV.undef, AV.undef, AV.undef, AV.undef, AV.undef, AV.undef, AV.undef, AV.undef, AV.undef, AV.undef, AV.undef, (AV.one (AC.vec 41)), (AV.one (AC.vec 200000)), (AV.one (AC.vec 43)), (AV.one (AC.vec 44)), (AV.one (AC.vec 45)), (AV.one (AC.vec 45)), (AV.one (AC.vec 200000)), (AV.one (AC.int IntKind.i64 (ofNat (llen p)))), (AV.one (AC.vsl 45 1 0 (nat (ofNat (llen p))))), (AV.agg [(Seg.ints IntKind.u8 16 (lsub k 0 16))]), (AV.agg [(Seg.ints IntKind.u8 16 (lsub s 0 16))]), (AV.one (AC.vsl 45 1 0 (nat (ofNat (llen p))))), (AV.one (AC.vec 53)), (AV.agg [(Seg.ints IntKind.u8 16 (lsub k 0 16))]), (AV.agg [(Seg.ints IntKind.u8 16 (lsub s 0 16))]), (AV.one (AC.vsl 45 1 0 (nat (ofNat (llen p))))), (AV.one (AC.vec 57)), (AV.tup []), (AV.tup []), (AV.tup []), (AV.tup []), (AV.tup []), (AV.tup []), (AV.tup []), (AV.tup []), (AV.tup []), (AV.tup []), (AV.tup []), (AV.tup []), (AV.tup []), (AV.tup []), (AV.tup []), (AV.tup []), (AV.tup []), (AV.tup []), (AV.tup []), (AV.tup []), (AV.tup []), (AV.tup []), (AV.tup []), (AV.tup []), (AV.tup []), (AV.tup []), (AV.tup []), (AV.tup []), (AV.tup []), (AV.tup []), (AV.tup []), (AV.tup []), (AV.tup []), (AV.tup []), (AV.tup []), (AV.tup []), (AV.tup []), (AV.tup []), (AV.tup []), (AV.tup []), (AV.tup []), (AV.tup []), (AV.tup []), (AV.tup []), (AV.tup []), (AV.tup []), (AV.tup []), (AV.tup []), (AV.tup []), (AV.tup []), (AV.tup []), (AV.tup []), (AV.tup []), (AV.tup []), (AV.tup []), (AV.tup []), (AV.tup []), (AV.tup []), (AV.tup []), (AV.tup []), (AV.tup []), (AV.tup []), (AV.tup []), (AV.tup []), (AV.tup []), (AV.tup []), (AV.tup []), (AV.tup []), (AV.tup []), (AV.tup []), (AV.tup []), (AV.tup []), (AV.tup []), (AV.tup []), (AV.tup []), (AV.tup []), (AV.tup []), (AV.tup []), (AV.tup []), (AV.tup []), (AV.tup []), (AV.tup []), (AV.tup []), (AV.tup []), (AV.tup []), (AV.tup []), (AV.tup []), (AV.tup []), (AV.tup []), (AV.tup []), (AV.tup []), (AV.tup []), (AV.tup []), (AV.tup []), (AV.tup []), (AV.tup [])] [(3, Blk.own 22 [(Seg.ints IntKind.u8 16 (lsub k 0 16))]), (4, Blk.own 22 [(Seg.ints IntKind.u8 16 (lsub s 0 16))]), (29, Blk.vec [(Col.ints IntKind.u8 (Go.Blk.mask (Go.Blk.ks (lsub k 0 16)) (lsub s 0 16) p))]), (44, Blk.vec [(Col.ints IntKind.u8 [161, 162])]), (45, Blk.vec [(Col.ints IntKind.u8 (lcat (lcat [] p) [161, 162]))]), (53, Blk.vec [(Col.ints IntKind.u8 (Go.Blk.mask (Go.Blk.ks (lsub k 0 16)) (lsub s 0 16) (lsub (lcat (lcat [] p) [161, 162]) 0 (nat (ofNat (llen p))))))]), (57, Blk.vec [(Col.ints IntKind.u8 (Go.Blk.mask (Go.Blk.ks (lsub k 0 16)) (lsub s 0 16) (lsub (lcat (lcat [] p) [161, 162]) 0 (nat (ofNat (llen p))))))]), (200000, Blk.rview [(Col.ints IntKind.u8 p)]), (900004, Blk.heap IntKind.u8 [[]])]

def lmasks.k16 (R : AV → Mem → Prop) (p : List Int) (k : List Int) (s : List Int) (fuel m : Nat) : Prop := runM Try.prog gamB10 [⟨777777, [], true, false⟩] (resh Try.prog [⟨777777, [], true, false⟩] Try.f6.results.toList R) (run Try.prog gamB10 [⟨777777, [], true, false⟩] (resh Try.prog [⟨777777, [], true, false⟩] Try.f6.results.toList R) fuel) m [.code (cAt (bodyOf Try.f6) [1, 1, 1, 1, 1, 1, 1])] [AV.undef, AV.undef, AV.undef, (AV.one (AC.ptr 3 0 0)), (AV.one (AC.ptr 4 0 0)), AV.undef, (AV.one (AC.vec 200000)), (AV.one (AC.vec 29)), (AV.one (AC.vec 45)), (AV.one (AC.vsl 45 1 0 (nat (ofNat (llen p))))), (AV.tup []), (AV.tup []), (AV.tup []), (AV.tup []), (AV.tup []), (AV.tup []), AV.undef, AV.undef, AV.undef, AV.undef, AV.undef, AV.undef, AV.undef, AV.undef, AV.undef, AV.undef, AV.undef, AV.undef, AV.undef, AV.undef, AV.undef, AV.undef, AV.undef, AV.undef, AV.undef, AV.undef, AV.undef, AV.undef, AV.undef, AV.undef, AV.undef, (AV.one (AC.vec 41)), (AV.one (AC.vec 200000)), (AV.one (AC.vec 43)), (AV.one (AC.vec 44)), (AV.one (AC.vec 45)), (AV.one (AC.vec 45)), (AV.one (AC.vec 200000)), (AV.one (AC.int IntKind.i64 (ofNat (llen p)))), (AV.one (AC.vsl 45 1 0 (nat (ofNat (llen p))))), (AV.tup []), (AV.tup []), (AV.tup []), (AV.tup []), (AV.tup []), (AV.tup []), (AV.tup []), (AV.tup []), (AV.tup []), (AV.tup []), (AV.tup []), (AV.tup []), (AV.tup []), (AV.tup []), (AV.tup []), (AV.tup []), (AV.tup []), (AV.tup []), (AV.tup []), (AV.tup []), (AV.tup []), (AV.tup []), (AV.tup []), (AV.tup []), (AV.tup []), (AV.tup []), (AV.tup []), (AV.tup []), (AV.tup []), (AV.tup []), (AV.tup []), (AV.tup []), (AV.tup []), (AV.tup []), (AV.tup []), (AV.tup []), (AV.tup []), (AV.tup []), (AV.tup []), (AV.tup []), (AV.tup []), (AV.tup []), (AV.tup []), (AV.tup []), (AV.tup []), (AV.tup []), (AV.tup []), (AV.tup []), (AV.tup []), (AV.tup []), (AV.tup []), (AV.tup []), (AV.tup []), (AV.tup []), (AV.tup []), (AV.tup []), (AV.tup []), (AV.tup []), (AV.tup []), (AV.tup []), (AV.tup []), (AV.tup []), (AV.tup []), (AV.tup []), (AV.tup []), (AV.tup []), (AV.tup []), (AV.tup []), (AV.tup []), (AV.tup []), (AV.tup []), (AV.tup []), (AV.tup []), (AV.tup []), (AV.tup []), (AV.tup []), (AV.tup []), (AV.tup []), (AV.tup []), (AV.tup []), (AV.tup []), (AV.tup []), (AV.tup []), (AV.tup []), (AV.tup []), (AV.tup []), (AV.tup []), (AV.tup []), (AV.tup []), (AV.tup []), (AV.tup []), (AV.tup []), (AV.tup []), (AV.tup []), (AV.tup []), (AV.tup []), (AV.tup []), (AV.tup []), (AV.tup []), (AV.tup []), (AV.tup []), (AV.tup []), (AV.tup []), (AV.tup [])] [(3, Blk.own 22 [(Seg.ints IntKind.u8 16 (lsub k 0 16))]), (4, Blk.own 22 [(Seg.ints IntKind.u8 16 (lsub s 0 16))]), (29, Blk.vec [(Col.ints IntKind.u8 (Go.Blk.mask (Go.Blk.ks (lsub k 0 16)) (lsub s 0 16) p))]), (44, Blk.vec [(Col.ints IntKind.u8 [161, 162])]), (45, Blk.vec [(Col.ints IntKind.u8 (lcat (lcat [] p) [161, 162]))]), (200000, Blk.rview [(Col.ints IntKind.u8 p)]), (900004, Blk.heap IntKind.u8 [[]])]

def lmasks.k17 (R : AV → Mem → Prop) (k : List Int) (s : List Int) (p : List Int) (fuel m : Nat) : Prop := runM Try.prog gamB10 [⟨777777, [], true, false⟩] (resh Try.prog [⟨777777, [], true, false⟩] Try.f6.results.toList R) (run Try.prog gamB10 [⟨777777, [], true, false⟩] (resh Try.prog [⟨777777, [], true, false⟩] Try.f6.results.toList R) fuel) m [.code (cAt (bodyOf Try.f6) [1, 1, 1, 1, 1, 1])] [AV.undef, AV.undef, AV.undef, (AV.one (AC.ptr 3 0 0)), (AV.one (AC.ptr 4 0 0)), AV.undef, (AV.one (AC.vec 200000)), (AV.one (AC.vec 29)), (AV.one (AC.vec 45)), (AV.tup []), (AV.tup []), (AV.tup []), (AV.tup []), (AV.tup []), (AV.tup []), (AV.tup []), AV.undef, AV.undef, AV.undef, AV.undef, AV.undef, AV.undef, AV.undef, AV.undef, AV.undef, AV.undef, AV.undef, AV.undef, AV.undef, AV.undef, AV.undef, AV.undef, AV.undef, AV.undef, AV.undef, AV.undef, AV.undef, AV.undef, AV.undef, AV.undef, AV.undef, (AV.one (AC.vec 41)), (AV.one (AC.vec 200000)), (AV.one (AC.vec 43)), (AV.one (AC.vec 44)), (AV.one (AC.vec 45)), (AV.tup []), (AV.tup []), (AV.tup []), (AV.tup []), (AV.tup []), (AV.tup []), (AV.tup []), (AV.tup []), (AV.tup []), (AV.tup []), (AV.tup []), (AV.tup []), (AV.tup []), (AV.tup []), (AV.tup []), (AV.tup []), (AV.tup []), (AV.tup []), (AV.tup []), (AV.tup []), (AV.tup []), (AV.tup []), (AV.tup []), (AV.tup []), (AV.tup []), (AV.tup []), (AV.tup []), (AV.tup []), (AV.tup []), (AV.tup []), (AV.tup []), (AV.tup []), (AV.tup []), (AV.tup []), (AV.tup []), (AV.tup []), (AV.tup []), (AV.tup []), (AV.tup []), (AV.tup []), (AV.tup []), (AV.tup []), (AV.tup []), (AV.tup []), (AV.tup []), (AV.tup []), (AV.tup []), (AV.tup []), (AV.tup []), (AV.tup []), (AV.tup []), (AV.tup []), (AV.tup []), (AV.tup []), (AV.tup []), (AV.tup []), (AV.tup []), (AV.tup []), (AV.tup []), (AV.tup []), (AV.tup []), (AV.tup []), (AV.tup []), (AV.tup []), (AV.tup []), (AV.tup []), (AV.tup []), (AV.tup []), (AV.tup []), (AV.tup []), (AV.tup []), (AV.tup []), (AV.tup []), (AV.tup []), (AV.tup []), (AV.tup []), (AV.tup []), (AV.tup []), (AV.tup []), (AV.tup []), (AV.tup []), (AV.tup []), (AV.tup []), (AV.tup []), (AV.tup []), (AV.tup []), (AV.tup []), (AV.tup []), (AV.tup []), (AV.tup []), (AV.tup []), (AV.tup []), (AV.tup []), (AV.tup []), (AV.tup []), (AV.tup []), (AV.tup []), (AV.tup []), (AV.tup []), (AV.tup []), (AV.tup []), (AV.tup []), (AV.tup []), (AV.tup []), (AV.tup []), (AV.tup []), (AV.tup []), (AV.tup [])] [(3, Blk.own 22 [(Seg.ints IntKind.u8 16 (lsub k 0 16))]), (4, Blk.own 22 [(Seg.ints IntKind.u8 16 (lsub s 0 16))]), (29, Blk.vec [(Col.ints IntKind.u8 (Go.Blk.mask (Go.Blk.ks (lsub k 0 16)) (lsub s 0 16) p))]), (44, Blk.vec [(Col.ints IntKind.u8 [161, 162])]), (45, Blk.vec [(Col.ints IntKind.u8 (lcat (lcat [] p) [161, 162]))]), (200000, Blk.rview [(Col.ints IntKind.u8 p)]), (900004, Blk.heap IntKind.u8 [[]])]

def lmasks.k18 (R : AV → Mem → Prop) (k : List Int) (s : List Int) (p : List Int) (fuel m : Nat) : Prop := runM Try.prog gamB10 [⟨777777, [], true, false⟩] (resh Try.prog [⟨777777, [], true, false⟩] Try.f6.results.toList R) (run Try.prog gamB10 [⟨777777, [], true, false⟩] (resh Try.prog [⟨777777, [], true, false⟩] Try.f6.results.toList R) fuel) m [.code (cAt (bodyOf Try.f6) [1, 0, 1, 1]), .code (cAt (bodyOf Try.f6) [1, 1, 1, 1, 1])] [AV.undef, AV.undef, AV.undef, (AV.one (AC.ptr 3 0 0)), (AV.one (AC.ptr 4 0 0)), AV.undef, (AV.one (AC.vec 200000)), (AV.one (AC.vec 29)), (AV.tup []), (AV.tup []), (AV.tup []), (AV.tup []), (AV.tup []), (AV.tup []), (AV.tup []), (AV.tup []), AV.undef, AV.undef, AV.undef, AV.undef, AV.undef, AV.undef, AV.undef, AV.undef, AV.undef, AV.undef, AV.undef, AV.undef, AV.undef, AV.undef, AV.undef, AV.undef, AV.undef, AV.undef, AV.undef, AV.undef, AV.undef, AV.undef, AV.undef, AV.undef, AV.undef, (AV.tup []), (AV.tup []), (AV.tup []), (AV.tup []), (AV.tup []), (AV.tup []), (AV.tup []), (AV.tup []), (AV.tup []), (AV.tup []), (AV.tup []), (AV.tup []), (AV.tup []), (AV.tup []), (AV.tup []), (AV.tup []), (AV.tup []), (AV.tup []), (AV.tup []), (AV.tup []), (AV.tup []), (AV.tup []), (AV.tup []), (AV.tup []), (AV.tup []), (AV.tup []), (AV.tup []), (AV.tup []), (AV.tup []), (AV.tup []), (AV.tup []), (AV.tup []), (AV.tup []), (AV.tup []), (AV.tup []), (AV.tup []), (AV.tup []), (AV.tup []), (AV.tup []), (AV.tup []), (AV.tup []), (AV.tup []), (AV.tup []), (AV.tup []), (AV.tup []), (AV.tup []), (AV.tup []), (AV.tup []), (AV.tup []), (AV.tup []), (AV.tup []), (AV.tup []), (AV.tup []), (AV.tup []), (AV.tup []), (AV.tup []), (AV.tup []), (AV.tup []), (AV.tup []), (AV.tup []), (AV.tup []), (AV.tup []), (AV.tup []), (AV.tup []), (AV.tup []), (AV.tup []), (AV.tup []), (AV.tup []), (AV.tup []), (AV.tup []), (AV.tup []), (AV.tup []), (AV.tup []), (AV.tup []), (AV.tup []), (AV.tup []), (AV.tup []), (AV.tup []), (AV.tup []), (AV.tup []), (AV.tup []), (AV.tup []), (AV.tup []), (AV.tup []), (AV.tup []), (AV.tup []), (AV.tup []), (AV.tup []), (AV.tup []), (AV.tup []), (AV.tup []), (AV.tup []), (AV.tup []), (AV.tup []), (AV.tup []), (AV.tup []), (AV.tup []), (AV.tup []), (AV.tup []), (AV.tup []), (AV.tup []), (AV.tup []), (AV.tup []), (AV.tup []), (AV.tup []), (AV.tup []), (AV.tup []), (AV.tup []), (AV.tup []), (AV.tup []), (AV.tup []), (AV.tup []), (AV.tup [])] [(3, Blk.own 22 [(Seg.ints IntKind.u8 16 (lsub k 0 16))]), (4, Blk.own 22 [(Seg.ints IntKind.u8 16 (lsub s 0 16))]), (29, Blk.vec [(Col.ints IntKind.u8 (Go.Blk.mask (Go.Blk.ks (lsub k 0 16)) (lsub s 0 16) p))]), (200000, Blk.rview [(Col.ints IntKind.u8 p)]), (900004, Blk.heap IntKind.u8 [[]])]

def lmasks.k19 (R : AV → Mem → Prop) (n : Int) (k : List Int) (s : List Int) (p : List Int) (fuel m : Nat) : Prop := runM Try.prog gamB10 [⟨777777, [], true, false⟩] (resh Try.prog [⟨777777, [], true, false⟩] Try.f6.results.toList R) (run Try.prog gamB10 [⟨777777, [], true, false⟩] (resh Try.prog [⟨777777, [], true, false⟩] Try.f6.results.toList R) fuel) m [.code (cAt (bodyOf Try.f6) [1, 1, 1, 1, 0, 1]), .code (cAt (bodyOf Try.f6) [1, 1, 1, 1, 1])] [AV.undef, (AV.one (AC.ptr 1 0 0)), AV.undef, (AV.one (AC.ptr 3 0 0)), (AV.one (AC.ptr 4 0 0)), (AV.one (AC.int IntKind.i64 n)), (AV.one (AC.vec 200000)), (AV.one (AC.vec 29)), (AV.tup []), (AV.tup []), (AV.tup []), (AV.tup []), (AV.tup []), (AV.tup []), (AV.tup []), (AV.tup []), AV.undef, AV.undef, (AV.one (AC.ptr 1 0 0)), (AV.agg [(Seg.ints IntKind.u8 16 (lsub k 0 16))]), (AV.one (AC.ptr 1 16 0)), (AV.agg [(Seg.ints IntKind.u8 16 (lsub s 0 16))]), (AV.one (AC.ptr 1 32 0)), (AV.one (AC.int IntKind.i64 n)), (AV.one (AC.ptr 1 33 0)), (AV.one (AC.vec 200000)), (AV.agg [(Seg.ints IntKind.u8 16 (lsub k 0 16))]), (AV.agg [(Seg.ints IntKind.u8 16 (lsub s 0 16))]), (AV.one (AC.vec 200000)), (AV.one (AC.vec 29)), (AV.agg [(Seg.ints IntKind.u8 16 (lsub k 0 16))]), (AV.agg [(Seg.ints IntKind.u8 16 (lsub s 0 16))]), (AV.one (AC.int IntKind.i64 n)), (AV.one (AC.vec 33)), (AV.one (AC.str (bytesOf (Go.Blk.strmI (Go.Blk.ks (lsub k 0 16)) (lsub s 0 16) n)))), (AV.agg [(Seg.ints IntKind.u8 16 (lsub k 0 16))]), (AV.agg [(Seg.ints IntKind.u8 16 (lsub s 0 16))]), (AV.one (AC.int IntKind.i64 n)), (AV.one (AC.vec 38)), (AV.one (AC.str (bytesOf (Go.Blk.strmI (Go.Blk.ks (lsub k 0 16)) (lsub s 0 16) n)))), (AV.one (AC.bool (bnot (seq2 (bytesOf (Go.Blk.strmI (Go.Blk.ks (lsub k 0 16)) (lsub s 0 16) n)) (bytesOf (Go.Blk.strmI (Go.Blk.ks (lsub k 0 16)) (lsub s 0 16) n)))))), (AV.tup []), (AV.tup []), (AV.tup []), (AV.tup []), (AV.tup []), (AV.tup []), (AV.tup []), (AV.tup []), (AV.tup []), (AV.tup []), (AV.tup []), (AV.tup []), (AV.tup []), (AV.tup []), (AV.tup []), (AV.tup []), (AV.tup []), (AV.tup []), (AV.tup []), (AV.tup []), (AV.tup []), (AV.tup []), (AV.tup []), (AV.tup []), (AV.tup []), (AV.tup []), (AV.tup []), (AV.tup []), (AV.tup []), (AV.tup []), (AV.tup []), (AV.tup []), (AV.tup []), (AV.tup []), (AV.tup []), (AV.tup []), (AV.tup []), (AV.tup []), (AV.tup []), (AV.tup []), (AV.tup []), (AV.tup []), (AV.tup []), (AV.tup []), (AV.tup []), (AV.tup []), (AV.tup []), (AV.tup []), (AV.tup []), (AV.tup []), (AV.tup []), (AV.tup []), (AV.tup []), (AV.tup []), (AV.tup []), (AV.tup []), (AV.tup []), (AV.tup []), (AV.tup []), (AV.tup []), (AV.tup []), (AV.tup []), (AV.tup []), (AV.tup []), (AV.tup []), (AV.tup []), (AV.tup []), (AV.tup []), (AV.tup []), (AV.tup []), (AV.tup []), (AV.tup []), (AV.tup []), (AV.tup []), (AV.tup []), (AV.tup []), (AV.tup []), (AV.tup []), (AV.tup []), (AV.tup []), (AV.tup []), (AV.tup []), (AV.tup []), (AV.tup []), (AV.tup []), (AV.tup []), (AV.tup []), (AV.tup []), (AV.tup []), (AV.tup []), (AV.tup []), (AV.tup []), (AV.tup []), (AV.tup []), (AV.tup []), (AV.tup []), (AV.tup []), (AV.tup []), (AV.tup []), (AV.tup []), (AV.tup []), (AV.tup []), (AV.tup []), (AV.tup []), (AV.tup []), (AV.tup []), (AV.tup []), (AV.tup []), (AV.tup []), (AV.tup []), (AV.tup []), (AV.tup []), (AV.tup [])] [(1, Blk.own 42 [(Seg.ints IntKind.u8 16 k), (Seg.ints IntKind.u8 16 s), (Seg.cells [(AC.int IntKind.i64 n)]), (Seg.cells [(AC.vec 200000)])]), (3, Blk.own 22 [(Seg.ints IntKind.u8 16 (lsub k 0 16))]), (4, Blk.own 22 [(Seg.ints IntKind.u8 16 (lsub s 0 16))]), (29, Blk.vec [(Col.ints IntKind.u8 (Go.Blk.mask (Go.Blk.ks (lsub k 0 16)) (lsub s 0 16) p))]), (33, Blk.vec [(Col.ints IntKind.u8 (Go.Blk.strmI (Go.Blk.ks (lsub k 0 16)) (lsub s 0 16) n))]), (38, Blk.vec [(Col.ints IntKind.u8 (Go.Blk.strmI (Go.Blk.ks (lsub k 0 16)) (lsub s 0 16) n))]), (200000, Blk.rview [(Col.ints IntKind.u8 p)]), (900004, Blk.heap IntKind.u8 [[]])]

def lmasks.k20 (R : AV → Mem → Prop) (n : Int) (k : List Int) (s : List Int) (p : List Int) (fuel m : Nat) : Prop := runM Try.prog gamB10 [⟨777777, [], true, false⟩] (resh Try.prog [⟨777777, [], true, false⟩] Try.f6.results.toList R) (run Try.prog gamB10 [⟨777777, [], true, false⟩] (resh Try.prog [⟨777777, [], true, false⟩] Try.f6.results.toList R) fuel) m [.code (cAt (bodyOf Try.f6) [1, 1, 1, 1])] [AV.undef, (AV.one (AC.ptr 1 0 0)), AV.undef, (AV.one (AC.ptr 3 0 0)), (AV.one (AC.ptr 4 0 0)), (AV.one (AC.int IntKind.i64 n)), (AV.one (AC.vec 200000)), (AV.one (AC.vec 29)), (AV.tup []), (AV.tup []), (AV.tup []), (AV.tup []), (AV.tup []), (AV.tup []), (AV.tup []), (AV.tup []), AV.undef, AV.undef, (AV.one (AC.ptr 1 0 0)), (AV.agg [(Seg.ints IntKind.u8 16 (lsub k 0 16))]), (AV.one (AC.ptr 1 16 0)), (AV.agg [(Seg.ints IntKind.u8 16 (lsub s 0 16))]), (AV.one (AC.ptr 1 32 0)), (AV.one (AC.int IntKind.i64 n)), (AV.one (AC.ptr 1 33 0)), (AV.one (AC.vec 200000)), (AV.agg [(Seg.ints IntKind.u8 16 (lsub k 0 16))]), (AV.agg [(Seg.ints IntKind.u8 16 (lsub s 0 16))]), (AV.one (AC.vec 200000)), (AV.one (AC.vec 29)), (AV.tup []), (AV.tup []), (AV.tup []), (AV.tup []), (AV.tup []), (AV.tup []), (AV.tup []), (AV.tup []), (AV.tup []), (AV.tup []), (AV.tup []), (AV.tup []), (AV.tup []), (AV.tup []), (AV.tup []), (AV.tup []), (AV.tup []), (AV.tup []), (AV.tup []), (AV.tup []), (AV.tup []), (AV.tup []), (AV.tup []), (AV.tup []), (AV.tup []), (AV.tup []), (AV.tup []), (AV.tup []), (AV.tup []), (AV.tup []), (AV.tup []), (AV.tup []), (AV.tup []), (AV.tup []), (AV.tup []), (AV.tup []), (AV.tup []), (AV.tup []), (AV.tup []), (AV.tup []), (AV.tup []), (AV.tup []), (AV.tup []), (AV.tup []), (AV.tup []), (AV.tup []), (AV.tup []), (AV.tup []), (AV.tup []), (AV.tup []), (AV.tup []), (AV.tup []), (AV.tup []), (AV.tup []), (AV.tup []), (AV.tup []), (AV.tup []), (AV.tup []), (AV.tup []), (AV.tup []), (AV.tup []), (AV.tup []), (AV.tup []), (AV.tup []), (AV.tup []), (AV.tup []), (AV.tup []), (AV.tup []), (AV.tup []), (AV.tup []), (AV.tup []), (AV.tup []), (AV.tup []), (AV.tup []), (AV.tup []), (AV.tup []), (AV.tup []), (AV.tup []), (AV.tup []), (AV.tup []), (AV.tup []), (AV.tup []), (AV.tup []), (AV.tup []), (AV.tup []), (AV.tup []), (AV.tup []), (AV.tup []), (AV.tup []), (AV.tup []), (AV.tup []), (AV.tup []), (AV.tup []), (AV.tup []), (AV.tup []), (AV.tup []), (AV.tup []), (AV.tup []), (AV.tup []), (AV.tup []), (AV.tup []), (AV.tup []), (AV.tup []), (AV.tup []), (AV.tup []), (AV.tup []), (AV.tup []), (AV.tup []), (AV.tup []), (AV.tup []), (AV.tup []), (AV.tup []), (AV.tup []), (AV.tup []), (AV.tup []), (AV.tup []), (AV.tup []), (AV.tup []), (AV.tup []), (AV.tup []), (AV.tup []), (AV.tup []), (AV.tup []), (AV.tup [])] [(1, Blk.own 42 [(Seg.ints IntKind.u8 16 k), (Seg.ints IntKind.u8 16 s), (Seg.cells [(AC.int IntKind.i64 n)]), (Seg.cells [(AC.vec 200000)])]), (3, Blk.own 22 [(Seg.ints IntKind.u8 16 (lsub k 0 16))]), (4, Blk.own 22 [(Seg.ints IntKind.u8 16 (lsub s 0 16))]), (29, Blk.vec [(Col.ints IntKind.u8 (Go.Blk.mask (Go.Blk.ks (lsub k 0 16)) (lsub s 0 16) p))]), (200000, Blk.rview [(Col.ints IntKind.u8 p)]), (900004, Blk.heap IntKind.u8 [[]])]

def lmasks.k21 (R : AV → Mem → Prop) (n : Int) (k : List Int) (s : List Int) (p : List Int) (fuel m : Nat) : Prop := runM Try.prog gamB10 [⟨777777, [], true, false⟩] (resh Try.prog [⟨777777, [], true, false⟩] Try.f6.results.toList R) (run Try.prog gamB10 [⟨777777, [], true, false⟩] (resh Try.prog [⟨777777, [], true, false⟩] Try.f6.results.toList R) fuel) m [.code (cAt (bodyOf Try.f6) [1, 1, 1])] [AV.undef, (AV.one (AC.ptr 1 0 0)), AV.undef, (AV.one (AC.ptr 3 0 0)), (AV.one (AC.ptr 4 0 0)), (AV.one (AC.int IntKind.i64 n)), (AV.one (AC.vec 200000)), (AV.tup []), (AV.tup []), (AV.tup []), (AV.tup []), (AV.tup []), (AV.tup []), (AV.tup []), (AV.tup []), (AV.tup []), AV.undef, AV.undef, (AV.one (AC.ptr 1 0 0)), (AV.agg [(Seg.ints IntKind.u8 16 (lsub k 0 16))]), (AV.one (AC.ptr 1 16 0)), (AV.agg [(Seg.ints IntKind.u8 16 (lsub s 0 16))]), (AV.one (AC.ptr 1 32 0)), (AV.one (AC.int IntKind.i64 n)), (AV.one (AC.ptr 1 33 0)), (AV.one (AC.vec 200000)), (AV.tup []), (AV.tup []), (AV.tup []), (AV.tup []), (AV.tup []), (AV.tup []), (AV.tup []), (AV.tup []), (AV.tup []), (AV.tup []), (AV.tup []), (AV.tup []), (AV.tup []), (AV.tup []), (AV.tup []), (AV.tup []), (AV.tup []), (AV.tup []), (AV.tup []), (AV.tup []), (AV.tup []), (AV.tup []), (AV.tup []), (AV.tup []), (AV.tup []), (AV.tup []), (AV.tup []), (AV.tup []), (AV.tup []), (AV.tup []), (AV.tup []), (AV.tup []), (AV.tup []), (AV.tup []), (AV.tup []), (AV.tup []), (AV.tup []), (AV.tup []), (AV.tup []), (AV.tup []), (AV.tup []), (AV.tup []), (AV.tup []), (AV.tup []), (AV.tup []), (AV.tup []), (AV.tup []), (AV.tup []), (AV.tup []), (AV.tup []), (AV.tup []), (AV.tup []), (AV.tup []), (AV.tup []), (AV.tup []), (AV.tup []), (AV.tup []), (AV.tup []), (AV.tup []), (AV.tup []), (AV.tup []), (AV.tup []), (AV.tup []), (AV.tup []), (AV.tup []), (AV.tup []), (AV.tup []), (AV.tup []), (AV.tup []), (AV.tup []), (AV.tup []), (AV.tup []), (AV.tup []), (AV.tup []), (AV.tup []), (AV.tup []), (AV.tup []), (AV.tup []), (AV.tup []), (AV.tup []), (AV.tup []), (AV.tup []), (AV.tup []), (AV.tup []), (AV.tup []), (AV.tup []), (AV.tup []), (AV.tup []), (AV.tup []), (AV.tup []), (AV.tup []), (AV.tup []), (AV.tup []), (AV.tup []), (AV.tup []), (AV.tup []), (AV.tup []), (AV.tup []), (AV.tup []), (AV.tup []), (AV.tup []), (AV.tup []), (AV.tup []), (AV.tup []), (AV.tup []), (AV.tup []), (AV.tup []), (AV.tup []), (AV.tup []), (AV.tup []), (AV.tup []), (AV.tup []), (AV.tup []), (AV.tup []), (AV.tup []), (AV.tup []), (AV.tup []), (AV.tup []), (AV.tup []), (AV.tup []), (AV.tup []), (AV.tup []), (AV.tup []), (AV.tup []), (AV.tup []), (AV.tup []), (AV.tup []), (AV.tup [])] [(1, Blk.own 42 [(Seg.ints IntKind.u8 16 k), (Seg.ints IntKind.u8 16 s), (Seg.cells [(AC.int IntKind.i64 n)]), (Seg.cells [(AC.vec 200000)])]), (3, Blk.own 22 [(Seg.ints IntKind.u8 16 (lsub k 0 16))]), (4, Blk.own 22 [(Seg.ints IntKind.u8 16 (lsub s 0 16))]), (200000, Blk.rview [(Col.ints IntKind.u8 p)]), (900004, Blk.heap IntKind.u8 [[]])]

def lmasks.k22 (R : AV → Mem → Prop) (k : List Int) (s : List Int) (n : Int) (p : List Int) (fuel m : Nat) : Prop := runM Try.prog gamB10 [⟨777777, [], true, false⟩] (resh Try.prog [⟨777777, [], true, false⟩] Try.f6.results.toList R) (run Try.prog gamB10 [⟨777777, [], true, false⟩] (resh Try.prog [⟨777777, [], true, false⟩] Try.f6.results.toList R) fuel) m [.code (cAt (bodyOf Try.f6) [1, 0, 1, 1]), .code (cAt (bodyOf Try.f6) [1, 1])] [AV.undef, (AV.one (AC.ptr 1 0 0)), AV.undef, (AV.tup []), (AV.tup []), (AV.tup []), (AV.tup []), (AV.tup []), (AV.tup []), (AV.tup []), (AV.tup []), (AV.tup []), (AV.tup []), (AV.tup []), (AV.tup []), (AV.tup []), AV.undef, AV.undef, (AV.tup []), (AV.tup []), (AV.tup []), (AV.tup []), (AV.tup []), (AV.tup []), (AV.tup []), (AV.tup []), (AV.tup []), (AV.tup []), (AV.tup []), (AV.tup []), (AV.tup []), (AV.tup []), (AV.tup []), (AV.tup []), (AV.tup []), (AV.tup []), (AV.tup []), (AV.tup []), (AV.tup []), (AV.tup []), (AV.tup []), (AV.tup []), (AV.tup []), (AV.tup []), (AV.tup []), (AV.tup []), (AV.tup []), (AV.tup []), (AV.tup []), (AV.tup []), (AV.tup []), (AV.tup []), (AV.tup []), (AV.tup []), (AV.tup []), (AV.tup []), (AV.tup []), (AV.tup []), (AV.tup []), (AV.tup []), (AV.tup []), (AV.tup []), (AV.tup []), (AV.tup []), (AV.tup []), (AV.tup []), (AV.tup []), (AV.tup []), (AV.tup []), (AV.tup []), (AV.tup []), (AV.tup []), (AV.tup []), (AV.tup []), (AV.tup []), (AV.tup []), (AV.tup []), (AV.tup []), (AV.tup []), (AV.tup []), (AV.tup []), (AV.tup []), (AV.tup []), (AV.tup []), (AV.tup []), (AV.tup []), (AV.tup []), (AV.tup []), (AV.tup []), (AV.tup []), (AV.tup []), (AV.tup []), (AV.tup []), (AV.tup []), (AV.tup []), (AV.tup []), (AV.tup []), (AV.tup []), (AV.tup []), (AV.tup []), (AV.tup []), (AV.tup []), (AV.tup []), (AV.tup []), (AV.tup []), (AV.tup []), (AV.tup []), (AV.tup []), (AV.tup []), (AV.tup []), (AV.tup []), (AV.tup []), (AV.tup []), (AV.tup []), (AV.tup []), (AV.tup []), (AV.tup []), (AV.tup []), (AV.tup []), (AV.tup []), (AV.tup []), (AV.tup []), (AV.tup []), (AV.tup []), (AV.tup []), (AV.tup []), (AV.tup []), (AV.tup []), (AV.tup []), (AV.tup []), (AV.tup []), (AV.tup []), (AV.tup []), (AV.tup []), (AV.tup []), (AV.tup []), (AV.tup []), (AV.tup []), (AV.tup []), (AV.tup []), (AV.tup []), (AV.tup []), (AV.tup []), (AV.tup []), (AV.tup []), (AV.tup []), (AV.tup []), (AV.tup []), (AV.tup []), (AV.tup []), (AV.tup []), (AV.tup []), (AV.tup []), (AV.tup [])] [(1, Blk.own 42 [(Seg.ints IntKind.u8 16 k), (Seg.ints IntKind.u8 16 s), (Seg.cells [(AC.int IntKind.i64 n)]), (Seg.cells [(AC.vec 200000)])]), (200000, Blk.rview [(Col.ints IntKind.u8 p)]), (900004, Blk.heap IntKind.u8 [[]])]

theorem lmasks.k0_eq (R : AV → Mem → Prop) (k : List Int) (s : List Int) (p : List Int) (fuel m : Nat) : lmasks.k0 R k s p fuel (m + 100) = ((R (AV.one (AC.lit false)) [(3, Blk.own 22 [(Seg.ints IntKind.u8 16 (lsub k 0 16))]), (4, Blk.own 22 [(Seg.ints IntKind.u8 16 (lsub s 0 16))]), (29, Blk.vec [(Col.ints IntKind.u8 (Go.Blk.mask (Go.Blk.ks (lsub k 0 16)) (lsub s 0 16) p))]), (200000, Blk.rview [(Col.ints IntKind.u8 p)]), (900004, Blk.heap IntKind.u8 [[]])])) := by kernel_rfl

theorem lmasks.k1_eq (R : AV → Mem → Prop) (p : List Int) (k : List Int) (s : List Int) (y1 : List Int) (fuel m : Nat) : lmasks.k1 R p k s y1 fuel (m + 100) = ((R (AV.one (AC.lit false)) [(3, Blk.own 22 [(Seg.ints IntKind.u8 16 (lsub k 0 16))]), (4, Blk.own 22 [(Seg.ints IntKind.u8 16 (lsub s 0 16))]), (29, Blk.vec [(Col.ints IntKind.u8 (Go.Blk.mask (Go.Blk.ks (lsub k 0 16)) (lsub s 0 16) p))]), (45, Blk.vec [(Col.ints IntKind.u8 (lcat (lcat [] p) [161, 162]))]), (53, Blk.vec [(Col.ints IntKind.u8 y1)]), (57, Blk.vec [(Col.ints IntKind.u8 y1)]), (200000, Blk.rview [(Col.ints IntKind.u8 p)]), (900004, Blk.heap IntKind.u8 [[]])])) := by kernel_rfl

theorem lmasks.k2_eq (R : AV → Mem → Prop) (p : List Int) (x7 : Int) (x8 : List Int) (k : List Int) (s : List Int) (y6 : List Int) (os'3 : List (List Int)) (fuel m : Nat) : lmasks.k2 R p x7 x8 k s y6 os'3 fuel (m + 100) = ((lmasks.l0 R p k s y6 os'3 fuel (add IntKind.i64 x7 1) (lset x8 (nadd 0 (nat x7)) (bxor IntKind.u8 (lget x8 (nadd 0 (nat x7))) 85)))) := by kernel_rfl

theorem lmasks.k3_eq (R : AV → Mem → Prop) (p : List Int) (x7 : Int) (k : List Int) (s : List Int) (x8 : List Int) (y6 : List Int) (os'3 : List (List Int)) (fuel m : Nat) : lmasks.k3 R p x7 k s x8 y6 os'3 fuel (m + 6) = (((InB x7 (nat (ofNat (llen p)))) ∧ ((InB x7 (nat (ofNat (llen p)))) ∧ (lmasks.k2 R p x7 x8 k s y6 os'3 fuel m)))) := by kernel_rfl

theorem lmasks.k4_eq (R : AV → Mem → Prop) (k : List Int) (s : List Int) (x8 : List Int) (p : List Int) (x7 : Int) (y6 : List Int) (os'3 : List (List Int)) (fuel m : Nat) : lmasks.k4 R k s x8 p x7 y6 os'3 fuel (m + 100) = ((let y9 : Bool := (seq2 (bytesOf (Go.Blk.mask (Go.Blk.ks (lsub k 0 16)) (lsub s 0 16) (lsub x8 0 (nat (ofNat (llen p)))))) (bytesOf (Go.Blk.mask (Go.Blk.ks (lsub k 0 16)) (lsub s 0 16) (lsub x8 0 (nat (ofNat (llen p))))))); (R (AV.one (AC.bool y9)) [(3, Blk.own 22 [(Seg.ints IntKind.u8 16 (lsub k 0 16))]), (4, Blk.own 22 [(Seg.ints IntKind.u8 16 (lsub s 0 16))]), (29, Blk.vec [(Col.ints IntKind.u8 (Go.Blk.mask (Go.Blk.ks (lsub k 0 16)) (lsub s 0 16) p))]), (45, Blk.vec [(Col.ints IntKind.u8 x8)]), (123, Blk.vec [(Col.ints IntKind.u8 y6)]), (145, Blk.vec [(Col.ints IntKind.u8 (Go.Blk.mask (Go.Blk.ks (lsub k 0 16)) (lsub s 0 16) (lsub x8 0 (nat (ofNat (llen p))))))]), (150, Blk.vec [(Col.ints IntKind.u8 (Go.Blk.mask (Go.Blk.ks (lsub k 0 16)) (lsub s 0 16) (lsub x8 0 (nat (ofNat (llen p))))))]), (200000, Blk.rview [(Col.ints IntKind.u8 p)]), (900004, Blk.heap IntKind.u8 os'3)]))) := by kernel_rfl

theorem lmasks.k5_eq (R : AV → Mem → Prop) (p : List Int) (x7 : Int) (y6 : List Int) (k : List Int) (s : List Int) (x8 : List Int) (os'3 : List (List Int)) (fuel m : Nat) : lmasks.k5 R p x7 y6 k s x8 os'3 fuel (m + 100) = ((R (AV.one (AC.lit false)) [(3, Blk.own 22 [(Seg.ints IntKind.u8 16 (lsub k 0 16))]), (4, Blk.own 22 [(Seg.ints IntKind.u8 16 (lsub s 0 16))]), (29, Blk.vec [(Col.ints IntKind.u8 (Go.Blk.mask (Go.Blk.ks (lsub k 0 16)) (lsub s 0 16) p))]), (45, Blk.vec [(Col.ints IntKind.u8 x8)]), (123, Blk.vec [(Col.ints IntKind.u8 y6)]), (200000, Blk.rview [(Col.ints IntKind.u8 p)]), (900004, Blk.heap IntKind.u8 os'3)])) := by kernel_rfl

theorem lmasks.k6_eq (R : AV → Mem → Prop) (p : List Int) (x7 : Int) (k : List Int) (s : List Int) (x8 : List Int) (y6 : List Int) (os'3 : List (List Int)) (fuel m : Nat) : lmasks.k6 R p x7 k s x8 y6 os'3 fuel (m + 3) = ((((((seq2 (bytesOf y6) (bytesOf (Go.Blk.mask (Go.Blk.ks (lsub k 0 16)) (lsub s 0 16) p))) = true) → ((((Go.Blk.BL 16 (lsub k 0 16)) ∧ (Go.Blk.BL 16 (lsub s 0 16))) ∧ ((Short (lsub x8 0 (nat (ofNat (llen p))))) ∧ (Bs (lsub x8 0 (nat (ofNat (llen p))))))) ∧ (((((Go.Blk.BL 16 (lsub k 0 16)) ∧ (Go.Blk.BL 16 (lsub s 0 16))) ∧ ((Short (lsub x8 0 (nat (ofNat (llen p))))) ∧ (Bs (lsub x8 0 (nat (ofNat (llen p))))))) ∧ (lmasks.k4 R k s x8 p x7 y6 os'3 fuel m)) ∧ ((((Go.Blk.BL 16 (lsub k 0 16)) ∧ (Go.Blk.BL 16 (lsub s 0 16))) ∧ ((Short (lsub x8 0 (nat (ofNat (llen p))))) ∧ (Bs (lsub x8 0 (nat (ofNat (llen p))))))) ∧ ((lmasks.k4 R k s x8 p x7 y6 os'3 fuel m) ∧ (lmasks.k4 R k s x8 p x7 y6 os'3 fuel m)))))) ∧ (((seq2 (bytesOf y6) (bytesOf (Go.Blk.mask (Go.Blk.ks (lsub k 0 16)) (lsub s 0 16) p))) = false) → ((lmasks.k5 R p x7 y6 k s x8 os'3 fuel m) ∧ ((lmasks.k5 R p x7 y6 k s x8 os'3 fuel m) ∧ (lmasks.k5 R p x7 y6 k s x8 os'3 fuel m))))) ∧ ((((seq2 (bytesOf y6) (bytesOf (Go.Blk.mask (Go.Blk.ks (lsub k 0 16)) (lsub s 0 16) p))) = true) → ((((Go.Blk.BL 16 (lsub k 0 16)) ∧ (Go.Blk.BL 16 (lsub s 0 16))) ∧ ((Short (lsub x8 0 (nat (ofNat (llen p))))) ∧ (Bs (lsub x8 0 (nat (ofNat (llen p))))))) ∧ (((((Go.Blk.BL 16 (lsub k 0 16)) ∧ (Go.Blk.BL 16 (lsub s 0 16))) ∧ ((Short (lsub x8 0 (nat (ofNat (llen p))))) ∧ (Bs (lsub x8 0 (nat (ofNat (llen p))))))) ∧ (lmasks.k4 R k s x8 p x7 y6 os'3 fuel m)) ∧ ((((Go.Blk.BL 16 (lsub k 0 16)) ∧ (Go.Blk.BL 16 (lsub s 0 16))) ∧ ((Short (lsub x8 0 (nat (ofNat (llen p))))) ∧ (Bs (lsub x8 0 (nat (ofNat (llen p))))))) ∧ ((lmasks.k4 R k s x8 p x7 y6 os'3 fuel m) ∧ (lmasks.k4 R k s x8 p x7 y6 os'3 fuel m)))))) ∧ (((seq2 (bytesOf y6) (bytesOf (Go.Blk.mask (Go.Blk.ks (lsub k 0 16)) (lsub s 0 16) p))) = false) → ((lmasks.k5 R p x7 y6 k s x8 os'3 fuel m) ∧ ((lmasks.k5 R p x7 y6 k s x8 os'3 fuel m) ∧ (lmasks.k5 R p x7 y6 k s x8 os'3 fuel m))))))) := by kernel_rfl

theorem lmasks.k7_eq (R : AV → Mem → Prop) (p : List Int) (x7 : Int) (k : List Int) (s : List Int) (x8 : List Int) (y6 : List Int) (os'3 : List (List Int)) (fuel m : Nat) : lmasks.k7 R p x7 k s x8 y6 os'3 fuel (m + 1) = (((((ilt x7 (ofNat (nat (ofNat (llen p))))) = true) → (lmasks.k3 R p x7 k s x8 y6 os'3 fuel m)) ∧ (((ilt x7 (ofNat (nat (ofNat (llen p))))) = false) → (lmasks.k6 R p x7 k s x8 y6 os'3 fuel m)))) := by kernel_rfl

theorem lmasks.l0_succ (R : AV → Mem → Prop) (p : List Int) (k : List Int) (s : List Int) (y6 : List Int) (os'3 : List (List Int)) (fuel : Nat) (x7 : Int) (x8 : List Int) : lmasks.l0 R p k s y6 os'3 (fuel + 1) x7 x8 = ((lmasks.k7 R p x7 k s x8 y6 os'3 fuel 3997)) := by kernel_rfl
theorem lmasks.l0_zero (R : AV → Mem → Prop) (p : List Int) (k : List Int) (s : List Int) (y6 : List Int) (os'3 : List (List Int)) (x7 : Int) (x8 : List Int) : lmasks.l0 R p k s y6 os'3 0 x7 x8 = False := by kernel_rfl

theorem lmasks.k8_eq (R : AV → Mem → Prop) (p : List Int) (k : List Int) (s : List Int) (y6 : List Int) (os'3 : List (List Int)) (fuel m : Nat) : lmasks.k8 R p k s y6 os'3 fuel (m + 100) = ((lmasks.l0 R p k s y6 os'3 fuel 0 (lcat (lcat [] p) [161, 162]))) := by kernel_rfl

theorem lmasks.k9_eq (R : AV → Mem → Prop) (p : List Int) (k : List Int) (s : List Int) (os'3 : List (List Int)) (fuel m : Nat) : lmasks.k9 R p k s os'3 fuel (m + 6) = (((((Go.Blk.BL 16 (lsub k 0 16)) ∧ (Go.Blk.BL 16 (lsub s 0 16))) ∧ ((Short (lsub (lcat (lcat [] p) [161, 162]) 0 (nat (ofNat (llen p))))) ∧ (Bs (lsub (lcat (lcat [] p) [161, 162]) 0 (nat (ofNat (llen p))))))) ∧ (let y6 : List Int := (Go.Blk.mask (Go.Blk.ks (lsub k 0 16)) (lsub s 0 16) (lsub (lcat (lcat [] p) [161, 162]) 0 (nat (ofNat (llen p))))); (lmasks.k8 R p k s y6 os'3 fuel m)))) := by kernel_rfl

theorem lmasks.k10_eq (R : AV → Mem → Prop) (p : List Int) (y1 : List Int) (k : List Int) (s : List Int) (os'3 : List (List Int)) (fuel m : Nat) : lmasks.k10 R p y1 k s os'3 fuel (m + 1) = ((let y4 : Bool := (bnot (seq2 (bytesOf (Go.Blk.strmI (Go.Blk.ks (lsub k 0 16)) (lsub s 0 16) (rem (ofNat (llen p)) 100))) (bytesOf (Go.Blk.strmI (Go.Blk.ks (lsub k 0 16)) (lsub s 0 16) (rem (ofNat (llen p)) 100))))); (let y5 : List HS := [(HS.mk 1 0 (llen y1)), (HS.mk (llen [[], y1]) 0 (llen y1)), (HS.mk (llen [[], y1, y1]) 0 (llen (Go.Blk.strmI (Go.Blk.ks (lsub k 0 16)) (lsub s 0 16) (rem (ofNat (llen p)) 100)))), (HS.mk (llen [[], y1, y1, (Go.Blk.strmI (Go.Blk.ks (lsub k 0 16)) (lsub s 0 16) (rem (ofNat (llen p)) 100))]) 0 (llen (Go.Blk.strmI (Go.Blk.ks (lsub k 0 16)) (lsub s 0 16) (rem (ofNat (llen p)) 100))))]; (lmasks.k9 R p k s os'3 fuel m)))) := by kernel_rfl

theorem lmasks.k11_eq (R : AV → Mem → Prop) (p : List Int) (k : List Int) (s : List Int) (fuel m : Nat) : lmasks.k11 R p k s fuel (m + 100) = ((R (AV.one (AC.lit false)) [(3, Blk.own 22 [(Seg.ints IntKind.u8 16 (lsub k 0 16))]), (4, Blk.own 22 [(Seg.ints IntKind.u8 16 (lsub s 0 16))]), (29, Blk.vec [(Col.ints IntKind.u8 (Go.Blk.mask (Go.Blk.ks (lsub k 0 16)) (lsub s 0 16) p))]), (45, Blk.vec [(Col.ints IntKind.u8 (lcat (lcat [] p) [161, 162]))]), (200000, Blk.rview [(Col.ints IntKind.u8 p)]), (900004, Blk.heap IntKind.u8 [[]])])) := by kernel_rfl

theorem lmasks.k12_eq (R : AV → Mem → Prop) (p : List Int) (k : List Int) (s : List Int) (y1 : List Int) (fuel m : Nat) : lmasks.k12 R p k s y1 fuel (m + 6) = (((((bnot (seq2 (bytesOf (Go.Blk.strmI (Go.Blk.ks (lsub k 0 16)) (lsub s 0 16) (rem (ofNat (llen p)) 100))) (bytesOf (Go.Blk.strmI (Go.Blk.ks (lsub k 0 16)) (lsub s 0 16) (rem (ofNat (llen p)) 100))))) = false) → ((ApartOk [(HS.mk 1 0 (llen y1)), (HS.mk (llen [[], y1]) 0 (llen y1)), (HS.mk (llen [[], y1, y1]) 0 (llen (Go.Blk.strmI (Go.Blk.ks (lsub k 0 16)) (lsub s 0 16) (rem (ofNat (llen p)) 100)))), (HS.mk (llen [[], y1, y1, (Go.Blk.strmI (Go.Blk.ks (lsub k 0 16)) (lsub s 0 16) (rem (ofNat (llen p)) 100))]) 0 (llen (Go.Blk.strmI (Go.Blk.ks (lsub k 0 16)) (lsub s 0 16) (rem (ofNat (llen p)) 100))))] [[], y1, y1, (Go.Blk.strmI (Go.Blk.ks (lsub k 0 16)) (lsub s 0 16) (rem (ofNat (llen p)) 100)), (Go.Blk.strmI (Go.Blk.ks (lsub k 0 16)) (lsub s 0 16) (rem (ofNat (llen p)) 100))]) ∧ (∀ os'3 : List (List Int), (lmasks.k10 R p y1 k s os'3 fuel (m + 3))))) ∧ (((bnot (seq2 (bytesOf (Go.Blk.strmI (Go.Blk.ks (lsub k 0 16)) (lsub s 0 16) (rem (ofNat (llen p)) 100))) (bytesOf (Go.Blk.strmI (Go.Blk.ks (lsub k 0 16)) (lsub s 0 16) (rem (ofNat (llen p)) 100))))) = true) → (let y10 : Bool := (bnot (seq2 (bytesOf (Go.Blk.strmI (Go.Blk.ks (lsub k 0 16)) (lsub s 0 16) (rem (ofNat (llen p)) 100))) (bytesOf (Go.Blk.strmI (Go.Blk.ks (lsub k 0 16)) (lsub s 0 16) (rem (ofNat (llen p)) 100))))); (lmasks.k11 R p k s fuel m))))) := by kernel_rfl

theorem lmasks.k13_eq (R : AV → Mem → Prop) (p : List Int) (k : List Int) (s : List Int) (y1 : List Int) (fuel m : Nat) : lmasks.k13 R p k s y1 fuel (m + 3) = (((NeZ 100) ∧ ((NeZ 100) ∧ (((Go.Blk.BL 16 (lsub k 0 16)) ∧ (Go.Blk.BL 16 (lsub s 0 16))) ∧ (((Go.Blk.BL 16 (lsub k 0 16)) ∧ (Go.Blk.BL 16 (lsub s 0 16))) ∧ (lmasks.k12 R p k s y1 fuel m)))))) := by kernel_rfl

theorem lmasks.k14_eq (R : AV → Mem → Prop) (p : List Int) (k : List Int) (s : List Int) (y1 : List Int) (fuel m : Nat) : lmasks.k14 R p k s y1 fuel (m + 3) = ((let y2 : Bool := (bnot (seq2 (bytesOf (lsub (lcat (lcat [] p) [161, 162]) 0 (nat (ofNat (llen p))))) (bytesOf p))); ((((ine (lget (lcat (lcat [] p) [161, 162]) (nat (add IntKind.i64 (ofNat (llen p)) 1))) 162) = true) → (lmasks.k1 R p k s y1 fuel m)) ∧ (((ine (lget (lcat (lcat [] p) [161, 162]) (nat (add IntKind.i64 (ofNat (llen p)) 1))) 162) = false) → (lmasks.k13 R p k s y1 fuel (m + 2)))))) := by kernel_rfl

theorem lmasks.k15_eq (R : AV → Mem → Prop) (p : List Int) (k : List Int) (s : List Int) (fuel m : Nat) : lmasks.k15 R p k s fuel (m + 6) = ((let y1 : List Int := (Go.Blk.mask (Go.Blk.ks (lsub k 0 16)) (lsub s 0 16) (lsub (lcat (lcat [] p) [161, 162]) 0 (nat (ofNat (llen p))))); ((((bnot (seq2 (bytesOf y1) (bytesOf (Go.Blk.mask (Go.Blk.ks (lsub k 0 16)) (lsub s 0 16) p)))) = false) → ((((bnot (seq2 (bytesOf y1) (bytesOf (Go.Blk.mask (Go.Blk.ks (lsub k 0 16)) (lsub s 0 16) p)))) = false) → ((((bnot (seq2 (bytesOf (lsub (lcat (lcat [] p) [161, 162]) 0 (nat (ofNat (llen p))))) (bytesOf p))) = false) → ((InB (ofNat (llen p)) (llen (lcat (lcat [] p) [161, 162]))) ∧ ((((ine (lget (lcat (lcat [] p) [161, 162]) (nat (ofNat (llen p)))) 161) = false) → ((InB (add IntKind.i64 (ofNat (llen p)) 1) (llen (lcat (lcat [] p) [161, 162]))) ∧ (lmasks.k14 R p k s y1 fuel (m + 3)))) ∧ (((ine (lget (lcat (lcat [] p) [161, 162]) (nat (ofNat (llen p)))) 161) = true) → (let y11 : Bool := (bnot (seq2 (bytesOf (lsub (lcat (lcat [] p) [161, 162]) 0 (nat (ofNat (llen p))))) (bytesOf p))); (lmasks.k1 R p k s y1 fuel m)))))) ∧ (((bnot (seq2 (bytesOf (lsub (lcat (lcat [] p) [161, 162]) 0 (nat (ofNat (llen p))))) (bytesOf p))) = true) → (let y12 : Bool := (bnot (seq2 (bytesOf (lsub (lcat (lcat [] p) [161, 162]) 0 (nat (ofNat (llen p))))) (bytesOf p))); (lmasks.k1 R p k s y1 fuel m))))) ∧ (((bnot (seq2 (bytesOf y1) (bytesOf (Go.Blk.mask (Go.Blk.ks (lsub k 0 16)) (lsub s 0 16) p)))) = true) → (lmasks.k1 R p k s y1 fuel m)))) ∧ (((bnot (seq2 (bytesOf y1) (bytesOf (Go.Blk.mask (Go.Blk.ks (lsub k 0 16)) (lsub s 0 16) p)))) = true) → (lmasks.k1 R p k s y1 fuel m))))) := by kernel_rfl

theorem lmasks.k16_eq (R : AV → Mem → Prop) (p : List Int) (k : List Int) (s : List Int) (fuel m : Nat) : lmasks.k16 R p k s fuel (m + 2) = (((((Go.Blk.BL 16 (lsub k 0 16)) ∧ (Go.Blk.BL 16 (lsub s 0 16))) ∧ ((Short (lsub (lcat (lcat [] p) [161, 162]) 0 (nat (ofNat (llen p))))) ∧ (Bs (lsub (lcat (lcat [] p) [161, 162]) 0 (nat (ofNat (llen p))))))) ∧ ((((Go.Blk.BL 16 (lsub k 0 16)) ∧ (Go.Blk.BL 16 (lsub s 0 16))) ∧ ((Short (lsub (lcat (lcat [] p) [161, 162]) 0 (nat (ofNat (llen p))))) ∧ (Bs (lsub (lcat (lcat [] p) [161, 162]) 0 (nat (ofNat (llen p))))))) ∧ (lmasks.k15 R p k s fuel m)))) := by kernel_rfl

theorem lmasks.k17_eq (R : AV → Mem → Prop) (k : List Int) (s : List Int) (p : List Int) (fuel m : Nat) : lmasks.k17 R k s p fuel (m + 2) = ((((NonNeg (ofNat (llen p))) ∧ (Fits (nat (ofNat (llen p))) (llen (lcat (lcat [] p) [161, 162])))) ∧ (lmasks.k16 R p k s fuel m))) := by kernel_rfl

theorem lmasks.k18_eq (R : AV → Mem → Prop) (k : List Int) (s : List Int) (p : List Int) (fuel m : Nat) : lmasks.k18 R k s p fuel (m + 3) = (((Room (nadd 0 (llen p)) 1) ∧ ((Room (nadd (llen (lcat [] p)) 2) 1) ∧ (lmasks.k17 R k s p fuel m)))) := by kernel_rfl

theorem lmasks.k19_eq (R : AV → Mem → Prop) (n : Int) (k : List Int) (s : List Int) (p : List Int) (fuel m : Nat) : lmasks.k19 R n k s p fuel (m + 3) = ((let y0 : Bool := (bnot (seq2 (bytesOf (Go.Blk.strmI (Go.Blk.ks (lsub k 0 16)) (lsub s 0 16) n)) (bytesOf (Go.Blk.strmI (Go.Blk.ks (lsub k 0 16)) (lsub s 0 16) n)))); (((y0 = true) → (lmasks.k0 R k s p fuel m)) ∧ ((y0 = false) → (lmasks.k18 R k s p fuel (m + 2)))))) := by kernel_rfl

theorem lmasks.k20_eq (R : AV → Mem → Prop) (n : Int) (k : List Int) (s : List Int) (p : List Int) (fuel m : Nat) : lmasks.k20 R n k s p fuel (m + 3) = ((((Go.Blk.BL 16 (lsub k 0 16)) ∧ (Go.Blk.BL 16 (lsub s 0 16))) ∧ ((((Go.Blk.BL 16 (lsub k 0 16)) ∧ (Go.Blk.BL 16 (lsub s 0 16))) ∧ (lmasks.k19 R n k s p fuel m)) ∧ (((Go.Blk.BL 16 (lsub k 0 16)) ∧ (Go.Blk.BL 16 (lsub s 0 16))) ∧ ((lmasks.k19 R n k s p fuel m) ∧ (lmasks.k19 R n k s p fuel m)))))) := by kernel_rfl

theorem lmasks.k21_eq (R : AV → Mem → Prop) (n : Int) (k : List Int) (s : List Int) (p : List Int) (fuel m : Nat) : lmasks.k21 R n k s p fuel (m + 2) = (((((Go.Blk.BL 16 (lsub k 0 16)) ∧ (Go.Blk.BL 16 (lsub s 0 16))) ∧ ((Short p) ∧ (Bs p))) ∧ (lmasks.k20 R n k s p fuel m))) := by kernel_rfl

theorem lmasks.k22_eq (R : AV → Mem → Prop) (k : List Int) (s : List Int) (n : Int) (p : List Int) (fuel m : Nat) : lmasks.k22 R k s n p fuel (m + 3) = (((Fits 16 16) ∧ ((Fits (nadd 0 16) 16) ∧ ((lmasks.k21 R n k s p fuel m) ∧ (lmasks.k21 R n k s p fuel m))))) := by kernel_rfl

theorem lmasks_vc0 (R : AV → Mem → Prop) (fuel m : Nat) (k : List Int) (s : List Int) (n : Int) (p : List Int) : runM Try.prog gamB10 [⟨777777, [], true, false⟩] (resh Try.prog [⟨777777, [], true, false⟩] Try.f6.results.toList R) (run Try.prog gamB10 [⟨777777, [], true, false⟩] (resh Try.prog [⟨777777, [], true, false⟩] Try.f6.results.toList R) fuel) (m + 6) [.code (bodyOf Try.f6)] (startFr Try.f6.ntmps [.agg [.ints .u8 16 k, .ints .u8 16 s, .cells [.int .i64 n], .cells [.vec 200000]]]) [(200000, .rview [.ints .u8 p]), (900004, .heap .u8 [[]])] = (lmasks.k22 R k s n p fuel m) := by kernel_rfl
theorem lmasks_vc (R : AV → Mem → Prop) (fuel : Nat) (k : List Int) (s : List Int) (n : Int) (p : List Int) : callsx Try.prog gamB10 [⟨777777, [], true, false⟩] Try.f6 (fuel + 1) [.agg [.ints .u8 16 k, .ints .u8 16 s, .cells [.int .i64 n], .cells [.vec 200000]]] [(200000, .rview [.ints .u8 p]), (900004, .heap .u8 [[]])] R = (lmasks.k22 R k s n p fuel 3994) := lmasks_vc0 R fuel 3994 k s n p

end Go.Proofs.Ytkecbjohbihfmaa.G

/- Streams and masks are memory of their own. -/
namespace Go.Proofs.Ytkecbjohbihfmaa.G
open Go Go.Sx Go.Fld Go.Blk
set_option maxRecDepth 20000
set_option linter.unusedSimpArgs false
set_option linter.unusedVariables false
theorem gamB10_good : GoodG Try.prog gamB10 := gamB9_good.ext good_apart ⟨_, Try.func22, by decide, by kernel_rfl⟩

theorem strm_len (w s : List Int) (n : Int) : (strmI w s n).length ≤ 65536 := by
  unfold strmI
  split
  · simp
  · rw [mask_len]; simp [lzeros]; omega
theorem apart_four {y S : List Int} (hy : y.length ≤ 140737488355328) (hS : S.length ≤ 65536) : ApartOk [⟨1, 0, llen y⟩, ⟨2, 0, llen y⟩, ⟨3, 0, llen S⟩, ⟨4, 0, llen S⟩] [[], y, y, S, S] := by
  have cases4 : ∀ k, k < 4 → k = 0 ∨ k = 1 ∨ k = 2 ∨ k = 3 := fun k hk => by omega
  refine ⟨by simp, rfl, fun k hk => ?_, fun k k' hk hk' hne he => ?_⟩
  · have hk : k < 4 := by simpa using hk
    rcases cases4 k hk with rfl | rfl | rfl | rfl
    · exact ⟨by show 1 < 5; decide, by show 0 + y.length ≤ y.length; omega, hy⟩
    · exact ⟨by show 2 < 5; decide, by show 0 + y.length ≤ y.length; omega, hy⟩
    · exact ⟨by show 3 < 5; decide, by show 0 + S.length ≤ S.length; omega, by show S.length ≤ _; omega⟩
    · exact ⟨by show 4 < 5; decide, by show 0 + S.length ≤ S.length; omega, by show S.length ≤ _; omega⟩
  · have hk : k < 4 := by simpa using hk
    have hk' : k' < 4 := by simpa using hk'
    exfalso
    have e : ∀ k, k < 4 → (hget [⟨1, 0, llen y⟩, ⟨2, 0, llen y⟩, ⟨3, 0, llen S⟩, ⟨4, 0, llen S⟩] k).j = k + 1 := fun k hk => by
      rcases cases4 k hk with rfl | rfl | rfl | rfl <;> rfl
    rw [e k hk, e k' hk'] at he
    omega

theorem blockMasks_plain {k s p : List Int} {n : Int} (hk : BL 16 k) (hs : BL 16 s) (hp : Short p) (hb : Bs p) :
    ∃ f, Has (callsx Try.prog gamB10 [⟨777777, [], true, false⟩] Try.f6 f [.agg [.ints .u8 16 k, .ints .u8 16 s, .cells [.int .i64 n], .cells [.vec 200000]]] [(200000, .rview [.ints .u8 p]), (900004, .heap .u8 [[]])] Yes) := by
  have hw := ks_bl hk
  have hle := hp.le
  have lk : lsub k 0 16 = k := by rw [lsub, List.drop_zero, List.take_of_length_le (by rw [hk.len]; exact Nat.le_refl _)]
  have ls : lsub s 0 16 = s := by rw [lsub, List.drop_zero, List.take_of_length_le (by rw [hs.len]; exact Nat.le_refl _)]
  have ln : nat (ofNat (llen p)) = p.length := rfl
  have hF : lcat (lcat [] p) [161, 162] = p ++ [161, 162] := rfl
  have lf : lsub (p ++ [161, 162]) 0 p.length = p := by rw [lsub, List.drop_zero]; simp
  have g1 : lget (p ++ [161, 162]) p.length = 161 := by rw [lget_app, if_neg (by omega), Nat.sub_self]; rfl
  have ad : add .i64 (ofNat (llen p)) 1 = ((p.length + 1 : Nat) : Int)   := add1_i64 (a := p.length) (by omega)
  have g2 : lget (p ++ [161, 162]) (p.length + 1) = 162 := by rw [lget_app, if_neg (by omega), show p.length + 1 - p.length = 1 by omega]; rfl
  have hm := mask_bs hw hs hb
  have my : (mask (ks k) s p).length ≤ 140737488355328 := by rw [mask_len]; exact hle
  have nz : NeZ 100 := ⟨by decide⟩
  have hl2 : llen (p ++ [161, 162]) = p.length + 2 := by simp [llen]
  -- behind the loop
  have tail : ∀ (os : List (List Int)) F M x8, x8.length = p.length + 2 → Bs x8 → lmasks.k6 Yes p (p.length : Int) k s x8 (mask (ks k) s p) os F (M + 200) := by
    intro os F M x8 h1 h2
    have hq : Short (lsub x8 0 p.length) := ⟨by rw [lsub_len _ _ _ (by omega)]; exact hle⟩
    have hqb : Bs (lsub x8 0 p.length) := by rw [lsub, List.drop_zero]; exact h2.take _
    have k4 : ∀ M, lmasks.k4 Yes k s x8 p (p.length : Int) (mask (ks k) s p) os F (M + 100) := fun M => by
      rw [lmasks.k4_eq]
      simp only [lk, ls, ln, seq2_self rfl]
      exact Or.inl rfl
    rw [lmasks.k6_eq Yes p _ k s x8 _ os F (M + 197)]
    simp only [lk, ls, ln, seq2_self rfl, hk, hs, hq, hqb, k4, Bool.true_eq_false, false_implies, forall_const, true_and, and_true]
  have loop : ∃ F, ∀ (os : List (List Int)), lmasks.l0 Yes p k s (mask (ks k) s p) os F 0 (p ++ [161, 162]) := by
    obtain ⟨F, h⟩ := loop_inv_ex (fun f i (x : List Int × List (List Int)) => lmasks.l0 Yes p k s (mask (ks k) s p) x.2 f i x.1) p.length (fun i x => x.1.length = p.length + 2 ∧ Bs x.1) (fun _ => 1) 1 (fun g i x hi hI hnext => by
      obtain ⟨h1, h2⟩ := hI
      have a1 : add .i64 (i : Int) 1 = ((i + 1 : Nat) : Int) := add1_i64 (by omega)
      show lmasks.l0 Yes p k s (mask (ks k) s p) x.2 (g + 1) (i : Int) x.1
      rw [lmasks.l0_succ, lmasks.k7_eq Yes p _ k s x.1 _ x.2 g 3996]
      refine ⟨fun _ => ?_, fun q => ?_⟩
      · rw [lmasks.k3_eq Yes p _ k s x.1 _ x.2 g 3990, lmasks.k2_eq Yes p _ x.1 k s _ x.2 g 3890, a1]
        refine ⟨⟨by omega, by show _ < (p.length : Int); omega⟩, ⟨by omega, by show _ < (p.length : Int); omega⟩, hnext (_, x.2) ⟨by simpa [lset] using h1, ?_⟩⟩
        have hg := h2.get (nadd 0 (nat (i : Int)))
        have hx := byte_xor (a := lget x.1 (nadd 0 (nat (i : Int)))) (b := 85) ⟨hg.1, hg.2⟩ ⟨by decide, by decide⟩
        exact h2.set _ hx.lo hx.hi
      · rw [ilt_false] at q
        have q : (p.length : Int) ≤ i := q
        omega) (fun x hI => by
      rw [lmasks.l0_succ, lmasks.k7_eq Yes p _ k s x.1 _ x.2 0 3996]
      refine ⟨fun q => ?_, fun _ => tail x.2 0 3796 x.1 hI.1 hI.2⟩
      rw [ilt_true] at q
      have q : (p.length : Int) < p.length := q
      omega)
    exact ⟨F, fun os => h (_, os) ⟨by simp, hb.app ⟨fun x hx => by simp at hx; omega⟩⟩⟩
  obtain ⟨F, loop⟩ := loop
  refine ⟨F + 1, ⟨?_⟩⟩
  have hroom1 : Room (nadd 0 (llen p)) 1 := ⟨by show (5 * (0 + p.length) + 4096) * 1 ≤ _; omega⟩
  have hroom2 : Room (nadd (llen (lcat [] p)) 2) 1 := ⟨by show (5 * (p.length + 2) + 4096) * 1 ≤ _; omega⟩
  have k13 : ∀ M, lmasks.k13 Yes p k s (mask (ks k) s p) F (M + 400) := fun M => by
    rw [lmasks.k13_eq Yes p k s _ F (M + 397), lmasks.k12_eq Yes p k s _ F (M + 391)]
    simp only [lk, ls, ln, seq2_self rfl, bnot, Bool.not_true, Bool.false_eq_true, Bool.true_eq_false, false_implies, forall_const, hk, hs, nz, true_and, and_true]
    refine ⟨apart_four my (strm_len _ _ _), fun os => ?_⟩
    rw [lmasks.k10_eq Yes p _ k s os F (M + 393), lmasks.k9_eq Yes p k s os F (M + 387), lmasks.k8_eq Yes p k s _ os F (M + 287)]
    simp only [lk, ls, ln, hF, lf]
    exact ⟨⟨⟨hk, hs⟩, hp, hb⟩, loop os⟩
  have in1 : InB (ofNat (llen p)) (p.length + 2) := ⟨by show (0 : Int) ≤ (p.length : Int); omega, by show (p.length : Int) < _; omega⟩
  have in2 : InB ((p.length + 1 : Nat) : Int) (p.length + 2) := ⟨by omega, by omega⟩
  have i1 : ine 161 161 = false := by decide
  have i2 : ine 162 162 = false := by decide
  have k14 : ∀ M, lmasks.k14 Yes p k s (mask (ks k) s p) F (M + 450) := fun M => by
    rw [lmasks.k14_eq Yes p k s _ F (M + 447)]
    simp only [lk, ls, ln, hF, lf, ad, nat_cast, g2, i2, Bool.false_eq_true, false_implies, forall_const, k13, true_and]
  have k15 : ∀ M, lmasks.k15 Yes p k s F (M + 500) := fun M => by
    rw [lmasks.k15_eq Yes p k s F (M + 494)]
    simp only [lk, ls, ln, hF, lf, g1, ad, nat_cast, hl2, in1, in2, i1, seq2_self rfl, bnot, Bool.not_true, Bool.false_eq_true, Bool.true_eq_false, false_implies, forall_const, k14, true_and, and_true]
  have k17 : ∀ M, lmasks.k17 Yes k s p F (M + 600) := fun M => by
    rw [lmasks.k17_eq Yes k s p F (M + 598), lmasks.k16_eq Yes p k s F (M + 596)]
    simp only [lk, ls, ln, hF, lf, hk, hs, hp, hb, hl2, k15, true_and, and_true]
    exact ⟨⟨by show (0 : Int) ≤ (p.length : Int); omega⟩, ⟨by omega⟩⟩
  have k19 : ∀ M, lmasks.k19 Yes n k s p F (M + 700) := fun M => by
    rw [lmasks.k19_eq Yes n k s p F (M + 697), lmasks.k18_eq Yes k s p F (M + 696)]
    simp only [seq2_self rfl, bnot, Bool.not_true, Bool.false_eq_true, Bool.true_eq_false, false_implies, forall_const, true_and]
    simp only [hroom1, hroom2, k17, true_and]
  have k21 : ∀ M, lmasks.k21 Yes n k s p F (M + 800) := fun M => by
    rw [lmasks.k21_eq Yes n k s p F (M + 798), lmasks.k20_eq Yes n k s p F (M + 795)]
    simp only [lk, ls, hk, hs, hp, hb, k19, true_and, and_true]
  rw [lmasks_vc, lmasks.k22_eq Yes k s n p F 3991]
  have f1 : Fits 16 16 := ⟨by decide⟩
  have f2 : Fits (nadd 0 16) 16 := ⟨by decide⟩
  simp only [f1, f2, k21, true_and, and_true]
end Go.Proofs.Ytkecbjohbihfmaa.G

/- Arguments that came in: lists of records, arrays and lists, structs. -/
namespace Go.Sx
open Go Go.ChangeShapes Go.WideShapes Go.ChangeAt Go.RowKit
set_option linter.unusedSimpArgs false
set_option linter.unusedVariables false

/-- the kinds of a record's fields, their places and sizes looked at -/
def fieldsO (P : Program) (f : TypeId → Option (List Kd)) : List Field → Nat → Option (List Kd)
  | [], o => some []
  | fd :: r, o => match f fd.type, fieldsO P f r (o + P.cellsOf fd.type) with
    | some k1, some k2 => if fd.offset = o ∧ P.cellsOf fd.type = width k1 then some (k1 ++ k2) else none
    | _, _ => none
def kindsO (P : Program) : Nat → TypeId → Option (List Kd)
  | 0, _ => none
  | d + 1, t => match P.underlying t with
    | some (.int k) => if P.cellsOf t = 1 then some [.ints k] else none
    | some .bool => if P.cellsOf t = 1 then some [.bools] else none
    | some (.slice e) => match P.underlying e with
      | some (.int k) => if P.cellsOf e = 1 ∧ P.cellsOf t = 1 ∧ 1 ≤ P.bytesOf e then some [.rows k] else none
      | _ => none
    | some (.array m e) => match P.underlying e with
      | some (.int k) => if P.cellsOf e = 1 ∧ P.cellsOf t = m then some [.arrs k m] else none
      | _ => none
    | some (.struct fs) => match fieldsO P (kindsO P d) fs.toList 0 with
      | some ks => if P.cellsOf t = width ks then some ks else none
      | none => none
    | _ => none

def KdAt (w : World) (k : Kd) (cs : List Value) (o : Nat) : Prop :=
  match k with
  | .ints q => ∃ n, cs[o]? = some (.int q n) ∧ (Lit.int q n).wf = true
  | .bools => ∃ b, cs[o]? = some (.bool b)
  | .arrs q m => ∃ l : List Int, l.length = m ∧ (∀ (j : Nat) x, l[j]? = some x → cs[o + j]? = some (.int q x)) ∧ ∀ x ∈ l, (Lit.int q x).wf = true
  | .rows q => ∃ A L C Z, cs[o]? = some (.slice A L C) ∧ IsRow q w A L C Z ∧ Z.length ≤ reachBytes
  | .strs => ∃ b, cs[o]? = some (.string b)

def KdsAt (w : World) : List Kd → List Value → Nat → Prop
  | [], _, _ => True
  | k :: r, cs, o => KdAt w k cs o ∧ KdsAt w r cs (o + k.width)

theorem width_append : ∀ (a b : List Kd), width (a ++ b) = width a + width b
  | [], b => by simp [width]
  | k :: a, b => by simp [width, width_append a b, Nat.add_assoc]

theorem KdsAt.append {w : World} {cs : List Value} : ∀ {a b : List Kd} {o : Nat}, KdsAt w a cs o → KdsAt w b cs (o + width a) → KdsAt w (a ++ b) cs o
  | [], b, o, _, h => by simpa [width] using h
  | k :: a, b, o, h, g => ⟨h.1, KdsAt.append h.2 (by simpa [width, Nat.add_assoc] using g)⟩

theorem KdAt.shift {w : World} {cs : List Value} {o z : Nat} {k : Kd} {p : Nat} (hp : p + k.width ≤ z) (h : KdAt w k ((cs.drop o).take z) p) : KdAt w k cs (o + p) := by
  have get : ∀ i, i < z → ((cs.drop o).take z)[i]? = cs[o + i]? := fun i hi => by rw [List.getElem?_take, if_pos hi, List.getElem?_drop]
  cases k with
  | ints q =>
    obtain ⟨n, h1, h2⟩ := h
    exact ⟨n, by rw [← get p (by simp [Kd.width] at hp; omega)]; exact h1, h2⟩
  | bools =>
    obtain ⟨b, h1⟩ := h
    exact ⟨b, by rw [← get p (by simp [Kd.width] at hp; omega)]; exact h1⟩
  | arrs q m =>
    obtain ⟨l, h1, h2, h3⟩ := h
    refine ⟨l, h1, fun j x hj => ?_, h3⟩
    have : j < m := by rw [← h1]; exact (List.getElem?_eq_some_iff.1 hj).1
    rw [Nat.add_assoc, ← get (p + j) (by simp [Kd.width] at hp; omega)]
    exact h2 j x hj
  | strs =>
    obtain ⟨b, h1⟩ := h
    exact ⟨b, by rw [← get p (by simp [Kd.width] at hp; omega)]; exact h1⟩
  | rows q =>
    obtain ⟨A, L, C, Z, h1, h2⟩ := h
    exact ⟨A, L, C, Z, by rw [← get p (by simp [Kd.width] at hp; omega)]; exact h1, h2⟩

theorem KdsAt.shift {w : World} {cs : List Value} {o z : Nat} : ∀ {ks : List Kd} {p : Nat}, p + width ks ≤ z → KdsAt w ks ((cs.drop o).take z) p → KdsAt w ks cs (o + p)
  | [], _, _, _ => trivial
  | k :: r, p, hp, h => ⟨h.1.shift (by simp [width] at hp; omega), by have := KdsAt.shift (ks := r) (p := p + k.width) (by simp [width] at hp; omega) h.2; rwa [← Nat.add_assoc] at this⟩

section
variable {H : Type} {enc : TypeId × Value → H} {P : Program} {w : World} {base : Nat} {held : Bool}

theorem weightsAll_mem {e : TypeId} : ∀ {ds : List (DataW H)} {i : Nat} {d : DataW H}, ds[i]? = some d → ∀ n ∈ d.weights P e, n ∈ DataW.weightsAll P e ds
  | d0 :: ds, 0, d, h, n, hn => by
    simp only [List.getElem?_cons_zero, Option.some.injEq] at h
    subst h
    simp only [DataW.weightsAll, List.mem_append]; exact Or.inl hn
  | d0 :: ds, i + 1, d, h, n, hn => by
    simp only [List.getElem?_cons_succ] at h
    simp only [DataW.weightsAll, List.mem_append]; exact Or.inr (weightsAll_mem h n hn)
  | [], _, _, h, _, _ => by simp at h

/-- a slice of numbers -/
theorem row_of_trod {t e : TypeId} {k : IntKind} {fuel : Nat} {cs : List Value} {x : DataW H × List MemPlace} (ht : P.underlying t = some (.slice e)) (he : P.underlying e = some (.int k)) (hc : P.cellsOf e = 1) (hb : 1 ≤ P.bytesOf e)
    (h : DataW.trod enc P w base (fun _ => true) held fuel t cs = some x) (hz : ∀ n ∈ x.1.weights P t, n ≤ reachBytes) : ∃ A L C Z, cs = [.slice A L C] ∧ IsRow k w A L C Z ∧ Z.length ≤ reachBytes := by
  rcases open_ints ht he hc h with ⟨rfl, rfl⟩ | ⟨a, len, cap, zs, rfl, _, hl, hm, hlen, rfl, hcell, hw⟩
  · exact ⟨none, 0, 0, [], rfl, .inl ⟨rfl, rfl, rfl, rfl⟩, Nat.zero_le _⟩
  · refine ⟨some a, len, cap, zs, rfl, .inr ⟨a, rfl, hl, hm, by simpa using hlen, hcell, hw⟩, ?_⟩
    have := hz (((lits (H := H) k (zs.take len)).length + (lits (H := H) k (zs.drop len)).length) * P.bytesOf e) (by simp [DataW.weights, ht])
    simp only [lits, List.length_map, List.length_take, List.length_drop] at this
    have e1 : min len zs.length + (zs.length - len) = zs.length := by omega
    rw [e1] at this
    exact Nat.le_trans (Nat.le_mul_of_pos_right _ hb) this

theorem kinds_of_trod : ∀ (d : Nat) {t : TypeId} {ks : List Kd} {fuel : Nat} {cs : List Value} {x : DataW H × List MemPlace}, kindsO P d t = some ks → DataW.trod enc P w base (fun _ => true) held fuel t cs = some x → (∀ n ∈ x.1.weights P t, n ≤ reachBytes) →
    cs.length = width ks ∧ KdsAt w ks cs 0
  | 0, _, _, _, _, _, h, _, _ => by simp [kindsO] at h
  | d + 1, t, ks, fuel, cs, x, h, htr, hz => by
    unfold kindsO at h
    split at h
    · rename_i k hu
      split at h
      · cases h
        obtain ⟨n, rfl, rfl, hw⟩ := DataW.trod_int hu htr
        exact ⟨rfl, ⟨n, rfl, hw⟩, trivial⟩
      · cases h
    · rename_i hu
      split at h
      · cases h
        obtain ⟨b, rfl, rfl⟩ := DataW.trod_bool hu htr
        exact ⟨rfl, ⟨b, rfl⟩, trivial⟩
      · cases h
    · rename_i e hu
      split at h
      · rename_i k he
        split at h
        · rename_i hc
          cases h
          obtain ⟨A, L, C, Z, rfl, hr, hl⟩ := row_of_trod hu he hc.1 hc.2.2 htr hz
          exact ⟨rfl, ⟨A, L, C, Z, rfl, hr, hl⟩, trivial⟩
        · cases h
      · cases h
    · rename_i m e hu
      split at h
      · rename_i k he
        split at h
        · rename_i hc
          cases h
          obtain ⟨xs, n, _, _, hcl, hxl, hx⟩ := DataW.trod_array hu htr
          rw [hc.2] at hcl
          have each : ∀ i, i < m → ∃ n, cs[i]? = some (.int k n) ∧ (Lit.int k n).wf = true := by
            intro i hi
            have h1 := hx i hi
            rw [hc.1, Nat.mul_one] at h1
            have h2 : xs[i]? = some (xs[i]'(by omega)) := List.getElem?_eq_getElem (by omega)
            rw [h2] at h1
            obtain ⟨n, e1, _, hw⟩ := DataW.trod_int he h1
            have hlt : i < cs.length := by omega
            rw [List.drop_eq_getElem_cons hlt] at e1
            simp only [List.take_succ_cons, List.take_zero, List.cons.injEq, and_true] at e1
            exact ⟨n, by rw [List.getElem?_eq_getElem hlt, e1], hw⟩
          refine ⟨by simp [width, Kd.width, hcl], ⟨cs.map fun v => match v with | .int _ n => n | _ => 0, by simp [hcl], fun j y hj => ?_, fun y hy => ?_⟩, trivial⟩
          · simp only [List.getElem?_map, Option.map_eq_some_iff] at hj
            obtain ⟨v, hv, rfl⟩ := hj
            have hlt : j < cs.length := (List.getElem?_eq_some_iff.1 hv).1
            obtain ⟨n, e1, _⟩ := each j (by omega)
            rw [e1] at hv; cases hv
            rw [Nat.zero_add, e1]
          · obtain ⟨v, hv, rfl⟩ := List.mem_map.1 hy
            obtain ⟨j, hj⟩ := List.getElem?_of_mem hv
            have hlt : j < cs.length := (List.getElem?_eq_some_iff.1 hj).1
            obtain ⟨n, e1, hw⟩ := each j (by omega)
            rw [e1] at hj; cases hj
            exact hw
        · cases h
      · cases h
    · rename_i fs hu
      split at h
      · rename_i ks' hks
        split at h
        · rename_i hc
          cases h
          obtain ⟨xs, n, _, rfl, hcl, hxl, hx⟩ := DataW.trod_struct hu htr
          refine ⟨by rw [hcl, hc], ?_⟩
          have wt : ∀ (i : Nat) f y, fs[i]? = some f → xs[i]? = some y → ∀ n ∈ y.1.weights P f.type, n ≤ reachBytes := by
            intro i f y hf hy n hn
            refine hz n ?_
            simp only [DataW.weights, hu]
            exact DataW.weights_mem_each (j := i) (t := f.type) (d := y.1) (by simp [List.getElem?_map]; exact ⟨f, by simpa using hf, rfl⟩) (by simp [List.getElem?_map, hy]) n hn
          have all : ∀ (fl : List Field) (o i : Nat) (ks : List Kd), fieldsO P (kindsO P d) fl o = some ks → (∀ j f, fl[j]? = some f → fs[i + j]? = some f) → KdsAt w ks cs o := by
            intro fl
            induction fl with
            | nil => intro o i ks h _; simp only [fieldsO, Option.some.injEq] at h; subst h; trivial
            | cons fd r ih =>
              intro o i ks h hf
              simp only [fieldsO] at h
              split at h
              · rename_i k1 k2 h1 h2
                split at h
                · rename_i hq
                  cases h
                  obtain ⟨ho, hcw⟩ := hq
                  have hfi : fs[i]? = some fd := by simpa using hf 0 fd rfl
                  have hxi := hx i fd hfi
                  have hlt : i < xs.length := by rw [hxl]; exact (Array.getElem?_eq_some_iff.1 hfi).1
                  have h3 : xs[i]? = some xs[i] := List.getElem?_eq_getElem hlt
                  rw [h3] at hxi
                  obtain ⟨_, g2⟩ := kinds_of_trod d h1 hxi (wt i fd _ hfi h3)
                  rw [ho, hcw] at g2
                  refine KdsAt.append (by have := KdsAt.shift (p := 0) (by omega) g2; simpa using this) ?_
                  rw [← hcw]
                  exact ih (o + P.cellsOf fd.type) (i + 1) k2 h2 fun j f hj => by have := hf (j + 1) f (by simpa using hj); rwa [show i + 1 + j = i + (j + 1) by omega]
                · cases h
              · cases h
          exact all fs.toList 0 0 ks hks fun j f hj => by rw [Nat.zero_add]; simpa using hj
        · cases h
      · cases h
    · cases h
end

/-! ### columns out of records -/
def Col.wf : Col → Prop
  | .ints k l => ∀ x ∈ l, (Lit.int k x).wf = true
  | .bools _ => True
  | .arrs k _ ll => ∀ l ∈ ll, ∀ x ∈ l, (Lit.int k x).wf = true
  | .rows k ll => ∀ l ∈ ll, l.length ≤ reachBytes ∧ ∀ x ∈ l, (Lit.int k x).wf = true
  | .strs _ => True
  | .hss _ _ => False
theorem wf_noHss {cs : List Col} (h : ∀ col ∈ cs, col.wf) : noHss cs = true := by
  simp only [noHss, List.all_eq_true, Bool.not_eq_true']
  intro c hc
  have := h c hc
  cases c <;> first | rfl | exact this.elim

theorem choose_range {α : Type} [Inhabited α] {n : Nat} {p : Nat → α → Prop} (h : ∀ i, i < n → ∃ a, p i a) : ∃ f : Nat → α, ∀ i, i < n → p i (f i) := by
  refine ⟨fun i => if hi : i < n then Classical.choose (h i hi) else default, fun i hi => ?_⟩
  simp only [dif_pos hi]
  exact Classical.choose_spec (h i hi)

theorem range_get {α : Type} {n i : Nat} (f : Nat → α) : ((List.range n).map f)[i]? = if i < n then some (f i) else none := by
  by_cases h : i < n
  · simp [h]
  · simp [h]

theorem build_cols {w : World} {len : Nat} {CS : Nat → List Value} : ∀ (ks : List Kd) (o : Nat), (∀ r, r < len → KdsAt w ks (CS r) o) →
    ∃ (cs : List Col) (E : Nat → Nat → Elt), kdsOf cs = ks ∧ (∀ col ∈ cs, col.ok len ∧ col.wf) ∧ (∀ (L : Loc) (c0 : Nat), (∀ c r, L.el (c0 + c) r = E c r) → ∀ r, r < len → ∀ t, t < width ks → (CS r)[o + t]? = some (rowVal L cs c0 r t)) ∧
      ∀ c k ll, cs[c]? = some (.rows k ll) → ∀ i l, ll[i]? = some l → EltRep w (E c i) k l
  | [], o, _ => ⟨[], fun _ _ => ⟨none, 0, 0⟩, rfl, by simp, fun _ _ _ _ _ t ht => by simp [width] at ht, fun c k ll h => by simp at h⟩
  | k :: ks, o, h => by
    obtain ⟨cs, E, g1, g2, g3, g4⟩ := build_cols ks (o + k.width) fun r hr => (h r hr).2
    -- the first column
    have first : ∃ (col : Col) (e : Nat → Elt), col.kd = k ∧ (col.ok len ∧ col.wf) ∧ (∀ (L : Loc) (c0 : Nat), (∀ r, L.el c0 r = e r) → ∀ r, r < len → ∀ t, t < k.width → (CS r)[o + t]? = some (colVal L c0 col r t)) ∧
        ∀ q ll, col = .rows q ll → ∀ i l, ll[i]? = some l → EltRep w (e i) q l := by
      cases k with
      | ints q =>
        obtain ⟨f, hf⟩ := choose_range fun r hr => (h r hr).1
        refine ⟨.ints q ((List.range len).map f), fun _ => ⟨none, 0, 0⟩, rfl, ⟨by simp [Col.ok], fun x hx => ?_⟩, fun L c0 _ r hr t ht => ?_, fun q ll h => by cases h⟩
        · obtain ⟨r, hr, rfl⟩ := List.mem_map.1 hx
          exact (hf r (by simpa using hr)).2
        · obtain rfl : t = 0 := by simp [Kd.width] at ht; exact ht
          rw [Nat.add_zero, (hf r hr).1]
          simp only [colVal, lget, List.getD, range_get, if_pos hr, Option.getD_some]
      | bools =>
        obtain ⟨f, hf⟩ := choose_range fun r hr => (h r hr).1
        refine ⟨.bools ((List.range len).map f), fun _ => ⟨none, 0, 0⟩, rfl, ⟨by simp [Col.ok], trivial⟩, fun L c0 _ r hr t ht => ?_, fun q ll h => by cases h⟩
        obtain rfl : t = 0 := by simp [Kd.width] at ht; exact ht
        rw [Nat.add_zero, hf r hr]
        simp only [colVal, lgetb, List.getD, range_get, if_pos hr, Option.getD_some]
      | strs =>
        obtain ⟨f, hf⟩ := choose_range fun r hr => (h r hr).1
        refine ⟨.strs ((List.range len).map f), fun _ => ⟨none, 0, 0⟩, rfl, ⟨by simp [Col.ok], trivial⟩, fun L c0 _ r hr t ht => ?_, fun q ll h => by cases h⟩
        obtain rfl : t = 0 := by simp [Kd.width] at ht; exact ht
        rw [Nat.add_zero, hf r hr]
        simp only [colVal, sgets, List.getD, range_get, if_pos hr, Option.getD_some]
      | arrs q m =>
        obtain ⟨f, hf⟩ := choose_range fun r hr => (h r hr).1
        refine ⟨.arrs q m ((List.range len).map f), fun _ => ⟨none, 0, 0⟩, rfl, ⟨⟨by simp, fun x hx => ?_⟩, fun l hl x hx => ?_⟩, fun L c0 _ r hr t ht => ?_, fun q ll h => by cases h⟩
        · obtain ⟨r, hr, rfl⟩ := List.mem_map.1 hx
          exact (hf r (by simpa using hr)).1
        · obtain ⟨r, hr, rfl⟩ := List.mem_map.1 hl
          exact (hf r (by simpa using hr)).2.2 x hx
        · obtain ⟨f1, f2, f3⟩ := hf r hr
          have ht' : t < (f r).length := by rw [f1]; simpa [Kd.width] using ht
          rw [f2 t _ (List.getElem?_eq_getElem ht')]
          simp only [colVal, llget, lget, List.getD, range_get, if_pos hr, Option.getD_some, List.getElem?_eq_getElem ht']
      | rows q =>
        obtain ⟨f, hf⟩ := choose_range (α := Option Addr × Nat × Nat × List Int) (n := len) (p := fun r y => (CS r)[o]? = some (.slice y.1 y.2.1 y.2.2.1) ∧ IsRow q w y.1 y.2.1 y.2.2.1 y.2.2.2 ∧ y.2.2.2.length ≤ reachBytes) fun r hr => by
          obtain ⟨A, L, C, Z, hh⟩ := (h r hr).1
          exact ⟨(A, L, C, Z), hh⟩
        refine ⟨.rows q ((List.range len).map fun r => (f r).2.2.2.take (f r).2.1), fun r => ⟨(f r).1, (f r).2.1, (f r).2.2.1⟩, rfl, ⟨by simp [Col.ok], fun l hl => ?_⟩, fun L c0 hL r hr t ht => ?_, fun q' ll h i l hi => ?_⟩
        · obtain ⟨r, hr, rfl⟩ := List.mem_map.1 hl
          obtain ⟨f1, f2, f3⟩ := hf r (by simpa using hr)
          refine ⟨Nat.le_trans (by simp; omega) f3, fun x hx => ?_⟩
          rcases f2 with ⟨_, _, _, e⟩ | ⟨a, _, _, _, _, _, hw⟩
          · rw [e] at hx; simp at hx
          · exact hw x (List.mem_of_mem_take hx)
        · obtain rfl : t = 0 := by simp [Kd.width] at ht; exact ht
          rw [Nat.add_zero, (hf r hr).1]
          simp only [colVal, hL]
        · cases h
          rw [range_get] at hi
          split at hi
          · rename_i hr
            cases hi
            obtain ⟨f1, f2, f3⟩ := hf i hr
            rcases f2 with ⟨e1, e2, e3, e4⟩ | ⟨a, e1, hl, hm, hz, hcell, hw⟩
            · refine ⟨by simp [e2, e4], by simp [e2, e3], fun q => by simp [e4] at q, fun j x hx => by simp [e4] at hx⟩
            · refine ⟨by simp; omega, hl, fun _ => ⟨a, e1⟩, fun j x hx a' ha' => ?_⟩
              simp only [e1, Option.some.injEq] at ha'
              subst ha'
              have hlt : j < (f i).2.1 := by have := (List.getElem?_eq_some_iff.1 hx).1; simp at this; omega
              rw [List.getElem?_take_of_lt hlt] at hx
              rw [hcell j (by have := (List.getElem?_eq_some_iff.1 hx).1; omega)]
              simp [List.getD, hx]
          · cases hi
    obtain ⟨col, e, c1, c2, c3, c4⟩ := first
    refine ⟨col :: cs, fun c r => match c with | 0 => e r | c + 1 => E c r, by simp [kdsOf, c1] at g1 ⊢; exact g1, ?_, fun L c0 hL r hr t ht => ?_, fun c q ll hc i l hi => ?_⟩
    · intro x hx
      rcases List.mem_cons.1 hx with rfl | hx
      · exact c2
      · exact g2 x hx
    · simp only [rowVal, c1]
      split
      · rename_i hlt
        exact c3 L c0 (fun r => by have := hL 0 r; simpa using this) r hr t hlt
      · rename_i hge
        have := g3 L (c0 + 1) (fun c r => by have := hL (c + 1) r; rw [show c0 + 1 + c = c0 + (c + 1) by omega]; exact this) r hr (t - k.width) (by simp [width] at ht; omega)
        rw [show o + k.width + (t - k.width) = o + t by omega] at this
        exact this
    · cases c with
      | zero => simp at hc; exact c4 q ll hc i l hi
      | succ c => exact g4 c q ll (by simpa using hc) i l hi

section
variable {H : Type} {enc : TypeId × Value → H} {P : Program} {w : World}

/-- a slice of records that came in, with its size -/
theorem open_recs {t e : TypeId} {ks : List Kd} {d : DataW H} {ps : List MemPlace} (ht : P.underlying t = some (.slice e)) (hk : kindsO P 8 e = some ks) (hp : 0 < width ks) (hc : P.cellsOf e = width ks) {A : Option Addr} {len cap : Nat}
    (h : DataW.Trod enc P w 0 (fun _ => true) true t (.slice A len cap) d ps) {ts : List TypeId} {ds : List (DataW H)} (hsz : (DataW.weightsEach P ts ds).all (· ≤ reachBytes) = true) {j : Nat} (htj : ts[j]? = some t) (hdj : ds[j]? = some d) :
    ∃ (L : Loc) (cs : List Col), VRep w L cs ∧ Value.slice A len cap = .slice L.a L.len L.cap ∧ kdsOf cs = ks ∧ (∀ col ∈ cs, col.wf) ∧ L.len * P.bytesOf e ≤ reachBytes := by
  obtain ⟨fuel, hf⟩ := h
  have hall : ∀ n ∈ d.weights P t, n ≤ reachBytes := fun n hn => by
    have := List.all_eq_true.1 hsz n (DataW.weights_mem_each htj hdj n hn)
    simpa using this
  rcases Go.Deep.open_slice ht hf with ⟨hcs, _⟩ | ⟨a, len', cap', m, n, D, Pl, hcs, _, hl, hm, hmm, hx, hi⟩
  · simp [Value.cells] at hcs
    obtain ⟨rfl, rfl, rfl⟩ := hcs
    have hz := nil_rep (w := w) hp
    refine ⟨loc0, ks.map Kd.nil, hz.1, rfl, nil_kds ks, fun col hcol => ?_, by simp [loc0]⟩
    obtain ⟨k, _, rfl⟩ := List.mem_map.1 hcol
    cases k <;> simp [Kd.nil, Col.wf]
  · simp [Value.cells] at hcs
    obtain ⟨rfl, rfl, rfl⟩ := hcs
    simp only [if_true] at hmm
    subst hmm
    simp only [Prod.mk.injEq] at hx
    obtain ⟨rfl, _⟩ := hx
    have each : ∀ r, r < m → ∃ cs', (∀ t, t < width ks → w.cell? (a.add (r * width ks + t)) = cs'[t]?) ∧ KdsAt w ks cs' 0 := by
      intro r hr
      obtain ⟨cs', h1, h2⟩ := hi r hr
      obtain ⟨_, g1, g2⟩ := World.cells?_some h1
      have hwt : ∀ n ∈ (D r).weights P e, n ≤ reachBytes := fun n hn => hall n (by
        simp only [DataW.weights, ht]
        refine List.mem_cons_of_mem _ (List.mem_append.2 ?_)
        by_cases hq : r < len
        · exact Or.inl (weightsAll_mem (i := r) (d := D r) (by rw [range_get, if_pos hq]) n hn)
        · exact Or.inr (weightsAll_mem (i := r - len) (d := D r) (by rw [range_get, if_pos (by omega), show len + (r - len) = r by omega]) n hn))
      obtain ⟨g3, g4⟩ := kinds_of_trod 8 hk h2 hwt
      refine ⟨cs', fun t ht => ?_, g4⟩
      rw [← g2 t (by rw [hc]; exact ht), hc, addr_add_add]
    obtain ⟨CS, hCS⟩ := choose_range each
    obtain ⟨cs, E, b1, b2, b3, b4⟩ := build_cols (len := len) (CS := CS) ks 0 fun r hr => (hCS r (by omega)).2
    have hcell : ∀ i, i < len → ∀ t, t < width ks → ∀ L : Loc, (∀ c r, L.el c r = E c r) → w.cell? (a.add (i * width ks + t)) = some (rowVal L cs 0 i t) := fun i hi t ht L hL => by
      rw [(hCS i (by omega)).1 t ht]
      have := b3 L 0 (fun c r => by rw [Nat.zero_add]; exact hL c r) i hi t ht
      rwa [Nat.zero_add] at this
    have hsp : 0 < len → a.spot = none := fun hp' => by
      have h0 := hcell 0 hp' 0 hp ⟨0, 0, none, 0, 0, E⟩ (fun _ _ => rfl)
      simp only [Nat.zero_mul, Nat.add_zero] at h0
      have : a.add 0 = a := by simp [Addr.add]
      rw [this] at h0
      exact spot_none h0
    refine ⟨⟨a.block, a.off, some a, len, m, E⟩, cs, ?_, rfl, b1, fun col hcol => (b2 col hcol).2, ?_⟩
    · refine ⟨fun q => by subst q; simp [kdsOf] at b1; subst b1; simp [width] at hp, by simpa [cwidth, b1] using hp, fun col hcol => (b2 col hcol).1, hl, fun q => ?_, fun i hi t ht => ?_, fun c k ll hc i l hi => b4 c k ll hc i l hi⟩
      · have := hsp (Nat.pos_of_ne_zero q)
        cases a
        simp only at this; subst this; rfl
      · have hw' : cwidth cs = width ks := by simp [cwidth, b1]
        rw [hw'] at ht ⊢
        have := hsp (by simp only at hi; omega)
        have e : (Loc.at ⟨a.block, a.off, some a, len, m, E⟩ (i * width ks + t)) = a.add (i * width ks + t) := by
          cases a; simp only at this; subst this; simp [Loc.at, Addr.add]
        rw [e]
        exact hcell i hi t ht _ (fun _ _ => rfl)
    · have := hall ((((List.range len).map D).length + ((List.range (m - len)).map fun j => D (len + j)).length) * P.bytesOf e) (by simp [DataW.weights, ht])
      simp only [List.length_map, List.length_range] at this
      exact Nat.le_trans (Nat.mul_le_mul_right _ (by show len ≤ _; omega)) this

/-- a list of records as an argument of a law -/
theorem LawArgs.recs {j : Nat} {A : Option Addr} {len cap : Nat} {L : Loc} {cs : List Col} {xs : List AV} {vs : List Value} {τ : Mem} (hV : VRep w L cs) (hv : Value.slice A len cap = .slice L.a L.len L.cap) (t : LawArgs w (j + 1) xs vs τ) (hj : j < 1000 := by decide) (hn : noHss cs = true := by first | rfl | exact wf_noHss (by assumption)) :
    LawArgs w j (.one (.vec (200000 + j)) :: xs) (.slice A len cap :: vs) ((200000 + j, .rview cs) :: τ) := .row L cs hj hV hv t hn

theorem cols_one {cs : List Col} {k : Kd} (h : kdsOf cs = [k]) : ∃ c, cs = [c] ∧ c.kd = k := by
  match cs, h with
  | [c], h => exact ⟨c, rfl, by simpa [kdsOf] using h⟩
theorem kd_ints {c : Col} {k : IntKind} (h : c.kd = .ints k) : ∃ l, c = .ints k l := by cases c <;> simp [Col.kd] at h; subst h; exact ⟨_, rfl⟩
theorem kd_bools {c : Col} (h : c.kd = .bools) : ∃ l, c = .bools l := by cases c <;> simp [Col.kd] at h; exact ⟨_, rfl⟩
theorem kd_arrs {c : Col} {k : IntKind} {m : Nat} (h : c.kd = .arrs k m) : ∃ l, c = .arrs k m l := by cases c <;> simp [Col.kd] at h; obtain ⟨rfl, rfl⟩ := h; exact ⟨_, rfl⟩
theorem kd_rows {c : Col} {k : IntKind} (h : c.kd = .rows k) (hw : c.wf := by first | exact ‹∀ col ∈ _, Col.wf col› _ (by simp)) : ∃ l, c = .rows k l := by
  cases c <;> simp [Col.kd] at h
  · subst h; exact ⟨_, rfl⟩
  · exact hw.elim
theorem kd_strs {c : Col} (h : c.kd = .strs) : ∃ l, c = .strs l := by cases c <;> simp [Col.kd] at h; exact ⟨_, rfl⟩
theorem wf_u8 {n : Int} (h : (Lit.int .u8 n).wf = true) : 0 ≤ n ∧ n < 256 := by
  obtain ⟨h1, h2⟩ := bounds_u8 h; exact ⟨h1, by omega⟩

/-! ### a struct that came in, field by field -/
theorem KdsAt.rows {q : IntKind} {r : List Kd} {cs : List Value} {o : Nat} (h : KdsAt w (.rows q :: r) cs o) : ∃ A L C Z, IsRow q w A L C Z ∧ Z.length ≤ reachBytes ∧ cs.drop o = .slice A L C :: cs.drop (o + 1) ∧ KdsAt w r cs (o + 1) := by
  obtain ⟨⟨A, L, C, Z, h1, h2, h3⟩, h4⟩ := h
  have hlt := (List.getElem?_eq_some_iff.1 h1)
  obtain ⟨hl, he⟩ := hlt
  exact ⟨A, L, C, Z, h2, h3, by rw [List.drop_eq_getElem_cons hl, he], h4⟩
theorem KdsAt.ints {q : IntKind} {r : List Kd} {cs : List Value} {o : Nat} (h : KdsAt w (.ints q :: r) cs o) : ∃ n, (Lit.int q n).wf = true ∧ cs.drop o = .int q n :: cs.drop (o + 1) ∧ KdsAt w r cs (o + 1) := by
  obtain ⟨⟨n, h1, h2⟩, h4⟩ := h
  obtain ⟨hl, he⟩ := (List.getElem?_eq_some_iff.1 h1)
  exact ⟨n, h2, by rw [List.drop_eq_getElem_cons hl, he], h4⟩
theorem KdsAt.bools {r : List Kd} {cs : List Value} {o : Nat} (h : KdsAt w (.bools :: r) cs o) : ∃ b, cs.drop o = .bool b :: cs.drop (o + 1) ∧ KdsAt w r cs (o + 1) := by
  obtain ⟨⟨b, h1⟩, h4⟩ := h
  obtain ⟨hl, he⟩ := (List.getElem?_eq_some_iff.1 h1)
  exact ⟨b, by rw [List.drop_eq_getElem_cons hl, he], h4⟩
theorem KdsAt.arrs {q : IntKind} {m : Nat} {r : List Kd} {cs : List Value} {o : Nat} (h : KdsAt w (.arrs q m :: r) cs o) (hl : o + m ≤ cs.length) : ∃ l : List Int, l.length = m ∧ (∀ x ∈ l, (Lit.int q x).wf = true) ∧ cs.drop o = l.map (Value.int q) ++ cs.drop (o + m) ∧ KdsAt w r cs (o + m) := by
  obtain ⟨⟨l, h1, h2, h3⟩, h4⟩ := h
  refine ⟨l, h1, h3, ?_, h4⟩
  conv => lhs; rw [← List.take_append_drop m (cs.drop o), List.drop_drop]
  congr 1
  refine List.ext_getElem? fun j => ?_
  rw [List.getElem?_take]
  by_cases hj : j < m
  · rw [if_pos hj, List.getElem?_drop]
    have : l[j]? = some (l[j]'(by omega)) := List.getElem?_eq_getElem (by omega)
    rw [h2 j _ this]
    simp [this]
  · rw [if_neg hj, List.getElem?_eq_none (by simp; omega)]

theorem open_struct {t : TypeId} {fs : Array Field} {ks : List Kd} {v : Value} {d : DataW H} {ps : List MemPlace} {r : Reach} {b0 : Nat} (ht : P.underlying t = some (.struct fs)) (hk : kindsO P 8 t = some ks) (hv : Value.okWide P w r b0 t v)
    (h : DataW.Trod enc P w 0 (fun _ => true) true t v d ps) {ts : List TypeId} {ds : List (DataW H)} (hsz : (DataW.weightsEach P ts ds).all (· ≤ reachBytes) = true) {j : Nat} (htj : ts[j]? = some t) (hdj : ds[j]? = some d) :
    ∃ cs : List Value, v = .agg cs.toArray ∧ cs.length = width ks ∧ KdsAt w ks cs 0 := by
  obtain ⟨cs, rfl, _⟩ := okWide_struct ht hv
  obtain ⟨fuel, hf⟩ := h
  have hall : ∀ n ∈ d.weights P t, n ≤ reachBytes := fun n hn => by
    have := List.all_eq_true.1 hsz n (DataW.weights_mem_each htj hdj n hn)
    simpa using this
  obtain ⟨h1, h2⟩ := kinds_of_trod 8 hk hf hall
  exact ⟨cs.toList, by simp, h1, h2⟩
end
end Go.Sx

/- Structs that came in, with lists of records in them. -/
namespace Go.Sx
open Go Go.ChangeShapes Go.WideShapes Go.ChangeAt Go.RowKit
set_option linter.unusedSimpArgs false
set_option linter.unusedVariables false

inductive KF where
  | ks (l : List Kd)
  | recs (l : List Kd) (bytes : Nat)
def KF.width : KF → Nat
  | .ks l => Sx.width l
  | .recs _ _ => 1
/-- a list of records that came in -/
structure RecsIn (w : World) (l : List Kd) (bytes : Nat) (A : Option Addr) (len cap : Nat) (L : Loc) (cols : List Col) : Prop where
  rep : VRep w L cols
  val : Value.slice A len cap = .slice L.a L.len L.cap
  kds : kdsOf cols = l
  wf : ∀ col ∈ cols, col.wf
  size : L.len * bytes ≤ reachBytes
def KF.at (w : World) (k : KF) (cs : List Value) (o : Nat) : Prop :=
  match k with
  | .ks l => KdsAt w l cs o
  | .recs l b => ∃ A len cap L cols, cs[o]? = some (.slice A len cap) ∧ RecsIn w l b A len cap L cols
def KFsAt (w : World) : List KF → List Value → Nat → Prop
  | [], _, _ => True
  | k :: r, cs, o => k.at w cs o ∧ KFsAt w r cs (o + k.width)
def fieldF (P : Program) (t : TypeId) : Option KF :=
  match kindsO P 8 t with
  | some ks => some (.ks ks)
  | none => match P.underlying t with
    | some (.slice e) => match kindsO P 8 e with
      | some ks => if 0 < Sx.width ks ∧ P.cellsOf e = Sx.width ks then some (.recs ks (P.bytesOf e)) else none
      | none => none
    | _ => none
def fieldsF (P : Program) : List Field → Nat → Option (List KF)
  | [], _ => some []
  | fd :: r, o => match fieldF P fd.type, fieldsF P r (o + P.cellsOf fd.type) with
    | some k1, some k2 => if fd.offset = o ∧ P.cellsOf fd.type = k1.width then some (k1 :: k2) else none
    | _, _ => none
section
variable {H : Type} {enc : TypeId × Value → H} {P : Program} {w : World}

theorem recs_of_trod {t e : TypeId} {ks : List Kd} {fuel : Nat} {cs0 : List Value} {x : DataW H × List MemPlace} (ht : P.underlying t = some (.slice e)) (hk : kindsO P 8 e = some ks) (hp : 0 < width ks) (hc : P.cellsOf e = width ks)
    (hf : DataW.trod enc P w 0 (fun _ => true) true fuel t cs0 = some x) (hall : ∀ n ∈ x.1.weights P t, n ≤ reachBytes) :
    ∃ A len cap L cols, cs0 = [.slice A len cap] ∧ RecsIn w ks (P.bytesOf e) A len cap L cols := by
  rcases Go.Deep.open_slice ht hf with ⟨hcs, _⟩ | ⟨a, len', cap', m, n, D, Pl, hcs, _, hl, hm, hmm, hx, hi⟩
  · have hz := nil_rep (w := w) hp
    refine ⟨none, 0, 0, loc0, ks.map Kd.nil, hcs, hz.1, rfl, nil_kds ks, fun col hcol => ?_, by simp [loc0]⟩
    obtain ⟨k, _, rfl⟩ := List.mem_map.1 hcol
    cases k <;> simp [Kd.nil, Col.wf]
  · simp only [if_true] at hmm
    subst hmm
    have hx1 := hx
    have each : ∀ r, r < m → ∃ cs', (∀ t, t < width ks → w.cell? (a.add (r * width ks + t)) = cs'[t]?) ∧ KdsAt w ks cs' 0 := by
      intro r hr
      obtain ⟨cs', h1, h2⟩ := hi r hr
      obtain ⟨_, g1, g2⟩ := World.cells?_some h1
      have hwt : ∀ n ∈ (D r).weights P e, n ≤ reachBytes := fun n hn => hall n (by
        rw [hx1]
        simp only [DataW.weights, ht]
        refine List.mem_cons_of_mem _ (List.mem_append.2 ?_)
        by_cases hq : r < len'
        · exact Or.inl (weightsAll_mem (i := r) (d := D r) (by rw [range_get, if_pos hq]) n hn)
        · exact Or.inr (weightsAll_mem (i := r - len') (d := D r) (by rw [range_get, if_pos (by omega), show len' + (r - len') = r by omega]) n hn))
      obtain ⟨g3, g4⟩ := kinds_of_trod 8 hk h2 hwt
      refine ⟨cs', fun t ht => ?_, g4⟩
      rw [← g2 t (by rw [hc]; exact ht), hc, addr_add_add]
    obtain ⟨CS, hCS⟩ := choose_range each
    obtain ⟨cs, E, b1, b2, b3, b4⟩ := build_cols (len := len') (CS := CS) ks 0 fun r hr => (hCS r (by omega)).2
    have hcell : ∀ i, i < len' → ∀ t, t < width ks → ∀ L : Loc, (∀ c r, L.el c r = E c r) → w.cell? (a.add (i * width ks + t)) = some (rowVal L cs 0 i t) := fun i hi t ht L hL => by
      rw [(hCS i (by omega)).1 t ht]
      have := b3 L 0 (fun c r => by rw [Nat.zero_add]; exact hL c r) i hi t ht
      rwa [Nat.zero_add] at this
    have hsp : 0 < len' → a.spot = none := fun hp' => by
      have h0 := hcell 0 hp' 0 hp ⟨0, 0, none, 0, 0, E⟩ (fun _ _ => rfl)
      simp only [Nat.zero_mul, Nat.add_zero] at h0
      have : a.add 0 = a := by simp [Addr.add]
      rw [this] at h0
      exact spot_none h0
    refine ⟨some a, len', m, ⟨a.block, a.off, some a, len', m, E⟩, cs, hcs, ?_, rfl, b1, fun col hcol => (b2 col hcol).2, ?_⟩
    · refine ⟨fun q => by subst q; simp [kdsOf] at b1; subst b1; simp [width] at hp, by simpa [cwidth, b1] using hp, fun col hcol => (b2 col hcol).1, hl, fun q => ?_, fun i hi t ht => ?_, fun c k ll hc i l hi => b4 c k ll hc i l hi⟩
      · have := hsp (Nat.pos_of_ne_zero q)
        cases a
        simp only at this; subst this; rfl
      · have hw' : cwidth cs = width ks := by simp [cwidth, b1]
        rw [hw'] at ht ⊢
        have := hsp (by simp only at hi; omega)
        have e : (Loc.at ⟨a.block, a.off, some a, len', m, E⟩ (i * width ks + t)) = a.add (i * width ks + t) := by
          cases a; simp only at this; subst this; simp [Loc.at, Addr.add]
        rw [e]
        exact hcell i hi t ht _ (fun _ _ => rfl)
    · have := hall ((((List.range len').map D).length + ((List.range (m - len')).map fun j => D (len' + j)).length) * P.bytesOf e) (by rw [hx1]; simp [DataW.weights, ht])
      simp only [List.length_map, List.length_range] at this
      exact Nat.le_trans (Nat.mul_le_mul_right _ (by show len' ≤ _; omega)) this

theorem open_structF {t : TypeId} {fs : Array Field} {ks : List KF} {n0 : Nat} {v : Value} {d : DataW H} {ps : List MemPlace} {r : Reach} {b0 : Nat} (hu : P.underlying t = some (.struct fs)) (hk : fieldsF P fs.toList 0 = some ks) (hn0 : P.cellsOf t = n0) (hv : Value.okWide P w r b0 t v)
    (h : DataW.Trod enc P w 0 (fun _ => true) true t v d ps) {ts : List TypeId} {ds : List (DataW H)} (hsz : (DataW.weightsEach P ts ds).all (· ≤ reachBytes) = true) {j : Nat} (htj : ts[j]? = some t) (hdj : ds[j]? = some d) :
    ∃ cs : List Value, v = .agg cs.toArray ∧ cs.length = n0 ∧ KFsAt w ks cs 0 := by
  obtain ⟨csA, rfl, _⟩ := okWide_struct hu hv
  obtain ⟨fuel, htr⟩ := h
  have hz : ∀ n ∈ d.weights P t, n ≤ reachBytes := fun n hn => by
    have := List.all_eq_true.1 hsz n (DataW.weights_mem_each htj hdj n hn)
    simpa using this
  obtain ⟨xs, n, _, hd, hcl, hxl, hx⟩ := DataW.trod_struct hu htr
  refine ⟨csA.toList, by simp, by rw [← hn0]; exact hcl, ?_⟩
  have wt : ∀ (i : Nat) f y, fs[i]? = some f → xs[i]? = some y → ∀ n ∈ y.1.weights P f.type, n ≤ reachBytes := by
    intro i f y hf hy n hn
    refine hz n ?_
    have hd1 := congrArg Prod.fst hd
    simp only at hd1
    rw [hd1]
    simp only [DataW.weights, hu]
    exact DataW.weights_mem_each (j := i) (t := f.type) (d := y.1) (by simp [List.getElem?_map]; exact ⟨f, by simpa using hf, rfl⟩) (by simp [List.getElem?_map, hy]) n hn
  have all : ∀ (fl : List Field) (o i : Nat) (ks : List KF), fieldsF P fl o = some ks → (∀ j f, fl[j]? = some f → fs[i + j]? = some f) → KFsAt w ks csA.toList o := by
    intro fl
    induction fl with
    | nil => intro o i ks h _; simp only [fieldsF, Option.some.injEq] at h; subst h; trivial
    | cons fd r ih =>
      intro o i ks h hf
      simp only [fieldsF] at h
      split at h
      · rename_i k1 k2 h1 h2
        split at h
        · rename_i hq
          cases h
          obtain ⟨ho, hcw⟩ := hq
          have hfi : fs[i]? = some fd := by simpa using hf 0 fd rfl
          have hxi := hx i fd hfi
          have hlt : i < xs.length := by rw [hxl]; exact (Array.getElem?_eq_some_iff.1 hfi).1
          have h3 : xs[i]? = some xs[i] := List.getElem?_eq_getElem hlt
          rw [h3] at hxi
          have hw := wt i fd _ hfi h3
          rw [ho, hcw] at hxi
          refine ⟨?_, by
            have := ih (o + P.cellsOf fd.type) (i + 1) k2 h2 fun j f hj => by have := hf (j + 1) f (by simpa using hj); rwa [show i + 1 + j = i + (j + 1) by omega]
            rw [hcw] at this; exact this⟩
          unfold fieldF at h1
          split at h1
          · rename_i ks' hks
            cases h1
            obtain ⟨_, g2⟩ := kinds_of_trod 8 hks hxi hw
            have := KdsAt.shift (p := 0) (by simp [KF.width]) g2
            rw [Nat.add_zero] at this
            exact this
          · split at h1 <;> try (cases h1; done)
            rename_i e hue
            split at h1 <;> try (cases h1; done)
            rename_i ks' hks
            split at h1 <;> try (cases h1; done)
            rename_i hcond
            cases h1
            obtain ⟨A, len, cap, L, cols, e1, e2⟩ := recs_of_trod hue hks hcond.1 hcond.2 hxi hw
            refine ⟨A, len, cap, L, cols, ?_, e2⟩
            have e3 : ((csA.toList.drop o).take 1)[0]? = some (.slice A len cap) := congrArg (fun l => l[0]?) e1
            rw [List.getElem?_take, if_pos (by decide), List.getElem?_drop, Nat.add_zero] at e3
            exact e3
        · cases h
      · cases h
  exact all fs.toList 0 0 ks hk fun j f hj => by rw [Nat.zero_add]; simpa using hj

theorem KFsAt.recs {l : List Kd} {b : Nat} {r : List KF} {cs : List Value} {o : Nat} (h : KFsAt w (.recs l b :: r) cs o) : ∃ A len cap L cols, RecsIn w l b A len cap L cols ∧ cs.drop o = .slice A len cap :: cs.drop (o + 1) ∧ KFsAt w r cs (o + 1) := by
  obtain ⟨⟨A, len, cap, L, cols, h1, h2⟩, h4⟩ := h
  obtain ⟨hl, he⟩ := (List.getElem?_eq_some_iff.1 h1)
  exact ⟨A, len, cap, L, cols, h2, by rw [List.drop_eq_getElem_cons hl, he], h4⟩
theorem KFsAt.rows {q : IntKind} {r : List KF} {cs : List Value} {o : Nat} (h : KFsAt w (.ks [.rows q] :: r) cs o) : ∃ A L C Z, IsRow q w A L C Z ∧ Z.length ≤ reachBytes ∧ cs.drop o = .slice A L C :: cs.drop (o + 1) ∧ KFsAt w r cs (o + 1) := by
  obtain ⟨A, L, C, Z, h1, h2, h3, _⟩ := KdsAt.rows h.1
  exact ⟨A, L, C, Z, h1, h2, h3, h.2⟩
theorem KFsAt.ints {q : IntKind} {r : List KF} {cs : List Value} {o : Nat} (h : KFsAt w (.ks [.ints q] :: r) cs o) : ∃ n, (Lit.int q n).wf = true ∧ cs.drop o = .int q n :: cs.drop (o + 1) ∧ KFsAt w r cs (o + 1) := by
  obtain ⟨n, h1, h2, _⟩ := KdsAt.ints h.1
  exact ⟨n, h1, h2, h.2⟩
theorem KFsAt.bools {r : List KF} {cs : List Value} {o : Nat} (h : KFsAt w (.ks [.bools] :: r) cs o) : ∃ b, cs.drop o = .bool b :: cs.drop (o + 1) ∧ KFsAt w r cs (o + 1) := by
  obtain ⟨b, h1, _⟩ := KdsAt.bools h.1
  exact ⟨b, h1, h.2⟩
theorem KFsAt.arrs {q : IntKind} {m : Nat} {r : List KF} {cs : List Value} {o : Nat} (h : KFsAt w (.ks [.arrs q m] :: r) cs o) (hl : o + m ≤ cs.length) : ∃ l : List Int, l.length = m ∧ (∀ x ∈ l, (Lit.int q x).wf = true) ∧ cs.drop o = l.map (Value.int q) ++ cs.drop (o + m) ∧ KFsAt w r cs (o + m) := by
  obtain ⟨l, h1, h2, h3, _⟩ := KdsAt.arrs h.1 hl
  have e : (KF.ks [.arrs q m]).width = m := by simp [KF.width, Sx.width, Kd.width]
  have := h.2
  rw [e] at this
  exact ⟨l, h1, h2, h3, this⟩
/-- a list of records among a struct's fields -/
theorem AggArgs.recs {j j' : Nat} {l : List Kd} {b : Nat} {A : Option Addr} {len cap : Nat} {L : Loc} {cols : List Col} {s : List Seg} {cs : List Value} {τ : Mem} (h : RecsIn w l b A len cap L cols) (t : AggArgs w (j + 1) s cs τ j') (hj : j < 1000 := by decide) :
    AggArgs w j (.cells [.vec (200000 + j)] :: s) (.slice A len cap :: cs) ((200000 + j, .rview cols) :: τ) j' := .row L cols hj h.rep h.val t (wf_noHss h.wf)
end
end Go.Sx
