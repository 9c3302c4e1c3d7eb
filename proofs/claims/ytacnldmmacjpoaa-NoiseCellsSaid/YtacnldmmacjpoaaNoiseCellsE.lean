import Derived.Test.YtacnldmmacjpoaaNoiseCellsD
import Derived.Test.YtacnldmmacjpoaaProg
set_option linter.unusedSimpArgs false
set_option linter.unusedVariables false
namespace Go.Proofs.Ytacnldmmacjpoaa.G
open Go Go.Sx Go.Fld Go.Blk
set_option maxRecDepth 100000
def rKeys.l1 (R : AV → Mem → Prop)  (fuel : Nat) (x2 x3 : Int) (x4 : List Int) : Prop := run Try.prog gamB1 [] (resh Try.prog [] Try.f38.results.toList R) fuel [kc Try.f38 [1,1,1,1,0,1,0,0],ki Try.f38 [1,1,1,1,0,1,0,0],.inBlock 2,kc Try.f38 [1,1,1,1,1]] (Uu::Uu::AV.one (AC.ptr 2 0 0)::AV.one (AC.ptr 3 0 0)::Uu::AV.one (AC.int IntKind.u8 x2)::Ii x3::(us 85 [Zz])) [(2,Blk.own 68 [Seg.ints IntKind.u8 176 (lzeros 176)]),(3,Blk.own 68 [Seg.ints IntKind.u8 176 x4])]
def rKeys.l0 (R : AV → Mem → Prop) (b : List Int) (fuel : Nat) (x0 : Int) (x1 : List Int) : Prop := run Try.prog gamB1 [] (resh Try.prog [] Try.f38.results.toList R) fuel [kc Try.f38 [1,1,0,1,0,0],ki Try.f38 [1,1,0,1,0,0],.inBlock 0,kc Try.f38 [1,1,1]] (Uu::AV.one (AC.ptr 1 0 0)::AV.one (AC.ptr 2 0 0)::AV.one (AC.ptr 3 0 0)::Ii x0::(zs 7 (us 9 (zs 72 [])))) [(1,Blk.own 52 [Seg.ints IntKind.u8 16 b]),(2,Blk.own 68 [Seg.ints IntKind.u8 176 (lzeros 176)]),(3,Blk.own 68 [Seg.ints IntKind.u8 176 x1])]
theorem rKeys.l1_succ (R : AV → Mem → Prop)  (fuel : Nat) (x2 x3 : Int) (x4 : List Int) : rKeys.l1 R  (fuel + 1) x2 x3 x4 = (((((ilt x3 176) = true) → ((InB (sub IntKind.i64 x3 4) 176) ∧ ((Low (nadd 0 (nat (sub IntKind.i64 x3 4))) 176) ∧ ((InB (sub IntKind.i64 x3 3) 176) ∧ ((Low (nadd 0 (nat (sub IntKind.i64 x3 3))) 176) ∧ ((InB (sub IntKind.i64 x3 2) 176) ∧ ((Low (nadd 0 (nat (sub IntKind.i64 x3 2))) 176) ∧ ((InB (sub IntKind.i64 x3 1) 176) ∧ ((Low (nadd 0 (nat (sub IntKind.i64 x3 1))) 176) ∧ ((NeZ 16) ∧ ((((ieq (rem x3 16) 0) = true) → ((InB (lget x4 (nadd 0 (nat (sub IntKind.i64 x3 3)))) 256) ∧ ((InB (lget x4 (nadd 0 (nat (sub IntKind.i64 x3 2)))) 256) ∧ ((InB (lget x4 (nadd 0 (nat (sub IntKind.i64 x3 1)))) 256) ∧ (let y5 : Int := (bxor IntKind.u8 (sget boxC (nat (lget x4 (nadd 0 (nat (sub IntKind.i64 x3 3)))))) x2); (let y6 : Int := (sget boxC (nat (lget x4 (nadd 0 (nat (sub IntKind.i64 x3 2)))))); (let y7 : Int := (sget boxC (nat (lget x4 (nadd 0 (nat (sub IntKind.i64 x3 1)))))); (let y8 : Int := (sget boxC (nat (lget x4 (nadd 0 (nat (sub IntKind.i64 x3 3)))))); ((InB (lget x4 (nadd 0 (nat (sub IntKind.i64 x3 4)))) 256) ∧ (let y9 : Int := (sget boxC (nat (lget x4 (nadd 0 (nat (sub IntKind.i64 x3 4)))))); ((Byte x2) ∧ ((InB (sub IntKind.i64 x3 16) 176) ∧ ((Low (nadd 0 (nat (sub IntKind.i64 x3 16))) 176) ∧ ((InB x3 176) ∧ ((Low (nadd 0 (nat x3)) 176) ∧ (let y10 : List Int := (lset x4 (nadd 0 (nat x3)) (bxor IntKind.u8 (lget x4 (nadd 0 (nat (sub IntKind.i64 x3 16)))) y5)); ((InB (sub IntKind.i64 x3 15) 176) ∧ ((Low (nadd 0 (nat (sub IntKind.i64 x3 15))) 176) ∧ ((InB (add IntKind.i64 x3 1) 176) ∧ ((Low (nadd 0 (nat (add IntKind.i64 x3 1))) 176) ∧ (let y11 : List Int := (lset y10 (nadd 0 (nat (add IntKind.i64 x3 1))) (bxor IntKind.u8 (lget y10 (nadd 0 (nat (sub IntKind.i64 x3 15)))) y6)); ((InB (sub IntKind.i64 x3 14) 176) ∧ ((Low (nadd 0 (nat (sub IntKind.i64 x3 14))) 176) ∧ ((InB (add IntKind.i64 x3 2) 176) ∧ ((Low (nadd 0 (nat (add IntKind.i64 x3 2))) 176) ∧ (let y12 : List Int := (lset y11 (nadd 0 (nat (add IntKind.i64 x3 2))) (bxor IntKind.u8 (lget y11 (nadd 0 (nat (sub IntKind.i64 x3 14)))) y7)); ((InB (sub IntKind.i64 x3 13) 176) ∧ ((Low (nadd 0 (nat (sub IntKind.i64 x3 13))) 176) ∧ ((InB (add IntKind.i64 x3 3) 176) ∧ ((Low (nadd 0 (nat (add IntKind.i64 x3 3))) 176) ∧ (let y13 : List Int := (lset y12 (nadd 0 (nat (add IntKind.i64 x3 3))) (bxor IntKind.u8 (lget y12 (nadd 0 (nat (sub IntKind.i64 x3 13)))) y9)); (rKeys.l1 R  fuel (fmul 2 x2) (add IntKind.i64 x3 4) y13)))))))))))))))))))))))))))))))) ∧ (((ieq (rem x3 16) 0) = false) → ((InB (sub IntKind.i64 x3 16) 176) ∧ ((Low (nadd 0 (nat (sub IntKind.i64 x3 16))) 176) ∧ ((InB x3 176) ∧ ((Low (nadd 0 (nat x3)) 176) ∧ (let y14 : Int := (bxor IntKind.u8 (lget x4 (nadd 0 (nat (sub IntKind.i64 x3 16)))) (lget x4 (nadd 0 (nat (sub IntKind.i64 x3 4))))); (let y15 : List Int := (lset x4 (nadd 0 (nat x3)) (bxor IntKind.u8 (lget x4 (nadd 0 (nat (sub IntKind.i64 x3 16)))) (lget x4 (nadd 0 (nat (sub IntKind.i64 x3 4)))))); ((InB (sub IntKind.i64 x3 15) 176) ∧ ((Low (nadd 0 (nat (sub IntKind.i64 x3 15))) 176) ∧ ((InB (add IntKind.i64 x3 1) 176) ∧ ((Low (nadd 0 (nat (add IntKind.i64 x3 1))) 176) ∧ (let y16 : Int := (bxor IntKind.u8 (lget y15 (nadd 0 (nat (sub IntKind.i64 x3 15)))) (lget x4 (nadd 0 (nat (sub IntKind.i64 x3 3))))); (let y17 : List Int := (lset y15 (nadd 0 (nat (add IntKind.i64 x3 1))) (bxor IntKind.u8 (lget y15 (nadd 0 (nat (sub IntKind.i64 x3 15)))) (lget x4 (nadd 0 (nat (sub IntKind.i64 x3 3)))))); ((InB (sub IntKind.i64 x3 14) 176) ∧ ((Low (nadd 0 (nat (sub IntKind.i64 x3 14))) 176) ∧ ((InB (add IntKind.i64 x3 2) 176) ∧ ((Low (nadd 0 (nat (add IntKind.i64 x3 2))) 176) ∧ (let y18 : Int := (bxor IntKind.u8 (lget y17 (nadd 0 (nat (sub IntKind.i64 x3 14)))) (lget x4 (nadd 0 (nat (sub IntKind.i64 x3 2))))); (let y19 : List Int := (lset y17 (nadd 0 (nat (add IntKind.i64 x3 2))) (bxor IntKind.u8 (lget y17 (nadd 0 (nat (sub IntKind.i64 x3 14)))) (lget x4 (nadd 0 (nat (sub IntKind.i64 x3 2)))))); ((InB (sub IntKind.i64 x3 13) 176) ∧ ((Low (nadd 0 (nat (sub IntKind.i64 x3 13))) 176) ∧ ((InB (add IntKind.i64 x3 3) 176) ∧ ((Low (nadd 0 (nat (add IntKind.i64 x3 3))) 176) ∧ (let y20 : Int := (bxor IntKind.u8 (lget y19 (nadd 0 (nat (sub IntKind.i64 x3 13)))) (lget x4 (nadd 0 (nat (sub IntKind.i64 x3 1))))); (let y21 : List Int := (lset y19 (nadd 0 (nat (add IntKind.i64 x3 3))) (bxor IntKind.u8 (lget y19 (nadd 0 (nat (sub IntKind.i64 x3 13)))) (lget x4 (nadd 0 (nat (sub IntKind.i64 x3 1)))))); (rKeys.l1 R  fuel x2 (add IntKind.i64 x3 4) y21))))))))))))))))))))))))))))))))))))) ∧ (((ilt x3 176) = false) → (R (AV.agg [Seg.ints IntKind.u8 176 x4]) [(2,Blk.own 68 [Seg.ints IntKind.u8 176 x4]),(3,Blk.own 68 [Seg.ints IntKind.u8 176 x4])])))) := by kernel_rfl
theorem rKeys.l0_succ (R : AV → Mem → Prop) (b : List Int) (fuel : Nat) (x0 : Int) (x1 : List Int) : rKeys.l0 R b (fuel + 1) x0 x1 = (((((ilt x0 16) = true) → ((InB x0 16) ∧ ((Low (nadd 0 (nat x0)) 16) ∧ ((InB x0 176) ∧ ((Low (nadd 0 (nat x0)) 176) ∧ (rKeys.l0 R b fuel (add IntKind.i64 x0 1) (lset x1 (nadd 0 (nat x0)) (lget b (nadd 0 (nat x0)))))))))) ∧ (((ilt x0 16) = false) → (rKeys.l1 R  fuel 1 16 x1)))) := by kernel_rfl
theorem rKeys_vc (R : AV → Mem → Prop) (fuel : Nat) (b : List Int) : callsx Try.prog gamB1 [] Try.f38 (fuel + 1) [.agg [.ints .u8 16 b]] [] R = ((rKeys.l0 R b fuel 0 (lzeros 176))) := by kernel_rfl
theorem rtwice_vc (R : AV → Mem → Prop) (fuel : Nat) (b : Int) : callsx Try.prog gam0 [] Try.f49 (fuel + 1) [.one (.int .u8 b)] [] R = (((((ige b 128) = true) → ((NonNeg 1) ∧ (R (AV.one (AC.int IntKind.u8 (bxor IntKind.u8 (shl IntKind.u8 b 1) 27))) []))) ∧ (((ige b 128) = false) → ((NonNeg 1) ∧ (R (AV.one (AC.int IntKind.u8 (shl IntKind.u8 b 1))) []))))) := by kernel_rfl
def radded.l0 (R : AV → Mem → Prop) (i : Int) (k : List Int) (fuel : Nat) (x0 : Int) (x1 : List Int) : Prop := run Try.prog gam0 [] (resh Try.prog [] Try.f50.results.toList R) fuel [kc Try.f50 [1,0,1,0,0],ki Try.f50 [1,0,1,0,0],.inBlock 0,kc Try.f50 [1,1]] (Uu::Uu::Ii i::AV.one (AC.ptr 3 0 0)::AV.one (AC.ptr 4 0 0)::Uu::AV.one (AC.ptr 6 0 0)::Ii x0::(us 15 [Zz])) [(3,Blk.own 52 [Seg.ints IntKind.u8 16 x1]),(4,Blk.own 68 [Seg.ints IntKind.u8 176 k]),(6,Blk.own 52 [Seg.ints IntKind.u8 16 (lzeros 16)])]
theorem radded.l0_succ (R : AV → Mem → Prop) (i : Int) (k : List Int) (fuel : Nat) (x0 : Int) (x1 : List Int) : radded.l0 R i k (fuel + 1) x0 x1 = (((((ilt x0 16) = true) → ((InB x0 16) ∧ ((Low (nadd 0 (nat x0)) 16) ∧ ((InB (add IntKind.i64 (mul IntKind.i64 16 i) x0) 176) ∧ ((Low (nadd 0 (nat (add IntKind.i64 (mul IntKind.i64 16 i) x0))) 176) ∧ ((InB x0 16) ∧ ((Low (nadd 0 (nat x0)) 16) ∧ (let y2 : Int := (bxor IntKind.u8 (lget x1 (nadd 0 (nat x0))) (lget k (nadd 0 (nat (add IntKind.i64 (mul IntKind.i64 16 i) x0))))); (let y3 : List Int := (lset x1 (nadd 0 (nat x0)) (bxor IntKind.u8 (lget x1 (nadd 0 (nat x0))) (lget k (nadd 0 (nat (add IntKind.i64 (mul IntKind.i64 16 i) x0)))))); (radded.l0 R i k fuel (add IntKind.i64 x0 1) y3)))))))))) ∧ (((ilt x0 16) = false) → (R (AV.agg [Seg.ints IntKind.u8 16 x1]) [(3,Blk.own 52 [Seg.ints IntKind.u8 16 x1]),(4,Blk.own 68 [Seg.ints IntKind.u8 176 k]),(6,Blk.own 52 [Seg.ints IntKind.u8 16 x1])])))) := by kernel_rfl
theorem radded_vc (R : AV → Mem → Prop) (fuel : Nat) (b : List Int) (k : List Int) (i : Int) : callsx Try.prog gam0 [] Try.f50 (fuel + 1) [.agg [.ints .u8 16 b], .agg [.ints .u8 176 k], .one (.int .i64 i)] [] R = ((radded.l0 R i k fuel 0 b)) := by kernel_rfl
def rmixed.l1 (R : AV → Mem → Prop) (x0 y2 : Int) (b : List Int) (y3 : Int) (fuel : Nat) (x4 : Int) (x5 : List Int) : Prop := run Try.prog gamB1 [] (resh Try.prog [] Try.f51.results.toList R) fuel [kc Try.f51 [1,1,0,1,0,0,1,0,0,1,1,0,0],ki Try.f51 [1,1,0,1,0,0,1,0,0,1,1,0,0],.inBlock 2,.inBlock 1,kc Try.f51 [1,1,0,1,0,0,1,1],ki Try.f51 [1,1,0,1,0,0],.inBlock 0,kc Try.f51 [1,1,1]] (Uu::AV.one (AC.ptr 1 0 0)::AV.one (AC.ptr 2 0 0)::AV.one (AC.ptr 3 0 0)::Ii x0::AV.one (AC.int IntKind.u8 y2)::Ii x4::Ii x0::Ll true::Uu::Uu::Ii x0::AV.one (AC.ptr 1 0 (nadd 0 (nat x0)))::AV.one (AC.int IntKind.u8 (lget b (nadd 0 (nat x0))))::Ii x0::Ii (add IntKind.i64 x0 1)::AV.one (AC.ptr 1 0 (nadd 0 (nat (add IntKind.i64 x0 1))))::AV.one (AC.int IntKind.u8 (lget b (nadd 0 (nat (add IntKind.i64 x0 1)))))::AV.one (AC.int IntKind.u8 (bxor IntKind.u8 (lget b (nadd 0 (nat x0))) (lget b (nadd 0 (nat (add IntKind.i64 x0 1))))))::Ii x0::Ii (add IntKind.i64 x0 2)::AV.one (AC.ptr 1 0 (nadd 0 (nat (add IntKind.i64 x0 2))))::AV.one (AC.int IntKind.u8 (lget b (nadd 0 (nat (add IntKind.i64 x0 2)))))::AV.one (AC.int IntKind.u8 y3)::Ii x0::Ii (add IntKind.i64 x0 3)::AV.one (AC.ptr 1 0 (nadd 0 (nat (add IntKind.i64 x0 3))))::AV.one (AC.int IntKind.u8 (lget b (nadd 0 (nat (add IntKind.i64 x0 3)))))::AV.one (AC.int IntKind.u8 y2)::(us 30 [Zz])) [(1,Blk.own 52 [Seg.ints IntKind.u8 16 b]),(2,Blk.own 52 [Seg.ints IntKind.u8 16 (lzeros 16)]),(3,Blk.own 52 [Seg.ints IntKind.u8 16 x5])]
def rmixed.l0 (R : AV → Mem → Prop) (b : List Int) (fuel : Nat) (x0 : Int) (x1 : List Int) : Prop := run Try.prog gamB1 [] (resh Try.prog [] Try.f51.results.toList R) fuel [kc Try.f51 [1,1,0,1,0,0],ki Try.f51 [1,1,0,1,0,0],.inBlock 0,kc Try.f51 [1,1,1]] (Uu::AV.one (AC.ptr 1 0 0)::AV.one (AC.ptr 2 0 0)::AV.one (AC.ptr 3 0 0)::Ii x0::(us 54 [Zz])) [(1,Blk.own 52 [Seg.ints IntKind.u8 16 b]),(2,Blk.own 52 [Seg.ints IntKind.u8 16 (lzeros 16)]),(3,Blk.own 52 [Seg.ints IntKind.u8 16 x1])]
theorem rmixed.l1_succ (R : AV → Mem → Prop) (x0 y2 : Int) (b : List Int) (y3 : Int) (fuel : Nat) (x4 : Int) (x5 : List Int) : rmixed.l1 R x0 y2 b y3 (fuel + 1) x4 x5 = (((((ilt x4 4) = true) → ((InB (add IntKind.i64 x0 x4) 16) ∧ ((Low (nadd 0 (nat (add IntKind.i64 x0 x4))) 16) ∧ ((InB (add IntKind.i64 x0 x4) 16) ∧ ((Low (nadd 0 (nat (add IntKind.i64 x0 x4))) 16) ∧ ((NeZ 4) ∧ ((InB (add IntKind.i64 x0 (rem (add IntKind.i64 x4 1) 4)) 16) ∧ ((Low (nadd 0 (nat (add IntKind.i64 x0 (rem (add IntKind.i64 x4 1) 4)))) 16) ∧ ((Byte (bxor IntKind.u8 (lget b (nadd 0 (nat (add IntKind.i64 x0 x4)))) (lget b (nadd 0 (nat (add IntKind.i64 x0 (rem (add IntKind.i64 x4 1) 4))))))) ∧ ((InB (add IntKind.i64 x0 x4) 16) ∧ ((Low (nadd 0 (nat (add IntKind.i64 x0 x4))) 16) ∧ (let y6 : Int := (bxor IntKind.u8 (lget b (nadd 0 (nat (add IntKind.i64 x0 x4)))) (lget b (nadd 0 (nat (add IntKind.i64 x0 (rem (add IntKind.i64 x4 1) 4)))))); (let y7 : Int := (fmul 2 (bxor IntKind.u8 (lget b (nadd 0 (nat (add IntKind.i64 x0 x4)))) (lget b (nadd 0 (nat (add IntKind.i64 x0 (rem (add IntKind.i64 x4 1) 4))))))); (let y8 : Int := (bxor IntKind.u8 (bxor IntKind.u8 (lget b (nadd 0 (nat (add IntKind.i64 x0 x4)))) y2) (fmul 2 (bxor IntKind.u8 (lget b (nadd 0 (nat (add IntKind.i64 x0 x4)))) (lget b (nadd 0 (nat (add IntKind.i64 x0 (rem (add IntKind.i64 x4 1) 4)))))))); (let y9 : List Int := (lset x5 (nadd 0 (nat (add IntKind.i64 x0 x4))) (bxor IntKind.u8 (bxor IntKind.u8 (lget b (nadd 0 (nat (add IntKind.i64 x0 x4)))) y2) (fmul 2 (bxor IntKind.u8 (lget b (nadd 0 (nat (add IntKind.i64 x0 x4)))) (lget b (nadd 0 (nat (add IntKind.i64 x0 (rem (add IntKind.i64 x4 1) 4))))))))); (rmixed.l1 R x0 y2 b y3 fuel (add IntKind.i64 x4 1) y9)))))))))))))))) ∧ (((ilt x4 4) = false) → (rmixed.l0 R b fuel (add IntKind.i64 x0 4) x5)))) := by kernel_rfl
theorem rmixed.l0_succ (R : AV → Mem → Prop) (b : List Int) (fuel : Nat) (x0 : Int) (x1 : List Int) : rmixed.l0 R b (fuel + 1) x0 x1 = (((((ilt x0 16) = true) → ((InB x0 16) ∧ ((Low (nadd 0 (nat x0)) 16) ∧ ((InB (add IntKind.i64 x0 1) 16) ∧ ((Low (nadd 0 (nat (add IntKind.i64 x0 1))) 16) ∧ ((InB (add IntKind.i64 x0 2) 16) ∧ ((Low (nadd 0 (nat (add IntKind.i64 x0 2))) 16) ∧ ((InB (add IntKind.i64 x0 3) 16) ∧ ((Low (nadd 0 (nat (add IntKind.i64 x0 3))) 16) ∧ (let y2 : Int := (bxor IntKind.u8 (bxor IntKind.u8 (bxor IntKind.u8 (lget b (nadd 0 (nat x0))) (lget b (nadd 0 (nat (add IntKind.i64 x0 1))))) (lget b (nadd 0 (nat (add IntKind.i64 x0 2))))) (lget b (nadd 0 (nat (add IntKind.i64 x0 3))))); (let y3 : Int := (bxor IntKind.u8 (bxor IntKind.u8 (lget b (nadd 0 (nat x0))) (lget b (nadd 0 (nat (add IntKind.i64 x0 1))))) (lget b (nadd 0 (nat (add IntKind.i64 x0 2))))); (rmixed.l1 R x0 y2 b y3 fuel 0 x1)))))))))))) ∧ (((ilt x0 16) = false) → (R (AV.agg [Seg.ints IntKind.u8 16 x1]) [(1,Blk.own 52 [Seg.ints IntKind.u8 16 b]),(2,Blk.own 52 [Seg.ints IntKind.u8 16 x1]),(3,Blk.own 52 [Seg.ints IntKind.u8 16 x1])])))) := by kernel_rfl
theorem rmixed_vc (R : AV → Mem → Prop) (fuel : Nat) (b : List Int) : callsx Try.prog gamB1 [] Try.f51 (fuel + 1) [.agg [.ints .u8 16 b]] [] R = ((rmixed.l0 R b fuel 0 (lzeros 16))) := by kernel_rfl
def rnext.l0 (R : AV → Mem → Prop)  (fuel : Nat) (x0 : Int) (x1 : List Int) : Prop := run Try.prog gam0 [] (resh Try.prog [] Try.f40.results.toList R) fuel [kc Try.f40 [1,0,1,0,0],ki Try.f40 [1,0,1,0,0],.inBlock 0,kc Try.f40 [1,1]] (Uu::AV.one (AC.ptr 1 0 0)::AV.one (AC.ptr 2 0 0)::Ii x0::(us 14 [Zz])) [(1,Blk.own 52 [Seg.ints IntKind.u8 16 x1]),(2,Blk.own 52 [Seg.ints IntKind.u8 16 (lzeros 16)])]
theorem rnext.l0_succ (R : AV → Mem → Prop)  (fuel : Nat) (x0 : Int) (x1 : List Int) : rnext.l0 R  (fuel + 1) x0 x1 = (((((ige x0 0) = true) → ((InB x0 16) ∧ ((Low (nadd 0 (nat x0)) 16) ∧ ((InB x0 16) ∧ ((Low (nadd 0 (nat x0)) 16) ∧ ((InB x0 16) ∧ ((Low (nadd 0 (nat x0)) 16) ∧ (let y2 : Int := (lget (lset x1 (nadd 0 (nat x0)) (add IntKind.u8 (lget x1 (nadd 0 (nat x0))) 1)) (nadd 0 (nat x0))); (let y3 : Bool := (ine (lget (lset x1 (nadd 0 (nat x0)) (add IntKind.u8 (lget x1 (nadd 0 (nat x0))) 1)) (nadd 0 (nat x0))) 0); (((y3 = true) → (R (AV.agg [Seg.ints IntKind.u8 16 (lset x1 (nadd 0 (nat x0)) (add IntKind.u8 (lget x1 (nadd 0 (nat x0))) 1))]) [(1,Blk.own 52 [Seg.ints IntKind.u8 16 (lset x1 (nadd 0 (nat x0)) (add IntKind.u8 (lget x1 (nadd 0 (nat x0))) 1))]),(2,Blk.own 52 [Seg.ints IntKind.u8 16 (lset x1 (nadd 0 (nat x0)) (add IntKind.u8 (lget x1 (nadd 0 (nat x0))) 1))])])) ∧ ((y3 = false) → (rnext.l0 R  fuel (sub IntKind.i64 x0 1) (lset x1 (nadd 0 (nat x0)) (add IntKind.u8 (lget x1 (nadd 0 (nat x0))) 1)))))))))))))) ∧ (((ige x0 0) = false) → (R (AV.agg [Seg.ints IntKind.u8 16 x1]) [(1,Blk.own 52 [Seg.ints IntKind.u8 16 x1]),(2,Blk.own 52 [Seg.ints IntKind.u8 16 x1])])))) := by kernel_rfl
theorem rnext_vc (R : AV → Mem → Prop) (fuel : Nat) (b : List Int) : callsx Try.prog gam0 [] Try.f40 (fuel + 1) [.agg [.ints .u8 16 b]] [] R = ((rnext.l0 R  fuel 15 b)) := by kernel_rfl
theorem plain_con (v : Value) : plainAV (.one (.con v)) := fun _ => rfl
theorem good_rtwice : Sx.Good Try.prog 49 twiceS := by
 refine Sx.Good.pure (D := []) mixed (good0 _) Try.func49 (by kernel_rfl) rfl fun d args σ K h => ?_
 simp only [twiceS] at h
 split at h <;> try exact h.elim
 rename_i b
 obtain ⟨hb, hK⟩ := h
 refine ⟨by simp [plain_int], _, plain_int _ _, hK, 0 + 1, ?_⟩
 rw [rtwice_vc]
 obtain ⟨i, hi, rfl⟩ := hb.nat
 have key : ∀ i : Nat, i < 256 → fmul 2 (i : Int) = if 128 ≤ i then bxor .u8 (shl .u8 (i : Int) 1) 27 else shl .u8 (i : Int) 1 := by decide +kernel
 refine ⟨fun q => ⟨⟨by decide⟩, ?_⟩, fun q => ⟨⟨by decide⟩, ?_⟩⟩
 ·rw [ige_true] at q; rw [key i hi, if_pos (by omega)]
 ·rw [ige_false] at q; rw [key i hi, if_neg (by omega)]
theorem gamB1_good : GoodG Try.prog gamB1 := gamB1'_good.ext good_rtwice ⟨_, Try.func49, by decide, by kernel_rfl⟩
theorem good_turned' : Sx.Good Try.prog 46 turnedS := by
 refine Sx.Good.pure (D := []) mixed (good0 _) Try.func46 (by kernel_rfl) rfl fun d args σ K h => ?_
 simp only [turnedS] at h
 split at h <;> try exact h.elim
 rename_i b n
 obtain ⟨⟨hb, hn⟩, hK⟩ := h
 obtain ⟨i, rfl⟩ := Int.eq_ofNat_of_zero_le hn.lo
 have hi := hn.hi
 refine ⟨by simp [plain_int, plain_ints], _, plain_ints _ _ _, hK, 25 + 1, ?_⟩
 rw [bturned_vc]
 exact turned_run hb (by omega) fun σ => rfl
theorem good_columns : Sx.Good Try.prog 47 columnsS := by
 refine Sx.Good.pure (D := []) mixed gam6_good Try.func47 (by kernel_rfl) rfl fun d args σ K h => ?_
 simp only [columnsS] at h
 split at h <;> try exact h.elim
 rename_i b x
 split at h <;> try exact h.elim
 rename_i f hf
 obtain ⟨hb, hK⟩ := h
 cases hx : conFn x with
 | none => rw [hx] at hf; cases hf
 | some g =>
  obtain rfl := conFn_eq hx
  rw [hx] at hf
  simp only [Option.bind_some, colOf] at hf
  split at hf
  ·rename_i e; subst e; cases hf
   refine ⟨by simp [plain_ints, plain_con], _, plain_ints _ _ _, hK, 5 + 1, ?_⟩
   rw [colsC_vc]
   exact colsC_run hb 0 fun σ => rfl
  ·cases hf
theorem good_new : Sx.Good Try.prog 33 keysS := by
 refine Sx.Good.pure (D := []) mixed gam6_good Try.func33 (by kernel_rfl) rfl fun d args σ K h => ?_
 simp only [keysS] at h
 split at h <;> try exact h.elim
 rename_i b
 obtain ⟨hb, hK⟩ := h
 refine ⟨by simp [plain_ints], _, plain_ints _ _ _, hK, (0 + 1 + 1 * 44 + 1 + 6 * (44 - 4)) + 1 + 1 * 4 + 1, ?_⟩
 rw [bNew_vc]
 exact new_l0 hb (new_l1 hb fun σ => rfl)
theorem good_next : Sx.Good Try.prog 37 nextS := by
 refine Sx.Good.pure (D := []) mixed (good0 _) Try.func37 (by kernel_rfl) rfl fun d args σ K h => ?_
 simp only [nextS] at h
 split at h <;> try exact h.elim
 rename_i b
 obtain ⟨hb, hK⟩ := h
 refine ⟨by simp [plain_ints], _, plain_ints _ _ _, hK, 17 + 1, ?_⟩
 rw [bnext_vc]
 exact next_run (fun _ _ _ => trivial) (fun σ => rfl) 16 b (Nat.le_refl _) hb.len rfl
theorem good_each : Sx.Good Try.prog 45 eachSp := by
 refine Sx.Good.reads (D := []) mixed gamB1_good Try.func45 (by kernel_rfl) rfl fun d args σ K h => ?_
 simp only [eachSp] at h
 split at h <;> try exact h.elim
 rename_i b x
 unfold fnx at h
 split at h
 ·rename_i g hg
  obtain rfl := conFn_eq hg
  split at h <;> try exact h.elim
  rename_i f hf
  obtain ⟨hb, hK⟩ := h
  unfold subOf at hf
  split at hf
  ·rename_i e; subst e; cases hf
   refine ⟨_, [], .plain (plain_ints _ _ _) (.plain (plain_con _) (.nil _)), by simp, 17 + 1, ?_⟩
   rw [eachS_vc]
   exact eachS_run hb 0 fun σ' => res_arr rfl hK
  ·cases hf
 ·split at h <;> try exact h.elim
  rename_i n hn
  obtain rfl := isTold_eq hn
  split at h <;> try exact h.elim
  rename_i bk hbk
  split at h <;> try exact h.elim
  rename_i t ht
  obtain ⟨hT, hb, hK⟩ := h
  refine ⟨[.agg [.ints .u8 16 b], .one (.clo 35 200001 0 0)], [(200001, .view [.ints .u8 256 t])], .plain (plain_ints _ _ _) (ht ▸ .clo hbk (by rw [ht]; intro m; rfl) (.nil _)), by simp, 17 + 1, ?_⟩
  rw [eachT_vc]
  exact eachT_run hb hT 0 fun σ' => res_arr rfl hK
end Go.Proofs.Ytacnldmmacjpoaa.G
namespace Go.Fld
theorem x0 (a : Nat) : a ^^^ 0 = a := Nat.xor_zero a
theorem gl_acc : ∀ (d a b s t : Nat), gl d a b (s ^^^ t) = s ^^^ gl d a b t
 | 0, _, _, _, _ => rfl
 | d + 1, a, b, s, t => by
  simp only [gl]
  split
  ·rw [Nat.xor_assoc, gl_acc]
  ·rw [gl_acc]
theorem gl_zero (d a b s : Nat) : gl d a b s = s ^^^ gl d a b 0 := by
 have := gl_acc d a b s 0
 rwa [Nat.xor_zero] at this
theorem xor4 (a b c d : Nat) : (a ^^^ b) ^^^ (c ^^^ d) = (a ^^^ c) ^^^ (b ^^^ d) := by
 rw [Nat.xor_assoc, Nat.xor_assoc, ← Nat.xor_assoc b c d, Nat.xor_comm b c, Nat.xor_assoc c b d]
theorem xor_half (b b' : Nat) : (b ^^^ b') / 2 = b / 2 ^^^ b' / 2 := by
 have := Nat.shiftRight_xor_distrib (a := b) (b := b') (i := 1)
 simpa [Nat.shiftRight_succ] using this
theorem xor_two (b b' : Nat) : (b ^^^ b') % 2 = (b % 2 + b' % 2) % 2 := by
 have h := Nat.testBit_xor b b' 0
 simp only [Nat.testBit_zero] at h
 rcases Nat.mod_two_eq_zero_or_one b with hb | hb <;> rcases Nat.mod_two_eq_zero_or_one b' with hb' | hb' <;> rw [hb, hb'] at h ⊢ <;> rcases Nat.mod_two_eq_zero_or_one (b ^^^ b') with hx | hx <;> rw [hx] at h ⊢ <;> simp at h ⊢
theorem gl_lin2 : ∀ (d a b b' : Nat), gl d a (b ^^^ b') 0 = gl d a b 0 ^^^ gl d a b' 0
 | 0, _, _, _ => by simp [gl]
 | d + 1, a, b, b' => by
  have ih := gl_lin2 d (xt a) (b / 2) (b' / 2)
  have h2 := xor_two b b'
  simp only [gl, xor_half]
  have z := fun s c => gl_zero d (xt a) c s
  rcases Nat.mod_two_eq_zero_or_one b with hb | hb <;> rcases Nat.mod_two_eq_zero_or_one b' with hb' | hb' <;> rw [hb, hb'] at h2 <;> simp only [h2, hb, hb', Nat.reduceAdd, Nat.reduceMod, Nat.zero_ne_one, if_true, if_false, Nat.zero_xor]
  ·exact ih
  ·rw [z a, z a, ih, ← Nat.xor_assoc, ← Nat.xor_assoc, Nat.xor_comm a]
  ·rw [z a, z a, ih, ← Nat.xor_assoc]
  ·rw [z a, z a, ih, xor4, Nat.xor_self, Nat.zero_xor]
theorem gm_lin2 (a b b' : Nat) : gm a (b ^^^ b') = gm a b ^^^ gm a b' := gl_lin2 8 a b b'
def L4 (a b c d : Nat) : Prop := a < 256 ∧ b < 256 ∧ c < 256 ∧ d < 256
def m4 (f : List Nat) (r a b c d : Nat) : Nat := gm (f.getD ((4 - r) % 4) 0) a ^^^ gm (f.getD ((5 - r) % 4) 0) b ^^^ gm (f.getD ((6 - r) % 4) 0) c ^^^ gm (f.getD ((7 - r) % 4) 0) d
theorem mix1_eq (a b c d : Nat) (f : List Nat) (r : Nat) : mix1 [a, b, c, d] f r = m4 f r a b c d := by
 simp only [mix1, ml, m4]
 simp only [List.getD_cons_zero, List.getD_cons_succ, Nat.zero_add, Nat.reduceAdd, Nat.zero_xor]
theorem mixN_eq (a b c d : Nat) (f : List Nat) : mixN [a, b, c, d] f = [m4 f 0 a b c d, m4 f 1 a b c d, m4 f 2 a b c d, m4 f 3 a b c d] := by
 simp only [mixN, mix1_eq]
end Go.Fld
namespace Go.Proofs.Ytacnldmmacjpoaa.G
open Go Go.Sx Go.Fld Go.Blk
theorem box_at : ∀ i : Nat, i < 256 → sget boxC i = fsub (i : Int) := by decide +kernel
theorem good_radded : Sx.Good Try.prog 50 addedS := by
 refine Sx.Good.pure (D := []) mixed (good0 _) Try.func50 (by kernel_rfl) rfl fun d args σ K h => ?_
 simp only [addedS] at h
 split at h <;> try exact h.elim
 rename_i b w i
 obtain ⟨⟨⟨hb, hw⟩, hi⟩, hK⟩ := h
 obtain ⟨n, rfl⟩ := Int.eq_ofNat_of_zero_le hi.lo
 have hn := hi.hi
 refine ⟨by simp [plain_int, plain_ints], _, plain_ints _ _ _, hK, (1 + 1 * 16) + 1, ?_⟩
 rw [radded_vc]
 have key := loop_n (fun f i s => radded.l0 (fun av' _ => av' = .agg [.ints .u8 16 (qx b (rk w (nat (n : Int))))]) (n : Int) w f i s) 16 (fun i => upto 16 i (fun j => bxor .u8 (lget b j) (lget w (16 * n + j))) (lget b)) 1 1
  (fun f i hi h => by
   rw [radded.l0_succ]
   refine ⟨fun _ => ?_, fun q => ?_⟩
   ·have e1 : mul .i64 16 (n : Int) = ((16 * n : Nat) : Int) := mulN_i64 (a := 16) (by omega)
    have e2 : add .i64 ((16 * n : Nat) : Int) (i : Int) = ((16 * n + i : Nat) : Int) := addN_i64 (by omega)
    rw [e1, e2]
    simp only [InB_iff, Low_iff, nat_cast, nadd_def, Nat.zero_add]
    refine ⟨by omega, hi, by omega, by omega, by omega, hi, ?_⟩
    rw [add1_i64 (by omega), upto_hi (Nat.le_refl _) hi, upto_lset rfl]
    exact h
   ·rw [ilt_false] at q; omega)
  (by
   rw [radded.l0_succ]
   refine ⟨fun q => ?_, fun _ => ?_⟩
   ·rw [ilt_true] at q; omega
   ·rw [upto_done, nat_cast]
    have : (tab 16 fun j => bxor .u8 (lget b j) (lget w (16 * n + j))) = qx b (rk w n) := by
     refine tab_ext fun j hj => ?_
     rw [rk, lsub_tabbed hw.len (by omega), tab_lget _ hj]
    rw [this]) 0 (Nat.zero_le _)
 rw [upto_zero, ← hb.eq] at key
 exact key
theorem good_rnext : Sx.Good Try.prog 40 nextS := by
 refine Sx.Good.pure (D := []) mixed (good0 _) Try.func40 (by kernel_rfl) rfl fun d args σ K h => ?_
 simp only [nextS] at h
 split at h <;> try exact h.elim
 rename_i b
 obtain ⟨hb, hK⟩ := h
 refine ⟨by simp [plain_ints], _, plain_ints _ _ _, hK, 17 + 1, ?_⟩
 rw [rnext_vc]
 have key : ∀ (i : Nat) (c : List Int), i ≤ 16 → c.length = 16 → upN i c = up b → rnext.l0 (fun av' _ => av' = .agg [.ints .u8 16 (up b)]) (i + 1) ((i : Int) - 1) c := by
  intro i
  induction i with
  | zero =>
   intro c _ _ e
   rw [rnext.l0_succ]
   refine ⟨fun q => ?_, fun _ => ?_⟩
   ·rw [ige_true] at q; omega
   ·rw [show c = up b from e]
  | succ i ih =>
   intro c hi hc e
   rw [rnext.l0_succ, show ((i + 1 : Nat) : Int) - 1 = (i : Int) by omega]
   refine ⟨fun _ => ?_, fun q => ?_⟩
   ·have hl : lget (lset c i (add .u8 (lget c i) 1)) i = add .u8 (lget c i) 1 := by
     simp [lget, lset, List.getD, hc, show i < 16 by omega]
    simp only [InB_iff, Low_iff, nat_cast, nadd_def, Nat.zero_add, hl]
    refine ⟨by omega, by omega, by omega, by omega, by omega, by omega, fun q => ?_, fun q => ?_⟩
    ·rw [ine_true] at q
     rw [upN, if_neg q] at e
     rw [e]
    ·rw [ine_false] at q
     rw [upN, if_pos q] at e
     rw [sub_i64 (by omega) (by omega)]
     exact ih _ (by omega) (by simp [lset, hc]) e
   ·rw [ige_false] at q; omega
 exact key 16 b (Nat.le_refl _) hb.len rfl
theorem gm2_byte {a : Nat} (ha : a < 256) : gm 2 a < 256 := gm_lt (by decide)
theorem gm3 : ∀ a : Nat, a < 256 → gm 3 a = gm 2 a ^^^ a := by decide +kernel
theorem gm1 : ∀ a : Nat, a < 256 → gm 1 a = a := by decide +kernel
theorem mix_eq {a b c d : Nat} (ha : a < 256) (hb : b < 256) (hc : c < 256) (hd : d < 256) :
  m4 [2, 3, 1, 1] 0 a b c d = a ^^^ (a ^^^ b ^^^ c ^^^ d) ^^^ gm 2 (a ^^^ b) ∧ m4 [2, 3, 1, 1] 1 a b c d = b ^^^ (a ^^^ b ^^^ c ^^^ d) ^^^ gm 2 (b ^^^ c) ∧
  m4 [2, 3, 1, 1] 2 a b c d = c ^^^ (a ^^^ b ^^^ c ^^^ d) ^^^ gm 2 (c ^^^ d) ∧ m4 [2, 3, 1, 1] 3 a b c d = d ^^^ (a ^^^ b ^^^ c ^^^ d) ^^^ gm 2 (d ^^^ a) := by
 simp only [m4, List.getD_cons_zero, List.getD_cons_succ, List.getD_nil, Nat.reduceMod, Nat.reduceSub, gm3 _ ha, gm3 _ hb, gm3 _ hc, gm3 _ hd, gm1 _ ha, gm1 _ hb, gm1 _ hc, gm1 _ hd, gm_lin2]
 refine ⟨?_, ?_, ?_, ?_⟩ <;> (apply Nat.eq_of_testBit_eq; intro i; simp only [Nat.testBit_xor]; generalize a.testBit i = p; generalize b.testBit i = q; generalize c.testBit i = r; generalize d.testBit i = s; generalize (gm 2 a).testBit i = p'; generalize (gm 2 b).testBit i = q'; generalize (gm 2 c).testBit i = r'; generalize (gm 2 d).testBit i = s'; revert p q r s p' q' r' s'; decide)
theorem mixed_at {b : List Int} (hb : BL 16 b) {k r : Nat} (hk : k < 4) (hr : r < 4) :
  lget (fmix (lsub b (4 * k) 4) [2, 3, 1, 1]) r = bxor .u8 (bxor .u8 (lget b (4 * k + r)) (bxor .u8 (bxor .u8 (bxor .u8 (lget b (4 * k)) (lget b (4 * k + 1))) (lget b (4 * k + 2))) (lget b (4 * k + 3)))) (fmul 2 (bxor .u8 (lget b (4 * k + r)) (lget b (4 * k + (r + 1) % 4)))) := by
 obtain ⟨x0, h0, e0⟩ := (hb.get (4 * k)).nat
 obtain ⟨x1, h1, e1⟩ := (hb.get (4 * k + 1)).nat
 obtain ⟨x2, h2, e2⟩ := (hb.get (4 * k + 2)).nat
 obtain ⟨x3, h3, e3⟩ := (hb.get (4 * k + 3)).nat
 have el : lsub b (4 * k) 4 = [(x0 : Int), x1, x2, x3] := by
  rw [lsub_tabbed hb.len (by omega)]
  simp only [tab, List.range_succ, List.range_zero, List.nil_append, List.map_cons, List.map_nil, List.cons_append, Nat.add_zero, e0, e1, e2, e3]
 obtain ⟨m0, m1, m2, m3⟩ := mix_eq h0 h1 h2 h3
 have em : fmix (lsub b (4 * k) 4) [2, 3, 1, 1] = [((m4 [2, 3, 1, 1] 0 x0 x1 x2 x3 : Nat) : Int), ((m4 [2, 3, 1, 1] 1 x0 x1 x2 x3 : Nat) : Int), ((m4 [2, 3, 1, 1] 2 x0 x1 x2 x3 : Nat) : Int), ((m4 [2, 3, 1, 1] 3 x0 x1 x2 x3 : Nat) : Int)] := by
  rw [el]
  show intL (mixN [x0, x1, x2, x3] [2, 3, 1, 1]) = _
  rw [mixN_eq]; rfl
 have hx : ∀ {p q : Nat}, p < 256 → q < 256 → bxor .u8 (p : Int) (q : Int) = ((p ^^^ q : Nat) : Int) := fun hp hq => bxor_u8 hp hq
 have hm : ∀ {p : Nat}, p < 256 → fmul 2 (p : Int) = ((gm 2 p : Nat) : Int) := fun _ => rfl
 have all := xor_lt (xor_lt (xor_lt h0 h1) h2) h3
 rw [em]
 match r, hr with
 | 0, _ => simp only [Nat.add_zero, Nat.zero_add, Nat.reduceMod, e0, e1, e2, e3]; rw [hx h0 h1, hx (xor_lt h0 h1) h2, hx (xor_lt (xor_lt h0 h1) h2) h3, hx h0 all, hm (xor_lt h0 h1), hx (xor_lt h0 all) (gm2_byte (xor_lt h0 h1)), ← m0]; rfl
 | 1, _ => simp only [Nat.reduceAdd, Nat.reduceMod, e0, e1, e2, e3]; rw [hx h0 h1, hx (xor_lt h0 h1) h2, hx (xor_lt (xor_lt h0 h1) h2) h3, hx h1 all, hx h1 h2, hm (xor_lt h1 h2), hx (xor_lt h1 all) (gm2_byte (xor_lt h1 h2)), ← m1]; rfl
 | 2, _ => simp only [Nat.reduceAdd, Nat.reduceMod, e0, e1, e2, e3]; rw [hx h0 h1, hx (xor_lt h0 h1) h2, hx (xor_lt (xor_lt h0 h1) h2) h3, hx h2 all, hx h2 h3, hm (xor_lt h2 h3), hx (xor_lt h2 all) (gm2_byte (xor_lt h2 h3)), ← m2]; rfl
 | 3, _ => simp only [Nat.reduceAdd, Nat.reduceMod, Nat.add_zero, e0, e1, e2, e3]; rw [hx h0 h1, hx (xor_lt h0 h1) h2, hx (xor_lt (xor_lt h0 h1) h2) h3, hx h3 all, hx h3 h0, hm (xor_lt h3 h0), hx (xor_lt h3 all) (gm2_byte (xor_lt h3 h0)), ← m3]; rfl
theorem good_rmixed : Sx.Good Try.prog 51 mixedS := by
 refine Sx.Good.pure (D := []) mixed gamB1_good Try.func51 (by kernel_rfl) rfl fun d args σ K h => ?_
 simp only [mixedS] at h
 split at h <;> try exact h.elim
 rename_i b
 obtain ⟨hb, hK⟩ := h
 refine ⟨by simp [plain_ints], _, plain_ints _ _ _, hK, (1 + 6 * 4) + 1, ?_⟩
 rw [rmixed_vc]
 have hF : ∀ k r, k < 4 → r < 4 → lget (fmix (lsub b ((4 * k + r) / 4 * 4) 4) [2, 3, 1, 1]) ((4 * k + r) % 4) = lget (fmix (lsub b (4 * k) 4) [2, 3, 1, 1]) r := fun k r hk hr => by
  rw [show (4 * k + r) / 4 * 4 = 4 * k by omega, show (4 * k + r) % 4 = r by omega]
 have key := loop_nby 4 (fun f i s => rmixed.l0 (fun av' _ => av' = .agg [.ints .u8 16 (qc [2, 3, 1, 1] b)]) b f i s) 4 (fun k => upto 16 (4 * k) (fun j => lget (fmix (lsub b (j / 4 * 4) 4) [2, 3, 1, 1]) (j % 4)) fun _ => 0) 6 1
  (fun g k hk hg => by
   rw [rmixed.l0_succ]
   refine ⟨fun _ => ?_, fun q => ?_⟩
   ·have a1 : add .i64 ((4 * k : Nat) : Int) 1 = ((4 * k + 1 : Nat) : Int) := addN_i64 (b := 1) (by omega)
    have a2 : add .i64 ((4 * k : Nat) : Int) 2 = ((4 * k + 2 : Nat) : Int) := addN_i64 (b := 2) (by omega)
    have a3 : add .i64 ((4 * k : Nat) : Int) 3 = ((4 * k + 3 : Nat) : Int) := addN_i64 (b := 3) (by omega)
    have a4 : add .i64 ((4 * k : Nat) : Int) 4 = ((4 * (k + 1) : Nat) : Int) := addN_i64 (b := 4) (by omega)
    rw [a1, a2, a3]
    simp only [InB_iff, Low_iff, nat_cast, nadd_def, Nat.zero_add]
    refine ⟨⟨by omega, by omega⟩, by omega, ⟨by omega, by omega⟩, by omega, ⟨by omega, by omega⟩, by omega, ⟨by omega, by omega⟩, by omega, ?_⟩
    have key := fun z : Int => loop_n (fun f i s => rmixed.l1 (fun av' _ => av' = .agg [.ints .u8 16 (qc [2, 3, 1, 1] b)]) ((4 * k : Nat) : Int) (bxor .u8 (bxor .u8 (bxor .u8 (lget b (4 * k)) (lget b (4 * k + 1))) (lget b (4 * k + 2))) (lget b (4 * k + 3))) b z f i s) 4 (fun r => upto 16 (4 * k + r) (fun j => lget (fmix (lsub b (j / 4 * 4) 4) [2, 3, 1, 1]) (j % 4)) fun _ => 0) 1 (g + 1)
     (fun f r hr hf => by
      rw [rmixed.l1_succ]
      refine ⟨fun _ => ?_, fun q => ?_⟩
      ·have b1 : add .i64 (r : Int) 1 = ((r + 1 : Nat) : Int) := addN_i64 (b := 1) (by omega)
       have b2 : rem ((r + 1 : Nat) : Int) 4 = (((r + 1) % 4 : Nat) : Int) := remN (b := 4)
       have b3 : add .i64 ((4 * k : Nat) : Int) (((r + 1) % 4 : Nat) : Int) = ((4 * k + (r + 1) % 4 : Nat) : Int) := addN_i64 (by omega)
       have b4 : add .i64 ((4 * k : Nat) : Int) (r : Int) = ((4 * k + r : Nat) : Int) := addN_i64 (by omega)
       rw [b1, b2, b3, b4]
       simp only [InB_iff, Low_iff, NeZ_iff, nat_cast, nadd_def, Nat.zero_add]
       refine ⟨⟨by omega, by omega⟩, by omega, ⟨by omega, by omega⟩, by omega, by decide, ⟨by omega, by omega⟩, by omega, byte_xor (hb.get _) (hb.get _), ⟨by omega, by omega⟩, by omega, ?_⟩
       rw [upto_lset (by rw [hF k r hk hr, mixed_at hb hk hr])]
       exact hf
      ·rw [ilt_false] at q; omega)
     (by
      rw [rmixed.l1_succ]
      refine ⟨fun q => ?_, fun _ => ?_⟩
      ·rw [ilt_true] at q; omega
      ·rw [a4]; exact hg) 0 (Nat.zero_le _)
    exact key _
   ·rw [ilt_false] at q; omega)
  (by
   rw [rmixed.l0_succ]
   refine ⟨fun q => ?_, fun _ => ?_⟩
   ·rw [ilt_true] at q; omega
   ·rw [show upto 16 (4 * 4) (fun j => lget (fmix (lsub b (j / 4 * 4) 4) [2, 3, 1, 1]) (j % 4)) (fun _ => (0 : Int)) = qc [2, 3, 1, 1] b from upto_done]) 0 (Nat.zero_le _)
 rw [lzeros_tab, ← upto_zero (F := fun j => lget (fmix (lsub b (j / 4 * 4) 4) [2, 3, 1, 1]) (j % 4))]
 exact key
theorem keys_round {R : AV → Mem → Prop} {b : List Int} (hb : BL 16 b) (g i : Nat) (h4 : 4 ≤ i) (hi : i < 44) (h : rKeys.l1 R g (rcon ((i + 1 - 1) / 4)) ((4 * (i + 1) : Nat) : Int) (upto 176 (4 * (i + 1)) (kp b) fun _ => 0)) :
  rKeys.l1 R (g + 1) (rcon ((i - 1) / 4)) ((4 * i : Nat) : Int) (upto 176 (4 * i) (kp b) fun _ => 0) := by
 have s4 : sub .i64 ((4 * i : Nat) : Int) 4 = ((4 * (i - 1) + 0 : Nat) : Int) := by rw [sub_i64 (by omega) (by omega)]; omega
 have s3 : sub .i64 ((4 * i : Nat) : Int) 3 = ((4 * (i - 1) + 1 : Nat) : Int) := by rw [sub_i64 (by omega) (by omega)]; omega
 have s2 : sub .i64 ((4 * i : Nat) : Int) 2 = ((4 * (i - 1) + 2 : Nat) : Int) := by rw [sub_i64 (by omega) (by omega)]; omega
 have s1 : sub .i64 ((4 * i : Nat) : Int) 1 = ((4 * (i - 1) + 3 : Nat) : Int) := by rw [sub_i64 (by omega) (by omega)]; omega
 have s16 : sub .i64 ((4 * i : Nat) : Int) 16 = ((4 * (i - 4) + 0 : Nat) : Int) := by rw [sub_i64 (by omega) (by omega)]; omega
 have s15 : sub .i64 ((4 * i : Nat) : Int) 15 = ((4 * (i - 4) + 1 : Nat) : Int) := by rw [sub_i64 (by omega) (by omega)]; omega
 have s14 : sub .i64 ((4 * i : Nat) : Int) 14 = ((4 * (i - 4) + 2 : Nat) : Int) := by rw [sub_i64 (by omega) (by omega)]; omega
 have s13 : sub .i64 ((4 * i : Nat) : Int) 13 = ((4 * (i - 4) + 3 : Nat) : Int) := by rw [sub_i64 (by omega) (by omega)]; omega
 have a1 : add .i64 ((4 * i : Nat) : Int) 1 = ((4 * i + 1 : Nat) : Int) := by rw [add_i64 (by omega) (by omega)]; omega
 have a2 : add .i64 ((4 * i : Nat) : Int) 2 = ((4 * i + 2 : Nat) : Int) := by rw [add_i64 (by omega) (by omega)]; omega
 have a3 : add .i64 ((4 * i : Nat) : Int) 3 = ((4 * i + 3 : Nat) : Int) := by rw [add_i64 (by omega) (by omega)]; omega
 have a4 : add .i64 ((4 * i : Nat) : Int) 4 = ((4 * (i + 1) : Nat) : Int) := by rw [add_i64 (by omega) (by omega)]; omega
 have er : rem ((4 * i : Nat) : Int) 16 = ((4 * i % 16 : Nat) : Int) := remN (b := 16)
 have hw : ∀ m j, m < i → j < 4 → lget (upto 176 (4 * i) (kp b) fun _ => 0) (4 * m + j) = kw b m j := fun m j hm hj => word_get (by omega) (by omega) hj
 have hx : ∀ (j : Nat), j < 4 → ∃ n : Nat, n < 256 ∧ kw b (i - 1) j = (n : Int) := fun j hj => (kw_byte hb (i - 1) j hj).nat
 have hbox : ∀ j, j < 4 → InB (kw b (i - 1) j) 256 ∧ sget boxC (nat (kw b (i - 1) j)) = fsub (kw b (i - 1) j) := fun j hj => by
  obtain ⟨n, hn, e⟩ := hx j hj
  rw [e, nat_cast]; exact ⟨⟨by omega, by omega⟩, box_at n hn⟩
 have e1 : lset (upto 176 (4 * i) (kp b) fun _ => 0) (4 * i) (kw b i 0) = upto 176 (4 * i + 1) (kp b) fun _ => 0 := lset_word (i := i) (j := 0) (by decide) rfl
 have e2 : lset (upto 176 (4 * i + 1) (kp b) fun _ => 0) (4 * i + 1) (kw b i 1) = upto 176 (4 * i + 2) (kp b) fun _ => 0 := lset_word (i := i) (j := 1) (by decide) rfl
 have e3 : lset (upto 176 (4 * i + 2) (kp b) fun _ => 0) (4 * i + 2) (kw b i 2) = upto 176 (4 * i + 3) (kp b) fun _ => 0 := lset_word (i := i) (j := 2) (by decide) rfl
 have e4 : lset (upto 176 (4 * i + 3) (kp b) fun _ => 0) (4 * i + 3) (kw b i 3) = upto 176 (4 * (i + 1)) (kp b) fun _ => 0 := lset_word (i := i) (j := 3) (by decide) rfl
 have g0 : lget (upto 176 (4 * i) (kp b) fun _ => 0) (4 * (i - 4) + 0) = kw b (i - 4) 0 := hw _ _ (by omega) (by decide)
 have g1 : lget (upto 176 (4 * i + 1) (kp b) fun _ => 0) (4 * (i - 4) + 1) = kw b (i - 4) 1 := word_get (by omega) (by omega) (by decide)
 have g2 : lget (upto 176 (4 * i + 2) (kp b) fun _ => 0) (4 * (i - 4) + 2) = kw b (i - 4) 2 := word_get (by omega) (by omega) (by decide)
 have g3 : lget (upto 176 (4 * i + 3) (kp b) fun _ => 0) (4 * (i - 4) + 3) = kw b (i - 4) 3 := word_get (by omega) (by omega) (by decide)
 have w0 := hw (i - 1) 0 (by omega) (by decide)
 have w1 := hw (i - 1) 1 (by omega) (by decide)
 have w2 := hw (i - 1) 2 (by omega) (by decide)
 have w3 := hw (i - 1) 3 (by omega) (by decide)
 rw [rKeys.l1_succ]
 refine ⟨fun _ => ?_, fun q => ?_⟩
 ·simp only [s4, s3, s2, s1, s16, s15, s14, s13, a1, a2, a3, a4, er, nat_cast, nadd_def, Nat.zero_add, Low_iff, NeZ_iff]
  have hI : ∀ m j, m ≤ i → j < 4 → InB ((4 * m + j : Nat) : Int) 176 ∧ 4 * m + j < 176 := fun m j hm hj => ⟨⟨by omega, by omega⟩, by omega⟩
  refine ⟨(hI (i - 1) 0 (by omega) (by decide)).1, (hI (i - 1) 0 (by omega) (by decide)).2, (hI (i - 1) 1 (by omega) (by decide)).1, (hI (i - 1) 1 (by omega) (by decide)).2, (hI (i - 1) 2 (by omega) (by decide)).1, (hI (i - 1) 2 (by omega) (by decide)).2, (hI (i - 1) 3 (by omega) (by decide)).1, (hI (i - 1) 3 (by omega) (by decide)).2, by decide, fun q => ?_, fun q => ?_⟩
  ·rw [ieq_true] at q
   have q4 : i % 4 = 0 := by omega
   have kt0 : ∀ j, kt i (kw b (i - 1)) j = if j = 0 then bxor .u8 (fsub (kw b (i - 1) 1)) (rcon ((i - 1) / 4)) else fsub (kw b (i - 1) ((j + 1) % 4)) := fun j => by
    unfold kt; rw [if_pos q4, show i / 4 - 1 = (i - 1) / 4 by omega]
   have k0 : bxor .u8 (kw b (i - 4) 0) (bxor .u8 (fsub (kw b (i - 1) 1)) (rcon ((i - 1) / 4))) = kw b i 0 := by rw [kw_hi b h4 (by decide : 0 < 4), kt0]; rfl
   have k1 : bxor .u8 (kw b (i - 4) 1) (fsub (kw b (i - 1) 2)) = kw b i 1 := by rw [kw_hi b h4 (by decide : 1 < 4), kt0]; rfl
   have k2 : bxor .u8 (kw b (i - 4) 2) (fsub (kw b (i - 1) 3)) = kw b i 2 := by rw [kw_hi b h4 (by decide : 2 < 4), kt0]; rfl
   have k3 : bxor .u8 (kw b (i - 4) 3) (fsub (kw b (i - 1) 0)) = kw b i 3 := by rw [kw_hi b h4 (by decide : 3 < 4), kt0]; rfl
   simp only [w0, w1, w2, w3, (hbox 0 (by decide)).2, (hbox 1 (by decide)).2, (hbox 2 (by decide)).2, (hbox 3 (by decide)).2, g0, k0, e1, g1, k1, e2, g2, k2, e3, g3, k3, e4]
   have hr2 : fmul 2 (rcon ((i - 1) / 4)) = rcon ((i + 1 - 1) / 4) := by
    rw [show (i + 1 - 1) / 4 = (i - 1) / 4 + 1 by omega]; rfl
   rw [hr2]
   exact ⟨(hbox 1 (by decide)).1, (hbox 2 (by decide)).1, (hbox 3 (by decide)).1, (hbox 0 (by decide)).1, rcon_byte _, (hI (i - 4) 0 (by omega) (by decide)).1, (hI (i - 4) 0 (by omega) (by decide)).2, (hI i 0 (by omega) (by decide)).1, (hI i 0 (by omega) (by decide)).2, (hI (i - 4) 1 (by omega) (by decide)).1, (hI (i - 4) 1 (by omega) (by decide)).2, (hI i 1 (by omega) (by decide)).1, (hI i 1 (by omega) (by decide)).2, (hI (i - 4) 2 (by omega) (by decide)).1, (hI (i - 4) 2 (by omega) (by decide)).2, (hI i 2 (by omega) (by decide)).1, (hI i 2 (by omega) (by decide)).2, (hI (i - 4) 3 (by omega) (by decide)).1, (hI (i - 4) 3 (by omega) (by decide)).2, (hI i 3 (by omega) (by decide)).1, (hI i 3 (by omega) (by decide)).2, h⟩
  ·rw [ieq_false] at q
   have q4 : ¬ i % 4 = 0 := by omega
   have kt0 : ∀ j, kt i (kw b (i - 1)) j = kw b (i - 1) j := fun j => by unfold kt; rw [if_neg q4]
   have k0 : bxor .u8 (kw b (i - 4) 0) (kw b (i - 1) 0) = kw b i 0 := by rw [kw_hi b h4 (by decide : 0 < 4), kt0]
   have k1 : bxor .u8 (kw b (i - 4) 1) (kw b (i - 1) 1) = kw b i 1 := by rw [kw_hi b h4 (by decide : 1 < 4), kt0]
   have k2 : bxor .u8 (kw b (i - 4) 2) (kw b (i - 1) 2) = kw b i 2 := by rw [kw_hi b h4 (by decide : 2 < 4), kt0]
   have k3 : bxor .u8 (kw b (i - 4) 3) (kw b (i - 1) 3) = kw b i 3 := by rw [kw_hi b h4 (by decide : 3 < 4), kt0]
   simp only [w0, w1, w2, w3, g0, k0, e1, g1, k1, e2, g2, k2, e3, g3, k3, e4]
   rw [show (i - 1) / 4 = (i + 1 - 1) / 4 by omega]
   exact ⟨(hI (i - 4) 0 (by omega) (by decide)).1, (hI (i - 4) 0 (by omega) (by decide)).2, (hI i 0 (by omega) (by decide)).1, (hI i 0 (by omega) (by decide)).2, (hI (i - 4) 1 (by omega) (by decide)).1, (hI (i - 4) 1 (by omega) (by decide)).2, (hI i 1 (by omega) (by decide)).1, (hI i 1 (by omega) (by decide)).2, (hI (i - 4) 2 (by omega) (by decide)).1, (hI (i - 4) 2 (by omega) (by decide)).2, (hI i 2 (by omega) (by decide)).1, (hI i 2 (by omega) (by decide)).2, (hI (i - 4) 3 (by omega) (by decide)).1, (hI (i - 4) 3 (by omega) (by decide)).2, (hI i 3 (by omega) (by decide)).1, (hI i 3 (by omega) (by decide)).2, h⟩
 ·rw [ilt_false] at q; omega
theorem good_rkeys : Sx.Good Try.prog 38 keysS := by
 refine Sx.Good.pure (D := []) mixed gamB1_good Try.func38 (by kernel_rfl) rfl fun d args σ K h => ?_
 simp only [keysS] at h
 split at h <;> try exact h.elim
 rename_i b
 obtain ⟨hb, hK⟩ := h
 refine ⟨by simp [plain_ints], _, plain_ints _ _ _, hK, (1 + 1 * (44 - 4)) + 1 + 1 * 16 + 1, ?_⟩
 rw [rKeys_vc]
 have key := loop_n (fun f i s => rKeys.l0 (fun av' _ => av' = .agg [.ints .u8 176 (ks b)]) b f i s) 16 (fun i => upto 176 i (kp b) fun _ => 0) 1 ((1 + 1 * (44 - 4)) + 1)
  (fun g i hi hg => by
   rw [rKeys.l0_succ]
   refine ⟨fun _ => ?_, fun q => ?_⟩
   ·simp only [InB_iff, Low_iff, nat_cast, nadd_def, Nat.zero_add]
    refine ⟨by omega, hi, by omega, by omega, ?_⟩
    have e : kp b i = lget b i := by unfold kp; rw [kw_lo _ _ (by omega), show 4 * (i / 4) + i % 4 = i by omega]
    rw [add1_i64 (by omega), upto_lset e.symm]
    exact hg
   ·rw [ilt_false] at q; omega)
  (by
   rw [rKeys.l0_succ]
   refine ⟨fun q => ?_, fun _ => ?_⟩
   ·rw [ilt_true] at q; omega
   ·refine loop_from (fun f i s => rKeys.l1 (fun av' _ => av' = .agg [.ints .u8 176 (ks b)]) f s.1 ((4 * i.toNat : Nat) : Int) s.2) 4 44 (fun i => (rcon ((i - 1) / 4), upto 176 (4 * i) (kp b) fun _ => 0)) 1 1 (fun g i h4 hi hg => keys_round hb g i h4 hi hg) ?_ 4 (by decide) (by decide)
    show rKeys.l1 _ (0 + 1) _ (((4 * 44 : Nat) : Int)) _
    rw [rKeys.l1_succ]
    refine ⟨fun q => ?_, fun _ => ?_⟩
    ·rw [ilt_true] at q; omega
    ·show AV.agg [.ints .u8 176 (upto 176 176 (kp b) fun _ => 0)] = _
     rw [upto_done]; rfl) 0 (Nat.zero_le _)
 rw [lzeros_tab, ← upto_zero (F := kp b)]
 exact key
theorem gamB2_good : GoodG Try.prog gamB2 :=
 (((((gamB1_good.ext good_with ⟨_, Try.func44, by decide, by kernel_rfl⟩).ext good_turned' ⟨_, Try.func46, by decide, by kernel_rfl⟩).ext good_each ⟨_, Try.func45, by decide, by kernel_rfl⟩).ext good_columns ⟨_, Try.func47, by decide, by kernel_rfl⟩).ext good_new ⟨_, Try.func33, by decide, by kernel_rfl⟩).ext good_next ⟨_, Try.func37, by decide, by kernel_rfl⟩
theorem gamB3_good : GoodG Try.prog gamB3 := ((((gamB2_good.ext good_rkeys ⟨_, Try.func38, by decide, by kernel_rfl⟩).ext good_radded ⟨_, Try.func50, by decide, by kernel_rfl⟩).ext good_rmixed ⟨_, Try.func51, by decide, by kernel_rfl⟩).ext good_rnext ⟨_, Try.func40, by decide, by kernel_rfl⟩)
end Go.Proofs.Ytacnldmmacjpoaa.G
namespace Go.Blk
def rkI (w : List Int) (i : Int) : List Int := if i < 0 ∨ 10 < i then Sx.lzeros 16 else rk w i.toNat
def strmI (w s : List Int) (n : Int) : List Int := if n < 0 ∨ 65536 < n then [] else mask w s (Sx.lzeros n.toNat)
end Go.Blk
namespace Go.Sx
open Go.Fld Go.Blk
def fnS (σ : Mem) (x : AV) (K : Prop) : Prop :=
 match conFn x with
 | some g => match Nat.beq g 34 with
  | true => K
  | false => False
 | none => match isTold x with
  | some n => match Mem.find σ n with
   | some b => match b.segs with
    | [.ints .u8 256 t] => Tbl t ∧ K
    | _ => False
   | none => False
  | none => False
def encryptedS : Spec := ⟨0, false, fun _ args σ K => match args with
 | [.agg [.ints .u8 176 w], .agg [.ints .u8 16 b], x] => fnS σ x ((BL 176 w ∧ BL 16 b) ∧ K (.agg [.ints .u8 16 (enc w b)]) σ)
 | _ => False⟩
def encS : Spec := ⟨0, false, fun _ args σ K => match args with
 | [.agg [.ints .u8 176 w], .agg [.ints .u8 16 b]] => (BL 176 w ∧ BL 16 b) ∧ K (.agg [.ints .u8 16 (enc w b)]) σ
 | _ => False⟩
def roundS : Spec := ⟨0, false, fun _ args σ K => match args with
 | [.agg [.ints .u8 176 w], .one (.int .i64 i)] => BL 176 w ∧ K (.agg [.ints .u8 16 (rkI w i)]) σ
 | _ => False⟩
def maskS : Spec := ⟨1, false, fun d args σ K => match args with
 | [.agg [.ints .u8 16 k], .agg [.ints .u8 16 s], x] => rdb σ x fun p => ((BL 16 k ∧ BL 16 s) ∧ (Short p ∧ Bs p)) ∧ K (.one (.vec d)) (Mem.ins d (.vec [.ints .u8 (mask (ks k) s p)]) σ)
 | _ => False⟩
def streamS : Spec := ⟨1, false, fun d args σ K => match args with
 | [.agg [.ints .u8 16 k], .agg [.ints .u8 16 s], .one (.int .i64 n)] => (BL 16 k ∧ BL 16 s) ∧ K (.one (.vec d)) (Mem.ins d (.vec [.ints .u8 (strmI (ks k) s n)]) σ)
 | _ => False⟩
def gamB4 : Gam := ext (ext gamB3 36 encryptedS) 39 encS
def gamB5 : Gam := gamB4
def gamB6 : Gam := ext (ext gamB5 30 maskS) 31 maskS
end Go.Sx
namespace Go.Proofs.Ytacnldmmacjpoaa.G
open Go Go.Sx Go.Fld Go.Blk
set_option maxRecDepth 100000
def encS.l0 (R : AV → Mem → Prop) (w : List Int) (fuel : Nat) (x0 : Int) (x1 : List Int) : Prop := run Try.prog gamB2 [] (resh Try.prog [] Try.f36.results.toList R) fuel [kc Try.f36 [1,1,0,1,0,0],ki Try.f36 [1,1,0,1,0,0],.inBlock 0,kc Try.f36 [1,1,1]] (Uu::Uu::AV.one (AC.con (Value.func (Fn.func 34) (List.toArray []) (List.toArray [])))::AV.one (AC.ptr 3 0 0)::Uu::Uu::AV.one (AC.ptr 6 0 0)::AV.one (AC.ptr 7 0 0)::Ii x0::(us 23 [Zz])) [(3,Blk.own 62 [Seg.ints IntKind.u8 176 w]),(6,Blk.own 52 [Seg.ints IntKind.u8 16 (lzeros 16)]),(7,Blk.own 59 [Seg.ints IntKind.u8 16 x1])]
theorem encS.l0_succ (R : AV → Mem → Prop) (w : List Int) (fuel : Nat) (x0 : Int) (x1 : List Int) : encS.l0 R w (fuel + 1) x0 x1 = (((((ile x0 10) = true) → ((BL 16 x1) ∧ (((BL 16 (qe fsub x1)) ∧ (InB 1 4)) ∧ ((((ilt x0 10) = true) → ((BL 16 (qt 1 (qe fsub x1))) ∧ ((InB x0 11) ∧ ((Fits (nadd (nadd 0 (nmul (nat x0) 16)) 16) 176) ∧ (((BL 16 (qc [2,3,1,1] (qt 1 (qe fsub x1)))) ∧ (BL 16 (lsub w (nadd 0 (nmul (nat x0) 16)) 16))) ∧ (encS.l0 R w fuel (add IntKind.i64 x0 1) (qx (qc [2,3,1,1] (qt 1 (qe fsub x1))) (lsub w (nadd 0 (nmul (nat x0) 16)) 16)))))))) ∧ (((ilt x0 10) = false) → ((InB x0 11) ∧ ((Fits (nadd (nadd 0 (nmul (nat x0) 16)) 16) 176) ∧ (((BL 16 (qt 1 (qe fsub x1))) ∧ (BL 16 (lsub w (nadd 0 (nmul (nat x0) 16)) 16))) ∧ (encS.l0 R w fuel (add IntKind.i64 x0 1) (qx (qt 1 (qe fsub x1)) (lsub w (nadd 0 (nmul (nat x0) 16)) 16))))))))))) ∧ (((ile x0 10) = false) → (R (AV.agg [Seg.ints IntKind.u8 16 x1]) [(3,Blk.own 62 [Seg.ints IntKind.u8 176 w]),(6,Blk.own 52 [Seg.ints IntKind.u8 16 x1]),(7,Blk.own 59 [Seg.ints IntKind.u8 16 x1])])))) := by kernel_rfl
theorem encS_vc (R : AV → Mem → Prop) (fuel : Nat) (w : List Int) (b : List Int) : callsx Try.prog gamB2 [] Try.f36 (fuel + 1) [.agg [.ints .u8 176 w], .agg [.ints .u8 16 b], .one (.con (.func (.func 34) #[] #[]))] [] R = (((InB 0 11) ∧ ((Fits 16 176) ∧ (((Go.Blk.BL 16 b) ∧ (Go.Blk.BL 16 (lsub w 0 16))) ∧ (encS.l0 R w fuel 1 (Go.Blk.qx b (lsub w 0 16))))))) := by kernel_rfl
def encT.l0 (R : AV → Mem → Prop) (w t : List Int) (fuel : Nat) (x0 : Int) (x1 : List Int) : Prop := run Try.prog gamB2 [] (resh Try.prog [] Try.f36.results.toList R) fuel [kc Try.f36 [1,1,0,1,0,0],ki Try.f36 [1,1,0,1,0,0],.inBlock 0,kc Try.f36 [1,1,1]] (Uu::Uu::AV.one (AC.clo 35 200002 0 0)::AV.one (AC.ptr 3 0 0)::Uu::Uu::AV.one (AC.ptr 6 0 0)::AV.one (AC.ptr 7 0 0)::Ii x0::(us 23 [Zz])) [(3,Blk.own 62 [Seg.ints IntKind.u8 176 w]),(6,Blk.own 52 [Seg.ints IntKind.u8 16 (lzeros 16)]),(7,Blk.own 59 [Seg.ints IntKind.u8 16 x1]),(200002,Blk.view [Seg.ints IntKind.u8 256 t])]
theorem encT.l0_succ (R : AV → Mem → Prop) (w t : List Int) (fuel : Nat) (x0 : Int) (x1 : List Int) : encT.l0 R w t (fuel + 1) x0 x1 = (((((ile x0 10) = true) → ((Tbl t) ∧ ((BL 16 x1) ∧ (((BL 16 (qe fsub x1)) ∧ (InB 1 4)) ∧ ((((ilt x0 10) = true) → ((BL 16 (qt 1 (qe fsub x1))) ∧ ((InB x0 11) ∧ ((Fits (nadd (nadd 0 (nmul (nat x0) 16)) 16) 176) ∧ (((BL 16 (qc [2,3,1,1] (qt 1 (qe fsub x1)))) ∧ (BL 16 (lsub w (nadd 0 (nmul (nat x0) 16)) 16))) ∧ (encT.l0 R w t fuel (add IntKind.i64 x0 1) (qx (qc [2,3,1,1] (qt 1 (qe fsub x1))) (lsub w (nadd 0 (nmul (nat x0) 16)) 16)))))))) ∧ (((ilt x0 10) = false) → ((InB x0 11) ∧ ((Fits (nadd (nadd 0 (nmul (nat x0) 16)) 16) 176) ∧ (((BL 16 (qt 1 (qe fsub x1))) ∧ (BL 16 (lsub w (nadd 0 (nmul (nat x0) 16)) 16))) ∧ (encT.l0 R w t fuel (add IntKind.i64 x0 1) (qx (qt 1 (qe fsub x1)) (lsub w (nadd 0 (nmul (nat x0) 16)) 16)))))))))))) ∧ (((ile x0 10) = false) → (R (AV.agg [Seg.ints IntKind.u8 16 x1]) [(3,Blk.own 62 [Seg.ints IntKind.u8 176 w]),(6,Blk.own 52 [Seg.ints IntKind.u8 16 x1]),(7,Blk.own 59 [Seg.ints IntKind.u8 16 x1]),(200002,Blk.view [Seg.ints IntKind.u8 256 t])])))) := by kernel_rfl
theorem encT_vc (R : AV → Mem → Prop) (fuel : Nat) (w : List Int) (b : List Int) (t : List Int) : callsx Try.prog gamB2 [] Try.f36 (fuel + 1) [.agg [.ints .u8 176 w], .agg [.ints .u8 16 b], .one (.clo 35 200002 0 0)] [(200002, .view [.ints .u8 256 t])] R = (((InB 0 11) ∧ ((Fits 16 176) ∧ (((Go.Blk.BL 16 b) ∧ (Go.Blk.BL 16 (lsub w 0 16))) ∧ (encT.l0 R w t fuel 1 (Go.Blk.qx b (lsub w 0 16))))))) := by kernel_rfl
def rWith.l1 (R : AV → Mem → Prop) (x0 : Int) (w x1 : List Int) (fuel : Nat) (x2 : Int) (x3 : List Int) : Prop := run Try.prog gamB3 [] (resh Try.prog [] Try.f39.results.toList R) fuel [kc Try.f39 [1,1,0,1,0,0,1,0,0,1,0,1,0,0],ki Try.f39 [1,1,0,1,0,0,1,0,0,1,0,1,0,0],.inBlock 2,kc Try.f39 [1,1,0,1,0,0,1,0,0,1,1],.inBlock 1,kc Try.f39 [1,1,0,1,0,0,1,1],ki Try.f39 [1,1,0,1,0,0],.inBlock 0,kc Try.f39 [1,1,1]] (Uu::Uu::AV.one (AC.ptr 2 0 0)::AV.one (AC.ptr 3 0 0)::AV.one (AC.ptr 4 0 0)::Ii x0::AV.one (AC.ptr 6 0 0)::Ii x2::Uu::Uu::Uu::Ii x0::Ll true::(us 26 [Zz])) [(2,Blk.own 68 [Seg.ints IntKind.u8 176 w]),(3,Blk.own 52 [Seg.ints IntKind.u8 16 x1]),(4,Blk.own 52 [Seg.ints IntKind.u8 16 (lzeros 16)]),(6,Blk.own 52 [Seg.ints IntKind.u8 16 x3])]
def rWith.l0 (R : AV → Mem → Prop) (w : List Int) (fuel : Nat) (x0 : Int) (x1 : List Int) : Prop := run Try.prog gamB3 [] (resh Try.prog [] Try.f39.results.toList R) fuel [kc Try.f39 [1,1,0,1,0,0],ki Try.f39 [1,1,0,1,0,0],.inBlock 0,kc Try.f39 [1,1,1]] (Uu::Uu::AV.one (AC.ptr 2 0 0)::AV.one (AC.ptr 3 0 0)::AV.one (AC.ptr 4 0 0)::Ii x0::(us 33 [Zz])) [(2,Blk.own 68 [Seg.ints IntKind.u8 176 w]),(3,Blk.own 52 [Seg.ints IntKind.u8 16 x1]),(4,Blk.own 52 [Seg.ints IntKind.u8 16 (lzeros 16)])]
theorem rWith.l1_succ (R : AV → Mem → Prop) (x0 : Int) (w x1 : List Int) (fuel : Nat) (x2 : Int) (x3 : List Int) : rWith.l1 R x0 w x1 (fuel + 1) x2 x3 = (((((ilt x2 16) = true) → ((NeZ 4) ∧ ((NeZ 16) ∧ ((InB (rem (add IntKind.i64 x2 (mul IntKind.i64 4 (rem x2 4))) 16) 16) ∧ ((Low (nadd 0 (nat (rem (add IntKind.i64 x2 (mul IntKind.i64 4 (rem x2 4))) 16))) 16) ∧ ((InB (lget x1 (nadd 0 (nat (rem (add IntKind.i64 x2 (mul IntKind.i64 4 (rem x2 4))) 16)))) 256) ∧ ((InB x2 16) ∧ ((Low (nadd 0 (nat x2)) 16) ∧ (let y4 : Int := (sget boxC (nat (lget x1 (nadd 0 (nat (rem (add IntKind.i64 x2 (mul IntKind.i64 4 (rem x2 4))) 16)))))); (let y5 : List Int := (lset x3 (nadd 0 (nat x2)) (sget boxC (nat (lget x1 (nadd 0 (nat (rem (add IntKind.i64 x2 (mul IntKind.i64 4 (rem x2 4))) 16))))))); (rWith.l1 R x0 w x1 fuel (add IntKind.i64 x2 1) y5))))))))))) ∧ (((ilt x2 16) = false) → ((((ilt x0 10) = true) → ((BL 16 x3) ∧ ((((BL 16 (qc [2,3,1,1] x3)) ∧ (BL 176 w)) ∧ (InB x0 11)) ∧ (rWith.l0 R w fuel (add IntKind.i64 x0 1) (qx (qc [2,3,1,1] x3) (rk w (nat x0))))))) ∧ (((ilt x0 10) = false) → ((((BL 16 x3) ∧ (BL 176 w)) ∧ (InB x0 11)) ∧ (rWith.l0 R w fuel (add IntKind.i64 x0 1) (qx x3 (rk w (nat x0)))))))))) := by kernel_rfl
theorem rWith.l0_succ (R : AV → Mem → Prop) (w : List Int) (fuel : Nat) (x0 : Int) (x1 : List Int) : rWith.l0 R w (fuel + 1) x0 x1 = (((((ile x0 10) = true) → (rWith.l1 R x0 w x1 fuel 0 (lzeros 16))) ∧ (((ile x0 10) = false) → (R (AV.agg [Seg.ints IntKind.u8 16 x1]) [(2,Blk.own 68 [Seg.ints IntKind.u8 176 w]),(3,Blk.own 52 [Seg.ints IntKind.u8 16 x1]),(4,Blk.own 52 [Seg.ints IntKind.u8 16 x1])])))) := by kernel_rfl
theorem rWith_vc (R : AV → Mem → Prop) (fuel : Nat) (w : List Int) (b : List Int) : callsx Try.prog gamB3 [] Try.f39 (fuel + 1) [.agg [.ints .u8 176 w], .agg [.ints .u8 16 b]] [] R = (((((Go.Blk.BL 16 b) ∧ (Go.Blk.BL 176 w)) ∧ (InB 0 11)) ∧ (rWith.l0 R w fuel 1 (Go.Blk.qx b (Go.Blk.rk w 0))))) := by kernel_rfl
def bMask.l2 (R : AV → Mem → Prop) (x3 : Int) (x5 k x4 x2 p : List Int) (fuel : Nat) (x6 : Int) (x7 : List Int) : Prop := run Try.prog gamB4 [] (resh Try.prog [] Try.f30.results.toList R) fuel [kc Try.f30 [1,1,1,1,1,1,0,1,0,0,1,0,0,1,0,1,0,0],ki Try.f30 [1,1,1,1,1,1,0,1,0,0,1,0,0,1,0,1,0,0],.inBlock 4,kc Try.f30 [1,1,1,1,1,1,0,1,0,0,1,0,0,1,1],.inBlock 3,kc Try.f30 [1,1,1,1,1,1,0,1,0,0,1,1],ki Try.f30 [1,1,1,1,1,1,0,1,0,0],.inBlock 2,kc Try.f30 [1,1,1,1,1,1,1]] (us 4 (AV.one (AC.ptr 4 0 0)::Uu::Uu::AV.one (AC.ptr 7 0 0)::Vv 19::AV.one (AC.clo 35 10 0 0)::Uu::Uu::Ii x3::AV.one (AC.ptr 13 0 0)::Ii x6::(us 21 (Ii x3::Vv 19::Ii (ofNat (llen x5))::Ll true::Uu::Uu::(AV.agg [Seg.ints IntKind.u8 176 (ks k)])::(AV.agg [Seg.ints IntKind.u8 16 x4])::AV.one (AC.clo 35 10 0 0)::(AV.agg [Seg.ints IntKind.u8 16 (enc (ks k) x4)])::Ii x3::(us 22 [Zz]))))) [(4,Blk.own 52 [Seg.ints IntKind.u8 16 x4]),(7,Blk.own 62 [Seg.ints IntKind.u8 176 (ks k)]),(10,Blk.own 65 [Seg.ints IntKind.u8 256 x2]),(13,Blk.own 52 [Seg.ints IntKind.u8 16 (enc (ks k) x4)]),(19,Blk.vec [Col.ints IntKind.u8 x7]),(200002,Blk.rview [Col.ints IntKind.u8 p])]
def bMask.l1 (R : AV → Mem → Prop) (k x2 p : List Int) (fuel : Nat) (x3 : Int) (x4 x5 : List Int) : Prop := run Try.prog gamB4 [] (resh Try.prog [] Try.f30.results.toList R) fuel [kc Try.f30 [1,1,1,1,1,1,0,1,0,0],ki Try.f30 [1,1,1,1,1,1,0,1,0,0],.inBlock 2,kc Try.f30 [1,1,1,1,1,1,1]] (us 4 (AV.one (AC.ptr 4 0 0)::Uu::Uu::AV.one (AC.ptr 7 0 0)::Vv 19::AV.one (AC.clo 35 10 0 0)::Uu::Uu::Ii x3::(us 56 [Zz]))) [(4,Blk.own 52 [Seg.ints IntKind.u8 16 x4]),(7,Blk.own 62 [Seg.ints IntKind.u8 176 (ks k)]),(10,Blk.own 65 [Seg.ints IntKind.u8 256 x2]),(19,Blk.vec [Col.ints IntKind.u8 x5]),(200002,Blk.rview [Col.ints IntKind.u8 p])]
def bMask.l0 (R : AV → Mem → Prop) (s k y0 p : List Int) (fuel : Nat) (x1 : Int) (x2 : List Int) : Prop := run Try.prog gamB4 [] (resh Try.prog [] Try.f30.results.toList R) fuel [kc Try.f30 [1,1,1,1,1,0,1,0,1,0,1,0,0],ki Try.f30 [1,1,1,1,1,0,1,0,1,0,1,0,0],.inBlock 0,kc Try.f30 [1,1,1,1,1,0,1,0,1,1],kc Try.f30 [1,1,1,1,1,1]] (us 4 (AV.one (AC.ptr 4 0 0)::Uu::Uu::AV.one (AC.ptr 7 0 0)::Vv 19::AV.one (AC.con (Value.func (Fn.func 34) (List.toArray []) (List.toArray [])))::AV.one (AC.ptr 10 0 0)::Uu::Zz::Zz::Zz::(us 11 (Ii x1::(us 8 (zs 35 [])))))) [(4,Blk.own 52 [Seg.ints IntKind.u8 16 s]),(7,Blk.own 62 [Seg.ints IntKind.u8 176 (ks k)]),(10,Blk.own 65 [Seg.ints IntKind.u8 256 x2]),(19,Blk.vec [Col.ints IntKind.u8 y0]),(200002,Blk.rview [Col.ints IntKind.u8 p])]
def bMask.l4 (R : AV → Mem → Prop) (x10 : Int) (x12 k x11 p : List Int) (fuel : Nat) (x13 : Int) (x14 : List Int) : Prop := run Try.prog gamB4 [] (resh Try.prog [] Try.f30.results.toList R) fuel [kc Try.f30 [1,1,1,1,1,1,0,1,0,0,1,0,0,1,0,1,0,0],ki Try.f30 [1,1,1,1,1,1,0,1,0,0,1,0,0,1,0,1,0,0],.inBlock 4,kc Try.f30 [1,1,1,1,1,1,0,1,0,0,1,0,0,1,1],.inBlock 3,kc Try.f30 [1,1,1,1,1,1,0,1,0,0,1,1],ki Try.f30 [1,1,1,1,1,1,0,1,0,0],.inBlock 2,kc Try.f30 [1,1,1,1,1,1,1]] (us 4 (AV.one (AC.ptr 4 0 0)::Uu::Uu::AV.one (AC.ptr 7 0 0)::Vv 19::AV.one (AC.con (Value.func (Fn.func 34) (List.toArray []) (List.toArray [])))::Uu::Uu::Ii x10::AV.one (AC.ptr 13 0 0)::Ii x13::(us 21 (Ii x10::Vv 19::Ii (ofNat (llen x12))::Ll true::Uu::Uu::(AV.agg [Seg.ints IntKind.u8 176 (ks k)])::(AV.agg [Seg.ints IntKind.u8 16 x11])::AV.one (AC.con (Value.func (Fn.func 34) (List.toArray []) (List.toArray [])))::(AV.agg [Seg.ints IntKind.u8 16 (enc (ks k) x11)])::Ii x10::(us 22 [Zz]))))) [(4,Blk.own 52 [Seg.ints IntKind.u8 16 x11]),(7,Blk.own 62 [Seg.ints IntKind.u8 176 (ks k)]),(13,Blk.own 52 [Seg.ints IntKind.u8 16 (enc (ks k) x11)]),(19,Blk.vec [Col.ints IntKind.u8 x14]),(200002,Blk.rview [Col.ints IntKind.u8 p])]
def bMask.l3 (R : AV → Mem → Prop) (k p : List Int) (fuel : Nat) (x10 : Int) (x11 x12 : List Int) : Prop := run Try.prog gamB4 [] (resh Try.prog [] Try.f30.results.toList R) fuel [kc Try.f30 [1,1,1,1,1,1,0,1,0,0],ki Try.f30 [1,1,1,1,1,1,0,1,0,0],.inBlock 2,kc Try.f30 [1,1,1,1,1,1,1]] (us 4 (AV.one (AC.ptr 4 0 0)::Uu::Uu::AV.one (AC.ptr 7 0 0)::Vv 19::AV.one (AC.con (Value.func (Fn.func 34) (List.toArray []) (List.toArray [])))::Uu::Uu::Ii x10::(us 56 [Zz]))) [(4,Blk.own 52 [Seg.ints IntKind.u8 16 x11]),(7,Blk.own 62 [Seg.ints IntKind.u8 176 (ks k)]),(19,Blk.vec [Col.ints IntKind.u8 x12]),(200002,Blk.rview [Col.ints IntKind.u8 p])]
theorem bMask.l2_succ (R : AV → Mem → Prop) (x3 : Int) (x5 k x4 x2 p : List Int) (fuel : Nat) (x6 : Int) (x7 : List Int) : bMask.l2 R x3 x5 k x4 x2 p (fuel + 1) x6 x7 = (((((ilt x6 (imin (add IntKind.i64 x3 16) (ofNat (llen x7)))) = true) → ((InB x6 (llen x7)) ∧ ((InB (sub IntKind.i64 x6 x3) 16) ∧ ((Low (nadd 0 (nat (sub IntKind.i64 x6 x3))) 16) ∧ ((InB x6 (llen x7)) ∧ (let y8 : Int := (bxor IntKind.u8 (lget x7 (nat x6)) (lget (enc (ks k) x4) (nadd 0 (nat (sub IntKind.i64 x6 x3))))); (let y9 : List Int := (lset x7 (nat x6) (bxor IntKind.u8 (lget x7 (nat x6)) (lget (enc (ks k) x4) (nadd 0 (nat (sub IntKind.i64 x6 x3)))))); (bMask.l2 R x3 x5 k x4 x2 p fuel (add IntKind.i64 x6 1) y9)))))))) ∧ (((ilt x6 (imin (add IntKind.i64 x3 16) (ofNat (llen x7)))) = false) → ((BL 16 x4) ∧ (bMask.l1 R k x2 p fuel (add IntKind.i64 x3 16) (up x4) x7))))) := by kernel_rfl
theorem bMask.l1_succ (R : AV → Mem → Prop) (k x2 p : List Int) (fuel : Nat) (x3 : Int) (x4 x5 : List Int) : bMask.l1 R k x2 p (fuel + 1) x3 x4 x5 = (((((ilt x3 (ofNat (llen x5))) = true) → ((Tbl x2) ∧ (((BL 176 (ks k)) ∧ (BL 16 x4)) ∧ (bMask.l2 R x3 x5 k x4 x2 p fuel x3 x5)))) ∧ (((ilt x3 (ofNat (llen x5))) = false) → (R (Vv 19) [(4,Blk.own 52 [Seg.ints IntKind.u8 16 x4]),(7,Blk.own 62 [Seg.ints IntKind.u8 176 (ks k)]),(10,Blk.own 65 [Seg.ints IntKind.u8 256 x2]),(19,Blk.vec [Col.ints IntKind.u8 x5]),(200002,Blk.rview [Col.ints IntKind.u8 p])])))) := by kernel_rfl
theorem bMask.l0_succ (R : AV → Mem → Prop) (s k y0 p : List Int) (fuel : Nat) (x1 : Int) (x2 : List Int) : bMask.l0 R s k y0 p (fuel + 1) x1 x2 = (((((ilt x1 256) = true) → ((Byte (conv IntKind.u8 x1)) ∧ ((InB x1 256) ∧ ((Low (nadd 0 (nat x1)) 256) ∧ (bMask.l0 R s k y0 p fuel (add IntKind.i64 x1 1) (lset x2 (nadd 0 (nat x1)) (fsub (conv IntKind.u8 x1)))))))) ∧ (((ilt x1 256) = false) → (bMask.l1 R k x2 p fuel 0 s y0)))) := by kernel_rfl
theorem bMask.l4_succ (R : AV → Mem → Prop) (x10 : Int) (x12 k x11 p : List Int) (fuel : Nat) (x13 : Int) (x14 : List Int) : bMask.l4 R x10 x12 k x11 p (fuel + 1) x13 x14 = (((((ilt x13 (imin (add IntKind.i64 x10 16) (ofNat (llen x14)))) = true) → ((InB x13 (llen x14)) ∧ ((InB (sub IntKind.i64 x13 x10) 16) ∧ ((Low (nadd 0 (nat (sub IntKind.i64 x13 x10))) 16) ∧ ((InB x13 (llen x14)) ∧ (let y15 : Int := (bxor IntKind.u8 (lget x14 (nat x13)) (lget (enc (ks k) x11) (nadd 0 (nat (sub IntKind.i64 x13 x10))))); (let y16 : List Int := (lset x14 (nat x13) (bxor IntKind.u8 (lget x14 (nat x13)) (lget (enc (ks k) x11) (nadd 0 (nat (sub IntKind.i64 x13 x10)))))); (bMask.l4 R x10 x12 k x11 p fuel (add IntKind.i64 x13 1) y16)))))))) ∧ (((ilt x13 (imin (add IntKind.i64 x10 16) (ofNat (llen x14)))) = false) → ((BL 16 x11) ∧ (bMask.l3 R k p fuel (add IntKind.i64 x10 16) (up x11) x14))))) := by kernel_rfl
theorem bMask.l3_succ (R : AV → Mem → Prop) (k p : List Int) (fuel : Nat) (x10 : Int) (x11 x12 : List Int) : bMask.l3 R k p (fuel + 1) x10 x11 x12 = (((((ilt x10 (ofNat (llen x12))) = true) → (((BL 176 (ks k)) ∧ (BL 16 x11)) ∧ (bMask.l4 R x10 x12 k x11 p fuel x10 x12))) ∧ (((ilt x10 (ofNat (llen x12))) = false) → (R (Vv 19) [(4,Blk.own 52 [Seg.ints IntKind.u8 16 x11]),(7,Blk.own 62 [Seg.ints IntKind.u8 176 (ks k)]),(19,Blk.vec [Col.ints IntKind.u8 x12]),(200002,Blk.rview [Col.ints IntKind.u8 p])])))) := by kernel_rfl
theorem bMask_vc (R : AV → Mem → Prop) (fuel : Nat) (k : List Int) (s : List Int) (p : List Int) : callsx Try.prog gamB4 [] Try.f30 (fuel + 1) [.agg [.ints .u8 16 k], .agg [.ints .u8 16 s], .one (.vec 200002)] [(200002, .rview [.ints .u8 p])] R = (((Go.Blk.BL 16 k) ∧ ((Mk (ofNat (llen p)) (ofNat (llen p)) 1) ∧ (let y0 : List Int := (lput (lzeros (nat (ofNat (llen p)))) 0 (lsub p 0 (nmin (llen p) (llen (lzeros (nat (ofNat (llen p)))))))); ((((igt (ofNat (llen p)) 32) = true) → (bMask.l0 R s k y0 p fuel 0 (lzeros 256))) ∧ (((igt (ofNat (llen p)) 32) = false) → (bMask.l3 R k p fuel 0 s y0))))))) := by kernel_rfl
theorem bStream_vc (R : AV → Mem → Prop) (fuel : Nat) (k : List Int) (s : List Int) (n : Int) : callsx Try.prog gamB6 [] Try.f23 (fuel + 1) [.agg [.ints .u8 16 k], .agg [.ints .u8 16 s], .one (.int .i64 n)] [] R = (((((ilt n 0) = false) → ((((igt n 65536) = true) → (R (AV.one (AC.con (Value.slice (Option.none) 0 0))) [(3, Blk.own 52 [(Seg.ints IntKind.u8 16 k)]), (4, Blk.own 52 [(Seg.ints IntKind.u8 16 s)])])) ∧ (((igt n 65536) = false) → ((Mk n n 1) ∧ ((((Go.Blk.BL 16 k) ∧ (Go.Blk.BL 16 s)) ∧ ((Short (lzeros (nat n))) ∧ (Bs (lzeros (nat n))))) ∧ (R (AV.one (AC.vec 17)) [(3, Blk.own 52 [(Seg.ints IntKind.u8 16 k)]), (4, Blk.own 52 [(Seg.ints IntKind.u8 16 s)]), (16, Blk.vec [(Col.ints IntKind.u8 (lzeros (nat n)))]), (17, Blk.vec [(Col.ints IntKind.u8 (Go.Blk.mask (Go.Blk.ks k) s (lzeros (nat n))))])])))))) ∧ (((ilt n 0) = true) → (R (AV.one (AC.con (Value.slice (Option.none) 0 0))) [(3, Blk.own 52 [(Seg.ints IntKind.u8 16 k)]), (4, Blk.own 52 [(Seg.ints IntKind.u8 16 s)])])))) := by kernel_rfl
theorem rStream_vc (R : AV → Mem → Prop) (fuel : Nat) (k : List Int) (s : List Int) (n : Int) : callsx Try.prog gamB6 [] Try.f25 (fuel + 1) [.agg [.ints .u8 16 k], .agg [.ints .u8 16 s], .one (.int .i64 n)] [] R = (((((ilt n 0) = false) → ((((igt n 65536) = true) → (R (AV.one (AC.con (Value.slice (Option.none) 0 0))) [(3, Blk.own 52 [(Seg.ints IntKind.u8 16 k)]), (4, Blk.own 52 [(Seg.ints IntKind.u8 16 s)])])) ∧ (((igt n 65536) = false) → ((Mk n n 1) ∧ ((((Go.Blk.BL 16 k) ∧ (Go.Blk.BL 16 s)) ∧ ((Short (lzeros (nat n))) ∧ (Bs (lzeros (nat n))))) ∧ (R (AV.one (AC.vec 17)) [(3, Blk.own 52 [(Seg.ints IntKind.u8 16 k)]), (4, Blk.own 52 [(Seg.ints IntKind.u8 16 s)]), (16, Blk.vec [(Col.ints IntKind.u8 (lzeros (nat n)))]), (17, Blk.vec [(Col.ints IntKind.u8 (Go.Blk.mask (Go.Blk.ks k) s (lzeros (nat n))))])])))))) ∧ (((ilt n 0) = true) → (R (AV.one (AC.con (Value.slice (Option.none) 0 0))) [(3, Blk.own 52 [(Seg.ints IntKind.u8 16 k)]), (4, Blk.own 52 [(Seg.ints IntKind.u8 16 s)])])))) := by kernel_rfl
end Go.Proofs.Ytacnldmmacjpoaa.G
namespace Go.Blk
open Go.Sx Go.Fld
theorem qx_bl {b k : List Int} (hb : BL 16 b) (hk : BL 16 k) : BL 16 (qx b k) := BL.tab fun i _ => byte_xor (hb.get i) (hk.get i)
theorem qe_sub {b : List Int} : BL 16 (qe fsub b) := BL.tab fun i _ => byte_sub
theorem qt_bl {n : Nat} {b : List Int} (hb : BL 16 b) : BL 16 (qt n b) := BL.tab fun i _ => hb.get _
theorem lsub_bl {w : List Int} {n : Nat} (hw : BL n w) {o z : Nat} (h : o + z ≤ n) : BL z (lsub w o z) := ⟨lsub_len _ _ _ (by rw [hw.len]; exact h), fun x hx => hw.all x (List.mem_of_mem_drop (List.mem_of_mem_take hx))⟩
theorem rk_bl {w : List Int} (hw : BL 176 w) {i : Nat} (hi : i < 11) : BL 16 (rk w i) := lsub_bl hw (by omega)
theorem mixN_byte {c f : List Int} (hf : ∀ x ∈ natL f, x < 256) : ∀ x ∈ fmix c f, Byte x := by
 have hg : ∀ j, (natL f).getD j 0 < 256 := fun j => by
  rw [List.getD_eq_getElem?_getD]
  cases hq : (natL f)[j]? with
  | none => simp
  | some x => exact hf x (List.mem_of_getElem? hq)
 have ml_lt : ∀ (d r i s : Nat), s < 256 → ml (natL c) (natL f) r d i s < 256 := by
  intro d
  induction d with
  | zero => intro r i s hs; exact hs
  | succ d ih => intro r i s hs; exact ih r (i + 1) _ (xor_lt hs (gm_lt (hg _)))
 have m1 : ∀ r, mix1 (natL c) (natL f) r < 256 := fun r => ml_lt 4 r 0 0 (by decide)
 intro x hx
 obtain ⟨n, hn, rfl⟩ := List.mem_map.1 hx
 simp only [mixN, List.mem_cons, List.not_mem_nil, or_false] at hn
 rcases hn with rfl | rfl | rfl | rfl <;> exact Byte.of (m1 _)
theorem fmix_bl {c f : List Int} (hf : ∀ x ∈ natL f, x < 256) : BL 4 (fmix c f) := ⟨rfl, mixN_byte hf⟩
theorem qc_bl {f b : List Int} (hf : ∀ x ∈ natL f, x < 256) : BL 16 (qc f b) := BL.tab fun i _ => (fmix_bl hf).get _
theorem there : ∀ x ∈ natL [2, 3, 1, 1], x < 256 := by decide
end Go.Blk
namespace Go.Proofs.Ytacnldmmacjpoaa.G
open Go Go.Sx Go.Fld Go.Blk
theorem encN_bl {w : List Int} (hw : BL 176 w) : ∀ (n i : Nat) {x : List Int}, n + i = 11 → BL 16 x → BL 16 (encN w n i x)
 | 0, _, _, _, h => h
 | n + 1, i, x, hn, h => by
  refine encN_bl hw n (i + 1) (by omega) (qx_bl ?_ (rk_bl hw (by omega)))
  split
  ·exact qc_bl there
  ·exact qt_bl qe_sub
theorem enc_bl {w b : List Int} (hw : BL 176 w) (hb : BL 16 b) : BL 16 (enc w b) := encN_bl hw 10 1 rfl (qx_bl hb (rk_bl hw (by decide)))
theorem rk_nat (w : List Int) (i : Nat) : lsub w (nadd 0 (nmul (nat (i : Int)) 16)) 16 = rk w i := by
 simp only [nadd_def, nmul_def, nat_cast, rk]; congr 1; omega
theorem encS_run {R : AV → Mem → Prop} {w r : List Int} (hw : BL 176 w) (h : ∀ σ, R (.agg [.ints .u8 16 r]) σ) : ∀ (n i : Nat) (x : List Int), n + i = 11 → 1 ≤ i → BL 16 x → encN w n i x = r → encS.l0 R w (n + 1) (i : Int) x
 | 0, i, x, hn, h1, hx, e => by
  rw [encS.l0_succ]
  refine ⟨fun q => ?_, fun _ => ?_⟩
  ·rw [ile_true] at q; omega
  ·rw [show x = r from e]; exact h _
 | n + 1, i, x, hn, h1, hx, e => by
  rw [encS.l0_succ]
  have hk := rk_bl hw (i := i) (by omega)
  have hI : InB (i : Int) 11 := ⟨by omega, by omega⟩
  have hF : Fits (nadd (nadd 0 (nmul (nat (i : Int)) 16)) 16) 176 := ⟨by simp only [nadd_def, nmul_def, nat_cast]; omega⟩
  rw [rk_nat, add1_i64 (by omega)]
  refine ⟨fun _ => ⟨hx, ⟨qe_sub, by decide, by decide⟩, fun q => ⟨qt_bl qe_sub, hI, hF, ⟨qc_bl there, hk⟩, ?_⟩, fun q => ⟨hI, hF, ⟨qt_bl qe_sub, hk⟩, ?_⟩⟩, fun q => ?_⟩
  ·rw [ilt_true] at q
   exact encS_run hw h n (i + 1) _ (by omega) (by omega) (qx_bl (qc_bl there) hk) (by rw [← e]; show _ = encN w n (i + 1) (qx (if i < 10 then _ else _) _); rw [if_pos (by omega)])
  ·rw [ilt_false] at q
   exact encS_run hw h n (i + 1) _ (by omega) (by omega) (qx_bl (qt_bl qe_sub) hk) (by rw [← e]; show _ = encN w n (i + 1) (qx (if i < 10 then _ else _) _); rw [if_neg (by omega)])
  ·rw [ile_false] at q; omega
theorem encT_run {R : AV → Mem → Prop} {w r t : List Int} (ht : Tbl t) (hw : BL 176 w) (h : ∀ σ, R (.agg [.ints .u8 16 r]) σ) : ∀ (n i : Nat) (x : List Int), n + i = 11 → 1 ≤ i → BL 16 x → encN w n i x = r → encT.l0 R w t (n + 1) (i : Int) x
 | 0, i, x, hn, h1, hx, e => by
  rw [encT.l0_succ]
  refine ⟨fun q => ?_, fun _ => ?_⟩
  ·rw [ile_true] at q; omega
  ·rw [show x = r from e]; exact h _
 | n + 1, i, x, hn, h1, hx, e => by
  rw [encT.l0_succ]
  have hk := rk_bl hw (i := i) (by omega)
  have hI : InB (i : Int) 11 := ⟨by omega, by omega⟩
  have hF : Fits (nadd (nadd 0 (nmul (nat (i : Int)) 16)) 16) 176 := ⟨by simp only [nadd_def, nmul_def, nat_cast]; omega⟩
  rw [rk_nat, add1_i64 (by omega)]
  refine ⟨fun _ => ⟨ht, hx, ⟨qe_sub, by decide, by decide⟩, fun q => ⟨qt_bl qe_sub, hI, hF, ⟨qc_bl there, hk⟩, ?_⟩, fun q => ⟨hI, hF, ⟨qt_bl qe_sub, hk⟩, ?_⟩⟩, fun q => ?_⟩
  ·rw [ilt_true] at q
   exact encT_run ht hw h n (i + 1) _ (by omega) (by omega) (qx_bl (qc_bl there) hk) (by rw [← e]; show _ = encN w n (i + 1) (qx (if i < 10 then _ else _) _); rw [if_pos (by omega)])
  ·rw [ilt_false] at q
   exact encT_run ht hw h n (i + 1) _ (by omega) (by omega) (qx_bl (qt_bl qe_sub) hk) (by rw [← e]; show _ = encN w n (i + 1) (qx (if i < 10 then _ else _) _); rw [if_neg (by omega)])
  ·rw [ile_false] at q; omega
theorem good_encrypted : Sx.Good Try.prog 36 encryptedS := by
 refine Sx.Good.reads (D := []) mixed gamB2_good Try.func36 (by kernel_rfl) rfl fun d args σ K h => ?_
 simp only [encryptedS] at h
 split at h <;> try exact h.elim
 rename_i w b x
 unfold fnS at h
 have h0 : ∀ {w b : List Int}, BL 176 w → BL 16 b → BL 16 (rk w 0) := fun hw _ => rk_bl hw (by decide)
 split at h
 ·rename_i g hg
  obtain rfl := conFn_eq hg
  split at h <;> try exact h.elim
  rename_i hq
  obtain rfl := beq_nat hq
  obtain ⟨⟨hw, hb⟩, hK⟩ := h
  refine ⟨_, [], .plain (plain_ints _ _ _) (.plain (plain_ints _ _ _) (.plain (plain_con _) (.nil _))), by simp, 11 + 1, ?_⟩
  rw [encS_vc]
  exact ⟨⟨by decide, by decide⟩, ⟨by decide⟩, ⟨hb, h0 hw hb⟩, encS_run hw (fun σ' => res_arr rfl hK) 10 1 _ rfl (by decide) (qx_bl hb (h0 hw hb)) rfl⟩
 ·split at h <;> try exact h.elim
  rename_i n hn
  obtain rfl := isTold_eq hn
  split at h <;> try exact h.elim
  rename_i bk hbk
  split at h <;> try exact h.elim
  rename_i t ht
  obtain ⟨hT, ⟨hw, hb⟩, hK⟩ := h
  refine ⟨[.agg [.ints .u8 176 w], .agg [.ints .u8 16 b], .one (.clo 35 200002 0 0)], [(200002, .view [.ints .u8 256 t])], .plain (plain_ints _ _ _) (.plain (plain_ints _ _ _) (ht ▸ .clo hbk (by rw [ht]; intro m; rfl) (.nil _))), by simp, 11 + 1, ?_⟩
  rw [encT_vc]
  exact ⟨⟨by decide, by decide⟩, ⟨by decide⟩, ⟨hb, h0 hw hb⟩, encT_run hT hw (fun σ' => res_arr rfl hK) 10 1 _ rfl (by decide) (qx_bl hb (h0 hw hb)) rfl⟩
theorem qt1_at {b : List Int} (j : Nat) (hj : j < 16) : lget (qt 1 (qe fsub b)) j = fsub (lget b ((j + 4 * (j % 4)) % 16)) := by
 rw [qt, tab_lget _ hj, qe, tab_lget _ (by omega)]
 congr 2; omega
theorem rWith_run {R : AV → Mem → Prop} {w r : List Int} (hw : BL 176 w) (h : ∀ σ, R (.agg [.ints .u8 16 r]) σ) : ∀ (n i : Nat) (x : List Int), n + i = 11 → 1 ≤ i → BL 16 x → encN w n i x = r → rWith.l0 R w (18 * n + 1) (i : Int) x
 | 0, i, x, hn, h1, hx, e => by
  rw [rWith.l0_succ]
  refine ⟨fun q => ?_, fun _ => ?_⟩
  ·rw [ile_true] at q; omega
  ·rw [show x = r from e]; exact h _
 | n + 1, i, x, hn, h1, hx, e => by
  rw [rWith.l0_succ]
  have hk := rk_bl hw (i := i) (by omega)
  have hI : InB (i : Int) 11 := ⟨by omega, by omega⟩
  refine ⟨fun _ => ?_, fun q => ?_⟩
  ·have key := loop_n (fun f j s => rWith.l1 R (i : Int) w x f j s) 16 (fun j => upto 16 j (lget (qt 1 (qe fsub x))) fun _ => 0) 1 (18 * n + 1 + 1)
    (fun f j hj hf => by
     rw [rWith.l1_succ]
     refine ⟨fun _ => ?_, fun q => ?_⟩
     ·have e1 : rem (j : Int) 4 = ((j % 4 : Nat) : Int) := remN (b := 4)
      have e2 : mul .i64 4 ((j % 4 : Nat) : Int) = ((4 * (j % 4) : Nat) : Int) := mulN_i64 (a := 4) (by omega)
      have e3 : add .i64 (j : Int) ((4 * (j % 4) : Nat) : Int) = ((j + 4 * (j % 4) : Nat) : Int) := addN_i64 (by omega)
      have e4 : rem ((j + 4 * (j % 4) : Nat) : Int) 16 = (((j + 4 * (j % 4)) % 16 : Nat) : Int) := remN (b := 16)
      obtain ⟨m, hm, em⟩ := (hx.get ((j + 4 * (j % 4)) % 16)).nat
      have e5 : sget boxC m = lget (qt 1 (qe fsub x)) j := by rw [qt1_at j hj, em, box_at m hm]
      simp only [e1, e2, e3, e4, nat_cast, nadd_def, Nat.zero_add, em, e5, InB_iff, Low_iff, NeZ_iff]
      refine ⟨by decide, by decide, by omega, by omega, by omega, by omega, hj, ?_⟩
      rw [add1_i64 (by omega), upto_lset rfl]
      exact hf
     ·rw [ilt_false] at q; omega)
    (by
     rw [rWith.l1_succ]
     refine ⟨fun q => ?_, fun _ => ?_⟩
     ·rw [ilt_true] at q; omega
     ·have ey : upto 16 16 (lget (qt 1 (qe fsub x))) (fun _ => 0) = qt 1 (qe fsub x) := by rw [upto_done]; exact (eq_tab (tab_len _ _)).symm
      simp only [ey, add1_i64 (show i < 9223372036854775807 by omega), nat_cast]
      refine ⟨fun q => ⟨qt_bl qe_sub, ⟨⟨qc_bl there, hw⟩, hI⟩, ?_⟩, fun q => ⟨⟨⟨qt_bl qe_sub, hw⟩, hI⟩, ?_⟩⟩
      ·rw [ilt_true] at q
       exact rWith_run hw h n (i + 1) _ (by omega) (by omega) (qx_bl (qc_bl there) hk) (by rw [← e]; show _ = encN w n (i + 1) (qx (if i < 10 then _ else _) _); rw [if_pos (by omega)])
      ·rw [ilt_false] at q
       exact rWith_run hw h n (i + 1) _ (by omega) (by omega) (qx_bl (qt_bl qe_sub) hk) (by rw [← e]; show _ = encN w n (i + 1) (qx (if i < 10 then _ else _) _); rw [if_neg (by omega)])) 0 (Nat.zero_le _)
   rw [upto_zero, ← lzeros_tab] at key
   exact key
  ·rw [ile_false] at q; omega
theorem good_rwith : Sx.Good Try.prog 39 encS := by
 refine Sx.Good.pure (D := []) mixed gamB3_good Try.func39 (by kernel_rfl) rfl fun d args σ K h => ?_
 simp only [Sx.encS] at h
 split at h <;> try exact h.elim
 rename_i w b
 obtain ⟨⟨hw, hb⟩, hK⟩ := h
 refine ⟨by simp [plain_ints], _, plain_ints _ _ _, hK, 181 + 1, ?_⟩
 rw [rWith_vc]
 exact ⟨⟨⟨hb, hw⟩, ⟨by decide, by decide⟩⟩, rWith_run hw (fun σ' => rfl) 10 1 _ rfl (by decide) (qx_bl hb (rk_bl hw (by decide))) rfl⟩
theorem gamB4_good : GoodG Try.prog gamB4 :=
 (gamB3_good.ext good_encrypted ⟨_, Try.func36, by decide, by kernel_rfl⟩).ext good_rwith ⟨_, Try.func39, by decide, by kernel_rfl⟩
end Go.Proofs.Ytacnldmmacjpoaa.G
namespace Go.Blk
open Go.Sx Go.Fld
theorem natL_intL (l : List Nat) : natL (intL l) = l := by
 simp only [natL, intL, List.map_map]
 conv => rhs; rw [← List.map_id l]
 exact List.map_congr_left fun x _ => rfl
theorem col_nat {b : List Int} (hb : BL 4 b) : ∃ x y z w : Nat, L4 x y z w ∧ natL b = [x, y, z, w] ∧ b = intL [x, y, z, w] := by
 obtain ⟨x, hx, ex⟩ := (hb.get 0).nat
 obtain ⟨y, hy, ey⟩ := (hb.get 1).nat
 obtain ⟨z, hz, ez⟩ := (hb.get 2).nat
 obtain ⟨w, hw, ew⟩ := (hb.get 3).nat
 have e : b = intL [x, y, z, w] := by
  rw [hb.eq]
  simp only [Sx.tab, List.range_succ, List.range_zero, List.nil_append, List.map_cons, List.map_nil, List.cons_append, ex, ey, ez, ew]; rfl
 exact ⟨x, y, z, w, ⟨hx, hy, hz, hw⟩, by rw [e, natL_intL], e⟩
end Go.Blk
namespace Go.Proofs.Ytacnldmmacjpoaa.G
open Go Go.Sx Go.Fld Go.Blk
theorem gamB5_good : GoodG Try.prog gamB5 := gamB4_good
set_option maxRecDepth 100000
def rMask.l0 (R : AV → Mem → Prop) (k p : List Int) (fuel : Nat) (x0 : Int) (x1 x2 x3 : List Int) : Prop := run Try.prog gamB4 [⟨8,[.ints .u8],true,false⟩] (resh Try.prog [⟨8,[.ints .u8],true,false⟩] Try.f31.results.toList R) fuel [kc Try.f31 [1,1,1,1,0,1,0,0],ki Try.f31 [1,1,1,1,0,1,0,0],.inBlock 0,kc Try.f31 [1,1,1,1,1]] (Uu::Uu::Vv 200002::Uu::AV.one (AC.ptr 4 0 0)::Uu::Uu::AV.one (AC.ptr 7 0 0)::Vv 100008::AV.one (AC.ptr 9 0 0)::Ii x0::(us 31 [Zz])) [(4,Blk.own 52 [Seg.ints IntKind.u8 16 x1]),(7,Blk.own 68 [Seg.ints IntKind.u8 176 (ks k)]),(9,Blk.own 52 [Seg.ints IntKind.u8 16 x2]),(100008,Blk.vec [Col.ints IntKind.u8 x3]),(200002,Blk.rview [Col.ints IntKind.u8 p])]
theorem rMask.l0_succ (R : AV → Mem → Prop) (k p : List Int) (fuel : Nat) (x0 : Int) (x1 x2 x3 : List Int) : rMask.l0 R k p (fuel + 1) x0 x1 x2 x3 = (((((ilt x0 (ofNat (llen p))) = true) → ((NeZ 16) ∧ ((((ieq (rem x0 16) 0) = true) → (((BL 176 (ks k)) ∧ (BL 16 x1)) ∧ ((BL 16 x1) ∧ ((InB x0 (llen p)) ∧ ((NeZ 16) ∧ ((InB (rem x0 16) 16) ∧ (((Low (nadd 0 (nat (rem x0 16))) 16) ∧ ((Room (nadd (llen x3) (llen [(bxor IntKind.u8 (lget p (nat x0)) (lget (enc (ks k) x1) (nadd 0 (nat (rem x0 16)))))])) 1) ∧ (let y4 : List Int := (lcat x3 [(bxor IntKind.u8 (lget p (nat x0)) (lget (enc (ks k) x1) (nadd 0 (nat (rem x0 16)))))]); (rMask.l0 R k p fuel (add IntKind.i64 x0 1) (up x1) (enc (ks k) x1) y4)))) ∧ ((Low (nadd 0 (nat (rem x0 16))) 16) ∧ ((Room (nadd (llen x3) (llen [(bxor IntKind.u8 (lget p (nat x0)) (lget (enc (ks k) x1) (nadd 0 (nat (rem x0 16)))))])) 1) ∧ (let y4 : List Int := (lcat x3 [(bxor IntKind.u8 (lget p (nat x0)) (lget (enc (ks k) x1) (nadd 0 (nat (rem x0 16)))))]); (rMask.l0 R k p fuel (add IntKind.i64 x0 1) (up x1) (enc (ks k) x1) y4))))))))))) ∧ (((ieq (rem x0 16) 0) = false) → ((InB x0 (llen p)) ∧ ((NeZ 16) ∧ ((InB (rem x0 16) 16) ∧ (((Low (nadd 0 (nat (rem x0 16))) 16) ∧ ((Room (nadd (llen x3) (llen [(bxor IntKind.u8 (lget p (nat x0)) (lget x2 (nadd 0 (nat (rem x0 16)))))])) 1) ∧ (rMask.l0 R k p fuel (add IntKind.i64 x0 1) x1 x2 (lcat x3 [(bxor IntKind.u8 (lget p (nat x0)) (lget x2 (nadd 0 (nat (rem x0 16)))))])))) ∧ ((Low (nadd 0 (nat (rem x0 16))) 16) ∧ ((Room (nadd (llen x3) (llen [(bxor IntKind.u8 (lget p (nat x0)) (lget x2 (nadd 0 (nat (rem x0 16)))))])) 1) ∧ (rMask.l0 R k p fuel (add IntKind.i64 x0 1) x1 x2 (lcat x3 [(bxor IntKind.u8 (lget p (nat x0)) (lget x2 (nadd 0 (nat (rem x0 16)))))])))))))))))) ∧ (((ilt x0 (ofNat (llen p))) = false) → (R (Vv 100008) [(4,Blk.own 52 [Seg.ints IntKind.u8 16 x1]),(7,Blk.own 68 [Seg.ints IntKind.u8 176 (ks k)]),(9,Blk.own 52 [Seg.ints IntKind.u8 16 x2]),(100008,Blk.vec [Col.ints IntKind.u8 x3]),(200002,Blk.rview [Col.ints IntKind.u8 p])])))) := by kernel_rfl
theorem rMask_vc (R : AV → Mem → Prop) (fuel : Nat) (k : List Int) (s : List Int) (p : List Int) : callsx Try.prog gamB4 [⟨8, [.ints .u8], true, false⟩] Try.f31 (fuel + 1) [.agg [.ints .u8 16 k], .agg [.ints .u8 16 s], .one (.vec 200002)] [(200002, .rview [.ints .u8 p])] R = (((Go.Blk.BL 16 k) ∧ ((Mk 0 (ofNat (llen p)) 1) ∧ (rMask.l0 R k p fuel 0 s (lzeros 16) (lzeros 0))))) := by kernel_rfl
end Go.Proofs.Ytacnldmmacjpoaa.G
namespace Go.Blk
open Go.Sx Go.Fld
theorem BL.set {n : Nat} {l : List Int} (h : BL n l) (i : Nat) {v : Int} (hv : Byte v) : BL n (lset l i v) := ⟨by simp [lset, h.len], fun x hx => by
 rcases List.mem_or_eq_of_mem_set hx with hx | rfl
 ·exact h.all x hx
 ·exact hv⟩
theorem byte_inc {a : Int} (ha : Byte a) : Byte (add .u8 a 1) := by rw [add_u8]; exact ⟨by omega, by omega⟩
theorem upN_bl : ∀ (i : Nat) {b : List Int}, BL 16 b → BL 16 (upN i b)
 | 0, b, h => h
 | i + 1, b, h => by
  unfold upN
  split
  ·exact upN_bl i (h.set i (byte_inc (h.get i)))
  ·exact h.set i (byte_inc (h.get i))
theorem up_bl {b : List Int} (h : BL 16 b) : BL 16 (up b) := upN_bl 16 h
theorem ups_bl {b : List Int} (h : BL 16 b) : ∀ n, BL 16 (ups b n)
 | 0 => h
 | n + 1 => up_bl (ups_bl h n)
theorem mask_len (w s p : List Int) : (mask w s p).length = p.length := tab_len _ _
theorem BL.bs {n : Nat} {l : List Int} (h : BL n l) : Bs l := ⟨fun x hx => ⟨(h.all x hx).lo, (h.all x hx).hi⟩⟩
theorem bs_bl {l : List Int} (h : Bs l) : BL l.length l := ⟨rfl, fun x hx => ⟨(h.all x hx).1, (h.all x hx).2⟩⟩
end Go.Blk
namespace Go.Proofs.Ytacnldmmacjpoaa.G
open Go Go.Sx Go.Fld Go.Blk
theorem strB_byte {w s : List Int} (hw : BL 176 w) (hs : BL 16 s) (i : Nat) : Byte (strB w s i) := (enc_bl hw (ups_bl hs _)).get _
theorem mask_bs {w s p : List Int} (hw : BL 176 w) (hs : BL 16 s) (hp : Bs p) : Bs (mask w s p) := (BL.tab fun i hi => byte_xor ((bs_bl hp).get i) (strB_byte hw hs i)).bs
theorem imin_nat (a b : Nat) : imin (a : Int) (b : Int) = ((min a b : Nat) : Int) := by
 unfold imin
 split
 ·omega
 ·omega
section
variable {R : AV → Mem → Prop} {k s p : List Int}
theorem mask_l2 (hk : BL 16 k) (hs : BL 16 s) {m : Nat} (hm : 16 * m < p.length) (hp : p.length ≤ 140737488355328) {g : Nat} {t y : List Int} (h : bMask.l1 R k t p g ((16 * (m + 1) : Nat) : Int) (ups s (m + 1)) (upto p.length (16 * (m + 1)) (fun i => bxor .u8 (lget p i) (strB (ks k) s i)) (lget p))) :
  ∃ g', bMask.l2 R ((16 * m : Nat) : Int) y k (ups s m) t p g' ((16 * m : Nat) : Int) (upto p.length (16 * m) (fun i => bxor .u8 (lget p i) (strB (ks k) s i)) (lget p)) := by
 have e1 : add .i64 ((16 * m : Nat) : Int) 16 = ((16 * (m + 1) : Nat) : Int) := by rw [add_i64 (by omega) (by omega)]; omega
 refine loop_exfrom (fun f i x => bMask.l2 R ((16 * m : Nat) : Int) y k (ups s m) t p f i x) (16 * m) (min (16 * (m + 1)) p.length) (fun i => upto p.length i (fun i => bxor .u8 (lget p i) (strB (ks k) s i)) (lget p)) (fun g i hl hi hg => ⟨g + 1, ?_⟩) ⟨g + 1, ?_⟩ (16 * m) (Nat.le_refl _) (by omega)
 ·rw [bMask.l2_succ]
  have e2 : sub .i64 (i : Int) ((16 * m : Nat) : Int) = ((i - 16 * m : Nat) : Int) := subN_i64 (by omega) (by omega)
  refine ⟨fun _ => ?_, fun q => ?_⟩
  ·have e3 : lget (enc (ks k) (ups s m)) (i - 16 * m) = strB (ks k) s i := by rw [strB, show i / 16 = m by omega, show i % 16 = i - 16 * m by omega]
   simp only [e2, nat_cast, nadd_def, Nat.zero_add, llen_def, upto_len, InB_iff, Low_iff, e3]
   rw [upto_hi (Nat.le_refl _) (by omega), upto_lset rfl, add1_i64 (by omega)]
   exact ⟨by omega, by omega, by omega, by omega, hg⟩
  ·rw [e1, ofNat_def, llen_def, upto_len, imin_nat, ilt_false] at q; omega
 ·rw [bMask.l2_succ]
  refine ⟨fun q => ?_, fun _ => ⟨ups_bl hs m, ?_⟩⟩
  ·rw [e1, ofNat_def, llen_def, upto_len, imin_nat, ilt_true] at q; omega
  ·rw [e1]
   have e4 : upto p.length (min (16 * (m + 1)) p.length) (fun i => bxor .u8 (lget p i) (strB (ks k) s i)) (lget p) = upto p.length (16 * (m + 1)) (fun i => bxor .u8 (lget p i) (strB (ks k) s i)) (lget p) := by
    refine tab_ext fun j hj => ?_
    by_cases q : j < 16 * (m + 1)
    ·rw [if_pos q, if_pos (by omega)]
    ·rw [if_neg q, if_neg (by omega)]
   rw [e4]; exact h
theorem mask_l4 (hk : BL 16 k) (hs : BL 16 s) {m : Nat} (hm : 16 * m < p.length) (hp : p.length ≤ 140737488355328) {g : Nat} {y : List Int} (h : bMask.l3 R k p g ((16 * (m + 1) : Nat) : Int) (ups s (m + 1)) (upto p.length (16 * (m + 1)) (fun i => bxor .u8 (lget p i) (strB (ks k) s i)) (lget p))) :
  ∃ g', bMask.l4 R ((16 * m : Nat) : Int) y k (ups s m) p g' ((16 * m : Nat) : Int) (upto p.length (16 * m) (fun i => bxor .u8 (lget p i) (strB (ks k) s i)) (lget p)) := by
 have e1 : add .i64 ((16 * m : Nat) : Int) 16 = ((16 * (m + 1) : Nat) : Int) := by rw [add_i64 (by omega) (by omega)]; omega
 refine loop_exfrom (fun f i x => bMask.l4 R ((16 * m : Nat) : Int) y k (ups s m) p f i x) (16 * m) (min (16 * (m + 1)) p.length) (fun i => upto p.length i (fun i => bxor .u8 (lget p i) (strB (ks k) s i)) (lget p)) (fun g i hl hi hg => ⟨g + 1, ?_⟩) ⟨g + 1, ?_⟩ (16 * m) (Nat.le_refl _) (by omega)
 ·rw [bMask.l4_succ]
  have e2 : sub .i64 (i : Int) ((16 * m : Nat) : Int) = ((i - 16 * m : Nat) : Int) := subN_i64 (by omega) (by omega)
  refine ⟨fun _ => ?_, fun q => ?_⟩
  ·have e3 : lget (enc (ks k) (ups s m)) (i - 16 * m) = strB (ks k) s i := by rw [strB, show i / 16 = m by omega, show i % 16 = i - 16 * m by omega]
   simp only [e2, nat_cast, nadd_def, Nat.zero_add, llen_def, upto_len, InB_iff, Low_iff, e3]
   rw [upto_hi (Nat.le_refl _) (by omega), upto_lset rfl, add1_i64 (by omega)]
   exact ⟨by omega, by omega, by omega, by omega, hg⟩
  ·rw [e1, ofNat_def, llen_def, upto_len, imin_nat, ilt_false] at q; omega
 ·rw [bMask.l4_succ]
  refine ⟨fun q => ?_, fun _ => ⟨ups_bl hs m, ?_⟩⟩
  ·rw [e1, ofNat_def, llen_def, upto_len, imin_nat, ilt_true] at q; omega
  ·rw [e1]
   have e4 : upto p.length (min (16 * (m + 1)) p.length) (fun i => bxor .u8 (lget p i) (strB (ks k) s i)) (lget p) = upto p.length (16 * (m + 1)) (fun i => bxor .u8 (lget p i) (strB (ks k) s i)) (lget p) := by
    refine tab_ext fun j hj => ?_
    by_cases q : j < 16 * (m + 1)
    ·rw [if_pos q, if_pos (by omega)]
    ·rw [if_neg q, if_neg (by omega)]
   rw [e4]; exact h
theorem mask_end {n m : Nat} (h : n ≤ m) {F G : Nat → Int} : upto n m F G = tab n F := tab_ext fun j hj => by rw [if_pos (by omega)]
theorem mask_l1 (hk : BL 16 k) (hs : BL 16 s) (hp : p.length ≤ 140737488355328) {t : List Int} (ht : Tbl t) (h : ∀ x σ, R (.one (.vec 19)) [(4, Blk.own 52 [(Seg.ints IntKind.u8 16 x)]), (7, Blk.own 62 [(Seg.ints IntKind.u8 176 (ks k))]), (10, Blk.own 65 [(Seg.ints IntKind.u8 256 t)]), (19, Blk.vec [(Col.ints IntKind.u8 (mask (ks k) s p))]), σ]) :
  ∃ g, bMask.l1 R k t p g 0 s p := by
 have key := loop_exby 16 (fun f i (x : List Int × List Int) => bMask.l1 R k t p f i x.1 x.2) ((p.length + 15) / 16) (fun m => (ups s m, upto p.length (16 * m) (fun i => bxor .u8 (lget p i) (strB (ks k) s i)) (lget p)))
  (fun g m hm hg => by
   obtain ⟨g', hg'⟩ := mask_l2 (y := upto p.length (16 * m) (fun i => bxor .u8 (lget p i) (strB (ks k) s i)) (lget p)) hk hs (by omega) hp hg
   refine ⟨g' + 1, ?_⟩
   rw [bMask.l1_succ]
   refine ⟨fun _ => ⟨ht, ⟨ks_bl hk, ups_bl hs m⟩, hg'⟩, fun q => ?_⟩
   rw [ofNat_def, llen_def, upto_len, ilt_false] at q; omega)
  ⟨1, by
   show bMask.l1 R k t p (0 + 1) _ _ _
   rw [bMask.l1_succ]
   refine ⟨fun q => ?_, fun _ => ?_⟩
   ·rw [ofNat_def, llen_def, upto_len, ilt_true] at q; omega
   ·rw [mask_end (by omega)]; exact h _ _⟩ 0 (Nat.zero_le _)
 simpa [ups, upto_zero, ← eq_tab (l := p) rfl] using key
theorem mask_l3 (hk : BL 16 k) (hs : BL 16 s) (hp : p.length ≤ 140737488355328) (h : ∀ x σ, R (.one (.vec 19)) [(4, Blk.own 52 [(Seg.ints IntKind.u8 16 x)]), (7, Blk.own 62 [(Seg.ints IntKind.u8 176 (ks k))]), (19, Blk.vec [(Col.ints IntKind.u8 (mask (ks k) s p))]), σ]) :
  ∃ g, bMask.l3 R k p g 0 s p := by
 have key := loop_exby 16 (fun f i (x : List Int × List Int) => bMask.l3 R k p f i x.1 x.2) ((p.length + 15) / 16) (fun m => (ups s m, upto p.length (16 * m) (fun i => bxor .u8 (lget p i) (strB (ks k) s i)) (lget p)))
  (fun g m hm hg => by
   obtain ⟨g', hg'⟩ := mask_l4 (y := upto p.length (16 * m) (fun i => bxor .u8 (lget p i) (strB (ks k) s i)) (lget p)) hk hs (by omega) hp hg
   refine ⟨g' + 1, ?_⟩
   rw [bMask.l3_succ]
   refine ⟨fun _ => ⟨⟨ks_bl hk, ups_bl hs m⟩, hg'⟩, fun q => ?_⟩
   rw [ofNat_def, llen_def, upto_len, ilt_false] at q; omega)
  ⟨1, by
   show bMask.l3 R k p (0 + 1) _ _ _
   rw [bMask.l3_succ]
   refine ⟨fun q => ?_, fun _ => ?_⟩
   ·rw [ofNat_def, llen_def, upto_len, ilt_true] at q; omega
   ·rw [mask_end (by omega)]; exact h _ _⟩ 0 (Nat.zero_le _)
 simpa [ups, upto_zero, ← eq_tab (l := p) rfl] using key
theorem mask_l0 (hk : BL 16 k) {g : Nat} {y0 : List Int} (h : bMask.l1 R k (tab 256 fun i => fsub (i : Int)) p g 0 s y0) : ∃ g', bMask.l0 R s k y0 p g' 0 (lzeros 256) := by
 have key := loop_ex (fun f i x => bMask.l0 R s k y0 p f i x) 256 (fun i => upto 256 i (fun i => fsub (i : Int)) fun _ => 0)
  (fun g i hi hg => ⟨g + 1, by
   rw [bMask.l0_succ]
   have e1 : conv .u8 (i : Int) = (i : Int) := by rw [conv_u8]; omega
   refine ⟨fun _ => ?_, fun q => ?_⟩
   ·simp only [e1, nat_cast, nadd_def, Nat.zero_add, InB_iff, Low_iff]
    rw [upto_lset rfl, add1_i64 (by omega)]
    exact ⟨Byte.of hi, by omega, hi, hg⟩
   ·rw [ilt_false] at q; omega⟩)
  ⟨g + 1, by
   rw [bMask.l0_succ]
   refine ⟨fun q => ?_, fun _ => ?_⟩
   ·rw [ilt_true] at q; omega
   ·rw [upto_done]; exact h⟩ 0 (Nat.zero_le _)
 rw [upto_zero, ← lzeros_tab] at key
 exact key
end
theorem good_mask : Sx.Good Try.prog 30 maskS := by
 refine Sx.Good.reads (D := []) mixed gamB4_good Try.func30 (by kernel_rfl) rfl fun d args σ K h => ?_
 simp only [maskS] at h
 split at h <;> try exact h.elim
 rename_i k s x
 obtain ⟨p, ⟨⟨⟨hk, hs⟩, hsh, hp⟩, hK⟩, hr⟩ := rdb_row h
 have hle := hsh.le
 refine ⟨[.agg [.ints .u8 16 k], .agg [.ints .u8 16 s], .one (.vec 200002)], [(200002, .rview [.ints .u8 p])], .plain (plain_ints _ _ _) (.plain (plain_ints _ _ _) (.row [.ints .u8] _ hr (by decide) (.nil _))), by simp, ?_⟩
 have hy : lput (lzeros (nat (ofNat (llen p)))) 0 (lsub p 0 (nmin (llen p) (llen (lzeros (nat (ofNat (llen p))))))) = p := by
  simp only [ofNat_def, nat_cast, llen_def, lzeros, List.length_replicate, nmin_def, Nat.min_self, lsub_all, lput, List.take_zero, List.nil_append, Nat.zero_add]
  rw [List.drop_of_length_le (by simp), List.append_nil]
 have hM : Mk (ofNat (llen p)) (ofNat (llen p)) 1 := by rw [Mk_iff, ofNat_def, llen_def]; omega
 by_cases q : 32 < p.length
 ·obtain ⟨g, hg⟩ := mask_l1 (R := Res d maskS.news σ K) hk hs hle (t := tab 256 fun i => fsub (i : Int)) ⟨tab_len _ _, fun i hi => tab_lget _ hi⟩ fun x σ' => res_vec rfl rfl hK
  obtain ⟨g', hg'⟩ := mask_l0 (s := s) hk hg
  refine ⟨g' + 1, ?_⟩
  rw [bMask_vc]
  refine ⟨hk, hM, ?_⟩
  show _ ∧ _
  rw [hy]
  refine ⟨fun _ => hg', fun q2 => ?_⟩
  rw [igt_false, ofNat_def, llen_def] at q2; omega
 ·obtain ⟨g, hg⟩ := mask_l3 (R := Res d maskS.news σ K) hk hs hle fun x σ' => res_vec rfl rfl hK
  refine ⟨g + 1, ?_⟩
  rw [bMask_vc]
  refine ⟨hk, hM, ?_⟩
  show _ ∧ _
  rw [hy]
  refine ⟨fun q2 => ?_, fun _ => hg⟩
  rw [igt_true, ofNat_def, llen_def] at q2; omega
theorem good_rmask : Sx.Good Try.prog 31 maskS := by
 refine Sx.Good.reads (D := [⟨8, [.ints .u8], true, false⟩]) mixed gamB4_good Try.func31 (by kernel_rfl) rfl fun d args σ K h => ?_
 simp only [maskS] at h
 split at h <;> try exact h.elim
 rename_i k s x
 obtain ⟨p, ⟨⟨⟨hk, hs⟩, hsh, hp⟩, hK⟩, hr⟩ := rdb_row h
 have hle := hsh.le
 have hw := ks_bl hk
 refine ⟨[.agg [.ints .u8 16 k], .agg [.ints .u8 16 s], .one (.vec 200002)], [(200002, .rview [.ints .u8 p])], .plain (plain_ints _ _ _) (.plain (plain_ints _ _ _) (.row [.ints .u8] _ hr (by decide) (.nil _))), by simp, ?_⟩
 have key := loop_ex (fun f i (x : List Int × List Int × List Int) => rMask.l0 (Res d maskS.news σ K) k p f i x.1 x.2.1 x.2.2) p.length
  (fun i => (ups s ((i + 15) / 16), if i = 0 then lzeros 16 else enc (ks k) (ups s ((i - 1) / 16)), tab i fun i => bxor .u8 (lget p i) (strB (ks k) s i)))
  (fun g i hi hg => ⟨g + 1, by
   rw [rMask.l0_succ]
   have e1 : rem (i : Int) 16 = ((i % 16 : Nat) : Int) := remN (b := 16)
   have hroom : ∀ v : Int, Room (nadd (llen (tab i fun i => bxor .u8 (lget p i) (strB (ks k) s i))) (llen [v])) 1 := fun v => room1 (by rw [tab_llen, nadd_def, llen_def]; simp; omega)
   have hI : InB (i : Int) (llen p) := ⟨by omega, by rw [llen_def]; omega⟩
   have hI2 : InB ((i % 16 : Nat) : Int) 16 := ⟨by omega, by omega⟩
   have hL : Low (i % 16) 16 := ⟨by omega⟩
   have hN : NeZ 16 := ⟨by decide⟩
   refine ⟨fun _ => ?_, fun q => ?_⟩
   ·rw [e1]
    simp only [nat_cast, nadd_def, Nat.zero_add, add1_i64 (show i < 9223372036854775807 by omega)]
    refine ⟨hN, fun q => ?_, fun q => ?_⟩
    ·rw [ieq_true] at q
     have e2 : lget (enc (ks k) (ups s ((i + 15) / 16))) (i % 16) = strB (ks k) s i := by rw [strB, show (i + 15) / 16 = i / 16 by omega]
     have fin : rMask.l0 (Res d maskS.news σ K) k p g ((i + 1 : Nat) : Int) (up (ups s ((i + 15) / 16))) (enc (ks k) (ups s ((i + 15) / 16))) (lcat (tab i fun i => bxor .u8 (lget p i) (strB (ks k) s i)) [bxor .u8 (lget p i) (lget (enc (ks k) (ups s ((i + 15) / 16))) (i % 16))]) := by
      rw [e2]
      have h1 : up (ups s ((i + 15) / 16)) = ups s ((i + 1 + 15) / 16) := by rw [show (i + 1 + 15) / 16 = (i + 15) / 16 + 1 by omega]; rfl
      rw [h1, lcat_def, ← tab_succ i (fun i => bxor .u8 (lget p i) (strB (ks k) s i)), show (i + 15) / 16 = (i + 1 - 1) / 16 by omega]
      rw [if_neg (by omega)] at hg
      exact hg
     have hb := ups_bl hs ((i + 15) / 16)
     exact ⟨⟨hw, hb⟩, hb, hI, hN, hI2, ⟨hL, hroom _, fin⟩, hL, hroom _, fin⟩
    ·rw [ieq_false] at q
     have q0 : ¬ i = 0 := fun e => q (by rw [e]; rfl)
     rw [if_neg q0]
     have e2 : lget (enc (ks k) (ups s ((i - 1) / 16))) (i % 16) = strB (ks k) s i := by rw [strB, show (i - 1) / 16 = i / 16 by omega]
     have fin : rMask.l0 (Res d maskS.news σ K) k p g ((i + 1 : Nat) : Int) (ups s ((i + 15) / 16)) (enc (ks k) (ups s ((i - 1) / 16))) (lcat (tab i fun i => bxor .u8 (lget p i) (strB (ks k) s i)) [bxor .u8 (lget p i) (lget (enc (ks k) (ups s ((i - 1) / 16))) (i % 16))]) := by
      rw [e2, lcat_def, ← tab_succ i (fun i => bxor .u8 (lget p i) (strB (ks k) s i)), show (i + 15) / 16 = (i + 1 + 15) / 16 by omega, show (i - 1) / 16 = (i + 1 - 1) / 16 by omega]
      rw [if_neg (by omega)] at hg
      exact hg
     exact ⟨hI, hN, hI2, ⟨hL, hroom _, fin⟩, hL, hroom _, fin⟩
   ·rw [ofNat_def, llen_def, ilt_false] at q; omega⟩)
  ⟨1, by
   show rMask.l0 _ k p (0 + 1) _ _ _ _
   rw [rMask.l0_succ]
   refine ⟨fun q => ?_, fun _ => ?_⟩
   ·rw [ofNat_def, llen_def, ilt_true] at q; omega
   ·exact res_vec rfl rfl hK⟩ 0 (Nat.zero_le _)
 obtain ⟨g, hg⟩ := key
 refine ⟨g + 1, ?_⟩
 rw [rMask_vc]
 exact ⟨hk, by rw [Mk_iff, ofNat_def, llen_def]; omega, hg⟩
theorem gamB6_good : GoodG Try.prog gamB6 :=
 (gamB5_good.ext good_mask ⟨_, Try.func30, by decide, by kernel_rfl⟩).ext good_rmask ⟨_, Try.func31, by decide, by kernel_rfl⟩
theorem zeros_bs (n : Nat) : Bs (lzeros n) := Bs.zeros n
theorem good_stream : Sx.Good Try.prog 23 streamS := by
 refine Sx.Good.reads (D := []) mixed gamB6_good Try.func23 (by kernel_rfl) rfl fun d args σ K h => ?_
 simp only [streamS] at h
 split at h <;> try exact h.elim
 rename_i k s n
 obtain ⟨⟨hk, hs⟩, hK⟩ := h
 refine ⟨_, [], .plain (plain_ints _ _ _) (.plain (plain_ints _ _ _) (.plain (plain_int _ _) (.nil _))), by simp, 0 + 1, ?_⟩
 rw [bStream_vc]
 refine ⟨fun q => ⟨fun q2 => res_nil ?_ hK, fun q2 => ?_⟩, fun q => res_nil ?_ hK⟩
 ·rw [igt_true] at q2; rw [strmI, if_pos (by omega)]
 ·rw [igt_false] at q2; rw [ilt_false] at q
  refine ⟨by rw [Mk_iff]; omega, ⟨⟨hk, hs⟩, ⟨by simp [lzeros, nat]; omega⟩, zeros_bs _⟩, res_vec rfl ?_ hK⟩
  rw [strmI, if_neg (by omega)]; rfl
 ·rw [ilt_true] at q; rw [strmI, if_pos (by omega)]
theorem good_rstream : Sx.Good Try.prog 25 streamS := by
 refine Sx.Good.reads (D := []) mixed gamB6_good Try.func25 (by kernel_rfl) rfl fun d args σ K h => ?_
 simp only [streamS] at h
 split at h <;> try exact h.elim
 rename_i k s n
 obtain ⟨⟨hk, hs⟩, hK⟩ := h
 refine ⟨_, [], .plain (plain_ints _ _ _) (.plain (plain_ints _ _ _) (.plain (plain_int _ _) (.nil _))), by simp, 0 + 1, ?_⟩
 rw [rStream_vc]
 refine ⟨fun q => ⟨fun q2 => res_nil ?_ hK, fun q2 => ?_⟩, fun q => res_nil ?_ hK⟩
 ·rw [igt_true] at q2; rw [strmI, if_pos (by omega)]
 ·rw [igt_false] at q2; rw [ilt_false] at q
  refine ⟨by rw [Mk_iff]; omega, ⟨⟨hk, hs⟩, ⟨by simp [lzeros, nat]; omega⟩, zeros_bs _⟩, res_vec rfl ?_ hK⟩
  rw [strmI, if_neg (by omega)]; rfl
 ·rw [ilt_true] at q; rw [strmI, if_pos (by omega)]
end Go.Proofs.Ytacnldmmacjpoaa.G
namespace Go.Cel
open Go Go.Sx
def zb (l : List Int) : Bool := l.all fun x => x == 0
def fillL (l : List Int) : List Int := l ++ List.replicate (320 - l.length) 0
structure LaidOk (p f : List Int) (i : Int) : Prop where
 e : (f.length : Int) = i
 le : f.length + p.length ≤ 320
structure FillOk (p : List Int) : Prop where
 le : p.length ≤ 320
def padR (p : List Int) : List Int := if p.length ≤ 320 then fillL p else []
def padE (p : List Int) : Int := if p.length ≤ 320 then 0 else 1
def noiseR (p : List Int) : List Int := if p.length ≤ 319 then fillL (0 :: p) else []
def noiseE (p : List Int) : Int := if p.length ≤ 319 then 0 else 1
end Go.Cel
namespace Go.Sx
open Go.Cel
def noughtsS : Spec := ⟨0, false, fun _ args σ K => match args with
 | [x] => rdb σ x fun l => Short l ∧ K (.one (.bool (zb l))) σ
 | _ => False⟩
def noughts2S : Spec := ⟨0, false, fun _ args σ K => match args with
 | [x, .one (.int .i64 i)] => rdb σ x fun l => (Short l ∧ NonNeg i) ∧ K (.one (.bool (zb (l.drop (nat i))))) σ
 | _ => False⟩
def laidS : Spec := ⟨1, false, fun d args σ K => match args with
 | [x, .one (.int .i64 i), y] => rdb σ x fun p => rdb σ y fun f => LaidOk p f i ∧ K (.one (.vec d)) (Mem.ins d (.vec [.ints .u8 (fillL (lcat f p))]) σ)
 | _ => False⟩
def fillS : Spec := ⟨1, false, fun d args σ K => match args with
 | [x] => rdb σ x fun p => FillOk p ∧ K (.one (.vec d)) (Mem.ins d (.vec [.ints .u8 (fillL p)]) σ)
 | _ => False⟩
def lstS (r : List Int → List Int) (e : List Int → Int) : Spec := ⟨1, false, fun d args σ K => match args with
 | [x] => rdb σ x fun p => Short p ∧ K (.tup [.c (.vec d), .c (.int .i64 (e p))]) (Mem.ins d (.vec [.ints .u8 (r p)]) σ)
 | _ => False⟩
def gamC1 : Gam := ext (ext gam0 29 laidS) 32 fillS
end Go.Sx
namespace Go.Proofs.Ytacnldmmacjpoaa.G
open Go Go.Sx Go.Cel
set_option maxRecDepth 100000
theorem laid_vc (R : AV → Mem → Prop) (fuel : Nat) (p : List Int) (f : List Int) (i : Int) : callsx Try.prog gam0 [] Try.f29 (fuel + 1) [.one (.vec 200000), .one (.int .i64 i), .one (.vec 200002)] [(200000, .rview [.ints .u8 p]), (200002, .rview [.ints .u8 f])] R = (((Mk 320 320 1) ∧ (((NonNeg i) ∧ (Fits (nat i) (llen (lput (lzeros 320) 0 (lsub f 0 (nmin (llen f) 320)))))) ∧ (R (AV.one (AC.vec 8)) [(8, Blk.vec [(Col.ints IntKind.u8 (lput (lput (lzeros 320) 0 (lsub f 0 (nmin (llen f) 320))) (nat i) (lsub p 0 (nmin (llen p) (nsub (llen (lput (lzeros 320) 0 (lsub f 0 (nmin (llen f) 320)))) (nat i))))))]), (200000, Blk.rview [(Col.ints IntKind.u8 p)]), (200002, Blk.rview [(Col.ints IntKind.u8 f)])])))) := by kernel_rfl
def fill.l0 (R : AV → Mem → Prop) (p : List Int) (fuel : Nat) (x0 : List Int) : Prop := run Try.prog gam0 [⟨3,[.ints .u8],true,false⟩] (resh Try.prog [⟨3,[.ints .u8],true,false⟩] Try.f32.results.toList R) fuel [kc Try.f32 [1,1,0,0,0],ki Try.f32 [1,1,0,0,0],.inBlock 0,kc Try.f32 [1,1,1]] (Uu::Uu::Uu::Vv 100003::(us 9 [Zz])) [(100003,Blk.vec [Col.ints IntKind.u8 x0]),(200000,Blk.rview [Col.ints IntKind.u8 p])]
theorem fill.l0_succ (R : AV → Mem → Prop) (p : List Int) (fuel : Nat) (x0 : List Int) : fill.l0 R p (fuel + 1) x0 = (((((ilt (ofNat (llen x0)) 320) = true) → ((Room (nadd (llen x0) 1) 1) ∧ (fill.l0 R p fuel (lcat x0 [0])))) ∧ (((ilt (ofNat (llen x0)) 320) = false) → (R (Vv 100003) [(100003,Blk.vec [Col.ints IntKind.u8 x0]),(200000,Blk.rview [Col.ints IntKind.u8 p])])))) := by kernel_rfl
theorem fill_vc (R : AV → Mem → Prop) (fuel : Nat) (p : List Int) : callsx Try.prog gam0 [⟨3, [.ints .u8], true, false⟩] Try.f32 (fuel + 1) [.one (.vec 200000)] [(200000, .rview [.ints .u8 p])] R = (((Room (nadd 0 (llen p)) 1) ∧ (fill.l0 R p fuel (lcat [] p)))) := by kernel_rfl
theorem Pad_vc (R : AV → Mem → Prop) (fuel : Nat) (p : List Int) : callsx Try.prog gamC1 [] Try.f22 (fuel + 1) [.one (.vec 200000)] [(200000, .rview [.ints .u8 p])] R = (((((igt (ofNat (llen p)) 320) = true) → (R (AV.tup [(TV.c (AC.con (Value.slice (Option.none) 0 0))), (TV.c (AC.int IntKind.i64 1))]) [(200000, Blk.rview [(Col.ints IntKind.u8 p)])])) ∧ (((igt (ofNat (llen p)) 320) = false) → ((Go.Cel.LaidOk p [] 0) ∧ (R (AV.tup [(TV.c (AC.vec 8)), (TV.c (AC.int IntKind.i64 0))]) [(8, Blk.vec [(Col.ints IntKind.u8 (Go.Cel.fillL (lcat [] p)))]), (200000, Blk.rview [(Col.ints IntKind.u8 p)])]))))) := by kernel_rfl
theorem Noise_vc (R : AV → Mem → Prop) (fuel : Nat) (p : List Int) : callsx Try.prog gamC1 [] Try.f20 (fuel + 1) [.one (.vec 200000)] [(200000, .rview [.ints .u8 p])] R = (((((igt (ofNat (llen p)) 319) = true) → (R (AV.tup [(TV.c (AC.con (Value.slice (Option.none) 0 0))), (TV.c (AC.int IntKind.i64 1))]) [(200000, Blk.rview [(Col.ints IntKind.u8 p)])])) ∧ (((igt (ofNat (llen p)) 319) = false) → ((Go.Cel.LaidOk p [0] 1) ∧ (R (AV.tup [(TV.c (AC.vec 9)), (TV.c (AC.int IntKind.i64 0))]) [(8, Blk.vec [(Col.ints IntKind.u8 [0])]), (9, Blk.vec [(Col.ints IntKind.u8 (Go.Cel.fillL (lcat [0] p)))]), (200000, Blk.rview [(Col.ints IntKind.u8 p)])]))))) := by kernel_rfl
theorem rPad_vc (R : AV → Mem → Prop) (fuel : Nat) (p : List Int) : callsx Try.prog gamC1 [] Try.f27 (fuel + 1) [.one (.vec 200000)] [(200000, .rview [.ints .u8 p])] R = (((((igt (ofNat (llen p)) 320) = true) → (R (AV.tup [(TV.c (AC.con (Value.slice (Option.none) 0 0))), (TV.c (AC.int IntKind.i64 1))]) [(200000, Blk.rview [(Col.ints IntKind.u8 p)])])) ∧ (((igt (ofNat (llen p)) 320) = false) → ((Go.Cel.FillOk p) ∧ (R (AV.tup [(TV.c (AC.vec 8)), (TV.c (AC.int IntKind.i64 0))]) [(8, Blk.vec [(Col.ints IntKind.u8 (Go.Cel.fillL p))]), (200000, Blk.rview [(Col.ints IntKind.u8 p)])]))))) := by kernel_rfl
theorem rNoise_vc (R : AV → Mem → Prop) (fuel : Nat) (p : List Int) : callsx Try.prog gamC1 [] Try.f26 (fuel + 1) [.one (.vec 200000)] [(200000, .rview [.ints .u8 p])] R = (((((igt (ofNat (llen p)) 319) = true) → (R (AV.tup [(TV.c (AC.con (Value.slice (Option.none) 0 0))), (TV.c (AC.int IntKind.i64 1))]) [(200000, Blk.rview [(Col.ints IntKind.u8 p)])])) ∧ (((igt (ofNat (llen p)) 319) = false) → ((Room (nadd 1 (llen p)) 1) ∧ ((Go.Cel.FillOk (lcat [0] p)) ∧ (R (AV.tup [(TV.c (AC.vec 10)), (TV.c (AC.int IntKind.i64 0))]) [(9, Blk.vec [(Col.ints IntKind.u8 (lcat [0] p))]), (10, Blk.vec [(Col.ints IntKind.u8 (Go.Cel.fillL (lcat [0] p)))]), (200000, Blk.rview [(Col.ints IntKind.u8 p)])])))))) := by kernel_rfl
set_option maxRecDepth 20000
theorem zeros_drop (n i : Nat) : (List.replicate n (0 : Int)).drop i = List.replicate (n - i) 0 := by simp
theorem lput_zeros (f : List Int) (h : f.length ≤ 320) : lput (lzeros 320) 0 f = fillL f := by
 simp only [lput, lzeros, fillL, List.take_zero, List.nil_append, Nat.zero_add, List.drop_replicate]
theorem lput_fill (f p : List Int) (h : f.length + p.length ≤ 320) : lput (fillL f) f.length p = fillL (f ++ p) := by
 have e1 : (fillL f).take f.length = f := by simp [fillL]
 have e2 : (fillL f).drop (f.length + p.length) = List.replicate (320 - (f.length + p.length)) 0 := by
  unfold fillL
  rw [List.drop_append, List.drop_of_length_le (by omega), List.nil_append, zeros_drop]
  congr 1; omega
 simp only [lput, e1, e2]
 simp [fillL, List.append_assoc]
theorem good_laid : Sx.Good Try.prog 29 laidS := by
 refine Sx.Good.reads (D := []) mixed (good0 _) Try.func29 (by kernel_rfl) rfl fun d args σ K h => ?_
 simp only [laidS] at h
 split at h <;> try exact h.elim
 rename_i x i y
 obtain ⟨p, h, hp⟩ := rdb_row h
 obtain ⟨f, ⟨hok, hK⟩, hf⟩ := rdb_row h
 have he := hok.e
 have hle := hok.le
 refine ⟨[.one (.vec 200000), .one (.int .i64 i), .one (.vec 200002)], [(200000, .rview [.ints .u8 p]), (200002, .rview [.ints .u8 f])], .row [.ints .u8] _ hp (by decide) (.plain (plain_int _ _) (.row [.ints .u8] _ hf (by decide) (.nil _))), by simp, 1, ?_⟩
 rw [laid_vc]
 have hi : nat i = f.length := by simp only [nat]; omega
 have e1 : nmin (llen f) 320 = f.length := by simp only [nmin, llen]; omega
 rw [e1, lsub_all, lput_zeros f (by omega), hi]
 have e2 : llen (fillL f) = 320 := by simp [llen, fillL]; omega
 rw [e2]
 have e3 : nmin (llen p) (nsub 320 f.length) = p.length := by simp only [nmin, llen, nsub]; omega
 rw [e3, lsub_all, lput_fill f p hle]
 exact ⟨⟨by decide, by decide, by decide, by decide⟩, ⟨⟨by omega⟩, ⟨by omega⟩⟩, res_vec rfl rfl hK⟩
theorem fill_l0 (R : AV → Mem → Prop) (p q : List Int) : ∀ (n : Nat) (l : List Int), 320 - l.length = n → l.length ≤ 320 → R (.one (.vec 100003)) [(100003, .vec [.ints .u8 (fillL l)]), (200000, .rview [.ints .u8 p])] → fill.l0 R p (n + 1) l := by
 intro n
 induction n with
 | zero =>
  intro l hn hle h
  rw [fill.l0_succ]
  refine ⟨fun q => ?_, fun _ => ?_⟩
  ·rw [ilt_true] at q; simp only [ofNat, llen] at q; omega
  ·have : fillL l = l := by unfold fillL; rw [hn]; simp
   rw [this] at h; exact h
 | succ n ih =>
  intro l hn hle h
  have hl : (lcat l [0]).length = l.length + 1 := by simp [lcat]
  rw [fill.l0_succ]
  refine ⟨fun _ => ⟨room1 (by simp only [nadd, llen]; omega), ih _ (by rw [hl]; omega) (by rw [hl]; omega) ?_⟩, fun q => ?_⟩
  ·have : fillL (lcat l [0]) = fillL l := by
    unfold fillL
    rw [hl, hn, show 320 - (l.length + 1) = n by omega, List.replicate_succ]
    simp [lcat]
   rw [this]; exact h
  ·rw [ilt_false] at q; simp only [ofNat, llen] at q; omega
theorem good_fill : Sx.Good Try.prog 32 fillS := by
 refine Sx.Good.reads (D := [⟨3, [.ints .u8], true, false⟩]) mixed (good0 _) Try.func32 (by kernel_rfl) rfl fun d args σ K h => ?_
 simp only [fillS] at h
 split at h <;> try exact h.elim
 obtain ⟨p, ⟨hok, hK⟩, hr⟩ := rdb_row h
 have hle := hok.le
 refine ⟨[.one (.vec 200000)], [(200000, .rview [.ints .u8 p])], .row [.ints .u8] _ hr (by decide) (.nil _), by simp, 320 - p.length + 1 + 1, ?_⟩
 rw [fill_vc]
 refine ⟨room1 (by simp only [nadd, llen]; omega), fill_l0 _ p p (320 - p.length) _ (by simp [lcat]) (by simpa [lcat] using hle) ?_⟩
 exact res_vec rfl (by simp [lcat]) hK
theorem gamC1_good : GoodG Try.prog gamC1 := (((good0 _).ext good_laid ⟨_, Try.func29, by decide, by kernel_rfl⟩).ext good_fill ⟨_, Try.func32, by decide, by kernel_rfl⟩)
theorem laid0 {p : List Int} (h : p.length ≤ 320) : LaidOk p [] 0 := ⟨rfl, by simpa using h⟩
theorem good_pad : Sx.Good Try.prog 22 (lstS padR padE) := by
 refine Sx.Good.reads (D := []) mixed gamC1_good Try.func22 (by kernel_rfl) rfl fun d args σ K h => ?_
 simp only [lstS] at h
 split at h <;> try exact h.elim
 obtain ⟨p, ⟨hs, hK⟩, hr⟩ := rdb_row h
 refine ⟨[.one (.vec 200000)], [(200000, .rview [.ints .u8 p])], .row [.ints .u8] _ hr (by decide) (.nil _), by simp, 1, ?_⟩
 rw [Pad_vc]
 refine ⟨fun q => ?_, fun q => ?_⟩
 ·rw [igt_true] at q; simp only [ofNat, llen] at q
  exact res_tnil (.int (by simp only [padE]; rw [if_neg (by omega)]) .nil) (by simp only [padR]; rw [if_neg (by omega)]) hK
 ·rw [igt_false] at q; simp only [ofNat, llen] at q
  have hl : p.length ≤ 320 := by omega
  exact ⟨laid0 hl, res_tvec rfl (.int (by simp only [padE]; rw [if_pos hl]) .nil) (by simp only [padR]; rw [if_pos hl]; rfl) hK⟩
theorem good_rpad : Sx.Good Try.prog 27 (lstS padR padE) := by
 refine Sx.Good.reads (D := []) mixed gamC1_good Try.func27 (by kernel_rfl) rfl fun d args σ K h => ?_
 simp only [lstS] at h
 split at h <;> try exact h.elim
 obtain ⟨p, ⟨hs, hK⟩, hr⟩ := rdb_row h
 refine ⟨[.one (.vec 200000)], [(200000, .rview [.ints .u8 p])], .row [.ints .u8] _ hr (by decide) (.nil _), by simp, 1, ?_⟩
 rw [rPad_vc]
 refine ⟨fun q => ?_, fun q => ?_⟩
 ·rw [igt_true] at q; simp only [ofNat, llen] at q
  exact res_tnil (.int (by simp only [padE]; rw [if_neg (by omega)]) .nil) (by simp only [padR]; rw [if_neg (by omega)]) hK
 ·rw [igt_false] at q; simp only [ofNat, llen] at q
  have hl : p.length ≤ 320 := by omega
  exact ⟨⟨hl⟩, res_tvec rfl (.int (by simp only [padE]; rw [if_pos hl]) .nil) (by simp only [padR]; rw [if_pos hl]) hK⟩
theorem good_noise : Sx.Good Try.prog 20 (lstS noiseR noiseE) := by
 refine Sx.Good.reads (D := []) mixed gamC1_good Try.func20 (by kernel_rfl) rfl fun d args σ K h => ?_
 simp only [lstS] at h
 split at h <;> try exact h.elim
 obtain ⟨p, ⟨hs, hK⟩, hr⟩ := rdb_row h
 refine ⟨[.one (.vec 200000)], [(200000, .rview [.ints .u8 p])], .row [.ints .u8] _ hr (by decide) (.nil _), by simp, 1, ?_⟩
 rw [Noise_vc]
 refine ⟨fun q => ?_, fun q => ?_⟩
 ·rw [igt_true] at q; simp only [ofNat, llen] at q
  exact res_tnil (.int (by simp only [noiseE]; rw [if_neg (by omega)]) .nil) (by simp only [noiseR]; rw [if_neg (by omega)]) hK
 ·rw [igt_false] at q; simp only [ofNat, llen] at q
  have hl : p.length ≤ 319 := by omega
  exact ⟨⟨rfl, by simp; omega⟩, res_tvec rfl (.int (by simp only [noiseE]; rw [if_pos hl]) .nil) (by simp only [noiseR]; rw [if_pos hl]; rfl) hK⟩
theorem good_rnoise : Sx.Good Try.prog 26 (lstS noiseR noiseE) := by
 refine Sx.Good.reads (D := []) mixed gamC1_good Try.func26 (by kernel_rfl) rfl fun d args σ K h => ?_
 simp only [lstS] at h
 split at h <;> try exact h.elim
 obtain ⟨p, ⟨hs, hK⟩, hr⟩ := rdb_row h
 refine ⟨[.one (.vec 200000)], [(200000, .rview [.ints .u8 p])], .row [.ints .u8] _ hr (by decide) (.nil _), by simp, 1, ?_⟩
 rw [rNoise_vc]
 refine ⟨fun q => ?_, fun q => ?_⟩
 ·rw [igt_true] at q; simp only [ofNat, llen] at q
  exact res_tnil (.int (by simp only [noiseE]; rw [if_neg (by omega)]) .nil) (by simp only [noiseR]; rw [if_neg (by omega)]) hK
 ·rw [igt_false] at q; simp only [ofNat, llen] at q
  have hl : p.length ≤ 319 := by omega
  exact ⟨room1 (by simp only [nadd, llen]; omega), ⟨by simp [lcat]; omega⟩, res_tvec rfl (.int (by simp only [noiseE]; rw [if_pos hl]) .nil) (by simp only [noiseR]; rw [if_pos hl]; rfl) hK⟩
section
variable {d : Nat} {σ : Mem} {K : AV → Mem → Prop} {c : List Int}
end
end Go.Proofs.Ytacnldmmacjpoaa.G
namespace Go.Nz
open Go Go.Sx Go.Cel Go.Blk
def nszI (left : Int) : Int := if left < 1 ∨ 8 < left then 0 else 48 + 34 * left
def szN (left : Int) : Nat := if left ≤ 0 then 48 else 48 + 34 * left.toNat
def ncE (part : List Int) (count left : Int) : Int := if count < 0 ∨ 16 < count ∨ left < 0 ∨ 7 < left then 2 else if part.length < 18 then 3 else 0
def ncS (part : List Int) (count left : Int) : List Int := strmI (ks (lsub part 2 16)) (lzeros 16) (count * (szN left : Int))
def ncO (s : List Int) (left : Int) (i : Nat) : List Int := if left ≤ 0 then noiseR (lsub s (i * szN left) (szN left)) else padR (lsub s (i * szN left) (szN left))
def ncF (s : List Int) (left : Int) : Nat → List (List Int)
 | 0 => []
 | i + 1 => ncF s left i ++ [ncO s left i]
def ncL (part : List Int) (count left : Int) : List (List Int) := if ncE part count left = 0 then ncF (ncS part count left) left count.toNat else []
end Go.Nz
namespace Go.Sx
open Go.Nz Go.Cel Go.Blk
structure InC (l : List Int) : Prop where
 short : l.length ≤ 281474976710656
 bs : Bs l
noncomputable def cellsS : Spec := ⟨1, true, fun d args σ K => match args with
 | [x, .one (.int .i64 count), .one (.int .i64 left)] => rdb σ x fun part => match Mem.heap σ .u8 with
  | some os => InC part ∧ K (.tup [.c (.vec d), .c (.int .i64 (ncE part count left))]) (Mem.ins d (.vec [.hss .u8 (hfrom (llen os) (ncL part count left))]) (σ.put 900004 (.heap .u8 (lcat os (ncL part count left)))))
  | none => False
 | _ => False⟩
def nsizeS : Spec := ⟨0, false, fun _ args σ K => match args with
 | [.one (.int .i64 left)] => K (.one (.int .i64 (nszI left))) σ
 | _ => False⟩
structure Few (l : List (List Int)) : Prop where
 le : l.length ≤ 140737488355328
 bs : ∀ i, i < l.length → Bs (llget l i)
def llq (a b : List (List Int)) : Bool := decide (a = b)
def alikeS : Spec := ⟨0, false, fun _ args σ K => match args with
 | [x, y] => rdr σ x fun a => rdr σ y fun b => (Few a ∧ Few b) ∧ K (.one (.bool (llq a b))) σ
 | _ => False⟩
noncomputable def gamN6 : Gam := ext (ext (ext (ext (ext (ext gamN5 23 streamS) 25 streamS) 22 (lstS padR padE)) 20 (lstS noiseR noiseE)) 27 (lstS padR padE)) 26 (lstS noiseR noiseE)
noncomputable def gamN7 : Gam := ext (ext (ext gamN6 21 nsizeS) 24 nsizeS) 16 alikeS
noncomputable def gamN8 : Gam := ext (ext gamN7 14 cellsS) 15 cellsS
end Go.Sx
namespace Go.Proofs.Ytacnldmmacjpoaa.G
open Go Go.Sx Go.Nz
set_option maxRecDepth 100000
theorem nosize_vc (R : AV → Mem → Prop) (fuel : Nat) (left : Int) : callsx Try.prog gam0 [] Try.f21 (fuel + 1) [.one (.int .i64 left)] [] R = (((((ilt left 1) = false) → ((((igt left 8) = true) → (R (AV.one (AC.int IntKind.i64 0)) [])) ∧ (((igt left 8) = false) → (R (AV.one (AC.int IntKind.i64 (add IntKind.i64 48 (mul IntKind.i64 34 left)))) [])))) ∧ (((ilt left 1) = true) → (R (AV.one (AC.int IntKind.i64 0)) [])))) := by kernel_rfl
theorem nrsize_vc (R : AV → Mem → Prop) (fuel : Nat) (left : Int) : callsx Try.prog gam0 [] Try.f24 (fuel + 1) [.one (.int .i64 left)] [] R = (((((ilt left 1) = false) → ((((igt left 8) = true) → (R (AV.one (AC.int IntKind.i64 0)) [])) ∧ (((igt left 8) = false) → (R (AV.one (AC.int IntKind.i64 (add IntKind.i64 82 (mul IntKind.i64 34 (sub IntKind.i64 left 1))))) [])))) ∧ (((ilt left 1) = true) → (R (AV.one (AC.int IntKind.i64 0)) [])))) := by kernel_rfl
def nalike.k0 (R : AV → Mem → Prop) (x0 : Int) (a b : List (List Int)) (fuel m : Nat) : Prop := runM Try.prog gam0 [] (resh Try.prog [] Try.f16.results.toList R) (run Try.prog gam0 [] (resh Try.prog [] Try.f16.results.toList R) fuel) m [kc Try.f16 [1,1,0,1,0,0,1,1,0,0,1,1],.inBlock 1,kc Try.f16 [1,1,0,1,0,0,1,1,1],ki Try.f16 [1,1,0,1,0,0],.inBlock 0,kc Try.f16 [1,1,1]] (Vv 200000::Vv 200001::Uu::Uu::Uu::Ii x0::(us 6 [Ii (ofNat (llen a)),Ii x0,Ll true,Ii x0,Vv 200000,Ii x0,AV.one (AC.vptr 200000 1 (nat x0) 0 0),AV.one (AC.el 200000 0 (nat x0)),AV.one (AC.str (bytesOf (llget a (nat x0)))),Vv 200001,Ii x0,AV.one (AC.vptr 200001 1 (nat x0) 0 0),AV.one (AC.el 200001 0 (nat x0)),AV.one (AC.str (bytesOf (llget b (nat x0)))),Bb (bnot (seq2 (bytesOf (llget a (nat x0))) (bytesOf (llget b (nat x0))))),Uu])) [(200000,Blk.rview [Col.rows IntKind.u8 a]),(200001,Blk.rview [Col.rows IntKind.u8 b])]
def nalike.l0 (R : AV → Mem → Prop) (a b : List (List Int)) (fuel : Nat) (x0 : Int) : Prop := run Try.prog gam0 [] (resh Try.prog [] Try.f16.results.toList R) fuel [kc Try.f16 [1,1,0,1,0,0],ki Try.f16 [1,1,0,1,0,0],.inBlock 0,kc Try.f16 [1,1,1]] (Vv 200000::Vv 200001::(us 10 (Ii (ofNat (llen a))::Ii x0::(us 14 [])))) [(200000,Blk.rview [Col.rows IntKind.u8 a]),(200001,Blk.rview [Col.rows IntKind.u8 b])]
theorem nalike.k0_eq (R : AV → Mem → Prop) (x0 : Int) (a b : List (List Int)) (fuel m : Nat) : nalike.k0 R x0 a b fuel (m + 100) = (((((bnot (seq2 (bytesOf (llget a (nat x0))) (bytesOf (llget b (nat x0))))) = true) → (R (Ll false) [(200000,Blk.rview [Col.rows IntKind.u8 a]),(200001,Blk.rview [Col.rows IntKind.u8 b])])) ∧ (((bnot (seq2 (bytesOf (llget a (nat x0))) (bytesOf (llget b (nat x0))))) = false) → (nalike.l0 R a b fuel (add IntKind.i64 x0 1))))) := by kernel_rfl
theorem nalike.l0_succ (R : AV → Mem → Prop) (a b : List (List Int)) (fuel : Nat) (x0 : Int) : nalike.l0 R a b (fuel + 1) x0 = (((((ilt x0 (ofNat (llen a))) = true) → ((InB x0 (llen a)) ∧ ((InB x0 (llen b)) ∧ ((nalike.k0 R x0 a b fuel 3989) ∧ (nalike.k0 R x0 a b fuel 3989))))) ∧ (((ilt x0 (ofNat (llen a))) = false) → (R (Ll true) [(200000,Blk.rview [Col.rows IntKind.u8 a]),(200001,Blk.rview [Col.rows IntKind.u8 b])])))) := by kernel_rfl
theorem nalike_vc (R : AV → Mem → Prop) (fuel : Nat) (a : List (List Int)) (b : List (List Int)) : callsx Try.prog gam0 [] Try.f16 (fuel + 1) [.one (.vec 200000), .one (.vec 200001)] [(200000, .rview [.rows .u8 a]), (200001, .rview [.rows .u8 b])] R = (((((ine (ofNat (llen a)) (ofNat (llen b))) = true) → (R (AV.one (AC.lit false)) [(200000, Blk.rview [(Col.rows IntKind.u8 a)]), (200001, Blk.rview [(Col.rows IntKind.u8 b)])])) ∧ (((ine (ofNat (llen a)) (ofNat (llen b))) = false) → (nalike.l0 R a b fuel 0)))) := by kernel_rfl
def ncells.l0 (R : AV → Mem → Prop) (left c : Int) (p : List Int) (fuel : Nat) (x0 : Int) (x1 : List HS) (x2 : List (List Int)) : Prop := run Try.prog gamN7 [⟨11,[.rows .u8],true,false⟩] (resh Try.prog [⟨11,[.rows .u8],true,false⟩] Try.f14.results.toList R) fuel [kc Try.f14 [1,1,1,1,1,1,1,0,1,0,0],ki Try.f14 [1,1,1,1,1,1,1,0,1,0,0],.inBlock 0,kc Try.f14 [1,1,1,1,1,1,1,1]] (us 8 (Ii (nszI left)::AV.one (AC.con (Value.func (Fn.func 22) (List.toArray []) (List.toArray [])))::Vv 44::Vv 100011::(us 33 (Ii c::Ii x0::(us 24 [Zz]))))) [(44,Blk.vec [Col.ints IntKind.u8 (Go.Blk.strmI (Go.Blk.ks (lsub p 2 16)) (lzeros 16) (mul IntKind.i64 c (nszI left)))]),(100011,Blk.vec [Col.hss IntKind.u8 x1]),(200000,Blk.rview [Col.ints IntKind.u8 p]),(900004,Blk.heap IntKind.u8 x2)]
def ncells.l1 (R : AV → Mem → Prop) (c : Int) (p : List Int) (fuel : Nat) (x6 : Int) (x7 : List HS) (x8 : List (List Int)) : Prop := run Try.prog gamN7 [⟨11,[.rows .u8],true,false⟩] (resh Try.prog [⟨11,[.rows .u8],true,false⟩] Try.f14.results.toList R) fuel [kc Try.f14 [1,1,1,1,1,1,1,0,1,0,0],ki Try.f14 [1,1,1,1,1,1,1,0,1,0,0],.inBlock 0,kc Try.f14 [1,1,1,1,1,1,1,1]] (us 8 (Ii 48::AV.one (AC.con (Value.func (Fn.func 20) (List.toArray []) (List.toArray [])))::Vv 44::Vv 100011::(us 33 (Ii c::Ii x6::(us 24 [Zz]))))) [(44,Blk.vec [Col.ints IntKind.u8 (Go.Blk.strmI (Go.Blk.ks (lsub p 2 16)) (lzeros 16) (mul IntKind.i64 c 48))]),(100011,Blk.vec [Col.hss IntKind.u8 x7]),(200000,Blk.rview [Col.ints IntKind.u8 p]),(900004,Blk.heap IntKind.u8 x8)]
theorem ncells.l0_succ (R : AV → Mem → Prop) (left c : Int) (p : List Int) (fuel : Nat) (x0 : Int) (x1 : List HS) (x2 : List (List Int)) : ncells.l0 R left c p (fuel + 1) x0 x1 x2 = (((((ilt x0 c) = true) → ((((NonNeg (mul IntKind.i64 (add IntKind.i64 x0 1) (nszI left))) ∧ (Fits (nat (mul IntKind.i64 (add IntKind.i64 x0 1) (nszI left))) (llen (Go.Blk.strmI (Go.Blk.ks (lsub p 2 16)) (lzeros 16) (mul IntKind.i64 c (nszI left)))))) ∧ ((NonNeg (mul IntKind.i64 x0 (nszI left))) ∧ (Fits (nat (mul IntKind.i64 x0 (nszI left))) (nat (mul IntKind.i64 (add IntKind.i64 x0 1) (nszI left)))))) ∧ ((Short (lsub (Go.Blk.strmI (Go.Blk.ks (lsub p 2 16)) (lzeros 16) (mul IntKind.i64 c (nszI left))) (nat (mul IntKind.i64 x0 (nszI left))) (nsub (nat (mul IntKind.i64 (add IntKind.i64 x0 1) (nszI left))) (nat (mul IntKind.i64 x0 (nszI left)))))) ∧ (let y3 : Int := (Go.Cel.padE (lsub (Go.Blk.strmI (Go.Blk.ks (lsub p 2 16)) (lzeros 16) (mul IntKind.i64 c (nszI left))) (nat (mul IntKind.i64 x0 (nszI left))) (nsub (nat (mul IntKind.i64 (add IntKind.i64 x0 1) (nszI left))) (nat (mul IntKind.i64 x0 (nszI left)))))); (let y4 : Nat := (nsub (nat (mul IntKind.i64 (add IntKind.i64 x0 1) (nszI left))) (nat (mul IntKind.i64 x0 (nszI left)))); (let y5 : List Int := (Go.Cel.padR (lsub (Go.Blk.strmI (Go.Blk.ks (lsub p 2 16)) (lzeros 16) (mul IntKind.i64 c (nszI left))) (nat (mul IntKind.i64 x0 (nszI left))) (nsub (nat (mul IntKind.i64 (add IntKind.i64 x0 1) (nszI left))) (nat (mul IntKind.i64 x0 (nszI left)))))); ((((ine y3 0) = true) → (R (AV.tup [TV.c (AC.con (Value.slice (Option.none) 0 0)),TV.c (AC.int IntKind.i64 y3)]) [(44,Blk.vec [Col.ints IntKind.u8 (Go.Blk.strmI (Go.Blk.ks (lsub p 2 16)) (lzeros 16) (mul IntKind.i64 c (nszI left)))]),(60,Blk.vec [Col.ints IntKind.u8 y5]),(100011,Blk.vec [Col.hss IntKind.u8 x1]),(200000,Blk.rview [Col.ints IntKind.u8 p]),(900004,Blk.heap IntKind.u8 x2)])) ∧ (((ine y3 0) = false) → ((Room (nadd (llen x1) (llen [(HS.mk (llen x2) 0 (llen y5))])) 24) ∧ (ncells.l0 R left c p fuel (add IntKind.i64 x0 1) (lcat x1 [(HS.mk (llen x2) 0 (llen y5))]) (List.append x2 [y5]))))))))))) ∧ (((ilt x0 c) = false) → (R (AV.tup [TV.c (AC.vec 100011),TV.c (AC.int IntKind.i64 0)]) [(44,Blk.vec [Col.ints IntKind.u8 (Go.Blk.strmI (Go.Blk.ks (lsub p 2 16)) (lzeros 16) (mul IntKind.i64 c (nszI left)))]),(100011,Blk.vec [Col.hss IntKind.u8 x1]),(200000,Blk.rview [Col.ints IntKind.u8 p]),(900004,Blk.heap IntKind.u8 x2)])))) := by kernel_rfl
theorem ncells.l1_succ (R : AV → Mem → Prop) (c : Int) (p : List Int) (fuel : Nat) (x6 : Int) (x7 : List HS) (x8 : List (List Int)) : ncells.l1 R c p (fuel + 1) x6 x7 x8 = (((((ilt x6 c) = true) → ((((NonNeg (mul IntKind.i64 (add IntKind.i64 x6 1) 48)) ∧ (Fits (nat (mul IntKind.i64 (add IntKind.i64 x6 1) 48)) (llen (Go.Blk.strmI (Go.Blk.ks (lsub p 2 16)) (lzeros 16) (mul IntKind.i64 c 48))))) ∧ ((NonNeg (mul IntKind.i64 x6 48)) ∧ (Fits (nat (mul IntKind.i64 x6 48)) (nat (mul IntKind.i64 (add IntKind.i64 x6 1) 48))))) ∧ ((Short (lsub (Go.Blk.strmI (Go.Blk.ks (lsub p 2 16)) (lzeros 16) (mul IntKind.i64 c 48)) (nat (mul IntKind.i64 x6 48)) (nsub (nat (mul IntKind.i64 (add IntKind.i64 x6 1) 48)) (nat (mul IntKind.i64 x6 48))))) ∧ (let y9 : Int := (Go.Cel.noiseE (lsub (Go.Blk.strmI (Go.Blk.ks (lsub p 2 16)) (lzeros 16) (mul IntKind.i64 c 48)) (nat (mul IntKind.i64 x6 48)) (nsub (nat (mul IntKind.i64 (add IntKind.i64 x6 1) 48)) (nat (mul IntKind.i64 x6 48))))); (let y10 : List Int := (Go.Cel.noiseR (lsub (Go.Blk.strmI (Go.Blk.ks (lsub p 2 16)) (lzeros 16) (mul IntKind.i64 c 48)) (nat (mul IntKind.i64 x6 48)) (nsub (nat (mul IntKind.i64 (add IntKind.i64 x6 1) 48)) (nat (mul IntKind.i64 x6 48))))); ((((ine y9 0) = true) → (R (AV.tup [TV.c (AC.con (Value.slice (Option.none) 0 0)),TV.c (AC.int IntKind.i64 y9)]) [(44,Blk.vec [Col.ints IntKind.u8 (Go.Blk.strmI (Go.Blk.ks (lsub p 2 16)) (lzeros 16) (mul IntKind.i64 c 48))]),(60,Blk.vec [Col.ints IntKind.u8 y10]),(100011,Blk.vec [Col.hss IntKind.u8 x7]),(200000,Blk.rview [Col.ints IntKind.u8 p]),(900004,Blk.heap IntKind.u8 x8)])) ∧ (((ine y9 0) = false) → ((Room (nadd (llen x7) (llen [(HS.mk (llen x8) 0 (llen y10))])) 24) ∧ (ncells.l1 R c p fuel (add IntKind.i64 x6 1) (lcat x7 [(HS.mk (llen x8) 0 (llen y10))]) (List.append x8 [y10])))))))))) ∧ (((ilt x6 c) = false) → (R (AV.tup [TV.c (AC.vec 100011),TV.c (AC.int IntKind.i64 0)]) [(44,Blk.vec [Col.ints IntKind.u8 (Go.Blk.strmI (Go.Blk.ks (lsub p 2 16)) (lzeros 16) (mul IntKind.i64 c 48))]),(100011,Blk.vec [Col.hss IntKind.u8 x7]),(200000,Blk.rview [Col.ints IntKind.u8 p]),(900004,Blk.heap IntKind.u8 x8)])))) := by kernel_rfl
theorem ncells_vc (R : AV → Mem → Prop) (fuel : Nat) (p : List Int) (c : Int) (left : Int) : callsx Try.prog gamN7 [⟨11, [.rows .u8], true, false⟩] Try.f14 (fuel + 1) [.one (.vec 200000), .one (.int .i64 c), .one (.int .i64 left)] [(200000, .rview [.ints .u8 p]), (900004, .heap .u8 [[]])] R = (((((ilt c 0) = false) → ((((igt c 16) = false) → ((((ilt left 0) = false) → ((((igt left 7) = true) → (R (AV.tup [(TV.c (AC.con (Value.slice (Option.none) 0 0))), (TV.c (AC.int IntKind.i64 2))]) [(200000, Blk.rview [(Col.ints IntKind.u8 p)]), (900004, Blk.heap IntKind.u8 [[]])])) ∧ (((igt left 7) = false) → ((((ilt (ofNat (llen p)) 18) = true) → (R (AV.tup [(TV.c (AC.con (Value.slice (Option.none) 0 0))), (TV.c (AC.int IntKind.i64 3))]) [(200000, Blk.rview [(Col.ints IntKind.u8 p)]), (900004, Blk.heap IntKind.u8 [[]])])) ∧ (((ilt (ofNat (llen p)) 18) = false) → ((((igt left 0) = true) → ((((NonNeg 18) ∧ (Fits 18 (llen p))) ∧ ((NonNeg 2) ∧ (Fits 2 18))) ∧ ((Fits 16 16) ∧ ((Fits 18 (llen p)) ∧ (((Go.Blk.BL 16 (lsub p 2 16)) ∧ (Go.Blk.BL 16 (lzeros 16))) ∧ (ncells.l0 R left c p fuel 0 [] [[]])))))) ∧ (((igt left 0) = false) → ((((NonNeg 18) ∧ (Fits 18 (llen p))) ∧ ((NonNeg 2) ∧ (Fits 2 18))) ∧ ((Fits 16 16) ∧ ((Fits 18 (llen p)) ∧ (((Go.Blk.BL 16 (lsub p 2 16)) ∧ (Go.Blk.BL 16 (lzeros 16))) ∧ (ncells.l1 R c p fuel 0 [] [[]])))))))))))) ∧ (((ilt left 0) = true) → (R (AV.tup [(TV.c (AC.con (Value.slice (Option.none) 0 0))), (TV.c (AC.int IntKind.i64 2))]) [(200000, Blk.rview [(Col.ints IntKind.u8 p)]), (900004, Blk.heap IntKind.u8 [[]])])))) ∧ (((igt c 16) = true) → (R (AV.tup [(TV.c (AC.con (Value.slice (Option.none) 0 0))), (TV.c (AC.int IntKind.i64 2))]) [(200000, Blk.rview [(Col.ints IntKind.u8 p)]), (900004, Blk.heap IntKind.u8 [[]])])))) ∧ (((ilt c 0) = true) → (R (AV.tup [(TV.c (AC.con (Value.slice (Option.none) 0 0))), (TV.c (AC.int IntKind.i64 2))]) [(200000, Blk.rview [(Col.ints IntKind.u8 p)]), (900004, Blk.heap IntKind.u8 [[]])])))) := by kernel_rfl
def rcells.l1 (R : AV → Mem → Prop) (c left : Int) (x1 p : List Int) (fuel : Nat) (x2 : Int) (x3 : List HS) (x4 : List (List Int)) : Prop := run Try.prog gamN7 [⟨13,[.rows .u8],true,false⟩] (resh Try.prog [⟨13,[.rows .u8],true,false⟩] Try.f15.results.toList R) fuel [kc Try.f15 [1,1,1,1,1,1,1,1,1,0,1,0,0],ki Try.f15 [1,1,1,1,1,1,1,1,1,0,1,0,0],.inBlock 2,kc Try.f15 [1,1,1,1,1,1,1,1,1,1]] (Uu::Ii c::Ii left::(us 5 (Ii (nszI left)::Uu::Uu::Uu::Vv 55::Vv 100013::Ii x2::(us 72 [Zz])))) [(55,Blk.vec [Col.ints IntKind.u8 (Go.Blk.strmI (Go.Blk.ks x1) (lzeros 16) (mul IntKind.i64 c (nszI left)))]),(100013,Blk.vec [Col.hss IntKind.u8 x3]),(200000,Blk.rview [Col.ints IntKind.u8 p]),(900004,Blk.heap IntKind.u8 x4)]
def rcells.l0 (R : AV → Mem → Prop) (c left : Int) (p : List Int) (fuel : Nat) (x0 : Int) (x1 : List Int) : Prop := run Try.prog gamN7 [⟨13,[.rows .u8],true,false⟩] (resh Try.prog [⟨13,[.rows .u8],true,false⟩] Try.f15.results.toList R) fuel [kc Try.f15 [1,1,1,1,1,1,0,1,0,0],ki Try.f15 [1,1,1,1,1,1,0,1,0,0],.inBlock 0,kc Try.f15 [1,1,1,1,1,1,1]] (Vv 200000::Ii c::Ii left::(us 5 (Ii (nszI left)::AV.one (AC.ptr 9 0 0)::AV.one (AC.ptr 10 0 0)::Ii x0::(zs 5 (us 33 (zs 32 (Uu::(zs 5 [])))))))) [(9,Blk.own 52 [Seg.ints IntKind.u8 16 x1]),(10,Blk.own 52 [Seg.ints IntKind.u8 16 (lzeros 16)]),(200000,Blk.rview [Col.ints IntKind.u8 p]),(900004,Blk.heap IntKind.u8 [[]])]
def rcells.l3 (R : AV → Mem → Prop) (c left : Int) (x11 p : List Int) (fuel : Nat) (x12 : Int) (x13 : List HS) (x14 : List (List Int)) : Prop := run Try.prog gamN7 [⟨13,[.rows .u8],true,false⟩] (resh Try.prog [⟨13,[.rows .u8],true,false⟩] Try.f15.results.toList R) fuel [kc Try.f15 [1,1,1,1,1,1,1,1,1,0,1,0,0],ki Try.f15 [1,1,1,1,1,1,1,1,1,0,1,0,0],.inBlock 2,kc Try.f15 [1,1,1,1,1,1,1,1,1,1]] (Uu::Ii c::Ii left::(us 5 (Ii 48::Uu::Uu::Uu::Vv 55::Vv 100013::Ii x12::(us 72 [Zz])))) [(55,Blk.vec [Col.ints IntKind.u8 (Go.Blk.strmI (Go.Blk.ks x11) (lzeros 16) (mul IntKind.i64 c 48))]),(100013,Blk.vec [Col.hss IntKind.u8 x13]),(200000,Blk.rview [Col.ints IntKind.u8 p]),(900004,Blk.heap IntKind.u8 x14)]
def rcells.l2 (R : AV → Mem → Prop) (c left : Int) (p : List Int) (fuel : Nat) (x10 : Int) (x11 : List Int) : Prop := run Try.prog gamN7 [⟨13,[.rows .u8],true,false⟩] (resh Try.prog [⟨13,[.rows .u8],true,false⟩] Try.f15.results.toList R) fuel [kc Try.f15 [1,1,1,1,1,1,0,1,0,0],ki Try.f15 [1,1,1,1,1,1,0,1,0,0],.inBlock 0,kc Try.f15 [1,1,1,1,1,1,1]] (Vv 200000::Ii c::Ii left::(us 5 (Ii 48::AV.one (AC.ptr 9 0 0)::AV.one (AC.ptr 10 0 0)::Ii x10::(zs 5 (us 33 (zs 32 (Uu::(zs 5 [])))))))) [(9,Blk.own 52 [Seg.ints IntKind.u8 16 x11]),(10,Blk.own 52 [Seg.ints IntKind.u8 16 (lzeros 16)]),(200000,Blk.rview [Col.ints IntKind.u8 p]),(900004,Blk.heap IntKind.u8 [[]])]
theorem rcells.l1_succ (R : AV → Mem → Prop) (c left : Int) (x1 p : List Int) (fuel : Nat) (x2 : Int) (x3 : List HS) (x4 : List (List Int)) : rcells.l1 R c left x1 p (fuel + 1) x2 x3 x4 = (((((ilt x2 c) = true) → ((((NonNeg (add IntKind.i64 (mul IntKind.i64 x2 (nszI left)) (nszI left))) ∧ (Fits (nat (add IntKind.i64 (mul IntKind.i64 x2 (nszI left)) (nszI left))) (llen (Go.Blk.strmI (Go.Blk.ks x1) (lzeros 16) (mul IntKind.i64 c (nszI left)))))) ∧ ((NonNeg (mul IntKind.i64 x2 (nszI left))) ∧ (Fits (nat (mul IntKind.i64 x2 (nszI left))) (nat (add IntKind.i64 (mul IntKind.i64 x2 (nszI left)) (nszI left)))))) ∧ (let y5 : Nat := (nsub (nat (add IntKind.i64 (mul IntKind.i64 x2 (nszI left)) (nszI left))) (nat (mul IntKind.i64 x2 (nszI left)))); ((Short (lsub (Go.Blk.strmI (Go.Blk.ks x1) (lzeros 16) (mul IntKind.i64 c (nszI left))) (nat (mul IntKind.i64 x2 (nszI left))) y5)) ∧ (let y6 : Int := (Go.Cel.noiseE (lsub (Go.Blk.strmI (Go.Blk.ks x1) (lzeros 16) (mul IntKind.i64 c (nszI left))) (nat (mul IntKind.i64 x2 (nszI left))) y5)); (let y7 : List Int := (Go.Cel.noiseR (lsub (Go.Blk.strmI (Go.Blk.ks x1) (lzeros 16) (mul IntKind.i64 c (nszI left))) (nat (mul IntKind.i64 x2 (nszI left))) y5)); ((((igt left 0) = true) → ((Short (lsub (Go.Blk.strmI (Go.Blk.ks x1) (lzeros 16) (mul IntKind.i64 c (nszI left))) (nat (mul IntKind.i64 x2 (nszI left))) y5)) ∧ (let y8 : Int := (Go.Cel.padE (lsub (Go.Blk.strmI (Go.Blk.ks x1) (lzeros 16) (mul IntKind.i64 c (nszI left))) (nat (mul IntKind.i64 x2 (nszI left))) y5)); (let y9 : List Int := (Go.Cel.padR (lsub (Go.Blk.strmI (Go.Blk.ks x1) (lzeros 16) (mul IntKind.i64 c (nszI left))) (nat (mul IntKind.i64 x2 (nszI left))) y5)); ((Room (nadd (llen x3) (llen [(HS.mk (llen x4) 0 (llen y9))])) 24) ∧ (rcells.l1 R c left x1 p fuel (add IntKind.i64 x2 1) (lcat x3 [(HS.mk (llen x4) 0 (llen y9))]) (List.append x4 [y9]))))))) ∧ (((igt left 0) = false) → ((Room (nadd (llen x3) (llen [(HS.mk (llen x4) 0 (llen y7))])) 24) ∧ (rcells.l1 R c left x1 p fuel (add IntKind.i64 x2 1) (lcat x3 [(HS.mk (llen x4) 0 (llen y7))]) (List.append x4 [y7]))))))))))) ∧ (((ilt x2 c) = false) → (R (AV.tup [TV.c (AC.vec 100013),TV.c (AC.int IntKind.i64 0)]) [(55,Blk.vec [Col.ints IntKind.u8 (Go.Blk.strmI (Go.Blk.ks x1) (lzeros 16) (mul IntKind.i64 c (nszI left)))]),(100013,Blk.vec [Col.hss IntKind.u8 x3]),(200000,Blk.rview [Col.ints IntKind.u8 p]),(900004,Blk.heap IntKind.u8 x4)])))) := by kernel_rfl
theorem rcells.l0_succ (R : AV → Mem → Prop) (c left : Int) (p : List Int) (fuel : Nat) (x0 : Int) (x1 : List Int) : rcells.l0 R c left p (fuel + 1) x0 x1 = (((((ilt x0 16) = true) → ((InB (add IntKind.i64 2 x0) (llen p)) ∧ ((InB x0 16) ∧ ((Low (nadd 0 (nat x0)) 16) ∧ (rcells.l0 R c left p fuel (add IntKind.i64 x0 1) (lset x1 (nadd 0 (nat x0)) (lget p (nat (add IntKind.i64 2 x0))))))))) ∧ (((ilt x0 16) = false) → (((Go.Blk.BL 16 x1) ∧ (Go.Blk.BL 16 (lzeros 16))) ∧ (rcells.l1 R c left x1 p fuel 0 [] [[]]))))) := by kernel_rfl
theorem rcells.l3_succ (R : AV → Mem → Prop) (c left : Int) (x11 p : List Int) (fuel : Nat) (x12 : Int) (x13 : List HS) (x14 : List (List Int)) : rcells.l3 R c left x11 p (fuel + 1) x12 x13 x14 = (((((ilt x12 c) = true) → ((((NonNeg (add IntKind.i64 (mul IntKind.i64 x12 48) 48)) ∧ (Fits (nat (add IntKind.i64 (mul IntKind.i64 x12 48) 48)) (llen (Go.Blk.strmI (Go.Blk.ks x11) (lzeros 16) (mul IntKind.i64 c 48))))) ∧ ((NonNeg (mul IntKind.i64 x12 48)) ∧ (Fits (nat (mul IntKind.i64 x12 48)) (nat (add IntKind.i64 (mul IntKind.i64 x12 48) 48))))) ∧ ((Short (lsub (Go.Blk.strmI (Go.Blk.ks x11) (lzeros 16) (mul IntKind.i64 c 48)) (nat (mul IntKind.i64 x12 48)) (nsub (nat (add IntKind.i64 (mul IntKind.i64 x12 48) 48)) (nat (mul IntKind.i64 x12 48))))) ∧ (let y15 : Int := (Go.Cel.noiseE (lsub (Go.Blk.strmI (Go.Blk.ks x11) (lzeros 16) (mul IntKind.i64 c 48)) (nat (mul IntKind.i64 x12 48)) (nsub (nat (add IntKind.i64 (mul IntKind.i64 x12 48) 48)) (nat (mul IntKind.i64 x12 48))))); (let y16 : List Int := (Go.Cel.noiseR (lsub (Go.Blk.strmI (Go.Blk.ks x11) (lzeros 16) (mul IntKind.i64 c 48)) (nat (mul IntKind.i64 x12 48)) (nsub (nat (add IntKind.i64 (mul IntKind.i64 x12 48) 48)) (nat (mul IntKind.i64 x12 48))))); ((((igt left 0) = true) → ((Short (lsub (Go.Blk.strmI (Go.Blk.ks x11) (lzeros 16) (mul IntKind.i64 c 48)) (nat (mul IntKind.i64 x12 48)) (nsub (nat (add IntKind.i64 (mul IntKind.i64 x12 48) 48)) (nat (mul IntKind.i64 x12 48))))) ∧ (let y17 : Int := (Go.Cel.padE (lsub (Go.Blk.strmI (Go.Blk.ks x11) (lzeros 16) (mul IntKind.i64 c 48)) (nat (mul IntKind.i64 x12 48)) (nsub (nat (add IntKind.i64 (mul IntKind.i64 x12 48) 48)) (nat (mul IntKind.i64 x12 48))))); (let y18 : List Int := (Go.Cel.padR (lsub (Go.Blk.strmI (Go.Blk.ks x11) (lzeros 16) (mul IntKind.i64 c 48)) (nat (mul IntKind.i64 x12 48)) (nsub (nat (add IntKind.i64 (mul IntKind.i64 x12 48) 48)) (nat (mul IntKind.i64 x12 48))))); ((Room (nadd (llen x13) (llen [(HS.mk (llen x14) 0 (llen y18))])) 24) ∧ (rcells.l3 R c left x11 p fuel (add IntKind.i64 x12 1) (lcat x13 [(HS.mk (llen x14) 0 (llen y18))]) (List.append x14 [y18]))))))) ∧ (((igt left 0) = false) → ((Room (nadd (llen x13) (llen [(HS.mk (llen x14) 0 (llen y16))])) 24) ∧ (rcells.l3 R c left x11 p fuel (add IntKind.i64 x12 1) (lcat x13 [(HS.mk (llen x14) 0 (llen y16))]) (List.append x14 [y16])))))))))) ∧ (((ilt x12 c) = false) → (R (AV.tup [TV.c (AC.vec 100013),TV.c (AC.int IntKind.i64 0)]) [(55,Blk.vec [Col.ints IntKind.u8 (Go.Blk.strmI (Go.Blk.ks x11) (lzeros 16) (mul IntKind.i64 c 48))]),(100013,Blk.vec [Col.hss IntKind.u8 x13]),(200000,Blk.rview [Col.ints IntKind.u8 p]),(900004,Blk.heap IntKind.u8 x14)])))) := by kernel_rfl
theorem rcells.l2_succ (R : AV → Mem → Prop) (c left : Int) (p : List Int) (fuel : Nat) (x10 : Int) (x11 : List Int) : rcells.l2 R c left p (fuel + 1) x10 x11 = (((((ilt x10 16) = true) → ((InB (add IntKind.i64 2 x10) (llen p)) ∧ ((InB x10 16) ∧ ((Low (nadd 0 (nat x10)) 16) ∧ (rcells.l2 R c left p fuel (add IntKind.i64 x10 1) (lset x11 (nadd 0 (nat x10)) (lget p (nat (add IntKind.i64 2 x10))))))))) ∧ (((ilt x10 16) = false) → (((Go.Blk.BL 16 x11) ∧ (Go.Blk.BL 16 (lzeros 16))) ∧ (rcells.l3 R c left x11 p fuel 0 [] [[]]))))) := by kernel_rfl
theorem rcells_vc (R : AV → Mem → Prop) (fuel : Nat) (p : List Int) (c : Int) (left : Int) : callsx Try.prog gamN7 [⟨13, [.rows .u8], true, false⟩] Try.f15 (fuel + 1) [.one (.vec 200000), .one (.int .i64 c), .one (.int .i64 left)] [(200000, .rview [.ints .u8 p]), (900004, .heap .u8 [[]])] R = (((((ilt c 0) = false) → ((((igt c 16) = false) → ((((ilt left 0) = false) → ((((ige left 8) = true) → (R (AV.tup [(TV.c (AC.con (Value.slice (Option.none) 0 0))), (TV.c (AC.int IntKind.i64 2))]) [(200000, Blk.rview [(Col.ints IntKind.u8 p)]), (900004, Blk.heap IntKind.u8 [[]])])) ∧ (((ige left 8) = false) → ((((ilt (ofNat (llen p)) 18) = true) → (R (AV.tup [(TV.c (AC.con (Value.slice (Option.none) 0 0))), (TV.c (AC.int IntKind.i64 3))]) [(200000, Blk.rview [(Col.ints IntKind.u8 p)]), (900004, Blk.heap IntKind.u8 [[]])])) ∧ (((ilt (ofNat (llen p)) 18) = false) → ((((igt left 0) = true) → (rcells.l0 R c left p fuel 0 (lzeros 16))) ∧ (((igt left 0) = false) → (rcells.l2 R c left p fuel 0 (lzeros 16))))))))) ∧ (((ilt left 0) = true) → (R (AV.tup [(TV.c (AC.con (Value.slice (Option.none) 0 0))), (TV.c (AC.int IntKind.i64 2))]) [(200000, Blk.rview [(Col.ints IntKind.u8 p)]), (900004, Blk.heap IntKind.u8 [[]])])))) ∧ (((igt c 16) = true) → (R (AV.tup [(TV.c (AC.con (Value.slice (Option.none) 0 0))), (TV.c (AC.int IntKind.i64 2))]) [(200000, Blk.rview [(Col.ints IntKind.u8 p)]), (900004, Blk.heap IntKind.u8 [[]])])))) ∧ (((ilt c 0) = true) → (R (AV.tup [(TV.c (AC.con (Value.slice (Option.none) 0 0))), (TV.c (AC.int IntKind.i64 2))]) [(200000, Blk.rview [(Col.ints IntKind.u8 p)]), (900004, Blk.heap IntKind.u8 [[]])])))) := by kernel_rfl
def lapart.l1 (R : AV → Mem → Prop) (x0 : Int) (ls : List HS) (fuel : Nat) (x2 : Int) (x3 : List (List Int)) : Prop := run Try.prog gam0 [] (resh Try.prog [] Try.f17.results.toList R) fuel [kc Try.f17 [1,0,1,0,0,1,1,0,0,1,1,0,0],ki Try.f17 [1,0,1,0,0,1,1,0,0,1,1,0,0],.inBlock 2,.inBlock 1,kc Try.f17 [1,0,1,0,0,1,1,1],ki Try.f17 [1,0,1,0,0],.inBlock 0,kc Try.f17 [1,1]] (Vv 200000::Uu::Uu::Ii x0::AV.one (AC.hs IntKind.u8 (hj (hget ls (nat x0))) (ho (hget ls (nat x0))) (hl (hget ls (nat x0))))::Uu::(zs 10 (Vv 200000::Ii (ofNat (llen ls))::Ii x0::Ll true::Ii x0::AV.one (AC.vptr 200000 1 (nat x0) 0 0)::AV.one (AC.hs IntKind.u8 (hj (hget ls (nat x0))) (ho (hget ls (nat x0))) (hl (hget ls (nat x0))))::AV.one (AC.hs IntKind.u8 (hj (hget ls (nat x0))) (ho (hget ls (nat x0))) (hl (hget ls (nat x0))))::Ii (ofNat (hl (hget ls (nat x0))))::Ii x2::(us 9 (zs 102 []))))) [(200000,Blk.rview [Col.hss IntKind.u8 ls]),(900004,Blk.heap IntKind.u8 x3)]
def lapart.l3 (R : AV → Mem → Prop) (x5 : Int) (ls x6 : List HS) (fuel x8 x9 x10 : Nat) (x11 : Int) (x12 : List (List Int)) : Prop := run Try.prog gam0 [] (resh Try.prog [] Try.f17.results.toList R) fuel [kc Try.f17 [1,1,1,0,1,0,0,1,1,0,0,1,1,0,1,0,0],ki Try.f17 [1,1,1,0,1,0,0,1,1,0,0,1,1,0,1,0,0],.inBlock 6,kc Try.f17 [1,1,1,0,1,0,0,1,1,0,0,1,1,1],.inBlock 5,kc Try.f17 [1,1,1,0,1,0,0,1,1,1],ki Try.f17 [1,1,1,0,1,0,0],.inBlock 4,kc Try.f17 [1,1,1,1]] (Vv 200000::(us 5 (Vv 37::Ii x5::AV.one (AC.hs IntKind.u8 (hj (hget ls (nat x5))) (ho (hget ls (nat x5))) (hl (hget ls (nat x5))))::AV.one (AC.hs IntKind.u8 x8 x9 x10)::(zs 6 (us 22 (Vv 200000::Ii (ofNat (llen ls))::Ii x5::Ll true::Ii x5::AV.one (AC.vptr 200000 1 (nat x5) 0 0)::AV.one (AC.hs IntKind.u8 (hj (hget ls (nat x5))) (ho (hget ls (nat x5))) (hl (hget ls (nat x5))))::AV.one (AC.hs IntKind.u8 (hj (hget ls (nat x5))) (ho (hget ls (nat x5))) (hl (hget ls (nat x5))))::Ii x11::(us 13 (zs 77 [])))))))) [(37,Blk.vec [Col.hss IntKind.u8 x6]),(200000,Blk.rview [Col.hss IntKind.u8 ls]),(900004,Blk.heap IntKind.u8 x12)]
def lapart.l5 (R : AV → Mem → Prop) (x16 : Int) (x6 x17 ls : List HS) (fuel x19 x20 x21 : Nat) (x22 : Int) (x23 : List (List Int)) : Prop := run Try.prog gam0 [] (resh Try.prog [] Try.f17.results.toList R) fuel [kc Try.f17 [1,1,1,1,0,1,0,0,1,1,0,0,1,0,1,0,0],ki Try.f17 [1,1,1,1,0,1,0,0,1,1,0,0,1,0,1,0,0],.inBlock 10,kc Try.f17 [1,1,1,1,0,1,0,0,1,1,0,0,1,1],.inBlock 9,kc Try.f17 [1,1,1,1,0,1,0,0,1,1,1],ki Try.f17 [1,1,1,1,0,1,0,0],.inBlock 8,kc Try.f17 [1,1,1,1,1]] (Vv 200000::(us 5 (Vv 37::Uu::Uu::Uu::Ii x16::AV.one (AC.hs IntKind.u8 x19 x20 x21)::(zs 4 (us 44 (Vv 37::Ii (ofNat (llen x6))::Ii x16::Ll true::Ii x16::AV.one (AC.vptr 37 1 (nat x16) 0 0)::AV.one (AC.hs IntKind.u8 (hj (hget x17 (nat x16))) (ho (hget x17 (nat x16))) (hl (hget x17 (nat x16))))::Ii x22::(us 19 (zs 50 [])))))))) [(37,Blk.vec [Col.hss IntKind.u8 x17]),(200000,Blk.rview [Col.hss IntKind.u8 ls]),(900004,Blk.heap IntKind.u8 x23)]
def lapart.l7 (R : AV → Mem → Prop) (x29 : Int) (ls x17 : List HS) (x18 : List (List Int)) (fuel : Nat) (x30 : Int) : Prop := run Try.prog gam0 [] (resh Try.prog [] Try.f17.results.toList R) fuel [kc Try.f17 [1,1,1,1,1,0,1,0,0,1,1,0,0,1,1,0,0],ki Try.f17 [1,1,1,1,1,0,1,0,0,1,1,0,0,1,1,0,0],.inBlock 14,.inBlock 13,kc Try.f17 [1,1,1,1,1,0,1,0,0,1,1,1],ki Try.f17 [1,1,1,1,1,0,1,0,0],.inBlock 12,kc Try.f17 [1,1,1,1,1,1]] (us 6 (Vv 37::(us 5 (Ii x29::AV.one (AC.hs IntKind.u8 (hj (hget ls (nat x29))) (ho (hget ls (nat x29))) (hl (hget ls (nat x29))))::(us 73 (Vv 200000::Ii (ofNat (llen ls))::Ii x29::Ll true::Ii x29::AV.one (AC.vptr 200000 1 (nat x29) 0 0)::AV.one (AC.hs IntKind.u8 (hj (hget ls (nat x29))) (ho (hget ls (nat x29))) (hl (hget ls (nat x29))))::Vv 37::Ii x29::AV.one (AC.vptr 37 1 (nat x29) 0 0)::AV.one (AC.hs IntKind.u8 (hj (hget x17 (nat x29))) (ho (hget x17 (nat x29))) (hl (hget x17 (nat x29))))::Ii (ofNat (hl (hget x17 (nat x29))))::Ii x30::(us 37 []))))))) [(37,Blk.vec [Col.hss IntKind.u8 x17]),(200000,Blk.rview [Col.hss IntKind.u8 ls]),(900004,Blk.heap IntKind.u8 x18)]
def lapart.l6 (R : AV → Mem → Prop) (ls x17 : List HS) (x18 : List (List Int)) (fuel : Nat) (x29 : Int) : Prop := run Try.prog gam0 [] (resh Try.prog [] Try.f17.results.toList R) fuel [kc Try.f17 [1,1,1,1,1,0,1,0,0],ki Try.f17 [1,1,1,1,1,0,1,0,0],.inBlock 12,kc Try.f17 [1,1,1,1,1,1]] (us 6 (Vv 37::(us 80 (Vv 200000::Ii (ofNat (llen ls))::Ii x29::(us 47 []))))) [(37,Blk.vec [Col.hss IntKind.u8 x17]),(200000,Blk.rview [Col.hss IntKind.u8 ls]),(900004,Blk.heap IntKind.u8 x18)]
def lapart.l4 (R : AV → Mem → Prop) (x6 ls : List HS) (fuel : Nat) (x16 : Int) (x17 : List HS) (x18 : List (List Int)) : Prop := run Try.prog gam0 [] (resh Try.prog [] Try.f17.results.toList R) fuel [kc Try.f17 [1,1,1,1,0,1,0,0],ki Try.f17 [1,1,1,1,0,1,0,0],.inBlock 8,kc Try.f17 [1,1,1,1,1]] (Vv 200000::(us 5 (Vv 37::(us 5 (zs 4 (us 44 (Vv 37::Ii (ofNat (llen x6))::Ii x16::(us 24 (zs 50 []))))))))) [(37,Blk.vec [Col.hss IntKind.u8 x17]),(200000,Blk.rview [Col.hss IntKind.u8 ls]),(900004,Blk.heap IntKind.u8 x18)]
def lapart.l2 (R : AV → Mem → Prop) (ls : List HS) (fuel : Nat) (x5 : Int) (x6 : List HS) (x7 : List (List Int)) : Prop := run Try.prog gam0 [] (resh Try.prog [] Try.f17.results.toList R) fuel [kc Try.f17 [1,1,1,0,1,0,0],ki Try.f17 [1,1,1,0,1,0,0],.inBlock 4,kc Try.f17 [1,1,1,1]] (Vv 200000::(us 5 (Vv 37::Uu::Uu::Uu::(zs 6 (us 22 (Vv 200000::Ii (ofNat (llen ls))::Ii x5::(us 19 (zs 77 [])))))))) [(37,Blk.vec [Col.hss IntKind.u8 x6]),(200000,Blk.rview [Col.hss IntKind.u8 ls]),(900004,Blk.heap IntKind.u8 x7)]
def lapart.l0 (R : AV → Mem → Prop) (ls : List HS) (fuel : Nat) (x0 : Int) (x1 : List (List Int)) : Prop := run Try.prog gam0 [] (resh Try.prog [] Try.f17.results.toList R) fuel [kc Try.f17 [1,0,1,0,0],ki Try.f17 [1,0,1,0,0],.inBlock 0,kc Try.f17 [1,1]] (Vv 200000::(us 5 (zs 10 (Vv 200000::Ii (ofNat (llen ls))::Ii x0::(us 16 (zs 102 [])))))) [(200000,Blk.rview [Col.hss IntKind.u8 ls]),(900004,Blk.heap IntKind.u8 x1)]
theorem lapart.l1_succ (R : AV → Mem → Prop) (x0 : Int) (ls : List HS) (fuel : Nat) (x2 : Int) (x3 : List (List Int)) : lapart.l1 R x0 ls (fuel + 1) x2 x3 = (((((ilt x2 (ofNat (hl (hget ls (nat x0))))) = true) → ((InB x2 (hl (hget ls (nat x0)))) ∧ (let y4 : List (List Int) := (llset x3 (hj (hget ls (nat x0))) (lset (llget x3 (hj (hget ls (nat x0)))) (nadd (ho (hget ls (nat x0))) (nat x2)) (conv IntKind.u8 x0))); (lapart.l1 R x0 ls fuel (add IntKind.i64 x2 1) y4)))) ∧ (((ilt x2 (ofNat (hl (hget ls (nat x0))))) = false) → (lapart.l0 R ls fuel (add IntKind.i64 x0 1) x3)))) := by kernel_rfl
theorem lapart.l3_succ (R : AV → Mem → Prop) (x5 : Int) (ls x6 : List HS) (fuel x8 x9 x10 : Nat) (x11 : Int) (x12 : List (List Int)) : lapart.l3 R x5 ls x6 (fuel + 1) x8 x9 x10 x11 x12 = (((((ilt x11 8) = true) → ((Room (nadd x10 (llen [(conv IntKind.u8 (add IntKind.i64 x5 100))])) 1) ∧ (∀ os'13 : List (List Int),(∀ j'14 : Nat,(∀ off'15 : Nat,((AppR x12 x8 x9 x10 [(conv IntKind.u8 (add IntKind.i64 x5 100))] os'13 j'14 off'15) → (lapart.l3 R x5 ls x6 fuel j'14 off'15 (nadd x10 (llen [(conv IntKind.u8 (add IntKind.i64 x5 100))])) (add IntKind.i64 x11 1) os'13))))))) ∧ (((ilt x11 8) = false) → ((InB x5 (llen x6)) ∧ (lapart.l2 R ls fuel (add IntKind.i64 x5 1) (hset x6 (nat x5) (HS.mk x8 x9 x10)) x12))))) := by kernel_rfl
theorem lapart.l5_succ (R : AV → Mem → Prop) (x16 : Int) (x6 x17 ls : List HS) (fuel x19 x20 x21 : Nat) (x22 : Int) (x23 : List (List Int)) : lapart.l5 R x16 x6 x17 ls (fuel + 1) x19 x20 x21 x22 x23 = (((((ilt x22 60) = true) → ((Room (nadd x21 (llen [(conv IntKind.u8 (add IntKind.i64 x16 100)),(conv IntKind.u8 (add IntKind.i64 x16 100)),(conv IntKind.u8 (add IntKind.i64 x16 100))])) 1) ∧ (∀ os'24 : List (List Int),(∀ j'25 : Nat,(∀ off'26 : Nat,((AppR x23 x19 x20 x21 [(conv IntKind.u8 (add IntKind.i64 x16 100)),(conv IntKind.u8 (add IntKind.i64 x16 100)),(conv IntKind.u8 (add IntKind.i64 x16 100))] os'24 j'25 off'26) → (let y27 : Nat := (nadd x21 (llen [(conv IntKind.u8 (add IntKind.i64 x16 100)),(conv IntKind.u8 (add IntKind.i64 x16 100)),(conv IntKind.u8 (add IntKind.i64 x16 100))])); (let y28 : List Int := [(conv IntKind.u8 (add IntKind.i64 x16 100)),(conv IntKind.u8 (add IntKind.i64 x16 100)),(conv IntKind.u8 (add IntKind.i64 x16 100))]; (lapart.l5 R x16 x6 x17 ls fuel j'25 off'26 y27 (add IntKind.i64 x22 1) os'24))))))))) ∧ (((ilt x22 60) = false) → ((InB x16 (llen x17)) ∧ (lapart.l4 R x6 ls fuel (add IntKind.i64 x16 1) (hset x17 (nat x16) (HS.mk x19 x20 x21)) x23))))) := by kernel_rfl
theorem lapart.l7_succ (R : AV → Mem → Prop) (x29 : Int) (ls x17 : List HS) (x18 : List (List Int)) (fuel : Nat) (x30 : Int) : lapart.l7 R x29 ls x17 x18 (fuel + 1) x30 = (((((ilt x30 (ofNat (hl (hget x17 (nat x29))))) = true) → ((InB x30 (hl (hget x17 (nat x29)))) ∧ ((((ilt x30 (ofNat (hl (hget ls (nat x29))))) = true) → ((((ine (lget (llget x18 (hj (hget x17 (nat x29)))) (nadd (ho (hget x17 (nat x29))) (nat x30))) (conv IntKind.u8 x29)) = false) → ((InB x30 (hl (hget ls (nat x29)))) ∧ ((((ine (lget (llget x18 (hj (hget ls (nat x29)))) (nadd (ho (hget ls (nat x29))) (nat x30))) (lget (llget x18 (hj (hget x17 (nat x29)))) (nadd (ho (hget x17 (nat x29))) (nat x30)))) = false) → ((((ige x30 (ofNat (hl (hget ls (nat x29))))) = true) → (let y31 : Bool := (ine (lget (llget x18 (hj (hget x17 (nat x29)))) (nadd (ho (hget x17 (nat x29))) (nat x30))) (conv IntKind.u8 x29)); (let y32 : Bool := (ine (lget (llget x18 (hj (hget ls (nat x29)))) (nadd (ho (hget ls (nat x29))) (nat x30))) (lget (llget x18 (hj (hget x17 (nat x29)))) (nadd (ho (hget x17 (nat x29))) (nat x30)))); (let y33 : Bool := (ine (lget (llget x18 (hj (hget x17 (nat x29)))) (nadd (ho (hget x17 (nat x29))) (nat x30))) (conv IntKind.u8 (add IntKind.i64 x29 100))); (((y33 = true) → (R (Ll false) [(37,Blk.vec [Col.hss IntKind.u8 x17]),(200000,Blk.rview [Col.hss IntKind.u8 ls]),(900004,Blk.heap IntKind.u8 x18)])) ∧ ((y33 = false) → (lapart.l7 R x29 ls x17 x18 fuel (add IntKind.i64 x30 1)))))))) ∧ (((ige x30 (ofNat (hl (hget ls (nat x29))))) = false) → (let y34 : Bool := (ine (lget (llget x18 (hj (hget x17 (nat x29)))) (nadd (ho (hget x17 (nat x29))) (nat x30))) (conv IntKind.u8 x29)); (let y35 : Bool := (ine (lget (llget x18 (hj (hget ls (nat x29)))) (nadd (ho (hget ls (nat x29))) (nat x30))) (lget (llget x18 (hj (hget x17 (nat x29)))) (nadd (ho (hget x17 (nat x29))) (nat x30)))); (lapart.l7 R x29 ls x17 x18 fuel (add IntKind.i64 x30 1))))))) ∧ (((ine (lget (llget x18 (hj (hget ls (nat x29)))) (nadd (ho (hget ls (nat x29))) (nat x30))) (lget (llget x18 (hj (hget x17 (nat x29)))) (nadd (ho (hget x17 (nat x29))) (nat x30)))) = true) → (let y36 : Bool := (ine (lget (llget x18 (hj (hget x17 (nat x29)))) (nadd (ho (hget x17 (nat x29))) (nat x30))) (conv IntKind.u8 x29)); (let y37 : Bool := (ine (lget (llget x18 (hj (hget ls (nat x29)))) (nadd (ho (hget ls (nat x29))) (nat x30))) (lget (llget x18 (hj (hget x17 (nat x29)))) (nadd (ho (hget x17 (nat x29))) (nat x30)))); (R (Ll false) [(37,Blk.vec [Col.hss IntKind.u8 x17]),(200000,Blk.rview [Col.hss IntKind.u8 ls]),(900004,Blk.heap IntKind.u8 x18)]))))))) ∧ (((ine (lget (llget x18 (hj (hget x17 (nat x29)))) (nadd (ho (hget x17 (nat x29))) (nat x30))) (conv IntKind.u8 x29)) = true) → (let y38 : Bool := (ine (lget (llget x18 (hj (hget x17 (nat x29)))) (nadd (ho (hget x17 (nat x29))) (nat x30))) (conv IntKind.u8 x29)); (R (Ll false) [(37,Blk.vec [Col.hss IntKind.u8 x17]),(200000,Blk.rview [Col.hss IntKind.u8 ls]),(900004,Blk.heap IntKind.u8 x18)]))))) ∧ (((ilt x30 (ofNat (hl (hget ls (nat x29))))) = false) → ((((ige x30 (ofNat (hl (hget ls (nat x29))))) = true) → (let y39 : Bool := (ine (lget (llget x18 (hj (hget x17 (nat x29)))) (nadd (ho (hget x17 (nat x29))) (nat x30))) (conv IntKind.u8 (add IntKind.i64 x29 100))); (((y39 = true) → (R (Ll false) [(37,Blk.vec [Col.hss IntKind.u8 x17]),(200000,Blk.rview [Col.hss IntKind.u8 ls]),(900004,Blk.heap IntKind.u8 x18)])) ∧ ((y39 = false) → (lapart.l7 R x29 ls x17 x18 fuel (add IntKind.i64 x30 1)))))) ∧ (((ige x30 (ofNat (hl (hget ls (nat x29))))) = false) → (lapart.l7 R x29 ls x17 x18 fuel (add IntKind.i64 x30 1)))))))) ∧ (((ilt x30 (ofNat (hl (hget x17 (nat x29))))) = false) → (lapart.l6 R ls x17 x18 fuel (add IntKind.i64 x29 1))))) := by kernel_rfl
theorem lapart.l6_succ (R : AV → Mem → Prop) (ls x17 : List HS) (x18 : List (List Int)) (fuel : Nat) (x29 : Int) : lapart.l6 R ls x17 x18 (fuel + 1) x29 = (((((ilt x29 (ofNat (llen ls))) = true) → ((InB x29 (llen ls)) ∧ ((InB x29 (llen x17)) ∧ (lapart.l7 R x29 ls x17 x18 fuel 0)))) ∧ (((ilt x29 (ofNat (llen ls))) = false) → (R (Ll true) [(37,Blk.vec [Col.hss IntKind.u8 x17]),(200000,Blk.rview [Col.hss IntKind.u8 ls]),(900004,Blk.heap IntKind.u8 x18)])))) := by kernel_rfl
theorem lapart.l4_succ (R : AV → Mem → Prop) (x6 ls : List HS) (fuel : Nat) (x16 : Int) (x17 : List HS) (x18 : List (List Int)) : lapart.l4 R x6 ls (fuel + 1) x16 x17 x18 = (((((ilt x16 (ofNat (llen x6))) = true) → ((InB x16 (llen x17)) ∧ (lapart.l5 R x16 x6 x17 ls fuel (hj (hget x17 (nat x16))) (ho (hget x17 (nat x16))) (hl (hget x17 (nat x16))) 0 x18))) ∧ (((ilt x16 (ofNat (llen x6))) = false) → (lapart.l6 R ls x17 x18 fuel 0)))) := by kernel_rfl
theorem lapart.l2_succ (R : AV → Mem → Prop) (ls : List HS) (fuel : Nat) (x5 : Int) (x6 : List HS) (x7 : List (List Int)) : lapart.l2 R ls (fuel + 1) x5 x6 x7 = (((((ilt x5 (ofNat (llen ls))) = true) → ((InB x5 (llen ls)) ∧ (lapart.l3 R x5 ls x6 fuel (hj (hget ls (nat x5))) (ho (hget ls (nat x5))) (hl (hget ls (nat x5))) 0 x7))) ∧ (((ilt x5 (ofNat (llen ls))) = false) → (lapart.l4 R x6 ls fuel 0 x6 x7)))) := by kernel_rfl
theorem lapart.l0_succ (R : AV → Mem → Prop) (ls : List HS) (fuel : Nat) (x0 : Int) (x1 : List (List Int)) : lapart.l0 R ls (fuel + 1) x0 x1 = (((((ilt x0 (ofNat (llen ls))) = true) → ((InB x0 (llen ls)) ∧ (lapart.l1 R x0 ls fuel 0 x1))) ∧ (((ilt x0 (ofNat (llen ls))) = false) → ((Mk (ofNat (llen ls)) (ofNat (llen ls)) 24) ∧ (lapart.l2 R ls fuel 0 (hzeros (nat (ofNat (llen ls)))) x1))))) := by kernel_rfl
theorem lapart_vc (R : AV → Mem → Prop) (fuel : Nat) (ls : List HS) (os : List (List Int)) : callsx Try.prog gam0 [] Try.f17 (fuel + 1) [.one (.vec 200000)] [(200000, .rview [.hss .u8 ls]), (900004, .heap .u8 os)] R = ((lapart.l0 R ls fuel 0 os)) := by kernel_rfl
end Go.Proofs.Ytacnldmmacjpoaa.G
namespace Go.Proofs.Ytacnldmmacjpoaa.G
open Go Go.Sx
set_option maxRecDepth 20000
def mk1 (k : Nat) : Int := conv .u8 (k : Int)
def mk2 (k : Nat) : Int := conv .u8 (add .i64 (k : Int) 100)
structure ApartIn (ls : List HS) : Prop where
 n : ls.length ≤ 1000000
 le : ∀ k, k < ls.length → (hget ls k).len ≤ 140737488355328
theorem tot_one : ∀ i m, tot (fun _ => 1) i m = m
 | _, 0 => rfl
 | i, m + 1 => by simp only [tot, tot_one (i + 1) m]; omega
theorem hset_len (l : List HS) (i : Nat) (v : HS) : (hset l i v).length = l.length := by simp [hset]
theorem lapart_look {R : AV → Mem → Prop} {ls : List HS} {os : List (List Int)} (hI : ApartIn ls) (hR : ∀ gs H, Same ls os H → R (.one (.lit true)) [(37, Blk.vec [.hss .u8 gs]), (200000, .rview [.hss .u8 ls]), (900004, .heap .u8 H)]) : ∃ f, ∀ gs H, GF ls os mk1 mk2 (fun _ => 188) gs H → lapart.l6 R ls gs H f 0 := by
 have hn := hI.n
 refine ⟨1 + tot (fun i => (hget ls i).len + 190) 0 ls.length, fun gs H hG => ?_⟩
 have hlen := hG.len
 refine loop_inv (fun f i (_ : Unit) => lapart.l6 R ls gs H f i) ls.length (fun _ _ => True) (fun i => (hget ls i).len + 190) 1 (fun g i _ hi _ hnext => ?_) (fun _ _ => ?_) ls.length 0 () (by omega) trivial
 ·have hrest := hnext () trivial
  obtain ⟨o1, o2, o3, o4⟩ := hG.own i hi
  obtain ⟨p1, p2, p3⟩ := hG.old i hi
  have hd := hI.le i hi
  have key := loop_n (fun f t (_ : Unit) => lapart.l7 R (i : Int) ls gs H f t) (hget gs i).len (fun _ => ()) 1 (g + 1) (fun f t ht hf => by
   show lapart.l7 R (i : Int) ls gs H (f + 1) (t : Int)
   rw [lapart.l7_succ]
   have a1 : add .i64 (t : Int) 1 = ((t + 1 : Nat) : Int) := add1_i64 (by omega)
   have v := o4 t ht
   simp only [nat_cast, ofNat_def, nadd_def, hj, ho, hl, v, a1]
   refine ⟨fun _ => ⟨⟨by omega, by omega⟩, fun q => ?_, fun q => ?_⟩, fun q => ?_⟩
   ·rw [ilt_true] at q
    have q' : t < (hget ls i).len := by omega
    have e : ine (mk1 i) (conv .u8 (i : Int)) = false := ine_self _
    have p := p3 t q'
    simp only [if_pos q', p, e, ine_self]
    refine ⟨fun _ => ⟨⟨by omega, by omega⟩, fun _ => ⟨fun q2 => ?_, fun _ => hf⟩, fun q2 => (by cases q2)⟩, fun q2 => (by cases q2)⟩
    rw [ige_true] at q2; omega
   ·rw [ilt_false] at q
    have q' : ¬ t < (hget ls i).len := by omega
    have e : ine (mk2 i) (conv .u8 (add .i64 (i : Int) 100)) = false := ine_self _
    simp only [if_neg q', e]
    exact ⟨fun _ => ⟨fun q2 => (by cases q2), fun _ => hf⟩, fun _ => hf⟩
   ·rw [ilt_false] at q; omega) (by
   show lapart.l7 R (i : Int) ls gs H (g + 1) (((hget gs i).len : Nat) : Int)
   rw [lapart.l7_succ]
   have a1 : add .i64 (i : Int) 1 = ((i + 1 : Nat) : Int) := add1_i64 (by omega)
   refine ⟨fun q => ?_, fun _ => by rw [a1]; exact hrest⟩
   rw [ilt_true] at q
   simp only [nat_cast, ofNat_def, hl] at q
   omega) 0 (Nat.zero_le _)
  show lapart.l6 R ls gs H (g + ((hget ls i).len + 190)) (i : Int)
  rw [show g + ((hget ls i).len + 190) = (g + 1 + 1 * ((hget gs i).len - 0)) + 1 by omega, lapart.l6_succ]
  refine ⟨fun _ => ⟨⟨by omega, by rw [llen]; omega⟩, ⟨by omega, by rw [llen]; omega⟩, key⟩, fun q => ?_⟩
  rw [ilt_false] at q
  simp only [ofNat_def, llen] at q
  omega
 ·show lapart.l6 R ls gs H (0 + 1) ((ls.length : Nat) : Int)
  rw [lapart.l6_succ]
  refine ⟨fun q => ?_, fun _ => hR gs H hG.fr.sm⟩
  rw [ilt_true] at q
  simp only [ofNat_def, llen] at q
  omega
set_option maxHeartbeats 1000000 in
theorem lapart_more {R : AV → Mem → Prop} {ls : List HS} {os : List (List Int)} {f6 : Nat} (hI : ApartIn ls) (look : ∀ gs H, GF ls os mk1 mk2 (fun _ => 188) gs H → lapart.l6 R ls gs H f6 0) : ∃ f, ∀ gs H, GF ls os mk1 mk2 (fun _ => 8) gs H → lapart.l4 R gs ls f 0 gs H := by
 have hn := hI.n
 suffices h : ∃ F, ∀ x6 : List HS, x6.length = ls.length → ∀ s : List HS × List (List Int), GF ls os mk1 mk2 (fun _ => 8) s.1 s.2 → lapart.l4 R x6 ls F 0 s.1 s.2 from ⟨h.choose, fun gs H hG => h.choose_spec gs hG.len (gs, H) hG⟩
 refine ⟨(f6 + 1) + tot (fun _ => 62) 0 ls.length, fun x6 hx6 s hs => ?_⟩
 refine loop_inv (fun f i (s : List HS × List (List Int)) => lapart.l4 R x6 ls f i s.1 s.2) ls.length (fun i s => GF ls os mk1 mk2 (fun k => if k < i then 188 else 8) s.1 s.2) (fun _ => 62) (f6 + 1) (fun gf i s hi hG hnext => ?_) (fun s hG => ?_) ls.length 0 s (by omega) (hs.congr fun k _ => by simp)
 ·obtain ⟨gs, H⟩ := s
  have hlen : gs.length = ls.length := hG.len
  have hd := hI.le i hi
  have inner := loop_inv (fun f r (t : HS × List (List Int)) => lapart.l5 R (i : Int) x6 gs ls f t.1.j t.1.off t.1.len r t.2) 60 (fun r t => ∃ V, GF ls os mk1 mk2 (fun k => if k < i then 188 else if k = i then 8 + 3 * r else 8) V t.2 ∧ hget V i = t.1 ∧ ∀ k, k < ls.length → k ≠ i → hget V k = hget gs k) (fun _ => 1) (gf + 1) (fun g r t hr hJ hnx => by
   obtain ⟨V, hV, hVi, hVk⟩ := hJ
   obtain ⟨o1, o2, o3, o4⟩ := hV.own i hi
   have hVl := hV.len
   rw [hVi] at o1 o2 o3
   rw [if_neg (by omega), if_pos rfl] at o2
   have a1 : add .i64 (r : Int) 1 = ((r + 1 : Nat) : Int) := add1_i64 (by omega)
   show lapart.l5 R (i : Int) x6 gs ls (g + 1) t.1.j t.1.off t.1.len (r : Int) t.2
   rw [lapart.l5_succ]
   refine ⟨fun _ => ⟨⟨?_⟩, fun os' j' off' hA => ?_⟩, fun q => ?_⟩
   ·show (5 * (t.1.len + 3) + 4096) * 1 ≤ _
    omega
   ·rw [a1]
    have hA' : AppR t.2 (hget V i).j (hget V i).off (hget V i).len (List.replicate 3 (mk2 i)) os' j' off' := by rw [hVi]; exact hA
    have hstep := gf_step (by omega) hV hi hA'
    rw [hVi] at hstep
    exact hnx (⟨j', off', t.1.len + 3⟩, os') ⟨_, hstep.congr fun k hk => by
     by_cases e : k = i
     ·subst e; simp; omega
     ·simp only [if_neg e], by rw [hget_set _ _ _ _ (by omega), if_pos rfl], fun k hk e => by rw [hget_set _ _ _ _ (by omega), if_neg e]; exact hVk k hk e⟩
   ·rw [ilt_false] at q; omega) (fun t hJ => by
   obtain ⟨V, hV, hVi, hVk⟩ := hJ
   have a1 : add .i64 (i : Int) 1 = ((i + 1 : Nat) : Int) := add1_i64 (by omega)
   show lapart.l5 R (i : Int) x6 gs ls (gf + 1) t.1.j t.1.off t.1.len ((60 : Nat) : Int) t.2
   rw [lapart.l5_succ]
   refine ⟨fun q => ?_, fun _ => ⟨⟨by omega, by rw [llen]; omega⟩, ?_⟩⟩
   ·rw [ilt_true] at q; omega
   ·rw [a1, nat_cast]
    refine hnext (hset gs i t.1, t.2) (hV.agree (by rw [hset_len]; exact hlen) (fun k hk => ?_) (fun k hk => ?_))
    ·rw [hget_set _ _ _ _ (by omega)]
     by_cases e : k = i
     ·subst e; rw [if_pos rfl]; exact hVi.symm
     ·rw [if_neg e]; exact (hVk k hk e).symm
    ·by_cases e : k = i
     ·subst e; simp
     ·by_cases e2 : k < i
      ·rw [if_pos e2, if_pos (by omega)]
      ·rw [if_neg e2, if_neg e, if_neg (by omega)]) 60 0 (hget gs i, H) (by omega) ⟨gs, hG.congr fun k hk => by
    by_cases e : k = i
    ·subst e; simp
    ·simp only [if_neg e], rfl, fun _ _ _ => rfl⟩
  rw [tot_one] at inner
  show lapart.l4 R x6 ls (gf + 62) (i : Int) gs H
  rw [show gf + 62 = (gf + 1 + 60) + 1 by omega, lapart.l4_succ]
  refine ⟨fun _ => ⟨⟨by omega, by rw [llen]; omega⟩, ?_⟩, fun q => ?_⟩
  ·rw [nat_cast]; exact inner
  ·rw [ilt_false] at q; simp only [ofNat_def, llen] at q; omega
 ·obtain ⟨gs, H⟩ := s
  show lapart.l4 R x6 ls (f6 + 1) ((ls.length : Nat) : Int) gs H
  rw [lapart.l4_succ]
  refine ⟨fun q => ?_, fun _ => look gs H (hG.congr fun k hk => by rw [if_pos hk])⟩
  rw [ilt_true] at q; simp only [ofNat_def, llen] at q; omega
set_option maxHeartbeats 1000000 in
theorem lapart_few {R : AV → Mem → Prop} {ls os : _} {f4 : Nat} (hO : ApartOk2 ls os) (hI : ApartIn ls) (more : ∀ gs H, GF ls os mk1 mk2 (fun _ => 8) gs H → lapart.l4 R gs ls f4 0 gs H) : ∃ f, ∀ H, MF ls os mk1 ls.length 0 H → lapart.l2 R ls f 0 (hzeros ls.length) H := by
 have hn := hI.n
 refine ⟨(f4 + 1) + tot (fun _ => 10) 0 ls.length, fun H hM => ?_⟩
 refine loop_inv (fun f i (s : List HS × List (List Int)) => lapart.l2 R ls f i s.1 s.2) ls.length (fun i s => s.1.length = ls.length ∧ ∃ V, GF ls os mk1 mk2 (fun k => if k < i then 8 else 0) V s.2 ∧ (∀ k, k < i → k < ls.length → hget s.1 k = hget V k) ∧ ∀ k, i ≤ k → k < ls.length → hget V k = hget ls k) (fun _ => 10) (f4 + 1) (fun gf i s hi hJ hnext => ?_) (fun s hJ => ?_) ls.length 0 (hzeros ls.length, H) (by omega) ⟨by simp [hzeros], ls, (gf_start mk2 hO hM rfl fun _ _ => rfl).congr fun k _ => by simp, fun k h => by omega, fun _ _ _ => rfl⟩
 ·obtain ⟨gs, H⟩ := s
  obtain ⟨hlen, V0, hV0, hA0, hB0⟩ := hJ
  have hlen : gs.length = ls.length := hlen
  have hd := hI.le i hi
  have inner := loop_inv (fun f r (t : HS × List (List Int)) => lapart.l3 R (i : Int) ls gs f t.1.j t.1.off t.1.len r t.2) 8 (fun r t => ∃ V, GF ls os mk1 mk2 (fun k => if k < i then 8 else if k = i then r else 0) V t.2 ∧ hget V i = t.1 ∧ (∀ k, k < i → k < ls.length → hget gs k = hget V k) ∧ ∀ k, i < k → k < ls.length → hget V k = hget ls k) (fun _ => 1) (gf + 1) (fun g r t hr hJ hnx => by
   obtain ⟨V, hV, hVi, hVa, hVb⟩ := hJ
   obtain ⟨o1, o2, o3, o4⟩ := hV.own i hi
   have hVl := hV.len
   rw [hVi] at o1 o2 o3
   rw [if_neg (by omega), if_pos rfl] at o2
   have a1 : add .i64 (r : Int) 1 = ((r + 1 : Nat) : Int) := add1_i64 (by omega)
   show lapart.l3 R (i : Int) ls gs (g + 1) t.1.j t.1.off t.1.len (r : Int) t.2
   rw [lapart.l3_succ]
   refine ⟨fun _ => ⟨⟨?_⟩, fun os' j' off' hA => ?_⟩, fun q => ?_⟩
   ·show (5 * (t.1.len + 1) + 4096) * 1 ≤ _
    omega
   ·rw [a1]
    have hA' : AppR t.2 (hget V i).j (hget V i).off (hget V i).len (List.replicate 1 (mk2 i)) os' j' off' := by rw [hVi]; exact hA
    have hstep := gf_step (by omega) hV hi hA'
    rw [hVi] at hstep
    exact hnx (⟨j', off', t.1.len + 1⟩, os') ⟨_, hstep.congr fun k hk => by
     by_cases e : k = i
     ·subst e; simp
     ·simp only [if_neg e], by rw [hget_set _ _ _ _ (by omega), if_pos rfl], fun k h1 h2 => by rw [hget_set _ _ _ _ (by omega), if_neg (by omega)]; exact hVa k h1 h2, fun k h1 h2 => by rw [hget_set _ _ _ _ (by omega), if_neg (by omega)]; exact hVb k h1 h2⟩
   ·rw [ilt_false] at q; omega) (fun t hJ => by
   obtain ⟨V, hV, hVi, hVa, hVb⟩ := hJ
   have a1 : add .i64 (i : Int) 1 = ((i + 1 : Nat) : Int) := add1_i64 (by omega)
   show lapart.l3 R (i : Int) ls gs (gf + 1) t.1.j t.1.off t.1.len ((8 : Nat) : Int) t.2
   rw [lapart.l3_succ]
   refine ⟨fun q => ?_, fun _ => ⟨⟨by omega, by rw [llen]; omega⟩, ?_⟩⟩
   ·rw [ilt_true] at q; omega
   ·rw [a1, nat_cast]
    refine hnext (hset gs i t.1, t.2) ⟨by rw [hset_len]; exact hlen, V, hV.congr fun k hk => ?_, fun k h1 h2 => ?_, fun k h1 h2 => hVb k (by omega) h2⟩
    ·by_cases e : k = i
     ·subst e; simp
     ·by_cases e2 : k < i
      ·rw [if_pos e2, if_pos (by omega)]
      ·rw [if_neg e2, if_neg e, if_neg (by omega)]
    ·rw [hget_set _ _ _ _ (by omega)]
     by_cases e : k = i
     ·subst e; rw [if_pos rfl]; exact hVi.symm
     ·rw [if_neg e]; exact hVa k (by omega) h2) 8 0 (hget ls i, H) (by omega) ⟨V0, hV0.congr fun k hk => by
    by_cases e : k = i
    ·subst e; simp
    ·simp only [if_neg e], hB0 i (Nat.le_refl _) hi, hA0, fun k h1 h2 => hB0 k (by omega) h2⟩
  rw [tot_one] at inner
  show lapart.l2 R ls (gf + 10) (i : Int) gs H
  rw [show gf + 10 = (gf + 1 + 8) + 1 by omega, lapart.l2_succ]
  refine ⟨fun _ => ⟨⟨by omega, by rw [llen]; omega⟩, ?_⟩, fun q => ?_⟩
  ·rw [nat_cast]; exact inner
  ·rw [ilt_false] at q; simp only [ofNat_def, llen] at q; omega
 ·obtain ⟨gs, H⟩ := s
  obtain ⟨hlen, V0, hV0, hA0, hB0⟩ := hJ
  show lapart.l2 R ls (f4 + 1) ((ls.length : Nat) : Int) gs H
  rw [lapart.l2_succ]
  refine ⟨fun q => ?_, fun _ => more gs H (hV0.agree hlen (fun k hk => hA0 k hk hk) fun k hk => by rw [if_pos hk])⟩
  rw [ilt_true] at q; simp only [ofNat_def, llen] at q; omega
theorem lapart_marks {R : AV → Mem → Prop} {ls os : _} {f2 : Nat} (hO : ApartOk2 ls os) (hI : ApartIn ls) (few : ∀ H, MF ls os mk1 ls.length 0 H → lapart.l2 R ls f2 0 (hzeros ls.length) H) : ∃ f, lapart.l0 R ls f 0 os := by
 have hn := hI.n
 refine ⟨(f2 + 1) + tot (fun i => (hget ls i).len + 2) 0 ls.length, ?_⟩
 refine loop_inv (fun f i (H : List (List Int)) => lapart.l0 R ls f i H) ls.length (fun i H => MF ls os mk1 i 0 H) (fun i => (hget ls i).len + 2) (f2 + 1) (fun g i H hi hM hnext => ?_) (fun H hM => ?_) ls.length 0 os (by omega) ⟨⟨hO.z, fun k hk => ⟨(hO.inn k hk).1, (hO.inn k hk).2.1⟩, fun k hk u hu q => by omega⟩, Frm.start ls os⟩
 ·have hd := hI.le i hi
  have inner := loop_inv (fun f t (H : List (List Int)) => lapart.l1 R (i : Int) ls f t H) (hget ls i).len (fun t H => MF ls os mk1 i t H) (fun _ => 1) (g + 1) (fun g' t H ht hJ hnx => by
   have a2 : add .i64 (t : Int) 1 = ((t + 1 : Nat) : Int) := add1_i64 (by omega)
   show lapart.l1 R (i : Int) ls (g' + 1) (t : Int) H
   rw [lapart.l1_succ]
   refine ⟨fun _ => ⟨⟨by omega, by simp only [nat_cast, hl]; omega⟩, ?_⟩, fun q => ?_⟩
   ·rw [a2]
    exact hnx _ (mf_step hO hJ hi ht)
   ·rw [ilt_false] at q; simp only [nat_cast, ofNat_def, hl] at q; omega) (fun H hJ => by
   have a1 : add .i64 (i : Int) 1 = ((i + 1 : Nat) : Int) := add1_i64 (by omega)
   show lapart.l1 R (i : Int) ls (g + 1) ((hget ls i).len : Int) H
   rw [lapart.l1_succ]
   refine ⟨fun q => ?_, fun _ => by rw [a1]; exact hnext H (mf_next hJ)⟩
   rw [ilt_true] at q; simp only [nat_cast, ofNat_def, hl] at q; omega) (hget ls i).len 0 H (by omega) hM
  rw [tot_one] at inner
  show lapart.l0 R ls (g + ((hget ls i).len + 2)) (i : Int) H
  rw [show g + ((hget ls i).len + 2) = (g + 1 + (hget ls i).len) + 1 by omega, lapart.l0_succ]
  refine ⟨fun _ => ⟨⟨by omega, by rw [llen]; omega⟩, inner⟩, fun q => ?_⟩
  rw [ilt_false] at q; simp only [ofNat_def, llen] at q; omega
 ·show lapart.l0 R ls (f2 + 1) ((ls.length : Nat) : Int) H
  rw [lapart.l0_succ]
  refine ⟨fun q => ?_, fun _ => ⟨⟨by simp only [ofNat_def]; omega, by omega, by simp only [ofNat_def, llen]; omega, by simp only [ofNat_def, llen]; omega⟩, few H hM⟩⟩
  rw [ilt_true] at q; simp only [ofNat_def, llen] at q; omega
theorem lapart_yes {R : AV → Mem → Prop} {ls os : _} (hO : ApartOk2 ls os) (hI : ApartIn ls) (hR : ∀ gs H, Same ls os H → R (.one (.lit true)) [(37, Blk.vec [.hss .u8 gs]), (200000, .rview [.hss .u8 ls]), (900004, .heap .u8 H)]) : ∃ f, callsx Try.prog gam0 [] Try.f17 f [.one (.vec 200000)] [(200000, .rview [.hss .u8 ls]), (900004, .heap .u8 os)] R := by
 obtain ⟨f6, h6⟩ := lapart_look hI hR
 obtain ⟨f4, h4⟩ := lapart_more hI h6
 obtain ⟨f2, h2⟩ := lapart_few hO hI h4
 obtain ⟨f0, h0⟩ := lapart_marks hO hI h2
 exact ⟨f0 + 1, by rw [lapart_vc]; exact h0⟩
end Go.Proofs.Ytacnldmmacjpoaa.G
namespace Go.Sx
open Go Go.Proofs.Ytacnldmmacjpoaa.G
def apartQ : Spec := ⟨0, true, fun _ args σ K => match args with
 | [.one (.vec n)] => match Mem.cols σ n, Mem.heap σ .u8 with
  | some [.hss .u8 ls], some os => (ApartOk2 ls os ∧ ApartIn ls) ∧ ∀ os', Same ls os os' → K (.one (.lit true)) (σ.put 900004 (.heap .u8 os'))
  | _, _ => False
 | _ => False⟩
end Go.Sx
namespace Go.Proofs.Ytacnldmmacjpoaa.G
open Go Go.Sx
theorem good_apart : Sx.Good Try.prog 17 apartQ := by
 refine Sx.Good.heap (D := []) mixed (good0 _) Try.func17 (by kernel_rfl) rfl fun d args σ K h => ?_
 simp only [apartQ] at h
 split at h <;> try exact h.elim
 rename_i n
 split at h <;> try exact h.elim
 rename_i ls os hcs ho
 obtain ⟨⟨hO, hI⟩, hK⟩ := h
 refine ⟨.u8, os, _, _, [(200000, .rview [.hss .u8 ls]), (900004, .heap .u8 os)], ho, .row _ hcs (.nil _), by simp, fun m => ?_, lapart_yes hO hI fun gs H hS => ⟨H, .one (.lit true), rfl, fun m hm => by simp [AV.refs, AC.refs] at hm, fun ρ v hv => hv, hK H hS⟩⟩
 simp only [Mem.find, hname]
 by_cases h1 : 200000 = m
 ·subst h1; simp
 ·by_cases h2 : 900004 = m
  ·subst h2; simp
  ·simp [h1, h2]
end Go.Proofs.Ytacnldmmacjpoaa.G
