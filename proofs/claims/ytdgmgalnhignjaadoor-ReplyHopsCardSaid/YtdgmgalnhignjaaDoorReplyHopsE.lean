/- Own texts of this proof, laid one behind the other: BlkH, BlkP6, BlkP7, BlkH2, BlkP8, BlkP9, CellB, CellG, CellP, CellP2, CellP3, SxQ, OniM, OniG, HshN, MacX, OniP, OniP2. -/
import Derived.Test.YtdgmgalnhignjaaDoorReplyHopsD
import Derived.Test.YtdgmgalnhignjaaDoorProg

/- The verification conditions of functions, printed by a program of this session out of their codes. -/
namespace Go.Proofs.YtdgmgalnhignjaaDoor.G
open Go Go.Sx Go.Fld Go.Blk
set_option linter.unusedVariables false
set_option maxRecDepth 100000

def encS.l0 (R : AV → Mem → Prop) (w : List Int) (fuel : Nat) (x0 : Int) (x1 : List Int) : Prop := run Tryd.prog gamB2 [] (resh Tryd.prog [] Tryd.f62.results.toList R) fuel [.code (cAt (bodyOf Tryd.f62) [1, 1, 0, 1, 0, 0]), .inLoop (cAt (bodyOf Tryd.f62) [1, 1, 0, 1, 0, 0]), .inBlock 0, .code (cAt (bodyOf Tryd.f62) [1, 1, 1])] [AV.undef, AV.undef, (AV.one (AC.con (Value.func (Fn.func 60) (List.toArray []) (List.toArray [])))), (AV.one (AC.ptr 3 0 0)), AV.undef, AV.undef, (AV.one (AC.ptr 6 0 0)), (AV.one (AC.ptr 7 0 0)), (AV.one (AC.int IntKind.i64 x0)), AV.undef, AV.undef, AV.undef, AV.undef, AV.undef, AV.undef, AV.undef, AV.undef, AV.undef, AV.undef, AV.undef, AV.undef, AV.undef, AV.undef, AV.undef, AV.undef, AV.undef, AV.undef, AV.undef, AV.undef, AV.undef, AV.undef, AV.undef, (AV.tup [])] [(3, Blk.own 90 [(Seg.ints IntKind.u8 176 w)]), (6, Blk.own 23 [(Seg.ints IntKind.u8 16 (lzeros 16))]), (7, Blk.own 87 [(Seg.ints IntKind.u8 16 x1)])]

theorem encS.l0_succ (R : AV → Mem → Prop) (w : List Int) (fuel : Nat) (x0 : Int) (x1 : List Int) : encS.l0 R w (fuel + 1) x0 x1 = (((((ile x0 10) = true) → ((Go.Blk.BL 16 x1) ∧ (((Go.Blk.BL 16 (Go.Blk.qe fsub x1)) ∧ (InB 1 4)) ∧ ((((ilt x0 10) = true) → ((Go.Blk.BL 16 (Go.Blk.qt 1 (Go.Blk.qe fsub x1))) ∧ ((InB x0 11) ∧ ((Fits (nadd (nadd 0 (nmul (nat x0) 16)) 16) 176) ∧ (((Go.Blk.BL 16 (Go.Blk.qc [2, 3, 1, 1] (Go.Blk.qt 1 (Go.Blk.qe fsub x1)))) ∧ (Go.Blk.BL 16 (lsub w (nadd 0 (nmul (nat x0) 16)) 16))) ∧ (encS.l0 R w fuel (add IntKind.i64 x0 1) (Go.Blk.qx (Go.Blk.qc [2, 3, 1, 1] (Go.Blk.qt 1 (Go.Blk.qe fsub x1))) (lsub w (nadd 0 (nmul (nat x0) 16)) 16)))))))) ∧ (((ilt x0 10) = false) → ((InB x0 11) ∧ ((Fits (nadd (nadd 0 (nmul (nat x0) 16)) 16) 176) ∧ (((Go.Blk.BL 16 (Go.Blk.qt 1 (Go.Blk.qe fsub x1))) ∧ (Go.Blk.BL 16 (lsub w (nadd 0 (nmul (nat x0) 16)) 16))) ∧ (encS.l0 R w fuel (add IntKind.i64 x0 1) (Go.Blk.qx (Go.Blk.qt 1 (Go.Blk.qe fsub x1)) (lsub w (nadd 0 (nmul (nat x0) 16)) 16))))))))))) ∧ (((ile x0 10) = false) → (R (AV.agg [(Seg.ints IntKind.u8 16 x1)]) [(3, Blk.own 90 [(Seg.ints IntKind.u8 176 w)]), (6, Blk.own 23 [(Seg.ints IntKind.u8 16 x1)]), (7, Blk.own 87 [(Seg.ints IntKind.u8 16 x1)])])))) := by kernel_rfl
theorem encS_vc (R : AV → Mem → Prop) (fuel : Nat) (w : List Int) (b : List Int) : callsx Tryd.prog gamB2 [] Tryd.f62 (fuel + 1) [.agg [.ints .u8 176 w], .agg [.ints .u8 16 b], .one (.con (.func (.func 60) #[] #[]))] [] R = (((InB 0 11) ∧ ((Fits 16 176) ∧ (((Go.Blk.BL 16 b) ∧ (Go.Blk.BL 16 (lsub w 0 16))) ∧ (encS.l0 R w fuel 1 (Go.Blk.qx b (lsub w 0 16))))))) := by kernel_rfl

def encT.l0 (R : AV → Mem → Prop) (w : List Int) (t : List Int) (fuel : Nat) (x0 : Int) (x1 : List Int) : Prop := run Tryd.prog gamB2 [] (resh Tryd.prog [] Tryd.f62.results.toList R) fuel [.code (cAt (bodyOf Tryd.f62) [1, 1, 0, 1, 0, 0]), .inLoop (cAt (bodyOf Tryd.f62) [1, 1, 0, 1, 0, 0]), .inBlock 0, .code (cAt (bodyOf Tryd.f62) [1, 1, 1])] [AV.undef, AV.undef, (AV.one (AC.clo 61 200002 0 0)), (AV.one (AC.ptr 3 0 0)), AV.undef, AV.undef, (AV.one (AC.ptr 6 0 0)), (AV.one (AC.ptr 7 0 0)), (AV.one (AC.int IntKind.i64 x0)), AV.undef, AV.undef, AV.undef, AV.undef, AV.undef, AV.undef, AV.undef, AV.undef, AV.undef, AV.undef, AV.undef, AV.undef, AV.undef, AV.undef, AV.undef, AV.undef, AV.undef, AV.undef, AV.undef, AV.undef, AV.undef, AV.undef, AV.undef, (AV.tup [])] [(3, Blk.own 90 [(Seg.ints IntKind.u8 176 w)]), (6, Blk.own 23 [(Seg.ints IntKind.u8 16 (lzeros 16))]), (7, Blk.own 87 [(Seg.ints IntKind.u8 16 x1)]), (200002, Blk.view [(Seg.ints IntKind.u8 256 t)])]

theorem encT.l0_succ (R : AV → Mem → Prop) (w : List Int) (t : List Int) (fuel : Nat) (x0 : Int) (x1 : List Int) : encT.l0 R w t (fuel + 1) x0 x1 = (((((ile x0 10) = true) → ((Tbl t) ∧ ((Go.Blk.BL 16 x1) ∧ (((Go.Blk.BL 16 (Go.Blk.qe fsub x1)) ∧ (InB 1 4)) ∧ ((((ilt x0 10) = true) → ((Go.Blk.BL 16 (Go.Blk.qt 1 (Go.Blk.qe fsub x1))) ∧ ((InB x0 11) ∧ ((Fits (nadd (nadd 0 (nmul (nat x0) 16)) 16) 176) ∧ (((Go.Blk.BL 16 (Go.Blk.qc [2, 3, 1, 1] (Go.Blk.qt 1 (Go.Blk.qe fsub x1)))) ∧ (Go.Blk.BL 16 (lsub w (nadd 0 (nmul (nat x0) 16)) 16))) ∧ (encT.l0 R w t fuel (add IntKind.i64 x0 1) (Go.Blk.qx (Go.Blk.qc [2, 3, 1, 1] (Go.Blk.qt 1 (Go.Blk.qe fsub x1))) (lsub w (nadd 0 (nmul (nat x0) 16)) 16)))))))) ∧ (((ilt x0 10) = false) → ((InB x0 11) ∧ ((Fits (nadd (nadd 0 (nmul (nat x0) 16)) 16) 176) ∧ (((Go.Blk.BL 16 (Go.Blk.qt 1 (Go.Blk.qe fsub x1))) ∧ (Go.Blk.BL 16 (lsub w (nadd 0 (nmul (nat x0) 16)) 16))) ∧ (encT.l0 R w t fuel (add IntKind.i64 x0 1) (Go.Blk.qx (Go.Blk.qt 1 (Go.Blk.qe fsub x1)) (lsub w (nadd 0 (nmul (nat x0) 16)) 16)))))))))))) ∧ (((ile x0 10) = false) → (R (AV.agg [(Seg.ints IntKind.u8 16 x1)]) [(3, Blk.own 90 [(Seg.ints IntKind.u8 176 w)]), (6, Blk.own 23 [(Seg.ints IntKind.u8 16 x1)]), (7, Blk.own 87 [(Seg.ints IntKind.u8 16 x1)]), (200002, Blk.view [(Seg.ints IntKind.u8 256 t)])])))) := by kernel_rfl
theorem encT_vc (R : AV → Mem → Prop) (fuel : Nat) (w : List Int) (b : List Int) (t : List Int) : callsx Tryd.prog gamB2 [] Tryd.f62 (fuel + 1) [.agg [.ints .u8 176 w], .agg [.ints .u8 16 b], .one (.clo 61 200002 0 0)] [(200002, .view [.ints .u8 256 t])] R = (((InB 0 11) ∧ ((Fits 16 176) ∧ (((Go.Blk.BL 16 b) ∧ (Go.Blk.BL 16 (lsub w 0 16))) ∧ (encT.l0 R w t fuel 1 (Go.Blk.qx b (lsub w 0 16))))))) := by kernel_rfl

def rWith.l1 (R : AV → Mem → Prop) (x0 : Int) (w : List Int) (x1 : List Int) (fuel : Nat) (x2 : Int) (x3 : List Int) : Prop := run Tryd.prog gamB3 [] (resh Tryd.prog [] Tryd.f69.results.toList R) fuel [.code (cAt (bodyOf Tryd.f69) [1, 1, 0, 1, 0, 0, 1, 0, 0, 1, 0, 1, 0, 0]), .inLoop (cAt (bodyOf Tryd.f69) [1, 1, 0, 1, 0, 0, 1, 0, 0, 1, 0, 1, 0, 0]), .inBlock 2, .code (cAt (bodyOf Tryd.f69) [1, 1, 0, 1, 0, 0, 1, 0, 0, 1, 1]), .inBlock 1, .code (cAt (bodyOf Tryd.f69) [1, 1, 0, 1, 0, 0, 1, 1]), .inLoop (cAt (bodyOf Tryd.f69) [1, 1, 0, 1, 0, 0]), .inBlock 0, .code (cAt (bodyOf Tryd.f69) [1, 1, 1])] [AV.undef, AV.undef, (AV.one (AC.ptr 2 0 0)), (AV.one (AC.ptr 3 0 0)), (AV.one (AC.ptr 4 0 0)), (AV.one (AC.int IntKind.i64 x0)), (AV.one (AC.ptr 6 0 0)), (AV.one (AC.int IntKind.i64 x2)), AV.undef, AV.undef, AV.undef, (AV.one (AC.int IntKind.i64 x0)), (AV.one (AC.lit true)), AV.undef, AV.undef, AV.undef, AV.undef, AV.undef, AV.undef, AV.undef, AV.undef, AV.undef, AV.undef, AV.undef, AV.undef, AV.undef, AV.undef, AV.undef, AV.undef, AV.undef, AV.undef, AV.undef, AV.undef, AV.undef, AV.undef, AV.undef, AV.undef, AV.undef, AV.undef, (AV.tup [])] [(2, Blk.own 106 [(Seg.ints IntKind.u8 176 w)]), (3, Blk.own 23 [(Seg.ints IntKind.u8 16 x1)]), (4, Blk.own 23 [(Seg.ints IntKind.u8 16 (lzeros 16))]), (6, Blk.own 23 [(Seg.ints IntKind.u8 16 x3)])]

def rWith.l0 (R : AV → Mem → Prop) (w : List Int) (fuel : Nat) (x0 : Int) (x1 : List Int) : Prop := run Tryd.prog gamB3 [] (resh Tryd.prog [] Tryd.f69.results.toList R) fuel [.code (cAt (bodyOf Tryd.f69) [1, 1, 0, 1, 0, 0]), .inLoop (cAt (bodyOf Tryd.f69) [1, 1, 0, 1, 0, 0]), .inBlock 0, .code (cAt (bodyOf Tryd.f69) [1, 1, 1])] [AV.undef, AV.undef, (AV.one (AC.ptr 2 0 0)), (AV.one (AC.ptr 3 0 0)), (AV.one (AC.ptr 4 0 0)), (AV.one (AC.int IntKind.i64 x0)), AV.undef, AV.undef, AV.undef, AV.undef, AV.undef, AV.undef, AV.undef, AV.undef, AV.undef, AV.undef, AV.undef, AV.undef, AV.undef, AV.undef, AV.undef, AV.undef, AV.undef, AV.undef, AV.undef, AV.undef, AV.undef, AV.undef, AV.undef, AV.undef, AV.undef, AV.undef, AV.undef, AV.undef, AV.undef, AV.undef, AV.undef, AV.undef, AV.undef, (AV.tup [])] [(2, Blk.own 106 [(Seg.ints IntKind.u8 176 w)]), (3, Blk.own 23 [(Seg.ints IntKind.u8 16 x1)]), (4, Blk.own 23 [(Seg.ints IntKind.u8 16 (lzeros 16))])]

theorem rWith.l1_succ (R : AV → Mem → Prop) (x0 : Int) (w : List Int) (x1 : List Int) (fuel : Nat) (x2 : Int) (x3 : List Int) : rWith.l1 R x0 w x1 (fuel + 1) x2 x3 = (((((ilt x2 16) = true) → ((NeZ 4) ∧ ((NeZ 16) ∧ ((InB (rem (add IntKind.i64 x2 (mul IntKind.i64 4 (rem x2 4))) 16) 16) ∧ ((Low (nadd 0 (nat (rem (add IntKind.i64 x2 (mul IntKind.i64 4 (rem x2 4))) 16))) 16) ∧ ((InB (lget x1 (nadd 0 (nat (rem (add IntKind.i64 x2 (mul IntKind.i64 4 (rem x2 4))) 16)))) 256) ∧ ((InB x2 16) ∧ ((Low (nadd 0 (nat x2)) 16) ∧ (let y4 : Int := (sget boxC (nat (lget x1 (nadd 0 (nat (rem (add IntKind.i64 x2 (mul IntKind.i64 4 (rem x2 4))) 16)))))); (let y5 : List Int := (lset x3 (nadd 0 (nat x2)) (sget boxC (nat (lget x1 (nadd 0 (nat (rem (add IntKind.i64 x2 (mul IntKind.i64 4 (rem x2 4))) 16))))))); (rWith.l1 R x0 w x1 fuel (add IntKind.i64 x2 1) y5))))))))))) ∧ (((ilt x2 16) = false) → ((((ilt x0 10) = true) → ((Go.Blk.BL 16 x3) ∧ ((((Go.Blk.BL 16 (Go.Blk.qc [2, 3, 1, 1] x3)) ∧ (Go.Blk.BL 176 w)) ∧ (InB x0 11)) ∧ (rWith.l0 R w fuel (add IntKind.i64 x0 1) (Go.Blk.qx (Go.Blk.qc [2, 3, 1, 1] x3) (Go.Blk.rk w (nat x0))))))) ∧ (((ilt x0 10) = false) → ((((Go.Blk.BL 16 x3) ∧ (Go.Blk.BL 176 w)) ∧ (InB x0 11)) ∧ (rWith.l0 R w fuel (add IntKind.i64 x0 1) (Go.Blk.qx x3 (Go.Blk.rk w (nat x0)))))))))) := by kernel_rfl
theorem rWith.l0_succ (R : AV → Mem → Prop) (w : List Int) (fuel : Nat) (x0 : Int) (x1 : List Int) : rWith.l0 R w (fuel + 1) x0 x1 = (((((ile x0 10) = true) → (rWith.l1 R x0 w x1 fuel 0 (lzeros 16))) ∧ (((ile x0 10) = false) → (R (AV.agg [(Seg.ints IntKind.u8 16 x1)]) [(2, Blk.own 106 [(Seg.ints IntKind.u8 176 w)]), (3, Blk.own 23 [(Seg.ints IntKind.u8 16 x1)]), (4, Blk.own 23 [(Seg.ints IntKind.u8 16 x1)])])))) := by kernel_rfl
theorem rWith_vc (R : AV → Mem → Prop) (fuel : Nat) (w : List Int) (b : List Int) : callsx Tryd.prog gamB3 [] Tryd.f69 (fuel + 1) [.agg [.ints .u8 176 w], .agg [.ints .u8 16 b]] [] R = (((((Go.Blk.BL 16 b) ∧ (Go.Blk.BL 176 w)) ∧ (InB 0 11)) ∧ (rWith.l0 R w fuel 1 (Go.Blk.qx b (Go.Blk.rk w 0))))) := by kernel_rfl

def bMask.l2 (R : AV → Mem → Prop) (x3 : Int) (x5 : List Int) (k : List Int) (x4 : List Int) (x2 : List Int) (p : List Int) (fuel : Nat) (x6 : Int) (x7 : List Int) : Prop := run Tryd.prog gamB4 [] (resh Tryd.prog [] Tryd.f42.results.toList R) fuel [.code (cAt (bodyOf Tryd.f42) [1, 1, 1, 1, 1, 1, 0, 1, 0, 0, 1, 0, 0, 1, 0, 1, 0, 0]), .inLoop (cAt (bodyOf Tryd.f42) [1, 1, 1, 1, 1, 1, 0, 1, 0, 0, 1, 0, 0, 1, 0, 1, 0, 0]), .inBlock 4, .code (cAt (bodyOf Tryd.f42) [1, 1, 1, 1, 1, 1, 0, 1, 0, 0, 1, 0, 0, 1, 1]), .inBlock 3, .code (cAt (bodyOf Tryd.f42) [1, 1, 1, 1, 1, 1, 0, 1, 0, 0, 1, 1]), .inLoop (cAt (bodyOf Tryd.f42) [1, 1, 1, 1, 1, 1, 0, 1, 0, 0]), .inBlock 2, .code (cAt (bodyOf Tryd.f42) [1, 1, 1, 1, 1, 1, 1])] [AV.undef, AV.undef, AV.undef, AV.undef, (AV.one (AC.ptr 4 0 0)), AV.undef, AV.undef, (AV.one (AC.ptr 7 0 0)), (AV.one (AC.vec 19)), (AV.one (AC.clo 61 10 0 0)), AV.undef, AV.undef, (AV.one (AC.int IntKind.i64 x3)), (AV.one (AC.ptr 13 0 0)), (AV.one (AC.int IntKind.i64 x6)), AV.undef, AV.undef, AV.undef, AV.undef, AV.undef, AV.undef, AV.undef, AV.undef, AV.undef, AV.undef, AV.undef, AV.undef, AV.undef, AV.undef, AV.undef, AV.undef, AV.undef, AV.undef, AV.undef, AV.undef, AV.undef, (AV.one (AC.int IntKind.i64 x3)), (AV.one (AC.vec 19)), (AV.one (AC.int IntKind.i64 (ofNat (llen x5)))), (AV.one (AC.lit true)), AV.undef, AV.undef, (AV.agg [(Seg.ints IntKind.u8 176 (Go.Blk.ks k))]), (AV.agg [(Seg.ints IntKind.u8 16 x4)]), (AV.one (AC.clo 61 10 0 0)), (AV.agg [(Seg.ints IntKind.u8 16 (Go.Blk.enc (Go.Blk.ks k) x4))]), (AV.one (AC.int IntKind.i64 x3)), AV.undef, AV.undef, AV.undef, AV.undef, AV.undef, AV.undef, AV.undef, AV.undef, AV.undef, AV.undef, AV.undef, AV.undef, AV.undef, AV.undef, AV.undef, AV.undef, AV.undef, AV.undef, AV.undef, AV.undef, AV.undef, AV.undef, (AV.tup [])] [(4, Blk.own 23 [(Seg.ints IntKind.u8 16 x4)]), (7, Blk.own 90 [(Seg.ints IntKind.u8 176 (Go.Blk.ks k))]), (10, Blk.own 93 [(Seg.ints IntKind.u8 256 x2)]), (13, Blk.own 23 [(Seg.ints IntKind.u8 16 (Go.Blk.enc (Go.Blk.ks k) x4))]), (19, Blk.vec [(Col.ints IntKind.u8 x7)]), (200002, Blk.rview [(Col.ints IntKind.u8 p)])]

def bMask.l1 (R : AV → Mem → Prop) (k : List Int) (x2 : List Int) (p : List Int) (fuel : Nat) (x3 : Int) (x4 : List Int) (x5 : List Int) : Prop := run Tryd.prog gamB4 [] (resh Tryd.prog [] Tryd.f42.results.toList R) fuel [.code (cAt (bodyOf Tryd.f42) [1, 1, 1, 1, 1, 1, 0, 1, 0, 0]), .inLoop (cAt (bodyOf Tryd.f42) [1, 1, 1, 1, 1, 1, 0, 1, 0, 0]), .inBlock 2, .code (cAt (bodyOf Tryd.f42) [1, 1, 1, 1, 1, 1, 1])] [AV.undef, AV.undef, AV.undef, AV.undef, (AV.one (AC.ptr 4 0 0)), AV.undef, AV.undef, (AV.one (AC.ptr 7 0 0)), (AV.one (AC.vec 19)), (AV.one (AC.clo 61 10 0 0)), AV.undef, AV.undef, (AV.one (AC.int IntKind.i64 x3)), AV.undef, AV.undef, AV.undef, AV.undef, AV.undef, AV.undef, AV.undef, AV.undef, AV.undef, AV.undef, AV.undef, AV.undef, AV.undef, AV.undef, AV.undef, AV.undef, AV.undef, AV.undef, AV.undef, AV.undef, AV.undef, AV.undef, AV.undef, AV.undef, AV.undef, AV.undef, AV.undef, AV.undef, AV.undef, AV.undef, AV.undef, AV.undef, AV.undef, AV.undef, AV.undef, AV.undef, AV.undef, AV.undef, AV.undef, AV.undef, AV.undef, AV.undef, AV.undef, AV.undef, AV.undef, AV.undef, AV.undef, AV.undef, AV.undef, AV.undef, AV.undef, AV.undef, AV.undef, AV.undef, AV.undef, AV.undef, (AV.tup [])] [(4, Blk.own 23 [(Seg.ints IntKind.u8 16 x4)]), (7, Blk.own 90 [(Seg.ints IntKind.u8 176 (Go.Blk.ks k))]), (10, Blk.own 93 [(Seg.ints IntKind.u8 256 x2)]), (19, Blk.vec [(Col.ints IntKind.u8 x5)]), (200002, Blk.rview [(Col.ints IntKind.u8 p)])]

def bMask.l0 (R : AV → Mem → Prop) (s : List Int) (k : List Int) (y0 : List Int) (p : List Int) (fuel : Nat) (x1 : Int) (x2 : List Int) : Prop := run Tryd.prog gamB4 [] (resh Tryd.prog [] Tryd.f42.results.toList R) fuel [.code (cAt (bodyOf Tryd.f42) [1, 1, 1, 1, 1, 0, 1, 0, 1, 0, 1, 0, 0]), .inLoop (cAt (bodyOf Tryd.f42) [1, 1, 1, 1, 1, 0, 1, 0, 1, 0, 1, 0, 0]), .inBlock 0, .code (cAt (bodyOf Tryd.f42) [1, 1, 1, 1, 1, 0, 1, 0, 1, 1]), .code (cAt (bodyOf Tryd.f42) [1, 1, 1, 1, 1, 1])] [AV.undef, AV.undef, AV.undef, AV.undef, (AV.one (AC.ptr 4 0 0)), AV.undef, AV.undef, (AV.one (AC.ptr 7 0 0)), (AV.one (AC.vec 19)), (AV.one (AC.con (Value.func (Fn.func 60) (List.toArray []) (List.toArray [])))), (AV.one (AC.ptr 10 0 0)), AV.undef, (AV.tup []), (AV.tup []), (AV.tup []), AV.undef, AV.undef, AV.undef, AV.undef, AV.undef, AV.undef, AV.undef, AV.undef, AV.undef, AV.undef, AV.undef, (AV.one (AC.int IntKind.i64 x1)), AV.undef, AV.undef, AV.undef, AV.undef, AV.undef, AV.undef, AV.undef, AV.undef, (AV.tup []), (AV.tup []), (AV.tup []), (AV.tup []), (AV.tup []), (AV.tup []), (AV.tup []), (AV.tup []), (AV.tup []), (AV.tup []), (AV.tup []), (AV.tup []), (AV.tup []), (AV.tup []), (AV.tup []), (AV.tup []), (AV.tup []), (AV.tup []), (AV.tup []), (AV.tup []), (AV.tup []), (AV.tup []), (AV.tup []), (AV.tup []), (AV.tup []), (AV.tup []), (AV.tup []), (AV.tup []), (AV.tup []), (AV.tup []), (AV.tup []), (AV.tup []), (AV.tup []), (AV.tup []), (AV.tup [])] [(4, Blk.own 23 [(Seg.ints IntKind.u8 16 s)]), (7, Blk.own 90 [(Seg.ints IntKind.u8 176 (Go.Blk.ks k))]), (10, Blk.own 93 [(Seg.ints IntKind.u8 256 x2)]), (19, Blk.vec [(Col.ints IntKind.u8 y0)]), (200002, Blk.rview [(Col.ints IntKind.u8 p)])]

def bMask.l4 (R : AV → Mem → Prop) (x10 : Int) (x12 : List Int) (k : List Int) (x11 : List Int) (p : List Int) (fuel : Nat) (x13 : Int) (x14 : List Int) : Prop := run Tryd.prog gamB4 [] (resh Tryd.prog [] Tryd.f42.results.toList R) fuel [.code (cAt (bodyOf Tryd.f42) [1, 1, 1, 1, 1, 1, 0, 1, 0, 0, 1, 0, 0, 1, 0, 1, 0, 0]), .inLoop (cAt (bodyOf Tryd.f42) [1, 1, 1, 1, 1, 1, 0, 1, 0, 0, 1, 0, 0, 1, 0, 1, 0, 0]), .inBlock 4, .code (cAt (bodyOf Tryd.f42) [1, 1, 1, 1, 1, 1, 0, 1, 0, 0, 1, 0, 0, 1, 1]), .inBlock 3, .code (cAt (bodyOf Tryd.f42) [1, 1, 1, 1, 1, 1, 0, 1, 0, 0, 1, 1]), .inLoop (cAt (bodyOf Tryd.f42) [1, 1, 1, 1, 1, 1, 0, 1, 0, 0]), .inBlock 2, .code (cAt (bodyOf Tryd.f42) [1, 1, 1, 1, 1, 1, 1])] [AV.undef, AV.undef, AV.undef, AV.undef, (AV.one (AC.ptr 4 0 0)), AV.undef, AV.undef, (AV.one (AC.ptr 7 0 0)), (AV.one (AC.vec 19)), (AV.one (AC.con (Value.func (Fn.func 60) (List.toArray []) (List.toArray [])))), AV.undef, AV.undef, (AV.one (AC.int IntKind.i64 x10)), (AV.one (AC.ptr 13 0 0)), (AV.one (AC.int IntKind.i64 x13)), AV.undef, AV.undef, AV.undef, AV.undef, AV.undef, AV.undef, AV.undef, AV.undef, AV.undef, AV.undef, AV.undef, AV.undef, AV.undef, AV.undef, AV.undef, AV.undef, AV.undef, AV.undef, AV.undef, AV.undef, AV.undef, (AV.one (AC.int IntKind.i64 x10)), (AV.one (AC.vec 19)), (AV.one (AC.int IntKind.i64 (ofNat (llen x12)))), (AV.one (AC.lit true)), AV.undef, AV.undef, (AV.agg [(Seg.ints IntKind.u8 176 (Go.Blk.ks k))]), (AV.agg [(Seg.ints IntKind.u8 16 x11)]), (AV.one (AC.con (Value.func (Fn.func 60) (List.toArray []) (List.toArray [])))), (AV.agg [(Seg.ints IntKind.u8 16 (Go.Blk.enc (Go.Blk.ks k) x11))]), (AV.one (AC.int IntKind.i64 x10)), AV.undef, AV.undef, AV.undef, AV.undef, AV.undef, AV.undef, AV.undef, AV.undef, AV.undef, AV.undef, AV.undef, AV.undef, AV.undef, AV.undef, AV.undef, AV.undef, AV.undef, AV.undef, AV.undef, AV.undef, AV.undef, AV.undef, (AV.tup [])] [(4, Blk.own 23 [(Seg.ints IntKind.u8 16 x11)]), (7, Blk.own 90 [(Seg.ints IntKind.u8 176 (Go.Blk.ks k))]), (13, Blk.own 23 [(Seg.ints IntKind.u8 16 (Go.Blk.enc (Go.Blk.ks k) x11))]), (19, Blk.vec [(Col.ints IntKind.u8 x14)]), (200002, Blk.rview [(Col.ints IntKind.u8 p)])]

def bMask.l3 (R : AV → Mem → Prop) (k : List Int) (p : List Int) (fuel : Nat) (x10 : Int) (x11 : List Int) (x12 : List Int) : Prop := run Tryd.prog gamB4 [] (resh Tryd.prog [] Tryd.f42.results.toList R) fuel [.code (cAt (bodyOf Tryd.f42) [1, 1, 1, 1, 1, 1, 0, 1, 0, 0]), .inLoop (cAt (bodyOf Tryd.f42) [1, 1, 1, 1, 1, 1, 0, 1, 0, 0]), .inBlock 2, .code (cAt (bodyOf Tryd.f42) [1, 1, 1, 1, 1, 1, 1])] [AV.undef, AV.undef, AV.undef, AV.undef, (AV.one (AC.ptr 4 0 0)), AV.undef, AV.undef, (AV.one (AC.ptr 7 0 0)), (AV.one (AC.vec 19)), (AV.one (AC.con (Value.func (Fn.func 60) (List.toArray []) (List.toArray [])))), AV.undef, AV.undef, (AV.one (AC.int IntKind.i64 x10)), AV.undef, AV.undef, AV.undef, AV.undef, AV.undef, AV.undef, AV.undef, AV.undef, AV.undef, AV.undef, AV.undef, AV.undef, AV.undef, AV.undef, AV.undef, AV.undef, AV.undef, AV.undef, AV.undef, AV.undef, AV.undef, AV.undef, AV.undef, AV.undef, AV.undef, AV.undef, AV.undef, AV.undef, AV.undef, AV.undef, AV.undef, AV.undef, AV.undef, AV.undef, AV.undef, AV.undef, AV.undef, AV.undef, AV.undef, AV.undef, AV.undef, AV.undef, AV.undef, AV.undef, AV.undef, AV.undef, AV.undef, AV.undef, AV.undef, AV.undef, AV.undef, AV.undef, AV.undef, AV.undef, AV.undef, AV.undef, (AV.tup [])] [(4, Blk.own 23 [(Seg.ints IntKind.u8 16 x11)]), (7, Blk.own 90 [(Seg.ints IntKind.u8 176 (Go.Blk.ks k))]), (19, Blk.vec [(Col.ints IntKind.u8 x12)]), (200002, Blk.rview [(Col.ints IntKind.u8 p)])]

theorem bMask.l2_succ (R : AV → Mem → Prop) (x3 : Int) (x5 : List Int) (k : List Int) (x4 : List Int) (x2 : List Int) (p : List Int) (fuel : Nat) (x6 : Int) (x7 : List Int) : bMask.l2 R x3 x5 k x4 x2 p (fuel + 1) x6 x7 = (((((ilt x6 (imin (add IntKind.i64 x3 16) (ofNat (llen x7)))) = true) → ((InB x6 (llen x7)) ∧ ((InB (sub IntKind.i64 x6 x3) 16) ∧ ((Low (nadd 0 (nat (sub IntKind.i64 x6 x3))) 16) ∧ ((InB x6 (llen x7)) ∧ (let y8 : Int := (bxor IntKind.u8 (lget x7 (nat x6)) (lget (Go.Blk.enc (Go.Blk.ks k) x4) (nadd 0 (nat (sub IntKind.i64 x6 x3))))); (let y9 : List Int := (lset x7 (nat x6) (bxor IntKind.u8 (lget x7 (nat x6)) (lget (Go.Blk.enc (Go.Blk.ks k) x4) (nadd 0 (nat (sub IntKind.i64 x6 x3)))))); (bMask.l2 R x3 x5 k x4 x2 p fuel (add IntKind.i64 x6 1) y9)))))))) ∧ (((ilt x6 (imin (add IntKind.i64 x3 16) (ofNat (llen x7)))) = false) → ((Go.Blk.BL 16 x4) ∧ (bMask.l1 R k x2 p fuel (add IntKind.i64 x3 16) (Go.Blk.up x4) x7))))) := by kernel_rfl
theorem bMask.l1_succ (R : AV → Mem → Prop) (k : List Int) (x2 : List Int) (p : List Int) (fuel : Nat) (x3 : Int) (x4 : List Int) (x5 : List Int) : bMask.l1 R k x2 p (fuel + 1) x3 x4 x5 = (((((ilt x3 (ofNat (llen x5))) = true) → ((Tbl x2) ∧ (((Go.Blk.BL 176 (Go.Blk.ks k)) ∧ (Go.Blk.BL 16 x4)) ∧ (bMask.l2 R x3 x5 k x4 x2 p fuel x3 x5)))) ∧ (((ilt x3 (ofNat (llen x5))) = false) → (R (AV.one (AC.vec 19)) [(4, Blk.own 23 [(Seg.ints IntKind.u8 16 x4)]), (7, Blk.own 90 [(Seg.ints IntKind.u8 176 (Go.Blk.ks k))]), (10, Blk.own 93 [(Seg.ints IntKind.u8 256 x2)]), (19, Blk.vec [(Col.ints IntKind.u8 x5)]), (200002, Blk.rview [(Col.ints IntKind.u8 p)])])))) := by kernel_rfl
theorem bMask.l0_succ (R : AV → Mem → Prop) (s : List Int) (k : List Int) (y0 : List Int) (p : List Int) (fuel : Nat) (x1 : Int) (x2 : List Int) : bMask.l0 R s k y0 p (fuel + 1) x1 x2 = (((((ilt x1 256) = true) → ((Byte (conv IntKind.u8 x1)) ∧ ((InB x1 256) ∧ ((Low (nadd 0 (nat x1)) 256) ∧ (bMask.l0 R s k y0 p fuel (add IntKind.i64 x1 1) (lset x2 (nadd 0 (nat x1)) (fsub (conv IntKind.u8 x1)))))))) ∧ (((ilt x1 256) = false) → (bMask.l1 R k x2 p fuel 0 s y0)))) := by kernel_rfl
theorem bMask.l4_succ (R : AV → Mem → Prop) (x10 : Int) (x12 : List Int) (k : List Int) (x11 : List Int) (p : List Int) (fuel : Nat) (x13 : Int) (x14 : List Int) : bMask.l4 R x10 x12 k x11 p (fuel + 1) x13 x14 = (((((ilt x13 (imin (add IntKind.i64 x10 16) (ofNat (llen x14)))) = true) → ((InB x13 (llen x14)) ∧ ((InB (sub IntKind.i64 x13 x10) 16) ∧ ((Low (nadd 0 (nat (sub IntKind.i64 x13 x10))) 16) ∧ ((InB x13 (llen x14)) ∧ (let y15 : Int := (bxor IntKind.u8 (lget x14 (nat x13)) (lget (Go.Blk.enc (Go.Blk.ks k) x11) (nadd 0 (nat (sub IntKind.i64 x13 x10))))); (let y16 : List Int := (lset x14 (nat x13) (bxor IntKind.u8 (lget x14 (nat x13)) (lget (Go.Blk.enc (Go.Blk.ks k) x11) (nadd 0 (nat (sub IntKind.i64 x13 x10)))))); (bMask.l4 R x10 x12 k x11 p fuel (add IntKind.i64 x13 1) y16)))))))) ∧ (((ilt x13 (imin (add IntKind.i64 x10 16) (ofNat (llen x14)))) = false) → ((Go.Blk.BL 16 x11) ∧ (bMask.l3 R k p fuel (add IntKind.i64 x10 16) (Go.Blk.up x11) x14))))) := by kernel_rfl
theorem bMask.l3_succ (R : AV → Mem → Prop) (k : List Int) (p : List Int) (fuel : Nat) (x10 : Int) (x11 : List Int) (x12 : List Int) : bMask.l3 R k p (fuel + 1) x10 x11 x12 = (((((ilt x10 (ofNat (llen x12))) = true) → (((Go.Blk.BL 176 (Go.Blk.ks k)) ∧ (Go.Blk.BL 16 x11)) ∧ (bMask.l4 R x10 x12 k x11 p fuel x10 x12))) ∧ (((ilt x10 (ofNat (llen x12))) = false) → (R (AV.one (AC.vec 19)) [(4, Blk.own 23 [(Seg.ints IntKind.u8 16 x11)]), (7, Blk.own 90 [(Seg.ints IntKind.u8 176 (Go.Blk.ks k))]), (19, Blk.vec [(Col.ints IntKind.u8 x12)]), (200002, Blk.rview [(Col.ints IntKind.u8 p)])])))) := by kernel_rfl
theorem bMask_vc (R : AV → Mem → Prop) (fuel : Nat) (k : List Int) (s : List Int) (p : List Int) : callsx Tryd.prog gamB4 [] Tryd.f42 (fuel + 1) [.agg [.ints .u8 16 k], .agg [.ints .u8 16 s], .one (.vec 200002)] [(200002, .rview [.ints .u8 p])] R = (((Go.Blk.BL 16 k) ∧ ((Mk (ofNat (llen p)) (ofNat (llen p)) 1) ∧ (let y0 : List Int := (lput (lzeros (nat (ofNat (llen p)))) 0 (lsub p 0 (nmin (llen p) (llen (lzeros (nat (ofNat (llen p)))))))); ((((igt (ofNat (llen p)) 32) = true) → (bMask.l0 R s k y0 p fuel 0 (lzeros 256))) ∧ (((igt (ofNat (llen p)) 32) = false) → (bMask.l3 R k p fuel 0 s y0))))))) := by kernel_rfl

end Go.Proofs.YtdgmgalnhignjaaDoor.G

/- Encryption and decryption, by program and document. -/
set_option linter.unusedVariables false
set_option linter.unusedSimpArgs false
namespace Go.Blk
open Go.Sx Go.Fld
theorem qx_bl {b k : List Int} (hb : BL 16 b) (hk : BL 16 k) : BL 16 (qx b k) := BL.tab fun i _ => byte_xor (hb.get i) (hk.get i)
theorem qe_sub {b : List Int} : BL 16 (qe fsub b) := BL.tab fun i _ => byte_sub
theorem qt_bl {n : Nat} {b : List Int} (hb : BL 16 b) : BL 16 (qt n b) := BL.tab fun i _ => hb.get _
theorem lsub_bl {w : List Int} {n : Nat} (hw : BL n w) {o z : Nat} (h : o + z ≤ n) : BL z (lsub w o z) := ⟨lsub_len _ _ _ (by rw [hw.len]; exact h), fun x hx => hw.all x (List.mem_of_mem_drop (List.mem_of_mem_take hx))⟩
theorem rk_bl {w : List Int} (hw : BL 176 w) {i : Nat} (hi : i < 11) : BL 16 (rk w i) := lsub_bl hw (by omega)
theorem mixN_byte {c f : List Int} (hf : ∀ x ∈ natL f, x < 256) : ∀ x ∈ fmix c f, Byte x := by
  have hg : ∀ j, (natL f).getD j 0 < 256 := fun j => by
    rw [List.getD_eq_getElem?_getD]
    cases hq : (natL f)[j]? with
    | none => simp
    | some x => exact hf x (List.mem_of_getElem? hq)
  have ml_lt : ∀ (d r i s : Nat), s < 256 → ml (natL c) (natL f) r d i s < 256 := by
    intro d
    induction d with
    | zero => intro r i s hs; exact hs
    | succ d ih => intro r i s hs; exact ih r (i + 1) _ (xor_lt hs (gm_lt (hg _)))
  have m1 : ∀ r, mix1 (natL c) (natL f) r < 256 := fun r => ml_lt 4 r 0 0 (by decide)
  intro x hx
  obtain ⟨n, hn, rfl⟩ := List.mem_map.1 hx
  simp only [mixN, List.mem_cons, List.not_mem_nil, or_false] at hn
  rcases hn with rfl | rfl | rfl | rfl <;> exact Byte.of (m1 _)
theorem fmix_bl {c f : List Int} (hf : ∀ x ∈ natL f, x < 256) : BL 4 (fmix c f) := ⟨rfl, mixN_byte hf⟩
theorem qc_bl {f b : List Int} (hf : ∀ x ∈ natL f, x < 256) : BL 16 (qc f b) := BL.tab fun i _ => (fmix_bl hf).get _
theorem there : ∀ x ∈ natL [2, 3, 1, 1], x < 256 := by decide
end Go.Blk
namespace Go.Proofs.YtdgmgalnhignjaaDoor.G
open Go Go.Sx Go.Fld Go.Blk
set_option linter.unusedSimpArgs false
set_option linter.unusedVariables false

theorem encN_bl {w : List Int} (hw : BL 176 w) : ∀ (n i : Nat) {x : List Int}, n + i = 11 → BL 16 x → BL 16 (encN w n i x)
  | 0, _, _, _, h => h
  | n + 1, i, x, hn, h => by
    refine encN_bl hw n (i + 1) (by omega) (qx_bl ?_ (rk_bl hw (by omega)))
    split
    · exact qc_bl there
    · exact qt_bl qe_sub
theorem enc_bl {w b : List Int} (hw : BL 176 w) (hb : BL 16 b) : BL 16 (enc w b) := encN_bl hw 10 1 rfl (qx_bl hb (rk_bl hw (by decide)))
theorem rk_nat (w : List Int) (i : Nat) : lsub w (nadd 0 (nmul (nat (i : Int)) 16)) 16 = rk w i := by
  simp only [nadd_def, nmul_def, nat_cast, rk]; congr 1; omega

theorem encS_run {R : AV → Mem → Prop} {w r : List Int} (hw : BL 176 w) (h : ∀ σ, R (.agg [.ints .u8 16 r]) σ) : ∀ (n i : Nat) (x : List Int), n + i = 11 → 1 ≤ i → BL 16 x → encN w n i x = r → encS.l0 R w (n + 1) (i : Int) x
  | 0, i, x, hn, h1, hx, e => by
    rw [encS.l0_succ]
    refine ⟨fun q => ?_, fun _ => ?_⟩
    · rw [ile_true] at q; omega
    · rw [show x = r from e]; exact h _
  | n + 1, i, x, hn, h1, hx, e => by
    rw [encS.l0_succ]
    have hk := rk_bl hw (i := i) (by omega)
    have hI : InB (i : Int) 11 := ⟨by omega, by omega⟩
    have hF : Fits (nadd (nadd 0 (nmul (nat (i : Int)) 16)) 16) 176 := ⟨by simp only [nadd_def, nmul_def, nat_cast]; omega⟩
    rw [rk_nat, add1_i64 (by omega)]
    refine ⟨fun _ => ⟨hx, ⟨qe_sub, by decide, by decide⟩, fun q => ⟨qt_bl qe_sub, hI, hF, ⟨qc_bl there, hk⟩, ?_⟩, fun q => ⟨hI, hF, ⟨qt_bl qe_sub, hk⟩, ?_⟩⟩, fun q => ?_⟩
    · rw [ilt_true] at q
      exact encS_run hw h n (i + 1) _ (by omega) (by omega) (qx_bl (qc_bl there) hk) (by rw [← e]; show _ = encN w n (i + 1) (qx (if i < 10 then _ else _) _); rw [if_pos (by omega)])
    · rw [ilt_false] at q
      exact encS_run hw h n (i + 1) _ (by omega) (by omega) (qx_bl (qt_bl qe_sub) hk) (by rw [← e]; show _ = encN w n (i + 1) (qx (if i < 10 then _ else _) _); rw [if_neg (by omega)])
    · rw [ile_false] at q; omega

theorem encT_run {R : AV → Mem → Prop} {w r t : List Int} (ht : Tbl t) (hw : BL 176 w) (h : ∀ σ, R (.agg [.ints .u8 16 r]) σ) : ∀ (n i : Nat) (x : List Int), n + i = 11 → 1 ≤ i → BL 16 x → encN w n i x = r → encT.l0 R w t (n + 1) (i : Int) x
  | 0, i, x, hn, h1, hx, e => by
    rw [encT.l0_succ]
    refine ⟨fun q => ?_, fun _ => ?_⟩
    · rw [ile_true] at q; omega
    · rw [show x = r from e]; exact h _
  | n + 1, i, x, hn, h1, hx, e => by
    rw [encT.l0_succ]
    have hk := rk_bl hw (i := i) (by omega)
    have hI : InB (i : Int) 11 := ⟨by omega, by omega⟩
    have hF : Fits (nadd (nadd 0 (nmul (nat (i : Int)) 16)) 16) 176 := ⟨by simp only [nadd_def, nmul_def, nat_cast]; omega⟩
    rw [rk_nat, add1_i64 (by omega)]
    refine ⟨fun _ => ⟨ht, hx, ⟨qe_sub, by decide, by decide⟩, fun q => ⟨qt_bl qe_sub, hI, hF, ⟨qc_bl there, hk⟩, ?_⟩, fun q => ⟨hI, hF, ⟨qt_bl qe_sub, hk⟩, ?_⟩⟩, fun q => ?_⟩
    · rw [ilt_true] at q
      exact encT_run ht hw h n (i + 1) _ (by omega) (by omega) (qx_bl (qc_bl there) hk) (by rw [← e]; show _ = encN w n (i + 1) (qx (if i < 10 then _ else _) _); rw [if_pos (by omega)])
    · rw [ilt_false] at q
      exact encT_run ht hw h n (i + 1) _ (by omega) (by omega) (qx_bl (qt_bl qe_sub) hk) (by rw [← e]; show _ = encN w n (i + 1) (qx (if i < 10 then _ else _) _); rw [if_neg (by omega)])
    · rw [ile_false] at q; omega

theorem good_encrypted : Sx.Good Tryd.prog 62 encryptedS := by
  refine Sx.Good.reads (D := []) mixed gamB2_good Tryd.func62 (by kernel_rfl) rfl fun d args σ K h => ?_
  simp only [encryptedS] at h
  split at h <;> try exact h.elim
  rename_i w b x
  unfold fnS at h
  have h0 : ∀ {w b : List Int}, BL 176 w → BL 16 b → BL 16 (rk w 0) := fun hw _ => rk_bl hw (by decide)
  split at h
  · rename_i g hg
    obtain rfl := conFn_eq hg
    split at h <;> try exact h.elim
    rename_i hq
    obtain rfl := beq_nat hq
    obtain ⟨⟨hw, hb⟩, hK⟩ := h
    refine ⟨_, [], .plain (plain_ints _ _ _) (.plain (plain_ints _ _ _) (.plain (plain_con _) (.nil _))), by simp, 11 + 1, ?_⟩
    rw [encS_vc]
    exact ⟨⟨by decide, by decide⟩, ⟨by decide⟩, ⟨hb, h0 hw hb⟩, encS_run hw (fun σ' => res_arr rfl hK) 10 1 _ rfl (by decide) (qx_bl hb (h0 hw hb)) rfl⟩
  · split at h <;> try exact h.elim
    rename_i n hn
    obtain rfl := isTold_eq hn
    split at h <;> try exact h.elim
    rename_i bk hbk
    split at h <;> try exact h.elim
    rename_i t ht
    obtain ⟨hT, ⟨hw, hb⟩, hK⟩ := h
    refine ⟨[.agg [.ints .u8 176 w], .agg [.ints .u8 16 b], .one (.clo 61 200002 0 0)], [(200002, .view [.ints .u8 256 t])], .plain (plain_ints _ _ _) (.plain (plain_ints _ _ _) (ht ▸ .clo hbk (by rw [ht]; intro m; rfl) (.nil _))), by simp, 11 + 1, ?_⟩
    rw [encT_vc]
    exact ⟨⟨by decide, by decide⟩, ⟨by decide⟩, ⟨hb, h0 hw hb⟩, encT_run hT hw (fun σ' => res_arr rfl hK) 10 1 _ rfl (by decide) (qx_bl hb (h0 hw hb)) rfl⟩

theorem qt1_at {b : List Int} (j : Nat) (hj : j < 16) : lget (qt 1 (qe fsub b)) j = fsub (lget b ((j + 4 * (j % 4)) % 16)) := by
  rw [qt, tab_lget _ hj, qe, tab_lget _ (by omega)]
  congr 2; omega

theorem rWith_run {R : AV → Mem → Prop} {w r : List Int} (hw : BL 176 w) (h : ∀ σ, R (.agg [.ints .u8 16 r]) σ) : ∀ (n i : Nat) (x : List Int), n + i = 11 → 1 ≤ i → BL 16 x → encN w n i x = r → rWith.l0 R w (18 * n + 1) (i : Int) x
  | 0, i, x, hn, h1, hx, e => by
    rw [rWith.l0_succ]
    refine ⟨fun q => ?_, fun _ => ?_⟩
    · rw [ile_true] at q; omega
    · rw [show x = r from e]; exact h _
  | n + 1, i, x, hn, h1, hx, e => by
    rw [rWith.l0_succ]
    have hk := rk_bl hw (i := i) (by omega)
    have hI : InB (i : Int) 11 := ⟨by omega, by omega⟩
    refine ⟨fun _ => ?_, fun q => ?_⟩
    · have key := loop_n (fun f j s => rWith.l1 R (i : Int) w x f j s) 16 (fun j => upto 16 j (lget (qt 1 (qe fsub x))) fun _ => 0) 1 (18 * n + 1 + 1)
        (fun f j hj hf => by
          rw [rWith.l1_succ]
          refine ⟨fun _ => ?_, fun q => ?_⟩
          · have e1 : rem (j : Int) 4 = ((j % 4 : Nat) : Int) := remN (b := 4)
            have e2 : mul .i64 4 ((j % 4 : Nat) : Int) = ((4 * (j % 4) : Nat) : Int) := mulN_i64 (a := 4) (by omega)
            have e3 : add .i64 (j : Int) ((4 * (j % 4) : Nat) : Int) = ((j + 4 * (j % 4) : Nat) : Int) := addN_i64 (by omega)
            have e4 : rem ((j + 4 * (j % 4) : Nat) : Int) 16 = (((j + 4 * (j % 4)) % 16 : Nat) : Int) := remN (b := 16)
            obtain ⟨m, hm, em⟩ := (hx.get ((j + 4 * (j % 4)) % 16)).nat
            have e5 : sget boxC m = lget (qt 1 (qe fsub x)) j := by rw [qt1_at j hj, em, box_at m hm]
            simp only [e1, e2, e3, e4, nat_cast, nadd_def, Nat.zero_add, em, e5, InB_iff, Low_iff, NeZ_iff]
            refine ⟨by decide, by decide, by omega, by omega, by omega, by omega, hj, ?_⟩
            rw [add1_i64 (by omega), upto_lset rfl]
            exact hf
          · rw [ilt_false] at q; omega)
        (by
          rw [rWith.l1_succ]
          refine ⟨fun q => ?_, fun _ => ?_⟩
          · rw [ilt_true] at q; omega
          · have ey : upto 16 16 (lget (qt 1 (qe fsub x))) (fun _ => 0) = qt 1 (qe fsub x) := by rw [upto_done]; exact (eq_tab (tab_len _ _)).symm
            simp only [ey, add1_i64 (show i < 9223372036854775807 by omega), nat_cast]
            refine ⟨fun q => ⟨qt_bl qe_sub, ⟨⟨qc_bl there, hw⟩, hI⟩, ?_⟩, fun q => ⟨⟨⟨qt_bl qe_sub, hw⟩, hI⟩, ?_⟩⟩
            · rw [ilt_true] at q
              exact rWith_run hw h n (i + 1) _ (by omega) (by omega) (qx_bl (qc_bl there) hk) (by rw [← e]; show _ = encN w n (i + 1) (qx (if i < 10 then _ else _) _); rw [if_pos (by omega)])
            · rw [ilt_false] at q
              exact rWith_run hw h n (i + 1) _ (by omega) (by omega) (qx_bl (qt_bl qe_sub) hk) (by rw [← e]; show _ = encN w n (i + 1) (qx (if i < 10 then _ else _) _); rw [if_neg (by omega)])) 0 (Nat.zero_le _)
      rw [upto_zero, ← lzeros_tab] at key
      exact key
    · rw [ile_false] at q; omega

theorem good_rwith : Sx.Good Tryd.prog 69 encS := by
  refine Sx.Good.pure (D := []) mixed gamB3_good Tryd.func69 (by kernel_rfl) rfl fun d args σ K h => ?_
  simp only [Sx.encS] at h
  split at h <;> try exact h.elim
  rename_i w b
  obtain ⟨⟨hw, hb⟩, hK⟩ := h
  refine ⟨by simp [plain_ints], _, plain_ints _ _ _, hK, 181 + 1, ?_⟩
  rw [rWith_vc]
  exact ⟨⟨⟨hb, hw⟩, ⟨by decide, by decide⟩⟩, rWith_run hw (fun σ' => rfl) 10 1 _ rfl (by decide) (qx_bl hb (rk_bl hw (by decide))) rfl⟩

theorem gamB4_good : GoodG Tryd.prog gamB4 :=
  (gamB3_good.ext good_encrypted ⟨_, Tryd.func62, by decide, by kernel_rfl⟩).ext good_rwith ⟨_, Tryd.func69, by decide, by kernel_rfl⟩

end Go.Proofs.YtdgmgalnhignjaaDoor.G

/- The block cipher's outer functions, by program and document. -/
namespace Go.Fld
end Go.Fld
namespace Go.Blk
open Go.Sx Go.Fld
set_option linter.unusedVariables false
theorem natL_intL (l : List Nat) : natL (intL l) = l := by
  simp only [natL, intL, List.map_map]
  conv => rhs; rw [← List.map_id l]
  exact List.map_congr_left fun x _ => rfl
theorem col_nat {b : List Int} (hb : BL 4 b) : ∃ x y z w : Nat, L4 x y z w ∧ natL b = [x, y, z, w] ∧ b = intL [x, y, z, w] := by
  obtain ⟨x, hx, ex⟩ := (hb.get 0).nat
  obtain ⟨y, hy, ey⟩ := (hb.get 1).nat
  obtain ⟨z, hz, ez⟩ := (hb.get 2).nat
  obtain ⟨w, hw, ew⟩ := (hb.get 3).nat
  have e : b = intL [x, y, z, w] := by
    rw [hb.eq]
    simp only [Sx.tab, List.range_succ, List.range_zero, List.nil_append, List.map_cons, List.map_nil, List.cons_append, ex, ey, ez, ew]; rfl
  exact ⟨x, y, z, w, ⟨hx, hy, hz, hw⟩, by rw [e, natL_intL], e⟩
end Go.Blk
namespace Go.Proofs.YtdgmgalnhignjaaDoor.G
open Go Go.Sx Go.Fld Go.Blk
set_option linter.unusedSimpArgs false
set_option linter.unusedVariables false

end Go.Proofs.YtdgmgalnhignjaaDoor.G

/- The verification conditions of functions, printed by a program of this session out of their codes. -/
namespace Go.Proofs.YtdgmgalnhignjaaDoor.G
open Go Go.Sx Go.Fld Go.Blk
set_option linter.unusedVariables false
set_option maxRecDepth 100000

def rMask.l0 (R : AV → Mem → Prop) (k : List Int) (p : List Int) (fuel : Nat) (x0 : Int) (x1 : List Int) (x2 : List Int) (x3 : List Int) : Prop := run Tryd.prog gamB4 [⟨8, [.ints .u8], true, false⟩] (resh Tryd.prog [⟨8, [.ints .u8], true, false⟩] Tryd.f55.results.toList R) fuel [.code (cAt (bodyOf Tryd.f55) [1, 1, 1, 1, 0, 1, 0, 0]), .inLoop (cAt (bodyOf Tryd.f55) [1, 1, 1, 1, 0, 1, 0, 0]), .inBlock 0, .code (cAt (bodyOf Tryd.f55) [1, 1, 1, 1, 1])] [AV.undef, AV.undef, (AV.one (AC.vec 200002)), AV.undef, (AV.one (AC.ptr 4 0 0)), AV.undef, AV.undef, (AV.one (AC.ptr 7 0 0)), (AV.one (AC.vec 100008)), (AV.one (AC.ptr 9 0 0)), (AV.one (AC.int IntKind.i64 x0)), AV.undef, AV.undef, AV.undef, AV.undef, AV.undef, AV.undef, AV.undef, AV.undef, AV.undef, AV.undef, AV.undef, AV.undef, AV.undef, AV.undef, AV.undef, AV.undef, AV.undef, AV.undef, AV.undef, AV.undef, AV.undef, AV.undef, AV.undef, AV.undef, AV.undef, AV.undef, AV.undef, AV.undef, AV.undef, AV.undef, AV.undef, (AV.tup [])] [(4, Blk.own 23 [(Seg.ints IntKind.u8 16 x1)]), (7, Blk.own 106 [(Seg.ints IntKind.u8 176 (Go.Blk.ks k))]), (9, Blk.own 23 [(Seg.ints IntKind.u8 16 x2)]), (100008, Blk.vec [(Col.ints IntKind.u8 x3)]), (200002, Blk.rview [(Col.ints IntKind.u8 p)])]

theorem rMask.l0_succ (R : AV → Mem → Prop) (k : List Int) (p : List Int) (fuel : Nat) (x0 : Int) (x1 : List Int) (x2 : List Int) (x3 : List Int) : rMask.l0 R k p (fuel + 1) x0 x1 x2 x3 = (((((ilt x0 (ofNat (llen p))) = true) → ((NeZ 16) ∧ ((((ieq (rem x0 16) 0) = true) → (((Go.Blk.BL 176 (Go.Blk.ks k)) ∧ (Go.Blk.BL 16 x1)) ∧ ((Go.Blk.BL 16 x1) ∧ ((InB x0 (llen p)) ∧ ((NeZ 16) ∧ ((InB (rem x0 16) 16) ∧ (((Low (nadd 0 (nat (rem x0 16))) 16) ∧ ((Room (nadd (llen x3) (llen [(bxor IntKind.u8 (lget p (nat x0)) (lget (Go.Blk.enc (Go.Blk.ks k) x1) (nadd 0 (nat (rem x0 16)))))])) 1) ∧ (let y4 : List Int := (lcat x3 [(bxor IntKind.u8 (lget p (nat x0)) (lget (Go.Blk.enc (Go.Blk.ks k) x1) (nadd 0 (nat (rem x0 16)))))]); (rMask.l0 R k p fuel (add IntKind.i64 x0 1) (Go.Blk.up x1) (Go.Blk.enc (Go.Blk.ks k) x1) y4)))) ∧ ((Low (nadd 0 (nat (rem x0 16))) 16) ∧ ((Room (nadd (llen x3) (llen [(bxor IntKind.u8 (lget p (nat x0)) (lget (Go.Blk.enc (Go.Blk.ks k) x1) (nadd 0 (nat (rem x0 16)))))])) 1) ∧ (let y4 : List Int := (lcat x3 [(bxor IntKind.u8 (lget p (nat x0)) (lget (Go.Blk.enc (Go.Blk.ks k) x1) (nadd 0 (nat (rem x0 16)))))]); (rMask.l0 R k p fuel (add IntKind.i64 x0 1) (Go.Blk.up x1) (Go.Blk.enc (Go.Blk.ks k) x1) y4))))))))))) ∧ (((ieq (rem x0 16) 0) = false) → ((InB x0 (llen p)) ∧ ((NeZ 16) ∧ ((InB (rem x0 16) 16) ∧ (((Low (nadd 0 (nat (rem x0 16))) 16) ∧ ((Room (nadd (llen x3) (llen [(bxor IntKind.u8 (lget p (nat x0)) (lget x2 (nadd 0 (nat (rem x0 16)))))])) 1) ∧ (rMask.l0 R k p fuel (add IntKind.i64 x0 1) x1 x2 (lcat x3 [(bxor IntKind.u8 (lget p (nat x0)) (lget x2 (nadd 0 (nat (rem x0 16)))))])))) ∧ ((Low (nadd 0 (nat (rem x0 16))) 16) ∧ ((Room (nadd (llen x3) (llen [(bxor IntKind.u8 (lget p (nat x0)) (lget x2 (nadd 0 (nat (rem x0 16)))))])) 1) ∧ (rMask.l0 R k p fuel (add IntKind.i64 x0 1) x1 x2 (lcat x3 [(bxor IntKind.u8 (lget p (nat x0)) (lget x2 (nadd 0 (nat (rem x0 16)))))])))))))))))) ∧ (((ilt x0 (ofNat (llen p))) = false) → (R (AV.one (AC.vec 100008)) [(4, Blk.own 23 [(Seg.ints IntKind.u8 16 x1)]), (7, Blk.own 106 [(Seg.ints IntKind.u8 176 (Go.Blk.ks k))]), (9, Blk.own 23 [(Seg.ints IntKind.u8 16 x2)]), (100008, Blk.vec [(Col.ints IntKind.u8 x3)]), (200002, Blk.rview [(Col.ints IntKind.u8 p)])])))) := by kernel_rfl
theorem rMask_vc (R : AV → Mem → Prop) (fuel : Nat) (k : List Int) (s : List Int) (p : List Int) : callsx Tryd.prog gamB4 [⟨8, [.ints .u8], true, false⟩] Tryd.f55 (fuel + 1) [.agg [.ints .u8 16 k], .agg [.ints .u8 16 s], .one (.vec 200002)] [(200002, .rview [.ints .u8 p])] R = (((Go.Blk.BL 16 k) ∧ ((Mk 0 (ofNat (llen p)) 1) ∧ (rMask.l0 R k p fuel 0 s (lzeros 16) (lzeros 0))))) := by kernel_rfl

end Go.Proofs.YtdgmgalnhignjaaDoor.G

/- The key stream, by program and document. -/
namespace Go.Blk
open Go.Sx Go.Fld
set_option linter.unusedVariables false
set_option linter.unusedSimpArgs false
theorem BL.set {n : Nat} {l : List Int} (h : BL n l) (i : Nat) {v : Int} (hv : Byte v) : BL n (lset l i v) := ⟨by simp [lset, h.len], fun x hx => by
  rcases List.mem_or_eq_of_mem_set hx with hx | rfl
  · exact h.all x hx
  · exact hv⟩
theorem byte_inc {a : Int} (ha : Byte a) : Byte (add .u8 a 1) := by rw [add_u8]; exact ⟨by omega, by omega⟩
theorem upN_bl : ∀ (i : Nat) {b : List Int}, BL 16 b → BL 16 (upN i b)
  | 0, b, h => h
  | i + 1, b, h => by
    unfold upN
    split
    · exact upN_bl i (h.set i (byte_inc (h.get i)))
    · exact h.set i (byte_inc (h.get i))
theorem up_bl {b : List Int} (h : BL 16 b) : BL 16 (up b) := upN_bl 16 h
theorem ups_bl {b : List Int} (h : BL 16 b) : ∀ n, BL 16 (ups b n)
  | 0 => h
  | n + 1 => up_bl (ups_bl h n)
theorem BL.bs {n : Nat} {l : List Int} (h : BL n l) : Bs l := ⟨fun x hx => ⟨(h.all x hx).lo, (h.all x hx).hi⟩⟩
theorem bs_bl {l : List Int} (h : Bs l) : BL l.length l := ⟨rfl, fun x hx => ⟨(h.all x hx).1, (h.all x hx).2⟩⟩
end Go.Blk
namespace Go.Proofs.YtdgmgalnhignjaaDoor.G
open Go Go.Sx Go.Fld Go.Blk
set_option linter.unusedSimpArgs false
set_option linter.unusedVariables false

theorem strB_byte {w s : List Int} (hw : BL 176 w) (hs : BL 16 s) (i : Nat) : Byte (strB w s i) := (enc_bl hw (ups_bl hs _)).get _
theorem mask_bs {w s p : List Int} (hw : BL 176 w) (hs : BL 16 s) (hp : Bs p) : Bs (mask w s p) := (BL.tab fun i hi => byte_xor ((bs_bl hp).get i) (strB_byte hw hs i)).bs

theorem imin_nat (a b : Nat) : imin (a : Int) (b : Int) = ((min a b : Nat) : Int) := by
  unfold imin
  split
  · omega
  · omega

section
variable {R : AV → Mem → Prop} {k s p : List Int}
/-- one block's bytes laid over, by the table -/
theorem mask_l2 (hk : BL 16 k) (hs : BL 16 s) {m : Nat} (hm : 16 * m < p.length) (hp : p.length ≤ 140737488355328) {g : Nat} {t y : List Int} (h : bMask.l1 R k t p g ((16 * (m + 1) : Nat) : Int) (ups s (m + 1)) (upto p.length (16 * (m + 1)) (fun i => bxor .u8 (lget p i) (strB (ks k) s i)) (lget p))) :
    ∃ g', bMask.l2 R ((16 * m : Nat) : Int) y k (ups s m) t p g' ((16 * m : Nat) : Int) (upto p.length (16 * m) (fun i => bxor .u8 (lget p i) (strB (ks k) s i)) (lget p)) := by
  have e1 : add .i64 ((16 * m : Nat) : Int) 16 = ((16 * (m + 1) : Nat) : Int) := by rw [add_i64 (by omega) (by omega)]; omega
  refine loop_exfrom (fun f i x => bMask.l2 R ((16 * m : Nat) : Int) y k (ups s m) t p f i x) (16 * m) (min (16 * (m + 1)) p.length) (fun i => upto p.length i (fun i => bxor .u8 (lget p i) (strB (ks k) s i)) (lget p)) (fun g i hl hi hg => ⟨g + 1, ?_⟩) ⟨g + 1, ?_⟩ (16 * m) (Nat.le_refl _) (by omega)
  · rw [bMask.l2_succ]
    have e2 : sub .i64 (i : Int) ((16 * m : Nat) : Int) = ((i - 16 * m : Nat) : Int) := subN_i64 (by omega) (by omega)
    refine ⟨fun _ => ?_, fun q => ?_⟩
    · have e3 : lget (enc (ks k) (ups s m)) (i - 16 * m) = strB (ks k) s i := by rw [strB, show i / 16 = m by omega, show i % 16 = i - 16 * m by omega]
      simp only [e2, nat_cast, nadd_def, Nat.zero_add, llen_def, upto_len, InB_iff, Low_iff, e3]
      rw [upto_hi (Nat.le_refl _) (by omega), upto_lset rfl, add1_i64 (by omega)]
      exact ⟨by omega, by omega, by omega, by omega, hg⟩
    · rw [e1, ofNat_def, llen_def, upto_len, imin_nat, ilt_false] at q; omega
  · rw [bMask.l2_succ]
    refine ⟨fun q => ?_, fun _ => ⟨ups_bl hs m, ?_⟩⟩
    · rw [e1, ofNat_def, llen_def, upto_len, imin_nat, ilt_true] at q; omega
    · rw [e1]
      have e4 : upto p.length (min (16 * (m + 1)) p.length) (fun i => bxor .u8 (lget p i) (strB (ks k) s i)) (lget p) = upto p.length (16 * (m + 1)) (fun i => bxor .u8 (lget p i) (strB (ks k) s i)) (lget p) := by
        refine tab_ext fun j hj => ?_
        by_cases q : j < 16 * (m + 1)
        · rw [if_pos q, if_pos (by omega)]
        · rw [if_neg q, if_neg (by omega)]
      rw [e4]; exact h
/-- the same, by the field -/
theorem mask_l4 (hk : BL 16 k) (hs : BL 16 s) {m : Nat} (hm : 16 * m < p.length) (hp : p.length ≤ 140737488355328) {g : Nat} {y : List Int} (h : bMask.l3 R k p g ((16 * (m + 1) : Nat) : Int) (ups s (m + 1)) (upto p.length (16 * (m + 1)) (fun i => bxor .u8 (lget p i) (strB (ks k) s i)) (lget p))) :
    ∃ g', bMask.l4 R ((16 * m : Nat) : Int) y k (ups s m) p g' ((16 * m : Nat) : Int) (upto p.length (16 * m) (fun i => bxor .u8 (lget p i) (strB (ks k) s i)) (lget p)) := by
  have e1 : add .i64 ((16 * m : Nat) : Int) 16 = ((16 * (m + 1) : Nat) : Int) := by rw [add_i64 (by omega) (by omega)]; omega
  refine loop_exfrom (fun f i x => bMask.l4 R ((16 * m : Nat) : Int) y k (ups s m) p f i x) (16 * m) (min (16 * (m + 1)) p.length) (fun i => upto p.length i (fun i => bxor .u8 (lget p i) (strB (ks k) s i)) (lget p)) (fun g i hl hi hg => ⟨g + 1, ?_⟩) ⟨g + 1, ?_⟩ (16 * m) (Nat.le_refl _) (by omega)
  · rw [bMask.l4_succ]
    have e2 : sub .i64 (i : Int) ((16 * m : Nat) : Int) = ((i - 16 * m : Nat) : Int) := subN_i64 (by omega) (by omega)
    refine ⟨fun _ => ?_, fun q => ?_⟩
    · have e3 : lget (enc (ks k) (ups s m)) (i - 16 * m) = strB (ks k) s i := by rw [strB, show i / 16 = m by omega, show i % 16 = i - 16 * m by omega]
      simp only [e2, nat_cast, nadd_def, Nat.zero_add, llen_def, upto_len, InB_iff, Low_iff, e3]
      rw [upto_hi (Nat.le_refl _) (by omega), upto_lset rfl, add1_i64 (by omega)]
      exact ⟨by omega, by omega, by omega, by omega, hg⟩
    · rw [e1, ofNat_def, llen_def, upto_len, imin_nat, ilt_false] at q; omega
  · rw [bMask.l4_succ]
    refine ⟨fun q => ?_, fun _ => ⟨ups_bl hs m, ?_⟩⟩
    · rw [e1, ofNat_def, llen_def, upto_len, imin_nat, ilt_true] at q; omega
    · rw [e1]
      have e4 : upto p.length (min (16 * (m + 1)) p.length) (fun i => bxor .u8 (lget p i) (strB (ks k) s i)) (lget p) = upto p.length (16 * (m + 1)) (fun i => bxor .u8 (lget p i) (strB (ks k) s i)) (lget p) := by
        refine tab_ext fun j hj => ?_
        by_cases q : j < 16 * (m + 1)
        · rw [if_pos q, if_pos (by omega)]
        · rw [if_neg q, if_neg (by omega)]
      rw [e4]; exact h

theorem mask_end {n m : Nat} (h : n ≤ m) {F G : Nat → Int} : upto n m F G = tab n F := tab_ext fun j hj => by rw [if_pos (by omega)]

theorem mask_l1 (hk : BL 16 k) (hs : BL 16 s) (hp : p.length ≤ 140737488355328) {t : List Int} (ht : Tbl t) (h : ∀ x σ, R (.one (.vec 19)) [(4, Blk.own 23 [(Seg.ints IntKind.u8 16 x)]), (7, Blk.own 90 [(Seg.ints IntKind.u8 176 (ks k))]), (10, Blk.own 93 [(Seg.ints IntKind.u8 256 t)]), (19, Blk.vec [(Col.ints IntKind.u8 (mask (ks k) s p))]), σ]) :
    ∃ g, bMask.l1 R k t p g 0 s p := by
  have key := loop_exby 16 (fun f i (x : List Int × List Int) => bMask.l1 R k t p f i x.1 x.2) ((p.length + 15) / 16) (fun m => (ups s m, upto p.length (16 * m) (fun i => bxor .u8 (lget p i) (strB (ks k) s i)) (lget p)))
    (fun g m hm hg => by
      obtain ⟨g', hg'⟩ := mask_l2 (y := upto p.length (16 * m) (fun i => bxor .u8 (lget p i) (strB (ks k) s i)) (lget p)) hk hs (by omega) hp hg
      refine ⟨g' + 1, ?_⟩
      rw [bMask.l1_succ]
      refine ⟨fun _ => ⟨ht, ⟨ks_bl hk, ups_bl hs m⟩, hg'⟩, fun q => ?_⟩
      rw [ofNat_def, llen_def, upto_len, ilt_false] at q; omega)
    ⟨1, by
      show bMask.l1 R k t p (0 + 1) _ _ _
      rw [bMask.l1_succ]
      refine ⟨fun q => ?_, fun _ => ?_⟩
      · rw [ofNat_def, llen_def, upto_len, ilt_true] at q; omega
      · rw [mask_end (by omega)]; exact h _ _⟩ 0 (Nat.zero_le _)
  simpa [ups, upto_zero, ← eq_tab (l := p) rfl] using key

theorem mask_l3 (hk : BL 16 k) (hs : BL 16 s) (hp : p.length ≤ 140737488355328) (h : ∀ x σ, R (.one (.vec 19)) [(4, Blk.own 23 [(Seg.ints IntKind.u8 16 x)]), (7, Blk.own 90 [(Seg.ints IntKind.u8 176 (ks k))]), (19, Blk.vec [(Col.ints IntKind.u8 (mask (ks k) s p))]), σ]) :
    ∃ g, bMask.l3 R k p g 0 s p := by
  have key := loop_exby 16 (fun f i (x : List Int × List Int) => bMask.l3 R k p f i x.1 x.2) ((p.length + 15) / 16) (fun m => (ups s m, upto p.length (16 * m) (fun i => bxor .u8 (lget p i) (strB (ks k) s i)) (lget p)))
    (fun g m hm hg => by
      obtain ⟨g', hg'⟩ := mask_l4 (y := upto p.length (16 * m) (fun i => bxor .u8 (lget p i) (strB (ks k) s i)) (lget p)) hk hs (by omega) hp hg
      refine ⟨g' + 1, ?_⟩
      rw [bMask.l3_succ]
      refine ⟨fun _ => ⟨⟨ks_bl hk, ups_bl hs m⟩, hg'⟩, fun q => ?_⟩
      rw [ofNat_def, llen_def, upto_len, ilt_false] at q; omega)
    ⟨1, by
      show bMask.l3 R k p (0 + 1) _ _ _
      rw [bMask.l3_succ]
      refine ⟨fun q => ?_, fun _ => ?_⟩
      · rw [ofNat_def, llen_def, upto_len, ilt_true] at q; omega
      · rw [mask_end (by omega)]; exact h _ _⟩ 0 (Nat.zero_le _)
  simpa [ups, upto_zero, ← eq_tab (l := p) rfl] using key

theorem mask_l0 (hk : BL 16 k) {g : Nat} {y0 : List Int} (h : bMask.l1 R k (tab 256 fun i => fsub (i : Int)) p g 0 s y0) : ∃ g', bMask.l0 R s k y0 p g' 0 (lzeros 256) := by
  have key := loop_ex (fun f i x => bMask.l0 R s k y0 p f i x) 256 (fun i => upto 256 i (fun i => fsub (i : Int)) fun _ => 0)
    (fun g i hi hg => ⟨g + 1, by
      rw [bMask.l0_succ]
      have e1 : conv .u8 (i : Int) = (i : Int) := by rw [conv_u8]; omega
      refine ⟨fun _ => ?_, fun q => ?_⟩
      · simp only [e1, nat_cast, nadd_def, Nat.zero_add, InB_iff, Low_iff]
        rw [upto_lset rfl, add1_i64 (by omega)]
        exact ⟨Byte.of hi, by omega, hi, hg⟩
      · rw [ilt_false] at q; omega⟩)
    ⟨g + 1, by
      rw [bMask.l0_succ]
      refine ⟨fun q => ?_, fun _ => ?_⟩
      · rw [ilt_true] at q; omega
      · rw [upto_done]; exact h⟩ 0 (Nat.zero_le _)
  rw [upto_zero, ← lzeros_tab] at key
  exact key
end

theorem good_mask : Sx.Good Tryd.prog 42 maskS := by
  refine Sx.Good.reads (D := []) mixed gamB4_good Tryd.func42 (by kernel_rfl) rfl fun d args σ K h => ?_
  simp only [maskS] at h
  split at h <;> try exact h.elim
  rename_i k s x
  obtain ⟨p, ⟨⟨⟨hk, hs⟩, hsh, hp⟩, hK⟩, hr⟩ := rdb_row h
  have hle := hsh.le
  refine ⟨[.agg [.ints .u8 16 k], .agg [.ints .u8 16 s], .one (.vec 200002)], [(200002, .rview [.ints .u8 p])], .plain (plain_ints _ _ _) (.plain (plain_ints _ _ _) (.row [.ints .u8] _ hr (by decide) (.nil _))), by simp, ?_⟩
  have hy : lput (lzeros (nat (ofNat (llen p)))) 0 (lsub p 0 (nmin (llen p) (llen (lzeros (nat (ofNat (llen p))))))) = p := by
    simp only [ofNat_def, nat_cast, llen_def, lzeros, List.length_replicate, nmin_def, Nat.min_self, lsub_all, lput, List.take_zero, List.nil_append, Nat.zero_add]
    rw [List.drop_of_length_le (by simp), List.append_nil]
  have hM : Mk (ofNat (llen p)) (ofNat (llen p)) 1 := by rw [Mk_iff, ofNat_def, llen_def]; omega
  by_cases q : 32 < p.length
  · obtain ⟨g, hg⟩ := mask_l1 (R := Res d maskS.news σ K) hk hs hle (t := tab 256 fun i => fsub (i : Int)) ⟨tab_len _ _, fun i hi => tab_lget _ hi⟩ fun x σ' => res_vec rfl rfl hK
    obtain ⟨g', hg'⟩ := mask_l0 (s := s) hk hg
    refine ⟨g' + 1, ?_⟩
    rw [bMask_vc]
    refine ⟨hk, hM, ?_⟩
    show _ ∧ _
    rw [hy]
    refine ⟨fun _ => hg', fun q2 => ?_⟩
    rw [igt_false, ofNat_def, llen_def] at q2; omega
  · obtain ⟨g, hg⟩ := mask_l3 (R := Res d maskS.news σ K) hk hs hle fun x σ' => res_vec rfl rfl hK
    refine ⟨g + 1, ?_⟩
    rw [bMask_vc]
    refine ⟨hk, hM, ?_⟩
    show _ ∧ _
    rw [hy]
    refine ⟨fun q2 => ?_, fun _ => hg⟩
    rw [igt_true, ofNat_def, llen_def] at q2; omega
end Go.Proofs.YtdgmgalnhignjaaDoor.G

/- The document's key stream; streams. -/
namespace Go.Proofs.YtdgmgalnhignjaaDoor.G
open Go Go.Sx Go.Fld Go.Blk
set_option linter.unusedSimpArgs false
set_option linter.unusedVariables false

theorem good_rmask : Sx.Good Tryd.prog 55 maskS := by
  refine Sx.Good.reads (D := [⟨8, [.ints .u8], true, false⟩]) mixed gamB4_good Tryd.func55 (by kernel_rfl) rfl fun d args σ K h => ?_
  simp only [maskS] at h
  split at h <;> try exact h.elim
  rename_i k s x
  obtain ⟨p, ⟨⟨⟨hk, hs⟩, hsh, hp⟩, hK⟩, hr⟩ := rdb_row h
  have hle := hsh.le
  have hw := ks_bl hk
  refine ⟨[.agg [.ints .u8 16 k], .agg [.ints .u8 16 s], .one (.vec 200002)], [(200002, .rview [.ints .u8 p])], .plain (plain_ints _ _ _) (.plain (plain_ints _ _ _) (.row [.ints .u8] _ hr (by decide) (.nil _))), by simp, ?_⟩
  have key := loop_ex (fun f i (x : List Int × List Int × List Int) => rMask.l0 (Res d maskS.news σ K) k p f i x.1 x.2.1 x.2.2) p.length
    (fun i => (ups s ((i + 15) / 16), if i = 0 then lzeros 16 else enc (ks k) (ups s ((i - 1) / 16)), tab i fun i => bxor .u8 (lget p i) (strB (ks k) s i)))
    (fun g i hi hg => ⟨g + 1, by
      rw [rMask.l0_succ]
      have e1 : rem (i : Int) 16 = ((i % 16 : Nat) : Int) := remN (b := 16)
      have hroom : ∀ v : Int, Room (nadd (llen (tab i fun i => bxor .u8 (lget p i) (strB (ks k) s i))) (llen [v])) 1 := fun v => room1 (by rw [tab_llen, nadd_def, llen_def]; simp; omega)
      have hI : InB (i : Int) (llen p) := ⟨by omega, by rw [llen_def]; omega⟩
      have hI2 : InB ((i % 16 : Nat) : Int) 16 := ⟨by omega, by omega⟩
      have hL : Low (i % 16) 16 := ⟨by omega⟩
      have hN : NeZ 16 := ⟨by decide⟩
      refine ⟨fun _ => ?_, fun q => ?_⟩
      · rw [e1]
        simp only [nat_cast, nadd_def, Nat.zero_add, add1_i64 (show i < 9223372036854775807 by omega)]
        refine ⟨hN, fun q => ?_, fun q => ?_⟩
        · rw [ieq_true] at q
          have e2 : lget (enc (ks k) (ups s ((i + 15) / 16))) (i % 16) = strB (ks k) s i := by rw [strB, show (i + 15) / 16 = i / 16 by omega]
          have fin : rMask.l0 (Res d maskS.news σ K) k p g ((i + 1 : Nat) : Int) (up (ups s ((i + 15) / 16))) (enc (ks k) (ups s ((i + 15) / 16))) (lcat (tab i fun i => bxor .u8 (lget p i) (strB (ks k) s i)) [bxor .u8 (lget p i) (lget (enc (ks k) (ups s ((i + 15) / 16))) (i % 16))]) := by
            rw [e2]
            have h1 : up (ups s ((i + 15) / 16)) = ups s ((i + 1 + 15) / 16) := by rw [show (i + 1 + 15) / 16 = (i + 15) / 16 + 1 by omega]; rfl
            rw [h1, lcat_def, ← tab_succ i (fun i => bxor .u8 (lget p i) (strB (ks k) s i)), show (i + 15) / 16 = (i + 1 - 1) / 16 by omega]
            rw [if_neg (by omega)] at hg
            exact hg
          have hb := ups_bl hs ((i + 15) / 16)
          exact ⟨⟨hw, hb⟩, hb, hI, hN, hI2, ⟨hL, hroom _, fin⟩, hL, hroom _, fin⟩
        · rw [ieq_false] at q
          have q0 : ¬ i = 0 := fun e => q (by rw [e]; rfl)
          rw [if_neg q0]
          have e2 : lget (enc (ks k) (ups s ((i - 1) / 16))) (i % 16) = strB (ks k) s i := by rw [strB, show (i - 1) / 16 = i / 16 by omega]
          have fin : rMask.l0 (Res d maskS.news σ K) k p g ((i + 1 : Nat) : Int) (ups s ((i + 15) / 16)) (enc (ks k) (ups s ((i - 1) / 16))) (lcat (tab i fun i => bxor .u8 (lget p i) (strB (ks k) s i)) [bxor .u8 (lget p i) (lget (enc (ks k) (ups s ((i - 1) / 16))) (i % 16))]) := by
            rw [e2, lcat_def, ← tab_succ i (fun i => bxor .u8 (lget p i) (strB (ks k) s i)), show (i + 15) / 16 = (i + 1 + 15) / 16 by omega, show (i - 1) / 16 = (i + 1 - 1) / 16 by omega]
            rw [if_neg (by omega)] at hg
            exact hg
          exact ⟨hI, hN, hI2, ⟨hL, hroom _, fin⟩, hL, hroom _, fin⟩
      · rw [ofNat_def, llen_def, ilt_false] at q; omega⟩)
    ⟨1, by
      show rMask.l0 _ k p (0 + 1) _ _ _ _
      rw [rMask.l0_succ]
      refine ⟨fun q => ?_, fun _ => ?_⟩
      · rw [ofNat_def, llen_def, ilt_true] at q; omega
      · exact res_vec rfl rfl hK⟩ 0 (Nat.zero_le _)
  obtain ⟨g, hg⟩ := key
  refine ⟨g + 1, ?_⟩
  rw [rMask_vc]
  exact ⟨hk, by rw [Mk_iff, ofNat_def, llen_def]; omega, hg⟩

theorem zeros_bs (n : Nat) : Bs (lzeros n) := Bs.zeros n

end Go.Proofs.YtdgmgalnhignjaaDoor.G

/- What is known of the cell's functions. -/
namespace Go.Cel
open Go Go.Sx

/-- all noughts -/
def zb (l : List Int) : Bool := l.all fun x => x == 0
/-- filled up to a cell -/
def fillL (l : List Int) : List Int := l ++ List.replicate (320 - l.length) 0

structure LaidOk (p f : List Int) (i : Int) : Prop where
  e : (f.length : Int) = i
  le : f.length + p.length ≤ 320

structure FillOk (p : List Int) : Prop where
  le : p.length ≤ 320

def padR (p : List Int) : List Int := if p.length ≤ 320 then fillL p else []
def padE (p : List Int) : Int := if p.length ≤ 320 then 0 else 1
def plainR (p : List Int) : List Int := if p.length ≤ 48 then fillL (1 :: (p.length : Int) :: p) else []
def plainE (p : List Int) : Int := if p.length ≤ 48 then 0 else 1
def cutE (c : List Int) (n : Int) : Int := if c.length ≠ 320 then 50 else if n < 0 ∨ 320 < n then 2 else if zb (c.drop n.toNat) = false then 51 else 0
def cutR (c : List Int) (n : Int) : List Int := if cutE c n = 0 then c.take n.toNat else []
def opE (c : List Int) : Int := if c.length ≠ 320 then 50 else if c.getD 0 0 = 0 then 0 else if c.getD 0 0 ≠ 1 then 52 else if 48 < c.getD 1 0 then 53 else if zb (c.drop (2 + (c.getD 1 0).toNat)) = false then 51 else 0
def opY (c : List Int) : Bool := decide (opE c = 0) && decide (c.getD 0 0 ≠ 0)
def opR (c : List Int) : List Int := if opY c = true then (c.drop 2).take (c.getD 1 0).toNat else []
end Go.Cel
namespace Go.Sx
open Go.Cel

def noughtsS : Spec := ⟨0, false, fun _ args σ K => match args with
  | [x] => rdb σ x fun l => Short l ∧ K (.one (.bool (zb l))) σ
  | _ => False⟩
def noughts2S : Spec := ⟨0, false, fun _ args σ K => match args with
  | [x, .one (.int .i64 i)] => rdb σ x fun l => (Short l ∧ NonNeg i) ∧ K (.one (.bool (zb (l.drop (nat i))))) σ
  | _ => False⟩
def laidS : Spec := ⟨1, false, fun d args σ K => match args with
  | [x, .one (.int .i64 i), y] => rdb σ x fun p => rdb σ y fun f => LaidOk p f i ∧ K (.one (.vec d)) (Mem.ins d (.vec [.ints .u8 (fillL (lcat f p))]) σ)
  | _ => False⟩
def fillS : Spec := ⟨1, false, fun d args σ K => match args with
  | [x] => rdb σ x fun p => FillOk p ∧ K (.one (.vec d)) (Mem.ins d (.vec [.ints .u8 (fillL p)]) σ)
  | _ => False⟩
/-- a list and an error out of a list -/
def lstS (r : List Int → List Int) (e : List Int → Int) : Spec := ⟨1, false, fun d args σ K => match args with
  | [x] => rdb σ x fun p => Short p ∧ K (.tup [.c (.vec d), .c (.int .i64 (e p))]) (Mem.ins d (.vec [.ints .u8 (r p)]) σ)
  | _ => False⟩
def cutS : Spec := ⟨1, false, fun d args σ K => match args with
  | [x, .one (.int .i64 n)] => rdb σ x fun c => Short c ∧ K (.tup [.c (.vec d), .c (.int .i64 (cutE c n))]) (Mem.ins d (.vec [.ints .u8 (cutR c n)]) σ)
  | _ => False⟩
def openS : Spec := ⟨1, false, fun d args σ K => match args with
  | [x] => rdb σ x fun c => (Short c ∧ Bs c) ∧ K (.tup [.c (.vec d), .c (.bool (opY c)), .c (.int .i64 (opE c))]) (Mem.ins d (.vec [.ints .u8 (opR c)]) σ)
  | _ => False⟩

def gamC1 : Gam := ext (ext (ext (ext gam0 45 noughtsS) 58 noughts2S) 44 laidS) 51 fillS
end Go.Sx

/- The verification conditions of functions, printed by a program of this session out of their codes. -/
namespace Go.Proofs.YtdgmgalnhignjaaDoor.G
open Go Go.Sx Go.Cel
set_option linter.unusedVariables false
set_option maxRecDepth 100000

def noughts.l0 (R : AV → Mem → Prop) (p : List Int) (fuel : Nat) (x0 : Int) : Prop := run Tryd.prog gam0 [] (resh Tryd.prog [] Tryd.f45.results.toList R) fuel [.code (cAt (bodyOf Tryd.f45) [1, 0, 1, 0, 0]), .inLoop (cAt (bodyOf Tryd.f45) [1, 0, 1, 0, 0]), .inBlock 0, .code (cAt (bodyOf Tryd.f45) [1, 1])] [AV.undef, AV.undef, AV.undef, AV.undef, AV.undef, (AV.one (AC.vec 200000)), (AV.one (AC.int IntKind.i64 (ofNat (llen p)))), (AV.one (AC.int IntKind.i64 x0)), AV.undef, AV.undef, AV.undef, AV.undef, AV.undef, AV.undef] [(200000, Blk.rview [(Col.ints IntKind.u8 p)])]

theorem noughts.l0_succ (R : AV → Mem → Prop) (p : List Int) (fuel : Nat) (x0 : Int) : noughts.l0 R p (fuel + 1) x0 = (((((ilt x0 (ofNat (llen p))) = true) → ((InB x0 (llen p)) ∧ ((((ine (lget p (nat x0)) 0) = true) → (R (AV.one (AC.lit false)) [(200000, Blk.rview [(Col.ints IntKind.u8 p)])])) ∧ (((ine (lget p (nat x0)) 0) = false) → (noughts.l0 R p fuel (add IntKind.i64 x0 1)))))) ∧ (((ilt x0 (ofNat (llen p))) = false) → (R (AV.one (AC.lit true)) [(200000, Blk.rview [(Col.ints IntKind.u8 p)])])))) := by kernel_rfl
theorem noughts_vc (R : AV → Mem → Prop) (fuel : Nat) (p : List Int) : callsx Tryd.prog gam0 [] Tryd.f45 (fuel + 1) [.one (.vec 200000)] [(200000, .rview [.ints .u8 p])] R = ((noughts.l0 R p fuel 0)) := by kernel_rfl

def rnoughts.l0 (R : AV → Mem → Prop) (p : List Int) (fuel : Nat) (x0 : Int) : Prop := run Tryd.prog gam0 [] (resh Tryd.prog [] Tryd.f58.results.toList R) fuel [.code (cAt (bodyOf Tryd.f58) [1, 0, 0, 0]), .inLoop (cAt (bodyOf Tryd.f58) [1, 0, 0, 0]), .inBlock 0, .code (cAt (bodyOf Tryd.f58) [1, 1])] [(AV.one (AC.vec 200000)), (AV.one (AC.int IntKind.i64 x0)), AV.undef, AV.undef, AV.undef, AV.undef, AV.undef, AV.undef, AV.undef, AV.undef, AV.undef, AV.undef, AV.undef, AV.undef, AV.undef, AV.undef] [(200000, Blk.rview [(Col.ints IntKind.u8 p)])]

theorem rnoughts.l0_succ (R : AV → Mem → Prop) (p : List Int) (fuel : Nat) (x0 : Int) : rnoughts.l0 R p (fuel + 1) x0 = (((((ilt x0 (ofNat (llen p))) = true) → ((InB x0 (llen p)) ∧ ((((ine (lget p (nat x0)) 0) = true) → (R (AV.one (AC.lit false)) [(200000, Blk.rview [(Col.ints IntKind.u8 p)])])) ∧ (((ine (lget p (nat x0)) 0) = false) → (rnoughts.l0 R p fuel (add IntKind.i64 x0 1)))))) ∧ (((ilt x0 (ofNat (llen p))) = false) → (R (AV.one (AC.lit true)) [(200000, Blk.rview [(Col.ints IntKind.u8 p)])])))) := by kernel_rfl
theorem rnoughts_vc (R : AV → Mem → Prop) (fuel : Nat) (p : List Int) (i : Int) : callsx Tryd.prog gam0 [] Tryd.f58 (fuel + 1) [.one (.vec 200000), .one (.int .i64 i)] [(200000, .rview [.ints .u8 p])] R = ((rnoughts.l0 R p fuel i)) := by kernel_rfl

theorem laid_vc (R : AV → Mem → Prop) (fuel : Nat) (p : List Int) (f : List Int) (i : Int) : callsx Tryd.prog gam0 [] Tryd.f44 (fuel + 1) [.one (.vec 200000), .one (.int .i64 i), .one (.vec 200002)] [(200000, .rview [.ints .u8 p]), (200002, .rview [.ints .u8 f])] R = (((Mk 320 320 1) ∧ (((NonNeg i) ∧ (Fits (nat i) (llen (lput (lzeros 320) 0 (lsub f 0 (nmin (llen f) 320)))))) ∧ (R (AV.one (AC.vec 8)) [(8, Blk.vec [(Col.ints IntKind.u8 (lput (lput (lzeros 320) 0 (lsub f 0 (nmin (llen f) 320))) (nat i) (lsub p 0 (nmin (llen p) (nsub (llen (lput (lzeros 320) 0 (lsub f 0 (nmin (llen f) 320)))) (nat i))))))]), (200000, Blk.rview [(Col.ints IntKind.u8 p)]), (200002, Blk.rview [(Col.ints IntKind.u8 f)])])))) := by kernel_rfl

def fill.l0 (R : AV → Mem → Prop) (p : List Int) (fuel : Nat) (x0 : List Int) : Prop := run Tryd.prog gam0 [⟨3, [.ints .u8], true, false⟩] (resh Tryd.prog [⟨3, [.ints .u8], true, false⟩] Tryd.f51.results.toList R) fuel [.code (cAt (bodyOf Tryd.f51) [1, 1, 0, 0, 0]), .inLoop (cAt (bodyOf Tryd.f51) [1, 1, 0, 0, 0]), .inBlock 0, .code (cAt (bodyOf Tryd.f51) [1, 1, 1])] [AV.undef, AV.undef, AV.undef, (AV.one (AC.vec 100003)), AV.undef, AV.undef, AV.undef, AV.undef, AV.undef, AV.undef, AV.undef, AV.undef, AV.undef, (AV.tup [])] [(100003, Blk.vec [(Col.ints IntKind.u8 x0)]), (200000, Blk.rview [(Col.ints IntKind.u8 p)])]

theorem fill.l0_succ (R : AV → Mem → Prop) (p : List Int) (fuel : Nat) (x0 : List Int) : fill.l0 R p (fuel + 1) x0 = (((((ilt (ofNat (llen x0)) 320) = true) → ((Room (nadd (llen x0) 1) 1) ∧ (fill.l0 R p fuel (lcat x0 [0])))) ∧ (((ilt (ofNat (llen x0)) 320) = false) → (R (AV.one (AC.vec 100003)) [(100003, Blk.vec [(Col.ints IntKind.u8 x0)]), (200000, Blk.rview [(Col.ints IntKind.u8 p)])])))) := by kernel_rfl
theorem fill_vc (R : AV → Mem → Prop) (fuel : Nat) (p : List Int) : callsx Tryd.prog gam0 [⟨3, [.ints .u8], true, false⟩] Tryd.f51 (fuel + 1) [.one (.vec 200000)] [(200000, .rview [.ints .u8 p])] R = (((Room (nadd 0 (llen p)) 1) ∧ (fill.l0 R p fuel (lcat [] p)))) := by kernel_rfl

theorem Pad_vc (R : AV → Mem → Prop) (fuel : Nat) (p : List Int) : callsx Tryd.prog gamC1 [] Tryd.f26 (fuel + 1) [.one (.vec 200000)] [(200000, .rview [.ints .u8 p])] R = (((((igt (ofNat (llen p)) 320) = true) → (R (AV.tup [(TV.c (AC.con (Value.slice (Option.none) 0 0))), (TV.c (AC.int IntKind.i64 1))]) [(200000, Blk.rview [(Col.ints IntKind.u8 p)])])) ∧ (((igt (ofNat (llen p)) 320) = false) → ((Go.Cel.LaidOk p [] 0) ∧ (R (AV.tup [(TV.c (AC.vec 8)), (TV.c (AC.int IntKind.i64 0))]) [(8, Blk.vec [(Col.ints IntKind.u8 (Go.Cel.fillL (lcat [] p)))]), (200000, Blk.rview [(Col.ints IntKind.u8 p)])]))))) := by kernel_rfl

theorem Plain_vc (R : AV → Mem → Prop) (fuel : Nat) (p : List Int) : callsx Tryd.prog gamC1 [] Tryd.f21 (fuel + 1) [.one (.vec 200000)] [(200000, .rview [.ints .u8 p])] R = (((((igt (ofNat (llen p)) 48) = true) → (R (AV.tup [(TV.c (AC.con (Value.slice (Option.none) 0 0))), (TV.c (AC.int IntKind.i64 1))]) [(200000, Blk.rview [(Col.ints IntKind.u8 p)])])) ∧ (((igt (ofNat (llen p)) 48) = false) → ((Go.Cel.LaidOk p [1, (conv IntKind.u8 (ofNat (llen p)))] 2) ∧ (R (AV.tup [(TV.c (AC.vec 12)), (TV.c (AC.int IntKind.i64 0))]) [(11, Blk.vec [(Col.ints IntKind.u8 [1, (conv IntKind.u8 (ofNat (llen p)))])]), (12, Blk.vec [(Col.ints IntKind.u8 (Go.Cel.fillL (lcat [1, (conv IntKind.u8 (ofNat (llen p)))] p)))]), (200000, Blk.rview [(Col.ints IntKind.u8 p)])]))))) := by kernel_rfl

theorem Cut_vc (R : AV → Mem → Prop) (fuel : Nat) (p : List Int) (n : Int) : callsx Tryd.prog gamC1 [] Tryd.f24 (fuel + 1) [.one (.vec 200000), .one (.int .i64 n)] [(200000, .rview [.ints .u8 p])] R = (((((ine (ofNat (llen p)) 320) = true) → (R (AV.tup [(TV.c (AC.con (Value.slice (Option.none) 0 0))), (TV.c (AC.int IntKind.i64 50))]) [(200000, Blk.rview [(Col.ints IntKind.u8 p)])])) ∧ (((ine (ofNat (llen p)) 320) = false) → ((((ilt n 0) = false) → ((((igt n 320) = true) → (R (AV.tup [(TV.c (AC.con (Value.slice (Option.none) 0 0))), (TV.c (AC.int IntKind.i64 2))]) [(200000, Blk.rview [(Col.ints IntKind.u8 p)])])) ∧ (((igt n 320) = false) → (((NonNeg n) ∧ (Fits (nat n) (llen p))) ∧ ((Go.Sx.Short (lsub p (nat n) (nsub (llen p) (nat n)))) ∧ ((((bnot (Go.Cel.zb (lsub p (nat n) (nsub (llen p) (nat n))))) = true) → (R (AV.tup [(TV.c (AC.con (Value.slice (Option.none) 0 0))), (TV.c (AC.int IntKind.i64 51))]) [(200000, Blk.rview [(Col.ints IntKind.u8 p)])])) ∧ (((bnot (Go.Cel.zb (lsub p (nat n) (nsub (llen p) (nat n))))) = false) → (((NonNeg n) ∧ (Fits (nat n) (llen p))) ∧ ((Room (nadd 0 (llen (lsub p 0 (nat n)))) 1) ∧ (R (AV.tup [(TV.c (AC.vec 26)), (TV.c (AC.int IntKind.i64 0))]) [(26, Blk.vec [(Col.ints IntKind.u8 (lcat [] (lsub p 0 (nat n))))]), (200000, Blk.rview [(Col.ints IntKind.u8 p)])])))))))))) ∧ (((ilt n 0) = true) → (R (AV.tup [(TV.c (AC.con (Value.slice (Option.none) 0 0))), (TV.c (AC.int IntKind.i64 2))]) [(200000, Blk.rview [(Col.ints IntKind.u8 p)])])))))) := by kernel_rfl

theorem Open_vc (R : AV → Mem → Prop) (fuel : Nat) (p : List Int) : callsx Tryd.prog gamC1 [] Tryd.f35 (fuel + 1) [.one (.vec 200000)] [(200000, .rview [.ints .u8 p])] R = (((((ine (ofNat (llen p)) 320) = true) → (R (AV.tup [(TV.c (AC.con (Value.slice (Option.none) 0 0))), (TV.c (AC.lit false)), (TV.c (AC.int IntKind.i64 50))]) [(200000, Blk.rview [(Col.ints IntKind.u8 p)])])) ∧ (((ine (ofNat (llen p)) 320) = false) → ((InB 0 (llen p)) ∧ ((((ieq (lget p 0) 0) = true) → (R (AV.tup [(TV.c (AC.con (Value.slice (Option.none) 0 0))), (TV.c (AC.lit false)), (TV.c (AC.int IntKind.i64 0))]) [(200000, Blk.rview [(Col.ints IntKind.u8 p)])])) ∧ (((ieq (lget p 0) 0) = false) → ((((ieq (lget p 0) 1) = true) → ((InB 1 (llen p)) ∧ ((((igt (conv IntKind.i64 (lget p 1)) 48) = true) → (R (AV.tup [(TV.c (AC.con (Value.slice (Option.none) 0 0))), (TV.c (AC.lit false)), (TV.c (AC.int IntKind.i64 53))]) [(200000, Blk.rview [(Col.ints IntKind.u8 p)])])) ∧ (((igt (conv IntKind.i64 (lget p 1)) 48) = false) → (((NonNeg (add IntKind.i64 2 (conv IntKind.i64 (lget p 1)))) ∧ (Fits (nat (add IntKind.i64 2 (conv IntKind.i64 (lget p 1)))) (llen p))) ∧ ((Go.Sx.Short (lsub p (nat (add IntKind.i64 2 (conv IntKind.i64 (lget p 1)))) (nsub (llen p) (nat (add IntKind.i64 2 (conv IntKind.i64 (lget p 1))))))) ∧ ((((bnot (Go.Cel.zb (lsub p (nat (add IntKind.i64 2 (conv IntKind.i64 (lget p 1)))) (nsub (llen p) (nat (add IntKind.i64 2 (conv IntKind.i64 (lget p 1)))))))) = true) → (R (AV.tup [(TV.c (AC.con (Value.slice (Option.none) 0 0))), (TV.c (AC.lit false)), (TV.c (AC.int IntKind.i64 51))]) [(200000, Blk.rview [(Col.ints IntKind.u8 p)])])) ∧ (((bnot (Go.Cel.zb (lsub p (nat (add IntKind.i64 2 (conv IntKind.i64 (lget p 1)))) (nsub (llen p) (nat (add IntKind.i64 2 (conv IntKind.i64 (lget p 1)))))))) = false) → ((((NonNeg (add IntKind.i64 2 (conv IntKind.i64 (lget p 1)))) ∧ (Fits (nat (add IntKind.i64 2 (conv IntKind.i64 (lget p 1)))) (llen p))) ∧ ((NonNeg 2) ∧ (Fits 2 (nat (add IntKind.i64 2 (conv IntKind.i64 (lget p 1))))))) ∧ ((Room (nadd 0 (llen (lsub p 2 (nsub (nat (add IntKind.i64 2 (conv IntKind.i64 (lget p 1)))) 2)))) 1) ∧ (R (AV.tup [(TV.c (AC.vec 32)), (TV.c (AC.lit true)), (TV.c (AC.int IntKind.i64 0))]) [(32, Blk.vec [(Col.ints IntKind.u8 (lcat [] (lsub p 2 (nsub (nat (add IntKind.i64 2 (conv IntKind.i64 (lget p 1)))) 2))))]), (200000, Blk.rview [(Col.ints IntKind.u8 p)])]))))))))))) ∧ (((ieq (lget p 0) 1) = false) → (R (AV.tup [(TV.c (AC.con (Value.slice (Option.none) 0 0))), (TV.c (AC.lit false)), (TV.c (AC.int IntKind.i64 52))]) [(200000, Blk.rview [(Col.ints IntKind.u8 p)])]))))))))) := by kernel_rfl

theorem rPad_vc (R : AV → Mem → Prop) (fuel : Nat) (p : List Int) : callsx Tryd.prog gamC1 [] Tryd.f31 (fuel + 1) [.one (.vec 200000)] [(200000, .rview [.ints .u8 p])] R = (((((igt (ofNat (llen p)) 320) = true) → (R (AV.tup [(TV.c (AC.con (Value.slice (Option.none) 0 0))), (TV.c (AC.int IntKind.i64 1))]) [(200000, Blk.rview [(Col.ints IntKind.u8 p)])])) ∧ (((igt (ofNat (llen p)) 320) = false) → ((Go.Cel.FillOk p) ∧ (R (AV.tup [(TV.c (AC.vec 8)), (TV.c (AC.int IntKind.i64 0))]) [(8, Blk.vec [(Col.ints IntKind.u8 (Go.Cel.fillL p))]), (200000, Blk.rview [(Col.ints IntKind.u8 p)])]))))) := by kernel_rfl

theorem rPlain_vc (R : AV → Mem → Prop) (fuel : Nat) (p : List Int) : callsx Tryd.prog gamC1 [] Tryd.f57 (fuel + 1) [.one (.vec 200000)] [(200000, .rview [.ints .u8 p])] R = (((((igt (ofNat (llen p)) 48) = true) → (R (AV.tup [(TV.c (AC.con (Value.slice (Option.none) 0 0))), (TV.c (AC.int IntKind.i64 1))]) [(200000, Blk.rview [(Col.ints IntKind.u8 p)])])) ∧ (((igt (ofNat (llen p)) 48) = false) → ((Room (nadd (llen [1, (conv IntKind.u8 (ofNat (llen p)))]) (llen p)) 1) ∧ ((Go.Cel.FillOk (lcat [1, (conv IntKind.u8 (ofNat (llen p)))] p)) ∧ (R (AV.tup [(TV.c (AC.vec 13)), (TV.c (AC.int IntKind.i64 0))]) [(12, Blk.vec [(Col.ints IntKind.u8 (lcat [1, (conv IntKind.u8 (ofNat (llen p)))] p))]), (13, Blk.vec [(Col.ints IntKind.u8 (Go.Cel.fillL (lcat [1, (conv IntKind.u8 (ofNat (llen p)))] p)))]), (200000, Blk.rview [(Col.ints IntKind.u8 p)])])))))) := by kernel_rfl

theorem rCut_vc (R : AV → Mem → Prop) (fuel : Nat) (p : List Int) (n : Int) : callsx Tryd.prog gamC1 [] Tryd.f52 (fuel + 1) [.one (.vec 200000), .one (.int .i64 n)] [(200000, .rview [.ints .u8 p])] R = (((((ine (ofNat (llen p)) 320) = true) → (R (AV.tup [(TV.c (AC.con (Value.slice (Option.none) 0 0))), (TV.c (AC.int IntKind.i64 50))]) [(200000, Blk.rview [(Col.ints IntKind.u8 p)])])) ∧ (((ine (ofNat (llen p)) 320) = false) → ((((ilt n 0) = false) → ((((igt n 320) = true) → (R (AV.tup [(TV.c (AC.con (Value.slice (Option.none) 0 0))), (TV.c (AC.int IntKind.i64 2))]) [(200000, Blk.rview [(Col.ints IntKind.u8 p)])])) ∧ (((igt n 320) = false) → (((Go.Sx.Short p) ∧ (NonNeg n)) ∧ ((((bnot (Go.Cel.zb (List.drop (nat n) p))) = true) → (R (AV.tup [(TV.c (AC.con (Value.slice (Option.none) 0 0))), (TV.c (AC.int IntKind.i64 51))]) [(200000, Blk.rview [(Col.ints IntKind.u8 p)])])) ∧ (((bnot (Go.Cel.zb (List.drop (nat n) p))) = false) → (((NonNeg n) ∧ (Fits (nat n) (llen p))) ∧ ((Room (nadd 0 (llen (lsub p 0 (nat n)))) 1) ∧ (R (AV.tup [(TV.c (AC.vec 26)), (TV.c (AC.int IntKind.i64 0))]) [(26, Blk.vec [(Col.ints IntKind.u8 (lcat [] (lsub p 0 (nat n))))]), (200000, Blk.rview [(Col.ints IntKind.u8 p)])]))))))))) ∧ (((ilt n 0) = true) → (R (AV.tup [(TV.c (AC.con (Value.slice (Option.none) 0 0))), (TV.c (AC.int IntKind.i64 2))]) [(200000, Blk.rview [(Col.ints IntKind.u8 p)])])))))) := by kernel_rfl

theorem rOpen_vc (R : AV → Mem → Prop) (fuel : Nat) (p : List Int) : callsx Tryd.prog gamC1 [] Tryd.f34 (fuel + 1) [.one (.vec 200000)] [(200000, .rview [.ints .u8 p])] R = (((((ine (ofNat (llen p)) 320) = true) → (R (AV.tup [(TV.c (AC.con (Value.slice (Option.none) 0 0))), (TV.c (AC.lit false)), (TV.c (AC.int IntKind.i64 50))]) [(200000, Blk.rview [(Col.ints IntKind.u8 p)])])) ∧ (((ine (ofNat (llen p)) 320) = false) → ((InB 0 (llen p)) ∧ ((((igt (lget p 0) 1) = true) → (R (AV.tup [(TV.c (AC.con (Value.slice (Option.none) 0 0))), (TV.c (AC.lit false)), (TV.c (AC.int IntKind.i64 52))]) [(200000, Blk.rview [(Col.ints IntKind.u8 p)])])) ∧ (((igt (lget p 0) 1) = false) → ((InB 0 (llen p)) ∧ ((((ieq (lget p 0) 0) = true) → (R (AV.tup [(TV.c (AC.con (Value.slice (Option.none) 0 0))), (TV.c (AC.lit false)), (TV.c (AC.int IntKind.i64 0))]) [(200000, Blk.rview [(Col.ints IntKind.u8 p)])])) ∧ (((ieq (lget p 0) 0) = false) → ((InB 1 (llen p)) ∧ ((((igt (lget p 1) 48) = true) → (R (AV.tup [(TV.c (AC.con (Value.slice (Option.none) 0 0))), (TV.c (AC.lit false)), (TV.c (AC.int IntKind.i64 53))]) [(200000, Blk.rview [(Col.ints IntKind.u8 p)])])) ∧ (((igt (lget p 1) 48) = false) → ((InB 1 (llen p)) ∧ (((Go.Sx.Short p) ∧ (NonNeg (add IntKind.i64 2 (conv IntKind.i64 (lget p 1))))) ∧ ((((bnot (Go.Cel.zb (List.drop (nat (add IntKind.i64 2 (conv IntKind.i64 (lget p 1)))) p))) = true) → (R (AV.tup [(TV.c (AC.con (Value.slice (Option.none) 0 0))), (TV.c (AC.lit false)), (TV.c (AC.int IntKind.i64 51))]) [(200000, Blk.rview [(Col.ints IntKind.u8 p)])])) ∧ (((bnot (Go.Cel.zb (List.drop (nat (add IntKind.i64 2 (conv IntKind.i64 (lget p 1)))) p))) = false) → ((InB 1 (llen p)) ∧ ((((NonNeg (add IntKind.i64 2 (conv IntKind.i64 (lget p 1)))) ∧ (Fits (nat (add IntKind.i64 2 (conv IntKind.i64 (lget p 1)))) (llen p))) ∧ ((NonNeg 2) ∧ (Fits 2 (nat (add IntKind.i64 2 (conv IntKind.i64 (lget p 1))))))) ∧ ((Room (nadd 0 (llen (lsub p 2 (nsub (nat (add IntKind.i64 2 (conv IntKind.i64 (lget p 1)))) 2)))) 1) ∧ (R (AV.tup [(TV.c (AC.vec 41)), (TV.c (AC.lit true)), (TV.c (AC.int IntKind.i64 0))]) [(41, Blk.vec [(Col.ints IntKind.u8 (lcat [] (lsub p 2 (nsub (nat (add IntKind.i64 2 (conv IntKind.i64 (lget p 1)))) 2))))]), (200000, Blk.rview [(Col.ints IntKind.u8 p)])])))))))))))))))))))) := by kernel_rfl

end Go.Proofs.YtdgmgalnhignjaaDoor.G

/- The cell's functions do what the plain mathematics says. -/
namespace Go.Proofs.YtdgmgalnhignjaaDoor.G
open Go Go.Sx Go.Cel
set_option maxRecDepth 20000
set_option linter.unusedSimpArgs false
set_option linter.unusedVariables false

theorem zb_cons (x : Int) (l : List Int) : zb (x :: l) = (x == 0 && zb l) := rfl

theorem noughts_l0 (R : AV → Mem → Prop) (p : List Int) (hs : Short p) : ∀ (n i : Nat), p.length - i = n → i ≤ p.length → (∀ b, b = zb (p.drop i) → R (.one (.lit b)) [(200000, .rview [.ints .u8 p])]) → noughts.l0 R p (n + 1) (i : Int) := by
  have hle := hs.le
  intro n
  induction n with
  | zero =>
    intro i hn hi h
    rw [noughts.l0_succ]
    refine ⟨fun q => ?_, fun _ => h true ?_⟩
    · rw [ilt_true] at q; simp only [ofNat, llen] at q; omega
    · rw [List.drop_of_length_le (by omega)]; rfl
  | succ n ih =>
    intro i hn hi h
    rw [noughts.l0_succ]
    have hlt : i < p.length := by omega
    have hd := lget_succ p i hlt
    refine ⟨fun _ => ⟨⟨by omega, by simp only [llen]; omega⟩, fun q => h false ?_, fun q => ?_⟩, fun q => ?_⟩
    · rw [ine_true] at q
      simp only [nat, Int.toNat_natCast] at q
      rw [hd, zb_cons]; simp [q]
    · rw [ine_false] at q
      simp only [nat, Int.toNat_natCast] at q
      rw [add_i64 (by omega) (by omega)]
      refine ih (i + 1) (by omega) (by omega) fun b hb => h b ?_
      rw [hb, hd, zb_cons, q]; rfl
    · rw [ilt_false] at q; simp only [ofNat, llen] at q; omega

theorem good_noughts : Sx.Good Tryd.prog 45 noughtsS := by
  refine Sx.Good.reads (D := []) mixed (good0 _) Tryd.func45 (by kernel_rfl) rfl fun d args σ K h => ?_
  simp only [noughtsS] at h
  split at h <;> try exact h.elim
  obtain ⟨l, ⟨hs, hK⟩, hr⟩ := rdb_row h
  refine ⟨[.one (.vec 200000)], [(200000, .rview [.ints .u8 l])], .row [.ints .u8] _ hr (by decide) (.nil _), by simp, l.length + 1 + 1, ?_⟩
  rw [noughts_vc]
  exact noughts_l0 _ l hs l.length 0 (by omega) (by omega) fun b hb => res_lit hb hK

theorem rnoughts_l0 (R : AV → Mem → Prop) (p : List Int) (hs : Short p) : ∀ (n i : Nat), p.length - i = n → (∀ b, b = zb (p.drop i) → R (.one (.lit b)) [(200000, .rview [.ints .u8 p])]) → rnoughts.l0 R p (n + 1) (i : Int) := by
  have hle := hs.le
  intro n
  induction n with
  | zero =>
    intro i hn h
    rw [rnoughts.l0_succ]
    refine ⟨fun q => ?_, fun _ => h true ?_⟩
    · rw [ilt_true] at q; simp only [ofNat, llen] at q; omega
    · rw [List.drop_of_length_le (by omega)]; rfl
  | succ n ih =>
    intro i hn h
    rw [rnoughts.l0_succ]
    have hlt : i < p.length := by omega
    have hd := lget_succ p i hlt
    refine ⟨fun _ => ⟨⟨by omega, by simp only [llen]; omega⟩, fun q => h false ?_, fun q => ?_⟩, fun q => ?_⟩
    · rw [ine_true] at q
      simp only [nat, Int.toNat_natCast] at q
      rw [hd, zb_cons]; simp [q]
    · rw [ine_false] at q
      simp only [nat, Int.toNat_natCast] at q
      rw [add_i64 (by omega) (by omega)]
      refine ih (i + 1) (by omega) fun b hb => h b ?_
      rw [hb, hd, zb_cons, q]; rfl
    · rw [ilt_false] at q; simp only [ofNat, llen] at q; omega

theorem good_rnoughts : Sx.Good Tryd.prog 58 noughts2S := by
  refine Sx.Good.reads (D := []) mixed (good0 _) Tryd.func58 (by kernel_rfl) rfl fun d args σ K h => ?_
  simp only [noughts2S] at h
  split at h <;> try exact h.elim
  rename_i i
  obtain ⟨l, ⟨⟨hs, hi⟩, hK⟩, hr⟩ := rdb_row h
  obtain ⟨j, rfl⟩ := Int.eq_ofNat_of_zero_le hi.le
  refine ⟨[.one (.vec 200000), .one (.int .i64 (j : Int))], [(200000, .rview [.ints .u8 l])], .row [.ints .u8] _ hr (by decide) (.plain (plain_int _ _) (.nil _)), by simp, l.length - j + 1 + 1, ?_⟩
  rw [rnoughts_vc]
  exact rnoughts_l0 _ l hs (l.length - j) j rfl fun b hb => res_lit (by rw [hb]; simp [nat]) hK

theorem zeros_drop (n i : Nat) : (List.replicate n (0 : Int)).drop i = List.replicate (n - i) 0 := by simp

theorem lput_zeros (f : List Int) (h : f.length ≤ 320) : lput (lzeros 320) 0 f = fillL f := by
  simp only [lput, lzeros, fillL, List.take_zero, List.nil_append, Nat.zero_add, List.drop_replicate]

theorem lput_fill (f p : List Int) (h : f.length + p.length ≤ 320) : lput (fillL f) f.length p = fillL (f ++ p) := by
  have e1 : (fillL f).take f.length = f := by simp [fillL]
  have e2 : (fillL f).drop (f.length + p.length) = List.replicate (320 - (f.length + p.length)) 0 := by
    unfold fillL
    rw [List.drop_append, List.drop_of_length_le (by omega), List.nil_append, zeros_drop]
    congr 1; omega
  simp only [lput, e1, e2]
  simp [fillL, List.append_assoc]

theorem good_laid : Sx.Good Tryd.prog 44 laidS := by
  refine Sx.Good.reads (D := []) mixed (good0 _) Tryd.func44 (by kernel_rfl) rfl fun d args σ K h => ?_
  simp only [laidS] at h
  split at h <;> try exact h.elim
  rename_i x i y
  obtain ⟨p, h, hp⟩ := rdb_row h
  obtain ⟨f, ⟨hok, hK⟩, hf⟩ := rdb_row h
  have he := hok.e
  have hle := hok.le
  refine ⟨[.one (.vec 200000), .one (.int .i64 i), .one (.vec 200002)], [(200000, .rview [.ints .u8 p]), (200002, .rview [.ints .u8 f])], .row [.ints .u8] _ hp (by decide) (.plain (plain_int _ _) (.row [.ints .u8] _ hf (by decide) (.nil _))), by simp, 1, ?_⟩
  rw [laid_vc]
  have hi : nat i = f.length := by simp only [nat]; omega
  have e1 : nmin (llen f) 320 = f.length := by simp only [nmin, llen]; omega
  rw [e1, lsub_all, lput_zeros f (by omega), hi]
  have e2 : llen (fillL f) = 320 := by simp [llen, fillL]; omega
  rw [e2]
  have e3 : nmin (llen p) (nsub 320 f.length) = p.length := by simp only [nmin, llen, nsub]; omega
  rw [e3, lsub_all, lput_fill f p hle]
  exact ⟨⟨by decide, by decide, by decide, by decide⟩, ⟨⟨by omega⟩, ⟨by omega⟩⟩, res_vec rfl rfl hK⟩

theorem fill_l0 (R : AV → Mem → Prop) (p q : List Int) : ∀ (n : Nat) (l : List Int), 320 - l.length = n → l.length ≤ 320 → R (.one (.vec 100003)) [(100003, .vec [.ints .u8 (fillL l)]), (200000, .rview [.ints .u8 p])] → fill.l0 R p (n + 1) l := by
  intro n
  induction n with
  | zero =>
    intro l hn hle h
    rw [fill.l0_succ]
    refine ⟨fun q => ?_, fun _ => ?_⟩
    · rw [ilt_true] at q; simp only [ofNat, llen] at q; omega
    · have : fillL l = l := by unfold fillL; rw [hn]; simp
      rw [this] at h; exact h
  | succ n ih =>
    intro l hn hle h
    have hl : (lcat l [0]).length = l.length + 1 := by simp [lcat]
    rw [fill.l0_succ]
    refine ⟨fun _ => ⟨room1 (by simp only [nadd, llen]; omega), ih _ (by rw [hl]; omega) (by rw [hl]; omega) ?_⟩, fun q => ?_⟩
    · have : fillL (lcat l [0]) = fillL l := by
        unfold fillL
        rw [hl, hn, show 320 - (l.length + 1) = n by omega, List.replicate_succ]
        simp [lcat]
      rw [this]; exact h
    · rw [ilt_false] at q; simp only [ofNat, llen] at q; omega

theorem good_fill : Sx.Good Tryd.prog 51 fillS := by
  refine Sx.Good.reads (D := [⟨3, [.ints .u8], true, false⟩]) mixed (good0 _) Tryd.func51 (by kernel_rfl) rfl fun d args σ K h => ?_
  simp only [fillS] at h
  split at h <;> try exact h.elim
  obtain ⟨p, ⟨hok, hK⟩, hr⟩ := rdb_row h
  have hle := hok.le
  refine ⟨[.one (.vec 200000)], [(200000, .rview [.ints .u8 p])], .row [.ints .u8] _ hr (by decide) (.nil _), by simp, 320 - p.length + 1 + 1, ?_⟩
  rw [fill_vc]
  refine ⟨room1 (by simp only [nadd, llen]; omega), fill_l0 _ p p (320 - p.length) _ (by simp [lcat]) (by simpa [lcat] using hle) ?_⟩
  exact res_vec rfl (by simp [lcat]) hK

theorem gamC1_good : GoodG Tryd.prog gamC1 := by
  refine ((((good0 _).ext good_noughts ?_).ext good_rnoughts ?_).ext good_laid ?_).ext good_fill ?_
  · exact ⟨_, Tryd.func45, by decide, by kernel_rfl⟩
  · exact ⟨_, Tryd.func58, by decide, by kernel_rfl⟩
  · exact ⟨_, Tryd.func44, by decide, by kernel_rfl⟩
  · exact ⟨_, Tryd.func51, by decide, by kernel_rfl⟩
end Go.Proofs.YtdgmgalnhignjaaDoor.G

/- Cells are made, cut and opened as the plain mathematics says. -/
namespace Go.Proofs.YtdgmgalnhignjaaDoor.G
open Go Go.Sx Go.Cel
set_option maxRecDepth 20000
set_option linter.unusedSimpArgs false
set_option linter.unusedVariables false

theorem laid0 {p : List Int} (h : p.length ≤ 320) : LaidOk p [] 0 := ⟨rfl, by simpa using h⟩

theorem conv_len {p : List Int} (h : p.length ≤ 48) : conv .u8 (ofNat (llen p)) = (p.length : Int) := by
  rw [conv_u8]; simp only [ofNat, llen]; omega

theorem good_pad : Sx.Good Tryd.prog 26 (lstS padR padE) := by
  refine Sx.Good.reads (D := []) mixed gamC1_good Tryd.func26 (by kernel_rfl) rfl fun d args σ K h => ?_
  simp only [lstS] at h
  split at h <;> try exact h.elim
  obtain ⟨p, ⟨hs, hK⟩, hr⟩ := rdb_row h
  refine ⟨[.one (.vec 200000)], [(200000, .rview [.ints .u8 p])], .row [.ints .u8] _ hr (by decide) (.nil _), by simp, 1, ?_⟩
  rw [Pad_vc]
  refine ⟨fun q => ?_, fun q => ?_⟩
  · rw [igt_true] at q; simp only [ofNat, llen] at q
    exact res_tnil (.int (by simp only [padE]; rw [if_neg (by omega)]) .nil) (by simp only [padR]; rw [if_neg (by omega)]) hK
  · rw [igt_false] at q; simp only [ofNat, llen] at q
    have hl : p.length ≤ 320 := by omega
    exact ⟨laid0 hl, res_tvec rfl (.int (by simp only [padE]; rw [if_pos hl]) .nil) (by simp only [padR]; rw [if_pos hl]; rfl) hK⟩

theorem good_rpad : Sx.Good Tryd.prog 31 (lstS padR padE) := by
  refine Sx.Good.reads (D := []) mixed gamC1_good Tryd.func31 (by kernel_rfl) rfl fun d args σ K h => ?_
  simp only [lstS] at h
  split at h <;> try exact h.elim
  obtain ⟨p, ⟨hs, hK⟩, hr⟩ := rdb_row h
  refine ⟨[.one (.vec 200000)], [(200000, .rview [.ints .u8 p])], .row [.ints .u8] _ hr (by decide) (.nil _), by simp, 1, ?_⟩
  rw [rPad_vc]
  refine ⟨fun q => ?_, fun q => ?_⟩
  · rw [igt_true] at q; simp only [ofNat, llen] at q
    exact res_tnil (.int (by simp only [padE]; rw [if_neg (by omega)]) .nil) (by simp only [padR]; rw [if_neg (by omega)]) hK
  · rw [igt_false] at q; simp only [ofNat, llen] at q
    have hl : p.length ≤ 320 := by omega
    exact ⟨⟨hl⟩, res_tvec rfl (.int (by simp only [padE]; rw [if_pos hl]) .nil) (by simp only [padR]; rw [if_pos hl]) hK⟩

theorem good_plain : Sx.Good Tryd.prog 21 (lstS plainR plainE) := by
  refine Sx.Good.reads (D := []) mixed gamC1_good Tryd.func21 (by kernel_rfl) rfl fun d args σ K h => ?_
  simp only [lstS] at h
  split at h <;> try exact h.elim
  obtain ⟨p, ⟨hs, hK⟩, hr⟩ := rdb_row h
  refine ⟨[.one (.vec 200000)], [(200000, .rview [.ints .u8 p])], .row [.ints .u8] _ hr (by decide) (.nil _), by simp, 1, ?_⟩
  rw [Plain_vc]
  refine ⟨fun q => ?_, fun q => ?_⟩
  · rw [igt_true] at q; simp only [ofNat, llen] at q
    exact res_tnil (.int (by simp only [plainE]; rw [if_neg (by omega)]) .nil) (by simp only [plainR]; rw [if_neg (by omega)]) hK
  · rw [igt_false] at q; simp only [ofNat, llen] at q
    have hl : p.length ≤ 48 := by omega
    rw [conv_len hl]
    exact ⟨⟨rfl, by simp; omega⟩, res_tvec rfl (.int (by simp only [plainE]; rw [if_pos hl]) .nil) (by simp only [plainR]; rw [if_pos hl]; rfl) hK⟩

theorem good_rplain : Sx.Good Tryd.prog 57 (lstS plainR plainE) := by
  refine Sx.Good.reads (D := []) mixed gamC1_good Tryd.func57 (by kernel_rfl) rfl fun d args σ K h => ?_
  simp only [lstS] at h
  split at h <;> try exact h.elim
  obtain ⟨p, ⟨hs, hK⟩, hr⟩ := rdb_row h
  refine ⟨[.one (.vec 200000)], [(200000, .rview [.ints .u8 p])], .row [.ints .u8] _ hr (by decide) (.nil _), by simp, 1, ?_⟩
  rw [rPlain_vc]
  refine ⟨fun q => ?_, fun q => ?_⟩
  · rw [igt_true] at q; simp only [ofNat, llen] at q
    exact res_tnil (.int (by simp only [plainE]; rw [if_neg (by omega)]) .nil) (by simp only [plainR]; rw [if_neg (by omega)]) hK
  · rw [igt_false] at q; simp only [ofNat, llen] at q
    have hl : p.length ≤ 48 := by omega
    rw [conv_len hl]
    exact ⟨room1 (by simp only [nadd, llen, List.length_cons, List.length_nil]; omega), ⟨by simp [lcat]; omega⟩, res_tvec rfl (.int (by simp only [plainE]; rw [if_pos hl]) .nil) (by simp only [plainR]; rw [if_pos hl]; rfl) hK⟩

/-- what both Cuts come to -/
theorem cut_len {c : List Int} {n : Int} (h : c.length ≠ 320) : cutE c n = 50 := by simp only [cutE]; rw [if_pos h]
theorem cut_arg {c : List Int} {n : Int} (h : c.length = 320) (hn : n < 0 ∨ 320 < n) : cutE c n = 2 := by simp only [cutE]; rw [if_neg (by omega), if_pos hn]
theorem cut_pad {c : List Int} {n : Int} (h : c.length = 320) (h0 : 0 ≤ n) (h1 : n ≤ 320) (hz : zb (c.drop n.toNat) = false) : cutE c n = 51 := by simp only [cutE]; rw [if_neg (by omega), if_neg (by omega), if_pos hz]
theorem cut_ok {c : List Int} {n : Int} (h : c.length = 320) (h0 : 0 ≤ n) (h1 : n ≤ 320) (hz : zb (c.drop n.toNat) = true) : cutE c n = 0 := by simp only [cutE]; rw [if_neg (by omega), if_neg (by omega), if_neg (by simp [hz])]
theorem cut_none {c : List Int} {n : Int} (h : cutE c n ≠ 0) : cutR c n = [] := by simp only [cutR]; rw [if_neg h]
theorem cut_some {c : List Int} {n : Int} (h : cutE c n = 0) : cutR c n = c.take n.toNat := by simp only [cutR]; rw [if_pos h]

theorem good_cut : Sx.Good Tryd.prog 24 cutS := by
  refine Sx.Good.reads (D := []) mixed gamC1_good Tryd.func24 (by kernel_rfl) rfl fun d args σ K h => ?_
  simp only [cutS] at h
  split at h <;> try exact h.elim
  rename_i n
  obtain ⟨c, ⟨hs, hK⟩, hr⟩ := rdb_row h
  refine ⟨[.one (.vec 200000), .one (.int .i64 n)], [(200000, .rview [.ints .u8 c])], .row [.ints .u8] _ hr (by decide) (.plain (plain_int _ _) (.nil _)), by simp, 1, ?_⟩
  rw [Cut_vc]
  have nil : ∀ {e : Int}, cutE c n = e → e ≠ 0 → ∀ σ', Res d 1 σ K (.tup [.c (.con (.slice none 0 0)), .c (.int .i64 e)]) σ' := fun he hne σ' => res_tnil (.int he.symm .nil) (cut_none (by rw [he]; exact hne)) hK
  refine ⟨fun q => ?_, fun q => ⟨fun q0 => ⟨fun q1 => ?_, fun q1 => ?_⟩, fun q0 => ?_⟩⟩
  · rw [ine_true] at q; simp only [ofNat, llen] at q
    exact nil (cut_len (by omega)) (by decide) _
  · rw [ine_false] at q; rw [igt_true] at q1; simp only [ofNat, llen] at q
    exact nil (cut_arg (by omega) (Or.inr q1)) (by decide) _
  · rw [ine_false] at q; rw [igt_false] at q1; rw [ilt_false] at q0; simp only [ofNat, llen] at q
    have hl : c.length = 320 := by omega
    have ed : lsub c (nat n) (nsub (llen c) (nat n)) = c.drop n.toNat := by simp only [nat, nsub, llen]; exact lsub_drop c _
    have et : lsub c 0 (nat n) = c.take n.toNat := by simp only [nat]; exact lsub_take c _
    rw [ed, et]
    have hb : NonNeg n ∧ Fits (nat n) (llen c) := ⟨⟨q0⟩, ⟨by simp only [nat, llen]; omega⟩⟩
    refine ⟨hb, ⟨by simp; omega⟩, fun q2 => ?_, fun q2 => ⟨hb, room1 (by simp only [nadd, llen, List.length_take]; omega), ?_⟩⟩
    · rw [bnot_true] at q2
      exact nil (cut_pad hl q0 q1 q2) (by decide) _
    · rw [bnot_false] at q2
      have e0 := cut_ok hl q0 q1 q2
      exact res_tvec rfl (.int e0.symm .nil) (by rw [cut_some e0]; rfl) hK
  · rw [ine_false] at q; rw [ilt_true] at q0; simp only [ofNat, llen] at q
    exact nil (cut_arg (by omega) (Or.inl q0)) (by decide) _

theorem good_rcut : Sx.Good Tryd.prog 52 cutS := by
  refine Sx.Good.reads (D := []) mixed gamC1_good Tryd.func52 (by kernel_rfl) rfl fun d args σ K h => ?_
  simp only [cutS] at h
  split at h <;> try exact h.elim
  rename_i n
  obtain ⟨c, ⟨hs, hK⟩, hr⟩ := rdb_row h
  refine ⟨[.one (.vec 200000), .one (.int .i64 n)], [(200000, .rview [.ints .u8 c])], .row [.ints .u8] _ hr (by decide) (.plain (plain_int _ _) (.nil _)), by simp, 1, ?_⟩
  rw [rCut_vc]
  have nil : ∀ {e : Int}, cutE c n = e → e ≠ 0 → ∀ σ', Res d 1 σ K (.tup [.c (.con (.slice none 0 0)), .c (.int .i64 e)]) σ' := fun he hne σ' => res_tnil (.int he.symm .nil) (cut_none (by rw [he]; exact hne)) hK
  refine ⟨fun q => ?_, fun q => ⟨fun q0 => ⟨fun q1 => ?_, fun q1 => ?_⟩, fun q0 => ?_⟩⟩
  · rw [ine_true] at q; simp only [ofNat, llen] at q
    exact nil (cut_len (by omega)) (by decide) _
  · rw [ine_false] at q; rw [igt_true] at q1; simp only [ofNat, llen] at q
    exact nil (cut_arg (by omega) (Or.inr q1)) (by decide) _
  · rw [ine_false] at q; rw [igt_false] at q1; rw [ilt_false] at q0; simp only [ofNat, llen] at q
    have hl : c.length = 320 := by omega
    have ed : List.drop (nat n) c = c.drop n.toNat := rfl
    have et : lsub c 0 (nat n) = c.take n.toNat := by simp only [nat]; exact lsub_take c _
    rw [ed, et]
    have hb : NonNeg n ∧ Fits (nat n) (llen c) := ⟨⟨q0⟩, ⟨by simp only [nat, llen]; omega⟩⟩
    refine ⟨⟨hs, ⟨q0⟩⟩, fun q2 => ?_, fun q2 => ⟨hb, room1 (by simp only [nadd, llen, List.length_take]; omega), ?_⟩⟩
    · rw [bnot_true] at q2
      exact nil (cut_pad hl q0 q1 q2) (by decide) _
    · rw [bnot_false] at q2
      have e0 := cut_ok hl q0 q1 q2
      exact res_tvec rfl (.int e0.symm .nil) (by rw [cut_some e0]; rfl) hK
  · rw [ine_false] at q; rw [ilt_true] at q0; simp only [ofNat, llen] at q
    exact nil (cut_arg (by omega) (Or.inl q0)) (by decide) _
end Go.Proofs.YtdgmgalnhignjaaDoor.G

/- Opening a cell, and the sets of the cell's functions. -/
namespace Go.Proofs.YtdgmgalnhignjaaDoor.G
open Go Go.Sx Go.Cel
set_option maxRecDepth 20000
set_option linter.unusedSimpArgs false
set_option linter.unusedVariables false

theorem op_len {c : List Int} (h : c.length ≠ 320) : opE c = 50 := by simp only [opE]; rw [if_pos h]
theorem op_noise {c : List Int} (h : c.length = 320) (h0 : lget c 0 = 0) : opE c = 0 ∧ opY c = false := by
  have : c.getD 0 0 = 0 := h0
  constructor
  · simp only [opE]; rw [if_neg (by omega), if_pos this]
  · simp [opY]; intro _; exact h0
theorem op_kind {c : List Int} (h : c.length = 320) (h0 : lget c 0 ≠ 0) (h1 : lget c 0 ≠ 1) : opE c = 52 := by
  have g0 : c.getD 0 0 ≠ 0 := h0
  have g1 : c.getD 0 0 ≠ 1 := h1
  simp only [opE]; rw [if_neg (by omega), if_neg g0, if_pos g1]
theorem op_long {c : List Int} (h : c.length = 320) (h1 : lget c 0 = 1) (h2 : 48 < lget c 1) : opE c = 53 := by
  have g1 : c.getD 0 0 = 1 := h1
  have g2 : 48 < c.getD 1 0 := h2
  simp only [opE]; rw [if_neg (by omega), if_neg (by omega), if_neg (by omega), if_pos g2]
theorem op_pad {c : List Int} {n : Nat} (h : c.length = 320) (h1 : lget c 0 = 1) (h2 : lget c 1 ≤ 48) (hn : (lget c 1).toNat = n) (hz : zb (c.drop (2 + n)) = false) : opE c = 51 := by
  have g1 : c.getD 0 0 = 1 := h1
  have g2 : c.getD 1 0 ≤ 48 := h2
  have gn : (c.getD 1 0).toNat = n := hn
  simp only [opE]; rw [if_neg (by omega), if_neg (by omega), if_neg (by omega), if_neg (by omega), gn, if_pos hz]
theorem op_ok {c : List Int} {n : Nat} (h : c.length = 320) (h1 : lget c 0 = 1) (h2 : lget c 1 ≤ 48) (hn : (lget c 1).toNat = n) (hz : zb (c.drop (2 + n)) = true) : opE c = 0 ∧ opY c = true ∧ opR c = (c.drop 2).take n := by
  have g1 : c.getD 0 0 = 1 := h1
  have g2 : c.getD 1 0 ≤ 48 := h2
  have gn : (c.getD 1 0).toNat = n := hn
  have e0 : opE c = 0 := by
    simp only [opE]; rw [if_neg (by omega), if_neg (by omega), if_neg (by omega), if_neg (by omega), gn, if_neg (by simp [hz])]
  have e1 : opY c = true := by simp only [opY, e0, g1]; decide
  exact ⟨e0, e1, by simp only [opR]; rw [if_pos e1, gn]⟩
theorem op_no {c : List Int} (h : opE c ≠ 0) : opY c = false := by simp [opY, h]
theorem op_nil {c : List Int} (h : opY c = false) : opR c = [] := by simp [opR, h]

section
variable {d : Nat} {σ : Mem} {K : AV → Mem → Prop} {c : List Int}
theorem op_fail (hK : K (.tup [.c (.vec d), .c (.bool (opY c)), .c (.int .i64 (opE c))]) (Mem.ins d (.vec [.ints .u8 (opR c)]) σ)) {e : Int} (he : opE c = e) (hne : e ≠ 0) (σ' : Mem) : Res d 1 σ K (.tup [.c (.con (.slice none 0 0)), .c (.lit false), .c (.int .i64 e)]) σ' := by
  have hy := op_no (c := c) (by rw [he]; exact hne)
  exact res_tnil (.lit hy.symm (.int he.symm .nil)) (op_nil hy) hK
theorem op_still (hK : K (.tup [.c (.vec d), .c (.bool (opY c)), .c (.int .i64 (opE c))]) (Mem.ins d (.vec [.ints .u8 (opR c)]) σ)) (h : opE c = 0 ∧ opY c = false) (σ' : Mem) : Res d 1 σ K (.tup [.c (.con (.slice none 0 0)), .c (.lit false), .c (.int .i64 0)]) σ' :=
  res_tnil (.lit h.2.symm (.int h.1.symm .nil)) (op_nil h.2) hK
end

theorem op_words {c : List Int} (hb : Bs c) : ∃ n : Nat, lget c 1 = (n : Int) ∧ (lget c 1).toNat = n ∧ n < 256 ∧ conv .i64 (lget c 1) = (n : Int) ∧ nat (add .i64 2 (conv .i64 (lget c 1))) = 2 + n ∧ 0 ≤ add .i64 2 (conv .i64 (lget c 1)) := by
  have h := hb.get 1
  obtain ⟨n, hn⟩ := Int.eq_ofNat_of_zero_le h.1
  have hg : lget c 1 = (n : Int) := hn
  have hlt : n < 256 := by have := h.2; omega
  have hc : conv .i64 (lget c 1) = (n : Int) := by rw [hg, conv_i64 (by omega) (by omega)]
  have ha : add .i64 2 (conv .i64 (lget c 1)) = 2 + (n : Int) := by rw [hc, add_i64 (by omega) (by omega)]
  refine ⟨n, hg, by rw [hg]; rfl, hlt, hc, by rw [ha]; simp only [nat]; omega, by rw [ha]; omega⟩

theorem good_open : Sx.Good Tryd.prog 35 openS := by
  refine Sx.Good.reads (D := []) mixed gamC1_good Tryd.func35 (by kernel_rfl) rfl fun d args σ K h => ?_
  simp only [openS] at h
  split at h <;> try exact h.elim
  obtain ⟨c, ⟨⟨hs, hb⟩, hK⟩, hr⟩ := rdb_row h
  refine ⟨[.one (.vec 200000)], [(200000, .rview [.ints .u8 c])], .row [.ints .u8] _ hr (by decide) (.nil _), by simp, 1, ?_⟩
  rw [Open_vc]
  obtain ⟨n, hg, hgn, hlt, hc, hnat, h0⟩ := op_words hb
  refine ⟨fun q => ?_, fun q => ?_⟩
  · rw [ine_true] at q; simp only [ofNat, llen] at q
    exact op_fail hK (op_len (by omega)) (by decide) _
  rw [ine_false] at q; simp only [ofNat, llen] at q
  have hl : c.length = 320 := by omega
  refine ⟨⟨by omega, by simp only [llen]; omega⟩, fun q0 => ?_, fun q0 => ⟨fun q1 => ⟨⟨by omega, by simp only [llen]; omega⟩, fun q2 => ?_, fun q2 => ?_⟩, fun q1 => ?_⟩⟩
  · rw [ieq_true] at q0
    exact op_still hK (op_noise hl q0) _
  · rw [ieq_false] at q0; rw [ieq_true] at q1; rw [igt_true, hc] at q2
    exact op_fail hK (op_long hl q1 (by rw [hg]; exact q2)) (by decide) _
  · rw [ieq_false] at q0; rw [ieq_true] at q1; rw [igt_false, hc] at q2
    rw [hnat]
    have ed : lsub c (2 + n) (nsub (llen c) (2 + n)) = c.drop (2 + n) := by simp only [nsub, llen]; exact lsub_drop c _
    rw [ed]
    refine ⟨⟨⟨h0⟩, ⟨by simp only [llen]; omega⟩⟩, ⟨by simp; omega⟩, fun q3 => ?_, fun q3 => ⟨⟨⟨⟨h0⟩, ⟨by simp only [llen]; omega⟩⟩, ⟨⟨by decide⟩, ⟨by omega⟩⟩⟩, room1 (by simp only [nadd, nsub, llen, lsub, List.length_take, List.length_drop]; omega), ?_⟩⟩
    · rw [bnot_true] at q3
      exact op_fail hK (op_pad hl q1 (by rw [hg]; exact q2) hgn q3) (by decide) _
    · rw [bnot_false] at q3
      obtain ⟨e0, ey, er⟩ := op_ok hl q1 (by rw [hg]; exact q2) hgn q3
      refine res_tvec rfl (.lit ey.symm (.int e0.symm .nil)) ?_ hK
      rw [er]; simp only [lcat, List.nil_append, lsub, nsub]
      rw [show 2 + n - 2 = n by omega]
  · rw [ieq_false] at q0; rw [ieq_false] at q1
    exact op_fail hK (op_kind hl q0 q1) (by decide) _

theorem good_ropen : Sx.Good Tryd.prog 34 openS := by
  refine Sx.Good.reads (D := []) mixed gamC1_good Tryd.func34 (by kernel_rfl) rfl fun d args σ K h => ?_
  simp only [openS] at h
  split at h <;> try exact h.elim
  obtain ⟨c, ⟨⟨hs, hb⟩, hK⟩, hr⟩ := rdb_row h
  refine ⟨[.one (.vec 200000)], [(200000, .rview [.ints .u8 c])], .row [.ints .u8] _ hr (by decide) (.nil _), by simp, 1, ?_⟩
  rw [rOpen_vc]
  obtain ⟨n, hg, hgn, hlt, hc, hnat, h0⟩ := op_words hb
  refine ⟨fun q => ?_, fun q => ?_⟩
  · rw [ine_true] at q; simp only [ofNat, llen] at q
    exact op_fail hK (op_len (by omega)) (by decide) _
  rw [ine_false] at q; simp only [ofNat, llen] at q
  have hl : c.length = 320 := by omega
  have i0 : InB 0 (llen c) := ⟨by omega, by simp only [llen]; omega⟩
  have i1 : InB 1 (llen c) := ⟨by omega, by simp only [llen]; omega⟩
  have hz := hb.get 0
  have hz0 : 0 ≤ lget c 0 := hz.1
  refine ⟨i0, fun q0 => ?_, fun q0 => ⟨i0, fun q1 => ?_, fun q1 => ⟨i1, fun q2 => ?_, fun q2 => ⟨i1, ?_⟩⟩⟩⟩
  · rw [igt_true] at q0
    exact op_fail hK (op_kind hl (by omega) (by omega)) (by decide) _
  · rw [ieq_true] at q1
    exact op_still hK (op_noise hl q1) _
  · rw [igt_false] at q0; rw [ieq_false] at q1; rw [igt_true] at q2
    exact op_fail hK (op_long hl (by omega) q2) (by decide) _
  · rw [igt_false] at q0; rw [ieq_false] at q1; rw [igt_false] at q2
    have q1' : lget c 0 = 1 := by omega
    rw [hnat]
    have hn48 : n ≤ 48 := by omega
    refine ⟨⟨hs, ⟨h0⟩⟩, fun q3 => ?_, fun q3 => ⟨i1, ⟨⟨⟨h0⟩, ⟨by simp only [llen]; omega⟩⟩, ⟨⟨by decide⟩, ⟨by omega⟩⟩⟩, room1 (by simp only [nadd, nsub, llen, lsub, List.length_take, List.length_drop]; omega), ?_⟩⟩
    · rw [bnot_true] at q3
      exact op_fail hK (op_pad hl q1' q2 hgn q3) (by decide) _
    · rw [bnot_false] at q3
      obtain ⟨e0, ey, er⟩ := op_ok hl q1' q2 hgn q3
      refine res_tvec rfl (.lit ey.symm (.int e0.symm .nil)) ?_ hK
      rw [er]; simp only [lcat, List.nil_append, lsub, nsub]
      rw [show 2 + n - 2 = n by omega]

end Go.Proofs.YtdgmgalnhignjaaDoor.G

/- Functions that hand back parts of the lists that they read. -/
namespace Go.Sx
open Go
set_option linter.unusedSimpArgs false
set_option linter.unusedVariables false

/-- a part of argument j's list, seen by the caller -/
def ViewC (args cargs : List AV) (σ : Mem) (a b : AC) : Prop :=
  ∃ j n z i len cs, args[j]? = some (.one (.vec n)) ∧ cargs[j]? = some (.one (.vec (200000 + j))) ∧ Mem.cols σ n = some cs ∧ a = .vsl (200000 + j) z i len ∧ b = .vsl n z i len
def PlainC (a b : AC) : Prop := ∀ ρ ρ' v, CRep ρ a v → CRep ρ' b v
def ViewT (args cargs : List AV) (σ : Mem) : List TV → List TV → Prop
  | [], [] => True
  | .c a :: r, .c b :: s => (PlainC a b ∨ ViewC args cargs σ a b) ∧ ViewT args cargs σ r s
  | _, _ => False
section
variable {P : Program} {Γ : Gam} {D : Hints}
theorem viewT_sound {args cargs : List AV} {σ : Mem} {ρ ρ' : Rho} (hV : ∀ a b v, ViewC args cargs σ a b → CRep ρ a v → CRep ρ' b v) : ∀ {l m : List TV}, ViewT args cargs σ l m → l.length = m.length ∧ ∀ (j : Nat) a b v, l[j]? = some a → m[j]? = some b → TRep ρ a v → TRep ρ' b v
  | [], [], _ => ⟨rfl, fun j a b v h => by simp at h⟩
  | .c a :: l, .c b :: m, h => by
    obtain ⟨g1, g2⟩ := viewT_sound hV h.2
    refine ⟨by simp [g1], fun j x y v hx hy hr => ?_⟩
    cases j with
    | zero =>
      simp only [List.getElem?_cons_zero, Option.some.injEq] at hx hy
      subst hx hy
      rcases h.1 with q | q
      · exact q ρ ρ' v hr
      · exact hV a b v q hr
    | succ j => exact g2 j x y v (by simpa using hx) (by simpa using hy) hr
  | [], _ :: _, h => by simp [ViewT] at h
  | .c _ :: _, [], h => by simp [ViewT] at h
  | .g _ :: _, _, h => by simp [ViewT] at h
  | .c _ :: _, .g _ :: _, h => by simp [ViewT] at h
theorem Good.view (hm : P.follows .mixedOrders = true) (hΓ : GoodG P Γ) {f : FuncId} {fn : Func} (hf : P.funcs[f]? = some fn) (hb : fn.body.isSome = true) {s : Spec} (hs : s.mods = false)
    (hsem : ∀ d args σ (K : AV → Mem → Prop), s.sem d args σ K → ∃ cargs τ, Canon σ 0 args cargs τ ∧ args.length ≤ 1000 ∧ ∃ n, callsx P Γ D fn n cargs τ (fun av _ => ∃ ts us, av = .tup ts ∧ ViewT args cargs σ ts us ∧ K (.tup us) σ)) : Good P f s := by
  refine ⟨fun d args σ K h ρ w vals hg hmem hsep hl hv hnew => ?_⟩
  obtain ⟨cargs, τ, hcan, hlen, n, hc⟩ := hsem d args σ K h
  obtain ⟨h1, Ls, h2⟩ := canon_sound hmem hsep hcan vals.toList (by simpa using hl) (fun i x v hx hu => hv i x v hx (by simpa using hu))
  generalize hρ0 : rhoC ρ (fun n => Ls (n % 1000) (n / 1000)) = ρc
  have hρc : ∀ i f, 0 ≤ i → i < 0 + args.length → f < 100 → ρc (200000 + (i + 1000 * f)) = Ls i f := fun i f _ hi hf => by
    rw [← hρ0, rhoC_arg (by omega)]
    show Ls ((i + 1000 * f) % 1000) ((i + 1000 * f) / 1000) = Ls i f
    rw [show (i + 1000 * f) % 1000 = i by omega, show (i + 1000 * f) / 1000 = f by omega]
  have hgg : ∀ g, ρc (gname g) = ρ (gname g) := fun g => by rw [← hρ0]; exact rhoC_glob
  obtain ⟨g1, g2⟩ := h2 ρc hρc hgg
  have hgc : Glob ρc := fun g => by rw [hgg]; exact hg g
  have hno := canon_views hcan ρc
  have hsepc : Sep ρc τ := ⟨fun n m b c k hn _ _ hO => absurd hO (hno n b k hn), fun n b k hn hO => absurd hO (hno n b k hn)⟩
  refine (callsx_sound hm hΓ hf hb hc (ex := fun _ => False) hgc (by simpa using h1) (fun i y v hy hu => g1 i y v hy (by simpa using hu)) g2 hsepc (fun n b k hn hO => absurd hO (hno n b k hn))).mono ?_
  rintro e w' ⟨v, av', σ'', ρ'', rfl, ⟨ts, us, rfl, hT, hK⟩, hsr, hmem'', hsep'', hkeep, hown'', hk⟩
  have hsame : ∀ i, i < w.heap.size → w'.heap[i]? = w.heap[i]? := fun i hi => hk.block i hi (fun q => q)
  have hk' : Keeps (OwnAt ρ σ) w w' := ⟨hk.os, hk.tape, hk.output, hk.size, fun k hk' _ => hsame k hk'⟩
  have hV : ∀ a b v, ViewC args cargs σ a b → CRep ρ'' a v → CRep ρ b v := by
    rintro a b v ⟨j, n, z, i, len, cs, ha, hca, hcs, rfl, rfl⟩ hr
    have hjl : j < args.length := (List.getElem?_eq_some_iff.1 ha).1
    have hvj : j < vals.size := by omega
    have e1 := hv j _ vals[j] ha (by simp [hvj])
    have e2 := g1 j _ vals[j] hca (by simp [hvj])
    have e3 : ρ'' (200000 + j) = ρc (200000 + j) := hkeep _ (by omega)
    have e4 : vals[j] = .slice (ρ n).a (ρ n).len (ρ n).cap := e1
    have e5 : vals[j] = .slice (ρc (200000 + j)).a (ρc (200000 + j)).len (ρc (200000 + j)).cap := e2
    rw [e4] at e5
    simp only [Value.slice.injEq] at e5
    obtain ⟨q1, q2, q3⟩ := e5
    obtain ⟨A, cap, rfl, r1, r2, r3, r4⟩ := hr
    rw [e3] at r2 r3 r4
    obtain ⟨hVR, _⟩ := cols_sound hmem hcs
    refine ⟨A, cap, rfl, r1, by rw [q2]; exact r2, ?_, hVR.adr⟩
    rcases r3 with r3 | ⟨r3, r5⟩
    · exact Or.inl r3
    · exact Or.inr ⟨by rw [q3]; exact r3, by rw [q1]; exact r5⟩
  refine ⟨v, .tup us, σ, ρ, rfl, hK, ?_, hmem.keeps (fun n b k hb hk => hsame _ (in_range (hmem n b hb) hk)), hsep, fun n _ => rfl, fun n b k hn hO => Or.inl ⟨n, b, hn, hO⟩, hk', fun _ => ⟨hk, fun _ _ q => q⟩⟩
  obtain ⟨vs, rfl, hl', hall⟩ := hsr
  obtain ⟨l1, l2⟩ := viewT_sound hV hT
  refine ⟨vs, rfl, by omega, fun j b u hb' hu => ?_⟩
  have hj : j < ts.length := by have := (List.getElem?_eq_some_iff.1 hb').1; omega
  exact l2 j ts[j] b u (by simp [hj]) hb' (hall j ts[j] u (by simp [hj]) hu)
end
end Go.Sx

/- One layer: its mathematics and what is known of its functions. -/
namespace Go.Oni
open Go Go.Sx Go.Hsh Go.Mac Go.Blk Go.Cel
set_option linter.unusedSimpArgs false
def churn : List Int := [99, 104, 117, 114, 110]
/-- the bytes of the keys -/
def kB (key nonce : List Int) : List Int := exR (hmac nonce key) churn 80
def dvE (key : List Int) : Int := if key.length = 32 then 0 else 2
def dvB (key nonce : List Int) : List Int := if key.length = 32 then lsub (kB key nonce) 0 16 else lzeros 16
def dvM (key nonce : List Int) : List Int := if key.length = 32 then lsub (kB key nonce) 16 32 else lzeros 32
def dvR (key nonce : List Int) : List Int := if key.length = 32 then lsub (kB key nonce) 48 32 else lzeros 32
def sizeI (left : Int) : Int := if left < 1 ∨ 8 < left then 0 else 48 + 34 * left
/-- the bytes that are inside at most -/
def roomI (left : Int) : Int := sizeI left - 34
def tagO (mc : List Int) (left : Int) (nonce box : List Int) : List Int := lsub (hmac mc ([conv .u8 left] ++ nonce ++ box)) 0 16
def plO (left : Int) (inner : List Int) : List Int := ((inner.length / 256 : Nat) : Int) :: ((inner.length % 256 : Nat) : Int) :: (inner ++ lzeros ((sizeI left - 34).toNat - inner.length))
/-- a box under a nonce, tagged -/
def forgeO (key nonce : List Int) (left : Int) (plain : List Int) : List Int :=
  nonce ++ tagO (dvM key nonce) left nonce (mask (ks (dvB key nonce)) (lzeros 16) plain) ++ mask (ks (dvB key nonce)) (lzeros 16) plain
def wrE (key : List Int) (left : Int) (inner : List Int) : Int := if key.length ≠ 32 ∨ sizeI left = 0 then 2 else if sizeI left - 34 < (inner.length : Int) then 1 else 0
def wrR (key nonce : List Int) (left : Int) (inner : List Int) : List Int := if wrE key left inner = 0 then forgeO key nonce left (plO left inner) else []
/-- the number that stands ahead -/
def inN (pl : List Int) : Int := 256 * lget pl 0 + lget pl 1
def inOk (pl : List Int) (left : Int) : Bool := decide (inN pl ≤ sizeI left - 34) && zb (pl.drop (2 + (inN pl).toNat))
def nnO (c : List Int) : List Int := lsub c 0 16
def bxO (left : Int) (c : List Int) : List Int := lsub c 32 ((sizeI left).toNat - 32)
def opO (key : List Int) (left : Int) (c : List Int) : List Int := mask (ks (dvB key (nnO c))) (lzeros 16) (bxO left c)
def innO (pl : List Int) : List Int := lsub pl 2 (inN pl).toNat
def peE (key : List Int) (left : Int) (c : List Int) : Int :=
  if key.length ≠ 32 ∨ sizeI left = 0 then 2 else if cutE c (sizeI left) ≠ 0 then cutE c (sizeI left) else
  if lsub c 16 16 ≠ tagO (dvM key (nnO c)) left (nnO c) (bxO left c) then 70 else if inOk (opO key left c) left = false then 71 else 0
def peC (key : List Int) (left : Int) (c : List Int) : List Int := if peE key left c = 0 then (if 1 < left then padR (innO (opO key left c)) else plainR (innO (opO key left c))) else []
def peR (key : List Int) (left : Int) (c : List Int) : List Int := if peE key left c = 0 then lsub (hmac (dvR key (nnO c)) (lsub c 0 32)) 0 16 else lzeros 16
noncomputable def wL : List Int → List Int → Int → List Int → List Int := hide wrR
noncomputable def wE : List Int → Int → List Int → Int := hide wrE
noncomputable def pE : List Int → Int → List Int → Int := hide peE
noncomputable def pC : List Int → Int → List Int → List Int := hide peC
noncomputable def pR : List Int → Int → List Int → List Int := hide peR
theorem wL_eq (key nonce : List Int) (left : Int) (inner : List Int) : wL key nonce left inner = wrR key nonce left inner := by unfold wL; rw [hide_eq]
theorem wE_eq (key : List Int) (left : Int) (inner : List Int) : wE key left inner = wrE key left inner := by unfold wE; rw [hide_eq]
theorem pE_eq (key : List Int) (left : Int) (c : List Int) : pE key left c = peE key left c := by unfold pE; rw [hide_eq]
theorem pC_eq (key : List Int) (left : Int) (c : List Int) : pC key left c = peC key left c := by unfold pC; rw [hide_eq]
theorem pR_eq (key : List Int) (left : Int) (c : List Int) : pR key left c = peR key left c := by unfold pR; rw [hide_eq]

/-- a key as it is handed in: bytes, no more than a slice that is read -/
structure Ky (key : List Int) : Prop where
  sg : Sg key
  bs : Bs key
structure Nn (nonce : List Int) : Prop where
  bl : BL 16 nonce
structure In (l : List Int) : Prop where
  sh : l.length ≤ 140737488355328
  bs : Bs l
structure K32 (l : List Int) : Prop where
  bl : BL 32 l
structure K16 (l : List Int) : Prop where
  bl : BL 16 l
structure Left (left : Int) : Prop where
  lo : 1 ≤ left
  hi : left ≤ 8
structure Lf (left : Int) : Prop where
  lo : -9223372036854775808 ≤ left
  hi : left < 9223372036854775808
/-- a plain box of the size -/
structure Bx (left : Int) (pl : List Int) : Prop where
  lo : 1 ≤ left
  hi : left ≤ 8
  len : (pl.length : Int) = sizeI left - 32
  bs : Bs pl
/-- a key of 32 bytes, and a list for the box -/
structure Fg (key nonce : List Int) (left : Int) (pl : List Int) : Prop where
  ky : Ky key
  len : key.length = 32
  nn : BL 16 nonce
  lo : 1 ≤ left
  hi : left ≤ 8
  few : pl.length ≤ 1000
  bs : Bs pl
end Go.Oni
namespace Go.Sx
open Go.Hsh Go.Mac Go.Blk Go.Cel Go.Oni
def sizeS : Spec := ⟨0, false, fun _ args σ K => match args with
  | [.one (.int .i64 left)] => Lf left ∧ K (.one (.int .i64 (sizeI left))) σ
  | _ => False⟩
def roomS : Spec := ⟨0, false, fun _ args σ K => match args with
  | [.one (.int .i64 left)] => Lf left ∧ K (.one (.int .i64 (roomI left))) σ
  | _ => False⟩
def derS : Spec := ⟨0, false, fun _ args σ K => match args with
  | [x, .agg [.ints .u8 16 nonce]] => rdb σ x fun key => (hasRoots σ ∧ Ky key ∧ Nn nonce) ∧ K (.tup [.g [.ints .u8 16 (dvB key nonce), .ints .u8 32 (dvM key nonce), .ints .u8 32 (dvR key nonce)], .c (.int .i64 (dvE key))]) σ
  | _ => False⟩
def rderS : Spec := ⟨0, false, fun _ args σ K => match args with
  | [x, .agg [.ints .u8 16 nonce]] => rdb σ x fun key => (Ky key ∧ Nn nonce) ∧ K (.tup [.g [.ints .u8 16 (dvB key nonce), .ints .u8 32 (dvM key nonce), .ints .u8 32 (dvR key nonce)], .c (.int .i64 (dvE key))]) σ
  | _ => False⟩
def taggedS : Spec := ⟨1, false, fun d args σ K => match args with
  | [.agg [.ints .u8 16 _, .ints .u8 32 m, .ints .u8 32 _], .one (.int .i64 left), .agg [.ints .u8 16 nonce], x] => rdb σ x fun box => (hasRoots σ ∧ K32 m ∧ Nn nonce ∧ In box) ∧ K (.one (.vec d)) (Mem.ins d (.vec [.ints .u8 (tagO m left nonce box)]) σ)
  | _ => False⟩
def rtagOS : Spec := ⟨0, false, fun _ args σ K => match args with
  | [.agg [.ints .u8 16 _, .ints .u8 32 m, .ints .u8 32 _], .one (.int .i64 left), .agg [.ints .u8 16 nonce], x] => rdb σ x fun box => (K32 m ∧ Nn nonce ∧ In box) ∧ K (.agg [.ints .u8 16 (tagO m left nonce box)]) σ
  | _ => False⟩
noncomputable def halfS : Spec := ⟨0, false, fun _ args σ K => match args with
  | [.agg [.ints .u8 32 m], x] => rdb σ x fun msg => (K32 m ∧ Ky msg) ∧ K (.agg [.ints .u8 16 (lsub (tagL m msg) 0 16)]) σ
  | _ => False⟩
def forgeS : Spec := ⟨1, false, fun d args σ K => match args with
  | [x, .agg [.ints .u8 16 nonce], .one (.int .i64 left), y] => rdb σ x fun key => rdb σ y fun pl => Fg key nonce left pl ∧ K (.one (.vec d)) (Mem.ins d (.vec [.ints .u8 (forgeO key nonce left pl)]) σ)
  | _ => False⟩
def insideS : Spec := ⟨0, false, fun _ args σ K => match args with
  | [.one (.vec n), .one (.int .i64 left)] => match Mem.cols σ n with
    | some [.ints .u8 pl] => Bx left pl ∧ ((inOk pl left = false → K (.tup [.c (.con (.slice none 0 0)), .c (.lit false)]) σ) ∧ (inOk pl left = true → K (.tup [.c (.vsl n 1 2 (nat (inN pl))), .c (.lit true)]) σ))
    | _ => False
  | _ => False⟩
noncomputable def wrapS : Spec := ⟨1, false, fun d args σ K => match args with
  | [x, .agg [.ints .u8 16 nonce], .one (.int .i64 left), y] => rdb σ x fun key => rdb σ y fun inner => (hasRoots σ ∧ Ky key ∧ Nn nonce ∧ Lf left ∧ In inner) ∧ K (.tup [.c (.vec d), .c (.int .i64 (wE key left inner))]) (Mem.ins d (.vec [.ints .u8 (wL key nonce left inner)]) σ)
  | _ => False⟩
noncomputable def rwrapS : Spec := ⟨1, false, fun d args σ K => match args with
  | [x, .agg [.ints .u8 16 nonce], .one (.int .i64 left), y] => rdb σ x fun key => rdb σ y fun inner => (Ky key ∧ Nn nonce ∧ Lf left ∧ In inner) ∧ K (.tup [.c (.vec d), .c (.int .i64 (wE key left inner))]) (Mem.ins d (.vec [.ints .u8 (wL key nonce left inner)]) σ)
  | _ => False⟩
noncomputable def peelS : Spec := ⟨1, false, fun d args σ K => match args with
  | [x, .one (.int .i64 left), y] => rdb σ x fun key => rdb σ y fun c => (hasRoots σ ∧ Ky key ∧ Lf left ∧ In c) ∧ K (.tup [.g [.cells [.vec d], .ints .u8 16 (pR key left c)], .c (.int .i64 (pE key left c))]) (Mem.ins d (.vec [.ints .u8 (pC key left c)]) σ)
  | _ => False⟩
noncomputable def rpeelS : Spec := ⟨1, false, fun d args σ K => match args with
  | [x, .one (.int .i64 left), y] => rdb σ x fun key => rdb σ y fun c => (Ky key ∧ Lf left ∧ In c) ∧ K (.tup [.g [.cells [.vec d], .ints .u8 16 (pR key left c)], .c (.int .i64 (pE key left c))]) (Mem.ins d (.vec [.ints .u8 (pC key left c)]) σ)
  | _ => False⟩
/-- the layers below -/
noncomputable def gamO0 : Gam :=
  ext (ext (ext (ext (ext (ext (ext (ext (ext (ext (ext (ext (ext gam0 19 deriveS) 27 rderiveS) 43 tagS) 67 rtagS) 39 equalS)
    42 maskS) 55 maskS) 26 (lstS padR padE)) 21 (lstS plainR plainE)) 24 cutS) 31 (lstS padR padE)) 57 (lstS plainR plainE)) 52 cutS
noncomputable def gamO1 : Gam := ext (ext (ext (ext (ext (ext gamO0 25 sizeS) 48 sizeS) 38 derS) 53 rderS) 56 halfS) 40 taggedS
noncomputable def gamO1x : Gam := ext gamO1 50 roomS
noncomputable def gamO2 : Gam := ext (ext gamO1x 54 rtagOS) 41 insideS
noncomputable def gamO3 : Gam := ext gamO2 49 forgeS
noncomputable def gamO4 : Gam := ext (ext (ext (ext gamO3 29 wrapS) 28 rwrapS) 20 peelS) 33 rpeelS
end Go.Sx

/- The verification conditions of functions, printed by a program of this session out of their codes. -/
namespace Go.Proofs.YtdgmgalnhignjaaDoor.G
open Go Go.Sx Go.Oni
set_option linter.unusedVariables false
set_option maxRecDepth 100000

theorem osize_vc (R : AV → Mem → Prop) (fuel : Nat) (left : Int) : callsx Tryd.prog gam0 [] Tryd.f25 (fuel + 1) [.one (.int .i64 left)] [] R = (((((ilt left 1) = false) → ((((igt left 8) = true) → (R (AV.one (AC.int IntKind.i64 0)) [])) ∧ (((igt left 8) = false) → (R (AV.one (AC.int IntKind.i64 (add IntKind.i64 48 (mul IntKind.i64 34 left)))) [])))) ∧ (((ilt left 1) = true) → (R (AV.one (AC.int IntKind.i64 0)) [])))) := by kernel_rfl

theorem orsize_vc (R : AV → Mem → Prop) (fuel : Nat) (left : Int) : callsx Tryd.prog gam0 [] Tryd.f48 (fuel + 1) [.one (.int .i64 left)] [] R = (((((ilt left 1) = false) → ((((igt left 8) = true) → (R (AV.one (AC.int IntKind.i64 0)) [])) ∧ (((igt left 8) = false) → (R (AV.one (AC.int IntKind.i64 (add IntKind.i64 82 (mul IntKind.i64 34 (sub IntKind.i64 left 1))))) [])))) ∧ (((ilt left 1) = true) → (R (AV.one (AC.int IntKind.i64 0)) [])))) := by kernel_rfl

theorem oroom_vc (R : AV → Mem → Prop) (fuel : Nat) (left : Int) : callsx Tryd.prog gamO1 [] Tryd.f50 (fuel + 1) [.one (.int .i64 left)] [] R = (((Go.Oni.Lf left) ∧ (R (AV.one (AC.int IntKind.i64 (sub IntKind.i64 (Go.Oni.sizeI left) 34))) []))) := by kernel_rfl

theorem oder_vc (R : AV → Mem → Prop) (fuel : Nat) (key : List Int) (nonce : List Int) : callsx Tryd.prog gamO0 [] Tryd.f38 (fuel + 1) [.one (.vec 200000), .agg [.ints .u8 16 nonce]] [(200000, .rview [.ints .u8 key]), (1000000 + 0, .view [.ints .u32 64 Go.Hsh.rootsL])] R = (((((ine (ofNat (llen key)) 32) = true) → (R (AV.tup [(TV.g [(Seg.ints IntKind.u8 16 (lzeros 16)), (Seg.ints IntKind.u8 32 (lzeros 32)), (Seg.ints IntKind.u8 32 (lzeros 32))]), (TV.c (AC.int IntKind.i64 2))]) [(3, Blk.own 23 [(Seg.ints IntKind.u8 16 nonce)]), (4, Blk.own 67 [(Seg.ints IntKind.u8 16 (lzeros 16)), (Seg.ints IntKind.u8 32 (lzeros 32)), (Seg.ints IntKind.u8 32 (lzeros 32))]), (200000, Blk.rview [(Col.ints IntKind.u8 key)]), (1000000, Blk.view [(Seg.ints IntKind.u32 64 Go.Hsh.rootsL)])])) ∧ (((ine (ofNat (llen key)) 32) = false) → ((InB 0 5) ∧ ((Fits 16 16) ∧ (((Go.Hsh.rootsL = Go.Hsh.rootsL) ∧ ((Go.Mac.Sg key) ∧ ((Go.Mac.Sg (lsub nonce 0 16)) ∧ (Go.Mac.Sm47 [99, 104, 117, 114, 110])))) ∧ ((((ine (Go.Mac.exE 80) 0) = true) → (R (AV.tup [(TV.g [(Seg.ints IntKind.u8 16 (lzeros 16)), (Seg.ints IntKind.u8 32 (lzeros 32)), (Seg.ints IntKind.u8 32 (lzeros 32))]), (TV.c (AC.int IntKind.i64 (Go.Mac.exE 80)))]) [(3, Blk.own 23 [(Seg.ints IntKind.u8 16 nonce)]), (4, Blk.own 67 [(Seg.ints IntKind.u8 16 (lzeros 16)), (Seg.ints IntKind.u8 32 (lzeros 32)), (Seg.ints IntKind.u8 32 (lzeros 32))]), (15, Blk.rview [(Col.ints IntKind.u8 [99, 104, 117, 114, 110])]), (17, Blk.vec [(Col.ints IntKind.u8 (Go.Mac.exL (Go.Mac.tagL (lsub nonce 0 16) key) [99, 104, 117, 114, 110] 80))]), (200000, Blk.rview [(Col.ints IntKind.u8 key)]), (1000000, Blk.view [(Seg.ints IntKind.u32 64 Go.Hsh.rootsL)])])) ∧ (((ine (Go.Mac.exE 80) 0) = false) → (((NonNeg 16) ∧ (Fits 16 (llen (Go.Mac.exL (Go.Mac.tagL (lsub nonce 0 16) key) [99, 104, 117, 114, 110] 80)))) ∧ ((Fits 16 16) ∧ ((Fits 16 (llen (Go.Mac.exL (Go.Mac.tagL (lsub nonce 0 16) key) [99, 104, 117, 114, 110] 80))) ∧ ((((NonNeg 48) ∧ (Fits 48 (llen (Go.Mac.exL (Go.Mac.tagL (lsub nonce 0 16) key) [99, 104, 117, 114, 110] 80)))) ∧ ((NonNeg 16) ∧ (Fits 16 48))) ∧ ((Fits 32 32) ∧ ((Fits 48 (llen (Go.Mac.exL (Go.Mac.tagL (lsub nonce 0 16) key) [99, 104, 117, 114, 110] 80))) ∧ (((NonNeg 48) ∧ (Fits 48 (llen (Go.Mac.exL (Go.Mac.tagL (lsub nonce 0 16) key) [99, 104, 117, 114, 110] 80)))) ∧ ((Fits 32 (nsub (llen (Go.Mac.exL (Go.Mac.tagL (lsub nonce 0 16) key) [99, 104, 117, 114, 110] 80)) 48)) ∧ ((Fits 80 (llen (Go.Mac.exL (Go.Mac.tagL (lsub nonce 0 16) key) [99, 104, 117, 114, 110] 80))) ∧ ((Fits 16 16) ∧ ((Fits (nadd 0 32) 32) ∧ ((Fits (nadd 0 32) 32) ∧ (R (AV.tup [(TV.g [(Seg.ints IntKind.u8 16 (lput (lzeros 16) 0 (lsub (Go.Mac.exL (Go.Mac.tagL (lsub nonce 0 16) key) [99, 104, 117, 114, 110] 80) 0 16))), (Seg.ints IntKind.u8 32 (lput (lzeros 32) 0 (lsub (Go.Mac.exL (Go.Mac.tagL (lsub nonce 0 16) key) [99, 104, 117, 114, 110] 80) 16 32))), (Seg.ints IntKind.u8 32 (lput (lzeros 32) 0 (lsub (Go.Mac.exL (Go.Mac.tagL (lsub nonce 0 16) key) [99, 104, 117, 114, 110] 80) 48 32)))]), (TV.c (AC.int IntKind.i64 0))]) [(3, Blk.own 23 [(Seg.ints IntKind.u8 16 nonce)]), (4, Blk.own 67 [(Seg.ints IntKind.u8 16 (lput (lzeros 16) 0 (lsub (Go.Mac.exL (Go.Mac.tagL (lsub nonce 0 16) key) [99, 104, 117, 114, 110] 80) 0 16))), (Seg.ints IntKind.u8 32 (lput (lzeros 32) 0 (lsub (Go.Mac.exL (Go.Mac.tagL (lsub nonce 0 16) key) [99, 104, 117, 114, 110] 80) 16 32))), (Seg.ints IntKind.u8 32 (lput (lzeros 32) 0 (lsub (Go.Mac.exL (Go.Mac.tagL (lsub nonce 0 16) key) [99, 104, 117, 114, 110] 80) 48 32)))]), (15, Blk.rview [(Col.ints IntKind.u8 [99, 104, 117, 114, 110])]), (17, Blk.vec [(Col.ints IntKind.u8 (Go.Mac.exL (Go.Mac.tagL (lsub nonce 0 16) key) [99, 104, 117, 114, 110] 80))]), (200000, Blk.rview [(Col.ints IntKind.u8 key)]), (1000000, Blk.view [(Seg.ints IntKind.u32 64 Go.Hsh.rootsL)])]))))))))))))))))))))) := by kernel_rfl

def order_.l0 (R : AV → Mem → Prop) (nonce : List Int) (key : List Int) (fuel : Nat) (x0 : Int) (x1 : List Int) (x2 : List Int) (x3 : List Int) : Prop := run Tryd.prog gamO0 [] (resh Tryd.prog [] Tryd.f53.results.toList R) fuel [.code (cAt (bodyOf Tryd.f53) [1, 1, 1, 1, 0, 1, 0, 0]), .inLoop (cAt (bodyOf Tryd.f53) [1, 1, 1, 1, 0, 1, 0, 0]), .inBlock 0, .code (cAt (bodyOf Tryd.f53) [1, 1, 1, 1, 1])] [AV.undef, AV.undef, AV.undef, AV.undef, (AV.one (AC.ptr 4 0 0)), AV.undef, (AV.one (AC.ptr 6 0 0)), (AV.one (AC.vec 19)), AV.undef, (AV.one (AC.int IntKind.i64 x0)), AV.undef, AV.undef, AV.undef, AV.undef, AV.undef, AV.undef, AV.undef, AV.undef, AV.undef, AV.undef, AV.undef, AV.undef, AV.undef, AV.undef, AV.undef, AV.undef, AV.undef, AV.undef, AV.undef, AV.undef, AV.undef, AV.undef, AV.undef, AV.undef, AV.undef, AV.undef, AV.undef, AV.undef, AV.undef, AV.undef, AV.undef, AV.undef, AV.undef, AV.undef, AV.undef, AV.undef, AV.undef, AV.undef, AV.undef, AV.undef, AV.undef, AV.undef, AV.undef, AV.undef, AV.undef, (AV.tup [])] [(4, Blk.own 67 [(Seg.ints IntKind.u8 16 (lzeros 16)), (Seg.ints IntKind.u8 32 (lzeros 32)), (Seg.ints IntKind.u8 32 (lzeros 32))]), (6, Blk.own 67 [(Seg.ints IntKind.u8 16 x1), (Seg.ints IntKind.u8 32 x2), (Seg.ints IntKind.u8 32 x3)]), (19, Blk.vec [(Col.ints IntKind.u8 (Go.Mac.exL (Go.Mac.tagL (lsub nonce 0 16) key) [99, 104, 117, 114, 110] 80))]), (200000, Blk.rview [(Col.ints IntKind.u8 key)])]

theorem order_.l0_succ (R : AV → Mem → Prop) (nonce : List Int) (key : List Int) (fuel : Nat) (x0 : Int) (x1 : List Int) (x2 : List Int) (x3 : List Int) : order_.l0 R nonce key (fuel + 1) x0 x1 x2 x3 = (((((ilt x0 80) = true) → ((((ilt x0 16) = true) → ((InB x0 (llen (Go.Mac.exL (Go.Mac.tagL (lsub nonce 0 16) key) [99, 104, 117, 114, 110] 80))) ∧ ((InB x0 16) ∧ ((Low (nadd 0 (nat x0)) 16) ∧ (let y4 : List Int := (lset x1 (nadd 0 (nat x0)) (lget (Go.Mac.exL (Go.Mac.tagL (lsub nonce 0 16) key) [99, 104, 117, 114, 110] 80) (nat x0))); (order_.l0 R nonce key fuel (add IntKind.i64 x0 1) y4 x2 x3)))))) ∧ (((ilt x0 16) = false) → ((((ilt x0 48) = true) → ((InB x0 (llen (Go.Mac.exL (Go.Mac.tagL (lsub nonce 0 16) key) [99, 104, 117, 114, 110] 80))) ∧ ((InB (sub IntKind.i64 x0 16) 32) ∧ ((Low (nadd 0 (nat (sub IntKind.i64 x0 16))) 32) ∧ (let y5 : List Int := (lset x2 (nadd 0 (nat (sub IntKind.i64 x0 16))) (lget (Go.Mac.exL (Go.Mac.tagL (lsub nonce 0 16) key) [99, 104, 117, 114, 110] 80) (nat x0))); (order_.l0 R nonce key fuel (add IntKind.i64 x0 1) x1 y5 x3)))))) ∧ (((ilt x0 48) = false) → ((InB x0 (llen (Go.Mac.exL (Go.Mac.tagL (lsub nonce 0 16) key) [99, 104, 117, 114, 110] 80))) ∧ ((InB (sub IntKind.i64 x0 48) 32) ∧ ((Low (nadd 0 (nat (sub IntKind.i64 x0 48))) 32) ∧ (let y6 : List Int := (lset x3 (nadd 0 (nat (sub IntKind.i64 x0 48))) (lget (Go.Mac.exL (Go.Mac.tagL (lsub nonce 0 16) key) [99, 104, 117, 114, 110] 80) (nat x0))); (order_.l0 R nonce key fuel (add IntKind.i64 x0 1) x1 x2 y6)))))))))) ∧ (((ilt x0 80) = false) → (R (AV.tup [(TV.g [(Seg.ints IntKind.u8 16 x1), (Seg.ints IntKind.u8 32 x2), (Seg.ints IntKind.u8 32 x3)]), (TV.c (AC.int IntKind.i64 0))]) [(4, Blk.own 67 [(Seg.ints IntKind.u8 16 x1), (Seg.ints IntKind.u8 32 x2), (Seg.ints IntKind.u8 32 x3)]), (6, Blk.own 67 [(Seg.ints IntKind.u8 16 x1), (Seg.ints IntKind.u8 32 x2), (Seg.ints IntKind.u8 32 x3)]), (19, Blk.vec [(Col.ints IntKind.u8 (Go.Mac.exL (Go.Mac.tagL (lsub nonce 0 16) key) [99, 104, 117, 114, 110] 80))]), (200000, Blk.rview [(Col.ints IntKind.u8 key)])])))) := by kernel_rfl
theorem order__vc (R : AV → Mem → Prop) (fuel : Nat) (key : List Int) (nonce : List Int) : callsx Tryd.prog gamO0 [] Tryd.f53 (fuel + 1) [.one (.vec 200000), .agg [.ints .u8 16 nonce]] [(200000, .rview [.ints .u8 key])] R = (((((ine (ofNat (llen key)) 32) = true) → (R (AV.tup [(TV.g [(Seg.ints IntKind.u8 16 (lzeros 16)), (Seg.ints IntKind.u8 32 (lzeros 32)), (Seg.ints IntKind.u8 32 (lzeros 32))]), (TV.c (AC.int IntKind.i64 2))]) [(3, Blk.own 23 [(Seg.ints IntKind.u8 16 nonce)]), (4, Blk.own 67 [(Seg.ints IntKind.u8 16 (lzeros 16)), (Seg.ints IntKind.u8 32 (lzeros 32)), (Seg.ints IntKind.u8 32 (lzeros 32))]), (6, Blk.own 67 [(Seg.ints IntKind.u8 16 (lzeros 16)), (Seg.ints IntKind.u8 32 (lzeros 32)), (Seg.ints IntKind.u8 32 (lzeros 32))]), (200000, Blk.rview [(Col.ints IntKind.u8 key)])])) ∧ (((ine (ofNat (llen key)) 32) = false) → ((InB 0 5) ∧ ((Fits 16 16) ∧ ((((Go.Mac.Sg key) ∧ (Bs key)) ∧ (((Go.Mac.Sg (lsub nonce 0 16)) ∧ (Bs (lsub nonce 0 16))) ∧ ((Go.Mac.Sm47 [99, 104, 117, 114, 110]) ∧ (Bs [99, 104, 117, 114, 110])))) ∧ (order_.l0 R nonce key fuel 0 (lzeros 16) (lzeros 32) (lzeros 32)))))))) := by kernel_rfl

def ohalf.l0 (R : AV → Mem → Prop) (m : List Int) (msg : List Int) (fuel : Nat) (x0 : Int) (x1 : List Int) : Prop := run Tryd.prog gamO0 [] (resh Tryd.prog [] Tryd.f56.results.toList R) fuel [.code (cAt (bodyOf Tryd.f56) [1, 1, 1, 0, 1, 0, 0]), .inLoop (cAt (bodyOf Tryd.f56) [1, 1, 1, 0, 1, 0, 0]), .inBlock 0, .code (cAt (bodyOf Tryd.f56) [1, 1, 1, 1])] [AV.undef, AV.undef, AV.undef, AV.undef, (AV.one (AC.ptr 4 0 0)), (AV.one (AC.ptr 5 0 0)), (AV.one (AC.ptr 6 0 0)), (AV.one (AC.int IntKind.i64 x0)), AV.undef, AV.undef, AV.undef, AV.undef, AV.undef, AV.undef, AV.undef, AV.undef, AV.undef, AV.undef, AV.undef, AV.undef, (AV.tup [])] [(4, Blk.own 23 [(Seg.ints IntKind.u8 16 (lzeros 16))]), (5, Blk.own 63 [(Seg.ints IntKind.u8 32 (Go.Mac.tagL (lsub m 0 32) msg))]), (6, Blk.own 23 [(Seg.ints IntKind.u8 16 x1)]), (200001, Blk.rview [(Col.ints IntKind.u8 msg)])]

theorem ohalf.l0_succ (R : AV → Mem → Prop) (m : List Int) (msg : List Int) (fuel : Nat) (x0 : Int) (x1 : List Int) : ohalf.l0 R m msg (fuel + 1) x0 x1 = (((((ilt x0 16) = true) → ((InB x0 32) ∧ ((Low (nadd 0 (nat x0)) 32) ∧ ((InB x0 16) ∧ ((Low (nadd 0 (nat x0)) 16) ∧ (ohalf.l0 R m msg fuel (add IntKind.i64 x0 1) (lset x1 (nadd 0 (nat x0)) (lget (Go.Mac.tagL (lsub m 0 32) msg) (nadd 0 (nat x0)))))))))) ∧ (((ilt x0 16) = false) → (R (AV.agg [(Seg.ints IntKind.u8 16 x1)]) [(4, Blk.own 23 [(Seg.ints IntKind.u8 16 x1)]), (5, Blk.own 63 [(Seg.ints IntKind.u8 32 (Go.Mac.tagL (lsub m 0 32) msg))]), (6, Blk.own 23 [(Seg.ints IntKind.u8 16 x1)]), (200001, Blk.rview [(Col.ints IntKind.u8 msg)])])))) := by kernel_rfl
theorem ohalf_vc (R : AV → Mem → Prop) (fuel : Nat) (m : List Int) (msg : List Int) : callsx Tryd.prog gamO0 [] Tryd.f56 (fuel + 1) [.agg [.ints .u8 32 m], .one (.vec 200001)] [(200001, .rview [.ints .u8 msg])] R = (((Fits 32 32) ∧ ((((Go.Mac.Sg (lsub m 0 32)) ∧ (Bs (lsub m 0 32))) ∧ ((Go.Mac.Sg msg) ∧ (Bs msg))) ∧ (ohalf.l0 R m msg fuel 0 (lzeros 16))))) := by kernel_rfl

def otagged.k0 (R : AV → Mem → Prop) (kb : List Int) (km : List Int) (kr : List Int) (left : Int) (nonce : List Int) (box : List Int) (fuel : Nat) : Prop := runM Tryd.prog gamO0 [⟨8, [.ints .u8], true, true⟩] (resh Tryd.prog [⟨8, [.ints .u8], true, true⟩] Tryd.f40.results.toList R) (run Tryd.prog gamO0 [⟨8, [.ints .u8], true, true⟩] (resh Tryd.prog [⟨8, [.ints .u8], true, true⟩] Tryd.f40.results.toList R) fuel) 3994 [.code (cAt (bodyOf Tryd.f40) [1, 1, 1])] [(AV.agg [(Seg.ints IntKind.u8 16 kb), (Seg.ints IntKind.u8 32 km), (Seg.ints IntKind.u8 32 kr)]), (AV.one (AC.int IntKind.i64 left)), (AV.agg [(Seg.ints IntKind.u8 16 nonce)]), (AV.one (AC.vec 200003)), (AV.one (AC.ptr 4 0 0)), (AV.tup []), (AV.one (AC.ptr 6 0 0)), (AV.tup []), (AV.one (AC.con (Value.slice (Option.none) 0 0))), (AV.one (AC.vec 15)), (AV.one (AC.ptr 10 0 0)), (AV.one (AC.int IntKind.i64 left)), (AV.one (AC.int IntKind.u8 (conv IntKind.u8 left))), (AV.one (AC.vec 13)), (AV.one (AC.sl 6 0 0 16 16)), (AV.one (AC.vec 15)), (AV.one (AC.ptr 4 16 0)), (AV.one (AC.sl 4 16 0 32 32)), (AV.one (AC.vec 15)), (AV.one (AC.vec 200003)), (AV.one (AC.vec 20)), (AV.agg [(Seg.ints IntKind.u8 32 (Go.Mac.tagL (lsub km 0 32) (lcat (lcat [(conv IntKind.u8 left)] (lsub nonce 0 16)) box)))]), (AV.tup [])] [(4, Blk.own 67 [(Seg.ints IntKind.u8 16 kb), (Seg.ints IntKind.u8 32 km), (Seg.ints IntKind.u8 32 kr)]), (6, Blk.own 23 [(Seg.ints IntKind.u8 16 nonce)]), (10, Blk.own 63 [(Seg.ints IntKind.u8 32 (Go.Mac.tagL (lsub km 0 32) (lcat (lcat [(conv IntKind.u8 left)] (lsub nonce 0 16)) box)))]), (20, Blk.vec [(Col.ints IntKind.u8 (lcat (lcat [(conv IntKind.u8 left)] (lsub nonce 0 16)) box))]), (200003, Blk.rview [(Col.ints IntKind.u8 box)]), (1000000, Blk.view [(Seg.ints IntKind.u32 64 Go.Hsh.rootsL)])]

theorem otagged.k0_eq (R : AV → Mem → Prop) (kb : List Int) (km : List Int) (kr : List Int) (left : Int) (nonce : List Int) (box : List Int) (fuel : Nat) : otagged.k0 R kb km kr left nonce box fuel = ((((NonNeg 16) ∧ (Fits 16 32)) ∧ (R (AV.one (AC.vec 100008)) [(4, Blk.own 67 [(Seg.ints IntKind.u8 16 kb), (Seg.ints IntKind.u8 32 km), (Seg.ints IntKind.u8 32 kr)]), (6, Blk.own 23 [(Seg.ints IntKind.u8 16 nonce)]), (20, Blk.vec [(Col.ints IntKind.u8 (lcat (lcat [(conv IntKind.u8 left)] (lsub nonce 0 16)) box))]), (100008, Blk.vec [(Col.ints IntKind.u8 (lsub (Go.Mac.tagL (lsub km 0 32) (lcat (lcat [(conv IntKind.u8 left)] (lsub nonce 0 16)) box)) 0 16))]), (200003, Blk.rview [(Col.ints IntKind.u8 box)]), (1000000, Blk.view [(Seg.ints IntKind.u32 64 Go.Hsh.rootsL)])]))) := by kernel_rfl

theorem otagged_vc (R : AV → Mem → Prop) (fuel : Nat) (kb : List Int) (km : List Int) (kr : List Int) (nonce : List Int) (box : List Int) (left : Int) : callsx Tryd.prog gamO0 [⟨8, [.ints .u8], true, true⟩] Tryd.f40 (fuel + 1) [.agg [.ints .u8 16 kb, .ints .u8 32 km, .ints .u8 32 kr], .one (.int .i64 left), .agg [.ints .u8 16 nonce], .one (.vec 200003)] [(200003, .rview [.ints .u8 box]), (1000000 + 0, .view [.ints .u32 64 Go.Hsh.rootsL])] R = (((Fits 16 16) ∧ ((Room (nadd (llen [(conv IntKind.u8 left)]) (llen (lsub nonce 0 16))) 1) ∧ (((Room (nadd (llen (lcat [(conv IntKind.u8 left)] (lsub nonce 0 16))) (llen box)) 1) ∧ (((Fits (nadd 0 32) 32) ∧ (((Go.Hsh.rootsL = Go.Hsh.rootsL) ∧ ((Go.Mac.Sg (lsub km 0 32)) ∧ (Go.Mac.Sg (lcat (lcat [(conv IntKind.u8 left)] (lsub nonce 0 16)) box)))) ∧ (otagged.k0 R kb km kr left nonce box fuel))) ∧ ((Fits (nadd 0 32) 32) ∧ (((Go.Hsh.rootsL = Go.Hsh.rootsL) ∧ ((Go.Mac.Sg (lsub km 0 32)) ∧ (Go.Mac.Sg (lcat (lcat [(conv IntKind.u8 left)] (lsub nonce 0 16)) box)))) ∧ (otagged.k0 R kb km kr left nonce box fuel))))) ∧ ((Room (nadd (llen (lcat [(conv IntKind.u8 left)] (lsub nonce 0 16))) (llen box)) 1) ∧ ((Fits (nadd 0 32) 32) ∧ (((Go.Hsh.rootsL = Go.Hsh.rootsL) ∧ ((Go.Mac.Sg (lsub km 0 32)) ∧ (Go.Mac.Sg (lcat (lcat [(conv IntKind.u8 left)] (lsub nonce 0 16)) box)))) ∧ (otagged.k0 R kb km kr left nonce box fuel)))))))) := by kernel_rfl

theorem ortag_vc (R : AV → Mem → Prop) (fuel : Nat) (kb : List Int) (km : List Int) (kr : List Int) (nonce : List Int) (box : List Int) (left : Int) : callsx Tryd.prog gamO1 [] Tryd.f54 (fuel + 1) [.agg [.ints .u8 16 kb, .ints .u8 32 km, .ints .u8 32 kr], .one (.int .i64 left), .agg [.ints .u8 16 nonce], .one (.vec 200003)] [(200003, .rview [.ints .u8 box])] R = (((Fits 16 16) ∧ ((Room (nadd (llen [(conv IntKind.u8 left)]) (llen (lsub nonce 0 16))) 1) ∧ ((Room (nadd (llen (lcat [(conv IntKind.u8 left)] (lsub nonce 0 16))) (llen box)) 1) ∧ ((Fits (nadd 0 32) 32) ∧ (((Go.Oni.K32 (lsub km 0 32)) ∧ (Go.Oni.Ky (lcat (lcat [(conv IntKind.u8 left)] (lsub nonce 0 16)) box))) ∧ (R (AV.agg [(Seg.ints IntKind.u8 16 (lsub (Go.Mac.tagL (lsub km 0 32) (lcat (lcat [(conv IntKind.u8 left)] (lsub nonce 0 16)) box)) 0 16))]) [(4, Blk.own 67 [(Seg.ints IntKind.u8 16 kb), (Seg.ints IntKind.u8 32 km), (Seg.ints IntKind.u8 32 kr)]), (6, Blk.own 23 [(Seg.ints IntKind.u8 16 nonce)]), (8, Blk.own 23 [(Seg.ints IntKind.u8 16 (lsub (Go.Mac.tagL (lsub km 0 32) (lcat (lcat [(conv IntKind.u8 left)] (lsub nonce 0 16)) box)) 0 16))]), (18, Blk.vec [(Col.ints IntKind.u8 (lcat (lcat [(conv IntKind.u8 left)] (lsub nonce 0 16)) box))]), (200003, Blk.rview [(Col.ints IntKind.u8 box)])]))))))) := by kernel_rfl

def oinside.l0 (R : AV → Mem → Prop) (pl : List Int) (y2 : Nat) (y3 : Nat) (y4 : Int) (fuel : Nat) (x5 : Int) : Prop := run Tryd.prog gamO1x [] (resh Tryd.prog [] Tryd.f41.results.toList R) fuel [.code (cAt (bodyOf Tryd.f41) [1, 1, 1, 0, 1, 0, 0]), .inLoop (cAt (bodyOf Tryd.f41) [1, 1, 1, 0, 1, 0, 0]), .inBlock 0, .code (cAt (bodyOf Tryd.f41) [1, 1, 1, 1])] [(AV.one (AC.vec 200000)), AV.undef, AV.undef, AV.undef, AV.undef, AV.undef, (AV.one (AC.int IntKind.i64 (bor IntKind.i64 (shl IntKind.i64 (conv IntKind.i64 (lget pl 0)) 8) (conv IntKind.i64 (lget pl 1))))), AV.undef, AV.undef, AV.undef, AV.undef, AV.undef, AV.undef, AV.undef, AV.undef, AV.undef, AV.undef, AV.undef, AV.undef, AV.undef, AV.undef, AV.undef, AV.undef, AV.undef, AV.undef, AV.undef, (AV.one (AC.vsl 200000 1 y2 y3)), (AV.one (AC.int IntKind.i64 y4)), (AV.one (AC.int IntKind.i64 x5)), AV.undef, AV.undef, AV.undef, AV.undef, AV.undef, AV.undef, (AV.tup []), (AV.tup []), (AV.tup []), (AV.tup [])] [(200000, Blk.rview [(Col.ints IntKind.u8 pl)])]

theorem oinside.l0_succ (R : AV → Mem → Prop) (pl : List Int) (y2 : Nat) (y3 : Nat) (y4 : Int) (fuel : Nat) (x5 : Int) : oinside.l0 R pl y2 y3 y4 (fuel + 1) x5 = (((((ilt x5 y4) = true) → ((InB x5 y3) ∧ ((((ine (lget pl (nadd y2 (nat x5))) 0) = true) → (R (AV.tup [(TV.c (AC.con (Value.slice (Option.none) 0 0))), (TV.c (AC.lit false))]) [(200000, Blk.rview [(Col.ints IntKind.u8 pl)])])) ∧ (((ine (lget pl (nadd y2 (nat x5))) 0) = false) → (oinside.l0 R pl y2 y3 y4 fuel (add IntKind.i64 x5 1)))))) ∧ (((ilt x5 y4) = false) → ((((NonNeg (add IntKind.i64 2 (bor IntKind.i64 (shl IntKind.i64 (conv IntKind.i64 (lget pl 0)) 8) (conv IntKind.i64 (lget pl 1))))) ∧ (Fits (nat (add IntKind.i64 2 (bor IntKind.i64 (shl IntKind.i64 (conv IntKind.i64 (lget pl 0)) 8) (conv IntKind.i64 (lget pl 1))))) (llen pl))) ∧ ((NonNeg 2) ∧ (Fits 2 (nat (add IntKind.i64 2 (bor IntKind.i64 (shl IntKind.i64 (conv IntKind.i64 (lget pl 0)) 8) (conv IntKind.i64 (lget pl 1)))))))) ∧ (let y6 : Nat := (nsub (nat (add IntKind.i64 2 (bor IntKind.i64 (shl IntKind.i64 (conv IntKind.i64 (lget pl 0)) 8) (conv IntKind.i64 (lget pl 1))))) 2); (let y7 : Int := (add IntKind.i64 2 (bor IntKind.i64 (shl IntKind.i64 (conv IntKind.i64 (lget pl 0)) 8) (conv IntKind.i64 (lget pl 1)))); (R (AV.tup [(TV.c (AC.vsl 200000 1 2 y6)), (TV.c (AC.lit true))]) [(200000, Blk.rview [(Col.ints IntKind.u8 pl)])]))))))) := by kernel_rfl
theorem oinside_vc (R : AV → Mem → Prop) (fuel : Nat) (pl : List Int) (left : Int) : callsx Tryd.prog gamO1x [] Tryd.f41 (fuel + 1) [.one (.vec 200000), .one (.int .i64 left)] [(200000, .rview [.ints .u8 pl])] R = (((InB 0 (llen pl)) ∧ ((NonNeg 8) ∧ ((InB 1 (llen pl)) ∧ ((Go.Oni.Lf left) ∧ (let y0 : Bool := (igt (bor IntKind.i64 (shl IntKind.i64 (conv IntKind.i64 (lget pl 0)) 8) (conv IntKind.i64 (lget pl 1))) (Go.Oni.roomI left)); (((y0 = true) → (R (AV.tup [(TV.c (AC.con (Value.slice (Option.none) 0 0))), (TV.c (AC.lit false))]) [(200000, Blk.rview [(Col.ints IntKind.u8 pl)])])) ∧ ((y0 = false) → (((NonNeg (add IntKind.i64 2 (bor IntKind.i64 (shl IntKind.i64 (conv IntKind.i64 (lget pl 0)) 8) (conv IntKind.i64 (lget pl 1))))) ∧ (Fits (nat (add IntKind.i64 2 (bor IntKind.i64 (shl IntKind.i64 (conv IntKind.i64 (lget pl 0)) 8) (conv IntKind.i64 (lget pl 1))))) (llen pl))) ∧ (let y1 : Int := (add IntKind.i64 2 (bor IntKind.i64 (shl IntKind.i64 (conv IntKind.i64 (lget pl 0)) 8) (conv IntKind.i64 (lget pl 1)))); (let y2 : Nat := (nat (add IntKind.i64 2 (bor IntKind.i64 (shl IntKind.i64 (conv IntKind.i64 (lget pl 0)) 8) (conv IntKind.i64 (lget pl 1))))); (let y3 : Nat := (nsub (llen pl) (nat (add IntKind.i64 2 (bor IntKind.i64 (shl IntKind.i64 (conv IntKind.i64 (lget pl 0)) 8) (conv IntKind.i64 (lget pl 1)))))); (let y4 : Int := (ofNat (nsub (llen pl) (nat (add IntKind.i64 2 (bor IntKind.i64 (shl IntKind.i64 (conv IntKind.i64 (lget pl 0)) 8) (conv IntKind.i64 (lget pl 1))))))); (oinside.l0 R pl y2 y3 y4 fuel 0)))))))))))))) := by kernel_rfl

theorem oforge_vc (R : AV → Mem → Prop) (fuel : Nat) (key : List Int) (nonce : List Int) (pl : List Int) (left : Int) : callsx Tryd.prog gamO2 [] Tryd.f49 (fuel + 1) [.one (.vec 200000), .agg [.ints .u8 16 nonce], .one (.int .i64 left), .one (.vec 200003)] [(200000, .rview [.ints .u8 key]), (200003, .rview [.ints .u8 pl])] R = ((((Go.Oni.Ky key) ∧ (Go.Oni.Nn nonce)) ∧ ((Fits 16 16) ∧ ((((Go.Blk.BL 16 (lsub (Go.Oni.dvB key nonce) 0 16)) ∧ (Go.Blk.BL 16 (lzeros 16))) ∧ ((Short pl) ∧ (Bs pl))) ∧ (((Go.Oni.K32 (Go.Oni.dvM key nonce)) ∧ ((Go.Oni.Nn nonce) ∧ (Go.Oni.In (Go.Blk.mask (Go.Blk.ks (lsub (Go.Oni.dvB key nonce) 0 16)) (lzeros 16) pl)))) ∧ ((Mk 0 (add IntKind.i64 32 (ofNat (llen (Go.Blk.mask (Go.Blk.ks (lsub (Go.Oni.dvB key nonce) 0 16)) (lzeros 16) pl)))) 1) ∧ ((Fits 16 16) ∧ ((Room (nadd 0 (llen (lsub nonce 0 16))) 1) ∧ ((Fits 16 16) ∧ ((Room (nadd (llen (lcat (lzeros 0) (lsub nonce 0 16))) (llen (lsub (Go.Oni.tagO (Go.Oni.dvM key nonce) left nonce (Go.Blk.mask (Go.Blk.ks (lsub (Go.Oni.dvB key nonce) 0 16)) (lzeros 16) pl)) 0 16))) 1) ∧ (let y0 : List Int := (lcat (lcat (lzeros 0) (lsub nonce 0 16)) (lsub (Go.Oni.tagO (Go.Oni.dvM key nonce) left nonce (Go.Blk.mask (Go.Blk.ks (lsub (Go.Oni.dvB key nonce) 0 16)) (lzeros 16) pl)) 0 16)); ((Room (nadd (llen y0) (llen (Go.Blk.mask (Go.Blk.ks (lsub (Go.Oni.dvB key nonce) 0 16)) (lzeros 16) pl))) 1) ∧ (R (AV.one (AC.vec 42)) [(5, Blk.own 23 [(Seg.ints IntKind.u8 16 nonce)]), (9, Blk.own 67 [(Seg.ints IntKind.u8 16 (Go.Oni.dvB key nonce)), (Seg.ints IntKind.u8 32 (Go.Oni.dvM key nonce)), (Seg.ints IntKind.u8 32 (Go.Oni.dvR key nonce))]), (12, Blk.own 23 [(Seg.ints IntKind.u8 16 (Go.Oni.tagO (Go.Oni.dvM key nonce) left nonce (Go.Blk.mask (Go.Blk.ks (lsub (Go.Oni.dvB key nonce) 0 16)) (lzeros 16) pl)))]), (24, Blk.vec [(Col.ints IntKind.u8 (Go.Blk.mask (Go.Blk.ks (lsub (Go.Oni.dvB key nonce) 0 16)) (lzeros 16) pl))]), (42, Blk.vec [(Col.ints IntKind.u8 (lcat y0 (Go.Blk.mask (Go.Blk.ks (lsub (Go.Oni.dvB key nonce) 0 16)) (lzeros 16) pl)))]), (200000, Blk.rview [(Col.ints IntKind.u8 key)]), (200003, Blk.rview [(Col.ints IntKind.u8 pl)])]))))))))))))) := by kernel_rfl

theorem owrap_vc (R : AV → Mem → Prop) (fuel : Nat) (key : List Int) (nonce : List Int) (inner : List Int) (left : Int) : callsx Tryd.prog gamO3 [] Tryd.f29 (fuel + 1) [.one (.vec 200000), .agg [.ints .u8 16 nonce], .one (.int .i64 left), .one (.vec 200003)] [(200000, .rview [.ints .u8 key]), (200003, .rview [.ints .u8 inner]), (1000000 + 0, .view [.ints .u32 64 Go.Hsh.rootsL])] R = ((((Go.Hsh.rootsL = Go.Hsh.rootsL) ∧ ((Go.Oni.Ky key) ∧ (Go.Oni.Nn nonce))) ∧ ((((ine (Go.Oni.dvE key) 0) = false) → ((Go.Oni.Lf left) ∧ ((((ieq (Go.Oni.sizeI left) 0) = true) → (R (AV.tup [(TV.c (AC.con (Value.slice (Option.none) 0 0))), (TV.c (AC.int IntKind.i64 2))]) [(5, Blk.own 23 [(Seg.ints IntKind.u8 16 nonce)]), (10, Blk.own 67 [(Seg.ints IntKind.u8 16 (Go.Oni.dvB key nonce)), (Seg.ints IntKind.u8 32 (Go.Oni.dvM key nonce)), (Seg.ints IntKind.u8 32 (Go.Oni.dvR key nonce))]), (200000, Blk.rview [(Col.ints IntKind.u8 key)]), (200003, Blk.rview [(Col.ints IntKind.u8 inner)]), (1000000, Blk.view [(Seg.ints IntKind.u32 64 Go.Hsh.rootsL)])])) ∧ (((ieq (Go.Oni.sizeI left) 0) = false) → ((Go.Oni.Lf left) ∧ ((((igt (ofNat (llen inner)) (Go.Oni.roomI left)) = true) → (R (AV.tup [(TV.c (AC.con (Value.slice (Option.none) 0 0))), (TV.c (AC.int IntKind.i64 1))]) [(5, Blk.own 23 [(Seg.ints IntKind.u8 16 nonce)]), (10, Blk.own 67 [(Seg.ints IntKind.u8 16 (Go.Oni.dvB key nonce)), (Seg.ints IntKind.u8 32 (Go.Oni.dvM key nonce)), (Seg.ints IntKind.u8 32 (Go.Oni.dvR key nonce))]), (200000, Blk.rview [(Col.ints IntKind.u8 key)]), (200003, Blk.rview [(Col.ints IntKind.u8 inner)]), (1000000, Blk.view [(Seg.ints IntKind.u32 64 Go.Hsh.rootsL)])])) ∧ (((igt (ofNat (llen inner)) (Go.Oni.roomI left)) = false) → ((Go.Oni.Lf left) ∧ ((Mk (sub IntKind.i64 (Go.Oni.sizeI left) 32) (sub IntKind.i64 (Go.Oni.sizeI left) 32) 1) ∧ ((NonNeg 8) ∧ ((InB 0 (llen (lzeros (nat (sub IntKind.i64 (Go.Oni.sizeI left) 32))))) ∧ ((InB 1 (llen (lset (lzeros (nat (sub IntKind.i64 (Go.Oni.sizeI left) 32))) 0 (conv IntKind.u8 (shr IntKind.i64 (ofNat (llen inner)) 8))))) ∧ (let y0 : List Int := (lset (lset (lzeros (nat (sub IntKind.i64 (Go.Oni.sizeI left) 32))) 0 (conv IntKind.u8 (shr IntKind.i64 (ofNat (llen inner)) 8))) 1 (conv IntKind.u8 (ofNat (llen inner)))); (((NonNeg 2) ∧ (Fits 2 (llen y0))) ∧ ((Fits 16 16) ∧ ((((Go.Blk.BL 16 (lsub (Go.Oni.dvB key nonce) 0 16)) ∧ (Go.Blk.BL 16 (lzeros 16))) ∧ ((Short (lput y0 2 (lsub inner 0 (nmin (llen inner) (nsub (llen y0) 2))))) ∧ (Bs (lput y0 2 (lsub inner 0 (nmin (llen inner) (nsub (llen y0) 2))))))) ∧ (let y1 : List Int := (Go.Blk.mask (Go.Blk.ks (lsub (Go.Oni.dvB key nonce) 0 16)) (lzeros 16) (lput y0 2 (lsub inner 0 (nmin (llen inner) (nsub (llen y0) 2))))); ((Fits 16 16) ∧ ((Room (nadd 0 (llen (lsub nonce 0 16))) 1) ∧ (((Go.Hsh.rootsL = Go.Hsh.rootsL) ∧ ((Go.Oni.K32 (Go.Oni.dvM key nonce)) ∧ ((Go.Oni.Nn nonce) ∧ (Go.Oni.In y1)))) ∧ ((Room (nadd (llen (lcat [] (lsub nonce 0 16))) (llen (Go.Oni.tagO (Go.Oni.dvM key nonce) left nonce y1))) 1) ∧ ((Room (nadd (llen (lcat (lcat [] (lsub nonce 0 16)) (Go.Oni.tagO (Go.Oni.dvM key nonce) left nonce y1))) (llen y1)) 1) ∧ (R (AV.tup [(TV.c (AC.vec 69)), (TV.c (AC.int IntKind.i64 0))]) [(5, Blk.own 23 [(Seg.ints IntKind.u8 16 nonce)]), (10, Blk.own 67 [(Seg.ints IntKind.u8 16 (Go.Oni.dvB key nonce)), (Seg.ints IntKind.u8 32 (Go.Oni.dvM key nonce)), (Seg.ints IntKind.u8 32 (Go.Oni.dvR key nonce))]), (36, Blk.vec [(Col.ints IntKind.u8 (lput y0 2 (lsub inner 0 (nmin (llen inner) (nsub (llen y0) 2)))))]), (56, Blk.vec [(Col.ints IntKind.u8 y1)]), (65, Blk.vec [(Col.ints IntKind.u8 (Go.Oni.tagO (Go.Oni.dvM key nonce) left nonce y1))]), (69, Blk.vec [(Col.ints IntKind.u8 (lcat (lcat (lcat [] (lsub nonce 0 16)) (Go.Oni.tagO (Go.Oni.dvM key nonce) left nonce y1)) y1))]), (200000, Blk.rview [(Col.ints IntKind.u8 key)]), (200003, Blk.rview [(Col.ints IntKind.u8 inner)]), (1000000, Blk.view [(Seg.ints IntKind.u32 64 Go.Hsh.rootsL)])]))))))))))))))))))))))) ∧ (((ine (Go.Oni.dvE key) 0) = true) → (R (AV.tup [(TV.c (AC.con (Value.slice (Option.none) 0 0))), (TV.c (AC.int IntKind.i64 2))]) [(5, Blk.own 23 [(Seg.ints IntKind.u8 16 nonce)]), (10, Blk.own 67 [(Seg.ints IntKind.u8 16 (Go.Oni.dvB key nonce)), (Seg.ints IntKind.u8 32 (Go.Oni.dvM key nonce)), (Seg.ints IntKind.u8 32 (Go.Oni.dvR key nonce))]), (200000, Blk.rview [(Col.ints IntKind.u8 key)]), (200003, Blk.rview [(Col.ints IntKind.u8 inner)]), (1000000, Blk.view [(Seg.ints IntKind.u32 64 Go.Hsh.rootsL)])]))))) := by kernel_rfl

def orwrap.l0 (R : AV → Mem → Prop) (left : Int) (nonce : List Int) (key : List Int) (inner : List Int) (fuel : Nat) (x1 : Int) (x2 : List Int) : Prop := run Tryd.prog gamO3 [] (resh Tryd.prog [] Tryd.f28.results.toList R) fuel [.code (cAt (bodyOf Tryd.f28) [1, 1, 1, 1, 1, 1, 0, 1, 0, 0]), .inLoop (cAt (bodyOf Tryd.f28) [1, 1, 1, 1, 1, 1, 0, 1, 0, 0]), .inBlock 0, .code (cAt (bodyOf Tryd.f28) [1, 1, 1, 1, 1, 1, 1])] [(AV.one (AC.vec 200000)), AV.undef, (AV.one (AC.int IntKind.i64 left)), (AV.one (AC.vec 200003)), AV.undef, (AV.one (AC.ptr 5 0 0)), AV.undef, AV.undef, AV.undef, AV.undef, (AV.one (AC.vec 29)), (AV.one (AC.int IntKind.i64 x1)), AV.undef, AV.undef, AV.undef, AV.undef, AV.undef, AV.undef, AV.undef, AV.undef, AV.undef, AV.undef, AV.undef, AV.undef, AV.undef, AV.undef, AV.undef, AV.undef, AV.undef, AV.undef, AV.undef, AV.undef, AV.undef, AV.undef, AV.undef, AV.undef, AV.undef, AV.undef, AV.undef, AV.undef, AV.undef, AV.undef, AV.undef, AV.undef, AV.undef, AV.undef, AV.undef, AV.undef, AV.undef, AV.undef, AV.undef, AV.undef, AV.undef, AV.undef, AV.undef, AV.undef, (AV.tup []), (AV.tup []), (AV.tup []), (AV.tup []), (AV.tup [])] [(5, Blk.own 23 [(Seg.ints IntKind.u8 16 nonce)]), (29, Blk.vec [(Col.ints IntKind.u8 x2)]), (200000, Blk.rview [(Col.ints IntKind.u8 key)]), (200003, Blk.rview [(Col.ints IntKind.u8 inner)])]

theorem orwrap.l0_succ (R : AV → Mem → Prop) (left : Int) (nonce : List Int) (key : List Int) (inner : List Int) (fuel : Nat) (x1 : Int) (x2 : List Int) : orwrap.l0 R left nonce key inner (fuel + 1) x1 x2 = (((((ilt x1 (ofNat (llen inner))) = true) → ((InB x1 (llen inner)) ∧ ((InB (add IntKind.i64 2 x1) (llen x2)) ∧ (orwrap.l0 R left nonce key inner fuel (add IntKind.i64 x1 1) (lset x2 (nat (add IntKind.i64 2 x1)) (lget inner (nat x1))))))) ∧ (((ilt x1 (ofNat (llen inner))) = false) → ((Go.Oni.Fg key nonce left x2) ∧ (R (AV.tup [(TV.c (AC.vec 60)), (TV.c (AC.int IntKind.i64 0))]) [(5, Blk.own 23 [(Seg.ints IntKind.u8 16 nonce)]), (29, Blk.vec [(Col.ints IntKind.u8 x2)]), (60, Blk.vec [(Col.ints IntKind.u8 (Go.Oni.forgeO key nonce left x2))]), (200000, Blk.rview [(Col.ints IntKind.u8 key)]), (200003, Blk.rview [(Col.ints IntKind.u8 inner)])]))))) := by kernel_rfl
theorem orwrap_vc (R : AV → Mem → Prop) (fuel : Nat) (key : List Int) (nonce : List Int) (inner : List Int) (left : Int) : callsx Tryd.prog gamO3 [] Tryd.f28 (fuel + 1) [.one (.vec 200000), .agg [.ints .u8 16 nonce], .one (.int .i64 left), .one (.vec 200003)] [(200000, .rview [.ints .u8 key]), (200003, .rview [.ints .u8 inner])] R = (((((ine (ofNat (llen key)) 32) = false) → ((Go.Oni.Lf left) ∧ ((((ieq (Go.Oni.sizeI left) 0) = true) → (R (AV.tup [(TV.c (AC.con (Value.slice (Option.none) 0 0))), (TV.c (AC.int IntKind.i64 2))]) [(5, Blk.own 23 [(Seg.ints IntKind.u8 16 nonce)]), (200000, Blk.rview [(Col.ints IntKind.u8 key)]), (200003, Blk.rview [(Col.ints IntKind.u8 inner)])])) ∧ (((ieq (Go.Oni.sizeI left) 0) = false) → ((Go.Oni.Lf left) ∧ ((((igt (ofNat (llen inner)) (sub IntKind.i64 (Go.Oni.sizeI left) 34)) = true) → (R (AV.tup [(TV.c (AC.con (Value.slice (Option.none) 0 0))), (TV.c (AC.int IntKind.i64 1))]) [(5, Blk.own 23 [(Seg.ints IntKind.u8 16 nonce)]), (200000, Blk.rview [(Col.ints IntKind.u8 key)]), (200003, Blk.rview [(Col.ints IntKind.u8 inner)])])) ∧ (((igt (ofNat (llen inner)) (sub IntKind.i64 (Go.Oni.sizeI left) 34)) = false) → ((Go.Oni.Lf left) ∧ ((Mk (sub IntKind.i64 (Go.Oni.sizeI left) 32) (sub IntKind.i64 (Go.Oni.sizeI left) 32) 1) ∧ ((NeZ 256) ∧ ((InB 0 (llen (lzeros (nat (sub IntKind.i64 (Go.Oni.sizeI left) 32))))) ∧ (let y0 : List Int := (lset (lzeros (nat (sub IntKind.i64 (Go.Oni.sizeI left) 32))) 0 (conv IntKind.u8 (quo IntKind.i64 (ofNat (llen inner)) 256))); ((NeZ 256) ∧ ((InB 1 (llen y0)) ∧ (orwrap.l0 R left nonce key inner fuel 0 (lset y0 1 (conv IntKind.u8 (rem (ofNat (llen inner)) 256)))))))))))))))))) ∧ (((ine (ofNat (llen key)) 32) = true) → (R (AV.tup [(TV.c (AC.con (Value.slice (Option.none) 0 0))), (TV.c (AC.int IntKind.i64 2))]) [(5, Blk.own 23 [(Seg.ints IntKind.u8 16 nonce)]), (200000, Blk.rview [(Col.ints IntKind.u8 key)]), (200003, Blk.rview [(Col.ints IntKind.u8 inner)])])))) := by kernel_rfl

end Go.Proofs.YtdgmgalnhignjaaDoor.G

/- The digest on plain numbers, in a form that is soon reckoned out. -/
namespace Go.Hsh
open Go Go.Sx
set_option linter.unusedSimpArgs false

abbrev m32 : Nat := 4294967296
def rotN (x n : Nat) : Nat := Nat.lor (x * 2 ^ (32 - n) % m32) (x / 2 ^ n)
def sg0N (x : Nat) : Nat := Nat.xor (Nat.xor (rotN x 7) (rotN x 18)) (x / 8)
def sg1N (x : Nat) : Nat := Nat.xor (Nat.xor (rotN x 17) (rotN x 19)) (x / 1024)
def s1N (e : Nat) : Nat := Nat.xor (Nat.xor (rotN e 6) (rotN e 11)) (rotN e 25)
def s0N (a : Nat) : Nat := Nat.xor (Nat.xor (rotN a 2) (rotN a 13)) (rotN a 22)
def chN (e f g : Nat) : Nat := Nat.xor (Nat.land e f) (Nat.land (Nat.xor 4294967295 e) g)
def mjN (a b c : Nat) : Nat := Nat.xor (Nat.xor (Nat.land a b) (Nat.land a c)) (Nat.land b c)

/-- a word -/
structure U (x : Int) (n : Nat) : Prop where
  e : x = (n : Int)
  lt : n < 4294967296
theorem xor32 {a b : Nat} (ha : a < 4294967296) (hb : b < 4294967296) : a ^^^ b < 4294967296 := Nat.xor_lt_two_pow (n := 32) ha hb
theorem and32 {a b : Nat} (ha : a < 4294967296) : a &&& b < 4294967296 := Nat.lt_of_le_of_lt Nat.and_le_left ha
theorem or32 {a b : Nat} (ha : a < 4294967296) (hb : b < 4294967296) : a ||| b < 4294967296 := Nat.or_lt_two_pow (n := 32) ha hb
theorem U.bxor {x y : Int} {a b : Nat} (h : U x a) (g : U y b) : U (bxor .u32 x y) (Nat.xor a b) := by
  obtain ⟨rfl, ha⟩ := h
  obtain ⟨rfl, hb⟩ := g
  refine ⟨?_, xor32 ha hb⟩
  show IntKind.u32.wrap ((BitVec.ofInt 32 (a : Int) ^^^ BitVec.ofInt 32 (b : Int)).toNat : Int) = _
  rw [BitVec.toNat_xor, ofInt_u32 a ha, ofInt_u32 b hb, IntKind.wrap_u32]
  have := xor32 ha hb
  show _ = ((a ^^^ b : Nat) : Int)
  omega
theorem U.band {x y : Int} {a b : Nat} (h : U x a) (g : U y b) : U (band .u32 x y) (Nat.land a b) := by
  obtain ⟨rfl, ha⟩ := h
  obtain ⟨rfl, hb⟩ := g
  refine ⟨?_, and32 ha⟩
  show IntKind.u32.wrap ((BitVec.ofInt 32 (a : Int) &&& BitVec.ofInt 32 (b : Int)).toNat : Int) = _
  rw [BitVec.toNat_and, ofInt_u32 a ha, ofInt_u32 b hb, IntKind.wrap_u32]
  have := and32 (b := b) ha
  show _ = ((a &&& b : Nat) : Int)
  omega
theorem U.add {x y : Int} {a b : Nat} (h : U x a) (g : U y b) : U (add .u32 x y) ((a + b) % m32) := by
  obtain ⟨rfl, ha⟩ := h
  obtain ⟨rfl, hb⟩ := g
  exact ⟨by rw [add_u32]; simp only [m32]; omega, Nat.mod_lt _ (by decide)⟩
theorem U.shr {x : Int} {a : Nat} (h : U x a) {n : Nat} (hn : n ≤ 32) : U (shr .u32 x (n : Int)) (a / 2 ^ n) := by
  obtain ⟨rfl, ha⟩ := h
  refine ⟨?_, Nat.lt_of_le_of_lt (Nat.div_le_self _ _) ha⟩
  unfold Go.Sx.shr
  have : min (n : Int).toNat IntKind.u32.bits = n := by show min ((n : Int).toNat) 32 = n; omega
  rw [this, Int.fdiv_eq_ediv_of_nonneg _ (Int.pow_nonneg (by decide))]
  rw [Int.natCast_ediv, Int.natCast_pow]; rfl
theorem U.rot {x : Int} {a : Nat} (h : U x a) {n : Nat} (h0 : 0 < n) (hn : n < 32) : U (rot x (n : Int)) (rotN a n) := by
  have h1 := h.shr (n := n) (by omega)
  obtain ⟨rfl, ha⟩ := h
  have h2 : Go.Sx.shl .u32 (a : Int) (32 - (n : Int)) = ((a * 2 ^ (32 - n) % m32 : Nat) : Int) := by
    unfold Go.Sx.shl
    have : min (32 - (n : Int)).toNat IntKind.u32.bits = 32 - n := by show min ((32 - (n : Int)).toNat) 32 = 32 - n; omega
    rw [this, IntKind.wrap_u32, Int.natCast_emod, Int.natCast_mul, Int.natCast_pow]; rfl
  unfold Go.Hsh.rot
  rw [h1.e, h2]
  exact ⟨bor_u32 (Nat.mod_lt _ (by decide)) h1.lt, or32 (Nat.mod_lt _ (by decide)) h1.lt⟩
theorem U.sg0 {x : Int} {a : Nat} (h : U x a) : U (sg0 x) (sg0N a) := ((h.rot (n := 7) (by decide) (by decide)).bxor (h.rot (n := 18) (by decide) (by decide))).bxor (h.shr (n := 3) (by decide))
theorem U.sg1 {x : Int} {a : Nat} (h : U x a) : U (sg1 x) (sg1N a) := ((h.rot (n := 17) (by decide) (by decide)).bxor (h.rot (n := 19) (by decide) (by decide))).bxor (h.shr (n := 10) (by decide))
theorem U.s1 {x : Int} {a : Nat} (h : U x a) : U (s1 x) (s1N a) := ((h.rot (n := 6) (by decide) (by decide)).bxor (h.rot (n := 11) (by decide) (by decide))).bxor (h.rot (n := 25) (by decide) (by decide))
theorem U.s0 {x : Int} {a : Nat} (h : U x a) : U (s0 x) (s0N a) := ((h.rot (n := 2) (by decide) (by decide)).bxor (h.rot (n := 13) (by decide) (by decide))).bxor (h.rot (n := 22) (by decide) (by decide))
theorem U.ch {x y z : Int} {a b c : Nat} (h : U x a) (g : U y b) (i : U z c) : U (ch x y z) (chN a b c) := (h.band g).bxor ((U.bxor ⟨rfl, by decide⟩ h).band i)
theorem U.mj {x y z : Int} {a b c : Nat} (h : U x a) (g : U y b) (i : U z c) : U (mj x y z) (mjN a b c) := ((h.band g).bxor (h.band i)).bxor (g.band i)

/-! the words -/
def wv (b : List Int) (i : Nat) : Nat := (ws b i).toNat
def wl (b : List Int) (n : Nat) : List Nat := (List.range n).reverse.map (wv b)
/-! the rounds -/
structure U8 (v : List Int) (a b c d e f g h : Nat) : Prop where
  ev : v = [(a : Int), b, c, d, e, f, g, h]
  la : a < 4294967296
  lb : b < 4294967296
  lc : c < 4294967296
  ld : d < 4294967296
  le : e < 4294967296
  lf : f < 4294967296
  lg : g < 4294967296
  lh : h < 4294967296
/-! the whole -/
end Go.Hsh

/- Tags and expansions on plain numbers; expansions and their beginnings. -/
namespace Go.Mac
open Go Go.Sx Go.Hsh
set_option linter.unusedSimpArgs false

/-! on plain numbers -/
/-! keys that are alike -/
/-! expansions -/
theorem exR_some {n : Nat} (h : n ≤ 8160) (key info : List Int) : exR key info (n : Int) = (exO key info ((n + 31) / 32)).take n := by
  unfold exR; rw [if_neg (by omega), if_neg (by omega), Int.toNat_natCast]
theorem exR_len {n : Nat} (h : n ≤ 8160) (key info : List Int) : (exR key info (n : Int)).length = n := by
  rw [exR_some h, List.length_take, exO_len]; omega
theorem exR_bytes (key info : List Int) (n : Int) : Bs (exR key info n) := by
  unfold exR
  split
  · exact Bs.nil
  · split
    · exact Bs.nil
    · exact (exO_bytes _ _ _).take _
end Go.Mac

/- The keys, the sizes, the tags. -/
namespace Go.Oni
open Go Go.Sx Go.Hsh Go.Mac Go.Blk Go.Cel Go.Fld
set_option linter.unusedSimpArgs false
theorem bl_of {n : Nat} {l : List Int} (h : l.length = n) (b : Bs l) : BL n l := ⟨h, fun x hx => ⟨(b.all x hx).1, (b.all x hx).2⟩⟩
theorem lsub_bs {l : List Int} (h : Bs l) (i n : Nat) : Bs (lsub l i n) := ⟨fun x hx => h.all x (List.mem_of_mem_drop (List.mem_of_mem_take hx))⟩
theorem lsub_length {l : List Int} {i n : Nat} (h : i + n ≤ l.length) : (lsub l i n).length = n := by unfold lsub; rw [List.length_take, List.length_drop]; omega
theorem zeros_bs (n : Nat) : Bs (lzeros n) := ⟨fun x hx => by rw [(List.mem_replicate.mp hx).2]; decide⟩
theorem kB_len (key nonce : List Int) : (kB key nonce).length = 80 := exR_len (n := 80) (by decide) _ _
theorem kB_bs (key nonce : List Int) : Bs (kB key nonce) := exR_bytes _ _ _
theorem dvB_bl (key nonce : List Int) : BL 16 (dvB key nonce) := by
  unfold dvB; split
  · exact bl_of (lsub_length (by rw [kB_len]; omega)) (lsub_bs (kB_bs _ _) _ _)
  · exact bl_of (by simp [lzeros]) (zeros_bs _)
theorem dvM_bl (key nonce : List Int) : BL 32 (dvM key nonce) := by
  unfold dvM; split
  · exact bl_of (lsub_length (by rw [kB_len]; omega)) (lsub_bs (kB_bs _ _) _ _)
  · exact bl_of (by simp [lzeros]) (zeros_bs _)
theorem dvR_bl (key nonce : List Int) : BL 32 (dvR key nonce) := by
  unfold dvR; split
  · exact bl_of (lsub_length (by rw [kB_len]; omega)) (lsub_bs (kB_bs _ _) _ _)
  · exact bl_of (by simp [lzeros]) (zeros_bs _)
theorem tagO_len (mc : List Int) (left : Int) (nonce box : List Int) : (tagO mc left nonce box).length = 16 := lsub_length (by rw [hmac_len]; omega)
theorem tagO_bs (mc : List Int) (left : Int) (nonce box : List Int) : Bs (tagO mc left nonce box) := lsub_bs (hmac_bytes _ _) _ _
theorem sizeI_some {left : Int} (h1 : 1 ≤ left) (h2 : left ≤ 8) : sizeI left = 48 + 34 * left := by unfold sizeI; rw [if_neg (by omega)]
theorem sizeI_none {left : Int} (h : left < 1 ∨ 8 < left) : sizeI left = 0 := by unfold sizeI; rw [if_pos h]
theorem sizeI_zero {left : Int} : sizeI left = 0 ↔ left < 1 ∨ 8 < left := by
  unfold sizeI; split
  · rename_i h; exact ⟨fun _ => h, fun _ => rfl⟩
  · rename_i h; exact ⟨fun e => by omega, fun e => absurd e h⟩
theorem mask_length (w s p : List Int) : (mask w s p).length = p.length := tab_len _ _
end Go.Oni
namespace Go.Proofs.YtdgmgalnhignjaaDoor.G
open Go Go.Sx Go.Hsh Go.Mac Go.Blk Go.Cel Go.Oni Go.Fld
set_option maxRecDepth 20000
set_option linter.unusedSimpArgs false
set_option linter.unusedVariables false

theorem gamO0_good : GoodG Tryd.prog gamO0 := ((((((((((((((good0 _).ext good_mderive ⟨_, Tryd.func19, by decide, by kernel_rfl⟩).ext good_mrderive ⟨_, Tryd.func27, by decide, by kernel_rfl⟩).ext good_mtag ⟨_, Tryd.func43, by decide, by kernel_rfl⟩).ext good_mrtag ⟨_, Tryd.func67, by decide, by kernel_rfl⟩).ext good_mequal ⟨_, Tryd.func39, by decide, by kernel_rfl⟩).ext good_mask ⟨_, Tryd.func42, by decide, by kernel_rfl⟩).ext good_rmask ⟨_, Tryd.func55, by decide, by kernel_rfl⟩).ext good_pad ⟨_, Tryd.func26, by decide, by kernel_rfl⟩).ext good_plain ⟨_, Tryd.func21, by decide, by kernel_rfl⟩).ext good_cut ⟨_, Tryd.func24, by decide, by kernel_rfl⟩).ext good_rpad ⟨_, Tryd.func31, by decide, by kernel_rfl⟩).ext good_rplain ⟨_, Tryd.func57, by decide, by kernel_rfl⟩).ext good_rcut ⟨_, Tryd.func52, by decide, by kernel_rfl⟩)

theorem good_osize : Sx.Good Tryd.prog 25 sizeS := by
  refine Sx.Good.pure (D := []) mixed (good0 _) Tryd.func25 (by kernel_rfl) rfl fun d args σ K h => ?_
  simp only [sizeS] at h
  split at h <;> try exact h.elim
  rename_i left
  obtain ⟨hl, hK⟩ := h
  refine ⟨by simp [plain_int], _, plain_int _ _, hK, 0 + 1, ?_⟩
  rw [osize_vc]
  refine ⟨fun q => ⟨fun r => ?_, fun r => ?_⟩, fun q => ?_⟩
  · rw [igt_true] at r; rw [sizeI_none (Or.inr r)]
  · rw [ilt_false] at q; rw [igt_false] at r
    rw [sizeI_some (by omega) (by omega), mul_i64 (by omega) (by omega), add_i64 (by omega) (by omega)]
  · rw [ilt_true] at q; rw [sizeI_none (Or.inl q)]
theorem good_orsize : Sx.Good Tryd.prog 48 sizeS := by
  refine Sx.Good.pure (D := []) mixed (good0 _) Tryd.func48 (by kernel_rfl) rfl fun d args σ K h => ?_
  simp only [sizeS] at h
  split at h <;> try exact h.elim
  rename_i left
  obtain ⟨hl, hK⟩ := h
  refine ⟨by simp [plain_int], _, plain_int _ _, hK, 0 + 1, ?_⟩
  rw [orsize_vc]
  refine ⟨fun q => ⟨fun r => ?_, fun r => ?_⟩, fun q => ?_⟩
  · rw [igt_true] at r; rw [sizeI_none (Or.inr r)]
  · rw [ilt_false] at q; rw [igt_false] at r
    rw [sizeI_some (by omega) (by omega), sub_i64 (by omega) (by omega), mul_i64 (by omega) (by omega), add_i64 (by omega) (by omega), show (82 : Int) + 34 * (left - 1) = 48 + 34 * left by omega]
  · rw [ilt_true] at q; rw [sizeI_none (Or.inl q)]

theorem res_keys {d : Nat} {σ σ' : Mem} {K : AV → Mem → Prop} {a a' b b' c c' : List Int} {e e' : Int} (ha : a = a') (hb : b = b') (hc : c = c') (he : e = e')
    (hK : K (.tup [.g [.ints .u8 16 a', .ints .u8 32 b', .ints .u8 32 c'], .c (.int .i64 e')]) σ) : Res d 0 σ K (.tup [.g [.ints .u8 16 a, .ints .u8 32 b, .ints .u8 32 c], .c (.int .i64 e)]) σ' := by
  subst ha hb hc he
  have hv : ResV [] d (.tup [.g [.ints .u8 16 a, .ints .u8 32 b, .ints .u8 32 c], .c (.int .i64 e)]) (.tup [.g [.ints .u8 16 a, .ints .u8 32 b, .ints .u8 32 c], .c (.int .i64 e)]) := ⟨⟨⟨rfl, rfl, rfl⟩, ⟨rfl, rfl, rfl⟩, ⟨rfl, rfl, rfl⟩, trivial⟩, Or.inl ⟨fun _ => rfl, fun _ => rfl, fun _ _ q => q⟩, trivial⟩
  exact res_plain hv hK
theorem key_bytes {key nonce : List Int} : exL (tagL nonce key) [99, 104, 117, 114, 110] 80 = kB key nonce := by rw [exL_eq, tagL_eq]; rfl
theorem exE80 : exE 80 = 0 := rfl
theorem good_oder : Sx.Good Tryd.prog 38 derS := by
  refine Sx.Good.reads (D := []) mixed gamO0_good Tryd.func38 (by kernel_rfl) rfl fun d args σ K h => ?_
  simp only [derS] at h
  split at h <;> try exact h.elim
  rename_i x nonce
  obtain ⟨key, ⟨⟨hr, hk, hn⟩, hK⟩, hrow⟩ := rdb_row h
  refine ⟨_, _, .row [.ints .u8] _ hrow (by decide) (.plain (plain_ints _ _ _) (.glob (roots_at hr) (by intro m; rfl) (.nil _))), by simp, 1, ?_⟩
  have e := oder_vc (Res d derS.news σ K) 0 key nonce
  refine e.mpr ?_
  have hl := hn.bl.len
  rw [show lsub nonce 0 16 = nonce from lsub_whole hl, key_bytes, exE80]
  simp only [llen_def, kB_len]
  refine ⟨fun q => ?_, fun q => ?_⟩
  · rw [ine_true] at q; simp only [ofNat] at q
    have q' : ¬ key.length = 32 := by omega
    exact res_keys (by unfold dvB; rw [if_neg q']) (by unfold dvM; rw [if_neg q']) (by unfold dvR; rw [if_neg q']) (by unfold dvE; rw [if_neg q']) hK
  · rw [ine_false] at q; simp only [ofNat] at q
    have q' : key.length = 32 := by omega
    have l1 : (lsub (kB key nonce) 0 16).length = 16 := lsub_length (by rw [kB_len]; omega)
    have l2 : (lsub (kB key nonce) 16 32).length = 32 := lsub_length (by rw [kB_len]; omega)
    have l3 : (lsub (kB key nonce) 48 32).length = 32 := lsub_length (by rw [kB_len]; omega)
    refine ⟨⟨by omega, by omega⟩, ⟨by omega⟩, ⟨trivial, hk.sg, ⟨by omega⟩, ⟨by decide⟩⟩, fun r => ?_, fun _ => ⟨⟨⟨by omega⟩, ⟨by omega⟩⟩, ⟨by omega⟩, ⟨by omega⟩, ⟨⟨⟨by omega⟩, ⟨by omega⟩⟩, ⟨by omega⟩, ⟨by omega⟩⟩, ⟨by omega⟩, ⟨by omega⟩, ⟨⟨by omega⟩, ⟨by omega⟩⟩, ⟨by simp only [nsub_def]; omega⟩, ⟨by omega⟩, ⟨by omega⟩, ⟨by simp only [nadd_def]; omega⟩, ⟨by simp only [nadd_def]; omega⟩, ?_⟩⟩
    · rw [ine_true] at r; exact absurd rfl r
    · refine res_keys ?_ ?_ ?_ ?_ hK
      · unfold dvB; rw [if_pos q']; exact lput_full (by rw [l1]; rfl)
      · unfold dvM; rw [if_pos q']; exact lput_full (by rw [l2]; rfl)
      · unfold dvR; rw [if_pos q']; exact lput_full (by rw [l3]; rfl)
      · unfold dvE; rw [if_pos q']

theorem upto_all {n : Nat} {l : List Int} (h : l.length = n) : upto n n (lget l) (fun _ => 0) = l := by rw [upto_done, ← eq_tab h]
theorem good_oreder : Sx.Good Tryd.prog 53 rderS := by
  refine Sx.Good.reads (D := []) mixed gamO0_good Tryd.func53 (by kernel_rfl) rfl fun d args σ K h => ?_
  simp only [rderS] at h
  split at h <;> try exact h.elim
  rename_i x nonce
  obtain ⟨key, ⟨⟨hk, hn⟩, hK⟩, hrow⟩ := rdb_row h
  refine ⟨_, _, .row [.ints .u8] _ hrow (by decide) (.plain (plain_ints _ _ _) (.nil _)), by simp, ?_⟩
  have hl := hn.bl.len
  have en : lsub nonce 0 16 = nonce := lsub_whole hl
  by_cases q' : key.length = 32
  · have l1 : (lsub (kB key nonce) 0 16).length = 16 := lsub_length (by rw [kB_len]; omega)
    have l2 : (lsub (kB key nonce) 16 32).length = 32 := lsub_length (by rw [kB_len]; omega)
    have l3 : (lsub (kB key nonce) 48 32).length = 32 := lsub_length (by rw [kB_len]; omega)
    have g1 : ∀ i, i < 16 → lget (kB key nonce) i = lget (lsub (kB key nonce) 0 16) i := fun i hi => by rw [lget_lsub hi, Nat.zero_add]
    have g2 : ∀ i, i < 32 → lget (kB key nonce) (16 + i) = lget (lsub (kB key nonce) 16 32) i := fun i hi => by rw [lget_lsub hi]
    have g3 : ∀ i, i < 32 → lget (kB key nonce) (48 + i) = lget (lsub (kB key nonce) 48 32) i := fun i hi => by rw [lget_lsub hi]
    obtain ⟨f, hf⟩ := loop_ex (fun f i (y : List Int × List Int × List Int) => order_.l0 (Res d rderS.news σ K) nonce key f i y.1 y.2.1 y.2.2) 80
      (fun i => (upto 16 (min i 16) (lget (lsub (kB key nonce) 0 16)) (fun _ => 0), upto 32 (min (i - 16) 32) (lget (lsub (kB key nonce) 16 32)) (fun _ => 0), upto 32 (i - 48) (lget (lsub (kB key nonce) 48 32)) (fun _ => 0)))
      (fun g i hi h => ⟨g + 1, by
        rw [order_.l0_succ, en, key_bytes]
        simp only [nat_cast, llen_def, kB_len, InB_iff, Low_iff, nadd_def, Nat.zero_add]
        rw [add1_i64 (by omega)]
        refine ⟨fun _ => ⟨fun r => ?_, fun r => ⟨fun t => ?_, fun t => ?_⟩⟩, fun r => ?_⟩
        · rw [ilt_true] at r
          have hi16 : i < 16 := by omega
          have e1 : min i 16 = i := by omega
          have e2 : min (i + 1) 16 = i + 1 := by omega
          have e3 : min (i - 16) 32 = min (i + 1 - 16) 32 := by omega
          have e4 : i - 48 = i + 1 - 48 := by omega
          simp only [e2, ← e3, ← e4] at h
          rw [g1 i hi16, e1, upto_lset rfl]
          exact ⟨⟨by omega, by omega⟩, ⟨by omega, by omega⟩, by omega, h⟩
        · rw [ilt_false] at r; rw [ilt_true] at t
          obtain ⟨k, rfl⟩ : ∃ k, i = 16 + k := ⟨i - 16, by omega⟩
          have hk32 : k < 32 := by omega
          have es : sub .i64 ((16 + k : Nat) : Int) 16 = ((k : Nat) : Int) := by rw [sub_i64 (by omega) (by omega)]; omega
          have e1 : min (16 + k) 16 = 16 := by omega
          have e2 : min (16 + k + 1) 16 = 16 := by omega
          have e3 : min (16 + k - 16) 32 = k := by omega
          have e3' : min (16 + k + 1 - 16) 32 = k + 1 := by omega
          have e4 : 16 + k - 48 = 16 + k + 1 - 48 := by omega
          simp only [e2, e3', ← e4] at h
          rw [es, nat_cast, e1, e3, g2 k hk32, upto_lset rfl]
          exact ⟨⟨by omega, by omega⟩, ⟨by omega, by omega⟩, by omega, h⟩
        · rw [ilt_false] at r t
          obtain ⟨k, rfl⟩ : ∃ k, i = 48 + k := ⟨i - 48, by omega⟩
          have hk32 : k < 32 := by omega
          have es : sub .i64 ((48 + k : Nat) : Int) 48 = ((k : Nat) : Int) := by rw [sub_i64 (by omega) (by omega)]; omega
          have e1 : min (48 + k) 16 = 16 := by omega
          have e2 : min (48 + k + 1) 16 = 16 := by omega
          have e3 : min (48 + k - 16) 32 = 32 := by omega
          have e3' : min (48 + k + 1 - 16) 32 = 32 := by omega
          have e4 : 48 + k - 48 = k := by omega
          have e4' : 48 + k + 1 - 48 = k + 1 := by omega
          simp only [e2, e3', e4'] at h
          rw [es, nat_cast, e1, e3, e4, g3 k hk32, upto_lset rfl]
          exact ⟨⟨by omega, by omega⟩, ⟨by omega, by omega⟩, by omega, h⟩
        · rw [ilt_false] at r; omega⟩)
      ⟨1, by
        rw [order_.l0_succ]
        refine ⟨fun r => ?_, fun _ => ?_⟩
        · rw [ilt_true] at r; omega
        · exact res_keys (by rw [show min 80 16 = 16 by decide, upto_all l1]; unfold dvB; rw [if_pos q']) (by rw [show min (80 - 16) 32 = 32 by decide, upto_all l2]; unfold dvM; rw [if_pos q'])
            (by rw [show 80 - 48 = 32 by decide, upto_all l3]; unfold dvR; rw [if_pos q']) (by unfold dvE; rw [if_pos q']) hK⟩ 0 (by omega)
    refine ⟨f + 1, ?_⟩
    have e := order__vc (Res d rderS.news σ K) f key nonce
    simp only [Nat.zero_min, Nat.zero_sub, upto_zero, ← lzeros_tab] at hf
    refine e.mpr ⟨fun q => ?_, fun _ => ⟨⟨by omega, by omega⟩, ⟨by omega⟩, ⟨⟨hk.sg, hk.bs⟩, ⟨⟨by rw [en]; omega⟩, by rw [en]; exact hn.bl.bs⟩, ⟨by decide⟩, ⟨by decide⟩⟩, hf⟩⟩
    rw [ine_true] at q; simp only [ofNat, llen] at q; omega
  · refine ⟨1, ?_⟩
    have e := order__vc (Res d rderS.news σ K) 0 key nonce
    refine e.mpr ⟨fun _ => ?_, fun q => ?_⟩
    · exact res_keys (by unfold dvB; rw [if_neg q']) (by unfold dvM; rw [if_neg q']) (by unfold dvR; rw [if_neg q']) (by unfold dvE; rw [if_neg q']) hK
    · rw [ine_false] at q; simp only [ofNat, llen] at q; omega

theorem good_ohalf : Sx.Good Tryd.prog 56 halfS := by
  refine Sx.Good.reads (D := []) mixed gamO0_good Tryd.func56 (by kernel_rfl) rfl fun d args σ K h => ?_
  simp only [halfS] at h
  split at h <;> try exact h.elim
  rename_i m x
  obtain ⟨msg, ⟨⟨hm, hg⟩, hK⟩, hrow⟩ := rdb_row h
  refine ⟨_, _, .plain (plain_ints _ _ _) (.row [.ints .u8] _ hrow (by decide) (.nil _)), by simp, ?_⟩
  have em : lsub m 0 32 = m := lsub_whole hm.bl.len
  have hl : (lsub (tagL m msg) 0 16).length = 16 := lsub_length (by rw [tag_len]; omega)
  obtain ⟨f, hf⟩ := loop_ex (fun f i y => ohalf.l0 (Res d halfS.news σ K) m msg f i y) 16 (fun i => upto 16 i (lget (lsub (tagL m msg) 0 16)) (fun _ => 0))
    (fun g i hi h => ⟨g + 1, by
      rw [ohalf.l0_succ, em]
      simp only [nat_cast, InB_iff, Low_iff, nadd_def, Nat.zero_add]
      rw [add1_i64 (by omega)]
      have e1 : lget (tagL m msg) i = lget (lsub (tagL m msg) 0 16) i := by rw [lget_lsub hi, Nat.zero_add]
      refine ⟨fun _ => ?_, fun r => ?_⟩
      · rw [e1, upto_lset rfl]
        exact ⟨⟨by omega, by omega⟩, by omega, ⟨by omega, by omega⟩, by omega, h⟩
      · rw [ilt_false] at r; omega⟩)
    ⟨1, by
      rw [ohalf.l0_succ]
      refine ⟨fun r => ?_, fun _ => res_arr (upto_all hl) hK⟩
      rw [ilt_true] at r; omega⟩ 0 (by omega)
  refine ⟨f + 1, ?_⟩
  have e := ohalf_vc (Res d halfS.news σ K) f m msg
  rw [upto_zero, ← lzeros_tab] at hf
  rw [em] at e
  exact e.mpr ⟨⟨by omega⟩, ⟨⟨⟨by rw [hm.bl.len]; omega⟩, hm.bl.bs⟩, hg.sg, hg.bs⟩, hf⟩
theorem good_otagged : Sx.Good Tryd.prog 40 taggedS := by
  refine Sx.Good.reads (D := [⟨8, [.ints .u8], true, true⟩]) mixed gamO0_good Tryd.func40 (by kernel_rfl) rfl fun d args σ K h => ?_
  simp only [taggedS] at h
  split at h <;> try exact h.elim
  rename_i kb km kr left nonce x
  obtain ⟨box, ⟨⟨hr, hm, hn, hb⟩, hK⟩, hrow⟩ := rdb_row h
  refine ⟨_, _, .plain (fun n => rfl) (.plain (plain_int _ _) (.plain (plain_ints _ _ _) (.row [.ints .u8] _ hrow (by decide) (.glob (roots_at hr) (by intro m; rfl) (.nil _))))), by simp, 1, ?_⟩
  have e := otagged_vc (Res d taggedS.news σ K) 0 kb km kr nonce box left
  refine e.mpr ?_
  have en : lsub nonce 0 16 = nonce := lsub_whole hn.bl.len
  have em : lsub km 0 32 = km := lsub_whole hm.bl.len
  have ln := hn.bl.len
  have lm := hm.bl.len
  have lb := hb.sh
  have hg : Sg ([conv .u8 left] ++ nonce ++ box) := ⟨by simp only [List.length_append, List.length_singleton]; omega⟩
  have hk : otagged.k0 (Res d taggedS.news σ K) kb km kr left nonce box 0 := by
    rw [otagged.k0_eq]
    refine ⟨⟨⟨by omega⟩, ⟨by omega⟩⟩, res_vec (k := .u8) rfl ?_ hK⟩
    rw [en, em, tagL_eq]; rfl
  simp only [en, em, lcat_def, nadd_def, llen_def, List.length_append, List.length_singleton]
  have r1 : Room (1 + nonce.length) 1 := roomw (by omega)
  have r2 : Room (1 + nonce.length + box.length) 1 := roomw (by omega)
  have hs : Sg km := ⟨by omega⟩
  exact ⟨⟨by omega⟩, r1, ⟨r2, ⟨⟨by omega⟩, ⟨trivial, hs, hg⟩, hk⟩, ⟨by omega⟩, ⟨trivial, hs, hg⟩, hk⟩, r2, ⟨by omega⟩, ⟨trivial, hs, hg⟩, hk⟩
theorem gamO1_good : GoodG Tryd.prog gamO1 :=
  (((((gamO0_good.ext good_osize ⟨_, Tryd.func25, by decide, by kernel_rfl⟩).ext good_orsize ⟨_, Tryd.func48, by decide, by kernel_rfl⟩).ext good_oder ⟨_, Tryd.func38, by decide, by kernel_rfl⟩).ext good_oreder ⟨_, Tryd.func53, by decide, by kernel_rfl⟩).ext good_ohalf ⟨_, Tryd.func56, by decide, by kernel_rfl⟩).ext good_otagged ⟨_, Tryd.func40, by decide, by kernel_rfl⟩
end Go.Proofs.YtdgmgalnhignjaaDoor.G

/- What is inside; boxes and layers. -/
namespace Go.Oni
open Go Go.Sx Go.Hsh Go.Mac Go.Blk Go.Cel Go.Fld
set_option linter.unusedSimpArgs false
theorem inN_nat {pl : List Int} (h : Bs pl) : ∃ n : Nat, inN pl = (n : Int) ∧ n < 65536 ∧ bor .i64 (shl .i64 (conv .i64 (lget pl 0)) 8) (conv .i64 (lget pl 1)) = (n : Int) ∧ add .i64 (mul .i64 256 (conv .i64 (lget pl 0))) (conv .i64 (lget pl 1)) = (n : Int) := by
  obtain ⟨a, ea, ha, _⟩ : ∃ n : Nat, lget pl 0 = (n : Int) ∧ n < 256 ∧ True := ⟨(lget pl 0).toNat, by have := (h.get 0).1; show lget pl 0 = _; unfold lget; omega, by have := (h.get 0); unfold lget; omega, trivial⟩
  obtain ⟨b, eb, hb, _⟩ : ∃ n : Nat, lget pl 1 = (n : Int) ∧ n < 256 ∧ True := ⟨(lget pl 1).toNat, by have := (h.get 1).1; show lget pl 1 = _; unfold lget; omega, by have := (h.get 1); unfold lget; omega, trivial⟩
  refine ⟨256 * a + b, by unfold inN; rw [ea, eb]; omega, by omega, ?_, ?_⟩
  · rw [ea, eb, conv_i64 (by omega) (by omega), conv_i64 (by omega) (by omega)]
    have e1 : shl .i64 (a : Int) 8 = ((a * 2 ^ 8 : Nat) : Int) := shl_i64 (n := 8) (by decide) (by omega)
    rw [e1, bor_i64 (by omega) (by omega), or_add (n := 8) (by omega)]
    omega
  · rw [ea, eb, conv_i64 (by omega) (by omega), conv_i64 (by omega) (by omega), mul_i64 (by omega) (by omega), add_i64 (by omega) (by omega)]
    omega
theorem zb_true {l : List Int} : zb l = true ↔ ∀ i, i < l.length → lget l i = 0 := by
  unfold zb
  rw [List.all_eq_true]
  constructor
  · intro h i hi
    have := h (lget l i) (List.mem_of_getElem? (lget_some hi))
    simpa using this
  · intro h x hx
    obtain ⟨i, hi, rfl⟩ := List.mem_iff_getElem.mp hx
    have e := h i hi
    unfold lget at e
    rw [List.getD_eq_getElem?_getD, List.getElem?_eq_getElem hi] at e
    simpa using e
theorem lget_drop (l : List Int) (k i : Nat) : lget (l.drop k) i = lget l (k + i) := by
  unfold lget; rw [List.getD_eq_getElem?_getD, List.getD_eq_getElem?_getD, List.getElem?_drop]
theorem pl_fill {a b : Int} {S : Nat} {inner : List Int} (h : inner.length + 2 ≤ S) :
    lput (lset (lset (lzeros S) 0 a) 1 b) 2 inner = a :: b :: (inner ++ lzeros (S - 2 - inner.length)) := by
  obtain ⟨T, rfl⟩ : ∃ T, S = T + 2 := ⟨S - 2, by omega⟩
  have e : lset (lset (lzeros (T + 2)) 0 a) 1 b = a :: b :: lzeros T := rfl
  rw [e]
  unfold lput lzeros
  simp only [List.take_succ_cons, List.take_zero, List.cons_append, List.nil_append]
  rw [show 2 + inner.length = inner.length + 1 + 1 by omega, List.drop_succ_cons, List.drop_succ_cons, List.drop_replicate]
  rfl
theorem plO_some {left : Int} (h1 : 1 ≤ left) (h2 : left ≤ 8) {inner : List Int} : plO left inner = ((inner.length / 256 : Nat) : Int) :: ((inner.length % 256 : Nat) : Int) :: (inner ++ lzeros (14 + (34 * left).toNat - inner.length)) := by
  unfold plO
  rw [sizeI_some h1 h2, show (48 + 34 * left - 34).toNat = 14 + (34 * left).toNat by omega]
theorem plO_len {left : Int} (h1 : 1 ≤ left) (h2 : left ≤ 8) {inner : List Int} (h : (inner.length : Int) ≤ sizeI left - 34) : ((plO left inner).length : Int) = sizeI left - 32 := by
  rw [plO_some h1 h2]
  rw [sizeI_some h1 h2] at h ⊢
  simp only [List.length_cons, List.length_append, lzeros, List.length_replicate]
  omega
theorem plO_bs {left : Int} {inner : List Int} (h : Bs inner) (hl : inner.length < 65536) : Bs (plO left inner) :=
  .cons (by omega) (by omega) (.cons (by omega) (by omega) (h.app (zeros_bs _)))
theorem lf_of {left : Int} (h1 : 1 ≤ left) (h2 : left ≤ 8) : Lf left := ⟨by omega, by omega⟩
end Go.Oni
namespace Go.Proofs.YtdgmgalnhignjaaDoor.G
open Go Go.Sx Go.Hsh Go.Mac Go.Blk Go.Cel Go.Oni Go.Fld
set_option maxRecDepth 20000
set_option linter.unusedSimpArgs false
set_option linter.unusedVariables false

theorem sizeI_rng (left : Int) : 0 ≤ sizeI left ∧ sizeI left ≤ 320 := by unfold sizeI; split <;> omega
theorem good_oroom : Sx.Good Tryd.prog 50 roomS := by
  refine Sx.Good.pure (D := []) mixed gamO1_good Tryd.func50 (by kernel_rfl) rfl fun d args σ K h => ?_
  simp only [roomS] at h
  split at h <;> try exact h.elim
  rename_i left
  obtain ⟨hl, hK⟩ := h
  refine ⟨by simp [plain_int], _, plain_int _ _, hK, 0 + 1, ?_⟩
  rw [oroom_vc]
  have := sizeI_rng left
  refine ⟨hl, ?_⟩
  rw [sub_i64 (by omega) (by omega)]; rfl
theorem gamO1x_good : GoodG Tryd.prog gamO1x := gamO1_good.ext good_oroom ⟨_, Tryd.func50, by decide, by kernel_rfl⟩

theorem oinside_l0 {R : AV → Mem → Prop} {pl : List Int} {N L : Nat} (hb : Bs pl) (hN : N < 65536) (hL : 2 + N + L = pl.length) (hl : pl.length < 1000000)
    (eN : bor .i64 (shl .i64 (conv .i64 (lget pl 0)) 8) (conv .i64 (lget pl 1)) = (N : Int))
    (hno : zb (pl.drop (2 + N)) = false → ∀ σ, R (.tup [.c (.con (.slice none 0 0)), .c (.lit false)]) σ) (hyes : zb (pl.drop (2 + N)) = true → ∀ σ, R (.tup [.c (.vsl 200000 1 2 N), .c (.lit true)]) σ) :
    ∀ (k i : Nat), k = L - i → i ≤ L → (∀ j, j < i → lget pl (2 + N + j) = 0) → ∃ f, oinside.l0 R pl (2 + N) L (L : Int) f (i : Int) := by
  intro k
  induction k with
  | zero =>
    intro i hk hi hz
    obtain rfl : i = L := by omega
    refine ⟨1, ?_⟩
    rw [oinside.l0_succ, eN]
    have e2 : add .i64 2 (N : Int) = ((2 + N : Nat) : Int) := addN_i64 (a := 2) (by omega)
    refine ⟨fun q => ?_, fun _ => ⟨⟨?_, ?_⟩, ?_⟩⟩
    · rw [ilt_true] at q; omega
    · rw [e2]; simp only [NonNeg_iff, Fits_iff, nat_cast, llen_def]; omega
    · rw [e2]; simp only [NonNeg_iff, Fits_iff, nat_cast]; omega
    · rw [e2]
      simp only [nat_cast, nsub_def]
      rw [show 2 + N - 2 = N by omega]
      refine hyes ?_ _
      rw [zb_true]
      intro j hj
      rw [List.length_drop] at hj
      rw [lget_drop]
      exact hz j (by omega)
  | succ k ih =>
    intro i hk hi hz
    by_cases h0 : lget pl (2 + N + i) = 0
    · obtain ⟨f, hf⟩ := ih (i + 1) (by omega) (by omega) (fun j hj => by
        by_cases e : j = i
        · rw [e]; exact h0
        · exact hz j (by omega))
      refine ⟨f + 1, ?_⟩
      rw [oinside.l0_succ]
      simp only [nat_cast, nadd_def, InB_iff]
      rw [add1_i64 (by omega)]
      refine ⟨fun _ => ⟨⟨by omega, by omega⟩, fun q => ?_, fun _ => hf⟩, fun q => ?_⟩
      · rw [ine_true] at q; exact absurd h0 q
      · rw [ilt_false] at q; omega
    · refine ⟨1, ?_⟩
      rw [oinside.l0_succ]
      simp only [nat_cast, nadd_def, InB_iff]
      refine ⟨fun _ => ⟨⟨by omega, by omega⟩, fun _ => ?_, fun q => ?_⟩, fun q => ?_⟩
      · refine hno ?_ _
        cases hz2 : zb (pl.drop (2 + N)) with
        | false => rfl
        | true =>
          have := zb_true.mp hz2 i (by rw [List.length_drop]; omega)
          rw [lget_drop] at this
          exact absurd this h0
      · rw [ine_false] at q; exact absurd q h0
      · rw [ilt_false] at q; omega
def viewR (n : Nat) (left : Int) (σ : Mem) (K : AV → Mem → Prop) : AV → Mem → Prop :=
  fun av _ => ∃ ts us, av = AV.tup ts ∧ ViewT [.one (.vec n), .one (.int .i64 left)] [.one (.vec 200000), .one (.int .i64 left)] σ ts us ∧ K (.tup us) σ
theorem good_oinside : Sx.Good Tryd.prog 41 insideS := by
  refine Sx.Good.view (D := []) mixed gamO1x_good Tryd.func41 (by kernel_rfl) rfl fun d args σ K h => ?_
  simp only [insideS] at h
  split at h <;> try exact h.elim
  rename_i n left
  split at h <;> try exact h.elim
  rename_i pl hcs
  obtain ⟨hb, h1, h2⟩ := h
  obtain ⟨lo, hi, hlen, hbs⟩ := hb
  obtain ⟨N, eN, hN, eB, _⟩ := inN_nat hbs
  have hsz := sizeI_some lo hi
  have hrow : rdx σ [.ints .u8] (.one (.vec n)) (fun c => c = [.ints .u8 pl]) := by simp only [rdx]; rw [hcs]
  have pc : ∀ a, PlainC a a → True := fun _ _ => trivial
  have hno : inOk pl left = false → ∀ σ' : Mem, (viewR n left σ K) (.tup [.c (.con (.slice none 0 0)), .c (.lit false)]) σ' :=
    fun q _ => ⟨_, [.c (.con (.slice none 0 0)), .c (.lit false)], rfl, ⟨Or.inl (fun _ _ _ q => q), Or.inl (fun _ _ _ q => q), trivial⟩, h1 q⟩
  have hyes : inOk pl left = true → ∀ σ' : Mem, (viewR n left σ K) (.tup [.c (.vsl 200000 1 2 N), .c (.lit true)]) σ' :=
    fun q _ => ⟨_, [.c (.vsl n 1 2 N), .c (.lit true)], rfl, ⟨Or.inr ⟨0, n, 1, 2, N, _, rfl, rfl, hcs, rfl, rfl⟩, Or.inl (fun _ _ _ q => q), trivial⟩, by have := h2 q; rw [eN, nat_cast] at this; exact this⟩
  have hlf := lf_of lo hi
  have hcan : Canon σ 0 [.one (.vec n), .one (.int .i64 left)] [.one (.vec 200000), .one (.int .i64 left)] [(200000, .rview [.ints .u8 pl])] := .row [.ints .u8] _ hrow (by decide) (.plain (plain_int _ _) (.nil _))
  have hok : inOk pl left = (decide ((N : Int) ≤ sizeI left - 34) && zb (pl.drop (2 + N))) := by unfold inOk; rw [eN, Int.toNat_natCast]
  by_cases hr : (N : Int) ≤ sizeI left - 34
  · have hok' : inOk pl left = zb (pl.drop (2 + N)) := by rw [hok, decide_eq_true hr, Bool.true_and]
    rw [hok'] at hno hyes
    obtain ⟨f, hf⟩ := oinside_l0 (R := viewR n left σ K) hbs hN (L := pl.length - (2 + N)) (by omega) (by omega) eB hno hyes _ 0 rfl (by omega) (fun j hj => by omega)
    refine ⟨_, _, hcan, by simp, f + 1, ?_⟩
    have e := oinside_vc (viewR n left σ K) f pl left
    refine e.mpr ?_
    have e2 : add .i64 2 (N : Int) = ((2 + N : Nat) : Int) := addN_i64 (a := 2) (by omega)
    rw [eB, e2]
    simp only [llen_def, nat_cast, nsub_def, InB_iff, NonNeg_iff, Fits_iff, ofNat_def]
    refine ⟨⟨by omega, by omega⟩, by omega, ⟨by omega, by omega⟩, hlf, fun q => ?_, fun _ => ⟨⟨by omega, by omega⟩, hf⟩⟩
    rw [igt_true] at q; unfold roomI at q; omega
  · have hok' : inOk pl left = false := by rw [hok, decide_eq_false hr, Bool.false_and]
    refine ⟨_, _, hcan, by simp, 1, ?_⟩
    have e := oinside_vc (viewR n left σ K) 0 pl left
    refine e.mpr ?_
    rw [eB]
    simp only [llen_def, nat_cast, nsub_def, InB_iff, NonNeg_iff, Fits_iff, ofNat_def]
    refine ⟨⟨by omega, by omega⟩, by omega, ⟨by omega, by omega⟩, hlf, fun _ => hno hok' _, fun q => ?_⟩
    rw [igt_false] at q; unfold roomI at q; omega
theorem good_ortag : Sx.Good Tryd.prog 54 rtagOS := by
  refine Sx.Good.reads (D := []) mixed gamO1_good Tryd.func54 (by kernel_rfl) rfl fun d args σ K h => ?_
  simp only [rtagOS] at h
  split at h <;> try exact h.elim
  rename_i kb km kr left nonce x
  obtain ⟨box, ⟨⟨hm, hn, hb⟩, hK⟩, hrow⟩ := rdb_row h
  refine ⟨_, _, .plain (fun n => rfl) (.plain (plain_int _ _) (.plain (plain_ints _ _ _) (.row [.ints .u8] _ hrow (by decide) (.nil _)))), by simp, 1, ?_⟩
  have e := ortag_vc (Res d rtagOS.news σ K) 0 kb km kr nonce box left
  refine e.mpr ?_
  have en : lsub nonce 0 16 = nonce := lsub_whole hn.bl.len
  have em : lsub km 0 32 = km := lsub_whole hm.bl.len
  have ln := hn.bl.len
  have lb := hb.sh
  simp only [en, em, lcat_def, nadd_def, llen_def, List.length_append, List.length_singleton]
  refine ⟨⟨by omega⟩, roomw (by omega), roomw (by omega), ⟨by omega⟩, ⟨hm, ⟨⟨by simp only [List.length_append, List.length_singleton]; omega⟩, ?_⟩⟩, res_arr ?_ hK⟩
  · exact ((Bs.cons (conv_u8_byte _).1 (conv_u8_byte _).2 .nil).app hn.bl.bs).app hb.bs
  · rw [tagL_eq]; rfl
theorem gamO2_good : GoodG Tryd.prog gamO2 :=
  (gamO1x_good.ext good_ortag ⟨_, Tryd.func54, by decide, by kernel_rfl⟩).ext good_oinside ⟨_, Tryd.func41, by decide, by kernel_rfl⟩

theorem good_oforge : Sx.Good Tryd.prog 49 forgeS := by
  refine Sx.Good.reads (D := []) mixed gamO2_good Tryd.func49 (by kernel_rfl) rfl fun d args σ K h => ?_
  simp only [forgeS] at h
  split at h <;> try exact h.elim
  rename_i x nonce left y
  obtain ⟨key, h, hrow⟩ := rdb_row h
  obtain ⟨pl, ⟨hf, hK⟩, hrow2⟩ := rdb_row h
  refine ⟨_, _, .row [.ints .u8] _ hrow (by decide) (.plain (plain_ints _ _ _) (.plain (plain_int _ _) (.row [.ints .u8] _ hrow2 (by decide) (.nil _)))), by simp, 1, ?_⟩
  have e := oforge_vc (Res d forgeS.news σ K) 0 key nonce pl left
  refine e.mpr ?_
  have hB := dvB_bl key nonce
  have en : lsub nonce 0 16 = nonce := lsub_whole hf.nn.len
  have ln := hf.nn.len
  have lp := hf.few
  have hz : BL 16 (lzeros 16) := bl_of rfl (zeros_bs _)
  have eb : lsub (dvB key nonce) 0 16 = dvB key nonce := lsub_whole hB.len
  have hmb : Bs (mask (ks (dvB key nonce)) (lzeros 16) pl) := mask_bs (ks_bl hB) hz hf.bs
  have lm := mask_length (ks (dvB key nonce)) (lzeros 16) pl
  have lt := tagO_len (dvM key nonce) left nonce (mask (ks (dvB key nonce)) (lzeros 16) pl)
  have et : lsub (tagO (dvM key nonce) left nonce (mask (ks (dvB key nonce)) (lzeros 16) pl)) 0 16 = tagO (dvM key nonce) left nonce (mask (ks (dvB key nonce)) (lzeros 16) pl) := lsub_whole lt
  have ea : add .i64 32 (pl.length : Int) = ((32 + pl.length : Nat) : Int) := addN_i64 (a := 32) (by omega)
  simp only [eb, en, et, lcat_def, nadd_def, llen_def, ofNat_def, List.length_append, lm, ln, lt, ea, show lzeros 0 = [] from rfl, List.nil_append, List.length_nil, Mk_iff]
  refine ⟨⟨hf.ky, ⟨hf.nn⟩⟩, ⟨by omega⟩, ⟨⟨hB, hz⟩, ⟨by omega⟩, hf.bs⟩, ⟨⟨dvM_bl _ _⟩, ⟨hf.nn⟩, ⟨by omega, hmb⟩⟩, by omega, ⟨by omega⟩, room1 (by omega), ⟨by omega⟩, room1 (by omega), room1 (by omega), res_vec (k := .u8) rfl rfl hK⟩
theorem gamO3_good : GoodG Tryd.prog gamO3 := gamO2_good.ext good_oforge ⟨_, Tryd.func49, by decide, by kernel_rfl⟩
end Go.Proofs.YtdgmgalnhignjaaDoor.G
