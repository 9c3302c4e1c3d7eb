/- Own texts of this proof, laid one behind the other: BlkL3, BlkL4, SxO. -/
import Derived.Test.YtkecbjohbihfmaaBlockExamplesD
import Derived.Deep.Slices

/- The verification conditions of functions, printed by a program of this session out of their codes. -/
namespace Go.Proofs.Ytkecbjohbihfmaa.G
open Go Go.Sx Go.Fld Go.Blk
set_option linter.unusedVariables false
set_option maxRecDepth 100000

def lexam.k0 (R : AV → Mem → Prop) (x0 : Int) (x1 : List Int) (fuel m : Nat) : Prop := runM Try.prog gamB9 [⟨777777, [], true, false⟩] (resh Try.prog [⟨777777, [], true, false⟩] Try.f8.results.toList R) (run Try.prog gamB9 [⟨777777, [], true, false⟩] (resh Try.prog [⟨777777, [], true, false⟩] Try.f8.results.toList R) fuel) m [.inLoop (cAt (bodyOf Try.f8) [1, 1, 1, 0, 1, 0, 0]), .inBlock 0, .code (cAt (bodyOf Try.f8) [1, 1, 1, 1])] [AV.undef, (AV.one (AC.ptr 1 0 0)), (AV.one (AC.ptr 2 0 0)), (AV.one (AC.int IntKind.i64 (add IntKind.i64 x0 1))), (AV.tup []), (AV.tup []), (AV.tup []), (AV.tup []), (AV.tup []), AV.undef, AV.undef, AV.undef, AV.undef, (AV.one (AC.int IntKind.i64 x0)), (AV.one (AC.lit true)), (AV.one (AC.int IntKind.i64 x0)), (AV.one (AC.int IntKind.i64 (add IntKind.i64 x0 1))), (AV.one (AC.int IntKind.i64 x0)), (AV.one (AC.ptr 2 0 (nadd 0 (nat x0)))), (AV.tup []), (AV.tup []), (AV.tup []), (AV.tup []), (AV.tup []), (AV.tup []), (AV.tup []), (AV.tup []), (AV.tup []), (AV.tup []), (AV.tup []), (AV.tup []), (AV.tup []), (AV.tup []), (AV.tup []), (AV.tup []), (AV.tup []), (AV.tup []), (AV.tup []), (AV.tup []), (AV.tup []), (AV.tup []), (AV.tup []), (AV.tup []), (AV.tup []), (AV.tup []), (AV.tup []), (AV.tup []), (AV.tup []), (AV.tup []), (AV.tup []), (AV.tup []), (AV.tup []), (AV.tup []), (AV.tup []), (AV.tup []), (AV.tup []), (AV.tup []), (AV.tup []), (AV.tup []), (AV.tup []), (AV.tup []), (AV.tup []), (AV.tup []), (AV.tup []), (AV.tup []), (AV.tup []), (AV.tup []), (AV.tup []), (AV.tup []), (AV.tup []), (AV.tup []), (AV.tup []), (AV.tup []), (AV.tup []), (AV.tup []), (AV.tup []), (AV.tup []), (AV.tup []), (AV.tup []), (AV.tup []), (AV.tup []), (AV.tup [])] [(1, Blk.own 22 [(Seg.ints IntKind.u8 16 (lzeros 16))]), (2, Blk.own 22 [(Seg.ints IntKind.u8 16 (lset x1 (nadd 0 (nat x0)) 255))])]

def lexam.k1 (R : AV → Mem → Prop) (x0 : Int) (x1 : List Int) (fuel m : Nat) : Prop := runM Try.prog gamB9 [⟨777777, [], true, false⟩] (resh Try.prog [⟨777777, [], true, false⟩] Try.f8.results.toList R) (run Try.prog gamB9 [⟨777777, [], true, false⟩] (resh Try.prog [⟨777777, [], true, false⟩] Try.f8.results.toList R) fuel) m [.code (cAt (bodyOf Try.f8) [1, 0, 1, 1]), .code (cAt (bodyOf Try.f8) [1, 1, 1, 0, 1, 0, 0, 1]), .inLoop (cAt (bodyOf Try.f8) [1, 1, 1, 0, 1, 0, 0]), .inBlock 0, .code (cAt (bodyOf Try.f8) [1, 1, 1, 1])] [AV.undef, (AV.one (AC.ptr 1 0 0)), (AV.one (AC.ptr 2 0 0)), (AV.one (AC.int IntKind.i64 x0)), (AV.tup []), (AV.tup []), (AV.tup []), (AV.tup []), (AV.tup []), AV.undef, AV.undef, AV.undef, AV.undef, (AV.one (AC.int IntKind.i64 x0)), (AV.one (AC.lit true)), AV.undef, AV.undef, AV.undef, AV.undef, (AV.tup []), (AV.tup []), (AV.tup []), (AV.tup []), (AV.tup []), (AV.tup []), (AV.tup []), (AV.tup []), (AV.tup []), (AV.tup []), (AV.tup []), (AV.tup []), (AV.tup []), (AV.tup []), (AV.tup []), (AV.tup []), (AV.tup []), (AV.tup []), (AV.tup []), (AV.tup []), (AV.tup []), (AV.tup []), (AV.tup []), (AV.tup []), (AV.tup []), (AV.tup []), (AV.tup []), (AV.tup []), (AV.tup []), (AV.tup []), (AV.tup []), (AV.tup []), (AV.tup []), (AV.tup []), (AV.tup []), (AV.tup []), (AV.tup []), (AV.tup []), (AV.tup []), (AV.tup []), (AV.tup []), (AV.tup []), (AV.tup []), (AV.tup []), (AV.tup []), (AV.tup []), (AV.tup []), (AV.tup []), (AV.tup []), (AV.tup []), (AV.tup []), (AV.tup []), (AV.tup []), (AV.tup []), (AV.tup []), (AV.tup []), (AV.tup []), (AV.tup []), (AV.tup []), (AV.tup []), (AV.tup []), (AV.tup []), (AV.tup [])] [(1, Blk.own 22 [(Seg.ints IntKind.u8 16 (lzeros 16))]), (2, Blk.own 22 [(Seg.ints IntKind.u8 16 x1)])]

def lexam.k2 (R : AV → Mem → Prop) (x1 : List Int) (fuel m : Nat) : Prop := runM Try.prog gamB9 [⟨777777, [], true, false⟩] (resh Try.prog [⟨777777, [], true, false⟩] Try.f8.results.toList R) (run Try.prog gamB9 [⟨777777, [], true, false⟩] (resh Try.prog [⟨777777, [], true, false⟩] Try.f8.results.toList R) fuel) m [.code (cAt (bodyOf Try.f8) [1, 0, 1, 0, 1]), .code (cAt (bodyOf Try.f8) [1, 1, 1, 1, 1, 1, 1])] [(AV.one (AC.lit false)), (AV.one (AC.ptr 1 0 0)), (AV.one (AC.ptr 2 0 0)), AV.undef, (AV.one (AC.ptr 4 0 0)), (AV.one (AC.vec 22)), (AV.tup []), (AV.tup []), (AV.tup []), AV.undef, AV.undef, AV.undef, AV.undef, AV.undef, AV.undef, AV.undef, AV.undef, AV.undef, AV.undef, AV.undef, AV.undef, AV.undef, AV.undef, AV.undef, AV.undef, AV.undef, AV.undef, AV.undef, AV.undef, AV.undef, AV.undef, AV.undef, AV.undef, AV.undef, AV.undef, AV.undef, AV.undef, AV.undef, AV.undef, AV.undef, AV.undef, AV.undef, AV.undef, AV.undef, AV.undef, AV.undef, AV.undef, (AV.tup []), (AV.tup []), (AV.tup []), (AV.tup []), (AV.tup []), (AV.tup []), (AV.tup []), (AV.tup []), (AV.tup []), (AV.tup []), (AV.tup []), (AV.tup []), (AV.tup []), (AV.tup []), (AV.tup []), (AV.tup []), (AV.tup []), (AV.tup []), (AV.tup []), (AV.tup []), (AV.tup []), (AV.tup []), (AV.tup []), (AV.tup []), (AV.tup []), (AV.tup []), (AV.tup []), (AV.tup []), (AV.tup []), (AV.tup []), (AV.tup []), (AV.tup []), (AV.tup []), (AV.tup []), (AV.tup [])] [(1, Blk.own 22 [(Seg.ints IntKind.u8 16 (lzeros 16))]), (2, Blk.own 22 [(Seg.ints IntKind.u8 16 x1)]), (4, Blk.own 22 [(Seg.ints IntKind.u8 16 (Go.Blk.cnt 3))]), (22, Blk.vec [(Col.ints IntKind.u8 (Go.Blk.strmI (Go.Blk.ks (Go.Blk.cnt 3)) x1 32))])]

def lexam.k3 (R : AV → Mem → Prop) (x1 : List Int) (fuel m : Nat) : Prop := runM Try.prog gamB9 [⟨777777, [], true, false⟩] (resh Try.prog [⟨777777, [], true, false⟩] Try.f8.results.toList R) (run Try.prog gamB9 [⟨777777, [], true, false⟩] (resh Try.prog [⟨777777, [], true, false⟩] Try.f8.results.toList R) fuel) m [.code (cAt (bodyOf Try.f8) [1, 0, 1, 0, 1])] [(AV.one (AC.bool (leq (Go.Blk.rkI (Go.Blk.ks (Go.Blk.cnt 3)) 0) (Go.Blk.cnt 3)))), (AV.one (AC.ptr 1 0 0)), (AV.one (AC.ptr 2 0 0)), AV.undef, (AV.one (AC.ptr 4 0 0)), (AV.one (AC.vec 22)), (AV.one (AC.ptr 6 0 0)), (AV.one (AC.ptr 7 0 0)), (AV.one (AC.ptr 8 0 0)), AV.undef, AV.undef, AV.undef, AV.undef, AV.undef, AV.undef, AV.undef, AV.undef, AV.undef, AV.undef, AV.undef, AV.undef, AV.undef, AV.undef, AV.undef, AV.undef, AV.undef, AV.undef, AV.undef, AV.undef, AV.undef, AV.undef, AV.undef, AV.undef, AV.undef, AV.undef, AV.undef, AV.undef, AV.undef, AV.undef, AV.undef, AV.undef, AV.undef, AV.undef, AV.undef, AV.undef, AV.undef, AV.undef, (AV.agg [(Seg.ints IntKind.u8 16 (Go.Blk.cnt 3))]), (AV.agg [(Seg.ints IntKind.u8 176 (Go.Blk.ks (Go.Blk.cnt 3)))]), (AV.agg [(Seg.ints IntKind.u8 16 x1)]), (AV.agg [(Seg.ints IntKind.u8 16 (Go.Blk.enc (Go.Blk.ks (Go.Blk.cnt 3)) x1))]), (AV.agg [(Seg.ints IntKind.u8 16 (Go.Blk.cnt 3))]), (AV.agg [(Seg.ints IntKind.u8 176 (Go.Blk.ks (Go.Blk.cnt 3)))]), (AV.agg [(Seg.ints IntKind.u8 16 (lzeros 16))]), (AV.agg [(Seg.ints IntKind.u8 16 (Go.Blk.enc (Go.Blk.ks (Go.Blk.cnt 3)) (lzeros 16)))]), (AV.one (AC.vec 22)), (AV.one (AC.vsl 22 1 0 16)), (AV.one (AC.str (bytesOf (lsub (Go.Blk.strmI (Go.Blk.ks (Go.Blk.cnt 3)) x1 32) 0 16)))), (AV.one (AC.sl 6 0 0 16 16)), (AV.one (AC.str (bytesOf (lsub (Go.Blk.enc (Go.Blk.ks (Go.Blk.cnt 3)) x1) 0 16)))), (AV.one (AC.bool (seq2 (bytesOf (lsub (Go.Blk.strmI (Go.Blk.ks (Go.Blk.cnt 3)) x1 32) 0 16)) (bytesOf (lsub (Go.Blk.enc (Go.Blk.ks (Go.Blk.cnt 3)) x1) 0 16))))), (AV.one (AC.lit true)), (AV.one (AC.vec 22)), (AV.one (AC.vsl 22 1 16 (nsub (llen (Go.Blk.strmI (Go.Blk.ks (Go.Blk.cnt 3)) x1 32)) 16))), (AV.one (AC.str (bytesOf (lsub (Go.Blk.strmI (Go.Blk.ks (Go.Blk.cnt 3)) x1 32) 16 (nsub (llen (Go.Blk.strmI (Go.Blk.ks (Go.Blk.cnt 3)) x1 32)) 16))))), (AV.one (AC.sl 7 0 0 16 16)), (AV.one (AC.str (bytesOf (lsub (Go.Blk.enc (Go.Blk.ks (Go.Blk.cnt 3)) (lzeros 16)) 0 16)))), (AV.one (AC.bool (seq2 (bytesOf (lsub (Go.Blk.strmI (Go.Blk.ks (Go.Blk.cnt 3)) x1 32) 16 (nsub (llen (Go.Blk.strmI (Go.Blk.ks (Go.Blk.cnt 3)) x1 32)) 16))) (bytesOf (lsub (Go.Blk.enc (Go.Blk.ks (Go.Blk.cnt 3)) (lzeros 16)) 0 16))))), (AV.one (AC.bool (seq2 (bytesOf (lsub (Go.Blk.strmI (Go.Blk.ks (Go.Blk.cnt 3)) x1 32) 16 (nsub (llen (Go.Blk.strmI (Go.Blk.ks (Go.Blk.cnt 3)) x1 32)) 16))) (bytesOf (lsub (Go.Blk.enc (Go.Blk.ks (Go.Blk.cnt 3)) (lzeros 16)) 0 16))))), (AV.one (AC.lit true)), (AV.agg [(Seg.ints IntKind.u8 176 (lzeros 176))]), (AV.agg [(Seg.ints IntKind.u8 16 (Go.Blk.rkI (lzeros 176) 5))]), (AV.agg [(Seg.ints IntKind.u8 16 (lzeros 16))]), (AV.one (AC.bool (leq (Go.Blk.rkI (lzeros 176) 5) (lzeros 16)))), (AV.one (AC.bool (leq (Go.Blk.rkI (lzeros 176) 5) (lzeros 16)))), (AV.one (AC.lit true)), (AV.agg [(Seg.ints IntKind.u8 16 (Go.Blk.cnt 3))]), (AV.agg [(Seg.ints IntKind.u8 176 (Go.Blk.ks (Go.Blk.cnt 3)))]), (AV.agg [(Seg.ints IntKind.u8 16 (Go.Blk.rkI (Go.Blk.ks (Go.Blk.cnt 3)) 0))]), (AV.agg [(Seg.ints IntKind.u8 16 (Go.Blk.cnt 3))]), (AV.one (AC.bool (leq (Go.Blk.rkI (Go.Blk.ks (Go.Blk.cnt 3)) 0) (Go.Blk.cnt 3)))), (AV.one (AC.bool (leq (Go.Blk.rkI (Go.Blk.ks (Go.Blk.cnt 3)) 0) (Go.Blk.cnt 3))))] [(1, Blk.own 22 [(Seg.ints IntKind.u8 16 (lzeros 16))]), (2, Blk.own 22 [(Seg.ints IntKind.u8 16 x1)]), (4, Blk.own 22 [(Seg.ints IntKind.u8 16 (Go.Blk.cnt 3))]), (6, Blk.own 22 [(Seg.ints IntKind.u8 16 (Go.Blk.enc (Go.Blk.ks (Go.Blk.cnt 3)) x1))]), (7, Blk.own 22 [(Seg.ints IntKind.u8 16 (Go.Blk.enc (Go.Blk.ks (Go.Blk.cnt 3)) (lzeros 16)))]), (8, Blk.own 28 [(Seg.ints IntKind.u8 176 (lzeros 176))]), (22, Blk.vec [(Col.ints IntKind.u8 (Go.Blk.strmI (Go.Blk.ks (Go.Blk.cnt 3)) x1 32))])]

def lexam.k4 (R : AV → Mem → Prop) (x1 : List Int) (fuel m : Nat) : Prop := runM Try.prog gamB9 [⟨777777, [], true, false⟩] (resh Try.prog [⟨777777, [], true, false⟩] Try.f8.results.toList R) (run Try.prog gamB9 [⟨777777, [], true, false⟩] (resh Try.prog [⟨777777, [], true, false⟩] Try.f8.results.toList R) fuel) m [.code (cAt (bodyOf Try.f8) [1, 0, 1, 0, 1])] [(AV.one (AC.lit false)), (AV.one (AC.ptr 1 0 0)), (AV.one (AC.ptr 2 0 0)), AV.undef, (AV.one (AC.ptr 4 0 0)), (AV.one (AC.vec 22)), (AV.one (AC.ptr 6 0 0)), (AV.one (AC.ptr 7 0 0)), (AV.one (AC.ptr 8 0 0)), AV.undef, AV.undef, AV.undef, AV.undef, AV.undef, AV.undef, AV.undef, AV.undef, AV.undef, AV.undef, AV.undef, AV.undef, AV.undef, AV.undef, AV.undef, AV.undef, AV.undef, AV.undef, AV.undef, AV.undef, AV.undef, AV.undef, AV.undef, AV.undef, AV.undef, AV.undef, AV.undef, AV.undef, AV.undef, AV.undef, AV.undef, AV.undef, AV.undef, AV.undef, AV.undef, AV.undef, AV.undef, AV.undef, (AV.agg [(Seg.ints IntKind.u8 16 (Go.Blk.cnt 3))]), (AV.agg [(Seg.ints IntKind.u8 176 (Go.Blk.ks (Go.Blk.cnt 3)))]), (AV.agg [(Seg.ints IntKind.u8 16 x1)]), (AV.agg [(Seg.ints IntKind.u8 16 (Go.Blk.enc (Go.Blk.ks (Go.Blk.cnt 3)) x1))]), (AV.agg [(Seg.ints IntKind.u8 16 (Go.Blk.cnt 3))]), (AV.agg [(Seg.ints IntKind.u8 176 (Go.Blk.ks (Go.Blk.cnt 3)))]), (AV.agg [(Seg.ints IntKind.u8 16 (lzeros 16))]), (AV.agg [(Seg.ints IntKind.u8 16 (Go.Blk.enc (Go.Blk.ks (Go.Blk.cnt 3)) (lzeros 16)))]), (AV.one (AC.vec 22)), (AV.one (AC.vsl 22 1 0 16)), (AV.one (AC.str (bytesOf (lsub (Go.Blk.strmI (Go.Blk.ks (Go.Blk.cnt 3)) x1 32) 0 16)))), (AV.one (AC.sl 6 0 0 16 16)), (AV.one (AC.str (bytesOf (lsub (Go.Blk.enc (Go.Blk.ks (Go.Blk.cnt 3)) x1) 0 16)))), (AV.one (AC.bool (seq2 (bytesOf (lsub (Go.Blk.strmI (Go.Blk.ks (Go.Blk.cnt 3)) x1 32) 0 16)) (bytesOf (lsub (Go.Blk.enc (Go.Blk.ks (Go.Blk.cnt 3)) x1) 0 16))))), (AV.one (AC.lit true)), (AV.one (AC.vec 22)), (AV.one (AC.vsl 22 1 16 (nsub (llen (Go.Blk.strmI (Go.Blk.ks (Go.Blk.cnt 3)) x1 32)) 16))), (AV.one (AC.str (bytesOf (lsub (Go.Blk.strmI (Go.Blk.ks (Go.Blk.cnt 3)) x1 32) 16 (nsub (llen (Go.Blk.strmI (Go.Blk.ks (Go.Blk.cnt 3)) x1 32)) 16))))), (AV.one (AC.sl 7 0 0 16 16)), (AV.one (AC.str (bytesOf (lsub (Go.Blk.enc (Go.Blk.ks (Go.Blk.cnt 3)) (lzeros 16)) 0 16)))), (AV.one (AC.bool (seq2 (bytesOf (lsub (Go.Blk.strmI (Go.Blk.ks (Go.Blk.cnt 3)) x1 32) 16 (nsub (llen (Go.Blk.strmI (Go.Blk.ks (Go.Blk.cnt 3)) x1 32)) 16))) (bytesOf (lsub (Go.Blk.enc (Go.Blk.ks (Go.Blk.cnt 3)) (lzeros 16)) 0 16))))), (AV.one (AC.bool (seq2 (bytesOf (lsub (Go.Blk.strmI (Go.Blk.ks (Go.Blk.cnt 3)) x1 32) 16 (nsub (llen (Go.Blk.strmI (Go.Blk.ks (Go.Blk.cnt 3)) x1 32)) 16))) (bytesOf (lsub (Go.Blk.enc (Go.Blk.ks (Go.Blk.cnt 3)) (lzeros 16)) 0 16))))), (AV.one (AC.lit true)), (AV.agg [(Seg.ints IntKind.u8 176 (lzeros 176))]), (AV.agg [(Seg.ints IntKind.u8 16 (Go.Blk.rkI (lzeros 176) 5))]), (AV.agg [(Seg.ints IntKind.u8 16 (lzeros 16))]), (AV.one (AC.bool (leq (Go.Blk.rkI (lzeros 176) 5) (lzeros 16)))), (AV.one (AC.bool (leq (Go.Blk.rkI (lzeros 176) 5) (lzeros 16)))), (AV.one (AC.lit false)), (AV.tup []), (AV.tup []), (AV.tup []), (AV.tup []), (AV.tup []), (AV.one (AC.lit false))] [(1, Blk.own 22 [(Seg.ints IntKind.u8 16 (lzeros 16))]), (2, Blk.own 22 [(Seg.ints IntKind.u8 16 x1)]), (4, Blk.own 22 [(Seg.ints IntKind.u8 16 (Go.Blk.cnt 3))]), (6, Blk.own 22 [(Seg.ints IntKind.u8 16 (Go.Blk.enc (Go.Blk.ks (Go.Blk.cnt 3)) x1))]), (7, Blk.own 22 [(Seg.ints IntKind.u8 16 (Go.Blk.enc (Go.Blk.ks (Go.Blk.cnt 3)) (lzeros 16)))]), (8, Blk.own 28 [(Seg.ints IntKind.u8 176 (lzeros 176))]), (22, Blk.vec [(Col.ints IntKind.u8 (Go.Blk.strmI (Go.Blk.ks (Go.Blk.cnt 3)) x1 32))])]

def lexam.k5 (R : AV → Mem → Prop) (x1 : List Int) (fuel m : Nat) : Prop := runM Try.prog gamB9 [⟨777777, [], true, false⟩] (resh Try.prog [⟨777777, [], true, false⟩] Try.f8.results.toList R) (run Try.prog gamB9 [⟨777777, [], true, false⟩] (resh Try.prog [⟨777777, [], true, false⟩] Try.f8.results.toList R) fuel) m [.code (cAt (bodyOf Try.f8) [1, 0, 1, 0, 1])] [(AV.one (AC.lit false)), (AV.one (AC.ptr 1 0 0)), (AV.one (AC.ptr 2 0 0)), AV.undef, (AV.one (AC.ptr 4 0 0)), (AV.one (AC.vec 22)), (AV.one (AC.ptr 6 0 0)), (AV.one (AC.ptr 7 0 0)), (AV.one (AC.ptr 8 0 0)), AV.undef, AV.undef, AV.undef, AV.undef, AV.undef, AV.undef, AV.undef, AV.undef, AV.undef, AV.undef, AV.undef, AV.undef, AV.undef, AV.undef, AV.undef, AV.undef, AV.undef, AV.undef, AV.undef, AV.undef, AV.undef, AV.undef, AV.undef, AV.undef, AV.undef, AV.undef, AV.undef, AV.undef, AV.undef, AV.undef, AV.undef, AV.undef, AV.undef, AV.undef, AV.undef, AV.undef, AV.undef, AV.undef, (AV.agg [(Seg.ints IntKind.u8 16 (Go.Blk.cnt 3))]), (AV.agg [(Seg.ints IntKind.u8 176 (Go.Blk.ks (Go.Blk.cnt 3)))]), (AV.agg [(Seg.ints IntKind.u8 16 x1)]), (AV.agg [(Seg.ints IntKind.u8 16 (Go.Blk.enc (Go.Blk.ks (Go.Blk.cnt 3)) x1))]), (AV.agg [(Seg.ints IntKind.u8 16 (Go.Blk.cnt 3))]), (AV.agg [(Seg.ints IntKind.u8 176 (Go.Blk.ks (Go.Blk.cnt 3)))]), (AV.agg [(Seg.ints IntKind.u8 16 (lzeros 16))]), (AV.agg [(Seg.ints IntKind.u8 16 (Go.Blk.enc (Go.Blk.ks (Go.Blk.cnt 3)) (lzeros 16)))]), (AV.one (AC.vec 22)), (AV.one (AC.vsl 22 1 0 16)), (AV.one (AC.str (bytesOf (lsub (Go.Blk.strmI (Go.Blk.ks (Go.Blk.cnt 3)) x1 32) 0 16)))), (AV.one (AC.sl 6 0 0 16 16)), (AV.one (AC.str (bytesOf (lsub (Go.Blk.enc (Go.Blk.ks (Go.Blk.cnt 3)) x1) 0 16)))), (AV.one (AC.bool (seq2 (bytesOf (lsub (Go.Blk.strmI (Go.Blk.ks (Go.Blk.cnt 3)) x1 32) 0 16)) (bytesOf (lsub (Go.Blk.enc (Go.Blk.ks (Go.Blk.cnt 3)) x1) 0 16))))), (AV.one (AC.lit true)), (AV.one (AC.vec 22)), (AV.one (AC.vsl 22 1 16 (nsub (llen (Go.Blk.strmI (Go.Blk.ks (Go.Blk.cnt 3)) x1 32)) 16))), (AV.one (AC.str (bytesOf (lsub (Go.Blk.strmI (Go.Blk.ks (Go.Blk.cnt 3)) x1 32) 16 (nsub (llen (Go.Blk.strmI (Go.Blk.ks (Go.Blk.cnt 3)) x1 32)) 16))))), (AV.one (AC.sl 7 0 0 16 16)), (AV.one (AC.str (bytesOf (lsub (Go.Blk.enc (Go.Blk.ks (Go.Blk.cnt 3)) (lzeros 16)) 0 16)))), (AV.one (AC.bool (seq2 (bytesOf (lsub (Go.Blk.strmI (Go.Blk.ks (Go.Blk.cnt 3)) x1 32) 16 (nsub (llen (Go.Blk.strmI (Go.Blk.ks (Go.Blk.cnt 3)) x1 32)) 16))) (bytesOf (lsub (Go.Blk.enc (Go.Blk.ks (Go.Blk.cnt 3)) (lzeros 16)) 0 16))))), (AV.one (AC.bool (seq2 (bytesOf (lsub (Go.Blk.strmI (Go.Blk.ks (Go.Blk.cnt 3)) x1 32) 16 (nsub (llen (Go.Blk.strmI (Go.Blk.ks (Go.Blk.cnt 3)) x1 32)) 16))) (bytesOf (lsub (Go.Blk.enc (Go.Blk.ks (Go.Blk.cnt 3)) (lzeros 16)) 0 16))))), (AV.one (AC.lit false)), (AV.tup []), (AV.tup []), (AV.tup []), (AV.tup []), (AV.one (AC.lit false)), (AV.one (AC.lit false)), (AV.tup []), (AV.tup []), (AV.tup []), (AV.tup []), (AV.tup []), (AV.one (AC.lit false))] [(1, Blk.own 22 [(Seg.ints IntKind.u8 16 (lzeros 16))]), (2, Blk.own 22 [(Seg.ints IntKind.u8 16 x1)]), (4, Blk.own 22 [(Seg.ints IntKind.u8 16 (Go.Blk.cnt 3))]), (6, Blk.own 22 [(Seg.ints IntKind.u8 16 (Go.Blk.enc (Go.Blk.ks (Go.Blk.cnt 3)) x1))]), (7, Blk.own 22 [(Seg.ints IntKind.u8 16 (Go.Blk.enc (Go.Blk.ks (Go.Blk.cnt 3)) (lzeros 16)))]), (8, Blk.own 28 [(Seg.ints IntKind.u8 176 (lzeros 176))]), (22, Blk.vec [(Col.ints IntKind.u8 (Go.Blk.strmI (Go.Blk.ks (Go.Blk.cnt 3)) x1 32))])]

def lexam.k6 (R : AV → Mem → Prop) (x1 : List Int) (fuel m : Nat) : Prop := runM Try.prog gamB9 [⟨777777, [], true, false⟩] (resh Try.prog [⟨777777, [], true, false⟩] Try.f8.results.toList R) (run Try.prog gamB9 [⟨777777, [], true, false⟩] (resh Try.prog [⟨777777, [], true, false⟩] Try.f8.results.toList R) fuel) m [.code (cAt (bodyOf Try.f8) [1, 0, 1, 0, 1])] [(AV.one (AC.lit false)), (AV.one (AC.ptr 1 0 0)), (AV.one (AC.ptr 2 0 0)), AV.undef, (AV.one (AC.ptr 4 0 0)), (AV.one (AC.vec 22)), (AV.one (AC.ptr 6 0 0)), (AV.one (AC.ptr 7 0 0)), (AV.one (AC.ptr 8 0 0)), AV.undef, AV.undef, AV.undef, AV.undef, AV.undef, AV.undef, AV.undef, AV.undef, AV.undef, AV.undef, AV.undef, AV.undef, AV.undef, AV.undef, AV.undef, AV.undef, AV.undef, AV.undef, AV.undef, AV.undef, AV.undef, AV.undef, AV.undef, AV.undef, AV.undef, AV.undef, AV.undef, AV.undef, AV.undef, AV.undef, AV.undef, AV.undef, AV.undef, AV.undef, AV.undef, AV.undef, AV.undef, AV.undef, (AV.agg [(Seg.ints IntKind.u8 16 (Go.Blk.cnt 3))]), (AV.agg [(Seg.ints IntKind.u8 176 (Go.Blk.ks (Go.Blk.cnt 3)))]), (AV.agg [(Seg.ints IntKind.u8 16 x1)]), (AV.agg [(Seg.ints IntKind.u8 16 (Go.Blk.enc (Go.Blk.ks (Go.Blk.cnt 3)) x1))]), (AV.agg [(Seg.ints IntKind.u8 16 (Go.Blk.cnt 3))]), (AV.agg [(Seg.ints IntKind.u8 176 (Go.Blk.ks (Go.Blk.cnt 3)))]), (AV.agg [(Seg.ints IntKind.u8 16 (lzeros 16))]), (AV.agg [(Seg.ints IntKind.u8 16 (Go.Blk.enc (Go.Blk.ks (Go.Blk.cnt 3)) (lzeros 16)))]), (AV.one (AC.vec 22)), (AV.one (AC.vsl 22 1 0 16)), (AV.one (AC.str (bytesOf (lsub (Go.Blk.strmI (Go.Blk.ks (Go.Blk.cnt 3)) x1 32) 0 16)))), (AV.one (AC.sl 6 0 0 16 16)), (AV.one (AC.str (bytesOf (lsub (Go.Blk.enc (Go.Blk.ks (Go.Blk.cnt 3)) x1) 0 16)))), (AV.one (AC.bool (seq2 (bytesOf (lsub (Go.Blk.strmI (Go.Blk.ks (Go.Blk.cnt 3)) x1 32) 0 16)) (bytesOf (lsub (Go.Blk.enc (Go.Blk.ks (Go.Blk.cnt 3)) x1) 0 16))))), (AV.one (AC.lit false)), (AV.tup []), (AV.tup []), (AV.tup []), (AV.tup []), (AV.tup []), (AV.tup []), (AV.one (AC.lit false)), (AV.one (AC.lit false)), (AV.tup []), (AV.tup []), (AV.tup []), (AV.tup []), (AV.one (AC.lit false)), (AV.one (AC.lit false)), (AV.tup []), (AV.tup []), (AV.tup []), (AV.tup []), (AV.tup []), (AV.one (AC.lit false))] [(1, Blk.own 22 [(Seg.ints IntKind.u8 16 (lzeros 16))]), (2, Blk.own 22 [(Seg.ints IntKind.u8 16 x1)]), (4, Blk.own 22 [(Seg.ints IntKind.u8 16 (Go.Blk.cnt 3))]), (6, Blk.own 22 [(Seg.ints IntKind.u8 16 (Go.Blk.enc (Go.Blk.ks (Go.Blk.cnt 3)) x1))]), (7, Blk.own 22 [(Seg.ints IntKind.u8 16 (Go.Blk.enc (Go.Blk.ks (Go.Blk.cnt 3)) (lzeros 16)))]), (8, Blk.own 28 [(Seg.ints IntKind.u8 176 (lzeros 176))]), (22, Blk.vec [(Col.ints IntKind.u8 (Go.Blk.strmI (Go.Blk.ks (Go.Blk.cnt 3)) x1 32))])]

def lexam.k7 (R : AV → Mem → Prop) (x1 : List Int) (fuel m : Nat) : Prop := runM Try.prog gamB9 [⟨777777, [], true, false⟩] (resh Try.prog [⟨777777, [], true, false⟩] Try.f8.results.toList R) (run Try.prog gamB9 [⟨777777, [], true, false⟩] (resh Try.prog [⟨777777, [], true, false⟩] Try.f8.results.toList R) fuel) m [.code (cAt (bodyOf Try.f8) [1, 1, 1, 1, 1, 1, 1, 1, 1])] [AV.undef, (AV.one (AC.ptr 1 0 0)), (AV.one (AC.ptr 2 0 0)), AV.undef, (AV.one (AC.ptr 4 0 0)), (AV.one (AC.vec 22)), (AV.one (AC.ptr 6 0 0)), (AV.one (AC.ptr 7 0 0)), (AV.one (AC.ptr 8 0 0)), AV.undef, AV.undef, AV.undef, AV.undef, AV.undef, AV.undef, AV.undef, AV.undef, AV.undef, AV.undef, AV.undef, AV.undef, AV.undef, AV.undef, AV.undef, AV.undef, AV.undef, AV.undef, AV.undef, AV.undef, AV.undef, AV.undef, AV.undef, AV.undef, AV.undef, AV.undef, AV.undef, AV.undef, AV.undef, AV.undef, AV.undef, AV.undef, AV.undef, AV.undef, AV.undef, AV.undef, AV.undef, AV.undef, (AV.agg [(Seg.ints IntKind.u8 16 (Go.Blk.cnt 3))]), (AV.agg [(Seg.ints IntKind.u8 176 (Go.Blk.ks (Go.Blk.cnt 3)))]), (AV.agg [(Seg.ints IntKind.u8 16 x1)]), (AV.agg [(Seg.ints IntKind.u8 16 (Go.Blk.enc (Go.Blk.ks (Go.Blk.cnt 3)) x1))]), (AV.agg [(Seg.ints IntKind.u8 16 (Go.Blk.cnt 3))]), (AV.agg [(Seg.ints IntKind.u8 176 (Go.Blk.ks (Go.Blk.cnt 3)))]), (AV.agg [(Seg.ints IntKind.u8 16 (lzeros 16))]), (AV.agg [(Seg.ints IntKind.u8 16 (Go.Blk.enc (Go.Blk.ks (Go.Blk.cnt 3)) (lzeros 16)))]), (AV.tup []), (AV.tup []), (AV.tup []), (AV.tup []), (AV.tup []), (AV.tup []), (AV.tup []), (AV.tup []), (AV.tup []), (AV.tup []), (AV.tup []), (AV.tup []), (AV.tup []), (AV.tup []), (AV.tup []), (AV.tup []), (AV.tup []), (AV.tup []), (AV.tup []), (AV.tup []), (AV.tup []), (AV.tup []), (AV.tup []), (AV.tup []), (AV.tup []), (AV.tup []), (AV.tup [])] [(1, Blk.own 22 [(Seg.ints IntKind.u8 16 (lzeros 16))]), (2, Blk.own 22 [(Seg.ints IntKind.u8 16 x1)]), (4, Blk.own 22 [(Seg.ints IntKind.u8 16 (Go.Blk.cnt 3))]), (6, Blk.own 22 [(Seg.ints IntKind.u8 16 (Go.Blk.enc (Go.Blk.ks (Go.Blk.cnt 3)) x1))]), (7, Blk.own 22 [(Seg.ints IntKind.u8 16 (Go.Blk.enc (Go.Blk.ks (Go.Blk.cnt 3)) (lzeros 16)))]), (8, Blk.own 28 [(Seg.ints IntKind.u8 176 (lzeros 176))]), (22, Blk.vec [(Col.ints IntKind.u8 (Go.Blk.strmI (Go.Blk.ks (Go.Blk.cnt 3)) x1 32))])]

def lexam.k8 (R : AV → Mem → Prop) (x1 : List Int) (fuel m : Nat) : Prop := runM Try.prog gamB9 [⟨777777, [], true, false⟩] (resh Try.prog [⟨777777, [], true, false⟩] Try.f8.results.toList R) (run Try.prog gamB9 [⟨777777, [], true, false⟩] (resh Try.prog [⟨777777, [], true, false⟩] Try.f8.results.toList R) fuel) m [.code (cAt (bodyOf Try.f8) [1, 0, 1, 1]), .code (cAt (bodyOf Try.f8) [1, 1, 1, 1, 1, 1, 1])] [AV.undef, (AV.one (AC.ptr 1 0 0)), (AV.one (AC.ptr 2 0 0)), AV.undef, (AV.one (AC.ptr 4 0 0)), (AV.one (AC.vec 22)), (AV.tup []), (AV.tup []), (AV.tup []), AV.undef, AV.undef, AV.undef, AV.undef, AV.undef, AV.undef, AV.undef, AV.undef, AV.undef, AV.undef, AV.undef, AV.undef, AV.undef, AV.undef, AV.undef, AV.undef, AV.undef, AV.undef, AV.undef, AV.undef, AV.undef, AV.undef, AV.undef, AV.undef, AV.undef, AV.undef, AV.undef, AV.undef, AV.undef, AV.undef, AV.undef, AV.undef, AV.undef, AV.undef, AV.undef, AV.undef, AV.undef, AV.undef, (AV.tup []), (AV.tup []), (AV.tup []), (AV.tup []), (AV.tup []), (AV.tup []), (AV.tup []), (AV.tup []), (AV.tup []), (AV.tup []), (AV.tup []), (AV.tup []), (AV.tup []), (AV.tup []), (AV.tup []), (AV.tup []), (AV.tup []), (AV.tup []), (AV.tup []), (AV.tup []), (AV.tup []), (AV.tup []), (AV.tup []), (AV.tup []), (AV.tup []), (AV.tup []), (AV.tup []), (AV.tup []), (AV.tup []), (AV.tup []), (AV.tup []), (AV.tup []), (AV.tup []), (AV.tup []), (AV.tup [])] [(1, Blk.own 22 [(Seg.ints IntKind.u8 16 (lzeros 16))]), (2, Blk.own 22 [(Seg.ints IntKind.u8 16 x1)]), (4, Blk.own 22 [(Seg.ints IntKind.u8 16 (Go.Blk.cnt 3))]), (22, Blk.vec [(Col.ints IntKind.u8 (Go.Blk.strmI (Go.Blk.ks (Go.Blk.cnt 3)) x1 32))])]

def lexam.k9 (R : AV → Mem → Prop) (x0 : Int) (x1 : List Int) (fuel m : Nat) : Prop := runM Try.prog gamB9 [⟨777777, [], true, false⟩] (resh Try.prog [⟨777777, [], true, false⟩] Try.f8.results.toList R) (run Try.prog gamB9 [⟨777777, [], true, false⟩] (resh Try.prog [⟨777777, [], true, false⟩] Try.f8.results.toList R) fuel) m [.code (cAt (bodyOf Try.f8) [1, 1, 1, 1, 1, 1, 0, 1]), .code (cAt (bodyOf Try.f8) [1, 1, 1, 1, 1, 1, 1])] [AV.undef, (AV.one (AC.ptr 1 0 0)), (AV.one (AC.ptr 2 0 0)), (AV.one (AC.int IntKind.i64 x0)), (AV.one (AC.ptr 4 0 0)), (AV.one (AC.vec 22)), (AV.tup []), (AV.tup []), (AV.tup []), AV.undef, AV.undef, AV.undef, AV.undef, (AV.one (AC.int IntKind.i64 x0)), (AV.one (AC.lit false)), AV.undef, AV.undef, AV.undef, AV.undef, (AV.agg [(Seg.ints IntKind.u8 16 (Go.Blk.cnt 3))]), (AV.agg [(Seg.ints IntKind.u8 16 (Go.Blk.cnt 3))]), (AV.agg [(Seg.ints IntKind.u8 16 x1)]), (AV.one (AC.vec 22)), (AV.one (AC.vec 22)), (AV.one (AC.int IntKind.i64 (ofNat (llen (Go.Blk.strmI (Go.Blk.ks (Go.Blk.cnt 3)) x1 32))))), (AV.one (AC.bool (ine (ofNat (llen (Go.Blk.strmI (Go.Blk.ks (Go.Blk.cnt 3)) x1 32))) 32))), (AV.one (AC.lit false)), (AV.agg [(Seg.ints IntKind.u8 16 (Go.Blk.cnt 3))]), (AV.agg [(Seg.ints IntKind.u8 16 x1)]), (AV.one (AC.vec 29)), (AV.one (AC.int IntKind.i64 (ofNat (llen (Go.Blk.strmI (Go.Blk.ks (Go.Blk.cnt 3)) x1 65536))))), (AV.one (AC.bool (ine (ofNat (llen (Go.Blk.strmI (Go.Blk.ks (Go.Blk.cnt 3)) x1 65536))) 65536))), (AV.one (AC.bool (ine (ofNat (llen (Go.Blk.strmI (Go.Blk.ks (Go.Blk.cnt 3)) x1 65536))) 65536))), (AV.one (AC.lit false)), (AV.agg [(Seg.ints IntKind.u8 16 (Go.Blk.cnt 3))]), (AV.agg [(Seg.ints IntKind.u8 16 x1)]), (AV.one (AC.vec 36)), (AV.one (AC.int IntKind.i64 (ofNat (llen (Go.Blk.strmI (Go.Blk.ks (Go.Blk.cnt 3)) x1 65537))))), (AV.one (AC.bool (ine (ofNat (llen (Go.Blk.strmI (Go.Blk.ks (Go.Blk.cnt 3)) x1 65537))) 0))), (AV.one (AC.bool (ine (ofNat (llen (Go.Blk.strmI (Go.Blk.ks (Go.Blk.cnt 3)) x1 65537))) 0))), (AV.one (AC.lit false)), (AV.agg [(Seg.ints IntKind.u8 16 (Go.Blk.cnt 3))]), (AV.agg [(Seg.ints IntKind.u8 16 x1)]), (AV.one (AC.vec 43)), (AV.one (AC.int IntKind.i64 (ofNat (llen (Go.Blk.strmI (Go.Blk.ks (Go.Blk.cnt 3)) x1 (-1 : Int)))))), (AV.one (AC.bool (ine (ofNat (llen (Go.Blk.strmI (Go.Blk.ks (Go.Blk.cnt 3)) x1 (-1 : Int)))) 0))), (AV.one (AC.bool (ine (ofNat (llen (Go.Blk.strmI (Go.Blk.ks (Go.Blk.cnt 3)) x1 (-1 : Int)))) 0))), (AV.tup []), (AV.tup []), (AV.tup []), (AV.tup []), (AV.tup []), (AV.tup []), (AV.tup []), (AV.tup []), (AV.tup []), (AV.tup []), (AV.tup []), (AV.tup []), (AV.tup []), (AV.tup []), (AV.tup []), (AV.tup []), (AV.tup []), (AV.tup []), (AV.tup []), (AV.tup []), (AV.tup []), (AV.tup []), (AV.tup []), (AV.tup []), (AV.tup []), (AV.tup []), (AV.tup []), (AV.tup []), (AV.tup []), (AV.tup []), (AV.tup []), (AV.tup []), (AV.tup []), (AV.tup []), (AV.tup [])] [(1, Blk.own 22 [(Seg.ints IntKind.u8 16 (lzeros 16))]), (2, Blk.own 22 [(Seg.ints IntKind.u8 16 x1)]), (4, Blk.own 22 [(Seg.ints IntKind.u8 16 (Go.Blk.cnt 3))]), (22, Blk.vec [(Col.ints IntKind.u8 (Go.Blk.strmI (Go.Blk.ks (Go.Blk.cnt 3)) x1 32))]), (29, Blk.vec [(Col.ints IntKind.u8 (Go.Blk.strmI (Go.Blk.ks (Go.Blk.cnt 3)) x1 65536))]), (36, Blk.vec [(Col.ints IntKind.u8 (Go.Blk.strmI (Go.Blk.ks (Go.Blk.cnt 3)) x1 65537))]), (43, Blk.vec [(Col.ints IntKind.u8 (Go.Blk.strmI (Go.Blk.ks (Go.Blk.cnt 3)) x1 (-1 : Int)))])]

def lexam.k10 (R : AV → Mem → Prop) (x0 : Int) (x1 : List Int) (fuel m : Nat) : Prop := runM Try.prog gamB9 [⟨777777, [], true, false⟩] (resh Try.prog [⟨777777, [], true, false⟩] Try.f8.results.toList R) (run Try.prog gamB9 [⟨777777, [], true, false⟩] (resh Try.prog [⟨777777, [], true, false⟩] Try.f8.results.toList R) fuel) m [.code (cAt (bodyOf Try.f8) [1, 1, 1, 1, 1, 1])] [AV.undef, (AV.one (AC.ptr 1 0 0)), (AV.one (AC.ptr 2 0 0)), (AV.one (AC.int IntKind.i64 x0)), (AV.one (AC.ptr 4 0 0)), (AV.one (AC.vec 22)), (AV.tup []), (AV.tup []), (AV.tup []), AV.undef, AV.undef, AV.undef, AV.undef, (AV.one (AC.int IntKind.i64 x0)), (AV.one (AC.lit false)), AV.undef, AV.undef, AV.undef, AV.undef, (AV.agg [(Seg.ints IntKind.u8 16 (Go.Blk.cnt 3))]), (AV.agg [(Seg.ints IntKind.u8 16 (Go.Blk.cnt 3))]), (AV.agg [(Seg.ints IntKind.u8 16 x1)]), (AV.one (AC.vec 22)), (AV.tup []), (AV.tup []), (AV.tup []), (AV.tup []), (AV.tup []), (AV.tup []), (AV.tup []), (AV.tup []), (AV.tup []), (AV.tup []), (AV.tup []), (AV.tup []), (AV.tup []), (AV.tup []), (AV.tup []), (AV.tup []), (AV.tup []), (AV.tup []), (AV.tup []), (AV.tup []), (AV.tup []), (AV.tup []), (AV.tup []), (AV.tup []), (AV.tup []), (AV.tup []), (AV.tup []), (AV.tup []), (AV.tup []), (AV.tup []), (AV.tup []), (AV.tup []), (AV.tup []), (AV.tup []), (AV.tup []), (AV.tup []), (AV.tup []), (AV.tup []), (AV.tup []), (AV.tup []), (AV.tup []), (AV.tup []), (AV.tup []), (AV.tup []), (AV.tup []), (AV.tup []), (AV.tup []), (AV.tup []), (AV.tup []), (AV.tup []), (AV.tup []), (AV.tup []), (AV.tup []), (AV.tup []), (AV.tup []), (AV.tup []), (AV.tup []), (AV.tup []), (AV.tup [])] [(1, Blk.own 22 [(Seg.ints IntKind.u8 16 (lzeros 16))]), (2, Blk.own 22 [(Seg.ints IntKind.u8 16 x1)]), (4, Blk.own 22 [(Seg.ints IntKind.u8 16 (Go.Blk.cnt 3))]), (22, Blk.vec [(Col.ints IntKind.u8 (Go.Blk.strmI (Go.Blk.ks (Go.Blk.cnt 3)) x1 32))])]

def lexam.k11 (R : AV → Mem → Prop) (x0 : Int) (x1 : List Int) (fuel m : Nat) : Prop := runM Try.prog gamB9 [⟨777777, [], true, false⟩] (resh Try.prog [⟨777777, [], true, false⟩] Try.f8.results.toList R) (run Try.prog gamB9 [⟨777777, [], true, false⟩] (resh Try.prog [⟨777777, [], true, false⟩] Try.f8.results.toList R) fuel) m [.code (cAt (bodyOf Try.f8) [1, 1, 1, 1, 1])] [AV.undef, (AV.one (AC.ptr 1 0 0)), (AV.one (AC.ptr 2 0 0)), (AV.one (AC.int IntKind.i64 x0)), (AV.one (AC.ptr 4 0 0)), (AV.tup []), (AV.tup []), (AV.tup []), (AV.tup []), AV.undef, AV.undef, AV.undef, AV.undef, (AV.one (AC.int IntKind.i64 x0)), (AV.one (AC.lit false)), AV.undef, AV.undef, AV.undef, AV.undef, (AV.agg [(Seg.ints IntKind.u8 16 (Go.Blk.cnt 3))]), (AV.tup []), (AV.tup []), (AV.tup []), (AV.tup []), (AV.tup []), (AV.tup []), (AV.tup []), (AV.tup []), (AV.tup []), (AV.tup []), (AV.tup []), (AV.tup []), (AV.tup []), (AV.tup []), (AV.tup []), (AV.tup []), (AV.tup []), (AV.tup []), (AV.tup []), (AV.tup []), (AV.tup []), (AV.tup []), (AV.tup []), (AV.tup []), (AV.tup []), (AV.tup []), (AV.tup []), (AV.tup []), (AV.tup []), (AV.tup []), (AV.tup []), (AV.tup []), (AV.tup []), (AV.tup []), (AV.tup []), (AV.tup []), (AV.tup []), (AV.tup []), (AV.tup []), (AV.tup []), (AV.tup []), (AV.tup []), (AV.tup []), (AV.tup []), (AV.tup []), (AV.tup []), (AV.tup []), (AV.tup []), (AV.tup []), (AV.tup []), (AV.tup []), (AV.tup []), (AV.tup []), (AV.tup []), (AV.tup []), (AV.tup []), (AV.tup []), (AV.tup []), (AV.tup []), (AV.tup []), (AV.tup []), (AV.tup [])] [(1, Blk.own 22 [(Seg.ints IntKind.u8 16 (lzeros 16))]), (2, Blk.own 22 [(Seg.ints IntKind.u8 16 x1)]), (4, Blk.own 22 [(Seg.ints IntKind.u8 16 (Go.Blk.cnt 3))])]

def lexam.k12 (R : AV → Mem → Prop) (x0 : Int) (x1 : List Int) (fuel m : Nat) : Prop := runM Try.prog gamB9 [⟨777777, [], true, false⟩] (resh Try.prog [⟨777777, [], true, false⟩] Try.f8.results.toList R) (run Try.prog gamB9 [⟨777777, [], true, false⟩] (resh Try.prog [⟨777777, [], true, false⟩] Try.f8.results.toList R) fuel) m [.code (cAt (bodyOf Try.f8) [1, 1, 1, 0, 1, 0, 0, 0, 1, 1]), .code (cAt (bodyOf Try.f8) [1, 1, 1, 0, 1, 0, 0, 1]), .inLoop (cAt (bodyOf Try.f8) [1, 1, 1, 0, 1, 0, 0]), .inBlock 0, .code (cAt (bodyOf Try.f8) [1, 1, 1, 1])] [AV.undef, (AV.one (AC.ptr 1 0 0)), (AV.one (AC.ptr 2 0 0)), (AV.one (AC.int IntKind.i64 x0)), (AV.tup []), (AV.tup []), (AV.tup []), (AV.tup []), (AV.tup []), AV.undef, AV.undef, AV.undef, AV.undef, (AV.one (AC.int IntKind.i64 x0)), (AV.one (AC.lit false)), AV.undef, AV.undef, AV.undef, AV.undef, (AV.tup []), (AV.tup []), (AV.tup []), (AV.tup []), (AV.tup []), (AV.tup []), (AV.tup []), (AV.tup []), (AV.tup []), (AV.tup []), (AV.tup []), (AV.tup []), (AV.tup []), (AV.tup []), (AV.tup []), (AV.tup []), (AV.tup []), (AV.tup []), (AV.tup []), (AV.tup []), (AV.tup []), (AV.tup []), (AV.tup []), (AV.tup []), (AV.tup []), (AV.tup []), (AV.tup []), (AV.tup []), (AV.tup []), (AV.tup []), (AV.tup []), (AV.tup []), (AV.tup []), (AV.tup []), (AV.tup []), (AV.tup []), (AV.tup []), (AV.tup []), (AV.tup []), (AV.tup []), (AV.tup []), (AV.tup []), (AV.tup []), (AV.tup []), (AV.tup []), (AV.tup []), (AV.tup []), (AV.tup []), (AV.tup []), (AV.tup []), (AV.tup []), (AV.tup []), (AV.tup []), (AV.tup []), (AV.tup []), (AV.tup []), (AV.tup []), (AV.tup []), (AV.tup []), (AV.tup []), (AV.tup []), (AV.tup []), (AV.tup [])] [(1, Blk.own 22 [(Seg.ints IntKind.u8 16 (lzeros 16))]), (2, Blk.own 22 [(Seg.ints IntKind.u8 16 x1)])]

def lexam.k13 (R : AV → Mem → Prop) (x0 : Int) (x1 : List Int) (fuel m : Nat) : Prop := runM Try.prog gamB9 [⟨777777, [], true, false⟩] (resh Try.prog [⟨777777, [], true, false⟩] Try.f8.results.toList R) (run Try.prog gamB9 [⟨777777, [], true, false⟩] (resh Try.prog [⟨777777, [], true, false⟩] Try.f8.results.toList R) fuel) m [.code (cAt (bodyOf Try.f8) [1, 1, 1, 0, 1, 0, 0, 0, 1]), .code (cAt (bodyOf Try.f8) [1, 1, 1, 0, 1, 0, 0, 1]), .inLoop (cAt (bodyOf Try.f8) [1, 1, 1, 0, 1, 0, 0]), .inBlock 0, .code (cAt (bodyOf Try.f8) [1, 1, 1, 1])] [AV.undef, (AV.one (AC.ptr 1 0 0)), (AV.one (AC.ptr 2 0 0)), (AV.one (AC.int IntKind.i64 x0)), (AV.tup []), (AV.tup []), (AV.tup []), (AV.tup []), (AV.tup []), AV.undef, AV.undef, AV.undef, AV.undef, (AV.one (AC.int IntKind.i64 x0)), (AV.one (AC.bool (ilt x0 16))), AV.undef, AV.undef, AV.undef, AV.undef, (AV.tup []), (AV.tup []), (AV.tup []), (AV.tup []), (AV.tup []), (AV.tup []), (AV.tup []), (AV.tup []), (AV.tup []), (AV.tup []), (AV.tup []), (AV.tup []), (AV.tup []), (AV.tup []), (AV.tup []), (AV.tup []), (AV.tup []), (AV.tup []), (AV.tup []), (AV.tup []), (AV.tup []), (AV.tup []), (AV.tup []), (AV.tup []), (AV.tup []), (AV.tup []), (AV.tup []), (AV.tup []), (AV.tup []), (AV.tup []), (AV.tup []), (AV.tup []), (AV.tup []), (AV.tup []), (AV.tup []), (AV.tup []), (AV.tup []), (AV.tup []), (AV.tup []), (AV.tup []), (AV.tup []), (AV.tup []), (AV.tup []), (AV.tup []), (AV.tup []), (AV.tup []), (AV.tup []), (AV.tup []), (AV.tup []), (AV.tup []), (AV.tup []), (AV.tup []), (AV.tup []), (AV.tup []), (AV.tup []), (AV.tup []), (AV.tup []), (AV.tup []), (AV.tup []), (AV.tup []), (AV.tup []), (AV.tup []), (AV.tup [])] [(1, Blk.own 22 [(Seg.ints IntKind.u8 16 (lzeros 16))]), (2, Blk.own 22 [(Seg.ints IntKind.u8 16 x1)])]

def lexam.l0 (R : AV → Mem → Prop)  (fuel : Nat) (x0 : Int) (x1 : List Int) : Prop := run Try.prog gamB9 [⟨777777, [], true, false⟩] (resh Try.prog [⟨777777, [], true, false⟩] Try.f8.results.toList R) fuel [.code (cAt (bodyOf Try.f8) [1, 1, 1, 0, 1, 0, 0]), .inLoop (cAt (bodyOf Try.f8) [1, 1, 1, 0, 1, 0, 0]), .inBlock 0, .code (cAt (bodyOf Try.f8) [1, 1, 1, 1])] [AV.undef, (AV.one (AC.ptr 1 0 0)), (AV.one (AC.ptr 2 0 0)), (AV.one (AC.int IntKind.i64 x0)), (AV.tup []), (AV.tup []), (AV.tup []), (AV.tup []), (AV.tup []), AV.undef, AV.undef, AV.undef, AV.undef, AV.undef, AV.undef, AV.undef, AV.undef, AV.undef, AV.undef, (AV.tup []), (AV.tup []), (AV.tup []), (AV.tup []), (AV.tup []), (AV.tup []), (AV.tup []), (AV.tup []), (AV.tup []), (AV.tup []), (AV.tup []), (AV.tup []), (AV.tup []), (AV.tup []), (AV.tup []), (AV.tup []), (AV.tup []), (AV.tup []), (AV.tup []), (AV.tup []), (AV.tup []), (AV.tup []), (AV.tup []), (AV.tup []), (AV.tup []), (AV.tup []), (AV.tup []), (AV.tup []), (AV.tup []), (AV.tup []), (AV.tup []), (AV.tup []), (AV.tup []), (AV.tup []), (AV.tup []), (AV.tup []), (AV.tup []), (AV.tup []), (AV.tup []), (AV.tup []), (AV.tup []), (AV.tup []), (AV.tup []), (AV.tup []), (AV.tup []), (AV.tup []), (AV.tup []), (AV.tup []), (AV.tup []), (AV.tup []), (AV.tup []), (AV.tup []), (AV.tup []), (AV.tup []), (AV.tup []), (AV.tup []), (AV.tup []), (AV.tup []), (AV.tup []), (AV.tup []), (AV.tup []), (AV.tup []), (AV.tup [])] [(1, Blk.own 22 [(Seg.ints IntKind.u8 16 (lzeros 16))]), (2, Blk.own 22 [(Seg.ints IntKind.u8 16 x1)])]

def lexam.k14 (R : AV → Mem → Prop)  (fuel m : Nat) : Prop := runM Try.prog gamB9 [⟨777777, [], true, false⟩] (resh Try.prog [⟨777777, [], true, false⟩] Try.f8.results.toList R) (run Try.prog gamB9 [⟨777777, [], true, false⟩] (resh Try.prog [⟨777777, [], true, false⟩] Try.f8.results.toList R) fuel) m [.code (cAt (bodyOf Try.f8) [1, 1, 1, 0, 1]), .code (cAt (bodyOf Try.f8) [1, 1, 1, 1])] [AV.undef, (AV.one (AC.ptr 1 0 0)), (AV.one (AC.ptr 2 0 0)), (AV.one (AC.int IntKind.i64 0)), (AV.tup []), (AV.tup []), (AV.tup []), (AV.tup []), (AV.tup []), AV.undef, AV.undef, AV.undef, AV.undef, (AV.tup []), (AV.tup []), (AV.tup []), (AV.tup []), (AV.tup []), (AV.tup []), (AV.tup []), (AV.tup []), (AV.tup []), (AV.tup []), (AV.tup []), (AV.tup []), (AV.tup []), (AV.tup []), (AV.tup []), (AV.tup []), (AV.tup []), (AV.tup []), (AV.tup []), (AV.tup []), (AV.tup []), (AV.tup []), (AV.tup []), (AV.tup []), (AV.tup []), (AV.tup []), (AV.tup []), (AV.tup []), (AV.tup []), (AV.tup []), (AV.tup []), (AV.tup []), (AV.tup []), (AV.tup []), (AV.tup []), (AV.tup []), (AV.tup []), (AV.tup []), (AV.tup []), (AV.tup []), (AV.tup []), (AV.tup []), (AV.tup []), (AV.tup []), (AV.tup []), (AV.tup []), (AV.tup []), (AV.tup []), (AV.tup []), (AV.tup []), (AV.tup []), (AV.tup []), (AV.tup []), (AV.tup []), (AV.tup []), (AV.tup []), (AV.tup []), (AV.tup []), (AV.tup []), (AV.tup []), (AV.tup []), (AV.tup []), (AV.tup []), (AV.tup []), (AV.tup []), (AV.tup []), (AV.tup []), (AV.tup []), (AV.tup [])] [(1, Blk.own 22 [(Seg.ints IntKind.u8 16 (lzeros 16))]), (2, Blk.own 22 [(Seg.ints IntKind.u8 16 (lzeros 16))])]

theorem lexam.k0_eq (R : AV → Mem → Prop) (x0 : Int) (x1 : List Int) (fuel m : Nat) : lexam.k0 R x0 x1 fuel (m + 100) = ((lexam.l0 R  fuel (add IntKind.i64 x0 1) (lset x1 (nadd 0 (nat x0)) 255))) := by kernel_rfl

theorem lexam.k1_eq (R : AV → Mem → Prop) (x0 : Int) (x1 : List Int) (fuel m : Nat) : lexam.k1 R x0 x1 fuel (m + 6) = (((InB x0 16) ∧ ((Low (nadd 0 (nat x0)) 16) ∧ (lexam.k0 R x0 x1 fuel m)))) := by kernel_rfl

theorem lexam.k2_eq (R : AV → Mem → Prop) (x1 : List Int) (fuel m : Nat) : lexam.k2 R x1 fuel (m + 100) = ((R (AV.one (AC.lit false)) [(1, Blk.own 22 [(Seg.ints IntKind.u8 16 (lzeros 16))]), (2, Blk.own 22 [(Seg.ints IntKind.u8 16 x1)]), (4, Blk.own 22 [(Seg.ints IntKind.u8 16 (Go.Blk.cnt 3))]), (22, Blk.vec [(Col.ints IntKind.u8 (Go.Blk.strmI (Go.Blk.ks (Go.Blk.cnt 3)) x1 32))])])) := by kernel_rfl

theorem lexam.k3_eq (R : AV → Mem → Prop) (x1 : List Int) (fuel m : Nat) : lexam.k3 R x1 fuel (m + 100) = ((let y2 : Bool := (seq2 (bytesOf (lsub (Go.Blk.strmI (Go.Blk.ks (Go.Blk.cnt 3)) x1 32) 0 16)) (bytesOf (lsub (Go.Blk.enc (Go.Blk.ks (Go.Blk.cnt 3)) x1) 0 16))); (let y3 : ByteArray := (bytesOf (lsub (Go.Blk.strmI (Go.Blk.ks (Go.Blk.cnt 3)) x1 32) 16 (nsub (llen (Go.Blk.strmI (Go.Blk.ks (Go.Blk.cnt 3)) x1 32)) 16))); (let y4 : Bool := (seq2 (bytesOf (lsub (Go.Blk.strmI (Go.Blk.ks (Go.Blk.cnt 3)) x1 32) 16 (nsub (llen (Go.Blk.strmI (Go.Blk.ks (Go.Blk.cnt 3)) x1 32)) 16))) (bytesOf (lsub (Go.Blk.enc (Go.Blk.ks (Go.Blk.cnt 3)) (lzeros 16)) 0 16))); (R (AV.one (AC.bool (leq (Go.Blk.rkI (Go.Blk.ks (Go.Blk.cnt 3)) 0) (Go.Blk.cnt 3)))) [(1, Blk.own 22 [(Seg.ints IntKind.u8 16 (lzeros 16))]), (2, Blk.own 22 [(Seg.ints IntKind.u8 16 x1)]), (4, Blk.own 22 [(Seg.ints IntKind.u8 16 (Go.Blk.cnt 3))]), (6, Blk.own 22 [(Seg.ints IntKind.u8 16 (Go.Blk.enc (Go.Blk.ks (Go.Blk.cnt 3)) x1))]), (7, Blk.own 22 [(Seg.ints IntKind.u8 16 (Go.Blk.enc (Go.Blk.ks (Go.Blk.cnt 3)) (lzeros 16)))]), (8, Blk.own 28 [(Seg.ints IntKind.u8 176 (lzeros 176))]), (22, Blk.vec [(Col.ints IntKind.u8 (Go.Blk.strmI (Go.Blk.ks (Go.Blk.cnt 3)) x1 32))])]))))) := by kernel_rfl

theorem lexam.k4_eq (R : AV → Mem → Prop) (x1 : List Int) (fuel m : Nat) : lexam.k4 R x1 fuel (m + 100) = ((let y5 : Bool := (seq2 (bytesOf (lsub (Go.Blk.strmI (Go.Blk.ks (Go.Blk.cnt 3)) x1 32) 0 16)) (bytesOf (lsub (Go.Blk.enc (Go.Blk.ks (Go.Blk.cnt 3)) x1) 0 16))); (let y6 : ByteArray := (bytesOf (lsub (Go.Blk.strmI (Go.Blk.ks (Go.Blk.cnt 3)) x1 32) 16 (nsub (llen (Go.Blk.strmI (Go.Blk.ks (Go.Blk.cnt 3)) x1 32)) 16))); (let y7 : Bool := (seq2 (bytesOf (lsub (Go.Blk.strmI (Go.Blk.ks (Go.Blk.cnt 3)) x1 32) 16 (nsub (llen (Go.Blk.strmI (Go.Blk.ks (Go.Blk.cnt 3)) x1 32)) 16))) (bytesOf (lsub (Go.Blk.enc (Go.Blk.ks (Go.Blk.cnt 3)) (lzeros 16)) 0 16))); (R (AV.one (AC.lit false)) [(1, Blk.own 22 [(Seg.ints IntKind.u8 16 (lzeros 16))]), (2, Blk.own 22 [(Seg.ints IntKind.u8 16 x1)]), (4, Blk.own 22 [(Seg.ints IntKind.u8 16 (Go.Blk.cnt 3))]), (6, Blk.own 22 [(Seg.ints IntKind.u8 16 (Go.Blk.enc (Go.Blk.ks (Go.Blk.cnt 3)) x1))]), (7, Blk.own 22 [(Seg.ints IntKind.u8 16 (Go.Blk.enc (Go.Blk.ks (Go.Blk.cnt 3)) (lzeros 16)))]), (8, Blk.own 28 [(Seg.ints IntKind.u8 176 (lzeros 176))]), (22, Blk.vec [(Col.ints IntKind.u8 (Go.Blk.strmI (Go.Blk.ks (Go.Blk.cnt 3)) x1 32))])]))))) := by kernel_rfl

theorem lexam.k5_eq (R : AV → Mem → Prop) (x1 : List Int) (fuel m : Nat) : lexam.k5 R x1 fuel (m + 100) = ((let y8 : Bool := (seq2 (bytesOf (lsub (Go.Blk.strmI (Go.Blk.ks (Go.Blk.cnt 3)) x1 32) 0 16)) (bytesOf (lsub (Go.Blk.enc (Go.Blk.ks (Go.Blk.cnt 3)) x1) 0 16))); (let y9 : ByteArray := (bytesOf (lsub (Go.Blk.strmI (Go.Blk.ks (Go.Blk.cnt 3)) x1 32) 16 (nsub (llen (Go.Blk.strmI (Go.Blk.ks (Go.Blk.cnt 3)) x1 32)) 16))); (let y10 : Bool := (seq2 (bytesOf (lsub (Go.Blk.strmI (Go.Blk.ks (Go.Blk.cnt 3)) x1 32) 16 (nsub (llen (Go.Blk.strmI (Go.Blk.ks (Go.Blk.cnt 3)) x1 32)) 16))) (bytesOf (lsub (Go.Blk.enc (Go.Blk.ks (Go.Blk.cnt 3)) (lzeros 16)) 0 16))); (R (AV.one (AC.lit false)) [(1, Blk.own 22 [(Seg.ints IntKind.u8 16 (lzeros 16))]), (2, Blk.own 22 [(Seg.ints IntKind.u8 16 x1)]), (4, Blk.own 22 [(Seg.ints IntKind.u8 16 (Go.Blk.cnt 3))]), (6, Blk.own 22 [(Seg.ints IntKind.u8 16 (Go.Blk.enc (Go.Blk.ks (Go.Blk.cnt 3)) x1))]), (7, Blk.own 22 [(Seg.ints IntKind.u8 16 (Go.Blk.enc (Go.Blk.ks (Go.Blk.cnt 3)) (lzeros 16)))]), (8, Blk.own 28 [(Seg.ints IntKind.u8 176 (lzeros 176))]), (22, Blk.vec [(Col.ints IntKind.u8 (Go.Blk.strmI (Go.Blk.ks (Go.Blk.cnt 3)) x1 32))])]))))) := by kernel_rfl

theorem lexam.k6_eq (R : AV → Mem → Prop) (x1 : List Int) (fuel m : Nat) : lexam.k6 R x1 fuel (m + 100) = ((let y11 : Bool := (seq2 (bytesOf (lsub (Go.Blk.strmI (Go.Blk.ks (Go.Blk.cnt 3)) x1 32) 0 16)) (bytesOf (lsub (Go.Blk.enc (Go.Blk.ks (Go.Blk.cnt 3)) x1) 0 16))); (R (AV.one (AC.lit false)) [(1, Blk.own 22 [(Seg.ints IntKind.u8 16 (lzeros 16))]), (2, Blk.own 22 [(Seg.ints IntKind.u8 16 x1)]), (4, Blk.own 22 [(Seg.ints IntKind.u8 16 (Go.Blk.cnt 3))]), (6, Blk.own 22 [(Seg.ints IntKind.u8 16 (Go.Blk.enc (Go.Blk.ks (Go.Blk.cnt 3)) x1))]), (7, Blk.own 22 [(Seg.ints IntKind.u8 16 (Go.Blk.enc (Go.Blk.ks (Go.Blk.cnt 3)) (lzeros 16)))]), (8, Blk.own 28 [(Seg.ints IntKind.u8 176 (lzeros 176))]), (22, Blk.vec [(Col.ints IntKind.u8 (Go.Blk.strmI (Go.Blk.ks (Go.Blk.cnt 3)) x1 32))])]))) := by kernel_rfl

theorem lexam.k7_eq (R : AV → Mem → Prop) (x1 : List Int) (fuel m : Nat) : lexam.k7 R x1 fuel (m + 2) = ((((NonNeg 16) ∧ (Fits 16 (llen (Go.Blk.strmI (Go.Blk.ks (Go.Blk.cnt 3)) x1 32)))) ∧ (((Fits 16 16) ∧ ((((seq2 (bytesOf (lsub (Go.Blk.strmI (Go.Blk.ks (Go.Blk.cnt 3)) x1 32) 0 16)) (bytesOf (lsub (Go.Blk.enc (Go.Blk.ks (Go.Blk.cnt 3)) x1) 0 16))) = true) → (((NonNeg 16) ∧ (Fits 16 (llen (Go.Blk.strmI (Go.Blk.ks (Go.Blk.cnt 3)) x1 32)))) ∧ (((Fits 16 16) ∧ ((((seq2 (bytesOf (lsub (Go.Blk.strmI (Go.Blk.ks (Go.Blk.cnt 3)) x1 32) 16 (nsub (llen (Go.Blk.strmI (Go.Blk.ks (Go.Blk.cnt 3)) x1 32)) 16))) (bytesOf (lsub (Go.Blk.enc (Go.Blk.ks (Go.Blk.cnt 3)) (lzeros 16)) 0 16))) = true) → ((Go.Blk.BL 176 (lzeros 176)) ∧ ((((leq (Go.Blk.rkI (lzeros 176) 5) (lzeros 16)) = true) → ((Go.Blk.BL 16 (Go.Blk.cnt 3)) ∧ ((Go.Blk.BL 176 (Go.Blk.ks (Go.Blk.cnt 3))) ∧ (lexam.k3 R x1 fuel m)))) ∧ (((leq (Go.Blk.rkI (lzeros 176) 5) (lzeros 16)) = false) → (lexam.k4 R x1 fuel m))))) ∧ (((seq2 (bytesOf (lsub (Go.Blk.strmI (Go.Blk.ks (Go.Blk.cnt 3)) x1 32) 16 (nsub (llen (Go.Blk.strmI (Go.Blk.ks (Go.Blk.cnt 3)) x1 32)) 16))) (bytesOf (lsub (Go.Blk.enc (Go.Blk.ks (Go.Blk.cnt 3)) (lzeros 16)) 0 16))) = false) → (lexam.k5 R x1 fuel m)))) ∧ ((Fits 16 16) ∧ ((((seq2 (bytesOf (lsub (Go.Blk.strmI (Go.Blk.ks (Go.Blk.cnt 3)) x1 32) 16 (nsub (llen (Go.Blk.strmI (Go.Blk.ks (Go.Blk.cnt 3)) x1 32)) 16))) (bytesOf (lsub (Go.Blk.enc (Go.Blk.ks (Go.Blk.cnt 3)) (lzeros 16)) 0 16))) = true) → ((Go.Blk.BL 176 (lzeros 176)) ∧ ((((leq (Go.Blk.rkI (lzeros 176) 5) (lzeros 16)) = true) → ((Go.Blk.BL 16 (Go.Blk.cnt 3)) ∧ ((Go.Blk.BL 176 (Go.Blk.ks (Go.Blk.cnt 3))) ∧ (lexam.k3 R x1 fuel m)))) ∧ (((leq (Go.Blk.rkI (lzeros 176) 5) (lzeros 16)) = false) → (lexam.k4 R x1 fuel m))))) ∧ (((seq2 (bytesOf (lsub (Go.Blk.strmI (Go.Blk.ks (Go.Blk.cnt 3)) x1 32) 16 (nsub (llen (Go.Blk.strmI (Go.Blk.ks (Go.Blk.cnt 3)) x1 32)) 16))) (bytesOf (lsub (Go.Blk.enc (Go.Blk.ks (Go.Blk.cnt 3)) (lzeros 16)) 0 16))) = false) → (lexam.k5 R x1 fuel m))))))) ∧ (((seq2 (bytesOf (lsub (Go.Blk.strmI (Go.Blk.ks (Go.Blk.cnt 3)) x1 32) 0 16)) (bytesOf (lsub (Go.Blk.enc (Go.Blk.ks (Go.Blk.cnt 3)) x1) 0 16))) = false) → ((lexam.k6 R x1 fuel m) ∧ (lexam.k6 R x1 fuel m))))) ∧ ((Fits 16 16) ∧ ((((seq2 (bytesOf (lsub (Go.Blk.strmI (Go.Blk.ks (Go.Blk.cnt 3)) x1 32) 0 16)) (bytesOf (lsub (Go.Blk.enc (Go.Blk.ks (Go.Blk.cnt 3)) x1) 0 16))) = true) → (((NonNeg 16) ∧ (Fits 16 (llen (Go.Blk.strmI (Go.Blk.ks (Go.Blk.cnt 3)) x1 32)))) ∧ (((Fits 16 16) ∧ ((((seq2 (bytesOf (lsub (Go.Blk.strmI (Go.Blk.ks (Go.Blk.cnt 3)) x1 32) 16 (nsub (llen (Go.Blk.strmI (Go.Blk.ks (Go.Blk.cnt 3)) x1 32)) 16))) (bytesOf (lsub (Go.Blk.enc (Go.Blk.ks (Go.Blk.cnt 3)) (lzeros 16)) 0 16))) = true) → ((Go.Blk.BL 176 (lzeros 176)) ∧ ((((leq (Go.Blk.rkI (lzeros 176) 5) (lzeros 16)) = true) → ((Go.Blk.BL 16 (Go.Blk.cnt 3)) ∧ ((Go.Blk.BL 176 (Go.Blk.ks (Go.Blk.cnt 3))) ∧ (lexam.k3 R x1 fuel m)))) ∧ (((leq (Go.Blk.rkI (lzeros 176) 5) (lzeros 16)) = false) → (lexam.k4 R x1 fuel m))))) ∧ (((seq2 (bytesOf (lsub (Go.Blk.strmI (Go.Blk.ks (Go.Blk.cnt 3)) x1 32) 16 (nsub (llen (Go.Blk.strmI (Go.Blk.ks (Go.Blk.cnt 3)) x1 32)) 16))) (bytesOf (lsub (Go.Blk.enc (Go.Blk.ks (Go.Blk.cnt 3)) (lzeros 16)) 0 16))) = false) → (lexam.k5 R x1 fuel m)))) ∧ ((Fits 16 16) ∧ ((((seq2 (bytesOf (lsub (Go.Blk.strmI (Go.Blk.ks (Go.Blk.cnt 3)) x1 32) 16 (nsub (llen (Go.Blk.strmI (Go.Blk.ks (Go.Blk.cnt 3)) x1 32)) 16))) (bytesOf (lsub (Go.Blk.enc (Go.Blk.ks (Go.Blk.cnt 3)) (lzeros 16)) 0 16))) = true) → ((Go.Blk.BL 176 (lzeros 176)) ∧ ((((leq (Go.Blk.rkI (lzeros 176) 5) (lzeros 16)) = true) → ((Go.Blk.BL 16 (Go.Blk.cnt 3)) ∧ ((Go.Blk.BL 176 (Go.Blk.ks (Go.Blk.cnt 3))) ∧ (lexam.k3 R x1 fuel m)))) ∧ (((leq (Go.Blk.rkI (lzeros 176) 5) (lzeros 16)) = false) → (lexam.k4 R x1 fuel m))))) ∧ (((seq2 (bytesOf (lsub (Go.Blk.strmI (Go.Blk.ks (Go.Blk.cnt 3)) x1 32) 16 (nsub (llen (Go.Blk.strmI (Go.Blk.ks (Go.Blk.cnt 3)) x1 32)) 16))) (bytesOf (lsub (Go.Blk.enc (Go.Blk.ks (Go.Blk.cnt 3)) (lzeros 16)) 0 16))) = false) → (lexam.k5 R x1 fuel m))))))) ∧ (((seq2 (bytesOf (lsub (Go.Blk.strmI (Go.Blk.ks (Go.Blk.cnt 3)) x1 32) 0 16)) (bytesOf (lsub (Go.Blk.enc (Go.Blk.ks (Go.Blk.cnt 3)) x1) 0 16))) = false) → ((lexam.k6 R x1 fuel m) ∧ (lexam.k6 R x1 fuel m)))))))) := by kernel_rfl

theorem lexam.k8_eq (R : AV → Mem → Prop) (x1 : List Int) (fuel m : Nat) : lexam.k8 R x1 fuel (m + 5) = ((((Go.Blk.BL 16 (Go.Blk.cnt 3)) ∧ ((((Go.Blk.BL 176 (Go.Blk.ks (Go.Blk.cnt 3))) ∧ (Go.Blk.BL 16 x1)) ∧ (((Go.Blk.BL 16 (Go.Blk.cnt 3)) ∧ ((((Go.Blk.BL 176 (Go.Blk.ks (Go.Blk.cnt 3))) ∧ (Go.Blk.BL 16 (lzeros 16))) ∧ ((lexam.k7 R x1 fuel m) ∧ (lexam.k7 R x1 fuel m))) ∧ (((((Go.Blk.BL 176 (Go.Blk.ks (Go.Blk.cnt 3))) ∧ (Go.Blk.BL 16 (lzeros 16))) ∧ (lexam.k7 R x1 fuel m)) ∧ (((Go.Blk.BL 176 (Go.Blk.ks (Go.Blk.cnt 3))) ∧ (Go.Blk.BL 16 (lzeros 16))) ∧ (lexam.k7 R x1 fuel m))) ∧ ((((Go.Blk.BL 176 (Go.Blk.ks (Go.Blk.cnt 3))) ∧ (Go.Blk.BL 16 (lzeros 16))) ∧ (lexam.k7 R x1 fuel m)) ∧ (((Go.Blk.BL 176 (Go.Blk.ks (Go.Blk.cnt 3))) ∧ (Go.Blk.BL 16 (lzeros 16))) ∧ (lexam.k7 R x1 fuel m)))))) ∧ ((((Go.Blk.BL 16 (Go.Blk.cnt 3)) ∧ ((((Go.Blk.BL 176 (Go.Blk.ks (Go.Blk.cnt 3))) ∧ (Go.Blk.BL 16 (lzeros 16))) ∧ (lexam.k7 R x1 fuel m)) ∧ (((Go.Blk.BL 176 (Go.Blk.ks (Go.Blk.cnt 3))) ∧ (Go.Blk.BL 16 (lzeros 16))) ∧ (lexam.k7 R x1 fuel m)))) ∧ ((Go.Blk.BL 16 (Go.Blk.cnt 3)) ∧ (((Go.Blk.BL 176 (Go.Blk.ks (Go.Blk.cnt 3))) ∧ (Go.Blk.BL 16 (lzeros 16))) ∧ (lexam.k7 R x1 fuel m)))) ∧ (((Go.Blk.BL 16 (Go.Blk.cnt 3)) ∧ ((((Go.Blk.BL 176 (Go.Blk.ks (Go.Blk.cnt 3))) ∧ (Go.Blk.BL 16 (lzeros 16))) ∧ (lexam.k7 R x1 fuel m)) ∧ (((Go.Blk.BL 176 (Go.Blk.ks (Go.Blk.cnt 3))) ∧ (Go.Blk.BL 16 (lzeros 16))) ∧ (lexam.k7 R x1 fuel m)))) ∧ ((Go.Blk.BL 16 (Go.Blk.cnt 3)) ∧ (((Go.Blk.BL 176 (Go.Blk.ks (Go.Blk.cnt 3))) ∧ (Go.Blk.BL 16 (lzeros 16))) ∧ (lexam.k7 R x1 fuel m))))))) ∧ (((((Go.Blk.BL 176 (Go.Blk.ks (Go.Blk.cnt 3))) ∧ (Go.Blk.BL 16 x1)) ∧ (((Go.Blk.BL 16 (Go.Blk.cnt 3)) ∧ ((((Go.Blk.BL 176 (Go.Blk.ks (Go.Blk.cnt 3))) ∧ (Go.Blk.BL 16 (lzeros 16))) ∧ (lexam.k7 R x1 fuel m)) ∧ (((Go.Blk.BL 176 (Go.Blk.ks (Go.Blk.cnt 3))) ∧ (Go.Blk.BL 16 (lzeros 16))) ∧ (lexam.k7 R x1 fuel m)))) ∧ ((Go.Blk.BL 16 (Go.Blk.cnt 3)) ∧ (((Go.Blk.BL 176 (Go.Blk.ks (Go.Blk.cnt 3))) ∧ (Go.Blk.BL 16 (lzeros 16))) ∧ (lexam.k7 R x1 fuel m))))) ∧ (((Go.Blk.BL 176 (Go.Blk.ks (Go.Blk.cnt 3))) ∧ (Go.Blk.BL 16 x1)) ∧ ((Go.Blk.BL 16 (Go.Blk.cnt 3)) ∧ (((Go.Blk.BL 176 (Go.Blk.ks (Go.Blk.cnt 3))) ∧ (Go.Blk.BL 16 (lzeros 16))) ∧ (lexam.k7 R x1 fuel m))))) ∧ ((((Go.Blk.BL 176 (Go.Blk.ks (Go.Blk.cnt 3))) ∧ (Go.Blk.BL 16 x1)) ∧ (((Go.Blk.BL 16 (Go.Blk.cnt 3)) ∧ ((((Go.Blk.BL 176 (Go.Blk.ks (Go.Blk.cnt 3))) ∧ (Go.Blk.BL 16 (lzeros 16))) ∧ (lexam.k7 R x1 fuel m)) ∧ (((Go.Blk.BL 176 (Go.Blk.ks (Go.Blk.cnt 3))) ∧ (Go.Blk.BL 16 (lzeros 16))) ∧ (lexam.k7 R x1 fuel m)))) ∧ ((Go.Blk.BL 16 (Go.Blk.cnt 3)) ∧ (((Go.Blk.BL 176 (Go.Blk.ks (Go.Blk.cnt 3))) ∧ (Go.Blk.BL 16 (lzeros 16))) ∧ (lexam.k7 R x1 fuel m))))) ∧ (((Go.Blk.BL 176 (Go.Blk.ks (Go.Blk.cnt 3))) ∧ (Go.Blk.BL 16 x1)) ∧ ((Go.Blk.BL 16 (Go.Blk.cnt 3)) ∧ (((Go.Blk.BL 176 (Go.Blk.ks (Go.Blk.cnt 3))) ∧ (Go.Blk.BL 16 (lzeros 16))) ∧ (lexam.k7 R x1 fuel m)))))))) ∧ ((((Go.Blk.BL 16 (Go.Blk.cnt 3)) ∧ ((((Go.Blk.BL 176 (Go.Blk.ks (Go.Blk.cnt 3))) ∧ (Go.Blk.BL 16 x1)) ∧ (((Go.Blk.BL 16 (Go.Blk.cnt 3)) ∧ ((((Go.Blk.BL 176 (Go.Blk.ks (Go.Blk.cnt 3))) ∧ (Go.Blk.BL 16 (lzeros 16))) ∧ (lexam.k7 R x1 fuel m)) ∧ (((Go.Blk.BL 176 (Go.Blk.ks (Go.Blk.cnt 3))) ∧ (Go.Blk.BL 16 (lzeros 16))) ∧ (lexam.k7 R x1 fuel m)))) ∧ ((Go.Blk.BL 16 (Go.Blk.cnt 3)) ∧ (((Go.Blk.BL 176 (Go.Blk.ks (Go.Blk.cnt 3))) ∧ (Go.Blk.BL 16 (lzeros 16))) ∧ (lexam.k7 R x1 fuel m))))) ∧ (((Go.Blk.BL 176 (Go.Blk.ks (Go.Blk.cnt 3))) ∧ (Go.Blk.BL 16 x1)) ∧ ((Go.Blk.BL 16 (Go.Blk.cnt 3)) ∧ (((Go.Blk.BL 176 (Go.Blk.ks (Go.Blk.cnt 3))) ∧ (Go.Blk.BL 16 (lzeros 16))) ∧ (lexam.k7 R x1 fuel m)))))) ∧ ((Go.Blk.BL 16 (Go.Blk.cnt 3)) ∧ (((Go.Blk.BL 176 (Go.Blk.ks (Go.Blk.cnt 3))) ∧ (Go.Blk.BL 16 x1)) ∧ ((Go.Blk.BL 16 (Go.Blk.cnt 3)) ∧ (((Go.Blk.BL 176 (Go.Blk.ks (Go.Blk.cnt 3))) ∧ (Go.Blk.BL 16 (lzeros 16))) ∧ (lexam.k7 R x1 fuel m)))))) ∧ (((Go.Blk.BL 16 (Go.Blk.cnt 3)) ∧ ((((Go.Blk.BL 176 (Go.Blk.ks (Go.Blk.cnt 3))) ∧ (Go.Blk.BL 16 x1)) ∧ (((Go.Blk.BL 16 (Go.Blk.cnt 3)) ∧ ((((Go.Blk.BL 176 (Go.Blk.ks (Go.Blk.cnt 3))) ∧ (Go.Blk.BL 16 (lzeros 16))) ∧ (lexam.k7 R x1 fuel m)) ∧ (((Go.Blk.BL 176 (Go.Blk.ks (Go.Blk.cnt 3))) ∧ (Go.Blk.BL 16 (lzeros 16))) ∧ (lexam.k7 R x1 fuel m)))) ∧ ((Go.Blk.BL 16 (Go.Blk.cnt 3)) ∧ (((Go.Blk.BL 176 (Go.Blk.ks (Go.Blk.cnt 3))) ∧ (Go.Blk.BL 16 (lzeros 16))) ∧ (lexam.k7 R x1 fuel m))))) ∧ (((Go.Blk.BL 176 (Go.Blk.ks (Go.Blk.cnt 3))) ∧ (Go.Blk.BL 16 x1)) ∧ ((Go.Blk.BL 16 (Go.Blk.cnt 3)) ∧ (((Go.Blk.BL 176 (Go.Blk.ks (Go.Blk.cnt 3))) ∧ (Go.Blk.BL 16 (lzeros 16))) ∧ (lexam.k7 R x1 fuel m)))))) ∧ ((Go.Blk.BL 16 (Go.Blk.cnt 3)) ∧ (((Go.Blk.BL 176 (Go.Blk.ks (Go.Blk.cnt 3))) ∧ (Go.Blk.BL 16 x1)) ∧ ((Go.Blk.BL 16 (Go.Blk.cnt 3)) ∧ (((Go.Blk.BL 176 (Go.Blk.ks (Go.Blk.cnt 3))) ∧ (Go.Blk.BL 16 (lzeros 16))) ∧ (lexam.k7 R x1 fuel m))))))))) := by kernel_rfl

theorem lexam.k9_eq (R : AV → Mem → Prop) (x0 : Int) (x1 : List Int) (fuel m : Nat) : lexam.k9 R x0 x1 fuel (m + 3) = (((((ine (ofNat (llen (Go.Blk.strmI (Go.Blk.ks (Go.Blk.cnt 3)) x1 (-1 : Int)))) 0) = true) → (lexam.k2 R x1 fuel m)) ∧ (((ine (ofNat (llen (Go.Blk.strmI (Go.Blk.ks (Go.Blk.cnt 3)) x1 (-1 : Int)))) 0) = false) → (lexam.k8 R x1 fuel (m + 2))))) := by kernel_rfl

theorem lexam.k10_eq (R : AV → Mem → Prop) (x0 : Int) (x1 : List Int) (fuel m : Nat) : lexam.k10 R x0 x1 fuel (m + 6) = (((((ine (ofNat (llen (Go.Blk.strmI (Go.Blk.ks (Go.Blk.cnt 3)) x1 32))) 32) = false) → (((Go.Blk.BL 16 (Go.Blk.cnt 3)) ∧ (Go.Blk.BL 16 x1)) ∧ ((((ine (ofNat (llen (Go.Blk.strmI (Go.Blk.ks (Go.Blk.cnt 3)) x1 65536))) 65536) = false) → (((Go.Blk.BL 16 (Go.Blk.cnt 3)) ∧ (Go.Blk.BL 16 x1)) ∧ ((((ine (ofNat (llen (Go.Blk.strmI (Go.Blk.ks (Go.Blk.cnt 3)) x1 65537))) 0) = false) → (((Go.Blk.BL 16 (Go.Blk.cnt 3)) ∧ (Go.Blk.BL 16 x1)) ∧ (lexam.k9 R x0 x1 fuel (m + 3)))) ∧ (((ine (ofNat (llen (Go.Blk.strmI (Go.Blk.ks (Go.Blk.cnt 3)) x1 65537))) 0) = true) → (lexam.k2 R x1 fuel m))))) ∧ (((ine (ofNat (llen (Go.Blk.strmI (Go.Blk.ks (Go.Blk.cnt 3)) x1 65536))) 65536) = true) → (lexam.k2 R x1 fuel m))))) ∧ (((ine (ofNat (llen (Go.Blk.strmI (Go.Blk.ks (Go.Blk.cnt 3)) x1 32))) 32) = true) → (lexam.k2 R x1 fuel m)))) := by kernel_rfl

theorem lexam.k11_eq (R : AV → Mem → Prop) (x0 : Int) (x1 : List Int) (fuel m : Nat) : lexam.k11 R x0 x1 fuel (m + 2) = ((((Go.Blk.BL 16 (Go.Blk.cnt 3)) ∧ (Go.Blk.BL 16 x1)) ∧ (lexam.k10 R x0 x1 fuel m))) := by kernel_rfl

theorem lexam.k12_eq (R : AV → Mem → Prop) (x0 : Int) (x1 : List Int) (fuel m : Nat) : lexam.k12 R x0 x1 fuel (m + 3) = (((Byte 3) ∧ (lexam.k11 R x0 x1 fuel m))) := by kernel_rfl

theorem lexam.k13_eq (R : AV → Mem → Prop) (x0 : Int) (x1 : List Int) (fuel m : Nat) : lexam.k13 R x0 x1 fuel (m + 1) = (((((ilt x0 16) = true) → (lexam.k1 R x0 x1 fuel m)) ∧ (((ilt x0 16) = false) → (lexam.k12 R x0 x1 fuel m)))) := by kernel_rfl

theorem lexam.l0_succ (R : AV → Mem → Prop)  (fuel : Nat) (x0 : Int) (x1 : List Int) : lexam.l0 R  (fuel + 1) x0 x1 = ((lexam.k13 R x0 x1 fuel 3997)) := by kernel_rfl
theorem lexam.l0_zero (R : AV → Mem → Prop)  (x0 : Int) (x1 : List Int) : lexam.l0 R  0 x0 x1 = False := by kernel_rfl

theorem lexam.k14_eq (R : AV → Mem → Prop)  (fuel m : Nat) : lexam.k14 R  fuel (m + 100) = ((lexam.l0 R  fuel 0 (lzeros 16))) := by kernel_rfl

theorem lexam_vc0 (R : AV → Mem → Prop) (fuel m : Nat)  : runM Try.prog gamB9 [⟨777777, [], true, false⟩] (resh Try.prog [⟨777777, [], true, false⟩] Try.f8.results.toList R) (run Try.prog gamB9 [⟨777777, [], true, false⟩] (resh Try.prog [⟨777777, [], true, false⟩] Try.f8.results.toList R) fuel) (m + 12) [.code (bodyOf Try.f8)] (startFr Try.f8.ntmps []) [] = (lexam.k14 R  fuel m) := by kernel_rfl
theorem lexam_vc (R : AV → Mem → Prop) (fuel : Nat)  : callsx Try.prog gamB9 [⟨777777, [], true, false⟩] Try.f8 (fuel + 1) [] [] R = (lexam.k14 R  fuel 3988) := lexam_vc0 R fuel 3988 

end Go.Proofs.Ytkecbjohbihfmaa.G

/- The document's examples of the block cipher. -/
namespace Go.Blk
open Go.Sx Go.Fld
set_option linter.unusedVariables false
set_option linter.unusedSimpArgs false
def high : List Int := tab 16 fun _ => 255
theorem high_bl : BL 16 high := BL.tab fun i _ => ⟨by decide, by decide⟩
theorem rk_first {k : List Int} (hk : BL 16 k) : rk (ks k) 0 = k := by
  have hl : k.length = 16 := hk.1
  unfold rk ks
  rw [tab_lsub _ (by omega : 16 * 0 + 16 ≤ 176)]
  refine (tab_ext (h := fun j => lget k j) fun j hj => ?_).trans (eq_tab hl).symm
  rw [show 16 * 0 + j = j by omega]
  have h4 : j / 4 < 4 := by omega
  unfold kw
  simp only [kws, Nat.lt_irrefl, if_false, if_pos h4]
  congr 1; omega
theorem up_high : upI high 1 = lzeros 16 := by decide +kernel
theorem up_none {b : List Int} (hb : BL 16 b) : upI b 0 = b := upI_ups hb 0
end Go.Blk
namespace Go.Proofs.Ytkecbjohbihfmaa.G
open Go Go.Sx Go.Fld Go.Blk
set_option maxRecDepth 20000
set_option linter.unusedSimpArgs false
set_option linter.unusedVariables false
theorem blockExamples_plain : ∃ f, Has (callsx Try.prog gamB9 [⟨777777, [], true, false⟩] Try.f8 f [] [] Yes) := by
  have hk : BL 16 (cnt 3) := cnt_bl 3
  have hw := ks_bl hk
  have hh := high_bl
  have hz := zeros_bl 16
  have hz' := zeros_bl 176
  have h32 : StrOk (cnt 3) high 32 := ⟨by omega, hk, hh⟩
  have hlen : llen (strmI (ks (cnt 3)) high 32) = 32 := str_len h32
  have hbig : llen (strmI (ks (cnt 3)) high 65536) = 65536 := by
    have e := strmI_eq hw hh (n := 65536) (by omega)
    rw [show ((65536 : Nat) : Int) = 65536 from rfl] at e
    rw [e, tab_llen]
  have hmore : strmI (ks (cnt 3)) high 65537 = [] := by rw [strmI, if_pos (by omega)]
  have hless : strmI (ks (cnt 3)) high (-1) = [] := by rw [strmI, if_pos (by omega)]
  have b0 : lsub (strmI (ks (cnt 3)) high 32) 0 16 = lsub (enc (ks (cnt 3)) high) 0 16 := by
    have := str_block h32 (i := 0) (by omega)
    rw [show ((0 : Nat) : Int) = 0 from rfl, up_none hh] at this
    exact this
  have b1 : lsub (strmI (ks (cnt 3)) high 32) 16 (nsub 32 16) = lsub (enc (ks (cnt 3)) (lzeros 16)) 0 16 := by
    have := str_block h32 (i := 1) (by omega)
    rw [show ((1 : Nat) : Int) = 1 from rfl, up_high] at this
    exact this
  have r5 : leq (rkI (lzeros 176) 5) (lzeros 16) = true := by decide +kernel
  have r0 : leq (rkI (ks (cnt 3)) 0) (cnt 3) = true := by
    rw [rkI, if_neg (by omega), show (0 : Int).toNat = 0 from rfl, rk_first hk, leq_self]
  have n16 : NonNeg 16 := ⟨by decide⟩
  have f16 : Fits 16 16 := ⟨by decide⟩
  have f32 : Fits 16 32 := ⟨by decide⟩
  have y3 : Byte 3 := ⟨by decide, by decide⟩
  have hrun : ∀ F M, lexam.k13 Yes 16 high F (M + 1000) := by
    intro F M
    have k3 : ∀ M, lexam.k3 Yes high F (M + 100) := fun M => by
      rw [lexam.k3_eq]; simp only [r0]; first | exact Or.inl rfl | exact Or.inr rfl
    have k7 : ∀ M, lexam.k7 Yes high F (M + 200) := fun M => by
      rw [lexam.k7_eq Yes high F (M + 198)]
      simp only [hlen, b0, b1, seq2_self rfl, r5, n16, f16, f32, hz', hk, hw, k3, Bool.true_eq_false, false_implies, forall_const, true_and, and_true]
    have k8 : ∀ M, lexam.k8 Yes high F (M + 300) := fun M => by
      rw [lexam.k8_eq Yes high F (M + 295)]
      simp only [hk, hw, hh, hz, k7, true_and, and_true]
    have k9 : ∀ x M, lexam.k9 Yes x high F (M + 400) := fun x M => by
      rw [lexam.k9_eq Yes x high F (M + 397)]
      rw [hless]
      exact ⟨fun q => absurd q (by decide), fun _ => k8 (M + 99)⟩
    have i1 : ine (ofNat 32) 32 = false := by decide
    have i2 : ine (ofNat 65536) 65536 = false := by decide
    have i3 : ine (ofNat (llen ([] : List Int))) 0 = false := by decide
    have k10 : ∀ x M, lexam.k10 Yes x high F (M + 500) := fun x M => by
      rw [lexam.k10_eq Yes x high F (M + 494)]
      simp only [hlen, hbig, hmore, i1, i2, i3, hk, hh, Bool.true_eq_false, Bool.false_eq_true, false_implies, forall_const, true_and, and_true]
      exact k9 x (M + 97)
    have k12 : ∀ x M, lexam.k12 Yes x high F (M + 600) := fun x M => by
      rw [lexam.k12_eq Yes x high F (M + 597), lexam.k11_eq Yes x high F (M + 595)]
      exact ⟨y3, ⟨hk, hh⟩, k10 x (M + 95)⟩
    rw [lexam.k13_eq Yes 16 high F (M + 999)]
    exact ⟨fun q => absurd q (by decide), fun _ => k12 16 (M + 399)⟩
  refine ⟨(1 + 1 * 16) + 1, ⟨?_⟩⟩
  rw [lexam_vc, lexam.k14_eq]
  have key := loop_n (fun f i x => lexam.l0 Yes f i x) 16 (fun i => upto 16 i (fun i => (255 : Int)) fun _ => 0) 1 1
    (fun f i hi hf => by
      rw [lexam.l0_succ, lexam.k13_eq Yes _ _ f 3996]
      refine ⟨fun _ => ?_, fun q => ?_⟩
      · rw [lexam.k1_eq Yes _ _ f 3990, lexam.k0_eq]
        simp only [nat_cast, nadd_def, Nat.zero_add, InB_iff, Low_iff]
        rw [upto_lset rfl, add1_i64 (by omega)]
        exact ⟨by omega, hi, hf⟩
      · rw [ilt_false] at q; omega)
    (by
      rw [lexam.l0_succ, upto_done]
      exact hrun _ 2997) 0 (Nat.zero_le _)
  rw [upto_zero, ← lzeros_tab] at key
  exact key
end Go.Proofs.Ytkecbjohbihfmaa.G

/- Arguments that came in: lists of records, arrays and lists, structs. -/
namespace Go.Sx
open Go Go.ChangeShapes Go.WideShapes Go.ChangeAt Go.RowKit
set_option linter.unusedSimpArgs false
set_option linter.unusedVariables false

/-- the kinds of a record's fields, their places and sizes looked at -/
def fieldsO (P : Program) (f : TypeId → Option (List Kd)) : List Field → Nat → Option (List Kd)
  | [], o => some []
  | fd :: r, o => match f fd.type, fieldsO P f r (o + P.cellsOf fd.type) with
    | some k1, some k2 => if fd.offset = o ∧ P.cellsOf fd.type = width k1 then some (k1 ++ k2) else none
    | _, _ => none
def kindsO (P : Program) : Nat → TypeId → Option (List Kd)
  | 0, _ => none
  | d + 1, t => match P.underlying t with
    | some (.int k) => if P.cellsOf t = 1 then some [.ints k] else none
    | some .bool => if P.cellsOf t = 1 then some [.bools] else none
    | some (.slice e) => match P.underlying e with
      | some (.int k) => if P.cellsOf e = 1 ∧ P.cellsOf t = 1 ∧ 1 ≤ P.bytesOf e then some [.rows k] else none
      | _ => none
    | some (.array m e) => match P.underlying e with
      | some (.int k) => if P.cellsOf e = 1 ∧ P.cellsOf t = m then some [.arrs k m] else none
      | _ => none
    | some (.struct fs) => match fieldsO P (kindsO P d) fs.toList 0 with
      | some ks => if P.cellsOf t = width ks then some ks else none
      | none => none
    | _ => none

def KdAt (w : World) (k : Kd) (cs : List Value) (o : Nat) : Prop :=
  match k with
  | .ints q => ∃ n, cs[o]? = some (.int q n) ∧ (Lit.int q n).wf = true
  | .bools => ∃ b, cs[o]? = some (.bool b)
  | .arrs q m => ∃ l : List Int, l.length = m ∧ (∀ (j : Nat) x, l[j]? = some x → cs[o + j]? = some (.int q x)) ∧ ∀ x ∈ l, (Lit.int q x).wf = true
  | .rows q => ∃ A L C Z, cs[o]? = some (.slice A L C) ∧ IsRow q w A L C Z ∧ Z.length ≤ reachBytes

def KdsAt (w : World) : List Kd → List Value → Nat → Prop
  | [], _, _ => True
  | k :: r, cs, o => KdAt w k cs o ∧ KdsAt w r cs (o + k.width)

theorem width_append : ∀ (a b : List Kd), width (a ++ b) = width a + width b
  | [], b => by simp [width]
  | k :: a, b => by simp [width, width_append a b, Nat.add_assoc]

theorem KdsAt.append {w : World} {cs : List Value} : ∀ {a b : List Kd} {o : Nat}, KdsAt w a cs o → KdsAt w b cs (o + width a) → KdsAt w (a ++ b) cs o
  | [], b, o, _, h => by simpa [width] using h
  | k :: a, b, o, h, g => ⟨h.1, KdsAt.append h.2 (by simpa [width, Nat.add_assoc] using g)⟩

theorem KdAt.shift {w : World} {cs : List Value} {o z : Nat} {k : Kd} {p : Nat} (hp : p + k.width ≤ z) (h : KdAt w k ((cs.drop o).take z) p) : KdAt w k cs (o + p) := by
  have get : ∀ i, i < z → ((cs.drop o).take z)[i]? = cs[o + i]? := fun i hi => by rw [List.getElem?_take, if_pos hi, List.getElem?_drop]
  cases k with
  | ints q =>
    obtain ⟨n, h1, h2⟩ := h
    exact ⟨n, by rw [← get p (by simp [Kd.width] at hp; omega)]; exact h1, h2⟩
  | bools =>
    obtain ⟨b, h1⟩ := h
    exact ⟨b, by rw [← get p (by simp [Kd.width] at hp; omega)]; exact h1⟩
  | arrs q m =>
    obtain ⟨l, h1, h2, h3⟩ := h
    refine ⟨l, h1, fun j x hj => ?_, h3⟩
    have : j < m := by rw [← h1]; exact (List.getElem?_eq_some_iff.1 hj).1
    rw [Nat.add_assoc, ← get (p + j) (by simp [Kd.width] at hp; omega)]
    exact h2 j x hj
  | rows q =>
    obtain ⟨A, L, C, Z, h1, h2⟩ := h
    exact ⟨A, L, C, Z, by rw [← get p (by simp [Kd.width] at hp; omega)]; exact h1, h2⟩

theorem KdsAt.shift {w : World} {cs : List Value} {o z : Nat} : ∀ {ks : List Kd} {p : Nat}, p + width ks ≤ z → KdsAt w ks ((cs.drop o).take z) p → KdsAt w ks cs (o + p)
  | [], _, _, _ => trivial
  | k :: r, p, hp, h => ⟨h.1.shift (by simp [width] at hp; omega), by have := KdsAt.shift (ks := r) (p := p + k.width) (by simp [width] at hp; omega) h.2; rwa [← Nat.add_assoc] at this⟩

section
variable {H : Type} {enc : TypeId × Value → H} {P : Program} {w : World} {base : Nat} {held : Bool}

theorem weightsAll_mem {e : TypeId} : ∀ {ds : List (DataW H)} {i : Nat} {d : DataW H}, ds[i]? = some d → ∀ n ∈ d.weights P e, n ∈ DataW.weightsAll P e ds
  | d0 :: ds, 0, d, h, n, hn => by
    simp only [List.getElem?_cons_zero, Option.some.injEq] at h
    subst h
    simp only [DataW.weightsAll, List.mem_append]; exact Or.inl hn
  | d0 :: ds, i + 1, d, h, n, hn => by
    simp only [List.getElem?_cons_succ] at h
    simp only [DataW.weightsAll, List.mem_append]; exact Or.inr (weightsAll_mem h n hn)
  | [], _, _, h, _, _ => by simp at h

/-- a slice of numbers -/
theorem row_of_trod {t e : TypeId} {k : IntKind} {fuel : Nat} {cs : List Value} {x : DataW H × List MemPlace} (ht : P.underlying t = some (.slice e)) (he : P.underlying e = some (.int k)) (hc : P.cellsOf e = 1) (hb : 1 ≤ P.bytesOf e)
    (h : DataW.trod enc P w base (fun _ => true) held fuel t cs = some x) (hz : ∀ n ∈ x.1.weights P t, n ≤ reachBytes) : ∃ A L C Z, cs = [.slice A L C] ∧ IsRow k w A L C Z ∧ Z.length ≤ reachBytes := by
  rcases open_ints ht he hc h with ⟨rfl, rfl⟩ | ⟨a, len, cap, zs, rfl, _, hl, hm, hlen, rfl, hcell, hw⟩
  · exact ⟨none, 0, 0, [], rfl, .inl ⟨rfl, rfl, rfl, rfl⟩, Nat.zero_le _⟩
  · refine ⟨some a, len, cap, zs, rfl, .inr ⟨a, rfl, hl, hm, by simpa using hlen, hcell, hw⟩, ?_⟩
    have := hz (((lits (H := H) k (zs.take len)).length + (lits (H := H) k (zs.drop len)).length) * P.bytesOf e) (by simp [DataW.weights, ht])
    simp only [lits, List.length_map, List.length_take, List.length_drop] at this
    have e1 : min len zs.length + (zs.length - len) = zs.length := by omega
    rw [e1] at this
    exact Nat.le_trans (Nat.le_mul_of_pos_right _ hb) this

theorem kinds_of_trod : ∀ (d : Nat) {t : TypeId} {ks : List Kd} {fuel : Nat} {cs : List Value} {x : DataW H × List MemPlace}, kindsO P d t = some ks → DataW.trod enc P w base (fun _ => true) held fuel t cs = some x → (∀ n ∈ x.1.weights P t, n ≤ reachBytes) →
    cs.length = width ks ∧ KdsAt w ks cs 0
  | 0, _, _, _, _, _, h, _, _ => by simp [kindsO] at h
  | d + 1, t, ks, fuel, cs, x, h, htr, hz => by
    unfold kindsO at h
    split at h
    · rename_i k hu
      split at h
      · cases h
        obtain ⟨n, rfl, rfl, hw⟩ := DataW.trod_int hu htr
        exact ⟨rfl, ⟨n, rfl, hw⟩, trivial⟩
      · cases h
    · rename_i hu
      split at h
      · cases h
        obtain ⟨b, rfl, rfl⟩ := DataW.trod_bool hu htr
        exact ⟨rfl, ⟨b, rfl⟩, trivial⟩
      · cases h
    · rename_i e hu
      split at h
      · rename_i k he
        split at h
        · rename_i hc
          cases h
          obtain ⟨A, L, C, Z, rfl, hr, hl⟩ := row_of_trod hu he hc.1 hc.2.2 htr hz
          exact ⟨rfl, ⟨A, L, C, Z, rfl, hr, hl⟩, trivial⟩
        · cases h
      · cases h
    · rename_i m e hu
      split at h
      · rename_i k he
        split at h
        · rename_i hc
          cases h
          obtain ⟨xs, n, _, _, hcl, hxl, hx⟩ := DataW.trod_array hu htr
          rw [hc.2] at hcl
          have each : ∀ i, i < m → ∃ n, cs[i]? = some (.int k n) ∧ (Lit.int k n).wf = true := by
            intro i hi
            have h1 := hx i hi
            rw [hc.1, Nat.mul_one] at h1
            have h2 : xs[i]? = some (xs[i]'(by omega)) := List.getElem?_eq_getElem (by omega)
            rw [h2] at h1
            obtain ⟨n, e1, _, hw⟩ := DataW.trod_int he h1
            have hlt : i < cs.length := by omega
            rw [List.drop_eq_getElem_cons hlt] at e1
            simp only [List.take_succ_cons, List.take_zero, List.cons.injEq, and_true] at e1
            exact ⟨n, by rw [List.getElem?_eq_getElem hlt, e1], hw⟩
          refine ⟨by simp [width, Kd.width, hcl], ⟨cs.map fun v => match v with | .int _ n => n | _ => 0, by simp [hcl], fun j y hj => ?_, fun y hy => ?_⟩, trivial⟩
          · simp only [List.getElem?_map, Option.map_eq_some_iff] at hj
            obtain ⟨v, hv, rfl⟩ := hj
            have hlt : j < cs.length := (List.getElem?_eq_some_iff.1 hv).1
            obtain ⟨n, e1, _⟩ := each j (by omega)
            rw [e1] at hv; cases hv
            rw [Nat.zero_add, e1]
          · obtain ⟨v, hv, rfl⟩ := List.mem_map.1 hy
            obtain ⟨j, hj⟩ := List.getElem?_of_mem hv
            have hlt : j < cs.length := (List.getElem?_eq_some_iff.1 hj).1
            obtain ⟨n, e1, hw⟩ := each j (by omega)
            rw [e1] at hj; cases hj
            exact hw
        · cases h
      · cases h
    · rename_i fs hu
      split at h
      · rename_i ks' hks
        split at h
        · rename_i hc
          cases h
          obtain ⟨xs, n, _, rfl, hcl, hxl, hx⟩ := DataW.trod_struct hu htr
          refine ⟨by rw [hcl, hc], ?_⟩
          have wt : ∀ (i : Nat) f y, fs[i]? = some f → xs[i]? = some y → ∀ n ∈ y.1.weights P f.type, n ≤ reachBytes := by
            intro i f y hf hy n hn
            refine hz n ?_
            simp only [DataW.weights, hu]
            exact DataW.weights_mem_each (j := i) (t := f.type) (d := y.1) (by simp [List.getElem?_map]; exact ⟨f, by simpa using hf, rfl⟩) (by simp [List.getElem?_map, hy]) n hn
          have all : ∀ (fl : List Field) (o i : Nat) (ks : List Kd), fieldsO P (kindsO P d) fl o = some ks → (∀ j f, fl[j]? = some f → fs[i + j]? = some f) → KdsAt w ks cs o := by
            intro fl
            induction fl with
            | nil => intro o i ks h _; simp only [fieldsO, Option.some.injEq] at h; subst h; trivial
            | cons fd r ih =>
              intro o i ks h hf
              simp only [fieldsO] at h
              split at h
              · rename_i k1 k2 h1 h2
                split at h
                · rename_i hq
                  cases h
                  obtain ⟨ho, hcw⟩ := hq
                  have hfi : fs[i]? = some fd := by simpa using hf 0 fd rfl
                  have hxi := hx i fd hfi
                  have hlt : i < xs.length := by rw [hxl]; exact (Array.getElem?_eq_some_iff.1 hfi).1
                  have h3 : xs[i]? = some xs[i] := List.getElem?_eq_getElem hlt
                  rw [h3] at hxi
                  obtain ⟨_, g2⟩ := kinds_of_trod d h1 hxi (wt i fd _ hfi h3)
                  rw [ho, hcw] at g2
                  refine KdsAt.append (by have := KdsAt.shift (p := 0) (by omega) g2; simpa using this) ?_
                  rw [← hcw]
                  exact ih (o + P.cellsOf fd.type) (i + 1) k2 h2 fun j f hj => by have := hf (j + 1) f (by simpa using hj); rwa [show i + 1 + j = i + (j + 1) by omega]
                · cases h
              · cases h
          exact all fs.toList 0 0 ks hks fun j f hj => by rw [Nat.zero_add]; simpa using hj
        · cases h
      · cases h
    · cases h
end

/-! ### columns out of records -/
def Col.wf : Col → Prop
  | .ints k l => ∀ x ∈ l, (Lit.int k x).wf = true
  | .bools _ => True
  | .arrs k _ ll => ∀ l ∈ ll, ∀ x ∈ l, (Lit.int k x).wf = true
  | .rows k ll => ∀ l ∈ ll, l.length ≤ reachBytes ∧ ∀ x ∈ l, (Lit.int k x).wf = true

theorem choose_range {α : Type} [Inhabited α] {n : Nat} {p : Nat → α → Prop} (h : ∀ i, i < n → ∃ a, p i a) : ∃ f : Nat → α, ∀ i, i < n → p i (f i) := by
  refine ⟨fun i => if hi : i < n then Classical.choose (h i hi) else default, fun i hi => ?_⟩
  simp only [dif_pos hi]
  exact Classical.choose_spec (h i hi)

theorem range_get {α : Type} {n i : Nat} (f : Nat → α) : ((List.range n).map f)[i]? = if i < n then some (f i) else none := by
  by_cases h : i < n
  · simp [h]
  · simp [h]

theorem build_cols {w : World} {len : Nat} {CS : Nat → List Value} : ∀ (ks : List Kd) (o : Nat), (∀ r, r < len → KdsAt w ks (CS r) o) →
    ∃ (cs : List Col) (E : Nat → Nat → Elt), kdsOf cs = ks ∧ (∀ col ∈ cs, col.ok len ∧ col.wf) ∧ (∀ (L : Loc) (c0 : Nat), (∀ c r, L.el (c0 + c) r = E c r) → ∀ r, r < len → ∀ t, t < width ks → (CS r)[o + t]? = some (rowVal L cs c0 r t)) ∧
      ∀ c k ll, cs[c]? = some (.rows k ll) → ∀ i l, ll[i]? = some l → EltRep w (E c i) k l
  | [], o, _ => ⟨[], fun _ _ => ⟨none, 0, 0⟩, rfl, by simp, fun _ _ _ _ _ t ht => by simp [width] at ht, fun c k ll h => by simp at h⟩
  | k :: ks, o, h => by
    obtain ⟨cs, E, g1, g2, g3, g4⟩ := build_cols ks (o + k.width) fun r hr => (h r hr).2
    -- the first column
    have first : ∃ (col : Col) (e : Nat → Elt), col.kd = k ∧ (col.ok len ∧ col.wf) ∧ (∀ (L : Loc) (c0 : Nat), (∀ r, L.el c0 r = e r) → ∀ r, r < len → ∀ t, t < k.width → (CS r)[o + t]? = some (colVal L c0 col r t)) ∧
        ∀ q ll, col = .rows q ll → ∀ i l, ll[i]? = some l → EltRep w (e i) q l := by
      cases k with
      | ints q =>
        obtain ⟨f, hf⟩ := choose_range fun r hr => (h r hr).1
        refine ⟨.ints q ((List.range len).map f), fun _ => ⟨none, 0, 0⟩, rfl, ⟨by simp [Col.ok], fun x hx => ?_⟩, fun L c0 _ r hr t ht => ?_, fun q ll h => by cases h⟩
        · obtain ⟨r, hr, rfl⟩ := List.mem_map.1 hx
          exact (hf r (by simpa using hr)).2
        · obtain rfl : t = 0 := by simp [Kd.width] at ht; exact ht
          rw [Nat.add_zero, (hf r hr).1]
          simp only [colVal, lget, List.getD, range_get, if_pos hr, Option.getD_some]
      | bools =>
        obtain ⟨f, hf⟩ := choose_range fun r hr => (h r hr).1
        refine ⟨.bools ((List.range len).map f), fun _ => ⟨none, 0, 0⟩, rfl, ⟨by simp [Col.ok], trivial⟩, fun L c0 _ r hr t ht => ?_, fun q ll h => by cases h⟩
        obtain rfl : t = 0 := by simp [Kd.width] at ht; exact ht
        rw [Nat.add_zero, hf r hr]
        simp only [colVal, lgetb, List.getD, range_get, if_pos hr, Option.getD_some]
      | arrs q m =>
        obtain ⟨f, hf⟩ := choose_range fun r hr => (h r hr).1
        refine ⟨.arrs q m ((List.range len).map f), fun _ => ⟨none, 0, 0⟩, rfl, ⟨⟨by simp, fun x hx => ?_⟩, fun l hl x hx => ?_⟩, fun L c0 _ r hr t ht => ?_, fun q ll h => by cases h⟩
        · obtain ⟨r, hr, rfl⟩ := List.mem_map.1 hx
          exact (hf r (by simpa using hr)).1
        · obtain ⟨r, hr, rfl⟩ := List.mem_map.1 hl
          exact (hf r (by simpa using hr)).2.2 x hx
        · obtain ⟨f1, f2, f3⟩ := hf r hr
          have ht' : t < (f r).length := by rw [f1]; simpa [Kd.width] using ht
          rw [f2 t _ (List.getElem?_eq_getElem ht')]
          simp only [colVal, llget, lget, List.getD, range_get, if_pos hr, Option.getD_some, List.getElem?_eq_getElem ht']
      | rows q =>
        obtain ⟨f, hf⟩ := choose_range (α := Option Addr × Nat × Nat × List Int) (n := len) (p := fun r y => (CS r)[o]? = some (.slice y.1 y.2.1 y.2.2.1) ∧ IsRow q w y.1 y.2.1 y.2.2.1 y.2.2.2 ∧ y.2.2.2.length ≤ reachBytes) fun r hr => by
          obtain ⟨A, L, C, Z, hh⟩ := (h r hr).1
          exact ⟨(A, L, C, Z), hh⟩
        refine ⟨.rows q ((List.range len).map fun r => (f r).2.2.2.take (f r).2.1), fun r => ⟨(f r).1, (f r).2.1, (f r).2.2.1⟩, rfl, ⟨by simp [Col.ok], fun l hl => ?_⟩, fun L c0 hL r hr t ht => ?_, fun q' ll h i l hi => ?_⟩
        · obtain ⟨r, hr, rfl⟩ := List.mem_map.1 hl
          obtain ⟨f1, f2, f3⟩ := hf r (by simpa using hr)
          refine ⟨Nat.le_trans (by simp; omega) f3, fun x hx => ?_⟩
          rcases f2 with ⟨_, _, _, e⟩ | ⟨a, _, _, _, _, _, hw⟩
          · rw [e] at hx; simp at hx
          · exact hw x (List.mem_of_mem_take hx)
        · obtain rfl : t = 0 := by simp [Kd.width] at ht; exact ht
          rw [Nat.add_zero, (hf r hr).1]
          simp only [colVal, hL]
        · cases h
          rw [range_get] at hi
          split at hi
          · rename_i hr
            cases hi
            obtain ⟨f1, f2, f3⟩ := hf i hr
            rcases f2 with ⟨e1, e2, e3, e4⟩ | ⟨a, e1, hl, hm, hz, hcell, hw⟩
            · refine ⟨by simp [e2, e4], by simp [e2, e3], fun q => by simp [e4] at q, fun j x hx => by simp [e4] at hx⟩
            · refine ⟨by simp; omega, hl, fun _ => ⟨a, e1⟩, fun j x hx a' ha' => ?_⟩
              simp only [e1, Option.some.injEq] at ha'
              subst ha'
              have hlt : j < (f i).2.1 := by have := (List.getElem?_eq_some_iff.1 hx).1; simp at this; omega
              rw [List.getElem?_take_of_lt hlt] at hx
              rw [hcell j (by have := (List.getElem?_eq_some_iff.1 hx).1; omega)]
              simp [List.getD, hx]
          · cases hi
    obtain ⟨col, e, c1, c2, c3, c4⟩ := first
    refine ⟨col :: cs, fun c r => match c with | 0 => e r | c + 1 => E c r, by simp [kdsOf, c1] at g1 ⊢; exact g1, ?_, fun L c0 hL r hr t ht => ?_, fun c q ll hc i l hi => ?_⟩
    · intro x hx
      rcases List.mem_cons.1 hx with rfl | hx
      · exact c2
      · exact g2 x hx
    · simp only [rowVal, c1]
      split
      · rename_i hlt
        exact c3 L c0 (fun r => by have := hL 0 r; simpa using this) r hr t hlt
      · rename_i hge
        have := g3 L (c0 + 1) (fun c r => by have := hL (c + 1) r; rw [show c0 + 1 + c = c0 + (c + 1) by omega]; exact this) r hr (t - k.width) (by simp [width] at ht; omega)
        rw [show o + k.width + (t - k.width) = o + t by omega] at this
        exact this
    · cases c with
      | zero => simp at hc; exact c4 q ll hc i l hi
      | succ c => exact g4 c q ll (by simpa using hc) i l hi

section
variable {H : Type} {enc : TypeId × Value → H} {P : Program} {w : World}

/-- a slice of records that came in, with its size -/
theorem open_recs {t e : TypeId} {ks : List Kd} {d : DataW H} {ps : List MemPlace} (ht : P.underlying t = some (.slice e)) (hk : kindsO P 8 e = some ks) (hp : 0 < width ks) (hc : P.cellsOf e = width ks) {A : Option Addr} {len cap : Nat}
    (h : DataW.Trod enc P w 0 (fun _ => true) true t (.slice A len cap) d ps) {ts : List TypeId} {ds : List (DataW H)} (hsz : (DataW.weightsEach P ts ds).all (· ≤ reachBytes) = true) {j : Nat} (htj : ts[j]? = some t) (hdj : ds[j]? = some d) :
    ∃ (L : Loc) (cs : List Col), VRep w L cs ∧ Value.slice A len cap = .slice L.a L.len L.cap ∧ kdsOf cs = ks ∧ (∀ col ∈ cs, col.wf) ∧ L.len * P.bytesOf e ≤ reachBytes := by
  obtain ⟨fuel, hf⟩ := h
  have hall : ∀ n ∈ d.weights P t, n ≤ reachBytes := fun n hn => by
    have := List.all_eq_true.1 hsz n (DataW.weights_mem_each htj hdj n hn)
    simpa using this
  rcases Go.Deep.open_slice ht hf with ⟨hcs, _⟩ | ⟨a, len', cap', m, n, D, Pl, hcs, _, hl, hm, hmm, hx, hi⟩
  · simp [Value.cells] at hcs
    obtain ⟨rfl, rfl, rfl⟩ := hcs
    have hz := nil_rep (w := w) hp
    refine ⟨loc0, ks.map Kd.nil, hz.1, rfl, nil_kds ks, fun col hcol => ?_, by simp [loc0]⟩
    obtain ⟨k, _, rfl⟩ := List.mem_map.1 hcol
    cases k <;> simp [Kd.nil, Col.wf]
  · simp [Value.cells] at hcs
    obtain ⟨rfl, rfl, rfl⟩ := hcs
    simp only [if_true] at hmm
    subst hmm
    simp only [Prod.mk.injEq] at hx
    obtain ⟨rfl, _⟩ := hx
    have each : ∀ r, r < m → ∃ cs', (∀ t, t < width ks → w.cell? (a.add (r * width ks + t)) = cs'[t]?) ∧ KdsAt w ks cs' 0 := by
      intro r hr
      obtain ⟨cs', h1, h2⟩ := hi r hr
      obtain ⟨_, g1, g2⟩ := World.cells?_some h1
      have hwt : ∀ n ∈ (D r).weights P e, n ≤ reachBytes := fun n hn => hall n (by
        simp only [DataW.weights, ht]
        refine List.mem_cons_of_mem _ (List.mem_append.2 ?_)
        by_cases hq : r < len
        · exact Or.inl (weightsAll_mem (i := r) (d := D r) (by rw [range_get, if_pos hq]) n hn)
        · exact Or.inr (weightsAll_mem (i := r - len) (d := D r) (by rw [range_get, if_pos (by omega), show len + (r - len) = r by omega]) n hn))
      obtain ⟨g3, g4⟩ := kinds_of_trod 8 hk h2 hwt
      refine ⟨cs', fun t ht => ?_, g4⟩
      rw [← g2 t (by rw [hc]; exact ht), hc, addr_add_add]
    obtain ⟨CS, hCS⟩ := choose_range each
    obtain ⟨cs, E, b1, b2, b3, b4⟩ := build_cols (len := len) (CS := CS) ks 0 fun r hr => (hCS r (by omega)).2
    have hcell : ∀ i, i < len → ∀ t, t < width ks → ∀ L : Loc, (∀ c r, L.el c r = E c r) → w.cell? (a.add (i * width ks + t)) = some (rowVal L cs 0 i t) := fun i hi t ht L hL => by
      rw [(hCS i (by omega)).1 t ht]
      have := b3 L 0 (fun c r => by rw [Nat.zero_add]; exact hL c r) i hi t ht
      rwa [Nat.zero_add] at this
    have hsp : 0 < len → a.spot = none := fun hp' => by
      have h0 := hcell 0 hp' 0 hp ⟨0, 0, none, 0, 0, E⟩ (fun _ _ => rfl)
      simp only [Nat.zero_mul, Nat.add_zero] at h0
      have : a.add 0 = a := by simp [Addr.add]
      rw [this] at h0
      exact spot_none h0
    refine ⟨⟨a.block, a.off, some a, len, m, E⟩, cs, ?_, rfl, b1, fun col hcol => (b2 col hcol).2, ?_⟩
    · refine ⟨fun q => by subst q; simp [kdsOf] at b1; subst b1; simp [width] at hp, by simpa [cwidth, b1] using hp, fun col hcol => (b2 col hcol).1, hl, fun q => ?_, fun i hi t ht => ?_, fun c k ll hc i l hi => b4 c k ll hc i l hi⟩
      · have := hsp (Nat.pos_of_ne_zero q)
        cases a
        simp only at this; subst this; rfl
      · have hw' : cwidth cs = width ks := by simp [cwidth, b1]
        rw [hw'] at ht ⊢
        have := hsp (by simp only at hi; omega)
        have e : (Loc.at ⟨a.block, a.off, some a, len, m, E⟩ (i * width ks + t)) = a.add (i * width ks + t) := by
          cases a; simp only at this; subst this; simp [Loc.at, Addr.add]
        rw [e]
        exact hcell i hi t ht _ (fun _ _ => rfl)
    · have := hall ((((List.range len).map D).length + ((List.range (m - len)).map fun j => D (len + j)).length) * P.bytesOf e) (by simp [DataW.weights, ht])
      simp only [List.length_map, List.length_range] at this
      exact Nat.le_trans (Nat.mul_le_mul_right _ (by show len ≤ _; omega)) this

/-- a list of records as an argument of a law -/
theorem LawArgs.recs {j : Nat} {A : Option Addr} {len cap : Nat} {L : Loc} {cs : List Col} {xs : List AV} {vs : List Value} {τ : Mem} (hV : VRep w L cs) (hv : Value.slice A len cap = .slice L.a L.len L.cap) (t : LawArgs w (j + 1) xs vs τ) (hj : j < 1000 := by decide) :
    LawArgs w j (.one (.vec (200000 + j)) :: xs) (.slice A len cap :: vs) ((200000 + j, .rview cs) :: τ) := .row L cs hj hV hv t

theorem cols_one {cs : List Col} {k : Kd} (h : kdsOf cs = [k]) : ∃ c, cs = [c] ∧ c.kd = k := by
  match cs, h with
  | [c], h => exact ⟨c, rfl, by simpa [kdsOf] using h⟩
theorem kd_ints {c : Col} {k : IntKind} (h : c.kd = .ints k) : ∃ l, c = .ints k l := by cases c <;> simp [Col.kd] at h; subst h; exact ⟨_, rfl⟩
theorem kd_bools {c : Col} (h : c.kd = .bools) : ∃ l, c = .bools l := by cases c <;> simp [Col.kd] at h; exact ⟨_, rfl⟩
theorem kd_arrs {c : Col} {k : IntKind} {m : Nat} (h : c.kd = .arrs k m) : ∃ l, c = .arrs k m l := by cases c <;> simp [Col.kd] at h; obtain ⟨rfl, rfl⟩ := h; exact ⟨_, rfl⟩
theorem kd_rows {c : Col} {k : IntKind} (h : c.kd = .rows k) : ∃ l, c = .rows k l := by cases c <;> simp [Col.kd] at h; subst h; exact ⟨_, rfl⟩
theorem wf_u8 {n : Int} (h : (Lit.int .u8 n).wf = true) : 0 ≤ n ∧ n < 256 := by
  obtain ⟨h1, h2⟩ := bounds_u8 h; exact ⟨h1, by omega⟩

/-! ### a struct that came in, field by field -/
theorem KdsAt.rows {q : IntKind} {r : List Kd} {cs : List Value} {o : Nat} (h : KdsAt w (.rows q :: r) cs o) : ∃ A L C Z, IsRow q w A L C Z ∧ Z.length ≤ reachBytes ∧ cs.drop o = .slice A L C :: cs.drop (o + 1) ∧ KdsAt w r cs (o + 1) := by
  obtain ⟨⟨A, L, C, Z, h1, h2, h3⟩, h4⟩ := h
  have hlt := (List.getElem?_eq_some_iff.1 h1)
  obtain ⟨hl, he⟩ := hlt
  exact ⟨A, L, C, Z, h2, h3, by rw [List.drop_eq_getElem_cons hl, he], h4⟩
theorem KdsAt.ints {q : IntKind} {r : List Kd} {cs : List Value} {o : Nat} (h : KdsAt w (.ints q :: r) cs o) : ∃ n, (Lit.int q n).wf = true ∧ cs.drop o = .int q n :: cs.drop (o + 1) ∧ KdsAt w r cs (o + 1) := by
  obtain ⟨⟨n, h1, h2⟩, h4⟩ := h
  obtain ⟨hl, he⟩ := (List.getElem?_eq_some_iff.1 h1)
  exact ⟨n, h2, by rw [List.drop_eq_getElem_cons hl, he], h4⟩
theorem KdsAt.bools {r : List Kd} {cs : List Value} {o : Nat} (h : KdsAt w (.bools :: r) cs o) : ∃ b, cs.drop o = .bool b :: cs.drop (o + 1) ∧ KdsAt w r cs (o + 1) := by
  obtain ⟨⟨b, h1⟩, h4⟩ := h
  obtain ⟨hl, he⟩ := (List.getElem?_eq_some_iff.1 h1)
  exact ⟨b, by rw [List.drop_eq_getElem_cons hl, he], h4⟩
theorem KdsAt.arrs {q : IntKind} {m : Nat} {r : List Kd} {cs : List Value} {o : Nat} (h : KdsAt w (.arrs q m :: r) cs o) (hl : o + m ≤ cs.length) : ∃ l : List Int, l.length = m ∧ (∀ x ∈ l, (Lit.int q x).wf = true) ∧ cs.drop o = l.map (Value.int q) ++ cs.drop (o + m) ∧ KdsAt w r cs (o + m) := by
  obtain ⟨⟨l, h1, h2, h3⟩, h4⟩ := h
  refine ⟨l, h1, h3, ?_, h4⟩
  conv => lhs; rw [← List.take_append_drop m (cs.drop o), List.drop_drop]
  congr 1
  refine List.ext_getElem? fun j => ?_
  rw [List.getElem?_take]
  by_cases hj : j < m
  · rw [if_pos hj, List.getElem?_drop]
    have : l[j]? = some (l[j]'(by omega)) := List.getElem?_eq_getElem (by omega)
    rw [h2 j _ this]
    simp [this]
  · rw [if_neg hj, List.getElem?_eq_none (by simp; omega)]

theorem open_struct {t : TypeId} {fs : Array Field} {ks : List Kd} {v : Value} {d : DataW H} {ps : List MemPlace} {r : Reach} {b0 : Nat} (ht : P.underlying t = some (.struct fs)) (hk : kindsO P 8 t = some ks) (hv : Value.okWide P w r b0 t v)
    (h : DataW.Trod enc P w 0 (fun _ => true) true t v d ps) {ts : List TypeId} {ds : List (DataW H)} (hsz : (DataW.weightsEach P ts ds).all (· ≤ reachBytes) = true) {j : Nat} (htj : ts[j]? = some t) (hdj : ds[j]? = some d) :
    ∃ cs : List Value, v = .agg cs.toArray ∧ cs.length = width ks ∧ KdsAt w ks cs 0 := by
  obtain ⟨cs, rfl, _⟩ := okWide_struct ht hv
  obtain ⟨fuel, hf⟩ := h
  have hall : ∀ n ∈ d.weights P t, n ≤ reachBytes := fun n hn => by
    have := List.all_eq_true.1 hsz n (DataW.weights_mem_each htj hdj n hn)
    simpa using this
  obtain ⟨h1, h2⟩ := kinds_of_trod 8 hk hf hall
  exact ⟨cs.toList, by simp, h1, h2⟩
end
end Go.Sx
