/- Own texts of this proof, laid one behind the other: OniG2, OniP3, OniP4, OniB, OniQ, RouM, RouG, RouP, RepM, RepG, RepP. -/
import Derived.Test.YtdgmgalnhignjaaDoorReplyHopsE

/- The verification conditions of functions, printed by a program of this session out of their codes. -/
namespace Go.Proofs.YtdgmgalnhignjaaDoor.G
open Go Go.Sx Go.Oni
set_option linter.unusedVariables false
set_option maxRecDepth 100000

def opeel.k0 (R : AV → Mem → Prop) (left : Int) (key : List Int) (c : List Int) (y4 : Nat) (y0 : Bool) (y2 : List Int) (y5 : List Int) (fuel : Nat) : Prop := runM Tryd.prog gamO3 [] (resh Tryd.prog [] Tryd.f20.results.toList R) (run Tryd.prog gamO3 [] (resh Tryd.prog [] Tryd.f20.results.toList R) fuel) 3961 [.code (cAt (bodyOf Tryd.f20) [1, 1, 1, 1, 1, 1, 1, 1, 1, 1, 1, 1])] [(AV.one (AC.vec 200000)), (AV.one (AC.int IntKind.i64 left)), (AV.one (AC.vec 200002)), (AV.tup []), (AV.tup []), (AV.tup []), (AV.one (AC.ptr 6 0 0)), (AV.one (AC.int IntKind.i64 0)), (AV.one (AC.vec 30)), (AV.one (AC.int IntKind.i64 (Go.Oni.dvE key))), (AV.one (AC.ptr 10 0 0)), (AV.one (AC.ptr 11 0 0)), (AV.one (AC.vsl 30 1 32 (nsub (llen (Go.Cel.cutR c (Go.Oni.sizeI left))) 32))), (AV.one (AC.vsl 67 1 2 y4)), (AV.one (AC.lit true)), (AV.one (AC.ptr 15 0 0)), (AV.tup []), (AV.one (AC.vec 200000)), (AV.one (AC.int IntKind.i64 (ofNat (llen key)))), (AV.one (AC.bool (ine (ofNat (llen key)) 32))), (AV.one (AC.lit false)), (AV.one (AC.int IntKind.i64 left)), (AV.one (AC.int IntKind.i64 (Go.Oni.sizeI left))), (AV.one (AC.bool (ieq (Go.Oni.sizeI left) 0))), (AV.one (AC.lit false)), (AV.tup []), (AV.tup [(TV.c (AC.vec 30)), (TV.c (AC.int IntKind.i64 (Go.Cel.cutE c (Go.Oni.sizeI left))))]), (AV.one (AC.vec 200002)), (AV.one (AC.int IntKind.i64 left)), (AV.one (AC.int IntKind.i64 (Go.Oni.sizeI left))), (AV.tup [(TV.c (AC.vec 30)), (TV.c (AC.int IntKind.i64 (Go.Cel.cutE c (Go.Oni.sizeI left))))]), (AV.one (AC.vec 30)), (AV.one (AC.int IntKind.i64 (Go.Cel.cutE c (Go.Oni.sizeI left)))), (AV.one (AC.int IntKind.i64 (Go.Cel.cutE c (Go.Oni.sizeI left)))), (AV.one (AC.lit false)), (AV.tup []), (AV.tup []), (AV.one (AC.vec 30)), (AV.one (AC.vptr 30 1 0 0 0)), (AV.agg [(Seg.ints IntKind.u8 16 (lsub (Go.Cel.cutR c (Go.Oni.sizeI left)) 0 16))]), (AV.tup [(TV.g [(Seg.ints IntKind.u8 16 (Go.Oni.dvB key (lsub (Go.Cel.cutR c (Go.Oni.sizeI left)) 0 16))), (Seg.ints IntKind.u8 32 (Go.Oni.dvM key (lsub (Go.Cel.cutR c (Go.Oni.sizeI left)) 0 16))), (Seg.ints IntKind.u8 32 (Go.Oni.dvR key (lsub (Go.Cel.cutR c (Go.Oni.sizeI left)) 0 16)))]), (TV.c (AC.int IntKind.i64 (Go.Oni.dvE key)))]), (AV.one (AC.vec 200000)), (AV.agg [(Seg.ints IntKind.u8 16 (lsub (Go.Cel.cutR c (Go.Oni.sizeI left)) 0 16))]), (AV.tup [(TV.g [(Seg.ints IntKind.u8 16 (Go.Oni.dvB key (lsub (Go.Cel.cutR c (Go.Oni.sizeI left)) 0 16))), (Seg.ints IntKind.u8 32 (Go.Oni.dvM key (lsub (Go.Cel.cutR c (Go.Oni.sizeI left)) 0 16))), (Seg.ints IntKind.u8 32 (Go.Oni.dvR key (lsub (Go.Cel.cutR c (Go.Oni.sizeI left)) 0 16)))]), (TV.c (AC.int IntKind.i64 (Go.Oni.dvE key)))]), (AV.agg [(Seg.ints IntKind.u8 16 (Go.Oni.dvB key (lsub (Go.Cel.cutR c (Go.Oni.sizeI left)) 0 16))), (Seg.ints IntKind.u8 32 (Go.Oni.dvM key (lsub (Go.Cel.cutR c (Go.Oni.sizeI left)) 0 16))), (Seg.ints IntKind.u8 32 (Go.Oni.dvR key (lsub (Go.Cel.cutR c (Go.Oni.sizeI left)) 0 16)))]), (AV.one (AC.int IntKind.i64 (Go.Oni.dvE key))), (AV.one (AC.int IntKind.i64 (Go.Oni.dvE key))), (AV.one (AC.lit false)), (AV.tup []), (AV.tup []), (AV.one (AC.vec 30)), (AV.one (AC.vsl 30 1 32 (nsub (llen (Go.Cel.cutR c (Go.Oni.sizeI left))) 32))), (AV.one (AC.vec 30)), (AV.one (AC.vsl 30 1 16 16)), (AV.agg [(Seg.ints IntKind.u8 16 (Go.Oni.dvB key (lsub (Go.Cel.cutR c (Go.Oni.sizeI left)) 0 16))), (Seg.ints IntKind.u8 32 (Go.Oni.dvM key (lsub (Go.Cel.cutR c (Go.Oni.sizeI left)) 0 16))), (Seg.ints IntKind.u8 32 (Go.Oni.dvR key (lsub (Go.Cel.cutR c (Go.Oni.sizeI left)) 0 16)))]), (AV.one (AC.int IntKind.i64 left)), (AV.agg [(Seg.ints IntKind.u8 16 (lsub (Go.Cel.cutR c (Go.Oni.sizeI left)) 0 16))]), (AV.one (AC.vsl 30 1 32 (nsub (llen (Go.Cel.cutR c (Go.Oni.sizeI left))) 32))), (AV.one (AC.vec 58)), (AV.one (AC.bool y0)), (AV.one (AC.lit false)), (AV.tup []), (AV.tup [(TV.c (AC.vsl 67 1 2 y4)), (TV.c (AC.lit true))]), (AV.one (AC.ptr 11 0 0)), (AV.agg [(Seg.ints IntKind.u8 16 (lsub (Go.Oni.dvB key (lsub (Go.Cel.cutR c (Go.Oni.sizeI left)) 0 16)) 0 16))]), (AV.agg [(Seg.ints IntKind.u8 16 (lzeros 16))]), (AV.one (AC.vsl 30 1 32 (nsub (llen (Go.Cel.cutR c (Go.Oni.sizeI left))) 32))), (AV.one (AC.vec 67)), (AV.one (AC.int IntKind.i64 left)), (AV.tup [(TV.c (AC.vsl 67 1 2 y4)), (TV.c (AC.lit true))]), (AV.one (AC.vsl 67 1 2 y4)), (AV.one (AC.lit true)), (AV.one (AC.lit true)), (AV.one (AC.lit false)), (AV.tup []), (AV.one (AC.ptr 11 48 0)), (AV.one (AC.sl 11 48 0 32 32)), (AV.one (AC.vec 30)), (AV.one (AC.vsl 30 1 0 32)), (AV.agg [(Seg.ints IntKind.u8 32 (Go.Mac.tagL (lsub (Go.Oni.dvR key (lsub (Go.Cel.cutR c (Go.Oni.sizeI left)) 0 16)) 0 32) (lsub (Go.Cel.cutR c (Go.Oni.sizeI left)) 0 32)))]), (AV.tup []), (AV.tup []), (AV.tup []), (AV.tup []), (AV.tup []), (AV.tup []), (AV.tup []), (AV.tup []), (AV.tup []), (AV.tup []), (AV.tup []), (AV.tup []), (AV.tup []), (AV.tup []), (AV.tup []), (AV.tup []), (AV.tup []), (AV.tup []), (AV.tup []), (AV.tup []), (AV.tup []), (AV.tup []), (AV.tup [])] [(6, Blk.own 46 [(Seg.cells [(AC.con (Value.slice (Option.none) 0 0))]), (Seg.ints IntKind.u8 16 (lzeros 16))]), (10, Blk.own 23 [(Seg.ints IntKind.u8 16 (lsub (Go.Cel.cutR c (Go.Oni.sizeI left)) 0 16))]), (11, Blk.own 67 [(Seg.ints IntKind.u8 16 (Go.Oni.dvB key (lsub (Go.Cel.cutR c (Go.Oni.sizeI left)) 0 16))), (Seg.ints IntKind.u8 32 (Go.Oni.dvM key (lsub (Go.Cel.cutR c (Go.Oni.sizeI left)) 0 16))), (Seg.ints IntKind.u8 32 (Go.Oni.dvR key (lsub (Go.Cel.cutR c (Go.Oni.sizeI left)) 0 16)))]), (15, Blk.own 63 [(Seg.ints IntKind.u8 32 (Go.Mac.tagL (lsub (Go.Oni.dvR key (lsub (Go.Cel.cutR c (Go.Oni.sizeI left)) 0 16)) 0 32) (lsub (Go.Cel.cutR c (Go.Oni.sizeI left)) 0 32)))]), (30, Blk.vec [(Col.ints IntKind.u8 (Go.Cel.cutR c (Go.Oni.sizeI left)))]), (58, Blk.vec [(Col.ints IntKind.u8 y2)]), (67, Blk.vec [(Col.ints IntKind.u8 y5)]), (200000, Blk.rview [(Col.ints IntKind.u8 key)]), (200002, Blk.rview [(Col.ints IntKind.u8 c)]), (1000000, Blk.view [(Seg.ints IntKind.u32 64 Go.Hsh.rootsL)])]

theorem opeel.k0_eq (R : AV → Mem → Prop) (left : Int) (key : List Int) (c : List Int) (y4 : Nat) (y0 : Bool) (y2 : List Int) (y5 : List Int) (fuel : Nat) : opeel.k0 R left key c y4 y0 y2 y5 fuel = ((let y6 : List Int := (Go.Mac.tagL (lsub (Go.Oni.dvR key (lsub (Go.Cel.cutR c (Go.Oni.sizeI left)) 0 16)) 0 32) (lsub (Go.Cel.cutR c (Go.Oni.sizeI left)) 0 32)); ((Fits 16 32) ∧ ((Fits 16 32) ∧ ((Fits 16 16) ∧ ((((igt left 1) = true) → ((Short (lsub y5 2 y4)) ∧ ((((ine (Go.Cel.padE (lsub y5 2 y4)) 0) = true) → (R (AV.tup [(TV.g [(Seg.cells [(AC.con (Value.slice (Option.none) 0 0))]), (Seg.ints IntKind.u8 16 (lzeros 16))]), (TV.c (AC.int IntKind.i64 (Go.Cel.padE (lsub y5 2 y4))))]) [(6, Blk.own 46 [(Seg.cells [(AC.con (Value.slice (Option.none) 0 0))]), (Seg.ints IntKind.u8 16 (lzeros 16))]), (10, Blk.own 23 [(Seg.ints IntKind.u8 16 (lsub (Go.Cel.cutR c (Go.Oni.sizeI left)) 0 16))]), (11, Blk.own 67 [(Seg.ints IntKind.u8 16 (Go.Oni.dvB key (lsub (Go.Cel.cutR c (Go.Oni.sizeI left)) 0 16))), (Seg.ints IntKind.u8 32 (Go.Oni.dvM key (lsub (Go.Cel.cutR c (Go.Oni.sizeI left)) 0 16))), (Seg.ints IntKind.u8 32 (Go.Oni.dvR key (lsub (Go.Cel.cutR c (Go.Oni.sizeI left)) 0 16)))]), (15, Blk.own 63 [(Seg.ints IntKind.u8 32 y6)]), (16, Blk.own 46 [(Seg.cells [(AC.vec 88)]), (Seg.ints IntKind.u8 16 (lput (lzeros 16) 0 (lsub y6 0 16)))]), (30, Blk.vec [(Col.ints IntKind.u8 (Go.Cel.cutR c (Go.Oni.sizeI left)))]), (58, Blk.vec [(Col.ints IntKind.u8 y2)]), (67, Blk.vec [(Col.ints IntKind.u8 y5)]), (88, Blk.vec [(Col.ints IntKind.u8 (Go.Cel.padR (lsub y5 2 y4)))]), (200000, Blk.rview [(Col.ints IntKind.u8 key)]), (200002, Blk.rview [(Col.ints IntKind.u8 c)]), (1000000, Blk.view [(Seg.ints IntKind.u32 64 Go.Hsh.rootsL)])])) ∧ (((ine (Go.Cel.padE (lsub y5 2 y4)) 0) = false) → (R (AV.tup [(TV.g [(Seg.cells [(AC.vec 88)]), (Seg.ints IntKind.u8 16 (lput (lzeros 16) 0 (lsub y6 0 16)))]), (TV.c (AC.int IntKind.i64 0))]) [(6, Blk.own 46 [(Seg.cells [(AC.vec 88)]), (Seg.ints IntKind.u8 16 (lput (lzeros 16) 0 (lsub y6 0 16)))]), (10, Blk.own 23 [(Seg.ints IntKind.u8 16 (lsub (Go.Cel.cutR c (Go.Oni.sizeI left)) 0 16))]), (11, Blk.own 67 [(Seg.ints IntKind.u8 16 (Go.Oni.dvB key (lsub (Go.Cel.cutR c (Go.Oni.sizeI left)) 0 16))), (Seg.ints IntKind.u8 32 (Go.Oni.dvM key (lsub (Go.Cel.cutR c (Go.Oni.sizeI left)) 0 16))), (Seg.ints IntKind.u8 32 (Go.Oni.dvR key (lsub (Go.Cel.cutR c (Go.Oni.sizeI left)) 0 16)))]), (15, Blk.own 63 [(Seg.ints IntKind.u8 32 y6)]), (16, Blk.own 46 [(Seg.cells [(AC.vec 88)]), (Seg.ints IntKind.u8 16 (lput (lzeros 16) 0 (lsub y6 0 16)))]), (30, Blk.vec [(Col.ints IntKind.u8 (Go.Cel.cutR c (Go.Oni.sizeI left)))]), (58, Blk.vec [(Col.ints IntKind.u8 y2)]), (67, Blk.vec [(Col.ints IntKind.u8 y5)]), (88, Blk.vec [(Col.ints IntKind.u8 (Go.Cel.padR (lsub y5 2 y4)))]), (200000, Blk.rview [(Col.ints IntKind.u8 key)]), (200002, Blk.rview [(Col.ints IntKind.u8 c)]), (1000000, Blk.view [(Seg.ints IntKind.u32 64 Go.Hsh.rootsL)])]))))) ∧ (((igt left 1) = false) → ((Short (lsub y5 2 y4)) ∧ ((((ine (Go.Cel.plainE (lsub y5 2 y4)) 0) = true) → (R (AV.tup [(TV.g [(Seg.cells [(AC.con (Value.slice (Option.none) 0 0))]), (Seg.ints IntKind.u8 16 (lzeros 16))]), (TV.c (AC.int IntKind.i64 (Go.Cel.plainE (lsub y5 2 y4))))]) [(6, Blk.own 46 [(Seg.cells [(AC.con (Value.slice (Option.none) 0 0))]), (Seg.ints IntKind.u8 16 (lzeros 16))]), (10, Blk.own 23 [(Seg.ints IntKind.u8 16 (lsub (Go.Cel.cutR c (Go.Oni.sizeI left)) 0 16))]), (11, Blk.own 67 [(Seg.ints IntKind.u8 16 (Go.Oni.dvB key (lsub (Go.Cel.cutR c (Go.Oni.sizeI left)) 0 16))), (Seg.ints IntKind.u8 32 (Go.Oni.dvM key (lsub (Go.Cel.cutR c (Go.Oni.sizeI left)) 0 16))), (Seg.ints IntKind.u8 32 (Go.Oni.dvR key (lsub (Go.Cel.cutR c (Go.Oni.sizeI left)) 0 16)))]), (15, Blk.own 63 [(Seg.ints IntKind.u8 32 y6)]), (16, Blk.own 46 [(Seg.cells [(AC.vec 94)]), (Seg.ints IntKind.u8 16 (lput (lzeros 16) 0 (lsub y6 0 16)))]), (30, Blk.vec [(Col.ints IntKind.u8 (Go.Cel.cutR c (Go.Oni.sizeI left)))]), (58, Blk.vec [(Col.ints IntKind.u8 y2)]), (67, Blk.vec [(Col.ints IntKind.u8 y5)]), (94, Blk.vec [(Col.ints IntKind.u8 (Go.Cel.plainR (lsub y5 2 y4)))]), (200000, Blk.rview [(Col.ints IntKind.u8 key)]), (200002, Blk.rview [(Col.ints IntKind.u8 c)]), (1000000, Blk.view [(Seg.ints IntKind.u32 64 Go.Hsh.rootsL)])])) ∧ (((ine (Go.Cel.plainE (lsub y5 2 y4)) 0) = false) → (R (AV.tup [(TV.g [(Seg.cells [(AC.vec 94)]), (Seg.ints IntKind.u8 16 (lput (lzeros 16) 0 (lsub y6 0 16)))]), (TV.c (AC.int IntKind.i64 0))]) [(6, Blk.own 46 [(Seg.cells [(AC.vec 94)]), (Seg.ints IntKind.u8 16 (lput (lzeros 16) 0 (lsub y6 0 16)))]), (10, Blk.own 23 [(Seg.ints IntKind.u8 16 (lsub (Go.Cel.cutR c (Go.Oni.sizeI left)) 0 16))]), (11, Blk.own 67 [(Seg.ints IntKind.u8 16 (Go.Oni.dvB key (lsub (Go.Cel.cutR c (Go.Oni.sizeI left)) 0 16))), (Seg.ints IntKind.u8 32 (Go.Oni.dvM key (lsub (Go.Cel.cutR c (Go.Oni.sizeI left)) 0 16))), (Seg.ints IntKind.u8 32 (Go.Oni.dvR key (lsub (Go.Cel.cutR c (Go.Oni.sizeI left)) 0 16)))]), (15, Blk.own 63 [(Seg.ints IntKind.u8 32 y6)]), (16, Blk.own 46 [(Seg.cells [(AC.vec 94)]), (Seg.ints IntKind.u8 16 (lput (lzeros 16) 0 (lsub y6 0 16)))]), (30, Blk.vec [(Col.ints IntKind.u8 (Go.Cel.cutR c (Go.Oni.sizeI left)))]), (58, Blk.vec [(Col.ints IntKind.u8 y2)]), (67, Blk.vec [(Col.ints IntKind.u8 y5)]), (94, Blk.vec [(Col.ints IntKind.u8 (Go.Cel.plainR (lsub y5 2 y4)))]), (200000, Blk.rview [(Col.ints IntKind.u8 key)]), (200002, Blk.rview [(Col.ints IntKind.u8 c)]), (1000000, Blk.view [(Seg.ints IntKind.u32 64 Go.Hsh.rootsL)])]))))))))))) := by kernel_rfl

theorem opeel_vc (R : AV → Mem → Prop) (fuel : Nat) (key : List Int) (c : List Int) (left : Int) : callsx Tryd.prog gamO3 [] Tryd.f20 (fuel + 1) [.one (.vec 200000), .one (.int .i64 left), .one (.vec 200002)] [(200000, .rview [.ints .u8 key]), (200002, .rview [.ints .u8 c]), (1000000 + 0, .view [.ints .u32 64 Go.Hsh.rootsL])] R = (((((ine (ofNat (llen key)) 32) = false) → ((Go.Oni.Lf left) ∧ ((((ieq (Go.Oni.sizeI left) 0) = true) → (R (AV.tup [(TV.g [(Seg.cells [(AC.con (Value.slice (Option.none) 0 0))]), (Seg.ints IntKind.u8 16 (lzeros 16))]), (TV.c (AC.int IntKind.i64 2))]) [(6, Blk.own 46 [(Seg.cells [(AC.con (Value.slice (Option.none) 0 0))]), (Seg.ints IntKind.u8 16 (lzeros 16))]), (200000, Blk.rview [(Col.ints IntKind.u8 key)]), (200002, Blk.rview [(Col.ints IntKind.u8 c)]), (1000000, Blk.view [(Seg.ints IntKind.u32 64 Go.Hsh.rootsL)])])) ∧ (((ieq (Go.Oni.sizeI left) 0) = false) → ((Go.Oni.Lf left) ∧ ((Short c) ∧ ((((ine (Go.Cel.cutE c (Go.Oni.sizeI left)) 0) = true) → (R (AV.tup [(TV.g [(Seg.cells [(AC.con (Value.slice (Option.none) 0 0))]), (Seg.ints IntKind.u8 16 (lzeros 16))]), (TV.c (AC.int IntKind.i64 (Go.Cel.cutE c (Go.Oni.sizeI left))))]) [(6, Blk.own 46 [(Seg.cells [(AC.con (Value.slice (Option.none) 0 0))]), (Seg.ints IntKind.u8 16 (lzeros 16))]), (30, Blk.vec [(Col.ints IntKind.u8 (Go.Cel.cutR c (Go.Oni.sizeI left)))]), (200000, Blk.rview [(Col.ints IntKind.u8 key)]), (200002, Blk.rview [(Col.ints IntKind.u8 c)]), (1000000, Blk.view [(Seg.ints IntKind.u32 64 Go.Hsh.rootsL)])])) ∧ (((ine (Go.Cel.cutE c (Go.Oni.sizeI left)) 0) = false) → ((Fits 16 (llen (Go.Cel.cutR c (Go.Oni.sizeI left)))) ∧ ((Fits 16 (llen (Go.Cel.cutR c (Go.Oni.sizeI left)))) ∧ (((Go.Hsh.rootsL = Go.Hsh.rootsL) ∧ ((Go.Oni.Ky key) ∧ (Go.Oni.Nn (lsub (Go.Cel.cutR c (Go.Oni.sizeI left)) 0 16)))) ∧ ((((ine (Go.Oni.dvE key) 0) = true) → (R (AV.tup [(TV.g [(Seg.cells [(AC.con (Value.slice (Option.none) 0 0))]), (Seg.ints IntKind.u8 16 (lzeros 16))]), (TV.c (AC.int IntKind.i64 (Go.Oni.dvE key)))]) [(6, Blk.own 46 [(Seg.cells [(AC.con (Value.slice (Option.none) 0 0))]), (Seg.ints IntKind.u8 16 (lzeros 16))]), (10, Blk.own 23 [(Seg.ints IntKind.u8 16 (lsub (Go.Cel.cutR c (Go.Oni.sizeI left)) 0 16))]), (11, Blk.own 67 [(Seg.ints IntKind.u8 16 (Go.Oni.dvB key (lsub (Go.Cel.cutR c (Go.Oni.sizeI left)) 0 16))), (Seg.ints IntKind.u8 32 (Go.Oni.dvM key (lsub (Go.Cel.cutR c (Go.Oni.sizeI left)) 0 16))), (Seg.ints IntKind.u8 32 (Go.Oni.dvR key (lsub (Go.Cel.cutR c (Go.Oni.sizeI left)) 0 16)))]), (30, Blk.vec [(Col.ints IntKind.u8 (Go.Cel.cutR c (Go.Oni.sizeI left)))]), (200000, Blk.rview [(Col.ints IntKind.u8 key)]), (200002, Blk.rview [(Col.ints IntKind.u8 c)]), (1000000, Blk.view [(Seg.ints IntKind.u32 64 Go.Hsh.rootsL)])])) ∧ (((ine (Go.Oni.dvE key) 0) = false) → (((NonNeg 32) ∧ (Fits 32 (llen (Go.Cel.cutR c (Go.Oni.sizeI left))))) ∧ ((((NonNeg 32) ∧ (Fits 32 (llen (Go.Cel.cutR c (Go.Oni.sizeI left))))) ∧ ((NonNeg 16) ∧ (Fits 16 32))) ∧ (((Go.Hsh.rootsL = Go.Hsh.rootsL) ∧ ((Go.Oni.K32 (Go.Oni.dvM key (lsub (Go.Cel.cutR c (Go.Oni.sizeI left)) 0 16))) ∧ ((Go.Oni.Nn (lsub (Go.Cel.cutR c (Go.Oni.sizeI left)) 0 16)) ∧ (Go.Oni.In (lsub (Go.Cel.cutR c (Go.Oni.sizeI left)) 32 (nsub (llen (Go.Cel.cutR c (Go.Oni.sizeI left))) 32)))))) ∧ ((((Go.Mac.Sg (lsub (Go.Cel.cutR c (Go.Oni.sizeI left)) 16 16)) ∧ (Bs (lsub (Go.Cel.cutR c (Go.Oni.sizeI left)) 16 16))) ∧ ((Go.Mac.Sg (Go.Oni.tagO (Go.Oni.dvM key (lsub (Go.Cel.cutR c (Go.Oni.sizeI left)) 0 16)) left (lsub (Go.Cel.cutR c (Go.Oni.sizeI left)) 0 16) (lsub (Go.Cel.cutR c (Go.Oni.sizeI left)) 32 (nsub (llen (Go.Cel.cutR c (Go.Oni.sizeI left))) 32)))) ∧ (Bs (Go.Oni.tagO (Go.Oni.dvM key (lsub (Go.Cel.cutR c (Go.Oni.sizeI left)) 0 16)) left (lsub (Go.Cel.cutR c (Go.Oni.sizeI left)) 0 16) (lsub (Go.Cel.cutR c (Go.Oni.sizeI left)) 32 (nsub (llen (Go.Cel.cutR c (Go.Oni.sizeI left))) 32)))))) ∧ (let y0 : Bool := (leq (lsub (Go.Cel.cutR c (Go.Oni.sizeI left)) 16 16) (Go.Oni.tagO (Go.Oni.dvM key (lsub (Go.Cel.cutR c (Go.Oni.sizeI left)) 0 16)) left (lsub (Go.Cel.cutR c (Go.Oni.sizeI left)) 0 16) (lsub (Go.Cel.cutR c (Go.Oni.sizeI left)) 32 (nsub (llen (Go.Cel.cutR c (Go.Oni.sizeI left))) 32)))); (let y1 : Bool := (bnot (leq (lsub (Go.Cel.cutR c (Go.Oni.sizeI left)) 16 16) (Go.Oni.tagO (Go.Oni.dvM key (lsub (Go.Cel.cutR c (Go.Oni.sizeI left)) 0 16)) left (lsub (Go.Cel.cutR c (Go.Oni.sizeI left)) 0 16) (lsub (Go.Cel.cutR c (Go.Oni.sizeI left)) 32 (nsub (llen (Go.Cel.cutR c (Go.Oni.sizeI left))) 32))))); (let y2 : List Int := (Go.Oni.tagO (Go.Oni.dvM key (lsub (Go.Cel.cutR c (Go.Oni.sizeI left)) 0 16)) left (lsub (Go.Cel.cutR c (Go.Oni.sizeI left)) 0 16) (lsub (Go.Cel.cutR c (Go.Oni.sizeI left)) 32 (nsub (llen (Go.Cel.cutR c (Go.Oni.sizeI left))) 32))); (((y1 = true) → (R (AV.tup [(TV.g [(Seg.cells [(AC.con (Value.slice (Option.none) 0 0))]), (Seg.ints IntKind.u8 16 (lzeros 16))]), (TV.c (AC.int IntKind.i64 70))]) [(6, Blk.own 46 [(Seg.cells [(AC.con (Value.slice (Option.none) 0 0))]), (Seg.ints IntKind.u8 16 (lzeros 16))]), (10, Blk.own 23 [(Seg.ints IntKind.u8 16 (lsub (Go.Cel.cutR c (Go.Oni.sizeI left)) 0 16))]), (11, Blk.own 67 [(Seg.ints IntKind.u8 16 (Go.Oni.dvB key (lsub (Go.Cel.cutR c (Go.Oni.sizeI left)) 0 16))), (Seg.ints IntKind.u8 32 (Go.Oni.dvM key (lsub (Go.Cel.cutR c (Go.Oni.sizeI left)) 0 16))), (Seg.ints IntKind.u8 32 (Go.Oni.dvR key (lsub (Go.Cel.cutR c (Go.Oni.sizeI left)) 0 16)))]), (30, Blk.vec [(Col.ints IntKind.u8 (Go.Cel.cutR c (Go.Oni.sizeI left)))]), (58, Blk.vec [(Col.ints IntKind.u8 y2)]), (200000, Blk.rview [(Col.ints IntKind.u8 key)]), (200002, Blk.rview [(Col.ints IntKind.u8 c)]), (1000000, Blk.view [(Seg.ints IntKind.u32 64 Go.Hsh.rootsL)])])) ∧ ((y1 = false) → ((Fits 16 16) ∧ ((((Go.Blk.BL 16 (lsub (Go.Oni.dvB key (lsub (Go.Cel.cutR c (Go.Oni.sizeI left)) 0 16)) 0 16)) ∧ (Go.Blk.BL 16 (lzeros 16))) ∧ ((Short (lsub (Go.Cel.cutR c (Go.Oni.sizeI left)) 32 (nsub (llen (Go.Cel.cutR c (Go.Oni.sizeI left))) 32))) ∧ (Bs (lsub (Go.Cel.cutR c (Go.Oni.sizeI left)) 32 (nsub (llen (Go.Cel.cutR c (Go.Oni.sizeI left))) 32))))) ∧ ((Go.Oni.Bx left (Go.Blk.mask (Go.Blk.ks (lsub (Go.Oni.dvB key (lsub (Go.Cel.cutR c (Go.Oni.sizeI left)) 0 16)) 0 16)) (lzeros 16) (lsub (Go.Cel.cutR c (Go.Oni.sizeI left)) 32 (nsub (llen (Go.Cel.cutR c (Go.Oni.sizeI left))) 32)))) ∧ ((((Go.Oni.inOk (Go.Blk.mask (Go.Blk.ks (lsub (Go.Oni.dvB key (lsub (Go.Cel.cutR c (Go.Oni.sizeI left)) 0 16)) 0 16)) (lzeros 16) (lsub (Go.Cel.cutR c (Go.Oni.sizeI left)) 32 (nsub (llen (Go.Cel.cutR c (Go.Oni.sizeI left))) 32))) left) = false) → (let y3 : List Int := (Go.Blk.mask (Go.Blk.ks (lsub (Go.Oni.dvB key (lsub (Go.Cel.cutR c (Go.Oni.sizeI left)) 0 16)) 0 16)) (lzeros 16) (lsub (Go.Cel.cutR c (Go.Oni.sizeI left)) 32 (nsub (llen (Go.Cel.cutR c (Go.Oni.sizeI left))) 32))); (R (AV.tup [(TV.g [(Seg.cells [(AC.con (Value.slice (Option.none) 0 0))]), (Seg.ints IntKind.u8 16 (lzeros 16))]), (TV.c (AC.int IntKind.i64 71))]) [(6, Blk.own 46 [(Seg.cells [(AC.con (Value.slice (Option.none) 0 0))]), (Seg.ints IntKind.u8 16 (lzeros 16))]), (10, Blk.own 23 [(Seg.ints IntKind.u8 16 (lsub (Go.Cel.cutR c (Go.Oni.sizeI left)) 0 16))]), (11, Blk.own 67 [(Seg.ints IntKind.u8 16 (Go.Oni.dvB key (lsub (Go.Cel.cutR c (Go.Oni.sizeI left)) 0 16))), (Seg.ints IntKind.u8 32 (Go.Oni.dvM key (lsub (Go.Cel.cutR c (Go.Oni.sizeI left)) 0 16))), (Seg.ints IntKind.u8 32 (Go.Oni.dvR key (lsub (Go.Cel.cutR c (Go.Oni.sizeI left)) 0 16)))]), (30, Blk.vec [(Col.ints IntKind.u8 (Go.Cel.cutR c (Go.Oni.sizeI left)))]), (58, Blk.vec [(Col.ints IntKind.u8 y2)]), (67, Blk.vec [(Col.ints IntKind.u8 y3)]), (200000, Blk.rview [(Col.ints IntKind.u8 key)]), (200002, Blk.rview [(Col.ints IntKind.u8 c)]), (1000000, Blk.view [(Seg.ints IntKind.u32 64 Go.Hsh.rootsL)])]))) ∧ (((Go.Oni.inOk (Go.Blk.mask (Go.Blk.ks (lsub (Go.Oni.dvB key (lsub (Go.Cel.cutR c (Go.Oni.sizeI left)) 0 16)) 0 16)) (lzeros 16) (lsub (Go.Cel.cutR c (Go.Oni.sizeI left)) 32 (nsub (llen (Go.Cel.cutR c (Go.Oni.sizeI left))) 32))) left) = true) → (let y4 : Nat := (nat (Go.Oni.inN (Go.Blk.mask (Go.Blk.ks (lsub (Go.Oni.dvB key (lsub (Go.Cel.cutR c (Go.Oni.sizeI left)) 0 16)) 0 16)) (lzeros 16) (lsub (Go.Cel.cutR c (Go.Oni.sizeI left)) 32 (nsub (llen (Go.Cel.cutR c (Go.Oni.sizeI left))) 32))))); (let y5 : List Int := (Go.Blk.mask (Go.Blk.ks (lsub (Go.Oni.dvB key (lsub (Go.Cel.cutR c (Go.Oni.sizeI left)) 0 16)) 0 16)) (lzeros 16) (lsub (Go.Cel.cutR c (Go.Oni.sizeI left)) 32 (nsub (llen (Go.Cel.cutR c (Go.Oni.sizeI left))) 32))); (((NonNeg 32) ∧ (Fits 32 (llen (Go.Cel.cutR c (Go.Oni.sizeI left))))) ∧ (((Fits (nadd 0 32) 32) ∧ (((Go.Hsh.rootsL = Go.Hsh.rootsL) ∧ ((Go.Mac.Sg (lsub (Go.Oni.dvR key (lsub (Go.Cel.cutR c (Go.Oni.sizeI left)) 0 16)) 0 32)) ∧ (Go.Mac.Sg (lsub (Go.Cel.cutR c (Go.Oni.sizeI left)) 0 32)))) ∧ (opeel.k0 R left key c y4 y0 y2 y5 fuel))) ∧ ((Fits (nadd 0 32) 32) ∧ (((Go.Hsh.rootsL = Go.Hsh.rootsL) ∧ ((Go.Mac.Sg (lsub (Go.Oni.dvR key (lsub (Go.Cel.cutR c (Go.Oni.sizeI left)) 0 16)) 0 32)) ∧ (Go.Mac.Sg (lsub (Go.Cel.cutR c (Go.Oni.sizeI left)) 0 32)))) ∧ (opeel.k0 R left key c y4 y0 y2 y5 fuel)))))))))))))))))))))))))))))))))) ∧ (((ine (ofNat (llen key)) 32) = true) → (R (AV.tup [(TV.g [(Seg.cells [(AC.con (Value.slice (Option.none) 0 0))]), (Seg.ints IntKind.u8 16 (lzeros 16))]), (TV.c (AC.int IntKind.i64 2))]) [(6, Blk.own 46 [(Seg.cells [(AC.con (Value.slice (Option.none) 0 0))]), (Seg.ints IntKind.u8 16 (lzeros 16))]), (200000, Blk.rview [(Col.ints IntKind.u8 key)]), (200002, Blk.rview [(Col.ints IntKind.u8 c)]), (1000000, Blk.view [(Seg.ints IntKind.u32 64 Go.Hsh.rootsL)])])))) := by kernel_rfl

def orpeel.l1 (R : AV → Mem → Prop) (left : Int) (y4 : List Int) (key : List Int) (x1 : List Int) (c : List Int) (fuel : Nat) (x7 : Int) : Prop := run Tryd.prog gamO3 [] (resh Tryd.prog [] Tryd.f33.results.toList R) fuel [.code (cAt (bodyOf Tryd.f33) [1, 1, 1, 1, 1, 1, 1, 1, 1, 1, 1, 1, 0, 1, 0, 0]), .inLoop (cAt (bodyOf Tryd.f33) [1, 1, 1, 1, 1, 1, 1, 1, 1, 1, 1, 1, 0, 1, 0, 0]), .inBlock 2, .code (cAt (bodyOf Tryd.f33) [1, 1, 1, 1, 1, 1, 1, 1, 1, 1, 1, 1, 1])] [AV.undef, (AV.one (AC.int IntKind.i64 left)), AV.undef, AV.undef, AV.undef, AV.undef, (AV.one (AC.ptr 6 0 0)), AV.undef, (AV.one (AC.vec 33)), AV.undef, AV.undef, AV.undef, AV.undef, (AV.one (AC.ptr 13 0 0)), AV.undef, AV.undef, (AV.one (AC.vec 78)), (AV.one (AC.int IntKind.i64 (add IntKind.i64 (mul IntKind.i64 256 (conv IntKind.i64 (lget y4 0))) (conv IntKind.i64 (lget y4 1))))), (AV.one (AC.int IntKind.i64 x7)), (AV.tup []), AV.undef, AV.undef, AV.undef, AV.undef, AV.undef, AV.undef, AV.undef, AV.undef, AV.undef, AV.undef, AV.undef, AV.undef, AV.undef, AV.undef, AV.undef, AV.undef, AV.undef, AV.undef, AV.undef, AV.undef, AV.undef, AV.undef, AV.undef, AV.undef, AV.undef, AV.undef, AV.undef, AV.undef, AV.undef, AV.undef, AV.undef, AV.undef, AV.undef, AV.undef, AV.undef, AV.undef, AV.undef, AV.undef, AV.undef, AV.undef, AV.undef, AV.undef, AV.undef, AV.undef, AV.undef, AV.undef, AV.undef, AV.undef, AV.undef, AV.undef, AV.undef, AV.undef, AV.undef, AV.undef, AV.undef, AV.undef, AV.undef, AV.undef, AV.undef, AV.undef, AV.undef, AV.undef, AV.undef, AV.undef, AV.undef, AV.undef, AV.undef, AV.undef, AV.undef, AV.undef, AV.undef, AV.undef, AV.undef, AV.undef, AV.undef, AV.undef, AV.undef, AV.undef, AV.undef, AV.undef, AV.undef, AV.undef, AV.undef, AV.undef, AV.undef, AV.undef, AV.undef, AV.undef, AV.undef, (AV.tup []), (AV.tup []), (AV.tup []), (AV.tup []), (AV.tup []), (AV.tup []), (AV.tup []), (AV.tup []), (AV.tup []), (AV.tup []), (AV.tup []), (AV.tup []), (AV.tup []), (AV.tup []), (AV.tup []), AV.undef, (AV.tup []), (AV.tup []), (AV.tup []), (AV.tup []), (AV.tup []), (AV.tup []), (AV.tup []), (AV.tup []), AV.undef, (AV.tup []), (AV.tup [])] [(6, Blk.own 46 [(Seg.cells [(AC.con (Value.slice (Option.none) 0 0))]), (Seg.ints IntKind.u8 16 (lzeros 16))]), (13, Blk.own 67 [(Seg.ints IntKind.u8 16 (Go.Oni.dvB key x1)), (Seg.ints IntKind.u8 32 (Go.Oni.dvM key x1)), (Seg.ints IntKind.u8 32 (Go.Oni.dvR key x1))]), (33, Blk.vec [(Col.ints IntKind.u8 (Go.Cel.cutR c (Go.Oni.sizeI left)))]), (78, Blk.vec [(Col.ints IntKind.u8 y4)]), (200000, Blk.rview [(Col.ints IntKind.u8 key)]), (200002, Blk.rview [(Col.ints IntKind.u8 c)])]

def orpeel.k0 (R : AV → Mem → Prop) (left : Int) (x0 : Int) (key : List Int) (x1 : List Int) (c : List Int) (x2 : List Int) (fuel : Nat) : Prop := runM Tryd.prog gamO3 [] (resh Tryd.prog [] Tryd.f33.results.toList R) (run Tryd.prog gamO3 [] (resh Tryd.prog [] Tryd.f33.results.toList R) fuel) 3991 [.code (cAt (bodyOf Tryd.f33) [1, 1, 1, 1, 1, 1, 1, 1])] [(AV.one (AC.vec 200000)), (AV.one (AC.int IntKind.i64 left)), AV.undef, AV.undef, AV.undef, AV.undef, (AV.one (AC.ptr 6 0 0)), AV.undef, (AV.one (AC.vec 33)), AV.undef, (AV.one (AC.ptr 10 0 0)), (AV.one (AC.ptr 11 0 0)), (AV.one (AC.int IntKind.i64 x0)), (AV.one (AC.ptr 13 0 0)), (AV.one (AC.int IntKind.i64 (Go.Oni.dvE key))), (AV.one (AC.ptr 15 0 0)), (AV.tup []), (AV.tup []), (AV.tup []), (AV.tup []), AV.undef, AV.undef, AV.undef, AV.undef, AV.undef, AV.undef, AV.undef, AV.undef, AV.undef, AV.undef, AV.undef, AV.undef, AV.undef, AV.undef, AV.undef, AV.undef, AV.undef, AV.undef, AV.undef, AV.undef, (AV.one (AC.int IntKind.i64 x0)), (AV.one (AC.lit false)), AV.undef, AV.undef, AV.undef, AV.undef, AV.undef, AV.undef, AV.undef, AV.undef, AV.undef, AV.undef, AV.undef, AV.undef, AV.undef, AV.undef, AV.undef, (AV.tup [(TV.g [(Seg.ints IntKind.u8 16 (Go.Oni.dvB key x1)), (Seg.ints IntKind.u8 32 (Go.Oni.dvM key x1)), (Seg.ints IntKind.u8 32 (Go.Oni.dvR key x1))]), (TV.c (AC.int IntKind.i64 (Go.Oni.dvE key)))]), (AV.one (AC.vec 200000)), (AV.agg [(Seg.ints IntKind.u8 16 x1)]), (AV.tup [(TV.g [(Seg.ints IntKind.u8 16 (Go.Oni.dvB key x1)), (Seg.ints IntKind.u8 32 (Go.Oni.dvM key x1)), (Seg.ints IntKind.u8 32 (Go.Oni.dvR key x1))]), (TV.c (AC.int IntKind.i64 (Go.Oni.dvE key)))]), (AV.agg [(Seg.ints IntKind.u8 16 (Go.Oni.dvB key x1)), (Seg.ints IntKind.u8 32 (Go.Oni.dvM key x1)), (Seg.ints IntKind.u8 32 (Go.Oni.dvR key x1))]), (AV.one (AC.int IntKind.i64 (Go.Oni.dvE key))), (AV.agg [(Seg.ints IntKind.u8 16 (Go.Oni.dvB key x1)), (Seg.ints IntKind.u8 32 (Go.Oni.dvM key x1)), (Seg.ints IntKind.u8 32 (Go.Oni.dvR key x1))]), (AV.one (AC.int IntKind.i64 left)), (AV.agg [(Seg.ints IntKind.u8 16 x1)]), (AV.one (AC.vec 33)), (AV.one (AC.vsl 33 1 32 (nsub (llen (Go.Cel.cutR c (Go.Oni.sizeI left))) 32))), (AV.agg [(Seg.ints IntKind.u8 16 (Go.Oni.tagO (Go.Oni.dvM key x1) left x1 (lsub (Go.Cel.cutR c (Go.Oni.sizeI left)) 32 (nsub (llen (Go.Cel.cutR c (Go.Oni.sizeI left))) 32))))]), (AV.tup []), (AV.tup []), (AV.tup []), (AV.tup []), (AV.tup []), (AV.tup []), (AV.tup []), (AV.tup []), (AV.tup []), (AV.tup []), (AV.tup []), (AV.tup []), (AV.tup []), (AV.tup []), (AV.tup []), (AV.tup []), (AV.tup []), (AV.tup []), (AV.tup []), (AV.tup []), (AV.tup []), (AV.tup []), (AV.tup []), (AV.tup []), (AV.tup []), (AV.tup []), (AV.tup []), (AV.tup []), (AV.tup []), (AV.tup []), (AV.tup []), (AV.tup []), (AV.tup []), (AV.tup []), (AV.tup []), (AV.tup []), (AV.tup []), (AV.tup []), (AV.tup []), (AV.tup []), (AV.tup []), (AV.tup []), (AV.tup []), (AV.tup []), (AV.tup []), (AV.tup []), (AV.tup []), (AV.tup []), (AV.tup []), (AV.tup []), (AV.tup []), (AV.tup []), (AV.tup []), (AV.tup []), (AV.tup []), AV.undef, (AV.tup []), (AV.tup []), (AV.tup []), (AV.tup []), (AV.tup []), (AV.tup []), (AV.tup []), (AV.tup []), AV.undef, (AV.tup []), (AV.tup [])] [(6, Blk.own 46 [(Seg.cells [(AC.con (Value.slice (Option.none) 0 0))]), (Seg.ints IntKind.u8 16 (lzeros 16))]), (10, Blk.own 23 [(Seg.ints IntKind.u8 16 x1)]), (11, Blk.own 23 [(Seg.ints IntKind.u8 16 x2)]), (13, Blk.own 67 [(Seg.ints IntKind.u8 16 (Go.Oni.dvB key x1)), (Seg.ints IntKind.u8 32 (Go.Oni.dvM key x1)), (Seg.ints IntKind.u8 32 (Go.Oni.dvR key x1))]), (15, Blk.own 23 [(Seg.ints IntKind.u8 16 (Go.Oni.tagO (Go.Oni.dvM key x1) left x1 (lsub (Go.Cel.cutR c (Go.Oni.sizeI left)) 32 (nsub (llen (Go.Cel.cutR c (Go.Oni.sizeI left))) 32))))]), (33, Blk.vec [(Col.ints IntKind.u8 (Go.Cel.cutR c (Go.Oni.sizeI left)))]), (200000, Blk.rview [(Col.ints IntKind.u8 key)]), (200002, Blk.rview [(Col.ints IntKind.u8 c)])]

def orpeel.l0 (R : AV → Mem → Prop) (left : Int) (c : List Int) (key : List Int) (fuel : Nat) (x0 : Int) (x1 : List Int) (x2 : List Int) : Prop := run Tryd.prog gamO3 [] (resh Tryd.prog [] Tryd.f33.results.toList R) fuel [.code (cAt (bodyOf Tryd.f33) [1, 1, 1, 1, 1, 0, 1, 0, 0]), .inLoop (cAt (bodyOf Tryd.f33) [1, 1, 1, 1, 1, 0, 1, 0, 0]), .inBlock 0, .code (cAt (bodyOf Tryd.f33) [1, 1, 1, 1, 1, 1])] [(AV.one (AC.vec 200000)), (AV.one (AC.int IntKind.i64 left)), AV.undef, AV.undef, AV.undef, AV.undef, (AV.one (AC.ptr 6 0 0)), AV.undef, (AV.one (AC.vec 33)), AV.undef, (AV.one (AC.ptr 10 0 0)), (AV.one (AC.ptr 11 0 0)), (AV.one (AC.int IntKind.i64 x0)), (AV.tup []), AV.undef, (AV.tup []), (AV.tup []), (AV.tup []), (AV.tup []), (AV.tup []), AV.undef, AV.undef, AV.undef, AV.undef, AV.undef, AV.undef, AV.undef, AV.undef, AV.undef, AV.undef, AV.undef, AV.undef, AV.undef, AV.undef, AV.undef, AV.undef, AV.undef, AV.undef, AV.undef, AV.undef, AV.undef, AV.undef, AV.undef, AV.undef, AV.undef, AV.undef, AV.undef, AV.undef, AV.undef, AV.undef, AV.undef, AV.undef, AV.undef, AV.undef, AV.undef, AV.undef, AV.undef, (AV.tup []), (AV.tup []), (AV.tup []), (AV.tup []), (AV.tup []), (AV.tup []), (AV.tup []), (AV.tup []), (AV.tup []), (AV.tup []), (AV.tup []), (AV.tup []), (AV.tup []), (AV.tup []), (AV.tup []), (AV.tup []), (AV.tup []), (AV.tup []), (AV.tup []), (AV.tup []), (AV.tup []), (AV.tup []), (AV.tup []), (AV.tup []), (AV.tup []), (AV.tup []), (AV.tup []), (AV.tup []), (AV.tup []), (AV.tup []), (AV.tup []), (AV.tup []), (AV.tup []), (AV.tup []), (AV.tup []), (AV.tup []), (AV.tup []), (AV.tup []), (AV.tup []), (AV.tup []), (AV.tup []), (AV.tup []), (AV.tup []), (AV.tup []), (AV.tup []), (AV.tup []), (AV.tup []), (AV.tup []), (AV.tup []), (AV.tup []), (AV.tup []), (AV.tup []), (AV.tup []), (AV.tup []), (AV.tup []), (AV.tup []), (AV.tup []), (AV.tup []), (AV.tup []), (AV.tup []), (AV.tup []), (AV.tup []), (AV.tup []), (AV.tup []), (AV.tup []), (AV.tup []), (AV.tup []), AV.undef, (AV.tup []), (AV.tup []), (AV.tup []), (AV.tup []), (AV.tup []), (AV.tup []), (AV.tup []), (AV.tup []), AV.undef, (AV.tup []), (AV.tup [])] [(6, Blk.own 46 [(Seg.cells [(AC.con (Value.slice (Option.none) 0 0))]), (Seg.ints IntKind.u8 16 (lzeros 16))]), (10, Blk.own 23 [(Seg.ints IntKind.u8 16 x1)]), (11, Blk.own 23 [(Seg.ints IntKind.u8 16 x2)]), (33, Blk.vec [(Col.ints IntKind.u8 (Go.Cel.cutR c (Go.Oni.sizeI left)))]), (200000, Blk.rview [(Col.ints IntKind.u8 key)]), (200002, Blk.rview [(Col.ints IntKind.u8 c)])]

theorem orpeel.l1_succ (R : AV → Mem → Prop) (left : Int) (y4 : List Int) (key : List Int) (x1 : List Int) (c : List Int) (fuel : Nat) (x7 : Int) : orpeel.l1 R left y4 key x1 c (fuel + 1) x7 = (((((ilt x7 (ofNat (llen y4))) = true) → ((InB x7 (llen y4)) ∧ ((((ine (lget y4 (nat x7)) 0) = true) → (R (AV.tup [(TV.g [(Seg.cells [(AC.con (Value.slice (Option.none) 0 0))]), (Seg.ints IntKind.u8 16 (lzeros 16))]), (TV.c (AC.int IntKind.i64 71))]) [(6, Blk.own 46 [(Seg.cells [(AC.con (Value.slice (Option.none) 0 0))]), (Seg.ints IntKind.u8 16 (lzeros 16))]), (13, Blk.own 67 [(Seg.ints IntKind.u8 16 (Go.Oni.dvB key x1)), (Seg.ints IntKind.u8 32 (Go.Oni.dvM key x1)), (Seg.ints IntKind.u8 32 (Go.Oni.dvR key x1))]), (33, Blk.vec [(Col.ints IntKind.u8 (Go.Cel.cutR c (Go.Oni.sizeI left)))]), (78, Blk.vec [(Col.ints IntKind.u8 y4)]), (200000, Blk.rview [(Col.ints IntKind.u8 key)]), (200002, Blk.rview [(Col.ints IntKind.u8 c)])])) ∧ (((ine (lget y4 (nat x7)) 0) = false) → (orpeel.l1 R left y4 key x1 c fuel (add IntKind.i64 x7 1)))))) ∧ (((ilt x7 (ofNat (llen y4))) = false) → ((Fits (nadd 0 32) 32) ∧ (((NonNeg 32) ∧ (Fits 32 (llen (Go.Cel.cutR c (Go.Oni.sizeI left))))) ∧ (((Go.Oni.K32 (lsub (Go.Oni.dvR key x1) 0 32)) ∧ (Go.Oni.Ky (lsub (Go.Cel.cutR c (Go.Oni.sizeI left)) 0 32))) ∧ ((Fits 16 16) ∧ (let y8 : List Int := (lput (lzeros 16) 0 (lsub (Go.Mac.tagL (lsub (Go.Oni.dvR key x1) 0 32) (lsub (Go.Cel.cutR c (Go.Oni.sizeI left)) 0 32)) 0 16)); ((((igt left 1) = true) → ((((NonNeg (add IntKind.i64 2 (add IntKind.i64 (mul IntKind.i64 256 (conv IntKind.i64 (lget y4 0))) (conv IntKind.i64 (lget y4 1))))) ∧ (Fits (nat (add IntKind.i64 2 (add IntKind.i64 (mul IntKind.i64 256 (conv IntKind.i64 (lget y4 0))) (conv IntKind.i64 (lget y4 1))))) (llen y4))) ∧ ((NonNeg 2) ∧ (Fits 2 (nat (add IntKind.i64 2 (add IntKind.i64 (mul IntKind.i64 256 (conv IntKind.i64 (lget y4 0))) (conv IntKind.i64 (lget y4 1)))))))) ∧ ((Short (lsub y4 2 (nsub (nat (add IntKind.i64 2 (add IntKind.i64 (mul IntKind.i64 256 (conv IntKind.i64 (lget y4 0))) (conv IntKind.i64 (lget y4 1))))) 2))) ∧ (let y9 : Int := (Go.Cel.padE (lsub y4 2 (nsub (nat (add IntKind.i64 2 (add IntKind.i64 (mul IntKind.i64 256 (conv IntKind.i64 (lget y4 0))) (conv IntKind.i64 (lget y4 1))))) 2))); (let y10 : Int := (add IntKind.i64 2 (add IntKind.i64 (mul IntKind.i64 256 (conv IntKind.i64 (lget y4 0))) (conv IntKind.i64 (lget y4 1)))); (let y11 : Nat := (nsub (nat (add IntKind.i64 2 (add IntKind.i64 (mul IntKind.i64 256 (conv IntKind.i64 (lget y4 0))) (conv IntKind.i64 (lget y4 1))))) 2); (let y12 : List Int := (Go.Cel.padR (lsub y4 2 (nsub (nat (add IntKind.i64 2 (add IntKind.i64 (mul IntKind.i64 256 (conv IntKind.i64 (lget y4 0))) (conv IntKind.i64 (lget y4 1))))) 2))); (R (AV.tup [(TV.g [(Seg.cells [(AC.vec 122)]), (Seg.ints IntKind.u8 16 y8)]), (TV.c (AC.int IntKind.i64 0))]) [(6, Blk.own 46 [(Seg.cells [(AC.vec 122)]), (Seg.ints IntKind.u8 16 y8)]), (13, Blk.own 67 [(Seg.ints IntKind.u8 16 (Go.Oni.dvB key x1)), (Seg.ints IntKind.u8 32 (Go.Oni.dvM key x1)), (Seg.ints IntKind.u8 32 (Go.Oni.dvR key x1))]), (19, Blk.own 46 [(Seg.cells [(AC.vec 122)]), (Seg.ints IntKind.u8 16 y8)]), (33, Blk.vec [(Col.ints IntKind.u8 (Go.Cel.cutR c (Go.Oni.sizeI left)))]), (78, Blk.vec [(Col.ints IntKind.u8 y4)]), (122, Blk.vec [(Col.ints IntKind.u8 y12)]), (200000, Blk.rview [(Col.ints IntKind.u8 key)]), (200002, Blk.rview [(Col.ints IntKind.u8 c)])])))))))) ∧ (((igt left 1) = false) → ((((NonNeg (add IntKind.i64 2 (add IntKind.i64 (mul IntKind.i64 256 (conv IntKind.i64 (lget y4 0))) (conv IntKind.i64 (lget y4 1))))) ∧ (Fits (nat (add IntKind.i64 2 (add IntKind.i64 (mul IntKind.i64 256 (conv IntKind.i64 (lget y4 0))) (conv IntKind.i64 (lget y4 1))))) (llen y4))) ∧ ((NonNeg 2) ∧ (Fits 2 (nat (add IntKind.i64 2 (add IntKind.i64 (mul IntKind.i64 256 (conv IntKind.i64 (lget y4 0))) (conv IntKind.i64 (lget y4 1)))))))) ∧ ((Short (lsub y4 2 (nsub (nat (add IntKind.i64 2 (add IntKind.i64 (mul IntKind.i64 256 (conv IntKind.i64 (lget y4 0))) (conv IntKind.i64 (lget y4 1))))) 2))) ∧ (let y13 : Int := (Go.Cel.plainE (lsub y4 2 (nsub (nat (add IntKind.i64 2 (add IntKind.i64 (mul IntKind.i64 256 (conv IntKind.i64 (lget y4 0))) (conv IntKind.i64 (lget y4 1))))) 2))); (let y14 : Int := (add IntKind.i64 2 (add IntKind.i64 (mul IntKind.i64 256 (conv IntKind.i64 (lget y4 0))) (conv IntKind.i64 (lget y4 1)))); (let y15 : Nat := (nsub (nat (add IntKind.i64 2 (add IntKind.i64 (mul IntKind.i64 256 (conv IntKind.i64 (lget y4 0))) (conv IntKind.i64 (lget y4 1))))) 2); (let y16 : List Int := (Go.Cel.plainR (lsub y4 2 (nsub (nat (add IntKind.i64 2 (add IntKind.i64 (mul IntKind.i64 256 (conv IntKind.i64 (lget y4 0))) (conv IntKind.i64 (lget y4 1))))) 2))); (R (AV.tup [(TV.g [(Seg.cells [(AC.vec 131)]), (Seg.ints IntKind.u8 16 y8)]), (TV.c (AC.int IntKind.i64 0))]) [(6, Blk.own 46 [(Seg.cells [(AC.vec 131)]), (Seg.ints IntKind.u8 16 y8)]), (13, Blk.own 67 [(Seg.ints IntKind.u8 16 (Go.Oni.dvB key x1)), (Seg.ints IntKind.u8 32 (Go.Oni.dvM key x1)), (Seg.ints IntKind.u8 32 (Go.Oni.dvR key x1))]), (19, Blk.own 46 [(Seg.cells [(AC.vec 131)]), (Seg.ints IntKind.u8 16 y8)]), (33, Blk.vec [(Col.ints IntKind.u8 (Go.Cel.cutR c (Go.Oni.sizeI left)))]), (78, Blk.vec [(Col.ints IntKind.u8 y4)]), (131, Blk.vec [(Col.ints IntKind.u8 y16)]), (200000, Blk.rview [(Col.ints IntKind.u8 key)]), (200002, Blk.rview [(Col.ints IntKind.u8 c)])]))))))))))))))))) := by kernel_rfl
theorem orpeel.k0_eq (R : AV → Mem → Prop) (left : Int) (x0 : Int) (key : List Int) (x1 : List Int) (c : List Int) (x2 : List Int) (fuel : Nat) : orpeel.k0 R left x0 key x1 c x2 fuel = ((let y3 : List Int := (Go.Oni.tagO (Go.Oni.dvM key x1) left x1 (lsub (Go.Cel.cutR c (Go.Oni.sizeI left)) 32 (nsub (llen (Go.Cel.cutR c (Go.Oni.sizeI left))) 32))); ((((bnot (leq x2 y3)) = true) → (R (AV.tup [(TV.g [(Seg.cells [(AC.con (Value.slice (Option.none) 0 0))]), (Seg.ints IntKind.u8 16 (lzeros 16))]), (TV.c (AC.int IntKind.i64 70))]) [(6, Blk.own 46 [(Seg.cells [(AC.con (Value.slice (Option.none) 0 0))]), (Seg.ints IntKind.u8 16 (lzeros 16))]), (10, Blk.own 23 [(Seg.ints IntKind.u8 16 x1)]), (11, Blk.own 23 [(Seg.ints IntKind.u8 16 x2)]), (13, Blk.own 67 [(Seg.ints IntKind.u8 16 (Go.Oni.dvB key x1)), (Seg.ints IntKind.u8 32 (Go.Oni.dvM key x1)), (Seg.ints IntKind.u8 32 (Go.Oni.dvR key x1))]), (15, Blk.own 23 [(Seg.ints IntKind.u8 16 y3)]), (33, Blk.vec [(Col.ints IntKind.u8 (Go.Cel.cutR c (Go.Oni.sizeI left)))]), (200000, Blk.rview [(Col.ints IntKind.u8 key)]), (200002, Blk.rview [(Col.ints IntKind.u8 c)])])) ∧ (((bnot (leq x2 y3)) = false) → ((Fits 16 16) ∧ (((NonNeg 32) ∧ (Fits 32 (llen (Go.Cel.cutR c (Go.Oni.sizeI left))))) ∧ ((((Go.Blk.BL 16 (lsub (Go.Oni.dvB key x1) 0 16)) ∧ (Go.Blk.BL 16 (lzeros 16))) ∧ ((Short (lsub (Go.Cel.cutR c (Go.Oni.sizeI left)) 32 (nsub (llen (Go.Cel.cutR c (Go.Oni.sizeI left))) 32))) ∧ (Bs (lsub (Go.Cel.cutR c (Go.Oni.sizeI left)) 32 (nsub (llen (Go.Cel.cutR c (Go.Oni.sizeI left))) 32))))) ∧ (let y4 : List Int := (Go.Blk.mask (Go.Blk.ks (lsub (Go.Oni.dvB key x1) 0 16)) (lzeros 16) (lsub (Go.Cel.cutR c (Go.Oni.sizeI left)) 32 (nsub (llen (Go.Cel.cutR c (Go.Oni.sizeI left))) 32))); ((InB 0 (llen y4)) ∧ ((InB 1 (llen y4)) ∧ ((Go.Oni.Lf left) ∧ (let y5 : Bool := (igt (add IntKind.i64 (mul IntKind.i64 256 (conv IntKind.i64 (lget y4 0))) (conv IntKind.i64 (lget y4 1))) (sub IntKind.i64 (Go.Oni.sizeI left) 34)); (((y5 = true) → (R (AV.tup [(TV.g [(Seg.cells [(AC.con (Value.slice (Option.none) 0 0))]), (Seg.ints IntKind.u8 16 (lzeros 16))]), (TV.c (AC.int IntKind.i64 71))]) [(6, Blk.own 46 [(Seg.cells [(AC.con (Value.slice (Option.none) 0 0))]), (Seg.ints IntKind.u8 16 (lzeros 16))]), (10, Blk.own 23 [(Seg.ints IntKind.u8 16 x1)]), (11, Blk.own 23 [(Seg.ints IntKind.u8 16 x2)]), (13, Blk.own 67 [(Seg.ints IntKind.u8 16 (Go.Oni.dvB key x1)), (Seg.ints IntKind.u8 32 (Go.Oni.dvM key x1)), (Seg.ints IntKind.u8 32 (Go.Oni.dvR key x1))]), (15, Blk.own 23 [(Seg.ints IntKind.u8 16 y3)]), (33, Blk.vec [(Col.ints IntKind.u8 (Go.Cel.cutR c (Go.Oni.sizeI left)))]), (78, Blk.vec [(Col.ints IntKind.u8 y4)]), (200000, Blk.rview [(Col.ints IntKind.u8 key)]), (200002, Blk.rview [(Col.ints IntKind.u8 c)])])) ∧ ((y5 = false) → (let y6 : Int := (add IntKind.i64 2 (add IntKind.i64 (mul IntKind.i64 256 (conv IntKind.i64 (lget y4 0))) (conv IntKind.i64 (lget y4 1)))); (orpeel.l1 R left y4 key x1 c fuel y6)))))))))))))))) := by kernel_rfl

theorem orpeel.l0_succ (R : AV → Mem → Prop) (left : Int) (c : List Int) (key : List Int) (fuel : Nat) (x0 : Int) (x1 : List Int) (x2 : List Int) : orpeel.l0 R left c key (fuel + 1) x0 x1 x2 = (((((ilt x0 16) = true) → ((InB x0 (llen (Go.Cel.cutR c (Go.Oni.sizeI left)))) ∧ ((InB x0 16) ∧ ((Low (nadd 0 (nat x0)) 16) ∧ ((InB (add IntKind.i64 16 x0) (llen (Go.Cel.cutR c (Go.Oni.sizeI left)))) ∧ ((InB x0 16) ∧ ((Low (nadd 0 (nat x0)) 16) ∧ (orpeel.l0 R left c key fuel (add IntKind.i64 x0 1) (lset x1 (nadd 0 (nat x0)) (lget (Go.Cel.cutR c (Go.Oni.sizeI left)) (nat x0))) (lset x2 (nadd 0 (nat x0)) (lget (Go.Cel.cutR c (Go.Oni.sizeI left)) (nat (add IntKind.i64 16 x0)))))))))))) ∧ (((ilt x0 16) = false) → (((Go.Oni.Ky key) ∧ (Go.Oni.Nn x1)) ∧ (((NonNeg 32) ∧ (Fits 32 (llen (Go.Cel.cutR c (Go.Oni.sizeI left))))) ∧ ((((Go.Oni.K32 (Go.Oni.dvM key x1)) ∧ ((Go.Oni.Nn x1) ∧ (Go.Oni.In (lsub (Go.Cel.cutR c (Go.Oni.sizeI left)) 32 (nsub (llen (Go.Cel.cutR c (Go.Oni.sizeI left))) 32))))) ∧ (orpeel.k0 R left x0 key x1 c x2 fuel)) ∧ (((Go.Oni.K32 (Go.Oni.dvM key x1)) ∧ ((Go.Oni.Nn x1) ∧ (Go.Oni.In (lsub (Go.Cel.cutR c (Go.Oni.sizeI left)) 32 (nsub (llen (Go.Cel.cutR c (Go.Oni.sizeI left))) 32))))) ∧ (orpeel.k0 R left x0 key x1 c x2 fuel)))))))) := by kernel_rfl
theorem orpeel_vc (R : AV → Mem → Prop) (fuel : Nat) (key : List Int) (c : List Int) (left : Int) : callsx Tryd.prog gamO3 [] Tryd.f33 (fuel + 1) [.one (.vec 200000), .one (.int .i64 left), .one (.vec 200002)] [(200000, .rview [.ints .u8 key]), (200002, .rview [.ints .u8 c])] R = (((((ine (ofNat (llen key)) 32) = false) → ((Go.Oni.Lf left) ∧ ((((ieq (Go.Oni.sizeI left) 0) = true) → (R (AV.tup [(TV.g [(Seg.cells [(AC.con (Value.slice (Option.none) 0 0))]), (Seg.ints IntKind.u8 16 (lzeros 16))]), (TV.c (AC.int IntKind.i64 2))]) [(6, Blk.own 46 [(Seg.cells [(AC.con (Value.slice (Option.none) 0 0))]), (Seg.ints IntKind.u8 16 (lzeros 16))]), (200000, Blk.rview [(Col.ints IntKind.u8 key)]), (200002, Blk.rview [(Col.ints IntKind.u8 c)])])) ∧ (((ieq (Go.Oni.sizeI left) 0) = false) → ((Go.Oni.Lf left) ∧ ((Short c) ∧ ((((ine (Go.Cel.cutE c (Go.Oni.sizeI left)) 0) = true) → (R (AV.tup [(TV.g [(Seg.cells [(AC.con (Value.slice (Option.none) 0 0))]), (Seg.ints IntKind.u8 16 (lzeros 16))]), (TV.c (AC.int IntKind.i64 (Go.Cel.cutE c (Go.Oni.sizeI left))))]) [(6, Blk.own 46 [(Seg.cells [(AC.con (Value.slice (Option.none) 0 0))]), (Seg.ints IntKind.u8 16 (lzeros 16))]), (33, Blk.vec [(Col.ints IntKind.u8 (Go.Cel.cutR c (Go.Oni.sizeI left)))]), (200000, Blk.rview [(Col.ints IntKind.u8 key)]), (200002, Blk.rview [(Col.ints IntKind.u8 c)])])) ∧ (((ine (Go.Cel.cutE c (Go.Oni.sizeI left)) 0) = false) → (orpeel.l0 R left c key fuel 0 (lzeros 16) (lzeros 16)))))))))) ∧ (((ine (ofNat (llen key)) 32) = true) → (R (AV.tup [(TV.g [(Seg.cells [(AC.con (Value.slice (Option.none) 0 0))]), (Seg.ints IntKind.u8 16 (lzeros 16))]), (TV.c (AC.int IntKind.i64 2))]) [(6, Blk.own 46 [(Seg.cells [(AC.con (Value.slice (Option.none) 0 0))]), (Seg.ints IntKind.u8 16 (lzeros 16))]), (200000, Blk.rview [(Col.ints IntKind.u8 key)]), (200002, Blk.rview [(Col.ints IntKind.u8 c)])])))) := by kernel_rfl

end Go.Proofs.YtdgmgalnhignjaaDoor.G

/- Layers are laid on and taken off. -/
namespace Go.Oni
open Go Go.Sx Go.Hsh Go.Mac Go.Blk Go.Cel Go.Fld
set_option linter.unusedSimpArgs false
theorem lsub_zero_lsub {c : List Int} {S i n : Nat} (h : i + n ≤ S) : lsub (lsub c 0 S) i n = lsub c i n := by
  rw [lsub_lsub _ _ _ _ _ h, Nat.zero_add]
theorem cutE_ok {c : List Int} {n : Int} (h : cutE c n = 0) : c.length = 320 ∧ 0 ≤ n ∧ n ≤ 320 ∧ zb (c.drop n.toNat) = true ∧ cutR c n = lsub c 0 n.toNat := by
  have hc : cutR c n = c.take n.toNat := by unfold cutR; rw [if_pos h]
  unfold cutE at h
  split at h
  · cases h
  · rename_i h1
    split at h
    · cases h
    · rename_i h2
      split at h
      · cases h
      · rename_i h3
        refine ⟨by omega, by omega, by omega, ?_, by rw [hc, lsub_take]⟩
        cases hz : zb (c.drop n.toNat) with
        | true => rfl
        | false => exact absurd hz h3
theorem peC_fail {key c : List Int} {left : Int} (h : peE key left c ≠ 0) : peC key left c = [] ∧ peR key left c = lzeros 16 := by
  unfold peC peR; rw [if_neg h, if_neg h]; exact ⟨rfl, rfl⟩
theorem wrR_fail {key nonce inner : List Int} {left : Int} (h : wrE key left inner ≠ 0) : wrR key nonce left inner = [] := by unfold wrR; rw [if_neg h]
theorem opO_len {key c : List Int} {left : Int} (h1 : 1 ≤ left) (h2 : left ≤ 8) (hc : c.length = 320) : (opO key left c).length = 16 + (34 * left).toNat := by
  unfold opO bxO
  rw [mask_length, sizeI_some h1 h2, lsub_length (by omega)]; omega
theorem inOk_some {pl : List Int} {left : Int} (h1 : 1 ≤ left) (h2 : left ≤ 8) (h : inOk pl left = true) : inN pl ≤ 14 + 34 * left ∧ zb (pl.drop (2 + (inN pl).toNat)) = true := by
  unfold inOk at h
  rw [Bool.and_eq_true, decide_eq_true_eq, sizeI_some h1 h2] at h
  exact ⟨by omega, h.2⟩
end Go.Oni
namespace Go.Proofs.YtdgmgalnhignjaaDoor.G
open Go Go.Sx Go.Hsh Go.Mac Go.Blk Go.Cel Go.Oni Go.Fld
set_option maxRecDepth 20000
set_option linter.unusedSimpArgs false
set_option linter.unusedVariables false

theorem opO_bs {key c : List Int} {left : Int} (hb : Bs c) : Bs (opO key left c) :=
  mask_bs (ks_bl (dvB_bl _ _)) (bl_of rfl (zeros_bs _)) (lsub_bs hb _ _)
theorem good_owrap : Sx.Good Tryd.prog 29 wrapS := by
  refine Sx.Good.reads (D := []) mixed gamO3_good Tryd.func29 (by kernel_rfl) rfl fun d args σ K h => ?_
  simp only [wrapS] at h
  split at h <;> try exact h.elim
  rename_i x nonce left y
  obtain ⟨key, h, hrow⟩ := rdb_row h
  obtain ⟨inner, ⟨⟨hr, hk, hn, hlf, hi⟩, hK⟩, hrow2⟩ := rdb_row h
  refine ⟨_, _, .row [.ints .u8] _ hrow (by decide) (.plain (plain_ints _ _ _) (.plain (plain_int _ _) (.row [.ints .u8] _ hrow2 (by decide) (.glob (roots_at hr) (by intro m; rfl) (.nil _))))), by simp, 1, ?_⟩
  have e := owrap_vc (Res d wrapS.news σ K) 0 key nonce inner left
  refine e.mpr ?_
  rw [wE_eq, wL_eq] at hK
  have fail : ∀ (e : Int) (σ' : Mem), wrE key left inner = e → e ≠ 0 → Res d wrapS.news σ K (.tup [.c (.con (.slice none 0 0)), .c (.int .i64 e)]) σ' := fun e σ' he h0 =>
    res_tnil (k := .u8) (.int he.symm .nil) (wrR_fail (by rw [he]; exact h0)) hK
  refine ⟨⟨rfl, hk, hn⟩, fun q1 => ⟨hlf, fun q2 => fail 2 _ ?_ (by decide), fun q2 => ⟨hlf, fun q3 => fail 1 _ ?_ (by decide), fun q3 => ?_⟩⟩, fun q1 => fail 2 _ ?_ (by decide)⟩
  · rw [ieq_true] at q2; unfold wrE; rw [if_pos (Or.inr q2)]
  · rw [ine_false] at q1; rw [ieq_false] at q2; rw [igt_true] at q3
    have hlen : key.length = 32 := by unfold dvE at q1; split at q1; assumption; cases q1
    unfold wrE; rw [if_neg (by rintro (h | h); exact h hlen; exact q2 h), if_pos]
    unfold roomI at q3; exact q3
  · rw [ine_false] at q1; rw [ieq_false] at q2; rw [igt_false] at q3
    have hlen : key.length = 32 := by unfold dvE at q1; split at q1; assumption; cases q1
    have hrg : 1 ≤ left ∧ left ≤ 8 := by
      have := mt sizeI_zero.mpr q2; omega
    obtain ⟨h1, h2⟩ := hrg
    have hsz := sizeI_some h1 h2
    obtain ⟨m, rfl⟩ := Int.eq_ofNat_of_zero_le (show 0 ≤ left by omega)
    have hin : inner.length ≤ 14 + 34 * m := by unfold roomI at q3; rw [hsz] at q3; simp only [ofNat, llen] at q3; omega
    have hwe : wrE key (m : Int) inner = 0 := by
      unfold wrE; rw [if_neg (by rintro (h | h); exact h hlen; exact q2 h), if_neg (by rw [hsz]; omega)]
    have es : sub .i64 (sizeI (m : Int)) 32 = ((16 + 34 * m : Nat) : Int) := by rw [hsz, sub_i64 (by omega) (by omega)]; omega
    have ea : conv .u8 (shr .i64 (inner.length : Int) 8) = ((inner.length / 256 : Nat) : Int) := by
      have : shr .i64 (inner.length : Int) 8 = ((inner.length / 2 ^ 8 : Nat) : Int) := shr_i64 (n := 8) (by decide)
      rw [this, conv_u8]; omega
    have eb : conv .u8 (inner.length : Int) = ((inner.length % 256 : Nat) : Int) := by rw [conv_u8]; omega
    have ep : plO (m : Int) inner = lput (lset (lset (lzeros (16 + 34 * m)) 0 ((inner.length / 256 : Nat) : Int)) 1 ((inner.length % 256 : Nat) : Int)) 2 inner := by
      rw [pl_fill (by omega), plO_some h1 h2]
      rw [show 14 + (34 * (m : Int)).toNat - inner.length = 16 + 34 * m - 2 - inner.length by omega]
    have hB := dvB_bl key nonce
    have hM := dvM_bl key nonce
    have hz : BL 16 (lzeros 16) := bl_of rfl (zeros_bs _)
    have e0 : lsub (dvB key nonce) 0 16 = dvB key nonce := lsub_whole hB.len
    have en : lsub nonce 0 16 = nonce := lsub_whole hn.bl.len
    have ln := hn.bl.len
    have ly : (lset (lset (lzeros (16 + 34 * m)) 0 ((inner.length / 256 : Nat) : Int)) 1 ((inner.length % 256 : Nat) : Int)).length = 16 + 34 * m := by rw [lset_len, lset_len]; simp [lzeros]
    have lz : (lzeros (16 + 34 * m)).length = 16 + 34 * m := by simp [lzeros]
    have lset1 : (lset (lzeros (16 + 34 * m)) 0 ((inner.length / 256 : Nat) : Int)).length = 16 + 34 * m := by rw [lset_len, lz]
    have ei : lsub inner 0 (min inner.length (16 + 34 * m - 2)) = inner := by rw [show min inner.length (16 + 34 * m - 2) = inner.length by omega]; exact lsub_whole rfl
    have pb : Bs (plO (m : Int) inner) := plO_bs hi.bs (by omega)
    have pll : (plO (m : Int) inner).length = 16 + 34 * m := by have := plO_len h1 h2 (inner := inner) (by rw [hsz]; omega); rw [hsz] at this; omega
    have mb : Bs (mask (ks (dvB key nonce)) (lzeros 16) (plO (m : Int) inner)) := mask_bs (ks_bl hB) hz pb
    have ml := mask_length (ks (dvB key nonce)) (lzeros 16) (plO (m : Int) inner)
    have tl := tagO_len (dvM key nonce) (m : Int) nonce (mask (ks (dvB key nonce)) (lzeros 16) (plO (m : Int) inner))
    simp only [es, nat_cast, llen_def, ofNat_def, ea, eb, ly, lz, lset1, nmin_def, nsub_def, ei, ← ep, e0, en, lcat_def, List.nil_append, nadd_def, List.length_append, ln, ml, pll, tl, Mk_iff, NonNeg_iff, InB_iff, Fits_iff, List.length_nil]
    refine ⟨hlf, by omega, by omega, ⟨by omega, by omega⟩, ⟨by omega, by omega⟩, ⟨by omega, by omega⟩, by omega, ⟨⟨hB, hz⟩, ⟨by omega⟩, pb⟩, by omega, room1 (by omega), ⟨trivial, ⟨hM⟩, hn, ⟨by omega, mb⟩⟩, room1 (by omega), room1 (by omega), res_tvec (k := .u8) rfl (.int hwe.symm .nil) ?_ hK⟩
    unfold wrR; rw [if_pos hwe]; rfl
  · rw [ine_true] at q1
    have hlen : key.length ≠ 32 := by intro h; apply q1; unfold dvE; rw [if_pos h]
    unfold wrE; rw [if_pos (Or.inl hlen)]

theorem good_orwrap : Sx.Good Tryd.prog 28 rwrapS := by
  refine Sx.Good.reads (D := []) mixed gamO3_good Tryd.func28 (by kernel_rfl) rfl fun d args σ K h => ?_
  simp only [rwrapS] at h
  split at h <;> try exact h.elim
  rename_i x nonce left y
  obtain ⟨key, h, hrow⟩ := rdb_row h
  obtain ⟨inner, ⟨⟨hk, hn, hlf, hi⟩, hK⟩, hrow2⟩ := rdb_row h
  refine ⟨_, _, .row [.ints .u8] _ hrow (by decide) (.plain (plain_ints _ _ _) (.plain (plain_int _ _) (.row [.ints .u8] _ hrow2 (by decide) (.nil _)))), by simp, ?_⟩
  rw [wE_eq, wL_eq] at hK
  have fail : ∀ (e : Int) (σ' : Mem), wrE key left inner = e → e ≠ 0 → Res d rwrapS.news σ K (.tup [.c (.con (.slice none 0 0)), .c (.int .i64 e)]) σ' := fun e σ' he h0 =>
    res_tnil (k := .u8) (.int he.symm .nil) (wrR_fail (by rw [he]; exact h0)) hK
  have hrng := sizeI_rng left
  by_cases hgo : key.length = 32 ∧ sizeI left ≠ 0 ∧ (inner.length : Int) ≤ sizeI left - 34
  · obtain ⟨hlen, q2, q3⟩ := hgo
    have hrg : 1 ≤ left ∧ left ≤ 8 := by
      have := mt sizeI_zero.mpr q2; omega
    obtain ⟨h1, h2⟩ := hrg
    have hsz := sizeI_some h1 h2
    obtain ⟨m, rfl⟩ := Int.eq_ofNat_of_zero_le (show 0 ≤ left by omega)
    have hin : inner.length ≤ 14 + 34 * m := by rw [hsz] at q3; omega
    have hwe : wrE key (m : Int) inner = 0 := by
      unfold wrE; rw [if_neg (by rintro (h | h); exact h hlen; exact q2 h), if_neg (by rw [hsz]; omega)]
    have es : sub .i64 (sizeI (m : Int)) 32 = ((16 + 34 * m : Nat) : Int) := by rw [hsz, sub_i64 (by omega) (by omega)]; omega
    have es4 : sub .i64 (sizeI (m : Int)) 34 = ((14 + 34 * m : Nat) : Int) := by rw [hsz, sub_i64 (by omega) (by omega)]; omega
    have ea : conv .u8 (quo .i64 (inner.length : Int) 256) = ((inner.length / 256 : Nat) : Int) := by
      have : quo .i64 (inner.length : Int) 256 = ((inner.length / 256 : Nat) : Int) := quoN_i64 (b := 256) (by omega)
      rw [this, conv_u8]; omega
    have eb : conv .u8 (rem (inner.length : Int) 256) = ((inner.length % 256 : Nat) : Int) := by
      have : rem (inner.length : Int) 256 = ((inner.length % 256 : Nat) : Int) := remN (b := 256)
      rw [this, conv_u8]; omega
    have lz : (lzeros (16 + 34 * m)).length = 16 + 34 * m := by simp [lzeros]
    have lset1 : (lset (lzeros (16 + 34 * m)) 0 ((inner.length / 256 : Nat) : Int)).length = 16 + 34 * m := by rw [lset_len, lz]
    have pb : Bs (plO (m : Int) inner) := plO_bs hi.bs (by omega)
    have pll : (plO (m : Int) inner).length = 16 + 34 * m := by have := plO_len h1 h2 (inner := inner) (by rw [hsz]; omega); rw [hsz] at this; omega
    have st : ∀ i, i ≤ inner.length → lput (lset (lset (lzeros (16 + 34 * m)) 0 ((inner.length / 256 : Nat) : Int)) 1 ((inner.length % 256 : Nat) : Int)) 2 (inner.take i) = ((inner.length / 256 : Nat) : Int) :: ((inner.length % 256 : Nat) : Int) :: (inner.take i ++ lzeros (14 + 34 * m - i)) := by
      intro i hi'
      have hl : (inner.take i).length = i := by rw [List.length_take]; omega
      rw [pl_fill (by omega), hl, show 16 + 34 * m - 2 - i = 14 + 34 * m - i by omega]
    obtain ⟨f, hf⟩ := loop_ex (fun f i y => orwrap.l0 (Res d rwrapS.news σ K) (m : Int) nonce key inner f i y) inner.length (fun i => ((inner.length / 256 : Nat) : Int) :: ((inner.length % 256 : Nat) : Int) :: (inner.take i ++ lzeros (14 + 34 * m - i)))
      (fun g i hi' h => ⟨g + 1, by
        have e2 : add .i64 2 (i : Int) = ((2 + i : Nat) : Int) := addN_i64 (a := 2) (by omega)
        have hll : (((inner.length / 256 : Nat) : Int) :: ((inner.length % 256 : Nat) : Int) :: (inner.take i ++ lzeros (14 + 34 * m - i))).length = 16 + 34 * m := by
          simp only [List.length_cons, List.length_append, List.length_take, lzeros, List.length_replicate]; omega
        rw [orwrap.l0_succ]
        simp only [nat_cast, ofNat_def, llen_def, e2, hll, InB_iff]
        rw [add1_i64 (by omega)]
        refine ⟨fun _ => ⟨⟨by omega, by omega⟩, ⟨by omega, by omega⟩, ?_⟩, fun r => ?_⟩
        · have est : lset (((inner.length / 256 : Nat) : Int) :: ((inner.length % 256 : Nat) : Int) :: (inner.take i ++ lzeros (14 + 34 * m - i))) (2 + i) (lget inner i) = ((inner.length / 256 : Nat) : Int) :: ((inner.length % 256 : Nat) : Int) :: (inner.take (i + 1) ++ lzeros (14 + 34 * m - (i + 1))) := by
            unfold lset
            rw [show 2 + i = i + 1 + 1 by omega, List.set_cons_succ, List.set_cons_succ]
            have hl : (inner.take i).length = i := by rw [List.length_take]; omega
            rw [List.set_append_right _ _ (by omega), hl, Nat.sub_self]
            obtain ⟨T, hT⟩ : ∃ T, 14 + 34 * m - i = T + 1 := ⟨14 + 34 * m - i - 1, by omega⟩
            rw [hT, show 14 + 34 * m - (i + 1) = T by omega]
            unfold lzeros
            rw [List.replicate_succ, List.set_cons_zero, List.take_add_one]
            have hg : inner[i]? = some (lget inner i) := lget_some hi'
            rw [hg]
            simp
          rw [est]; exact h
        · rw [ilt_false] at r; omega⟩)
      ⟨1, by
        rw [orwrap.l0_succ]
        have ep : ((inner.length / 256 : Nat) : Int) :: ((inner.length % 256 : Nat) : Int) :: (inner.take inner.length ++ lzeros (14 + 34 * m - inner.length)) = plO (m : Int) inner := by
          rw [List.take_of_length_le (Nat.le_refl _), plO_some h1 h2, show 14 + (34 * (m : Int)).toNat - inner.length = 14 + 34 * m - inner.length by omega]
        rw [ep]
        refine ⟨fun r => ?_, fun _ => ⟨⟨hk, hlen, hn.bl, h1, h2, by omega, pb⟩, res_tvec (k := .u8) rfl (.int hwe.symm .nil) (by unfold wrR; rw [if_pos hwe]) hK⟩⟩
        rw [ilt_true] at r; simp only [ofNat, llen] at r; omega⟩ 0 (by omega)
    refine ⟨f + 1, ?_⟩
    have e := orwrap_vc (Res d rwrapS.news σ K) f key nonce inner (m : Int)
    have st0 := st 0 (by omega)
    have e00 : lput (lset (lset (lzeros (16 + 34 * m)) 0 ((inner.length / 256 : Nat) : Int)) 1 ((inner.length % 256 : Nat) : Int)) 2 (inner.take 0) = lset (lset (lzeros (16 + 34 * m)) 0 ((inner.length / 256 : Nat) : Int)) 1 ((inner.length % 256 : Nat) : Int) := by
      unfold lput; rw [List.take_zero]; simp
    rw [← st0, e00] at hf
    refine e.mpr ⟨fun _ => ⟨hlf, fun r => ?_, fun _ => ⟨hlf, fun r => ?_, fun _ => ?_⟩⟩, fun r => ?_⟩
    · rw [ieq_true] at r; exact absurd r q2
    · rw [es4, igt_true] at r; simp only [ofNat, llen] at r; omega
    · simp only [es, nat_cast, llen_def, ofNat_def, ea, eb, lz, lset1, Mk_iff, InB_iff, NeZ_iff]
      exact ⟨hlf, by omega, by omega, ⟨by omega, by omega⟩, by omega, ⟨by omega, by omega⟩, hf⟩
    · rw [ine_true] at r; simp only [ofNat, llen] at r; omega
  · refine ⟨1, ?_⟩
    have e := orwrap_vc (Res d rwrapS.news σ K) 0 key nonce inner left
    refine e.mpr ⟨fun q1 => ⟨hlf, fun q2 => fail 2 _ ?_ (by decide), fun q2 => ⟨hlf, fun q3 => fail 1 _ ?_ (by decide), fun q3 => ?_⟩⟩, fun q1 => fail 2 _ ?_ (by decide)⟩
    · rw [ieq_true] at q2; unfold wrE; rw [if_pos (Or.inr q2)]
    · rw [ine_false] at q1; rw [ieq_false] at q2; rw [igt_true, sub_i64 (by omega) (by omega)] at q3
      simp only [ofNat, llen] at q1 q3
      unfold wrE; rw [if_neg (by rintro (h | h); exact h (by omega); exact q2 h), if_pos (by omega)]
    · exfalso
      rw [ine_false] at q1; rw [ieq_false] at q2; rw [igt_false, sub_i64 (by omega) (by omega)] at q3
      simp only [ofNat, llen] at q1 q3
      exact hgo ⟨by omega, q2, by omega⟩
    · rw [ine_true] at q1; simp only [ofNat, llen] at q1
      unfold wrE; rw [if_pos (Or.inl (by omega))]

/-! taking off -/
theorem res_peeled {d m : Nat} {σ σ' : Mem} {K : AV → Mem → Prop} {l l' r r' : List Int} {e e' : Int} (hf : Mem.find σ' m = some (.vec [.ints .u8 l])) (hl : l = l') (hr : r = r') (he : e = e')
    (hK : K (.tup [.g [.cells [.vec d], .ints .u8 16 r'], .c (.int .i64 e')]) (Mem.ins d (.vec [.ints .u8 l']) σ)) : Res d 1 σ K (.tup [.g [.cells [.vec m], .ints .u8 16 r], .c (.int .i64 e)]) σ' := by
  subst hl hr he
  exact ⟨[.vec m [.ints .u8 l]], .tup [.g [.cells [.vec d], .ints .u8 16 r], .c (.int .i64 e)], Nat.le_refl _, fun it h => by simp at h; subst h; exact ⟨hf, rfl⟩, pairwise_one,
    ⟨⟨⟨Or.inr ⟨0, _, rfl, rfl, rfl⟩, trivial⟩, ⟨rfl, rfl, rfl⟩, trivial⟩, Or.inl ⟨fun _ => rfl, fun _ => rfl, fun _ _ q => q⟩, trivial⟩, hK⟩
theorem res_unpeeled {d : Nat} {σ σ' : Mem} {K : AV → Mem → Prop} {l' r r' : List Int} {e e' : Int} (hl : l' = []) (hr : r = r') (he : e = e')
    (hK : K (.tup [.g [.cells [.vec d], .ints .u8 16 r'], .c (.int .i64 e')]) (Mem.ins d (.vec [.ints .u8 l']) σ)) : Res d 1 σ K (.tup [.g [.cells [.con (.slice none 0 0)], .ints .u8 16 r], .c (.int .i64 e)]) σ' := by
  subst hl hr he
  exact ⟨[.nil [.ints .u8]], .tup [.g [.cells [.vec d], .ints .u8 16 r], .c (.int .i64 e)], Nat.le_refl _, fun it h => by simp at h; subst h; exact ⟨Nat.one_pos, rfl⟩, pairwise_one,
    ⟨⟨⟨Or.inr ⟨0, _, rfl, rfl, rfl⟩, trivial⟩, ⟨rfl, rfl, rfl⟩, trivial⟩, Or.inl ⟨fun _ => rfl, fun _ => rfl, fun _ _ q => q⟩, trivial⟩, hK⟩
end Go.Proofs.YtdgmgalnhignjaaDoor.G

/- A layer is taken off. -/
namespace Go.Proofs.YtdgmgalnhignjaaDoor.G
open Go Go.Sx Go.Hsh Go.Mac Go.Blk Go.Cel Go.Oni Go.Fld
set_option maxRecDepth 20000
set_option linter.unusedSimpArgs false
set_option linter.unusedVariables false

/-- what holds of a cell that is cut -/
structure Cut0 (key c : List Int) (m : Nat) : Prop where
  h1 : 1 ≤ m
  h2 : m ≤ 8
  len : key.length = 32
  clen : c.length = 320
  cut : cutR c (sizeI (m : Int)) = lsub c 0 (48 + 34 * m)
  sz : sizeI (m : Int) = ((48 + 34 * m : Nat) : Int)
  cutE : cutE c (sizeI (m : Int)) = 0
theorem cut0 {key c : List Int} {left : Int} (hlen : key.length = 32) (q2 : sizeI left ≠ 0) (q3 : cutE c (sizeI left) = 0) : ∃ m : Nat, left = (m : Int) ∧ Cut0 key c m := by
  have hrg : 1 ≤ left ∧ left ≤ 8 := by have := mt sizeI_zero.mpr q2; omega
  have hsz := sizeI_some hrg.1 hrg.2
  obtain ⟨m, rfl⟩ := Int.eq_ofNat_of_zero_le (show 0 ≤ left by omega)
  obtain ⟨c1, c2, c3, c4, c5⟩ := cutE_ok q3
  have es : sizeI (m : Int) = ((48 + 34 * m : Nat) : Int) := by rw [hsz]; omega
  refine ⟨m, rfl, by omega, by omega, hlen, c1, ?_, es, q3⟩
  rw [c5, es, Int.toNat_natCast]
theorem Cut0.bx {key c : List Int} {m : Nat} (h : Cut0 key c m) : lsub (lsub c 0 (48 + 34 * m)) 32 (48 + 34 * m - 32) = bxO (m : Int) c := by
  rw [lsub_zero_lsub (by omega)]
  unfold bxO; rw [h.sz, Int.toNat_natCast]
theorem Cut0.olen {key c : List Int} {m : Nat} (h : Cut0 key c m) : (lsub c 0 (48 + 34 * m)).length = 48 + 34 * m := lsub_length (by have := h.clen; have := h.h2; omega)
theorem Cut0.bxlen {key c : List Int} {m : Nat} (h : Cut0 key c m) : (bxO (m : Int) c).length = 16 + 34 * m := by
  have := h.clen; have := h.h2
  rw [← h.bx, lsub_length (by rw [h.olen]; omega)]; omega
theorem Cut0.pe {key c : List Int} {m : Nat} (h : Cut0 key c m) : peE key (m : Int) c = if lsub c 16 16 ≠ tagO (dvM key (nnO c)) (m : Int) (nnO c) (bxO (m : Int) c) then 70 else if inOk (opO key (m : Int) c) (m : Int) = false then 71 else 0 := by
  conv => lhs; unfold peE
  rw [if_neg (by rintro (q | q); exact q h.len; rw [h.sz] at q; omega), if_neg (by rw [h.cutE]; simp)]
theorem nn_bl {c : List Int} (hb : Bs c) (hl : c.length = 320) : BL 16 (nnO c) := bl_of (lsub_length (by omega)) (lsub_bs hb _ _)

theorem good_opeel : Sx.Good Tryd.prog 20 peelS := by
  refine Sx.Good.reads (D := []) mixed gamO3_good Tryd.func20 (by kernel_rfl) rfl fun d args σ K h => ?_
  simp only [peelS] at h
  split at h <;> try exact h.elim
  rename_i x left y
  obtain ⟨key, h, hrow⟩ := rdb_row h
  obtain ⟨c, ⟨⟨hr, hk, hlf, hc⟩, hK⟩, hrow2⟩ := rdb_row h
  refine ⟨_, _, .row [.ints .u8] _ hrow (by decide) (.plain (plain_int _ _) (.row [.ints .u8] _ hrow2 (by decide) (.glob (roots_at hr) (by intro m; rfl) (.nil _)))), by simp, 1, ?_⟩
  have e := opeel_vc (Res d peelS.news σ K) 0 key c left
  refine e.mpr ?_
  rw [pE_eq, pC_eq, pR_eq] at hK
  have fail : ∀ (e : Int) (σ' : Mem), peE key left c = e → e ≠ 0 → Res d peelS.news σ K (.tup [.g [.cells [.con (.slice none 0 0)], .ints .u8 16 (lzeros 16)], .c (.int .i64 e)]) σ' := fun e σ' he h0 =>
    res_unpeeled (peC_fail (by rw [he]; exact h0)).1 (peC_fail (by rw [he]; exact h0)).2.symm he.symm hK
  refine ⟨fun q1 => ⟨hlf, fun q2 => fail 2 _ ?_ (by decide), fun q2 => ⟨hlf, ⟨hc.sh⟩, fun q3 => fail _ _ ?_ ?_, fun q3 => ?_⟩⟩, fun q1 => fail 2 _ ?_ (by decide)⟩
  · rw [ieq_true] at q2; unfold peE; rw [if_pos (Or.inr q2)]
  · rw [ine_false] at q1; simp only [ofNat, llen] at q1; rw [ieq_false] at q2; rw [ine_true] at q3
    have hn0 : ¬ (key.length ≠ 32 ∨ sizeI left = 0) := by rintro (h | h); exact h (by omega); exact q2 h
    unfold peE; rw [if_neg hn0, if_pos q3]
  · rw [ine_true] at q3; exact q3
  · rw [ine_false] at q1 q3; simp only [ofNat, llen] at q1; rw [ieq_false] at q2
    obtain ⟨m, rfl, H⟩ := cut0 (key := key) (show key.length = 32 by omega) q2 q3
    have h1 := H.h1
    have h2 := H.h2
    have hcl := H.clen
    have hnn := nn_bl hc.bs H.clen
    have hM := dvM_bl key (nnO c)
    have hB := dvB_bl key (nnO c)
    have hR := dvR_bl key (nnO c)
    have ol := H.olen
    have bl := H.bxlen
    have f1 : lsub (lsub c 0 (48 + 34 * m)) 0 16 = nnO c := lsub_zero_lsub (by omega)
    have f2 : lsub (lsub c 0 (48 + 34 * m)) 16 16 = lsub c 16 16 := lsub_zero_lsub (by omega)
    have f3 := H.bx
    have f4 : lsub (lsub c 0 (48 + 34 * m)) 0 32 = lsub c 0 32 := lsub_zero_lsub (by omega)
    have f5 : dvE key = 0 := by unfold dvE; rw [if_pos H.len]
    have f6 : lsub (dvB key (nnO c)) 0 16 = dvB key (nnO c) := lsub_whole hB.len
    have f7 : lsub (dvR key (nnO c)) 0 32 = dvR key (nnO c) := lsub_whole hR.len
    have f8 : mask (ks (dvB key (nnO c))) (lzeros 16) (bxO (m : Int) c) = opO key (m : Int) c := rfl
    have hz : BL 16 (lzeros 16) := bl_of rfl (zeros_bs _)
    have l16 : (lsub c 16 16).length = 16 := lsub_length (by omega)
    have l32 : (lsub c 0 32).length = 32 := lsub_length (by omega)
    have tl := tagO_len (dvM key (nnO c)) (m : Int) (nnO c) (bxO (m : Int) c)
    have pl := opO_len (key := key) (left := (m : Int)) (c := c) (by omega) (by omega) hcl
    have pb : Bs (opO key (m : Int) c) := opO_bs hc.bs
    have hpe := H.pe
    simp only [H.cut, llen_def, ol, nsub_def, f1, f2, f3, f4, f5, f6, f7, f8, nadd_def, show ine 0 0 = false from rfl, Bool.false_eq_true, false_implies, true_and, forall_const, Fits_iff, NonNeg_iff]
    refine ⟨by omega, by omega, ⟨hk, ⟨hnn⟩⟩, ⟨by omega, by omega⟩, ⟨⟨by omega, by omega⟩, by omega, by omega⟩, ⟨⟨hM⟩, ⟨hnn⟩, ⟨by omega, lsub_bs hc.bs _ _⟩⟩, ⟨⟨⟨by omega⟩, lsub_bs hc.bs _ _⟩, ⟨by omega⟩, tagO_bs _ _ _ _⟩, fun t => fail 70 _ ?_ (by decide), fun t => ⟨by omega, ⟨⟨hB, hz⟩, ⟨by omega⟩, lsub_bs hc.bs _ _⟩, ⟨by omega, by omega, by rw [pl, H.sz]; omega, pb⟩, fun u => fail 71 _ ?_ (by decide), fun u => ?_⟩⟩
    · rw [bnot_true, leq_false] at t; rw [hpe, if_pos t]
    · rw [bnot_false, leq_true] at t; rw [hpe, if_neg (by rw [t]; simp), if_pos u]
    · rw [bnot_false, leq_true] at t
      have pe0 : peE key (m : Int) c = 0 := by rw [hpe, if_neg (by rw [t]; simp), if_neg (by rw [u]; simp)]
      obtain ⟨N, eN, hN, _, _⟩ := inN_nat pb
      obtain ⟨hle, _⟩ := inOk_some (show (1 : Int) ≤ (m : Int) by omega) (by omega) u
      rw [eN] at hle
      have il : (lsub (opO key (m : Int) c) 2 N).length = N := lsub_length (by rw [pl]; omega)
      have en : nat (inN (opO key (m : Int) c)) = N := by rw [eN, nat_cast]
      have einn : innO (opO key (m : Int) c) = lsub (opO key (m : Int) c) 2 N := by unfold innO; rw [eN, Int.toNat_natCast]
      have k0 : opeel.k0 (Res d peelS.news σ K) (m : Int) key c (nat (inN (opO key (m : Int) c))) (leq (lsub c 16 16) (tagO (dvM key (nnO c)) (m : Int) (nnO c) (bxO (m : Int) c))) (tagO (dvM key (nnO c)) (m : Int) (nnO c) (bxO (m : Int) c)) (opO key (m : Int) c) 0 := by
        rw [opeel.k0_eq]
        simp only [H.cut, f1, f4, f7, en, Fits_iff]
        have hres : ∀ (mm : Nat) (σ' : Mem) (l : List Int), Mem.find σ' mm = some (.vec [.ints .u8 l]) → l = peC key (m : Int) c → Res d peelS.news σ K (.tup [.g [.cells [.vec mm], .ints .u8 16 (lput (lzeros 16) 0 (lsub (tagL (dvR key (nnO c)) (lsub c 0 32)) 0 16))], .c (.int .i64 0)]) σ' := by
          intro mm σ' l hf hl
          refine res_peeled hf hl ?_ pe0.symm hK
          rw [lput_full (by rw [lsub_length (by rw [tag_len]; omega)]; rfl), tagL_eq]
          unfold peR; rw [if_pos pe0]
        refine ⟨by omega, by omega, by omega, fun v => ⟨⟨by omega⟩, fun w => ?_, fun _ => hres _ _ _ rfl ?_⟩, fun v => ⟨⟨by omega⟩, fun w => ?_, fun _ => hres _ _ _ rfl ?_⟩⟩
        · rw [ine_true] at w; exact absurd (by unfold padE; rw [if_pos (by omega)]) w
        · rw [igt_true] at v; unfold peC; rw [if_pos pe0, if_pos v, einn]
        · rw [igt_false] at v; rw [ine_true] at w; exact absurd (by unfold plainE; rw [if_pos (by omega)]) w
        · rw [igt_false] at v; unfold peC; rw [if_pos pe0, if_neg (by omega), einn]
      have sR : Sg (dvR key (nnO c)) := ⟨by rw [hR.len]; omega⟩
      exact ⟨⟨by omega, by omega⟩, ⟨by omega, ⟨sR, ⟨by omega⟩⟩, k0⟩, by omega, ⟨sR, ⟨by omega⟩⟩, k0⟩
  · rw [ine_true] at q1; simp only [ofNat, llen] at q1
    unfold peE; rw [if_pos (Or.inl (by omega))]

theorem orpeel_l1 {R : AV → Mem → Prop} {key c : List Int} {m N : Nat} (hk : Ky key) (hc : In c) (H : Cut0 key c m) (eN : inN (opO key (m : Int) c) = (N : Int))
    (eA : add .i64 (mul .i64 256 (conv .i64 (lget (opO key (m : Int) c) 0))) (conv .i64 (lget (opO key (m : Int) c) 1)) = (N : Int)) (hle : N ≤ 14 + 34 * m)
    (hno : zb ((opO key (m : Int) c).drop (2 + N)) = false → ∀ σ, R (.tup [.g [.cells [.con (.slice none 0 0)], .ints .u8 16 (lzeros 16)], .c (.int .i64 71)]) σ)
    (hyes : zb ((opO key (m : Int) c).drop (2 + N)) = true → ∀ mm σ l r, Mem.find σ mm = some (.vec [.ints .u8 l]) → l = (if 1 < (m : Int) then padR (innO (opO key (m : Int) c)) else plainR (innO (opO key (m : Int) c))) → r = lsub (hmac (dvR key (nnO c)) (lsub c 0 32)) 0 16 → R (.tup [.g [.cells [.vec mm], .ints .u8 16 r], .c (.int .i64 0)]) σ) :
    ∀ (k i : Nat), k = (opO key (m : Int) c).length - i → 2 + N ≤ i → i ≤ (opO key (m : Int) c).length → (∀ j, 2 + N ≤ j → j < i → lget (opO key (m : Int) c) j = 0) → ∃ f, orpeel.l1 R (m : Int) (opO key (m : Int) c) key (nnO c) c f (i : Int) := by
  have h1 := H.h1
  have h2 := H.h2
  have hcl := H.clen
  have ol := H.olen
  have hR := dvR_bl key (nnO c)
  have pl := opO_len (key := key) (left := (m : Int)) (c := c) (by omega) (by omega) hcl
  have f4 : lsub (lsub c 0 (48 + 34 * m)) 0 32 = lsub c 0 32 := lsub_zero_lsub (by omega)
  have f7 : lsub (dvR key (nnO c)) 0 32 = dvR key (nnO c) := lsub_whole hR.len
  have l32 : (lsub c 0 32).length = 32 := lsub_length (by omega)
  have il : (lsub (opO key (m : Int) c) 2 N).length = N := lsub_length (by rw [pl]; omega)
  have einn : innO (opO key (m : Int) c) = lsub (opO key (m : Int) c) 2 N := by unfold innO; rw [eN, Int.toNat_natCast]
  have e2 : add .i64 2 (N : Int) = ((2 + N : Nat) : Int) := addN_i64 (a := 2) (by omega)
  intro k
  induction k with
  | zero =>
    intro i hk0 hi0 hi hz
    obtain rfl : i = (opO key (m : Int) c).length := by omega
    have hzb : zb ((opO key (m : Int) c).drop (2 + N)) = true := by
      rw [zb_true]
      intro j hj
      rw [List.length_drop] at hj
      rw [lget_drop]; exact hz _ (by omega) (by omega)
    refine ⟨1, ?_⟩
    rw [orpeel.l1_succ, eA, e2]
    simp only [H.cut, llen_def, ol, nsub_def, f4, f7, nadd_def, nat_cast, ofNat_def, show 2 + N - 2 = N by omega, Fits_iff, NonNeg_iff]
    have er : lput (lzeros 16) 0 (lsub (tagL (dvR key (nnO c)) (lsub c 0 32)) 0 16) = lsub (hmac (dvR key (nnO c)) (lsub c 0 32)) 0 16 := by
      rw [lput_full (by rw [lsub_length (by rw [tag_len]; omega)]; rfl), tagL_eq]
    refine ⟨fun q => ?_, fun _ => ⟨by omega, ⟨by omega, by omega⟩, ⟨⟨hR⟩, ⟨⟨by omega⟩, lsub_bs hc.bs _ _⟩⟩, by omega, fun v => ⟨⟨⟨by omega, by omega⟩, by omega, by omega⟩, ⟨by omega⟩, hyes hzb _ _ _ _ rfl ?_ er⟩, fun v => ⟨⟨⟨by omega, by omega⟩, by omega, by omega⟩, ⟨by omega⟩, hyes hzb _ _ _ _ rfl ?_ er⟩⟩⟩
    · rw [ilt_true] at q; omega
    · rw [igt_true] at v; rw [if_pos v, einn]
    · rw [igt_false] at v; rw [if_neg (by omega), einn]
  | succ k ih =>
    intro i hk0 hi0 hi hz
    by_cases h0 : lget (opO key (m : Int) c) i = 0
    · obtain ⟨f, hf⟩ := ih (i + 1) (by omega) (by omega) (by omega) (fun j hj1 hj => by
        by_cases e : j = i
        · rw [e]; exact h0
        · exact hz j hj1 (by omega))
      refine ⟨f + 1, ?_⟩
      rw [orpeel.l1_succ]
      simp only [nat_cast, llen_def, ofNat_def, InB_iff]
      rw [add1_i64 (by omega)]
      refine ⟨fun _ => ⟨⟨by omega, by omega⟩, fun q => ?_, fun _ => hf⟩, fun q => ?_⟩
      · rw [ine_true] at q; exact absurd h0 q
      · rw [ilt_false] at q; omega
    · refine ⟨1, ?_⟩
      rw [orpeel.l1_succ]
      simp only [nat_cast, llen_def, ofNat_def, InB_iff]
      refine ⟨fun _ => ⟨⟨by omega, by omega⟩, fun _ => hno ?_ _, fun q => ?_⟩, fun q => ?_⟩
      · cases hz2 : zb ((opO key (m : Int) c).drop (2 + N)) with
        | false => rfl
        | true =>
          have := zb_true.mp hz2 (i - (2 + N)) (by rw [List.length_drop]; omega)
          rw [lget_drop, show 2 + N + (i - (2 + N)) = i by omega] at this
          exact absurd this h0
      · rw [ine_false] at q; exact absurd q h0
      · rw [ilt_false] at q; omega

theorem good_orpeel : Sx.Good Tryd.prog 33 rpeelS := by
  refine Sx.Good.reads (D := []) mixed gamO3_good Tryd.func33 (by kernel_rfl) rfl fun d args σ K h => ?_
  simp only [rpeelS] at h
  split at h <;> try exact h.elim
  rename_i x left y
  obtain ⟨key, h, hrow⟩ := rdb_row h
  obtain ⟨c, ⟨⟨hk, hlf, hc⟩, hK⟩, hrow2⟩ := rdb_row h
  refine ⟨_, _, .row [.ints .u8] _ hrow (by decide) (.plain (plain_int _ _) (.row [.ints .u8] _ hrow2 (by decide) (.nil _))), by simp, ?_⟩
  rw [pE_eq, pC_eq, pR_eq] at hK
  have fail : ∀ (e : Int) (σ' : Mem), peE key left c = e → e ≠ 0 → Res d rpeelS.news σ K (.tup [.g [.cells [.con (.slice none 0 0)], .ints .u8 16 (lzeros 16)], .c (.int .i64 e)]) σ' := fun e σ' he h0 =>
    res_unpeeled (peC_fail (by rw [he]; exact h0)).1 (peC_fail (by rw [he]; exact h0)).2.symm he.symm hK
  by_cases hgo : key.length = 32 ∧ sizeI left ≠ 0 ∧ cutE c (sizeI left) = 0
  · obtain ⟨hlen, q2, q3⟩ := hgo
    obtain ⟨m, rfl, H⟩ := cut0 hlen q2 q3
    have h1 := H.h1
    have h2 := H.h2
    have hcl := H.clen
    have hnn := nn_bl hc.bs H.clen
    have hM := dvM_bl key (nnO c)
    have hB := dvB_bl key (nnO c)
    have ol := H.olen
    have bl := H.bxlen
    have f3 := H.bx
    have f6 : lsub (dvB key (nnO c)) 0 16 = dvB key (nnO c) := lsub_whole hB.len
    have f8 : mask (ks (dvB key (nnO c))) (lzeros 16) (bxO (m : Int) c) = opO key (m : Int) c := rfl
    have hz : BL 16 (lzeros 16) := bl_of rfl (zeros_bs _)
    have pl := opO_len (key := key) (left := (m : Int)) (c := c) (by omega) (by omega) hcl
    have pb : Bs (opO key (m : Int) c) := opO_bs hc.bs
    have hpe := H.pe
    obtain ⟨N, eN, hN, _, eA⟩ := inN_nat pb
    have es4 : sub .i64 (sizeI (m : Int)) 34 = ((14 + 34 * m : Nat) : Int) := by rw [H.sz, sub_i64 (by omega) (by omega)]; omega
    have hok : inOk (opO key (m : Int) c) (m : Int) = (decide ((N : Int) ≤ sizeI (m : Int) - 34) && zb ((opO key (m : Int) c).drop (2 + N))) := by unfold inOk; rw [eN, Int.toNat_natCast]
    have nl : (nnO c).length = 16 := hnn.len
    have tl : (lsub c 16 16).length = 16 := lsub_length (by omega)
    have g1 : ∀ i, i < 16 → lget (lsub c 0 (48 + 34 * m)) i = lget (nnO c) i := fun i hi => by
      unfold nnO; rw [lget_lsub (by omega), lget_lsub hi]
    have g2 : ∀ i, i < 16 → lget (lsub c 0 (48 + 34 * m)) (16 + i) = lget (lsub c 16 16) i := fun i hi => by
      rw [lget_lsub (by omega), lget_lsub hi, Nat.zero_add]
    -- the state behind the copying
    have tail : ∃ f, orpeel.k0 (Res d rpeelS.news σ K) (m : Int) ((16 : Nat) : Int) key (nnO c) c (lsub c 16 16) f := by
      by_cases t : lsub c 16 16 = tagO (dvM key (nnO c)) (m : Int) (nnO c) (bxO (m : Int) c)
      · have hl1 : (N : Int) ≤ 14 + 34 * m → ∃ f, orpeel.l1 (Res d rpeelS.news σ K) (m : Int) (opO key (m : Int) c) key (nnO c) c f ((2 + N : Nat) : Int) := by
          intro hle
          have hok' : inOk (opO key (m : Int) c) (m : Int) = zb ((opO key (m : Int) c).drop (2 + N)) := by rw [hok, decide_eq_true (by rw [H.sz]; omega), Bool.true_and]
          refine orpeel_l1 hk hc H eN eA (by omega) (fun q σ' => fail 71 _ ?_ (by decide)) (fun q mm σ' l r hf hl hr => ?_) _ (2 + N) rfl (by omega) (by rw [pl]; omega) (fun j hj1 hj => by omega)
          · rw [hpe, if_neg (by rw [t]; simp), if_pos (by rw [hok']; exact q)]
          · have pe0 : peE key (m : Int) c = 0 := by rw [hpe, if_neg (by rw [t]; simp), if_neg (by rw [hok', q]; simp)]
            refine res_peeled hf ?_ ?_ pe0.symm hK
            · rw [hl]; unfold peC; rw [if_pos pe0]
            · rw [hr]; unfold peR; rw [if_pos pe0]
        by_cases hle : (N : Int) ≤ 14 + 34 * m
        · obtain ⟨f, hf⟩ := hl1 hle
          refine ⟨f, ?_⟩
          rw [orpeel.k0_eq]
          have e2 : add .i64 2 (N : Int) = ((2 + N : Nat) : Int) := addN_i64 (a := 2) (by omega)
          simp only [H.cut, llen_def, ol, nsub_def, f3, f6, f8, eA, es4, e2, Fits_iff, NonNeg_iff, InB_iff, pl]
          refine ⟨fun u => by rw [bnot_true, leq_false] at u; exact absurd t u, fun _ => ⟨by omega, ⟨by omega, by omega⟩, ⟨⟨hB, hz⟩, ⟨by omega⟩, lsub_bs hc.bs _ _⟩, ⟨by omega, by omega⟩, ⟨by omega, by omega⟩, hlf, fun u => ?_, fun _ => hf⟩⟩
          rw [igt_true] at u; omega
        · refine ⟨0, ?_⟩
          rw [orpeel.k0_eq]
          simp only [H.cut, llen_def, ol, nsub_def, f3, f6, f8, eA, es4, Fits_iff, NonNeg_iff, InB_iff, pl]
          refine ⟨fun u => by rw [bnot_true, leq_false] at u; exact absurd t u, fun _ => ⟨by omega, ⟨by omega, by omega⟩, ⟨⟨hB, hz⟩, ⟨by omega⟩, lsub_bs hc.bs _ _⟩, ⟨by omega, by omega⟩, ⟨by omega, by omega⟩, hlf, fun _ => fail 71 _ ?_ (by decide), fun u => ?_⟩⟩
          · rw [hpe, if_neg (by rw [t]; simp), if_pos (by rw [hok, decide_eq_false (by rw [H.sz]; omega), Bool.false_and])]
          · rw [igt_false] at u; omega
      · refine ⟨0, ?_⟩
        rw [orpeel.k0_eq]
        simp only [H.cut, llen_def, ol, nsub_def, f3]
        have tf : leq (lsub c 16 16) (tagO (dvM key (nnO c)) (m : Int) (nnO c) (bxO (m : Int) c)) = false := by rw [leq_false]; exact t
        refine ⟨fun _ => fail 70 _ (by rw [hpe, if_pos t]) (by decide), fun u => ?_⟩
        rw [tf] at u; cases u
    obtain ⟨ft, ht⟩ := tail
    obtain ⟨f, hf⟩ := loop_ex (fun f i (y : List Int × List Int) => orpeel.l0 (Res d rpeelS.news σ K) (m : Int) c key f i y.1 y.2) 16 (fun i => (upto 16 i (lget (nnO c)) (fun _ => 0), upto 16 i (lget (lsub c 16 16)) (fun _ => 0)))
      (fun g i hi h => ⟨g + 1, by
        rw [orpeel.l0_succ]
        have e16 : add .i64 16 (i : Int) = ((16 + i : Nat) : Int) := addN_i64 (a := 16) (by omega)
        simp only [H.cut, nat_cast, llen_def, ol, e16, InB_iff, Low_iff, nadd_def, Nat.zero_add]
        rw [add1_i64 (by omega)]
        refine ⟨fun _ => ?_, fun r => ?_⟩
        · rw [g1 i hi, g2 i hi, upto_lset (F := lget (nnO c)) rfl, upto_lset (F := lget (lsub c 16 16)) rfl]
          exact ⟨⟨by omega, by omega⟩, ⟨by omega, by omega⟩, by omega, ⟨by omega, by omega⟩, ⟨by omega, by omega⟩, by omega, h⟩
        · rw [ilt_false] at r; omega⟩)
      ⟨ft + 1, by
        rw [orpeel.l0_succ]
        refine ⟨fun r => ?_, fun _ => ?_⟩
        · rw [ilt_true] at r; omega
        · simp only [upto_all nl, upto_all tl, H.cut, llen_def, ol, nsub_def, f3, Fits_iff, NonNeg_iff]
          exact ⟨⟨hk, ⟨hnn⟩⟩, ⟨by omega, by omega⟩, ⟨⟨⟨hM⟩, ⟨hnn⟩, ⟨by omega, lsub_bs hc.bs _ _⟩⟩, ht⟩, ⟨⟨hM⟩, ⟨hnn⟩, ⟨by omega, lsub_bs hc.bs _ _⟩⟩, ht⟩⟩ 0 (by omega)
    refine ⟨f + 1, ?_⟩
    have e := orpeel_vc (Res d rpeelS.news σ K) f key c (m : Int)
    simp only [upto_zero, ← lzeros_tab] at hf
    refine e.mpr ⟨fun _ => ⟨hlf, fun r => ?_, fun _ => ⟨hlf, ⟨hc.sh⟩, fun r => ?_, fun _ => hf⟩⟩, fun r => ?_⟩
    · rw [ieq_true] at r; exact absurd r q2
    · rw [ine_true] at r; exact absurd q3 r
    · rw [ine_true] at r; simp only [ofNat, llen] at r; omega
  · refine ⟨1, ?_⟩
    have e := orpeel_vc (Res d rpeelS.news σ K) 0 key c left
    refine e.mpr ⟨fun q1 => ⟨hlf, fun q2 => fail 2 _ ?_ (by decide), fun q2 => ⟨hlf, ⟨hc.sh⟩, fun q3 => fail _ _ ?_ ?_, fun q3 => ?_⟩⟩, fun q1 => fail 2 _ ?_ (by decide)⟩
    · rw [ieq_true] at q2; unfold peE; rw [if_pos (Or.inr q2)]
    · rw [ine_false] at q1; simp only [ofNat, llen] at q1; rw [ieq_false] at q2; rw [ine_true] at q3
      unfold peE; rw [if_neg (by rintro (h | h); exact h (by omega); exact q2 h), if_pos q3]
    · rw [ine_true] at q3; exact q3
    · exfalso
      rw [ine_false] at q1 q3; simp only [ofNat, llen] at q1; rw [ieq_false] at q2
      exact hgo ⟨by omega, q2, q3⟩
    · rw [ine_true] at q1; simp only [ofNat, llen] at q1
      unfold peE; rw [if_pos (Or.inl (by omega))]
theorem gamO4_good : GoodG Tryd.prog gamO4 :=
  (((gamO3_good.ext good_owrap ⟨_, Tryd.func29, by decide, by kernel_rfl⟩).ext good_orwrap ⟨_, Tryd.func28, by decide, by kernel_rfl⟩).ext good_opeel ⟨_, Tryd.func20, by decide, by kernel_rfl⟩).ext good_orpeel ⟨_, Tryd.func33, by decide, by kernel_rfl⟩
end Go.Proofs.YtdgmgalnhignjaaDoor.G

/- What the laws of layers lean on. -/
namespace Go.Sx
/-- short words for long prints -/
abbrev Uu : AV := .undef
abbrev Zz : AV := .tup []
end Go.Sx
namespace Go.Oni
open Go Go.Sx
end Go.Oni
namespace Go.Sx
open Go.Oni
end Go.Sx

/- Around a layer and back; the closed facts of one key stream block. -/
namespace Go.Blk
open Go.Sx Go.Fld
set_option maxRecDepth 20000
set_option linter.unusedVariables false
set_option linter.unusedSimpArgs false
theorem xor_back {a k : Int} (ha : Byte a) (hk : Byte k) : bxor .u8 (bxor .u8 a k) k = a := by
  obtain ⟨x, hx, rfl⟩ := ha.nat
  obtain ⟨y, hy, rfl⟩ := hk.nat
  rw [bxor_u8 hx hy, bxor_u8 (xor_lt hx hy) hy, Nat.xor_assoc, Nat.xor_self, Nat.xor_zero]
end Go.Blk
namespace Go.Proofs.YtdgmgalnhignjaaDoor.G
open Go Go.Sx Go.Fld Go.Hsh Go.Mac Go.Blk Go.Cel Go.Oni
set_option maxRecDepth 20000
set_option linter.unusedVariables false
set_option linter.unusedSimpArgs false
theorem mask_mask {w s p : List Int} (hw : BL 176 w) (hs : BL 16 s) (hp : Bs p) : mask w s (mask w s p) = p := by
  conv => rhs; rw [eq_tab (l := p) rfl]
  unfold mask
  rw [tab_len]
  refine tab_ext fun i hi => ?_
  rw [tab_lget _ hi, xor_back ((bs_bl hp).get i) (strB_byte hw hs i)]


theorem lsub_app_lo {a b : List Int} {i n : Nat} (h : i + n ≤ a.length) : lsub (a ++ b) i n = lsub a i n := by
  unfold lsub; rw [List.drop_append_of_le_length (by omega), List.take_append_of_le_length (by rw [List.length_drop]; omega)]
theorem lsub_app_hi {a b : List Int} {i n : Nat} (h : a.length = i) : lsub (a ++ b) i n = b.take n := by
  unfold lsub; subst h; rw [List.drop_left]
/-- what a wrapped layer is when it is filled up and peeled -/
structure Bk (key nonce inner w : List Int) (m : Nat) : Prop where
  len : w.length = 48 + 34 * m
  bs : Bs w
  e : wrE key (m : Int) inner = 0
  r : wrR key nonce (m : Int) inner = w
  nn : lsub w 0 16 = nonce
  nc : nnO (padR w) = nonce
  op : opO key (m : Int) (padR w) = plO (m : Int) inner
  cutE : cutE (padR w) (sizeI (m : Int)) = 0
  pE : peE key (m : Int) (padR w) = 0
  pC : peC key (m : Int) (padR w) = if 1 < (m : Int) then padR inner else plainR inner
  pR : peR key (m : Int) (padR w) = lsub (hmac (dvR key nonce) (lsub w 0 32)) 0 16
theorem back {key nonce inner : List Int} {m : Nat} (hk : key.length = 32) (hn : BL 16 nonce) (h1 : 1 ≤ m) (h2 : m ≤ 8) (hb : Bs inner) (hl : inner.length ≤ 14 + 34 * m) :
    Bk key nonce inner (forgeO key nonce (m : Int) (plO (m : Int) inner)) m := by
  have hs : sizeI (m : Int) = ((48 + 34 * m : Nat) : Int) := by rw [sizeI_some (by omega) (by omega)]; omega
  have pl : (plO (m : Int) inner).length = 16 + 34 * m := by
    have := plO_len (left := (m : Int)) (by omega) (by omega) (inner := inner) (by rw [hs]; omega)
    rw [hs] at this; omega
  have pb : Bs (plO (m : Int) inner) := plO_bs hb (by omega)
  have hB := dvB_bl key nonce
  have hK : BL 176 (ks (dvB key nonce)) := ks_bl hB
  have hz : BL 16 (lzeros 16) := bl_of rfl (zeros_bs _)
  have bxl : (mask (ks (dvB key nonce)) (lzeros 16) (plO (m : Int) inner)).length = 16 + 34 * m := by rw [mask_length, pl]
  have bxb : Bs (mask (ks (dvB key nonce)) (lzeros 16) (plO (m : Int) inner)) := mask_bs hK hz pb
  have tl := tagO_len (dvM key nonce) (m : Int) nonce (mask (ks (dvB key nonce)) (lzeros 16) (plO (m : Int) inner))
  have nl := hn.len
  have mm := mask_mask hK hz pb
  generalize ew : forgeO key nonce (m : Int) (plO (m : Int) inner) = w
  have e0 : wrE key (m : Int) inner = 0 := by
    unfold wrE
    rw [if_neg (by rintro (h | h); exact h hk; rw [hs] at h; omega), if_neg (by rw [hs]; omega)]
  have r0 : wrR key nonce (m : Int) inner = w := by unfold wrR; rw [if_pos e0, ew]
  unfold forgeO at ew
  generalize hbx : mask (ks (dvB key nonce)) (lzeros 16) (plO (m : Int) inner) = bx at ew bxl bxb tl mm
  generalize htg : tagO (dvM key nonce) (m : Int) nonce bx = tg at ew tl
  have wl : w.length = 48 + 34 * m := by rw [← ew, List.length_append, List.length_append]; omega
  have wb : Bs w := by
    rw [← ew]
    exact ⟨fun x hx => by
      rcases List.mem_append.mp hx with hx | hx
      · rcases List.mem_append.mp hx with hx | hx
        · exact hn.bs.all x hx
        · rw [← htg] at hx; exact (tagO_bs _ _ _ _).all x hx
      · exact bxb.all x hx⟩
  have ec : padR w = w ++ List.replicate (320 - w.length) 0 := by unfold padR; rw [if_pos (by omega)]; rfl
  have cl : (padR w).length = 320 := by rw [ec]; simp; omega
  have w1 : lsub w 0 16 = nonce := by rw [← ew, List.append_assoc, lsub_app_lo (by omega), lsub_whole nl]
  have w2 : lsub w 16 16 = tg := by rw [← ew, List.append_assoc, lsub_app_hi nl, List.take_append_of_le_length (by omega), List.take_of_length_le (by omega)]
  have w3 : lsub w 32 (16 + 34 * m) = bx := by rw [← ew, lsub_app_hi (by rw [List.length_append]; omega), List.take_of_length_le (by omega)]
  have hS : ((48 + 34 * m : Nat) : Int).toNat = 48 + 34 * m := Int.toNat_natCast _
  have nc : nnO (padR w) = nonce := by unfold nnO; rw [ec, lsub_app_lo (by omega), w1]
  have tc : lsub (padR w) 16 16 = tg := by rw [ec, lsub_app_lo (by omega), w2]
  have hc32 : lsub (padR w) 0 32 = lsub w 0 32 := by rw [ec, lsub_app_lo (by omega)]
  have bc : bxO (m : Int) (padR w) = bx := by unfold bxO; rw [hs, hS, ec, show 48 + 34 * m - 32 = 16 + 34 * m by omega, lsub_app_lo (by omega), w3]
  have op : opO key (m : Int) (padR w) = plO (m : Int) inner := by unfold opO; rw [nc, bc, mm]
  have cE : cutE (padR w) (sizeI (m : Int)) = 0 := by
    unfold cutE
    rw [if_neg (by omega), if_neg (by rw [hs]; omega), if_neg]
    rw [hs, hS, ec, ← wl, List.drop_left]
    have hz0 : zb (List.replicate (320 - w.length) 0) = true := zb_true.mpr fun i hi => by
      rw [List.length_replicate] at hi
      simp [lget, List.getD, List.getElem?_replicate, hi]
    rw [hz0]; simp
  have ps := plO_some (left := (m : Int)) (by omega) (by omega) (inner := inner)
  have iN : inN (plO (m : Int) inner) = (inner.length : Int) := by
    rw [ps]; unfold inN
    show 256 * ((inner.length / 256 : Nat) : Int) + ((inner.length % 256 : Nat) : Int) = _
    omega
  have dr : (plO (m : Int) inner).drop (2 + inner.length) = lzeros (14 + (34 * (m : Int)).toNat - inner.length) := by
    rw [ps, Nat.add_comm]
    show (inner ++ _).drop inner.length = _
    rw [List.drop_left]
  have iO : inOk (plO (m : Int) inner) (m : Int) = true := by
    unfold inOk
    rw [iN, Int.toNat_natCast, dr, decide_eq_true (by rw [hs]; omega), Bool.true_and]
    exact zb_true.mpr fun i hi => by
      unfold lzeros at hi ⊢
      rw [List.length_replicate] at hi
      simp [lget, List.getD, List.getElem?_replicate, hi]
  have iR : innO (plO (m : Int) inner) = inner := by
    unfold innO
    rw [iN, Int.toNat_natCast, ps]
    show (inner ++ _).take inner.length = _
    rw [List.take_left]
  have pE0 : peE key (m : Int) (padR w) = 0 := by
    unfold peE
    rw [if_neg (by rintro (h | h); exact h hk; rw [hs] at h; omega), if_neg (by rw [cE]; simp), nc, bc, tc, htg, if_neg (by simp), op, iO, if_neg (by simp)]
  refine ⟨wl, wb, e0, r0, w1, nc, op, cE, pE0, ?_, ?_⟩
  · unfold peC; rw [if_pos pE0, op, iR]
  · unfold peR; rw [if_pos pE0, nc, hc32]
end Go.Proofs.YtdgmgalnhignjaaDoor.G

/- Chains of hops: their mathematics and what is known of their functions. -/
namespace Go.Sx
open Go
set_option linter.unusedVariables false
def oneRows (k : IntKind) (K : List (List Int) → Prop) (cs : List Col) : Prop :=
  match cs with
  | [.rows k' l] => if k' = k then K l else False
  | _ => False
def oneArrs (k : IntKind) (m : Nat) (K : List (List Int) → Prop) (cs : List Col) : Prop :=
  match cs with
  | [.arrs k' m' l] => if k' = k then (if m' = m then K l else False) else False
  | _ => False
/-- what a list of lists of bytes reads -/
def rdr (σ : Mem) (x : AV) (K : List (List Int) → Prop) : Prop := rdx σ [.rows .u8] x (oneRows .u8 K)
/-- what a list of arrays of bytes reads -/
def rda (σ : Mem) (m : Nat) (x : AV) (K : List (List Int) → Prop) : Prop := rdx σ [.arrs .u8 m] x (oneArrs .u8 m K)
theorem rdr_row {σ : Mem} {x : AV} {K : List (List Int) → Prop} (h : rdr σ x K) : ∃ l, K l ∧ rdx σ [.rows .u8] x (fun c => c = [.rows .u8 l]) := by
  obtain ⟨cs, h1, h2⟩ := rdx_det h
  unfold oneRows at h1
  split at h1 <;> try exact h1.elim
  split at h1 <;> try exact h1.elim
  rename_i hk
  subst hk
  exact ⟨_, h1, h2⟩
theorem rda_row {σ : Mem} {m : Nat} {x : AV} {K : List (List Int) → Prop} (h : rda σ m x K) : ∃ l, K l ∧ rdx σ [.arrs .u8 m] x (fun c => c = [.arrs .u8 m l]) := by
  obtain ⟨cs, h1, h2⟩ := rdx_det h
  unfold oneArrs at h1
  split at h1 <;> try exact h1.elim
  split at h1 <;> try exact h1.elim
  rename_i hk
  subst hk
  split at h1 <;> try exact h1.elim
  rename_i hm
  subst hm
  exact ⟨_, h1, h2⟩
end Go.Sx
namespace Go.Rou
open Go Go.Sx Go.Hsh Go.Mac Go.Blk Go.Cel Go.Oni Go.Fld Go.Proofs.YtdgmgalnhignjaaDoor.G
set_option linter.unusedSimpArgs false
set_option linter.unusedVariables false
/-- the layers about a payload, from the innermost one on -/
def chainO (key nonce : Nat → List Int) (h : Nat) (pay : List Int) : Nat → List Int
  | 0 => pay
  | j + 1 => wrR (key (h - 1 - j)) (nonce (h - 1 - j)) ((j + 1 : Nat) : Int) (chainO key nonce h pay j)
def all32 (KL : List (List Int)) : Bool := KL.all fun k => k.length == 32
def faE (KL NL : List (List Int)) : Int := if KL.length < 1 ∨ 8 < KL.length ∨ NL.length ≠ KL.length then 80 else if all32 KL = false then 2 else 0
def rcE (KL NL : List (List Int)) (pay : List Int) : Int := if faE KL NL ≠ 0 then faE KL NL else if 48 < pay.length then 1 else 0
def rcR (KL NL : List (List Int)) (pay : List Int) : List Int := if rcE KL NL pay = 0 then padR (chainO (llget KL) (llget NL) KL.length pay KL.length) else []
noncomputable def wcE : List (List Int) → List (List Int) → List Int → Int := hide rcE
noncomputable def wcR : List (List Int) → List (List Int) → List Int → List Int := hide rcR
theorem wcE_eq (KL NL : List (List Int)) (pay : List Int) : wcE KL NL pay = rcE KL NL pay := by unfold wcE; rw [hide_eq]
theorem wcR_eq (KL NL : List (List Int)) (pay : List Int) : wcR KL NL pay = rcR KL NL pay := by unfold wcR; rw [hide_eq]
/-- keys as they are handed in -/
structure Kys (L : List (List Int)) : Prop where
  n : L.length ≤ 140737488355328
  all : ∀ i, In (llget L i)
/-- nonces as they are handed in -/
structure Ncs (L : List (List Int)) : Prop where
  n : L.length ≤ 140737488355328
  all : ∀ i, i < L.length → BL 16 (llget L i)

theorem chainO_zero (key nonce : Nat → List Int) (h : Nat) (pay : List Int) : chainO key nonce h pay 0 = pay := rfl
theorem chainO_succ (key nonce : Nat → List Int) (h : Nat) (pay : List Int) (j : Nat) : chainO key nonce h pay (j + 1) = wrR (key (h - 1 - j)) (nonce (h - 1 - j)) ((j + 1 : Nat) : Int) (chainO key nonce h pay j) := rfl
/-- a chain whose hops are right -/
structure Ch (key nonce : Nat → List Int) (h : Nat) (pay : List Int) : Prop where
  h8 : h ≤ 8
  key : ∀ i, i < h → (key i).length = 32
  nonce : ∀ i, i < h → BL 16 (nonce i)
  few : pay.length ≤ 48
  bs : Bs pay
theorem Ch.len {key nonce : Nat → List Int} {h : Nat} {pay : List Int} (H : Ch key nonce h pay) : ∀ j, j ≤ h → (chainO key nonce h pay j).length ≤ 48 + 34 * j ∧ (0 < j → (chainO key nonce h pay j).length = 48 + 34 * j) ∧ Bs (chainO key nonce h pay j)
  | 0, _ => ⟨by have := H.few; rw [chainO_zero]; omega, fun q => by omega, H.bs⟩
  | j + 1, hj => by
    obtain ⟨l1, l2, l3⟩ := H.len j (by omega)
    have h8 := H.h8
    have b := Go.Proofs.YtdgmgalnhignjaaDoor.G.back (m := j + 1) (H.key (h - 1 - j) (by omega)) (H.nonce (h - 1 - j) (by omega)) (by omega) (by omega) l3 (by omega)
    rw [chainO_succ, b.r]
    exact ⟨by rw [b.len]; omega, fun _ => b.len, b.bs⟩
/-- one layer of it -/
theorem Ch.layer {key nonce : Nat → List Int} {h : Nat} {pay : List Int} (H : Ch key nonce h pay) {j : Nat} (hj : j < h) : Bk (key (h - 1 - j)) (nonce (h - 1 - j)) (chainO key nonce h pay j) (chainO key nonce h pay (j + 1)) (j + 1) := by
  obtain ⟨l1, l2, l3⟩ := H.len j (by omega)
  have h8 := H.h8
  have b := Go.Proofs.YtdgmgalnhignjaaDoor.G.back (m := j + 1) (H.key (h - 1 - j) (by omega)) (H.nonce (h - 1 - j) (by omega)) (by omega) (by omega) l3 (by omega)
  rw [chainO_succ, b.r]
  exact b
/-- the rest of a chain -/
theorem chainO_rest (key nonce : Nat → List Int) (h : Nat) (pay : List Int) : ∀ j, j ≤ h → chainO (fun i => key (i + 1)) (fun i => nonce (i + 1)) h pay j = chainO key nonce (h + 1) pay j
  | 0, _ => rfl
  | j + 1, hj => by
    rw [chainO_succ, chainO_succ, chainO_rest key nonce h pay j (by omega), show h - 1 - j + 1 = h + 1 - 1 - j by omega]
theorem chainO_congr {key key' nonce nonce' : Nat → List Int} {h : Nat} (pay : List Int) (hk : ∀ i, i < h → key i = key' i) (hn : ∀ i, i < h → nonce i = nonce' i) : ∀ j, j ≤ h → chainO key nonce h pay j = chainO key' nonce' h pay j
  | 0, _ => rfl
  | j + 1, hj => by
    rw [chainO_succ, chainO_succ, chainO_congr pay hk hn j (by omega), hk _ (by omega), hn _ (by omega)]
theorem all32_true {KL : List (List Int)} : all32 KL = true ↔ ∀ i, i < KL.length → (llget KL i).length = 32 := by
  unfold all32
  rw [List.all_eq_true]
  constructor
  · intro h i hi
    have := h _ (List.mem_of_getElem? (llget_some hi))
    simpa using this
  · intro h x hx
    obtain ⟨i, hi, rfl⟩ := List.mem_iff_getElem.mp hx
    have := h i hi
    have e : llget KL i = KL[i] := by unfold llget; rw [List.getD_eq_getElem?_getD, List.getElem?_eq_getElem hi]; rfl
    rw [e] at this; simpa using this
theorem all32_false {KL : List (List Int)} {i : Nat} (hi : i < KL.length) (h : (llget KL i).length ≠ 32) : all32 KL = false := by
  cases hq : all32 KL with
  | false => rfl
  | true => exact absurd (all32_true.mp hq i hi) h
theorem faE_ok {KL NL : List (List Int)} (h : faE KL NL = 0) : 1 ≤ KL.length ∧ KL.length ≤ 8 ∧ NL.length = KL.length ∧ all32 KL = true := by
  unfold faE at h
  split at h
  · cases h
  · split at h
    · cases h
    · rename_i q _
      refine ⟨by omega, by omega, by omega, ?_⟩
      rename_i r
      cases hq : all32 KL with
      | false => exact absurd hq r
      | true => rfl
theorem rcE_ok {KL NL : List (List Int)} {pay : List Int} (h : rcE KL NL pay = 0) : faE KL NL = 0 ∧ pay.length ≤ 48 := by
  unfold rcE at h
  split at h
  · rename_i q; exact absurd h q
  · split at h
    · cases h
    · rename_i q r; exact ⟨by simpa using q, by omega⟩
theorem Ch.of {KL NL : List (List Int)} {pay : List Int} (hn : Ncs NL) (hb : Bs pay) (h : rcE KL NL pay = 0) : Ch (llget KL) (llget NL) KL.length pay := by
  obtain ⟨h1, h2⟩ := rcE_ok h
  obtain ⟨_, h8, e, h32⟩ := faE_ok h1
  exact ⟨h8, all32_true.mp h32, fun i hi => hn.all i (by omega), h2, hb⟩
theorem rcR_fail {KL NL : List (List Int)} {pay : List Int} (h : rcE KL NL pay ≠ 0) : rcR KL NL pay = [] := by unfold rcR; rw [if_neg h]
theorem pad_fill {l : List Int} (h : l.length ≤ 320) : (padR l).length = 320 := by unfold padR; rw [if_pos h]; unfold fillL; simp; omega
theorem fillL_bs' {l : List Int} (h : Bs l) : Bs (fillL l) := ⟨fun x hx => by
  unfold fillL at hx
  rcases List.mem_append.mp hx with hx | hx
  · exact h.all x hx
  · rw [(List.mem_replicate.mp hx).2]; decide⟩
theorem fillL_len' {l : List Int} (h : l.length ≤ 320) : (fillL l).length = 320 := by unfold fillL; simp; omega
theorem padR_in' {l : List Int} (h : Bs l) : In (padR l) := by
  unfold padR; split
  · exact ⟨by rw [fillL_len' (by omega)]; decide, fillL_bs' h⟩
  · exact ⟨by decide, ⟨by simp⟩⟩
theorem plainR_in' {l : List Int} (h : Bs l) : In (plainR l) := by
  unfold plainR; split
  · exact ⟨by rw [fillL_len' (by simp; omega)]; decide, fillL_bs' ⟨fun x hx => by
      rcases List.mem_cons.mp hx with hx | hx
      · subst hx; decide
      · rcases List.mem_cons.mp hx with hx | hx
        · subst hx; omega
        · exact h.all x hx⟩⟩
  · exact ⟨by decide, ⟨by simp⟩⟩
theorem pC_in' {key c : List Int} {left : Int} (hc : Bs c) : In (pC key left c) := by
  rw [pC_eq]
  unfold peC
  have hi : Bs (innO (opO key left c)) := by
    unfold innO opO
    refine lsub_bs (mask_bs (ks_bl (dvB_bl _ _)) (bl_of rfl (Go.Oni.zeros_bs _)) ?_) _ _
    unfold bxO; exact lsub_bs hc _ _
  split
  · split
    · exact padR_in' hi
    · exact plainR_in' hi
  · exact ⟨by decide, ⟨by simp⟩⟩
end Go.Rou
namespace Go.Sx
open Go.Hsh Go.Mac Go.Blk Go.Cel Go.Oni Go.Rou
noncomputable def rchainS : Spec := ⟨1, false, fun d args σ K => match args with
  | [x, y, z] => rdr σ x fun KL => rda σ 16 y fun NL => rdb σ z fun pay => (hasRoots σ ∧ Kys KL ∧ Ncs NL ∧ In pay) ∧ K (.tup [.c (.vec d), .c (.int .i64 (wcE KL NL pay))]) (Mem.ins d (.vec [.ints .u8 (wcR KL NL pay)]) σ)
  | _ => False⟩
noncomputable def gamR0 : Gam := ext (ext (ext gamO4 35 openS) 34 openS) 25 sizeS
noncomputable def gamR1 : Gam := ext gamR0 23 rchainS
end Go.Sx

/- The verification conditions of functions, printed by a program of this session out of their codes. -/
namespace Go.Proofs.YtdgmgalnhignjaaDoor.G
open Go Go.Sx Go.Oni Go.Rou
set_option linter.unusedVariables false
set_option maxRecDepth 100000

def rwrap.l1 (R : AV → Mem → Prop) (KL : List (List Int)) (NL : List (List Int)) (pay : List Int) (fuel : Nat) (x1 : Int) (x2 : List Int) : Prop := run Tryd.prog gamR0 [⟨10, [.ints .u8], false, false⟩] (resh Tryd.prog [⟨10, [.ints .u8], false, false⟩] Tryd.f23.results.toList R) fuel [.code (cAt (bodyOf Tryd.f23) [1, 1, 1, 1, 1, 0, 1, 0, 0]), .inLoop (cAt (bodyOf Tryd.f23) [1, 1, 1, 1, 1, 0, 1, 0, 0]), .inBlock 2, .code (cAt (bodyOf Tryd.f23) [1, 1, 1, 1, 1, 1])] [(AV.one (AC.vec 200000)), (AV.one (AC.vec 200001)), AV.undef, AV.undef, AV.undef, AV.undef, AV.undef, AV.undef, AV.undef, AV.undef, (AV.one (AC.vec 100010)), (AV.one (AC.int IntKind.i64 x1)), AV.undef, AV.undef, AV.undef, AV.undef, AV.undef, AV.undef, AV.undef, AV.undef, AV.undef, AV.undef, AV.undef, AV.undef, AV.undef, AV.undef, AV.undef, AV.undef, AV.undef, AV.undef, AV.undef, AV.undef, AV.undef, AV.undef, AV.undef, AV.undef, AV.undef, AV.undef, AV.undef, AV.undef, AV.undef, AV.undef, AV.undef, AV.undef, AV.undef, AV.undef, AV.undef, AV.undef, AV.undef, AV.undef, AV.undef, AV.undef, AV.undef, AV.undef, AV.undef, AV.undef, AV.undef, AV.undef, AV.undef, AV.undef, AV.undef, AV.undef, AV.undef, AV.undef, AV.undef, AV.undef, AV.undef, AV.undef, AV.undef, AV.undef, AV.undef, (AV.tup []), (AV.tup []), (AV.tup []), (AV.tup [])] [(100010, Blk.rview [(Col.ints IntKind.u8 x2)]), (200000, Blk.rview [(Col.rows IntKind.u8 KL)]), (200001, Blk.rview [(Col.arrs IntKind.u8 16 NL)]), (200002, Blk.rview [(Col.ints IntKind.u8 pay)]), (1000000, Blk.view [(Seg.ints IntKind.u32 64 Go.Hsh.rootsL)])]

def rwrap.l0 (R : AV → Mem → Prop) (KL : List (List Int)) (NL : List (List Int)) (pay : List Int) (fuel : Nat) (x0 : Int) : Prop := run Tryd.prog gamR0 [⟨10, [.ints .u8], false, false⟩] (resh Tryd.prog [⟨10, [.ints .u8], false, false⟩] Tryd.f23.results.toList R) fuel [.code (cAt (bodyOf Tryd.f23) [1, 1, 0, 1, 0, 0]), .inLoop (cAt (bodyOf Tryd.f23) [1, 1, 0, 1, 0, 0]), .inBlock 0, .code (cAt (bodyOf Tryd.f23) [1, 1, 1])] [(AV.one (AC.vec 200000)), (AV.one (AC.vec 200001)), (AV.one (AC.vec 200002)), AV.undef, AV.undef, AV.undef, AV.undef, AV.undef, AV.undef, AV.undef, (AV.tup []), (AV.tup []), (AV.tup []), (AV.tup []), AV.undef, AV.undef, AV.undef, AV.undef, AV.undef, AV.undef, AV.undef, AV.undef, AV.undef, AV.undef, AV.undef, AV.undef, AV.undef, AV.undef, AV.undef, (AV.one (AC.vec 200000)), (AV.one (AC.int IntKind.i64 (ofNat (llen KL)))), (AV.one (AC.int IntKind.i64 x0)), AV.undef, AV.undef, AV.undef, AV.undef, AV.undef, AV.undef, AV.undef, (AV.tup []), (AV.tup []), (AV.tup []), (AV.tup []), (AV.tup []), (AV.tup []), (AV.tup []), (AV.tup []), (AV.tup []), (AV.tup []), (AV.tup []), (AV.tup []), (AV.tup []), (AV.tup []), (AV.tup []), (AV.tup []), (AV.tup []), (AV.tup []), (AV.tup []), (AV.tup []), (AV.tup []), (AV.tup []), (AV.tup []), (AV.tup []), (AV.tup []), (AV.tup []), (AV.tup []), (AV.tup []), (AV.tup []), (AV.tup []), (AV.tup []), (AV.tup []), (AV.tup []), (AV.tup []), (AV.tup []), (AV.tup [])] [(200000, Blk.rview [(Col.rows IntKind.u8 KL)]), (200001, Blk.rview [(Col.arrs IntKind.u8 16 NL)]), (200002, Blk.rview [(Col.ints IntKind.u8 pay)]), (1000000, Blk.view [(Seg.ints IntKind.u32 64 Go.Hsh.rootsL)])]

theorem rwrap.l1_succ (R : AV → Mem → Prop) (KL : List (List Int)) (NL : List (List Int)) (pay : List Int) (fuel : Nat) (x1 : Int) (x2 : List Int) : rwrap.l1 R KL NL pay (fuel + 1) x1 x2 = (((((ige x1 0) = true) → ((InB x1 (llen KL)) ∧ ((InB x1 (llen NL)) ∧ (((Go.Hsh.rootsL = Go.Hsh.rootsL) ∧ ((Go.Oni.Ky (llget KL (nat x1))) ∧ ((Go.Oni.Nn (llget NL (nat x1))) ∧ ((Go.Oni.Lf (sub IntKind.i64 (ofNat (llen KL)) x1)) ∧ (Go.Oni.In x2))))) ∧ ((((ine (Go.Oni.wE (llget KL (nat x1)) (sub IntKind.i64 (ofNat (llen KL)) x1) x2) 0) = true) → (R (AV.tup [(TV.c (AC.con (Value.slice (Option.none) 0 0))), (TV.c (AC.int IntKind.i64 (Go.Oni.wE (llget KL (nat x1)) (sub IntKind.i64 (ofNat (llen KL)) x1) x2)))]) [(64, Blk.vec [(Col.ints IntKind.u8 (Go.Oni.wL (llget KL (nat x1)) (llget NL (nat x1)) (sub IntKind.i64 (ofNat (llen KL)) x1) x2))]), (100010, Blk.rview [(Col.ints IntKind.u8 x2)]), (200000, Blk.rview [(Col.rows IntKind.u8 KL)]), (200001, Blk.rview [(Col.arrs IntKind.u8 16 NL)]), (200002, Blk.rview [(Col.ints IntKind.u8 pay)]), (1000000, Blk.view [(Seg.ints IntKind.u32 64 Go.Hsh.rootsL)])])) ∧ (((ine (Go.Oni.wE (llget KL (nat x1)) (sub IntKind.i64 (ofNat (llen KL)) x1) x2) 0) = false) → (rwrap.l1 R KL NL pay fuel (sub IntKind.i64 x1 1) (Go.Oni.wL (llget KL (nat x1)) (llget NL (nat x1)) (sub IntKind.i64 (ofNat (llen KL)) x1) x2)))))))) ∧ (((ige x1 0) = false) → ((Short x2) ∧ (R (AV.tup [(TV.c (AC.vec 72)), (TV.c (AC.int IntKind.i64 (Go.Cel.padE x2)))]) [(72, Blk.vec [(Col.ints IntKind.u8 (Go.Cel.padR x2))]), (100010, Blk.rview [(Col.ints IntKind.u8 x2)]), (200000, Blk.rview [(Col.rows IntKind.u8 KL)]), (200001, Blk.rview [(Col.arrs IntKind.u8 16 NL)]), (200002, Blk.rview [(Col.ints IntKind.u8 pay)]), (1000000, Blk.view [(Seg.ints IntKind.u32 64 Go.Hsh.rootsL)])]))))) := by kernel_rfl
theorem rwrap.l0_succ (R : AV → Mem → Prop) (KL : List (List Int)) (NL : List (List Int)) (pay : List Int) (fuel : Nat) (x0 : Int) : rwrap.l0 R KL NL pay (fuel + 1) x0 = (((((ilt x0 (ofNat (llen KL))) = true) → ((InB x0 (llen KL)) ∧ ((((ine (ofNat (llen (llget KL (nat x0)))) 32) = true) → (R (AV.tup [(TV.c (AC.con (Value.slice (Option.none) 0 0))), (TV.c (AC.int IntKind.i64 2))]) [(200000, Blk.rview [(Col.rows IntKind.u8 KL)]), (200001, Blk.rview [(Col.arrs IntKind.u8 16 NL)]), (200002, Blk.rview [(Col.ints IntKind.u8 pay)]), (1000000, Blk.view [(Seg.ints IntKind.u32 64 Go.Hsh.rootsL)])])) ∧ (((ine (ofNat (llen (llget KL (nat x0)))) 32) = false) → (rwrap.l0 R KL NL pay fuel (add IntKind.i64 x0 1)))))) ∧ (((ilt x0 (ofNat (llen KL))) = false) → ((((igt (ofNat (llen pay)) 48) = true) → (R (AV.tup [(TV.c (AC.con (Value.slice (Option.none) 0 0))), (TV.c (AC.int IntKind.i64 1))]) [(200000, Blk.rview [(Col.rows IntKind.u8 KL)]), (200001, Blk.rview [(Col.arrs IntKind.u8 16 NL)]), (200002, Blk.rview [(Col.ints IntKind.u8 pay)]), (1000000, Blk.view [(Seg.ints IntKind.u32 64 Go.Hsh.rootsL)])])) ∧ (((igt (ofNat (llen pay)) 48) = false) → (rwrap.l1 R KL NL pay fuel (sub IntKind.i64 (ofNat (llen KL)) 1) pay)))))) := by kernel_rfl
theorem rwrap_vc (R : AV → Mem → Prop) (fuel : Nat) (KL : List (List Int)) (NL : List (List Int)) (pay : List Int) : callsx Tryd.prog gamR0 [⟨10, [.ints .u8], false, false⟩] Tryd.f23 (fuel + 1) [.one (.vec 200000), .one (.vec 200001), .one (.vec 200002)] [(200000, .rview [.rows .u8 KL]), (200001, .rview [.arrs .u8 16 NL]), (200002, .rview [.ints .u8 pay]), (1000000 + 0, .view [.ints .u32 64 Go.Hsh.rootsL])] R = (((((ilt (ofNat (llen KL)) 1) = false) → ((((igt (ofNat (llen KL)) 8) = false) → ((((ine (ofNat (llen NL)) (ofNat (llen KL))) = true) → (R (AV.tup [(TV.c (AC.con (Value.slice (Option.none) 0 0))), (TV.c (AC.int IntKind.i64 80))]) [(200000, Blk.rview [(Col.rows IntKind.u8 KL)]), (200001, Blk.rview [(Col.arrs IntKind.u8 16 NL)]), (200002, Blk.rview [(Col.ints IntKind.u8 pay)]), (1000000, Blk.view [(Seg.ints IntKind.u32 64 Go.Hsh.rootsL)])])) ∧ (((ine (ofNat (llen NL)) (ofNat (llen KL))) = false) → (rwrap.l0 R KL NL pay fuel 0)))) ∧ (((igt (ofNat (llen KL)) 8) = true) → (R (AV.tup [(TV.c (AC.con (Value.slice (Option.none) 0 0))), (TV.c (AC.int IntKind.i64 80))]) [(200000, Blk.rview [(Col.rows IntKind.u8 KL)]), (200001, Blk.rview [(Col.arrs IntKind.u8 16 NL)]), (200002, Blk.rview [(Col.ints IntKind.u8 pay)]), (1000000, Blk.view [(Seg.ints IntKind.u32 64 Go.Hsh.rootsL)])])))) ∧ (((ilt (ofNat (llen KL)) 1) = true) → (R (AV.tup [(TV.c (AC.con (Value.slice (Option.none) 0 0))), (TV.c (AC.int IntKind.i64 80))]) [(200000, Blk.rview [(Col.rows IntKind.u8 KL)]), (200001, Blk.rview [(Col.arrs IntKind.u8 16 NL)]), (200002, Blk.rview [(Col.ints IntKind.u8 pay)]), (1000000, Blk.view [(Seg.ints IntKind.u32 64 Go.Hsh.rootsL)])])))) := by kernel_rfl

end Go.Proofs.YtdgmgalnhignjaaDoor.G

/- Route: what is known of its functions. -/
namespace Go.Proofs.YtdgmgalnhignjaaDoor.G
open Go Go.Sx Go.Hsh Go.Mac Go.Blk Go.Cel Go.Oni Go.Rou Go.Fld
set_option maxRecDepth 20000
set_option linter.unusedSimpArgs false
set_option linter.unusedVariables false

theorem gamR0_good : GoodG Tryd.prog gamR0 := ((gamO4_good.ext good_open ⟨_, Tryd.func35, by decide, by kernel_rfl⟩).ext good_ropen ⟨_, Tryd.func34, by decide, by kernel_rfl⟩).ext good_osize ⟨_, Tryd.func25, by decide, by kernel_rfl⟩
theorem tab_snoc {α : Type} (n : Nat) (f : Nat → α) : tab (n + 1) f = tab n f ++ [f n] := by unfold tab; rw [List.range_succ, List.map_append]; rfl
theorem rwrap_l1 {R : AV → Mem → Prop} {KL NL : List (List Int)} {pay : List Int} (hk : Kys KL) (hn : Ncs NL) (hp : In pay) (h : rcE KL NL pay = 0)
    (hR : ∀ mm σ l, Mem.find σ mm = some (.vec [.ints .u8 l]) → l = padR (chainO (llget KL) (llget NL) KL.length pay KL.length) → R (.tup [.c (.vec mm), .c (.int .i64 0)]) σ) :
    ∀ (i : Nat), i ≤ KL.length → ∃ f, rwrap.l1 R KL NL pay f ((i : Int) - 1) (chainO (llget KL) (llget NL) KL.length pay (KL.length - i)) := by
  have C := Ch.of hn hp.bs h
  obtain ⟨g1, g2⟩ := rcE_ok h
  obtain ⟨q1, q2, q3, q4⟩ := faE_ok g1
  intro i
  induction i with
  | zero =>
    intro _
    obtain ⟨l1, l2, l3⟩ := C.len KL.length (Nat.le_refl _)
    refine ⟨1, ?_⟩
    rw [rwrap.l1_succ, Nat.sub_zero]
    have pe : padE (chainO (llget KL) (llget NL) KL.length pay KL.length) = 0 := by unfold padE; rw [if_pos (by omega)]
    refine ⟨fun q => ?_, fun _ => ⟨⟨by omega⟩, ?_⟩⟩
    · rw [ige_true] at q; omega
    · rw [pe]; exact hR _ _ _ rfl rfl
  | succ i ih =>
    intro hi
    obtain ⟨f, hf⟩ := ih (by omega)
    refine ⟨f + 1, ?_⟩
    have e0 : ((i + 1 : Nat) : Int) - 1 = (i : Int) := by omega
    have e1 : sub .i64 (KL.length : Int) (i : Int) = ((KL.length - i : Nat) : Int) := subN_i64 (by omega) (by omega)
    have e2 : sub .i64 (i : Int) 1 = (i : Int) - 1 := sub_i64 (by omega) (by omega)
    obtain ⟨l1, l2, l3⟩ := C.len (KL.length - (i + 1)) (by omega)
    have b := C.layer (j := KL.length - (i + 1)) (by omega)
    have e3 : KL.length - 1 - (KL.length - (i + 1)) = i := by omega
    have e4 : KL.length - (i + 1) + 1 = KL.length - i := by omega
    rw [e3, e4] at b
    rw [rwrap.l1_succ, e0]
    have w1 : wE (llget KL i) ((KL.length - i : Nat) : Int) (chainO (llget KL) (llget NL) KL.length pay (KL.length - (i + 1))) = 0 := by rw [wE_eq]; exact b.e
    have w2 : wL (llget KL i) (llget NL i) ((KL.length - i : Nat) : Int) (chainO (llget KL) (llget NL) KL.length pay (KL.length - (i + 1))) = chainO (llget KL) (llget NL) KL.length pay (KL.length - i) := by rw [wL_eq]; exact b.r
    simp only [nat_cast, ofNat_def, llen_def, e1, e2, w1, w2]
    refine ⟨fun _ => ⟨⟨by omega, by omega⟩, ⟨by omega, by omega⟩, ⟨trivial, ⟨⟨by have := (hk.all i).sh; omega⟩, (hk.all i).bs⟩, ⟨hn.all i (by omega)⟩, ⟨by omega, by omega⟩, ⟨by omega, l3⟩⟩, fun q => ?_, fun _ => hf⟩, fun q => ?_⟩
    · rw [ine_true] at q; exact absurd rfl q
    · rw [ige_false] at q; omega

theorem rwrap_l0 {R : AV → Mem → Prop} {KL NL : List (List Int)} {pay : List Int} (hk : Kys KL) (hn : Ncs NL) (hp : In pay) (h1 : 1 ≤ KL.length) (h8 : KL.length ≤ 8) (hl : NL.length = KL.length)
    (hfail : ∀ e σ, rcE KL NL pay = e → e ≠ 0 → R (.tup [.c (.con (.slice none 0 0)), .c (.int .i64 e)]) σ)
    (hR : rcE KL NL pay = 0 → ∀ mm σ l, Mem.find σ mm = some (.vec [.ints .u8 l]) → l = padR (chainO (llget KL) (llget NL) KL.length pay KL.length) → R (.tup [.c (.vec mm), .c (.int .i64 0)]) σ) :
    ∀ (k i : Nat), k = KL.length - i → i ≤ KL.length → (∀ j, j < i → (llget KL j).length = 32) → ∃ f, rwrap.l0 R KL NL pay f (i : Int) := by
  have hf80 : ∀ {b : Bool}, all32 KL = b → faE KL NL = if b = false then 2 else 0 := fun hb => by
    unfold faE; rw [if_neg (by rintro (h | h | h); omega; omega; exact h hl), hb]
  intro k
  induction k with
  | zero =>
    intro i hk0 hi hall
    obtain rfl : i = KL.length := by omega
    have ha : all32 KL = true := all32_true.mpr hall
    have hfa : faE KL NL = 0 := hf80 ha
    by_cases hpay : 48 < pay.length
    · refine ⟨1, ?_⟩
      rw [rwrap.l0_succ]
      refine ⟨fun q => ?_, fun _ => ⟨fun _ => hfail 1 _ ?_ (by decide), fun q => ?_⟩⟩
      · rw [ilt_true] at q; simp only [ofNat, llen] at q; omega
      · unfold rcE; rw [if_neg (by rw [hfa]; simp), if_pos hpay]
      · rw [igt_false] at q; simp only [ofNat, llen] at q; omega
    · have h0 : rcE KL NL pay = 0 := by unfold rcE; rw [if_neg (by rw [hfa]; simp), if_neg hpay]
      obtain ⟨f, hf⟩ := rwrap_l1 hk hn hp h0 (hR h0) KL.length (Nat.le_refl _)
      rw [Nat.sub_self, chainO_zero] at hf
      refine ⟨f + 1, ?_⟩
      rw [rwrap.l0_succ]
      have e2 : sub .i64 (KL.length : Int) 1 = (KL.length : Int) - 1 := sub_i64 (by omega) (by omega)
      simp only [ofNat_def, llen_def, e2]
      refine ⟨fun q => ?_, fun _ => ⟨fun q => ?_, fun _ => hf⟩⟩
      · rw [ilt_true] at q; omega
      · rw [igt_true] at q; omega
  | succ k ih =>
    intro i hk0 hi hall
    by_cases h32 : (llget KL i).length = 32
    · obtain ⟨f, hf⟩ := ih (i + 1) (by omega) (by omega) (fun j hj => by
        by_cases e : j = i
        · rw [e]; exact h32
        · exact hall j (by omega))
      refine ⟨f + 1, ?_⟩
      rw [rwrap.l0_succ, add1_i64 (by omega)]
      simp only [nat_cast, ofNat_def, llen_def]
      refine ⟨fun _ => ⟨⟨by omega, by omega⟩, fun q => ?_, fun _ => hf⟩, fun q => ?_⟩
      · rw [ine_true] at q; omega
      · rw [ilt_false] at q; omega
    · have hfa : faE KL NL = 2 := hf80 (all32_false (show i < KL.length by omega) h32)
      refine ⟨1, ?_⟩
      rw [rwrap.l0_succ]
      simp only [nat_cast, ofNat_def, llen_def]
      refine ⟨fun _ => ⟨⟨by omega, by omega⟩, fun _ => hfail 2 _ ?_ (by decide), fun q => ?_⟩, fun q => ?_⟩
      · unfold rcE; rw [if_pos (by rw [hfa]; decide), hfa]
      · rw [ine_false] at q; omega
      · rw [ilt_false] at q; omega

theorem good_rwrap : Sx.Good Tryd.prog 23 rchainS := by
  refine Sx.Good.reads (D := [⟨10, [.ints .u8], false, false⟩]) mixed gamR0_good Tryd.func23 (by kernel_rfl) rfl fun d args σ K h => ?_
  simp only [rchainS] at h
  split at h <;> try exact h.elim
  rename_i x y z
  obtain ⟨KL, h, hrow⟩ := rdr_row h
  obtain ⟨NL, h, hrow1⟩ := rda_row h
  obtain ⟨pay, ⟨⟨hr, hk, hn, hp⟩, hK⟩, hrow2⟩ := rdb_row h
  refine ⟨_, _, .row [.rows .u8] _ hrow (by decide) (.row [.arrs .u8 16] _ hrow1 (by decide) (.row [.ints .u8] _ hrow2 (by decide) (.glob (roots_at hr) (by intro m; rfl) (.nil _)))), by simp, ?_⟩
  rw [wcE_eq, wcR_eq] at hK
  have fail : ∀ (e : Int) (σ' : Mem), rcE KL NL pay = e → e ≠ 0 → Res d (rchainS).news σ K (.tup [.c (.con (.slice none 0 0)), .c (.int .i64 e)]) σ' := fun e σ' he h0 =>
    res_tnil (k := .u8) (.int he.symm .nil) (rcR_fail (by rw [he]; exact h0)) hK
  have good : rcE KL NL pay = 0 → ∀ mm σ' l, Mem.find σ' mm = some (.vec [.ints .u8 l]) → l = padR (chainO (llget KL) (llget NL) KL.length pay KL.length) → Res d (rchainS).news σ K (.tup [.c (.vec mm), .c (.int .i64 0)]) σ' := fun h0 mm σ' l hf hl =>
    res_tvec (k := .u8) hf (.int h0.symm .nil) (by rw [hl]; unfold rcR; rw [if_pos h0]) hK
  have f80 : (KL.length < 1 ∨ 8 < KL.length ∨ NL.length ≠ KL.length) → rcE KL NL pay = 80 := fun q => by
    have : faE KL NL = 80 := by unfold faE; rw [if_pos q]
    unfold rcE; rw [if_pos (by rw [this]; decide), this]
  by_cases hgo : KL.length < 1 ∨ 8 < KL.length ∨ NL.length ≠ KL.length
  · refine ⟨1, ?_⟩
    have e := rwrap_vc (Res d (rchainS).news σ K) 0 KL NL pay
    refine e.mpr ?_
    simp only [ofNat_def, llen_def]
    refine ⟨fun a => ⟨fun b => ⟨fun _ => fail 80 _ (f80 hgo) (by decide), fun c => ?_⟩, fun _ => fail 80 _ (f80 hgo) (by decide)⟩, fun _ => fail 80 _ (f80 hgo) (by decide)⟩
    rw [ilt_false] at a; rw [igt_false] at b; rw [ine_false] at c; omega
  · obtain ⟨f, hf⟩ := rwrap_l0 hk hn hp (by omega) (by omega) (by omega) fail good KL.length 0 rfl (by omega) (fun j hj => by omega)
    refine ⟨f + 1, ?_⟩
    have e := rwrap_vc (Res d (rchainS).news σ K) f KL NL pay
    refine e.mpr ?_
    simp only [ofNat_def, llen_def]
    refine ⟨fun a => ⟨fun b => ⟨fun c => ?_, fun c => hf⟩, fun q => ?_⟩, fun q => ?_⟩
    · rw [ine_true] at c; omega
    · rw [igt_true] at q; omega
    · rw [ilt_true] at q; omega


theorem gamR1_good : GoodG Tryd.prog gamR1 := (gamR0_good.ext good_rwrap ⟨_, Tryd.func23, by decide, by kernel_rfl⟩)

end Go.Proofs.YtdgmgalnhignjaaDoor.G

/- Answers on their way back: their mathematics and what is known of their functions. -/
namespace Go.Rep
open Go Go.Sx Go.Hsh Go.Mac Go.Blk Go.Cel Go.Oni Go.Rou Go.Fld Go.Proofs.YtdgmgalnhignjaaDoor.G
set_option linter.unusedSimpArgs false
set_option linter.unusedVariables false
def backB : List Int := [99, 104, 117, 114, 110, 32, 98, 97, 99, 107]
/-- a hop's key of the way back -/
def bkR (key nonce : List Int) : List Int := exR (hmac nonce key) backB 32
def ykE (key : List Int) : Int := if key.length = 32 then 0 else 2
def ykR (key nonce : List Int) : List Int := if key.length = 32 then bkR key nonce else []
noncomputable def ykL : List Int → List Int → List Int := hide ykR
theorem ykL_eq (key nonce : List Int) : ykL key nonce = ykR key nonce := by unfold ykL; rw [hide_eq]
def ywR (key nonce : List Int) (left : Int) (inner : List Int) : List Int := if key.length = 32 then wrR (bkR key nonce) nonce left inner else []
noncomputable def ywL : List Int → List Int → Int → List Int → List Int := hide ywR
theorem ywL_eq (key nonce : List Int) (left : Int) (inner : List Int) : ywL key nonce left inner = ywR key nonce left inner := by unfold ywL; rw [hide_eq]
/-- the keys of the way back -/
def bks (KL NL : List (List Int)) (i : Nat) : List Int := bkR (llget KL i) (llget NL i)
def ycR (KL NL : List (List Int)) (pay : List Int) : List Int := if rcE KL NL pay = 0 then padR (chainO (bks KL NL) (llget NL) KL.length pay KL.length) else []
noncomputable def ycL : List (List Int) → List (List Int) → List Int → List Int := hide ycR
theorem ycL_eq (KL NL : List (List Int)) (pay : List Int) : ycL KL NL pay = ycR KL NL pay := by unfold ycL; rw [hide_eq]
/-- hop by hop: the error, the cell -/
def wlk (key : Nat → List Int) (h : Nat) : Nat → List Int → Int × List Int
  | 0, c => (0, c)
  | n + 1, c => if peE (key (h - 1 - n)) ((n + 1 : Nat) : Int) c ≠ 0 then (peE (key (h - 1 - n)) ((n + 1 : Nat) : Int) c, []) else wlk key h n (peC (key (h - 1 - n)) ((n + 1 : Nat) : Int) c)
theorem wlk_zero (key : Nat → List Int) (h : Nat) (c : List Int) : wlk key h 0 c = (0, c) := rfl
theorem wlk_succ (key : Nat → List Int) (h n : Nat) (c : List Int) : wlk key h (n + 1) c = if peE (key (h - 1 - n)) ((n + 1 : Nat) : Int) c ≠ 0 then (peE (key (h - 1 - n)) ((n + 1 : Nat) : Int) c, []) else wlk key h n (peC (key (h - 1 - n)) ((n + 1 : Nat) : Int) c) := rfl
def yoE (KL NL : List (List Int)) (c : List Int) : Int := if faE KL NL ≠ 0 then faE KL NL else if (wlk (bks KL NL) KL.length KL.length c).1 ≠ 0 then (wlk (bks KL NL) KL.length KL.length c).1 else opE (wlk (bks KL NL) KL.length KL.length c).2
def yoR (KL NL : List (List Int)) (c : List Int) : List Int := if faE KL NL ≠ 0 then [] else if (wlk (bks KL NL) KL.length KL.length c).1 ≠ 0 then [] else opR (wlk (bks KL NL) KL.length KL.length c).2
noncomputable def yE : List (List Int) → List (List Int) → List Int → Int := hide yoE
noncomputable def yL : List (List Int) → List (List Int) → List Int → List Int := hide yoR
theorem yE_eq (KL NL : List (List Int)) (c : List Int) : yE KL NL c = yoE KL NL c := by unfold yE; rw [hide_eq]
theorem yL_eq (KL NL : List (List Int)) (c : List Int) : yL KL NL c = yoR KL NL c := by unfold yL; rw [hide_eq]

theorem bk_len (key nonce : List Int) : (bkR key nonce).length = 32 := exR_len (n := 32) (by decide) _ _
theorem bk_bs (key nonce : List Int) : Bs (bkR key nonce) := exR_bytes _ _ _
theorem bks_len (KL NL : List (List Int)) (i : Nat) : (bks KL NL i).length = 32 := bk_len _ _
theorem Ch.back {KL NL : List (List Int)} {pay : List Int} (hn : Ncs NL) (hb : Bs pay) (h : rcE KL NL pay = 0) : Ch (bks KL NL) (llget NL) KL.length pay := by
  obtain ⟨h1, h2⟩ := rcE_ok h
  obtain ⟨_, h8, e, h32⟩ := faE_ok h1
  exact ⟨h8, fun i _ => bks_len _ _ _, fun i hi => hn.all i (by omega), h2, hb⟩
theorem ycR_fail {KL NL : List (List Int)} {pay : List Int} (h : rcE KL NL pay ≠ 0) : ycR KL NL pay = [] := by unfold ycR; rw [if_neg h]
theorem ycR_in {KL NL : List (List Int)} {pay : List Int} (hn : Ncs NL) (hb : Bs pay) : In (ycR KL NL pay) := by
  unfold ycR
  split
  · rename_i h
    exact padR_in' ((Ch.back hn hb h).len _ (Nat.le_refl _)).2.2
  · exact ⟨by decide, ⟨by simp⟩⟩
theorem ycL_in {KL NL : List (List Int)} {pay : List Int} (hn : Ncs NL) (hb : Bs pay) : In (ycL KL NL pay) := by rw [ycL_eq]; exact ycR_in hn hb
theorem ykL_in (key nonce : List Int) : In (ykL key nonce) := by
  rw [ykL_eq]; unfold ykR; split
  · exact ⟨by rw [bk_len]; decide, bk_bs _ _⟩
  · exact ⟨by decide, Bs.nil⟩
theorem ywE_same {key nonce : List Int} {left : Int} {inner : List Int} (h : key.length = 32) : wrE (bkR key nonce) left inner = wrE key left inner := by
  unfold wrE; rw [bk_len, h]
/-- a cell that was wrapped hop by hop opens hop by hop -/
theorem wlk_back {key nonce : Nat → List Int} {h : Nat} {pay : List Int} (C : Ch key nonce h pay) : ∀ n, n ≤ h → wlk key h n (if n = 0 then plainR pay else padR (chainO key nonce h pay n)) = (0, plainR pay)
  | 0, _ => by rw [wlk_zero, if_pos rfl]
  | n + 1, hn => by
    have b := C.layer (j := n) (by omega)
    rw [if_neg (by omega), wlk_succ, if_neg (by rw [b.pE]; simp), b.pC]
    have ih := wlk_back C n (by omega)
    by_cases h0 : n = 0
    · subst h0
      rw [if_neg (by simp), chainO_zero]
      rw [if_pos rfl] at ih; exact ih
    · rw [if_pos (by omega)]
      rw [if_neg h0] at ih; exact ih
end Go.Rep
namespace Go.Sx
open Go.Hsh Go.Mac Go.Blk Go.Cel Go.Oni Go.Rou Go.Rep
noncomputable def ykeyS : Spec := ⟨1, false, fun d args σ K => match args with
  | [x, .agg [.ints .u8 16 nonce]] => rdb σ x fun key => (hasRoots σ ∧ Ky key ∧ Nn nonce) ∧ K (.tup [.c (.vec d), .c (.int .i64 (ykE key))]) (Mem.ins d (.vec [.ints .u8 (ykL key nonce)]) σ)
  | _ => False⟩
noncomputable def yrkeyS : Spec := ⟨1, false, fun d args σ K => match args with
  | [x, .agg [.ints .u8 16 nonce]] => rdb σ x fun key => (Ky key ∧ Nn nonce) ∧ K (.tup [.c (.vec d), .c (.int .i64 (ykE key))]) (Mem.ins d (.vec [.ints .u8 (ykL key nonce)]) σ)
  | _ => False⟩
def yfaultS : Spec := ⟨0, false, fun _ args σ K => match args with
  | [x, y] => rdr σ x fun KL => rda σ 16 y fun NL => (Kys KL ∧ Ncs NL) ∧ K (.one (.int .i64 (faE KL NL))) σ
  | _ => False⟩
noncomputable def ywrapS : Spec := ⟨1, false, fun d args σ K => match args with
  | [x, .agg [.ints .u8 16 nonce], .one (.int .i64 left), y] => rdb σ x fun key => rdb σ y fun inner => (hasRoots σ ∧ Ky key ∧ Nn nonce ∧ Lf left ∧ In inner) ∧ K (.tup [.c (.vec d), .c (.int .i64 (wE key left inner))]) (Mem.ins d (.vec [.ints .u8 (ywL key nonce left inner)]) σ)
  | _ => False⟩
noncomputable def yrwrapS : Spec := ⟨1, false, fun d args σ K => match args with
  | [x, .agg [.ints .u8 16 nonce], .one (.int .i64 left), y] => rdb σ x fun key => rdb σ y fun inner => (Ky key ∧ Nn nonce ∧ Lf left ∧ In inner) ∧ K (.tup [.c (.vec d), .c (.int .i64 (wE key left inner))]) (Mem.ins d (.vec [.ints .u8 (ywL key nonce left inner)]) σ)
  | _ => False⟩
noncomputable def ychainS : Spec := ⟨1, false, fun d args σ K => match args with
  | [x, y, z] => rdr σ x fun KL => rda σ 16 y fun NL => rdb σ z fun pay => (hasRoots σ ∧ Kys KL ∧ Ncs NL ∧ In pay) ∧ K (.tup [.c (.vec d), .c (.int .i64 (wcE KL NL pay))]) (Mem.ins d (.vec [.ints .u8 (ycL KL NL pay)]) σ)
  | _ => False⟩
noncomputable def yrchainS : Spec := ⟨1, false, fun d args σ K => match args with
  | [x, y, z] => rdr σ x fun KL => rda σ 16 y fun NL => rdb σ z fun pay => (Kys KL ∧ Ncs NL ∧ In pay) ∧ K (.tup [.c (.vec d), .c (.int .i64 (wcE KL NL pay))]) (Mem.ins d (.vec [.ints .u8 (ycL KL NL pay)]) σ)
  | _ => False⟩
noncomputable def yopenS : Spec := ⟨1, false, fun d args σ K => match args with
  | [x, y, z] => rdr σ x fun KL => rda σ 16 y fun NL => rdb σ z fun c => (hasRoots σ ∧ Kys KL ∧ Ncs NL ∧ In c) ∧ K (.tup [.c (.vec d), .c (.int .i64 (yE KL NL c))]) (Mem.ins d (.vec [.ints .u8 (yL KL NL c)]) σ)
  | _ => False⟩
noncomputable def yropenS : Spec := ⟨1, false, fun d args σ K => match args with
  | [x, y, z] => rdr σ x fun KL => rda σ 16 y fun NL => rdb σ z fun c => (Kys KL ∧ Ncs NL ∧ In c) ∧ K (.tup [.c (.vec d), .c (.int .i64 (yE KL NL c))]) (Mem.ins d (.vec [.ints .u8 (yL KL NL c)]) σ)
  | _ => False⟩
/-- the error of a job, as a law tells it -/
noncomputable def yfitS : Spec := ⟨0, false, fun _ args σ K => match args with
  | [.agg [.cells [x], .cells [y], .cells [z]]] => rdr σ (.one x) fun KL => rda σ 16 (.one y) fun NL => rdb σ (.one z) fun pay => (Kys KL ∧ Ncs NL ∧ In pay) ∧ K (.one (.int .i64 (wcE KL NL pay))) σ
  | _ => False⟩
noncomputable def gamY1 : Gam := ext (ext (ext (ext gamR1 11 ykeyS) 10 yrkeyS) 32 yfaultS) 30 yfaultS
noncomputable def gamY2 : Gam := ext (ext gamY1 13 ywrapS) 12 yrwrapS
noncomputable def gamY3 : Gam := ext (ext (ext (ext gamY2 15 ychainS) 14 yrchainS) 17 yopenS) 16 yropenS
noncomputable def gamY4 : Gam := ext (ext gamY3 9 yesR) 18 yfitS
end Go.Sx

/- The verification conditions of functions, printed by a program of this session out of their codes. -/
namespace Go.Proofs.YtdgmgalnhignjaaDoor.G
open Go Go.Sx Go.Oni Go.Rou Go.Rep
set_option linter.unusedVariables false
set_option maxRecDepth 100000

theorem ykey_vc (R : AV → Mem → Prop) (fuel : Nat) (key : List Int) (nonce : List Int) : callsx Tryd.prog gamR1 [] Tryd.f11 (fuel + 1) [.one (.vec 200000), .agg [.ints .u8 16 nonce]] [(200000, .rview [.ints .u8 key]), (1000000 + 0, .view [.ints .u32 64 Go.Hsh.rootsL])] R = (((((ine (ofNat (llen key)) 32) = true) → (R (AV.tup [(TV.c (AC.con (Value.slice (Option.none) 0 0))), (TV.c (AC.int IntKind.i64 2))]) [(3, Blk.own 23 [(Seg.ints IntKind.u8 16 nonce)]), (200000, Blk.rview [(Col.ints IntKind.u8 key)]), (1000000, Blk.view [(Seg.ints IntKind.u32 64 Go.Hsh.rootsL)])])) ∧ (((ine (ofNat (llen key)) 32) = false) → ((InB 0 10) ∧ ((Fits 16 16) ∧ (((Go.Hsh.rootsL = Go.Hsh.rootsL) ∧ ((Go.Mac.Sg key) ∧ ((Go.Mac.Sg (lsub nonce 0 16)) ∧ (Go.Mac.Sm47 [99, 104, 117, 114, 110, 32, 98, 97, 99, 107])))) ∧ (R (AV.tup [(TV.c (AC.vec 13)), (TV.c (AC.int IntKind.i64 (Go.Mac.exE 32)))]) [(3, Blk.own 23 [(Seg.ints IntKind.u8 16 nonce)]), (11, Blk.rview [(Col.ints IntKind.u8 [99, 104, 117, 114, 110, 32, 98, 97, 99, 107])]), (13, Blk.vec [(Col.ints IntKind.u8 (Go.Mac.exL (Go.Mac.tagL (lsub nonce 0 16) key) [99, 104, 117, 114, 110, 32, 98, 97, 99, 107] 32))]), (200000, Blk.rview [(Col.ints IntKind.u8 key)]), (1000000, Blk.view [(Seg.ints IntKind.u32 64 Go.Hsh.rootsL)])]))))))) := by kernel_rfl

theorem yrkey_vc (R : AV → Mem → Prop) (fuel : Nat) (key : List Int) (nonce : List Int) : callsx Tryd.prog gamR1 [] Tryd.f10 (fuel + 1) [.one (.vec 200000), .agg [.ints .u8 16 nonce]] [(200000, .rview [.ints .u8 key])] R = (((((ine (ofNat (llen key)) 32) = true) → (R (AV.tup [(TV.c (AC.con (Value.slice (Option.none) 0 0))), (TV.c (AC.int IntKind.i64 2))]) [(3, Blk.own 23 [(Seg.ints IntKind.u8 16 nonce)]), (200000, Blk.rview [(Col.ints IntKind.u8 key)])])) ∧ (((ine (ofNat (llen key)) 32) = false) → ((InB 0 10) ∧ ((Fits 16 16) ∧ ((((Go.Mac.Sg key) ∧ (Bs key)) ∧ (((Go.Mac.Sg (lsub nonce 0 16)) ∧ (Bs (lsub nonce 0 16))) ∧ ((Go.Mac.Sm47 [99, 104, 117, 114, 110, 32, 98, 97, 99, 107]) ∧ (Bs [99, 104, 117, 114, 110, 32, 98, 97, 99, 107])))) ∧ (R (AV.tup [(TV.c (AC.vec 13)), (TV.c (AC.int IntKind.i64 (Go.Mac.exE 32)))]) [(3, Blk.own 23 [(Seg.ints IntKind.u8 16 nonce)]), (11, Blk.rview [(Col.ints IntKind.u8 [99, 104, 117, 114, 110, 32, 98, 97, 99, 107])]), (13, Blk.vec [(Col.ints IntKind.u8 (Go.Mac.exL (Go.Mac.tagL (lsub nonce 0 16) key) [99, 104, 117, 114, 110, 32, 98, 97, 99, 107] 32))]), (200000, Blk.rview [(Col.ints IntKind.u8 key)])]))))))) := by kernel_rfl

def yfault.l0 (R : AV → Mem → Prop) (KL : List (List Int)) (NL : List (List Int)) (fuel : Nat) (x0 : Int) : Prop := run Tryd.prog gamR1 [] (resh Tryd.prog [] Tryd.f32.results.toList R) fuel [.code (cAt (bodyOf Tryd.f32) [1, 1, 0, 1, 0, 0]), .inLoop (cAt (bodyOf Tryd.f32) [1, 1, 0, 1, 0, 0]), .inBlock 0, .code (cAt (bodyOf Tryd.f32) [1, 1, 1])] [Uu, Uu, Uu, Uu, Uu, Uu, Uu, Uu, Uu, Uu, Uu, Uu, Uu, Uu, Uu, Uu, Uu, Uu, Uu, Uu, Uu, Uu, (AV.one (AC.vec 200000)), (AV.one (AC.int IntKind.i64 (ofNat (llen KL)))), (AV.one (AC.int IntKind.i64 x0)), Uu, Uu, Uu, Uu, Uu, Uu, Uu] [(200000, Blk.rview [(Col.rows IntKind.u8 KL)]), (200001, Blk.rview [(Col.arrs IntKind.u8 16 NL)])]

theorem yfault.l0_succ (R : AV → Mem → Prop) (KL : List (List Int)) (NL : List (List Int)) (fuel : Nat) (x0 : Int) : yfault.l0 R KL NL (fuel + 1) x0 = (((((ilt x0 (ofNat (llen KL))) = true) → ((InB x0 (llen KL)) ∧ ((((ine (ofNat (llen (llget KL (nat x0)))) 32) = true) → (R (AV.one (AC.int IntKind.i64 2)) [(200000, Blk.rview [(Col.rows IntKind.u8 KL)]), (200001, Blk.rview [(Col.arrs IntKind.u8 16 NL)])])) ∧ (((ine (ofNat (llen (llget KL (nat x0)))) 32) = false) → (yfault.l0 R KL NL fuel (add IntKind.i64 x0 1)))))) ∧ (((ilt x0 (ofNat (llen KL))) = false) → (R (AV.one (AC.int IntKind.i64 0)) [(200000, Blk.rview [(Col.rows IntKind.u8 KL)]), (200001, Blk.rview [(Col.arrs IntKind.u8 16 NL)])])))) := by kernel_rfl
theorem yfault_vc (R : AV → Mem → Prop) (fuel : Nat) (KL : List (List Int)) (NL : List (List Int)) : callsx Tryd.prog gamR1 [] Tryd.f32 (fuel + 1) [.one (.vec 200000), .one (.vec 200001)] [(200000, .rview [.rows .u8 KL]), (200001, .rview [.arrs .u8 16 NL])] R = (((((ilt (ofNat (llen KL)) 1) = false) → ((((igt (ofNat (llen KL)) 8) = false) → ((((ine (ofNat (llen NL)) (ofNat (llen KL))) = true) → (R (AV.one (AC.int IntKind.i64 80)) [(200000, Blk.rview [(Col.rows IntKind.u8 KL)]), (200001, Blk.rview [(Col.arrs IntKind.u8 16 NL)])])) ∧ (((ine (ofNat (llen NL)) (ofNat (llen KL))) = false) → (yfault.l0 R KL NL fuel 0)))) ∧ (((igt (ofNat (llen KL)) 8) = true) → (R (AV.one (AC.int IntKind.i64 80)) [(200000, Blk.rview [(Col.rows IntKind.u8 KL)]), (200001, Blk.rview [(Col.arrs IntKind.u8 16 NL)])])))) ∧ (((ilt (ofNat (llen KL)) 1) = true) → (R (AV.one (AC.int IntKind.i64 80)) [(200000, Blk.rview [(Col.rows IntKind.u8 KL)]), (200001, Blk.rview [(Col.arrs IntKind.u8 16 NL)])])))) := by kernel_rfl

def ywrong.l0 (R : AV → Mem → Prop) (KL : List (List Int)) (NL : List (List Int)) (fuel : Nat) (x0 : Int) : Prop := run Tryd.prog gamR1 [] (resh Tryd.prog [] Tryd.f30.results.toList R) fuel [.code (cAt (bodyOf Tryd.f30) [1, 1, 0, 1, 0, 0]), .inLoop (cAt (bodyOf Tryd.f30) [1, 1, 0, 1, 0, 0]), .inBlock 0, .code (cAt (bodyOf Tryd.f30) [1, 1, 1])] [(AV.one (AC.vec 200000)), Uu, Uu, Uu, Uu, (AV.one (AC.int IntKind.i64 x0)), Uu, Uu, Uu, Uu, Uu, Uu, Uu, Uu, Uu, Uu, Uu, Uu, Uu, Uu, Uu, Uu, Uu, Uu, Uu, Uu, Uu, Uu, Uu, Uu, Uu, Uu, Uu] [(200000, Blk.rview [(Col.rows IntKind.u8 KL)]), (200001, Blk.rview [(Col.arrs IntKind.u8 16 NL)])]

theorem ywrong.l0_succ (R : AV → Mem → Prop) (KL : List (List Int)) (NL : List (List Int)) (fuel : Nat) (x0 : Int) : ywrong.l0 R KL NL (fuel + 1) x0 = (((((ilt x0 (ofNat (llen KL))) = true) → ((InB x0 (llen KL)) ∧ ((((ine (ofNat (llen (llget KL (nat x0)))) 32) = true) → (R (AV.one (AC.int IntKind.i64 2)) [(200000, Blk.rview [(Col.rows IntKind.u8 KL)]), (200001, Blk.rview [(Col.arrs IntKind.u8 16 NL)])])) ∧ (((ine (ofNat (llen (llget KL (nat x0)))) 32) = false) → (ywrong.l0 R KL NL fuel (add IntKind.i64 x0 1)))))) ∧ (((ilt x0 (ofNat (llen KL))) = false) → (R (AV.one (AC.int IntKind.i64 0)) [(200000, Blk.rview [(Col.rows IntKind.u8 KL)]), (200001, Blk.rview [(Col.arrs IntKind.u8 16 NL)])])))) := by kernel_rfl
theorem ywrong_vc (R : AV → Mem → Prop) (fuel : Nat) (KL : List (List Int)) (NL : List (List Int)) : callsx Tryd.prog gamR1 [] Tryd.f30 (fuel + 1) [.one (.vec 200000), .one (.vec 200001)] [(200000, .rview [.rows .u8 KL]), (200001, .rview [.arrs .u8 16 NL])] R = (((((ilt (ofNat (llen KL)) 1) = false) → ((((igt (ofNat (llen KL)) 8) = false) → ((((ine (ofNat (llen NL)) (ofNat (llen KL))) = true) → (R (AV.one (AC.int IntKind.i64 80)) [(200000, Blk.rview [(Col.rows IntKind.u8 KL)]), (200001, Blk.rview [(Col.arrs IntKind.u8 16 NL)])])) ∧ (((ine (ofNat (llen NL)) (ofNat (llen KL))) = false) → (ywrong.l0 R KL NL fuel 0)))) ∧ (((igt (ofNat (llen KL)) 8) = true) → (R (AV.one (AC.int IntKind.i64 80)) [(200000, Blk.rview [(Col.rows IntKind.u8 KL)]), (200001, Blk.rview [(Col.arrs IntKind.u8 16 NL)])])))) ∧ (((ilt (ofNat (llen KL)) 1) = true) → (R (AV.one (AC.int IntKind.i64 80)) [(200000, Blk.rview [(Col.rows IntKind.u8 KL)]), (200001, Blk.rview [(Col.arrs IntKind.u8 16 NL)])])))) := by kernel_rfl

theorem ywrap_vc (R : AV → Mem → Prop) (fuel : Nat) (key : List Int) (nonce : List Int) (inner : List Int) (left : Int) : callsx Tryd.prog gamY1 [] Tryd.f13 (fuel + 1) [.one (.vec 200000), .agg [.ints .u8 16 nonce], .one (.int .i64 left), .one (.vec 200003)] [(200000, .rview [.ints .u8 key]), (200003, .rview [.ints .u8 inner]), (1000000 + 0, .view [.ints .u32 64 Go.Hsh.rootsL])] R = ((((Go.Hsh.rootsL = Go.Hsh.rootsL) ∧ ((Go.Oni.Ky key) ∧ (Go.Oni.Nn nonce))) ∧ ((((ine (Go.Rep.ykE key) 0) = true) → (R (AV.tup [(TV.c (AC.con (Value.slice (Option.none) 0 0))), (TV.c (AC.int IntKind.i64 (Go.Rep.ykE key)))]) [(5, Blk.own 23 [(Seg.ints IntKind.u8 16 nonce)]), (15, Blk.vec [(Col.ints IntKind.u8 (Go.Rep.ykL key nonce))]), (200000, Blk.rview [(Col.ints IntKind.u8 key)]), (200003, Blk.rview [(Col.ints IntKind.u8 inner)]), (1000000, Blk.view [(Seg.ints IntKind.u32 64 Go.Hsh.rootsL)])])) ∧ (((ine (Go.Rep.ykE key) 0) = false) → (((Go.Hsh.rootsL = Go.Hsh.rootsL) ∧ ((Go.Oni.Ky (Go.Rep.ykL key nonce)) ∧ ((Go.Oni.Nn nonce) ∧ ((Go.Oni.Lf left) ∧ (Go.Oni.In inner))))) ∧ (R (AV.tup [(TV.c (AC.vec 25)), (TV.c (AC.int IntKind.i64 (Go.Oni.wE (Go.Rep.ykL key nonce) left inner)))]) [(5, Blk.own 23 [(Seg.ints IntKind.u8 16 nonce)]), (15, Blk.vec [(Col.ints IntKind.u8 (Go.Rep.ykL key nonce))]), (25, Blk.vec [(Col.ints IntKind.u8 (Go.Oni.wL (Go.Rep.ykL key nonce) nonce left inner))]), (200000, Blk.rview [(Col.ints IntKind.u8 key)]), (200003, Blk.rview [(Col.ints IntKind.u8 inner)]), (1000000, Blk.view [(Seg.ints IntKind.u32 64 Go.Hsh.rootsL)])])))))) := by kernel_rfl

theorem yrwrap_vc (R : AV → Mem → Prop) (fuel : Nat) (key : List Int) (nonce : List Int) (inner : List Int) (left : Int) : callsx Tryd.prog gamY1 [] Tryd.f12 (fuel + 1) [.one (.vec 200000), .agg [.ints .u8 16 nonce], .one (.int .i64 left), .one (.vec 200003)] [(200000, .rview [.ints .u8 key]), (200003, .rview [.ints .u8 inner])] R = ((((Go.Oni.Ky key) ∧ (Go.Oni.Nn nonce)) ∧ ((((ine (Go.Rep.ykE key) 0) = true) → (R (AV.tup [(TV.c (AC.con (Value.slice (Option.none) 0 0))), (TV.c (AC.int IntKind.i64 (Go.Rep.ykE key)))]) [(5, Blk.own 23 [(Seg.ints IntKind.u8 16 nonce)]), (15, Blk.vec [(Col.ints IntKind.u8 (Go.Rep.ykL key nonce))]), (200000, Blk.rview [(Col.ints IntKind.u8 key)]), (200003, Blk.rview [(Col.ints IntKind.u8 inner)])])) ∧ (((ine (Go.Rep.ykE key) 0) = false) → (((Go.Oni.Ky (Go.Rep.ykL key nonce)) ∧ ((Go.Oni.Nn nonce) ∧ ((Go.Oni.Lf left) ∧ (Go.Oni.In inner)))) ∧ (R (AV.tup [(TV.c (AC.vec 25)), (TV.c (AC.int IntKind.i64 (Go.Oni.wE (Go.Rep.ykL key nonce) left inner)))]) [(5, Blk.own 23 [(Seg.ints IntKind.u8 16 nonce)]), (15, Blk.vec [(Col.ints IntKind.u8 (Go.Rep.ykL key nonce))]), (25, Blk.vec [(Col.ints IntKind.u8 (Go.Oni.wL (Go.Rep.ykL key nonce) nonce left inner))]), (200000, Blk.rview [(Col.ints IntKind.u8 key)]), (200003, Blk.rview [(Col.ints IntKind.u8 inner)])])))))) := by kernel_rfl

def ychain.l0 (R : AV → Mem → Prop) (KL : List (List Int)) (NL : List (List Int)) (pay : List Int) (fuel : Nat) (x0 : Int) (x1 : List Int) : Prop := run Tryd.prog gamY2 [⟨9, [.ints .u8], false, false⟩] (resh Tryd.prog [⟨9, [.ints .u8], false, false⟩] Tryd.f15.results.toList R) fuel [.code (cAt (bodyOf Tryd.f15) [1, 1, 1, 1, 0, 1, 0, 0]), .inLoop (cAt (bodyOf Tryd.f15) [1, 1, 1, 1, 0, 1, 0, 0]), .inBlock 0, .code (cAt (bodyOf Tryd.f15) [1, 1, 1, 1, 1])] [(AV.one (AC.vec 200000)), (AV.one (AC.vec 200001)), Uu, Uu, Uu, Uu, Uu, Uu, Uu, (AV.one (AC.vec 100009)), (AV.one (AC.int IntKind.i64 x0)), Uu, Uu, Uu, Uu, Uu, Uu, Uu, Uu, Uu, Uu, Uu, Uu, Uu, Uu, Uu, Uu, Uu, Uu, Uu, Uu, Uu, Uu, Uu, Uu, Uu, Uu, Uu, Uu, Uu, Uu, Uu, Uu, Uu, Uu, Uu, Uu, Uu, Uu, Uu, Uu, Zz, Zz, Zz, Zz] [(100009, Blk.rview [(Col.ints IntKind.u8 x1)]), (200000, Blk.rview [(Col.rows IntKind.u8 KL)]), (200001, Blk.rview [(Col.arrs IntKind.u8 16 NL)]), (200002, Blk.rview [(Col.ints IntKind.u8 pay)]), (1000000, Blk.view [(Seg.ints IntKind.u32 64 Go.Hsh.rootsL)])]

theorem ychain.l0_succ (R : AV → Mem → Prop) (KL : List (List Int)) (NL : List (List Int)) (pay : List Int) (fuel : Nat) (x0 : Int) (x1 : List Int) : ychain.l0 R KL NL pay (fuel + 1) x0 x1 = (((((ige x0 0) = true) → ((InB x0 (llen KL)) ∧ ((InB x0 (llen NL)) ∧ (((Go.Hsh.rootsL = Go.Hsh.rootsL) ∧ ((Go.Oni.Ky (llget KL (nat x0))) ∧ ((Go.Oni.Nn (llget NL (nat x0))) ∧ ((Go.Oni.Lf (sub IntKind.i64 (ofNat (llen KL)) x0)) ∧ (Go.Oni.In x1))))) ∧ ((((ine (Go.Oni.wE (llget KL (nat x0)) (sub IntKind.i64 (ofNat (llen KL)) x0) x1) 0) = true) → (R (AV.tup [(TV.c (AC.con (Value.slice (Option.none) 0 0))), (TV.c (AC.int IntKind.i64 (Go.Oni.wE (llget KL (nat x0)) (sub IntKind.i64 (ofNat (llen KL)) x0) x1)))]) [(44, Blk.vec [(Col.ints IntKind.u8 (Go.Rep.ywL (llget KL (nat x0)) (llget NL (nat x0)) (sub IntKind.i64 (ofNat (llen KL)) x0) x1))]), (100009, Blk.rview [(Col.ints IntKind.u8 x1)]), (200000, Blk.rview [(Col.rows IntKind.u8 KL)]), (200001, Blk.rview [(Col.arrs IntKind.u8 16 NL)]), (200002, Blk.rview [(Col.ints IntKind.u8 pay)]), (1000000, Blk.view [(Seg.ints IntKind.u32 64 Go.Hsh.rootsL)])])) ∧ (((ine (Go.Oni.wE (llget KL (nat x0)) (sub IntKind.i64 (ofNat (llen KL)) x0) x1) 0) = false) → (ychain.l0 R KL NL pay fuel (sub IntKind.i64 x0 1) (Go.Rep.ywL (llget KL (nat x0)) (llget NL (nat x0)) (sub IntKind.i64 (ofNat (llen KL)) x0) x1)))))))) ∧ (((ige x0 0) = false) → ((Short x1) ∧ (R (AV.tup [(TV.c (AC.vec 52)), (TV.c (AC.int IntKind.i64 (Go.Cel.padE x1)))]) [(52, Blk.vec [(Col.ints IntKind.u8 (Go.Cel.padR x1))]), (100009, Blk.rview [(Col.ints IntKind.u8 x1)]), (200000, Blk.rview [(Col.rows IntKind.u8 KL)]), (200001, Blk.rview [(Col.arrs IntKind.u8 16 NL)]), (200002, Blk.rview [(Col.ints IntKind.u8 pay)]), (1000000, Blk.view [(Seg.ints IntKind.u32 64 Go.Hsh.rootsL)])]))))) := by kernel_rfl
theorem ychain_vc (R : AV → Mem → Prop) (fuel : Nat) (KL : List (List Int)) (NL : List (List Int)) (pay : List Int) : callsx Tryd.prog gamY2 [⟨9, [.ints .u8], false, false⟩] Tryd.f15 (fuel + 1) [.one (.vec 200000), .one (.vec 200001), .one (.vec 200002)] [(200000, .rview [.rows .u8 KL]), (200001, .rview [.arrs .u8 16 NL]), (200002, .rview [.ints .u8 pay]), (1000000 + 0, .view [.ints .u32 64 Go.Hsh.rootsL])] R = ((((Go.Rou.Kys KL) ∧ (Go.Rou.Ncs NL)) ∧ ((((ine (Go.Rou.faE KL NL) 0) = true) → (R (AV.tup [(TV.c (AC.con (Value.slice (Option.none) 0 0))), (TV.c (AC.int IntKind.i64 (Go.Rou.faE KL NL)))]) [(200000, Blk.rview [(Col.rows IntKind.u8 KL)]), (200001, Blk.rview [(Col.arrs IntKind.u8 16 NL)]), (200002, Blk.rview [(Col.ints IntKind.u8 pay)]), (1000000, Blk.view [(Seg.ints IntKind.u32 64 Go.Hsh.rootsL)])])) ∧ (((ine (Go.Rou.faE KL NL) 0) = false) → ((((igt (ofNat (llen pay)) 48) = true) → (R (AV.tup [(TV.c (AC.con (Value.slice (Option.none) 0 0))), (TV.c (AC.int IntKind.i64 1))]) [(200000, Blk.rview [(Col.rows IntKind.u8 KL)]), (200001, Blk.rview [(Col.arrs IntKind.u8 16 NL)]), (200002, Blk.rview [(Col.ints IntKind.u8 pay)]), (1000000, Blk.view [(Seg.ints IntKind.u32 64 Go.Hsh.rootsL)])])) ∧ (((igt (ofNat (llen pay)) 48) = false) → (ychain.l0 R KL NL pay fuel (sub IntKind.i64 (ofNat (llen KL)) 1) pay))))))) := by kernel_rfl

def yrchain.l0 (R : AV → Mem → Prop) (KL : List (List Int)) (NL : List (List Int)) (pay : List Int) (fuel : Nat) (x0 : Int) (x1 : List Int) : Prop := run Tryd.prog gamY2 [⟨9, [.ints .u8], false, false⟩] (resh Tryd.prog [⟨9, [.ints .u8], false, false⟩] Tryd.f14.results.toList R) fuel [.code (cAt (bodyOf Tryd.f14) [1, 1, 1, 1, 1, 1, 0, 1, 0, 0]), .inLoop (cAt (bodyOf Tryd.f14) [1, 1, 1, 1, 1, 1, 0, 1, 0, 0]), .inBlock 0, .code (cAt (bodyOf Tryd.f14) [1, 1, 1, 1, 1, 1, 1])] [(AV.one (AC.vec 200000)), (AV.one (AC.vec 200001)), Uu, Uu, Uu, Uu, Uu, Uu, Uu, (AV.one (AC.vec 100009)), (AV.one (AC.int IntKind.i64 (ofNat (llen KL)))), (AV.one (AC.int IntKind.i64 x0)), Uu, Uu, Uu, Uu, Uu, Uu, Uu, Uu, Uu, Uu, Uu, Uu, Uu, Uu, Uu, Uu, Uu, Uu, Uu, Uu, Uu, Uu, Uu, Uu, Uu, Uu, Uu, Uu, Uu, Uu, Uu, Uu, Uu, Uu, Zz, Zz, Zz, Zz] [(100009, Blk.rview [(Col.ints IntKind.u8 x1)]), (200000, Blk.rview [(Col.rows IntKind.u8 KL)]), (200001, Blk.rview [(Col.arrs IntKind.u8 16 NL)]), (200002, Blk.rview [(Col.ints IntKind.u8 pay)])]

theorem yrchain.l0_succ (R : AV → Mem → Prop) (KL : List (List Int)) (NL : List (List Int)) (pay : List Int) (fuel : Nat) (x0 : Int) (x1 : List Int) : yrchain.l0 R KL NL pay (fuel + 1) x0 x1 = (((((ige x0 0) = true) → ((InB x0 (llen KL)) ∧ ((InB x0 (llen NL)) ∧ (((Go.Oni.Ky (llget KL (nat x0))) ∧ ((Go.Oni.Nn (llget NL (nat x0))) ∧ ((Go.Oni.Lf (sub IntKind.i64 (ofNat (llen KL)) x0)) ∧ (Go.Oni.In x1)))) ∧ (yrchain.l0 R KL NL pay fuel (sub IntKind.i64 x0 1) (Go.Rep.ywL (llget KL (nat x0)) (llget NL (nat x0)) (sub IntKind.i64 (ofNat (llen KL)) x0) x1)))))) ∧ (((ige x0 0) = false) → ((Short x1) ∧ (R (AV.tup [(TV.c (AC.vec 47)), (TV.c (AC.int IntKind.i64 (Go.Cel.padE x1)))]) [(47, Blk.vec [(Col.ints IntKind.u8 (Go.Cel.padR x1))]), (100009, Blk.rview [(Col.ints IntKind.u8 x1)]), (200000, Blk.rview [(Col.rows IntKind.u8 KL)]), (200001, Blk.rview [(Col.arrs IntKind.u8 16 NL)]), (200002, Blk.rview [(Col.ints IntKind.u8 pay)])]))))) := by kernel_rfl
theorem yrchain_vc (R : AV → Mem → Prop) (fuel : Nat) (KL : List (List Int)) (NL : List (List Int)) (pay : List Int) : callsx Tryd.prog gamY2 [⟨9, [.ints .u8], false, false⟩] Tryd.f14 (fuel + 1) [.one (.vec 200000), .one (.vec 200001), .one (.vec 200002)] [(200000, .rview [.rows .u8 KL]), (200001, .rview [.arrs .u8 16 NL]), (200002, .rview [.ints .u8 pay])] R = ((((Go.Rou.Kys KL) ∧ (Go.Rou.Ncs NL)) ∧ ((((ine (Go.Rou.faE KL NL) 0) = true) → (R (AV.tup [(TV.c (AC.con (Value.slice (Option.none) 0 0))), (TV.c (AC.int IntKind.i64 (Go.Rou.faE KL NL)))]) [(200000, Blk.rview [(Col.rows IntKind.u8 KL)]), (200001, Blk.rview [(Col.arrs IntKind.u8 16 NL)]), (200002, Blk.rview [(Col.ints IntKind.u8 pay)])])) ∧ (((ine (Go.Rou.faE KL NL) 0) = false) → ((((igt (ofNat (llen pay)) 48) = true) → (R (AV.tup [(TV.c (AC.con (Value.slice (Option.none) 0 0))), (TV.c (AC.int IntKind.i64 1))]) [(200000, Blk.rview [(Col.rows IntKind.u8 KL)]), (200001, Blk.rview [(Col.arrs IntKind.u8 16 NL)]), (200002, Blk.rview [(Col.ints IntKind.u8 pay)])])) ∧ (((igt (ofNat (llen pay)) 48) = false) → (yrchain.l0 R KL NL pay fuel (sub IntKind.i64 (ofNat (llen KL)) 1) pay))))))) := by kernel_rfl

def yopen.l0 (R : AV → Mem → Prop) (KL : List (List Int)) (NL : List (List Int)) (pay : List Int) (fuel : Nat) (x0 : Int) (x1 : List Int) : Prop := run Tryd.prog gamY2 [⟨2, [.ints .u8], false, false⟩] (resh Tryd.prog [⟨2, [.ints .u8], false, false⟩] Tryd.f17.results.toList R) fuel [.code (cAt (bodyOf Tryd.f17) [1, 1, 0, 1, 0, 0]), .inLoop (cAt (bodyOf Tryd.f17) [1, 1, 0, 1, 0, 0]), .inBlock 0, .code (cAt (bodyOf Tryd.f17) [1, 1, 1])] [(AV.one (AC.vec 200000)), (AV.one (AC.vec 200001)), (AV.one (AC.vec 100002)), Uu, Uu, Uu, Uu, Uu, Uu, Uu, Uu, Uu, Uu, Zz, Uu, Zz, Uu, Uu, Uu, Uu, Uu, Uu, Uu, (AV.one (AC.int IntKind.i64 (ofNat (llen KL)))), (AV.one (AC.int IntKind.i64 x0)), Uu, Uu, Uu, Uu, Uu, Uu, Uu, Uu, Uu, Uu, Uu, Uu, Uu, Uu, Uu, Uu, Uu, Uu, Uu, Uu, Uu, Uu, Uu, Uu, Uu, Uu, Uu, Uu, Uu, Uu, Uu, Uu, Uu, Zz, Zz, Zz, Zz, Zz, Zz, Zz, Zz] [(100002, Blk.rview [(Col.ints IntKind.u8 x1)]), (200000, Blk.rview [(Col.rows IntKind.u8 KL)]), (200001, Blk.rview [(Col.arrs IntKind.u8 16 NL)]), (200002, Blk.rview [(Col.ints IntKind.u8 pay)]), (1000000, Blk.view [(Seg.ints IntKind.u32 64 Go.Hsh.rootsL)])]

theorem yopen.l0_succ (R : AV → Mem → Prop) (KL : List (List Int)) (NL : List (List Int)) (pay : List Int) (fuel : Nat) (x0 : Int) (x1 : List Int) : yopen.l0 R KL NL pay (fuel + 1) x0 x1 = (((((ilt x0 (ofNat (llen KL))) = true) → ((InB x0 (llen KL)) ∧ ((InB x0 (llen NL)) ∧ (((Go.Hsh.rootsL = Go.Hsh.rootsL) ∧ ((Go.Oni.Ky (llget KL (nat x0))) ∧ (Go.Oni.Nn (llget NL (nat x0))))) ∧ ((((ine (Go.Rep.ykE (llget KL (nat x0))) 0) = true) → (R (AV.tup [(TV.c (AC.con (Value.slice (Option.none) 0 0))), (TV.c (AC.int IntKind.i64 (Go.Rep.ykE (llget KL (nat x0)))))]) [(36, Blk.vec [(Col.ints IntKind.u8 (Go.Rep.ykL (llget KL (nat x0)) (llget NL (nat x0))))]), (100002, Blk.rview [(Col.ints IntKind.u8 x1)]), (200000, Blk.rview [(Col.rows IntKind.u8 KL)]), (200001, Blk.rview [(Col.arrs IntKind.u8 16 NL)]), (200002, Blk.rview [(Col.ints IntKind.u8 pay)]), (1000000, Blk.view [(Seg.ints IntKind.u32 64 Go.Hsh.rootsL)])])) ∧ (((ine (Go.Rep.ykE (llget KL (nat x0))) 0) = false) → (((Go.Hsh.rootsL = Go.Hsh.rootsL) ∧ ((Go.Oni.Ky (Go.Rep.ykL (llget KL (nat x0)) (llget NL (nat x0)))) ∧ ((Go.Oni.Lf (sub IntKind.i64 (ofNat (llen KL)) x0)) ∧ (Go.Oni.In x1)))) ∧ (let y2 : Int := (Go.Oni.pE (Go.Rep.ykL (llget KL (nat x0)) (llget NL (nat x0))) (sub IntKind.i64 (ofNat (llen KL)) x0) x1); (let y3 : List Int := (Go.Oni.pR (Go.Rep.ykL (llget KL (nat x0)) (llget NL (nat x0))) (sub IntKind.i64 (ofNat (llen KL)) x0) x1); (let y4 : List Int := (Go.Oni.pC (Go.Rep.ykL (llget KL (nat x0)) (llget NL (nat x0))) (sub IntKind.i64 (ofNat (llen KL)) x0) x1); ((((ine y2 0) = true) → (R (AV.tup [(TV.c (AC.con (Value.slice (Option.none) 0 0))), (TV.c (AC.int IntKind.i64 y2))]) [(12, Blk.own 46 [(Seg.cells [(AC.vec 49)]), (Seg.ints IntKind.u8 16 y3)]), (36, Blk.vec [(Col.ints IntKind.u8 (Go.Rep.ykL (llget KL (nat x0)) (llget NL (nat x0))))]), (49, Blk.vec [(Col.ints IntKind.u8 y4)]), (100002, Blk.rview [(Col.ints IntKind.u8 x1)]), (200000, Blk.rview [(Col.rows IntKind.u8 KL)]), (200001, Blk.rview [(Col.arrs IntKind.u8 16 NL)]), (200002, Blk.rview [(Col.ints IntKind.u8 pay)]), (1000000, Blk.view [(Seg.ints IntKind.u32 64 Go.Hsh.rootsL)])])) ∧ (((ine y2 0) = false) → (yopen.l0 R KL NL pay fuel (add IntKind.i64 x0 1) y4))))))))))))) ∧ (((ilt x0 (ofNat (llen KL))) = false) → (((Short x1) ∧ (Bs x1)) ∧ (R (AV.tup [(TV.c (AC.vec 60)), (TV.c (AC.int IntKind.i64 (Go.Cel.opE x1)))]) [(60, Blk.vec [(Col.ints IntKind.u8 (Go.Cel.opR x1))]), (100002, Blk.rview [(Col.ints IntKind.u8 x1)]), (200000, Blk.rview [(Col.rows IntKind.u8 KL)]), (200001, Blk.rview [(Col.arrs IntKind.u8 16 NL)]), (200002, Blk.rview [(Col.ints IntKind.u8 pay)]), (1000000, Blk.view [(Seg.ints IntKind.u32 64 Go.Hsh.rootsL)])]))))) := by kernel_rfl
theorem yopen_vc (R : AV → Mem → Prop) (fuel : Nat) (KL : List (List Int)) (NL : List (List Int)) (pay : List Int) : callsx Tryd.prog gamY2 [⟨2, [.ints .u8], false, false⟩] Tryd.f17 (fuel + 1) [.one (.vec 200000), .one (.vec 200001), .one (.vec 200002)] [(200000, .rview [.rows .u8 KL]), (200001, .rview [.arrs .u8 16 NL]), (200002, .rview [.ints .u8 pay]), (1000000 + 0, .view [.ints .u32 64 Go.Hsh.rootsL])] R = ((((Go.Rou.Kys KL) ∧ (Go.Rou.Ncs NL)) ∧ ((((ine (Go.Rou.faE KL NL) 0) = true) → (R (AV.tup [(TV.c (AC.con (Value.slice (Option.none) 0 0))), (TV.c (AC.int IntKind.i64 (Go.Rou.faE KL NL)))]) [(200000, Blk.rview [(Col.rows IntKind.u8 KL)]), (200001, Blk.rview [(Col.arrs IntKind.u8 16 NL)]), (200002, Blk.rview [(Col.ints IntKind.u8 pay)]), (1000000, Blk.view [(Seg.ints IntKind.u32 64 Go.Hsh.rootsL)])])) ∧ (((ine (Go.Rou.faE KL NL) 0) = false) → (yopen.l0 R KL NL pay fuel 0 pay))))) := by kernel_rfl

def yropen.l0 (R : AV → Mem → Prop) (KL : List (List Int)) (NL : List (List Int)) (pay : List Int) (fuel : Nat) (x0 : Int) (x1 : List Int) : Prop := run Tryd.prog gamY2 [⟨2, [.ints .u8], false, false⟩] (resh Tryd.prog [⟨2, [.ints .u8], false, false⟩] Tryd.f16.results.toList R) fuel [.code (cAt (bodyOf Tryd.f16) [1, 1, 1, 1, 0, 1, 0, 0]), .inLoop (cAt (bodyOf Tryd.f16) [1, 1, 1, 1, 0, 1, 0, 0]), .inBlock 0, .code (cAt (bodyOf Tryd.f16) [1, 1, 1, 1, 1])] [(AV.one (AC.vec 200000)), (AV.one (AC.vec 200001)), (AV.one (AC.vec 100002)), Uu, Uu, Uu, Uu, Uu, Uu, (AV.one (AC.int IntKind.i64 (ofNat (llen KL)))), (AV.one (AC.int IntKind.i64 x0)), Uu, Uu, Uu, Uu, Zz, Uu, Zz, Uu, Uu, Uu, Uu, Uu, Uu, Uu, Uu, Uu, Uu, Uu, Uu, Uu, Uu, Uu, Uu, Uu, Uu, Uu, Uu, Uu, Uu, Uu, Uu, Uu, Uu, Uu, Uu, Uu, Uu, Uu, Uu, Uu, Uu, Uu, Uu, Uu, Uu, Uu, Zz, Zz, Zz, Zz, Zz, Zz, Zz, Zz] [(100002, Blk.rview [(Col.ints IntKind.u8 x1)]), (200000, Blk.rview [(Col.rows IntKind.u8 KL)]), (200001, Blk.rview [(Col.arrs IntKind.u8 16 NL)]), (200002, Blk.rview [(Col.ints IntKind.u8 pay)])]

theorem yropen.l0_succ (R : AV → Mem → Prop) (KL : List (List Int)) (NL : List (List Int)) (pay : List Int) (fuel : Nat) (x0 : Int) (x1 : List Int) : yropen.l0 R KL NL pay (fuel + 1) x0 x1 = (((((ilt x0 (ofNat (llen KL))) = true) → ((InB x0 (llen KL)) ∧ ((InB x0 (llen NL)) ∧ (((Go.Oni.Ky (llget KL (nat x0))) ∧ (Go.Oni.Nn (llget NL (nat x0)))) ∧ (((Go.Oni.Ky (Go.Rep.ykL (llget KL (nat x0)) (llget NL (nat x0)))) ∧ ((Go.Oni.Lf (sub IntKind.i64 (ofNat (llen KL)) x0)) ∧ (Go.Oni.In x1))) ∧ (let y2 : Int := (Go.Oni.pE (Go.Rep.ykL (llget KL (nat x0)) (llget NL (nat x0))) (sub IntKind.i64 (ofNat (llen KL)) x0) x1); (let y3 : List Int := (Go.Oni.pR (Go.Rep.ykL (llget KL (nat x0)) (llget NL (nat x0))) (sub IntKind.i64 (ofNat (llen KL)) x0) x1); (let y4 : List Int := (Go.Oni.pC (Go.Rep.ykL (llget KL (nat x0)) (llget NL (nat x0))) (sub IntKind.i64 (ofNat (llen KL)) x0) x1); ((((ine y2 0) = true) → (R (AV.tup [(TV.c (AC.con (Value.slice (Option.none) 0 0))), (TV.c (AC.int IntKind.i64 y2))]) [(13, Blk.own 46 [(Seg.cells [(AC.vec 49)]), (Seg.ints IntKind.u8 16 y3)]), (40, Blk.vec [(Col.ints IntKind.u8 (Go.Rep.ykL (llget KL (nat x0)) (llget NL (nat x0))))]), (49, Blk.vec [(Col.ints IntKind.u8 y4)]), (100002, Blk.rview [(Col.ints IntKind.u8 x1)]), (200000, Blk.rview [(Col.rows IntKind.u8 KL)]), (200001, Blk.rview [(Col.arrs IntKind.u8 16 NL)]), (200002, Blk.rview [(Col.ints IntKind.u8 pay)])])) ∧ (((ine y2 0) = false) → (yropen.l0 R KL NL pay fuel (add IntKind.i64 x0 1) y4))))))))))) ∧ (((ilt x0 (ofNat (llen KL))) = false) → (((Short x1) ∧ (Bs x1)) ∧ (R (AV.tup [(TV.c (AC.vec 59)), (TV.c (AC.int IntKind.i64 (Go.Cel.opE x1)))]) [(59, Blk.vec [(Col.ints IntKind.u8 (Go.Cel.opR x1))]), (100002, Blk.rview [(Col.ints IntKind.u8 x1)]), (200000, Blk.rview [(Col.rows IntKind.u8 KL)]), (200001, Blk.rview [(Col.arrs IntKind.u8 16 NL)]), (200002, Blk.rview [(Col.ints IntKind.u8 pay)])]))))) := by kernel_rfl
theorem yropen_vc (R : AV → Mem → Prop) (fuel : Nat) (KL : List (List Int)) (NL : List (List Int)) (pay : List Int) : callsx Tryd.prog gamY2 [⟨2, [.ints .u8], false, false⟩] Tryd.f16 (fuel + 1) [.one (.vec 200000), .one (.vec 200001), .one (.vec 200002)] [(200000, .rview [.rows .u8 KL]), (200001, .rview [.arrs .u8 16 NL]), (200002, .rview [.ints .u8 pay])] R = ((((Go.Rou.Kys KL) ∧ (Go.Rou.Ncs NL)) ∧ ((((ine (Go.Rou.faE KL NL) 0) = true) → (R (AV.tup [(TV.c (AC.con (Value.slice (Option.none) 0 0))), (TV.c (AC.int IntKind.i64 (Go.Rou.faE KL NL)))]) [(200000, Blk.rview [(Col.rows IntKind.u8 KL)]), (200001, Blk.rview [(Col.arrs IntKind.u8 16 NL)]), (200002, Blk.rview [(Col.ints IntKind.u8 pay)])])) ∧ (((ine (Go.Rou.faE KL NL) 0) = false) → (yropen.l0 R KL NL pay fuel 0 pay))))) := by kernel_rfl

end Go.Proofs.YtdgmgalnhignjaaDoor.G

/- Answers on their way back: what is known of their functions. -/
namespace Go.Proofs.YtdgmgalnhignjaaDoor.G
open Go Go.Sx Go.Hsh Go.Mac Go.Blk Go.Cel Go.Oni Go.Rou Go.Rep Go.Fld
set_option maxRecDepth 20000
set_option linter.unusedSimpArgs false
set_option linter.unusedVariables false


theorem good_ykey : Sx.Good Tryd.prog 11 ykeyS := by
  refine Sx.Good.reads (D := []) mixed gamR1_good Tryd.func11 (by kernel_rfl) rfl fun d args σ K h => ?_
  simp only [ykeyS] at h
  split at h <;> try exact h.elim
  rename_i x nonce
  obtain ⟨key, ⟨⟨hr, hk, hn⟩, hK⟩, hrow⟩ := rdb_row h
  refine ⟨_, _, .row [.ints .u8] _ hrow (by decide) (.plain (plain_ints _ _ _) (.glob (roots_at hr) (by intro m; rfl) (.nil _))), by simp, 1, ?_⟩
  rw [ykL_eq] at hK
  have en : lsub nonce 0 16 = nonce := lsub_whole hn.bl.len
  have ln := hn.bl.len
  have e := ykey_vc (Res d (ykeyS).news σ K) 0 key nonce
  refine e.mpr ?_
  simp only [ofNat_def, llen_def, en]
  refine ⟨fun q => ?_, fun q => ⟨⟨by decide, by decide⟩, ⟨by omega⟩, ⟨trivial, hk.sg, ⟨by omega⟩, ⟨by decide⟩⟩, ?_⟩⟩
  · rw [ine_true] at q
    have h0 : key.length ≠ 32 := by omega
    exact res_tnil (k := .u8) (.int (by unfold ykE; rw [if_neg h0]) .nil) (by unfold ykR; rw [if_neg h0]) hK
  · rw [ine_false] at q
    have h0 : key.length = 32 := by omega
    refine res_tvec (k := .u8) rfl (.int (by unfold ykE; rw [if_pos h0]; rfl) .nil) ?_ hK
    rw [exL_eq, tagL_eq]; unfold ykR; rw [if_pos h0]; rfl


theorem good_yrkey : Sx.Good Tryd.prog 10 yrkeyS := by
  refine Sx.Good.reads (D := []) mixed gamR1_good Tryd.func10 (by kernel_rfl) rfl fun d args σ K h => ?_
  simp only [yrkeyS] at h
  split at h <;> try exact h.elim
  rename_i x nonce
  obtain ⟨key, ⟨⟨hk, hn⟩, hK⟩, hrow⟩ := rdb_row h
  refine ⟨_, _, .row [.ints .u8] _ hrow (by decide) (.plain (plain_ints _ _ _) (.nil _)), by simp, 1, ?_⟩
  rw [ykL_eq] at hK
  have en : lsub nonce 0 16 = nonce := lsub_whole hn.bl.len
  have ln := hn.bl.len
  have e := yrkey_vc (Res d (yrkeyS).news σ K) 0 key nonce
  refine e.mpr ?_
  simp only [ofNat_def, llen_def, en]
  refine ⟨fun q => ?_, fun q => ⟨⟨by decide, by decide⟩, ⟨by omega⟩, ⟨⟨hk.sg, hk.bs⟩, ⟨⟨by omega⟩, hn.bl.bs⟩, ⟨by decide⟩, ⟨by decide⟩⟩, ?_⟩⟩
  · rw [ine_true] at q
    have h0 : key.length ≠ 32 := by omega
    exact res_tnil (k := .u8) (.int (by unfold ykE; rw [if_neg h0]) .nil) (by unfold ykR; rw [if_neg h0]) hK
  · rw [ine_false] at q
    have h0 : key.length = 32 := by omega
    refine res_tvec (k := .u8) rfl (.int (by unfold ykE; rw [if_pos h0]; rfl) .nil) ?_ hK
    rw [exL_eq, tagL_eq]; unfold ykR; rw [if_pos h0]; rfl


theorem good_yfault : Sx.Good Tryd.prog 32 yfaultS := by
  refine Sx.Good.reads (D := []) mixed gamR1_good Tryd.func32 (by kernel_rfl) rfl fun d args σ K h => ?_
  simp only [yfaultS] at h
  split at h <;> try exact h.elim
  rename_i x y
  obtain ⟨KL, h, hrow⟩ := rdr_row h
  obtain ⟨NL, ⟨⟨hk, hn⟩, hK⟩, hrow1⟩ := rda_row h
  refine ⟨_, _, .row [.rows .u8] _ hrow (by decide) (.row [.arrs .u8 16] _ hrow1 (by decide) (.nil _)), by simp, ?_⟩
  have res : ∀ (e : Int) σ', faE KL NL = e → Res d yfaultS.news σ K (.one (.int .i64 e)) σ' := fun e σ' he => by
    subst he
    exact res_int rfl hK
  by_cases hgo : KL.length < 1 ∨ 8 < KL.length ∨ NL.length ≠ KL.length
  · have h80 : faE KL NL = 80 := by unfold faE; rw [if_pos hgo]
    refine ⟨1, ?_⟩
    have e := yfault_vc (Res d yfaultS.news σ K) 0 KL NL
    refine e.mpr ?_
    simp only [ofNat_def, llen_def]
    refine ⟨fun a => ⟨fun b => ⟨fun _ => res 80 _ h80, fun c => ?_⟩, fun _ => res 80 _ h80⟩, fun _ => res 80 _ h80⟩
    rw [ilt_false] at a; rw [igt_false] at b; rw [ine_false] at c; omega
  · have hf80 : ∀ {b : Bool}, all32 KL = b → faE KL NL = if b = false then 2 else 0 := fun hb => by
      unfold faE; rw [if_neg hgo, hb]
    have run : ∀ (k i : Nat), k = KL.length - i → i ≤ KL.length → (∀ j, j < i → (llget KL j).length = 32) → ∃ f, yfault.l0 (Res d yfaultS.news σ K) KL NL f (i : Int) := by
      intro k
      induction k with
      | zero =>
        intro i hk0 hi hall
        obtain rfl : i = KL.length := by omega
        refine ⟨1, ?_⟩
        rw [yfault.l0_succ]
        refine ⟨fun q => ?_, fun _ => res 0 _ (hf80 (all32_true.mpr hall))⟩
        rw [ilt_true] at q; simp only [ofNat, llen] at q; omega
      | succ k ih =>
        intro i hk0 hi hall
        by_cases h32 : (llget KL i).length = 32
        · obtain ⟨f, hf⟩ := ih (i + 1) (by omega) (by omega) (fun j hj => by
            by_cases e : j = i
            · rw [e]; exact h32
            · exact hall j (by omega))
          refine ⟨f + 1, ?_⟩
          rw [yfault.l0_succ, add1_i64 (by omega)]
          simp only [nat_cast, ofNat_def, llen_def]
          refine ⟨fun _ => ⟨⟨by omega, by omega⟩, fun q => ?_, fun _ => hf⟩, fun q => ?_⟩
          · rw [ine_true] at q; omega
          · rw [ilt_false] at q; omega
        · refine ⟨1, ?_⟩
          rw [yfault.l0_succ]
          simp only [nat_cast, ofNat_def, llen_def]
          refine ⟨fun _ => ⟨⟨by omega, by omega⟩, fun _ => res 2 _ (hf80 (all32_false (show i < KL.length by omega) h32)), fun q => ?_⟩, fun q => ?_⟩
          · rw [ine_false] at q; omega
          · rw [ilt_false] at q; omega
    obtain ⟨f, hf⟩ := run KL.length 0 rfl (by omega) (fun j hj => by omega)
    refine ⟨f + 1, ?_⟩
    have e := yfault_vc (Res d yfaultS.news σ K) f KL NL
    refine e.mpr ?_
    simp only [ofNat_def, llen_def]
    refine ⟨fun a => ⟨fun b => ⟨fun c => ?_, fun c => hf⟩, fun q => ?_⟩, fun q => ?_⟩
    · rw [ine_true] at c; omega
    · rw [igt_true] at q; omega
    · rw [ilt_true] at q; omega


theorem good_ywrong : Sx.Good Tryd.prog 30 yfaultS := by
  refine Sx.Good.reads (D := []) mixed gamR1_good Tryd.func30 (by kernel_rfl) rfl fun d args σ K h => ?_
  simp only [yfaultS] at h
  split at h <;> try exact h.elim
  rename_i x y
  obtain ⟨KL, h, hrow⟩ := rdr_row h
  obtain ⟨NL, ⟨⟨hk, hn⟩, hK⟩, hrow1⟩ := rda_row h
  refine ⟨_, _, .row [.rows .u8] _ hrow (by decide) (.row [.arrs .u8 16] _ hrow1 (by decide) (.nil _)), by simp, ?_⟩
  have res : ∀ (e : Int) σ', faE KL NL = e → Res d yfaultS.news σ K (.one (.int .i64 e)) σ' := fun e σ' he => by
    subst he
    exact res_int rfl hK
  by_cases hgo : KL.length < 1 ∨ 8 < KL.length ∨ NL.length ≠ KL.length
  · have h80 : faE KL NL = 80 := by unfold faE; rw [if_pos hgo]
    refine ⟨1, ?_⟩
    have e := ywrong_vc (Res d yfaultS.news σ K) 0 KL NL
    refine e.mpr ?_
    simp only [ofNat_def, llen_def]
    refine ⟨fun a => ⟨fun b => ⟨fun _ => res 80 _ h80, fun c => ?_⟩, fun _ => res 80 _ h80⟩, fun _ => res 80 _ h80⟩
    rw [ilt_false] at a; rw [igt_false] at b; rw [ine_false] at c; omega
  · have hf80 : ∀ {b : Bool}, all32 KL = b → faE KL NL = if b = false then 2 else 0 := fun hb => by
      unfold faE; rw [if_neg hgo, hb]
    have run : ∀ (k i : Nat), k = KL.length - i → i ≤ KL.length → (∀ j, j < i → (llget KL j).length = 32) → ∃ f, ywrong.l0 (Res d yfaultS.news σ K) KL NL f (i : Int) := by
      intro k
      induction k with
      | zero =>
        intro i hk0 hi hall
        obtain rfl : i = KL.length := by omega
        refine ⟨1, ?_⟩
        rw [ywrong.l0_succ]
        refine ⟨fun q => ?_, fun _ => res 0 _ (hf80 (all32_true.mpr hall))⟩
        rw [ilt_true] at q; simp only [ofNat, llen] at q; omega
      | succ k ih =>
        intro i hk0 hi hall
        by_cases h32 : (llget KL i).length = 32
        · obtain ⟨f, hf⟩ := ih (i + 1) (by omega) (by omega) (fun j hj => by
            by_cases e : j = i
            · rw [e]; exact h32
            · exact hall j (by omega))
          refine ⟨f + 1, ?_⟩
          rw [ywrong.l0_succ, add1_i64 (by omega)]
          simp only [nat_cast, ofNat_def, llen_def]
          refine ⟨fun _ => ⟨⟨by omega, by omega⟩, fun q => ?_, fun _ => hf⟩, fun q => ?_⟩
          · rw [ine_true] at q; omega
          · rw [ilt_false] at q; omega
        · refine ⟨1, ?_⟩
          rw [ywrong.l0_succ]
          simp only [nat_cast, ofNat_def, llen_def]
          refine ⟨fun _ => ⟨⟨by omega, by omega⟩, fun _ => res 2 _ (hf80 (all32_false (show i < KL.length by omega) h32)), fun q => ?_⟩, fun q => ?_⟩
          · rw [ine_false] at q; omega
          · rw [ilt_false] at q; omega
    obtain ⟨f, hf⟩ := run KL.length 0 rfl (by omega) (fun j hj => by omega)
    refine ⟨f + 1, ?_⟩
    have e := ywrong_vc (Res d yfaultS.news σ K) f KL NL
    refine e.mpr ?_
    simp only [ofNat_def, llen_def]
    refine ⟨fun a => ⟨fun b => ⟨fun c => ?_, fun c => hf⟩, fun q => ?_⟩, fun q => ?_⟩
    · rw [ine_true] at c; omega
    · rw [igt_true] at q; omega
    · rw [ilt_true] at q; omega

theorem gamY1_good : GoodG Tryd.prog gamY1 := (((gamR1_good.ext good_ykey ⟨_, Tryd.func11, by decide, by kernel_rfl⟩).ext good_yrkey ⟨_, Tryd.func10, by decide, by kernel_rfl⟩).ext good_yfault ⟨_, Tryd.func32, by decide, by kernel_rfl⟩).ext good_ywrong ⟨_, Tryd.func30, by decide, by kernel_rfl⟩

theorem good_ywrap : Sx.Good Tryd.prog 13 ywrapS := by
  refine Sx.Good.reads (D := []) mixed gamY1_good Tryd.func13 (by kernel_rfl) rfl fun d args σ K h => ?_
  simp only [ywrapS] at h
  split at h <;> try exact h.elim
  rename_i x nonce left y
  obtain ⟨key, h, hrow⟩ := rdb_row h
  obtain ⟨inner, ⟨⟨hr, hk, hn, hl, hi⟩, hK⟩, hrow2⟩ := rdb_row h
  refine ⟨_, _, .row [.ints .u8] _ hrow (by decide) (.plain (plain_ints _ _ _) (.plain (plain_int _ _) (.row [.ints .u8] _ hrow2 (by decide) (.glob (roots_at hr) (by intro m; rfl) (.nil _))))), by simp, 1, ?_⟩
  rw [wE_eq, ywL_eq] at hK
  have e := ywrap_vc (Res d (ywrapS).news σ K) 0 key nonce inner left
  have kb : Ky (ykL key nonce) := ⟨⟨by have := (ykL_in key nonce).sh; omega⟩, (ykL_in key nonce).bs⟩
  refine e.mpr ⟨⟨rfl, hk, hn⟩, fun q => ?_, fun q => ⟨⟨rfl, kb, hn, hl, hi⟩, ?_⟩⟩
  · rw [ine_true] at q
    have h0 : key.length ≠ 32 := fun h0 => q (by unfold ykE; rw [if_pos h0])
    exact res_tnil (k := .u8) (.int (by unfold ykE wrE; rw [if_neg h0, if_pos (Or.inl h0)]) .nil) (by unfold ywR; rw [if_neg h0]) hK
  · rw [ine_false] at q
    have h0 : key.length = 32 := by
      by_cases h0 : key.length = 32
      · exact h0
      · unfold ykE at q; rw [if_neg h0] at q; cases q
    have eb : ykL key nonce = bkR key nonce := by rw [ykL_eq]; unfold ykR; rw [if_pos h0]
    rw [eb]
    refine res_tvec (k := .u8) rfl (.int (by rw [wE_eq]; exact ywE_same h0) .nil) ?_ hK
    rw [wL_eq]; unfold ywR; rw [if_pos h0]


theorem good_yrwrap : Sx.Good Tryd.prog 12 yrwrapS := by
  refine Sx.Good.reads (D := []) mixed gamY1_good Tryd.func12 (by kernel_rfl) rfl fun d args σ K h => ?_
  simp only [yrwrapS] at h
  split at h <;> try exact h.elim
  rename_i x nonce left y
  obtain ⟨key, h, hrow⟩ := rdb_row h
  obtain ⟨inner, ⟨⟨hk, hn, hl, hi⟩, hK⟩, hrow2⟩ := rdb_row h
  refine ⟨_, _, .row [.ints .u8] _ hrow (by decide) (.plain (plain_ints _ _ _) (.plain (plain_int _ _) (.row [.ints .u8] _ hrow2 (by decide) (.nil _)))), by simp, 1, ?_⟩
  rw [wE_eq, ywL_eq] at hK
  have e := yrwrap_vc (Res d (yrwrapS).news σ K) 0 key nonce inner left
  have kb : Ky (ykL key nonce) := ⟨⟨by have := (ykL_in key nonce).sh; omega⟩, (ykL_in key nonce).bs⟩
  refine e.mpr ⟨⟨hk, hn⟩, fun q => ?_, fun q => ⟨⟨kb, hn, hl, hi⟩, ?_⟩⟩
  · rw [ine_true] at q
    have h0 : key.length ≠ 32 := fun h0 => q (by unfold ykE; rw [if_pos h0])
    exact res_tnil (k := .u8) (.int (by unfold ykE wrE; rw [if_neg h0, if_pos (Or.inl h0)]) .nil) (by unfold ywR; rw [if_neg h0]) hK
  · rw [ine_false] at q
    have h0 : key.length = 32 := by
      by_cases h0 : key.length = 32
      · exact h0
      · unfold ykE at q; rw [if_neg h0] at q; cases q
    have eb : ykL key nonce = bkR key nonce := by rw [ykL_eq]; unfold ykR; rw [if_pos h0]
    rw [eb]
    refine res_tvec (k := .u8) rfl (.int (by rw [wE_eq]; exact ywE_same h0) .nil) ?_ hK
    rw [wL_eq]; unfold ywR; rw [if_pos h0]

theorem gamY2_good : GoodG Tryd.prog gamY2 := (gamY1_good.ext good_ywrap ⟨_, Tryd.func13, by decide, by kernel_rfl⟩).ext good_yrwrap ⟨_, Tryd.func12, by decide, by kernel_rfl⟩

theorem ychain_l0 {R : AV → Mem → Prop} {KL NL : List (List Int)} {pay : List Int} (hk : Kys KL) (hn : Ncs NL) (hp : In pay) (h : rcE KL NL pay = 0)
    (hR : ∀ mm σ l, Mem.find σ mm = some (.vec [.ints .u8 l]) → l = padR (chainO (bks KL NL) (llget NL) KL.length pay KL.length) → R (.tup [.c (.vec mm), .c (.int .i64 0)]) σ) :
    ∀ (i : Nat), i ≤ KL.length → ∃ f, ychain.l0 R KL NL pay f ((i : Int) - 1) (chainO (bks KL NL) (llget NL) KL.length pay (KL.length - i)) := by
  have C := Ch.back hn hp.bs h
  obtain ⟨g1, g2⟩ := rcE_ok h
  obtain ⟨q1, q2, q3, q4⟩ := faE_ok g1
  have k32 := all32_true.mp q4
  intro i
  induction i with
  | zero =>
    intro _
    obtain ⟨l1, l2, l3⟩ := C.len KL.length (Nat.le_refl _)
    refine ⟨1, ?_⟩
    rw [ychain.l0_succ, Nat.sub_zero]
    have pe : padE (chainO (bks KL NL) (llget NL) KL.length pay KL.length) = 0 := by unfold padE; rw [if_pos (by omega)]
    refine ⟨fun q => ?_, fun _ => ⟨⟨by omega⟩, ?_⟩⟩
    · rw [ige_true] at q; omega
    · rw [pe]; exact hR _ _ _ rfl rfl
  | succ i ih =>
    intro hi
    obtain ⟨f, hf⟩ := ih (by omega)
    refine ⟨f + 1, ?_⟩
    have e0 : ((i + 1 : Nat) : Int) - 1 = (i : Int) := by omega
    have e1 : sub .i64 (KL.length : Int) (i : Int) = ((KL.length - i : Nat) : Int) := subN_i64 (by omega) (by omega)
    have e2 : sub .i64 (i : Int) 1 = (i : Int) - 1 := sub_i64 (by omega) (by omega)
    obtain ⟨l1, l2, l3⟩ := C.len (KL.length - (i + 1)) (by omega)
    have b := C.layer (j := KL.length - (i + 1)) (by omega)
    have e3 : KL.length - 1 - (KL.length - (i + 1)) = i := by omega
    have e4 : KL.length - (i + 1) + 1 = KL.length - i := by omega
    rw [e3, e4] at b
    have h32 : (llget KL i).length = 32 := k32 i (by omega)
    rw [ychain.l0_succ, e0]
    have w1 : wE (llget KL i) ((KL.length - i : Nat) : Int) (chainO (bks KL NL) (llget NL) KL.length pay (KL.length - (i + 1))) = 0 := by rw [wE_eq, ← ywE_same (nonce := llget NL i) h32]; exact b.e
    have w2 : ywL (llget KL i) (llget NL i) ((KL.length - i : Nat) : Int) (chainO (bks KL NL) (llget NL) KL.length pay (KL.length - (i + 1))) = chainO (bks KL NL) (llget NL) KL.length pay (KL.length - i) := by rw [ywL_eq]; unfold ywR; rw [if_pos h32]; exact b.r
    simp only [nat_cast, ofNat_def, llen_def, e1, e2, w1, w2]
    refine ⟨fun _ => ⟨⟨by omega, by omega⟩, ⟨by omega, by omega⟩, ⟨trivial, ⟨⟨by have := (hk.all i).sh; omega⟩, (hk.all i).bs⟩, ⟨hn.all i (by omega)⟩, ⟨by omega, by omega⟩, ⟨by omega, l3⟩⟩, fun q => ?_, fun _ => hf⟩, fun q => ?_⟩
    · rw [ine_true] at q; exact absurd rfl q
    · rw [ige_false] at q; omega

theorem good_ychain : Sx.Good Tryd.prog 15 ychainS := by
  refine Sx.Good.reads (D := [⟨9, [.ints .u8], false, false⟩]) mixed gamY2_good Tryd.func15 (by kernel_rfl) rfl fun d args σ K h => ?_
  simp only [ychainS] at h
  split at h <;> try exact h.elim
  rename_i x y z
  obtain ⟨KL, h, hrow⟩ := rdr_row h
  obtain ⟨NL, h, hrow1⟩ := rda_row h
  obtain ⟨pay, ⟨⟨hr, hk, hn, hp⟩, hK⟩, hrow2⟩ := rdb_row h
  refine ⟨_, _, .row [.rows .u8] _ hrow (by decide) (.row [.arrs .u8 16] _ hrow1 (by decide) (.row [.ints .u8] _ hrow2 (by decide) (.glob (roots_at hr) (by intro m; rfl) (.nil _)))), by simp, ?_⟩
  rw [wcE_eq, ycL_eq] at hK
  have fail : ∀ (e : Int) (σ' : Mem), rcE KL NL pay = e → e ≠ 0 → Res d (ychainS).news σ K (.tup [.c (.con (.slice none 0 0)), .c (.int .i64 e)]) σ' := fun e σ' he h0 =>
    res_tnil (k := .u8) (.int he.symm .nil) (ycR_fail (by rw [he]; exact h0)) hK
  have good : rcE KL NL pay = 0 → ∀ mm σ' l, Mem.find σ' mm = some (.vec [.ints .u8 l]) → l = padR (chainO (bks KL NL) (llget NL) KL.length pay KL.length) → Res d (ychainS).news σ K (.tup [.c (.vec mm), .c (.int .i64 0)]) σ' := fun h0 mm σ' l hf hl =>
    res_tvec (k := .u8) hf (.int h0.symm .nil) (by rw [hl]; unfold ycR; rw [if_pos h0]) hK
  by_cases hfa : faE KL NL = 0
  · obtain ⟨q1, q2, q3, q4⟩ := faE_ok hfa
    by_cases hpay : 48 < pay.length
    · refine ⟨1, ?_⟩
      have e := ychain_vc (Res d (ychainS).news σ K) 0 KL NL pay
      refine e.mpr ⟨⟨hk, hn⟩, fun q => ?_, fun _ => ⟨fun _ => fail 1 _ ?_ (by decide), fun q => ?_⟩⟩
      · rw [ine_true] at q; exact absurd hfa q
      · unfold rcE; rw [if_neg (by rw [hfa]; simp), if_pos hpay]
      · rw [igt_false] at q; simp only [ofNat, llen] at q; omega
    · have h0 : rcE KL NL pay = 0 := by unfold rcE; rw [if_neg (by rw [hfa]; simp), if_neg hpay]
      obtain ⟨f, hf⟩ := ychain_l0 hk hn hp h0 (good h0) KL.length (Nat.le_refl _)
      rw [Nat.sub_self, chainO_zero] at hf
      refine ⟨f + 1, ?_⟩
      have e := ychain_vc (Res d (ychainS).news σ K) f KL NL pay
      have e2 : sub .i64 (KL.length : Int) 1 = (KL.length : Int) - 1 := sub_i64 (by omega) (by omega)
      refine e.mpr ?_
      simp only [ofNat_def, llen_def, e2]
      refine ⟨⟨hk, hn⟩, fun q => ?_, fun _ => ⟨fun q => ?_, fun _ => hf⟩⟩
      · rw [ine_true] at q; exact absurd hfa q
      · rw [igt_true] at q; omega
  · refine ⟨1, ?_⟩
    have e := ychain_vc (Res d (ychainS).news σ K) 0 KL NL pay
    refine e.mpr ⟨⟨hk, hn⟩, fun _ => fail _ _ ?_ hfa, fun q => ?_⟩
    · unfold rcE; rw [if_pos hfa]
    · rw [ine_false] at q; exact absurd q hfa


theorem yrchain_l0 {R : AV → Mem → Prop} {KL NL : List (List Int)} {pay : List Int} (hk : Kys KL) (hn : Ncs NL) (hp : In pay) (h : rcE KL NL pay = 0)
    (hR : ∀ mm σ l, Mem.find σ mm = some (.vec [.ints .u8 l]) → l = padR (chainO (bks KL NL) (llget NL) KL.length pay KL.length) → R (.tup [.c (.vec mm), .c (.int .i64 0)]) σ) :
    ∀ (i : Nat), i ≤ KL.length → ∃ f, yrchain.l0 R KL NL pay f ((i : Int) - 1) (chainO (bks KL NL) (llget NL) KL.length pay (KL.length - i)) := by
  have C := Ch.back hn hp.bs h
  obtain ⟨g1, g2⟩ := rcE_ok h
  obtain ⟨q1, q2, q3, q4⟩ := faE_ok g1
  have k32 := all32_true.mp q4
  intro i
  induction i with
  | zero =>
    intro _
    obtain ⟨l1, l2, l3⟩ := C.len KL.length (Nat.le_refl _)
    refine ⟨1, ?_⟩
    rw [yrchain.l0_succ, Nat.sub_zero]
    have pe : padE (chainO (bks KL NL) (llget NL) KL.length pay KL.length) = 0 := by unfold padE; rw [if_pos (by omega)]
    refine ⟨fun q => ?_, fun _ => ⟨⟨by omega⟩, ?_⟩⟩
    · rw [ige_true] at q; omega
    · rw [pe]; exact hR _ _ _ rfl rfl
  | succ i ih =>
    intro hi
    obtain ⟨f, hf⟩ := ih (by omega)
    refine ⟨f + 1, ?_⟩
    have e0 : ((i + 1 : Nat) : Int) - 1 = (i : Int) := by omega
    have e1 : sub .i64 (KL.length : Int) (i : Int) = ((KL.length - i : Nat) : Int) := subN_i64 (by omega) (by omega)
    have e2 : sub .i64 (i : Int) 1 = (i : Int) - 1 := sub_i64 (by omega) (by omega)
    obtain ⟨l1, l2, l3⟩ := C.len (KL.length - (i + 1)) (by omega)
    have b := C.layer (j := KL.length - (i + 1)) (by omega)
    have e3 : KL.length - 1 - (KL.length - (i + 1)) = i := by omega
    have e4 : KL.length - (i + 1) + 1 = KL.length - i := by omega
    rw [e3, e4] at b
    have h32 : (llget KL i).length = 32 := k32 i (by omega)
    rw [yrchain.l0_succ, e0]
    have w1 : wE (llget KL i) ((KL.length - i : Nat) : Int) (chainO (bks KL NL) (llget NL) KL.length pay (KL.length - (i + 1))) = 0 := by rw [wE_eq, ← ywE_same (nonce := llget NL i) h32]; exact b.e
    have w2 : ywL (llget KL i) (llget NL i) ((KL.length - i : Nat) : Int) (chainO (bks KL NL) (llget NL) KL.length pay (KL.length - (i + 1))) = chainO (bks KL NL) (llget NL) KL.length pay (KL.length - i) := by rw [ywL_eq]; unfold ywR; rw [if_pos h32]; exact b.r
    simp only [nat_cast, ofNat_def, llen_def, e1, e2, w1, w2]
    refine ⟨fun _ => ⟨⟨by omega, by omega⟩, ⟨by omega, by omega⟩, ⟨⟨⟨by have := (hk.all i).sh; omega⟩, (hk.all i).bs⟩, ⟨hn.all i (by omega)⟩, ⟨by omega, by omega⟩, ⟨by omega, l3⟩⟩, hf⟩, fun q => ?_⟩
    rw [ige_false] at q; omega

theorem good_yrchain : Sx.Good Tryd.prog 14 yrchainS := by
  refine Sx.Good.reads (D := [⟨9, [.ints .u8], false, false⟩]) mixed gamY2_good Tryd.func14 (by kernel_rfl) rfl fun d args σ K h => ?_
  simp only [yrchainS] at h
  split at h <;> try exact h.elim
  rename_i x y z
  obtain ⟨KL, h, hrow⟩ := rdr_row h
  obtain ⟨NL, h, hrow1⟩ := rda_row h
  obtain ⟨pay, ⟨⟨hk, hn, hp⟩, hK⟩, hrow2⟩ := rdb_row h
  refine ⟨_, _, .row [.rows .u8] _ hrow (by decide) (.row [.arrs .u8 16] _ hrow1 (by decide) (.row [.ints .u8] _ hrow2 (by decide) (.nil _))), by simp, ?_⟩
  rw [wcE_eq, ycL_eq] at hK
  have fail : ∀ (e : Int) (σ' : Mem), rcE KL NL pay = e → e ≠ 0 → Res d (yrchainS).news σ K (.tup [.c (.con (.slice none 0 0)), .c (.int .i64 e)]) σ' := fun e σ' he h0 =>
    res_tnil (k := .u8) (.int he.symm .nil) (ycR_fail (by rw [he]; exact h0)) hK
  have good : rcE KL NL pay = 0 → ∀ mm σ' l, Mem.find σ' mm = some (.vec [.ints .u8 l]) → l = padR (chainO (bks KL NL) (llget NL) KL.length pay KL.length) → Res d (yrchainS).news σ K (.tup [.c (.vec mm), .c (.int .i64 0)]) σ' := fun h0 mm σ' l hf hl =>
    res_tvec (k := .u8) hf (.int h0.symm .nil) (by rw [hl]; unfold ycR; rw [if_pos h0]) hK
  by_cases hfa : faE KL NL = 0
  · obtain ⟨q1, q2, q3, q4⟩ := faE_ok hfa
    by_cases hpay : 48 < pay.length
    · refine ⟨1, ?_⟩
      have e := yrchain_vc (Res d (yrchainS).news σ K) 0 KL NL pay
      refine e.mpr ⟨⟨hk, hn⟩, fun q => ?_, fun _ => ⟨fun _ => fail 1 _ ?_ (by decide), fun q => ?_⟩⟩
      · rw [ine_true] at q; exact absurd hfa q
      · unfold rcE; rw [if_neg (by rw [hfa]; simp), if_pos hpay]
      · rw [igt_false] at q; simp only [ofNat, llen] at q; omega
    · have h0 : rcE KL NL pay = 0 := by unfold rcE; rw [if_neg (by rw [hfa]; simp), if_neg hpay]
      obtain ⟨f, hf⟩ := yrchain_l0 hk hn hp h0 (good h0) KL.length (Nat.le_refl _)
      rw [Nat.sub_self, chainO_zero] at hf
      refine ⟨f + 1, ?_⟩
      have e := yrchain_vc (Res d (yrchainS).news σ K) f KL NL pay
      have e2 : sub .i64 (KL.length : Int) 1 = (KL.length : Int) - 1 := sub_i64 (by omega) (by omega)
      refine e.mpr ?_
      simp only [ofNat_def, llen_def, e2]
      refine ⟨⟨hk, hn⟩, fun q => ?_, fun _ => ⟨fun q => ?_, fun _ => hf⟩⟩
      · rw [ine_true] at q; exact absurd hfa q
      · rw [igt_true] at q; omega
  · refine ⟨1, ?_⟩
    have e := yrchain_vc (Res d (yrchainS).news σ K) 0 KL NL pay
    refine e.mpr ⟨⟨hk, hn⟩, fun _ => fail _ _ ?_ hfa, fun q => ?_⟩
    · unfold rcE; rw [if_pos hfa]
    · rw [ine_false] at q; exact absurd q hfa


theorem yopen_l0 {R : AV → Mem → Prop} {KL NL : List (List Int)} {pay : List Int} (hk : Kys KL) (hn : Ncs NL) (h : faE KL NL = 0) :
    ∀ (n : Nat) (c : List Int), n ≤ KL.length → In c →
    ((wlk (bks KL NL) KL.length n c).1 ≠ 0 → ∀ σ, R (.tup [.c (.con (.slice none 0 0)), .c (.int .i64 (wlk (bks KL NL) KL.length n c).1)]) σ) →
    ((wlk (bks KL NL) KL.length n c).1 = 0 → ∀ mm σ l, Mem.find σ mm = some (.vec [.ints .u8 l]) → l = opR (wlk (bks KL NL) KL.length n c).2 → R (.tup [.c (.vec mm), .c (.int .i64 (opE (wlk (bks KL NL) KL.length n c).2))]) σ) →
    ∃ f, yopen.l0 R KL NL pay f ((KL.length - n : Nat) : Int) c := by
  obtain ⟨q1, q2, q3, q4⟩ := faE_ok h
  have k32 := all32_true.mp q4
  intro n
  induction n with
  | zero =>
    intro c _ hc _ hR
    refine ⟨1, ?_⟩
    rw [yopen.l0_succ, Nat.sub_zero]
    refine ⟨fun q => ?_, fun _ => ⟨⟨⟨by have := hc.sh; omega⟩, hc.bs⟩, hR rfl _ _ _ rfl rfl⟩⟩
    rw [ilt_true] at q; simp only [ofNat, llen] at q; omega
  | succ n ih =>
    intro c hle hc hF hR
    have h32 : (llget KL (KL.length - (n + 1))).length = 32 := k32 _ (by omega)
    have eb : ykL (llget KL (KL.length - (n + 1))) (llget NL (KL.length - (n + 1))) = bks KL NL (KL.length - 1 - n) := by
      rw [ykL_eq]; unfold ykR bks; rw [if_pos h32, show KL.length - 1 - n = KL.length - (n + 1) by omega]
    have yk0 : ykE (llget KL (KL.length - (n + 1))) = 0 := by unfold ykE; rw [if_pos h32]
    have kb : Ky (bks KL NL (KL.length - 1 - n)) := ⟨⟨by rw [bks_len]; omega⟩, bk_bs _ _⟩
    have e1 : sub .i64 (KL.length : Int) ((KL.length - (n + 1) : Nat) : Int) = ((n + 1 : Nat) : Int) := by rw [subN_i64 (by omega) (by omega)]; omega
    have e3 : KL.length - (n + 1) + 1 = KL.length - n := by omega
    have ew : wlk (bks KL NL) KL.length (n + 1) c = if pE (bks KL NL (KL.length - 1 - n)) ((n + 1 : Nat) : Int) c ≠ 0 then (pE (bks KL NL (KL.length - 1 - n)) ((n + 1 : Nat) : Int) c, []) else wlk (bks KL NL) KL.length n (pC (bks KL NL (KL.length - 1 - n)) ((n + 1 : Nat) : Int) c) := by rw [pE_eq, pC_eq]; rfl
    by_cases hp0 : pE (bks KL NL (KL.length - 1 - n)) ((n + 1 : Nat) : Int) c = 0
    · rw [if_neg (by rw [hp0]; simp)] at ew
      rw [ew] at hF hR
      obtain ⟨f, hf⟩ := ih _ (by omega) (pC_in' hc.bs) hF hR
      refine ⟨f + 1, ?_⟩
      rw [yopen.l0_succ, add1_i64 (by omega), e3]
      simp only [nat_cast, ofNat_def, llen_def, e1, eb]
      refine ⟨fun _ => ⟨⟨by omega, by omega⟩, ⟨by omega, by omega⟩, ⟨trivial, ⟨⟨by have := (hk.all (KL.length - (n + 1))).sh; omega⟩, (hk.all (KL.length - (n + 1))).bs⟩, ⟨hn.all _ (by omega)⟩⟩, fun q => ?_, fun _ => ⟨⟨trivial, kb, ⟨by omega, by omega⟩, hc⟩, fun q => ?_, fun q => ?_⟩⟩, fun q => ?_⟩
      · rw [ine_true] at q; exact absurd yk0 q
      · rw [ine_true] at q; exact absurd hp0 q
      · exact hf
      · rw [ilt_false] at q; omega
    · rw [if_pos hp0] at ew
      rw [ew] at hF
      refine ⟨1, ?_⟩
      rw [yopen.l0_succ]
      simp only [nat_cast, ofNat_def, llen_def, e1, eb]
      refine ⟨fun _ => ⟨⟨by omega, by omega⟩, ⟨by omega, by omega⟩, ⟨trivial, ⟨⟨by have := (hk.all (KL.length - (n + 1))).sh; omega⟩, (hk.all (KL.length - (n + 1))).bs⟩, ⟨hn.all _ (by omega)⟩⟩, fun q => ?_, fun _ => ⟨⟨trivial, kb, ⟨by omega, by omega⟩, hc⟩, fun q => ?_, fun q => ?_⟩⟩, fun q => ?_⟩
      · rw [ine_true] at q; exact absurd yk0 q
      · exact hF hp0 _
      · rw [ine_false] at q; exact absurd q hp0
      · rw [ilt_false] at q; omega

theorem good_yopen : Sx.Good Tryd.prog 17 yopenS := by
  refine Sx.Good.reads (D := [⟨2, [.ints .u8], false, false⟩]) mixed gamY2_good Tryd.func17 (by kernel_rfl) rfl fun d args σ K h => ?_
  simp only [yopenS] at h
  split at h <;> try exact h.elim
  rename_i x y z
  obtain ⟨KL, h, hrow⟩ := rdr_row h
  obtain ⟨NL, h, hrow1⟩ := rda_row h
  obtain ⟨c, ⟨⟨hr, hk, hn, hp⟩, hK⟩, hrow2⟩ := rdb_row h
  refine ⟨_, _, .row [.rows .u8] _ hrow (by decide) (.row [.arrs .u8 16] _ hrow1 (by decide) (.row [.ints .u8] _ hrow2 (by decide) (.glob (roots_at hr) (by intro m; rfl) (.nil _)))), by simp, ?_⟩
  rw [yE_eq, yL_eq] at hK
  by_cases hfa : faE KL NL = 0
  · obtain ⟨q1, q2, q3, q4⟩ := faE_ok hfa
    have F : (wlk (bks KL NL) KL.length KL.length c).1 ≠ 0 → ∀ σ', Res d (yopenS).news σ K (.tup [.c (.con (.slice none 0 0)), .c (.int .i64 (wlk (bks KL NL) KL.length KL.length c).1)]) σ' := fun h0 σ' =>
      res_tnil (k := .u8) (.int (by unfold yoE; rw [if_neg (by rw [hfa]; simp), if_pos h0]) .nil) (by unfold yoR; rw [if_neg (by rw [hfa]; simp), if_pos h0]) hK
    have G : (wlk (bks KL NL) KL.length KL.length c).1 = 0 → ∀ mm σ' l, Mem.find σ' mm = some (.vec [.ints .u8 l]) → l = opR (wlk (bks KL NL) KL.length KL.length c).2 → Res d (yopenS).news σ K (.tup [.c (.vec mm), .c (.int .i64 (opE (wlk (bks KL NL) KL.length KL.length c).2))]) σ' := fun h0 mm σ' l hf hl =>
      res_tvec (k := .u8) hf (.int (by unfold yoE; rw [if_neg (by rw [hfa]; simp), if_neg (by rw [h0]; simp)]) .nil) (by rw [hl]; unfold yoR; rw [if_neg (by rw [hfa]; simp), if_neg (by rw [h0]; simp)]) hK
    obtain ⟨f, hf⟩ := yopen_l0 (pay := c) hk hn hfa KL.length c (Nat.le_refl _) hp F G
    rw [Nat.sub_self] at hf
    refine ⟨f + 1, ?_⟩
    have e := yopen_vc (Res d (yopenS).news σ K) f KL NL c
    refine e.mpr ⟨⟨hk, hn⟩, fun q => ?_, fun _ => hf⟩
    rw [ine_true] at q; exact absurd hfa q
  · refine ⟨1, ?_⟩
    have e := yopen_vc (Res d (yopenS).news σ K) 0 KL NL c
    refine e.mpr ⟨⟨hk, hn⟩, fun _ => ?_, fun q => ?_⟩
    · exact res_tnil (k := .u8) (.int (by unfold yoE; rw [if_pos hfa]) .nil) (by unfold yoR; rw [if_pos hfa]) hK
    · rw [ine_false] at q; exact absurd q hfa


theorem yropen_l0 {R : AV → Mem → Prop} {KL NL : List (List Int)} {pay : List Int} (hk : Kys KL) (hn : Ncs NL) (h : faE KL NL = 0) :
    ∀ (n : Nat) (c : List Int), n ≤ KL.length → In c →
    ((wlk (bks KL NL) KL.length n c).1 ≠ 0 → ∀ σ, R (.tup [.c (.con (.slice none 0 0)), .c (.int .i64 (wlk (bks KL NL) KL.length n c).1)]) σ) →
    ((wlk (bks KL NL) KL.length n c).1 = 0 → ∀ mm σ l, Mem.find σ mm = some (.vec [.ints .u8 l]) → l = opR (wlk (bks KL NL) KL.length n c).2 → R (.tup [.c (.vec mm), .c (.int .i64 (opE (wlk (bks KL NL) KL.length n c).2))]) σ) →
    ∃ f, yropen.l0 R KL NL pay f ((KL.length - n : Nat) : Int) c := by
  obtain ⟨q1, q2, q3, q4⟩ := faE_ok h
  have k32 := all32_true.mp q4
  intro n
  induction n with
  | zero =>
    intro c _ hc _ hR
    refine ⟨1, ?_⟩
    rw [yropen.l0_succ, Nat.sub_zero]
    refine ⟨fun q => ?_, fun _ => ⟨⟨⟨by have := hc.sh; omega⟩, hc.bs⟩, hR rfl _ _ _ rfl rfl⟩⟩
    rw [ilt_true] at q; simp only [ofNat, llen] at q; omega
  | succ n ih =>
    intro c hle hc hF hR
    have h32 : (llget KL (KL.length - (n + 1))).length = 32 := k32 _ (by omega)
    have eb : ykL (llget KL (KL.length - (n + 1))) (llget NL (KL.length - (n + 1))) = bks KL NL (KL.length - 1 - n) := by
      rw [ykL_eq]; unfold ykR bks; rw [if_pos h32, show KL.length - 1 - n = KL.length - (n + 1) by omega]
    have yk0 : ykE (llget KL (KL.length - (n + 1))) = 0 := by unfold ykE; rw [if_pos h32]
    have kb : Ky (bks KL NL (KL.length - 1 - n)) := ⟨⟨by rw [bks_len]; omega⟩, bk_bs _ _⟩
    have e1 : sub .i64 (KL.length : Int) ((KL.length - (n + 1) : Nat) : Int) = ((n + 1 : Nat) : Int) := by rw [subN_i64 (by omega) (by omega)]; omega
    have e3 : KL.length - (n + 1) + 1 = KL.length - n := by omega
    have ew : wlk (bks KL NL) KL.length (n + 1) c = if pE (bks KL NL (KL.length - 1 - n)) ((n + 1 : Nat) : Int) c ≠ 0 then (pE (bks KL NL (KL.length - 1 - n)) ((n + 1 : Nat) : Int) c, []) else wlk (bks KL NL) KL.length n (pC (bks KL NL (KL.length - 1 - n)) ((n + 1 : Nat) : Int) c) := by rw [pE_eq, pC_eq]; rfl
    by_cases hp0 : pE (bks KL NL (KL.length - 1 - n)) ((n + 1 : Nat) : Int) c = 0
    · rw [if_neg (by rw [hp0]; simp)] at ew
      rw [ew] at hF hR
      obtain ⟨f, hf⟩ := ih _ (by omega) (pC_in' hc.bs) hF hR
      refine ⟨f + 1, ?_⟩
      rw [yropen.l0_succ, add1_i64 (by omega), e3]
      simp only [nat_cast, ofNat_def, llen_def, e1, eb]
      refine ⟨fun _ => ⟨⟨by omega, by omega⟩, ⟨by omega, by omega⟩, ⟨⟨⟨by have := (hk.all (KL.length - (n + 1))).sh; omega⟩, (hk.all (KL.length - (n + 1))).bs⟩, ⟨hn.all _ (by omega)⟩⟩, ⟨kb, ⟨by omega, by omega⟩, hc⟩, fun q => ?_, fun q => ?_⟩, fun q => ?_⟩
      · rw [ine_true] at q; exact absurd hp0 q
      · exact hf
      · rw [ilt_false] at q; omega
    · rw [if_pos hp0] at ew
      rw [ew] at hF
      refine ⟨1, ?_⟩
      rw [yropen.l0_succ]
      simp only [nat_cast, ofNat_def, llen_def, e1, eb]
      refine ⟨fun _ => ⟨⟨by omega, by omega⟩, ⟨by omega, by omega⟩, ⟨⟨⟨by have := (hk.all (KL.length - (n + 1))).sh; omega⟩, (hk.all (KL.length - (n + 1))).bs⟩, ⟨hn.all _ (by omega)⟩⟩, ⟨kb, ⟨by omega, by omega⟩, hc⟩, fun q => ?_, fun q => ?_⟩, fun q => ?_⟩
      · exact hF hp0 _
      · rw [ine_false] at q; exact absurd q hp0
      · rw [ilt_false] at q; omega

theorem good_yropen : Sx.Good Tryd.prog 16 yropenS := by
  refine Sx.Good.reads (D := [⟨2, [.ints .u8], false, false⟩]) mixed gamY2_good Tryd.func16 (by kernel_rfl) rfl fun d args σ K h => ?_
  simp only [yropenS] at h
  split at h <;> try exact h.elim
  rename_i x y z
  obtain ⟨KL, h, hrow⟩ := rdr_row h
  obtain ⟨NL, h, hrow1⟩ := rda_row h
  obtain ⟨c, ⟨⟨hk, hn, hp⟩, hK⟩, hrow2⟩ := rdb_row h
  refine ⟨_, _, .row [.rows .u8] _ hrow (by decide) (.row [.arrs .u8 16] _ hrow1 (by decide) (.row [.ints .u8] _ hrow2 (by decide) (.nil _))), by simp, ?_⟩
  rw [yE_eq, yL_eq] at hK
  by_cases hfa : faE KL NL = 0
  · obtain ⟨q1, q2, q3, q4⟩ := faE_ok hfa
    have F : (wlk (bks KL NL) KL.length KL.length c).1 ≠ 0 → ∀ σ', Res d (yropenS).news σ K (.tup [.c (.con (.slice none 0 0)), .c (.int .i64 (wlk (bks KL NL) KL.length KL.length c).1)]) σ' := fun h0 σ' =>
      res_tnil (k := .u8) (.int (by unfold yoE; rw [if_neg (by rw [hfa]; simp), if_pos h0]) .nil) (by unfold yoR; rw [if_neg (by rw [hfa]; simp), if_pos h0]) hK
    have G : (wlk (bks KL NL) KL.length KL.length c).1 = 0 → ∀ mm σ' l, Mem.find σ' mm = some (.vec [.ints .u8 l]) → l = opR (wlk (bks KL NL) KL.length KL.length c).2 → Res d (yropenS).news σ K (.tup [.c (.vec mm), .c (.int .i64 (opE (wlk (bks KL NL) KL.length KL.length c).2))]) σ' := fun h0 mm σ' l hf hl =>
      res_tvec (k := .u8) hf (.int (by unfold yoE; rw [if_neg (by rw [hfa]; simp), if_neg (by rw [h0]; simp)]) .nil) (by rw [hl]; unfold yoR; rw [if_neg (by rw [hfa]; simp), if_neg (by rw [h0]; simp)]) hK
    obtain ⟨f, hf⟩ := yropen_l0 (pay := c) hk hn hfa KL.length c (Nat.le_refl _) hp F G
    rw [Nat.sub_self] at hf
    refine ⟨f + 1, ?_⟩
    have e := yropen_vc (Res d (yropenS).news σ K) f KL NL c
    refine e.mpr ⟨⟨hk, hn⟩, fun q => ?_, fun _ => hf⟩
    rw [ine_true] at q; exact absurd hfa q
  · refine ⟨1, ?_⟩
    have e := yropen_vc (Res d (yropenS).news σ K) 0 KL NL c
    refine e.mpr ⟨⟨hk, hn⟩, fun _ => ?_, fun q => ?_⟩
    · exact res_tnil (k := .u8) (.int (by unfold yoE; rw [if_pos hfa]) .nil) (by unfold yoR; rw [if_pos hfa]) hK
    · rw [ine_false] at q; exact absurd q hfa

theorem gamY3_good : GoodG Tryd.prog gamY3 := (((gamY2_good.ext good_ychain ⟨_, Tryd.func15, by decide, by kernel_rfl⟩).ext good_yrchain ⟨_, Tryd.func14, by decide, by kernel_rfl⟩).ext good_yopen ⟨_, Tryd.func17, by decide, by kernel_rfl⟩).ext good_yropen ⟨_, Tryd.func16, by decide, by kernel_rfl⟩
end Go.Proofs.YtdgmgalnhignjaaDoor.G
