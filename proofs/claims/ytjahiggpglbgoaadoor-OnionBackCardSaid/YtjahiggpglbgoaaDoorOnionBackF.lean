/- Own texts of this proof, laid one behind the other: OniG2, OniP3, OniP4, OniB, OniQ, OniG3, OniA, OniK. -/
import Derived.Test.YtjahiggpglbgoaaDoorOnionBackE

/- The verification conditions of functions, printed by a program of this session out of their codes. -/
namespace Go.Proofs.YtjahiggpglbgoaaDoor.G
open Go Go.Sx Go.Oni
set_option linter.unusedVariables false
set_option maxRecDepth 100000

def opeel.k0 (R : AV → Mem → Prop) (left : Int) (key : List Int) (c : List Int) (y4 : Nat) (y0 : Bool) (y2 : List Int) (y5 : List Int) (fuel : Nat) : Prop := runM Tryd.prog gamO3 [] (resh Tryd.prog [] Tryd.f18.results.toList R) (run Tryd.prog gamO3 [] (resh Tryd.prog [] Tryd.f18.results.toList R) fuel) 3961 [.code (cAt (bodyOf Tryd.f18) [1, 1, 1, 1, 1, 1, 1, 1, 1, 1, 1, 1])] [(AV.one (AC.vec 200000)), (AV.one (AC.int IntKind.i64 left)), (AV.one (AC.vec 200002)), (AV.tup []), (AV.tup []), (AV.tup []), (AV.one (AC.ptr 6 0 0)), (AV.one (AC.int IntKind.i64 0)), (AV.one (AC.vec 30)), (AV.one (AC.int IntKind.i64 (Go.Oni.dvE key))), (AV.one (AC.ptr 10 0 0)), (AV.one (AC.ptr 11 0 0)), (AV.one (AC.vsl 30 1 32 (nsub (llen (Go.Cel.cutR c (Go.Oni.sizeI left))) 32))), (AV.one (AC.vsl 67 1 2 y4)), (AV.one (AC.lit true)), (AV.one (AC.ptr 15 0 0)), (AV.tup []), (AV.one (AC.vec 200000)), (AV.one (AC.int IntKind.i64 (ofNat (llen key)))), (AV.one (AC.bool (ine (ofNat (llen key)) 32))), (AV.one (AC.lit false)), (AV.one (AC.int IntKind.i64 left)), (AV.one (AC.int IntKind.i64 (Go.Oni.sizeI left))), (AV.one (AC.bool (ieq (Go.Oni.sizeI left) 0))), (AV.one (AC.lit false)), (AV.tup []), (AV.tup [(TV.c (AC.vec 30)), (TV.c (AC.int IntKind.i64 (Go.Cel.cutE c (Go.Oni.sizeI left))))]), (AV.one (AC.vec 200002)), (AV.one (AC.int IntKind.i64 left)), (AV.one (AC.int IntKind.i64 (Go.Oni.sizeI left))), (AV.tup [(TV.c (AC.vec 30)), (TV.c (AC.int IntKind.i64 (Go.Cel.cutE c (Go.Oni.sizeI left))))]), (AV.one (AC.vec 30)), (AV.one (AC.int IntKind.i64 (Go.Cel.cutE c (Go.Oni.sizeI left)))), (AV.one (AC.int IntKind.i64 (Go.Cel.cutE c (Go.Oni.sizeI left)))), (AV.one (AC.lit false)), (AV.tup []), (AV.tup []), (AV.one (AC.vec 30)), (AV.one (AC.vptr 30 1 0 0 0)), (AV.agg [(Seg.ints IntKind.u8 16 (lsub (Go.Cel.cutR c (Go.Oni.sizeI left)) 0 16))]), (AV.tup [(TV.g [(Seg.ints IntKind.u8 16 (Go.Oni.dvB key (lsub (Go.Cel.cutR c (Go.Oni.sizeI left)) 0 16))), (Seg.ints IntKind.u8 32 (Go.Oni.dvM key (lsub (Go.Cel.cutR c (Go.Oni.sizeI left)) 0 16))), (Seg.ints IntKind.u8 32 (Go.Oni.dvR key (lsub (Go.Cel.cutR c (Go.Oni.sizeI left)) 0 16)))]), (TV.c (AC.int IntKind.i64 (Go.Oni.dvE key)))]), (AV.one (AC.vec 200000)), (AV.agg [(Seg.ints IntKind.u8 16 (lsub (Go.Cel.cutR c (Go.Oni.sizeI left)) 0 16))]), (AV.tup [(TV.g [(Seg.ints IntKind.u8 16 (Go.Oni.dvB key (lsub (Go.Cel.cutR c (Go.Oni.sizeI left)) 0 16))), (Seg.ints IntKind.u8 32 (Go.Oni.dvM key (lsub (Go.Cel.cutR c (Go.Oni.sizeI left)) 0 16))), (Seg.ints IntKind.u8 32 (Go.Oni.dvR key (lsub (Go.Cel.cutR c (Go.Oni.sizeI left)) 0 16)))]), (TV.c (AC.int IntKind.i64 (Go.Oni.dvE key)))]), (AV.agg [(Seg.ints IntKind.u8 16 (Go.Oni.dvB key (lsub (Go.Cel.cutR c (Go.Oni.sizeI left)) 0 16))), (Seg.ints IntKind.u8 32 (Go.Oni.dvM key (lsub (Go.Cel.cutR c (Go.Oni.sizeI left)) 0 16))), (Seg.ints IntKind.u8 32 (Go.Oni.dvR key (lsub (Go.Cel.cutR c (Go.Oni.sizeI left)) 0 16)))]), (AV.one (AC.int IntKind.i64 (Go.Oni.dvE key))), (AV.one (AC.int IntKind.i64 (Go.Oni.dvE key))), (AV.one (AC.lit false)), (AV.tup []), (AV.tup []), (AV.one (AC.vec 30)), (AV.one (AC.vsl 30 1 32 (nsub (llen (Go.Cel.cutR c (Go.Oni.sizeI left))) 32))), (AV.one (AC.vec 30)), (AV.one (AC.vsl 30 1 16 16)), (AV.agg [(Seg.ints IntKind.u8 16 (Go.Oni.dvB key (lsub (Go.Cel.cutR c (Go.Oni.sizeI left)) 0 16))), (Seg.ints IntKind.u8 32 (Go.Oni.dvM key (lsub (Go.Cel.cutR c (Go.Oni.sizeI left)) 0 16))), (Seg.ints IntKind.u8 32 (Go.Oni.dvR key (lsub (Go.Cel.cutR c (Go.Oni.sizeI left)) 0 16)))]), (AV.one (AC.int IntKind.i64 left)), (AV.agg [(Seg.ints IntKind.u8 16 (lsub (Go.Cel.cutR c (Go.Oni.sizeI left)) 0 16))]), (AV.one (AC.vsl 30 1 32 (nsub (llen (Go.Cel.cutR c (Go.Oni.sizeI left))) 32))), (AV.one (AC.vec 58)), (AV.one (AC.bool y0)), (AV.one (AC.lit false)), (AV.tup []), (AV.tup [(TV.c (AC.vsl 67 1 2 y4)), (TV.c (AC.lit true))]), (AV.one (AC.ptr 11 0 0)), (AV.agg [(Seg.ints IntKind.u8 16 (lsub (Go.Oni.dvB key (lsub (Go.Cel.cutR c (Go.Oni.sizeI left)) 0 16)) 0 16))]), (AV.agg [(Seg.ints IntKind.u8 16 (lzeros 16))]), (AV.one (AC.vsl 30 1 32 (nsub (llen (Go.Cel.cutR c (Go.Oni.sizeI left))) 32))), (AV.one (AC.vec 67)), (AV.one (AC.int IntKind.i64 left)), (AV.tup [(TV.c (AC.vsl 67 1 2 y4)), (TV.c (AC.lit true))]), (AV.one (AC.vsl 67 1 2 y4)), (AV.one (AC.lit true)), (AV.one (AC.lit true)), (AV.one (AC.lit false)), (AV.tup []), (AV.one (AC.ptr 11 48 0)), (AV.one (AC.sl 11 48 0 32 32)), (AV.one (AC.vec 30)), (AV.one (AC.vsl 30 1 0 32)), (AV.agg [(Seg.ints IntKind.u8 32 (Go.Mac.tagL (lsub (Go.Oni.dvR key (lsub (Go.Cel.cutR c (Go.Oni.sizeI left)) 0 16)) 0 32) (lsub (Go.Cel.cutR c (Go.Oni.sizeI left)) 0 32)))]), (AV.tup []), (AV.tup []), (AV.tup []), (AV.tup []), (AV.tup []), (AV.tup []), (AV.tup []), (AV.tup []), (AV.tup []), (AV.tup []), (AV.tup []), (AV.tup []), (AV.tup []), (AV.tup []), (AV.tup []), (AV.tup []), (AV.tup []), (AV.tup []), (AV.tup []), (AV.tup []), (AV.tup []), (AV.tup []), (AV.tup [])] [(6, Blk.own 44 [(Seg.cells [(AC.con (Value.slice (Option.none) 0 0))]), (Seg.ints IntKind.u8 16 (lzeros 16))]), (10, Blk.own 25 [(Seg.ints IntKind.u8 16 (lsub (Go.Cel.cutR c (Go.Oni.sizeI left)) 0 16))]), (11, Blk.own 28 [(Seg.ints IntKind.u8 16 (Go.Oni.dvB key (lsub (Go.Cel.cutR c (Go.Oni.sizeI left)) 0 16))), (Seg.ints IntKind.u8 32 (Go.Oni.dvM key (lsub (Go.Cel.cutR c (Go.Oni.sizeI left)) 0 16))), (Seg.ints IntKind.u8 32 (Go.Oni.dvR key (lsub (Go.Cel.cutR c (Go.Oni.sizeI left)) 0 16)))]), (15, Blk.own 26 [(Seg.ints IntKind.u8 32 (Go.Mac.tagL (lsub (Go.Oni.dvR key (lsub (Go.Cel.cutR c (Go.Oni.sizeI left)) 0 16)) 0 32) (lsub (Go.Cel.cutR c (Go.Oni.sizeI left)) 0 32)))]), (30, Blk.vec [(Col.ints IntKind.u8 (Go.Cel.cutR c (Go.Oni.sizeI left)))]), (58, Blk.vec [(Col.ints IntKind.u8 y2)]), (67, Blk.vec [(Col.ints IntKind.u8 y5)]), (200000, Blk.rview [(Col.ints IntKind.u8 key)]), (200002, Blk.rview [(Col.ints IntKind.u8 c)]), (1000000, Blk.view [(Seg.ints IntKind.u32 64 Go.Hsh.rootsL)])]

theorem opeel.k0_eq (R : AV → Mem → Prop) (left : Int) (key : List Int) (c : List Int) (y4 : Nat) (y0 : Bool) (y2 : List Int) (y5 : List Int) (fuel : Nat) : opeel.k0 R left key c y4 y0 y2 y5 fuel = ((let y6 : List Int := (Go.Mac.tagL (lsub (Go.Oni.dvR key (lsub (Go.Cel.cutR c (Go.Oni.sizeI left)) 0 16)) 0 32) (lsub (Go.Cel.cutR c (Go.Oni.sizeI left)) 0 32)); ((Fits 16 32) ∧ ((Fits 16 32) ∧ ((Fits 16 16) ∧ ((((igt left 1) = true) → ((Short (lsub y5 2 y4)) ∧ ((((ine (Go.Cel.padE (lsub y5 2 y4)) 0) = true) → (R (AV.tup [(TV.g [(Seg.cells [(AC.con (Value.slice (Option.none) 0 0))]), (Seg.ints IntKind.u8 16 (lzeros 16))]), (TV.c (AC.int IntKind.i64 (Go.Cel.padE (lsub y5 2 y4))))]) [(6, Blk.own 44 [(Seg.cells [(AC.con (Value.slice (Option.none) 0 0))]), (Seg.ints IntKind.u8 16 (lzeros 16))]), (10, Blk.own 25 [(Seg.ints IntKind.u8 16 (lsub (Go.Cel.cutR c (Go.Oni.sizeI left)) 0 16))]), (11, Blk.own 28 [(Seg.ints IntKind.u8 16 (Go.Oni.dvB key (lsub (Go.Cel.cutR c (Go.Oni.sizeI left)) 0 16))), (Seg.ints IntKind.u8 32 (Go.Oni.dvM key (lsub (Go.Cel.cutR c (Go.Oni.sizeI left)) 0 16))), (Seg.ints IntKind.u8 32 (Go.Oni.dvR key (lsub (Go.Cel.cutR c (Go.Oni.sizeI left)) 0 16)))]), (15, Blk.own 26 [(Seg.ints IntKind.u8 32 y6)]), (16, Blk.own 44 [(Seg.cells [(AC.vec 88)]), (Seg.ints IntKind.u8 16 (lput (lzeros 16) 0 (lsub y6 0 16)))]), (30, Blk.vec [(Col.ints IntKind.u8 (Go.Cel.cutR c (Go.Oni.sizeI left)))]), (58, Blk.vec [(Col.ints IntKind.u8 y2)]), (67, Blk.vec [(Col.ints IntKind.u8 y5)]), (88, Blk.vec [(Col.ints IntKind.u8 (Go.Cel.padR (lsub y5 2 y4)))]), (200000, Blk.rview [(Col.ints IntKind.u8 key)]), (200002, Blk.rview [(Col.ints IntKind.u8 c)]), (1000000, Blk.view [(Seg.ints IntKind.u32 64 Go.Hsh.rootsL)])])) ∧ (((ine (Go.Cel.padE (lsub y5 2 y4)) 0) = false) → (R (AV.tup [(TV.g [(Seg.cells [(AC.vec 88)]), (Seg.ints IntKind.u8 16 (lput (lzeros 16) 0 (lsub y6 0 16)))]), (TV.c (AC.int IntKind.i64 0))]) [(6, Blk.own 44 [(Seg.cells [(AC.vec 88)]), (Seg.ints IntKind.u8 16 (lput (lzeros 16) 0 (lsub y6 0 16)))]), (10, Blk.own 25 [(Seg.ints IntKind.u8 16 (lsub (Go.Cel.cutR c (Go.Oni.sizeI left)) 0 16))]), (11, Blk.own 28 [(Seg.ints IntKind.u8 16 (Go.Oni.dvB key (lsub (Go.Cel.cutR c (Go.Oni.sizeI left)) 0 16))), (Seg.ints IntKind.u8 32 (Go.Oni.dvM key (lsub (Go.Cel.cutR c (Go.Oni.sizeI left)) 0 16))), (Seg.ints IntKind.u8 32 (Go.Oni.dvR key (lsub (Go.Cel.cutR c (Go.Oni.sizeI left)) 0 16)))]), (15, Blk.own 26 [(Seg.ints IntKind.u8 32 y6)]), (16, Blk.own 44 [(Seg.cells [(AC.vec 88)]), (Seg.ints IntKind.u8 16 (lput (lzeros 16) 0 (lsub y6 0 16)))]), (30, Blk.vec [(Col.ints IntKind.u8 (Go.Cel.cutR c (Go.Oni.sizeI left)))]), (58, Blk.vec [(Col.ints IntKind.u8 y2)]), (67, Blk.vec [(Col.ints IntKind.u8 y5)]), (88, Blk.vec [(Col.ints IntKind.u8 (Go.Cel.padR (lsub y5 2 y4)))]), (200000, Blk.rview [(Col.ints IntKind.u8 key)]), (200002, Blk.rview [(Col.ints IntKind.u8 c)]), (1000000, Blk.view [(Seg.ints IntKind.u32 64 Go.Hsh.rootsL)])]))))) ∧ (((igt left 1) = false) → ((Short (lsub y5 2 y4)) ∧ ((((ine (Go.Cel.plainE (lsub y5 2 y4)) 0) = true) → (R (AV.tup [(TV.g [(Seg.cells [(AC.con (Value.slice (Option.none) 0 0))]), (Seg.ints IntKind.u8 16 (lzeros 16))]), (TV.c (AC.int IntKind.i64 (Go.Cel.plainE (lsub y5 2 y4))))]) [(6, Blk.own 44 [(Seg.cells [(AC.con (Value.slice (Option.none) 0 0))]), (Seg.ints IntKind.u8 16 (lzeros 16))]), (10, Blk.own 25 [(Seg.ints IntKind.u8 16 (lsub (Go.Cel.cutR c (Go.Oni.sizeI left)) 0 16))]), (11, Blk.own 28 [(Seg.ints IntKind.u8 16 (Go.Oni.dvB key (lsub (Go.Cel.cutR c (Go.Oni.sizeI left)) 0 16))), (Seg.ints IntKind.u8 32 (Go.Oni.dvM key (lsub (Go.Cel.cutR c (Go.Oni.sizeI left)) 0 16))), (Seg.ints IntKind.u8 32 (Go.Oni.dvR key (lsub (Go.Cel.cutR c (Go.Oni.sizeI left)) 0 16)))]), (15, Blk.own 26 [(Seg.ints IntKind.u8 32 y6)]), (16, Blk.own 44 [(Seg.cells [(AC.vec 94)]), (Seg.ints IntKind.u8 16 (lput (lzeros 16) 0 (lsub y6 0 16)))]), (30, Blk.vec [(Col.ints IntKind.u8 (Go.Cel.cutR c (Go.Oni.sizeI left)))]), (58, Blk.vec [(Col.ints IntKind.u8 y2)]), (67, Blk.vec [(Col.ints IntKind.u8 y5)]), (94, Blk.vec [(Col.ints IntKind.u8 (Go.Cel.plainR (lsub y5 2 y4)))]), (200000, Blk.rview [(Col.ints IntKind.u8 key)]), (200002, Blk.rview [(Col.ints IntKind.u8 c)]), (1000000, Blk.view [(Seg.ints IntKind.u32 64 Go.Hsh.rootsL)])])) ∧ (((ine (Go.Cel.plainE (lsub y5 2 y4)) 0) = false) → (R (AV.tup [(TV.g [(Seg.cells [(AC.vec 94)]), (Seg.ints IntKind.u8 16 (lput (lzeros 16) 0 (lsub y6 0 16)))]), (TV.c (AC.int IntKind.i64 0))]) [(6, Blk.own 44 [(Seg.cells [(AC.vec 94)]), (Seg.ints IntKind.u8 16 (lput (lzeros 16) 0 (lsub y6 0 16)))]), (10, Blk.own 25 [(Seg.ints IntKind.u8 16 (lsub (Go.Cel.cutR c (Go.Oni.sizeI left)) 0 16))]), (11, Blk.own 28 [(Seg.ints IntKind.u8 16 (Go.Oni.dvB key (lsub (Go.Cel.cutR c (Go.Oni.sizeI left)) 0 16))), (Seg.ints IntKind.u8 32 (Go.Oni.dvM key (lsub (Go.Cel.cutR c (Go.Oni.sizeI left)) 0 16))), (Seg.ints IntKind.u8 32 (Go.Oni.dvR key (lsub (Go.Cel.cutR c (Go.Oni.sizeI left)) 0 16)))]), (15, Blk.own 26 [(Seg.ints IntKind.u8 32 y6)]), (16, Blk.own 44 [(Seg.cells [(AC.vec 94)]), (Seg.ints IntKind.u8 16 (lput (lzeros 16) 0 (lsub y6 0 16)))]), (30, Blk.vec [(Col.ints IntKind.u8 (Go.Cel.cutR c (Go.Oni.sizeI left)))]), (58, Blk.vec [(Col.ints IntKind.u8 y2)]), (67, Blk.vec [(Col.ints IntKind.u8 y5)]), (94, Blk.vec [(Col.ints IntKind.u8 (Go.Cel.plainR (lsub y5 2 y4)))]), (200000, Blk.rview [(Col.ints IntKind.u8 key)]), (200002, Blk.rview [(Col.ints IntKind.u8 c)]), (1000000, Blk.view [(Seg.ints IntKind.u32 64 Go.Hsh.rootsL)])]))))))))))) := by kernel_rfl

theorem opeel_vc (R : AV → Mem → Prop) (fuel : Nat) (key : List Int) (c : List Int) (left : Int) : callsx Tryd.prog gamO3 [] Tryd.f18 (fuel + 1) [.one (.vec 200000), .one (.int .i64 left), .one (.vec 200002)] [(200000, .rview [.ints .u8 key]), (200002, .rview [.ints .u8 c]), (1000000 + 0, .view [.ints .u32 64 Go.Hsh.rootsL])] R = (((((ine (ofNat (llen key)) 32) = false) → ((Go.Oni.Lf left) ∧ ((((ieq (Go.Oni.sizeI left) 0) = true) → (R (AV.tup [(TV.g [(Seg.cells [(AC.con (Value.slice (Option.none) 0 0))]), (Seg.ints IntKind.u8 16 (lzeros 16))]), (TV.c (AC.int IntKind.i64 2))]) [(6, Blk.own 44 [(Seg.cells [(AC.con (Value.slice (Option.none) 0 0))]), (Seg.ints IntKind.u8 16 (lzeros 16))]), (200000, Blk.rview [(Col.ints IntKind.u8 key)]), (200002, Blk.rview [(Col.ints IntKind.u8 c)]), (1000000, Blk.view [(Seg.ints IntKind.u32 64 Go.Hsh.rootsL)])])) ∧ (((ieq (Go.Oni.sizeI left) 0) = false) → ((Go.Oni.Lf left) ∧ ((Short c) ∧ ((((ine (Go.Cel.cutE c (Go.Oni.sizeI left)) 0) = true) → (R (AV.tup [(TV.g [(Seg.cells [(AC.con (Value.slice (Option.none) 0 0))]), (Seg.ints IntKind.u8 16 (lzeros 16))]), (TV.c (AC.int IntKind.i64 (Go.Cel.cutE c (Go.Oni.sizeI left))))]) [(6, Blk.own 44 [(Seg.cells [(AC.con (Value.slice (Option.none) 0 0))]), (Seg.ints IntKind.u8 16 (lzeros 16))]), (30, Blk.vec [(Col.ints IntKind.u8 (Go.Cel.cutR c (Go.Oni.sizeI left)))]), (200000, Blk.rview [(Col.ints IntKind.u8 key)]), (200002, Blk.rview [(Col.ints IntKind.u8 c)]), (1000000, Blk.view [(Seg.ints IntKind.u32 64 Go.Hsh.rootsL)])])) ∧ (((ine (Go.Cel.cutE c (Go.Oni.sizeI left)) 0) = false) → ((Fits 16 (llen (Go.Cel.cutR c (Go.Oni.sizeI left)))) ∧ ((Fits 16 (llen (Go.Cel.cutR c (Go.Oni.sizeI left)))) ∧ (((Go.Hsh.rootsL = Go.Hsh.rootsL) ∧ ((Go.Oni.Ky key) ∧ (Go.Oni.Nn (lsub (Go.Cel.cutR c (Go.Oni.sizeI left)) 0 16)))) ∧ ((((ine (Go.Oni.dvE key) 0) = true) → (R (AV.tup [(TV.g [(Seg.cells [(AC.con (Value.slice (Option.none) 0 0))]), (Seg.ints IntKind.u8 16 (lzeros 16))]), (TV.c (AC.int IntKind.i64 (Go.Oni.dvE key)))]) [(6, Blk.own 44 [(Seg.cells [(AC.con (Value.slice (Option.none) 0 0))]), (Seg.ints IntKind.u8 16 (lzeros 16))]), (10, Blk.own 25 [(Seg.ints IntKind.u8 16 (lsub (Go.Cel.cutR c (Go.Oni.sizeI left)) 0 16))]), (11, Blk.own 28 [(Seg.ints IntKind.u8 16 (Go.Oni.dvB key (lsub (Go.Cel.cutR c (Go.Oni.sizeI left)) 0 16))), (Seg.ints IntKind.u8 32 (Go.Oni.dvM key (lsub (Go.Cel.cutR c (Go.Oni.sizeI left)) 0 16))), (Seg.ints IntKind.u8 32 (Go.Oni.dvR key (lsub (Go.Cel.cutR c (Go.Oni.sizeI left)) 0 16)))]), (30, Blk.vec [(Col.ints IntKind.u8 (Go.Cel.cutR c (Go.Oni.sizeI left)))]), (200000, Blk.rview [(Col.ints IntKind.u8 key)]), (200002, Blk.rview [(Col.ints IntKind.u8 c)]), (1000000, Blk.view [(Seg.ints IntKind.u32 64 Go.Hsh.rootsL)])])) ∧ (((ine (Go.Oni.dvE key) 0) = false) → (((NonNeg 32) ∧ (Fits 32 (llen (Go.Cel.cutR c (Go.Oni.sizeI left))))) ∧ ((((NonNeg 32) ∧ (Fits 32 (llen (Go.Cel.cutR c (Go.Oni.sizeI left))))) ∧ ((NonNeg 16) ∧ (Fits 16 32))) ∧ (((Go.Hsh.rootsL = Go.Hsh.rootsL) ∧ ((Go.Oni.K32 (Go.Oni.dvM key (lsub (Go.Cel.cutR c (Go.Oni.sizeI left)) 0 16))) ∧ ((Go.Oni.Nn (lsub (Go.Cel.cutR c (Go.Oni.sizeI left)) 0 16)) ∧ (Go.Oni.In (lsub (Go.Cel.cutR c (Go.Oni.sizeI left)) 32 (nsub (llen (Go.Cel.cutR c (Go.Oni.sizeI left))) 32)))))) ∧ ((((Go.Mac.Sg (lsub (Go.Cel.cutR c (Go.Oni.sizeI left)) 16 16)) ∧ (Bs (lsub (Go.Cel.cutR c (Go.Oni.sizeI left)) 16 16))) ∧ ((Go.Mac.Sg (Go.Oni.tagO (Go.Oni.dvM key (lsub (Go.Cel.cutR c (Go.Oni.sizeI left)) 0 16)) left (lsub (Go.Cel.cutR c (Go.Oni.sizeI left)) 0 16) (lsub (Go.Cel.cutR c (Go.Oni.sizeI left)) 32 (nsub (llen (Go.Cel.cutR c (Go.Oni.sizeI left))) 32)))) ∧ (Bs (Go.Oni.tagO (Go.Oni.dvM key (lsub (Go.Cel.cutR c (Go.Oni.sizeI left)) 0 16)) left (lsub (Go.Cel.cutR c (Go.Oni.sizeI left)) 0 16) (lsub (Go.Cel.cutR c (Go.Oni.sizeI left)) 32 (nsub (llen (Go.Cel.cutR c (Go.Oni.sizeI left))) 32)))))) ∧ (let y0 : Bool := (leq (lsub (Go.Cel.cutR c (Go.Oni.sizeI left)) 16 16) (Go.Oni.tagO (Go.Oni.dvM key (lsub (Go.Cel.cutR c (Go.Oni.sizeI left)) 0 16)) left (lsub (Go.Cel.cutR c (Go.Oni.sizeI left)) 0 16) (lsub (Go.Cel.cutR c (Go.Oni.sizeI left)) 32 (nsub (llen (Go.Cel.cutR c (Go.Oni.sizeI left))) 32)))); (let y1 : Bool := (bnot (leq (lsub (Go.Cel.cutR c (Go.Oni.sizeI left)) 16 16) (Go.Oni.tagO (Go.Oni.dvM key (lsub (Go.Cel.cutR c (Go.Oni.sizeI left)) 0 16)) left (lsub (Go.Cel.cutR c (Go.Oni.sizeI left)) 0 16) (lsub (Go.Cel.cutR c (Go.Oni.sizeI left)) 32 (nsub (llen (Go.Cel.cutR c (Go.Oni.sizeI left))) 32))))); (let y2 : List Int := (Go.Oni.tagO (Go.Oni.dvM key (lsub (Go.Cel.cutR c (Go.Oni.sizeI left)) 0 16)) left (lsub (Go.Cel.cutR c (Go.Oni.sizeI left)) 0 16) (lsub (Go.Cel.cutR c (Go.Oni.sizeI left)) 32 (nsub (llen (Go.Cel.cutR c (Go.Oni.sizeI left))) 32))); (((y1 = true) → (R (AV.tup [(TV.g [(Seg.cells [(AC.con (Value.slice (Option.none) 0 0))]), (Seg.ints IntKind.u8 16 (lzeros 16))]), (TV.c (AC.int IntKind.i64 70))]) [(6, Blk.own 44 [(Seg.cells [(AC.con (Value.slice (Option.none) 0 0))]), (Seg.ints IntKind.u8 16 (lzeros 16))]), (10, Blk.own 25 [(Seg.ints IntKind.u8 16 (lsub (Go.Cel.cutR c (Go.Oni.sizeI left)) 0 16))]), (11, Blk.own 28 [(Seg.ints IntKind.u8 16 (Go.Oni.dvB key (lsub (Go.Cel.cutR c (Go.Oni.sizeI left)) 0 16))), (Seg.ints IntKind.u8 32 (Go.Oni.dvM key (lsub (Go.Cel.cutR c (Go.Oni.sizeI left)) 0 16))), (Seg.ints IntKind.u8 32 (Go.Oni.dvR key (lsub (Go.Cel.cutR c (Go.Oni.sizeI left)) 0 16)))]), (30, Blk.vec [(Col.ints IntKind.u8 (Go.Cel.cutR c (Go.Oni.sizeI left)))]), (58, Blk.vec [(Col.ints IntKind.u8 y2)]), (200000, Blk.rview [(Col.ints IntKind.u8 key)]), (200002, Blk.rview [(Col.ints IntKind.u8 c)]), (1000000, Blk.view [(Seg.ints IntKind.u32 64 Go.Hsh.rootsL)])])) ∧ ((y1 = false) → ((Fits 16 16) ∧ ((((Go.Blk.BL 16 (lsub (Go.Oni.dvB key (lsub (Go.Cel.cutR c (Go.Oni.sizeI left)) 0 16)) 0 16)) ∧ (Go.Blk.BL 16 (lzeros 16))) ∧ ((Short (lsub (Go.Cel.cutR c (Go.Oni.sizeI left)) 32 (nsub (llen (Go.Cel.cutR c (Go.Oni.sizeI left))) 32))) ∧ (Bs (lsub (Go.Cel.cutR c (Go.Oni.sizeI left)) 32 (nsub (llen (Go.Cel.cutR c (Go.Oni.sizeI left))) 32))))) ∧ ((Go.Oni.Bx left (Go.Blk.mask (Go.Blk.ks (lsub (Go.Oni.dvB key (lsub (Go.Cel.cutR c (Go.Oni.sizeI left)) 0 16)) 0 16)) (lzeros 16) (lsub (Go.Cel.cutR c (Go.Oni.sizeI left)) 32 (nsub (llen (Go.Cel.cutR c (Go.Oni.sizeI left))) 32)))) ∧ ((((Go.Oni.inOk (Go.Blk.mask (Go.Blk.ks (lsub (Go.Oni.dvB key (lsub (Go.Cel.cutR c (Go.Oni.sizeI left)) 0 16)) 0 16)) (lzeros 16) (lsub (Go.Cel.cutR c (Go.Oni.sizeI left)) 32 (nsub (llen (Go.Cel.cutR c (Go.Oni.sizeI left))) 32))) left) = false) → (let y3 : List Int := (Go.Blk.mask (Go.Blk.ks (lsub (Go.Oni.dvB key (lsub (Go.Cel.cutR c (Go.Oni.sizeI left)) 0 16)) 0 16)) (lzeros 16) (lsub (Go.Cel.cutR c (Go.Oni.sizeI left)) 32 (nsub (llen (Go.Cel.cutR c (Go.Oni.sizeI left))) 32))); (R (AV.tup [(TV.g [(Seg.cells [(AC.con (Value.slice (Option.none) 0 0))]), (Seg.ints IntKind.u8 16 (lzeros 16))]), (TV.c (AC.int IntKind.i64 71))]) [(6, Blk.own 44 [(Seg.cells [(AC.con (Value.slice (Option.none) 0 0))]), (Seg.ints IntKind.u8 16 (lzeros 16))]), (10, Blk.own 25 [(Seg.ints IntKind.u8 16 (lsub (Go.Cel.cutR c (Go.Oni.sizeI left)) 0 16))]), (11, Blk.own 28 [(Seg.ints IntKind.u8 16 (Go.Oni.dvB key (lsub (Go.Cel.cutR c (Go.Oni.sizeI left)) 0 16))), (Seg.ints IntKind.u8 32 (Go.Oni.dvM key (lsub (Go.Cel.cutR c (Go.Oni.sizeI left)) 0 16))), (Seg.ints IntKind.u8 32 (Go.Oni.dvR key (lsub (Go.Cel.cutR c (Go.Oni.sizeI left)) 0 16)))]), (30, Blk.vec [(Col.ints IntKind.u8 (Go.Cel.cutR c (Go.Oni.sizeI left)))]), (58, Blk.vec [(Col.ints IntKind.u8 y2)]), (67, Blk.vec [(Col.ints IntKind.u8 y3)]), (200000, Blk.rview [(Col.ints IntKind.u8 key)]), (200002, Blk.rview [(Col.ints IntKind.u8 c)]), (1000000, Blk.view [(Seg.ints IntKind.u32 64 Go.Hsh.rootsL)])]))) ∧ (((Go.Oni.inOk (Go.Blk.mask (Go.Blk.ks (lsub (Go.Oni.dvB key (lsub (Go.Cel.cutR c (Go.Oni.sizeI left)) 0 16)) 0 16)) (lzeros 16) (lsub (Go.Cel.cutR c (Go.Oni.sizeI left)) 32 (nsub (llen (Go.Cel.cutR c (Go.Oni.sizeI left))) 32))) left) = true) → (let y4 : Nat := (nat (Go.Oni.inN (Go.Blk.mask (Go.Blk.ks (lsub (Go.Oni.dvB key (lsub (Go.Cel.cutR c (Go.Oni.sizeI left)) 0 16)) 0 16)) (lzeros 16) (lsub (Go.Cel.cutR c (Go.Oni.sizeI left)) 32 (nsub (llen (Go.Cel.cutR c (Go.Oni.sizeI left))) 32))))); (let y5 : List Int := (Go.Blk.mask (Go.Blk.ks (lsub (Go.Oni.dvB key (lsub (Go.Cel.cutR c (Go.Oni.sizeI left)) 0 16)) 0 16)) (lzeros 16) (lsub (Go.Cel.cutR c (Go.Oni.sizeI left)) 32 (nsub (llen (Go.Cel.cutR c (Go.Oni.sizeI left))) 32))); (((NonNeg 32) ∧ (Fits 32 (llen (Go.Cel.cutR c (Go.Oni.sizeI left))))) ∧ (((Fits (nadd 0 32) 32) ∧ (((Go.Hsh.rootsL = Go.Hsh.rootsL) ∧ ((Go.Mac.Sg (lsub (Go.Oni.dvR key (lsub (Go.Cel.cutR c (Go.Oni.sizeI left)) 0 16)) 0 32)) ∧ (Go.Mac.Sg (lsub (Go.Cel.cutR c (Go.Oni.sizeI left)) 0 32)))) ∧ (opeel.k0 R left key c y4 y0 y2 y5 fuel))) ∧ ((Fits (nadd 0 32) 32) ∧ (((Go.Hsh.rootsL = Go.Hsh.rootsL) ∧ ((Go.Mac.Sg (lsub (Go.Oni.dvR key (lsub (Go.Cel.cutR c (Go.Oni.sizeI left)) 0 16)) 0 32)) ∧ (Go.Mac.Sg (lsub (Go.Cel.cutR c (Go.Oni.sizeI left)) 0 32)))) ∧ (opeel.k0 R left key c y4 y0 y2 y5 fuel)))))))))))))))))))))))))))))))))) ∧ (((ine (ofNat (llen key)) 32) = true) → (R (AV.tup [(TV.g [(Seg.cells [(AC.con (Value.slice (Option.none) 0 0))]), (Seg.ints IntKind.u8 16 (lzeros 16))]), (TV.c (AC.int IntKind.i64 2))]) [(6, Blk.own 44 [(Seg.cells [(AC.con (Value.slice (Option.none) 0 0))]), (Seg.ints IntKind.u8 16 (lzeros 16))]), (200000, Blk.rview [(Col.ints IntKind.u8 key)]), (200002, Blk.rview [(Col.ints IntKind.u8 c)]), (1000000, Blk.view [(Seg.ints IntKind.u32 64 Go.Hsh.rootsL)])])))) := by kernel_rfl

def orpeel.l1 (R : AV → Mem → Prop) (left : Int) (y4 : List Int) (key : List Int) (x1 : List Int) (c : List Int) (fuel : Nat) (x7 : Int) : Prop := run Tryd.prog gamO3 [] (resh Tryd.prog [] Tryd.f17.results.toList R) fuel [.code (cAt (bodyOf Tryd.f17) [1, 1, 1, 1, 1, 1, 1, 1, 1, 1, 1, 1, 0, 1, 0, 0]), .inLoop (cAt (bodyOf Tryd.f17) [1, 1, 1, 1, 1, 1, 1, 1, 1, 1, 1, 1, 0, 1, 0, 0]), .inBlock 2, .code (cAt (bodyOf Tryd.f17) [1, 1, 1, 1, 1, 1, 1, 1, 1, 1, 1, 1, 1])] [AV.undef, (AV.one (AC.int IntKind.i64 left)), AV.undef, AV.undef, AV.undef, AV.undef, (AV.one (AC.ptr 6 0 0)), AV.undef, (AV.one (AC.vec 33)), AV.undef, AV.undef, AV.undef, AV.undef, (AV.one (AC.ptr 13 0 0)), AV.undef, AV.undef, (AV.one (AC.vec 78)), (AV.one (AC.int IntKind.i64 (add IntKind.i64 (mul IntKind.i64 256 (conv IntKind.i64 (lget y4 0))) (conv IntKind.i64 (lget y4 1))))), (AV.one (AC.int IntKind.i64 x7)), (AV.tup []), AV.undef, AV.undef, AV.undef, AV.undef, AV.undef, AV.undef, AV.undef, AV.undef, AV.undef, AV.undef, AV.undef, AV.undef, AV.undef, AV.undef, AV.undef, AV.undef, AV.undef, AV.undef, AV.undef, AV.undef, AV.undef, AV.undef, AV.undef, AV.undef, AV.undef, AV.undef, AV.undef, AV.undef, AV.undef, AV.undef, AV.undef, AV.undef, AV.undef, AV.undef, AV.undef, AV.undef, AV.undef, AV.undef, AV.undef, AV.undef, AV.undef, AV.undef, AV.undef, AV.undef, AV.undef, AV.undef, AV.undef, AV.undef, AV.undef, AV.undef, AV.undef, AV.undef, AV.undef, AV.undef, AV.undef, AV.undef, AV.undef, AV.undef, AV.undef, AV.undef, AV.undef, AV.undef, AV.undef, AV.undef, AV.undef, AV.undef, AV.undef, AV.undef, AV.undef, AV.undef, AV.undef, AV.undef, AV.undef, AV.undef, AV.undef, AV.undef, AV.undef, AV.undef, AV.undef, AV.undef, AV.undef, AV.undef, AV.undef, AV.undef, AV.undef, AV.undef, AV.undef, AV.undef, AV.undef, (AV.tup []), (AV.tup []), (AV.tup []), (AV.tup []), (AV.tup []), (AV.tup []), (AV.tup []), (AV.tup []), (AV.tup []), (AV.tup []), (AV.tup []), (AV.tup []), (AV.tup []), (AV.tup []), (AV.tup []), AV.undef, (AV.tup []), (AV.tup []), (AV.tup []), (AV.tup []), (AV.tup []), (AV.tup []), (AV.tup []), (AV.tup []), AV.undef, (AV.tup []), (AV.tup [])] [(6, Blk.own 44 [(Seg.cells [(AC.con (Value.slice (Option.none) 0 0))]), (Seg.ints IntKind.u8 16 (lzeros 16))]), (13, Blk.own 28 [(Seg.ints IntKind.u8 16 (Go.Oni.dvB key x1)), (Seg.ints IntKind.u8 32 (Go.Oni.dvM key x1)), (Seg.ints IntKind.u8 32 (Go.Oni.dvR key x1))]), (33, Blk.vec [(Col.ints IntKind.u8 (Go.Cel.cutR c (Go.Oni.sizeI left)))]), (78, Blk.vec [(Col.ints IntKind.u8 y4)]), (200000, Blk.rview [(Col.ints IntKind.u8 key)]), (200002, Blk.rview [(Col.ints IntKind.u8 c)])]

def orpeel.k0 (R : AV → Mem → Prop) (left : Int) (x0 : Int) (key : List Int) (x1 : List Int) (c : List Int) (x2 : List Int) (fuel : Nat) : Prop := runM Tryd.prog gamO3 [] (resh Tryd.prog [] Tryd.f17.results.toList R) (run Tryd.prog gamO3 [] (resh Tryd.prog [] Tryd.f17.results.toList R) fuel) 3991 [.code (cAt (bodyOf Tryd.f17) [1, 1, 1, 1, 1, 1, 1, 1])] [(AV.one (AC.vec 200000)), (AV.one (AC.int IntKind.i64 left)), AV.undef, AV.undef, AV.undef, AV.undef, (AV.one (AC.ptr 6 0 0)), AV.undef, (AV.one (AC.vec 33)), AV.undef, (AV.one (AC.ptr 10 0 0)), (AV.one (AC.ptr 11 0 0)), (AV.one (AC.int IntKind.i64 x0)), (AV.one (AC.ptr 13 0 0)), (AV.one (AC.int IntKind.i64 (Go.Oni.dvE key))), (AV.one (AC.ptr 15 0 0)), (AV.tup []), (AV.tup []), (AV.tup []), (AV.tup []), AV.undef, AV.undef, AV.undef, AV.undef, AV.undef, AV.undef, AV.undef, AV.undef, AV.undef, AV.undef, AV.undef, AV.undef, AV.undef, AV.undef, AV.undef, AV.undef, AV.undef, AV.undef, AV.undef, AV.undef, (AV.one (AC.int IntKind.i64 x0)), (AV.one (AC.lit false)), AV.undef, AV.undef, AV.undef, AV.undef, AV.undef, AV.undef, AV.undef, AV.undef, AV.undef, AV.undef, AV.undef, AV.undef, AV.undef, AV.undef, AV.undef, (AV.tup [(TV.g [(Seg.ints IntKind.u8 16 (Go.Oni.dvB key x1)), (Seg.ints IntKind.u8 32 (Go.Oni.dvM key x1)), (Seg.ints IntKind.u8 32 (Go.Oni.dvR key x1))]), (TV.c (AC.int IntKind.i64 (Go.Oni.dvE key)))]), (AV.one (AC.vec 200000)), (AV.agg [(Seg.ints IntKind.u8 16 x1)]), (AV.tup [(TV.g [(Seg.ints IntKind.u8 16 (Go.Oni.dvB key x1)), (Seg.ints IntKind.u8 32 (Go.Oni.dvM key x1)), (Seg.ints IntKind.u8 32 (Go.Oni.dvR key x1))]), (TV.c (AC.int IntKind.i64 (Go.Oni.dvE key)))]), (AV.agg [(Seg.ints IntKind.u8 16 (Go.Oni.dvB key x1)), (Seg.ints IntKind.u8 32 (Go.Oni.dvM key x1)), (Seg.ints IntKind.u8 32 (Go.Oni.dvR key x1))]), (AV.one (AC.int IntKind.i64 (Go.Oni.dvE key))), (AV.agg [(Seg.ints IntKind.u8 16 (Go.Oni.dvB key x1)), (Seg.ints IntKind.u8 32 (Go.Oni.dvM key x1)), (Seg.ints IntKind.u8 32 (Go.Oni.dvR key x1))]), (AV.one (AC.int IntKind.i64 left)), (AV.agg [(Seg.ints IntKind.u8 16 x1)]), (AV.one (AC.vec 33)), (AV.one (AC.vsl 33 1 32 (nsub (llen (Go.Cel.cutR c (Go.Oni.sizeI left))) 32))), (AV.agg [(Seg.ints IntKind.u8 16 (Go.Oni.tagO (Go.Oni.dvM key x1) left x1 (lsub (Go.Cel.cutR c (Go.Oni.sizeI left)) 32 (nsub (llen (Go.Cel.cutR c (Go.Oni.sizeI left))) 32))))]), (AV.tup []), (AV.tup []), (AV.tup []), (AV.tup []), (AV.tup []), (AV.tup []), (AV.tup []), (AV.tup []), (AV.tup []), (AV.tup []), (AV.tup []), (AV.tup []), (AV.tup []), (AV.tup []), (AV.tup []), (AV.tup []), (AV.tup []), (AV.tup []), (AV.tup []), (AV.tup []), (AV.tup []), (AV.tup []), (AV.tup []), (AV.tup []), (AV.tup []), (AV.tup []), (AV.tup []), (AV.tup []), (AV.tup []), (AV.tup []), (AV.tup []), (AV.tup []), (AV.tup []), (AV.tup []), (AV.tup []), (AV.tup []), (AV.tup []), (AV.tup []), (AV.tup []), (AV.tup []), (AV.tup []), (AV.tup []), (AV.tup []), (AV.tup []), (AV.tup []), (AV.tup []), (AV.tup []), (AV.tup []), (AV.tup []), (AV.tup []), (AV.tup []), (AV.tup []), (AV.tup []), (AV.tup []), (AV.tup []), AV.undef, (AV.tup []), (AV.tup []), (AV.tup []), (AV.tup []), (AV.tup []), (AV.tup []), (AV.tup []), (AV.tup []), AV.undef, (AV.tup []), (AV.tup [])] [(6, Blk.own 44 [(Seg.cells [(AC.con (Value.slice (Option.none) 0 0))]), (Seg.ints IntKind.u8 16 (lzeros 16))]), (10, Blk.own 25 [(Seg.ints IntKind.u8 16 x1)]), (11, Blk.own 25 [(Seg.ints IntKind.u8 16 x2)]), (13, Blk.own 28 [(Seg.ints IntKind.u8 16 (Go.Oni.dvB key x1)), (Seg.ints IntKind.u8 32 (Go.Oni.dvM key x1)), (Seg.ints IntKind.u8 32 (Go.Oni.dvR key x1))]), (15, Blk.own 25 [(Seg.ints IntKind.u8 16 (Go.Oni.tagO (Go.Oni.dvM key x1) left x1 (lsub (Go.Cel.cutR c (Go.Oni.sizeI left)) 32 (nsub (llen (Go.Cel.cutR c (Go.Oni.sizeI left))) 32))))]), (33, Blk.vec [(Col.ints IntKind.u8 (Go.Cel.cutR c (Go.Oni.sizeI left)))]), (200000, Blk.rview [(Col.ints IntKind.u8 key)]), (200002, Blk.rview [(Col.ints IntKind.u8 c)])]

def orpeel.l0 (R : AV → Mem → Prop) (left : Int) (c : List Int) (key : List Int) (fuel : Nat) (x0 : Int) (x1 : List Int) (x2 : List Int) : Prop := run Tryd.prog gamO3 [] (resh Tryd.prog [] Tryd.f17.results.toList R) fuel [.code (cAt (bodyOf Tryd.f17) [1, 1, 1, 1, 1, 0, 1, 0, 0]), .inLoop (cAt (bodyOf Tryd.f17) [1, 1, 1, 1, 1, 0, 1, 0, 0]), .inBlock 0, .code (cAt (bodyOf Tryd.f17) [1, 1, 1, 1, 1, 1])] [(AV.one (AC.vec 200000)), (AV.one (AC.int IntKind.i64 left)), AV.undef, AV.undef, AV.undef, AV.undef, (AV.one (AC.ptr 6 0 0)), AV.undef, (AV.one (AC.vec 33)), AV.undef, (AV.one (AC.ptr 10 0 0)), (AV.one (AC.ptr 11 0 0)), (AV.one (AC.int IntKind.i64 x0)), (AV.tup []), AV.undef, (AV.tup []), (AV.tup []), (AV.tup []), (AV.tup []), (AV.tup []), AV.undef, AV.undef, AV.undef, AV.undef, AV.undef, AV.undef, AV.undef, AV.undef, AV.undef, AV.undef, AV.undef, AV.undef, AV.undef, AV.undef, AV.undef, AV.undef, AV.undef, AV.undef, AV.undef, AV.undef, AV.undef, AV.undef, AV.undef, AV.undef, AV.undef, AV.undef, AV.undef, AV.undef, AV.undef, AV.undef, AV.undef, AV.undef, AV.undef, AV.undef, AV.undef, AV.undef, AV.undef, (AV.tup []), (AV.tup []), (AV.tup []), (AV.tup []), (AV.tup []), (AV.tup []), (AV.tup []), (AV.tup []), (AV.tup []), (AV.tup []), (AV.tup []), (AV.tup []), (AV.tup []), (AV.tup []), (AV.tup []), (AV.tup []), (AV.tup []), (AV.tup []), (AV.tup []), (AV.tup []), (AV.tup []), (AV.tup []), (AV.tup []), (AV.tup []), (AV.tup []), (AV.tup []), (AV.tup []), (AV.tup []), (AV.tup []), (AV.tup []), (AV.tup []), (AV.tup []), (AV.tup []), (AV.tup []), (AV.tup []), (AV.tup []), (AV.tup []), (AV.tup []), (AV.tup []), (AV.tup []), (AV.tup []), (AV.tup []), (AV.tup []), (AV.tup []), (AV.tup []), (AV.tup []), (AV.tup []), (AV.tup []), (AV.tup []), (AV.tup []), (AV.tup []), (AV.tup []), (AV.tup []), (AV.tup []), (AV.tup []), (AV.tup []), (AV.tup []), (AV.tup []), (AV.tup []), (AV.tup []), (AV.tup []), (AV.tup []), (AV.tup []), (AV.tup []), (AV.tup []), (AV.tup []), (AV.tup []), AV.undef, (AV.tup []), (AV.tup []), (AV.tup []), (AV.tup []), (AV.tup []), (AV.tup []), (AV.tup []), (AV.tup []), AV.undef, (AV.tup []), (AV.tup [])] [(6, Blk.own 44 [(Seg.cells [(AC.con (Value.slice (Option.none) 0 0))]), (Seg.ints IntKind.u8 16 (lzeros 16))]), (10, Blk.own 25 [(Seg.ints IntKind.u8 16 x1)]), (11, Blk.own 25 [(Seg.ints IntKind.u8 16 x2)]), (33, Blk.vec [(Col.ints IntKind.u8 (Go.Cel.cutR c (Go.Oni.sizeI left)))]), (200000, Blk.rview [(Col.ints IntKind.u8 key)]), (200002, Blk.rview [(Col.ints IntKind.u8 c)])]

theorem orpeel.l1_succ (R : AV → Mem → Prop) (left : Int) (y4 : List Int) (key : List Int) (x1 : List Int) (c : List Int) (fuel : Nat) (x7 : Int) : orpeel.l1 R left y4 key x1 c (fuel + 1) x7 = (((((ilt x7 (ofNat (llen y4))) = true) → ((InB x7 (llen y4)) ∧ ((((ine (lget y4 (nat x7)) 0) = true) → (R (AV.tup [(TV.g [(Seg.cells [(AC.con (Value.slice (Option.none) 0 0))]), (Seg.ints IntKind.u8 16 (lzeros 16))]), (TV.c (AC.int IntKind.i64 71))]) [(6, Blk.own 44 [(Seg.cells [(AC.con (Value.slice (Option.none) 0 0))]), (Seg.ints IntKind.u8 16 (lzeros 16))]), (13, Blk.own 28 [(Seg.ints IntKind.u8 16 (Go.Oni.dvB key x1)), (Seg.ints IntKind.u8 32 (Go.Oni.dvM key x1)), (Seg.ints IntKind.u8 32 (Go.Oni.dvR key x1))]), (33, Blk.vec [(Col.ints IntKind.u8 (Go.Cel.cutR c (Go.Oni.sizeI left)))]), (78, Blk.vec [(Col.ints IntKind.u8 y4)]), (200000, Blk.rview [(Col.ints IntKind.u8 key)]), (200002, Blk.rview [(Col.ints IntKind.u8 c)])])) ∧ (((ine (lget y4 (nat x7)) 0) = false) → (orpeel.l1 R left y4 key x1 c fuel (add IntKind.i64 x7 1)))))) ∧ (((ilt x7 (ofNat (llen y4))) = false) → ((Fits (nadd 0 32) 32) ∧ (((NonNeg 32) ∧ (Fits 32 (llen (Go.Cel.cutR c (Go.Oni.sizeI left))))) ∧ (((Go.Oni.K32 (lsub (Go.Oni.dvR key x1) 0 32)) ∧ (Go.Oni.Ky (lsub (Go.Cel.cutR c (Go.Oni.sizeI left)) 0 32))) ∧ ((Fits 16 16) ∧ (let y8 : List Int := (lput (lzeros 16) 0 (lsub (Go.Mac.tagL (lsub (Go.Oni.dvR key x1) 0 32) (lsub (Go.Cel.cutR c (Go.Oni.sizeI left)) 0 32)) 0 16)); ((((igt left 1) = true) → ((((NonNeg (add IntKind.i64 2 (add IntKind.i64 (mul IntKind.i64 256 (conv IntKind.i64 (lget y4 0))) (conv IntKind.i64 (lget y4 1))))) ∧ (Fits (nat (add IntKind.i64 2 (add IntKind.i64 (mul IntKind.i64 256 (conv IntKind.i64 (lget y4 0))) (conv IntKind.i64 (lget y4 1))))) (llen y4))) ∧ ((NonNeg 2) ∧ (Fits 2 (nat (add IntKind.i64 2 (add IntKind.i64 (mul IntKind.i64 256 (conv IntKind.i64 (lget y4 0))) (conv IntKind.i64 (lget y4 1)))))))) ∧ ((Short (lsub y4 2 (nsub (nat (add IntKind.i64 2 (add IntKind.i64 (mul IntKind.i64 256 (conv IntKind.i64 (lget y4 0))) (conv IntKind.i64 (lget y4 1))))) 2))) ∧ (let y9 : Int := (Go.Cel.padE (lsub y4 2 (nsub (nat (add IntKind.i64 2 (add IntKind.i64 (mul IntKind.i64 256 (conv IntKind.i64 (lget y4 0))) (conv IntKind.i64 (lget y4 1))))) 2))); (let y10 : Int := (add IntKind.i64 2 (add IntKind.i64 (mul IntKind.i64 256 (conv IntKind.i64 (lget y4 0))) (conv IntKind.i64 (lget y4 1)))); (let y11 : Nat := (nsub (nat (add IntKind.i64 2 (add IntKind.i64 (mul IntKind.i64 256 (conv IntKind.i64 (lget y4 0))) (conv IntKind.i64 (lget y4 1))))) 2); (let y12 : List Int := (Go.Cel.padR (lsub y4 2 (nsub (nat (add IntKind.i64 2 (add IntKind.i64 (mul IntKind.i64 256 (conv IntKind.i64 (lget y4 0))) (conv IntKind.i64 (lget y4 1))))) 2))); (R (AV.tup [(TV.g [(Seg.cells [(AC.vec 122)]), (Seg.ints IntKind.u8 16 y8)]), (TV.c (AC.int IntKind.i64 0))]) [(6, Blk.own 44 [(Seg.cells [(AC.vec 122)]), (Seg.ints IntKind.u8 16 y8)]), (13, Blk.own 28 [(Seg.ints IntKind.u8 16 (Go.Oni.dvB key x1)), (Seg.ints IntKind.u8 32 (Go.Oni.dvM key x1)), (Seg.ints IntKind.u8 32 (Go.Oni.dvR key x1))]), (19, Blk.own 44 [(Seg.cells [(AC.vec 122)]), (Seg.ints IntKind.u8 16 y8)]), (33, Blk.vec [(Col.ints IntKind.u8 (Go.Cel.cutR c (Go.Oni.sizeI left)))]), (78, Blk.vec [(Col.ints IntKind.u8 y4)]), (122, Blk.vec [(Col.ints IntKind.u8 y12)]), (200000, Blk.rview [(Col.ints IntKind.u8 key)]), (200002, Blk.rview [(Col.ints IntKind.u8 c)])])))))))) ∧ (((igt left 1) = false) → ((((NonNeg (add IntKind.i64 2 (add IntKind.i64 (mul IntKind.i64 256 (conv IntKind.i64 (lget y4 0))) (conv IntKind.i64 (lget y4 1))))) ∧ (Fits (nat (add IntKind.i64 2 (add IntKind.i64 (mul IntKind.i64 256 (conv IntKind.i64 (lget y4 0))) (conv IntKind.i64 (lget y4 1))))) (llen y4))) ∧ ((NonNeg 2) ∧ (Fits 2 (nat (add IntKind.i64 2 (add IntKind.i64 (mul IntKind.i64 256 (conv IntKind.i64 (lget y4 0))) (conv IntKind.i64 (lget y4 1)))))))) ∧ ((Short (lsub y4 2 (nsub (nat (add IntKind.i64 2 (add IntKind.i64 (mul IntKind.i64 256 (conv IntKind.i64 (lget y4 0))) (conv IntKind.i64 (lget y4 1))))) 2))) ∧ (let y13 : Int := (Go.Cel.plainE (lsub y4 2 (nsub (nat (add IntKind.i64 2 (add IntKind.i64 (mul IntKind.i64 256 (conv IntKind.i64 (lget y4 0))) (conv IntKind.i64 (lget y4 1))))) 2))); (let y14 : Int := (add IntKind.i64 2 (add IntKind.i64 (mul IntKind.i64 256 (conv IntKind.i64 (lget y4 0))) (conv IntKind.i64 (lget y4 1)))); (let y15 : Nat := (nsub (nat (add IntKind.i64 2 (add IntKind.i64 (mul IntKind.i64 256 (conv IntKind.i64 (lget y4 0))) (conv IntKind.i64 (lget y4 1))))) 2); (let y16 : List Int := (Go.Cel.plainR (lsub y4 2 (nsub (nat (add IntKind.i64 2 (add IntKind.i64 (mul IntKind.i64 256 (conv IntKind.i64 (lget y4 0))) (conv IntKind.i64 (lget y4 1))))) 2))); (R (AV.tup [(TV.g [(Seg.cells [(AC.vec 131)]), (Seg.ints IntKind.u8 16 y8)]), (TV.c (AC.int IntKind.i64 0))]) [(6, Blk.own 44 [(Seg.cells [(AC.vec 131)]), (Seg.ints IntKind.u8 16 y8)]), (13, Blk.own 28 [(Seg.ints IntKind.u8 16 (Go.Oni.dvB key x1)), (Seg.ints IntKind.u8 32 (Go.Oni.dvM key x1)), (Seg.ints IntKind.u8 32 (Go.Oni.dvR key x1))]), (19, Blk.own 44 [(Seg.cells [(AC.vec 131)]), (Seg.ints IntKind.u8 16 y8)]), (33, Blk.vec [(Col.ints IntKind.u8 (Go.Cel.cutR c (Go.Oni.sizeI left)))]), (78, Blk.vec [(Col.ints IntKind.u8 y4)]), (131, Blk.vec [(Col.ints IntKind.u8 y16)]), (200000, Blk.rview [(Col.ints IntKind.u8 key)]), (200002, Blk.rview [(Col.ints IntKind.u8 c)])]))))))))))))))))) := by kernel_rfl
theorem orpeel.l1_zero (R : AV → Mem → Prop) (left : Int) (y4 : List Int) (key : List Int) (x1 : List Int) (c : List Int) (x7 : Int) : orpeel.l1 R left y4 key x1 c 0 x7 = False := by kernel_rfl

theorem orpeel.k0_eq (R : AV → Mem → Prop) (left : Int) (x0 : Int) (key : List Int) (x1 : List Int) (c : List Int) (x2 : List Int) (fuel : Nat) : orpeel.k0 R left x0 key x1 c x2 fuel = ((let y3 : List Int := (Go.Oni.tagO (Go.Oni.dvM key x1) left x1 (lsub (Go.Cel.cutR c (Go.Oni.sizeI left)) 32 (nsub (llen (Go.Cel.cutR c (Go.Oni.sizeI left))) 32))); ((((bnot (leq x2 y3)) = true) → (R (AV.tup [(TV.g [(Seg.cells [(AC.con (Value.slice (Option.none) 0 0))]), (Seg.ints IntKind.u8 16 (lzeros 16))]), (TV.c (AC.int IntKind.i64 70))]) [(6, Blk.own 44 [(Seg.cells [(AC.con (Value.slice (Option.none) 0 0))]), (Seg.ints IntKind.u8 16 (lzeros 16))]), (10, Blk.own 25 [(Seg.ints IntKind.u8 16 x1)]), (11, Blk.own 25 [(Seg.ints IntKind.u8 16 x2)]), (13, Blk.own 28 [(Seg.ints IntKind.u8 16 (Go.Oni.dvB key x1)), (Seg.ints IntKind.u8 32 (Go.Oni.dvM key x1)), (Seg.ints IntKind.u8 32 (Go.Oni.dvR key x1))]), (15, Blk.own 25 [(Seg.ints IntKind.u8 16 y3)]), (33, Blk.vec [(Col.ints IntKind.u8 (Go.Cel.cutR c (Go.Oni.sizeI left)))]), (200000, Blk.rview [(Col.ints IntKind.u8 key)]), (200002, Blk.rview [(Col.ints IntKind.u8 c)])])) ∧ (((bnot (leq x2 y3)) = false) → ((Fits 16 16) ∧ (((NonNeg 32) ∧ (Fits 32 (llen (Go.Cel.cutR c (Go.Oni.sizeI left))))) ∧ ((((Go.Blk.BL 16 (lsub (Go.Oni.dvB key x1) 0 16)) ∧ (Go.Blk.BL 16 (lzeros 16))) ∧ ((Short (lsub (Go.Cel.cutR c (Go.Oni.sizeI left)) 32 (nsub (llen (Go.Cel.cutR c (Go.Oni.sizeI left))) 32))) ∧ (Bs (lsub (Go.Cel.cutR c (Go.Oni.sizeI left)) 32 (nsub (llen (Go.Cel.cutR c (Go.Oni.sizeI left))) 32))))) ∧ (let y4 : List Int := (Go.Blk.mask (Go.Blk.ks (lsub (Go.Oni.dvB key x1) 0 16)) (lzeros 16) (lsub (Go.Cel.cutR c (Go.Oni.sizeI left)) 32 (nsub (llen (Go.Cel.cutR c (Go.Oni.sizeI left))) 32))); ((InB 0 (llen y4)) ∧ ((InB 1 (llen y4)) ∧ ((Go.Oni.Lf left) ∧ (let y5 : Bool := (igt (add IntKind.i64 (mul IntKind.i64 256 (conv IntKind.i64 (lget y4 0))) (conv IntKind.i64 (lget y4 1))) (sub IntKind.i64 (Go.Oni.sizeI left) 34)); (((y5 = true) → (R (AV.tup [(TV.g [(Seg.cells [(AC.con (Value.slice (Option.none) 0 0))]), (Seg.ints IntKind.u8 16 (lzeros 16))]), (TV.c (AC.int IntKind.i64 71))]) [(6, Blk.own 44 [(Seg.cells [(AC.con (Value.slice (Option.none) 0 0))]), (Seg.ints IntKind.u8 16 (lzeros 16))]), (10, Blk.own 25 [(Seg.ints IntKind.u8 16 x1)]), (11, Blk.own 25 [(Seg.ints IntKind.u8 16 x2)]), (13, Blk.own 28 [(Seg.ints IntKind.u8 16 (Go.Oni.dvB key x1)), (Seg.ints IntKind.u8 32 (Go.Oni.dvM key x1)), (Seg.ints IntKind.u8 32 (Go.Oni.dvR key x1))]), (15, Blk.own 25 [(Seg.ints IntKind.u8 16 y3)]), (33, Blk.vec [(Col.ints IntKind.u8 (Go.Cel.cutR c (Go.Oni.sizeI left)))]), (78, Blk.vec [(Col.ints IntKind.u8 y4)]), (200000, Blk.rview [(Col.ints IntKind.u8 key)]), (200002, Blk.rview [(Col.ints IntKind.u8 c)])])) ∧ ((y5 = false) → (let y6 : Int := (add IntKind.i64 2 (add IntKind.i64 (mul IntKind.i64 256 (conv IntKind.i64 (lget y4 0))) (conv IntKind.i64 (lget y4 1)))); (orpeel.l1 R left y4 key x1 c fuel y6)))))))))))))))) := by kernel_rfl

theorem orpeel.l0_succ (R : AV → Mem → Prop) (left : Int) (c : List Int) (key : List Int) (fuel : Nat) (x0 : Int) (x1 : List Int) (x2 : List Int) : orpeel.l0 R left c key (fuel + 1) x0 x1 x2 = (((((ilt x0 16) = true) → ((InB x0 (llen (Go.Cel.cutR c (Go.Oni.sizeI left)))) ∧ ((InB x0 16) ∧ ((Low (nadd 0 (nat x0)) 16) ∧ ((InB (add IntKind.i64 16 x0) (llen (Go.Cel.cutR c (Go.Oni.sizeI left)))) ∧ ((InB x0 16) ∧ ((Low (nadd 0 (nat x0)) 16) ∧ (orpeel.l0 R left c key fuel (add IntKind.i64 x0 1) (lset x1 (nadd 0 (nat x0)) (lget (Go.Cel.cutR c (Go.Oni.sizeI left)) (nat x0))) (lset x2 (nadd 0 (nat x0)) (lget (Go.Cel.cutR c (Go.Oni.sizeI left)) (nat (add IntKind.i64 16 x0)))))))))))) ∧ (((ilt x0 16) = false) → (((Go.Oni.Ky key) ∧ (Go.Oni.Nn x1)) ∧ (((NonNeg 32) ∧ (Fits 32 (llen (Go.Cel.cutR c (Go.Oni.sizeI left))))) ∧ ((((Go.Oni.K32 (Go.Oni.dvM key x1)) ∧ ((Go.Oni.Nn x1) ∧ (Go.Oni.In (lsub (Go.Cel.cutR c (Go.Oni.sizeI left)) 32 (nsub (llen (Go.Cel.cutR c (Go.Oni.sizeI left))) 32))))) ∧ (orpeel.k0 R left x0 key x1 c x2 fuel)) ∧ (((Go.Oni.K32 (Go.Oni.dvM key x1)) ∧ ((Go.Oni.Nn x1) ∧ (Go.Oni.In (lsub (Go.Cel.cutR c (Go.Oni.sizeI left)) 32 (nsub (llen (Go.Cel.cutR c (Go.Oni.sizeI left))) 32))))) ∧ (orpeel.k0 R left x0 key x1 c x2 fuel)))))))) := by kernel_rfl
theorem orpeel.l0_zero (R : AV → Mem → Prop) (left : Int) (c : List Int) (key : List Int) (x0 : Int) (x1 : List Int) (x2 : List Int) : orpeel.l0 R left c key 0 x0 x1 x2 = False := by kernel_rfl

theorem orpeel_vc (R : AV → Mem → Prop) (fuel : Nat) (key : List Int) (c : List Int) (left : Int) : callsx Tryd.prog gamO3 [] Tryd.f17 (fuel + 1) [.one (.vec 200000), .one (.int .i64 left), .one (.vec 200002)] [(200000, .rview [.ints .u8 key]), (200002, .rview [.ints .u8 c])] R = (((((ine (ofNat (llen key)) 32) = false) → ((Go.Oni.Lf left) ∧ ((((ieq (Go.Oni.sizeI left) 0) = true) → (R (AV.tup [(TV.g [(Seg.cells [(AC.con (Value.slice (Option.none) 0 0))]), (Seg.ints IntKind.u8 16 (lzeros 16))]), (TV.c (AC.int IntKind.i64 2))]) [(6, Blk.own 44 [(Seg.cells [(AC.con (Value.slice (Option.none) 0 0))]), (Seg.ints IntKind.u8 16 (lzeros 16))]), (200000, Blk.rview [(Col.ints IntKind.u8 key)]), (200002, Blk.rview [(Col.ints IntKind.u8 c)])])) ∧ (((ieq (Go.Oni.sizeI left) 0) = false) → ((Go.Oni.Lf left) ∧ ((Short c) ∧ ((((ine (Go.Cel.cutE c (Go.Oni.sizeI left)) 0) = true) → (R (AV.tup [(TV.g [(Seg.cells [(AC.con (Value.slice (Option.none) 0 0))]), (Seg.ints IntKind.u8 16 (lzeros 16))]), (TV.c (AC.int IntKind.i64 (Go.Cel.cutE c (Go.Oni.sizeI left))))]) [(6, Blk.own 44 [(Seg.cells [(AC.con (Value.slice (Option.none) 0 0))]), (Seg.ints IntKind.u8 16 (lzeros 16))]), (33, Blk.vec [(Col.ints IntKind.u8 (Go.Cel.cutR c (Go.Oni.sizeI left)))]), (200000, Blk.rview [(Col.ints IntKind.u8 key)]), (200002, Blk.rview [(Col.ints IntKind.u8 c)])])) ∧ (((ine (Go.Cel.cutE c (Go.Oni.sizeI left)) 0) = false) → (orpeel.l0 R left c key fuel 0 (lzeros 16) (lzeros 16)))))))))) ∧ (((ine (ofNat (llen key)) 32) = true) → (R (AV.tup [(TV.g [(Seg.cells [(AC.con (Value.slice (Option.none) 0 0))]), (Seg.ints IntKind.u8 16 (lzeros 16))]), (TV.c (AC.int IntKind.i64 2))]) [(6, Blk.own 44 [(Seg.cells [(AC.con (Value.slice (Option.none) 0 0))]), (Seg.ints IntKind.u8 16 (lzeros 16))]), (200000, Blk.rview [(Col.ints IntKind.u8 key)]), (200002, Blk.rview [(Col.ints IntKind.u8 c)])])))) := by kernel_rfl

end Go.Proofs.YtjahiggpglbgoaaDoor.G

/- Layers are laid on and taken off. -/
namespace Go.Oni
open Go Go.Sx Go.Hsh Go.Mac Go.Blk Go.Cel Go.Fld
set_option linter.unusedSimpArgs false
theorem lsub_zero_lsub {c : List Int} {S i n : Nat} (h : i + n ≤ S) : lsub (lsub c 0 S) i n = lsub c i n := by
  rw [lsub_lsub _ _ _ _ _ h, Nat.zero_add]
theorem cutE_ok {c : List Int} {n : Int} (h : cutE c n = 0) : c.length = 320 ∧ 0 ≤ n ∧ n ≤ 320 ∧ zb (c.drop n.toNat) = true ∧ cutR c n = lsub c 0 n.toNat := by
  have hc : cutR c n = c.take n.toNat := by unfold cutR; rw [if_pos h]
  unfold cutE at h
  split at h
  · cases h
  · rename_i h1
    split at h
    · cases h
    · rename_i h2
      split at h
      · cases h
      · rename_i h3
        refine ⟨by omega, by omega, by omega, ?_, by rw [hc, lsub_take]⟩
        cases hz : zb (c.drop n.toNat) with
        | true => rfl
        | false => exact absurd hz h3
theorem peC_fail {key c : List Int} {left : Int} (h : peE key left c ≠ 0) : peC key left c = [] ∧ peR key left c = lzeros 16 := by
  unfold peC peR; rw [if_neg h, if_neg h]; exact ⟨rfl, rfl⟩
theorem wrR_fail {key nonce inner : List Int} {left : Int} (h : wrE key left inner ≠ 0) : wrR key nonce left inner = [] := by unfold wrR; rw [if_neg h]
theorem opO_len {key c : List Int} {left : Int} (h1 : 1 ≤ left) (h2 : left ≤ 8) (hc : c.length = 320) : (opO key left c).length = 16 + (34 * left).toNat := by
  unfold opO bxO
  rw [mask_length, sizeI_some h1 h2, lsub_length (by omega)]; omega
theorem inOk_some {pl : List Int} {left : Int} (h1 : 1 ≤ left) (h2 : left ≤ 8) (h : inOk pl left = true) : inN pl ≤ 14 + 34 * left ∧ zb (pl.drop (2 + (inN pl).toNat)) = true := by
  unfold inOk at h
  rw [Bool.and_eq_true, decide_eq_true_eq, sizeI_some h1 h2] at h
  exact ⟨by omega, h.2⟩
end Go.Oni
namespace Go.Proofs.YtjahiggpglbgoaaDoor.G
open Go Go.Sx Go.Hsh Go.Mac Go.Blk Go.Cel Go.Oni Go.Fld
set_option maxRecDepth 20000
set_option linter.unusedSimpArgs false
set_option linter.unusedVariables false

theorem opO_bs {key c : List Int} {left : Int} (hb : Bs c) : Bs (opO key left c) :=
  mask_bs (ks_bl (dvB_bl _ _)) (bl_of rfl (zeros_bs _)) (lsub_bs hb _ _)
theorem good_owrap : Sx.Good Tryd.prog 16 wrapS := by
  refine Sx.Good.reads (D := []) mixed gamO3_good Tryd.func16 (by kernel_rfl) rfl fun d args σ K h => ?_
  simp only [wrapS] at h
  split at h <;> try exact h.elim
  rename_i x nonce left y
  obtain ⟨key, h, hrow⟩ := rdb_row h
  obtain ⟨inner, ⟨⟨hr, hk, hn, hlf, hi⟩, hK⟩, hrow2⟩ := rdb_row h
  refine ⟨_, _, .row [.ints .u8] _ hrow (by decide) (.plain (plain_ints _ _ _) (.plain (plain_int _ _) (.row [.ints .u8] _ hrow2 (by decide) (.glob (roots_at hr) (by intro m; rfl) (.nil _))))), by simp, 1, ?_⟩
  have e := owrap_vc (Res d wrapS.news σ K) 0 key nonce inner left
  refine e.mpr ?_
  rw [wE_eq, wL_eq] at hK
  have fail : ∀ (e : Int) (σ' : Mem), wrE key left inner = e → e ≠ 0 → Res d wrapS.news σ K (.tup [.c (.con (.slice none 0 0)), .c (.int .i64 e)]) σ' := fun e σ' he h0 =>
    res_tnil (k := .u8) (.int he.symm .nil) (wrR_fail (by rw [he]; exact h0)) hK
  refine ⟨⟨rfl, hk, hn⟩, fun q1 => ⟨hlf, fun q2 => fail 2 _ ?_ (by decide), fun q2 => ⟨hlf, fun q3 => fail 1 _ ?_ (by decide), fun q3 => ?_⟩⟩, fun q1 => fail 2 _ ?_ (by decide)⟩
  · rw [ieq_true] at q2; unfold wrE; rw [if_pos (Or.inr q2)]
  · rw [ine_false] at q1; rw [ieq_false] at q2; rw [igt_true] at q3
    have hlen : key.length = 32 := by unfold dvE at q1; split at q1; assumption; cases q1
    unfold wrE; rw [if_neg (by rintro (h | h); exact h hlen; exact q2 h), if_pos]
    unfold roomI at q3; exact q3
  · rw [ine_false] at q1; rw [ieq_false] at q2; rw [igt_false] at q3
    have hlen : key.length = 32 := by unfold dvE at q1; split at q1; assumption; cases q1
    have hrg : 1 ≤ left ∧ left ≤ 8 := by
      have := mt sizeI_zero.mpr q2; omega
    obtain ⟨h1, h2⟩ := hrg
    have hsz := sizeI_some h1 h2
    obtain ⟨m, rfl⟩ := Int.eq_ofNat_of_zero_le (show 0 ≤ left by omega)
    have hin : inner.length ≤ 14 + 34 * m := by unfold roomI at q3; rw [hsz] at q3; simp only [ofNat, llen] at q3; omega
    have hwe : wrE key (m : Int) inner = 0 := by
      unfold wrE; rw [if_neg (by rintro (h | h); exact h hlen; exact q2 h), if_neg (by rw [hsz]; omega)]
    have es : sub .i64 (sizeI (m : Int)) 32 = ((16 + 34 * m : Nat) : Int) := by rw [hsz, sub_i64 (by omega) (by omega)]; omega
    have ea : conv .u8 (shr .i64 (inner.length : Int) 8) = ((inner.length / 256 : Nat) : Int) := by
      have : shr .i64 (inner.length : Int) 8 = ((inner.length / 2 ^ 8 : Nat) : Int) := shr_i64 (n := 8) (by decide)
      rw [this, conv_u8]; omega
    have eb : conv .u8 (inner.length : Int) = ((inner.length % 256 : Nat) : Int) := by rw [conv_u8]; omega
    have ep : plO (m : Int) inner = lput (lset (lset (lzeros (16 + 34 * m)) 0 ((inner.length / 256 : Nat) : Int)) 1 ((inner.length % 256 : Nat) : Int)) 2 inner := by
      rw [pl_fill (by omega), plO_some h1 h2]
      rw [show 14 + (34 * (m : Int)).toNat - inner.length = 16 + 34 * m - 2 - inner.length by omega]
    have hB := dvB_bl key nonce
    have hM := dvM_bl key nonce
    have hz : BL 16 (lzeros 16) := bl_of rfl (zeros_bs _)
    have e0 : lsub (dvB key nonce) 0 16 = dvB key nonce := lsub_whole hB.len
    have en : lsub nonce 0 16 = nonce := lsub_whole hn.bl.len
    have ln := hn.bl.len
    have ly : (lset (lset (lzeros (16 + 34 * m)) 0 ((inner.length / 256 : Nat) : Int)) 1 ((inner.length % 256 : Nat) : Int)).length = 16 + 34 * m := by rw [lset_len, lset_len]; simp [lzeros]
    have lz : (lzeros (16 + 34 * m)).length = 16 + 34 * m := by simp [lzeros]
    have lset1 : (lset (lzeros (16 + 34 * m)) 0 ((inner.length / 256 : Nat) : Int)).length = 16 + 34 * m := by rw [lset_len, lz]
    have ei : lsub inner 0 (min inner.length (16 + 34 * m - 2)) = inner := by rw [show min inner.length (16 + 34 * m - 2) = inner.length by omega]; exact lsub_whole rfl
    have pb : Bs (plO (m : Int) inner) := plO_bs hi.bs (by omega)
    have pll : (plO (m : Int) inner).length = 16 + 34 * m := by have := plO_len h1 h2 (inner := inner) (by rw [hsz]; omega); rw [hsz] at this; omega
    have mb : Bs (mask (ks (dvB key nonce)) (lzeros 16) (plO (m : Int) inner)) := mask_bs (ks_bl hB) hz pb
    have ml := mask_length (ks (dvB key nonce)) (lzeros 16) (plO (m : Int) inner)
    have tl := tagO_len (dvM key nonce) (m : Int) nonce (mask (ks (dvB key nonce)) (lzeros 16) (plO (m : Int) inner))
    simp only [es, nat_cast, llen_def, ofNat_def, ea, eb, ly, lz, lset1, nmin_def, nsub_def, ei, ← ep, e0, en, lcat_def, List.nil_append, nadd_def, List.length_append, ln, ml, pll, tl, Mk_iff, NonNeg_iff, InB_iff, Fits_iff, List.length_nil]
    refine ⟨hlf, by omega, by omega, ⟨by omega, by omega⟩, ⟨by omega, by omega⟩, ⟨by omega, by omega⟩, by omega, ⟨⟨hB, hz⟩, ⟨by omega⟩, pb⟩, by omega, room1 (by omega), ⟨trivial, ⟨hM⟩, hn, ⟨by omega, mb⟩⟩, room1 (by omega), room1 (by omega), res_tvec (k := .u8) rfl (.int hwe.symm .nil) ?_ hK⟩
    unfold wrR; rw [if_pos hwe]; rfl
  · rw [ine_true] at q1
    have hlen : key.length ≠ 32 := by intro h; apply q1; unfold dvE; rw [if_pos h]
    unfold wrE; rw [if_pos (Or.inl hlen)]

theorem good_orwrap : Sx.Good Tryd.prog 15 rwrapS := by
  refine Sx.Good.reads (D := []) mixed gamO3_good Tryd.func15 (by kernel_rfl) rfl fun d args σ K h => ?_
  simp only [rwrapS] at h
  split at h <;> try exact h.elim
  rename_i x nonce left y
  obtain ⟨key, h, hrow⟩ := rdb_row h
  obtain ⟨inner, ⟨⟨hk, hn, hlf, hi⟩, hK⟩, hrow2⟩ := rdb_row h
  refine ⟨_, _, .row [.ints .u8] _ hrow (by decide) (.plain (plain_ints _ _ _) (.plain (plain_int _ _) (.row [.ints .u8] _ hrow2 (by decide) (.nil _)))), by simp, ?_⟩
  rw [wE_eq, wL_eq] at hK
  have fail : ∀ (e : Int) (σ' : Mem), wrE key left inner = e → e ≠ 0 → Res d rwrapS.news σ K (.tup [.c (.con (.slice none 0 0)), .c (.int .i64 e)]) σ' := fun e σ' he h0 =>
    res_tnil (k := .u8) (.int he.symm .nil) (wrR_fail (by rw [he]; exact h0)) hK
  have hrng := sizeI_rng left
  by_cases hgo : key.length = 32 ∧ sizeI left ≠ 0 ∧ (inner.length : Int) ≤ sizeI left - 34
  · obtain ⟨hlen, q2, q3⟩ := hgo
    have hrg : 1 ≤ left ∧ left ≤ 8 := by
      have := mt sizeI_zero.mpr q2; omega
    obtain ⟨h1, h2⟩ := hrg
    have hsz := sizeI_some h1 h2
    obtain ⟨m, rfl⟩ := Int.eq_ofNat_of_zero_le (show 0 ≤ left by omega)
    have hin : inner.length ≤ 14 + 34 * m := by rw [hsz] at q3; omega
    have hwe : wrE key (m : Int) inner = 0 := by
      unfold wrE; rw [if_neg (by rintro (h | h); exact h hlen; exact q2 h), if_neg (by rw [hsz]; omega)]
    have es : sub .i64 (sizeI (m : Int)) 32 = ((16 + 34 * m : Nat) : Int) := by rw [hsz, sub_i64 (by omega) (by omega)]; omega
    have es4 : sub .i64 (sizeI (m : Int)) 34 = ((14 + 34 * m : Nat) : Int) := by rw [hsz, sub_i64 (by omega) (by omega)]; omega
    have ea : conv .u8 (quo .i64 (inner.length : Int) 256) = ((inner.length / 256 : Nat) : Int) := by
      have : quo .i64 (inner.length : Int) 256 = ((inner.length / 256 : Nat) : Int) := quoN_i64 (b := 256) (by omega)
      rw [this, conv_u8]; omega
    have eb : conv .u8 (rem (inner.length : Int) 256) = ((inner.length % 256 : Nat) : Int) := by
      have : rem (inner.length : Int) 256 = ((inner.length % 256 : Nat) : Int) := remN (b := 256)
      rw [this, conv_u8]; omega
    have lz : (lzeros (16 + 34 * m)).length = 16 + 34 * m := by simp [lzeros]
    have lset1 : (lset (lzeros (16 + 34 * m)) 0 ((inner.length / 256 : Nat) : Int)).length = 16 + 34 * m := by rw [lset_len, lz]
    have pb : Bs (plO (m : Int) inner) := plO_bs hi.bs (by omega)
    have pll : (plO (m : Int) inner).length = 16 + 34 * m := by have := plO_len h1 h2 (inner := inner) (by rw [hsz]; omega); rw [hsz] at this; omega
    have st : ∀ i, i ≤ inner.length → lput (lset (lset (lzeros (16 + 34 * m)) 0 ((inner.length / 256 : Nat) : Int)) 1 ((inner.length % 256 : Nat) : Int)) 2 (inner.take i) = ((inner.length / 256 : Nat) : Int) :: ((inner.length % 256 : Nat) : Int) :: (inner.take i ++ lzeros (14 + 34 * m - i)) := by
      intro i hi'
      have hl : (inner.take i).length = i := by rw [List.length_take]; omega
      rw [pl_fill (by omega), hl, show 16 + 34 * m - 2 - i = 14 + 34 * m - i by omega]
    obtain ⟨f, hf⟩ := loop_ex (fun f i y => orwrap.l0 (Res d rwrapS.news σ K) (m : Int) nonce key inner f i y) inner.length (fun i => ((inner.length / 256 : Nat) : Int) :: ((inner.length % 256 : Nat) : Int) :: (inner.take i ++ lzeros (14 + 34 * m - i)))
      (fun g i hi' h => ⟨g + 1, by
        have e2 : add .i64 2 (i : Int) = ((2 + i : Nat) : Int) := addN_i64 (a := 2) (by omega)
        have hll : (((inner.length / 256 : Nat) : Int) :: ((inner.length % 256 : Nat) : Int) :: (inner.take i ++ lzeros (14 + 34 * m - i))).length = 16 + 34 * m := by
          simp only [List.length_cons, List.length_append, List.length_take, lzeros, List.length_replicate]; omega
        rw [orwrap.l0_succ]
        simp only [nat_cast, ofNat_def, llen_def, e2, hll, InB_iff]
        rw [add1_i64 (by omega)]
        refine ⟨fun _ => ⟨⟨by omega, by omega⟩, ⟨by omega, by omega⟩, ?_⟩, fun r => ?_⟩
        · have est : lset (((inner.length / 256 : Nat) : Int) :: ((inner.length % 256 : Nat) : Int) :: (inner.take i ++ lzeros (14 + 34 * m - i))) (2 + i) (lget inner i) = ((inner.length / 256 : Nat) : Int) :: ((inner.length % 256 : Nat) : Int) :: (inner.take (i + 1) ++ lzeros (14 + 34 * m - (i + 1))) := by
            unfold lset
            rw [show 2 + i = i + 1 + 1 by omega, List.set_cons_succ, List.set_cons_succ]
            have hl : (inner.take i).length = i := by rw [List.length_take]; omega
            rw [List.set_append_right _ _ (by omega), hl, Nat.sub_self]
            obtain ⟨T, hT⟩ : ∃ T, 14 + 34 * m - i = T + 1 := ⟨14 + 34 * m - i - 1, by omega⟩
            rw [hT, show 14 + 34 * m - (i + 1) = T by omega]
            unfold lzeros
            rw [List.replicate_succ, List.set_cons_zero, List.take_add_one]
            have hg : inner[i]? = some (lget inner i) := lget_some hi'
            rw [hg]
            simp
          rw [est]; exact h
        · rw [ilt_false] at r; omega⟩)
      ⟨1, by
        rw [orwrap.l0_succ]
        have ep : ((inner.length / 256 : Nat) : Int) :: ((inner.length % 256 : Nat) : Int) :: (inner.take inner.length ++ lzeros (14 + 34 * m - inner.length)) = plO (m : Int) inner := by
          rw [List.take_of_length_le (Nat.le_refl _), plO_some h1 h2, show 14 + (34 * (m : Int)).toNat - inner.length = 14 + 34 * m - inner.length by omega]
        rw [ep]
        refine ⟨fun r => ?_, fun _ => ⟨⟨hk, hlen, hn.bl, h1, h2, by omega, pb⟩, res_tvec (k := .u8) rfl (.int hwe.symm .nil) (by unfold wrR; rw [if_pos hwe]) hK⟩⟩
        rw [ilt_true] at r; simp only [ofNat, llen] at r; omega⟩ 0 (by omega)
    refine ⟨f + 1, ?_⟩
    have e := orwrap_vc (Res d rwrapS.news σ K) f key nonce inner (m : Int)
    have st0 := st 0 (by omega)
    have e00 : lput (lset (lset (lzeros (16 + 34 * m)) 0 ((inner.length / 256 : Nat) : Int)) 1 ((inner.length % 256 : Nat) : Int)) 2 (inner.take 0) = lset (lset (lzeros (16 + 34 * m)) 0 ((inner.length / 256 : Nat) : Int)) 1 ((inner.length % 256 : Nat) : Int) := by
      unfold lput; rw [List.take_zero]; simp
    rw [← st0, e00] at hf
    refine e.mpr ⟨fun _ => ⟨hlf, fun r => ?_, fun _ => ⟨hlf, fun r => ?_, fun _ => ?_⟩⟩, fun r => ?_⟩
    · rw [ieq_true] at r; exact absurd r q2
    · rw [es4, igt_true] at r; simp only [ofNat, llen] at r; omega
    · simp only [es, nat_cast, llen_def, ofNat_def, ea, eb, lz, lset1, Mk_iff, InB_iff, NeZ_iff]
      exact ⟨hlf, by omega, by omega, ⟨by omega, by omega⟩, by omega, ⟨by omega, by omega⟩, hf⟩
    · rw [ine_true] at r; simp only [ofNat, llen] at r; omega
  · refine ⟨1, ?_⟩
    have e := orwrap_vc (Res d rwrapS.news σ K) 0 key nonce inner left
    refine e.mpr ⟨fun q1 => ⟨hlf, fun q2 => fail 2 _ ?_ (by decide), fun q2 => ⟨hlf, fun q3 => fail 1 _ ?_ (by decide), fun q3 => ?_⟩⟩, fun q1 => fail 2 _ ?_ (by decide)⟩
    · rw [ieq_true] at q2; unfold wrE; rw [if_pos (Or.inr q2)]
    · rw [ine_false] at q1; rw [ieq_false] at q2; rw [igt_true, sub_i64 (by omega) (by omega)] at q3
      simp only [ofNat, llen] at q1 q3
      unfold wrE; rw [if_neg (by rintro (h | h); exact h (by omega); exact q2 h), if_pos (by omega)]
    · exfalso
      rw [ine_false] at q1; rw [ieq_false] at q2; rw [igt_false, sub_i64 (by omega) (by omega)] at q3
      simp only [ofNat, llen] at q1 q3
      exact hgo ⟨by omega, q2, by omega⟩
    · rw [ine_true] at q1; simp only [ofNat, llen] at q1
      unfold wrE; rw [if_pos (Or.inl (by omega))]

/-! taking off -/
theorem res_peeled {d m : Nat} {σ σ' : Mem} {K : AV → Mem → Prop} {l l' r r' : List Int} {e e' : Int} (hf : Mem.find σ' m = some (.vec [.ints .u8 l])) (hl : l = l') (hr : r = r') (he : e = e')
    (hK : K (.tup [.g [.cells [.vec d], .ints .u8 16 r'], .c (.int .i64 e')]) (Mem.ins d (.vec [.ints .u8 l']) σ)) : Res d 1 σ K (.tup [.g [.cells [.vec m], .ints .u8 16 r], .c (.int .i64 e)]) σ' := by
  subst hl hr he
  exact ⟨[.vec m [.ints .u8 l]], .tup [.g [.cells [.vec d], .ints .u8 16 r], .c (.int .i64 e)], Nat.le_refl _, fun it h => by simp at h; subst h; exact ⟨hf, rfl⟩, pairwise_one,
    ⟨⟨⟨Or.inr ⟨0, _, rfl, rfl, rfl⟩, trivial⟩, ⟨rfl, rfl, rfl⟩, trivial⟩, Or.inl ⟨fun _ => rfl, fun _ => rfl, fun _ _ q => q⟩, trivial⟩, hK⟩
theorem res_unpeeled {d : Nat} {σ σ' : Mem} {K : AV → Mem → Prop} {l' r r' : List Int} {e e' : Int} (hl : l' = []) (hr : r = r') (he : e = e')
    (hK : K (.tup [.g [.cells [.vec d], .ints .u8 16 r'], .c (.int .i64 e')]) (Mem.ins d (.vec [.ints .u8 l']) σ)) : Res d 1 σ K (.tup [.g [.cells [.con (.slice none 0 0)], .ints .u8 16 r], .c (.int .i64 e)]) σ' := by
  subst hl hr he
  exact ⟨[.nil [.ints .u8]], .tup [.g [.cells [.vec d], .ints .u8 16 r], .c (.int .i64 e)], Nat.le_refl _, fun it h => by simp at h; subst h; exact ⟨Nat.one_pos, rfl⟩, pairwise_one,
    ⟨⟨⟨Or.inr ⟨0, _, rfl, rfl, rfl⟩, trivial⟩, ⟨rfl, rfl, rfl⟩, trivial⟩, Or.inl ⟨fun _ => rfl, fun _ => rfl, fun _ _ q => q⟩, trivial⟩, hK⟩
end Go.Proofs.YtjahiggpglbgoaaDoor.G

/- A layer is taken off. -/
namespace Go.Proofs.YtjahiggpglbgoaaDoor.G
open Go Go.Sx Go.Hsh Go.Mac Go.Blk Go.Cel Go.Oni Go.Fld
set_option maxRecDepth 20000
set_option linter.unusedSimpArgs false
set_option linter.unusedVariables false

/-- what holds of a cell that is cut -/
structure Cut0 (key c : List Int) (m : Nat) : Prop where
  h1 : 1 ≤ m
  h2 : m ≤ 8
  len : key.length = 32
  clen : c.length = 320
  cut : cutR c (sizeI (m : Int)) = lsub c 0 (48 + 34 * m)
  sz : sizeI (m : Int) = ((48 + 34 * m : Nat) : Int)
  cutE : cutE c (sizeI (m : Int)) = 0
theorem cut0 {key c : List Int} {left : Int} (hlen : key.length = 32) (q2 : sizeI left ≠ 0) (q3 : cutE c (sizeI left) = 0) : ∃ m : Nat, left = (m : Int) ∧ Cut0 key c m := by
  have hrg : 1 ≤ left ∧ left ≤ 8 := by have := mt sizeI_zero.mpr q2; omega
  have hsz := sizeI_some hrg.1 hrg.2
  obtain ⟨m, rfl⟩ := Int.eq_ofNat_of_zero_le (show 0 ≤ left by omega)
  obtain ⟨c1, c2, c3, c4, c5⟩ := cutE_ok q3
  have es : sizeI (m : Int) = ((48 + 34 * m : Nat) : Int) := by rw [hsz]; omega
  refine ⟨m, rfl, by omega, by omega, hlen, c1, ?_, es, q3⟩
  rw [c5, es, Int.toNat_natCast]
theorem Cut0.bx {key c : List Int} {m : Nat} (h : Cut0 key c m) : lsub (lsub c 0 (48 + 34 * m)) 32 (48 + 34 * m - 32) = bxO (m : Int) c := by
  rw [lsub_zero_lsub (by omega)]
  unfold bxO; rw [h.sz, Int.toNat_natCast]
theorem Cut0.olen {key c : List Int} {m : Nat} (h : Cut0 key c m) : (lsub c 0 (48 + 34 * m)).length = 48 + 34 * m := lsub_length (by have := h.clen; have := h.h2; omega)
theorem Cut0.bxlen {key c : List Int} {m : Nat} (h : Cut0 key c m) : (bxO (m : Int) c).length = 16 + 34 * m := by
  have := h.clen; have := h.h2
  rw [← h.bx, lsub_length (by rw [h.olen]; omega)]; omega
theorem Cut0.pe {key c : List Int} {m : Nat} (h : Cut0 key c m) : peE key (m : Int) c = if lsub c 16 16 ≠ tagO (dvM key (nnO c)) (m : Int) (nnO c) (bxO (m : Int) c) then 70 else if inOk (opO key (m : Int) c) (m : Int) = false then 71 else 0 := by
  conv => lhs; unfold peE
  rw [if_neg (by rintro (q | q); exact q h.len; rw [h.sz] at q; omega), if_neg (by rw [h.cutE]; simp)]
theorem nn_bl {c : List Int} (hb : Bs c) (hl : c.length = 320) : BL 16 (nnO c) := bl_of (lsub_length (by omega)) (lsub_bs hb _ _)

theorem good_opeel : Sx.Good Tryd.prog 18 peelS := by
  refine Sx.Good.reads (D := []) mixed gamO3_good Tryd.func18 (by kernel_rfl) rfl fun d args σ K h => ?_
  simp only [peelS] at h
  split at h <;> try exact h.elim
  rename_i x left y
  obtain ⟨key, h, hrow⟩ := rdb_row h
  obtain ⟨c, ⟨⟨hr, hk, hlf, hc⟩, hK⟩, hrow2⟩ := rdb_row h
  refine ⟨_, _, .row [.ints .u8] _ hrow (by decide) (.plain (plain_int _ _) (.row [.ints .u8] _ hrow2 (by decide) (.glob (roots_at hr) (by intro m; rfl) (.nil _)))), by simp, 1, ?_⟩
  have e := opeel_vc (Res d peelS.news σ K) 0 key c left
  refine e.mpr ?_
  rw [pE_eq, pC_eq, pR_eq] at hK
  have fail : ∀ (e : Int) (σ' : Mem), peE key left c = e → e ≠ 0 → Res d peelS.news σ K (.tup [.g [.cells [.con (.slice none 0 0)], .ints .u8 16 (lzeros 16)], .c (.int .i64 e)]) σ' := fun e σ' he h0 =>
    res_unpeeled (peC_fail (by rw [he]; exact h0)).1 (peC_fail (by rw [he]; exact h0)).2.symm he.symm hK
  refine ⟨fun q1 => ⟨hlf, fun q2 => fail 2 _ ?_ (by decide), fun q2 => ⟨hlf, ⟨hc.sh⟩, fun q3 => fail _ _ ?_ ?_, fun q3 => ?_⟩⟩, fun q1 => fail 2 _ ?_ (by decide)⟩
  · rw [ieq_true] at q2; unfold peE; rw [if_pos (Or.inr q2)]
  · rw [ine_false] at q1; simp only [ofNat, llen] at q1; rw [ieq_false] at q2; rw [ine_true] at q3
    have hn0 : ¬ (key.length ≠ 32 ∨ sizeI left = 0) := by rintro (h | h); exact h (by omega); exact q2 h
    unfold peE; rw [if_neg hn0, if_pos q3]
  · rw [ine_true] at q3; exact q3
  · rw [ine_false] at q1 q3; simp only [ofNat, llen] at q1; rw [ieq_false] at q2
    obtain ⟨m, rfl, H⟩ := cut0 (key := key) (show key.length = 32 by omega) q2 q3
    have h1 := H.h1
    have h2 := H.h2
    have hcl := H.clen
    have hnn := nn_bl hc.bs H.clen
    have hM := dvM_bl key (nnO c)
    have hB := dvB_bl key (nnO c)
    have hR := dvR_bl key (nnO c)
    have ol := H.olen
    have bl := H.bxlen
    have f1 : lsub (lsub c 0 (48 + 34 * m)) 0 16 = nnO c := lsub_zero_lsub (by omega)
    have f2 : lsub (lsub c 0 (48 + 34 * m)) 16 16 = lsub c 16 16 := lsub_zero_lsub (by omega)
    have f3 := H.bx
    have f4 : lsub (lsub c 0 (48 + 34 * m)) 0 32 = lsub c 0 32 := lsub_zero_lsub (by omega)
    have f5 : dvE key = 0 := by unfold dvE; rw [if_pos H.len]
    have f6 : lsub (dvB key (nnO c)) 0 16 = dvB key (nnO c) := lsub_whole hB.len
    have f7 : lsub (dvR key (nnO c)) 0 32 = dvR key (nnO c) := lsub_whole hR.len
    have f8 : mask (ks (dvB key (nnO c))) (lzeros 16) (bxO (m : Int) c) = opO key (m : Int) c := rfl
    have hz : BL 16 (lzeros 16) := bl_of rfl (zeros_bs _)
    have l16 : (lsub c 16 16).length = 16 := lsub_length (by omega)
    have l32 : (lsub c 0 32).length = 32 := lsub_length (by omega)
    have tl := tagO_len (dvM key (nnO c)) (m : Int) (nnO c) (bxO (m : Int) c)
    have pl := opO_len (key := key) (left := (m : Int)) (c := c) (by omega) (by omega) hcl
    have pb : Bs (opO key (m : Int) c) := opO_bs hc.bs
    have hpe := H.pe
    simp only [H.cut, llen_def, ol, nsub_def, f1, f2, f3, f4, f5, f6, f7, f8, nadd_def, show ine 0 0 = false from rfl, Bool.false_eq_true, false_implies, true_and, forall_const, Fits_iff, NonNeg_iff]
    refine ⟨by omega, by omega, ⟨hk, ⟨hnn⟩⟩, ⟨by omega, by omega⟩, ⟨⟨by omega, by omega⟩, by omega, by omega⟩, ⟨⟨hM⟩, ⟨hnn⟩, ⟨by omega, lsub_bs hc.bs _ _⟩⟩, ⟨⟨⟨by omega⟩, lsub_bs hc.bs _ _⟩, ⟨by omega⟩, tagO_bs _ _ _ _⟩, fun t => fail 70 _ ?_ (by decide), fun t => ⟨by omega, ⟨⟨hB, hz⟩, ⟨by omega⟩, lsub_bs hc.bs _ _⟩, ⟨by omega, by omega, by rw [pl, H.sz]; omega, pb⟩, fun u => fail 71 _ ?_ (by decide), fun u => ?_⟩⟩
    · rw [bnot_true, leq_false] at t; rw [hpe, if_pos t]
    · rw [bnot_false, leq_true] at t; rw [hpe, if_neg (by rw [t]; simp), if_pos u]
    · rw [bnot_false, leq_true] at t
      have pe0 : peE key (m : Int) c = 0 := by rw [hpe, if_neg (by rw [t]; simp), if_neg (by rw [u]; simp)]
      obtain ⟨N, eN, hN, _, _⟩ := inN_nat pb
      obtain ⟨hle, _⟩ := inOk_some (show (1 : Int) ≤ (m : Int) by omega) (by omega) u
      rw [eN] at hle
      have il : (lsub (opO key (m : Int) c) 2 N).length = N := lsub_length (by rw [pl]; omega)
      have en : nat (inN (opO key (m : Int) c)) = N := by rw [eN, nat_cast]
      have einn : innO (opO key (m : Int) c) = lsub (opO key (m : Int) c) 2 N := by unfold innO; rw [eN, Int.toNat_natCast]
      have k0 : opeel.k0 (Res d peelS.news σ K) (m : Int) key c (nat (inN (opO key (m : Int) c))) (leq (lsub c 16 16) (tagO (dvM key (nnO c)) (m : Int) (nnO c) (bxO (m : Int) c))) (tagO (dvM key (nnO c)) (m : Int) (nnO c) (bxO (m : Int) c)) (opO key (m : Int) c) 0 := by
        rw [opeel.k0_eq]
        simp only [H.cut, f1, f4, f7, en, Fits_iff]
        have hres : ∀ (mm : Nat) (σ' : Mem) (l : List Int), Mem.find σ' mm = some (.vec [.ints .u8 l]) → l = peC key (m : Int) c → Res d peelS.news σ K (.tup [.g [.cells [.vec mm], .ints .u8 16 (lput (lzeros 16) 0 (lsub (tagL (dvR key (nnO c)) (lsub c 0 32)) 0 16))], .c (.int .i64 0)]) σ' := by
          intro mm σ' l hf hl
          refine res_peeled hf hl ?_ pe0.symm hK
          rw [lput_full (by rw [lsub_length (by rw [tag_len]; omega)]; rfl), tagL_eq]
          unfold peR; rw [if_pos pe0]
        refine ⟨by omega, by omega, by omega, fun v => ⟨⟨by omega⟩, fun w => ?_, fun _ => hres _ _ _ rfl ?_⟩, fun v => ⟨⟨by omega⟩, fun w => ?_, fun _ => hres _ _ _ rfl ?_⟩⟩
        · rw [ine_true] at w; exact absurd (by unfold padE; rw [if_pos (by omega)]) w
        · rw [igt_true] at v; unfold peC; rw [if_pos pe0, if_pos v, einn]
        · rw [igt_false] at v; rw [ine_true] at w; exact absurd (by unfold plainE; rw [if_pos (by omega)]) w
        · rw [igt_false] at v; unfold peC; rw [if_pos pe0, if_neg (by omega), einn]
      have sR : Sg (dvR key (nnO c)) := ⟨by rw [hR.len]; omega⟩
      exact ⟨⟨by omega, by omega⟩, ⟨by omega, ⟨sR, ⟨by omega⟩⟩, k0⟩, by omega, ⟨sR, ⟨by omega⟩⟩, k0⟩
  · rw [ine_true] at q1; simp only [ofNat, llen] at q1
    unfold peE; rw [if_pos (Or.inl (by omega))]

theorem orpeel_l1 {R : AV → Mem → Prop} {key c : List Int} {m N : Nat} (hk : Ky key) (hc : In c) (H : Cut0 key c m) (eN : inN (opO key (m : Int) c) = (N : Int))
    (eA : add .i64 (mul .i64 256 (conv .i64 (lget (opO key (m : Int) c) 0))) (conv .i64 (lget (opO key (m : Int) c) 1)) = (N : Int)) (hle : N ≤ 14 + 34 * m)
    (hno : zb ((opO key (m : Int) c).drop (2 + N)) = false → ∀ σ, R (.tup [.g [.cells [.con (.slice none 0 0)], .ints .u8 16 (lzeros 16)], .c (.int .i64 71)]) σ)
    (hyes : zb ((opO key (m : Int) c).drop (2 + N)) = true → ∀ mm σ l r, Mem.find σ mm = some (.vec [.ints .u8 l]) → l = (if 1 < (m : Int) then padR (innO (opO key (m : Int) c)) else plainR (innO (opO key (m : Int) c))) → r = lsub (hmac (dvR key (nnO c)) (lsub c 0 32)) 0 16 → R (.tup [.g [.cells [.vec mm], .ints .u8 16 r], .c (.int .i64 0)]) σ) :
    ∀ (k i : Nat), k = (opO key (m : Int) c).length - i → 2 + N ≤ i → i ≤ (opO key (m : Int) c).length → (∀ j, 2 + N ≤ j → j < i → lget (opO key (m : Int) c) j = 0) → ∃ f, orpeel.l1 R (m : Int) (opO key (m : Int) c) key (nnO c) c f (i : Int) := by
  have h1 := H.h1
  have h2 := H.h2
  have hcl := H.clen
  have ol := H.olen
  have hR := dvR_bl key (nnO c)
  have pl := opO_len (key := key) (left := (m : Int)) (c := c) (by omega) (by omega) hcl
  have f4 : lsub (lsub c 0 (48 + 34 * m)) 0 32 = lsub c 0 32 := lsub_zero_lsub (by omega)
  have f7 : lsub (dvR key (nnO c)) 0 32 = dvR key (nnO c) := lsub_whole hR.len
  have l32 : (lsub c 0 32).length = 32 := lsub_length (by omega)
  have il : (lsub (opO key (m : Int) c) 2 N).length = N := lsub_length (by rw [pl]; omega)
  have einn : innO (opO key (m : Int) c) = lsub (opO key (m : Int) c) 2 N := by unfold innO; rw [eN, Int.toNat_natCast]
  have e2 : add .i64 2 (N : Int) = ((2 + N : Nat) : Int) := addN_i64 (a := 2) (by omega)
  intro k
  induction k with
  | zero =>
    intro i hk0 hi0 hi hz
    obtain rfl : i = (opO key (m : Int) c).length := by omega
    have hzb : zb ((opO key (m : Int) c).drop (2 + N)) = true := by
      rw [zb_true]
      intro j hj
      rw [List.length_drop] at hj
      rw [lget_drop]; exact hz _ (by omega) (by omega)
    refine ⟨1, ?_⟩
    rw [orpeel.l1_succ, eA, e2]
    simp only [H.cut, llen_def, ol, nsub_def, f4, f7, nadd_def, nat_cast, ofNat_def, show 2 + N - 2 = N by omega, Fits_iff, NonNeg_iff]
    have er : lput (lzeros 16) 0 (lsub (tagL (dvR key (nnO c)) (lsub c 0 32)) 0 16) = lsub (hmac (dvR key (nnO c)) (lsub c 0 32)) 0 16 := by
      rw [lput_full (by rw [lsub_length (by rw [tag_len]; omega)]; rfl), tagL_eq]
    refine ⟨fun q => ?_, fun _ => ⟨by omega, ⟨by omega, by omega⟩, ⟨⟨hR⟩, ⟨⟨by omega⟩, lsub_bs hc.bs _ _⟩⟩, by omega, fun v => ⟨⟨⟨by omega, by omega⟩, by omega, by omega⟩, ⟨by omega⟩, hyes hzb _ _ _ _ rfl ?_ er⟩, fun v => ⟨⟨⟨by omega, by omega⟩, by omega, by omega⟩, ⟨by omega⟩, hyes hzb _ _ _ _ rfl ?_ er⟩⟩⟩
    · rw [ilt_true] at q; omega
    · rw [igt_true] at v; rw [if_pos v, einn]
    · rw [igt_false] at v; rw [if_neg (by omega), einn]
  | succ k ih =>
    intro i hk0 hi0 hi hz
    by_cases h0 : lget (opO key (m : Int) c) i = 0
    · obtain ⟨f, hf⟩ := ih (i + 1) (by omega) (by omega) (by omega) (fun j hj1 hj => by
        by_cases e : j = i
        · rw [e]; exact h0
        · exact hz j hj1 (by omega))
      refine ⟨f + 1, ?_⟩
      rw [orpeel.l1_succ]
      simp only [nat_cast, llen_def, ofNat_def, InB_iff]
      rw [add1_i64 (by omega)]
      refine ⟨fun _ => ⟨⟨by omega, by omega⟩, fun q => ?_, fun _ => hf⟩, fun q => ?_⟩
      · rw [ine_true] at q; exact absurd h0 q
      · rw [ilt_false] at q; omega
    · refine ⟨1, ?_⟩
      rw [orpeel.l1_succ]
      simp only [nat_cast, llen_def, ofNat_def, InB_iff]
      refine ⟨fun _ => ⟨⟨by omega, by omega⟩, fun _ => hno ?_ _, fun q => ?_⟩, fun q => ?_⟩
      · cases hz2 : zb ((opO key (m : Int) c).drop (2 + N)) with
        | false => rfl
        | true =>
          have := zb_true.mp hz2 (i - (2 + N)) (by rw [List.length_drop]; omega)
          rw [lget_drop, show 2 + N + (i - (2 + N)) = i by omega] at this
          exact absurd this h0
      · rw [ine_false] at q; exact absurd q h0
      · rw [ilt_false] at q; omega

theorem good_orpeel : Sx.Good Tryd.prog 17 rpeelS := by
  refine Sx.Good.reads (D := []) mixed gamO3_good Tryd.func17 (by kernel_rfl) rfl fun d args σ K h => ?_
  simp only [rpeelS] at h
  split at h <;> try exact h.elim
  rename_i x left y
  obtain ⟨key, h, hrow⟩ := rdb_row h
  obtain ⟨c, ⟨⟨hk, hlf, hc⟩, hK⟩, hrow2⟩ := rdb_row h
  refine ⟨_, _, .row [.ints .u8] _ hrow (by decide) (.plain (plain_int _ _) (.row [.ints .u8] _ hrow2 (by decide) (.nil _))), by simp, ?_⟩
  rw [pE_eq, pC_eq, pR_eq] at hK
  have fail : ∀ (e : Int) (σ' : Mem), peE key left c = e → e ≠ 0 → Res d rpeelS.news σ K (.tup [.g [.cells [.con (.slice none 0 0)], .ints .u8 16 (lzeros 16)], .c (.int .i64 e)]) σ' := fun e σ' he h0 =>
    res_unpeeled (peC_fail (by rw [he]; exact h0)).1 (peC_fail (by rw [he]; exact h0)).2.symm he.symm hK
  by_cases hgo : key.length = 32 ∧ sizeI left ≠ 0 ∧ cutE c (sizeI left) = 0
  · obtain ⟨hlen, q2, q3⟩ := hgo
    obtain ⟨m, rfl, H⟩ := cut0 hlen q2 q3
    have h1 := H.h1
    have h2 := H.h2
    have hcl := H.clen
    have hnn := nn_bl hc.bs H.clen
    have hM := dvM_bl key (nnO c)
    have hB := dvB_bl key (nnO c)
    have ol := H.olen
    have bl := H.bxlen
    have f3 := H.bx
    have f6 : lsub (dvB key (nnO c)) 0 16 = dvB key (nnO c) := lsub_whole hB.len
    have f8 : mask (ks (dvB key (nnO c))) (lzeros 16) (bxO (m : Int) c) = opO key (m : Int) c := rfl
    have hz : BL 16 (lzeros 16) := bl_of rfl (zeros_bs _)
    have pl := opO_len (key := key) (left := (m : Int)) (c := c) (by omega) (by omega) hcl
    have pb : Bs (opO key (m : Int) c) := opO_bs hc.bs
    have hpe := H.pe
    obtain ⟨N, eN, hN, _, eA⟩ := inN_nat pb
    have es4 : sub .i64 (sizeI (m : Int)) 34 = ((14 + 34 * m : Nat) : Int) := by rw [H.sz, sub_i64 (by omega) (by omega)]; omega
    have hok : inOk (opO key (m : Int) c) (m : Int) = (decide ((N : Int) ≤ sizeI (m : Int) - 34) && zb ((opO key (m : Int) c).drop (2 + N))) := by unfold inOk; rw [eN, Int.toNat_natCast]
    have nl : (nnO c).length = 16 := hnn.len
    have tl : (lsub c 16 16).length = 16 := lsub_length (by omega)
    have g1 : ∀ i, i < 16 → lget (lsub c 0 (48 + 34 * m)) i = lget (nnO c) i := fun i hi => by
      unfold nnO; rw [lget_lsub (by omega), lget_lsub hi]
    have g2 : ∀ i, i < 16 → lget (lsub c 0 (48 + 34 * m)) (16 + i) = lget (lsub c 16 16) i := fun i hi => by
      rw [lget_lsub (by omega), lget_lsub hi, Nat.zero_add]
    -- the state behind the copying
    have tail : ∃ f, orpeel.k0 (Res d rpeelS.news σ K) (m : Int) ((16 : Nat) : Int) key (nnO c) c (lsub c 16 16) f := by
      by_cases t : lsub c 16 16 = tagO (dvM key (nnO c)) (m : Int) (nnO c) (bxO (m : Int) c)
      · have hl1 : (N : Int) ≤ 14 + 34 * m → ∃ f, orpeel.l1 (Res d rpeelS.news σ K) (m : Int) (opO key (m : Int) c) key (nnO c) c f ((2 + N : Nat) : Int) := by
          intro hle
          have hok' : inOk (opO key (m : Int) c) (m : Int) = zb ((opO key (m : Int) c).drop (2 + N)) := by rw [hok, decide_eq_true (by rw [H.sz]; omega), Bool.true_and]
          refine orpeel_l1 hk hc H eN eA (by omega) (fun q σ' => fail 71 _ ?_ (by decide)) (fun q mm σ' l r hf hl hr => ?_) _ (2 + N) rfl (by omega) (by rw [pl]; omega) (fun j hj1 hj => by omega)
          · rw [hpe, if_neg (by rw [t]; simp), if_pos (by rw [hok']; exact q)]
          · have pe0 : peE key (m : Int) c = 0 := by rw [hpe, if_neg (by rw [t]; simp), if_neg (by rw [hok', q]; simp)]
            refine res_peeled hf ?_ ?_ pe0.symm hK
            · rw [hl]; unfold peC; rw [if_pos pe0]
            · rw [hr]; unfold peR; rw [if_pos pe0]
        by_cases hle : (N : Int) ≤ 14 + 34 * m
        · obtain ⟨f, hf⟩ := hl1 hle
          refine ⟨f, ?_⟩
          rw [orpeel.k0_eq]
          have e2 : add .i64 2 (N : Int) = ((2 + N : Nat) : Int) := addN_i64 (a := 2) (by omega)
          simp only [H.cut, llen_def, ol, nsub_def, f3, f6, f8, eA, es4, e2, Fits_iff, NonNeg_iff, InB_iff, pl]
          refine ⟨fun u => by rw [bnot_true, leq_false] at u; exact absurd t u, fun _ => ⟨by omega, ⟨by omega, by omega⟩, ⟨⟨hB, hz⟩, ⟨by omega⟩, lsub_bs hc.bs _ _⟩, ⟨by omega, by omega⟩, ⟨by omega, by omega⟩, hlf, fun u => ?_, fun _ => hf⟩⟩
          rw [igt_true] at u; omega
        · refine ⟨0, ?_⟩
          rw [orpeel.k0_eq]
          simp only [H.cut, llen_def, ol, nsub_def, f3, f6, f8, eA, es4, Fits_iff, NonNeg_iff, InB_iff, pl]
          refine ⟨fun u => by rw [bnot_true, leq_false] at u; exact absurd t u, fun _ => ⟨by omega, ⟨by omega, by omega⟩, ⟨⟨hB, hz⟩, ⟨by omega⟩, lsub_bs hc.bs _ _⟩, ⟨by omega, by omega⟩, ⟨by omega, by omega⟩, hlf, fun _ => fail 71 _ ?_ (by decide), fun u => ?_⟩⟩
          · rw [hpe, if_neg (by rw [t]; simp), if_pos (by rw [hok, decide_eq_false (by rw [H.sz]; omega), Bool.false_and])]
          · rw [igt_false] at u; omega
      · refine ⟨0, ?_⟩
        rw [orpeel.k0_eq]
        simp only [H.cut, llen_def, ol, nsub_def, f3]
        have tf : leq (lsub c 16 16) (tagO (dvM key (nnO c)) (m : Int) (nnO c) (bxO (m : Int) c)) = false := by rw [leq_false]; exact t
        refine ⟨fun _ => fail 70 _ (by rw [hpe, if_pos t]) (by decide), fun u => ?_⟩
        rw [tf] at u; cases u
    obtain ⟨ft, ht⟩ := tail
    obtain ⟨f, hf⟩ := loop_ex (fun f i (y : List Int × List Int) => orpeel.l0 (Res d rpeelS.news σ K) (m : Int) c key f i y.1 y.2) 16 (fun i => (upto 16 i (lget (nnO c)) (fun _ => 0), upto 16 i (lget (lsub c 16 16)) (fun _ => 0)))
      (fun g i hi h => ⟨g + 1, by
        rw [orpeel.l0_succ]
        have e16 : add .i64 16 (i : Int) = ((16 + i : Nat) : Int) := addN_i64 (a := 16) (by omega)
        simp only [H.cut, nat_cast, llen_def, ol, e16, InB_iff, Low_iff, nadd_def, Nat.zero_add]
        rw [add1_i64 (by omega)]
        refine ⟨fun _ => ?_, fun r => ?_⟩
        · rw [g1 i hi, g2 i hi, upto_lset (F := lget (nnO c)) rfl, upto_lset (F := lget (lsub c 16 16)) rfl]
          exact ⟨⟨by omega, by omega⟩, ⟨by omega, by omega⟩, by omega, ⟨by omega, by omega⟩, ⟨by omega, by omega⟩, by omega, h⟩
        · rw [ilt_false] at r; omega⟩)
      ⟨ft + 1, by
        rw [orpeel.l0_succ]
        refine ⟨fun r => ?_, fun _ => ?_⟩
        · rw [ilt_true] at r; omega
        · simp only [upto_all nl, upto_all tl, H.cut, llen_def, ol, nsub_def, f3, Fits_iff, NonNeg_iff]
          exact ⟨⟨hk, ⟨hnn⟩⟩, ⟨by omega, by omega⟩, ⟨⟨⟨hM⟩, ⟨hnn⟩, ⟨by omega, lsub_bs hc.bs _ _⟩⟩, ht⟩, ⟨⟨hM⟩, ⟨hnn⟩, ⟨by omega, lsub_bs hc.bs _ _⟩⟩, ht⟩⟩ 0 (by omega)
    refine ⟨f + 1, ?_⟩
    have e := orpeel_vc (Res d rpeelS.news σ K) f key c (m : Int)
    simp only [upto_zero, ← lzeros_tab] at hf
    refine e.mpr ⟨fun _ => ⟨hlf, fun r => ?_, fun _ => ⟨hlf, ⟨hc.sh⟩, fun r => ?_, fun _ => hf⟩⟩, fun r => ?_⟩
    · rw [ieq_true] at r; exact absurd r q2
    · rw [ine_true] at r; exact absurd q3 r
    · rw [ine_true] at r; simp only [ofNat, llen] at r; omega
  · refine ⟨1, ?_⟩
    have e := orpeel_vc (Res d rpeelS.news σ K) 0 key c left
    refine e.mpr ⟨fun q1 => ⟨hlf, fun q2 => fail 2 _ ?_ (by decide), fun q2 => ⟨hlf, ⟨hc.sh⟩, fun q3 => fail _ _ ?_ ?_, fun q3 => ?_⟩⟩, fun q1 => fail 2 _ ?_ (by decide)⟩
    · rw [ieq_true] at q2; unfold peE; rw [if_pos (Or.inr q2)]
    · rw [ine_false] at q1; simp only [ofNat, llen] at q1; rw [ieq_false] at q2; rw [ine_true] at q3
      unfold peE; rw [if_neg (by rintro (h | h); exact h (by omega); exact q2 h), if_pos q3]
    · rw [ine_true] at q3; exact q3
    · exfalso
      rw [ine_false] at q1 q3; simp only [ofNat, llen] at q1; rw [ieq_false] at q2
      exact hgo ⟨by omega, q2, q3⟩
    · rw [ine_true] at q1; simp only [ofNat, llen] at q1
      unfold peE; rw [if_pos (Or.inl (by omega))]
theorem gamO4_good : GoodG Tryd.prog gamO4 :=
  (((gamO3_good.ext good_owrap ⟨_, Tryd.func16, by decide, by kernel_rfl⟩).ext good_orwrap ⟨_, Tryd.func15, by decide, by kernel_rfl⟩).ext good_opeel ⟨_, Tryd.func18, by decide, by kernel_rfl⟩).ext good_orpeel ⟨_, Tryd.func17, by decide, by kernel_rfl⟩
end Go.Proofs.YtjahiggpglbgoaaDoor.G

/- What the laws of layers lean on. -/
namespace Go.Sx
/-- short words for long prints -/
abbrev Uu : AV := .undef
abbrev Zz : AV := .tup []
end Go.Sx
namespace Go.Oni
open Go Go.Sx
def sameO (a r b s : List Int) : Bool := decide (a = b) && decide (r = s)
end Go.Oni
namespace Go.Sx
open Go.Oni
def sameS : Spec := ⟨0, false, fun _ args σ K => match args with
  | [.agg [.cells [x], .ints .u8 16 r], .agg [.cells [y], .ints .u8 16 s]] => rdb σ (.one x) fun a => rdb σ (.one y) fun b => ((In a ∧ K16 r) ∧ In b ∧ K16 s) ∧ K (.one (.bool (sameO a r b s))) σ
  | _ => False⟩
noncomputable def gamO5 : Gam := ext (ext gamO4 10 yesR) 19 sameS
end Go.Sx

/- Around a layer and back; the closed facts of one key stream block. -/
namespace Go.Blk
open Go.Sx Go.Fld
set_option maxRecDepth 20000
set_option linter.unusedVariables false
set_option linter.unusedSimpArgs false
theorem xor_back {a k : Int} (ha : Byte a) (hk : Byte k) : bxor .u8 (bxor .u8 a k) k = a := by
  obtain ⟨x, hx, rfl⟩ := ha.nat
  obtain ⟨y, hy, rfl⟩ := hk.nat
  rw [bxor_u8 hx hy, bxor_u8 (xor_lt hx hy) hy, Nat.xor_assoc, Nat.xor_self, Nat.xor_zero]
/-- one round -/
def rnd (w : List Int) (i : Nat) (x : List Int) : List Int := qx (if i < 10 then qc [2, 3, 1, 1] (qt 1 (qe fsub x)) else qt 1 (qe fsub x)) (rk w i)
/-- are these the round keys? -/
def okK (key K : List Int) : Bool := K.length == 176 && (List.range 16).all (fun p => lget K p == lget key p) &&
  (List.range 44).all fun i => decide (i < 4) || (List.range 4).all fun j => lget K (4 * i + j) == bxor .u8 (lget K (4 * (i - 4) + j)) (kt i (fun j => lget K (4 * (i - 1) + j)) j)
theorem okK_eq {key K : List Int} (h : okK key K = true) : ks key = K := by
  simp only [okK, Bool.and_eq_true, beq_iff_eq, List.all_eq_true, List.mem_range, Bool.or_eq_true, decide_eq_true_eq] at h
  obtain ⟨⟨h1, h2⟩, h3⟩ := h
  have key' : ∀ i, i < 44 → ∀ j, j < 4 → kw key i j = lget K (4 * i + j) := by
    intro i
    induction i using Nat.strongRecOn with
    | _ i ih =>
      intro hi j hj
      by_cases q : i < 4
      · rw [kw_lo _ _ q, h2 _ (by omega)]
      · rcases h3 i hi with q2 | q2
        · omega
        · rw [kw_hi _ (by omega) hj, q2 j hj, ih (i - 4) (by omega) (by omega) j hj, kt_congr (fun a ha => ih (i - 1) (by omega) (by omega) a ha) hj]
  rw [eq_tab h1]
  refine tab_ext fun p hp => ?_
  rw [key' _ (by omega) _ (by omega), show 4 * (p / 4) + p % 4 = p by omega]
def aliveKey : List Nat := [242, 228, 185, 95, 164, 139, 142, 169, 101, 20, 48, 239, 80, 215, 46, 245]
def aliveK : List Int := [242, 228, 185, 95, 164, 139, 142, 169, 101, 20, 48, 239, 80, 215, 46, 245, 253, 213, 95, 12, 89, 94, 209, 165, 60, 74, 225, 74, 108, 157, 207, 191, 161, 95, 87, 92, 248, 1, 134, 249, 196, 75, 103, 179, 168, 214, 168, 12, 83, 157, 169, 158, 171, 156, 47, 103, 111, 215, 72, 212, 199, 1, 224, 216, 39, 124, 200, 88, 140, 224, 231, 63, 227, 55, 175, 235, 36, 54, 79, 51, 50, 248, 11, 110, 190, 24, 236, 81, 93, 47, 67, 186, 121, 25, 12, 137, 198, 6, 172, 216, 120, 30, 64, 137, 37, 49, 3, 51, 92, 40, 15, 186, 178, 112, 88, 146, 202, 110, 24, 27, 239, 95, 27, 40, 179, 119, 20, 146, 199, 138, 23, 255, 13, 228, 15, 228, 226, 187, 20, 204, 81, 204, 0, 94, 151, 233, 79, 46, 154, 13, 64, 202, 120, 182, 84, 6, 41, 122, 84, 88, 123, 201, 37, 139, 225, 196, 101, 65, 153, 114, 49, 71, 176, 8, 101, 31]
def aliveS0 : List Int := [242, 228, 185, 95, 164, 139, 142, 169, 101, 20, 48, 239, 80, 215, 46, 246]
def aliveS1 : List Int := [245, 104, 37, 49, 32, 100, 74, 48, 49, 50, 96, 120, 183, 232, 189, 159]
def aliveS2 : List Int := [184, 143, 63, 83, 85, 185, 180, 247, 220, 228, 73, 77, 68, 40, 44, 28]
def aliveS3 : List Int := [214, 140, 90, 100, 111, 204, 116, 161, 57, 206, 168, 212, 10, 147, 183, 214]
def aliveS4 : List Int := [57, 183, 235, 39, 171, 230, 72, 120, 52, 109, 80, 219, 156, 124, 171, 252]
def aliveS5 : List Int := [124, 168, 250, 254, 144, 104, 57, 42, 8, 139, 93, 8, 213, 193, 15, 98]
def aliveS6 : List Int := [207, 226, 132, 174, 50, 37, 39, 15, 5, 99, 37, 231, 37, 178, 186, 15]
def aliveS7 : List Int := [181, 179, 9, 251, 138, 67, 4, 162, 73, 205, 99, 17, 38, 184, 151, 180]
def aliveS8 : List Int := [46, 240, 185, 123, 170, 119, 214, 77, 27, 97, 15, 152, 99, 110, 248, 220]
def aliveS9 : List Int := [1, 53, 246, 233, 147, 134, 226, 201, 50, 37, 246, 248, 251, 197, 30, 184]
def aliveS10 : List Int := [7, 141, 103, 231, 61, 251, 23, 95, 186, 212, 115, 154, 191, 158, 253, 94]
theorem alive_keys : okK (Go.Hsh.cN aliveKey) aliveK = true := by decide +kernel
theorem alive_up : ups (lzeros 16) 3 = [0, 0, 0, 0, 0, 0, 0, 0, 0, 0, 0, 0, 0, 0, 0, 3] := by decide +kernel
theorem alive_s0 : qx [0, 0, 0, 0, 0, 0, 0, 0, 0, 0, 0, 0, 0, 0, 0, 3] (rk aliveK 0) = aliveS0 := by decide +kernel
theorem alive_s1 : rnd aliveK 1 aliveS0 = aliveS1 := by decide +kernel
theorem alive_s2 : rnd aliveK 2 aliveS1 = aliveS2 := by decide +kernel
theorem alive_s3 : rnd aliveK 3 aliveS2 = aliveS3 := by decide +kernel
theorem alive_s4 : rnd aliveK 4 aliveS3 = aliveS4 := by decide +kernel
theorem alive_s5 : rnd aliveK 5 aliveS4 = aliveS5 := by decide +kernel
theorem alive_s6 : rnd aliveK 6 aliveS5 = aliveS6 := by decide +kernel
theorem alive_s7 : rnd aliveK 7 aliveS6 = aliveS7 := by decide +kernel
theorem alive_s8 : rnd aliveK 8 aliveS7 = aliveS8 := by decide +kernel
theorem alive_s9 : rnd aliveK 9 aliveS8 = aliveS9 := by decide +kernel
theorem alive_s10 : rnd aliveK 10 aliveS9 = aliveS10 := by decide +kernel
theorem alive_enc : enc (ks (Go.Hsh.cN aliveKey)) (ups (lzeros 16) 3) = aliveS10 := by
  rw [okK_eq alive_keys, enc, alive_up, alive_s0]
  show rnd aliveK 10 (rnd aliveK 9 (rnd aliveK 8 (rnd aliveK 7 (rnd aliveK 6 (rnd aliveK 5 (rnd aliveK 4 (rnd aliveK 3 (rnd aliveK 2 (rnd aliveK 1 aliveS0))))))))) = _
  rw [alive_s1, alive_s2, alive_s3, alive_s4, alive_s5, alive_s6, alive_s7, alive_s8, alive_s9, alive_s10]
end Go.Blk
namespace Go.Proofs.YtjahiggpglbgoaaDoor.G
open Go Go.Sx Go.Fld Go.Hsh Go.Mac Go.Blk Go.Cel Go.Oni
set_option maxRecDepth 20000
set_option linter.unusedVariables false
set_option linter.unusedSimpArgs false
theorem mask_mask {w s p : List Int} (hw : BL 176 w) (hs : BL 16 s) (hp : Bs p) : mask w s (mask w s p) = p := by
  conv => rhs; rw [eq_tab (l := p) rfl]
  unfold mask
  rw [tab_len]
  refine tab_ext fun i hi => ?_
  rw [tab_lget _ hi, xor_back ((bs_bl hp).get i) (strB_byte hw hs i)]


theorem lsub_app_lo {a b : List Int} {i n : Nat} (h : i + n ≤ a.length) : lsub (a ++ b) i n = lsub a i n := by
  unfold lsub; rw [List.drop_append_of_le_length (by omega), List.take_append_of_le_length (by rw [List.length_drop]; omega)]
theorem lsub_app_hi {a b : List Int} {i n : Nat} (h : a.length = i) : lsub (a ++ b) i n = b.take n := by
  unfold lsub; subst h; rw [List.drop_left]
/-- what a wrapped layer is when it is filled up and peeled -/
structure Bk (key nonce inner w : List Int) (m : Nat) : Prop where
  len : w.length = 48 + 34 * m
  bs : Bs w
  e : wrE key (m : Int) inner = 0
  r : wrR key nonce (m : Int) inner = w
  nn : lsub w 0 16 = nonce
  nc : nnO (padR w) = nonce
  op : opO key (m : Int) (padR w) = plO (m : Int) inner
  cutE : cutE (padR w) (sizeI (m : Int)) = 0
  pE : peE key (m : Int) (padR w) = 0
  pC : peC key (m : Int) (padR w) = if 1 < (m : Int) then padR inner else plainR inner
  pR : peR key (m : Int) (padR w) = lsub (hmac (dvR key nonce) (lsub w 0 32)) 0 16
theorem back {key nonce inner : List Int} {m : Nat} (hk : key.length = 32) (hn : BL 16 nonce) (h1 : 1 ≤ m) (h2 : m ≤ 8) (hb : Bs inner) (hl : inner.length ≤ 14 + 34 * m) :
    Bk key nonce inner (forgeO key nonce (m : Int) (plO (m : Int) inner)) m := by
  have hs : sizeI (m : Int) = ((48 + 34 * m : Nat) : Int) := by rw [sizeI_some (by omega) (by omega)]; omega
  have pl : (plO (m : Int) inner).length = 16 + 34 * m := by
    have := plO_len (left := (m : Int)) (by omega) (by omega) (inner := inner) (by rw [hs]; omega)
    rw [hs] at this; omega
  have pb : Bs (plO (m : Int) inner) := plO_bs hb (by omega)
  have hB := dvB_bl key nonce
  have hK : BL 176 (ks (dvB key nonce)) := ks_bl hB
  have hz : BL 16 (lzeros 16) := bl_of rfl (zeros_bs _)
  have bxl : (mask (ks (dvB key nonce)) (lzeros 16) (plO (m : Int) inner)).length = 16 + 34 * m := by rw [mask_length, pl]
  have bxb : Bs (mask (ks (dvB key nonce)) (lzeros 16) (plO (m : Int) inner)) := mask_bs hK hz pb
  have tl := tagO_len (dvM key nonce) (m : Int) nonce (mask (ks (dvB key nonce)) (lzeros 16) (plO (m : Int) inner))
  have nl := hn.len
  have mm := mask_mask hK hz pb
  generalize ew : forgeO key nonce (m : Int) (plO (m : Int) inner) = w
  have e0 : wrE key (m : Int) inner = 0 := by
    unfold wrE
    rw [if_neg (by rintro (h | h); exact h hk; rw [hs] at h; omega), if_neg (by rw [hs]; omega)]
  have r0 : wrR key nonce (m : Int) inner = w := by unfold wrR; rw [if_pos e0, ew]
  unfold forgeO at ew
  generalize hbx : mask (ks (dvB key nonce)) (lzeros 16) (plO (m : Int) inner) = bx at ew bxl bxb tl mm
  generalize htg : tagO (dvM key nonce) (m : Int) nonce bx = tg at ew tl
  have wl : w.length = 48 + 34 * m := by rw [← ew, List.length_append, List.length_append]; omega
  have wb : Bs w := by
    rw [← ew]
    exact ⟨fun x hx => by
      rcases List.mem_append.mp hx with hx | hx
      · rcases List.mem_append.mp hx with hx | hx
        · exact hn.bs.all x hx
        · rw [← htg] at hx; exact (tagO_bs _ _ _ _).all x hx
      · exact bxb.all x hx⟩
  have ec : padR w = w ++ List.replicate (320 - w.length) 0 := by unfold padR; rw [if_pos (by omega)]; rfl
  have cl : (padR w).length = 320 := by rw [ec]; simp; omega
  have w1 : lsub w 0 16 = nonce := by rw [← ew, List.append_assoc, lsub_app_lo (by omega), lsub_whole nl]
  have w2 : lsub w 16 16 = tg := by rw [← ew, List.append_assoc, lsub_app_hi nl, List.take_append_of_le_length (by omega), List.take_of_length_le (by omega)]
  have w3 : lsub w 32 (16 + 34 * m) = bx := by rw [← ew, lsub_app_hi (by rw [List.length_append]; omega), List.take_of_length_le (by omega)]
  have hS : ((48 + 34 * m : Nat) : Int).toNat = 48 + 34 * m := Int.toNat_natCast _
  have nc : nnO (padR w) = nonce := by unfold nnO; rw [ec, lsub_app_lo (by omega), w1]
  have tc : lsub (padR w) 16 16 = tg := by rw [ec, lsub_app_lo (by omega), w2]
  have hc32 : lsub (padR w) 0 32 = lsub w 0 32 := by rw [ec, lsub_app_lo (by omega)]
  have bc : bxO (m : Int) (padR w) = bx := by unfold bxO; rw [hs, hS, ec, show 48 + 34 * m - 32 = 16 + 34 * m by omega, lsub_app_lo (by omega), w3]
  have op : opO key (m : Int) (padR w) = plO (m : Int) inner := by unfold opO; rw [nc, bc, mm]
  have cE : cutE (padR w) (sizeI (m : Int)) = 0 := by
    unfold cutE
    rw [if_neg (by omega), if_neg (by rw [hs]; omega), if_neg]
    rw [hs, hS, ec, ← wl, List.drop_left]
    have hz0 : zb (List.replicate (320 - w.length) 0) = true := zb_true.mpr fun i hi => by
      rw [List.length_replicate] at hi
      simp [lget, List.getD, List.getElem?_replicate, hi]
    rw [hz0]; simp
  have ps := plO_some (left := (m : Int)) (by omega) (by omega) (inner := inner)
  have iN : inN (plO (m : Int) inner) = (inner.length : Int) := by
    rw [ps]; unfold inN
    show 256 * ((inner.length / 256 : Nat) : Int) + ((inner.length % 256 : Nat) : Int) = _
    omega
  have dr : (plO (m : Int) inner).drop (2 + inner.length) = lzeros (14 + (34 * (m : Int)).toNat - inner.length) := by
    rw [ps, Nat.add_comm]
    show (inner ++ _).drop inner.length = _
    rw [List.drop_left]
  have iO : inOk (plO (m : Int) inner) (m : Int) = true := by
    unfold inOk
    rw [iN, Int.toNat_natCast, dr, decide_eq_true (by rw [hs]; omega), Bool.true_and]
    exact zb_true.mpr fun i hi => by
      unfold lzeros at hi ⊢
      rw [List.length_replicate] at hi
      simp [lget, List.getD, List.getElem?_replicate, hi]
  have iR : innO (plO (m : Int) inner) = inner := by
    unfold innO
    rw [iN, Int.toNat_natCast, ps]
    show (inner ++ _).take inner.length = _
    rw [List.take_left]
  have pE0 : peE key (m : Int) (padR w) = 0 := by
    unfold peE
    rw [if_neg (by rintro (h | h); exact h hk; rw [hs] at h; omega), if_neg (by rw [cE]; simp), nc, bc, tc, htg, if_neg (by simp), op, iO, if_neg (by simp)]
  refine ⟨wl, wb, e0, r0, w1, nc, op, cE, pE0, ?_, ?_⟩
  · unfold peC; rw [if_pos pE0, op, iR]
  · unfold peR; rw [if_pos pE0, nc, hc32]
end Go.Proofs.YtjahiggpglbgoaaDoor.G

/- The verification conditions of functions, printed by a program of this session out of their codes. -/
namespace Go.Proofs.YtjahiggpglbgoaaDoor.G
open Go Go.Sx Go.Oni
set_option linter.unusedVariables false
set_option maxRecDepth 100000

theorem osame_vc (R : AV → Mem → Prop) (fuel : Nat) (a : List Int) (b : List Int) (r : List Int) (s : List Int) : callsx Tryd.prog gamO4 [] Tryd.f19 (fuel + 1) [.agg [.cells [.vec 200000], .ints .u8 16 r], .agg [.cells [.vec 200001], .ints .u8 16 s]] [(200000, .rview [.ints .u8 a]), (200001, .rview [.ints .u8 b])] R = (((((seq2 (bytesOf a) (bytesOf b)) = true) → ((Fits 16 16) ∧ ((Fits 16 16) ∧ (R (AV.one (AC.bool (leq (lsub r 0 16) (lsub s 0 16)))) [(2, Blk.own 44 [(Seg.cells [(AC.vec 200000)]), (Seg.ints IntKind.u8 16 r)]), (3, Blk.own 44 [(Seg.cells [(AC.vec 200001)]), (Seg.ints IntKind.u8 16 s)]), (200000, Blk.rview [(Col.ints IntKind.u8 a)]), (200001, Blk.rview [(Col.ints IntKind.u8 b)])])))) ∧ (((seq2 (bytesOf a) (bytesOf b)) = false) → (R (AV.one (AC.lit false)) [(2, Blk.own 44 [(Seg.cells [(AC.vec 200000)]), (Seg.ints IntKind.u8 16 r)]), (3, Blk.own 44 [(Seg.cells [(AC.vec 200001)]), (Seg.ints IntKind.u8 16 s)]), (200000, Blk.rview [(Col.ints IntKind.u8 a)]), (200001, Blk.rview [(Col.ints IntKind.u8 b)])])))) := by kernel_rfl

theorem oalive_vc (R : AV → Mem → Prop) (fuel : Nat)  : callsx Tryd.prog gamO4 [] Tryd.f10 (fuel + 1) [] [(1000000 + 0, .view [.ints .u32 64 Go.Hsh.rootsL])] R = (((Mk 32 32 1) ∧ ((Low 0 16) ∧ ((InB 0 2) ∧ (((Go.Hsh.rootsL = Go.Hsh.rootsL) ∧ ((Go.Oni.Ky (lzeros 32)) ∧ ((Go.Oni.Nn (lset (lzeros 16) 0 1)) ∧ ((Go.Oni.Lf 1) ∧ (Go.Oni.In [104, 105]))))) ∧ ((Short (Go.Oni.wL (lzeros 32) (lset (lzeros 16) 0 1) 1 [104, 105])) ∧ (((Go.Hsh.rootsL = Go.Hsh.rootsL) ∧ ((Go.Oni.Ky (lzeros 32)) ∧ ((Go.Oni.Lf 1) ∧ (Go.Oni.In (Go.Cel.padR (Go.Oni.wL (lzeros 32) (lset (lzeros 16) 0 1) 1 [104, 105])))))) ∧ ((InB 0 2) ∧ ((Short [104, 105]) ∧ (((Go.Hsh.rootsL = Go.Hsh.rootsL) ∧ ((Go.Oni.Ky (lzeros 32)) ∧ ((Go.Oni.Lf 2) ∧ (Go.Oni.In (Go.Cel.padR (Go.Oni.wL (lzeros 32) (lset (lzeros 16) 0 1) 1 [104, 105])))))) ∧ ((((ieq (Go.Oni.wE (lzeros 32) 1 [104, 105]) 0) = true) → ((((ieq (Go.Cel.padE (Go.Oni.wL (lzeros 32) (lset (lzeros 16) 0 1) 1 [104, 105])) 0) = true) → ((((ieq (Go.Oni.pE (lzeros 32) 1 (Go.Cel.padR (Go.Oni.wL (lzeros 32) (lset (lzeros 16) 0 1) 1 [104, 105]))) 0) = true) → ((((ieq (Go.Cel.plainE [104, 105]) 0) = true) → ((((ine (Go.Oni.pE (lzeros 32) 2 (Go.Cel.padR (Go.Oni.wL (lzeros 32) (lset (lzeros 16) 0 1) 1 [104, 105]))) 0) = true) → ((((ieq (ofNat (llen (Go.Oni.wL (lzeros 32) (lset (lzeros 16) 0 1) 1 [104, 105]))) 82) = true) → ((((ieq (ofNat (llen (Go.Oni.pC (lzeros 32) 1 (Go.Cel.padR (Go.Oni.wL (lzeros 32) (lset (lzeros 16) 0 1) 1 [104, 105]))))) 320) = true) → ((((seq2 (bytesOf (Go.Oni.pC (lzeros 32) 1 (Go.Cel.padR (Go.Oni.wL (lzeros 32) (lset (lzeros 16) 0 1) 1 [104, 105])))) (bytesOf (Go.Cel.plainR [104, 105]))) = true) → ((Go.Oni.Lf 2) ∧ (let y0 : Bool := (ieq (ofNat (llen (Go.Oni.pC (lzeros 32) 1 (Go.Cel.padR (Go.Oni.wL (lzeros 32) (lset (lzeros 16) 0 1) 1 [104, 105]))))) 320); (let y1 : Bool := (seq2 (bytesOf (Go.Oni.pC (lzeros 32) 1 (Go.Cel.padR (Go.Oni.wL (lzeros 32) (lset (lzeros 16) 0 1) 1 [104, 105])))) (bytesOf (Go.Cel.plainR [104, 105]))); (R (AV.one (AC.bool (ieq (Go.Oni.sizeI 2) 116))) [(6, Blk.own 44 [(Seg.cells [(AC.vec 29)]), (Seg.ints IntKind.u8 16 (Go.Oni.pR (lzeros 32) 1 (Go.Cel.padR (Go.Oni.wL (lzeros 32) (lset (lzeros 16) 0 1) 1 [104, 105]))))]), (10, Blk.own 44 [(Seg.cells [(AC.vec 41)]), (Seg.ints IntKind.u8 16 (Go.Oni.pR (lzeros 32) 2 (Go.Cel.padR (Go.Oni.wL (lzeros 32) (lset (lzeros 16) 0 1) 1 [104, 105]))))]), (12, Blk.vec [(Col.ints IntKind.u8 (lzeros 32))]), (16, Blk.rview [(Col.ints IntKind.u8 [104, 105])]), (18, Blk.vec [(Col.ints IntKind.u8 (Go.Oni.wL (lzeros 32) (lset (lzeros 16) 0 1) 1 [104, 105]))]), (23, Blk.vec [(Col.ints IntKind.u8 (Go.Cel.padR (Go.Oni.wL (lzeros 32) (lset (lzeros 16) 0 1) 1 [104, 105])))]), (29, Blk.vec [(Col.ints IntKind.u8 (Go.Oni.pC (lzeros 32) 1 (Go.Cel.padR (Go.Oni.wL (lzeros 32) (lset (lzeros 16) 0 1) 1 [104, 105]))))]), (33, Blk.rview [(Col.ints IntKind.u8 [104, 105])]), (35, Blk.vec [(Col.ints IntKind.u8 (Go.Cel.plainR [104, 105]))]), (41, Blk.vec [(Col.ints IntKind.u8 (Go.Oni.pC (lzeros 32) 2 (Go.Cel.padR (Go.Oni.wL (lzeros 32) (lset (lzeros 16) 0 1) 1 [104, 105]))))]), (1000000, Blk.view [(Seg.ints IntKind.u32 64 Go.Hsh.rootsL)])]))))) ∧ (((seq2 (bytesOf (Go.Oni.pC (lzeros 32) 1 (Go.Cel.padR (Go.Oni.wL (lzeros 32) (lset (lzeros 16) 0 1) 1 [104, 105])))) (bytesOf (Go.Cel.plainR [104, 105]))) = false) → (let y2 : Bool := (ieq (ofNat (llen (Go.Oni.pC (lzeros 32) 1 (Go.Cel.padR (Go.Oni.wL (lzeros 32) (lset (lzeros 16) 0 1) 1 [104, 105]))))) 320); (let y3 : Bool := (seq2 (bytesOf (Go.Oni.pC (lzeros 32) 1 (Go.Cel.padR (Go.Oni.wL (lzeros 32) (lset (lzeros 16) 0 1) 1 [104, 105])))) (bytesOf (Go.Cel.plainR [104, 105]))); (R (AV.one (AC.lit false)) [(6, Blk.own 44 [(Seg.cells [(AC.vec 29)]), (Seg.ints IntKind.u8 16 (Go.Oni.pR (lzeros 32) 1 (Go.Cel.padR (Go.Oni.wL (lzeros 32) (lset (lzeros 16) 0 1) 1 [104, 105]))))]), (10, Blk.own 44 [(Seg.cells [(AC.vec 41)]), (Seg.ints IntKind.u8 16 (Go.Oni.pR (lzeros 32) 2 (Go.Cel.padR (Go.Oni.wL (lzeros 32) (lset (lzeros 16) 0 1) 1 [104, 105]))))]), (12, Blk.vec [(Col.ints IntKind.u8 (lzeros 32))]), (16, Blk.rview [(Col.ints IntKind.u8 [104, 105])]), (18, Blk.vec [(Col.ints IntKind.u8 (Go.Oni.wL (lzeros 32) (lset (lzeros 16) 0 1) 1 [104, 105]))]), (23, Blk.vec [(Col.ints IntKind.u8 (Go.Cel.padR (Go.Oni.wL (lzeros 32) (lset (lzeros 16) 0 1) 1 [104, 105])))]), (29, Blk.vec [(Col.ints IntKind.u8 (Go.Oni.pC (lzeros 32) 1 (Go.Cel.padR (Go.Oni.wL (lzeros 32) (lset (lzeros 16) 0 1) 1 [104, 105]))))]), (33, Blk.rview [(Col.ints IntKind.u8 [104, 105])]), (35, Blk.vec [(Col.ints IntKind.u8 (Go.Cel.plainR [104, 105]))]), (41, Blk.vec [(Col.ints IntKind.u8 (Go.Oni.pC (lzeros 32) 2 (Go.Cel.padR (Go.Oni.wL (lzeros 32) (lset (lzeros 16) 0 1) 1 [104, 105]))))]), (1000000, Blk.view [(Seg.ints IntKind.u32 64 Go.Hsh.rootsL)])])))))) ∧ (((ieq (ofNat (llen (Go.Oni.pC (lzeros 32) 1 (Go.Cel.padR (Go.Oni.wL (lzeros 32) (lset (lzeros 16) 0 1) 1 [104, 105]))))) 320) = false) → (let y4 : Bool := (ieq (ofNat (llen (Go.Oni.pC (lzeros 32) 1 (Go.Cel.padR (Go.Oni.wL (lzeros 32) (lset (lzeros 16) 0 1) 1 [104, 105]))))) 320); (R (AV.one (AC.lit false)) [(6, Blk.own 44 [(Seg.cells [(AC.vec 29)]), (Seg.ints IntKind.u8 16 (Go.Oni.pR (lzeros 32) 1 (Go.Cel.padR (Go.Oni.wL (lzeros 32) (lset (lzeros 16) 0 1) 1 [104, 105]))))]), (10, Blk.own 44 [(Seg.cells [(AC.vec 41)]), (Seg.ints IntKind.u8 16 (Go.Oni.pR (lzeros 32) 2 (Go.Cel.padR (Go.Oni.wL (lzeros 32) (lset (lzeros 16) 0 1) 1 [104, 105]))))]), (12, Blk.vec [(Col.ints IntKind.u8 (lzeros 32))]), (16, Blk.rview [(Col.ints IntKind.u8 [104, 105])]), (18, Blk.vec [(Col.ints IntKind.u8 (Go.Oni.wL (lzeros 32) (lset (lzeros 16) 0 1) 1 [104, 105]))]), (23, Blk.vec [(Col.ints IntKind.u8 (Go.Cel.padR (Go.Oni.wL (lzeros 32) (lset (lzeros 16) 0 1) 1 [104, 105])))]), (29, Blk.vec [(Col.ints IntKind.u8 (Go.Oni.pC (lzeros 32) 1 (Go.Cel.padR (Go.Oni.wL (lzeros 32) (lset (lzeros 16) 0 1) 1 [104, 105]))))]), (33, Blk.rview [(Col.ints IntKind.u8 [104, 105])]), (35, Blk.vec [(Col.ints IntKind.u8 (Go.Cel.plainR [104, 105]))]), (41, Blk.vec [(Col.ints IntKind.u8 (Go.Oni.pC (lzeros 32) 2 (Go.Cel.padR (Go.Oni.wL (lzeros 32) (lset (lzeros 16) 0 1) 1 [104, 105]))))]), (1000000, Blk.view [(Seg.ints IntKind.u32 64 Go.Hsh.rootsL)])]))))) ∧ (((ieq (ofNat (llen (Go.Oni.wL (lzeros 32) (lset (lzeros 16) 0 1) 1 [104, 105]))) 82) = false) → (R (AV.one (AC.lit false)) [(6, Blk.own 44 [(Seg.cells [(AC.vec 29)]), (Seg.ints IntKind.u8 16 (Go.Oni.pR (lzeros 32) 1 (Go.Cel.padR (Go.Oni.wL (lzeros 32) (lset (lzeros 16) 0 1) 1 [104, 105]))))]), (10, Blk.own 44 [(Seg.cells [(AC.vec 41)]), (Seg.ints IntKind.u8 16 (Go.Oni.pR (lzeros 32) 2 (Go.Cel.padR (Go.Oni.wL (lzeros 32) (lset (lzeros 16) 0 1) 1 [104, 105]))))]), (12, Blk.vec [(Col.ints IntKind.u8 (lzeros 32))]), (16, Blk.rview [(Col.ints IntKind.u8 [104, 105])]), (18, Blk.vec [(Col.ints IntKind.u8 (Go.Oni.wL (lzeros 32) (lset (lzeros 16) 0 1) 1 [104, 105]))]), (23, Blk.vec [(Col.ints IntKind.u8 (Go.Cel.padR (Go.Oni.wL (lzeros 32) (lset (lzeros 16) 0 1) 1 [104, 105])))]), (29, Blk.vec [(Col.ints IntKind.u8 (Go.Oni.pC (lzeros 32) 1 (Go.Cel.padR (Go.Oni.wL (lzeros 32) (lset (lzeros 16) 0 1) 1 [104, 105]))))]), (33, Blk.rview [(Col.ints IntKind.u8 [104, 105])]), (35, Blk.vec [(Col.ints IntKind.u8 (Go.Cel.plainR [104, 105]))]), (41, Blk.vec [(Col.ints IntKind.u8 (Go.Oni.pC (lzeros 32) 2 (Go.Cel.padR (Go.Oni.wL (lzeros 32) (lset (lzeros 16) 0 1) 1 [104, 105]))))]), (1000000, Blk.view [(Seg.ints IntKind.u32 64 Go.Hsh.rootsL)])])))) ∧ (((ine (Go.Oni.pE (lzeros 32) 2 (Go.Cel.padR (Go.Oni.wL (lzeros 32) (lset (lzeros 16) 0 1) 1 [104, 105]))) 0) = false) → (R (AV.one (AC.lit false)) [(6, Blk.own 44 [(Seg.cells [(AC.vec 29)]), (Seg.ints IntKind.u8 16 (Go.Oni.pR (lzeros 32) 1 (Go.Cel.padR (Go.Oni.wL (lzeros 32) (lset (lzeros 16) 0 1) 1 [104, 105]))))]), (10, Blk.own 44 [(Seg.cells [(AC.vec 41)]), (Seg.ints IntKind.u8 16 (Go.Oni.pR (lzeros 32) 2 (Go.Cel.padR (Go.Oni.wL (lzeros 32) (lset (lzeros 16) 0 1) 1 [104, 105]))))]), (12, Blk.vec [(Col.ints IntKind.u8 (lzeros 32))]), (16, Blk.rview [(Col.ints IntKind.u8 [104, 105])]), (18, Blk.vec [(Col.ints IntKind.u8 (Go.Oni.wL (lzeros 32) (lset (lzeros 16) 0 1) 1 [104, 105]))]), (23, Blk.vec [(Col.ints IntKind.u8 (Go.Cel.padR (Go.Oni.wL (lzeros 32) (lset (lzeros 16) 0 1) 1 [104, 105])))]), (29, Blk.vec [(Col.ints IntKind.u8 (Go.Oni.pC (lzeros 32) 1 (Go.Cel.padR (Go.Oni.wL (lzeros 32) (lset (lzeros 16) 0 1) 1 [104, 105]))))]), (33, Blk.rview [(Col.ints IntKind.u8 [104, 105])]), (35, Blk.vec [(Col.ints IntKind.u8 (Go.Cel.plainR [104, 105]))]), (41, Blk.vec [(Col.ints IntKind.u8 (Go.Oni.pC (lzeros 32) 2 (Go.Cel.padR (Go.Oni.wL (lzeros 32) (lset (lzeros 16) 0 1) 1 [104, 105]))))]), (1000000, Blk.view [(Seg.ints IntKind.u32 64 Go.Hsh.rootsL)])])))) ∧ (((ieq (Go.Cel.plainE [104, 105]) 0) = false) → (R (AV.one (AC.lit false)) [(6, Blk.own 44 [(Seg.cells [(AC.vec 29)]), (Seg.ints IntKind.u8 16 (Go.Oni.pR (lzeros 32) 1 (Go.Cel.padR (Go.Oni.wL (lzeros 32) (lset (lzeros 16) 0 1) 1 [104, 105]))))]), (10, Blk.own 44 [(Seg.cells [(AC.vec 41)]), (Seg.ints IntKind.u8 16 (Go.Oni.pR (lzeros 32) 2 (Go.Cel.padR (Go.Oni.wL (lzeros 32) (lset (lzeros 16) 0 1) 1 [104, 105]))))]), (12, Blk.vec [(Col.ints IntKind.u8 (lzeros 32))]), (16, Blk.rview [(Col.ints IntKind.u8 [104, 105])]), (18, Blk.vec [(Col.ints IntKind.u8 (Go.Oni.wL (lzeros 32) (lset (lzeros 16) 0 1) 1 [104, 105]))]), (23, Blk.vec [(Col.ints IntKind.u8 (Go.Cel.padR (Go.Oni.wL (lzeros 32) (lset (lzeros 16) 0 1) 1 [104, 105])))]), (29, Blk.vec [(Col.ints IntKind.u8 (Go.Oni.pC (lzeros 32) 1 (Go.Cel.padR (Go.Oni.wL (lzeros 32) (lset (lzeros 16) 0 1) 1 [104, 105]))))]), (33, Blk.rview [(Col.ints IntKind.u8 [104, 105])]), (35, Blk.vec [(Col.ints IntKind.u8 (Go.Cel.plainR [104, 105]))]), (41, Blk.vec [(Col.ints IntKind.u8 (Go.Oni.pC (lzeros 32) 2 (Go.Cel.padR (Go.Oni.wL (lzeros 32) (lset (lzeros 16) 0 1) 1 [104, 105]))))]), (1000000, Blk.view [(Seg.ints IntKind.u32 64 Go.Hsh.rootsL)])])))) ∧ (((ieq (Go.Oni.pE (lzeros 32) 1 (Go.Cel.padR (Go.Oni.wL (lzeros 32) (lset (lzeros 16) 0 1) 1 [104, 105]))) 0) = false) → (R (AV.one (AC.lit false)) [(6, Blk.own 44 [(Seg.cells [(AC.vec 29)]), (Seg.ints IntKind.u8 16 (Go.Oni.pR (lzeros 32) 1 (Go.Cel.padR (Go.Oni.wL (lzeros 32) (lset (lzeros 16) 0 1) 1 [104, 105]))))]), (10, Blk.own 44 [(Seg.cells [(AC.vec 41)]), (Seg.ints IntKind.u8 16 (Go.Oni.pR (lzeros 32) 2 (Go.Cel.padR (Go.Oni.wL (lzeros 32) (lset (lzeros 16) 0 1) 1 [104, 105]))))]), (12, Blk.vec [(Col.ints IntKind.u8 (lzeros 32))]), (16, Blk.rview [(Col.ints IntKind.u8 [104, 105])]), (18, Blk.vec [(Col.ints IntKind.u8 (Go.Oni.wL (lzeros 32) (lset (lzeros 16) 0 1) 1 [104, 105]))]), (23, Blk.vec [(Col.ints IntKind.u8 (Go.Cel.padR (Go.Oni.wL (lzeros 32) (lset (lzeros 16) 0 1) 1 [104, 105])))]), (29, Blk.vec [(Col.ints IntKind.u8 (Go.Oni.pC (lzeros 32) 1 (Go.Cel.padR (Go.Oni.wL (lzeros 32) (lset (lzeros 16) 0 1) 1 [104, 105]))))]), (33, Blk.rview [(Col.ints IntKind.u8 [104, 105])]), (35, Blk.vec [(Col.ints IntKind.u8 (Go.Cel.plainR [104, 105]))]), (41, Blk.vec [(Col.ints IntKind.u8 (Go.Oni.pC (lzeros 32) 2 (Go.Cel.padR (Go.Oni.wL (lzeros 32) (lset (lzeros 16) 0 1) 1 [104, 105]))))]), (1000000, Blk.view [(Seg.ints IntKind.u32 64 Go.Hsh.rootsL)])])))) ∧ (((ieq (Go.Cel.padE (Go.Oni.wL (lzeros 32) (lset (lzeros 16) 0 1) 1 [104, 105])) 0) = false) → (R (AV.one (AC.lit false)) [(6, Blk.own 44 [(Seg.cells [(AC.vec 29)]), (Seg.ints IntKind.u8 16 (Go.Oni.pR (lzeros 32) 1 (Go.Cel.padR (Go.Oni.wL (lzeros 32) (lset (lzeros 16) 0 1) 1 [104, 105]))))]), (10, Blk.own 44 [(Seg.cells [(AC.vec 41)]), (Seg.ints IntKind.u8 16 (Go.Oni.pR (lzeros 32) 2 (Go.Cel.padR (Go.Oni.wL (lzeros 32) (lset (lzeros 16) 0 1) 1 [104, 105]))))]), (12, Blk.vec [(Col.ints IntKind.u8 (lzeros 32))]), (16, Blk.rview [(Col.ints IntKind.u8 [104, 105])]), (18, Blk.vec [(Col.ints IntKind.u8 (Go.Oni.wL (lzeros 32) (lset (lzeros 16) 0 1) 1 [104, 105]))]), (23, Blk.vec [(Col.ints IntKind.u8 (Go.Cel.padR (Go.Oni.wL (lzeros 32) (lset (lzeros 16) 0 1) 1 [104, 105])))]), (29, Blk.vec [(Col.ints IntKind.u8 (Go.Oni.pC (lzeros 32) 1 (Go.Cel.padR (Go.Oni.wL (lzeros 32) (lset (lzeros 16) 0 1) 1 [104, 105]))))]), (33, Blk.rview [(Col.ints IntKind.u8 [104, 105])]), (35, Blk.vec [(Col.ints IntKind.u8 (Go.Cel.plainR [104, 105]))]), (41, Blk.vec [(Col.ints IntKind.u8 (Go.Oni.pC (lzeros 32) 2 (Go.Cel.padR (Go.Oni.wL (lzeros 32) (lset (lzeros 16) 0 1) 1 [104, 105]))))]), (1000000, Blk.view [(Seg.ints IntKind.u32 64 Go.Hsh.rootsL)])])))) ∧ (((ieq (Go.Oni.wE (lzeros 32) 1 [104, 105]) 0) = false) → (R (AV.one (AC.lit false)) [(6, Blk.own 44 [(Seg.cells [(AC.vec 29)]), (Seg.ints IntKind.u8 16 (Go.Oni.pR (lzeros 32) 1 (Go.Cel.padR (Go.Oni.wL (lzeros 32) (lset (lzeros 16) 0 1) 1 [104, 105]))))]), (10, Blk.own 44 [(Seg.cells [(AC.vec 41)]), (Seg.ints IntKind.u8 16 (Go.Oni.pR (lzeros 32) 2 (Go.Cel.padR (Go.Oni.wL (lzeros 32) (lset (lzeros 16) 0 1) 1 [104, 105]))))]), (12, Blk.vec [(Col.ints IntKind.u8 (lzeros 32))]), (16, Blk.rview [(Col.ints IntKind.u8 [104, 105])]), (18, Blk.vec [(Col.ints IntKind.u8 (Go.Oni.wL (lzeros 32) (lset (lzeros 16) 0 1) 1 [104, 105]))]), (23, Blk.vec [(Col.ints IntKind.u8 (Go.Cel.padR (Go.Oni.wL (lzeros 32) (lset (lzeros 16) 0 1) 1 [104, 105])))]), (29, Blk.vec [(Col.ints IntKind.u8 (Go.Oni.pC (lzeros 32) 1 (Go.Cel.padR (Go.Oni.wL (lzeros 32) (lset (lzeros 16) 0 1) 1 [104, 105]))))]), (33, Blk.rview [(Col.ints IntKind.u8 [104, 105])]), (35, Blk.vec [(Col.ints IntKind.u8 (Go.Cel.plainR [104, 105]))]), (41, Blk.vec [(Col.ints IntKind.u8 (Go.Oni.pC (lzeros 32) 2 (Go.Cel.padR (Go.Oni.wL (lzeros 32) (lset (lzeros 16) 0 1) 1 [104, 105]))))]), (1000000, Blk.view [(Seg.ints IntKind.u32 64 Go.Hsh.rootsL)])]))))))))))))) := by kernel_rfl

end Go.Proofs.YtjahiggpglbgoaaDoor.G

/- The fixed facts of the laws of layers. -/
namespace Go.Proofs.YtjahiggpglbgoaaDoor.G
open Go Go.Sx Go.Fld Go.Hsh Go.Mac Go.Blk Go.Cel Go.Oni
set_option maxRecDepth 20000
set_option linter.unusedVariables false
set_option linter.unusedSimpArgs false

def n1N : List Nat := [1, 0, 0, 0, 0, 0, 0, 0, 0, 0, 0, 0, 0, 0, 0, 0]
def z32N : List Nat := List.replicate 32 0
set_option maxRecDepth 100000 in
theorem key_seven : (hmacN (hmacN n1N z32N) [99, 104, 117, 114, 110, 1]).take 16 = aliveKey := by decide +kernel
theorem key_cN : dvB (lzeros 32) (lset (lzeros 16) 0 1) = cN aliveKey := by
  unfold dvB
  rw [if_pos (show (lzeros 32).length = 32 from rfl), lsub_take]
  unfold kB
  rw [show (80 : Int) = ((80 : Nat) : Int) from rfl, exR_first (m := 80) (k := 16) (by decide) (by decide) (by decide)]
  have e1 : hmac (lset (lzeros 16) 0 1) (lzeros 32) = cN (hmacN n1N z32N) := hmac_nat (k := n1N) (msg := z32N) (by decide) (by decide) (by decide) (by decide)
  have hb : Bs (cN (hmacN n1N z32N)) := by rw [← e1]; exact hmac_bytes _ _
  have hl : (hmacN n1N z32N).length = 32 := by rw [← cN_len, ← e1]; exact hmac_len _ _
  have e2 : hmac (cN (hmacN n1N z32N)) (churn ++ [1]) = cN (hmacN (hmacN n1N z32N) [99, 104, 117, 114, 110, 1]) := hmac_nat (k := hmacN n1N z32N) (msg := [99, 104, 117, 114, 110, 1]) (cN_lt hb) (by omega) (by decide) (by decide)
  rw [e1, e2, ← key_seven]
  unfold cN
  rw [List.map_take]
theorem pad_app {w : List Int} (h : w.length ≤ 320) : padR w = w ++ List.replicate (320 - w.length) 0 := by unfold padR; rw [if_pos h]; rfl
theorem pad_len {w : List Int} (h : w.length ≤ 320) : (padR w).length = 320 := by rw [pad_app h]; simp; omega
theorem opO_at {key c : List Int} {left : Int} {i : Nat} (h : i < (sizeI left).toNat - 32) (hl : (sizeI left).toNat ≤ c.length) : lget (opO key left c) i = bxor .u8 (lget c (32 + i)) (strB (ks (dvB key (nnO c))) (lzeros 16) i) := by
  unfold opO mask
  rw [tab_lget _ (by unfold bxO; rw [lsub_length (by omega)]; exact h)]
  unfold bxO
  rw [lget_lsub h]
theorem two_no {w : List Int} (b : Bk (lzeros 32) (lset (lzeros 16) 0 1) [104, 105] w 1) : peE (lzeros 32) 2 (padR w) ≠ 0 := by
  intro h
  have hok : inOk (opO (lzeros 32) 2 (padR w)) 2 = true := by
    unfold peE at h
    split at h
    · cases h
    · split at h
      · rename_i q; exact absurd h q
      · split at h
        · cases h
        · split at h
          · cases h
          · rename_i q; simpa using q
  obtain ⟨_, hz⟩ := inOk_some (left := 2) (by decide) (by decide) hok
  have wl : w.length = 82 := b.len
  have cl := pad_len (w := w) (by omega)
  have s1 : sizeI 1 = 82 := rfl
  have s2 : sizeI 2 = 116 := rfl
  have op : opO (lzeros 32) 1 (padR w) = plO 1 [104, 105] := b.op
  have same : ∀ i, i < 50 → lget (opO (lzeros 32) 2 (padR w)) i = lget (plO 1 [104, 105]) i := fun i hi => by
    rw [← op, opO_at (left := 2) (by rw [s2]; show i < 84; omega) (by rw [s2, cl]; decide), opO_at (left := 1) (by rw [s1]; show i < 50; omega) (by rw [s1, cl]; decide)]
  have p0 : lget (plO 1 [104, 105]) 0 = 0 := rfl
  have p1 : lget (plO 1 [104, 105]) 1 = 2 := rfl
  have hN : inN (opO (lzeros 32) 2 (padR w)) = 2 := by unfold inN; rw [same 0 (by decide), same 1 (by decide), p0, p1]; rfl
  have ol : (opO (lzeros 32) 2 (padR w)).length = 84 := opO_len (left := 2) (by decide) (by decide) cl
  rw [hN] at hz
  have h50 := zb_true.mp hz 46 (by rw [List.length_drop, ol]; decide)
  rw [lget_drop] at h50
  have e50 := opO_at (key := lzeros 32) (c := padR w) (left := 2) (i := 50) (by rw [s2]; decide) (by rw [s2, cl]; decide)
  have c82 : lget (padR w) 82 = 0 := by
    rw [pad_app (by omega)]
    unfold lget List.getD
    rw [List.getElem?_append_right (by omega), List.getElem?_replicate, if_pos (by omega)]; rfl
  have st : strB (ks (dvB (lzeros 32) (nnO (padR w)))) (lzeros 16) 50 = lget aliveS10 2 := by
    rw [b.nc, key_cN, ← alive_enc]; rfl
  have h50' : lget (opO (lzeros 32) 2 (padR w)) 50 = 0 := h50
  rw [e50, show 32 + 50 = 82 from rfl, c82, st] at h50'
  exact absurd h50' (by decide +kernel)

theorem good_oalive : Sx.Good Tryd.prog 10 yesR := by
  refine Sx.Good.reads (D := []) mixed gamO4_good Tryd.func10 (by kernel_rfl) rfl fun d args σ K h => ?_
  simp only [yesR] at h
  split at h <;> try exact h.elim
  obtain ⟨hr, hK⟩ := h
  refine ⟨_, _, .glob (roots_at hr) (by intro m; rfl) (.nil _), by simp, 1, ?_⟩
  have e := oalive_vc (Res d yesR.news σ K) 0
  refine e.mpr ?_
  have nb : BL 16 (lset (lzeros 16) 0 1) := bl_of rfl ⟨by decide⟩
  have hb : Bs [104, 105] := ⟨by decide⟩
  obtain ⟨w, b⟩ : ∃ w, Bk (lzeros 32) (lset (lzeros 16) 0 1) [104, 105] w 1 := ⟨_, back rfl nb (by decide) (by decide) hb (by decide)⟩
  have wl : w.length = 82 := b.len
  have cl := pad_len (w := w) (by omega)
  have hw : wL (lzeros 32) (lset (lzeros 16) 0 1) 1 [104, 105] = w := by rw [wL_eq]; exact b.r
  have g1 : ieq (wE (lzeros 32) 1 [104, 105]) 0 = true := by rw [wE_eq, ieq_true]; exact b.e
  have g2 : ieq (padE w) 0 = true := by rw [ieq_true]; unfold padE; rw [if_pos (by omega)]
  have g3 : ieq (pE (lzeros 32) 1 (padR w)) 0 = true := by rw [pE_eq, ieq_true]; exact b.pE
  have g4 : ieq (plainE [104, 105]) 0 = true := rfl
  have g5 : ine (pE (lzeros 32) 2 (padR w)) 0 = true := by rw [pE_eq, ine_true]; exact two_no b
  have g6 : ieq (ofNat (llen w)) 82 = true := by rw [ieq_true]; simp only [ofNat, llen, wl]; rfl
  have hp : pC (lzeros 32) 1 (padR w) = plainR [104, 105] := by rw [pC_eq]; exact b.pC.trans (if_neg (by decide))
  have g7 : ieq (ofNat (llen (plainR [104, 105]))) 320 = true := by decide +kernel
  have g8 := seq_self (plainR [104, 105])
  have g9 : ieq (sizeI 2) 116 = true := rfl
  have pb : Bs (padR w) := by
    rw [pad_app (by omega)]
    exact ⟨fun x hx => by
      rcases List.mem_append.mp hx with hx | hx
      · exact b.bs.all x hx
      · rw [(List.mem_replicate.mp hx).2]; decide⟩
  have ky : Ky (lzeros 32) := ⟨⟨by decide⟩, ⟨by decide⟩⟩
  have nn : Nn (lset (lzeros 16) 0 1) := ⟨nb⟩
  have i1 : In [104, 105] := ⟨by decide, hb⟩
  have i2 : In (padR w) := ⟨by omega, pb⟩
  have sh1 : Short w := ⟨by omega⟩
  have sh2 : Short [104, 105] := ⟨by decide⟩
  have l1 : Lf 1 := ⟨by decide, by decide⟩
  have l2 : Lf 2 := ⟨by decide, by decide⟩
  simp only [hw, g1, g2, g3, g4, g5, g6, hp, g7, g8, true_and, and_true, Bool.true_eq_false, false_implies, forall_const]
  exact ⟨⟨by omega, by omega, by omega, by omega⟩, ⟨by omega⟩, ⟨by omega, by omega⟩, ⟨ky, nn, l1, i1⟩, sh1, ⟨ky, l1, i2⟩, ⟨by omega, by omega⟩, sh2, ⟨ky, l2, i2⟩, l2, res_yes g9 hK⟩
theorem res_bool {d : Nat} {σ σ' : Mem} {K : AV → Mem → Prop} {b c : Bool} (e : b = c) (hK : K (.one (.bool c)) σ) : Res d 0 σ K (.one (.bool b)) σ' := by
  subst e
  have hv : ResV [] d (.one (.bool b)) (.one (.bool b)) := Or.inl ⟨fun _ => rfl, fun _ => rfl, fun _ _ q => q⟩
  exact res_plain hv hK
theorem res_litb {d : Nat} {σ σ' : Mem} {K : AV → Mem → Prop} {b c : Bool} (e : b = c) (hK : K (.one (.bool c)) σ) : Res d 0 σ K (.one (.lit b)) σ' := by
  subst e
  have hv : ResV [] d (.one (.lit b)) (.one (.bool b)) := Or.inl ⟨fun _ => rfl, fun _ => rfl, fun _ _ q => q⟩
  exact res_plain hv hK
theorem good_osame : Sx.Good Tryd.prog 19 sameS := by
  refine Sx.Good.reads (D := []) mixed gamO4_good Tryd.func19 (by kernel_rfl) rfl fun d args σ K h => ?_
  simp only [sameS] at h
  split at h <;> try exact h.elim
  rename_i x r y s
  obtain ⟨a, h, hrow⟩ := rdb_row h
  obtain ⟨b, ⟨⟨⟨ha, hr⟩, hb, hs⟩, hK⟩, hrow2⟩ := rdb_row h
  refine ⟨_, _, .aggrow [.ints .u8] _ hrow (by decide) (by intro m; rfl) (.aggrow [.ints .u8] _ hrow2 (by decide) (by intro m; rfl) (.nil _)), by simp, 1, ?_⟩
  have e := osame_vc (Res d sameS.news σ K) 0 a b r s
  refine e.mpr ⟨fun q => ⟨⟨by omega⟩, ⟨by omega⟩, res_bool ?_ hK⟩, fun q => res_litb ?_ hK⟩
  · have hab : a = b := bytes_eq ha.bs hb.bs (seq2_true.mp q)
    unfold sameO
    rw [lsub_whole hr.bl.len, lsub_whole hs.bl.len, decide_eq_true hab, Bool.true_and]
    cases hq : leq r s with
    | true => rw [leq_true] at hq; exact (decide_eq_true hq).symm
    | false => rw [leq_false] at hq; exact (decide_eq_false hq).symm
  · unfold sameO
    have hab : a ≠ b := by rintro rfl; rw [seq_self] at q; cases q
    rw [decide_eq_false hab]; rfl
theorem gamO5_good : GoodG Tryd.prog gamO5 := (gamO4_good.ext good_oalive ⟨_, Tryd.func10, by decide, by kernel_rfl⟩).ext good_osame ⟨_, Tryd.func19, by decide, by kernel_rfl⟩
end Go.Proofs.YtjahiggpglbgoaaDoor.G

/- What cells are: bytes. -/
namespace Go.Proofs.YtjahiggpglbgoaaDoor.G
open Go Go.Sx Go.Fld Go.Hsh Go.Mac Go.Blk Go.Cel Go.Oni
set_option maxRecDepth 20000
set_option linter.unusedVariables false
set_option linter.unusedSimpArgs false
theorem fillL_len {l : List Int} (h : l.length ≤ 320) : (fillL l).length = 320 := by unfold fillL; simp; omega
theorem fillL_bs {l : List Int} (h : Bs l) : Bs (fillL l) := ⟨fun x hx => by
  unfold fillL at hx
  rcases List.mem_append.mp hx with hx | hx
  · exact h.all x hx
  · rw [(List.mem_replicate.mp hx).2]; decide⟩
theorem padR_in {l : List Int} (h : Bs l) : In (padR l) := by
  unfold padR; split
  · exact ⟨by rw [fillL_len (by omega)]; decide, fillL_bs h⟩
  · exact ⟨by decide, ⟨by simp⟩⟩
theorem plainR_in {l : List Int} (h : Bs l) : In (plainR l) := by
  unfold plainR; split
  · exact ⟨by rw [fillL_len (by simp; omega)]; decide, fillL_bs ⟨fun x hx => by
      rcases List.mem_cons.mp hx with hx | hx
      · subst hx; decide
      · rcases List.mem_cons.mp hx with hx | hx
        · subst hx; omega
        · exact h.all x hx⟩⟩
  · exact ⟨by decide, ⟨by simp⟩⟩
theorem pC_in {key c : List Int} {left : Int} (hc : Bs c) : In (pC key left c) := by
  rw [pC_eq]
  unfold peC
  have hi : Bs (innO (opO key left c)) := by unfold innO; exact lsub_bs (opO_bs hc) _ _
  split
  · split
    · exact padR_in hi
    · exact plainR_in hi
  · exact ⟨by decide, ⟨by simp⟩⟩
theorem pR_bl (key c : List Int) (left : Int) : BL 16 (pR key left c) := by
  rw [pR_eq]
  unfold peR
  split
  · exact bl_of (lsub_length (by rw [hmac_len]; omega)) (lsub_bs (hmac_bytes _ _) _ _)
  · exact bl_of rfl (zeros_bs _)
end Go.Proofs.YtjahiggpglbgoaaDoor.G
