import Derived.Test.YtienfecnkglilaaDoorRouteWalksE
set_option linter.unusedSimpArgs false
set_option linter.unusedVariables false
namespace Go.Proofs.YtienfecnkglilaaDoor.G
open Go Go.Sx Go.Oni
set_option maxRecDepth 100000
theorem osize_vc (R : AV → Mem → Prop) (fuel : Nat) (left : Int) : callsx Tryd.prog gam0 [] Tryd.f27 (fuel + 1) [.one (.int .i64 left)] [] R = (((((ilt left 1) = false) → ((((igt left 8) = true) → (R (AV.one (AC.int IntKind.i64 0)) [])) ∧ (((igt left 8) = false) → (R (AV.one (AC.int IntKind.i64 (add IntKind.i64 48 (mul IntKind.i64 34 left)))) [])))) ∧ (((ilt left 1) = true) → (R (AV.one (AC.int IntKind.i64 0)) [])))) := by kernel_rfl
theorem orsize_vc (R : AV → Mem → Prop) (fuel : Nat) (left : Int) : callsx Tryd.prog gam0 [] Tryd.f42 (fuel + 1) [.one (.int .i64 left)] [] R = (((((ilt left 1) = false) → ((((igt left 8) = true) → (R (AV.one (AC.int IntKind.i64 0)) [])) ∧ (((igt left 8) = false) → (R (AV.one (AC.int IntKind.i64 (add IntKind.i64 82 (mul IntKind.i64 34 (sub IntKind.i64 left 1))))) [])))) ∧ (((ilt left 1) = true) → (R (AV.one (AC.int IntKind.i64 0)) [])))) := by kernel_rfl
theorem oroom_vc (R : AV → Mem → Prop) (fuel : Nat) (left : Int) : callsx Tryd.prog gamO1 [] Tryd.f45 (fuel + 1) [.one (.int .i64 left)] [] R = (((Go.Oni.Lf left) ∧ (R (AV.one (AC.int IntKind.i64 (sub IntKind.i64 (Go.Oni.sizeI left) 34))) []))) := by kernel_rfl
theorem oder_vc (R : AV → Mem → Prop) (fuel : Nat) (key : List Int) (nonce : List Int) : callsx Tryd.prog gamO0 [] Tryd.f29 (fuel + 1) [.one (.vec 200000), .agg [.ints .u8 16 nonce]] [(200000, .rview [.ints .u8 key]), (1000000 + 0, .view [.ints .u32 64 Go.Hsh.rootsL])] R = (((((ine (ofNat (llen key)) 32) = true) → (R (AV.tup [(TV.g [(Seg.ints IntKind.u8 16 (lzeros 16)), (Seg.ints IntKind.u8 32 (lzeros 32)), (Seg.ints IntKind.u8 32 (lzeros 32))]), (TV.c (AC.int IntKind.i64 2))]) [(3, Blk.own 37 [(Seg.ints IntKind.u8 16 nonce)]), (4, Blk.own 63 [(Seg.ints IntKind.u8 16 (lzeros 16)), (Seg.ints IntKind.u8 32 (lzeros 32)), (Seg.ints IntKind.u8 32 (lzeros 32))]), (200000, Blk.rview [(Col.ints IntKind.u8 key)]), (1000000, Blk.view [(Seg.ints IntKind.u32 64 Go.Hsh.rootsL)])])) ∧ (((ine (ofNat (llen key)) 32) = false) → ((InB 0 5) ∧ ((Fits 16 16) ∧ (((Go.Hsh.rootsL = Go.Hsh.rootsL) ∧ ((Go.Mac.Sg key) ∧ ((Go.Mac.Sg (lsub nonce 0 16)) ∧ (Go.Mac.Sm47 [99, 104, 117, 114, 110])))) ∧ ((((ine (Go.Mac.exE 80) 0) = true) → (R (AV.tup [(TV.g [(Seg.ints IntKind.u8 16 (lzeros 16)), (Seg.ints IntKind.u8 32 (lzeros 32)), (Seg.ints IntKind.u8 32 (lzeros 32))]), (TV.c (AC.int IntKind.i64 (Go.Mac.exE 80)))]) [(3, Blk.own 37 [(Seg.ints IntKind.u8 16 nonce)]), (4, Blk.own 63 [(Seg.ints IntKind.u8 16 (lzeros 16)), (Seg.ints IntKind.u8 32 (lzeros 32)), (Seg.ints IntKind.u8 32 (lzeros 32))]), (15, Blk.rview [(Col.ints IntKind.u8 [99, 104, 117, 114, 110])]), (17, Blk.vec [(Col.ints IntKind.u8 (Go.Mac.exL (Go.Mac.tagL (lsub nonce 0 16) key) [99, 104, 117, 114, 110] 80))]), (200000, Blk.rview [(Col.ints IntKind.u8 key)]), (1000000, Blk.view [(Seg.ints IntKind.u32 64 Go.Hsh.rootsL)])])) ∧ (((ine (Go.Mac.exE 80) 0) = false) → (((NonNeg 16) ∧ (Fits 16 (llen (Go.Mac.exL (Go.Mac.tagL (lsub nonce 0 16) key) [99, 104, 117, 114, 110] 80)))) ∧ ((Fits 16 16) ∧ ((Fits 16 (llen (Go.Mac.exL (Go.Mac.tagL (lsub nonce 0 16) key) [99, 104, 117, 114, 110] 80))) ∧ ((((NonNeg 48) ∧ (Fits 48 (llen (Go.Mac.exL (Go.Mac.tagL (lsub nonce 0 16) key) [99, 104, 117, 114, 110] 80)))) ∧ ((NonNeg 16) ∧ (Fits 16 48))) ∧ ((Fits 32 32) ∧ ((Fits 48 (llen (Go.Mac.exL (Go.Mac.tagL (lsub nonce 0 16) key) [99, 104, 117, 114, 110] 80))) ∧ (((NonNeg 48) ∧ (Fits 48 (llen (Go.Mac.exL (Go.Mac.tagL (lsub nonce 0 16) key) [99, 104, 117, 114, 110] 80)))) ∧ ((Fits 32 (nsub (llen (Go.Mac.exL (Go.Mac.tagL (lsub nonce 0 16) key) [99, 104, 117, 114, 110] 80)) 48)) ∧ ((Fits 80 (llen (Go.Mac.exL (Go.Mac.tagL (lsub nonce 0 16) key) [99, 104, 117, 114, 110] 80))) ∧ ((Fits 16 16) ∧ ((Fits (nadd 0 32) 32) ∧ ((Fits (nadd 0 32) 32) ∧ (R (AV.tup [(TV.g [(Seg.ints IntKind.u8 16 (lput (lzeros 16) 0 (lsub (Go.Mac.exL (Go.Mac.tagL (lsub nonce 0 16) key) [99, 104, 117, 114, 110] 80) 0 16))), (Seg.ints IntKind.u8 32 (lput (lzeros 32) 0 (lsub (Go.Mac.exL (Go.Mac.tagL (lsub nonce 0 16) key) [99, 104, 117, 114, 110] 80) 16 32))), (Seg.ints IntKind.u8 32 (lput (lzeros 32) 0 (lsub (Go.Mac.exL (Go.Mac.tagL (lsub nonce 0 16) key) [99, 104, 117, 114, 110] 80) 48 32)))]), (TV.c (AC.int IntKind.i64 0))]) [(3, Blk.own 37 [(Seg.ints IntKind.u8 16 nonce)]), (4, Blk.own 63 [(Seg.ints IntKind.u8 16 (lput (lzeros 16) 0 (lsub (Go.Mac.exL (Go.Mac.tagL (lsub nonce 0 16) key) [99, 104, 117, 114, 110] 80) 0 16))), (Seg.ints IntKind.u8 32 (lput (lzeros 32) 0 (lsub (Go.Mac.exL (Go.Mac.tagL (lsub nonce 0 16) key) [99, 104, 117, 114, 110] 80) 16 32))), (Seg.ints IntKind.u8 32 (lput (lzeros 32) 0 (lsub (Go.Mac.exL (Go.Mac.tagL (lsub nonce 0 16) key) [99, 104, 117, 114, 110] 80) 48 32)))]), (15, Blk.rview [(Col.ints IntKind.u8 [99, 104, 117, 114, 110])]), (17, Blk.vec [(Col.ints IntKind.u8 (Go.Mac.exL (Go.Mac.tagL (lsub nonce 0 16) key) [99, 104, 117, 114, 110] 80))]), (200000, Blk.rview [(Col.ints IntKind.u8 key)]), (1000000, Blk.view [(Seg.ints IntKind.u32 64 Go.Hsh.rootsL)])]))))))))))))))))))))) := by kernel_rfl
def order_.l0 (R : AV → Mem → Prop) (nonce key : List Int) (fuel : Nat) (x0 : Int) (x1 x2 x3 : List Int) : Prop := rN Tryd.prog gamO0 [] Tryd.f55 R fuel [kc Tryd.f55 [1,1,1,1,0,1,0,0],ki Tryd.f55 [1,1,1,1,0,1,0,0],.inBlock 0,kc Tryd.f55 [1,1,1,1,1]] (us 4 (AV.one (AC.ptr 4 0 0)::Uu::AV.one (AC.ptr 6 0 0)::Vv 19::Uu::Ii x0::(us 45 [Zz]))) [(4,Blk.own 63 [Seg.ints IntKind.u8 16 (lzeros 16),Seg.ints IntKind.u8 32 (lzeros 32),Seg.ints IntKind.u8 32 (lzeros 32)]),(6,Blk.own 63 [Seg.ints IntKind.u8 16 x1,Seg.ints IntKind.u8 32 x2,Seg.ints IntKind.u8 32 x3]),(19,Blk.vec [Col.ints IntKind.u8 (Go.Mac.exL (Go.Mac.tagL (lsub nonce 0 16) key) [99,104,117,114,110] 80)]),(200000,Blk.rview [Col.ints IntKind.u8 key])]
theorem order_.l0_succ (R : AV → Mem → Prop) (nonce key : List Int) (fuel : Nat) (x0 : Int) (x1 x2 x3 : List Int) : order_.l0 R nonce key (fuel + 1) x0 x1 x2 x3 = (((((ilt x0 80) = true) → ((((ilt x0 16) = true) → ((InB x0 (llen (Go.Mac.exL (Go.Mac.tagL (lsub nonce 0 16) key) [99,104,117,114,110] 80))) ∧ ((InB x0 16) ∧ ((Low (nadd 0 (nat x0)) 16) ∧ (let y4 : List Int := (lset x1 (nadd 0 (nat x0)) (lget (Go.Mac.exL (Go.Mac.tagL (lsub nonce 0 16) key) [99,104,117,114,110] 80) (nat x0))); (order_.l0 R nonce key fuel (add IntKind.i64 x0 1) y4 x2 x3)))))) ∧ (((ilt x0 16) = false) → ((((ilt x0 48) = true) → ((InB x0 (llen (Go.Mac.exL (Go.Mac.tagL (lsub nonce 0 16) key) [99,104,117,114,110] 80))) ∧ ((InB (sub IntKind.i64 x0 16) 32) ∧ ((Low (nadd 0 (nat (sub IntKind.i64 x0 16))) 32) ∧ (let y5 : List Int := (lset x2 (nadd 0 (nat (sub IntKind.i64 x0 16))) (lget (Go.Mac.exL (Go.Mac.tagL (lsub nonce 0 16) key) [99,104,117,114,110] 80) (nat x0))); (order_.l0 R nonce key fuel (add IntKind.i64 x0 1) x1 y5 x3)))))) ∧ (((ilt x0 48) = false) → ((InB x0 (llen (Go.Mac.exL (Go.Mac.tagL (lsub nonce 0 16) key) [99,104,117,114,110] 80))) ∧ ((InB (sub IntKind.i64 x0 48) 32) ∧ ((Low (nadd 0 (nat (sub IntKind.i64 x0 48))) 32) ∧ (let y6 : List Int := (lset x3 (nadd 0 (nat (sub IntKind.i64 x0 48))) (lget (Go.Mac.exL (Go.Mac.tagL (lsub nonce 0 16) key) [99,104,117,114,110] 80) (nat x0))); (order_.l0 R nonce key fuel (add IntKind.i64 x0 1) x1 x2 y6)))))))))) ∧ (((ilt x0 80) = false) → (R (AV.tup [(TV.g [Seg.ints IntKind.u8 16 x1,Seg.ints IntKind.u8 32 x2,Seg.ints IntKind.u8 32 x3]),TV.c (AC.int IntKind.i64 0)]) [(4,Blk.own 63 [Seg.ints IntKind.u8 16 x1,Seg.ints IntKind.u8 32 x2,Seg.ints IntKind.u8 32 x3]),(6,Blk.own 63 [Seg.ints IntKind.u8 16 x1,Seg.ints IntKind.u8 32 x2,Seg.ints IntKind.u8 32 x3]),(19,Blk.vec [Col.ints IntKind.u8 (Go.Mac.exL (Go.Mac.tagL (lsub nonce 0 16) key) [99,104,117,114,110] 80)]),(200000,Blk.rview [Col.ints IntKind.u8 key])])))) := by kernel_rfl
theorem order__vc (R : AV → Mem → Prop) (fuel : Nat) (key : List Int) (nonce : List Int) : callsx Tryd.prog gamO0 [] Tryd.f55 (fuel + 1) [.one (.vec 200000), .agg [.ints .u8 16 nonce]] [(200000, .rview [.ints .u8 key])] R = (((((ine (ofNat (llen key)) 32) = true) → (R (AV.tup [(TV.g [(Seg.ints IntKind.u8 16 (lzeros 16)), (Seg.ints IntKind.u8 32 (lzeros 32)), (Seg.ints IntKind.u8 32 (lzeros 32))]), (TV.c (AC.int IntKind.i64 2))]) [(3, Blk.own 37 [(Seg.ints IntKind.u8 16 nonce)]), (4, Blk.own 63 [(Seg.ints IntKind.u8 16 (lzeros 16)), (Seg.ints IntKind.u8 32 (lzeros 32)), (Seg.ints IntKind.u8 32 (lzeros 32))]), (6, Blk.own 63 [(Seg.ints IntKind.u8 16 (lzeros 16)), (Seg.ints IntKind.u8 32 (lzeros 32)), (Seg.ints IntKind.u8 32 (lzeros 32))]), (200000, Blk.rview [(Col.ints IntKind.u8 key)])])) ∧ (((ine (ofNat (llen key)) 32) = false) → ((InB 0 5) ∧ ((Fits 16 16) ∧ ((((Go.Mac.Sg key) ∧ (Bs key)) ∧ (((Go.Mac.Sg (lsub nonce 0 16)) ∧ (Bs (lsub nonce 0 16))) ∧ ((Go.Mac.Sm47 [99, 104, 117, 114, 110]) ∧ (Bs [99, 104, 117, 114, 110])))) ∧ (order_.l0 R nonce key fuel 0 (lzeros 16) (lzeros 32) (lzeros 32)))))))) := by kernel_rfl
def ohalf.l0 (R : AV → Mem → Prop) (m msg : List Int) (fuel : Nat) (x0 : Int) (x1 : List Int) : Prop := rN Tryd.prog gamO0 [] Tryd.f58 R fuel [kc Tryd.f58 [1,1,1,0,1,0,0],ki Tryd.f58 [1,1,1,0,1,0,0],.inBlock 0,kc Tryd.f58 [1,1,1,1]] (us 4 (AV.one (AC.ptr 4 0 0)::AV.one (AC.ptr 5 0 0)::AV.one (AC.ptr 6 0 0)::Ii x0::(us 12 [Zz]))) [(4,Blk.own 37 [Seg.ints IntKind.u8 16 (lzeros 16)]),(5,Blk.own 61 [Seg.ints IntKind.u8 32 (Go.Mac.tagL (lsub m 0 32) msg)]),(6,Blk.own 37 [Seg.ints IntKind.u8 16 x1]),(200001,Blk.rview [Col.ints IntKind.u8 msg])]
theorem ohalf.l0_succ (R : AV → Mem → Prop) (m msg : List Int) (fuel : Nat) (x0 : Int) (x1 : List Int) : ohalf.l0 R m msg (fuel + 1) x0 x1 = (((((ilt x0 16) = true) → ((InB x0 32) ∧ ((Low (nadd 0 (nat x0)) 32) ∧ ((InB x0 16) ∧ ((Low (nadd 0 (nat x0)) 16) ∧ (ohalf.l0 R m msg fuel (add IntKind.i64 x0 1) (lset x1 (nadd 0 (nat x0)) (lget (Go.Mac.tagL (lsub m 0 32) msg) (nadd 0 (nat x0)))))))))) ∧ (((ilt x0 16) = false) → (R (AV.agg [Seg.ints IntKind.u8 16 x1]) [(4,Blk.own 37 [Seg.ints IntKind.u8 16 x1]),(5,Blk.own 61 [Seg.ints IntKind.u8 32 (Go.Mac.tagL (lsub m 0 32) msg)]),(6,Blk.own 37 [Seg.ints IntKind.u8 16 x1]),(200001,Blk.rview [Col.ints IntKind.u8 msg])])))) := by kernel_rfl
theorem ohalf_vc (R : AV → Mem → Prop) (fuel : Nat) (m : List Int) (msg : List Int) : callsx Tryd.prog gamO0 [] Tryd.f58 (fuel + 1) [.agg [.ints .u8 32 m], .one (.vec 200001)] [(200001, .rview [.ints .u8 msg])] R = (((Fits 32 32) ∧ ((((Go.Mac.Sg (lsub m 0 32)) ∧ (Bs (lsub m 0 32))) ∧ ((Go.Mac.Sg msg) ∧ (Bs msg))) ∧ (ohalf.l0 R m msg fuel 0 (lzeros 16))))) := by kernel_rfl
def otagged.k0 (R : AV → Mem → Prop) (kb km kr : List Int) (left : Int) (nonce box : List Int) (fuel : Nat) : Prop := runM Tryd.prog gamO0 [⟨8,[.ints .u8],true,true⟩] (resh Tryd.prog [⟨8,[.ints .u8],true,true⟩] Tryd.f31.results.toList R) (rN Tryd.prog gamO0 [⟨8,[.ints .u8],true,true⟩] Tryd.f31 R fuel) 3994 [kc Tryd.f31 [1,1,1]] [(AV.agg [Seg.ints IntKind.u8 16 kb,Seg.ints IntKind.u8 32 km,Seg.ints IntKind.u8 32 kr]),Ii left,(AV.agg [Seg.ints IntKind.u8 16 nonce]),Vv 200003,AV.one (AC.ptr 4 0 0),Zz,AV.one (AC.ptr 6 0 0),Zz,AV.one (AC.con (Value.slice (Option.none) 0 0)),Vv 15,AV.one (AC.ptr 10 0 0),Ii left,AV.one (AC.int IntKind.u8 (conv IntKind.u8 left)),Vv 13,AV.one (AC.sl 6 0 0 16 16),Vv 15,AV.one (AC.ptr 4 16 0),AV.one (AC.sl 4 16 0 32 32),Vv 15,Vv 200003,Vv 20,(AV.agg [Seg.ints IntKind.u8 32 (Go.Mac.tagL (lsub km 0 32) (lcat (lcat [(conv IntKind.u8 left)] (lsub nonce 0 16)) box))]),Zz] [(4,Blk.own 63 [Seg.ints IntKind.u8 16 kb,Seg.ints IntKind.u8 32 km,Seg.ints IntKind.u8 32 kr]),(6,Blk.own 37 [Seg.ints IntKind.u8 16 nonce]),(10,Blk.own 61 [Seg.ints IntKind.u8 32 (Go.Mac.tagL (lsub km 0 32) (lcat (lcat [(conv IntKind.u8 left)] (lsub nonce 0 16)) box))]),(20,Blk.vec [Col.ints IntKind.u8 (lcat (lcat [(conv IntKind.u8 left)] (lsub nonce 0 16)) box)]),(200003,Blk.rview [Col.ints IntKind.u8 box]),(1000000,Blk.view [Seg.ints IntKind.u32 64 Go.Hsh.rootsL])]
theorem otagged.k0_eq (R : AV → Mem → Prop) (kb km kr : List Int) (left : Int) (nonce box : List Int) (fuel : Nat) : otagged.k0 R kb km kr left nonce box fuel = ((((NonNeg 16) ∧ (Fits 16 32)) ∧ (R (Vv 100008) [(4,Blk.own 63 [Seg.ints IntKind.u8 16 kb,Seg.ints IntKind.u8 32 km,Seg.ints IntKind.u8 32 kr]),(6,Blk.own 37 [Seg.ints IntKind.u8 16 nonce]),(20,Blk.vec [Col.ints IntKind.u8 (lcat (lcat [(conv IntKind.u8 left)] (lsub nonce 0 16)) box)]),(100008,Blk.vec [Col.ints IntKind.u8 (lsub (Go.Mac.tagL (lsub km 0 32) (lcat (lcat [(conv IntKind.u8 left)] (lsub nonce 0 16)) box)) 0 16)]),(200003,Blk.rview [Col.ints IntKind.u8 box]),(1000000,Blk.view [Seg.ints IntKind.u32 64 Go.Hsh.rootsL])]))) := by kernel_rfl
theorem otagged_vc (R : AV → Mem → Prop) (fuel : Nat) (kb : List Int) (km : List Int) (kr : List Int) (nonce : List Int) (box : List Int) (left : Int) : callsx Tryd.prog gamO0 [⟨8, [.ints .u8], true, true⟩] Tryd.f31 (fuel + 1) [.agg [.ints .u8 16 kb, .ints .u8 32 km, .ints .u8 32 kr], .one (.int .i64 left), .agg [.ints .u8 16 nonce], .one (.vec 200003)] [(200003, .rview [.ints .u8 box]), (1000000 + 0, .view [.ints .u32 64 Go.Hsh.rootsL])] R = (((Fits 16 16) ∧ ((Room (nadd (llen [(conv IntKind.u8 left)]) (llen (lsub nonce 0 16))) 1) ∧ (((Room (nadd (llen (lcat [(conv IntKind.u8 left)] (lsub nonce 0 16))) (llen box)) 1) ∧ (((Fits (nadd 0 32) 32) ∧ (((Go.Hsh.rootsL = Go.Hsh.rootsL) ∧ ((Go.Mac.Sg (lsub km 0 32)) ∧ (Go.Mac.Sg (lcat (lcat [(conv IntKind.u8 left)] (lsub nonce 0 16)) box)))) ∧ (otagged.k0 R kb km kr left nonce box fuel))) ∧ ((Fits (nadd 0 32) 32) ∧ (((Go.Hsh.rootsL = Go.Hsh.rootsL) ∧ ((Go.Mac.Sg (lsub km 0 32)) ∧ (Go.Mac.Sg (lcat (lcat [(conv IntKind.u8 left)] (lsub nonce 0 16)) box)))) ∧ (otagged.k0 R kb km kr left nonce box fuel))))) ∧ ((Room (nadd (llen (lcat [(conv IntKind.u8 left)] (lsub nonce 0 16))) (llen box)) 1) ∧ ((Fits (nadd 0 32) 32) ∧ (((Go.Hsh.rootsL = Go.Hsh.rootsL) ∧ ((Go.Mac.Sg (lsub km 0 32)) ∧ (Go.Mac.Sg (lcat (lcat [(conv IntKind.u8 left)] (lsub nonce 0 16)) box)))) ∧ (otagged.k0 R kb km kr left nonce box fuel)))))))) := by kernel_rfl
theorem ortag_vc (R : AV → Mem → Prop) (fuel : Nat) (kb : List Int) (km : List Int) (kr : List Int) (nonce : List Int) (box : List Int) (left : Int) : callsx Tryd.prog gamO1 [] Tryd.f56 (fuel + 1) [.agg [.ints .u8 16 kb, .ints .u8 32 km, .ints .u8 32 kr], .one (.int .i64 left), .agg [.ints .u8 16 nonce], .one (.vec 200003)] [(200003, .rview [.ints .u8 box])] R = (((Fits 16 16) ∧ ((Room (nadd (llen [(conv IntKind.u8 left)]) (llen (lsub nonce 0 16))) 1) ∧ ((Room (nadd (llen (lcat [(conv IntKind.u8 left)] (lsub nonce 0 16))) (llen box)) 1) ∧ ((Fits (nadd 0 32) 32) ∧ (((Go.Oni.K32 (lsub km 0 32)) ∧ (Go.Oni.Ky (lcat (lcat [(conv IntKind.u8 left)] (lsub nonce 0 16)) box))) ∧ (R (AV.agg [(Seg.ints IntKind.u8 16 (lsub (Go.Mac.tagL (lsub km 0 32) (lcat (lcat [(conv IntKind.u8 left)] (lsub nonce 0 16)) box)) 0 16))]) [(4, Blk.own 63 [(Seg.ints IntKind.u8 16 kb), (Seg.ints IntKind.u8 32 km), (Seg.ints IntKind.u8 32 kr)]), (6, Blk.own 37 [(Seg.ints IntKind.u8 16 nonce)]), (8, Blk.own 37 [(Seg.ints IntKind.u8 16 (lsub (Go.Mac.tagL (lsub km 0 32) (lcat (lcat [(conv IntKind.u8 left)] (lsub nonce 0 16)) box)) 0 16))]), (18, Blk.vec [(Col.ints IntKind.u8 (lcat (lcat [(conv IntKind.u8 left)] (lsub nonce 0 16)) box))]), (200003, Blk.rview [(Col.ints IntKind.u8 box)])]))))))) := by kernel_rfl
def oinside.l0 (R : AV → Mem → Prop) (pl : List Int) (y2 y3 : Nat) (y4 : Int) (fuel : Nat) (x5 : Int) : Prop := rN Tryd.prog gamO1x [] Tryd.f32 R fuel [kc Tryd.f32 [1,1,1,0,1,0,0],ki Tryd.f32 [1,1,1,0,1,0,0],.inBlock 0,kc Tryd.f32 [1,1,1,1]] (Vv 200000::(us 5 (Ii (bor IntKind.i64 (shl IntKind.i64 (conv IntKind.i64 (lget pl 0)) 8) (conv IntKind.i64 (lget pl 1)))::(us 19 (AV.one (AC.vsl 200000 1 y2 y3)::Ii y4::Ii x5::(us 6 (zs 4 []))))))) [(200000,Blk.rview [Col.ints IntKind.u8 pl])]
theorem oinside.l0_succ (R : AV → Mem → Prop) (pl : List Int) (y2 y3 : Nat) (y4 : Int) (fuel : Nat) (x5 : Int) : oinside.l0 R pl y2 y3 y4 (fuel + 1) x5 = (((((ilt x5 y4) = true) → ((InB x5 y3) ∧ ((((ine (lget pl (nadd y2 (nat x5))) 0) = true) → (R (AV.tup [TV.c (AC.con (Value.slice (Option.none) 0 0)),TV.c (AC.lit false)]) [(200000,Blk.rview [Col.ints IntKind.u8 pl])])) ∧ (((ine (lget pl (nadd y2 (nat x5))) 0) = false) → (oinside.l0 R pl y2 y3 y4 fuel (add IntKind.i64 x5 1)))))) ∧ (((ilt x5 y4) = false) → ((((NonNeg (add IntKind.i64 2 (bor IntKind.i64 (shl IntKind.i64 (conv IntKind.i64 (lget pl 0)) 8) (conv IntKind.i64 (lget pl 1))))) ∧ (Fits (nat (add IntKind.i64 2 (bor IntKind.i64 (shl IntKind.i64 (conv IntKind.i64 (lget pl 0)) 8) (conv IntKind.i64 (lget pl 1))))) (llen pl))) ∧ ((NonNeg 2) ∧ (Fits 2 (nat (add IntKind.i64 2 (bor IntKind.i64 (shl IntKind.i64 (conv IntKind.i64 (lget pl 0)) 8) (conv IntKind.i64 (lget pl 1)))))))) ∧ (let y6 : Nat := (nsub (nat (add IntKind.i64 2 (bor IntKind.i64 (shl IntKind.i64 (conv IntKind.i64 (lget pl 0)) 8) (conv IntKind.i64 (lget pl 1))))) 2); (let y7 : Int := (add IntKind.i64 2 (bor IntKind.i64 (shl IntKind.i64 (conv IntKind.i64 (lget pl 0)) 8) (conv IntKind.i64 (lget pl 1)))); (R (AV.tup [TV.c (AC.vsl 200000 1 2 y6),TV.c (AC.lit true)]) [(200000,Blk.rview [Col.ints IntKind.u8 pl])]))))))) := by kernel_rfl
theorem oinside_vc (R : AV → Mem → Prop) (fuel : Nat) (pl : List Int) (left : Int) : callsx Tryd.prog gamO1x [] Tryd.f32 (fuel + 1) [.one (.vec 200000), .one (.int .i64 left)] [(200000, .rview [.ints .u8 pl])] R = (((InB 0 (llen pl)) ∧ ((NonNeg 8) ∧ ((InB 1 (llen pl)) ∧ ((Go.Oni.Lf left) ∧ (let y0 : Bool := (igt (bor IntKind.i64 (shl IntKind.i64 (conv IntKind.i64 (lget pl 0)) 8) (conv IntKind.i64 (lget pl 1))) (Go.Oni.roomI left)); (((y0 = true) → (R (AV.tup [(TV.c (AC.con (Value.slice (Option.none) 0 0))), (TV.c (AC.lit false))]) [(200000, Blk.rview [(Col.ints IntKind.u8 pl)])])) ∧ ((y0 = false) → (((NonNeg (add IntKind.i64 2 (bor IntKind.i64 (shl IntKind.i64 (conv IntKind.i64 (lget pl 0)) 8) (conv IntKind.i64 (lget pl 1))))) ∧ (Fits (nat (add IntKind.i64 2 (bor IntKind.i64 (shl IntKind.i64 (conv IntKind.i64 (lget pl 0)) 8) (conv IntKind.i64 (lget pl 1))))) (llen pl))) ∧ (let y1 : Int := (add IntKind.i64 2 (bor IntKind.i64 (shl IntKind.i64 (conv IntKind.i64 (lget pl 0)) 8) (conv IntKind.i64 (lget pl 1)))); (let y2 : Nat := (nat (add IntKind.i64 2 (bor IntKind.i64 (shl IntKind.i64 (conv IntKind.i64 (lget pl 0)) 8) (conv IntKind.i64 (lget pl 1))))); (let y3 : Nat := (nsub (llen pl) (nat (add IntKind.i64 2 (bor IntKind.i64 (shl IntKind.i64 (conv IntKind.i64 (lget pl 0)) 8) (conv IntKind.i64 (lget pl 1)))))); (let y4 : Int := (ofNat (nsub (llen pl) (nat (add IntKind.i64 2 (bor IntKind.i64 (shl IntKind.i64 (conv IntKind.i64 (lget pl 0)) 8) (conv IntKind.i64 (lget pl 1))))))); (oinside.l0 R pl y2 y3 y4 fuel 0)))))))))))))) := by kernel_rfl
theorem oforge_vc (R : AV → Mem → Prop) (fuel : Nat) (key : List Int) (nonce : List Int) (pl : List Int) (left : Int) : callsx Tryd.prog gamO2 [] Tryd.f43 (fuel + 1) [.one (.vec 200000), .agg [.ints .u8 16 nonce], .one (.int .i64 left), .one (.vec 200003)] [(200000, .rview [.ints .u8 key]), (200003, .rview [.ints .u8 pl])] R = ((((Go.Oni.Ky key) ∧ (Go.Oni.Nn nonce)) ∧ ((Fits 16 16) ∧ ((((Go.Blk.BL 16 (lsub (Go.Oni.dvB key nonce) 0 16)) ∧ (Go.Blk.BL 16 (lzeros 16))) ∧ ((Short pl) ∧ (Bs pl))) ∧ (((Go.Oni.K32 (Go.Oni.dvM key nonce)) ∧ ((Go.Oni.Nn nonce) ∧ (Go.Oni.In (Go.Blk.mask (Go.Blk.ks (lsub (Go.Oni.dvB key nonce) 0 16)) (lzeros 16) pl)))) ∧ ((Mk 0 (add IntKind.i64 32 (ofNat (llen (Go.Blk.mask (Go.Blk.ks (lsub (Go.Oni.dvB key nonce) 0 16)) (lzeros 16) pl)))) 1) ∧ ((Fits 16 16) ∧ ((Room (nadd 0 (llen (lsub nonce 0 16))) 1) ∧ ((Fits 16 16) ∧ ((Room (nadd (llen (lcat (lzeros 0) (lsub nonce 0 16))) (llen (lsub (Go.Oni.tagO (Go.Oni.dvM key nonce) left nonce (Go.Blk.mask (Go.Blk.ks (lsub (Go.Oni.dvB key nonce) 0 16)) (lzeros 16) pl)) 0 16))) 1) ∧ (let y0 : List Int := (lcat (lcat (lzeros 0) (lsub nonce 0 16)) (lsub (Go.Oni.tagO (Go.Oni.dvM key nonce) left nonce (Go.Blk.mask (Go.Blk.ks (lsub (Go.Oni.dvB key nonce) 0 16)) (lzeros 16) pl)) 0 16)); ((Room (nadd (llen y0) (llen (Go.Blk.mask (Go.Blk.ks (lsub (Go.Oni.dvB key nonce) 0 16)) (lzeros 16) pl))) 1) ∧ (R (AV.one (AC.vec 42)) [(5, Blk.own 37 [(Seg.ints IntKind.u8 16 nonce)]), (9, Blk.own 63 [(Seg.ints IntKind.u8 16 (Go.Oni.dvB key nonce)), (Seg.ints IntKind.u8 32 (Go.Oni.dvM key nonce)), (Seg.ints IntKind.u8 32 (Go.Oni.dvR key nonce))]), (12, Blk.own 37 [(Seg.ints IntKind.u8 16 (Go.Oni.tagO (Go.Oni.dvM key nonce) left nonce (Go.Blk.mask (Go.Blk.ks (lsub (Go.Oni.dvB key nonce) 0 16)) (lzeros 16) pl)))]), (24, Blk.vec [(Col.ints IntKind.u8 (Go.Blk.mask (Go.Blk.ks (lsub (Go.Oni.dvB key nonce) 0 16)) (lzeros 16) pl))]), (42, Blk.vec [(Col.ints IntKind.u8 (lcat y0 (Go.Blk.mask (Go.Blk.ks (lsub (Go.Oni.dvB key nonce) 0 16)) (lzeros 16) pl)))]), (200000, Blk.rview [(Col.ints IntKind.u8 key)]), (200003, Blk.rview [(Col.ints IntKind.u8 pl)])]))))))))))))) := by kernel_rfl
theorem owrap_vc (R : AV → Mem → Prop) (fuel : Nat) (key : List Int) (nonce : List Int) (inner : List Int) (left : Int) : callsx Tryd.prog gamO3 [] Tryd.f25 (fuel + 1) [.one (.vec 200000), .agg [.ints .u8 16 nonce], .one (.int .i64 left), .one (.vec 200003)] [(200000, .rview [.ints .u8 key]), (200003, .rview [.ints .u8 inner]), (1000000 + 0, .view [.ints .u32 64 Go.Hsh.rootsL])] R = ((((Go.Hsh.rootsL = Go.Hsh.rootsL) ∧ ((Go.Oni.Ky key) ∧ (Go.Oni.Nn nonce))) ∧ ((((ine (Go.Oni.dvE key) 0) = false) → ((Go.Oni.Lf left) ∧ ((((ieq (Go.Oni.sizeI left) 0) = true) → (R (AV.tup [(TV.c (AC.con (Value.slice (Option.none) 0 0))), (TV.c (AC.int IntKind.i64 2))]) [(5, Blk.own 37 [(Seg.ints IntKind.u8 16 nonce)]), (10, Blk.own 63 [(Seg.ints IntKind.u8 16 (Go.Oni.dvB key nonce)), (Seg.ints IntKind.u8 32 (Go.Oni.dvM key nonce)), (Seg.ints IntKind.u8 32 (Go.Oni.dvR key nonce))]), (200000, Blk.rview [(Col.ints IntKind.u8 key)]), (200003, Blk.rview [(Col.ints IntKind.u8 inner)]), (1000000, Blk.view [(Seg.ints IntKind.u32 64 Go.Hsh.rootsL)])])) ∧ (((ieq (Go.Oni.sizeI left) 0) = false) → ((Go.Oni.Lf left) ∧ ((((igt (ofNat (llen inner)) (Go.Oni.roomI left)) = true) → (R (AV.tup [(TV.c (AC.con (Value.slice (Option.none) 0 0))), (TV.c (AC.int IntKind.i64 1))]) [(5, Blk.own 37 [(Seg.ints IntKind.u8 16 nonce)]), (10, Blk.own 63 [(Seg.ints IntKind.u8 16 (Go.Oni.dvB key nonce)), (Seg.ints IntKind.u8 32 (Go.Oni.dvM key nonce)), (Seg.ints IntKind.u8 32 (Go.Oni.dvR key nonce))]), (200000, Blk.rview [(Col.ints IntKind.u8 key)]), (200003, Blk.rview [(Col.ints IntKind.u8 inner)]), (1000000, Blk.view [(Seg.ints IntKind.u32 64 Go.Hsh.rootsL)])])) ∧ (((igt (ofNat (llen inner)) (Go.Oni.roomI left)) = false) → ((Go.Oni.Lf left) ∧ ((Mk (sub IntKind.i64 (Go.Oni.sizeI left) 32) (sub IntKind.i64 (Go.Oni.sizeI left) 32) 1) ∧ ((NonNeg 8) ∧ ((InB 0 (llen (lzeros (nat (sub IntKind.i64 (Go.Oni.sizeI left) 32))))) ∧ ((InB 1 (llen (lset (lzeros (nat (sub IntKind.i64 (Go.Oni.sizeI left) 32))) 0 (conv IntKind.u8 (shr IntKind.i64 (ofNat (llen inner)) 8))))) ∧ (let y0 : List Int := (lset (lset (lzeros (nat (sub IntKind.i64 (Go.Oni.sizeI left) 32))) 0 (conv IntKind.u8 (shr IntKind.i64 (ofNat (llen inner)) 8))) 1 (conv IntKind.u8 (ofNat (llen inner)))); (((NonNeg 2) ∧ (Fits 2 (llen y0))) ∧ ((Fits 16 16) ∧ ((((Go.Blk.BL 16 (lsub (Go.Oni.dvB key nonce) 0 16)) ∧ (Go.Blk.BL 16 (lzeros 16))) ∧ ((Short (lput y0 2 (lsub inner 0 (nmin (llen inner) (nsub (llen y0) 2))))) ∧ (Bs (lput y0 2 (lsub inner 0 (nmin (llen inner) (nsub (llen y0) 2))))))) ∧ (let y1 : List Int := (Go.Blk.mask (Go.Blk.ks (lsub (Go.Oni.dvB key nonce) 0 16)) (lzeros 16) (lput y0 2 (lsub inner 0 (nmin (llen inner) (nsub (llen y0) 2))))); ((Fits 16 16) ∧ ((Room (nadd 0 (llen (lsub nonce 0 16))) 1) ∧ (((Go.Hsh.rootsL = Go.Hsh.rootsL) ∧ ((Go.Oni.K32 (Go.Oni.dvM key nonce)) ∧ ((Go.Oni.Nn nonce) ∧ (Go.Oni.In y1)))) ∧ ((Room (nadd (llen (lcat [] (lsub nonce 0 16))) (llen (Go.Oni.tagO (Go.Oni.dvM key nonce) left nonce y1))) 1) ∧ ((Room (nadd (llen (lcat (lcat [] (lsub nonce 0 16)) (Go.Oni.tagO (Go.Oni.dvM key nonce) left nonce y1))) (llen y1)) 1) ∧ (R (AV.tup [(TV.c (AC.vec 69)), (TV.c (AC.int IntKind.i64 0))]) [(5, Blk.own 37 [(Seg.ints IntKind.u8 16 nonce)]), (10, Blk.own 63 [(Seg.ints IntKind.u8 16 (Go.Oni.dvB key nonce)), (Seg.ints IntKind.u8 32 (Go.Oni.dvM key nonce)), (Seg.ints IntKind.u8 32 (Go.Oni.dvR key nonce))]), (36, Blk.vec [(Col.ints IntKind.u8 (lput y0 2 (lsub inner 0 (nmin (llen inner) (nsub (llen y0) 2)))))]), (56, Blk.vec [(Col.ints IntKind.u8 y1)]), (65, Blk.vec [(Col.ints IntKind.u8 (Go.Oni.tagO (Go.Oni.dvM key nonce) left nonce y1))]), (69, Blk.vec [(Col.ints IntKind.u8 (lcat (lcat (lcat [] (lsub nonce 0 16)) (Go.Oni.tagO (Go.Oni.dvM key nonce) left nonce y1)) y1))]), (200000, Blk.rview [(Col.ints IntKind.u8 key)]), (200003, Blk.rview [(Col.ints IntKind.u8 inner)]), (1000000, Blk.view [(Seg.ints IntKind.u32 64 Go.Hsh.rootsL)])]))))))))))))))))))))))) ∧ (((ine (Go.Oni.dvE key) 0) = true) → (R (AV.tup [(TV.c (AC.con (Value.slice (Option.none) 0 0))), (TV.c (AC.int IntKind.i64 2))]) [(5, Blk.own 37 [(Seg.ints IntKind.u8 16 nonce)]), (10, Blk.own 63 [(Seg.ints IntKind.u8 16 (Go.Oni.dvB key nonce)), (Seg.ints IntKind.u8 32 (Go.Oni.dvM key nonce)), (Seg.ints IntKind.u8 32 (Go.Oni.dvR key nonce))]), (200000, Blk.rview [(Col.ints IntKind.u8 key)]), (200003, Blk.rview [(Col.ints IntKind.u8 inner)]), (1000000, Blk.view [(Seg.ints IntKind.u32 64 Go.Hsh.rootsL)])]))))) := by kernel_rfl
def orwrap.l0 (R : AV → Mem → Prop) (left : Int) (nonce key inner : List Int) (fuel : Nat) (x1 : Int) (x2 : List Int) : Prop := rN Tryd.prog gamO3 [] Tryd.f23 R fuel [kc Tryd.f23 [1,1,1,1,1,1,0,1,0,0],ki Tryd.f23 [1,1,1,1,1,1,0,1,0,0],.inBlock 0,kc Tryd.f23 [1,1,1,1,1,1,1]] (Vv 200000::Uu::Ii left::Vv 200003::Uu::AV.one (AC.ptr 5 0 0)::(us 4 (Vv 29::Ii x1::(us 44 (zs 5 []))))) [(5,Blk.own 37 [Seg.ints IntKind.u8 16 nonce]),(29,Blk.vec [Col.ints IntKind.u8 x2]),(200000,Blk.rview [Col.ints IntKind.u8 key]),(200003,Blk.rview [Col.ints IntKind.u8 inner])]
theorem orwrap.l0_succ (R : AV → Mem → Prop) (left : Int) (nonce key inner : List Int) (fuel : Nat) (x1 : Int) (x2 : List Int) : orwrap.l0 R left nonce key inner (fuel + 1) x1 x2 = (((((ilt x1 (ofNat (llen inner))) = true) → ((InB x1 (llen inner)) ∧ ((InB (add IntKind.i64 2 x1) (llen x2)) ∧ (orwrap.l0 R left nonce key inner fuel (add IntKind.i64 x1 1) (lset x2 (nat (add IntKind.i64 2 x1)) (lget inner (nat x1))))))) ∧ (((ilt x1 (ofNat (llen inner))) = false) → ((Fg key nonce left x2) ∧ (R (AV.tup [TV.c (AC.vec 60),TV.c (AC.int IntKind.i64 0)]) [(5,Blk.own 37 [Seg.ints IntKind.u8 16 nonce]),(29,Blk.vec [Col.ints IntKind.u8 x2]),(60,Blk.vec [Col.ints IntKind.u8 (forgeO key nonce left x2)]),(200000,Blk.rview [Col.ints IntKind.u8 key]),(200003,Blk.rview [Col.ints IntKind.u8 inner])]))))) := by kernel_rfl
theorem orwrap_vc (R : AV → Mem → Prop) (fuel : Nat) (key : List Int) (nonce : List Int) (inner : List Int) (left : Int) : callsx Tryd.prog gamO3 [] Tryd.f23 (fuel + 1) [.one (.vec 200000), .agg [.ints .u8 16 nonce], .one (.int .i64 left), .one (.vec 200003)] [(200000, .rview [.ints .u8 key]), (200003, .rview [.ints .u8 inner])] R = (((((ine (ofNat (llen key)) 32) = false) → ((Go.Oni.Lf left) ∧ ((((ieq (Go.Oni.sizeI left) 0) = true) → (R (AV.tup [(TV.c (AC.con (Value.slice (Option.none) 0 0))), (TV.c (AC.int IntKind.i64 2))]) [(5, Blk.own 37 [(Seg.ints IntKind.u8 16 nonce)]), (200000, Blk.rview [(Col.ints IntKind.u8 key)]), (200003, Blk.rview [(Col.ints IntKind.u8 inner)])])) ∧ (((ieq (Go.Oni.sizeI left) 0) = false) → ((Go.Oni.Lf left) ∧ ((((igt (ofNat (llen inner)) (sub IntKind.i64 (Go.Oni.sizeI left) 34)) = true) → (R (AV.tup [(TV.c (AC.con (Value.slice (Option.none) 0 0))), (TV.c (AC.int IntKind.i64 1))]) [(5, Blk.own 37 [(Seg.ints IntKind.u8 16 nonce)]), (200000, Blk.rview [(Col.ints IntKind.u8 key)]), (200003, Blk.rview [(Col.ints IntKind.u8 inner)])])) ∧ (((igt (ofNat (llen inner)) (sub IntKind.i64 (Go.Oni.sizeI left) 34)) = false) → ((Go.Oni.Lf left) ∧ ((Mk (sub IntKind.i64 (Go.Oni.sizeI left) 32) (sub IntKind.i64 (Go.Oni.sizeI left) 32) 1) ∧ ((NeZ 256) ∧ ((InB 0 (llen (lzeros (nat (sub IntKind.i64 (Go.Oni.sizeI left) 32))))) ∧ (let y0 : List Int := (lset (lzeros (nat (sub IntKind.i64 (Go.Oni.sizeI left) 32))) 0 (conv IntKind.u8 (quo IntKind.i64 (ofNat (llen inner)) 256))); ((NeZ 256) ∧ ((InB 1 (llen y0)) ∧ (orwrap.l0 R left nonce key inner fuel 0 (lset y0 1 (conv IntKind.u8 (rem (ofNat (llen inner)) 256)))))))))))))))))) ∧ (((ine (ofNat (llen key)) 32) = true) → (R (AV.tup [(TV.c (AC.con (Value.slice (Option.none) 0 0))), (TV.c (AC.int IntKind.i64 2))]) [(5, Blk.own 37 [(Seg.ints IntKind.u8 16 nonce)]), (200000, Blk.rview [(Col.ints IntKind.u8 key)]), (200003, Blk.rview [(Col.ints IntKind.u8 inner)])])))) := by kernel_rfl
end Go.Proofs.YtienfecnkglilaaDoor.G
namespace Go.Hsh
open Go Go.Sx
noncomputable def frc {α : Type} (n : Nat) (k : Nat → α) : α := Nat.rec (k 0) (fun m _ => k (Nat.succ m)) n
theorem frc_eq {α : Type} (n : Nat) (k : Nat → α) : frc n k = k n := by cases n <;> rfl
def cN (l : List Nat) : List Int := l.map fun n : Nat => (n : Int)
theorem cN_get (l : List Nat) (i : Nat) : lget (cN l) i = ((l.getD i 0 : Nat) : Int) := by
 unfold lget cN
 rw [List.getD_eq_getElem?_getD, List.getD_eq_getElem?_getD, List.getElem?_map]
 cases l[i]? <;> rfl
theorem cN_len (l : List Nat) : (cN l).length = l.length := List.length_map ..
theorem cN_app (a b : List Nat) : cN (a ++ b) = cN a ++ cN b := List.map_append
theorem cN_bytes {l : List Nat} (h : ∀ x ∈ l, x < 256) : Bs (cN l) := ⟨fun x hx => by
 obtain ⟨n, hn, rfl⟩ := List.mem_map.mp hx
 have := h n hn; omega⟩
abbrev m32 : Nat := 4294967296
def rotN (x n : Nat) : Nat := Nat.lor (x * 2 ^ (32 - n) % m32) (x / 2 ^ n)
def sg0N (x : Nat) : Nat := Nat.xor (Nat.xor (rotN x 7) (rotN x 18)) (x / 8)
def sg1N (x : Nat) : Nat := Nat.xor (Nat.xor (rotN x 17) (rotN x 19)) (x / 1024)
def s1N (e : Nat) : Nat := Nat.xor (Nat.xor (rotN e 6) (rotN e 11)) (rotN e 25)
def s0N (a : Nat) : Nat := Nat.xor (Nat.xor (rotN a 2) (rotN a 13)) (rotN a 22)
def chN (e f g : Nat) : Nat := Nat.xor (Nat.land e f) (Nat.land (Nat.xor 4294967295 e) g)
def mjN (a b c : Nat) : Nat := Nat.xor (Nat.xor (Nat.land a b) (Nat.land a c)) (Nat.land b c)
structure U (x : Int) (n : Nat) : Prop where
 e : x = (n : Int)
 lt : n < 4294967296
theorem xor32 {a b : Nat} (ha : a < 4294967296) (hb : b < 4294967296) : a ^^^ b < 4294967296 := Nat.xor_lt_two_pow (n := 32) ha hb
theorem and32 {a b : Nat} (ha : a < 4294967296) : a &&& b < 4294967296 := Nat.lt_of_le_of_lt Nat.and_le_left ha
theorem or32 {a b : Nat} (ha : a < 4294967296) (hb : b < 4294967296) : a ||| b < 4294967296 := Nat.or_lt_two_pow (n := 32) ha hb
theorem U.bxor {x y : Int} {a b : Nat} (h : U x a) (g : U y b) : U (bxor .u32 x y) (Nat.xor a b) := by
 obtain ⟨rfl, ha⟩ := h
 obtain ⟨rfl, hb⟩ := g
 refine ⟨?_, xor32 ha hb⟩
 show IntKind.u32.wrap ((BitVec.ofInt 32 (a : Int) ^^^ BitVec.ofInt 32 (b : Int)).toNat : Int) = _
 rw [BitVec.toNat_xor, ofInt_u32 a ha, ofInt_u32 b hb, IntKind.wrap_u32]
 have := xor32 ha hb
 show _ = ((a ^^^ b : Nat) : Int)
 omega
theorem U.band {x y : Int} {a b : Nat} (h : U x a) (g : U y b) : U (band .u32 x y) (Nat.land a b) := by
 obtain ⟨rfl, ha⟩ := h
 obtain ⟨rfl, hb⟩ := g
 refine ⟨?_, and32 ha⟩
 show IntKind.u32.wrap ((BitVec.ofInt 32 (a : Int) &&& BitVec.ofInt 32 (b : Int)).toNat : Int) = _
 rw [BitVec.toNat_and, ofInt_u32 a ha, ofInt_u32 b hb, IntKind.wrap_u32]
 have := and32 (b := b) ha
 show _ = ((a &&& b : Nat) : Int)
 omega
theorem U.add {x y : Int} {a b : Nat} (h : U x a) (g : U y b) : U (add .u32 x y) ((a + b) % m32) := by
 obtain ⟨rfl, ha⟩ := h
 obtain ⟨rfl, hb⟩ := g
 exact ⟨by rw [add_u32]; simp only [m32]; omega, Nat.mod_lt _ (by decide)⟩
theorem U.shr {x : Int} {a : Nat} (h : U x a) {n : Nat} (hn : n ≤ 32) : U (shr .u32 x (n : Int)) (a / 2 ^ n) := by
 obtain ⟨rfl, ha⟩ := h
 refine ⟨?_, Nat.lt_of_le_of_lt (Nat.div_le_self _ _) ha⟩
 unfold Go.Sx.shr
 have : min (n : Int).toNat IntKind.u32.bits = n := by show min ((n : Int).toNat) 32 = n; omega
 rw [this, Int.fdiv_eq_ediv_of_nonneg _ (Int.pow_nonneg (by decide))]
 rw [Int.natCast_ediv, Int.natCast_pow]; rfl
theorem U.rot {x : Int} {a : Nat} (h : U x a) {n : Nat} (h0 : 0 < n) (hn : n < 32) : U (rot x (n : Int)) (rotN a n) := by
 have h1 := h.shr (n := n) (by omega)
 obtain ⟨rfl, ha⟩ := h
 have h2 : Go.Sx.shl .u32 (a : Int) (32 - (n : Int)) = ((a * 2 ^ (32 - n) % m32 : Nat) : Int) := by
  unfold Go.Sx.shl
  have : min (32 - (n : Int)).toNat IntKind.u32.bits = 32 - n := by show min ((32 - (n : Int)).toNat) 32 = 32 - n; omega
  rw [this, IntKind.wrap_u32, Int.natCast_emod, Int.natCast_mul, Int.natCast_pow]; rfl
 unfold Go.Hsh.rot
 rw [h1.e, h2]
 exact ⟨bor_u32 (Nat.mod_lt _ (by decide)) h1.lt, or32 (Nat.mod_lt _ (by decide)) h1.lt⟩
theorem U.sg0 {x : Int} {a : Nat} (h : U x a) : U (sg0 x) (sg0N a) := ((h.rot (n := 7) (by decide) (by decide)).bxor (h.rot (n := 18) (by decide) (by decide))).bxor (h.shr (n := 3) (by decide))
theorem U.sg1 {x : Int} {a : Nat} (h : U x a) : U (sg1 x) (sg1N a) := ((h.rot (n := 17) (by decide) (by decide)).bxor (h.rot (n := 19) (by decide) (by decide))).bxor (h.shr (n := 10) (by decide))
theorem U.s1 {x : Int} {a : Nat} (h : U x a) : U (s1 x) (s1N a) := ((h.rot (n := 6) (by decide) (by decide)).bxor (h.rot (n := 11) (by decide) (by decide))).bxor (h.rot (n := 25) (by decide) (by decide))
theorem U.s0 {x : Int} {a : Nat} (h : U x a) : U (s0 x) (s0N a) := ((h.rot (n := 2) (by decide) (by decide)).bxor (h.rot (n := 13) (by decide) (by decide))).bxor (h.rot (n := 22) (by decide) (by decide))
theorem U.ch {x y z : Int} {a b c : Nat} (h : U x a) (g : U y b) (i : U z c) : U (ch x y z) (chN a b c) := (h.band g).bxor ((U.bxor ⟨rfl, by decide⟩ h).band i)
theorem U.mj {x y z : Int} {a b c : Nat} (h : U x a) (g : U y b) (i : U z c) : U (mj x y z) (mjN a b c) := ((h.band g).bxor (h.band i)).bxor (g.band i)
def nx (l : List Nat) : Nat := (((sg1N (l.getD 1 0) + l.getD 6 0) % m32 + sg0N (l.getD 14 0)) % m32 + l.getD 15 0) % m32
noncomputable def exN (k : Nat) (K : List Nat → List Nat) : List Nat → List Nat := Nat.rec K (fun _ ih l => frc (nx l) fun v => ih (v :: l)) k
noncomputable def beg (b : List Nat) (K : List Nat → List Nat) (ts : List Nat) : List Nat → List Nat := List.rec K (fun t _ ih acc => frc (word (b.getD (4 * t) 0) (b.getD (4 * t + 1) 0) (b.getD (4 * t + 2) 0) (b.getD (4 * t + 3) 0)) fun v => ih (v :: acc)) ts
def tens : List Nat := [0, 1, 2, 3, 4, 5, 6, 7, 8, 9, 10, 11, 12, 13, 14, 15]
def wv (b : List Int) (i : Nat) : Nat := (ws b i).toNat
theorem wrap_rng (x : Int) : 0 ≤ IntKind.u32.wrap x ∧ IntKind.u32.wrap x < 4294967296 := by rw [IntKind.wrap_u32]; omega
theorem ws_U (b : List Int) (i : Nat) : U (ws b i) (wv b i) := by
 have : 0 ≤ ws b i ∧ ws b i < 4294967296 := by
  by_cases h : i < 16
  ·rw [ws_lo b h]; exact wrap_rng _
  ·rw [ws_hi b (by omega)]; exact wrap_rng _
 unfold wv
 exact ⟨by omega, by omega⟩
def wl (b : List Int) (n : Nat) : List Nat := (List.range n).reverse.map (wv b)
theorem wl_succ (b : List Int) (n : Nat) : wl b (n + 1) = wv b n :: wl b n := by
 unfold wl; rw [List.range_succ, List.reverse_append]; rfl
theorem wl_get (b : List Int) {n j : Nat} (h : j < n) : (wl b n).getD j 0 = wv b (n - 1 - j) := by
 induction n generalizing j with
 | zero => omega
 | succ n ih =>
  rw [wl_succ]
  cases j with
  | zero => rfl
  | succ j =>
   rw [List.getD_cons_succ, ih (by omega)]
   congr 1; omega
theorem U.uniq {x : Int} {a b : Nat} (h : U x a) (g : U x b) : a = b := by
 have := h.e.symm.trans g.e; omega
theorem nx_wl (b : List Int) {n : Nat} (h : 16 ≤ n) : nx (wl b n) = wv b n := by
 have e := ws_hi b h
 have u : U (ws b n) _ := e ▸ ((((ws_U b (n - 2)).sg1.add (ws_U b (n - 7))).add (ws_U b (n - 15)).sg0).add (ws_U b (n - 16)))
 have := u.uniq (ws_U b n)
 rw [← this]
 unfold nx
 rw [wl_get b (by omega), wl_get b (by omega), wl_get b (by omega), wl_get b (by omega)]
 rw [show n - 1 - 1 = n - 2 by omega, show n - 1 - 6 = n - 7 by omega, show n - 1 - 14 = n - 15 by omega, show n - 1 - 15 = n - 16 by omega]
theorem exN_eq (b : List Int) (K : List Nat → List Nat) : ∀ (k n : Nat), 16 ≤ n → exN k K (wl b n) = K (wl b (n + k))
 | 0, _, _ => rfl
 | k + 1, n, h => by
  show frc (nx (wl b n)) (fun v => exN k K (v :: wl b n)) = _
  rw [frc_eq, nx_wl b h, ← wl_succ, exN_eq b K k (n + 1) (by omega), show n + 1 + k = n + (k + 1) by omega]
theorem ld_wv {b : List Nat} (hb : ∀ x ∈ b, x < 256) {t : Nat} (ht : t < 16) : word (b.getD (4 * t) 0) (b.getD (4 * t + 1) 0) (b.getD (4 * t + 2) 0) (b.getD (4 * t + 3) 0) = wv (cN b) t := by
 have lt : ∀ i, b.getD i 0 < 256 := fun i => by
  rw [List.getD_eq_getElem?_getD]
  cases h : b[i]? with
  | none => simp
  | some v => exact hb v (List.mem_of_getElem? h)
 have cv : ∀ i, conv .u32 (lget (cN b) i) = ((b.getD i 0 : Nat) : Int) := fun i => by
  rw [cN_get, conv_u32]; have := lt i; omega
 unfold wv
 rw [ws_lo _ ht]
 unfold ld
 rw [cv, cv, cv, cv, ld_word (lt _) (lt _) (lt _) (lt _), Int.toNat_natCast]
theorem beg_eq {b : List Nat} (hb : ∀ x ∈ b, x < 256) (K : List Nat → List Nat) : ∀ (n k : Nat), n + k = 16 → beg b K ((List.range k).map (n + ·)) (wl (cN b) n) = K (wl (cN b) 16)
 | n, 0, h => by
  obtain rfl : n = 16 := by omega
  rfl
 | n, k + 1, h => by
  rw [List.range_succ_eq_map, List.map_cons, List.map_map]
  show frc (word _ _ _ _) (fun v => beg b K _ (v :: wl (cN b) n)) = _
  rw [frc_eq, Nat.add_zero, ld_wv hb (by omega), ← wl_succ]
  have e := beg_eq hb K (n + 1) k (by omega)
  rw [← e]
  congr 1
  refine List.map_congr_left fun x _ => ?_
  show n + (x + 1) = n + 1 + x
  omega
def tN (h e f g k w : Nat) : Nat := ((((h + s1N e) % m32 + chN e f g) % m32 + k) % m32 + w) % m32
def uN (t a b c : Nat) : Nat := (t + (s0N a + mjN a b c) % m32) % m32
def vN (d t : Nat) : Nat := (d + t) % m32
noncomputable def rdsN (K : Nat → Nat → Nat → Nat → Nat → Nat → Nat → Nat → List Nat) (kw : List (Nat × Nat)) : Nat → Nat → Nat → Nat → Nat → Nat → Nat → Nat → List Nat :=
 List.rec K (fun x _ ih a b c d e f g h =>
  frc (tN h e f g x.1 x.2) fun t => frc (uN t a b c) fun a' => frc (vN d t) fun e' => ih a' a b c e' e f g) kw
theorem rdsN_cons (K : Nat → Nat → Nat → Nat → Nat → Nat → Nat → Nat → List Nat) (x : Nat × Nat) (kw : List (Nat × Nat)) (a b c d e f g h : Nat) :
  rdsN K (x :: kw) a b c d e f g h = rdsN K kw (uN (tN h e f g x.1 x.2) a b c) a b c (vN d (tN h e f g x.1 x.2)) e f g := by
 have e1 : rdsN K (x :: kw) a b c d e f g h = frc (tN h e f g x.1 x.2) fun t => frc (uN t a b c) fun a' => frc (vN d t) fun e' => rdsN K kw a' a b c e' e f g := rfl
 rw [e1, frc_eq, frc_eq, frc_eq]
structure U8 (v : List Int) (a b c d e f g h : Nat) : Prop where
 ev : v = [(a : Int), b, c, d, e, f, g, h]
 la : a < 4294967296
 lb : b < 4294967296
 lc : c < 4294967296
 ld : d < 4294967296
 le : e < 4294967296
 lf : f < 4294967296
 lg : g < 4294967296
 lh : h < 4294967296
def foldR (kw : List (Int × Int)) (v : List Int) : List Int := kw.foldl (fun v x => rd x.1 x.2 v) v
theorem rds_fold (b s : List Int) : ∀ n, rds b s n = foldR ((List.range n).map fun i => (lget rootsL i, ws b i)) s
 | 0 => rfl
 | n + 1 => by
  rw [List.range_succ, List.map_append]
  unfold foldR
  rw [List.foldl_append]
  show rd _ _ (rds b s n) = _
  rw [rds_fold b s n]; rfl
theorem rd_U8 {v : List Int} {a b c d e f g h : Nat} (hv : U8 v a b c d e f g h) {k w : Nat} (hk : k < 4294967296) (hw : w < 4294967296) :
  U8 (rd (k : Int) (w : Int) v) (uN (tN h e f g k w) a b c) a b c (vN d (tN h e f g k w)) e f g := by
 obtain ⟨rfl, ha, hb, hc, hd, he, hf, hg, hh⟩ := hv
 have ua : U (a : Int) a := ⟨rfl, ha⟩
 have ub : U (b : Int) b := ⟨rfl, hb⟩
 have uc : U (c : Int) c := ⟨rfl, hc⟩
 have ud : U (d : Int) d := ⟨rfl, hd⟩
 have ue : U (e : Int) e := ⟨rfl, he⟩
 have uf : U (f : Int) f := ⟨rfl, hf⟩
 have ug : U (g : Int) g := ⟨rfl, hg⟩
 have uh : U (h : Int) h := ⟨rfl, hh⟩
 have uk : U (k : Int) k := ⟨rfl, hk⟩
 have uw : U (w : Int) w := ⟨rfl, hw⟩
 have e1 : t1 (k : Int) (w : Int) [(a : Int), b, c, d, e, f, g, h] = Go.Sx.add .u32 (Go.Sx.add .u32 (Go.Sx.add .u32 (Go.Sx.add .u32 (h : Int) (s1 (e : Int))) (ch (e : Int) (f : Int) (g : Int))) (k : Int)) (w : Int) := rfl
 have e2 : t2 [(a : Int), b, c, d, e, f, g, h] = Go.Sx.add .u32 (s0 (a : Int)) (mj (a : Int) (b : Int) (c : Int)) := rfl
 have T := (((uh.add ue.s1).add (ue.ch uf ug)).add uk).add uw
 rw [← e1] at T
 have T2 := ua.s0.add (ua.mj ub uc)
 rw [← e2] at T2
 have A := T.add T2
 have E := ud.add T
 refine ⟨?_, A.lt, ha, hb, hc, E.lt, he, hf, hg⟩
 have e3 : rd (k : Int) (w : Int) [(a : Int), b, c, d, e, f, g, h] = [Go.Sx.add .u32 (t1 (k : Int) (w : Int) [(a : Int), b, c, d, e, f, g, h]) (t2 [(a : Int), b, c, d, e, f, g, h]), (a : Int), b, c, Go.Sx.add .u32 (d : Int) (t1 (k : Int) (w : Int) [(a : Int), b, c, d, e, f, g, h]), e, f, g] := rfl
 rw [e3, A.e, E.e]
 rfl
def castP (x : Nat × Nat) : Int × Int := ((x.1 : Int), (x.2 : Int))
theorem rdsN_eq (K : Nat → Nat → Nat → Nat → Nat → Nat → Nat → Nat → List Nat) (kw : List (Nat × Nat)) : (∀ x ∈ kw, x.1 < 4294967296 ∧ x.2 < 4294967296) → ∀ (v : List Int) (a b c d e f g h : Nat), U8 v a b c d e f g h →
  ∃ a' b' c' d' e' f' g' h', U8 (foldR (kw.map castP) v) a' b' c' d' e' f' g' h' ∧ rdsN K kw a b c d e f g h = K a' b' c' d' e' f' g' h' := by
 induction kw with
 | nil => exact fun _ v a b c d e f g h hv => ⟨a, b, c, d, e, f, g, h, hv, rfl⟩
 | cons x kw ih =>
  intro hk v a b c d e f g h hv
  obtain ⟨hx1, hx2⟩ := hk x (List.mem_cons_self ..)
  rw [rdsN_cons]
  exact ih (fun y hy => hk y (List.mem_cons_of_mem _ hy)) _ _ _ _ _ _ _ _ _ (rd_U8 hv hx1 hx2)
def rootsN : List Nat := [1116352408, 1899447441, 3049323471, 3921009573, 961987163, 1508970993, 2453635748, 2870763221, 3624381080, 310598401, 607225278, 1426881987, 1925078388, 2162078206, 2614888103, 3248222580, 3835390401, 4022224774, 264347078, 604807628, 770255983, 1249150122, 1555081692, 1996064986, 2554220882, 2821834349, 2952996808, 3210313671, 3336571891, 3584528711, 113926993, 338241895, 666307205, 773529912, 1294757372, 1396182291, 1695183700, 1986661051, 2177026350, 2456956037, 2730485921, 2820302411, 3259730800, 3345764771, 3516065817, 3600352804, 4094571909, 275423344, 430227734, 506948616, 659060556, 883997877, 958139571, 1322822218, 1537002063, 1747873779, 1955562222, 2024104815, 2227730452, 2361852424, 2428436474, 2756734187, 3204031479, 3329325298]
theorem roots_cN : rootsL = cN rootsN := by decide +kernel
theorem roots_lt : ∀ x ∈ rootsN, x < 4294967296 := by decide +kernel
noncomputable def finN (K : Nat → Nat → Nat → Nat → Nat → Nat → Nat → Nat → List Nat) (a b c d e f g h : Nat) : Nat → Nat → Nat → Nat → Nat → Nat → Nat → Nat → List Nat := fun a' b' c' d' e' f' g' h' =>
 frc (vN a a') fun a => frc (vN b b') fun b => frc (vN c c') fun c => frc (vN d d') fun d => frc (vN e e') fun e => frc (vN f f') fun f => frc (vN g g') fun g => frc (vN h h') fun h => K a b c d e f g h
theorem finN_eq (K : Nat → Nat → Nat → Nat → Nat → Nat → Nat → Nat → List Nat) (a b c d e f g h a' b' c' d' e' f' g' h' : Nat) : finN K a b c d e f g h a' b' c' d' e' f' g' h' = K (vN a a') (vN b b') (vN c c') (vN d d') (vN e e') (vN f f') (vN g g') (vN h h') := by
 unfold finN; rw [frc_eq, frc_eq, frc_eq, frc_eq, frc_eq, frc_eq, frc_eq, frc_eq]
noncomputable def blkN (a b c d e f g h : Nat) (m : List Nat) (K : Nat → Nat → Nat → Nat → Nat → Nat → Nat → Nat → List Nat) : List Nat :=
 beg m (exN 48 fun l => rdsN (finN K a b c d e f g h) (List.zip rootsN l.reverse) a b c d e f g h) tens []
theorem zip_roots (W : Nat → Nat) : List.zip rootsN ((List.range 64).map W) = (List.range 64).map fun i => (rootsN.getD i 0, W i) := by
 have e : rootsN = (List.range 64).map fun i => rootsN.getD i 0 := by decide +kernel
 conv => lhs; rw [e]
 rw [List.zip_map']
theorem blkN_eq {m : List Nat} (hm : ∀ x ∈ m, x < 256) {s : List Int} {a b c d e f g h : Nat} (hs : U8 s a b c d e f g h) (K : Nat → Nat → Nat → Nat → Nat → Nat → Nat → Nat → List Nat) :
  ∃ a' b' c' d' e' f' g' h', U8 (blk s (cN m)) a' b' c' d' e' f' g' h' ∧ blkN a b c d e f g h m K = K a' b' c' d' e' f' g' h' := by
 unfold blkN
 have e0 := beg_eq hm (exN 48 fun l => rdsN (finN K a b c d e f g h) (List.zip rootsN l.reverse) a b c d e f g h) 0 16 rfl
 have e1 : (List.range 16).map (0 + ·) = tens := by decide +kernel
 rw [e1, show wl (cN m) 0 = [] from rfl] at e0
 rw [e0, exN_eq _ _ 48 16 (by decide)]
 have e2 : (wl (cN m) (16 + 48)).reverse = (List.range 64).map (wv (cN m)) := by unfold wl; rw [← List.map_reverse, List.reverse_reverse]
 rw [e2, zip_roots]
 have e3 : rds (cN m) s 64 = foldR (((List.range 64).map fun i => (rootsN.getD i 0, wv (cN m) i)).map castP) s := by
  rw [rds_fold, List.map_map]
  refine congrArg (fun l => foldR l s) (List.map_congr_left fun i _ => ?_)
  exact Prod.ext (by show lget rootsL i = ((rootsN.getD i 0 : Nat) : Int); rw [roots_cN, cN_get]) (ws_U (cN m) i).e
 obtain ⟨a1, b1, c1, d1, e1', f1, g1, h1, hv, hr⟩ := rdsN_eq (finN K a b c d e f g h)
  ((List.range 64).map fun i => (rootsN.getD i 0, wv (cN m) i)) (fun x hx => by
   obtain ⟨i, _, rfl⟩ := List.mem_map.mp hx
   refine ⟨?_, (ws_U _ _).lt⟩
   show rootsN.getD i 0 < _
   rw [List.getD_eq_getElem?_getD]
   cases hq : rootsN[i]? with
   | none => simp
   | some v => exact roots_lt v (List.mem_of_getElem? hq)) s a b c d e f g h hs
 rw [← e3] at hv
 rw [finN_eq] at hr
 refine ⟨vN a a1, vN b b1, vN c c1, vN d d1, vN e e1', vN f f1, vN g g1, vN h h1, ⟨?_, Nat.mod_lt _ (by decide), Nat.mod_lt _ (by decide), Nat.mod_lt _ (by decide), Nat.mod_lt _ (by decide), Nat.mod_lt _ (by decide), Nat.mod_lt _ (by decide), Nat.mod_lt _ (by decide), Nat.mod_lt _ (by decide)⟩, hr⟩
 unfold blk
 rw [hv.ev, hs.ev]
 have A : ∀ {x y : Nat}, x < 4294967296 → y < 4294967296 → Go.Sx.add .u32 (x : Int) (y : Int) = ((vN x y : Nat) : Int) := fun hx hy => ((U.mk rfl hx).add (U.mk rfl hy)).e
 rw [← A hs.la hv.la, ← A hs.lb hv.lb, ← A hs.lc hv.lc, ← A hs.ld hv.ld, ← A hs.le hv.le, ← A hs.lf hv.lf, ← A hs.lg hv.lg, ← A hs.lh hv.lh]
 rfl
noncomputable def bsN (n : Nat) (m : List Nat) (K : Nat → Nat → Nat → Nat → Nat → Nat → Nat → Nat → List Nat) : Nat → Nat → Nat → Nat → Nat → Nat → Nat → Nat → List Nat :=
 Nat.rec (motive := fun _ => List Nat → Nat → Nat → Nat → Nat → Nat → Nat → Nat → Nat → List Nat) (fun _ => K) (fun _ ih m a b c d e f g h => blkN a b c d e f g h (m.take 64) fun a b c d e f g h => ih (m.drop 64) a b c d e f g h) n m
def fold8 : Nat → List Int → List Int → List Int
 | 0, _, s => s
 | n + 1, m, s => fold8 n (m.drop 64) (blk s (m.take 64))
theorem fold8_blks (m : List Int) : ∀ n k, fold8 n (m.drop (64 * k)) (blks m k) = blks m (k + n)
 | 0, _ => rfl
 | n + 1, k => by
  show fold8 n ((m.drop (64 * k)).drop 64) (blk (blks m k) ((m.drop (64 * k)).take 64)) = _
  rw [List.drop_drop, show 64 * k + 64 = 64 * (k + 1) by omega]
  have := fold8_blks m n (k + 1)
  rw [show k + 1 + n = k + (n + 1) by omega] at this
  exact this
theorem bsN_eq (K : Nat → Nat → Nat → Nat → Nat → Nat → Nat → Nat → List Nat) : ∀ (n : Nat) (m : List Nat), (∀ x ∈ m, x < 256) → ∀ (s : List Int) (a b c d e f g h : Nat), U8 s a b c d e f g h →
  ∃ a' b' c' d' e' f' g' h', U8 (fold8 n (cN m) s) a' b' c' d' e' f' g' h' ∧ bsN n m K a b c d e f g h = K a' b' c' d' e' f' g' h'
 | 0, m, _, s, a, b, c, d, e, f, g, h, hs => ⟨a, b, c, d, e, f, g, h, hs, rfl⟩
 | n + 1, m, hm, s, a, b, c, d, e, f, g, h, hs => by
  obtain ⟨a1, b1, c1, d1, e1, f1, g1, h1, hv, hr⟩ := blkN_eq (m := m.take 64) (fun x hx => hm x (List.mem_of_mem_take hx)) hs fun a b c d e f g h => bsN n (m.drop 64) K a b c d e f g h
  obtain ⟨a2, b2, c2, d2, e2, f2, g2, h2, hv2, hr2⟩ := bsN_eq K n (m.drop 64) (fun x hx => hm x (List.mem_of_mem_drop hx)) _ _ _ _ _ _ _ _ _ hv
  have q1 : cN (m.take 64) = (cN m).take 64 := List.map_take ..
  have q2 : cN (m.drop 64) = (cN m).drop 64 := List.map_drop ..
  rw [q1, q2] at hv2
  exact ⟨a2, b2, c2, d2, e2, f2, g2, h2, hv2, hr.trans hr2⟩
noncomputable def by4 (x : Nat) (r : List Nat) : List Nat := frc (x / 16777216 % 256) fun a => frc (x / 65536 % 256) fun b => frc (x / 256 % 256) fun c => frc (x % 256) fun d => a :: b :: c :: d :: r
noncomputable def outN (a b c d e f g h : Nat) : List Nat := by4 a (by4 b (by4 c (by4 d (by4 e (by4 f (by4 g (by4 h [])))))))
theorem by4_eq (x : Nat) (r : List Nat) : by4 x r = x / 16777216 % 256 :: x / 65536 % 256 :: x / 256 % 256 :: x % 256 :: r := by unfold by4; rw [frc_eq, frc_eq, frc_eq, frc_eq]
theorem out_eq {s : List Int} {a b c d e f g h : Nat} (hs : U8 s a b c d e f g h) : digest s = cN (outN a b c d e f g h) := by
 have q : ∀ {x n : Nat}, x < 4294967296 → n ≤ 32 → conv .u8 (Go.Sx.shr .u32 (x : Int) ((n : Nat) : Int)) = ((x / 2 ^ n % 256 : Nat) : Int) := fun {x n} hx hn => by
  rw [((U.mk (x := (x : Int)) rfl hx).shr hn).e, conv_u8]; omega
 rw [hs.ev]
 show [conv .u8 (Go.Sx.shr .u32 (a : Int) ((24 : Nat) : Int)), conv .u8 (Go.Sx.shr .u32 (a : Int) ((16 : Nat) : Int)), conv .u8 (Go.Sx.shr .u32 (a : Int) ((8 : Nat) : Int)), conv .u8 (Go.Sx.shr .u32 (a : Int) ((0 : Nat) : Int)),
  conv .u8 (Go.Sx.shr .u32 (b : Int) ((24 : Nat) : Int)), conv .u8 (Go.Sx.shr .u32 (b : Int) ((16 : Nat) : Int)), conv .u8 (Go.Sx.shr .u32 (b : Int) ((8 : Nat) : Int)), conv .u8 (Go.Sx.shr .u32 (b : Int) ((0 : Nat) : Int)),
  conv .u8 (Go.Sx.shr .u32 (c : Int) ((24 : Nat) : Int)), conv .u8 (Go.Sx.shr .u32 (c : Int) ((16 : Nat) : Int)), conv .u8 (Go.Sx.shr .u32 (c : Int) ((8 : Nat) : Int)), conv .u8 (Go.Sx.shr .u32 (c : Int) ((0 : Nat) : Int)),
  conv .u8 (Go.Sx.shr .u32 (d : Int) ((24 : Nat) : Int)), conv .u8 (Go.Sx.shr .u32 (d : Int) ((16 : Nat) : Int)), conv .u8 (Go.Sx.shr .u32 (d : Int) ((8 : Nat) : Int)), conv .u8 (Go.Sx.shr .u32 (d : Int) ((0 : Nat) : Int)),
  conv .u8 (Go.Sx.shr .u32 (e : Int) ((24 : Nat) : Int)), conv .u8 (Go.Sx.shr .u32 (e : Int) ((16 : Nat) : Int)), conv .u8 (Go.Sx.shr .u32 (e : Int) ((8 : Nat) : Int)), conv .u8 (Go.Sx.shr .u32 (e : Int) ((0 : Nat) : Int)),
  conv .u8 (Go.Sx.shr .u32 (f : Int) ((24 : Nat) : Int)), conv .u8 (Go.Sx.shr .u32 (f : Int) ((16 : Nat) : Int)), conv .u8 (Go.Sx.shr .u32 (f : Int) ((8 : Nat) : Int)), conv .u8 (Go.Sx.shr .u32 (f : Int) ((0 : Nat) : Int)),
  conv .u8 (Go.Sx.shr .u32 (g : Int) ((24 : Nat) : Int)), conv .u8 (Go.Sx.shr .u32 (g : Int) ((16 : Nat) : Int)), conv .u8 (Go.Sx.shr .u32 (g : Int) ((8 : Nat) : Int)), conv .u8 (Go.Sx.shr .u32 (g : Int) ((0 : Nat) : Int)),
  conv .u8 (Go.Sx.shr .u32 (h : Int) ((24 : Nat) : Int)), conv .u8 (Go.Sx.shr .u32 (h : Int) ((16 : Nat) : Int)), conv .u8 (Go.Sx.shr .u32 (h : Int) ((8 : Nat) : Int)), conv .u8 (Go.Sx.shr .u32 (h : Int) ((0 : Nat) : Int))] = _
 simp only [q hs.la, q hs.lb, q hs.lc, q hs.ld, q hs.le, q hs.lf, q hs.lg, q hs.lh, Nat.le_refl, show (24 : Nat) ≤ 32 from by decide, show (16 : Nat) ≤ 32 from by decide, show (8 : Nat) ≤ 32 from by decide, show (0 : Nat) ≤ 32 from by decide]
 unfold outN
 simp only [by4_eq, cN, List.map_cons, List.map_nil, Nat.pow_zero, Nat.div_one]
 try rfl
def padN (l : List Nat) : List Nat := l ++ 128 :: (List.replicate (nfill l.length) 0 ++ (List.range 8).map fun i => l.length * 8 / 2 ^ (56 - 8 * i) % 256)
noncomputable def shaN (l : List Nat) : List Nat := bsN ((padN l).length / 64) (padN l) outN 1779033703 3144134277 1013904242 2773480762 1359893119 2600822924 528734635 1541459225
theorem bitsN_eq {n i : Nat} (h : n < 2305843009213693952) (hi : i < 8) : bitsN n i = ((n * 8 / 2 ^ (56 - 8 * i) % 256 : Nat) : Int) := by
 unfold bitsN
 have e1 : conv .u64 (n : Int) = (n : Int) := by rw [conv_u64]; omega
 have e2 : mul .u64 (n : Int) 8 = ((n * 8 : Nat) : Int) := by show IntKind.u64.wrap _ = _; rw [IntKind.wrap_u64]; omega
 have e3 : Go.Sx.shr .u64 ((n * 8 : Nat) : Int) ((56 - 8 * i : Nat) : Int) = ((n * 8 / 2 ^ (56 - 8 * i) : Nat) : Int) := by
  unfold Go.Sx.shr
  have : min ((56 - 8 * i : Nat) : Int).toNat IntKind.u64.bits = 56 - 8 * i := by show min (((56 - 8 * i : Nat) : Int).toNat) 64 = 56 - 8 * i; omega
  rw [this, Int.fdiv_eq_ediv_of_nonneg _ (Int.pow_nonneg (by decide))]
  rw [Int.natCast_ediv, Int.natCast_pow]; rfl
 rw [e1, e2, e3, conv_u8]; omega
theorem pad_eq {l : List Nat} (h : l.length < 2305843009213693952) : fillOf (cN l) = cN (padN l) := by
 rw [fillOf_eq, cN_len]
 unfold padN fillN
 rw [cN_app]
 congr 1
 show 128 :: _ = 128 :: cN _
 rw [cN_app]
 congr 1
 unfold cN tab
 rw [List.map_replicate, List.map_map]
 congr 1
 exact List.map_congr_left fun i hi => bitsN_eq h (List.mem_range.mp hi)
theorem pad_bytes {l : List Nat} (h : ∀ x ∈ l, x < 256) : ∀ x ∈ padN l, x < 256 := by
 intro x hx
 unfold padN at hx
 rcases List.mem_append.mp hx with hx | hx
 ·exact h x hx
 rcases List.mem_cons.mp hx with rfl | hx
 ·decide
 rcases List.mem_append.mp hx with hx | hx
 ·rw [(List.mem_replicate.mp hx).2]; decide
 ·obtain ⟨i, _, rfl⟩ := List.mem_map.mp hx
  exact Nat.mod_lt _ (by decide)
theorem sha_nat {l : List Nat} (h : ∀ x ∈ l, x < 256) (hl : l.length < 2305843009213693952) : sha (cN l) = cN (shaN l) := by
 have hm := fillOf_len (cN l)
 have e1 : (stA (fillOf (cN l))).1 = fold8 ((padN l).length / 64) (cN (padN l)) firstL := by
  rw [← blks_all hm, pad_eq hl, cN_len]
  have := fold8_blks (cN (padN l)) ((padN l).length / 64) 0
  rw [Nat.zero_add] at this
  exact this.symm
 have first : U8 firstL 1779033703 3144134277 1013904242 2773480762 1359893119 2600822924 528734635 1541459225 := ⟨rfl, by decide, by decide, by decide, by decide, by decide, by decide, by decide, by decide⟩
 obtain ⟨a, b, c, d, e, f, g, h', hv, hr⟩ := bsN_eq outN ((padN l).length / 64) (padN l) (pad_bytes h) firstL _ _ _ _ _ _ _ _ first
 unfold sha shaN
 rw [e1, hr]
 exact out_eq hv
end Go.Hsh
namespace Go.Mac
open Go Go.Sx Go.Hsh
noncomputable def keyN (k : List Nat) : List Nat := if 64 < k.length then shaN k else k
noncomputable def padkN (k : List Nat) (m : Nat) : List Nat := (List.range 64).map fun i => Nat.xor ((keyN k).getD i 0) m
noncomputable def hmacN (k msg : List Nat) : List Nat := shaN (padkN k 92 ++ shaN (padkN k 54 ++ msg))
theorem cN_lt {l : List Nat} (h : Bs (cN l)) : ∀ x ∈ l, x < 256 := fun x hx => by
 have := (h.all (x : Int) (List.mem_map.mpr ⟨x, hx, rfl⟩)).2; omega
theorem key_nat {k : List Nat} (h : ∀ x ∈ k, x < 256) (hl : k.length < 2305843009213693952) : keyL (cN k) = cN (keyN k) := by
 unfold keyL keyN
 rw [cN_len]
 split
 ·exact sha_nat h hl
 ·rfl
theorem padk_nat {k : List Nat} (h : ∀ x ∈ k, x < 256) (hl : k.length < 2305843009213693952) {m : Nat} (hm : m < 256) : padK (cN k) (m : Int) = cN (padkN k m) := by
 unfold padK padkN tab cN
 rw [List.map_map]
 refine List.map_congr_left fun i _ => ?_
 show bxor .u8 (lget (keyL (cN k)) i) (m : Int) = ((Nat.xor ((keyN k).getD i 0) m : Nat) : Int)
 have hb : (keyN k).getD i 0 < 256 := by
  have b := keyL_bytes (cN_bytes h)
  rw [key_nat h hl] at b
  have := (b.get i).2
  have e : (cN (keyN k)).getD i 0 = (((keyN k).getD i 0 : Nat) : Int) := cN_get _ _
  rw [e] at this; omega
 rw [key_nat h hl, cN_get, bxor_u8 hb hm]; rfl
theorem hmac_nat {k msg : List Nat} (h : ∀ x ∈ k, x < 256) (hl : k.length < 2305843009213693952) (g : ∀ x ∈ msg, x < 256) (gl : msg.length < 1152921504606846976) : hmac (cN k) (cN msg) = cN (hmacN k msg) := by
 unfold hmac hmacN
 have p1 := padk_nat h hl (m := 54) (by decide)
 have p2 := padk_nat h hl (m := 92) (by decide)
 have b1 : Bs (cN (padkN k 54)) := by rw [← p1]; exact padK_bytes (cN_bytes h) (by decide)
 have b2 : Bs (cN (padkN k 92)) := by rw [← p2]; exact padK_bytes (cN_bytes h) (by decide)
 have l1 : (padkN k 54).length = 64 := by unfold padkN; simp
 have l2 : (padkN k 92).length = 64 := by unfold padkN; simp
 rw [show (54 : Int) = ((54 : Nat) : Int) from rfl, show (92 : Int) = ((92 : Nat) : Int) from rfl, p1, p2, ← cN_app]
 have s1 : sha (cN (padkN k 54 ++ msg)) = cN (shaN (padkN k 54 ++ msg)) := sha_nat (fun x hx => by
  rcases List.mem_append.mp hx with hx | hx
  ·exact cN_lt b1 x hx
  ·exact g x hx) (by rw [List.length_append]; omega)
 have bs : Bs (cN (shaN (padkN k 54 ++ msg))) := by rw [← s1]; exact sha_bytes _
 have ls : (shaN (padkN k 54 ++ msg)).length = 32 := by have := sha_len (cN (padkN k 54 ++ msg)); rw [s1, cN_len] at this; exact this
 rw [s1, ← cN_app]
 exact sha_nat (fun x hx => by
  rcases List.mem_append.mp hx with hx | hx
  ·exact cN_lt b2 x hx
  ·exact cN_lt bs x hx) (by rw [List.length_append]; omega)
theorem exR_some {n : Nat} (h : n ≤ 8160) (key info : List Int) : exR key info (n : Int) = (exO key info ((n + 31) / 32)).take n := by
 unfold exR; rw [if_neg (by omega), if_neg (by omega), Int.toNat_natCast]
theorem exR_len {n : Nat} (h : n ≤ 8160) (key info : List Int) : (exR key info (n : Int)).length = n := by
 rw [exR_some h, List.length_take, exO_len]; omega
theorem exO_take (key info : List Int) : ∀ (i k : Nat), (exO key info (i + k)).take (32 * i) = exO key info i
 | i, 0 => by rw [List.take_of_length_le (by rw [exO_len]; omega)]; rfl
 | i, k + 1 => by
  have e : exO key info (i + (k + 1)) = exO key info (i + k) ++ exT key info (i + k + 1) := rfl
  rw [e, List.take_append_of_le_length (by rw [exO_len]; omega)]
  exact exO_take key info i k
theorem exR_take {m n : Nat} (hm : m ≤ n) (h : n ≤ 8160) (key info : List Int) : (exR key info (n : Int)).take m = exR key info (m : Int) := by
 rw [exR_some h, exR_some (by omega), List.take_take, Nat.min_eq_left hm]
 obtain ⟨k, hk⟩ : ∃ k, (n + 31) / 32 = (m + 31) / 32 + k := ⟨(n + 31) / 32 - (m + 31) / 32, by omega⟩
 have e := exO_take key info ((m + 31) / 32) k
 rw [← hk] at e
 conv => rhs; rw [← e, List.take_take]
 congr 1; omega
theorem exR_first {m k : Nat} (h : m ≤ 8160) (hk : k ≤ m) (hk2 : k ≤ 32) (key info : List Int) : (exR key info (m : Int)).take k = (hmac key (info ++ [1])).take k := by
 by_cases h0 : k = 0
 ·subst h0; rfl
 rw [exR_take hk h, exR_some (by omega)]
 rw [show (k + 31) / 32 = 1 by omega]
 have e : exO key info 1 = hmac key (info ++ [1]) := by
  show [] ++ hmac key ([] ++ info ++ [conv .u8 ((0 + 1 : Nat) : Int)]) = _
  rw [List.nil_append, List.nil_append]; rfl
 rw [e]
theorem exR_bytes (key info : List Int) (n : Int) : Bs (exR key info n) := by
 unfold exR
 split
 ·exact Bs.nil
 ·split
  ·exact Bs.nil
  ·exact (exO_bytes _ _ _).take _
end Go.Mac
namespace Go.Oni
open Go Go.Sx Go.Hsh Go.Mac Go.Blk Go.Cel Go.Fld
theorem bl_of {n : Nat} {l : List Int} (h : l.length = n) (b : Bs l) : BL n l := ⟨h, fun x hx => ⟨(b.all x hx).1, (b.all x hx).2⟩⟩
theorem lsub_bs {l : List Int} (h : Bs l) (i n : Nat) : Bs (lsub l i n) := ⟨fun x hx => h.all x (List.mem_of_mem_drop (List.mem_of_mem_take hx))⟩
theorem lsub_length {l : List Int} {i n : Nat} (h : i + n ≤ l.length) : (lsub l i n).length = n := by unfold lsub; rw [List.length_take, List.length_drop]; omega
theorem zeros_bs (n : Nat) : Bs (lzeros n) := ⟨fun x hx => by rw [(List.mem_replicate.mp hx).2]; decide⟩
theorem kB_len (key nonce : List Int) : (kB key nonce).length = 80 := exR_len (n := 80) (by decide) _ _
theorem kB_bs (key nonce : List Int) : Bs (kB key nonce) := exR_bytes _ _ _
theorem dvB_bl (key nonce : List Int) : BL 16 (dvB key nonce) := by
 unfold dvB; split
 ·exact bl_of (lsub_length (by rw [kB_len]; omega)) (lsub_bs (kB_bs _ _) _ _)
 ·exact bl_of (by simp [lzeros]) (zeros_bs _)
theorem dvM_bl (key nonce : List Int) : BL 32 (dvM key nonce) := by
 unfold dvM; split
 ·exact bl_of (lsub_length (by rw [kB_len]; omega)) (lsub_bs (kB_bs _ _) _ _)
 ·exact bl_of (by simp [lzeros]) (zeros_bs _)
theorem dvR_bl (key nonce : List Int) : BL 32 (dvR key nonce) := by
 unfold dvR; split
 ·exact bl_of (lsub_length (by rw [kB_len]; omega)) (lsub_bs (kB_bs _ _) _ _)
 ·exact bl_of (by simp [lzeros]) (zeros_bs _)
theorem tagO_len (mc : List Int) (left : Int) (nonce box : List Int) : (tagO mc left nonce box).length = 16 := lsub_length (by rw [hmac_len]; omega)
theorem tagO_bs (mc : List Int) (left : Int) (nonce box : List Int) : Bs (tagO mc left nonce box) := lsub_bs (hmac_bytes _ _) _ _
theorem sizeI_some {left : Int} (h1 : 1 ≤ left) (h2 : left ≤ 8) : sizeI left = 48 + 34 * left := by unfold sizeI; rw [if_neg (by omega)]
theorem sizeI_none {left : Int} (h : left < 1 ∨ 8 < left) : sizeI left = 0 := by unfold sizeI; rw [if_pos h]
theorem sizeI_zero {left : Int} : sizeI left = 0 ↔ left < 1 ∨ 8 < left := by
 unfold sizeI; split
 ·rename_i h; exact ⟨fun _ => h, fun _ => rfl⟩
 ·rename_i h; exact ⟨fun e => by omega, fun e => absurd e h⟩
theorem mask_length (w s p : List Int) : (mask w s p).length = p.length := tab_len _ _
end Go.Oni
namespace Go.Proofs.YtienfecnkglilaaDoor.G
open Go Go.Sx Go.Hsh Go.Mac Go.Blk Go.Cel Go.Oni Go.Fld
set_option maxRecDepth 20000
theorem gamO0_good : GoodG Tryd.prog gamO0 := ((((((((((((((good0 _).ext good_mderive ⟨_, Tryd.func22, by decide, by kernel_rfl⟩).ext good_mrderive ⟨_, Tryd.func21, by decide, by kernel_rfl⟩).ext good_mtag ⟨_, Tryd.func34, by decide, by kernel_rfl⟩).ext good_mrtag ⟨_, Tryd.func60, by decide, by kernel_rfl⟩).ext good_mequal ⟨_, Tryd.func30, by decide, by kernel_rfl⟩).ext good_mask ⟨_, Tryd.func33, by decide, by kernel_rfl⟩).ext good_rmask ⟨_, Tryd.func57, by decide, by kernel_rfl⟩).ext good_pad ⟨_, Tryd.func26, by decide, by kernel_rfl⟩).ext good_plain ⟨_, Tryd.func16, by decide, by kernel_rfl⟩).ext good_cut ⟨_, Tryd.func28, by decide, by kernel_rfl⟩).ext good_rpad ⟨_, Tryd.func24, by decide, by kernel_rfl⟩).ext good_rplain ⟨_, Tryd.func59, by decide, by kernel_rfl⟩).ext good_rcut ⟨_, Tryd.func54, by decide, by kernel_rfl⟩)
theorem good_osize : Sx.Good Tryd.prog 27 sizeS := by
 refine Sx.Good.pure (D := []) mixed (good0 _) Tryd.func27 (by kernel_rfl) rfl fun d args σ K h => ?_
 simp only [sizeS] at h
 split at h <;> try exact h.elim
 rename_i left
 obtain ⟨hl, hK⟩ := h
 refine ⟨by simp [plain_int], _, plain_int _ _, hK, 0 + 1, ?_⟩
 rw [osize_vc]
 refine ⟨fun q => ⟨fun r => ?_, fun r => ?_⟩, fun q => ?_⟩
 ·rw [igt_true] at r; rw [sizeI_none (Or.inr r)]
 ·rw [ilt_false] at q; rw [igt_false] at r
  rw [sizeI_some (by omega) (by omega), mul_i64 (by omega) (by omega), add_i64 (by omega) (by omega)]
 ·rw [ilt_true] at q; rw [sizeI_none (Or.inl q)]
theorem good_orsize : Sx.Good Tryd.prog 42 sizeS := by
 refine Sx.Good.pure (D := []) mixed (good0 _) Tryd.func42 (by kernel_rfl) rfl fun d args σ K h => ?_
 simp only [sizeS] at h
 split at h <;> try exact h.elim
 rename_i left
 obtain ⟨hl, hK⟩ := h
 refine ⟨by simp [plain_int], _, plain_int _ _, hK, 0 + 1, ?_⟩
 rw [orsize_vc]
 refine ⟨fun q => ⟨fun r => ?_, fun r => ?_⟩, fun q => ?_⟩
 ·rw [igt_true] at r; rw [sizeI_none (Or.inr r)]
 ·rw [ilt_false] at q; rw [igt_false] at r
  rw [sizeI_some (by omega) (by omega), sub_i64 (by omega) (by omega), mul_i64 (by omega) (by omega), add_i64 (by omega) (by omega), show (82 : Int) + 34 * (left - 1) = 48 + 34 * left by omega]
 ·rw [ilt_true] at q; rw [sizeI_none (Or.inl q)]
theorem res_keys {d : Nat} {σ σ' : Mem} {K : AV → Mem → Prop} {a a' b b' c c' : List Int} {e e' : Int} (ha : a = a') (hb : b = b') (hc : c = c') (he : e = e')
  (hK : K (.tup [.g [.ints .u8 16 a', .ints .u8 32 b', .ints .u8 32 c'], .c (.int .i64 e')]) σ) : Res d 0 σ K (.tup [.g [.ints .u8 16 a, .ints .u8 32 b, .ints .u8 32 c], .c (.int .i64 e)]) σ' := by
 subst ha hb hc he
 have hv : ResV [] d (.tup [.g [.ints .u8 16 a, .ints .u8 32 b, .ints .u8 32 c], .c (.int .i64 e)]) (.tup [.g [.ints .u8 16 a, .ints .u8 32 b, .ints .u8 32 c], .c (.int .i64 e)]) := ⟨⟨⟨rfl, rfl, rfl⟩, ⟨rfl, rfl, rfl⟩, ⟨rfl, rfl, rfl⟩, trivial⟩, Or.inl ⟨fun _ => rfl, fun _ => rfl, fun _ _ q => q⟩, trivial⟩
 exact res_plain hv hK
theorem key_bytes {key nonce : List Int} : exL (tagL nonce key) [99, 104, 117, 114, 110] 80 = kB key nonce := by rw [exL_eq, tagL_eq]; rfl
theorem exE80 : exE 80 = 0 := rfl
theorem good_oder : Sx.Good Tryd.prog 29 derS := by
 refine Sx.Good.reads (D := []) mixed gamO0_good Tryd.func29 (by kernel_rfl) rfl fun d args σ K h => ?_
 simp only [derS] at h
 split at h <;> try exact h.elim
 rename_i x nonce
 obtain ⟨key, ⟨⟨hr, hk, hn⟩, hK⟩, hrow⟩ := rdb_row h
 refine ⟨_, _, .row [.ints .u8] _ hrow (by decide) (.plain (plain_ints _ _ _) (.glob (roots_at hr) (by intro m; rfl) (.nil _))), by simp, 1, ?_⟩
 have e := oder_vc (Res d derS.news σ K) 0 key nonce
 refine e.mpr ?_
 have hl := hn.bl.len
 rw [show lsub nonce 0 16 = nonce from lsub_whole hl, key_bytes, exE80]
 simp only [llen_def, kB_len]
 refine ⟨fun q => ?_, fun q => ?_⟩
 ·rw [ine_true] at q; simp only [ofNat] at q
  have q' : ¬ key.length = 32 := by omega
  exact res_keys (by unfold dvB; rw [if_neg q']) (by unfold dvM; rw [if_neg q']) (by unfold dvR; rw [if_neg q']) (by unfold dvE; rw [if_neg q']) hK
 ·rw [ine_false] at q; simp only [ofNat] at q
  have q' : key.length = 32 := by omega
  have l1 : (lsub (kB key nonce) 0 16).length = 16 := lsub_length (by rw [kB_len]; omega)
  have l2 : (lsub (kB key nonce) 16 32).length = 32 := lsub_length (by rw [kB_len]; omega)
  have l3 : (lsub (kB key nonce) 48 32).length = 32 := lsub_length (by rw [kB_len]; omega)
  refine ⟨⟨by omega, by omega⟩, ⟨by omega⟩, ⟨trivial, hk.sg, ⟨by omega⟩, ⟨by decide⟩⟩, fun r => ?_, fun _ => ⟨⟨⟨by omega⟩, ⟨by omega⟩⟩, ⟨by omega⟩, ⟨by omega⟩, ⟨⟨⟨by omega⟩, ⟨by omega⟩⟩, ⟨by omega⟩, ⟨by omega⟩⟩, ⟨by omega⟩, ⟨by omega⟩, ⟨⟨by omega⟩, ⟨by omega⟩⟩, ⟨by simp only [nsub_def]; omega⟩, ⟨by omega⟩, ⟨by omega⟩, ⟨by simp only [nadd_def]; omega⟩, ⟨by simp only [nadd_def]; omega⟩, ?_⟩⟩
  ·rw [ine_true] at r; exact absurd rfl r
  ·refine res_keys ?_ ?_ ?_ ?_ hK
   ·unfold dvB; rw [if_pos q']; exact lput_full (by rw [l1]; rfl)
   ·unfold dvM; rw [if_pos q']; exact lput_full (by rw [l2]; rfl)
   ·unfold dvR; rw [if_pos q']; exact lput_full (by rw [l3]; rfl)
   ·unfold dvE; rw [if_pos q']
theorem upto_all {n : Nat} {l : List Int} (h : l.length = n) : upto n n (lget l) (fun _ => 0) = l := by rw [upto_done, ← eq_tab h]
theorem good_oreder : Sx.Good Tryd.prog 55 rderS := by
 refine Sx.Good.reads (D := []) mixed gamO0_good Tryd.func55 (by kernel_rfl) rfl fun d args σ K h => ?_
 simp only [rderS] at h
 split at h <;> try exact h.elim
 rename_i x nonce
 obtain ⟨key, ⟨⟨hk, hn⟩, hK⟩, hrow⟩ := rdb_row h
 refine ⟨_, _, .row [.ints .u8] _ hrow (by decide) (.plain (plain_ints _ _ _) (.nil _)), by simp, ?_⟩
 have hl := hn.bl.len
 have en : lsub nonce 0 16 = nonce := lsub_whole hl
 by_cases q' : key.length = 32
 ·have l1 : (lsub (kB key nonce) 0 16).length = 16 := lsub_length (by rw [kB_len]; omega)
  have l2 : (lsub (kB key nonce) 16 32).length = 32 := lsub_length (by rw [kB_len]; omega)
  have l3 : (lsub (kB key nonce) 48 32).length = 32 := lsub_length (by rw [kB_len]; omega)
  have g1 : ∀ i, i < 16 → lget (kB key nonce) i = lget (lsub (kB key nonce) 0 16) i := fun i hi => by rw [lget_lsub hi, Nat.zero_add]
  have g2 : ∀ i, i < 32 → lget (kB key nonce) (16 + i) = lget (lsub (kB key nonce) 16 32) i := fun i hi => by rw [lget_lsub hi]
  have g3 : ∀ i, i < 32 → lget (kB key nonce) (48 + i) = lget (lsub (kB key nonce) 48 32) i := fun i hi => by rw [lget_lsub hi]
  obtain ⟨f, hf⟩ := loop_ex (fun f i (y : List Int × List Int × List Int) => order_.l0 (Res d rderS.news σ K) nonce key f i y.1 y.2.1 y.2.2) 80
   (fun i => (upto 16 (min i 16) (lget (lsub (kB key nonce) 0 16)) (fun _ => 0), upto 32 (min (i - 16) 32) (lget (lsub (kB key nonce) 16 32)) (fun _ => 0), upto 32 (i - 48) (lget (lsub (kB key nonce) 48 32)) (fun _ => 0)))
   (fun g i hi h => ⟨g + 1, by
    rw [order_.l0_succ, en, key_bytes]
    simp only [nat_cast, llen_def, kB_len, InB_iff, Low_iff, nadd_def, Nat.zero_add]
    rw [add1_i64 (by omega)]
    refine ⟨fun _ => ⟨fun r => ?_, fun r => ⟨fun t => ?_, fun t => ?_⟩⟩, fun r => ?_⟩
    ·rw [ilt_true] at r
     have hi16 : i < 16 := by omega
     have e1 : min i 16 = i := by omega
     have e2 : min (i + 1) 16 = i + 1 := by omega
     have e3 : min (i - 16) 32 = min (i + 1 - 16) 32 := by omega
     have e4 : i - 48 = i + 1 - 48 := by omega
     simp only [e2, ← e3, ← e4] at h
     rw [g1 i hi16, e1, upto_lset rfl]
     exact ⟨⟨by omega, by omega⟩, ⟨by omega, by omega⟩, by omega, h⟩
    ·rw [ilt_false] at r; rw [ilt_true] at t
     obtain ⟨k, rfl⟩ : ∃ k, i = 16 + k := ⟨i - 16, by omega⟩
     have hk32 : k < 32 := by omega
     have es : sub .i64 ((16 + k : Nat) : Int) 16 = ((k : Nat) : Int) := by rw [sub_i64 (by omega) (by omega)]; omega
     have e1 : min (16 + k) 16 = 16 := by omega
     have e2 : min (16 + k + 1) 16 = 16 := by omega
     have e3 : min (16 + k - 16) 32 = k := by omega
     have e3' : min (16 + k + 1 - 16) 32 = k + 1 := by omega
     have e4 : 16 + k - 48 = 16 + k + 1 - 48 := by omega
     simp only [e2, e3', ← e4] at h
     rw [es, nat_cast, e1, e3, g2 k hk32, upto_lset rfl]
     exact ⟨⟨by omega, by omega⟩, ⟨by omega, by omega⟩, by omega, h⟩
    ·rw [ilt_false] at r t
     obtain ⟨k, rfl⟩ : ∃ k, i = 48 + k := ⟨i - 48, by omega⟩
     have hk32 : k < 32 := by omega
     have es : sub .i64 ((48 + k : Nat) : Int) 48 = ((k : Nat) : Int) := by rw [sub_i64 (by omega) (by omega)]; omega
     have e1 : min (48 + k) 16 = 16 := by omega
     have e2 : min (48 + k + 1) 16 = 16 := by omega
     have e3 : min (48 + k - 16) 32 = 32 := by omega
     have e3' : min (48 + k + 1 - 16) 32 = 32 := by omega
     have e4 : 48 + k - 48 = k := by omega
     have e4' : 48 + k + 1 - 48 = k + 1 := by omega
     simp only [e2, e3', e4'] at h
     rw [es, nat_cast, e1, e3, e4, g3 k hk32, upto_lset rfl]
     exact ⟨⟨by omega, by omega⟩, ⟨by omega, by omega⟩, by omega, h⟩
    ·rw [ilt_false] at r; omega⟩)
   ⟨1, by
    rw [order_.l0_succ]
    refine ⟨fun r => ?_, fun _ => ?_⟩
    ·rw [ilt_true] at r; omega
    ·exact res_keys (by rw [show min 80 16 = 16 by decide, upto_all l1]; unfold dvB; rw [if_pos q']) (by rw [show min (80 - 16) 32 = 32 by decide, upto_all l2]; unfold dvM; rw [if_pos q'])
      (by rw [show 80 - 48 = 32 by decide, upto_all l3]; unfold dvR; rw [if_pos q']) (by unfold dvE; rw [if_pos q']) hK⟩ 0 (by omega)
  refine ⟨f + 1, ?_⟩
  have e := order__vc (Res d rderS.news σ K) f key nonce
  simp only [Nat.zero_min, Nat.zero_sub, upto_zero, ← lzeros_tab] at hf
  refine e.mpr ⟨fun q => ?_, fun _ => ⟨⟨by omega, by omega⟩, ⟨by omega⟩, ⟨⟨hk.sg, hk.bs⟩, ⟨⟨by rw [en]; omega⟩, by rw [en]; exact hn.bl.bs⟩, ⟨by decide⟩, ⟨by decide⟩⟩, hf⟩⟩
  rw [ine_true] at q; simp only [ofNat, llen] at q; omega
 ·refine ⟨1, ?_⟩
  have e := order__vc (Res d rderS.news σ K) 0 key nonce
  refine e.mpr ⟨fun _ => ?_, fun q => ?_⟩
  ·exact res_keys (by unfold dvB; rw [if_neg q']) (by unfold dvM; rw [if_neg q']) (by unfold dvR; rw [if_neg q']) (by unfold dvE; rw [if_neg q']) hK
  ·rw [ine_false] at q; simp only [ofNat, llen] at q; omega
theorem good_ohalf : Sx.Good Tryd.prog 58 halfS := by
 refine Sx.Good.reads (D := []) mixed gamO0_good Tryd.func58 (by kernel_rfl) rfl fun d args σ K h => ?_
 simp only [halfS] at h
 split at h <;> try exact h.elim
 rename_i m x
 obtain ⟨msg, ⟨⟨hm, hg⟩, hK⟩, hrow⟩ := rdb_row h
 refine ⟨_, _, .plain (plain_ints _ _ _) (.row [.ints .u8] _ hrow (by decide) (.nil _)), by simp, ?_⟩
 have em : lsub m 0 32 = m := lsub_whole hm.bl.len
 have hl : (lsub (tagL m msg) 0 16).length = 16 := lsub_length (by rw [tag_len]; omega)
 obtain ⟨f, hf⟩ := loop_ex (fun f i y => ohalf.l0 (Res d halfS.news σ K) m msg f i y) 16 (fun i => upto 16 i (lget (lsub (tagL m msg) 0 16)) (fun _ => 0))
  (fun g i hi h => ⟨g + 1, by
   rw [ohalf.l0_succ, em]
   simp only [nat_cast, InB_iff, Low_iff, nadd_def, Nat.zero_add]
   rw [add1_i64 (by omega)]
   have e1 : lget (tagL m msg) i = lget (lsub (tagL m msg) 0 16) i := by rw [lget_lsub hi, Nat.zero_add]
   refine ⟨fun _ => ?_, fun r => ?_⟩
   ·rw [e1, upto_lset rfl]
    exact ⟨⟨by omega, by omega⟩, by omega, ⟨by omega, by omega⟩, by omega, h⟩
   ·rw [ilt_false] at r; omega⟩)
  ⟨1, by
   rw [ohalf.l0_succ]
   refine ⟨fun r => ?_, fun _ => res_arr (upto_all hl) hK⟩
   rw [ilt_true] at r; omega⟩ 0 (by omega)
 refine ⟨f + 1, ?_⟩
 have e := ohalf_vc (Res d halfS.news σ K) f m msg
 rw [upto_zero, ← lzeros_tab] at hf
 rw [em] at e
 exact e.mpr ⟨⟨by omega⟩, ⟨⟨⟨by rw [hm.bl.len]; omega⟩, hm.bl.bs⟩, hg.sg, hg.bs⟩, hf⟩
theorem good_otagged : Sx.Good Tryd.prog 31 taggedS := by
 refine Sx.Good.reads (D := [⟨8, [.ints .u8], true, true⟩]) mixed gamO0_good Tryd.func31 (by kernel_rfl) rfl fun d args σ K h => ?_
 simp only [taggedS] at h
 split at h <;> try exact h.elim
 rename_i kb km kr left nonce x
 obtain ⟨box, ⟨⟨hr, hm, hn, hb⟩, hK⟩, hrow⟩ := rdb_row h
 refine ⟨_, _, .plain (fun n => rfl) (.plain (plain_int _ _) (.plain (plain_ints _ _ _) (.row [.ints .u8] _ hrow (by decide) (.glob (roots_at hr) (by intro m; rfl) (.nil _))))), by simp, 1, ?_⟩
 have e := otagged_vc (Res d taggedS.news σ K) 0 kb km kr nonce box left
 refine e.mpr ?_
 have en : lsub nonce 0 16 = nonce := lsub_whole hn.bl.len
 have em : lsub km 0 32 = km := lsub_whole hm.bl.len
 have ln := hn.bl.len
 have lm := hm.bl.len
 have lb := hb.sh
 have hg : Sg ([conv .u8 left] ++ nonce ++ box) := ⟨by simp only [List.length_append, List.length_singleton]; omega⟩
 have hk : otagged.k0 (Res d taggedS.news σ K) kb km kr left nonce box 0 := by
  rw [otagged.k0_eq]
  refine ⟨⟨⟨by omega⟩, ⟨by omega⟩⟩, res_vec (k := .u8) rfl ?_ hK⟩
  rw [en, em, tagL_eq]; rfl
 simp only [en, em, lcat_def, nadd_def, llen_def, List.length_append, List.length_singleton]
 have r1 : Room (1 + nonce.length) 1 := roomw (by omega)
 have r2 : Room (1 + nonce.length + box.length) 1 := roomw (by omega)
 have hs : Sg km := ⟨by omega⟩
 exact ⟨⟨by omega⟩, r1, ⟨r2, ⟨⟨by omega⟩, ⟨trivial, hs, hg⟩, hk⟩, ⟨by omega⟩, ⟨trivial, hs, hg⟩, hk⟩, r2, ⟨by omega⟩, ⟨trivial, hs, hg⟩, hk⟩
theorem gamO1_good : GoodG Tryd.prog gamO1 :=
 (((((gamO0_good.ext good_osize ⟨_, Tryd.func27, by decide, by kernel_rfl⟩).ext good_orsize ⟨_, Tryd.func42, by decide, by kernel_rfl⟩).ext good_oder ⟨_, Tryd.func29, by decide, by kernel_rfl⟩).ext good_oreder ⟨_, Tryd.func55, by decide, by kernel_rfl⟩).ext good_ohalf ⟨_, Tryd.func58, by decide, by kernel_rfl⟩).ext good_otagged ⟨_, Tryd.func31, by decide, by kernel_rfl⟩
end Go.Proofs.YtienfecnkglilaaDoor.G
namespace Go.Oni
open Go Go.Sx Go.Hsh Go.Mac Go.Blk Go.Cel Go.Fld
theorem inN_nat {pl : List Int} (h : Bs pl) : ∃ n : Nat, inN pl = (n : Int) ∧ n < 65536 ∧ bor .i64 (shl .i64 (conv .i64 (lget pl 0)) 8) (conv .i64 (lget pl 1)) = (n : Int) ∧ add .i64 (mul .i64 256 (conv .i64 (lget pl 0))) (conv .i64 (lget pl 1)) = (n : Int) := by
 obtain ⟨a, ea, ha, _⟩ : ∃ n : Nat, lget pl 0 = (n : Int) ∧ n < 256 ∧ True := ⟨(lget pl 0).toNat, by have := (h.get 0).1; show lget pl 0 = _; unfold lget; omega, by have := (h.get 0); unfold lget; omega, trivial⟩
 obtain ⟨b, eb, hb, _⟩ : ∃ n : Nat, lget pl 1 = (n : Int) ∧ n < 256 ∧ True := ⟨(lget pl 1).toNat, by have := (h.get 1).1; show lget pl 1 = _; unfold lget; omega, by have := (h.get 1); unfold lget; omega, trivial⟩
 refine ⟨256 * a + b, by unfold inN; rw [ea, eb]; omega, by omega, ?_, ?_⟩
 ·rw [ea, eb, conv_i64 (by omega) (by omega), conv_i64 (by omega) (by omega)]
  have e1 : shl .i64 (a : Int) 8 = ((a * 2 ^ 8 : Nat) : Int) := shl_i64 (n := 8) (by decide) (by omega)
  rw [e1, bor_i64 (by omega) (by omega), or_add (n := 8) (by omega)]
  omega
 ·rw [ea, eb, conv_i64 (by omega) (by omega), conv_i64 (by omega) (by omega), mul_i64 (by omega) (by omega), add_i64 (by omega) (by omega)]
  omega
theorem zb_true {l : List Int} : zb l = true ↔ ∀ i, i < l.length → lget l i = 0 := by
 unfold zb
 rw [List.all_eq_true]
 constructor
 ·intro h i hi
  have := h (lget l i) (List.mem_of_getElem? (lget_some hi))
  simpa using this
 ·intro h x hx
  obtain ⟨i, hi, rfl⟩ := List.mem_iff_getElem.mp hx
  have e := h i hi
  unfold lget at e
  rw [List.getD_eq_getElem?_getD, List.getElem?_eq_getElem hi] at e
  simpa using e
theorem lget_drop (l : List Int) (k i : Nat) : lget (l.drop k) i = lget l (k + i) := by
 unfold lget; rw [List.getD_eq_getElem?_getD, List.getD_eq_getElem?_getD, List.getElem?_drop]
theorem pl_fill {a b : Int} {S : Nat} {inner : List Int} (h : inner.length + 2 ≤ S) :
  lput (lset (lset (lzeros S) 0 a) 1 b) 2 inner = a :: b :: (inner ++ lzeros (S - 2 - inner.length)) := by
 obtain ⟨T, rfl⟩ : ∃ T, S = T + 2 := ⟨S - 2, by omega⟩
 have e : lset (lset (lzeros (T + 2)) 0 a) 1 b = a :: b :: lzeros T := rfl
 rw [e]
 unfold lput lzeros
 simp only [List.take_succ_cons, List.take_zero, List.cons_append, List.nil_append]
 rw [show 2 + inner.length = inner.length + 1 + 1 by omega, List.drop_succ_cons, List.drop_succ_cons, List.drop_replicate]
 rfl
theorem plO_some {left : Int} (h1 : 1 ≤ left) (h2 : left ≤ 8) {inner : List Int} : plO left inner = ((inner.length / 256 : Nat) : Int) :: ((inner.length % 256 : Nat) : Int) :: (inner ++ lzeros (14 + (34 * left).toNat - inner.length)) := by
 unfold plO
 rw [sizeI_some h1 h2, show (48 + 34 * left - 34).toNat = 14 + (34 * left).toNat by omega]
theorem plO_len {left : Int} (h1 : 1 ≤ left) (h2 : left ≤ 8) {inner : List Int} (h : (inner.length : Int) ≤ sizeI left - 34) : ((plO left inner).length : Int) = sizeI left - 32 := by
 rw [plO_some h1 h2]
 rw [sizeI_some h1 h2] at h ⊢
 simp only [List.length_cons, List.length_append, lzeros, List.length_replicate]
 omega
theorem plO_bs {left : Int} {inner : List Int} (h : Bs inner) (hl : inner.length < 65536) : Bs (plO left inner) :=
 .cons (by omega) (by omega) (.cons (by omega) (by omega) (h.app (zeros_bs _)))
theorem lf_of {left : Int} (h1 : 1 ≤ left) (h2 : left ≤ 8) : Lf left := ⟨by omega, by omega⟩
end Go.Oni
namespace Go.Proofs.YtienfecnkglilaaDoor.G
open Go Go.Sx Go.Hsh Go.Mac Go.Blk Go.Cel Go.Oni Go.Fld
set_option maxRecDepth 20000
theorem sizeI_rng (left : Int) : 0 ≤ sizeI left ∧ sizeI left ≤ 320 := by unfold sizeI; split <;> omega
theorem good_oroom : Sx.Good Tryd.prog 45 roomS := by
 refine Sx.Good.pure (D := []) mixed gamO1_good Tryd.func45 (by kernel_rfl) rfl fun d args σ K h => ?_
 simp only [roomS] at h
 split at h <;> try exact h.elim
 rename_i left
 obtain ⟨hl, hK⟩ := h
 refine ⟨by simp [plain_int], _, plain_int _ _, hK, 0 + 1, ?_⟩
 rw [oroom_vc]
 have := sizeI_rng left
 refine ⟨hl, ?_⟩
 rw [sub_i64 (by omega) (by omega)]; rfl
theorem gamO1x_good : GoodG Tryd.prog gamO1x := gamO1_good.ext good_oroom ⟨_, Tryd.func45, by decide, by kernel_rfl⟩
theorem oinside_l0 {R : AV → Mem → Prop} {pl : List Int} {N L : Nat} (hb : Bs pl) (hN : N < 65536) (hL : 2 + N + L = pl.length) (hl : pl.length < 1000000)
  (eN : bor .i64 (shl .i64 (conv .i64 (lget pl 0)) 8) (conv .i64 (lget pl 1)) = (N : Int))
  (hno : zb (pl.drop (2 + N)) = false → ∀ σ, R (.tup [.c (.con (.slice none 0 0)), .c (.lit false)]) σ) (hyes : zb (pl.drop (2 + N)) = true → ∀ σ, R (.tup [.c (.vsl 200000 1 2 N), .c (.lit true)]) σ) :
  ∀ (k i : Nat), k = L - i → i ≤ L → (∀ j, j < i → lget pl (2 + N + j) = 0) → ∃ f, oinside.l0 R pl (2 + N) L (L : Int) f (i : Int) := by
 intro k
 induction k with
 | zero =>
  intro i hk hi hz
  obtain rfl : i = L := by omega
  refine ⟨1, ?_⟩
  rw [oinside.l0_succ, eN]
  have e2 : add .i64 2 (N : Int) = ((2 + N : Nat) : Int) := addN_i64 (a := 2) (by omega)
  refine ⟨fun q => ?_, fun _ => ⟨⟨?_, ?_⟩, ?_⟩⟩
  ·rw [ilt_true] at q; omega
  ·rw [e2]; simp only [NonNeg_iff, Fits_iff, nat_cast, llen_def]; omega
  ·rw [e2]; simp only [NonNeg_iff, Fits_iff, nat_cast]; omega
  ·rw [e2]
   simp only [nat_cast, nsub_def]
   rw [show 2 + N - 2 = N by omega]
   refine hyes ?_ _
   rw [zb_true]
   intro j hj
   rw [List.length_drop] at hj
   rw [lget_drop]
   exact hz j (by omega)
 | succ k ih =>
  intro i hk hi hz
  by_cases h0 : lget pl (2 + N + i) = 0
  ·obtain ⟨f, hf⟩ := ih (i + 1) (by omega) (by omega) (fun j hj => by
    by_cases e : j = i
    ·rw [e]; exact h0
    ·exact hz j (by omega))
   refine ⟨f + 1, ?_⟩
   rw [oinside.l0_succ]
   simp only [nat_cast, nadd_def, InB_iff]
   rw [add1_i64 (by omega)]
   refine ⟨fun _ => ⟨⟨by omega, by omega⟩, fun q => ?_, fun _ => hf⟩, fun q => ?_⟩
   ·rw [ine_true] at q; exact absurd h0 q
   ·rw [ilt_false] at q; omega
  ·refine ⟨1, ?_⟩
   rw [oinside.l0_succ]
   simp only [nat_cast, nadd_def, InB_iff]
   refine ⟨fun _ => ⟨⟨by omega, by omega⟩, fun _ => ?_, fun q => ?_⟩, fun q => ?_⟩
   ·refine hno ?_ _
    cases hz2 : zb (pl.drop (2 + N)) with
    | false => rfl
    | true =>
     have := zb_true.mp hz2 i (by rw [List.length_drop]; omega)
     rw [lget_drop] at this
     exact absurd this h0
   ·rw [ine_false] at q; exact absurd q h0
   ·rw [ilt_false] at q; omega
def viewR (n : Nat) (left : Int) (σ : Mem) (K : AV → Mem → Prop) : AV → Mem → Prop :=
 fun av _ => ∃ ts us, av = AV.tup ts ∧ ViewT [.one (.vec n), .one (.int .i64 left)] [.one (.vec 200000), .one (.int .i64 left)] σ ts us ∧ K (.tup us) σ
theorem good_oinside : Sx.Good Tryd.prog 32 insideS := by
 refine Sx.Good.view (D := []) mixed gamO1x_good Tryd.func32 (by kernel_rfl) rfl fun d args σ K h => ?_
 simp only [insideS] at h
 split at h <;> try exact h.elim
 rename_i n left
 split at h <;> try exact h.elim
 rename_i pl hcs
 obtain ⟨hb, h1, h2⟩ := h
 obtain ⟨lo, hi, hlen, hbs⟩ := hb
 obtain ⟨N, eN, hN, eB, _⟩ := inN_nat hbs
 have hsz := sizeI_some lo hi
 have hrow : rdx σ [.ints .u8] (.one (.vec n)) (fun c => c = [.ints .u8 pl]) := by simp only [rdx]; rw [hcs]
 have pc : ∀ a, PlainC a a → True := fun _ _ => trivial
 have hno : inOk pl left = false → ∀ σ' : Mem, (viewR n left σ K) (.tup [.c (.con (.slice none 0 0)), .c (.lit false)]) σ' :=
  fun q _ => ⟨_, [.c (.con (.slice none 0 0)), .c (.lit false)], rfl, ⟨Or.inl (fun _ _ _ q => q), Or.inl (fun _ _ _ q => q), trivial⟩, h1 q⟩
 have hyes : inOk pl left = true → ∀ σ' : Mem, (viewR n left σ K) (.tup [.c (.vsl 200000 1 2 N), .c (.lit true)]) σ' :=
  fun q _ => ⟨_, [.c (.vsl n 1 2 N), .c (.lit true)], rfl, ⟨Or.inr ⟨0, n, 1, 2, N, _, rfl, rfl, hcs, rfl, rfl⟩, Or.inl (fun _ _ _ q => q), trivial⟩, by have := h2 q; rw [eN, nat_cast] at this; exact this⟩
 have hlf := lf_of lo hi
 have hcan : Canon σ 0 [.one (.vec n), .one (.int .i64 left)] [.one (.vec 200000), .one (.int .i64 left)] [(200000, .rview [.ints .u8 pl])] := .row [.ints .u8] _ hrow (by decide) (.plain (plain_int _ _) (.nil _))
 have hok : inOk pl left = (decide ((N : Int) ≤ sizeI left - 34) && zb (pl.drop (2 + N))) := by unfold inOk; rw [eN, Int.toNat_natCast]
 by_cases hr : (N : Int) ≤ sizeI left - 34
 ·have hok' : inOk pl left = zb (pl.drop (2 + N)) := by rw [hok, decide_eq_true hr, Bool.true_and]
  rw [hok'] at hno hyes
  obtain ⟨f, hf⟩ := oinside_l0 (R := viewR n left σ K) hbs hN (L := pl.length - (2 + N)) (by omega) (by omega) eB hno hyes _ 0 rfl (by omega) (fun j hj => by omega)
  refine ⟨_, _, hcan, by simp, f + 1, ?_⟩
  have e := oinside_vc (viewR n left σ K) f pl left
  refine e.mpr ?_
  have e2 : add .i64 2 (N : Int) = ((2 + N : Nat) : Int) := addN_i64 (a := 2) (by omega)
  rw [eB, e2]
  simp only [llen_def, nat_cast, nsub_def, InB_iff, NonNeg_iff, Fits_iff, ofNat_def]
  refine ⟨⟨by omega, by omega⟩, by omega, ⟨by omega, by omega⟩, hlf, fun q => ?_, fun _ => ⟨⟨by omega, by omega⟩, hf⟩⟩
  rw [igt_true] at q; unfold roomI at q; omega
 ·have hok' : inOk pl left = false := by rw [hok, decide_eq_false hr, Bool.false_and]
  refine ⟨_, _, hcan, by simp, 1, ?_⟩
  have e := oinside_vc (viewR n left σ K) 0 pl left
  refine e.mpr ?_
  rw [eB]
  simp only [llen_def, nat_cast, nsub_def, InB_iff, NonNeg_iff, Fits_iff, ofNat_def]
  refine ⟨⟨by omega, by omega⟩, by omega, ⟨by omega, by omega⟩, hlf, fun _ => hno hok' _, fun q => ?_⟩
  rw [igt_false] at q; unfold roomI at q; omega
theorem good_ortag : Sx.Good Tryd.prog 56 rtagOS := by
 refine Sx.Good.reads (D := []) mixed gamO1_good Tryd.func56 (by kernel_rfl) rfl fun d args σ K h => ?_
 simp only [rtagOS] at h
 split at h <;> try exact h.elim
 rename_i kb km kr left nonce x
 obtain ⟨box, ⟨⟨hm, hn, hb⟩, hK⟩, hrow⟩ := rdb_row h
 refine ⟨_, _, .plain (fun n => rfl) (.plain (plain_int _ _) (.plain (plain_ints _ _ _) (.row [.ints .u8] _ hrow (by decide) (.nil _)))), by simp, 1, ?_⟩
 have e := ortag_vc (Res d rtagOS.news σ K) 0 kb km kr nonce box left
 refine e.mpr ?_
 have en : lsub nonce 0 16 = nonce := lsub_whole hn.bl.len
 have em : lsub km 0 32 = km := lsub_whole hm.bl.len
 have ln := hn.bl.len
 have lb := hb.sh
 simp only [en, em, lcat_def, nadd_def, llen_def, List.length_append, List.length_singleton]
 refine ⟨⟨by omega⟩, roomw (by omega), roomw (by omega), ⟨by omega⟩, ⟨hm, ⟨⟨by simp only [List.length_append, List.length_singleton]; omega⟩, ?_⟩⟩, res_arr ?_ hK⟩
 ·exact ((Bs.cons (conv_u8_byte _).1 (conv_u8_byte _).2 .nil).app hn.bl.bs).app hb.bs
 ·rw [tagL_eq]; rfl
theorem gamO2_good : GoodG Tryd.prog gamO2 :=
 (gamO1x_good.ext good_ortag ⟨_, Tryd.func56, by decide, by kernel_rfl⟩).ext good_oinside ⟨_, Tryd.func32, by decide, by kernel_rfl⟩
theorem good_oforge : Sx.Good Tryd.prog 43 forgeS := by
 refine Sx.Good.reads (D := []) mixed gamO2_good Tryd.func43 (by kernel_rfl) rfl fun d args σ K h => ?_
 simp only [forgeS] at h
 split at h <;> try exact h.elim
 rename_i x nonce left y
 obtain ⟨key, h, hrow⟩ := rdb_row h
 obtain ⟨pl, ⟨hf, hK⟩, hrow2⟩ := rdb_row h
 refine ⟨_, _, .row [.ints .u8] _ hrow (by decide) (.plain (plain_ints _ _ _) (.plain (plain_int _ _) (.row [.ints .u8] _ hrow2 (by decide) (.nil _)))), by simp, 1, ?_⟩
 have e := oforge_vc (Res d forgeS.news σ K) 0 key nonce pl left
 refine e.mpr ?_
 have hB := dvB_bl key nonce
 have en : lsub nonce 0 16 = nonce := lsub_whole hf.nn.len
 have ln := hf.nn.len
 have lp := hf.few
 have hz : BL 16 (lzeros 16) := bl_of rfl (zeros_bs _)
 have eb : lsub (dvB key nonce) 0 16 = dvB key nonce := lsub_whole hB.len
 have hmb : Bs (mask (ks (dvB key nonce)) (lzeros 16) pl) := mask_bs (ks_bl hB) hz hf.bs
 have lm := mask_length (ks (dvB key nonce)) (lzeros 16) pl
 have lt := tagO_len (dvM key nonce) left nonce (mask (ks (dvB key nonce)) (lzeros 16) pl)
 have et : lsub (tagO (dvM key nonce) left nonce (mask (ks (dvB key nonce)) (lzeros 16) pl)) 0 16 = tagO (dvM key nonce) left nonce (mask (ks (dvB key nonce)) (lzeros 16) pl) := lsub_whole lt
 have ea : add .i64 32 (pl.length : Int) = ((32 + pl.length : Nat) : Int) := addN_i64 (a := 32) (by omega)
 simp only [eb, en, et, lcat_def, nadd_def, llen_def, ofNat_def, List.length_append, lm, ln, lt, ea, show lzeros 0 = [] from rfl, List.nil_append, List.length_nil, Mk_iff]
 refine ⟨⟨hf.ky, ⟨hf.nn⟩⟩, ⟨by omega⟩, ⟨⟨hB, hz⟩, ⟨by omega⟩, hf.bs⟩, ⟨⟨dvM_bl _ _⟩, ⟨hf.nn⟩, ⟨by omega, hmb⟩⟩, by omega, ⟨by omega⟩, room1 (by omega), ⟨by omega⟩, room1 (by omega), room1 (by omega), res_vec (k := .u8) rfl rfl hK⟩
theorem gamO3_good : GoodG Tryd.prog gamO3 := gamO2_good.ext good_oforge ⟨_, Tryd.func43, by decide, by kernel_rfl⟩
end Go.Proofs.YtienfecnkglilaaDoor.G
namespace Go.Proofs.YtienfecnkglilaaDoor.G
open Go Go.Sx Go.Oni
set_option maxRecDepth 100000
def opeel.k0 (R : AV → Mem → Prop) (left : Int) (key c : List Int) (y4 : Nat) (y0 : Bool) (y2 y5 : List Int) (fuel : Nat) : Prop := runM Tryd.prog gamO3 [] (resh Tryd.prog [] Tryd.f15.results.toList R) (rN Tryd.prog gamO3 [] Tryd.f15 R fuel) 3961 [kc Tryd.f15 [1,1,1,1,1,1,1,1,1,1,1,1]] (Vv 200000::Ii left::Vv 200002::Zz::Zz::Zz::AV.one (AC.ptr 6 0 0)::Ii 0::Vv 30::Ii (dvE key)::AV.one (AC.ptr 10 0 0)::AV.one (AC.ptr 11 0 0)::AV.one (AC.vsl 30 1 32 (nsub (llen (Go.Cel.cutR c (sizeI left))) 32))::AV.one (AC.vsl 67 1 2 y4)::Ll true::AV.one (AC.ptr 15 0 0)::Zz::Vv 200000::Ii (ofNat (llen key))::Bb (ine (ofNat (llen key)) 32)::Ll false::Ii left::Ii (sizeI left)::Bb (ieq (sizeI left) 0)::Ll false::Zz::AV.tup [TV.c (AC.vec 30),TV.c (AC.int IntKind.i64 (Go.Cel.cutE c (sizeI left)))]::Vv 200002::Ii left::Ii (sizeI left)::AV.tup [TV.c (AC.vec 30),TV.c (AC.int IntKind.i64 (Go.Cel.cutE c (sizeI left)))]::Vv 30::Ii (Go.Cel.cutE c (sizeI left))::Ii (Go.Cel.cutE c (sizeI left))::Ll false::Zz::Zz::Vv 30::AV.one (AC.vptr 30 1 0 0 0)::(AV.agg [Seg.ints IntKind.u8 16 (lsub (Go.Cel.cutR c (sizeI left)) 0 16)])::AV.tup [(TV.g [Seg.ints IntKind.u8 16 (dvB key (lsub (Go.Cel.cutR c (sizeI left)) 0 16)),Seg.ints IntKind.u8 32 (dvM key (lsub (Go.Cel.cutR c (sizeI left)) 0 16)),Seg.ints IntKind.u8 32 (dvR key (lsub (Go.Cel.cutR c (sizeI left)) 0 16))]),TV.c (AC.int IntKind.i64 (dvE key))]::Vv 200000::(AV.agg [Seg.ints IntKind.u8 16 (lsub (Go.Cel.cutR c (sizeI left)) 0 16)])::AV.tup [(TV.g [Seg.ints IntKind.u8 16 (dvB key (lsub (Go.Cel.cutR c (sizeI left)) 0 16)),Seg.ints IntKind.u8 32 (dvM key (lsub (Go.Cel.cutR c (sizeI left)) 0 16)),Seg.ints IntKind.u8 32 (dvR key (lsub (Go.Cel.cutR c (sizeI left)) 0 16))]),TV.c (AC.int IntKind.i64 (dvE key))]::(AV.agg [Seg.ints IntKind.u8 16 (dvB key (lsub (Go.Cel.cutR c (sizeI left)) 0 16)),Seg.ints IntKind.u8 32 (dvM key (lsub (Go.Cel.cutR c (sizeI left)) 0 16)),Seg.ints IntKind.u8 32 (dvR key (lsub (Go.Cel.cutR c (sizeI left)) 0 16))])::Ii (dvE key)::Ii (dvE key)::Ll false::Zz::Zz::Vv 30::AV.one (AC.vsl 30 1 32 (nsub (llen (Go.Cel.cutR c (sizeI left))) 32))::Vv 30::AV.one (AC.vsl 30 1 16 16)::(AV.agg [Seg.ints IntKind.u8 16 (dvB key (lsub (Go.Cel.cutR c (sizeI left)) 0 16)),Seg.ints IntKind.u8 32 (dvM key (lsub (Go.Cel.cutR c (sizeI left)) 0 16)),Seg.ints IntKind.u8 32 (dvR key (lsub (Go.Cel.cutR c (sizeI left)) 0 16))])::Ii left::(AV.agg [Seg.ints IntKind.u8 16 (lsub (Go.Cel.cutR c (sizeI left)) 0 16)])::AV.one (AC.vsl 30 1 32 (nsub (llen (Go.Cel.cutR c (sizeI left))) 32))::Vv 58::Bb y0::Ll false::Zz::AV.tup [TV.c (AC.vsl 67 1 2 y4),TV.c (AC.lit true)]::AV.one (AC.ptr 11 0 0)::(AV.agg [Seg.ints IntKind.u8 16 (lsub (dvB key (lsub (Go.Cel.cutR c (sizeI left)) 0 16)) 0 16)])::(AV.agg [Seg.ints IntKind.u8 16 (lzeros 16)])::AV.one (AC.vsl 30 1 32 (nsub (llen (Go.Cel.cutR c (sizeI left))) 32))::Vv 67::Ii left::AV.tup [TV.c (AC.vsl 67 1 2 y4),TV.c (AC.lit true)]::AV.one (AC.vsl 67 1 2 y4)::Ll true::Ll true::Ll false::Zz::AV.one (AC.ptr 11 48 0)::AV.one (AC.sl 11 48 0 32 32)::Vv 30::AV.one (AC.vsl 30 1 0 32)::(AV.agg [Seg.ints IntKind.u8 32 (Go.Mac.tagL (lsub (dvR key (lsub (Go.Cel.cutR c (sizeI left)) 0 16)) 0 32) (lsub (Go.Cel.cutR c (sizeI left)) 0 32))])::(zs 23 [])) [(6,Blk.own 39 [Seg.cells [AC.con (Value.slice (Option.none) 0 0)],Seg.ints IntKind.u8 16 (lzeros 16)]),(10,Blk.own 37 [Seg.ints IntKind.u8 16 (lsub (Go.Cel.cutR c (sizeI left)) 0 16)]),(11,Blk.own 63 [Seg.ints IntKind.u8 16 (dvB key (lsub (Go.Cel.cutR c (sizeI left)) 0 16)),Seg.ints IntKind.u8 32 (dvM key (lsub (Go.Cel.cutR c (sizeI left)) 0 16)),Seg.ints IntKind.u8 32 (dvR key (lsub (Go.Cel.cutR c (sizeI left)) 0 16))]),(15,Blk.own 61 [Seg.ints IntKind.u8 32 (Go.Mac.tagL (lsub (dvR key (lsub (Go.Cel.cutR c (sizeI left)) 0 16)) 0 32) (lsub (Go.Cel.cutR c (sizeI left)) 0 32))]),(30,Blk.vec [Col.ints IntKind.u8 (Go.Cel.cutR c (sizeI left))]),(58,Blk.vec [Col.ints IntKind.u8 y2]),(67,Blk.vec [Col.ints IntKind.u8 y5]),(200000,Blk.rview [Col.ints IntKind.u8 key]),(200002,Blk.rview [Col.ints IntKind.u8 c]),(1000000,Blk.view [Seg.ints IntKind.u32 64 Go.Hsh.rootsL])]
theorem opeel.k0_eq (R : AV → Mem → Prop) (left : Int) (key c : List Int) (y4 : Nat) (y0 : Bool) (y2 y5 : List Int) (fuel : Nat) : opeel.k0 R left key c y4 y0 y2 y5 fuel = ((let y6 : List Int := (Go.Mac.tagL (lsub (dvR key (lsub (Go.Cel.cutR c (sizeI left)) 0 16)) 0 32) (lsub (Go.Cel.cutR c (sizeI left)) 0 32)); ((Fits 16 32) ∧ ((Fits 16 32) ∧ ((Fits 16 16) ∧ ((((igt left 1) = true) → ((Short (lsub y5 2 y4)) ∧ ((((ine (Go.Cel.padE (lsub y5 2 y4)) 0) = true) → (R (AV.tup [(TV.g [Seg.cells [AC.con (Value.slice (Option.none) 0 0)],Seg.ints IntKind.u8 16 (lzeros 16)]),TV.c (AC.int IntKind.i64 (Go.Cel.padE (lsub y5 2 y4)))]) [(6,Blk.own 39 [Seg.cells [AC.con (Value.slice (Option.none) 0 0)],Seg.ints IntKind.u8 16 (lzeros 16)]),(10,Blk.own 37 [Seg.ints IntKind.u8 16 (lsub (Go.Cel.cutR c (sizeI left)) 0 16)]),(11,Blk.own 63 [Seg.ints IntKind.u8 16 (dvB key (lsub (Go.Cel.cutR c (sizeI left)) 0 16)),Seg.ints IntKind.u8 32 (dvM key (lsub (Go.Cel.cutR c (sizeI left)) 0 16)),Seg.ints IntKind.u8 32 (dvR key (lsub (Go.Cel.cutR c (sizeI left)) 0 16))]),(15,Blk.own 61 [Seg.ints IntKind.u8 32 y6]),(16,Blk.own 39 [Seg.cells [AC.vec 88],Seg.ints IntKind.u8 16 (lput (lzeros 16) 0 (lsub y6 0 16))]),(30,Blk.vec [Col.ints IntKind.u8 (Go.Cel.cutR c (sizeI left))]),(58,Blk.vec [Col.ints IntKind.u8 y2]),(67,Blk.vec [Col.ints IntKind.u8 y5]),(88,Blk.vec [Col.ints IntKind.u8 (Go.Cel.padR (lsub y5 2 y4))]),(200000,Blk.rview [Col.ints IntKind.u8 key]),(200002,Blk.rview [Col.ints IntKind.u8 c]),(1000000,Blk.view [Seg.ints IntKind.u32 64 Go.Hsh.rootsL])])) ∧ (((ine (Go.Cel.padE (lsub y5 2 y4)) 0) = false) → (R (AV.tup [(TV.g [Seg.cells [AC.vec 88],Seg.ints IntKind.u8 16 (lput (lzeros 16) 0 (lsub y6 0 16))]),TV.c (AC.int IntKind.i64 0)]) [(6,Blk.own 39 [Seg.cells [AC.vec 88],Seg.ints IntKind.u8 16 (lput (lzeros 16) 0 (lsub y6 0 16))]),(10,Blk.own 37 [Seg.ints IntKind.u8 16 (lsub (Go.Cel.cutR c (sizeI left)) 0 16)]),(11,Blk.own 63 [Seg.ints IntKind.u8 16 (dvB key (lsub (Go.Cel.cutR c (sizeI left)) 0 16)),Seg.ints IntKind.u8 32 (dvM key (lsub (Go.Cel.cutR c (sizeI left)) 0 16)),Seg.ints IntKind.u8 32 (dvR key (lsub (Go.Cel.cutR c (sizeI left)) 0 16))]),(15,Blk.own 61 [Seg.ints IntKind.u8 32 y6]),(16,Blk.own 39 [Seg.cells [AC.vec 88],Seg.ints IntKind.u8 16 (lput (lzeros 16) 0 (lsub y6 0 16))]),(30,Blk.vec [Col.ints IntKind.u8 (Go.Cel.cutR c (sizeI left))]),(58,Blk.vec [Col.ints IntKind.u8 y2]),(67,Blk.vec [Col.ints IntKind.u8 y5]),(88,Blk.vec [Col.ints IntKind.u8 (Go.Cel.padR (lsub y5 2 y4))]),(200000,Blk.rview [Col.ints IntKind.u8 key]),(200002,Blk.rview [Col.ints IntKind.u8 c]),(1000000,Blk.view [Seg.ints IntKind.u32 64 Go.Hsh.rootsL])]))))) ∧ (((igt left 1) = false) → ((Short (lsub y5 2 y4)) ∧ ((((ine (Go.Cel.plainE (lsub y5 2 y4)) 0) = true) → (R (AV.tup [(TV.g [Seg.cells [AC.con (Value.slice (Option.none) 0 0)],Seg.ints IntKind.u8 16 (lzeros 16)]),TV.c (AC.int IntKind.i64 (Go.Cel.plainE (lsub y5 2 y4)))]) [(6,Blk.own 39 [Seg.cells [AC.con (Value.slice (Option.none) 0 0)],Seg.ints IntKind.u8 16 (lzeros 16)]),(10,Blk.own 37 [Seg.ints IntKind.u8 16 (lsub (Go.Cel.cutR c (sizeI left)) 0 16)]),(11,Blk.own 63 [Seg.ints IntKind.u8 16 (dvB key (lsub (Go.Cel.cutR c (sizeI left)) 0 16)),Seg.ints IntKind.u8 32 (dvM key (lsub (Go.Cel.cutR c (sizeI left)) 0 16)),Seg.ints IntKind.u8 32 (dvR key (lsub (Go.Cel.cutR c (sizeI left)) 0 16))]),(15,Blk.own 61 [Seg.ints IntKind.u8 32 y6]),(16,Blk.own 39 [Seg.cells [AC.vec 94],Seg.ints IntKind.u8 16 (lput (lzeros 16) 0 (lsub y6 0 16))]),(30,Blk.vec [Col.ints IntKind.u8 (Go.Cel.cutR c (sizeI left))]),(58,Blk.vec [Col.ints IntKind.u8 y2]),(67,Blk.vec [Col.ints IntKind.u8 y5]),(94,Blk.vec [Col.ints IntKind.u8 (Go.Cel.plainR (lsub y5 2 y4))]),(200000,Blk.rview [Col.ints IntKind.u8 key]),(200002,Blk.rview [Col.ints IntKind.u8 c]),(1000000,Blk.view [Seg.ints IntKind.u32 64 Go.Hsh.rootsL])])) ∧ (((ine (Go.Cel.plainE (lsub y5 2 y4)) 0) = false) → (R (AV.tup [(TV.g [Seg.cells [AC.vec 94],Seg.ints IntKind.u8 16 (lput (lzeros 16) 0 (lsub y6 0 16))]),TV.c (AC.int IntKind.i64 0)]) [(6,Blk.own 39 [Seg.cells [AC.vec 94],Seg.ints IntKind.u8 16 (lput (lzeros 16) 0 (lsub y6 0 16))]),(10,Blk.own 37 [Seg.ints IntKind.u8 16 (lsub (Go.Cel.cutR c (sizeI left)) 0 16)]),(11,Blk.own 63 [Seg.ints IntKind.u8 16 (dvB key (lsub (Go.Cel.cutR c (sizeI left)) 0 16)),Seg.ints IntKind.u8 32 (dvM key (lsub (Go.Cel.cutR c (sizeI left)) 0 16)),Seg.ints IntKind.u8 32 (dvR key (lsub (Go.Cel.cutR c (sizeI left)) 0 16))]),(15,Blk.own 61 [Seg.ints IntKind.u8 32 y6]),(16,Blk.own 39 [Seg.cells [AC.vec 94],Seg.ints IntKind.u8 16 (lput (lzeros 16) 0 (lsub y6 0 16))]),(30,Blk.vec [Col.ints IntKind.u8 (Go.Cel.cutR c (sizeI left))]),(58,Blk.vec [Col.ints IntKind.u8 y2]),(67,Blk.vec [Col.ints IntKind.u8 y5]),(94,Blk.vec [Col.ints IntKind.u8 (Go.Cel.plainR (lsub y5 2 y4))]),(200000,Blk.rview [Col.ints IntKind.u8 key]),(200002,Blk.rview [Col.ints IntKind.u8 c]),(1000000,Blk.view [Seg.ints IntKind.u32 64 Go.Hsh.rootsL])]))))))))))) := by kernel_rfl
theorem opeel_vc (R : AV → Mem → Prop) (fuel : Nat) (key : List Int) (c : List Int) (left : Int) : callsx Tryd.prog gamO3 [] Tryd.f15 (fuel + 1) [.one (.vec 200000), .one (.int .i64 left), .one (.vec 200002)] [(200000, .rview [.ints .u8 key]), (200002, .rview [.ints .u8 c]), (1000000 + 0, .view [.ints .u32 64 Go.Hsh.rootsL])] R = (((((ine (ofNat (llen key)) 32) = false) → ((Go.Oni.Lf left) ∧ ((((ieq (Go.Oni.sizeI left) 0) = true) → (R (AV.tup [(TV.g [(Seg.cells [(AC.con (Value.slice (Option.none) 0 0))]), (Seg.ints IntKind.u8 16 (lzeros 16))]), (TV.c (AC.int IntKind.i64 2))]) [(6, Blk.own 39 [(Seg.cells [(AC.con (Value.slice (Option.none) 0 0))]), (Seg.ints IntKind.u8 16 (lzeros 16))]), (200000, Blk.rview [(Col.ints IntKind.u8 key)]), (200002, Blk.rview [(Col.ints IntKind.u8 c)]), (1000000, Blk.view [(Seg.ints IntKind.u32 64 Go.Hsh.rootsL)])])) ∧ (((ieq (Go.Oni.sizeI left) 0) = false) → ((Go.Oni.Lf left) ∧ ((Short c) ∧ ((((ine (Go.Cel.cutE c (Go.Oni.sizeI left)) 0) = true) → (R (AV.tup [(TV.g [(Seg.cells [(AC.con (Value.slice (Option.none) 0 0))]), (Seg.ints IntKind.u8 16 (lzeros 16))]), (TV.c (AC.int IntKind.i64 (Go.Cel.cutE c (Go.Oni.sizeI left))))]) [(6, Blk.own 39 [(Seg.cells [(AC.con (Value.slice (Option.none) 0 0))]), (Seg.ints IntKind.u8 16 (lzeros 16))]), (30, Blk.vec [(Col.ints IntKind.u8 (Go.Cel.cutR c (Go.Oni.sizeI left)))]), (200000, Blk.rview [(Col.ints IntKind.u8 key)]), (200002, Blk.rview [(Col.ints IntKind.u8 c)]), (1000000, Blk.view [(Seg.ints IntKind.u32 64 Go.Hsh.rootsL)])])) ∧ (((ine (Go.Cel.cutE c (Go.Oni.sizeI left)) 0) = false) → ((Fits 16 (llen (Go.Cel.cutR c (Go.Oni.sizeI left)))) ∧ ((Fits 16 (llen (Go.Cel.cutR c (Go.Oni.sizeI left)))) ∧ (((Go.Hsh.rootsL = Go.Hsh.rootsL) ∧ ((Go.Oni.Ky key) ∧ (Go.Oni.Nn (lsub (Go.Cel.cutR c (Go.Oni.sizeI left)) 0 16)))) ∧ ((((ine (Go.Oni.dvE key) 0) = true) → (R (AV.tup [(TV.g [(Seg.cells [(AC.con (Value.slice (Option.none) 0 0))]), (Seg.ints IntKind.u8 16 (lzeros 16))]), (TV.c (AC.int IntKind.i64 (Go.Oni.dvE key)))]) [(6, Blk.own 39 [(Seg.cells [(AC.con (Value.slice (Option.none) 0 0))]), (Seg.ints IntKind.u8 16 (lzeros 16))]), (10, Blk.own 37 [(Seg.ints IntKind.u8 16 (lsub (Go.Cel.cutR c (Go.Oni.sizeI left)) 0 16))]), (11, Blk.own 63 [(Seg.ints IntKind.u8 16 (Go.Oni.dvB key (lsub (Go.Cel.cutR c (Go.Oni.sizeI left)) 0 16))), (Seg.ints IntKind.u8 32 (Go.Oni.dvM key (lsub (Go.Cel.cutR c (Go.Oni.sizeI left)) 0 16))), (Seg.ints IntKind.u8 32 (Go.Oni.dvR key (lsub (Go.Cel.cutR c (Go.Oni.sizeI left)) 0 16)))]), (30, Blk.vec [(Col.ints IntKind.u8 (Go.Cel.cutR c (Go.Oni.sizeI left)))]), (200000, Blk.rview [(Col.ints IntKind.u8 key)]), (200002, Blk.rview [(Col.ints IntKind.u8 c)]), (1000000, Blk.view [(Seg.ints IntKind.u32 64 Go.Hsh.rootsL)])])) ∧ (((ine (Go.Oni.dvE key) 0) = false) → (((NonNeg 32) ∧ (Fits 32 (llen (Go.Cel.cutR c (Go.Oni.sizeI left))))) ∧ ((((NonNeg 32) ∧ (Fits 32 (llen (Go.Cel.cutR c (Go.Oni.sizeI left))))) ∧ ((NonNeg 16) ∧ (Fits 16 32))) ∧ (((Go.Hsh.rootsL = Go.Hsh.rootsL) ∧ ((Go.Oni.K32 (Go.Oni.dvM key (lsub (Go.Cel.cutR c (Go.Oni.sizeI left)) 0 16))) ∧ ((Go.Oni.Nn (lsub (Go.Cel.cutR c (Go.Oni.sizeI left)) 0 16)) ∧ (Go.Oni.In (lsub (Go.Cel.cutR c (Go.Oni.sizeI left)) 32 (nsub (llen (Go.Cel.cutR c (Go.Oni.sizeI left))) 32)))))) ∧ ((((Go.Mac.Sg (lsub (Go.Cel.cutR c (Go.Oni.sizeI left)) 16 16)) ∧ (Bs (lsub (Go.Cel.cutR c (Go.Oni.sizeI left)) 16 16))) ∧ ((Go.Mac.Sg (Go.Oni.tagO (Go.Oni.dvM key (lsub (Go.Cel.cutR c (Go.Oni.sizeI left)) 0 16)) left (lsub (Go.Cel.cutR c (Go.Oni.sizeI left)) 0 16) (lsub (Go.Cel.cutR c (Go.Oni.sizeI left)) 32 (nsub (llen (Go.Cel.cutR c (Go.Oni.sizeI left))) 32)))) ∧ (Bs (Go.Oni.tagO (Go.Oni.dvM key (lsub (Go.Cel.cutR c (Go.Oni.sizeI left)) 0 16)) left (lsub (Go.Cel.cutR c (Go.Oni.sizeI left)) 0 16) (lsub (Go.Cel.cutR c (Go.Oni.sizeI left)) 32 (nsub (llen (Go.Cel.cutR c (Go.Oni.sizeI left))) 32)))))) ∧ (let y0 : Bool := (leq (lsub (Go.Cel.cutR c (Go.Oni.sizeI left)) 16 16) (Go.Oni.tagO (Go.Oni.dvM key (lsub (Go.Cel.cutR c (Go.Oni.sizeI left)) 0 16)) left (lsub (Go.Cel.cutR c (Go.Oni.sizeI left)) 0 16) (lsub (Go.Cel.cutR c (Go.Oni.sizeI left)) 32 (nsub (llen (Go.Cel.cutR c (Go.Oni.sizeI left))) 32)))); (let y1 : Bool := (bnot (leq (lsub (Go.Cel.cutR c (Go.Oni.sizeI left)) 16 16) (Go.Oni.tagO (Go.Oni.dvM key (lsub (Go.Cel.cutR c (Go.Oni.sizeI left)) 0 16)) left (lsub (Go.Cel.cutR c (Go.Oni.sizeI left)) 0 16) (lsub (Go.Cel.cutR c (Go.Oni.sizeI left)) 32 (nsub (llen (Go.Cel.cutR c (Go.Oni.sizeI left))) 32))))); (let y2 : List Int := (Go.Oni.tagO (Go.Oni.dvM key (lsub (Go.Cel.cutR c (Go.Oni.sizeI left)) 0 16)) left (lsub (Go.Cel.cutR c (Go.Oni.sizeI left)) 0 16) (lsub (Go.Cel.cutR c (Go.Oni.sizeI left)) 32 (nsub (llen (Go.Cel.cutR c (Go.Oni.sizeI left))) 32))); (((y1 = true) → (R (AV.tup [(TV.g [(Seg.cells [(AC.con (Value.slice (Option.none) 0 0))]), (Seg.ints IntKind.u8 16 (lzeros 16))]), (TV.c (AC.int IntKind.i64 70))]) [(6, Blk.own 39 [(Seg.cells [(AC.con (Value.slice (Option.none) 0 0))]), (Seg.ints IntKind.u8 16 (lzeros 16))]), (10, Blk.own 37 [(Seg.ints IntKind.u8 16 (lsub (Go.Cel.cutR c (Go.Oni.sizeI left)) 0 16))]), (11, Blk.own 63 [(Seg.ints IntKind.u8 16 (Go.Oni.dvB key (lsub (Go.Cel.cutR c (Go.Oni.sizeI left)) 0 16))), (Seg.ints IntKind.u8 32 (Go.Oni.dvM key (lsub (Go.Cel.cutR c (Go.Oni.sizeI left)) 0 16))), (Seg.ints IntKind.u8 32 (Go.Oni.dvR key (lsub (Go.Cel.cutR c (Go.Oni.sizeI left)) 0 16)))]), (30, Blk.vec [(Col.ints IntKind.u8 (Go.Cel.cutR c (Go.Oni.sizeI left)))]), (58, Blk.vec [(Col.ints IntKind.u8 y2)]), (200000, Blk.rview [(Col.ints IntKind.u8 key)]), (200002, Blk.rview [(Col.ints IntKind.u8 c)]), (1000000, Blk.view [(Seg.ints IntKind.u32 64 Go.Hsh.rootsL)])])) ∧ ((y1 = false) → ((Fits 16 16) ∧ ((((Go.Blk.BL 16 (lsub (Go.Oni.dvB key (lsub (Go.Cel.cutR c (Go.Oni.sizeI left)) 0 16)) 0 16)) ∧ (Go.Blk.BL 16 (lzeros 16))) ∧ ((Short (lsub (Go.Cel.cutR c (Go.Oni.sizeI left)) 32 (nsub (llen (Go.Cel.cutR c (Go.Oni.sizeI left))) 32))) ∧ (Bs (lsub (Go.Cel.cutR c (Go.Oni.sizeI left)) 32 (nsub (llen (Go.Cel.cutR c (Go.Oni.sizeI left))) 32))))) ∧ ((Go.Oni.Bx left (Go.Blk.mask (Go.Blk.ks (lsub (Go.Oni.dvB key (lsub (Go.Cel.cutR c (Go.Oni.sizeI left)) 0 16)) 0 16)) (lzeros 16) (lsub (Go.Cel.cutR c (Go.Oni.sizeI left)) 32 (nsub (llen (Go.Cel.cutR c (Go.Oni.sizeI left))) 32)))) ∧ ((((Go.Oni.inOk (Go.Blk.mask (Go.Blk.ks (lsub (Go.Oni.dvB key (lsub (Go.Cel.cutR c (Go.Oni.sizeI left)) 0 16)) 0 16)) (lzeros 16) (lsub (Go.Cel.cutR c (Go.Oni.sizeI left)) 32 (nsub (llen (Go.Cel.cutR c (Go.Oni.sizeI left))) 32))) left) = false) → (let y3 : List Int := (Go.Blk.mask (Go.Blk.ks (lsub (Go.Oni.dvB key (lsub (Go.Cel.cutR c (Go.Oni.sizeI left)) 0 16)) 0 16)) (lzeros 16) (lsub (Go.Cel.cutR c (Go.Oni.sizeI left)) 32 (nsub (llen (Go.Cel.cutR c (Go.Oni.sizeI left))) 32))); (R (AV.tup [(TV.g [(Seg.cells [(AC.con (Value.slice (Option.none) 0 0))]), (Seg.ints IntKind.u8 16 (lzeros 16))]), (TV.c (AC.int IntKind.i64 71))]) [(6, Blk.own 39 [(Seg.cells [(AC.con (Value.slice (Option.none) 0 0))]), (Seg.ints IntKind.u8 16 (lzeros 16))]), (10, Blk.own 37 [(Seg.ints IntKind.u8 16 (lsub (Go.Cel.cutR c (Go.Oni.sizeI left)) 0 16))]), (11, Blk.own 63 [(Seg.ints IntKind.u8 16 (Go.Oni.dvB key (lsub (Go.Cel.cutR c (Go.Oni.sizeI left)) 0 16))), (Seg.ints IntKind.u8 32 (Go.Oni.dvM key (lsub (Go.Cel.cutR c (Go.Oni.sizeI left)) 0 16))), (Seg.ints IntKind.u8 32 (Go.Oni.dvR key (lsub (Go.Cel.cutR c (Go.Oni.sizeI left)) 0 16)))]), (30, Blk.vec [(Col.ints IntKind.u8 (Go.Cel.cutR c (Go.Oni.sizeI left)))]), (58, Blk.vec [(Col.ints IntKind.u8 y2)]), (67, Blk.vec [(Col.ints IntKind.u8 y3)]), (200000, Blk.rview [(Col.ints IntKind.u8 key)]), (200002, Blk.rview [(Col.ints IntKind.u8 c)]), (1000000, Blk.view [(Seg.ints IntKind.u32 64 Go.Hsh.rootsL)])]))) ∧ (((Go.Oni.inOk (Go.Blk.mask (Go.Blk.ks (lsub (Go.Oni.dvB key (lsub (Go.Cel.cutR c (Go.Oni.sizeI left)) 0 16)) 0 16)) (lzeros 16) (lsub (Go.Cel.cutR c (Go.Oni.sizeI left)) 32 (nsub (llen (Go.Cel.cutR c (Go.Oni.sizeI left))) 32))) left) = true) → (let y4 : Nat := (nat (Go.Oni.inN (Go.Blk.mask (Go.Blk.ks (lsub (Go.Oni.dvB key (lsub (Go.Cel.cutR c (Go.Oni.sizeI left)) 0 16)) 0 16)) (lzeros 16) (lsub (Go.Cel.cutR c (Go.Oni.sizeI left)) 32 (nsub (llen (Go.Cel.cutR c (Go.Oni.sizeI left))) 32))))); (let y5 : List Int := (Go.Blk.mask (Go.Blk.ks (lsub (Go.Oni.dvB key (lsub (Go.Cel.cutR c (Go.Oni.sizeI left)) 0 16)) 0 16)) (lzeros 16) (lsub (Go.Cel.cutR c (Go.Oni.sizeI left)) 32 (nsub (llen (Go.Cel.cutR c (Go.Oni.sizeI left))) 32))); (((NonNeg 32) ∧ (Fits 32 (llen (Go.Cel.cutR c (Go.Oni.sizeI left))))) ∧ (((Fits (nadd 0 32) 32) ∧ (((Go.Hsh.rootsL = Go.Hsh.rootsL) ∧ ((Go.Mac.Sg (lsub (Go.Oni.dvR key (lsub (Go.Cel.cutR c (Go.Oni.sizeI left)) 0 16)) 0 32)) ∧ (Go.Mac.Sg (lsub (Go.Cel.cutR c (Go.Oni.sizeI left)) 0 32)))) ∧ (opeel.k0 R left key c y4 y0 y2 y5 fuel))) ∧ ((Fits (nadd 0 32) 32) ∧ (((Go.Hsh.rootsL = Go.Hsh.rootsL) ∧ ((Go.Mac.Sg (lsub (Go.Oni.dvR key (lsub (Go.Cel.cutR c (Go.Oni.sizeI left)) 0 16)) 0 32)) ∧ (Go.Mac.Sg (lsub (Go.Cel.cutR c (Go.Oni.sizeI left)) 0 32)))) ∧ (opeel.k0 R left key c y4 y0 y2 y5 fuel)))))))))))))))))))))))))))))))))) ∧ (((ine (ofNat (llen key)) 32) = true) → (R (AV.tup [(TV.g [(Seg.cells [(AC.con (Value.slice (Option.none) 0 0))]), (Seg.ints IntKind.u8 16 (lzeros 16))]), (TV.c (AC.int IntKind.i64 2))]) [(6, Blk.own 39 [(Seg.cells [(AC.con (Value.slice (Option.none) 0 0))]), (Seg.ints IntKind.u8 16 (lzeros 16))]), (200000, Blk.rview [(Col.ints IntKind.u8 key)]), (200002, Blk.rview [(Col.ints IntKind.u8 c)]), (1000000, Blk.view [(Seg.ints IntKind.u32 64 Go.Hsh.rootsL)])])))) := by kernel_rfl
def orpeel.l1 (R : AV → Mem → Prop) (left : Int) (y4 key x1 c : List Int) (fuel : Nat) (x7 : Int) : Prop := rN Tryd.prog gamO3 [] Tryd.f36 R fuel [kc Tryd.f36 [1,1,1,1,1,1,1,1,1,1,1,1,0,1,0,0],ki Tryd.f36 [1,1,1,1,1,1,1,1,1,1,1,1,0,1,0,0],.inBlock 2,kc Tryd.f36 [1,1,1,1,1,1,1,1,1,1,1,1,1]] (Uu::Ii left::(us 4 (AV.one (AC.ptr 6 0 0)::Uu::Vv 33::(us 4 (AV.one (AC.ptr 13 0 0)::Uu::Uu::Vv 78::Ii (add IntKind.i64 (mul IntKind.i64 256 (conv IntKind.i64 (lget y4 0))) (conv IntKind.i64 (lget y4 1)))::Ii x7::Zz::(us 89 (zs 15 (Uu::(zs 8 [Uu,Zz,Zz]))))))))) [(6,Blk.own 39 [Seg.cells [AC.con (Value.slice (Option.none) 0 0)],Seg.ints IntKind.u8 16 (lzeros 16)]),(13,Blk.own 63 [Seg.ints IntKind.u8 16 (dvB key x1),Seg.ints IntKind.u8 32 (dvM key x1),Seg.ints IntKind.u8 32 (dvR key x1)]),(33,Blk.vec [Col.ints IntKind.u8 (Go.Cel.cutR c (sizeI left))]),(78,Blk.vec [Col.ints IntKind.u8 y4]),(200000,Blk.rview [Col.ints IntKind.u8 key]),(200002,Blk.rview [Col.ints IntKind.u8 c])]
def orpeel.k0 (R : AV → Mem → Prop) (left x0 : Int) (key x1 c x2 : List Int) (fuel : Nat) : Prop := runM Tryd.prog gamO3 [] (resh Tryd.prog [] Tryd.f36.results.toList R) (rN Tryd.prog gamO3 [] Tryd.f36 R fuel) 3991 [kc Tryd.f36 [1,1,1,1,1,1,1,1]] (Vv 200000::Ii left::(us 4 (AV.one (AC.ptr 6 0 0)::Uu::Vv 33::Uu::AV.one (AC.ptr 10 0 0)::AV.one (AC.ptr 11 0 0)::Ii x0::AV.one (AC.ptr 13 0 0)::Ii (dvE key)::AV.one (AC.ptr 15 0 0)::(zs 4 (us 20 (Ii x0::Ll false::(us 15 (AV.tup [(TV.g [Seg.ints IntKind.u8 16 (dvB key x1),Seg.ints IntKind.u8 32 (dvM key x1),Seg.ints IntKind.u8 32 (dvR key x1)]),TV.c (AC.int IntKind.i64 (dvE key))]::Vv 200000::(AV.agg [Seg.ints IntKind.u8 16 x1])::AV.tup [(TV.g [Seg.ints IntKind.u8 16 (dvB key x1),Seg.ints IntKind.u8 32 (dvM key x1),Seg.ints IntKind.u8 32 (dvR key x1)]),TV.c (AC.int IntKind.i64 (dvE key))]::(AV.agg [Seg.ints IntKind.u8 16 (dvB key x1),Seg.ints IntKind.u8 32 (dvM key x1),Seg.ints IntKind.u8 32 (dvR key x1)])::Ii (dvE key)::(AV.agg [Seg.ints IntKind.u8 16 (dvB key x1),Seg.ints IntKind.u8 32 (dvM key x1),Seg.ints IntKind.u8 32 (dvR key x1)])::Ii left::(AV.agg [Seg.ints IntKind.u8 16 x1])::Vv 33::AV.one (AC.vsl 33 1 32 (nsub (llen (Go.Cel.cutR c (sizeI left))) 32))::(AV.agg [Seg.ints IntKind.u8 16 (tagO (dvM key x1) left x1 (lsub (Go.Cel.cutR c (sizeI left)) 32 (nsub (llen (Go.Cel.cutR c (sizeI left))) 32)))])::(zs 55 (Uu::(zs 8 [Uu,Zz,Zz]))))))))))) [(6,Blk.own 39 [Seg.cells [AC.con (Value.slice (Option.none) 0 0)],Seg.ints IntKind.u8 16 (lzeros 16)]),(10,Blk.own 37 [Seg.ints IntKind.u8 16 x1]),(11,Blk.own 37 [Seg.ints IntKind.u8 16 x2]),(13,Blk.own 63 [Seg.ints IntKind.u8 16 (dvB key x1),Seg.ints IntKind.u8 32 (dvM key x1),Seg.ints IntKind.u8 32 (dvR key x1)]),(15,Blk.own 37 [Seg.ints IntKind.u8 16 (tagO (dvM key x1) left x1 (lsub (Go.Cel.cutR c (sizeI left)) 32 (nsub (llen (Go.Cel.cutR c (sizeI left))) 32)))]),(33,Blk.vec [Col.ints IntKind.u8 (Go.Cel.cutR c (sizeI left))]),(200000,Blk.rview [Col.ints IntKind.u8 key]),(200002,Blk.rview [Col.ints IntKind.u8 c])]
def orpeel.l0 (R : AV → Mem → Prop) (left : Int) (c key : List Int) (fuel : Nat) (x0 : Int) (x1 x2 : List Int) : Prop := rN Tryd.prog gamO3 [] Tryd.f36 R fuel [kc Tryd.f36 [1,1,1,1,1,0,1,0,0],ki Tryd.f36 [1,1,1,1,1,0,1,0,0],.inBlock 0,kc Tryd.f36 [1,1,1,1,1,1]] (Vv 200000::Ii left::(us 4 (AV.one (AC.ptr 6 0 0)::Uu::Vv 33::Uu::AV.one (AC.ptr 10 0 0)::AV.one (AC.ptr 11 0 0)::Ii x0::Zz::Uu::(zs 5 (us 37 (zs 67 (Uu::(zs 8 [Uu,Zz,Zz])))))))) [(6,Blk.own 39 [Seg.cells [AC.con (Value.slice (Option.none) 0 0)],Seg.ints IntKind.u8 16 (lzeros 16)]),(10,Blk.own 37 [Seg.ints IntKind.u8 16 x1]),(11,Blk.own 37 [Seg.ints IntKind.u8 16 x2]),(33,Blk.vec [Col.ints IntKind.u8 (Go.Cel.cutR c (sizeI left))]),(200000,Blk.rview [Col.ints IntKind.u8 key]),(200002,Blk.rview [Col.ints IntKind.u8 c])]
theorem orpeel.l1_succ (R : AV → Mem → Prop) (left : Int) (y4 key x1 c : List Int) (fuel : Nat) (x7 : Int) : orpeel.l1 R left y4 key x1 c (fuel + 1) x7 = (((((ilt x7 (ofNat (llen y4))) = true) → ((InB x7 (llen y4)) ∧ ((((ine (lget y4 (nat x7)) 0) = true) → (R (AV.tup [(TV.g [Seg.cells [AC.con (Value.slice (Option.none) 0 0)],Seg.ints IntKind.u8 16 (lzeros 16)]),TV.c (AC.int IntKind.i64 71)]) [(6,Blk.own 39 [Seg.cells [AC.con (Value.slice (Option.none) 0 0)],Seg.ints IntKind.u8 16 (lzeros 16)]),(13,Blk.own 63 [Seg.ints IntKind.u8 16 (dvB key x1),Seg.ints IntKind.u8 32 (dvM key x1),Seg.ints IntKind.u8 32 (dvR key x1)]),(33,Blk.vec [Col.ints IntKind.u8 (Go.Cel.cutR c (sizeI left))]),(78,Blk.vec [Col.ints IntKind.u8 y4]),(200000,Blk.rview [Col.ints IntKind.u8 key]),(200002,Blk.rview [Col.ints IntKind.u8 c])])) ∧ (((ine (lget y4 (nat x7)) 0) = false) → (orpeel.l1 R left y4 key x1 c fuel (add IntKind.i64 x7 1)))))) ∧ (((ilt x7 (ofNat (llen y4))) = false) → ((Fits (nadd 0 32) 32) ∧ (((NonNeg 32) ∧ (Fits 32 (llen (Go.Cel.cutR c (sizeI left))))) ∧ (((K32 (lsub (dvR key x1) 0 32)) ∧ (Ky (lsub (Go.Cel.cutR c (sizeI left)) 0 32))) ∧ ((Fits 16 16) ∧ (let y8 : List Int := (lput (lzeros 16) 0 (lsub (Go.Mac.tagL (lsub (dvR key x1) 0 32) (lsub (Go.Cel.cutR c (sizeI left)) 0 32)) 0 16)); ((((igt left 1) = true) → ((((NonNeg (add IntKind.i64 2 (add IntKind.i64 (mul IntKind.i64 256 (conv IntKind.i64 (lget y4 0))) (conv IntKind.i64 (lget y4 1))))) ∧ (Fits (nat (add IntKind.i64 2 (add IntKind.i64 (mul IntKind.i64 256 (conv IntKind.i64 (lget y4 0))) (conv IntKind.i64 (lget y4 1))))) (llen y4))) ∧ ((NonNeg 2) ∧ (Fits 2 (nat (add IntKind.i64 2 (add IntKind.i64 (mul IntKind.i64 256 (conv IntKind.i64 (lget y4 0))) (conv IntKind.i64 (lget y4 1)))))))) ∧ ((Short (lsub y4 2 (nsub (nat (add IntKind.i64 2 (add IntKind.i64 (mul IntKind.i64 256 (conv IntKind.i64 (lget y4 0))) (conv IntKind.i64 (lget y4 1))))) 2))) ∧ (let y9 : Int := (Go.Cel.padE (lsub y4 2 (nsub (nat (add IntKind.i64 2 (add IntKind.i64 (mul IntKind.i64 256 (conv IntKind.i64 (lget y4 0))) (conv IntKind.i64 (lget y4 1))))) 2))); (let y10 : Int := (add IntKind.i64 2 (add IntKind.i64 (mul IntKind.i64 256 (conv IntKind.i64 (lget y4 0))) (conv IntKind.i64 (lget y4 1)))); (let y11 : Nat := (nsub (nat (add IntKind.i64 2 (add IntKind.i64 (mul IntKind.i64 256 (conv IntKind.i64 (lget y4 0))) (conv IntKind.i64 (lget y4 1))))) 2); (let y12 : List Int := (Go.Cel.padR (lsub y4 2 (nsub (nat (add IntKind.i64 2 (add IntKind.i64 (mul IntKind.i64 256 (conv IntKind.i64 (lget y4 0))) (conv IntKind.i64 (lget y4 1))))) 2))); (R (AV.tup [(TV.g [Seg.cells [AC.vec 122],Seg.ints IntKind.u8 16 y8]),TV.c (AC.int IntKind.i64 0)]) [(6,Blk.own 39 [Seg.cells [AC.vec 122],Seg.ints IntKind.u8 16 y8]),(13,Blk.own 63 [Seg.ints IntKind.u8 16 (dvB key x1),Seg.ints IntKind.u8 32 (dvM key x1),Seg.ints IntKind.u8 32 (dvR key x1)]),(19,Blk.own 39 [Seg.cells [AC.vec 122],Seg.ints IntKind.u8 16 y8]),(33,Blk.vec [Col.ints IntKind.u8 (Go.Cel.cutR c (sizeI left))]),(78,Blk.vec [Col.ints IntKind.u8 y4]),(122,Blk.vec [Col.ints IntKind.u8 y12]),(200000,Blk.rview [Col.ints IntKind.u8 key]),(200002,Blk.rview [Col.ints IntKind.u8 c])])))))))) ∧ (((igt left 1) = false) → ((((NonNeg (add IntKind.i64 2 (add IntKind.i64 (mul IntKind.i64 256 (conv IntKind.i64 (lget y4 0))) (conv IntKind.i64 (lget y4 1))))) ∧ (Fits (nat (add IntKind.i64 2 (add IntKind.i64 (mul IntKind.i64 256 (conv IntKind.i64 (lget y4 0))) (conv IntKind.i64 (lget y4 1))))) (llen y4))) ∧ ((NonNeg 2) ∧ (Fits 2 (nat (add IntKind.i64 2 (add IntKind.i64 (mul IntKind.i64 256 (conv IntKind.i64 (lget y4 0))) (conv IntKind.i64 (lget y4 1)))))))) ∧ ((Short (lsub y4 2 (nsub (nat (add IntKind.i64 2 (add IntKind.i64 (mul IntKind.i64 256 (conv IntKind.i64 (lget y4 0))) (conv IntKind.i64 (lget y4 1))))) 2))) ∧ (let y13 : Int := (Go.Cel.plainE (lsub y4 2 (nsub (nat (add IntKind.i64 2 (add IntKind.i64 (mul IntKind.i64 256 (conv IntKind.i64 (lget y4 0))) (conv IntKind.i64 (lget y4 1))))) 2))); (let y14 : Int := (add IntKind.i64 2 (add IntKind.i64 (mul IntKind.i64 256 (conv IntKind.i64 (lget y4 0))) (conv IntKind.i64 (lget y4 1)))); (let y15 : Nat := (nsub (nat (add IntKind.i64 2 (add IntKind.i64 (mul IntKind.i64 256 (conv IntKind.i64 (lget y4 0))) (conv IntKind.i64 (lget y4 1))))) 2); (let y16 : List Int := (Go.Cel.plainR (lsub y4 2 (nsub (nat (add IntKind.i64 2 (add IntKind.i64 (mul IntKind.i64 256 (conv IntKind.i64 (lget y4 0))) (conv IntKind.i64 (lget y4 1))))) 2))); (R (AV.tup [(TV.g [Seg.cells [AC.vec 131],Seg.ints IntKind.u8 16 y8]),TV.c (AC.int IntKind.i64 0)]) [(6,Blk.own 39 [Seg.cells [AC.vec 131],Seg.ints IntKind.u8 16 y8]),(13,Blk.own 63 [Seg.ints IntKind.u8 16 (dvB key x1),Seg.ints IntKind.u8 32 (dvM key x1),Seg.ints IntKind.u8 32 (dvR key x1)]),(19,Blk.own 39 [Seg.cells [AC.vec 131],Seg.ints IntKind.u8 16 y8]),(33,Blk.vec [Col.ints IntKind.u8 (Go.Cel.cutR c (sizeI left))]),(78,Blk.vec [Col.ints IntKind.u8 y4]),(131,Blk.vec [Col.ints IntKind.u8 y16]),(200000,Blk.rview [Col.ints IntKind.u8 key]),(200002,Blk.rview [Col.ints IntKind.u8 c])]))))))))))))))))) := by kernel_rfl
theorem orpeel.k0_eq (R : AV → Mem → Prop) (left x0 : Int) (key x1 c x2 : List Int) (fuel : Nat) : orpeel.k0 R left x0 key x1 c x2 fuel = ((let y3 : List Int := (tagO (dvM key x1) left x1 (lsub (Go.Cel.cutR c (sizeI left)) 32 (nsub (llen (Go.Cel.cutR c (sizeI left))) 32))); ((((bnot (leq x2 y3)) = true) → (R (AV.tup [(TV.g [Seg.cells [AC.con (Value.slice (Option.none) 0 0)],Seg.ints IntKind.u8 16 (lzeros 16)]),TV.c (AC.int IntKind.i64 70)]) [(6,Blk.own 39 [Seg.cells [AC.con (Value.slice (Option.none) 0 0)],Seg.ints IntKind.u8 16 (lzeros 16)]),(10,Blk.own 37 [Seg.ints IntKind.u8 16 x1]),(11,Blk.own 37 [Seg.ints IntKind.u8 16 x2]),(13,Blk.own 63 [Seg.ints IntKind.u8 16 (dvB key x1),Seg.ints IntKind.u8 32 (dvM key x1),Seg.ints IntKind.u8 32 (dvR key x1)]),(15,Blk.own 37 [Seg.ints IntKind.u8 16 y3]),(33,Blk.vec [Col.ints IntKind.u8 (Go.Cel.cutR c (sizeI left))]),(200000,Blk.rview [Col.ints IntKind.u8 key]),(200002,Blk.rview [Col.ints IntKind.u8 c])])) ∧ (((bnot (leq x2 y3)) = false) → ((Fits 16 16) ∧ (((NonNeg 32) ∧ (Fits 32 (llen (Go.Cel.cutR c (sizeI left))))) ∧ ((((Go.Blk.BL 16 (lsub (dvB key x1) 0 16)) ∧ (Go.Blk.BL 16 (lzeros 16))) ∧ ((Short (lsub (Go.Cel.cutR c (sizeI left)) 32 (nsub (llen (Go.Cel.cutR c (sizeI left))) 32))) ∧ (Bs (lsub (Go.Cel.cutR c (sizeI left)) 32 (nsub (llen (Go.Cel.cutR c (sizeI left))) 32))))) ∧ (let y4 : List Int := (Go.Blk.mask (Go.Blk.ks (lsub (dvB key x1) 0 16)) (lzeros 16) (lsub (Go.Cel.cutR c (sizeI left)) 32 (nsub (llen (Go.Cel.cutR c (sizeI left))) 32))); ((InB 0 (llen y4)) ∧ ((InB 1 (llen y4)) ∧ ((Lf left) ∧ (let y5 : Bool := (igt (add IntKind.i64 (mul IntKind.i64 256 (conv IntKind.i64 (lget y4 0))) (conv IntKind.i64 (lget y4 1))) (sub IntKind.i64 (sizeI left) 34)); (((y5 = true) → (R (AV.tup [(TV.g [Seg.cells [AC.con (Value.slice (Option.none) 0 0)],Seg.ints IntKind.u8 16 (lzeros 16)]),TV.c (AC.int IntKind.i64 71)]) [(6,Blk.own 39 [Seg.cells [AC.con (Value.slice (Option.none) 0 0)],Seg.ints IntKind.u8 16 (lzeros 16)]),(10,Blk.own 37 [Seg.ints IntKind.u8 16 x1]),(11,Blk.own 37 [Seg.ints IntKind.u8 16 x2]),(13,Blk.own 63 [Seg.ints IntKind.u8 16 (dvB key x1),Seg.ints IntKind.u8 32 (dvM key x1),Seg.ints IntKind.u8 32 (dvR key x1)]),(15,Blk.own 37 [Seg.ints IntKind.u8 16 y3]),(33,Blk.vec [Col.ints IntKind.u8 (Go.Cel.cutR c (sizeI left))]),(78,Blk.vec [Col.ints IntKind.u8 y4]),(200000,Blk.rview [Col.ints IntKind.u8 key]),(200002,Blk.rview [Col.ints IntKind.u8 c])])) ∧ ((y5 = false) → (let y6 : Int := (add IntKind.i64 2 (add IntKind.i64 (mul IntKind.i64 256 (conv IntKind.i64 (lget y4 0))) (conv IntKind.i64 (lget y4 1)))); (orpeel.l1 R left y4 key x1 c fuel y6)))))))))))))))) := by kernel_rfl
theorem orpeel.l0_succ (R : AV → Mem → Prop) (left : Int) (c key : List Int) (fuel : Nat) (x0 : Int) (x1 x2 : List Int) : orpeel.l0 R left c key (fuel + 1) x0 x1 x2 = (((((ilt x0 16) = true) → ((InB x0 (llen (Go.Cel.cutR c (sizeI left)))) ∧ ((InB x0 16) ∧ ((Low (nadd 0 (nat x0)) 16) ∧ ((InB (add IntKind.i64 16 x0) (llen (Go.Cel.cutR c (sizeI left)))) ∧ ((InB x0 16) ∧ ((Low (nadd 0 (nat x0)) 16) ∧ (orpeel.l0 R left c key fuel (add IntKind.i64 x0 1) (lset x1 (nadd 0 (nat x0)) (lget (Go.Cel.cutR c (sizeI left)) (nat x0))) (lset x2 (nadd 0 (nat x0)) (lget (Go.Cel.cutR c (sizeI left)) (nat (add IntKind.i64 16 x0)))))))))))) ∧ (((ilt x0 16) = false) → (((Ky key) ∧ (Nn x1)) ∧ (((NonNeg 32) ∧ (Fits 32 (llen (Go.Cel.cutR c (sizeI left))))) ∧ ((((K32 (dvM key x1)) ∧ ((Nn x1) ∧ (In (lsub (Go.Cel.cutR c (sizeI left)) 32 (nsub (llen (Go.Cel.cutR c (sizeI left))) 32))))) ∧ (orpeel.k0 R left x0 key x1 c x2 fuel)) ∧ (((K32 (dvM key x1)) ∧ ((Nn x1) ∧ (In (lsub (Go.Cel.cutR c (sizeI left)) 32 (nsub (llen (Go.Cel.cutR c (sizeI left))) 32))))) ∧ (orpeel.k0 R left x0 key x1 c x2 fuel)))))))) := by kernel_rfl
theorem orpeel_vc (R : AV → Mem → Prop) (fuel : Nat) (key : List Int) (c : List Int) (left : Int) : callsx Tryd.prog gamO3 [] Tryd.f36 (fuel + 1) [.one (.vec 200000), .one (.int .i64 left), .one (.vec 200002)] [(200000, .rview [.ints .u8 key]), (200002, .rview [.ints .u8 c])] R = (((((ine (ofNat (llen key)) 32) = false) → ((Go.Oni.Lf left) ∧ ((((ieq (Go.Oni.sizeI left) 0) = true) → (R (AV.tup [(TV.g [(Seg.cells [(AC.con (Value.slice (Option.none) 0 0))]), (Seg.ints IntKind.u8 16 (lzeros 16))]), (TV.c (AC.int IntKind.i64 2))]) [(6, Blk.own 39 [(Seg.cells [(AC.con (Value.slice (Option.none) 0 0))]), (Seg.ints IntKind.u8 16 (lzeros 16))]), (200000, Blk.rview [(Col.ints IntKind.u8 key)]), (200002, Blk.rview [(Col.ints IntKind.u8 c)])])) ∧ (((ieq (Go.Oni.sizeI left) 0) = false) → ((Go.Oni.Lf left) ∧ ((Short c) ∧ ((((ine (Go.Cel.cutE c (Go.Oni.sizeI left)) 0) = true) → (R (AV.tup [(TV.g [(Seg.cells [(AC.con (Value.slice (Option.none) 0 0))]), (Seg.ints IntKind.u8 16 (lzeros 16))]), (TV.c (AC.int IntKind.i64 (Go.Cel.cutE c (Go.Oni.sizeI left))))]) [(6, Blk.own 39 [(Seg.cells [(AC.con (Value.slice (Option.none) 0 0))]), (Seg.ints IntKind.u8 16 (lzeros 16))]), (33, Blk.vec [(Col.ints IntKind.u8 (Go.Cel.cutR c (Go.Oni.sizeI left)))]), (200000, Blk.rview [(Col.ints IntKind.u8 key)]), (200002, Blk.rview [(Col.ints IntKind.u8 c)])])) ∧ (((ine (Go.Cel.cutE c (Go.Oni.sizeI left)) 0) = false) → (orpeel.l0 R left c key fuel 0 (lzeros 16) (lzeros 16)))))))))) ∧ (((ine (ofNat (llen key)) 32) = true) → (R (AV.tup [(TV.g [(Seg.cells [(AC.con (Value.slice (Option.none) 0 0))]), (Seg.ints IntKind.u8 16 (lzeros 16))]), (TV.c (AC.int IntKind.i64 2))]) [(6, Blk.own 39 [(Seg.cells [(AC.con (Value.slice (Option.none) 0 0))]), (Seg.ints IntKind.u8 16 (lzeros 16))]), (200000, Blk.rview [(Col.ints IntKind.u8 key)]), (200002, Blk.rview [(Col.ints IntKind.u8 c)])])))) := by kernel_rfl
end Go.Proofs.YtienfecnkglilaaDoor.G
namespace Go.Oni
open Go Go.Sx Go.Hsh Go.Mac Go.Blk Go.Cel Go.Fld
theorem lsub_zero_lsub {c : List Int} {S i n : Nat} (h : i + n ≤ S) : lsub (lsub c 0 S) i n = lsub c i n := by
 rw [lsub_lsub _ _ _ _ _ h, Nat.zero_add]
theorem cutE_ok {c : List Int} {n : Int} (h : cutE c n = 0) : c.length = 320 ∧ 0 ≤ n ∧ n ≤ 320 ∧ zb (c.drop n.toNat) = true ∧ cutR c n = lsub c 0 n.toNat := by
 have hc : cutR c n = c.take n.toNat := by unfold cutR; rw [if_pos h]
 unfold cutE at h
 split at h
 ·cases h
 ·rename_i h1
  split at h
  ·cases h
  ·rename_i h2
   split at h
   ·cases h
   ·rename_i h3
    refine ⟨by omega, by omega, by omega, ?_, by rw [hc, lsub_take]⟩
    cases hz : zb (c.drop n.toNat) with
    | true => rfl
    | false => exact absurd hz h3
theorem peC_fail {key c : List Int} {left : Int} (h : peE key left c ≠ 0) : peC key left c = [] ∧ peR key left c = lzeros 16 := by
 unfold peC peR; rw [if_neg h, if_neg h]; exact ⟨rfl, rfl⟩
theorem wrR_fail {key nonce inner : List Int} {left : Int} (h : wrE key left inner ≠ 0) : wrR key nonce left inner = [] := by unfold wrR; rw [if_neg h]
theorem opO_len {key c : List Int} {left : Int} (h1 : 1 ≤ left) (h2 : left ≤ 8) (hc : c.length = 320) : (opO key left c).length = 16 + (34 * left).toNat := by
 unfold opO bxO
 rw [mask_length, sizeI_some h1 h2, lsub_length (by omega)]; omega
theorem inOk_some {pl : List Int} {left : Int} (h1 : 1 ≤ left) (h2 : left ≤ 8) (h : inOk pl left = true) : inN pl ≤ 14 + 34 * left ∧ zb (pl.drop (2 + (inN pl).toNat)) = true := by
 unfold inOk at h
 rw [Bool.and_eq_true, decide_eq_true_eq, sizeI_some h1 h2] at h
 exact ⟨by omega, h.2⟩
end Go.Oni
namespace Go.Proofs.YtienfecnkglilaaDoor.G
open Go Go.Sx Go.Hsh Go.Mac Go.Blk Go.Cel Go.Oni Go.Fld
set_option maxRecDepth 20000
theorem opO_bs {key c : List Int} {left : Int} (hb : Bs c) : Bs (opO key left c) :=
 mask_bs (ks_bl (dvB_bl _ _)) (bl_of rfl (zeros_bs _)) (lsub_bs hb _ _)
theorem good_owrap : Sx.Good Tryd.prog 25 wrapS := by
 refine Sx.Good.reads (D := []) mixed gamO3_good Tryd.func25 (by kernel_rfl) rfl fun d args σ K h => ?_
 simp only [wrapS] at h
 split at h <;> try exact h.elim
 rename_i x nonce left y
 obtain ⟨key, h, hrow⟩ := rdb_row h
 obtain ⟨inner, ⟨⟨hr, hk, hn, hlf, hi⟩, hK⟩, hrow2⟩ := rdb_row h
 refine ⟨_, _, .row [.ints .u8] _ hrow (by decide) (.plain (plain_ints _ _ _) (.plain (plain_int _ _) (.row [.ints .u8] _ hrow2 (by decide) (.glob (roots_at hr) (by intro m; rfl) (.nil _))))), by simp, 1, ?_⟩
 have e := owrap_vc (Res d wrapS.news σ K) 0 key nonce inner left
 refine e.mpr ?_
 rw [wE_eq, wL_eq] at hK
 have fail : ∀ (e : Int) (σ' : Mem), wrE key left inner = e → e ≠ 0 → Res d wrapS.news σ K (.tup [.c (.con (.slice none 0 0)), .c (.int .i64 e)]) σ' := fun e σ' he h0 =>
  res_tnil (k := .u8) (.int he.symm .nil) (wrR_fail (by rw [he]; exact h0)) hK
 refine ⟨⟨rfl, hk, hn⟩, fun q1 => ⟨hlf, fun q2 => fail 2 _ ?_ (by decide), fun q2 => ⟨hlf, fun q3 => fail 1 _ ?_ (by decide), fun q3 => ?_⟩⟩, fun q1 => fail 2 _ ?_ (by decide)⟩
 ·rw [ieq_true] at q2; unfold wrE; rw [if_pos (Or.inr q2)]
 ·rw [ine_false] at q1; rw [ieq_false] at q2; rw [igt_true] at q3
  have hlen : key.length = 32 := by unfold dvE at q1; split at q1; assumption; cases q1
  unfold wrE; rw [if_neg (by rintro (h | h); exact h hlen; exact q2 h), if_pos]
  unfold roomI at q3; exact q3
 ·rw [ine_false] at q1; rw [ieq_false] at q2; rw [igt_false] at q3
  have hlen : key.length = 32 := by unfold dvE at q1; split at q1; assumption; cases q1
  have hrg : 1 ≤ left ∧ left ≤ 8 := by
   have := mt sizeI_zero.mpr q2; omega
  obtain ⟨h1, h2⟩ := hrg
  have hsz := sizeI_some h1 h2
  obtain ⟨m, rfl⟩ := Int.eq_ofNat_of_zero_le (show 0 ≤ left by omega)
  have hin : inner.length ≤ 14 + 34 * m := by unfold roomI at q3; rw [hsz] at q3; simp only [ofNat, llen] at q3; omega
  have hwe : wrE key (m : Int) inner = 0 := by
   unfold wrE; rw [if_neg (by rintro (h | h); exact h hlen; exact q2 h), if_neg (by rw [hsz]; omega)]
  have es : sub .i64 (sizeI (m : Int)) 32 = ((16 + 34 * m : Nat) : Int) := by rw [hsz, sub_i64 (by omega) (by omega)]; omega
  have ea : conv .u8 (shr .i64 (inner.length : Int) 8) = ((inner.length / 256 : Nat) : Int) := by
   have : shr .i64 (inner.length : Int) 8 = ((inner.length / 2 ^ 8 : Nat) : Int) := shr_i64 (n := 8) (by decide)
   rw [this, conv_u8]; omega
  have eb : conv .u8 (inner.length : Int) = ((inner.length % 256 : Nat) : Int) := by rw [conv_u8]; omega
  have ep : plO (m : Int) inner = lput (lset (lset (lzeros (16 + 34 * m)) 0 ((inner.length / 256 : Nat) : Int)) 1 ((inner.length % 256 : Nat) : Int)) 2 inner := by
   rw [pl_fill (by omega), plO_some h1 h2]
   rw [show 14 + (34 * (m : Int)).toNat - inner.length = 16 + 34 * m - 2 - inner.length by omega]
  have hB := dvB_bl key nonce
  have hM := dvM_bl key nonce
  have hz : BL 16 (lzeros 16) := bl_of rfl (zeros_bs _)
  have e0 : lsub (dvB key nonce) 0 16 = dvB key nonce := lsub_whole hB.len
  have en : lsub nonce 0 16 = nonce := lsub_whole hn.bl.len
  have ln := hn.bl.len
  have ly : (lset (lset (lzeros (16 + 34 * m)) 0 ((inner.length / 256 : Nat) : Int)) 1 ((inner.length % 256 : Nat) : Int)).length = 16 + 34 * m := by rw [lset_len, lset_len]; simp [lzeros]
  have lz : (lzeros (16 + 34 * m)).length = 16 + 34 * m := by simp [lzeros]
  have lset1 : (lset (lzeros (16 + 34 * m)) 0 ((inner.length / 256 : Nat) : Int)).length = 16 + 34 * m := by rw [lset_len, lz]
  have ei : lsub inner 0 (min inner.length (16 + 34 * m - 2)) = inner := by rw [show min inner.length (16 + 34 * m - 2) = inner.length by omega]; exact lsub_whole rfl
  have pb : Bs (plO (m : Int) inner) := plO_bs hi.bs (by omega)
  have pll : (plO (m : Int) inner).length = 16 + 34 * m := by have := plO_len h1 h2 (inner := inner) (by rw [hsz]; omega); rw [hsz] at this; omega
  have mb : Bs (mask (ks (dvB key nonce)) (lzeros 16) (plO (m : Int) inner)) := mask_bs (ks_bl hB) hz pb
  have ml := mask_length (ks (dvB key nonce)) (lzeros 16) (plO (m : Int) inner)
  have tl := tagO_len (dvM key nonce) (m : Int) nonce (mask (ks (dvB key nonce)) (lzeros 16) (plO (m : Int) inner))
  simp only [es, nat_cast, llen_def, ofNat_def, ea, eb, ly, lz, lset1, nmin_def, nsub_def, ei, ← ep, e0, en, lcat_def, List.nil_append, nadd_def, List.length_append, ln, ml, pll, tl, Mk_iff, NonNeg_iff, InB_iff, Fits_iff, List.length_nil]
  refine ⟨hlf, by omega, by omega, ⟨by omega, by omega⟩, ⟨by omega, by omega⟩, ⟨by omega, by omega⟩, by omega, ⟨⟨hB, hz⟩, ⟨by omega⟩, pb⟩, by omega, room1 (by omega), ⟨trivial, ⟨hM⟩, hn, ⟨by omega, mb⟩⟩, room1 (by omega), room1 (by omega), res_tvec (k := .u8) rfl (.int hwe.symm .nil) ?_ hK⟩
  unfold wrR; rw [if_pos hwe]; rfl
 ·rw [ine_true] at q1
  have hlen : key.length ≠ 32 := by intro h; apply q1; unfold dvE; rw [if_pos h]
  unfold wrE; rw [if_pos (Or.inl hlen)]
theorem good_orwrap : Sx.Good Tryd.prog 23 rwrapS := by
 refine Sx.Good.reads (D := []) mixed gamO3_good Tryd.func23 (by kernel_rfl) rfl fun d args σ K h => ?_
 simp only [rwrapS] at h
 split at h <;> try exact h.elim
 rename_i x nonce left y
 obtain ⟨key, h, hrow⟩ := rdb_row h
 obtain ⟨inner, ⟨⟨hk, hn, hlf, hi⟩, hK⟩, hrow2⟩ := rdb_row h
 refine ⟨_, _, .row [.ints .u8] _ hrow (by decide) (.plain (plain_ints _ _ _) (.plain (plain_int _ _) (.row [.ints .u8] _ hrow2 (by decide) (.nil _)))), by simp, ?_⟩
 rw [wE_eq, wL_eq] at hK
 have fail : ∀ (e : Int) (σ' : Mem), wrE key left inner = e → e ≠ 0 → Res d rwrapS.news σ K (.tup [.c (.con (.slice none 0 0)), .c (.int .i64 e)]) σ' := fun e σ' he h0 =>
  res_tnil (k := .u8) (.int he.symm .nil) (wrR_fail (by rw [he]; exact h0)) hK
 have hrng := sizeI_rng left
 by_cases hgo : key.length = 32 ∧ sizeI left ≠ 0 ∧ (inner.length : Int) ≤ sizeI left - 34
 ·obtain ⟨hlen, q2, q3⟩ := hgo
  have hrg : 1 ≤ left ∧ left ≤ 8 := by
   have := mt sizeI_zero.mpr q2; omega
  obtain ⟨h1, h2⟩ := hrg
  have hsz := sizeI_some h1 h2
  obtain ⟨m, rfl⟩ := Int.eq_ofNat_of_zero_le (show 0 ≤ left by omega)
  have hin : inner.length ≤ 14 + 34 * m := by rw [hsz] at q3; omega
  have hwe : wrE key (m : Int) inner = 0 := by
   unfold wrE; rw [if_neg (by rintro (h | h); exact h hlen; exact q2 h), if_neg (by rw [hsz]; omega)]
  have es : sub .i64 (sizeI (m : Int)) 32 = ((16 + 34 * m : Nat) : Int) := by rw [hsz, sub_i64 (by omega) (by omega)]; omega
  have es4 : sub .i64 (sizeI (m : Int)) 34 = ((14 + 34 * m : Nat) : Int) := by rw [hsz, sub_i64 (by omega) (by omega)]; omega
  have ea : conv .u8 (quo .i64 (inner.length : Int) 256) = ((inner.length / 256 : Nat) : Int) := by
   have : quo .i64 (inner.length : Int) 256 = ((inner.length / 256 : Nat) : Int) := quoN_i64 (b := 256) (by omega)
   rw [this, conv_u8]; omega
  have eb : conv .u8 (rem (inner.length : Int) 256) = ((inner.length % 256 : Nat) : Int) := by
   have : rem (inner.length : Int) 256 = ((inner.length % 256 : Nat) : Int) := remN (b := 256)
   rw [this, conv_u8]; omega
  have lz : (lzeros (16 + 34 * m)).length = 16 + 34 * m := by simp [lzeros]
  have lset1 : (lset (lzeros (16 + 34 * m)) 0 ((inner.length / 256 : Nat) : Int)).length = 16 + 34 * m := by rw [lset_len, lz]
  have pb : Bs (plO (m : Int) inner) := plO_bs hi.bs (by omega)
  have pll : (plO (m : Int) inner).length = 16 + 34 * m := by have := plO_len h1 h2 (inner := inner) (by rw [hsz]; omega); rw [hsz] at this; omega
  have st : ∀ i, i ≤ inner.length → lput (lset (lset (lzeros (16 + 34 * m)) 0 ((inner.length / 256 : Nat) : Int)) 1 ((inner.length % 256 : Nat) : Int)) 2 (inner.take i) = ((inner.length / 256 : Nat) : Int) :: ((inner.length % 256 : Nat) : Int) :: (inner.take i ++ lzeros (14 + 34 * m - i)) := by
   intro i hi'
   have hl : (inner.take i).length = i := by rw [List.length_take]; omega
   rw [pl_fill (by omega), hl, show 16 + 34 * m - 2 - i = 14 + 34 * m - i by omega]
  obtain ⟨f, hf⟩ := loop_ex (fun f i y => orwrap.l0 (Res d rwrapS.news σ K) (m : Int) nonce key inner f i y) inner.length (fun i => ((inner.length / 256 : Nat) : Int) :: ((inner.length % 256 : Nat) : Int) :: (inner.take i ++ lzeros (14 + 34 * m - i)))
   (fun g i hi' h => ⟨g + 1, by
    have e2 : add .i64 2 (i : Int) = ((2 + i : Nat) : Int) := addN_i64 (a := 2) (by omega)
    have hll : (((inner.length / 256 : Nat) : Int) :: ((inner.length % 256 : Nat) : Int) :: (inner.take i ++ lzeros (14 + 34 * m - i))).length = 16 + 34 * m := by
     simp only [List.length_cons, List.length_append, List.length_take, lzeros, List.length_replicate]; omega
    rw [orwrap.l0_succ]
    simp only [nat_cast, ofNat_def, llen_def, e2, hll, InB_iff]
    rw [add1_i64 (by omega)]
    refine ⟨fun _ => ⟨⟨by omega, by omega⟩, ⟨by omega, by omega⟩, ?_⟩, fun r => ?_⟩
    ·have est : lset (((inner.length / 256 : Nat) : Int) :: ((inner.length % 256 : Nat) : Int) :: (inner.take i ++ lzeros (14 + 34 * m - i))) (2 + i) (lget inner i) = ((inner.length / 256 : Nat) : Int) :: ((inner.length % 256 : Nat) : Int) :: (inner.take (i + 1) ++ lzeros (14 + 34 * m - (i + 1))) := by
      unfold lset
      rw [show 2 + i = i + 1 + 1 by omega, List.set_cons_succ, List.set_cons_succ]
      have hl : (inner.take i).length = i := by rw [List.length_take]; omega
      rw [List.set_append_right _ _ (by omega), hl, Nat.sub_self]
      obtain ⟨T, hT⟩ : ∃ T, 14 + 34 * m - i = T + 1 := ⟨14 + 34 * m - i - 1, by omega⟩
      rw [hT, show 14 + 34 * m - (i + 1) = T by omega]
      unfold lzeros
      rw [List.replicate_succ, List.set_cons_zero, List.take_add_one]
      have hg : inner[i]? = some (lget inner i) := lget_some hi'
      rw [hg]
      simp
     rw [est]; exact h
    ·rw [ilt_false] at r; omega⟩)
   ⟨1, by
    rw [orwrap.l0_succ]
    have ep : ((inner.length / 256 : Nat) : Int) :: ((inner.length % 256 : Nat) : Int) :: (inner.take inner.length ++ lzeros (14 + 34 * m - inner.length)) = plO (m : Int) inner := by
     rw [List.take_of_length_le (Nat.le_refl _), plO_some h1 h2, show 14 + (34 * (m : Int)).toNat - inner.length = 14 + 34 * m - inner.length by omega]
    rw [ep]
    refine ⟨fun r => ?_, fun _ => ⟨⟨hk, hlen, hn.bl, h1, h2, by omega, pb⟩, res_tvec (k := .u8) rfl (.int hwe.symm .nil) (by unfold wrR; rw [if_pos hwe]) hK⟩⟩
    rw [ilt_true] at r; simp only [ofNat, llen] at r; omega⟩ 0 (by omega)
  refine ⟨f + 1, ?_⟩
  have e := orwrap_vc (Res d rwrapS.news σ K) f key nonce inner (m : Int)
  have st0 := st 0 (by omega)
  have e00 : lput (lset (lset (lzeros (16 + 34 * m)) 0 ((inner.length / 256 : Nat) : Int)) 1 ((inner.length % 256 : Nat) : Int)) 2 (inner.take 0) = lset (lset (lzeros (16 + 34 * m)) 0 ((inner.length / 256 : Nat) : Int)) 1 ((inner.length % 256 : Nat) : Int) := by
   unfold lput; rw [List.take_zero]; simp
  rw [← st0, e00] at hf
  refine e.mpr ⟨fun _ => ⟨hlf, fun r => ?_, fun _ => ⟨hlf, fun r => ?_, fun _ => ?_⟩⟩, fun r => ?_⟩
  ·rw [ieq_true] at r; exact absurd r q2
  ·rw [es4, igt_true] at r; simp only [ofNat, llen] at r; omega
  ·simp only [es, nat_cast, llen_def, ofNat_def, ea, eb, lz, lset1, Mk_iff, InB_iff, NeZ_iff]
   exact ⟨hlf, by omega, by omega, ⟨by omega, by omega⟩, by omega, ⟨by omega, by omega⟩, hf⟩
  ·rw [ine_true] at r; simp only [ofNat, llen] at r; omega
 ·refine ⟨1, ?_⟩
  have e := orwrap_vc (Res d rwrapS.news σ K) 0 key nonce inner left
  refine e.mpr ⟨fun q1 => ⟨hlf, fun q2 => fail 2 _ ?_ (by decide), fun q2 => ⟨hlf, fun q3 => fail 1 _ ?_ (by decide), fun q3 => ?_⟩⟩, fun q1 => fail 2 _ ?_ (by decide)⟩
  ·rw [ieq_true] at q2; unfold wrE; rw [if_pos (Or.inr q2)]
  ·rw [ine_false] at q1; rw [ieq_false] at q2; rw [igt_true, sub_i64 (by omega) (by omega)] at q3
   simp only [ofNat, llen] at q1 q3
   unfold wrE; rw [if_neg (by rintro (h | h); exact h (by omega); exact q2 h), if_pos (by omega)]
  ·exfalso
   rw [ine_false] at q1; rw [ieq_false] at q2; rw [igt_false, sub_i64 (by omega) (by omega)] at q3
   simp only [ofNat, llen] at q1 q3
   exact hgo ⟨by omega, q2, by omega⟩
  ·rw [ine_true] at q1; simp only [ofNat, llen] at q1
   unfold wrE; rw [if_pos (Or.inl (by omega))]
theorem res_peeled {d m : Nat} {σ σ' : Mem} {K : AV → Mem → Prop} {l l' r r' : List Int} {e e' : Int} (hf : Mem.find σ' m = some (.vec [.ints .u8 l])) (hl : l = l') (hr : r = r') (he : e = e')
  (hK : K (.tup [.g [.cells [.vec d], .ints .u8 16 r'], .c (.int .i64 e')]) (Mem.ins d (.vec [.ints .u8 l']) σ)) : Res d 1 σ K (.tup [.g [.cells [.vec m], .ints .u8 16 r], .c (.int .i64 e)]) σ' := by
 subst hl hr he
 exact ⟨[.vec m [.ints .u8 l]], .tup [.g [.cells [.vec d], .ints .u8 16 r], .c (.int .i64 e)], Nat.le_refl _, fun it h => by simp at h; subst h; exact ⟨hf, rfl⟩, pairwise_one,
  ⟨⟨⟨Or.inr ⟨0, _, rfl, rfl, rfl⟩, trivial⟩, ⟨rfl, rfl, rfl⟩, trivial⟩, Or.inl ⟨fun _ => rfl, fun _ => rfl, fun _ _ q => q⟩, trivial⟩, hK⟩
theorem res_unpeeled {d : Nat} {σ σ' : Mem} {K : AV → Mem → Prop} {l' r r' : List Int} {e e' : Int} (hl : l' = []) (hr : r = r') (he : e = e')
  (hK : K (.tup [.g [.cells [.vec d], .ints .u8 16 r'], .c (.int .i64 e')]) (Mem.ins d (.vec [.ints .u8 l']) σ)) : Res d 1 σ K (.tup [.g [.cells [.con (.slice none 0 0)], .ints .u8 16 r], .c (.int .i64 e)]) σ' := by
 subst hl hr he
 exact ⟨[.nil [.ints .u8]], .tup [.g [.cells [.vec d], .ints .u8 16 r], .c (.int .i64 e)], Nat.le_refl _, fun it h => by simp at h; subst h; exact ⟨Nat.one_pos, rfl⟩, pairwise_one,
  ⟨⟨⟨Or.inr ⟨0, _, rfl, rfl, rfl⟩, trivial⟩, ⟨rfl, rfl, rfl⟩, trivial⟩, Or.inl ⟨fun _ => rfl, fun _ => rfl, fun _ _ q => q⟩, trivial⟩, hK⟩
structure Cut0 (key c : List Int) (m : Nat) : Prop where
 h1 : 1 ≤ m
 h2 : m ≤ 8
 len : key.length = 32
 clen : c.length = 320
 cut : cutR c (sizeI (m : Int)) = lsub c 0 (48 + 34 * m)
 sz : sizeI (m : Int) = ((48 + 34 * m : Nat) : Int)
 cutE : cutE c (sizeI (m : Int)) = 0
theorem cut0 {key c : List Int} {left : Int} (hlen : key.length = 32) (q2 : sizeI left ≠ 0) (q3 : cutE c (sizeI left) = 0) : ∃ m : Nat, left = (m : Int) ∧ Cut0 key c m := by
 have hrg : 1 ≤ left ∧ left ≤ 8 := by have := mt sizeI_zero.mpr q2; omega
 have hsz := sizeI_some hrg.1 hrg.2
 obtain ⟨m, rfl⟩ := Int.eq_ofNat_of_zero_le (show 0 ≤ left by omega)
 obtain ⟨c1, c2, c3, c4, c5⟩ := cutE_ok q3
 have es : sizeI (m : Int) = ((48 + 34 * m : Nat) : Int) := by rw [hsz]; omega
 refine ⟨m, rfl, by omega, by omega, hlen, c1, ?_, es, q3⟩
 rw [c5, es, Int.toNat_natCast]
theorem Cut0.bx {key c : List Int} {m : Nat} (h : Cut0 key c m) : lsub (lsub c 0 (48 + 34 * m)) 32 (48 + 34 * m - 32) = bxO (m : Int) c := by
 rw [lsub_zero_lsub (by omega)]
 unfold bxO; rw [h.sz, Int.toNat_natCast]
theorem Cut0.olen {key c : List Int} {m : Nat} (h : Cut0 key c m) : (lsub c 0 (48 + 34 * m)).length = 48 + 34 * m := lsub_length (by have := h.clen; have := h.h2; omega)
theorem Cut0.bxlen {key c : List Int} {m : Nat} (h : Cut0 key c m) : (bxO (m : Int) c).length = 16 + 34 * m := by
 have := h.clen; have := h.h2
 rw [← h.bx, lsub_length (by rw [h.olen]; omega)]; omega
theorem Cut0.pe {key c : List Int} {m : Nat} (h : Cut0 key c m) : peE key (m : Int) c = if lsub c 16 16 ≠ tagO (dvM key (nnO c)) (m : Int) (nnO c) (bxO (m : Int) c) then 70 else if inOk (opO key (m : Int) c) (m : Int) = false then 71 else 0 := by
 conv => lhs; unfold peE
 rw [if_neg (by rintro (q | q); exact q h.len; rw [h.sz] at q; omega), if_neg (by rw [h.cutE]; simp)]
theorem nn_bl {c : List Int} (hb : Bs c) (hl : c.length = 320) : BL 16 (nnO c) := bl_of (lsub_length (by omega)) (lsub_bs hb _ _)
theorem good_opeel : Sx.Good Tryd.prog 15 peelS := by
 refine Sx.Good.reads (D := []) mixed gamO3_good Tryd.func15 (by kernel_rfl) rfl fun d args σ K h => ?_
 simp only [peelS] at h
 split at h <;> try exact h.elim
 rename_i x left y
 obtain ⟨key, h, hrow⟩ := rdb_row h
 obtain ⟨c, ⟨⟨hr, hk, hlf, hc⟩, hK⟩, hrow2⟩ := rdb_row h
 refine ⟨_, _, .row [.ints .u8] _ hrow (by decide) (.plain (plain_int _ _) (.row [.ints .u8] _ hrow2 (by decide) (.glob (roots_at hr) (by intro m; rfl) (.nil _)))), by simp, 1, ?_⟩
 have e := opeel_vc (Res d peelS.news σ K) 0 key c left
 refine e.mpr ?_
 rw [pE_eq, pC_eq, pR_eq] at hK
 have fail : ∀ (e : Int) (σ' : Mem), peE key left c = e → e ≠ 0 → Res d peelS.news σ K (.tup [.g [.cells [.con (.slice none 0 0)], .ints .u8 16 (lzeros 16)], .c (.int .i64 e)]) σ' := fun e σ' he h0 =>
  res_unpeeled (peC_fail (by rw [he]; exact h0)).1 (peC_fail (by rw [he]; exact h0)).2.symm he.symm hK
 refine ⟨fun q1 => ⟨hlf, fun q2 => fail 2 _ ?_ (by decide), fun q2 => ⟨hlf, ⟨hc.sh⟩, fun q3 => fail _ _ ?_ ?_, fun q3 => ?_⟩⟩, fun q1 => fail 2 _ ?_ (by decide)⟩
 ·rw [ieq_true] at q2; unfold peE; rw [if_pos (Or.inr q2)]
 ·rw [ine_false] at q1; simp only [ofNat, llen] at q1; rw [ieq_false] at q2; rw [ine_true] at q3
  have hn0 : ¬ (key.length ≠ 32 ∨ sizeI left = 0) := by rintro (h | h); exact h (by omega); exact q2 h
  unfold peE; rw [if_neg hn0, if_pos q3]
 ·rw [ine_true] at q3; exact q3
 ·rw [ine_false] at q1 q3; simp only [ofNat, llen] at q1; rw [ieq_false] at q2
  obtain ⟨m, rfl, H⟩ := cut0 (key := key) (show key.length = 32 by omega) q2 q3
  have h1 := H.h1
  have h2 := H.h2
  have hcl := H.clen
  have hnn := nn_bl hc.bs H.clen
  have hM := dvM_bl key (nnO c)
  have hB := dvB_bl key (nnO c)
  have hR := dvR_bl key (nnO c)
  have ol := H.olen
  have bl := H.bxlen
  have f1 : lsub (lsub c 0 (48 + 34 * m)) 0 16 = nnO c := lsub_zero_lsub (by omega)
  have f2 : lsub (lsub c 0 (48 + 34 * m)) 16 16 = lsub c 16 16 := lsub_zero_lsub (by omega)
  have f3 := H.bx
  have f4 : lsub (lsub c 0 (48 + 34 * m)) 0 32 = lsub c 0 32 := lsub_zero_lsub (by omega)
  have f5 : dvE key = 0 := by unfold dvE; rw [if_pos H.len]
  have f6 : lsub (dvB key (nnO c)) 0 16 = dvB key (nnO c) := lsub_whole hB.len
  have f7 : lsub (dvR key (nnO c)) 0 32 = dvR key (nnO c) := lsub_whole hR.len
  have f8 : mask (ks (dvB key (nnO c))) (lzeros 16) (bxO (m : Int) c) = opO key (m : Int) c := rfl
  have hz : BL 16 (lzeros 16) := bl_of rfl (zeros_bs _)
  have l16 : (lsub c 16 16).length = 16 := lsub_length (by omega)
  have l32 : (lsub c 0 32).length = 32 := lsub_length (by omega)
  have tl := tagO_len (dvM key (nnO c)) (m : Int) (nnO c) (bxO (m : Int) c)
  have pl := opO_len (key := key) (left := (m : Int)) (c := c) (by omega) (by omega) hcl
  have pb : Bs (opO key (m : Int) c) := opO_bs hc.bs
  have hpe := H.pe
  simp only [H.cut, llen_def, ol, nsub_def, f1, f2, f3, f4, f5, f6, f7, f8, nadd_def, show ine 0 0 = false from rfl, Bool.false_eq_true, false_implies, true_and, forall_const, Fits_iff, NonNeg_iff]
  refine ⟨by omega, by omega, ⟨hk, ⟨hnn⟩⟩, ⟨by omega, by omega⟩, ⟨⟨by omega, by omega⟩, by omega, by omega⟩, ⟨⟨hM⟩, ⟨hnn⟩, ⟨by omega, lsub_bs hc.bs _ _⟩⟩, ⟨⟨⟨by omega⟩, lsub_bs hc.bs _ _⟩, ⟨by omega⟩, tagO_bs _ _ _ _⟩, fun t => fail 70 _ ?_ (by decide), fun t => ⟨by omega, ⟨⟨hB, hz⟩, ⟨by omega⟩, lsub_bs hc.bs _ _⟩, ⟨by omega, by omega, by rw [pl, H.sz]; omega, pb⟩, fun u => fail 71 _ ?_ (by decide), fun u => ?_⟩⟩
  ·rw [bnot_true, leq_false] at t; rw [hpe, if_pos t]
  ·rw [bnot_false, leq_true] at t; rw [hpe, if_neg (by rw [t]; simp), if_pos u]
  ·rw [bnot_false, leq_true] at t
   have pe0 : peE key (m : Int) c = 0 := by rw [hpe, if_neg (by rw [t]; simp), if_neg (by rw [u]; simp)]
   obtain ⟨N, eN, hN, _, _⟩ := inN_nat pb
   obtain ⟨hle, _⟩ := inOk_some (show (1 : Int) ≤ (m : Int) by omega) (by omega) u
   rw [eN] at hle
   have il : (lsub (opO key (m : Int) c) 2 N).length = N := lsub_length (by rw [pl]; omega)
   have en : nat (inN (opO key (m : Int) c)) = N := by rw [eN, nat_cast]
   have einn : innO (opO key (m : Int) c) = lsub (opO key (m : Int) c) 2 N := by unfold innO; rw [eN, Int.toNat_natCast]
   have k0 : opeel.k0 (Res d peelS.news σ K) (m : Int) key c (nat (inN (opO key (m : Int) c))) (leq (lsub c 16 16) (tagO (dvM key (nnO c)) (m : Int) (nnO c) (bxO (m : Int) c))) (tagO (dvM key (nnO c)) (m : Int) (nnO c) (bxO (m : Int) c)) (opO key (m : Int) c) 0 := by
    rw [opeel.k0_eq]
    simp only [H.cut, f1, f4, f7, en, Fits_iff]
    have hres : ∀ (mm : Nat) (σ' : Mem) (l : List Int), Mem.find σ' mm = some (.vec [.ints .u8 l]) → l = peC key (m : Int) c → Res d peelS.news σ K (.tup [.g [.cells [.vec mm], .ints .u8 16 (lput (lzeros 16) 0 (lsub (tagL (dvR key (nnO c)) (lsub c 0 32)) 0 16))], .c (.int .i64 0)]) σ' := by
     intro mm σ' l hf hl
     refine res_peeled hf hl ?_ pe0.symm hK
     rw [lput_full (by rw [lsub_length (by rw [tag_len]; omega)]; rfl), tagL_eq]
     unfold peR; rw [if_pos pe0]
    refine ⟨by omega, by omega, by omega, fun v => ⟨⟨by omega⟩, fun w => ?_, fun _ => hres _ _ _ rfl ?_⟩, fun v => ⟨⟨by omega⟩, fun w => ?_, fun _ => hres _ _ _ rfl ?_⟩⟩
    ·rw [ine_true] at w; exact absurd (by unfold padE; rw [if_pos (by omega)]) w
    ·rw [igt_true] at v; unfold peC; rw [if_pos pe0, if_pos v, einn]
    ·rw [igt_false] at v; rw [ine_true] at w; exact absurd (by unfold plainE; rw [if_pos (by omega)]) w
    ·rw [igt_false] at v; unfold peC; rw [if_pos pe0, if_neg (by omega), einn]
   have sR : Sg (dvR key (nnO c)) := ⟨by rw [hR.len]; omega⟩
   exact ⟨⟨by omega, by omega⟩, ⟨by omega, ⟨sR, ⟨by omega⟩⟩, k0⟩, by omega, ⟨sR, ⟨by omega⟩⟩, k0⟩
 ·rw [ine_true] at q1; simp only [ofNat, llen] at q1
  unfold peE; rw [if_pos (Or.inl (by omega))]
theorem orpeel_l1 {R : AV → Mem → Prop} {key c : List Int} {m N : Nat} (hk : Ky key) (hc : In c) (H : Cut0 key c m) (eN : inN (opO key (m : Int) c) = (N : Int))
  (eA : add .i64 (mul .i64 256 (conv .i64 (lget (opO key (m : Int) c) 0))) (conv .i64 (lget (opO key (m : Int) c) 1)) = (N : Int)) (hle : N ≤ 14 + 34 * m)
  (hno : zb ((opO key (m : Int) c).drop (2 + N)) = false → ∀ σ, R (.tup [.g [.cells [.con (.slice none 0 0)], .ints .u8 16 (lzeros 16)], .c (.int .i64 71)]) σ)
  (hyes : zb ((opO key (m : Int) c).drop (2 + N)) = true → ∀ mm σ l r, Mem.find σ mm = some (.vec [.ints .u8 l]) → l = (if 1 < (m : Int) then padR (innO (opO key (m : Int) c)) else plainR (innO (opO key (m : Int) c))) → r = lsub (hmac (dvR key (nnO c)) (lsub c 0 32)) 0 16 → R (.tup [.g [.cells [.vec mm], .ints .u8 16 r], .c (.int .i64 0)]) σ) :
  ∀ (k i : Nat), k = (opO key (m : Int) c).length - i → 2 + N ≤ i → i ≤ (opO key (m : Int) c).length → (∀ j, 2 + N ≤ j → j < i → lget (opO key (m : Int) c) j = 0) → ∃ f, orpeel.l1 R (m : Int) (opO key (m : Int) c) key (nnO c) c f (i : Int) := by
 have h1 := H.h1
 have h2 := H.h2
 have hcl := H.clen
 have ol := H.olen
 have hR := dvR_bl key (nnO c)
 have pl := opO_len (key := key) (left := (m : Int)) (c := c) (by omega) (by omega) hcl
 have f4 : lsub (lsub c 0 (48 + 34 * m)) 0 32 = lsub c 0 32 := lsub_zero_lsub (by omega)
 have f7 : lsub (dvR key (nnO c)) 0 32 = dvR key (nnO c) := lsub_whole hR.len
 have l32 : (lsub c 0 32).length = 32 := lsub_length (by omega)
 have il : (lsub (opO key (m : Int) c) 2 N).length = N := lsub_length (by rw [pl]; omega)
 have einn : innO (opO key (m : Int) c) = lsub (opO key (m : Int) c) 2 N := by unfold innO; rw [eN, Int.toNat_natCast]
 have e2 : add .i64 2 (N : Int) = ((2 + N : Nat) : Int) := addN_i64 (a := 2) (by omega)
 intro k
 induction k with
 | zero =>
  intro i hk0 hi0 hi hz
  obtain rfl : i = (opO key (m : Int) c).length := by omega
  have hzb : zb ((opO key (m : Int) c).drop (2 + N)) = true := by
   rw [zb_true]
   intro j hj
   rw [List.length_drop] at hj
   rw [lget_drop]; exact hz _ (by omega) (by omega)
  refine ⟨1, ?_⟩
  rw [orpeel.l1_succ, eA, e2]
  simp only [H.cut, llen_def, ol, nsub_def, f4, f7, nadd_def, nat_cast, ofNat_def, show 2 + N - 2 = N by omega, Fits_iff, NonNeg_iff]
  have er : lput (lzeros 16) 0 (lsub (tagL (dvR key (nnO c)) (lsub c 0 32)) 0 16) = lsub (hmac (dvR key (nnO c)) (lsub c 0 32)) 0 16 := by
   rw [lput_full (by rw [lsub_length (by rw [tag_len]; omega)]; rfl), tagL_eq]
  refine ⟨fun q => ?_, fun _ => ⟨by omega, ⟨by omega, by omega⟩, ⟨⟨hR⟩, ⟨⟨by omega⟩, lsub_bs hc.bs _ _⟩⟩, by omega, fun v => ⟨⟨⟨by omega, by omega⟩, by omega, by omega⟩, ⟨by omega⟩, hyes hzb _ _ _ _ rfl ?_ er⟩, fun v => ⟨⟨⟨by omega, by omega⟩, by omega, by omega⟩, ⟨by omega⟩, hyes hzb _ _ _ _ rfl ?_ er⟩⟩⟩
  ·rw [ilt_true] at q; omega
  ·rw [igt_true] at v; rw [if_pos v, einn]
  ·rw [igt_false] at v; rw [if_neg (by omega), einn]
 | succ k ih =>
  intro i hk0 hi0 hi hz
  by_cases h0 : lget (opO key (m : Int) c) i = 0
  ·obtain ⟨f, hf⟩ := ih (i + 1) (by omega) (by omega) (by omega) (fun j hj1 hj => by
    by_cases e : j = i
    ·rw [e]; exact h0
    ·exact hz j hj1 (by omega))
   refine ⟨f + 1, ?_⟩
   rw [orpeel.l1_succ]
   simp only [nat_cast, llen_def, ofNat_def, InB_iff]
   rw [add1_i64 (by omega)]
   refine ⟨fun _ => ⟨⟨by omega, by omega⟩, fun q => ?_, fun _ => hf⟩, fun q => ?_⟩
   ·rw [ine_true] at q; exact absurd h0 q
   ·rw [ilt_false] at q; omega
  ·refine ⟨1, ?_⟩
   rw [orpeel.l1_succ]
   simp only [nat_cast, llen_def, ofNat_def, InB_iff]
   refine ⟨fun _ => ⟨⟨by omega, by omega⟩, fun _ => hno ?_ _, fun q => ?_⟩, fun q => ?_⟩
   ·cases hz2 : zb ((opO key (m : Int) c).drop (2 + N)) with
    | false => rfl
    | true =>
     have := zb_true.mp hz2 (i - (2 + N)) (by rw [List.length_drop]; omega)
     rw [lget_drop, show 2 + N + (i - (2 + N)) = i by omega] at this
     exact absurd this h0
   ·rw [ine_false] at q; exact absurd q h0
   ·rw [ilt_false] at q; omega
theorem good_orpeel : Sx.Good Tryd.prog 36 rpeelS := by
 refine Sx.Good.reads (D := []) mixed gamO3_good Tryd.func36 (by kernel_rfl) rfl fun d args σ K h => ?_
 simp only [rpeelS] at h
 split at h <;> try exact h.elim
 rename_i x left y
 obtain ⟨key, h, hrow⟩ := rdb_row h
 obtain ⟨c, ⟨⟨hk, hlf, hc⟩, hK⟩, hrow2⟩ := rdb_row h
 refine ⟨_, _, .row [.ints .u8] _ hrow (by decide) (.plain (plain_int _ _) (.row [.ints .u8] _ hrow2 (by decide) (.nil _))), by simp, ?_⟩
 rw [pE_eq, pC_eq, pR_eq] at hK
 have fail : ∀ (e : Int) (σ' : Mem), peE key left c = e → e ≠ 0 → Res d rpeelS.news σ K (.tup [.g [.cells [.con (.slice none 0 0)], .ints .u8 16 (lzeros 16)], .c (.int .i64 e)]) σ' := fun e σ' he h0 =>
  res_unpeeled (peC_fail (by rw [he]; exact h0)).1 (peC_fail (by rw [he]; exact h0)).2.symm he.symm hK
 by_cases hgo : key.length = 32 ∧ sizeI left ≠ 0 ∧ cutE c (sizeI left) = 0
 ·obtain ⟨hlen, q2, q3⟩ := hgo
  obtain ⟨m, rfl, H⟩ := cut0 hlen q2 q3
  have h1 := H.h1
  have h2 := H.h2
  have hcl := H.clen
  have hnn := nn_bl hc.bs H.clen
  have hM := dvM_bl key (nnO c)
  have hB := dvB_bl key (nnO c)
  have ol := H.olen
  have bl := H.bxlen
  have f3 := H.bx
  have f6 : lsub (dvB key (nnO c)) 0 16 = dvB key (nnO c) := lsub_whole hB.len
  have f8 : mask (ks (dvB key (nnO c))) (lzeros 16) (bxO (m : Int) c) = opO key (m : Int) c := rfl
  have hz : BL 16 (lzeros 16) := bl_of rfl (zeros_bs _)
  have pl := opO_len (key := key) (left := (m : Int)) (c := c) (by omega) (by omega) hcl
  have pb : Bs (opO key (m : Int) c) := opO_bs hc.bs
  have hpe := H.pe
  obtain ⟨N, eN, hN, _, eA⟩ := inN_nat pb
  have es4 : sub .i64 (sizeI (m : Int)) 34 = ((14 + 34 * m : Nat) : Int) := by rw [H.sz, sub_i64 (by omega) (by omega)]; omega
  have hok : inOk (opO key (m : Int) c) (m : Int) = (decide ((N : Int) ≤ sizeI (m : Int) - 34) && zb ((opO key (m : Int) c).drop (2 + N))) := by unfold inOk; rw [eN, Int.toNat_natCast]
  have nl : (nnO c).length = 16 := hnn.len
  have tl : (lsub c 16 16).length = 16 := lsub_length (by omega)
  have g1 : ∀ i, i < 16 → lget (lsub c 0 (48 + 34 * m)) i = lget (nnO c) i := fun i hi => by
   unfold nnO; rw [lget_lsub (by omega), lget_lsub hi]
  have g2 : ∀ i, i < 16 → lget (lsub c 0 (48 + 34 * m)) (16 + i) = lget (lsub c 16 16) i := fun i hi => by
   rw [lget_lsub (by omega), lget_lsub hi, Nat.zero_add]
  have tail : ∃ f, orpeel.k0 (Res d rpeelS.news σ K) (m : Int) ((16 : Nat) : Int) key (nnO c) c (lsub c 16 16) f := by
   by_cases t : lsub c 16 16 = tagO (dvM key (nnO c)) (m : Int) (nnO c) (bxO (m : Int) c)
   ·have hl1 : (N : Int) ≤ 14 + 34 * m → ∃ f, orpeel.l1 (Res d rpeelS.news σ K) (m : Int) (opO key (m : Int) c) key (nnO c) c f ((2 + N : Nat) : Int) := by
     intro hle
     have hok' : inOk (opO key (m : Int) c) (m : Int) = zb ((opO key (m : Int) c).drop (2 + N)) := by rw [hok, decide_eq_true (by rw [H.sz]; omega), Bool.true_and]
     refine orpeel_l1 hk hc H eN eA (by omega) (fun q σ' => fail 71 _ ?_ (by decide)) (fun q mm σ' l r hf hl hr => ?_) _ (2 + N) rfl (by omega) (by rw [pl]; omega) (fun j hj1 hj => by omega)
     ·rw [hpe, if_neg (by rw [t]; simp), if_pos (by rw [hok']; exact q)]
     ·have pe0 : peE key (m : Int) c = 0 := by rw [hpe, if_neg (by rw [t]; simp), if_neg (by rw [hok', q]; simp)]
      refine res_peeled hf ?_ ?_ pe0.symm hK
      ·rw [hl]; unfold peC; rw [if_pos pe0]
      ·rw [hr]; unfold peR; rw [if_pos pe0]
    by_cases hle : (N : Int) ≤ 14 + 34 * m
    ·obtain ⟨f, hf⟩ := hl1 hle
     refine ⟨f, ?_⟩
     rw [orpeel.k0_eq]
     have e2 : add .i64 2 (N : Int) = ((2 + N : Nat) : Int) := addN_i64 (a := 2) (by omega)
     simp only [H.cut, llen_def, ol, nsub_def, f3, f6, f8, eA, es4, e2, Fits_iff, NonNeg_iff, InB_iff, pl]
     refine ⟨fun u => by rw [bnot_true, leq_false] at u; exact absurd t u, fun _ => ⟨by omega, ⟨by omega, by omega⟩, ⟨⟨hB, hz⟩, ⟨by omega⟩, lsub_bs hc.bs _ _⟩, ⟨by omega, by omega⟩, ⟨by omega, by omega⟩, hlf, fun u => ?_, fun _ => hf⟩⟩
     rw [igt_true] at u; omega
    ·refine ⟨0, ?_⟩
     rw [orpeel.k0_eq]
     simp only [H.cut, llen_def, ol, nsub_def, f3, f6, f8, eA, es4, Fits_iff, NonNeg_iff, InB_iff, pl]
     refine ⟨fun u => by rw [bnot_true, leq_false] at u; exact absurd t u, fun _ => ⟨by omega, ⟨by omega, by omega⟩, ⟨⟨hB, hz⟩, ⟨by omega⟩, lsub_bs hc.bs _ _⟩, ⟨by omega, by omega⟩, ⟨by omega, by omega⟩, hlf, fun _ => fail 71 _ ?_ (by decide), fun u => ?_⟩⟩
     ·rw [hpe, if_neg (by rw [t]; simp), if_pos (by rw [hok, decide_eq_false (by rw [H.sz]; omega), Bool.false_and])]
     ·rw [igt_false] at u; omega
   ·refine ⟨0, ?_⟩
    rw [orpeel.k0_eq]
    simp only [H.cut, llen_def, ol, nsub_def, f3]
    have tf : leq (lsub c 16 16) (tagO (dvM key (nnO c)) (m : Int) (nnO c) (bxO (m : Int) c)) = false := by rw [leq_false]; exact t
    refine ⟨fun _ => fail 70 _ (by rw [hpe, if_pos t]) (by decide), fun u => ?_⟩
    rw [tf] at u; cases u
  obtain ⟨ft, ht⟩ := tail
  obtain ⟨f, hf⟩ := loop_ex (fun f i (y : List Int × List Int) => orpeel.l0 (Res d rpeelS.news σ K) (m : Int) c key f i y.1 y.2) 16 (fun i => (upto 16 i (lget (nnO c)) (fun _ => 0), upto 16 i (lget (lsub c 16 16)) (fun _ => 0)))
   (fun g i hi h => ⟨g + 1, by
    rw [orpeel.l0_succ]
    have e16 : add .i64 16 (i : Int) = ((16 + i : Nat) : Int) := addN_i64 (a := 16) (by omega)
    simp only [H.cut, nat_cast, llen_def, ol, e16, InB_iff, Low_iff, nadd_def, Nat.zero_add]
    rw [add1_i64 (by omega)]
    refine ⟨fun _ => ?_, fun r => ?_⟩
    ·rw [g1 i hi, g2 i hi, upto_lset (F := lget (nnO c)) rfl, upto_lset (F := lget (lsub c 16 16)) rfl]
     exact ⟨⟨by omega, by omega⟩, ⟨by omega, by omega⟩, by omega, ⟨by omega, by omega⟩, ⟨by omega, by omega⟩, by omega, h⟩
    ·rw [ilt_false] at r; omega⟩)
   ⟨ft + 1, by
    rw [orpeel.l0_succ]
    refine ⟨fun r => ?_, fun _ => ?_⟩
    ·rw [ilt_true] at r; omega
    ·simp only [upto_all nl, upto_all tl, H.cut, llen_def, ol, nsub_def, f3, Fits_iff, NonNeg_iff]
     exact ⟨⟨hk, ⟨hnn⟩⟩, ⟨by omega, by omega⟩, ⟨⟨⟨hM⟩, ⟨hnn⟩, ⟨by omega, lsub_bs hc.bs _ _⟩⟩, ht⟩, ⟨⟨hM⟩, ⟨hnn⟩, ⟨by omega, lsub_bs hc.bs _ _⟩⟩, ht⟩⟩ 0 (by omega)
  refine ⟨f + 1, ?_⟩
  have e := orpeel_vc (Res d rpeelS.news σ K) f key c (m : Int)
  simp only [upto_zero, ← lzeros_tab] at hf
  refine e.mpr ⟨fun _ => ⟨hlf, fun r => ?_, fun _ => ⟨hlf, ⟨hc.sh⟩, fun r => ?_, fun _ => hf⟩⟩, fun r => ?_⟩
  ·rw [ieq_true] at r; exact absurd r q2
  ·rw [ine_true] at r; exact absurd q3 r
  ·rw [ine_true] at r; simp only [ofNat, llen] at r; omega
 ·refine ⟨1, ?_⟩
  have e := orpeel_vc (Res d rpeelS.news σ K) 0 key c left
  refine e.mpr ⟨fun q1 => ⟨hlf, fun q2 => fail 2 _ ?_ (by decide), fun q2 => ⟨hlf, ⟨hc.sh⟩, fun q3 => fail _ _ ?_ ?_, fun q3 => ?_⟩⟩, fun q1 => fail 2 _ ?_ (by decide)⟩
  ·rw [ieq_true] at q2; unfold peE; rw [if_pos (Or.inr q2)]
  ·rw [ine_false] at q1; simp only [ofNat, llen] at q1; rw [ieq_false] at q2; rw [ine_true] at q3
   unfold peE; rw [if_neg (by rintro (h | h); exact h (by omega); exact q2 h), if_pos q3]
  ·rw [ine_true] at q3; exact q3
  ·exfalso
   rw [ine_false] at q1 q3; simp only [ofNat, llen] at q1; rw [ieq_false] at q2
   exact hgo ⟨by omega, q2, q3⟩
  ·rw [ine_true] at q1; simp only [ofNat, llen] at q1
   unfold peE; rw [if_pos (Or.inl (by omega))]
theorem gamO4_good : GoodG Tryd.prog gamO4 :=
 (((gamO3_good.ext good_owrap ⟨_, Tryd.func25, by decide, by kernel_rfl⟩).ext good_orwrap ⟨_, Tryd.func23, by decide, by kernel_rfl⟩).ext good_opeel ⟨_, Tryd.func15, by decide, by kernel_rfl⟩).ext good_orpeel ⟨_, Tryd.func36, by decide, by kernel_rfl⟩
end Go.Proofs.YtienfecnkglilaaDoor.G
namespace Go.Blk
open Go.Sx Go.Fld
set_option maxRecDepth 20000
theorem xor_back {a k : Int} (ha : Byte a) (hk : Byte k) : bxor .u8 (bxor .u8 a k) k = a := by
 obtain ⟨x, hx, rfl⟩ := ha.nat
 obtain ⟨y, hy, rfl⟩ := hk.nat
 rw [bxor_u8 hx hy, bxor_u8 (xor_lt hx hy) hy, Nat.xor_assoc, Nat.xor_self, Nat.xor_zero]
end Go.Blk
namespace Go.Proofs.YtienfecnkglilaaDoor.G
open Go Go.Sx Go.Fld Go.Hsh Go.Mac Go.Blk Go.Cel Go.Oni
set_option maxRecDepth 20000
theorem mask_mask {w s p : List Int} (hw : BL 176 w) (hs : BL 16 s) (hp : Bs p) : mask w s (mask w s p) = p := by
 conv => rhs; rw [eq_tab (l := p) rfl]
 unfold mask
 rw [tab_len]
 refine tab_ext fun i hi => ?_
 rw [tab_lget _ hi, xor_back ((bs_bl hp).get i) (strB_byte hw hs i)]
theorem lsub_app_lo {a b : List Int} {i n : Nat} (h : i + n ≤ a.length) : lsub (a ++ b) i n = lsub a i n := by
 unfold lsub; rw [List.drop_append_of_le_length (by omega), List.take_append_of_le_length (by rw [List.length_drop]; omega)]
theorem lsub_app_hi {a b : List Int} {i n : Nat} (h : a.length = i) : lsub (a ++ b) i n = b.take n := by
 unfold lsub; subst h; rw [List.drop_left]
structure Bk (key nonce inner w : List Int) (m : Nat) : Prop where
 len : w.length = 48 + 34 * m
 bs : Bs w
 e : wrE key (m : Int) inner = 0
 r : wrR key nonce (m : Int) inner = w
 nn : lsub w 0 16 = nonce
 nc : nnO (padR w) = nonce
 op : opO key (m : Int) (padR w) = plO (m : Int) inner
 cutE : cutE (padR w) (sizeI (m : Int)) = 0
 pE : peE key (m : Int) (padR w) = 0
 pC : peC key (m : Int) (padR w) = if 1 < (m : Int) then padR inner else plainR inner
 pR : peR key (m : Int) (padR w) = lsub (hmac (dvR key nonce) (lsub w 0 32)) 0 16
theorem back {key nonce inner : List Int} {m : Nat} (hk : key.length = 32) (hn : BL 16 nonce) (h1 : 1 ≤ m) (h2 : m ≤ 8) (hb : Bs inner) (hl : inner.length ≤ 14 + 34 * m) :
  Bk key nonce inner (forgeO key nonce (m : Int) (plO (m : Int) inner)) m := by
 have hs : sizeI (m : Int) = ((48 + 34 * m : Nat) : Int) := by rw [sizeI_some (by omega) (by omega)]; omega
 have pl : (plO (m : Int) inner).length = 16 + 34 * m := by
  have := plO_len (left := (m : Int)) (by omega) (by omega) (inner := inner) (by rw [hs]; omega)
  rw [hs] at this; omega
 have pb : Bs (plO (m : Int) inner) := plO_bs hb (by omega)
 have hB := dvB_bl key nonce
 have hK : BL 176 (ks (dvB key nonce)) := ks_bl hB
 have hz : BL 16 (lzeros 16) := bl_of rfl (zeros_bs _)
 have bxl : (mask (ks (dvB key nonce)) (lzeros 16) (plO (m : Int) inner)).length = 16 + 34 * m := by rw [mask_length, pl]
 have bxb : Bs (mask (ks (dvB key nonce)) (lzeros 16) (plO (m : Int) inner)) := mask_bs hK hz pb
 have tl := tagO_len (dvM key nonce) (m : Int) nonce (mask (ks (dvB key nonce)) (lzeros 16) (plO (m : Int) inner))
 have nl := hn.len
 have mm := mask_mask hK hz pb
 generalize ew : forgeO key nonce (m : Int) (plO (m : Int) inner) = w
 have e0 : wrE key (m : Int) inner = 0 := by
  unfold wrE
  rw [if_neg (by rintro (h | h); exact h hk; rw [hs] at h; omega), if_neg (by rw [hs]; omega)]
 have r0 : wrR key nonce (m : Int) inner = w := by unfold wrR; rw [if_pos e0, ew]
 unfold forgeO at ew
 generalize hbx : mask (ks (dvB key nonce)) (lzeros 16) (plO (m : Int) inner) = bx at ew bxl bxb tl mm
 generalize htg : tagO (dvM key nonce) (m : Int) nonce bx = tg at ew tl
 have wl : w.length = 48 + 34 * m := by rw [← ew, List.length_append, List.length_append]; omega
 have wb : Bs w := by
  rw [← ew]
  exact ⟨fun x hx => by
   rcases List.mem_append.mp hx with hx | hx
   ·rcases List.mem_append.mp hx with hx | hx
    ·exact hn.bs.all x hx
    ·rw [← htg] at hx; exact (tagO_bs _ _ _ _).all x hx
   ·exact bxb.all x hx⟩
 have ec : padR w = w ++ List.replicate (320 - w.length) 0 := by unfold padR; rw [if_pos (by omega)]; rfl
 have cl : (padR w).length = 320 := by rw [ec]; simp; omega
 have w1 : lsub w 0 16 = nonce := by rw [← ew, List.append_assoc, lsub_app_lo (by omega), lsub_whole nl]
 have w2 : lsub w 16 16 = tg := by rw [← ew, List.append_assoc, lsub_app_hi nl, List.take_append_of_le_length (by omega), List.take_of_length_le (by omega)]
 have w3 : lsub w 32 (16 + 34 * m) = bx := by rw [← ew, lsub_app_hi (by rw [List.length_append]; omega), List.take_of_length_le (by omega)]
 have hS : ((48 + 34 * m : Nat) : Int).toNat = 48 + 34 * m := Int.toNat_natCast _
 have nc : nnO (padR w) = nonce := by unfold nnO; rw [ec, lsub_app_lo (by omega), w1]
 have tc : lsub (padR w) 16 16 = tg := by rw [ec, lsub_app_lo (by omega), w2]
 have hc32 : lsub (padR w) 0 32 = lsub w 0 32 := by rw [ec, lsub_app_lo (by omega)]
 have bc : bxO (m : Int) (padR w) = bx := by unfold bxO; rw [hs, hS, ec, show 48 + 34 * m - 32 = 16 + 34 * m by omega, lsub_app_lo (by omega), w3]
 have op : opO key (m : Int) (padR w) = plO (m : Int) inner := by unfold opO; rw [nc, bc, mm]
 have cE : cutE (padR w) (sizeI (m : Int)) = 0 := by
  unfold cutE
  rw [if_neg (by omega), if_neg (by rw [hs]; omega), if_neg]
  rw [hs, hS, ec, ← wl, List.drop_left]
  have hz0 : zb (List.replicate (320 - w.length) 0) = true := zb_true.mpr fun i hi => by
   rw [List.length_replicate] at hi
   simp [lget, List.getD, List.getElem?_replicate, hi]
  rw [hz0]; simp
 have ps := plO_some (left := (m : Int)) (by omega) (by omega) (inner := inner)
 have iN : inN (plO (m : Int) inner) = (inner.length : Int) := by
  rw [ps]; unfold inN
  show 256 * ((inner.length / 256 : Nat) : Int) + ((inner.length % 256 : Nat) : Int) = _
  omega
 have dr : (plO (m : Int) inner).drop (2 + inner.length) = lzeros (14 + (34 * (m : Int)).toNat - inner.length) := by
  rw [ps, Nat.add_comm]
  show (inner ++ _).drop inner.length = _
  rw [List.drop_left]
 have iO : inOk (plO (m : Int) inner) (m : Int) = true := by
  unfold inOk
  rw [iN, Int.toNat_natCast, dr, decide_eq_true (by rw [hs]; omega), Bool.true_and]
  exact zb_true.mpr fun i hi => by
   unfold lzeros at hi ⊢
   rw [List.length_replicate] at hi
   simp [lget, List.getD, List.getElem?_replicate, hi]
 have iR : innO (plO (m : Int) inner) = inner := by
  unfold innO
  rw [iN, Int.toNat_natCast, ps]
  show (inner ++ _).take inner.length = _
  rw [List.take_left]
 have pE0 : peE key (m : Int) (padR w) = 0 := by
  unfold peE
  rw [if_neg (by rintro (h | h); exact h hk; rw [hs] at h; omega), if_neg (by rw [cE]; simp), nc, bc, tc, htg, if_neg (by simp), op, iO, if_neg (by simp)]
 refine ⟨wl, wb, e0, r0, w1, nc, op, cE, pE0, ?_, ?_⟩
 ·unfold peC; rw [if_pos pE0, op, iR]
 ·unfold peR; rw [if_pos pE0, nc, hc32]
end Go.Proofs.YtienfecnkglilaaDoor.G
namespace Go.Sx
open Go
def hshift (n : Nat) (d : HS) : HS := if d.j = 0 then d else ⟨d.j - 1 + n, d.off, d.len⟩
def Col.shift (k : IntKind) (n : Nat) : Col → Col
 | .hss k' l => if k' = k then .hss k (l.map (hshift n)) else .hss k' l
 | c => c
def onlyH (k : IntKind) : List Col → Bool
 | [] => true
 | .rows _ _ :: _ => false
 | .hss k' _ :: r => k' == k && onlyH k r
 | _ :: r => onlyH k r
def Item.okH (k : IntKind) (σ : Mem) : Item → Prop
 | .vec m cs => Mem.find σ m = some (.vec cs) ∧ onlyH k cs = true
 | .nil ks => 0 < width ks
def Item.shift (k : IntKind) (n : Nat) : Item → List Col
 | .vec _ cs => cs.map (Col.shift k n)
 | .nil ks => (ks.map Kd.nil).map fun c => match c with
  | .rows k' [] => if k' = k then .hss k [] else c
  | c => c
def insAllC (d : Nat) : Nat → List (List Col) → Mem → Mem
 | _, [], σ => σ
 | k, it :: r, σ => insAllC d (k + 1) r (Mem.ins (d + 10000 * k) (.vec it) σ)
def ResH (d news : Nat) (σ : Mem) (k : IntKind) (os : List (List Int)) (K : AV → Mem → Prop) (av : AV) (σ' : Mem) : Prop :=
 ∃ its av' os', its.length ≤ news ∧ Mem.heap σ' k = some os' ∧ (∀ it ∈ its, it.okH k σ') ∧ (its.map Item.name).Pairwise (fun a b => a = none ∨ a ≠ b) ∧ ResV its d av av' ∧ K av' (insAllC d 0 (its.map (Item.shift k os.length)) (σ.put (hname k) (.heap k (os ++ os'.tail))))
def Loc.join (L M : Loc) : Loc := { L with el := fun c i => if i < L.len then L.el c i else if c = 1 ∧ i = 0 then ⟨none, L.n + (M.n - 1), 0⟩ else if c = 0 ∧ L.n ≤ i then M.el 0 (i - L.n + 1) else L.el c i }
theorem join_n {L M : Loc} (h : L.len = 0) : (L.join M).n = L.n + (M.n - 1) := by
 show (if 0 < L.len then L.el 1 0 else if (1 : Nat) = 1 ∧ 0 = 0 then (⟨none, L.n + (M.n - 1), 0⟩ : Elt) else _).len = _
 rw [if_neg (by omega), if_pos ⟨rfl, rfl⟩]
theorem join_old {L M : Loc} (h : L.len = 0) {i : Nat} (hi : i < L.n) : (L.join M).el 0 i = L.el 0 i := by
 show (if i < L.len then L.el 0 i else if (0 : Nat) = 1 ∧ i = 0 then _ else if (0 : Nat) = 0 ∧ L.n ≤ i then _ else L.el 0 i) = _
 rw [if_neg (by omega), if_neg (by omega), if_neg (by omega)]
theorem join_new {L M : Loc} (h : L.len = 0) {i : Nat} (hi : L.n ≤ i) : (L.join M).el 0 i = M.el 0 (i - L.n + 1) := by
 show (if i < L.len then L.el 0 i else if (0 : Nat) = 1 ∧ i = 0 then _ else if (0 : Nat) = 0 ∧ L.n ≤ i then M.el 0 (i - L.n + 1) else L.el 0 i) = _
 rw [if_neg (by omega), if_neg (by omega), if_pos ⟨rfl, hi⟩]
theorem join_ext {L M : Loc} (h : L.len = 0) : HExt L (L.join M) :=
 ⟨rfl, rfl, rfl, rfl, rfl, fun c i hi => by omega, by rw [join_n h]; omega, fun j hj => by rw [join_old h hj]; exact ⟨rfl, rfl, Nat.le_refl _⟩⟩
theorem join_heap {w : World} {L M : Loc} {k : IntKind} {os ps : List (List Int)} (h : HeapRep w L k os) (g : HeapRep w M k ps) (ha : ∀ q, HFoot L q → ¬ HFoot M q) : HeapRep w (L.join M) k (os ++ ps.tail) := by
 have h0 := h.len0
 have hn := h.n
 have gn := g.n
 have gp := g.pos
 have hp := h.pos
 obtain ⟨p, ps', rfl⟩ : ∃ p ps', ps = p :: ps' := by
  cases ps with
  | nil => simp at gp
  | cons p ps' => exact ⟨p, ps', rfl⟩
 simp only [List.length_cons] at gn
 refine ⟨h0, by rw [join_n h0, hn, gn]; simp, by simp; omega, by rw [join_old h0 (by omega)]; exact h.zero, fun j x hj => ?_, fun i j hi hj hij hci hcj => ?_⟩
 ·by_cases hjn : j < L.n
  ·rw [join_old h0 hjn]
   rw [List.getElem?_append_left (by omega)] at hj
   exact h.obj j x hj
  ·rw [join_new h0 (by omega)]
   rw [List.getElem?_append_right (by omega)] at hj
   refine g.obj _ x ?_
   rw [show j - L.n + 1 = (j - os.length) + 1 by omega]
   simpa using hj
 ·simp only [List.length_append, List.tail_cons] at hi hj
  have old : ∀ i, i < L.n → (L.el 0 i).cap ≠ 0 → HFoot L (L.el 0 i).loc.1 := fun i hi hc => ⟨i, hi, hc, rfl⟩
  have new : ∀ i, L.n ≤ i → i < os.length + ps'.length → (M.el 0 (i - L.n + 1)).cap ≠ 0 → HFoot M (M.el 0 (i - L.n + 1)).loc.1 := fun i hi hlt hc => ⟨i - L.n + 1, by omega, hc, rfl⟩
  by_cases hil : i < L.n
  ·rw [join_old h0 hil] at hci ⊢
   by_cases hjl : j < L.n
   ·rw [join_old h0 hjl] at hcj ⊢
    exact h.apart i j (by omega) (by omega) hij hci hcj
   ·rw [join_new h0 (by omega)] at hcj ⊢
    intro q
    have := old i hil hci
    rw [q] at this
    exact ha _ this (new j (by omega) hj hcj)
  ·rw [join_new h0 (by omega)] at hci ⊢
   by_cases hjl : j < L.n
   ·rw [join_old h0 hjl] at hcj ⊢
    intro q
    have := old j hjl hcj
    rw [← q] at this
    exact ha _ this (new i (by omega) hi hci)
   ·rw [join_new h0 (by omega)] at hcj ⊢
    exact g.apart _ _ (by simp only [List.length_cons]; omega) (by simp only [List.length_cons]; omega) (by omega) hci hcj
theorem hfoot_join {L M : Loc} {q : Nat} (h : L.len = 0) (hq : HFoot (L.join M) q) : HFoot L q ∨ HFoot M q := by
 obtain ⟨j, h1, h2, rfl⟩ := hq
 rw [join_n h] at h1
 by_cases hj : j < L.n
 ·rw [join_old h hj] at h2 ⊢; exact Or.inl ⟨j, hj, h2, rfl⟩
 ·rw [join_new h (by omega)] at h2 ⊢; exact Or.inr ⟨_, by omega, h2, rfl⟩
theorem hs_join {ρ ρ' : Rho} {L M : Loc} {k : IntKind} {d : HS} {v : Value} (h0 : L.len = 0) (hz : (L.el 0 0).cap = 0) (hp : 0 < L.n) (hzM : (M.el 0 0).cap = 0) (h : CRep ρ (.hs k d.j d.off d.len) v) (e : ρ (hname k) = M) (e' : ρ' (hname k) = L.join M) :
  CRep ρ' (.hs k (hshift L.n d).j (hshift L.n d).off (hshift L.n d).len) v := by
 obtain ⟨A, cap, rfl, h2, h3, hj, h4, h6, h5⟩ := h
 rw [e] at h3 hj h4 h6 h5
 unfold hshift
 by_cases hd : d.j = 0
 ·rw [if_pos hd]
  rw [hd, hzM] at h6
  have hc : cap = 0 := by omega
  have ho : d.off = 0 := by omega
  have hl : d.len = 0 := by omega
  refine ⟨A, cap, rfl, h2, by omega, by rw [e', hd, join_n h0]; omega, Or.inl hc, ?_, ?_⟩
  ·rw [e', hd, join_old h0 hp, hz]; omega
  ·rw [e', hd, join_old h0 hp]; exact fun q => absurd hz q
 ·rw [if_neg hd]
  have hi : L.n ≤ d.j - 1 + L.n := by omega
  have hb : d.j - 1 + L.n - L.n + 1 = d.j := by omega
  refine ⟨A, cap, rfl, h2, ?_, ?_, ?_, ?_, ?_⟩
  ·rw [e', join_new h0 hi, hb]; exact h3
  ·rw [e', join_n h0]; show d.j - 1 + L.n < _; omega
  ·rw [e', join_new h0 hi, hb]; exact h4
  ·rw [e', join_new h0 hi, hb]; exact h6
  ·rw [e', join_new h0 hi, hb]; exact h5
theorem shift_kds (k : IntKind) (n : Nat) (cs : List Col) : kdsOf (cs.map (Col.shift k n)) = kdsOf cs := by
 induction cs with
 | nil => rfl
 | cons c r ih =>
  simp only [kdsOf, List.map_cons, List.cons.injEq] at ih ⊢
  refine ⟨?_, ih⟩
  cases c <;> simp only [Col.shift] <;> try rfl
  split
  ·rename_i e; subst e; rfl
  ·rfl
theorem shift_val (k : IntKind) (n : Nat) (L : Loc) (c : Col) (a i j : Nat) : colVal L a (c.shift k n) i j = colVal L a c i j := by
 cases c <;> simp only [Col.shift] <;> try rfl
 split <;> rfl
theorem shift_row (k : IntKind) (n : Nat) (L : Loc) : ∀ (cs : List Col) (c i t : Nat), rowVal L (cs.map (Col.shift k n)) c i t = rowVal L cs c i t
 | [], _, _, _ => rfl
 | c :: r, a, i, t => by
  have e : (c.shift k n).kd = c.kd := by
   have := shift_kds k n [c]
   simpa [kdsOf] using this
  simp only [List.map_cons, rowVal, e, shift_val, shift_row k n L r]
theorem onlyH_get {k : IntKind} : ∀ {cs : List Col}, onlyH k cs = true → ∀ (c : Nat) x, cs[c]? = some x → (∀ k' ll, x ≠ .rows k' ll) ∧ ∀ k' l, x = .hss k' l → k' = k
 | [], _, c, x, h => by simp at h
 | y :: r, h, c, x, hx => by
  cases c with
  | zero =>
   simp at hx; subst hx
   cases y <;> simp_all [onlyH]
  | succ c =>
   refine onlyH_get (cs := r) ?_ c x (by simpa using hx)
   cases y <;> simp_all [onlyH]
theorem shift_rep {w : World} {L : Loc} {k : IntKind} {n : Nat} {cs : List Col} (ho : onlyH k cs = true) (h : VRep w L cs) : VRep w L (cs.map (Col.shift k n)) := by
 have hw : cwidth (cs.map (Col.shift k n)) = cwidth cs := by simp only [cwidth, shift_kds]
 refine ⟨by simpa using h.ne, by rw [hw]; exact h.wid, fun col hcol => ?_, h.cap, h.adr, fun i hi t ht => ?_, fun c kk ll hc i l hl => ?_⟩
 ·obtain ⟨c, hc, rfl⟩ := List.mem_map.1 hcol
  have := h.ok c hc
  cases c <;> simp only [Col.shift] <;> try exact this
  split
  ·simpa [Col.ok] using this
  ·exact this
 ·rw [hw] at ht ⊢
  rw [shift_row]; exact h.cells i hi t ht
 ·simp only [List.getElem?_map, Option.map_eq_some_iff] at hc
  obtain ⟨x, hx, he⟩ := hc
  have := (onlyH_get ho c x hx).1
  cases x <;> simp only [Col.shift] at he <;> first | (cases he; exact absurd rfl (this kk ll)) | (cases he) | skip
  split at he <;> cases he
structure ItemIn (ρ1 : Rho) (ρ : Rho) (σ : Mem) (n0 : Nat) (w : World) (it : Item) (cols : List Col) (L : Loc) : Prop where
 rep : VRep w L cols
 write : Writable w L (cwidth cols)
 inner : ∀ q, ¬ Inner L cols q
 refs : ∀ m, cols.any (Col.refs m) = true → isHeap m = true
 lnk : Lnk ρ1 L cols
 val : ∀ v, CRep ρ it.ac v → v = .slice L.a L.len L.cap
 own : L.cap ≠ 0 → n0 ≤ L.1 ∧ ∃ m b, it.name = some m ∧ Mem.find σ m = some b ∧ Out ρ m b L.1
theorem insAllC_sound {E : Env} {a : Act} {w : World} {ρ1 ρi : Rho} {σi : Mem} {n0 d : Nat} (f : Item → List Col) (Ls : Nat → Loc) : ∀ {its : List Item} {k : Nat} {ρ : Rho} {σ : Mem}, Rep E ρ [] σ a w → (∀ n, isHeap n = true → ρ n = ρ1 n) → (∀ i it, its[i]? = some it → ItemIn ρ1 ρi σi n0 w it (f it) (Ls (k + i))) → Sep ρi σi → E.w0.heap.size ≤ n0 →
  (its.map Item.name).Pairwise (fun a b => a = none ∨ a ≠ b) → (∀ i, i < its.length → freshB (d + 10000 * (k + i)) [] σ = true) → (∀ m b q, Mem.find σ m = some b → Foot ρ m b q → ∀ (i : Nat) it, its[i]? = some it → (Ls (k + i)).cap ≠ 0 → q ≠ (Ls (k + i)).1) →
  ∃ ρ', Rep E ρ' [] (insAllC d k (its.map f) σ) a w ∧ (∀ n, (∀ i, i < its.length → n ≠ d + 10000 * (k + i)) → ρ' n = ρ n) ∧ (∀ i, i < its.length → ρ' (d + 10000 * (k + i)) = Ls (k + i)) ∧ ∀ m b, Mem.find σ m = some b → Mem.find (insAllC d k (its.map f) σ) m = some b
 | [], k, ρ, σ, h, _, _, _, _, _, _, _ => ⟨ρ, h, fun _ _ => rfl, fun i hi => absurd hi (Nat.not_lt_zero _), fun _ _ q => q⟩
 | it :: its, k, ρ, σ, h, h1, hat, hs, hn0, hpw, hfr, hdis => by
  have h0 := hat 0 it rfl
  rw [Nat.add_zero] at h0
  have hd := hfr 0 (by simp)
  rw [Nat.add_zero] at hd
  have hdis0 := fun m b q hb hf => hdis m b q hb hf 0 it rfl
  obtain ⟨d1, _, d3⟩ := freshB_parts hd
  have hup : ∀ n, isHeap n = true → upd ρ (d + 10000 * k) (Ls k) n = ρ1 n := fun n hn => by
   rw [upd_ne (by have := isHeap_le hn; omega)]; exact h1 n hn
  have step := (add_sound (L := Ls k) (b := .vec (f it)) h hd h.keep (fun _ _ _ _ _ => rfl) ⟨by rw [upd_eq]; exact h0.rep, by rw [upd_eq]; exact h0.write, by rw [upd_eq]; exact h0.lnk.agree fun m hm => .of_eq (hup m (h0.refs m hm))⟩ (fun q hq => by
   simp only [Out, upd_eq] at hq
   obtain ⟨hc, rfl⟩ := hq
   exact ⟨Or.inl (Nat.le_trans hn0 (h0.own hc).1), fun m c hm hF => hdis0 m c _ hm hF (by rw [Nat.add_zero]; exact hc) (by rw [Nat.add_zero]), fun hI => by simp only [Inn, upd_eq] at hI; exact h0.inner _ hI⟩) (fun q hq => by
   simp only [Foot, upd_eq] at hq
   rcases hq with ⟨hc, rfl⟩ | hq
   ·exact fun m c hm hO => hdis0 m c _ hm hO.foot (by rw [Nat.add_zero]; exact hc) (by rw [Nat.add_zero])
   ·exact absurd hq (h0.inner _))).find_eq (find_ins d3)
  obtain ⟨q1, q2⟩ := List.pairwise_cons.1 hpw
  obtain ⟨ρ', r1, r2, r3, r4⟩ := insAllC_sound (ρ1 := ρ1) (ρi := ρi) (σi := σi) (n0 := n0) (d := d) f Ls (its := its) (k := k + 1) step hup (fun i it' hi => by have := hat (i + 1) it' (by simpa using hi); rw [show k + 1 + i = k + (i + 1) by omega]; exact this) hs hn0 q2 (fun i hi => by
   have := hfr (i + 1) (by simp only [List.length_cons]; omega)
   obtain ⟨f1, f2, f3⟩ := freshB_parts this
   rw [show k + 1 + i = k + (i + 1) by omega]
   simp only [freshB, f2, Bool.and_eq_true, decide_eq_true_eq, Bool.not_eq_true', and_true]
   refine ⟨f1, ?_⟩
   have e : ∀ (σ : Mem) (dd : Nat) (b : Blk) (x : Nat), memRefs x (Mem.ins dd b σ) = (dd == x || b.refs x || memRefs x σ) := by
    intro σ dd b x
    induction σ with
    | nil => simp [Mem.ins, memRefs]
    | cons p r ih =>
     obtain ⟨m, y⟩ := p
     simp only [Mem.ins]
     split
     ·simp only [memRefs, List.any_cons] at ih ⊢
      rw [ih]
      cases (m == x || y.refs x) <;> cases (dd == x || b.refs x) <;> simp
     ·simp [memRefs]
   rw [e, f3]
   have e2 : Blk.refs (d + 10000 * (k + (i + 1))) (.vec (f it)) = false := by
    cases hq : Blk.refs (d + 10000 * (k + (i + 1))) (.vec (f it)) with
    | false => rfl
    | true => have := isHeap_le (h0.refs _ hq); omega
   rw [e2]
   simp only [Bool.or_false, beq_eq_false_iff_ne]
   omega) (fun m b q hb hf i it' hi hc => by
   rw [show k + 1 + i = k + (i + 1) by omega] at hc ⊢
   rw [find_ins d3] at hb
   simp only [Mem.find] at hb
   split at hb
   ·rename_i e
    cases hb
    subst e
    simp only [Foot, upd_eq] at hf
    rcases hf with ⟨hc0, rfl⟩ | hf
    ·intro eq
     have hi' := hat (i + 1) it' (by simpa using hi)
     obtain ⟨_, m1, b1, n1, f1, o1⟩ := h0.own hc0
     obtain ⟨_, m2, b2, n2, f2, o2⟩ := hi'.own hc
     have hne : m1 ≠ m2 := fun e => by
      have := q1 it'.name (List.mem_map.2 ⟨it', List.mem_of_getElem? hi, rfl⟩)
      rw [n1, n2, e] at this
      rcases this with q | q
      ·cases q
      ·exact q rfl
     rw [← eq] at o2
     exact hs.1 m1 m2 b1 b2 _ f1 f2 hne o1 o2.foot
    ·exact absurd hf (h0.inner _)
   ·rename_i hne
    have hf' : Foot ρ m b q := (Foot.agree (upd_ne (fun e => hne e.symm))).1 hf
    exact hdis m b q hb hf' (i + 1) it' (by simpa using hi) hc)
  refine ⟨ρ', r1, fun n hn => ?_, fun i hi => ?_, fun m b hb => r4 m b (ins_old hd m b hb)⟩
  ·rw [r2 n (fun i hi => by have := hn (i + 1) (by simp only [List.length_cons]; omega); rw [show k + 1 + i = k + (i + 1) by omega]; exact this)]
   exact upd_ne (by have := hn 0 (by simp); rw [Nat.add_zero] at this; exact this)
  ·cases i with
   | zero =>
    rw [Nat.add_zero, r2 _ (fun i hi => by omega)]
    exact upd_eq _ _ _
   | succ i =>
    have := r3 i (by simp only [List.length_cons] at hi; omega)
    rw [show k + 1 + i = k + (i + 1) by omega] at this
    exact this
theorem memRefs_put {σ : Mem} {n d : Nat} {b b' : Blk} (h : memRefs d σ = false) (hb : b'.refs d = false) : memRefs d (σ.put n b') = false := by
 induction σ with
 | nil => rfl
 | cons p r ih =>
  obtain ⟨m, x⟩ := p
  simp only [memRefs, List.any_cons, Bool.or_eq_false_iff] at h ih ⊢
  simp only [Mem.put]
  split
  ·simp only [List.any_cons, Bool.or_eq_false_iff]; exact ⟨⟨h.1.1, hb⟩, h.2⟩
  ·simp only [List.any_cons, Bool.or_eq_false_iff]; exact ⟨h.1, ih h.2⟩
section
variable {P : Program} {Γ : Gam} {D : Hints}
theorem Good.priv (hm : P.follows .mixedOrders = true) (hΓ : GoodG P Γ) {f : FuncId} {fn : Func} (hf : P.funcs[f]? = some fn) (hb : fn.body.isSome = true) {s : Spec} (hs : s.mods = true)
  (hsem : ∀ d args σ (K : AV → Mem → Prop), s.sem d args σ K → ∃ k os cargs τ τ', Mem.heap σ k = some os ∧ Canon σ 0 args cargs τ ∧ memRefs (hname k) τ = false ∧ (∀ x ∈ cargs, x.refs (hname k) = false) ∧ args.length ≤ 1000 ∧ (∀ n, Mem.find τ' n = Mem.find ((hname k, .heap k [[]]) :: τ) n) ∧ ∃ n, callsx P Γ D fn n cargs τ' (ResH d s.news σ k os K)) : Good P f s := by
 refine ⟨fun d args σ K h ρ w vals hg hmem hsep hl hv hnew => ?_⟩
 obtain ⟨k, os, cargs, τ, τ', ho, hcan, hτr, hcr, hlen, hτ, n, hc⟩ := hsem d args σ K h
 obtain ⟨h1, Ls, h2⟩ := canon_sound hmem hsep hcan vals.toList (by simpa using hl) (fun i x v hx hu => hv i x v hx (by simpa using hu))
 generalize hρ0 : rhoC ρ (fun n => Ls (n % 1000) (n / 1000)) = ρ0
 have hρc : ∀ i f, 0 ≤ i → i < 0 + args.length → f < 100 → ρ0 (200000 + (i + 1000 * f)) = Ls i f := fun i f _ hi hf => by
  rw [← hρ0, rhoC_arg (by omega)]
  show Ls ((i + 1000 * f) % 1000) ((i + 1000 * f) / 1000) = Ls i f
  rw [show (i + 1000 * f) % 1000 = i by omega, show (i + 1000 * f) / 1000 = f by omega]
 have hgg : ∀ g, ρ0 (gname g) = ρ (gname g) := fun g => by rw [← hρ0]; exact rhoC_glob
 obtain ⟨g1, g2⟩ := h2 ρ0 hρc hgg (fun n hn => by rw [← hρ0]; exact rhoC_heap hn)
 have hhp := isHeap_hname k
 have hble := isHeap_le hhp
 generalize hρ1 : upd ρ0 (hname k) heap0 = ρc
 have hck : ρc (hname k) = heap0 := by rw [← hρ1]; exact upd_eq _ _ _
 have hcn : ∀ n, n ≠ hname k → ρc n = ρ0 n := fun n hn => by rw [← hρ1]; exact upd_ne hn
 have hgc : Glob ρc := fun g => by rw [hcn _ (by simp only [gname]; omega), hgg]; exact hg g
 have unf : ∀ {m b}, Mem.find τ' m = some b → (m = hname k ∧ b = .heap k [[]]) ∨ (m ≠ hname k ∧ Mem.find τ m = some b) := by
  intro m b hb
  rw [hτ] at hb
  simp only [Mem.find] at hb
  split at hb
  ·rename_i e; cases hb; exact Or.inl ⟨e.symm, rfl⟩
  ·rename_i e; exact Or.inr ⟨Ne.symm e, hb⟩
 have hno := canon_views hcan ρc
 have hout : ∀ m b q, Mem.find τ' m = some b → ¬ Out ρc m b q := by
  intro m b q hb hO
  rcases unf hb with ⟨rfl, rfl⟩ | ⟨_, hb⟩
  ·obtain ⟨j, h1, h2, _⟩ := hO
   rw [hck] at h1 h2
   exact h2 rfl
  ·exact hno m b q hb hO
 have hmemc : MemRep ρc τ' w := by
  intro m b hb
  rcases unf hb with ⟨rfl, rfl⟩ | ⟨hne, hb⟩
  ·exact ⟨hhp, by rw [hck]; exact heap0_rep w k⟩
  ·refine (g2 m b hb).agree (hcn m hne) fun x hx => .of_eq (hcn x fun e => ?_)
   subst e
   have := (memRefs_out hτr hb).2
   rw [this] at hx; cases hx
 have hsepc : Sep ρc τ' := ⟨fun n m b c k hn _ _ hO => absurd hO (hout n b k hn), fun n b k hn hO => absurd hO (hout n b k hn)⟩
 refine (callsx_sound hm hΓ hf hb hc (ex := fun _ => False) hgc (by simpa using h1) (fun i y v hy hu => (g1 i y v hy (by simpa using hu)).agree fun x hx => .of_eq (hcn x fun e => by
  subst e
  rw [hcr y (List.mem_of_getElem? hy)] at hx; cases hx)) hmemc hsepc (fun n b k hn hO => absurd hO (hout n b k hn))).mono ?_
 rintro e w' ⟨v, av', σ'', ρ'', rfl, ⟨its, av, os', hlen', hos', hok, hpw, hres, hK⟩, hsr, hmem'', hsep'', _, _, hown'', hk⟩
 have hsame : ∀ i, i < w.heap.size → w'.heap[i]? = w.heap[i]? := fun i hi => hk.block i hi (fun q => q)
 have hk' : Keeps (OwnAt ρ σ) w w' := ⟨hk.os, hk.tape, hk.output, hk.size, fun k hk' _ => hsame k hk'⟩
 let E : Env := ⟨w, ρ, OwnAt ρ σ, hg⟩
 let a : Act := { tmps := #[], defers := [] }
 have hmem' : MemRep ρ σ w' := hmem.keeps (fun n b k hb hk => hsame _ (in_range (hmem n b hb) hk))
 have hR : Rep E ρ [] σ a w' := ⟨⟨rfl, fun t v ht => by simp [a] at ht⟩, rfl, hmem', hsep, fun _ _ _ => rfl, fun _ _ => .refl _, fun n b k hn hO => Or.inr ⟨n, b, hn, hO⟩, hk'⟩
 have hfd := heap_find ho
 have hfd'' := heap_find hos'
 obtain ⟨_, hH⟩ := hmem' _ _ hfd
 obtain ⟨_, hP⟩ := hmem'' _ _ hfd''
 have hnew' : ∀ m b q, Mem.find σ'' m = some b → Out ρ'' m b q → w.heap.size ≤ q := fun m b q hm hO => by
  rcases hown'' m b q hm hO with q | q
  ·exact q
  ·exact q.elim
 have hPn : ∀ q, HFoot (ρ'' (hname k)) q → w.heap.size ≤ q := fun q hq => hnew' _ _ q hfd'' hq
 have hfootlt : ∀ m c q, Mem.find σ m = some c → Foot ρ m c q → q < w.heap.size := fun m c q hm hF => in_range (hmem m c hm) hF
 have h0 := hH.len0
 have grown := heap_grow (w' := w') (L' := (ρ (hname k)).join (ρ'' (hname k))) hR hhp hfd (join_ext h0) (join_heap hH hP fun q hq hq' => by
   have := hfootlt _ _ q hfd hq
   have := hPn q hq'
   omega) hk' (fun _ _ _ _ _ _ => rfl) (fun q hq => by
  rcases hfoot_join h0 hq with h | h
  ·exact Or.inl h
  ·have hge := hPn q h
   exact Or.inr ⟨Or.inl hge, fun m c hm _ hF => by have := hfootlt m c q hm hF; omega⟩)
 generalize hρg : upd ρ (hname k) ((ρ (hname k)).join (ρ'' (hname k))) = ρg at grown
 have hgk : ρg (hname k) = (ρ (hname k)).join (ρ'' (hname k)) := by rw [← hρg]; exact upd_eq _ _ _
 have hgn : ∀ n, n ≠ hname k → ρg n = ρ n := fun n hn => by rw [← hρg]; exact upd_ne hn
 have hn1 : (ρ (hname k)).n = os.length := hH.n
 have hat : ∀ it ∈ its, ∃ L, ItemIn ρg ρ'' σ'' w.heap.size w' it (it.shift k os.length) L := fun it hi => by
  have hok := hok it hi
  cases it with
  | vec m cs =>
   obtain ⟨q1, q2⟩ := hok
   obtain ⟨p1, p2, p3⟩ := hmem'' m _ q1
   have hw : cwidth (cs.map (Col.shift k os.length)) = cwidth cs := by simp only [cwidth, shift_kds]
   refine ⟨ρ'' m, shift_rep q2 p1, by show Writable w' (ρ'' m) (cwidth (cs.map _)); rw [hw]; exact p2, fun q => ?_, fun x hx => ?_, fun c kk l hcc i dd hd => ?_, fun u hu => hu, fun q => ⟨hnew' m _ _ q1 ⟨q, rfl⟩, m, _, rfl, q1, q, rfl⟩⟩
   ·rintro ⟨c, kk, ll, i, l, ad, hcc, _⟩
    simp only [Item.shift, List.getElem?_map, Option.map_eq_some_iff] at hcc
    obtain ⟨x, hx, he⟩ := hcc
    have := (onlyH_get q2 c x hx).1
    cases x <;> simp only [Col.shift] at he <;> first | (cases he; exact absurd rfl (this kk ll)) | (cases he) | skip
    split at he <;> cases he
   ·obtain ⟨c, hc1, hc2⟩ := List.any_eq_true.1 hx
    cases c <;> simp only [Col.refs] at hc2 <;> first | (cases hc2) | skip
    have := beq_iff_eq.1 hc2
    rw [← this]; exact isHeap_hname _
   ·simp only [Item.shift, List.getElem?_map, Option.map_eq_some_iff] at hcc
    obtain ⟨x, hx, he⟩ := hcc
    have hkk := (onlyH_get q2 c x hx).2
    cases x <;> simp only [Col.shift] at he <;> first | (cases he) | skip
    rename_i k2 l2
    have := hkk k2 l2 rfl
    subst this
    rw [if_pos rfl] at he
    cases he
    simp only [List.getElem?_map, Option.map_eq_some_iff] at hd
    obtain ⟨d0, hd0, rfl⟩ := hd
    have := hs_join h0 hH.zero (by rw [hn1]; exact hH.pos) hP.zero (p3 c _ l2 hx i d0 hd0) rfl hgk
    rw [hn1] at this
    exact this
  | nil ks =>
   obtain ⟨p1, p2⟩ := nil_rep (w := w') hok
   have hget : ∀ (c : Nat) x, (Item.shift k os.length (.nil ks))[c]? = some x → ∃ kd, ks[c]? = some kd ∧ (x = kd.nil ∨ (kd = .rows k ∧ x = .hss k [])) := fun c x hx => by
    simp only [Item.shift, List.map_map, List.getElem?_map, Option.map_eq_some_iff] at hx
    obtain ⟨kd, h1, h2⟩ := hx
    refine ⟨kd, h1, ?_⟩
    cases kd <;> simp only [Function.comp, Kd.nil] at h2 ⊢ <;> try exact Or.inl h2.symm
    split at h2
    ·rename_i e; subst e; exact Or.inr ⟨rfl, h2.symm⟩
    ·exact Or.inl h2.symm
   have hlen2 : (Item.shift k os.length (.nil ks)).length = ks.length := by simp [Item.shift]
   have hkd : kdsOf (Item.shift k os.length (.nil ks)) = ks := by
    refine List.ext_getElem? fun c => ?_
    simp only [kdsOf, List.getElem?_map]
    cases hx : (Item.shift k os.length (.nil ks))[c]? with
    | none =>
     rw [List.getElem?_eq_none_iff] at hx
     rw [List.getElem?_eq_none (by omega)]; rfl
    | some x =>
     obtain ⟨kd, q1, q2⟩ := hget c x hx
     rw [q1]
     rcases q2 with rfl | ⟨rfl, rfl⟩
     ·cases kd <;> rfl
     ·rfl
   have hwd : cwidth (Item.shift k os.length (.nil ks)) = width ks := by rw [cwidth, hkd]
   refine ⟨loc0, ⟨fun q => ?_, by rw [hwd]; exact hok, fun col hcol => ?_, Nat.le_refl _, fun q => absurd rfl q, fun i hi => absurd hi (Nat.not_lt_zero _), fun c kk ll hcc i l hl => ?_⟩, fun q => absurd rfl q, fun q => ?_, fun x hx => ?_, fun c kk l hcc i dd hd => ?_, fun u hu => hu.1, fun q => absurd rfl q⟩
   ·rw [q] at hkd
    simp only [kdsOf, List.map_nil] at hkd
    have hok : 0 < width ks := hok
    rw [← hkd] at hok; exact absurd hok (by decide)
   ·obtain ⟨c, hc⟩ := List.mem_iff_getElem?.1 hcol
    obtain ⟨kd, q1, q2⟩ := hget c col hc
    rcases q2 with rfl | ⟨rfl, rfl⟩
    ·cases kd <;> simp [Kd.nil, Col.ok, loc0]
    ·simp [Col.ok, loc0]
   ·obtain ⟨kd, q1, q2⟩ := hget c _ hcc
    rcases q2 with q2 | ⟨_, q2⟩
    ·cases kd <;> simp [Kd.nil] at q2
     rw [q2.2] at hl; simp at hl
    ·cases q2
   ·rintro ⟨c, kk, ll, i, l, ad, hcc, hl, _⟩
    obtain ⟨kd, q1, q2⟩ := hget c _ hcc
    rcases q2 with q2 | ⟨_, q2⟩
    ·cases kd <;> simp [Kd.nil] at q2
     rw [q2.2] at hl; simp at hl
    ·cases q2
   ·obtain ⟨c, hc1, hc2⟩ := List.any_eq_true.1 hx
    cases c <;> simp only [Col.refs] at hc2 <;> first | (cases hc2) | skip
    have := beq_iff_eq.1 hc2
    rw [← this]; exact isHeap_hname _
   ·obtain ⟨kd, q1, q2⟩ := hget c _ hcc
    rcases q2 with q2 | ⟨_, q2⟩
    ·cases kd <;> simp [Kd.nil] at q2
    ·cases q2
     simp at hd
 let Ms : Nat → Loc := fun i => if hi : i < its.length then Classical.choose (hat its[i] (List.getElem_mem hi)) else loc0
 have hMs : ∀ i it, its[i]? = some it → ItemIn ρg ρ'' σ'' w.heap.size w' it (it.shift k os.length) (Ms i) := fun i it hi => by
  obtain ⟨hlt, rfl⟩ := List.getElem?_eq_some_iff.1 hi
  show ItemIn ρg ρ'' σ'' w.heap.size w' its[i] _ (if hi : i < its.length then Classical.choose (hat its[i] (List.getElem_mem hi)) else loc0)
  rw [dif_pos hlt]
  exact Classical.choose_spec (hat its[i] (List.getElem_mem hlt))
 have hitem : ∀ (i : Nat) it, its[i]? = some it → (Ms i).cap ≠ 0 → ∀ q, HFoot (ρ'' (hname k)) q → q ≠ (Ms i).1 := fun i it hi hc q hq e => by
  obtain ⟨_, m, b, q1, q2, q3⟩ := (hMs i it hi).own hc
  have hok := hok it (List.mem_of_getElem? hi)
  cases it with
  | nil ks => cases q1
  | vec m' cs =>
   simp only [Item.name, Option.some.injEq] at q1
   subst q1
   rw [hok.1] at q2; cases q2
   refine hsep''.1 (hname k) m' _ _ q hfd'' hok.1 (fun e2 => ?_) hq (by rw [e]; exact q3.foot)
   have q4 : Mem.find σ'' m' = some (.vec cs) := hok.1
   rw [← e2, hfd''] at q4
   cases q4
 obtain ⟨ρ', r1, r2, r3, r4⟩ := insAllC_sound (d := d) (k := 0) (Item.shift k os.length) Ms grown (fun _ _ => rfl) (fun i it hi => by rw [Nat.zero_add]; exact hMs i it hi) hsep'' (Nat.le_refl _) hpw (fun i hi => by
  obtain ⟨q1, q2⟩ := hnew i (by omega)
  rw [Nat.zero_add]
  simp only [freshB, frRefs, List.any_nil, Bool.not_false, Bool.and_true, Bool.and_eq_true, decide_eq_true_eq, Bool.not_eq_true']
  exact ⟨q1, memRefs_put (b := .heap k os) q2 rfl⟩) (fun m b q hb hF i it hi hc => by
  rw [Nat.zero_add] at hc ⊢
  have hge := ((hMs i it hi).own hc).1
  rw [find_put] at hb
  split at hb
  ·rename_i em
   subst em
   rw [hfd] at hb
   simp only [Option.map_some, Option.some.injEq] at hb
   subst hb
   have hF : HFoot (ρg (hname k)) q := hF
   rw [hgk] at hF
   rcases hfoot_join h0 hF with h | h
   ·have := hfootlt _ _ q hfd h; omega
   ·exact hitem i it hi hc q h
  ·rename_i hne
   have := hfootlt m b q hb ((Foot.agree (hgn m hne)).1 hF)
   omega)
 have hext : ∀ n, isHeap n = true → HExt (ρ n) (ρ' n) := fun n hn => by
  rw [r2 n fun i hi => by
   have := isHeap_le hn
   have := (hnew i (by omega)).1
   omega, ← hρg]
  exact ext_upd (join_ext h0) n
 refine ⟨v, av, _, ρ', rfl, hK, resV_sound (fun i it hi u hu => ?_) hres hsr, r1.mem, r1.sep, fun n hn hnn => ?_, hext, fun n b q hn hO => ?_, hk', fun q => by rw [hs] at q; cases q⟩
 ·show u = _
  have hlt := (List.getElem?_eq_some_iff.1 hi).1
  have e := r3 i hlt
  rw [Nat.zero_add] at e
  rw [e]
  exact (hMs i it hi).val u hu
 ·rw [r2 n fun i hi => by rw [Nat.zero_add]; exact hnn i (by omega)]
  exact hgn n fun e => by subst e; rw [hhp] at hn; cases hn
 ·rcases r1.own n b q hn hO with h | h
  ·exact Or.inr h
  ·exact Or.inl h
end
def hfrom : Nat → List (List Int) → List HS
 | _, [] => []
 | n, c :: r => ⟨n, 0, c.length⟩ :: hfrom (n + 1) r
theorem hfrom_app (n : Nat) (L : List (List Int)) (y : List Int) : hfrom n (L ++ [y]) = hfrom n L ++ [⟨n + L.length, 0, y.length⟩] := by
 induction L generalizing n with
 | nil => rfl
 | cons c r ih => simp only [List.cons_append, hfrom, ih, List.length_cons]; congr 4; omega
theorem hfrom_len (n : Nat) (L : List (List Int)) : (hfrom n L).length = L.length := by
 induction L generalizing n with
 | nil => rfl
 | cons c r ih => simp only [hfrom, List.length_cons, ih]
theorem hfrom_shift (n m : Nat) (L : List (List Int)) : (hfrom (m + 1) L).map (hshift n) = hfrom (m + n) L := by
 induction L generalizing m with
 | nil => rfl
 | cons c r ih =>
  simp only [hfrom, List.map_cons, ih]
  have : hshift n ⟨m + 1, 0, c.length⟩ = ⟨m + n, 0, c.length⟩ := by
   unfold hshift
   rw [if_neg (by simp)]
   rfl
  rw [this, show m + 1 + n = m + n + 1 by omega]
theorem hcons_from (os L : List (List Int)) : hcons (os ++ L) (hfrom os.length L) = L := by
 induction L generalizing os with
 | nil => rfl
 | cons c r ih =>
  have e := ih (os ++ [c])
  simp only [List.append_assoc, List.cons_append, List.nil_append, List.length_append, List.length_cons, List.length_nil] at e
  simp only [hcons, hfrom, List.map_cons] at e ⊢
  rw [e]
  congr 1
  simp [hcon, llget, lsub]
theorem resH_hvecs {d m : Nat} {σ σ' : Mem} {k : IntKind} {os cells : List (List Int)} {ds : List HS} {cs : List Col} {K : AV → Mem → Prop} {r s : List TV} (hf : Mem.find σ' m = some (.vec (.hss k ds :: cs))) (hh : Mem.heap σ' k = some ([] :: cells)) (hr : PlainT r s) (hds : ds = hfrom 1 cells)
  (hcs : ∀ n, cs.map (Col.shift k n) = cs) (hon : onlyH k cs = true)
  (hK : K (.tup (.c (.vec d) :: s)) (Mem.ins d (.vec (.hss k (hfrom (llen os) cells) :: cs)) (σ.put (hname k) (.heap k (lcat os cells))))) : ResH d 1 σ k os K (.tup (.c (.vec m) :: r)) σ' := by
 subst hds
 refine ⟨[.vec m (.hss k (hfrom 1 cells) :: cs)], .tup (.c (.vec d) :: s), [] :: cells, Nat.le_refl _, hh, fun it h => by simp at h; subst h; exact ⟨hf, by simp [onlyH, hon]⟩, pairwise_one, ⟨Or.inr ⟨0, _, rfl, rfl, rfl⟩, hr.res⟩, ?_⟩
 have e : List.map (Item.shift k os.length) [.vec m (.hss k (hfrom 1 cells) :: cs)] = [.hss k (hfrom (llen os) cells) :: cs] := by
  simp only [List.map_cons, List.map_nil, Item.shift, Col.shift, if_true, hcs]
  rw [show (1 : Nat) = 0 + 1 from rfl, hfrom_shift, Nat.zero_add]; rfl
 rw [e]
 exact hK
theorem resH_hnils {d : Nat} {σ σ' : Mem} {k : IntKind} {os ext : List (List Int)} {o : List Int} {ks : List Kd} {cs : List Col} {K : AV → Mem → Prop} {r s : List TV} (hh : Mem.heap σ' k = some (o :: ext)) (hr : PlainT r s)
  (hcs : ((ks.map Kd.nil).map fun c => match c with | .rows k' [] => if k' = k then Col.hss k [] else c | c => c) = cs)
  (hK : K (.tup (.c (.vec d) :: s)) (Mem.ins d (.vec (.hss k [] :: cs)) (σ.put (hname k) (.heap k (lcat os ext))))) : ResH d 1 σ k os K (.tup (.c (.con (.slice none 0 0)) :: r)) σ' := by
 refine ⟨[.nil (.rows k :: ks)], .tup (.c (.vec d) :: s), o :: ext, Nat.le_refl _, hh, fun it h => by simp at h; subst h; show 0 < width (.rows k :: ks); simp [width, Kd.width]; omega, pairwise_one, ⟨Or.inr ⟨0, _, rfl, rfl, rfl⟩, hr.res⟩, ?_⟩
 have e : List.map (Item.shift k os.length) [.nil (.rows k :: ks)] = [.hss k [] :: cs] := by
  rw [← hcs]
  simp [Item.shift, Kd.nil]
 rw [e]
 exact hK
def oneRows (k : IntKind) (K : List (List Int) → Prop) (cs : List Col) : Prop :=
 match cs with
 | [.rows k' l] => if k' = k then K l else False
 | _ => False
def rdr (σ : Mem) (x : AV) (K : List (List Int) → Prop) : Prop := rdx σ [.rows .u8] x fun cs => match unHs σ cs with
 | some c => oneRows .u8 K c
 | none => False
theorem rdx_det2 {σ : Mem} {ks : List Kd} {x : AV} {K : List Col → Prop} (h : rdx σ ks x K) : ∃ cs, K cs ∧ ∀ K' : List Col → Prop, K' cs → rdx σ ks x K' := by
 unfold rdx at h
 split at h
 ·split at h <;> try exact h.elim
  rename_i hq
  exact ⟨_, h, fun K' k => by simpa [rdx, hq] using k⟩
 ·split at h <;> try exact h.elim
  rename_i hq
  split at h <;> try exact h.elim
  rename_i hz
  exact ⟨_, h, fun K' k => by simpa [rdx, hq, hz] using k⟩
 ·split at h <;> try exact h.elim
  rename_i hq
  split at h <;> try exact h.elim
  rename_i hz
  exact ⟨_, h, fun K' k => by simpa [rdx, hq, hz] using k⟩
 ·split at h <;> try exact h.elim
  rename_i hq
  exact ⟨_, h, fun K' k => by simpa [rdx, hq] using k⟩
 ·split at h <;> try exact h.elim
  rename_i hq
  exact ⟨_, h, fun K' k => by simpa [rdx, hq] using k⟩
 ·split at h <;> try exact h.elim
  rename_i hq
  split at h <;> try exact h.elim
  rename_i hf
  exact ⟨_, h.2, fun K' k => by simp only [rdx, hq, hf]; exact ⟨h.1, k⟩⟩
 ·exact ⟨_, h, fun K' k => by simpa [rdx] using k⟩
 ·split at h <;> try exact h.elim
  rename_i hq
  exact ⟨_, h, fun K' k => by simpa [rdx, hq] using k⟩
 ·exact h.elim
theorem rdr_row {σ : Mem} {x : AV} {K : List (List Int) → Prop} (h : rdr σ x K) : ∃ l, K l ∧ rdx σ [.rows .u8] x (fun c => unHs σ c = some [.rows .u8 l]) := by
 obtain ⟨cs, h1, h2⟩ := rdx_det2 h
 split at h1 <;> try exact h1.elim
 rename_i c hc
 unfold oneRows at h1
 split at h1 <;> try exact h1.elim
 split at h1 <;> try exact h1.elim
 rename_i hk
 subst hk
 exact ⟨_, h1, h2 _ hc⟩
def oneArrs (k : IntKind) (m : Nat) (K : List (List Int) → Prop) (cs : List Col) : Prop :=
 match cs with
 | [.arrs k' m' l] => if k' = k then (if m' = m then K l else False) else False
 | _ => False
def rda (σ : Mem) (m : Nat) (x : AV) (K : List (List Int) → Prop) : Prop := rdx σ [.arrs .u8 m] x (oneArrs .u8 m K)
theorem rda_row {σ : Mem} {m : Nat} {x : AV} {K : List (List Int) → Prop} (h : rda σ m x K) : ∃ l, K l ∧ rdx σ [.arrs .u8 m] x (fun c => c = [.arrs .u8 m l]) := by
 obtain ⟨cs, h1, h2⟩ := rdx_det h
 unfold oneArrs at h1
 split at h1 <;> try exact h1.elim
 split at h1 <;> try exact h1.elim
 rename_i hk
 subst hk
 split at h1 <;> try exact h1.elim
 rename_i hm
 subst hm
 exact ⟨_, h1, h2⟩
end Go.Sx
namespace Go.Rou
open Go Go.Sx Go.Hsh Go.Mac Go.Blk Go.Cel Go.Oni Go.Fld Go.Proofs.YtienfecnkglilaaDoor.G
def hopB : List Int := [99, 104, 117, 114, 110, 32, 104, 111, 112]
def saltL (e : Int) : List Int := tab 8 fun i => conv .u8 (shr .i64 e ((56 - 8 * i : Nat) : Int))
def rkE (m : List Int) (e : Int) : Int := if m.length ≠ 32 ∨ e < 0 ∨ 4611686018427387904 < e then 2 else 0
def rkR (m : List Int) (e : Int) : List Int := if rkE m e = 0 then exR (hmac (saltL e) m) hopB 32 else []
noncomputable def kkE : List Int → Int → Int := hide rkE
noncomputable def kkR : List Int → Int → List Int := hide rkR
theorem kkE_eq (m : List Int) (e : Int) : kkE m e = rkE m e := by unfold kkE; rw [hide_eq]
theorem kkR_eq (m : List Int) (e : Int) : kkR m e = rkR m e := by unfold kkR; rw [hide_eq]
def chainO (key nonce : Nat → List Int) (h : Nat) (pay : List Int) : Nat → List Int
 | 0 => pay
 | j + 1 => wrR (key (h - 1 - j)) (nonce (h - 1 - j)) ((j + 1 : Nat) : Int) (chainO key nonce h pay j)
def all32 (KL : List (List Int)) : Bool := KL.all fun k => k.length == 32
def faE (KL NL : List (List Int)) : Int := if KL.length < 1 ∨ 8 < KL.length ∨ NL.length ≠ KL.length then 80 else if all32 KL = false then 2 else 0
def rcE (KL NL : List (List Int)) (pay : List Int) : Int := if faE KL NL ≠ 0 then faE KL NL else if 48 < pay.length then 1 else 0
def rcR (KL NL : List (List Int)) (pay : List Int) : List Int := if rcE KL NL pay = 0 then padR (chainO (llget KL) (llget NL) KL.length pay KL.length) else []
noncomputable def wcE : List (List Int) → List (List Int) → List Int → Int := hide rcE
noncomputable def wcR : List (List Int) → List (List Int) → List Int → List Int := hide rcR
theorem wcE_eq (KL NL : List (List Int)) (pay : List Int) : wcE KL NL pay = rcE KL NL pay := by unfold wcE; rw [hide_eq]
theorem wcR_eq (KL NL : List (List Int)) (pay : List Int) : wcR KL NL pay = rcR KL NL pay := by unfold wcR; rw [hide_eq]
structure Kys (L : List (List Int)) : Prop where
 n : L.length ≤ 140737488355328
 all : ∀ i, In (llget L i)
structure Ncs (L : List (List Int)) : Prop where
 n : L.length ≤ 140737488355328
 all : ∀ i, i < L.length → BL 16 (llget L i)
theorem chainO_zero (key nonce : Nat → List Int) (h : Nat) (pay : List Int) : chainO key nonce h pay 0 = pay := rfl
theorem chainO_succ (key nonce : Nat → List Int) (h : Nat) (pay : List Int) (j : Nat) : chainO key nonce h pay (j + 1) = wrR (key (h - 1 - j)) (nonce (h - 1 - j)) ((j + 1 : Nat) : Int) (chainO key nonce h pay j) := rfl
structure Ch (key nonce : Nat → List Int) (h : Nat) (pay : List Int) : Prop where
 h8 : h ≤ 8
 key : ∀ i, i < h → (key i).length = 32
 nonce : ∀ i, i < h → BL 16 (nonce i)
 few : pay.length ≤ 48
 bs : Bs pay
theorem Ch.len {key nonce : Nat → List Int} {h : Nat} {pay : List Int} (H : Ch key nonce h pay) : ∀ j, j ≤ h → (chainO key nonce h pay j).length ≤ 48 + 34 * j ∧ (0 < j → (chainO key nonce h pay j).length = 48 + 34 * j) ∧ Bs (chainO key nonce h pay j)
 | 0, _ => ⟨by have := H.few; rw [chainO_zero]; omega, fun q => by omega, H.bs⟩
 | j + 1, hj => by
  obtain ⟨l1, l2, l3⟩ := H.len j (by omega)
  have h8 := H.h8
  have b := Go.Proofs.YtienfecnkglilaaDoor.G.back (m := j + 1) (H.key (h - 1 - j) (by omega)) (H.nonce (h - 1 - j) (by omega)) (by omega) (by omega) l3 (by omega)
  rw [chainO_succ, b.r]
  exact ⟨by rw [b.len]; omega, fun _ => b.len, b.bs⟩
theorem Ch.layer {key nonce : Nat → List Int} {h : Nat} {pay : List Int} (H : Ch key nonce h pay) {j : Nat} (hj : j < h) : Bk (key (h - 1 - j)) (nonce (h - 1 - j)) (chainO key nonce h pay j) (chainO key nonce h pay (j + 1)) (j + 1) := by
 obtain ⟨l1, l2, l3⟩ := H.len j (by omega)
 have h8 := H.h8
 have b := Go.Proofs.YtienfecnkglilaaDoor.G.back (m := j + 1) (H.key (h - 1 - j) (by omega)) (H.nonce (h - 1 - j) (by omega)) (by omega) (by omega) l3 (by omega)
 rw [chainO_succ, b.r]
 exact b
theorem all32_true {KL : List (List Int)} : all32 KL = true ↔ ∀ i, i < KL.length → (llget KL i).length = 32 := by
 unfold all32
 rw [List.all_eq_true]
 constructor
 ·intro h i hi
  have := h _ (List.mem_of_getElem? (llget_some hi))
  simpa using this
 ·intro h x hx
  obtain ⟨i, hi, rfl⟩ := List.mem_iff_getElem.mp hx
  have := h i hi
  have e : llget KL i = KL[i] := by unfold llget; rw [List.getD_eq_getElem?_getD, List.getElem?_eq_getElem hi]; rfl
  rw [e] at this; simpa using this
theorem all32_false {KL : List (List Int)} {i : Nat} (hi : i < KL.length) (h : (llget KL i).length ≠ 32) : all32 KL = false := by
 cases hq : all32 KL with
 | false => rfl
 | true => exact absurd (all32_true.mp hq i hi) h
theorem faE_ok {KL NL : List (List Int)} (h : faE KL NL = 0) : 1 ≤ KL.length ∧ KL.length ≤ 8 ∧ NL.length = KL.length ∧ all32 KL = true := by
 unfold faE at h
 split at h
 ·cases h
 ·split at h
  ·cases h
  ·rename_i q _
   refine ⟨by omega, by omega, by omega, ?_⟩
   rename_i r
   cases hq : all32 KL with
   | false => exact absurd hq r
   | true => rfl
theorem rcE_ok {KL NL : List (List Int)} {pay : List Int} (h : rcE KL NL pay = 0) : faE KL NL = 0 ∧ pay.length ≤ 48 := by
 unfold rcE at h
 split at h
 ·rename_i q; exact absurd h q
 ·split at h
  ·cases h
  ·rename_i q r; exact ⟨by simpa using q, by omega⟩
theorem Ch.of {KL NL : List (List Int)} {pay : List Int} (hn : Ncs NL) (hb : Bs pay) (h : rcE KL NL pay = 0) : Ch (llget KL) (llget NL) KL.length pay := by
 obtain ⟨h1, h2⟩ := rcE_ok h
 obtain ⟨_, h8, e, h32⟩ := faE_ok h1
 exact ⟨h8, all32_true.mp h32, fun i hi => hn.all i (by omega), h2, hb⟩
theorem rcR_fail {KL NL : List (List Int)} {pay : List Int} (h : rcE KL NL pay ≠ 0) : rcR KL NL pay = [] := by unfold rcR; rw [if_neg h]
theorem pad_fill {l : List Int} (h : l.length ≤ 320) : (padR l).length = 320 := by unfold padR; rw [if_pos h]; unfold fillL; simp; omega
theorem fillL_bs' {l : List Int} (h : Bs l) : Bs (fillL l) := ⟨fun x hx => by
 unfold fillL at hx
 rcases List.mem_append.mp hx with hx | hx
 ·exact h.all x hx
 ·rw [(List.mem_replicate.mp hx).2]; decide⟩
theorem fillL_len' {l : List Int} (h : l.length ≤ 320) : (fillL l).length = 320 := by unfold fillL; simp; omega
theorem padR_in' {l : List Int} (h : Bs l) : In (padR l) := by
 unfold padR; split
 ·exact ⟨by rw [fillL_len' (by omega)]; decide, fillL_bs' h⟩
 ·exact ⟨by decide, ⟨by simp⟩⟩
theorem plainR_in' {l : List Int} (h : Bs l) : In (plainR l) := by
 unfold plainR; split
 ·exact ⟨by rw [fillL_len' (by simp; omega)]; decide, fillL_bs' ⟨fun x hx => by
   rcases List.mem_cons.mp hx with hx | hx
   ·subst hx; decide
   ·rcases List.mem_cons.mp hx with hx | hx
    ·subst hx; omega
    ·exact h.all x hx⟩⟩
 ·exact ⟨by decide, ⟨by simp⟩⟩
theorem pC_in' {key c : List Int} {left : Int} (hc : Bs c) : In (pC key left c) := by
 rw [pC_eq]
 unfold peC
 have hi : Bs (innO (opO key left c)) := by
  unfold innO opO
  refine lsub_bs (mask_bs (ks_bl (dvB_bl _ _)) (bl_of rfl (Go.Oni.zeros_bs _)) ?_) _ _
  unfold bxO; exact lsub_bs hc _ _
 split
 ·split
  ·exact padR_in' hi
  ·exact plainR_in' hi
 ·exact ⟨by decide, ⟨by simp⟩⟩
theorem kkR_bs (m : List Int) (e : Int) : Bs (kkR m e) := by
 rw [kkR_eq]; unfold rkR; split
 ·exact exR_bytes _ _ _
 ·exact Bs.nil
end Go.Rou
namespace Go.Sx
open Go.Hsh Go.Mac Go.Blk Go.Cel Go.Oni Go.Rou
noncomputable def rkeyS : Spec := ⟨1, false, fun d args σ K => match args with
 | [x, .one (.int .i64 e)] => rdb σ x fun m => (hasRoots σ ∧ Ky m ∧ Lf e) ∧ K (.tup [.c (.vec d), .c (.int .i64 (kkE m e))]) (Mem.ins d (.vec [.ints .u8 (kkR m e)]) σ)
 | _ => False⟩
noncomputable def rrkeyS : Spec := ⟨1, false, fun d args σ K => match args with
 | [x, .one (.int .i64 e)] => rdb σ x fun m => (Ky m ∧ Lf e) ∧ K (.tup [.c (.vec d), .c (.int .i64 (kkE m e))]) (Mem.ins d (.vec [.ints .u8 (kkR m e)]) σ)
 | _ => False⟩
noncomputable def rchainS : Spec := ⟨1, false, fun d args σ K => match args with
 | [x, y, z] => rdr σ x fun KL => rda σ 16 y fun NL => rdb σ z fun pay => (hasRoots σ ∧ Kys KL ∧ Ncs NL ∧ In pay) ∧ K (.tup [.c (.vec d), .c (.int .i64 (wcE KL NL pay))]) (Mem.ins d (.vec [.ints .u8 (wcR KL NL pay)]) σ)
 | _ => False⟩
noncomputable def rrchainS : Spec := ⟨1, false, fun d args σ K => match args with
 | [x, y, z] => rdr σ x fun KL => rda σ 16 y fun NL => rdb σ z fun pay => (Kys KL ∧ Ncs NL ∧ In pay) ∧ K (.tup [.c (.vec d), .c (.int .i64 (wcE KL NL pay))]) (Mem.ins d (.vec [.ints .u8 (wcR KL NL pay)]) σ)
 | _ => False⟩
noncomputable def gamR0 : Gam := ext (ext gamO4 20 openS) 27 sizeS
noncomputable def gamR1 : Gam := ext (ext (ext (ext gamR0 11 rkeyS) 10 rrkeyS) 13 rchainS) 12 rrchainS
end Go.Sx
namespace Go.Rou
open Go Go.Sx
def rightB (KL NL : List (List Int)) (pay : List Int) : Bool := decide (rcE KL NL pay = 0)
end Go.Rou
namespace Go.Sx
open Go.Rou
def rightS : Spec := ⟨0, false, fun _ args σ K => match args with
 | [.agg [.cells [x], .cells [y], .cells [z]]] => rdr σ (.one x) fun KL => rda σ 16 (.one y) fun NL => rdb σ (.one z) fun pay => (Kys KL ∧ Ncs NL ∧ Go.Oni.In pay) ∧ K (.one (.bool (rightB KL NL pay))) σ
 | _ => False⟩
noncomputable def gamR2 : Gam := ext (ext gamR1 9 yesR) 14 rightS
end Go.Sx
namespace Go.Rou
open Go Go.Sx Go.Hsh Go.Mac Go.Blk Go.Cel Go.Oni Go.Fld
noncomputable def wkC (key : Nat → List Int) (h : Nat) (c : List Int) : Nat → List Int
 | 0 => c
 | i + 1 => pC (key i) ((h - i : Nat) : Int) (wkC key h c i)
noncomputable def wkE (key : Nat → List Int) (h : Nat) (c : List Int) (i : Nat) : Int := pE (key i) ((h - i : Nat) : Int) (wkC key h c i)
noncomputable def wkR (key : Nat → List Int) (h : Nat) (c : List Int) (i : Nat) : List Int := pR (key i) ((h - i : Nat) : Int) (wkC key h c i)
noncomputable def wkX (key : Nat → List Int) (h : Nat) (c : List Int) : Nat → Int
 | 0 => 0
 | n + 1 => if wkX key h c n = 0 then wkE key h c n else wkX key h c n
noncomputable def wkL (key : Nat → List Int) (h : Nat) (c : List Int) : Nat → List (List Int)
 | 0 => []
 | n + 1 => wkL key h c n ++ [wkC key h c (n + 1)]
noncomputable def wkT (key : Nat → List Int) (h : Nat) (c : List Int) : Nat → List (List Int)
 | 0 => []
 | n + 1 => wkT key h c n ++ [wkR key h c n]
noncomputable def weI (KL : List (List Int)) (c : List Int) : Int := if KL.length < 1 ∨ 8 < KL.length then 80 else wkX (llget KL) KL.length c KL.length
noncomputable def wcL (KL : List (List Int)) (c : List Int) : List (List Int) := if weI KL c = 0 then wkL (llget KL) KL.length c KL.length else []
noncomputable def wrL (KL : List (List Int)) (c : List Int) : List (List Int) := if weI KL c = 0 then wkT (llget KL) KL.length c KL.length else []
structure WkX (KL : List (List Int)) (c : List Int) (ext : List (List Int)) : Prop where
 ok : weI KL c = 0 → ext = wcL KL c
structure FewR (a r : List (List Int)) : Prop where
 le : a.length ≤ 8
 bs : ∀ i, i < a.length → Bs (llget a i)
 len : r.length = a.length
 rl : ∀ i, i < r.length → (llget r i).length = 16
def llq2 (a r b s : List (List Int)) : Bool := decide (a = b ∧ r = s)
end Go.Rou
namespace Go.Sx
open Go.Hsh Go.Mac Go.Blk Go.Cel Go.Oni Go.Rou
noncomputable def rwalkS : Spec := ⟨1, true, fun d args σ K => match args with
 | [x, y] => rdr σ x fun KL => rdb σ y fun c => match Mem.heap σ .u8 with
  | some os => (hasRoots σ ∧ Kys KL ∧ In c) ∧ ∀ ext, WkX KL c ext → K (.tup [.c (.vec d), .c (.int .i64 (weI KL c))]) (Mem.ins d (.vec [.hss .u8 (hfrom (llen os) (wcL KL c)), .arrs .u8 16 (wrL KL c)]) (σ.put 900004 (.heap .u8 (lcat os ext))))
  | none => False
 | _ => False⟩
noncomputable def rrwalkS : Spec := ⟨1, true, fun d args σ K => match args with
 | [x, y] => rdr σ x fun KL => rdb σ y fun c => match Mem.heap σ .u8 with
  | some os => (Kys KL ∧ In c) ∧ ∀ ext, WkX KL c ext → K (.tup [.c (.vec d), .c (.int .i64 (weI KL c))]) (Mem.ins d (.vec [.hss .u8 (hfrom (llen os) (wcL KL c)), .arrs .u8 16 (wrL KL c)]) (σ.put 900004 (.heap .u8 (lcat os ext))))
  | none => False
 | _ => False⟩
def onePeels (K : List (List Int) → List (List Int) → Prop) (cs : List Col) : Prop :=
 match cs with
 | [.rows .u8 a, .arrs .u8 16 r] => K a r
 | _ => False
def rdp (σ : Mem) (x : AV) (K : List (List Int) → List (List Int) → Prop) : Prop := rdx σ [.rows .u8, .arrs .u8 16] x fun cs => match unHs σ cs with
 | some c => onePeels K c
 | none => False
theorem rdp_row {σ : Mem} {x : AV} {K : List (List Int) → List (List Int) → Prop} (h : rdp σ x K) : ∃ a r, K a r ∧ rdx σ [.rows .u8, .arrs .u8 16] x (fun c => unHs σ c = some [.rows .u8 a, .arrs .u8 16 r]) := by
 obtain ⟨cs, h1, h2⟩ := rdx_det2 h
 split at h1 <;> try exact h1.elim
 rename_i c hc
 unfold onePeels at h1
 split at h1 <;> try exact h1.elim
 exact ⟨_, _, h1, h2 _ hc⟩
def sameAllS : Spec := ⟨0, false, fun _ args σ K => match args with
 | [x, y] => rdp σ x fun a r => rdp σ y fun b s => (FewR a r ∧ FewR b s) ∧ K (.one (.bool (llq2 a r b s))) σ
 | _ => False⟩
noncomputable def gamR3 : Gam := ext (ext (ext gamR2 18 rwalkS) 17 rrwalkS) 19 sameAllS
end Go.Sx
