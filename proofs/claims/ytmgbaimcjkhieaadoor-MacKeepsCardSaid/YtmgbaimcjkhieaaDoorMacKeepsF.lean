import Derived.Test.YtmgbaimcjkhieaaDoorMacKeepsE
import Derived.Deep.Slices
set_option linter.unusedSimpArgs false
set_option linter.unusedVariables false
namespace Go.Proofs.YtmgbaimcjkhieaaDoor.G
open Go Go.Sx Go.Mac
set_option maxRecDepth 100000
def roomy.l0 (R : AV → Mem → Prop) (p : List Int) (fuel : Nat) (x0 : Int) (x1 : List Int) : Prop := rN Tryd.prog gam0 [⟨3,[.ints .u8],true,false⟩] Tryd.f21 R fuel [kc Tryd.f21 [1,1,0,1,0,0],ki Tryd.f21 [1,1,0,1,0,0],.inBlock 0,kc Tryd.f21 [1,1,1]] (Uu::Uu::Uu::Vv 100003::Ii x0::(us 10 [Zz])) [(100003,Blk.vec [Col.ints IntKind.u8 x1]),(200000,Blk.rview [Col.ints IntKind.u8 p])]
theorem roomy.l0_succ (R : AV → Mem → Prop) (p : List Int) (fuel : Nat) (x0 : Int) (x1 : List Int) : roomy.l0 R p (fuel + 1) x0 x1 = (((((ilt x0 80) = true) → ((Room (nadd (llen x1) 1) 1) ∧ (roomy.l0 R p fuel (add IntKind.i64 x0 1) (lcat x1 [165])))) ∧ (((ilt x0 80) = false) → (R (Vv 100003) [(100003,Blk.vec [Col.ints IntKind.u8 x1]),(200000,Blk.rview [Col.ints IntKind.u8 p])])))) := by kernel_rfl
theorem roomy_vc (R : AV → Mem → Prop) (fuel : Nat) (p : List Int) : callsx Tryd.prog gam0 [⟨3, [.ints .u8], true, false⟩] Tryd.f21 (fuel + 1) [.one (.vec 200000)] [(200000, .rview [.ints .u8 p])] R = (((Room (nadd 0 (llen p)) 1) ∧ (roomy.l0 R p fuel 0 (lcat [] p)))) := by kernel_rfl
def kept.l0 (R : AV → Mem → Prop) (l p : List Int) (fuel : Nat) (x0 : Int) : Prop := rN Tryd.prog gam0 [] Tryd.f22 R fuel [kc Tryd.f22 [1,1,0,1,0,0],ki Tryd.f22 [1,1,0,1,0,0],.inBlock 0,kc Tryd.f22 [1,1,1]] (Vv 200000::Vv 200001::Uu::Uu::Uu::Ii x0::(us 21 (zs 6 []))) [(200000,Blk.rview [Col.ints IntKind.u8 l]),(200001,Blk.rview [Col.ints IntKind.u8 p])]
def kept.k0 (R : AV → Mem → Prop) (p l : List Int) (fuel m : Nat) : Prop := rM Tryd.prog gam0 [] Tryd.f22 R fuel m [kc Tryd.f22 [1,0,1],kc Tryd.f22 [1,1]] (Vv 200000::Vv 200001::Zz::Zz::Ll false::Zz::Vv 200000::Vv 200001::Ii (ofNat (llen p))::AV.one (AC.vsl 200000 1 0 (nat (ofNat (llen p))))::AV.one (AC.str (bytesOf (lsub l 0 (nat (ofNat (llen p))))))::Vv 200001::AV.one (AC.str (bytesOf p))::Bb (bnot (seq2 (bytesOf (lsub l 0 (nat (ofNat (llen p))))) (bytesOf p)))::(zs 19 [])) [(200000,Blk.rview [Col.ints IntKind.u8 l]),(200001,Blk.rview [Col.ints IntKind.u8 p])]
theorem kept.l0_succ (R : AV → Mem → Prop) (l p : List Int) (fuel : Nat) (x0 : Int) : kept.l0 R l p (fuel + 1) x0 = (((((ilt x0 (ofNat (llen l))) = true) → ((InB x0 (llen l)) ∧ ((((ine (lget l (nat x0)) 165) = true) → (R (Ll false) [(200000,Blk.rview [Col.ints IntKind.u8 l]),(200001,Blk.rview [Col.ints IntKind.u8 p])])) ∧ (((ine (lget l (nat x0)) 165) = false) → (kept.l0 R l p fuel (add IntKind.i64 x0 1)))))) ∧ (((ilt x0 (ofNat (llen l))) = false) → (R (Bb (ieq (ofNat (llen l)) (add IntKind.i64 (ofNat (llen p)) 80))) [(200000,Blk.rview [Col.ints IntKind.u8 l]),(200001,Blk.rview [Col.ints IntKind.u8 p])])))) := by kernel_rfl
theorem kept.k0_eq (R : AV → Mem → Prop) (p l : List Int) (fuel m : Nat) : kept.k0 R p l fuel (m + 100) = (((((bnot (seq2 (bytesOf (lsub l 0 (nat (ofNat (llen p))))) (bytesOf p))) = true) → (R (Ll false) [(200000,Blk.rview [Col.ints IntKind.u8 l]),(200001,Blk.rview [Col.ints IntKind.u8 p])])) ∧ (((bnot (seq2 (bytesOf (lsub l 0 (nat (ofNat (llen p))))) (bytesOf p))) = false) → (kept.l0 R l p fuel (ofNat (llen p)))))) := by kernel_rfl
theorem kept_vc (R : AV → Mem → Prop) (fuel : Nat) (l : List Int) (p : List Int) : callsx Tryd.prog gam0 [] Tryd.f22 (fuel + 1) [.one (.vec 200000), .one (.vec 200001)] [(200000, .rview [.ints .u8 l]), (200001, .rview [.ints .u8 p])] R = ((((NonNeg (ofNat (llen p))) ∧ (Fits (nat (ofNat (llen p))) (llen l))) ∧ ((kept.k0 R p l fuel 3995) ∧ (kept.k0 R p l fuel 3995)))) := by kernel_rfl
theorem mawake_vc (R : AV → Mem → Prop) (fuel : Nat)  : callsx Tryd.prog gamM4 [] Tryd.f9 (fuel + 1) [] [(1000000 + 0, .view [.ints .u32 64 Go.Hsh.rootsL])] R = (((InB 0 4) ∧ ((InB 0 28) ∧ (((Go.Hsh.rootsL = Go.Hsh.rootsL) ∧ ((Go.Mac.Sg [74, 101, 102, 101]) ∧ (Go.Mac.Sg [119, 104, 97, 116, 32, 100, 111, 32, 121, 97, 32, 119, 97, 110, 116, 32, 102, 111, 114, 32, 110, 111, 116, 104, 105, 110, 103, 63]))) ∧ (let y0 : List Int := (Go.Mac.tagL [74, 101, 102, 101] [119, 104, 97, 116, 32, 100, 111, 32, 121, 97, 32, 119, 97, 110, 116, 32, 102, 111, 114, 32, 110, 111, 116, 104, 105, 110, 103, 63]); ((InB 0 32) ∧ ((Low 0 32) ∧ ((((ieq (lget y0 0) 91) = true) → ((InB 1 32) ∧ ((Low 1 32) ∧ ((((ieq (lget y0 1) 220) = true) → ((InB 31 32) ∧ ((Low 31 32) ∧ (R (AV.one (AC.bool (ieq (lget y0 31) 67))) [(1, Blk.own 24 [(Seg.ints IntKind.u8 32 y0)]), (2, Blk.rview [(Col.ints IntKind.u8 [74, 101, 102, 101])]), (4, Blk.rview [(Col.ints IntKind.u8 [119, 104, 97, 116, 32, 100, 111, 32, 121, 97, 32, 119, 97, 110, 116, 32, 102, 111, 114, 32, 110, 111, 116, 104, 105, 110, 103, 63])]), (1000000, Blk.view [(Seg.ints IntKind.u32 64 Go.Hsh.rootsL)])])))) ∧ (((ieq (lget y0 1) 220) = false) → (R (AV.one (AC.lit false)) [(1, Blk.own 24 [(Seg.ints IntKind.u8 32 y0)]), (2, Blk.rview [(Col.ints IntKind.u8 [74, 101, 102, 101])]), (4, Blk.rview [(Col.ints IntKind.u8 [119, 104, 97, 116, 32, 100, 111, 32, 121, 97, 32, 119, 97, 110, 116, 32, 102, 111, 114, 32, 110, 111, 116, 104, 105, 110, 103, 63])]), (1000000, Blk.view [(Seg.ints IntKind.u32 64 Go.Hsh.rootsL)])])))))) ∧ (((ieq (lget y0 0) 91) = false) → (R (AV.one (AC.lit false)) [(1, Blk.own 24 [(Seg.ints IntKind.u8 32 y0)]), (2, Blk.rview [(Col.ints IntKind.u8 [74, 101, 102, 101])]), (4, Blk.rview [(Col.ints IntKind.u8 [119, 104, 97, 116, 32, 100, 111, 32, 121, 97, 32, 119, 97, 110, 116, 32, 102, 111, 114, 32, 110, 111, 116, 104, 105, 110, 103, 63])]), (1000000, Blk.view [(Seg.ints IntKind.u32 64 Go.Hsh.rootsL)])])))))))))) := by kernel_rfl
def lmnested.l0 (R : AV → Mem → Prop) (m : Int) (key msg : List Int) (fuel : Nat) (x0 : Int) (x1 x2 : List Int) : Prop := rN Tryd.prog gamM5 [⟨3,[.ints .u8],false,false⟩] Tryd.f3 R fuel [kc Tryd.f3 [1,1,1,1,1,0,1,0,0],ki Tryd.f3 [1,1,1,1,1,0,1,0,0],.inBlock 0,kc Tryd.f3 [1,1,1,1,1,1]] (Vv 200000::Vv 200001::AV.one (AC.int IntKind.u8 m)::(us 4 (AV.one (AC.sl 8 0 0 32 32)::Uu::Vv 25::Vv 26::Ii x0::Uu::Zz::Zz::Zz::(us 33 (zs 20 (Uu::(zs 19 []))))))) [(8,Blk.own 24 [Seg.ints IntKind.u8 32 (Go.Hsh.shaL key)]),(25,Blk.vec [Col.ints IntKind.u8 x1]),(26,Blk.vec [Col.ints IntKind.u8 x2]),(200000,Blk.rview [Col.ints IntKind.u8 key]),(200001,Blk.rview [Col.ints IntKind.u8 msg]),(1000000,Blk.view [Seg.ints IntKind.u32 64 Go.Hsh.rootsL])]
def lmnested.l1 (R : AV → Mem → Prop) (m : Int) (key msg : List Int) (fuel : Nat) (x5 : Int) (x6 x7 : List Int) : Prop := rN Tryd.prog gamM5 [⟨3,[.ints .u8],false,false⟩] Tryd.f3 R fuel [kc Tryd.f3 [1,1,1,1,1,0,1,0,0],ki Tryd.f3 [1,1,1,1,1,0,1,0,0],.inBlock 0,kc Tryd.f3 [1,1,1,1,1,1]] (Vv 200000::Vv 200001::AV.one (AC.int IntKind.u8 m)::(us 4 (Vv 200000::Uu::Vv 25::Vv 26::Ii x5::Uu::Zz::Zz::Zz::(us 33 (zs 20 (Uu::(zs 19 []))))))) [(25,Blk.vec [Col.ints IntKind.u8 x6]),(26,Blk.vec [Col.ints IntKind.u8 x7]),(200000,Blk.rview [Col.ints IntKind.u8 key]),(200001,Blk.rview [Col.ints IntKind.u8 msg]),(1000000,Blk.view [Seg.ints IntKind.u32 64 Go.Hsh.rootsL])]
def lmprefix.k0 (R : AV → Mem → Prop) (m n : Int) (key info : List Int) (fuel : Nat) : Prop := runM Tryd.prog gamM5 [] (resh Tryd.prog [] Tryd.f6.results.toList R) (rN Tryd.prog gamM5 [] Tryd.f6 R fuel) 3973 [kc Tryd.f6 [1,0,1,0,1]] (Vv 200000::Vv 200001::Ii m::Ii n::(zs 4 [Bb (seq2 (bytesOf (lsub (exL key info m) 0 (nat (imin m 32)))) (bytesOf (lsub (tagL key (lcat (lcat [] info) [1])) 0 (nat (imin m 32))))),Vv 32,Ii (exE m),Vv 39,Ii (exE n),AV.one (AC.ptr 13 0 0),Ii (imin m 32),Ll true,Ll false,Ii m,Bb (ilt m 0),Ll false,Ii n,Ii m,Bb (ilt n m),Bb (ilt n m),Ll false,Ii n,Bb (igt n 8160),Ll false,AV.tup [TV.c (AC.vec 32),TV.c (AC.int IntKind.i64 (exE m))],Vv 200000,Vv 200001,Ii m,AV.tup [TV.c (AC.vec 32),TV.c (AC.int IntKind.i64 (exE m))],Vv 32,Ii (exE m),AV.tup [TV.c (AC.vec 39),TV.c (AC.int IntKind.i64 (exE n))],Vv 200000,Vv 200001,Ii n,AV.tup [TV.c (AC.vec 39),TV.c (AC.int IntKind.i64 (exE n))],Vv 39,Ii (exE n),Ii (exE m),Bb (ine (exE m) 0),Ll false,Ii (exE n),Bb (ine (exE n) 0),Bb (ine (exE n) 0),Ll false,Vv 32,Ii (ofNat (llen (exL key info m))),Ii m,Bb (ine (ofNat (llen (exL key info m))) m),Bb (ine (ofNat (llen (exL key info m))) m),Ll false,Vv 39,Ii (ofNat (llen (exL key info n))),Ii n,Bb (ine (ofNat (llen (exL key info n))) n),Bb (ine (ofNat (llen (exL key info n))) n),Ll false,Vv 39,Ii m,AV.one (AC.vsl 39 1 0 (nat m)),AV.one (AC.str (bytesOf (lsub (exL key info n) 0 (nat m)))),Vv 32,AV.one (AC.str (bytesOf (exL key info m))),Bb (bnot (seq2 (bytesOf (lsub (exL key info n) 0 (nat m))) (bytesOf (exL key info m)))),Ll false,Vv 200000,Vv 70,Vv 200001,Vv 72,Vv 73,Vv 74,(AV.agg [Seg.ints IntKind.u8 32 (tagL key (lcat (lcat [] info) [1]))]),Ii m,Ii (imin m 32),Vv 32,Ii (imin m 32),AV.one (AC.vsl 32 1 0 (nat (imin m 32))),AV.one (AC.str (bytesOf (lsub (exL key info m) 0 (nat (imin m 32))))),Ii (imin m 32),AV.one (AC.sl 13 0 0 (nat (imin m 32)) 32),AV.one (AC.str (bytesOf (lsub (tagL key (lcat (lcat [] info) [1])) 0 (nat (imin m 32))))),Bb (seq2 (bytesOf (lsub (exL key info m) 0 (nat (imin m 32)))) (bytesOf (lsub (tagL key (lcat (lcat [] info) [1])) 0 (nat (imin m 32)))))])) [(13,Blk.own 24 [Seg.ints IntKind.u8 32 (tagL key (lcat (lcat [] info) [1]))]),(32,Blk.vec [Col.ints IntKind.u8 (exL key info m)]),(39,Blk.vec [Col.ints IntKind.u8 (exL key info n)]),(73,Blk.vec [Col.ints IntKind.u8 [1]]),(74,Blk.vec [Col.ints IntKind.u8 (lcat (lcat [] info) [1])]),(200000,Blk.rview [Col.ints IntKind.u8 key]),(200001,Blk.rview [Col.ints IntKind.u8 info]),(1000000,Blk.view [Seg.ints IntKind.u32 64 Go.Hsh.rootsL])]
def lmprefix.k1 (R : AV → Mem → Prop) (m n : Int) (key info : List Int) (fuel : Nat) : Prop := runM Tryd.prog gamM5 [] (resh Tryd.prog [] Tryd.f6.results.toList R) (rN Tryd.prog gamM5 [] Tryd.f6 R fuel) 3981 [kc Tryd.f6 [1,1,1,1,1,0,1],kc Tryd.f6 [1,1,1,1,1,1]] (Vv 200000::Vv 200001::Ii m::Ii n::(zs 4 (Ll false::Vv 32::Ii (exE m)::Vv 39::Ii (exE n)::Zz::Zz::Ll true::Ll false::Ii m::Bb (ilt m 0)::Ll false::Ii n::Ii m::Bb (ilt n m)::Bb (ilt n m)::Ll false::Ii n::Bb (igt n 8160)::Ll false::AV.tup [TV.c (AC.vec 32),TV.c (AC.int IntKind.i64 (exE m))]::Vv 200000::Vv 200001::Ii m::AV.tup [TV.c (AC.vec 32),TV.c (AC.int IntKind.i64 (exE m))]::Vv 32::Ii (exE m)::AV.tup [TV.c (AC.vec 39),TV.c (AC.int IntKind.i64 (exE n))]::Vv 200000::Vv 200001::Ii n::AV.tup [TV.c (AC.vec 39),TV.c (AC.int IntKind.i64 (exE n))]::Vv 39::Ii (exE n)::Ii (exE m)::Bb (ine (exE m) 0)::Ll false::Ii (exE n)::Bb (ine (exE n) 0)::Bb (ine (exE n) 0)::Ll false::Vv 32::Ii (ofNat (llen (exL key info m)))::Ii m::Bb (ine (ofNat (llen (exL key info m))) m)::Bb (ine (ofNat (llen (exL key info m))) m)::Ll false::Vv 39::Ii (ofNat (llen (exL key info n)))::Ii n::Bb (ine (ofNat (llen (exL key info n))) n)::Bb (ine (ofNat (llen (exL key info n))) n)::Ll false::Vv 39::Ii m::AV.one (AC.vsl 39 1 0 (nat m))::AV.one (AC.str (bytesOf (lsub (exL key info n) 0 (nat m))))::Vv 32::AV.one (AC.str (bytesOf (exL key info m)))::Bb (bnot (seq2 (bytesOf (lsub (exL key info n) 0 (nat m))) (bytesOf (exL key info m))))::Bb (bnot (seq2 (bytesOf (lsub (exL key info n) 0 (nat m))) (bytesOf (exL key info m))))::(zs 17 [])))) [(32,Blk.vec [Col.ints IntKind.u8 (exL key info m)]),(39,Blk.vec [Col.ints IntKind.u8 (exL key info n)]),(200000,Blk.rview [Col.ints IntKind.u8 key]),(200001,Blk.rview [Col.ints IntKind.u8 info]),(1000000,Blk.view [Seg.ints IntKind.u32 64 Go.Hsh.rootsL])]
def mpadded.l0 (R : AV → Mem → Prop) (m : Int) (key : List Int) (fuel : Nat) (x0 : Int) (x1 : List Int) : Prop := rN Tryd.prog gamH5 [] Tryd.f27 R fuel [kc Tryd.f27 [1,1,1,1,0,1,0,0],ki Tryd.f27 [1,1,1,1,0,1,0,0],.inBlock 0,kc Tryd.f27 [1,1,1,1,1]] (Uu::AV.one (AC.int IntKind.u8 m)::Uu::Uu::AV.one (AC.ptr 4 0 0)::AV.one (AC.ptr 5 0 0)::(us 11 (Ii x0::(us 9 [Zz,Zz,Zz])))) [(4,Blk.own 50 [Seg.ints IntKind.u32 8 (lzeros 8),Seg.ints IntKind.u8 64 (lzeros 64),Seg.cells [AC.int IntKind.u64 0]]),(5,Blk.own 47 [Seg.ints IntKind.u8 64 x1]),(200000,Blk.rview [Col.ints IntKind.u8 key]),(1000000,Blk.view [Seg.ints IntKind.u32 64 Go.Hsh.rootsL])]
theorem mpadded.l0_succ (R : AV → Mem → Prop) (m : Int) (key : List Int) (fuel : Nat) (x0 : Int) (x1 : List Int) : mpadded.l0 R m key (fuel + 1) x0 x1 = (((((ilt x0 64) = true) → ((InB x0 64) ∧ ((Low (nadd 0 (nat x0)) 64) ∧ ((InB x0 64) ∧ ((Low (nadd 0 (nat x0)) 64) ∧ (mpadded.l0 R m key fuel (add IntKind.i64 x0 1) (lset x1 (nadd 0 (nat x0)) (bxor IntKind.u8 (lget x1 (nadd 0 (nat x0))) m)))))))) ∧ (((ilt x0 64) = false) → ((Fits 64 64) ∧ (((Go.Hsh.rootsL = Go.Hsh.rootsL) ∧ (HOk (lzeros 8) (lzeros 64) 0 (List.length (lsub x1 0 64)))) ∧ (R (AV.agg [Seg.ints IntKind.u32 8 (Go.Hsh.addW (lzeros 8) (lzeros 64) 0 (lsub x1 0 64)),Seg.ints IntKind.u8 64 (Go.Hsh.addT (lzeros 8) (lzeros 64) 0 (lsub x1 0 64)),Seg.cells [AC.int IntKind.u64 (Go.Hsh.addN (lzeros 8) (lzeros 64) 0 (lsub x1 0 64))]]) [(4,Blk.own 50 [Seg.ints IntKind.u32 8 (Go.Hsh.addW (lzeros 8) (lzeros 64) 0 (lsub x1 0 64)),Seg.ints IntKind.u8 64 (Go.Hsh.addT (lzeros 8) (lzeros 64) 0 (lsub x1 0 64)),Seg.cells [AC.int IntKind.u64 (Go.Hsh.addN (lzeros 8) (lzeros 64) 0 (lsub x1 0 64))]]),(5,Blk.own 47 [Seg.ints IntKind.u8 64 x1]),(200000,Blk.rview [Col.ints IntKind.u8 key]),(1000000,Blk.view [Seg.ints IntKind.u32 64 Go.Hsh.rootsL])])))))) := by kernel_rfl
theorem mpadded_vc (R : AV → Mem → Prop) (fuel : Nat) (key : List Int) (m : Int) : callsx Tryd.prog gamH5 [] Tryd.f27 (fuel + 1) [.one (.vec 200000), .one (.int .u8 m)] [(200000, .rview [.ints .u8 key]), (1000000 + 0, .view [.ints .u32 64 Go.Hsh.rootsL])] R = (((((igt (ofNat (llen key)) 64) = true) → (((Go.Hsh.rootsL = Go.Hsh.rootsL) ∧ (Go.Hsh.Sm key)) ∧ ((Fits 32 32) ∧ ((Fits 64 64) ∧ (mpadded.l0 R m key fuel 0 (lput (lzeros 64) 0 (lsub (lsub (Go.Hsh.shaL key) 0 32) 0 (nmin (llen (lsub (Go.Hsh.shaL key) 0 32)) 64)))))))) ∧ (((igt (ofNat (llen key)) 64) = false) → ((Fits 64 64) ∧ (mpadded.l0 R m key fuel 0 (lput (lzeros 64) 0 (lsub key 0 (nmin (llen key) 64)))))))) := by kernel_rfl
def mmasked.l0 (R : AV → Mem → Prop) (m : Int) (key : List Int) (fuel : Nat) (x0 : Int) (x1 : List Int) : Prop := rN Tryd.prog gamH5 [⟨0,[.ints .u8],false,false⟩,⟨6,[.ints .u8],true,false⟩] Tryd.f29 R fuel [kc Tryd.f29 [1,1,1,0,1,0,0],ki Tryd.f29 [1,1,1,0,1,0,0],.inBlock 0,kc Tryd.f29 [1,1,1,1]] (Vv 100000::AV.one (AC.int IntKind.u8 m)::(us 4 (Vv 100006::Ii x0::(us 25 [Zz])))) [(100000,Blk.rview [Col.ints IntKind.u8 (lsub (Go.Hsh.shaL key) 0 32)]),(100006,Blk.vec [Col.ints IntKind.u8 x1]),(200000,Blk.rview [Col.ints IntKind.u8 key])]
def mmasked.l1 (R : AV → Mem → Prop) (m : Int) (key : List Int) (fuel : Nat) (x2 : Int) (x3 : List Int) : Prop := rN Tryd.prog gamH5 [⟨0,[.ints .u8],false,false⟩,⟨6,[.ints .u8],true,false⟩] Tryd.f29 R fuel [kc Tryd.f29 [1,1,1,0,1,0,0],ki Tryd.f29 [1,1,1,0,1,0,0],.inBlock 0,kc Tryd.f29 [1,1,1,1]] (Vv 100000::AV.one (AC.int IntKind.u8 m)::(us 4 (Vv 100006::Ii x2::(us 25 [Zz])))) [(100000,Blk.rview [Col.ints IntKind.u8 key]),(100006,Blk.vec [Col.ints IntKind.u8 x3]),(200000,Blk.rview [Col.ints IntKind.u8 key])]
theorem mmasked.l0_succ (R : AV → Mem → Prop) (m : Int) (key : List Int) (fuel : Nat) (x0 : Int) (x1 : List Int) : mmasked.l0 R m key (fuel + 1) x0 x1 = (((((ilt x0 64) = true) → ((((ilt x0 (ofNat (llen (lsub (Go.Hsh.shaL key) 0 32)))) = true) → ((InB x0 (llen (lsub (Go.Hsh.shaL key) 0 32))) ∧ ((Room (nadd (llen x1) (llen [(bxor IntKind.u8 (lget (lsub (Go.Hsh.shaL key) 0 32) (nat x0)) m)])) 1) ∧ (mmasked.l0 R m key fuel (add IntKind.i64 x0 1) (lcat x1 [(bxor IntKind.u8 (lget (lsub (Go.Hsh.shaL key) 0 32) (nat x0)) m)]))))) ∧ (((ilt x0 (ofNat (llen (lsub (Go.Hsh.shaL key) 0 32)))) = false) → ((Room (nadd (llen x1) (llen [(bxor IntKind.u8 0 m)])) 1) ∧ (mmasked.l0 R m key fuel (add IntKind.i64 x0 1) (lcat x1 [(bxor IntKind.u8 0 m)])))))) ∧ (((ilt x0 64) = false) → (R (Vv 100006) [(100000,Blk.rview [Col.ints IntKind.u8 (lsub (Go.Hsh.shaL key) 0 32)]),(100006,Blk.vec [Col.ints IntKind.u8 x1]),(200000,Blk.rview [Col.ints IntKind.u8 key])])))) := by kernel_rfl
theorem mmasked.l1_succ (R : AV → Mem → Prop) (m : Int) (key : List Int) (fuel : Nat) (x2 : Int) (x3 : List Int) : mmasked.l1 R m key (fuel + 1) x2 x3 = (((((ilt x2 64) = true) → ((((ilt x2 (ofNat (llen key))) = true) → ((InB x2 (llen key)) ∧ ((Room (nadd (llen x3) (llen [(bxor IntKind.u8 (lget key (nat x2)) m)])) 1) ∧ (mmasked.l1 R m key fuel (add IntKind.i64 x2 1) (lcat x3 [(bxor IntKind.u8 (lget key (nat x2)) m)]))))) ∧ (((ilt x2 (ofNat (llen key))) = false) → ((Room (nadd (llen x3) (llen [(bxor IntKind.u8 0 m)])) 1) ∧ (mmasked.l1 R m key fuel (add IntKind.i64 x2 1) (lcat x3 [(bxor IntKind.u8 0 m)])))))) ∧ (((ilt x2 64) = false) → (R (Vv 100006) [(100000,Blk.rview [Col.ints IntKind.u8 key]),(100006,Blk.vec [Col.ints IntKind.u8 x3]),(200000,Blk.rview [Col.ints IntKind.u8 key])])))) := by kernel_rfl
theorem mmasked_vc (R : AV → Mem → Prop) (fuel : Nat) (key : List Int) (m : Int) : callsx Tryd.prog gamH5 [⟨0, [.ints .u8], false, false⟩, ⟨6, [.ints .u8], true, false⟩] Tryd.f29 (fuel + 1) [.one (.vec 200000), .one (.int .u8 m)] [(200000, .rview [.ints .u8 key])] R = (((((igt (ofNat (llen key)) 64) = true) → (((Go.Hsh.Sm key) ∧ (Bs key)) ∧ (mmasked.l0 R m key fuel 0 []))) ∧ (((igt (ofNat (llen key)) 64) = false) → (mmasked.l1 R m key fuel 0 [])))) := by kernel_rfl
theorem mtag_vc (R : AV → Mem → Prop) (fuel : Nat) (key : List Int) (msg : List Int) : callsx Tryd.prog gamM1 [] Tryd.f11 (fuel + 1) [.one (.vec 200000), .one (.vec 200001)] [(200000, .rview [.ints .u8 key]), (200001, .rview [.ints .u8 msg]), (1000000 + 0, .view [.ints .u32 64 Go.Hsh.rootsL])] R = ((((Go.Hsh.rootsL = Go.Hsh.rootsL) ∧ (Go.Mac.Sg key)) ∧ (((Go.Hsh.rootsL = Go.Hsh.rootsL) ∧ (HOk (Go.Mac.pdW key 54) (Go.Mac.pdT key 54) 64 (List.length msg))) ∧ (((Go.Hsh.rootsL = Go.Hsh.rootsL) ∧ (HOk (Go.Hsh.addW (Go.Mac.pdW key 54) (Go.Mac.pdT key 54) 64 msg) (Go.Hsh.addT (Go.Mac.pdW key 54) (Go.Mac.pdT key 54) 64 msg) (Go.Hsh.addN (Go.Mac.pdW key 54) (Go.Mac.pdT key 54) 64 msg) 200)) ∧ (let y0 : List Int := (Go.Hsh.sumL (Go.Hsh.addW (Go.Mac.pdW key 54) (Go.Mac.pdT key 54) 64 msg) (Go.Hsh.addT (Go.Mac.pdW key 54) (Go.Mac.pdT key 54) 64 msg) (Go.Hsh.addN (Go.Mac.pdW key 54) (Go.Mac.pdT key 54) 64 msg)); (((Go.Hsh.rootsL = Go.Hsh.rootsL) ∧ (Go.Mac.Sg key)) ∧ ((Fits 32 32) ∧ (((Go.Hsh.rootsL = Go.Hsh.rootsL) ∧ (HOk (Go.Mac.pdW key 92) (Go.Mac.pdT key 92) 64 (List.length (lsub y0 0 32)))) ∧ (((Go.Hsh.rootsL = Go.Hsh.rootsL) ∧ (HOk (Go.Hsh.addW (Go.Mac.pdW key 92) (Go.Mac.pdT key 92) 64 (lsub y0 0 32)) (Go.Hsh.addT (Go.Mac.pdW key 92) (Go.Mac.pdT key 92) 64 (lsub y0 0 32)) (Go.Hsh.addN (Go.Mac.pdW key 92) (Go.Mac.pdT key 92) 64 (lsub y0 0 32)) 200)) ∧ (let y1 : List Int := (Go.Hsh.sumL (Go.Hsh.addW (Go.Mac.pdW key 92) (Go.Mac.pdT key 92) 64 (lsub y0 0 32)) (Go.Hsh.addT (Go.Mac.pdW key 92) (Go.Mac.pdT key 92) 64 (lsub y0 0 32)) (Go.Hsh.addN (Go.Mac.pdW key 92) (Go.Mac.pdT key 92) 64 (lsub y0 0 32))); (R (AV.agg [(Seg.ints IntKind.u8 32 y1)]) [(4, Blk.own 24 [(Seg.ints IntKind.u8 32 y1)]), (5, Blk.own 24 [(Seg.ints IntKind.u8 32 y0)]), (200000, Blk.rview [(Col.ints IntKind.u8 key)]), (200001, Blk.rview [(Col.ints IntKind.u8 msg)]), (1000000, Blk.view [(Seg.ints IntKind.u32 64 Go.Hsh.rootsL)])]))))))))))) := by kernel_rfl
theorem mrtag_vc (R : AV → Mem → Prop) (fuel : Nat) (key : List Int) (msg : List Int) : callsx Tryd.prog gamM1 [] Tryd.f13 (fuel + 1) [.one (.vec 200000), .one (.vec 200001)] [(200000, .rview [.ints .u8 key]), (200001, .rview [.ints .u8 msg])] R = ((((Go.Mac.Sg key) ∧ (Bs key)) ∧ ((Room (nadd (llen (Go.Mac.mskL key 54)) (llen msg)) 1) ∧ (((Go.Hsh.Sm (lcat (Go.Mac.mskL key 54) msg)) ∧ (Bs (lcat (Go.Mac.mskL key 54) msg))) ∧ (((Go.Mac.Sg key) ∧ (Bs key)) ∧ ((Fits 32 32) ∧ ((Room (nadd (llen (Go.Mac.mskL key 92)) (llen (lsub (Go.Hsh.shaL (lcat (Go.Mac.mskL key 54) msg)) 0 32))) 1) ∧ (((Go.Hsh.Sm (lcat (Go.Mac.mskL key 92) (lsub (Go.Hsh.shaL (lcat (Go.Mac.mskL key 54) msg)) 0 32))) ∧ (Bs (lcat (Go.Mac.mskL key 92) (lsub (Go.Hsh.shaL (lcat (Go.Mac.mskL key 54) msg)) 0 32)))) ∧ (R (AV.agg [(Seg.ints IntKind.u8 32 (Go.Hsh.shaL (lcat (Go.Mac.mskL key 92) (lsub (Go.Hsh.shaL (lcat (Go.Mac.mskL key 54) msg)) 0 32))))]) [(4, Blk.own 24 [(Seg.ints IntKind.u8 32 (Go.Hsh.shaL (lcat (Go.Mac.mskL key 92) (lsub (Go.Hsh.shaL (lcat (Go.Mac.mskL key 54) msg)) 0 32))))]), (5, Blk.own 24 [(Seg.ints IntKind.u8 32 (Go.Hsh.shaL (lcat (Go.Mac.mskL key 54) msg)))]), (9, Blk.vec [(Col.ints IntKind.u8 (lcat (Go.Mac.mskL key 54) msg))]), (14, Blk.vec [(Col.ints IntKind.u8 (lcat (Go.Mac.mskL key 92) (lsub (Go.Hsh.shaL (lcat (Go.Mac.mskL key 54) msg)) 0 32)))]), (200000, Blk.rview [(Col.ints IntKind.u8 key)]), (200001, Blk.rview [(Col.ints IntKind.u8 msg)])]))))))))) := by kernel_rfl
def mequal.l0 (R : AV → Mem → Prop) (a b : List Int) (fuel : Nat) (x0 x1 : Int) : Prop := rN Tryd.prog gamM1 [] Tryd.f12 R fuel [kc Tryd.f12 [1,1,1,0,1,0,0],ki Tryd.f12 [1,1,1,0,1,0,0],.inBlock 0,kc Tryd.f12 [1,1,1,1]] (Vv 200000::Vv 200001::Uu::Uu::Uu::AV.one (AC.int IntKind.u8 x0)::(us 7 (Ii (ofNat (llen a))::Ii x1::(us 14 [Zz,Zz])))) [(200000,Blk.rview [Col.ints IntKind.u8 a]),(200001,Blk.rview [Col.ints IntKind.u8 b])]
theorem mequal.l0_succ (R : AV → Mem → Prop) (a b : List Int) (fuel : Nat) (x0 x1 : Int) : mequal.l0 R a b (fuel + 1) x0 x1 = (((((ilt x1 (ofNat (llen a))) = true) → ((InB x1 (llen a)) ∧ ((InB x1 (llen b)) ∧ (mequal.l0 R a b fuel (bor IntKind.u8 x0 (bxor IntKind.u8 (lget a (nat x1)) (lget b (nat x1)))) (add IntKind.i64 x1 1))))) ∧ (((ilt x1 (ofNat (llen a))) = false) → (R (Bb (ieq x0 0)) [(200000,Blk.rview [Col.ints IntKind.u8 a]),(200001,Blk.rview [Col.ints IntKind.u8 b])])))) := by kernel_rfl
theorem mequal_vc (R : AV → Mem → Prop) (fuel : Nat) (a : List Int) (b : List Int) : callsx Tryd.prog gamM1 [] Tryd.f12 (fuel + 1) [.one (.vec 200000), .one (.vec 200001)] [(200000, .rview [.ints .u8 a]), (200001, .rview [.ints .u8 b])] R = (((((ine (ofNat (llen a)) (ofNat (llen b))) = true) → (R (AV.one (AC.lit false)) [(200000, Blk.rview [(Col.ints IntKind.u8 a)]), (200001, Blk.rview [(Col.ints IntKind.u8 b)])])) ∧ (((ine (ofNat (llen a)) (ofNat (llen b))) = false) → (mequal.l0 R a b fuel 0 0)))) := by kernel_rfl
theorem mrequal_vc (R : AV → Mem → Prop) (fuel : Nat) (a : List Int) (b : List Int) : callsx Tryd.prog gamM1 [] Tryd.f15 (fuel + 1) [.one (.vec 200000), .one (.vec 200001)] [(200000, .rview [.ints .u8 a]), (200001, .rview [.ints .u8 b])] R = ((R (AV.one (AC.bool (seq2 (bytesOf a) (bytesOf b)))) [(200000, Blk.rview [(Col.ints IntKind.u8 a)]), (200001, Blk.rview [(Col.ints IntKind.u8 b)])])) := by kernel_rfl
theorem mextract_vc (R : AV → Mem → Prop) (fuel : Nat) (a : List Int) (b : List Int) : callsx Tryd.prog gamM2 [] Tryd.f16 (fuel + 1) [.one (.vec 200000), .one (.vec 200001)] [(200000, .rview [.ints .u8 a]), (200001, .rview [.ints .u8 b]), (1000000 + 0, .view [.ints .u32 64 Go.Hsh.rootsL])] R = ((((Go.Hsh.rootsL = Go.Hsh.rootsL) ∧ ((Go.Mac.Sg a) ∧ (Go.Mac.Sg b))) ∧ (R (AV.agg [(Seg.ints IntKind.u8 32 (Go.Mac.tagL a b))]) [(4, Blk.own 24 [(Seg.ints IntKind.u8 32 (Go.Mac.tagL a b))]), (200000, Blk.rview [(Col.ints IntKind.u8 a)]), (200001, Blk.rview [(Col.ints IntKind.u8 b)]), (1000000, Blk.view [(Seg.ints IntKind.u32 64 Go.Hsh.rootsL)])]))) := by kernel_rfl
theorem mrextract_vc (R : AV → Mem → Prop) (fuel : Nat) (a : List Int) (b : List Int) : callsx Tryd.prog gamM2 [] Tryd.f14 (fuel + 1) [.one (.vec 200000), .one (.vec 200001)] [(200000, .rview [.ints .u8 a]), (200001, .rview [.ints .u8 b])] R = (((((Go.Mac.Sg a) ∧ (Bs a)) ∧ ((Go.Mac.Sg b) ∧ (Bs b))) ∧ (R (AV.agg [(Seg.ints IntKind.u8 32 (Go.Mac.tagL a b))]) [(4, Blk.own 24 [(Seg.ints IntKind.u8 32 (Go.Mac.tagL a b))]), (200000, Blk.rview [(Col.ints IntKind.u8 a)]), (200001, Blk.rview [(Col.ints IntKind.u8 b)])]))) := by kernel_rfl
def mexpand.l0 (R : AV → Mem → Prop) (n : Int) (key info : List Int) (fuel : Nat) (x0 : Int) (x1 x2 : List Int) : Prop := rN Tryd.prog gamM2 [⟨8,[.ints .u8],true,false⟩,⟨9,[.ints .u8],false,false⟩,⟨6,[.ints .u8],true,true⟩] Tryd.f17 R fuel [kc Tryd.f17 [1,1,1,1,1,0,1,0,0],ki Tryd.f17 [1,1,1,1,1,0,1,0,0],.inBlock 0,kc Tryd.f17 [1,1,1,1,1,1]] (Vv 200000::Vv 200001::Ii n::(us 5 (Vv 100008::Vv 100009::Ii x0::(us 40 [Zz,Zz,Zz])))) [(100008,Blk.vec [Col.ints IntKind.u8 x1]),(100009,Blk.rview [Col.ints IntKind.u8 x2]),(200000,Blk.rview [Col.ints IntKind.u8 key]),(200001,Blk.rview [Col.ints IntKind.u8 info]),(1000000,Blk.view [Seg.ints IntKind.u32 64 Go.Hsh.rootsL])]
theorem mexpand.l0_succ (R : AV → Mem → Prop) (n : Int) (key info : List Int) (fuel : Nat) (x0 : Int) (x1 x2 : List Int) : mexpand.l0 R n key info (fuel + 1) x0 x1 x2 = (((((ilt (ofNat (llen x1)) n) = true) → ((Mk 0 (add IntKind.i64 (add IntKind.i64 (ofNat (llen x2)) (ofNat (llen info))) 1) 1) ∧ ((Room (nadd 0 (llen x2)) 1) ∧ ((Room (nadd (llen (lcat (lzeros 0) x2)) (llen info)) 1) ∧ ((Room (nadd (llen (lcat (lcat (lzeros 0) x2) info)) (llen [(conv IntKind.u8 x0)])) 1) ∧ (((Go.Hsh.rootsL = Go.Hsh.rootsL) ∧ ((Sg key) ∧ (Sg (lcat (lcat (lcat (lzeros 0) x2) info) [(conv IntKind.u8 x0)])))) ∧ ((Fits 32 32) ∧ ((Room (nadd (llen x1) (llen (lsub (tagL key (lcat (lcat (lcat (lzeros 0) x2) info) [(conv IntKind.u8 x0)])) 0 32))) 1) ∧ (mexpand.l0 R n key info fuel (add IntKind.i64 x0 1) (lcat x1 (lsub (tagL key (lcat (lcat (lcat (lzeros 0) x2) info) [(conv IntKind.u8 x0)])) 0 32)) (lsub (tagL key (lcat (lcat (lcat (lzeros 0) x2) info) [(conv IntKind.u8 x0)])) 0 32)))))))))) ∧ (((ilt (ofNat (llen x1)) n) = false) → (((NonNeg n) ∧ (Fits (nat n) (llen x1))) ∧ (R (AV.tup [TV.c (AC.vec 100006),TV.c (AC.int IntKind.i64 0)]) [(100006,Blk.vec [Col.ints IntKind.u8 (lsub x1 0 (nat n))]),(100009,Blk.rview [Col.ints IntKind.u8 x2]),(200000,Blk.rview [Col.ints IntKind.u8 key]),(200001,Blk.rview [Col.ints IntKind.u8 info]),(1000000,Blk.view [Seg.ints IntKind.u32 64 Go.Hsh.rootsL])]))))) := by kernel_rfl
theorem mexpand_vc (R : AV → Mem → Prop) (fuel : Nat) (key : List Int) (info : List Int) (n : Int) : callsx Tryd.prog gamM2 [⟨8, [.ints .u8], true, false⟩, ⟨9, [.ints .u8], false, false⟩, ⟨6, [.ints .u8], true, true⟩] Tryd.f17 (fuel + 1) [.one (.vec 200000), .one (.vec 200001), .one (.int .i64 n)] [(200000, .rview [.ints .u8 key]), (200001, .rview [.ints .u8 info]), (1000000 + 0, .view [.ints .u32 64 Go.Hsh.rootsL])] R = (((((ilt n 0) = true) → (R (AV.tup [(TV.c (AC.vec 100006)), (TV.c (AC.int IntKind.i64 2))]) [(100006, Blk.vec [(Col.ints IntKind.u8 [])]), (200000, Blk.rview [(Col.ints IntKind.u8 key)]), (200001, Blk.rview [(Col.ints IntKind.u8 info)]), (1000000, Blk.view [(Seg.ints IntKind.u32 64 Go.Hsh.rootsL)])])) ∧ (((ilt n 0) = false) → ((((igt n 8160) = true) → (R (AV.tup [(TV.c (AC.vec 100006)), (TV.c (AC.int IntKind.i64 1))]) [(100006, Blk.vec [(Col.ints IntKind.u8 [])]), (200000, Blk.rview [(Col.ints IntKind.u8 key)]), (200001, Blk.rview [(Col.ints IntKind.u8 info)]), (1000000, Blk.view [(Seg.ints IntKind.u32 64 Go.Hsh.rootsL)])])) ∧ (((igt n 8160) = false) → ((Mk 0 (add IntKind.i64 n 32) 1) ∧ (mexpand.l0 R n key info fuel 1 (lzeros 0) []))))))) := by kernel_rfl
def mrexpand.l0 (R : AV → Mem → Prop) (n : Int) (key info : List Int) (fuel : Nat) (x0 : Int) (x1 x2 : List Int) : Prop := rN Tryd.prog gamM2 [⟨8,[.ints .u8],true,false⟩,⟨9,[.ints .u8],false,false⟩,⟨6,[.ints .u8],true,true⟩] Tryd.f18 R fuel [kc Tryd.f18 [1,1,1,1,0,1,0,0],ki Tryd.f18 [1,1,1,1,0,1,0,0],.inBlock 0,kc Tryd.f18 [1,1,1,1,1]] (Vv 200000::Vv 200001::Ii n::(us 5 (Vv 100008::Vv 100009::Ii x0::(us 26 (zs 4 []))))) [(100008,Blk.vec [Col.ints IntKind.u8 x1]),(100009,Blk.rview [Col.ints IntKind.u8 x2]),(200000,Blk.rview [Col.ints IntKind.u8 key]),(200001,Blk.rview [Col.ints IntKind.u8 info])]
theorem mrexpand.l0_succ (R : AV → Mem → Prop) (n : Int) (key info : List Int) (fuel : Nat) (x0 : Int) (x1 x2 : List Int) : mrexpand.l0 R n key info (fuel + 1) x0 x1 x2 = (((((ilt (ofNat (llen x1)) n) = true) → ((Room (nadd 0 (llen x2)) 1) ∧ ((Room (nadd (llen (lcat [] x2)) (llen info)) 1) ∧ ((Room (nadd (llen (lcat (lcat [] x2) info)) (llen [(conv IntKind.u8 x0)])) 1) ∧ ((((Sg key) ∧ (Bs key)) ∧ ((Sg (lcat (lcat (lcat [] x2) info) [(conv IntKind.u8 x0)])) ∧ (Bs (lcat (lcat (lcat [] x2) info) [(conv IntKind.u8 x0)])))) ∧ ((Fits 32 32) ∧ ((Room (nadd (llen x1) (llen (lsub (tagL key (lcat (lcat (lcat [] x2) info) [(conv IntKind.u8 x0)])) 0 32))) 1) ∧ (mrexpand.l0 R n key info fuel (add IntKind.i64 x0 1) (lcat x1 (lsub (tagL key (lcat (lcat (lcat [] x2) info) [(conv IntKind.u8 x0)])) 0 32)) (lsub (tagL key (lcat (lcat (lcat [] x2) info) [(conv IntKind.u8 x0)])) 0 32))))))))) ∧ (((ilt (ofNat (llen x1)) n) = false) → (((NonNeg n) ∧ ((Fits (nat n) (llen x1)) ∧ ((NonNeg n) ∧ (Fits (nat n) (nat n))))) ∧ (((NonNeg n) ∧ (Fits (nat n) (llen x1))) ∧ (R (AV.tup [TV.c (AC.vec 100006),TV.c (AC.int IntKind.i64 0)]) [(100006,Blk.vec [Col.ints IntKind.u8 (lsub x1 0 (nat n))]),(100009,Blk.rview [Col.ints IntKind.u8 x2]),(200000,Blk.rview [Col.ints IntKind.u8 key]),(200001,Blk.rview [Col.ints IntKind.u8 info])])))))) := by kernel_rfl
theorem mrexpand_vc (R : AV → Mem → Prop) (fuel : Nat) (key : List Int) (info : List Int) (n : Int) : callsx Tryd.prog gamM2 [⟨8, [.ints .u8], true, false⟩, ⟨9, [.ints .u8], false, false⟩, ⟨6, [.ints .u8], true, true⟩] Tryd.f18 (fuel + 1) [.one (.vec 200000), .one (.vec 200001), .one (.int .i64 n)] [(200000, .rview [.ints .u8 key]), (200001, .rview [.ints .u8 info])] R = (((((ilt n 0) = true) → (R (AV.tup [(TV.c (AC.vec 100006)), (TV.c (AC.int IntKind.i64 2))]) [(100006, Blk.vec [(Col.ints IntKind.u8 [])]), (200000, Blk.rview [(Col.ints IntKind.u8 key)]), (200001, Blk.rview [(Col.ints IntKind.u8 info)])])) ∧ (((ilt n 0) = false) → ((((igt n 8160) = true) → (R (AV.tup [(TV.c (AC.vec 100006)), (TV.c (AC.int IntKind.i64 1))]) [(100006, Blk.vec [(Col.ints IntKind.u8 [])]), (200000, Blk.rview [(Col.ints IntKind.u8 key)]), (200001, Blk.rview [(Col.ints IntKind.u8 info)])])) ∧ (((igt n 8160) = false) → (mrexpand.l0 R n key info fuel 1 [] [])))))) := by kernel_rfl
theorem mderive_vc (R : AV → Mem → Prop) (fuel : Nat) (s : List Int) (a : List Int) (i : List Int) (n : Int) : callsx Tryd.prog gamM3x [] Tryd.f19 (fuel + 1) [.one (.vec 200000), .one (.vec 200001), .one (.vec 200002), .one (.int .i64 n)] [(200000, .rview [.ints .u8 s]), (200001, .rview [.ints .u8 a]), (200002, .rview [.ints .u8 i]), (1000000 + 0, .view [.ints .u32 64 Go.Hsh.rootsL])] R = ((((Go.Hsh.rootsL = Go.Hsh.rootsL) ∧ ((Go.Mac.Sg a) ∧ (Go.Mac.Sg s))) ∧ ((Fits 32 32) ∧ (((Go.Hsh.rootsL = Go.Hsh.rootsL) ∧ ((Go.Mac.Sg (lsub (Go.Mac.tagL a s) 0 32)) ∧ (Go.Mac.Sm47 i))) ∧ (R (AV.tup [(TV.c (AC.vec 17)), (TV.c (AC.int IntKind.i64 (Go.Mac.exE n)))]) [(10, Blk.own 24 [(Seg.ints IntKind.u8 32 (Go.Mac.tagL a s))]), (17, Blk.vec [(Col.ints IntKind.u8 (Go.Mac.exL (lsub (Go.Mac.tagL a s) 0 32) i n))]), (200000, Blk.rview [(Col.ints IntKind.u8 s)]), (200001, Blk.rview [(Col.ints IntKind.u8 a)]), (200002, Blk.rview [(Col.ints IntKind.u8 i)]), (1000000, Blk.view [(Seg.ints IntKind.u32 64 Go.Hsh.rootsL)])]))))) := by kernel_rfl
theorem mrderive_vc (R : AV → Mem → Prop) (fuel : Nat) (s : List Int) (a : List Int) (i : List Int) (n : Int) : callsx Tryd.prog gamM3x [] Tryd.f20 (fuel + 1) [.one (.vec 200000), .one (.vec 200001), .one (.vec 200002), .one (.int .i64 n)] [(200000, .rview [.ints .u8 s]), (200001, .rview [.ints .u8 a]), (200002, .rview [.ints .u8 i])] R = (((((Go.Mac.Sg a) ∧ (Bs a)) ∧ ((Go.Mac.Sg s) ∧ (Bs s))) ∧ ((Fits 32 32) ∧ ((((Go.Mac.Sg (lsub (Go.Mac.tagL a s) 0 32)) ∧ (Bs (lsub (Go.Mac.tagL a s) 0 32))) ∧ ((Go.Mac.Sm47 i) ∧ (Bs i))) ∧ (R (AV.tup [(TV.c (AC.vec 17)), (TV.c (AC.int IntKind.i64 (Go.Mac.exE n)))]) [(10, Blk.own 24 [(Seg.ints IntKind.u8 32 (Go.Mac.tagL a s))]), (17, Blk.vec [(Col.ints IntKind.u8 (Go.Mac.exL (lsub (Go.Mac.tagL a s) 0 32) i n))]), (200000, Blk.rview [(Col.ints IntKind.u8 s)]), (200001, Blk.rview [(Col.ints IntKind.u8 a)]), (200002, Blk.rview [(Col.ints IntKind.u8 i)])]))))) := by kernel_rfl
end Go.Proofs.YtmgbaimcjkhieaaDoor.G
namespace Go.Proofs.YtmgbaimcjkhieaaDoor.G
open Go Go.Sx Go.Hsh
set_option maxRecDepth 100000
theorem hnew_vc (R : AV → Mem → Prop) (fuel : Nat)  : callsx Tryd.prog gam0 [] Tryd.f24 (fuel + 1) [] [] R = ((R (AV.agg [(Seg.ints IntKind.u32 8 (lzeros 8)), (Seg.ints IntKind.u8 64 (lzeros 64)), (Seg.cells [(AC.int IntKind.u64 0)])]) [(0, Blk.own 50 [(Seg.ints IntKind.u32 8 (lzeros 8)), (Seg.ints IntKind.u8 64 (lzeros 64)), (Seg.cells [(AC.int IntKind.u64 0)])])])) := by kernel_rfl
def hadd.l0 (R : AV → Mem → Prop) (p : List Int) (fuel : Nat) (x0 x1 : List Int) (x2 : Int) (x3 : List Int) : Prop := rN Tryd.prog gamH2 [⟨1,[.ints .u8],false,false⟩] Tryd.f25 R fuel [kc Tryd.f25 [1,1,0,0,0],ki Tryd.f25 [1,1,0,0,0],.inBlock 0,kc Tryd.f25 [1,1,1]] (Uu::Vv 100001::AV.one (AC.ptr 2 0 0)::Uu::AV.one (AC.ptr 4 0 0)::(us 35 [Zz])) [(2,Blk.own 50 [Seg.ints IntKind.u32 8 x0,Seg.ints IntKind.u8 64 x1,Seg.cells [AC.int IntKind.u64 x2]]),(4,Blk.own 50 [Seg.ints IntKind.u32 8 (lzeros 8),Seg.ints IntKind.u8 64 (lzeros 64),Seg.cells [AC.int IntKind.u64 0]]),(100001,Blk.rview [Col.ints IntKind.u8 x3]),(1000000,Blk.view [Seg.ints IntKind.u32 64 rootsL]),(200001,Blk.rview [Col.ints IntKind.u8 p])]
theorem hadd.l0_succ (R : AV → Mem → Prop) (p : List Int) (fuel : Nat) (x0 x1 : List Int) (x2 : Int) (x3 : List Int) : hadd.l0 R p (fuel + 1) x0 x1 x2 x3 = (((((igt (ofNat (llen x3)) 0) = true) → ((NeZ 64) ∧ (((NonNeg (rem x2 64)) ∧ (Fits (nat (rem x2 64)) 64)) ∧ ((Fits (nadd (nadd 0 (nat (rem x2 64))) (nsub 64 (nat (rem x2 64)))) 64) ∧ (let y4 : List Int := (lput x1 (nadd 0 (nat (rem x2 64))) (lsub x3 0 (nmin (llen x3) (nsub 64 (nat (rem x2 64)))))); (((NonNeg (ofNat (nmin (llen x3) (nsub 64 (nat (rem x2 64)))))) ∧ (Fits (nat (ofNat (nmin (llen x3) (nsub 64 (nat (rem x2 64)))))) (llen x3))) ∧ ((NeZ 64) ∧ (let y5 : Int := (rem (add IntKind.u64 x2 (conv IntKind.u64 (ofNat (nmin (llen x3) (nsub 64 (nat (rem x2 64))))))) 64); (let y6 : Bool := (ieq (rem (add IntKind.u64 x2 (conv IntKind.u64 (ofNat (nmin (llen x3) (nsub 64 (nat (rem x2 64))))))) 64) 0); (((y6 = true) → ((Fits 8 8) ∧ ((Fits (nadd 0 64) 64) ∧ (((rootsL = rootsL) ∧ (Len8 (lsub x0 0 8))) ∧ ((Fits 8 8) ∧ (hadd.l0 R p fuel (lput x0 0 (blk (lsub x0 0 8) (lsub y4 0 64))) y4 (add IntKind.u64 x2 (conv IntKind.u64 (ofNat (nmin (llen x3) (nsub 64 (nat (rem x2 64))))))) (lsub x3 (nat (ofNat (nmin (llen x3) (nsub 64 (nat (rem x2 64)))))) (nsub (llen x3) (nat (ofNat (nmin (llen x3) (nsub 64 (nat (rem x2 64)))))))))))))) ∧ ((y6 = false) → (hadd.l0 R p fuel x0 y4 (add IntKind.u64 x2 (conv IntKind.u64 (ofNat (nmin (llen x3) (nsub 64 (nat (rem x2 64))))))) (lsub x3 (nat (ofNat (nmin (llen x3) (nsub 64 (nat (rem x2 64)))))) (nsub (llen x3) (nat (ofNat (nmin (llen x3) (nsub 64 (nat (rem x2 64)))))))))))))))))))) ∧ (((igt (ofNat (llen x3)) 0) = false) → (R (AV.agg [Seg.ints IntKind.u32 8 x0,Seg.ints IntKind.u8 64 x1,Seg.cells [AC.int IntKind.u64 x2]]) [(2,Blk.own 50 [Seg.ints IntKind.u32 8 x0,Seg.ints IntKind.u8 64 x1,Seg.cells [AC.int IntKind.u64 x2]]),(4,Blk.own 50 [Seg.ints IntKind.u32 8 x0,Seg.ints IntKind.u8 64 x1,Seg.cells [AC.int IntKind.u64 x2]]),(100001,Blk.rview [Col.ints IntKind.u8 x3]),(1000000,Blk.view [Seg.ints IntKind.u32 64 rootsL]),(200001,Blk.rview [Col.ints IntKind.u8 p])])))) := by kernel_rfl
theorem hadd_vc (R : AV → Mem → Prop) (fuel : Nat) (W : List Int) (T : List Int) (n : Int) (p : List Int) : callsx Tryd.prog gamH2 [⟨1, [.ints .u8], false, false⟩] Tryd.f25 (fuel + 1) [.agg [.ints .u32 8 W, .ints .u8 64 T, .cells [.int .u64 n]], .one (.vec 200001)] [(1000000 + 0, .view [.ints .u32 64 Go.Hsh.rootsL]), (200001, .rview [.ints .u8 p])] R = (((((ilt n 64) = true) → ((Fits 8 8) ∧ (hadd.l0 R p fuel (lput W 0 Go.Hsh.firstL) T n p))) ∧ (((ilt n 64) = false) → (hadd.l0 R p fuel W T n p)))) := by kernel_rfl
def hsumm.l1 (R : AV → Mem → Prop) (W T : List Int) (n : Int) (x1 : List Int) (fuel : Nat) (x2 : Int) (x3 : List Int) : Prop := rN Tryd.prog gamH3 [⟨4,[.ints .u8],true,false⟩] Tryd.f26 R fuel [kc Tryd.f26 [1,1,1,1,1,1,1,0,1,0,0],ki Tryd.f26 [1,1,1,1,1,1,1,0,1,0,0],.inBlock 2,kc Tryd.f26 [1,1,1,1,1,1,1,1]] (Uu::Uu::AV.one (AC.ptr 2 0 0)::Uu::Uu::Uu::AV.one (AC.ptr 6 0 0)::(us 28 ((AV.agg [Seg.ints IntKind.u32 8 (lsub (addW W T n x1) 0 8)])::Ii x2::(us 30 [Zz])))) [(2,Blk.own 24 [Seg.ints IntKind.u8 32 (lzeros 32)]),(6,Blk.own 24 [Seg.ints IntKind.u8 32 x3]),(1000000,Blk.view [Seg.ints IntKind.u32 64 rootsL])]
def hsumm.l0 (R : AV → Mem → Prop) (n : Int) (W T : List Int) (fuel : Nat) (x0 : Int) (x1 : List Int) : Prop := rN Tryd.prog gamH3 [⟨4,[.ints .u8],true,false⟩] Tryd.f26 R fuel [kc Tryd.f26 [1,1,1,1,0,1,0,0],ki Tryd.f26 [1,1,1,1,0,1,0,0],.inBlock 0,kc Tryd.f26 [1,1,1,1,1]] (Uu::AV.one (AC.ptr 1 0 0)::AV.one (AC.ptr 2 0 0)::AV.one (AC.int IntKind.u64 n)::Vv 100004::Ii x0::Zz::Zz::Zz::(us 22 (zs 37 []))) [(1,Blk.own 50 [Seg.ints IntKind.u32 8 W,Seg.ints IntKind.u8 64 T,Seg.cells [AC.int IntKind.u64 n]]),(2,Blk.own 24 [Seg.ints IntKind.u8 32 (lzeros 32)]),(100004,Blk.vec [Col.ints IntKind.u8 x1]),(1000000,Blk.view [Seg.ints IntKind.u32 64 rootsL])]
theorem hsumm.l1_succ (R : AV → Mem → Prop) (W T : List Int) (n : Int) (x1 : List Int) (fuel : Nat) (x2 : Int) (x3 : List Int) : hsumm.l1 R W T n x1 (fuel + 1) x2 x3 = (((((ilt x2 8) = true) → ((InB x2 8) ∧ ((NonNeg 24) ∧ ((NonNeg 16) ∧ ((NonNeg 8) ∧ ((InB (mul IntKind.i64 4 x2) 32) ∧ ((Low (nadd 0 (nat (mul IntKind.i64 4 x2))) 32) ∧ ((InB (add IntKind.i64 (mul IntKind.i64 4 x2) 1) 32) ∧ ((Low (nadd 0 (nat (add IntKind.i64 (mul IntKind.i64 4 x2) 1))) 32) ∧ ((InB (add IntKind.i64 (mul IntKind.i64 4 x2) 2) 32) ∧ ((Low (nadd 0 (nat (add IntKind.i64 (mul IntKind.i64 4 x2) 2))) 32) ∧ ((InB (add IntKind.i64 (mul IntKind.i64 4 x2) 3) 32) ∧ ((Low (nadd 0 (nat (add IntKind.i64 (mul IntKind.i64 4 x2) 3))) 32) ∧ (let y4 : List Int := (lset (lset (lset (lset x3 (nadd 0 (nat (mul IntKind.i64 4 x2))) (conv IntKind.u8 (shr IntKind.u32 (lget (lsub (addW W T n x1) 0 8) (nat x2)) 24))) (nadd 0 (nat (add IntKind.i64 (mul IntKind.i64 4 x2) 1))) (conv IntKind.u8 (shr IntKind.u32 (lget (lsub (addW W T n x1) 0 8) (nat x2)) 16))) (nadd 0 (nat (add IntKind.i64 (mul IntKind.i64 4 x2) 2))) (conv IntKind.u8 (shr IntKind.u32 (lget (lsub (addW W T n x1) 0 8) (nat x2)) 8))) (nadd 0 (nat (add IntKind.i64 (mul IntKind.i64 4 x2) 3))) (conv IntKind.u8 (lget (lsub (addW W T n x1) 0 8) (nat x2)))); (hsumm.l1 R W T n x1 fuel (add IntKind.i64 x2 1) y4))))))))))))))) ∧ (((ilt x2 8) = false) → (R (AV.agg [Seg.ints IntKind.u8 32 x3]) [(2,Blk.own 24 [Seg.ints IntKind.u8 32 x3]),(6,Blk.own 24 [Seg.ints IntKind.u8 32 x3]),(1000000,Blk.view [Seg.ints IntKind.u32 64 rootsL])])))) := by kernel_rfl
theorem hsumm.l0_succ (R : AV → Mem → Prop) (n : Int) (W T : List Int) (fuel : Nat) (x0 : Int) (x1 : List Int) : hsumm.l0 R n W T (fuel + 1) x0 x1 = (((((ige x0 0) = true) → ((NonNeg 3) ∧ ((NonNeg x0) ∧ ((Room (nadd (llen x1) (llen [(conv IntKind.u8 (shr IntKind.u64 (shl IntKind.u64 n 3) x0))])) 1) ∧ (hsumm.l0 R n W T fuel (sub IntKind.i64 x0 8) (lcat x1 [(conv IntKind.u8 (shr IntKind.u64 (shl IntKind.u64 n 3) x0))])))))) ∧ (((ige x0 0) = false) → (((rootsL = rootsL) ∧ (HOk W T n (List.length x1))) ∧ ((Fits 8 8) ∧ (hsumm.l1 R W T n x1 fuel 0 (lzeros 32))))))) := by kernel_rfl
theorem hsumm_vc (R : AV → Mem → Prop) (fuel : Nat) (W : List Int) (T : List Int) (n : Int) : callsx Tryd.prog gamH3 [⟨4, [.ints .u8], true, false⟩] Tryd.f26 (fuel + 1) [.agg [.ints .u32 8 W, .ints .u8 64 T, .cells [.int .u64 n]]] [(1000000 + 0, .view [.ints .u32 64 Go.Hsh.rootsL])] R = (((NeZ 64) ∧ ((NeZ 64) ∧ ((Mk (add IntKind.u64 1 (rem (sub IntKind.u64 119 (rem n 64)) 64)) 72 1) ∧ ((InB 0 (llen (lzeros (nat (add IntKind.u64 1 (rem (sub IntKind.u64 119 (rem n 64)) 64)))))) ∧ (hsumm.l0 R n W T fuel 56 (lset (lzeros (nat (add IntKind.u64 1 (rem (sub IntKind.u64 119 (rem n 64)) 64)))) 0 128))))))) := by kernel_rfl
theorem hsum_vc (R : AV → Mem → Prop) (fuel : Nat) (p : List Int) : callsx Tryd.prog gamH4 [] Tryd.f10 (fuel + 1) [.one (.vec 200000)] [(200000, .rview [.ints .u8 p]), (1000000 + 0, .view [.ints .u32 64 Go.Hsh.rootsL])] R = ((((Go.Hsh.rootsL = Go.Hsh.rootsL) ∧ (HOk (lzeros 8) (lzeros 64) (Int.ofNat 0) (List.length p))) ∧ (((Go.Hsh.rootsL = Go.Hsh.rootsL) ∧ (HOk (Go.Hsh.addW (lzeros 8) (lzeros 64) (Int.ofNat 0) p) (Go.Hsh.addT (lzeros 8) (lzeros 64) (Int.ofNat 0) p) (Go.Hsh.addN (lzeros 8) (lzeros 64) (Int.ofNat 0) p) 200)) ∧ (let y0 : List Int := (Go.Hsh.sumL (Go.Hsh.addW (lzeros 8) (lzeros 64) (Int.ofNat 0) p) (Go.Hsh.addT (lzeros 8) (lzeros 64) (Int.ofNat 0) p) (Go.Hsh.addN (lzeros 8) (lzeros 64) (Int.ofNat 0) p)); (R (AV.agg [(Seg.ints IntKind.u8 32 y0)]) [(2, Blk.own 24 [(Seg.ints IntKind.u8 32 y0)]), (200000, Blk.rview [(Col.ints IntKind.u8 p)]), (1000000, Blk.view [(Seg.ints IntKind.u32 64 Go.Hsh.rootsL)])]))))) := by kernel_rfl
def hrsum.l1 (R : AV → Mem → Prop) (x2 p : List Int) (fuel : Nat) (x3 : Int) (x4 : List Int) : Prop := rN Tryd.prog gamH4 [] Tryd.f28 R fuel [kc Tryd.f28 [1,1,1,1,1,1,0,1,0,0],ki Tryd.f28 [1,1,1,1,1,1,0,1,0,0],.inBlock 2,kc Tryd.f28 [1,1,1,1,1,1,1]] (Uu::Uu::AV.one (AC.ptr 2 0 0)::AV.one (AC.ptr 3 0 0)::Uu::Uu::Uu::AV.one (AC.ptr 7 0 0)::Ii x3::(us 31 [Zz])) [(2,Blk.own 24 [Seg.ints IntKind.u8 32 (lzeros 32)]),(3,Blk.own 45 [Seg.ints IntKind.u32 8 x2]),(7,Blk.own 24 [Seg.ints IntKind.u8 32 x4]),(200000,Blk.rview [Col.ints IntKind.u8 p])]
def hrsum.l0 (R : AV → Mem → Prop) (p : List Int) (fuel : Nat) (x1 : Int) (x2 : List Int) : Prop := rN Tryd.prog gamH4 [] Tryd.f28 R fuel [kc Tryd.f28 [1,1,1,1,0,1,0,0],ki Tryd.f28 [1,1,1,1,0,1,0,0],.inBlock 0,kc Tryd.f28 [1,1,1,1,1]] (Uu::Uu::AV.one (AC.ptr 2 0 0)::AV.one (AC.ptr 3 0 0)::AV.one (AC.ptr 4 0 0)::Vv 12::Ii x1::Zz::Zz::(us 15 (zs 17 []))) [(2,Blk.own 24 [Seg.ints IntKind.u8 32 (lzeros 32)]),(3,Blk.own 45 [Seg.ints IntKind.u32 8 x2]),(4,Blk.own 59 [Seg.ints IntKind.u32 64 rootsL]),(12,Blk.vec [Col.ints IntKind.u8 (fillOf p)]),(200000,Blk.rview [Col.ints IntKind.u8 p])]
theorem hrsum.l1_succ (R : AV → Mem → Prop) (x2 p : List Int) (fuel : Nat) (x3 : Int) (x4 : List Int) : hrsum.l1 R x2 p (fuel + 1) x3 x4 = (((((ilt x3 32) = true) → ((NeZ 4) ∧ ((InB (quo IntKind.i64 x3 4) 8) ∧ ((Low (nadd 0 (nat (quo IntKind.i64 x3 4))) 8) ∧ ((NeZ 4) ∧ ((NonNeg (sub IntKind.i64 24 (mul IntKind.i64 8 (rem x3 4)))) ∧ ((InB x3 32) ∧ ((Low (nadd 0 (nat x3)) 32) ∧ (let y5 : Int := (shr IntKind.u32 (lget x2 (nadd 0 (nat (quo IntKind.i64 x3 4)))) (sub IntKind.i64 24 (mul IntKind.i64 8 (rem x3 4)))); (let y6 : Int := (conv IntKind.u8 (shr IntKind.u32 (lget x2 (nadd 0 (nat (quo IntKind.i64 x3 4)))) (sub IntKind.i64 24 (mul IntKind.i64 8 (rem x3 4))))); (let y7 : List Int := (lset x4 (nadd 0 (nat x3)) (conv IntKind.u8 (shr IntKind.u32 (lget x2 (nadd 0 (nat (quo IntKind.i64 x3 4)))) (sub IntKind.i64 24 (mul IntKind.i64 8 (rem x3 4)))))); (hrsum.l1 R x2 p fuel (add IntKind.i64 x3 1) y7)))))))))))) ∧ (((ilt x3 32) = false) → (R (AV.agg [Seg.ints IntKind.u8 32 x4]) [(2,Blk.own 24 [Seg.ints IntKind.u8 32 x4]),(3,Blk.own 45 [Seg.ints IntKind.u32 8 x2]),(7,Blk.own 24 [Seg.ints IntKind.u8 32 x4]),(200000,Blk.rview [Col.ints IntKind.u8 p])])))) := by kernel_rfl
theorem hrsum.l0_succ (R : AV → Mem → Prop) (p : List Int) (fuel : Nat) (x1 : Int) (x2 : List Int) : hrsum.l0 R p (fuel + 1) x1 x2 = (((((ilt x1 (ofNat (llen (fillOf p)))) = true) → ((WOk (fillOf p) rootsL x2 x1) ∧ (hrsum.l0 R p fuel (add IntKind.i64 x1 64) (blk x2 (lsub (fillOf p) (nat x1) 64))))) ∧ (((ilt x1 (ofNat (llen (fillOf p)))) = false) → (hrsum.l1 R x2 p fuel 0 (lzeros 32))))) := by kernel_rfl
theorem hrsum_vc (R : AV → Mem → Prop) (fuel : Nat) (p : List Int) : callsx Tryd.prog gamH4 [] Tryd.f28 (fuel + 1) [.one (.vec 200000)] [(200000, .rview [.ints .u8 p])] R = (((Low 0 8) ∧ ((Low 1 8) ∧ ((Low 2 8) ∧ ((Low 3 8) ∧ ((Low 4 8) ∧ ((Low 5 8) ∧ ((Low 6 8) ∧ ((Low 7 8) ∧ (let y0 : List Int := (lset (lset (lset (lset (lset (lset (lset (lset (lzeros 8) 0 1779033703) 1 3144134277) 2 1013904242) 3 2773480762) 4 1359893119) 5 2600822924) 6 528734635) 7 1541459225); ((Go.Hsh.Sm p) ∧ (hrsum.l0 R p fuel 0 y0)))))))))))) := by kernel_rfl
theorem hrot_vc (R : AV → Mem → Prop) (fuel : Nat) (x : Int) (k : Int) : callsx Tryd.prog gam0 [] Tryd.f35 (fuel + 1) [.one (.int .u32 x), .one (.int .i64 k)] [] R = (((NonNeg (band IntKind.u64 (conv IntKind.u64 k) 31)) ∧ ((NonNeg (sub IntKind.u64 32 (band IntKind.u64 (conv IntKind.u64 k) 31))) ∧ (let y0 : Int := (bor IntKind.u32 (shl IntKind.u32 x (band IntKind.u64 (conv IntKind.u64 k) 31)) (shr IntKind.u32 x (sub IntKind.u64 32 (band IntKind.u64 (conv IntKind.u64 k) 31)))); (R (AV.one (AC.int IntKind.u32 y0)) []))))) := by kernel_rfl
theorem hturned_vc (R : AV → Mem → Prop) (fuel : Nat) (x : Int) (k : Int) : callsx Tryd.prog gam0 [] Tryd.f36 (fuel + 1) [.one (.int .u32 x), .one (.int .i64 k)] [] R = (((NonNeg k) ∧ ((NonNeg (sub IntKind.i64 32 k)) ∧ (R (AV.one (AC.int IntKind.u32 (bor IntKind.u32 (shr IntKind.u32 x k) (shl IntKind.u32 x (sub IntKind.i64 32 k))))) [])))) := by kernel_rfl
theorem hfirst_vc (R : AV → Mem → Prop) (fuel : Nat)  : callsx Tryd.prog gam0 [] Tryd.f30 (fuel + 1) [] [] R = (((Low 0 8) ∧ ((Low 1 8) ∧ ((Low 2 8) ∧ ((Low 3 8) ∧ ((Low 4 8) ∧ ((Low 5 8) ∧ ((Low 6 8) ∧ ((Low 7 8) ∧ (let y0 : List Int := (lset (lset (lset (lset (lset (lset (lset (lset (lzeros 8) 0 1779033703) 1 3144134277) 2 1013904242) 3 2773480762) 4 1359893119) 5 2600822924) 6 528734635) 7 1541459225); (R (AV.agg [(Seg.ints IntKind.u32 8 y0)]) [(0, Blk.own 46 [(Seg.ints IntKind.u32 8 y0)])]))))))))))) := by kernel_rfl
theorem hthirds_vc (R : AV → Mem → Prop) (fuel : Nat)  : callsx Tryd.prog gam0 [] Tryd.f32 (fuel + 1) [] [] R = (((Low 0 64) ∧ ((Low 1 64) ∧ ((Low 2 64) ∧ ((Low 3 64) ∧ ((Low 4 64) ∧ ((Low 5 64) ∧ ((Low 6 64) ∧ ((Low 7 64) ∧ ((Low 8 64) ∧ ((Low 9 64) ∧ ((Low 10 64) ∧ ((Low 11 64) ∧ ((Low 12 64) ∧ ((Low 13 64) ∧ ((Low 14 64) ∧ ((Low 15 64) ∧ ((Low 16 64) ∧ ((Low 17 64) ∧ ((Low 18 64) ∧ ((Low 19 64) ∧ ((Low 20 64) ∧ ((Low 21 64) ∧ ((Low 22 64) ∧ ((Low 23 64) ∧ ((Low 24 64) ∧ ((Low 25 64) ∧ ((Low 26 64) ∧ ((Low 27 64) ∧ ((Low 28 64) ∧ ((Low 29 64) ∧ ((Low 30 64) ∧ ((Low 31 64) ∧ ((Low 32 64) ∧ ((Low 33 64) ∧ ((Low 34 64) ∧ ((Low 35 64) ∧ ((Low 36 64) ∧ ((Low 37 64) ∧ ((Low 38 64) ∧ ((Low 39 64) ∧ ((Low 40 64) ∧ ((Low 41 64) ∧ ((Low 42 64) ∧ ((Low 43 64) ∧ ((Low 44 64) ∧ ((Low 45 64) ∧ ((Low 46 64) ∧ ((Low 47 64) ∧ ((Low 48 64) ∧ ((Low 49 64) ∧ ((Low 50 64) ∧ ((Low 51 64) ∧ ((Low 52 64) ∧ ((Low 53 64) ∧ ((Low 54 64) ∧ ((Low 55 64) ∧ ((Low 56 64) ∧ ((Low 57 64) ∧ ((Low 58 64) ∧ ((Low 59 64) ∧ ((Low 60 64) ∧ ((Low 61 64) ∧ ((Low 62 64) ∧ ((Low 63 64) ∧ (let y0 : List Int := (lset (lset (lset (lset (lset (lset (lset (lset (lset (lset (lset (lset (lset (lset (lset (lset (lset (lset (lset (lset (lset (lset (lset (lset (lset (lset (lset (lset (lset (lset (lset (lset (lset (lset (lset (lset (lset (lset (lset (lset (lset (lset (lset (lset (lset (lset (lset (lset (lset (lset (lset (lset (lset (lset (lset (lset (lset (lset (lset (lset (lset (lset (lset (lset (lzeros 64) 0 1116352408) 1 1899447441) 2 3049323471) 3 3921009573) 4 961987163) 5 1508970993) 6 2453635748) 7 2870763221) 8 3624381080) 9 310598401) 10 607225278) 11 1426881987) 12 1925078388) 13 2162078206) 14 2614888103) 15 3248222580) 16 3835390401) 17 4022224774) 18 264347078) 19 604807628) 20 770255983) 21 1249150122) 22 1555081692) 23 1996064986) 24 2554220882) 25 2821834349) 26 2952996808) 27 3210313671) 28 3336571891) 29 3584528711) 30 113926993) 31 338241895) 32 666307205) 33 773529912) 34 1294757372) 35 1396182291) 36 1695183700) 37 1986661051) 38 2177026350) 39 2456956037) 40 2730485921) 41 2820302411) 42 3259730800) 43 3345764771) 44 3516065817) 45 3600352804) 46 4094571909) 47 275423344) 48 430227734) 49 506948616) 50 659060556) 51 883997877) 52 958139571) 53 1322822218) 54 1537002063) 55 1747873779) 56 1955562222) 57 2024104815) 58 2227730452) 59 2361852424) 60 2428436474) 61 2756734187) 62 3204031479) 63 3329325298); (R (AV.agg [(Seg.ints IntKind.u32 64 y0)]) [(0, Blk.own 59 [(Seg.ints IntKind.u32 64 y0)])]))))))))))))))))))))))))))))))))))))))))))))))))))))))))))))))))))) := by kernel_rfl
def hblock.l3 (R : AV → Mem → Prop) (x17 : List Int) (fuel : Nat) (x28 : Int) (x29 : List Int) : Prop := rN Tryd.prog gamH1 [] Tryd.f31 R fuel [kc Tryd.f31 [1,1,1,1,1,1,0,1,0,0],ki Tryd.f31 [1,1,1,1,1,1,0,1,0,0],.inBlock 6,kc Tryd.f31 [1,1,1,1,1,1,1]] (Uu::Uu::AV.one (AC.ptr 2 0 0)::Uu::AV.one (AC.ptr 4 0 0)::(us 7 (AV.one (AC.ptr 12 0 0)::(us 171 (Ii x28::(us 11 [Zz])))))) [(2,Blk.own 46 [Seg.ints IntKind.u32 8 x29]),(4,Blk.own 46 [Seg.ints IntKind.u32 8 (lzeros 8)]),(12,Blk.own 46 [Seg.ints IntKind.u32 8 x17]),(1000000,Blk.view [Seg.ints IntKind.u32 64 rootsL])]
def hblock.l2 (R : AV → Mem → Prop) (s x9 : List Int) (fuel : Nat) (x16 : Int) (x17 : List Int) : Prop := rN Tryd.prog gamH1 [] Tryd.f31 R fuel [kc Tryd.f31 [1,1,1,1,1,0,1,0,0],ki Tryd.f31 [1,1,1,1,1,0,1,0,0],.inBlock 4,kc Tryd.f31 [1,1,1,1,1,1]] (Uu::Uu::AV.one (AC.ptr 2 0 0)::Uu::AV.one (AC.ptr 4 0 0)::AV.one (AC.ptr 5 0 0)::(us 6 (AV.one (AC.ptr 12 0 0)::(us 11 (Zz::(us 79 (Ii x16::(us 79 (zs 13 []))))))))) [(2,Blk.own 46 [Seg.ints IntKind.u32 8 s]),(4,Blk.own 46 [Seg.ints IntKind.u32 8 (lzeros 8)]),(5,Blk.own 59 [Seg.ints IntKind.u32 64 x9]),(12,Blk.own 46 [Seg.ints IntKind.u32 8 x17]),(1000000,Blk.view [Seg.ints IntKind.u32 64 rootsL])]
def hblock.l1 (R : AV → Mem → Prop) (s : List Int) (fuel : Nat) (x8 : Int) (x9 : List Int) : Prop := rN Tryd.prog gamH1 [] Tryd.f31 R fuel [kc Tryd.f31 [1,1,1,0,1,0,0],ki Tryd.f31 [1,1,1,0,1,0,0],.inBlock 2,kc Tryd.f31 [1,1,1,1]] (Uu::Uu::AV.one (AC.ptr 2 0 0)::Uu::AV.one (AC.ptr 4 0 0)::AV.one (AC.ptr 5 0 0)::Uu::Ii x8::(us 4 (zs 13 (us 78 (zs 94 []))))) [(2,Blk.own 46 [Seg.ints IntKind.u32 8 s]),(4,Blk.own 46 [Seg.ints IntKind.u32 8 (lzeros 8)]),(5,Blk.own 59 [Seg.ints IntKind.u32 64 x9]),(1000000,Blk.view [Seg.ints IntKind.u32 64 rootsL])]
def hblock.l0 (R : AV → Mem → Prop) (s b : List Int) (fuel : Nat) (x0 : Int) (x1 : List Int) : Prop := rN Tryd.prog gamH1 [] Tryd.f31 R fuel [kc Tryd.f31 [1,1,0,1,0,0],ki Tryd.f31 [1,1,0,1,0,0],.inBlock 0,kc Tryd.f31 [1,1,1]] (Uu::Uu::AV.one (AC.ptr 2 0 0)::AV.one (AC.ptr 3 0 0)::AV.one (AC.ptr 4 0 0)::AV.one (AC.ptr 5 0 0)::Uu::(zs 18 (Ii x0::(us 34 (zs 137 []))))) [(2,Blk.own 46 [Seg.ints IntKind.u32 8 s]),(3,Blk.own 47 [Seg.ints IntKind.u8 64 b]),(4,Blk.own 46 [Seg.ints IntKind.u32 8 (lzeros 8)]),(5,Blk.own 59 [Seg.ints IntKind.u32 64 x1]),(1000000,Blk.view [Seg.ints IntKind.u32 64 rootsL])]
theorem hblock.l3_succ (R : AV → Mem → Prop) (x17 : List Int) (fuel : Nat) (x28 : Int) (x29 : List Int) : hblock.l3 R x17 (fuel + 1) x28 x29 = (((((ilt x28 8) = true) → ((InB x28 8) ∧ ((Low (nadd 0 (nat x28)) 8) ∧ ((InB x28 8) ∧ ((Low (nadd 0 (nat x28)) 8) ∧ ((InB x28 8) ∧ ((Low (nadd 0 (nat x28)) 8) ∧ (let y30 : List Int := (lset x29 (nadd 0 (nat x28)) (add IntKind.u32 (lget x29 (nadd 0 (nat x28))) (lget x17 (nadd 0 (nat x28))))); (hblock.l3 R x17 fuel (add IntKind.i64 x28 1) y30))))))))) ∧ (((ilt x28 8) = false) → (R (AV.agg [Seg.ints IntKind.u32 8 x29]) [(2,Blk.own 46 [Seg.ints IntKind.u32 8 x29]),(4,Blk.own 46 [Seg.ints IntKind.u32 8 x29]),(12,Blk.own 46 [Seg.ints IntKind.u32 8 x17]),(1000000,Blk.view [Seg.ints IntKind.u32 64 rootsL])])))) := by kernel_rfl
theorem hblock.l2_succ (R : AV → Mem → Prop) (s x9 : List Int) (fuel : Nat) (x16 : Int) (x17 : List Int) : hblock.l2 R s x9 (fuel + 1) x16 x17 = (((((ilt x16 64) = true) → ((InB 0 8) ∧ ((Low 0 8) ∧ ((InB 1 8) ∧ ((Low 1 8) ∧ ((InB 2 8) ∧ ((Low 2 8) ∧ ((InB 4 8) ∧ ((Low 4 8) ∧ ((InB 5 8) ∧ ((Low 5 8) ∧ ((InB 6 8) ∧ ((Low 6 8) ∧ (((Int.NonNeg 25) ∧ (Int.NonNeg 5)) ∧ (((Int.NonNeg 20) ∧ (Int.NonNeg 10)) ∧ (((Int.NonNeg 6) ∧ (Int.NonNeg 24)) ∧ (let y18 : Int := (bxor IntKind.u32 (bxor IntKind.u32 (rot (lget x17 4) 6) (rot (lget x17 4) 11)) (rot (lget x17 4) 25)); (((Int.NonNeg 29) ∧ (Int.NonNeg 1)) ∧ (((Int.NonNeg 18) ∧ (Int.NonNeg 12)) ∧ (((Int.NonNeg 9) ∧ (Int.NonNeg 21)) ∧ (let y19 : Int := (bxor IntKind.u32 (bxor IntKind.u32 (rot (lget x17 0) 2) (rot (lget x17 0) 13)) (rot (lget x17 0) 22)); ((InB 7 8) ∧ ((Low 7 8) ∧ ((InB x16 64) ∧ ((Low (nadd 0 (nat x16)) 64) ∧ ((InB x16 64) ∧ ((Low (nadd 0 (nat x16)) 64) ∧ (let y20 : Int := (add IntKind.u32 (add IntKind.u32 (add IntKind.u32 (add IntKind.u32 (lget x17 7) y18) (bxor IntKind.u32 (band IntKind.u32 (lget x17 4) (lget x17 5)) (band IntKind.u32 (bxor IntKind.u32 4294967295 (lget x17 4)) (lget x17 6)))) (lget rootsL (nadd 0 (nat x16)))) (lget x9 (nadd 0 (nat x16)))); (let y21 : Int := (bxor IntKind.u32 (band IntKind.u32 (lget x17 4) (lget x17 5)) (band IntKind.u32 (bxor IntKind.u32 4294967295 (lget x17 4)) (lget x17 6))); (let y22 : Int := (add IntKind.u32 (add IntKind.u32 (lget x17 7) y18) (bxor IntKind.u32 (band IntKind.u32 (lget x17 4) (lget x17 5)) (band IntKind.u32 (bxor IntKind.u32 4294967295 (lget x17 4)) (lget x17 6)))); (let y23 : Int := (add IntKind.u32 (add IntKind.u32 (add IntKind.u32 (lget x17 7) y18) (bxor IntKind.u32 (band IntKind.u32 (lget x17 4) (lget x17 5)) (band IntKind.u32 (bxor IntKind.u32 4294967295 (lget x17 4)) (lget x17 6)))) (lget rootsL (nadd 0 (nat x16)))); (let y24 : Int := (add IntKind.u32 y19 (bxor IntKind.u32 (bxor IntKind.u32 (band IntKind.u32 (lget x17 0) (lget x17 1)) (band IntKind.u32 (lget x17 0) (lget x17 2))) (band IntKind.u32 (lget x17 1) (lget x17 2)))); (let y25 : Int := (bxor IntKind.u32 (band IntKind.u32 (lget x17 0) (lget x17 1)) (band IntKind.u32 (lget x17 0) (lget x17 2))); (let y26 : Int := (bxor IntKind.u32 (bxor IntKind.u32 (band IntKind.u32 (lget x17 0) (lget x17 1)) (band IntKind.u32 (lget x17 0) (lget x17 2))) (band IntKind.u32 (lget x17 1) (lget x17 2))); ((InB 3 8) ∧ ((Low 3 8) ∧ ((Low 0 8) ∧ ((Low 1 8) ∧ ((Low 2 8) ∧ ((Low 3 8) ∧ ((Low 4 8) ∧ ((Low 5 8) ∧ ((Low 6 8) ∧ ((Low 7 8) ∧ (let y27 : List Int := (lset (lset (lset (lset (lset (lset (lset (lset (lzeros 8) 0 (add IntKind.u32 y20 y24)) 1 (lget x17 0)) 2 (lget x17 1)) 3 (lget x17 2)) 4 (add IntKind.u32 (lget x17 3) y20)) 5 (lget x17 4)) 6 (lget x17 5)) 7 (lget x17 6)); (hblock.l2 R s x9 fuel (add IntKind.i64 x16 1) y27)))))))))))))))))))))))))))))))))))))))))))))) ∧ (((ilt x16 64) = false) → (hblock.l3 R x17 fuel 0 s)))) := by kernel_rfl
theorem hblock.l1_succ (R : AV → Mem → Prop) (s : List Int) (fuel : Nat) (x8 : Int) (x9 : List Int) : hblock.l1 R s (fuel + 1) x8 x9 = (((((ilt x8 64) = true) → ((InB (sub IntKind.i64 x8 15) 64) ∧ ((Low (nadd 0 (nat (sub IntKind.i64 x8 15))) 64) ∧ ((InB (sub IntKind.i64 x8 2) 64) ∧ ((Low (nadd 0 (nat (sub IntKind.i64 x8 2))) 64) ∧ (((Int.NonNeg 24) ∧ (Int.NonNeg 6)) ∧ (((Int.NonNeg 13) ∧ (Int.NonNeg 17)) ∧ ((NonNeg 3) ∧ (let y10 : Int := (bxor IntKind.u32 (bxor IntKind.u32 (rot (lget x9 (nadd 0 (nat (sub IntKind.i64 x8 15)))) 7) (rot (lget x9 (nadd 0 (nat (sub IntKind.i64 x8 15)))) 18)) (shr IntKind.u32 (lget x9 (nadd 0 (nat (sub IntKind.i64 x8 15)))) 3)); (let y11 : Int := (bxor IntKind.u32 (rot (lget x9 (nadd 0 (nat (sub IntKind.i64 x8 15)))) 7) (rot (lget x9 (nadd 0 (nat (sub IntKind.i64 x8 15)))) 18)); (((Int.NonNeg 14) ∧ (Int.NonNeg 16)) ∧ (((Int.NonNeg 12) ∧ (Int.NonNeg 18)) ∧ ((NonNeg 10) ∧ (let y12 : Int := (bxor IntKind.u32 (bxor IntKind.u32 (rot (lget x9 (nadd 0 (nat (sub IntKind.i64 x8 2)))) 17) (rot (lget x9 (nadd 0 (nat (sub IntKind.i64 x8 2)))) 19)) (shr IntKind.u32 (lget x9 (nadd 0 (nat (sub IntKind.i64 x8 2)))) 10)); (let y13 : Int := (bxor IntKind.u32 (rot (lget x9 (nadd 0 (nat (sub IntKind.i64 x8 2)))) 17) (rot (lget x9 (nadd 0 (nat (sub IntKind.i64 x8 2)))) 19)); ((InB (sub IntKind.i64 x8 7) 64) ∧ ((Low (nadd 0 (nat (sub IntKind.i64 x8 7))) 64) ∧ ((InB (sub IntKind.i64 x8 16) 64) ∧ ((Low (nadd 0 (nat (sub IntKind.i64 x8 16))) 64) ∧ ((InB x8 64) ∧ ((Low (nadd 0 (nat x8)) 64) ∧ (let y14 : Int := (add IntKind.u32 (add IntKind.u32 (add IntKind.u32 y12 (lget x9 (nadd 0 (nat (sub IntKind.i64 x8 7))))) y10) (lget x9 (nadd 0 (nat (sub IntKind.i64 x8 16))))); (let y15 : List Int := (lset x9 (nadd 0 (nat x8)) (add IntKind.u32 (add IntKind.u32 (add IntKind.u32 y12 (lget x9 (nadd 0 (nat (sub IntKind.i64 x8 7))))) y10) (lget x9 (nadd 0 (nat (sub IntKind.i64 x8 16)))))); (hblock.l1 R s fuel (add IntKind.i64 x8 1) y15)))))))))))))))))))))))) ∧ (((ilt x8 64) = false) → (hblock.l2 R s x9 fuel 0 s)))) := by kernel_rfl
theorem hblock.l0_succ (R : AV → Mem → Prop) (s b : List Int) (fuel : Nat) (x0 : Int) (x1 : List Int) : hblock.l0 R s b (fuel + 1) x0 x1 = (((((ilt x0 16) = true) → ((InB (mul IntKind.i64 4 x0) 64) ∧ ((Low (nadd 0 (nat (mul IntKind.i64 4 x0))) 64) ∧ ((NonNeg 24) ∧ ((InB (add IntKind.i64 (mul IntKind.i64 4 x0) 1) 64) ∧ ((Low (nadd 0 (nat (add IntKind.i64 (mul IntKind.i64 4 x0) 1))) 64) ∧ ((NonNeg 16) ∧ ((InB (add IntKind.i64 (mul IntKind.i64 4 x0) 2) 64) ∧ ((Low (nadd 0 (nat (add IntKind.i64 (mul IntKind.i64 4 x0) 2))) 64) ∧ ((NonNeg 8) ∧ ((InB (add IntKind.i64 (mul IntKind.i64 4 x0) 3) 64) ∧ ((Low (nadd 0 (nat (add IntKind.i64 (mul IntKind.i64 4 x0) 3))) 64) ∧ ((InB x0 64) ∧ ((Low (nadd 0 (nat x0)) 64) ∧ (let y2 : Int := (shl IntKind.u32 (conv IntKind.u32 (lget b (nadd 0 (nat (add IntKind.i64 (mul IntKind.i64 4 x0) 1))))) 16); (let y3 : Int := (bor IntKind.u32 (shl IntKind.u32 (conv IntKind.u32 (lget b (nadd 0 (nat (mul IntKind.i64 4 x0))))) 24) (shl IntKind.u32 (conv IntKind.u32 (lget b (nadd 0 (nat (add IntKind.i64 (mul IntKind.i64 4 x0) 1))))) 16)); (let y4 : Int := (shl IntKind.u32 (conv IntKind.u32 (lget b (nadd 0 (nat (add IntKind.i64 (mul IntKind.i64 4 x0) 2))))) 8); (let y5 : Int := (bor IntKind.u32 (bor IntKind.u32 (shl IntKind.u32 (conv IntKind.u32 (lget b (nadd 0 (nat (mul IntKind.i64 4 x0))))) 24) (shl IntKind.u32 (conv IntKind.u32 (lget b (nadd 0 (nat (add IntKind.i64 (mul IntKind.i64 4 x0) 1))))) 16)) (shl IntKind.u32 (conv IntKind.u32 (lget b (nadd 0 (nat (add IntKind.i64 (mul IntKind.i64 4 x0) 2))))) 8)); (let y6 : Int := (bor IntKind.u32 (bor IntKind.u32 (bor IntKind.u32 (shl IntKind.u32 (conv IntKind.u32 (lget b (nadd 0 (nat (mul IntKind.i64 4 x0))))) 24) (shl IntKind.u32 (conv IntKind.u32 (lget b (nadd 0 (nat (add IntKind.i64 (mul IntKind.i64 4 x0) 1))))) 16)) (shl IntKind.u32 (conv IntKind.u32 (lget b (nadd 0 (nat (add IntKind.i64 (mul IntKind.i64 4 x0) 2))))) 8)) (conv IntKind.u32 (lget b (nadd 0 (nat (add IntKind.i64 (mul IntKind.i64 4 x0) 3)))))); (let y7 : List Int := (lset x1 (nadd 0 (nat x0)) (bor IntKind.u32 (bor IntKind.u32 (bor IntKind.u32 (shl IntKind.u32 (conv IntKind.u32 (lget b (nadd 0 (nat (mul IntKind.i64 4 x0))))) 24) (shl IntKind.u32 (conv IntKind.u32 (lget b (nadd 0 (nat (add IntKind.i64 (mul IntKind.i64 4 x0) 1))))) 16)) (shl IntKind.u32 (conv IntKind.u32 (lget b (nadd 0 (nat (add IntKind.i64 (mul IntKind.i64 4 x0) 2))))) 8)) (conv IntKind.u32 (lget b (nadd 0 (nat (add IntKind.i64 (mul IntKind.i64 4 x0) 3))))))); (hblock.l0 R s b fuel (add IntKind.i64 x0 1) y7))))))))))))))))))))) ∧ (((ilt x0 16) = false) → (hblock.l1 R s fuel 16 x1)))) := by kernel_rfl
theorem hblock_vc (R : AV → Mem → Prop) (fuel : Nat) (s : List Int) (b : List Int) : callsx Tryd.prog gamH1 [] Tryd.f31 (fuel + 1) [.agg [.ints .u32 8 s], .agg [.ints .u8 64 b]] [(1000000 + 0, .view [.ints .u32 64 Go.Hsh.rootsL])] R = ((hblock.l0 R s b fuel 0 (lzeros 64))) := by kernel_rfl
def hworked.l1 (R : AV → Mem → Prop) (at_ x0 : Int) (s k m : List Int) (fuel : Nat) (x2 : Int) (x3 : List Int) : Prop := rN Tryd.prog gamH1 [] Tryd.f34 R fuel [kc Tryd.f34 [1,1,0,1,0,0,1,0,0,0,1,0,0,1,0,0],ki Tryd.f34 [1,1,0,1,0,0,1,0,0,0,1,0,0,1,0,0],.inBlock 2,kc Tryd.f34 [1,1,0,1,0,0,1,0,0,0,1,0,1],kc Tryd.f34 [1,1,0,1,0,0,1,0,0,1],.inBlock 1,kc Tryd.f34 [1,1,0,1,0,0,1,1],ki Tryd.f34 [1,1,0,1,0,0],.inBlock 0,kc Tryd.f34 [1,1,1]] (Uu::Uu::Vv 200002::Ii at_::AV.one (AC.ptr 4 0 0)::AV.one (AC.ptr 5 0 0)::Uu::Uu::AV.one (AC.ptr 8 0 0)::AV.one (AC.ptr 9 0 0)::Ii x0::Ii x2::(us 4 (zs 7 (Ii x0::Ll true::Uu::Uu::Ii x0::Ll true::(us 60 (zs 95 [])))))) [(4,Blk.own 45 [Seg.ints IntKind.u32 8 s]),(5,Blk.own 59 [Seg.ints IntKind.u32 64 k]),(8,Blk.own 45 [Seg.ints IntKind.u32 8 (lzeros 8)]),(9,Blk.own 59 [Seg.ints IntKind.u32 64 x3]),(200002,Blk.rview [Col.ints IntKind.u8 m])]
def hworked.l3 (R : AV → Mem → Prop) (x13 m : List Int) (fuel : Nat) (x25 : Int) (x26 : List Int) : Prop := rN Tryd.prog gamH1 [] Tryd.f34 R fuel [kc Tryd.f34 [1,1,1,1,1,0,1,0,0],ki Tryd.f34 [1,1,1,1,1,0,1,0,0],.inBlock 6,kc Tryd.f34 [1,1,1,1,1,1]] (us 4 (AV.one (AC.ptr 4 0 0)::Uu::Uu::Uu::AV.one (AC.ptr 8 0 0)::(us 7 (AV.one (AC.ptr 16 0 0)::(us 5 (Ii x25::(us 160 [Zz]))))))) [(4,Blk.own 45 [Seg.ints IntKind.u32 8 x26]),(8,Blk.own 45 [Seg.ints IntKind.u32 8 (lzeros 8)]),(16,Blk.own 45 [Seg.ints IntKind.u32 8 x13]),(200002,Blk.rview [Col.ints IntKind.u8 m])]
def hworked.l2 (R : AV → Mem → Prop) (s k x1 m : List Int) (fuel : Nat) (x12 : Int) (x13 : List Int) : Prop := rN Tryd.prog gamH1 [] Tryd.f34 R fuel [kc Tryd.f34 [1,1,1,1,0,1,0,0],ki Tryd.f34 [1,1,1,1,0,1,0,0],.inBlock 4,kc Tryd.f34 [1,1,1,1,1]] (us 4 (AV.one (AC.ptr 4 0 0)::AV.one (AC.ptr 5 0 0)::Uu::Uu::AV.one (AC.ptr 8 0 0)::AV.one (AC.ptr 9 0 0)::(us 6 (AV.one (AC.ptr 16 0 0)::Ii x12::(us 4 (Zz::(us 147 (zs 14 [])))))))) [(4,Blk.own 45 [Seg.ints IntKind.u32 8 s]),(5,Blk.own 59 [Seg.ints IntKind.u32 64 k]),(8,Blk.own 45 [Seg.ints IntKind.u32 8 (lzeros 8)]),(9,Blk.own 59 [Seg.ints IntKind.u32 64 x1]),(16,Blk.own 45 [Seg.ints IntKind.u32 8 x13]),(200002,Blk.rview [Col.ints IntKind.u8 m])]
def hworked.l0 (R : AV → Mem → Prop) (at_ : Int) (s k m : List Int) (fuel : Nat) (x0 : Int) (x1 : List Int) : Prop := rN Tryd.prog gamH1 [] Tryd.f34 R fuel [kc Tryd.f34 [1,1,0,1,0,0],ki Tryd.f34 [1,1,0,1,0,0],.inBlock 0,kc Tryd.f34 [1,1,1]] (Uu::Uu::Vv 200002::Ii at_::AV.one (AC.ptr 4 0 0)::AV.one (AC.ptr 5 0 0)::Uu::Uu::AV.one (AC.ptr 8 0 0)::AV.one (AC.ptr 9 0 0)::Ii x0::(us 5 (zs 7 (us 66 (zs 95 []))))) [(4,Blk.own 45 [Seg.ints IntKind.u32 8 s]),(5,Blk.own 59 [Seg.ints IntKind.u32 64 k]),(8,Blk.own 45 [Seg.ints IntKind.u32 8 (lzeros 8)]),(9,Blk.own 59 [Seg.ints IntKind.u32 64 x1]),(200002,Blk.rview [Col.ints IntKind.u8 m])]
theorem hworked.l1_succ (R : AV → Mem → Prop) (at_ x0 : Int) (s k m : List Int) (fuel : Nat) (x2 : Int) (x3 : List Int) : hworked.l1 R at_ x0 s k m (fuel + 1) x2 x3 = (((((ilt x2 4) = true) → ((InB x0 64) ∧ ((Low (nadd 0 (nat x0)) 64) ∧ ((NonNeg 8) ∧ ((InB (add IntKind.i64 (add IntKind.i64 at_ (mul IntKind.i64 4 x0)) x2) (llen m)) ∧ ((InB x0 64) ∧ ((Low (nadd 0 (nat x0)) 64) ∧ (let y4 : Int := (bor IntKind.u32 (shl IntKind.u32 (lget x3 (nadd 0 (nat x0))) 8) (conv IntKind.u32 (lget m (nat (add IntKind.i64 (add IntKind.i64 at_ (mul IntKind.i64 4 x0)) x2))))); (let y5 : List Int := (lset x3 (nadd 0 (nat x0)) (bor IntKind.u32 (shl IntKind.u32 (lget x3 (nadd 0 (nat x0))) 8) (conv IntKind.u32 (lget m (nat (add IntKind.i64 (add IntKind.i64 at_ (mul IntKind.i64 4 x0)) x2)))))); (hworked.l1 R at_ x0 s k m fuel (add IntKind.i64 x2 1) y5)))))))))) ∧ (((ilt x2 4) = false) → (hworked.l0 R at_ s k m fuel (add IntKind.i64 x0 1) x3)))) := by kernel_rfl
theorem hworked.l3_succ (R : AV → Mem → Prop) (x13 m : List Int) (fuel : Nat) (x25 : Int) (x26 : List Int) : hworked.l3 R x13 m (fuel + 1) x25 x26 = (((((ilt x25 8) = true) → ((InB x25 8) ∧ ((Low (nadd 0 (nat x25)) 8) ∧ ((InB x25 8) ∧ ((Low (nadd 0 (nat x25)) 8) ∧ ((InB x25 8) ∧ ((Low (nadd 0 (nat x25)) 8) ∧ (let y27 : List Int := (lset x26 (nadd 0 (nat x25)) (add IntKind.u32 (lget x26 (nadd 0 (nat x25))) (lget x13 (nadd 0 (nat x25))))); (hworked.l3 R x13 m fuel (add IntKind.i64 x25 1) y27))))))))) ∧ (((ilt x25 8) = false) → (R (AV.agg [Seg.ints IntKind.u32 8 x26]) [(4,Blk.own 45 [Seg.ints IntKind.u32 8 x26]),(8,Blk.own 45 [Seg.ints IntKind.u32 8 x26]),(16,Blk.own 45 [Seg.ints IntKind.u32 8 x13]),(200002,Blk.rview [Col.ints IntKind.u8 m])])))) := by kernel_rfl
theorem hworked.l2_succ (R : AV → Mem → Prop) (s k x1 m : List Int) (fuel : Nat) (x12 : Int) (x13 : List Int) : hworked.l2 R s k x1 m (fuel + 1) x12 x13 = (((((ilt x12 64) = true) → ((InB 0 8) ∧ ((Low 0 8) ∧ ((InB 4 8) ∧ ((Low 4 8) ∧ ((InB 7 8) ∧ ((Low 7 8) ∧ ((InB 5 8) ∧ ((Low 5 8) ∧ ((InB 6 8) ∧ ((Low 6 8) ∧ ((InB x12 64) ∧ ((Low (nadd 0 (nat x12)) 64) ∧ ((InB x12 64) ∧ ((Low (nadd 0 (nat x12)) 64) ∧ (((Int.NonNeg 5) ∧ (Int.NonNeg 25)) ∧ (((Int.NonNeg 10) ∧ (Int.NonNeg 20)) ∧ (((Int.NonNeg 24) ∧ (Int.NonNeg 6)) ∧ (let y14 : Int := (add IntKind.u32 (add IntKind.u32 (add IntKind.u32 (add IntKind.u32 (lget x13 7) (bxor IntKind.u32 (bxor IntKind.u32 (rot (lget x13 4) 6) (rot (lget x13 4) 11)) (rot (lget x13 4) 25))) (bxor IntKind.u32 (band IntKind.u32 (lget x13 4) (lget x13 5)) (band IntKind.u32 (bxor IntKind.u32 4294967295 (lget x13 4)) (lget x13 6)))) (lget k (nadd 0 (nat x12)))) (lget x1 (nadd 0 (nat x12)))); (let y15 : Int := (bxor IntKind.u32 (bxor IntKind.u32 (rot (lget x13 4) 6) (rot (lget x13 4) 11)) (rot (lget x13 4) 25)); (let y16 : Int := (add IntKind.u32 (lget x13 7) (bxor IntKind.u32 (bxor IntKind.u32 (rot (lget x13 4) 6) (rot (lget x13 4) 11)) (rot (lget x13 4) 25))); (let y17 : Int := (bxor IntKind.u32 (band IntKind.u32 (lget x13 4) (lget x13 5)) (band IntKind.u32 (bxor IntKind.u32 4294967295 (lget x13 4)) (lget x13 6))); (let y18 : Int := (add IntKind.u32 (add IntKind.u32 (lget x13 7) (bxor IntKind.u32 (bxor IntKind.u32 (rot (lget x13 4) 6) (rot (lget x13 4) 11)) (rot (lget x13 4) 25))) (bxor IntKind.u32 (band IntKind.u32 (lget x13 4) (lget x13 5)) (band IntKind.u32 (bxor IntKind.u32 4294967295 (lget x13 4)) (lget x13 6)))); (let y19 : Int := (add IntKind.u32 (add IntKind.u32 (add IntKind.u32 (lget x13 7) (bxor IntKind.u32 (bxor IntKind.u32 (rot (lget x13 4) 6) (rot (lget x13 4) 11)) (rot (lget x13 4) 25))) (bxor IntKind.u32 (band IntKind.u32 (lget x13 4) (lget x13 5)) (band IntKind.u32 (bxor IntKind.u32 4294967295 (lget x13 4)) (lget x13 6)))) (lget k (nadd 0 (nat x12)))); ((InB 1 8) ∧ ((Low 1 8) ∧ ((InB 2 8) ∧ ((Low 2 8) ∧ ((InB 1 8) ∧ ((Low 1 8) ∧ ((InB 2 8) ∧ ((Low 2 8) ∧ (((Int.NonNeg 1) ∧ (Int.NonNeg 29)) ∧ (((Int.NonNeg 12) ∧ (Int.NonNeg 18)) ∧ (((Int.NonNeg 21) ∧ (Int.NonNeg 9)) ∧ (let y20 : Int := (add IntKind.u32 (bxor IntKind.u32 (bxor IntKind.u32 (rot (lget x13 0) 2) (rot (lget x13 0) 13)) (rot (lget x13 0) 22)) (bxor IntKind.u32 (bxor IntKind.u32 (band IntKind.u32 (lget x13 0) (lget x13 1)) (band IntKind.u32 (lget x13 0) (lget x13 2))) (band IntKind.u32 (lget x13 1) (lget x13 2)))); (let y21 : Int := (bxor IntKind.u32 (bxor IntKind.u32 (rot (lget x13 0) 2) (rot (lget x13 0) 13)) (rot (lget x13 0) 22)); (let y22 : Int := (bxor IntKind.u32 (band IntKind.u32 (lget x13 0) (lget x13 1)) (band IntKind.u32 (lget x13 0) (lget x13 2))); (let y23 : Int := (bxor IntKind.u32 (bxor IntKind.u32 (band IntKind.u32 (lget x13 0) (lget x13 1)) (band IntKind.u32 (lget x13 0) (lget x13 2))) (band IntKind.u32 (lget x13 1) (lget x13 2))); ((InB 1 8) ∧ ((Low 1 8) ∧ ((InB 2 8) ∧ ((Low 2 8) ∧ ((InB 3 8) ∧ ((Low 3 8) ∧ ((InB 5 8) ∧ ((Low 5 8) ∧ ((InB 6 8) ∧ ((Low 6 8) ∧ ((Low 0 8) ∧ ((Low 1 8) ∧ ((Low 2 8) ∧ ((Low 3 8) ∧ ((Low 4 8) ∧ ((Low 5 8) ∧ ((Low 6 8) ∧ ((Low 7 8) ∧ (let y24 : List Int := (lset (lset (lset (lset (lset (lset (lset (lset (lzeros 8) 0 (add IntKind.u32 y14 y20)) 1 (lget x13 0)) 2 (lget x13 1)) 3 (lget x13 2)) 4 (add IntKind.u32 (lget x13 3) y14)) 5 (lget x13 4)) 6 (lget x13 5)) 7 (lget x13 6)); (hworked.l2 R s k x1 m fuel (add IntKind.i64 x12 1) y24))))))))))))))))))))))))))))))))))))))))))))))))))))))))))) ∧ (((ilt x12 64) = false) → (hworked.l3 R x13 m fuel 0 s)))) := by kernel_rfl
theorem hworked.l0_succ (R : AV → Mem → Prop) (at_ : Int) (s k m : List Int) (fuel : Nat) (x0 : Int) (x1 : List Int) : hworked.l0 R at_ s k m (fuel + 1) x0 x1 = (((((ilt x0 64) = true) → ((((ilt x0 16) = true) → (hworked.l1 R at_ x0 s k m fuel 0 x1)) ∧ (((ilt x0 16) = false) → ((InB (sub IntKind.i64 x0 15) 64) ∧ ((Low (nadd 0 (nat (sub IntKind.i64 x0 15))) 64) ∧ ((InB (sub IntKind.i64 x0 2) 64) ∧ ((Low (nadd 0 (nat (sub IntKind.i64 x0 2))) 64) ∧ (((Int.NonNeg 6) ∧ (Int.NonNeg 24)) ∧ (((Int.NonNeg 17) ∧ (Int.NonNeg 13)) ∧ ((NonNeg 3) ∧ (let y6 : Int := (bxor IntKind.u32 (bxor IntKind.u32 (rot (lget x1 (nadd 0 (nat (sub IntKind.i64 x0 15)))) 7) (rot (lget x1 (nadd 0 (nat (sub IntKind.i64 x0 15)))) 18)) (shr IntKind.u32 (lget x1 (nadd 0 (nat (sub IntKind.i64 x0 15)))) 3)); (let y7 : Int := (bxor IntKind.u32 (rot (lget x1 (nadd 0 (nat (sub IntKind.i64 x0 15)))) 7) (rot (lget x1 (nadd 0 (nat (sub IntKind.i64 x0 15)))) 18)); (((Int.NonNeg 16) ∧ (Int.NonNeg 14)) ∧ (((Int.NonNeg 18) ∧ (Int.NonNeg 12)) ∧ ((NonNeg 10) ∧ (let y8 : Int := (bxor IntKind.u32 (bxor IntKind.u32 (rot (lget x1 (nadd 0 (nat (sub IntKind.i64 x0 2)))) 17) (rot (lget x1 (nadd 0 (nat (sub IntKind.i64 x0 2)))) 19)) (shr IntKind.u32 (lget x1 (nadd 0 (nat (sub IntKind.i64 x0 2)))) 10)); (let y9 : Int := (bxor IntKind.u32 (rot (lget x1 (nadd 0 (nat (sub IntKind.i64 x0 2)))) 17) (rot (lget x1 (nadd 0 (nat (sub IntKind.i64 x0 2)))) 19)); ((InB (sub IntKind.i64 x0 7) 64) ∧ ((Low (nadd 0 (nat (sub IntKind.i64 x0 7))) 64) ∧ ((InB (sub IntKind.i64 x0 16) 64) ∧ ((Low (nadd 0 (nat (sub IntKind.i64 x0 16))) 64) ∧ ((InB x0 64) ∧ ((Low (nadd 0 (nat x0)) 64) ∧ (let y10 : Int := (add IntKind.u32 (add IntKind.u32 (add IntKind.u32 y8 (lget x1 (nadd 0 (nat (sub IntKind.i64 x0 7))))) y6) (lget x1 (nadd 0 (nat (sub IntKind.i64 x0 16))))); (let y11 : List Int := (lset x1 (nadd 0 (nat x0)) (add IntKind.u32 (add IntKind.u32 (add IntKind.u32 y8 (lget x1 (nadd 0 (nat (sub IntKind.i64 x0 7))))) y6) (lget x1 (nadd 0 (nat (sub IntKind.i64 x0 16)))))); (hworked.l0 R at_ s k m fuel (add IntKind.i64 x0 1) y11)))))))))))))))))))))))))) ∧ (((ilt x0 64) = false) → (hworked.l2 R s k x1 m fuel 0 s)))) := by kernel_rfl
theorem hworked_vc (R : AV → Mem → Prop) (fuel : Nat) (s : List Int) (k : List Int) (m : List Int) (at_ : Int) : callsx Tryd.prog gamH1 [] Tryd.f34 (fuel + 1) [.agg [.ints .u32 8 s], .agg [.ints .u32 64 k], .one (.vec 200002), .one (.int .i64 at_)] [(200002, .rview [.ints .u8 m])] R = ((hworked.l0 R at_ s k m fuel 0 (lzeros 64))) := by kernel_rfl
def hpadded.l1 (R : AV → Mem → Prop) (m : List Int) (fuel : Nat) (x1 : Int) (x2 : List Int) : Prop := rN Tryd.prog gam0 [⟨3,[.ints .u8],true,false⟩] Tryd.f33 R fuel [kc Tryd.f33 [1,1,1,1,1,1,0,1,0,0],ki Tryd.f33 [1,1,1,1,1,1,0,1,0,0],.inBlock 2,kc Tryd.f33 [1,1,1,1,1,1,1]] (Uu::Uu::Uu::Vv 100003::AV.one (AC.int IntKind.u64 (mul IntKind.u64 (conv IntKind.u64 (ofNat (llen m))) 8))::Ii x1::(us 34 [Zz])) [(100003,Blk.vec [Col.ints IntKind.u8 x2]),(200000,Blk.rview [Col.ints IntKind.u8 m])]
def hpadded.l0 (R : AV → Mem → Prop) (m : List Int) (fuel : Nat) (x0 : List Int) : Prop := rN Tryd.prog gam0 [⟨3,[.ints .u8],true,false⟩] Tryd.f33 R fuel [kc Tryd.f33 [1,1,1,1,0,0,0],ki Tryd.f33 [1,1,1,1,0,0,0],.inBlock 0,kc Tryd.f33 [1,1,1,1,1]] (Vv 200000::Uu::Uu::Vv 100003::Zz::Zz::(us 17 (zs 18 []))) [(100003,Blk.vec [Col.ints IntKind.u8 x0]),(200000,Blk.rview [Col.ints IntKind.u8 m])]
theorem hpadded.l1_succ (R : AV → Mem → Prop) (m : List Int) (fuel : Nat) (x1 : Int) (x2 : List Int) : hpadded.l1 R m (fuel + 1) x1 x2 = (((((ilt x1 8) = true) → ((NonNeg (sub IntKind.i64 56 (mul IntKind.i64 8 x1))) ∧ ((Room (nadd (llen x2) (llen [(conv IntKind.u8 (shr IntKind.u64 (mul IntKind.u64 (conv IntKind.u64 (ofNat (llen m))) 8) (sub IntKind.i64 56 (mul IntKind.i64 8 x1))))])) 1) ∧ (let y3 : Int := (shr IntKind.u64 (mul IntKind.u64 (conv IntKind.u64 (ofNat (llen m))) 8) (sub IntKind.i64 56 (mul IntKind.i64 8 x1))); (let y4 : Int := (conv IntKind.u8 (shr IntKind.u64 (mul IntKind.u64 (conv IntKind.u64 (ofNat (llen m))) 8) (sub IntKind.i64 56 (mul IntKind.i64 8 x1)))); (let y5 : List Int := [(conv IntKind.u8 (shr IntKind.u64 (mul IntKind.u64 (conv IntKind.u64 (ofNat (llen m))) 8) (sub IntKind.i64 56 (mul IntKind.i64 8 x1))))]; (let y6 : List Int := (lcat x2 [(conv IntKind.u8 (shr IntKind.u64 (mul IntKind.u64 (conv IntKind.u64 (ofNat (llen m))) 8) (sub IntKind.i64 56 (mul IntKind.i64 8 x1))))]); (hpadded.l1 R m fuel (add IntKind.i64 x1 1) y6)))))))) ∧ (((ilt x1 8) = false) → (R (Vv 100003) [(100003,Blk.vec [Col.ints IntKind.u8 x2]),(200000,Blk.rview [Col.ints IntKind.u8 m])])))) := by kernel_rfl
theorem hpadded.l0_succ (R : AV → Mem → Prop) (m : List Int) (fuel : Nat) (x0 : List Int) : hpadded.l0 R m (fuel + 1) x0 = (((NeZ 64) ∧ ((((ine (rem (ofNat (llen x0)) 64) 56) = true) → ((Room (nadd (llen x0) 1) 1) ∧ (hpadded.l0 R m fuel (lcat x0 [0])))) ∧ (((ine (rem (ofNat (llen x0)) 64) 56) = false) → (hpadded.l1 R m fuel 0 x0))))) := by kernel_rfl
theorem hpadded_vc (R : AV → Mem → Prop) (fuel : Nat) (m : List Int) : callsx Tryd.prog gam0 [⟨3, [.ints .u8], true, false⟩] Tryd.f33 (fuel + 1) [.one (.vec 200000)] [(200000, .rview [.ints .u8 m])] R = (((Mk 0 (add IntKind.i64 (ofNat (llen m)) 72) 1) ∧ ((Room (nadd 0 (llen m)) 1) ∧ ((Room (nadd (llen (lcat (lzeros 0) m)) 1) 1) ∧ (hpadded.l0 R m fuel (lcat (lcat (lzeros 0) m) [128])))))) := by kernel_rfl
set_option maxRecDepth 20000
theorem rot_eq : ∀ k : Int, -32 < k → k < 0 → band .u64 (conv .u64 k) 31 = 32 - -k ∧ sub .u64 32 (32 - -k) = -k := by
 intro k h1 h2
 have : k = -1 ∨ k = -2 ∨ k = -3 ∨ k = -4 ∨ k = -5 ∨ k = -6 ∨ k = -7 ∨ k = -8 ∨ k = -9 ∨ k = -10 ∨ k = -11 ∨ k = -12 ∨ k = -13 ∨ k = -14 ∨ k = -15 ∨ k = -16 ∨ k = -17 ∨ k = -18 ∨ k = -19 ∨ k = -20 ∨ k = -21 ∨ k = -22 ∨ k = -23 ∨ k = -24 ∨ k = -25 ∨ k = -26 ∨ k = -27 ∨ k = -28 ∨ k = -29 ∨ k = -30 ∨ k = -31 := by omega
 rcases this with rfl | rfl | rfl | rfl | rfl | rfl | rfl | rfl | rfl | rfl | rfl | rfl | rfl | rfl | rfl | rfl | rfl | rfl | rfl | rfl | rfl | rfl | rfl | rfl | rfl | rfl | rfl | rfl | rfl | rfl | rfl <;> decide +kernel
theorem good_rot : Sx.Good Tryd.prog 35 rotS := by
 refine Sx.Good.pure (D := []) mixed (good0 _) Tryd.func35 (by kernel_rfl) rfl fun d args σ K h => ?_
 simp only [rotS] at h
 split at h <;> try exact h.elim
 rename_i x k
 obtain ⟨⟨h1, h2⟩, hK⟩ := h
 refine ⟨by simp [plain_int], _, plain_int _ _, hK, 0 + 1, ?_⟩
 rw [hrot_vc, (rot_eq k h1 h2).1, (rot_eq k h1 h2).2]
 simp only [NonNeg_iff]
 exact ⟨by omega, by omega, rfl⟩
theorem bor_comm32 (a b : Int) : bor .u32 a b = bor .u32 b a := by
 unfold bor bits; simp only []; rw [BitVec.or_comm]
theorem sub32 {k : Int} (h1 : 0 < k) (h2 : k < 32) : sub .i64 32 k = 32 - k := by
 show IntKind.i64.wrap _ = _
 rw [IntKind.wrap_i64]; omega
theorem good_hturned : Sx.Good Tryd.prog 36 hturnedS := by
 refine Sx.Good.pure (D := []) mixed (good0 _) Tryd.func36 (by kernel_rfl) rfl fun d args σ K h => ?_
 simp only [hturnedS] at h
 split at h <;> try exact h.elim
 rename_i x k
 obtain ⟨⟨h1, h2⟩, hK⟩ := h
 refine ⟨by simp [plain_int], _, plain_int _ _, hK, 0 + 1, ?_⟩
 rw [hturned_vc, sub32 h1 h2, bor_comm32]
 simp only [NonNeg_iff]
 exact ⟨by omega, by omega, rfl⟩
theorem good_first : Sx.Good Tryd.prog 30 firstS := by
 refine Sx.Good.pure (D := []) mixed (good0 _) Tryd.func30 (by kernel_rfl) rfl fun d args σ K h => ?_
 simp only [firstS] at h
 split at h <;> try exact h.elim
 refine ⟨by simp, _, plain_ints _ _ _, h, 0 + 1, ?_⟩
 rw [hfirst_vc]
 simp only [Low_iff]
 exact ⟨by omega, by omega, by omega, by omega, by omega, by omega, by omega, by omega, rfl⟩
theorem gamH1_good : GoodG Tryd.prog gamH1 :=
 ((good0 _).ext good_rot ⟨_, Tryd.func35, by decide, by kernel_rfl⟩).ext good_hturned ⟨_, Tryd.func36, by decide, by kernel_rfl⟩
theorem mul4 {i : Nat} (h : i < 64) : mul .i64 4 (i : Int) = ((4 * i : Nat) : Int) := by
 have := mulN_i64 (a := 4) (b := i) (by omega)
 exact this
theorem hblock_l3 {R : AV → Mem → Prop} {v s : List Int} (hs : s.length = 8) (hR : ∀ σ, R (.agg [.ints .u32 8 (tab 8 fun i => add .u32 (lget s i) (lget v i))]) σ) : ∃ f, hblock.l3 R v f 0 s := by
 have key := loop_ex (fun f i x => hblock.l3 R v f i x) 8 (fun i => upto 8 i (fun j => add .u32 (lget s j) (lget v j)) (lget s))
  (fun g i hi h => ⟨g + 1, by
   rw [hblock.l3_succ]
   refine ⟨fun _ => ?_, fun q => ?_⟩
   ·simp only [InB_iff, Low_iff, nat_cast, nadd_def, Nat.zero_add]
    refine ⟨by omega, hi, by omega, hi, by omega, hi, ?_⟩
    rw [add1_i64 (by omega), upto_hi (Nat.le_refl _) hi, upto_lset rfl]
    exact h
   ·rw [ilt_false] at q; omega⟩)
  ⟨1, by
   rw [hblock.l3_succ]
   refine ⟨fun q => ?_, fun _ => ?_⟩
   ·rw [ilt_true] at q; omega
   ·rw [upto_done]; exact hR _⟩
 obtain ⟨f, hf⟩ := key 0 (by omega)
 rw [upto_zero, ← eq_tab hs] at hf
 exact ⟨f, hf⟩
theorem hblock_l2 {R : AV → Mem → Prop} {b s : List Int} (hs : s.length = 8) (hR : ∀ σ, R (.agg [.ints .u32 8 (blk s b)]) σ) : ∃ f, hblock.l2 R s (tab 64 (ws b)) f 0 s := by
 refine loop_ex (fun f i x => hblock.l2 R s (tab 64 (ws b)) f i x) 64 (fun i => rds b s i)
  (fun g i hi h => ⟨g + 1, by
   rw [hblock.l2_succ]
   refine ⟨fun _ => ?_, fun q => ?_⟩
   ·simp only [InB_iff, Low_iff, nat_cast, nadd_def, Nat.zero_add, true_and, and_true]
    rw [add1_i64 (by omega), tab_lget _ hi]
    have e8 : ∀ a b c d e f g h : Int, lset (lset (lset (lset (lset (lset (lset (lset (lzeros 8) 0 a) 1 b) 2 c) 3 d) 4 e) 5 f) 6 g) 7 h = [a, b, c, d, e, f, g, h] := fun _ _ _ _ _ _ _ _ => rfl
    rw [e8]
    have hl : hblock.l2 R s (tab 64 (ws b)) g ((i + 1 : Nat) : Int) (rd (lget rootsL i) (ws b i) (rds b s i)) := h
    repeat (refine ⟨by first | omega | (refine ⟨?_, ?_⟩ <;> first | omega | exact Int.NonNeg.mk _), ?_⟩)
    exact hl
   ·rw [ilt_false] at q; omega⟩) ?_ 0 (by omega)
 obtain ⟨f, hf⟩ := hblock_l3 (R := R) (v := rds b s 64) hs hR
 exact ⟨f + 1, by
   rw [hblock.l2_succ]
   refine ⟨fun q => ?_, fun _ => ?_⟩
   ·rw [ilt_true] at q; omega
   ·exact hf⟩
theorem hblock_l1 {R : AV → Mem → Prop} {b s : List Int} (hs : s.length = 8) (hR : ∀ σ, R (.agg [.ints .u32 8 (blk s b)]) σ) : ∃ f, hblock.l1 R s f 16 (upto 64 16 (ws b) (fun _ => 0)) := by
 refine loop_exfrom (fun f i x => hblock.l1 R s f i x) 16 64 (fun i => upto 64 i (ws b) (fun _ => 0))
  (fun g i h16 hi h => ⟨g + 1, by
   rw [hblock.l1_succ]
   refine ⟨fun _ => ?_, fun q => ?_⟩
   ·have e15 : sub .i64 (i : Int) 15 = ((i - 15 : Nat) : Int) := subN_i64 (a := i) (b := 15) (by omega) (by omega)
    have e2 : sub .i64 (i : Int) 2 = ((i - 2 : Nat) : Int) := subN_i64 (a := i) (b := 2) (by omega) (by omega)
    have e7 : sub .i64 (i : Int) 7 = ((i - 7 : Nat) : Int) := subN_i64 (a := i) (b := 7) (by omega) (by omega)
    have e16 : sub .i64 (i : Int) 16 = ((i - 16 : Nat) : Int) := subN_i64 (a := i) (b := 16) (by omega) (by omega)
    simp only [e15, e2, e7, e16, InB_iff, Low_iff, NonNeg_iff, nat_cast, nadd_def, Nat.zero_add]
    rw [upto_lo (by omega) (by omega), upto_lo (by omega) (by omega), upto_lo (by omega) (by omega), upto_lo (by omega) (by omega), add1_i64 (by omega)]
    have hl := h
    rw [← upto_lset (ws_hi b h16).symm] at hl
    repeat (refine ⟨by first | omega | (refine ⟨?_, ?_⟩ <;> first | omega | exact Int.NonNeg.mk _), ?_⟩)
    exact hl
   ·rw [ilt_false] at q; omega⟩) ?_ 16 (by omega) (by omega)
 obtain ⟨f, hf⟩ := hblock_l2 (R := R) (b := b) hs hR
 exact ⟨f + 1, by
   rw [hblock.l1_succ]
   refine ⟨fun q => ?_, fun _ => ?_⟩
   ·rw [ilt_true] at q; omega
   ·rw [upto_done]; exact hf⟩
theorem hblock_l0 {R : AV → Mem → Prop} {b s : List Int} (hs : s.length = 8) (hR : ∀ σ, R (.agg [.ints .u32 8 (blk s b)]) σ) : ∃ f, hblock.l0 R s b f 0 (lzeros 64) := by
 have key := loop_ex (fun f i x => hblock.l0 R s b f i x) 16 (fun i => upto 64 i (ws b) (fun _ => 0))
  (fun g i hi h => ⟨g + 1, by
   rw [hblock.l0_succ]
   refine ⟨fun _ => ?_, fun q => ?_⟩
   ·have e0 : mul .i64 4 (i : Int) = ((4 * i : Nat) : Int) := mul4 (by omega)
    have e1 : add .i64 ((4 * i : Nat) : Int) 1 = ((4 * i + 1 : Nat) : Int) := addN_i64 (b := 1) (by omega)
    have e2 : add .i64 ((4 * i : Nat) : Int) 2 = ((4 * i + 2 : Nat) : Int) := addN_i64 (b := 2) (by omega)
    have e3 : add .i64 ((4 * i : Nat) : Int) 3 = ((4 * i + 3 : Nat) : Int) := addN_i64 (b := 3) (by omega)
    simp only [e0, e1, e2, e3, InB_iff, Low_iff, NonNeg_iff, nat_cast, nadd_def, Nat.zero_add]
    rw [add1_i64 (by omega)]
    have hl := h
    rw [← upto_lset (ws_lo b hi).symm] at hl
    repeat (refine ⟨by first | omega | (refine ⟨?_, ?_⟩ <;> first | omega | exact Int.NonNeg.mk _), ?_⟩)
    exact hl
   ·rw [ilt_false] at q; omega⟩)
  (by
   obtain ⟨f, hf⟩ := hblock_l1 (R := R) (b := b) hs hR
   exact ⟨f + 1, by
    rw [hblock.l0_succ]
    refine ⟨fun q => ?_, fun _ => ?_⟩
    ·rw [ilt_true] at q; omega
    ·exact hf⟩)
 obtain ⟨f, hf⟩ := key 0 (by omega)
 rw [upto_zero, ← lzeros_tab] at hf
 exact ⟨f, hf⟩
theorem good_block : Sx.Good Tryd.prog 31 blockS := by
 refine Sx.Good.reads (D := []) mixed gamH1_good Tryd.func31 (by kernel_rfl) rfl fun d args σ K h => ?_
 simp only [blockS] at h
 split at h <;> try exact h.elim
 rename_i s b
 obtain ⟨⟨hr, ⟨hs⟩⟩, hK⟩ := h
 unfold hasRoots at hr
 split at hr <;> try exact hr.elim
 rename_i l hg
 subst hr
 refine ⟨_, _, .glob hg (by intro m; rfl) (.plain (plain_ints _ _ _) (.plain (plain_ints _ _ _) (.nil _))), by simp, ?_⟩
 obtain ⟨f, hf⟩ := hblock_l0 (R := Res d blockS.news σ K) (b := b) hs (fun σ' => res_arr rfl hK)
 exact ⟨f + 1, by
  have e := hblock_vc (Res d blockS.news σ K) f s b
  exact e.mpr hf⟩
theorem good_thirds : Sx.Good Tryd.prog 32 thirdsS := by
 refine Sx.Good.pure (D := []) mixed (good0 _) Tryd.func32 (by kernel_rfl) rfl fun d args σ K h => ?_
 simp only [thirdsS] at h
 split at h <;> try exact h.elim
 refine ⟨by simp, _, plain_ints _ _ _, h, 0 + 1, ?_⟩
 rw [hthirds_vc]
 simp only [Low_iff]
 repeat (refine ⟨by omega, ?_⟩)
 rfl
def pw (b : List Int) (t : Nat) : Nat → Int
 | 0 => 0
 | i + 1 => bor .u32 (shl .u32 (pw b t i) 8) (conv .u32 (lget b (4 * t + i)))
theorem lget_byte {b : List Int} (hb : Bs b) (i : Nat) : ∃ n : Nat, lget b i = (n : Int) ∧ n < 256 ∧ conv .u32 (lget b i) = (n : Int) := by
 obtain ⟨h0, h1⟩ := hb.get i
 refine ⟨(lget b i).toNat, ?_, ?_, ?_⟩
 ·show lget b i = _; unfold lget; omega
 ·unfold lget; omega
 ·rw [conv_u32]; unfold lget; omega
theorem pw_ld {b : List Int} (hb : Bs b) (t : Nat) : pw b t 4 = ld b t := by
 obtain ⟨a0, e0, h0, c0⟩ := lget_byte hb (4 * t)
 obtain ⟨a1, e1, h1, c1⟩ := lget_byte hb (4 * t + 1)
 obtain ⟨a2, e2, h2, c2⟩ := lget_byte hb (4 * t + 2)
 obtain ⟨a3, e3, h3, c3⟩ := lget_byte hb (4 * t + 3)
 simp only [pw, ld, Nat.add_zero, c0, c1, c2, c3]
 rw [ld_word h0 h1 h2 h3, show (0 : Int) = ((0 : Nat) : Int) from rfl, horner (by omega) h0, horner (by omega) h1, horner (by omega) h2, horner (by omega) h3]
 refine congrArg (fun n : Nat => (n : Int)) ?_
 unfold word; omega
theorem lset_lset (l : List Int) (i : Nat) (v w : Int) : lset (lset l i v) i w = lset l i w := List.set_set ..
theorem lget_lset {l : List Int} {i : Nat} {v : Int} (h : i < l.length) : lget (lset l i v) i = v := by
 unfold lget lset; rw [List.getD_eq_getElem?_getD, List.getElem?_set_self h]; rfl
theorem upto_same {n i : Nat} {F G : Nat → Int} : lset (upto n i F G) i (G i) = upto n i F G := by
 unfold upto; rw [tab_lset]
 exact tab_ext fun j hj => by
  by_cases h : j = i
  ·rw [if_pos h, if_neg (by omega), h]
  ·rw [if_neg h]
theorem lget_lsub {m : List Int} {p z i : Nat} (h : i < z) : lget (lsub m p z) i = lget m (p + i) := by
 unfold lget lsub
 rw [List.getD_eq_getElem?_getD, List.getD_eq_getElem?_getD, List.getElem?_take, if_pos h, List.getElem?_drop]
theorem hworked_l1 {R : AV → Mem → Prop} {s k m : List Int} {p t : Nat} (hm : Bs m) (hp : p + 64 ≤ m.length) (hl : m.length < 4611686018427387904) (ht : t < 16)
  (h : ∃ f, hworked.l0 R (p : Int) s k m f ((t + 1 : Nat) : Int) (upto 64 (t + 1) (ws (lsub m p 64)) (fun _ => 0))) :
  ∃ f, hworked.l1 R (p : Int) (t : Int) s k m f 0 (upto 64 t (ws (lsub m p 64)) (fun _ => 0)) := by
 have key := loop_ex (fun f i x => hworked.l1 R (p : Int) (t : Int) s k m f i x) 4 (fun i => lset (upto 64 t (ws (lsub m p 64)) (fun _ => 0)) t (pw (lsub m p 64) t i))
  (fun g i hi h => ⟨g + 1, by
   rw [hworked.l1_succ]
   refine ⟨fun _ => ?_, fun q => ?_⟩
   ·have e1 : mul .i64 4 (t : Int) = ((4 * t : Nat) : Int) := mul4 (by omega)
    have e2 : add .i64 (p : Int) ((4 * t : Nat) : Int) = ((p + 4 * t : Nat) : Int) := addN_i64 (by omega)
    have e3 : add .i64 ((p + 4 * t : Nat) : Int) (i : Int) = ((p + 4 * t + i : Nat) : Int) := addN_i64 (by omega)
    simp only [e1, e2, e3, InB_iff, Low_iff, NonNeg_iff, nat_cast, nadd_def, Nat.zero_add, llen_def]
    rw [add1_i64 (by omega), lset_lset, lget_lset (by rw [upto_len]; omega)]
    have e4 : lget m (p + 4 * t + i) = lget (lsub m p 64) (4 * t + i) := by rw [lget_lsub (by omega), Nat.add_assoc]
    rw [e4]
    repeat (refine ⟨by first | omega | (refine ⟨?_, ?_⟩ <;> omega), ?_⟩)
    exact h
   ·rw [ilt_false] at q; omega⟩)
  (by
   obtain ⟨f, hf⟩ := h
   exact ⟨f + 1, by
    rw [hworked.l1_succ]
    refine ⟨fun q => ?_, fun _ => ?_⟩
    ·rw [ilt_true] at q; omega
    ·rw [add1_i64 (by omega), pw_ld (b := lsub m p 64) ⟨fun x hx => hm.all x (List.mem_of_mem_drop (List.mem_of_mem_take hx))⟩, upto_lset (ws_lo _ ht).symm]; exact hf⟩)
 obtain ⟨f, hf⟩ := key 0 (by omega)
 have e0 : lset (upto 64 t (ws (lsub m p 64)) (fun _ => 0)) t (pw (lsub m p 64) t 0) = upto 64 t (ws (lsub m p 64)) (fun _ => 0) := upto_same (G := fun _ => 0)
 exact ⟨f, by rw [e0] at hf; exact hf⟩
theorem hworked_l3 {R : AV → Mem → Prop} {v s m : List Int} (hs : s.length = 8) (hR : ∀ σ, R (.agg [.ints .u32 8 (tab 8 fun i => add .u32 (lget s i) (lget v i))]) σ) : ∃ f, hworked.l3 R v m f 0 s := by
 have key := loop_ex (fun f i x => hworked.l3 R v m f i x) 8 (fun i => upto 8 i (fun j => add .u32 (lget s j) (lget v j)) (lget s))
  (fun g i hi h => ⟨g + 1, by
   rw [hworked.l3_succ]
   refine ⟨fun _ => ?_, fun q => ?_⟩
   ·simp only [InB_iff, Low_iff, nat_cast, nadd_def, Nat.zero_add]
    refine ⟨by omega, hi, by omega, hi, by omega, hi, ?_⟩
    rw [add1_i64 (by omega), upto_hi (Nat.le_refl _) hi, upto_lset rfl]
    exact h
   ·rw [ilt_false] at q; omega⟩)
  ⟨1, by
   rw [hworked.l3_succ]
   refine ⟨fun q => ?_, fun _ => ?_⟩
   ·rw [ilt_true] at q; omega
   ·rw [upto_done]; exact hR _⟩
 obtain ⟨f, hf⟩ := key 0 (by omega)
 rw [upto_zero, ← eq_tab hs] at hf
 exact ⟨f, hf⟩
theorem hworked_l2 {R : AV → Mem → Prop} {b s m : List Int} (hs : s.length = 8) (hR : ∀ σ, R (.agg [.ints .u32 8 (blk s b)]) σ) : ∃ f, hworked.l2 R s rootsL (tab 64 (ws b)) m f 0 s := by
 refine loop_ex (fun f i x => hworked.l2 R s rootsL (tab 64 (ws b)) m f i x) 64 (fun i => rds b s i)
  (fun g i hi h => ⟨g + 1, by
   rw [hworked.l2_succ]
   refine ⟨fun _ => ?_, fun q => ?_⟩
   ·simp only [InB_iff, Low_iff, nat_cast, nadd_def, Nat.zero_add, true_and, and_true]
    rw [add1_i64 (by omega), tab_lget _ hi]
    have e8 : ∀ a b c d e f g h : Int, lset (lset (lset (lset (lset (lset (lset (lset (lzeros 8) 0 a) 1 b) 2 c) 3 d) 4 e) 5 f) 6 g) 7 h = [a, b, c, d, e, f, g, h] := fun _ _ _ _ _ _ _ _ => rfl
    rw [e8]
    have hl : hworked.l2 R s rootsL (tab 64 (ws b)) m g ((i + 1 : Nat) : Int) (rd (lget rootsL i) (ws b i) (rds b s i)) := h
    repeat (refine ⟨by first | omega | (refine ⟨?_, ?_⟩ <;> first | omega | exact Int.NonNeg.mk _), ?_⟩)
    exact hl
   ·rw [ilt_false] at q; omega⟩) ?_ 0 (by omega)
 obtain ⟨f, hf⟩ := hworked_l3 (R := R) (v := rds b s 64) (m := m) hs hR
 exact ⟨f + 1, by
   rw [hworked.l2_succ]
   refine ⟨fun q => ?_, fun _ => ?_⟩
   ·rw [ilt_true] at q; omega
   ·exact hf⟩
theorem hworked_l0 {R : AV → Mem → Prop} {s m : List Int} {p : Nat} (hs : s.length = 8) (hm : Bs m) (hp : p + 64 ≤ m.length) (hl : m.length < 4611686018427387904) (hR : ∀ σ, R (.agg [.ints .u32 8 (blk s (lsub m p 64))]) σ) :
  ∃ f, hworked.l0 R (p : Int) s rootsL m f 0 (lzeros 64) := by
 have key := loop_ex (fun f i x => hworked.l0 R (p : Int) s rootsL m f i x) 64 (fun i => upto 64 i (ws (lsub m p 64)) (fun _ => 0))
  (fun g i hi h => by
   by_cases h16 : i < 16
   ·obtain ⟨f, hf⟩ := hworked_l1 hm hp hl h16 ⟨g, h⟩
    exact ⟨f + 1, by
     rw [hworked.l0_succ]
     refine ⟨fun _ => ⟨fun _ => hf, fun q => ?_⟩, fun q => ?_⟩
     ·rw [ilt_false] at q; omega
     ·rw [ilt_false] at q; omega⟩
   ·exact ⟨g + 1, by
     rw [hworked.l0_succ]
     refine ⟨fun _ => ⟨fun q => ?_, fun _ => ?_⟩, fun q => ?_⟩
     ·rw [ilt_true] at q; omega
     ·have e15 : sub .i64 (i : Int) 15 = ((i - 15 : Nat) : Int) := subN_i64 (a := i) (b := 15) (by omega) (by omega)
      have e2 : sub .i64 (i : Int) 2 = ((i - 2 : Nat) : Int) := subN_i64 (a := i) (b := 2) (by omega) (by omega)
      have e7 : sub .i64 (i : Int) 7 = ((i - 7 : Nat) : Int) := subN_i64 (a := i) (b := 7) (by omega) (by omega)
      have e16 : sub .i64 (i : Int) 16 = ((i - 16 : Nat) : Int) := subN_i64 (a := i) (b := 16) (by omega) (by omega)
      simp only [e15, e2, e7, e16, InB_iff, Low_iff, NonNeg_iff, nat_cast, nadd_def, Nat.zero_add]
      rw [upto_lo (by omega) (by omega), upto_lo (by omega) (by omega), upto_lo (by omega) (by omega), upto_lo (by omega) (by omega), add1_i64 (by omega)]
      have hl := h
      rw [← upto_lset (ws_hi _ (by omega)).symm] at hl
      repeat (refine ⟨by first | omega | (refine ⟨?_, ?_⟩ <;> first | omega | exact Int.NonNeg.mk _), ?_⟩)
      exact hl
     ·rw [ilt_false] at q; omega⟩)
  (by
   obtain ⟨f, hf⟩ := hworked_l2 (R := R) (b := lsub m p 64) (m := m) hs hR
   exact ⟨f + 1, by
    rw [hworked.l0_succ]
    refine ⟨fun q => ?_, fun _ => ?_⟩
    ·rw [ilt_true] at q; omega
    ·rw [upto_done]; exact hf⟩)
 obtain ⟨f, hf⟩ := key 0 (by omega)
 rw [upto_zero, ← lzeros_tab] at hf
 exact ⟨f, hf⟩
theorem good_worked : Sx.Good Tryd.prog 34 workedS := by
 refine Sx.Good.reads (D := []) mixed gamH1_good Tryd.func34 (by kernel_rfl) rfl fun d args σ K h => ?_
 simp only [workedS] at h
 split at h <;> try exact h.elim
 rename_i s k x p
 obtain ⟨m, ⟨⟨hm, rfl, hs, h0, hp, hl⟩, hK⟩, hr⟩ := rdb_row h
 obtain ⟨p', rfl⟩ := Int.eq_ofNat_of_zero_le h0
 rw [Int.toNat_natCast] at hp
 refine ⟨_, _, .plain (plain_ints _ _ _) (.plain (plain_ints _ _ _) (.row [.ints .u8] _ hr (by decide) (.plain (plain_int _ _) (.nil _)))), by simp, ?_⟩
 obtain ⟨f, hf⟩ := hworked_l0 (R := Res d workedS.news σ K) hs hm hp hl (fun σ' => by rw [nat_cast] at hK; exact res_arr rfl hK)
 exact ⟨f + 1, by
  have e := hworked_vc (Res d workedS.news σ K) f s rootsL m (p' : Int)
  exact e.mpr hf⟩
theorem roomw {n : Nat} (h : n ≤ 225179981367000) : Room n 1 := ⟨by omega⟩
theorem hpadded_l1 {R : AV → Mem → Prop} {m x : List Int} (hl : x.length ≤ 200000000000500) (hR : ∀ σ l, l = x ++ tab 8 (fun i => bitsB m i) → Mem.find σ 100003 = some (.vec [.ints .u8 l]) → R (.one (.vec 100003)) σ) : ∃ f, hpadded.l1 R m f 0 x := by
 have key := loop_ex (fun f i x => hpadded.l1 R m f i x) 8 (fun i => x ++ tab i (fun i => bitsB m i))
  (fun g i hi h => ⟨g + 1, by
   rw [hpadded.l1_succ]
   refine ⟨fun _ => ?_, fun q => ?_⟩
   ·have e1 : mul .i64 8 (i : Int) = ((8 * i : Nat) : Int) := mulN_i64 (a := 8) (b := i) (by omega)
    have e2 : sub .i64 56 ((8 * i : Nat) : Int) = ((56 - 8 * i : Nat) : Int) := subN_i64 (a := 56) (b := 8 * i) (by omega) (by omega)
    simp only [e1, e2, NonNeg_iff, nadd_def, llen_def, lcat_def, List.length_append, tab_len, List.length_singleton]
    refine ⟨by omega, roomw (by omega), ?_⟩
    rw [add1_i64 (by omega), List.append_assoc]
    rw [tab_succ] at h
    exact h
   ·rw [ilt_false] at q; omega⟩)
  ⟨1, by
   rw [hpadded.l1_succ]
   refine ⟨fun q => ?_, fun _ => ?_⟩
   ·rw [ilt_true] at q; omega
   ·exact hR _ _ rfl rfl⟩
 obtain ⟨f, hf⟩ := key 0 (by omega)
 rw [tab_zero, List.append_nil] at hf
 exact ⟨f, hf⟩
theorem hpadded_l0 {R : AV → Mem → Prop} {m : List Int} (hm : m.length ≤ 200000000000000) (hR : ∀ σ l, l = fillOf m → Mem.find σ 100003 = some (.vec [.ints .u8 l]) → R (.one (.vec 100003)) σ) : ∀ (q : Nat) (x : List Int), x.length ≤ 200000000000100 → (x.length + q) % 64 = 56 → q < 64 → m ++ [128] ++ List.replicate (nfill m.length) 0 = x ++ List.replicate q 0 →
  ∃ f, hpadded.l0 R m f x := by
 intro q
 induction q with
 | zero =>
  intro x hx hq _ he
  obtain ⟨f, hf⟩ := hpadded_l1 (R := R) (m := m) (x := x) (by omega) (fun σ l hl hm => hR σ l (by rw [hl]; unfold fillOf; rw [he]; simp) hm)
  refine ⟨f + 1, ?_⟩
  rw [hpadded.l0_succ]
  simp only [NeZ_iff, ofNat_def, llen_def]
  have er : rem (x.length : Int) 64 = 56 := by have := remN (a := x.length) (b := 64); rw [show ((64 : Nat) : Int) = 64 from rfl] at this; rw [this]; omega
  rw [er]
  refine ⟨by omega, fun h => ?_, fun _ => hf⟩
  rw [ine_true] at h; omega
 | succ q ih =>
  intro x hx hq h64 he
  obtain ⟨f, hf⟩ := ih (x ++ [0]) (by
   have := congrArg List.length he
   have hn : nfill m.length < 64 := by unfold nfill; omega
   simp only [List.length_append, List.length_replicate, List.length_singleton] at this ⊢
   omega) (by simp only [List.length_append, List.length_singleton]; omega) (by omega) (by rw [he, List.append_assoc]; rfl)
  refine ⟨f + 1, ?_⟩
  rw [hpadded.l0_succ]
  simp only [NeZ_iff, ofNat_def, llen_def]
  have er : rem (x.length : Int) 64 = ((x.length % 64 : Nat) : Int) := remN (a := x.length) (b := 64)
  rw [er]
  refine ⟨by omega, fun _ => ?_, fun h => ?_⟩
  ·simp only [nadd_def, lcat_def]
   exact ⟨roomw (by omega), hf⟩
  ·rw [ine_false] at h; omega
theorem good_padded : Sx.Good Tryd.prog 33 paddedS := by
 refine Sx.Good.reads (D := [⟨3, [.ints .u8], true, false⟩]) mixed (good0 _) Tryd.func33 (by kernel_rfl) rfl fun d args σ K h => ?_
 simp only [paddedS] at h
 split at h <;> try exact h.elim
 obtain ⟨m, ⟨hm, hK⟩, hr⟩ := rdb_row h
 refine ⟨_, _, .row [.ints .u8] _ hr (by decide) (.nil _), by simp, ?_⟩
 have hs := hm.le
 obtain ⟨f, hf⟩ := hpadded_l0 (R := Res d paddedS.news σ K) (m := m) hs (fun σ' l e hf => res_vec hf e hK) (nfill m.length) (m ++ [128]) (by simp only [List.length_append, List.length_singleton]; omega)
  (by simp only [List.length_append, List.length_singleton]; unfold nfill; omega) (by unfold nfill; omega) rfl
 refine ⟨f + 1, ?_⟩
 have e := hpadded_vc (Res d paddedS.news σ K) f m
 refine e.mpr ?_
 have e1 : add .i64 ((m.length : Nat) : Int) 72 = ((m.length + 72 : Nat) : Int) := addN_i64 (b := 72) (by omega)
 simp only [llen_def, lcat_def, ofNat_def, nadd_def, e1, Mk_iff, lzeros, List.replicate_zero, List.nil_append]
 exact ⟨by omega, roomw (by omega), roomw (by omega), hf⟩
theorem gamH2_good : GoodG Tryd.prog gamH2 := by
 refine GoodG.ext (GoodG.ext (GoodG.ext (GoodG.ext (GoodG.ext (GoodG.ext gamH1_good good_block ?_) good_first ?_) ?_ ?_) good_thirds ?_) good_worked ?_) good_padded ?_
 ·exact ⟨_, Tryd.func31, by decide, by kernel_rfl⟩
 ·exact ⟨_, Tryd.func30, by decide, by kernel_rfl⟩
 ·refine Sx.Good.pure (D := []) mixed (good0 _) Tryd.func24 (by kernel_rfl) rfl fun d args σ K h => ?_
  simp only [newHS] at h
  split at h <;> try exact h.elim
  refine ⟨by simp, _, fun n => rfl, h, 0 + 1, ?_⟩
  rw [hnew_vc]
  rfl
 ·exact ⟨_, Tryd.func24, by decide, by kernel_rfl⟩
 ·exact ⟨_, Tryd.func32, by decide, by kernel_rfl⟩
 ·exact ⟨_, Tryd.func34, by decide, by kernel_rfl⟩
 ·exact ⟨_, Tryd.func33, by decide, by kernel_rfl⟩
theorem res_hash {d : Nat} {σ σ' : Mem} {K : AV → Mem → Prop} {W T : List Int} {n : Int} {h : Go.Hsh.HS} (e1 : W = h.1) (e2 : T = h.2.1) (e3 : n = (h.2.2 : Int)) (hK : K (hAV h) σ) : Res d 0 σ K (.agg [.ints .u32 8 W, .ints .u8 64 T, .cells [.int .u64 n]]) σ' := by
 subst e1 e2 e3
 have hv : ResV [] d (hAV h) (hAV h) := ⟨⟨rfl, rfl, rfl⟩, ⟨rfl, rfl, rfl⟩, ⟨Or.inl ⟨fun _ => rfl, fun _ => rfl, fun _ _ q => q⟩, trivial⟩, trivial⟩
 exact res_plain hv hK
theorem rem64 (n : Nat) : rem (n : Int) 64 = ((n % 64 : Nat) : Int) := remN (a := n) (b := 64)
theorem addu64 {a b : Nat} (h : a + b < 18446744073709551616) : add .u64 (a : Int) (b : Int) = ((a + b : Nat) : Int) := by rw [add_u64]; omega
theorem convu64 {a : Nat} (h : a < 18446744073709551616) : conv .u64 (a : Int) = (a : Int) := by rw [conv_u64]; omega
theorem lsub_whole {l : List Int} {n : Nat} (h : l.length = n) : lsub l 0 n = l := by rw [lsub_take, List.take_of_length_le (by omega)]
theorem hadd_l0 {R : AV → Mem → Prop} {p0 : List Int} : ∀ (N : Nat) (p W T : List Int) (n : Nat), p.length ≤ N → W.length = 8 → T.length = 64 → n + p.length ≤ 1125899906842624 →
  (∀ W' T' n' σ, W' = (addL (W, T, n) p).1 → T' = (addL (W, T, n) p).2.1 → n' = ((addL (W, T, n) p).2.2 : Int) → R (.agg [.ints .u32 8 W', .ints .u8 64 T', .cells [.int .u64 n']]) σ) → ∃ f, hadd.l0 R p0 f W T (n : Int) p := by
 intro N
 induction N with
 | zero =>
  intro p W T n hp hW hT hn hR
  obtain rfl : p = [] := List.length_eq_zero_iff.mp (by omega)
  refine ⟨1, ?_⟩
  rw [hadd.l0_succ]
  refine ⟨fun q => ?_, fun _ => hR _ _ _ _ rfl rfl rfl⟩
  rw [igt_true] at q; simp [ofNat, llen] at q
 | succ N ih =>
  intro p W T n hp hW hT hn hR
  by_cases hnil : p = []
  ·subst hnil
   refine ⟨1, ?_⟩
   rw [hadd.l0_succ]
   refine ⟨fun q => ?_, fun _ => hR _ _ _ _ rfl rfl rfl⟩
   rw [igt_true] at q; simp [ofNat, llen] at q
  have hpos : 0 < p.length := List.length_pos_iff.mpr hnil
  obtain ⟨k, hk⟩ : ∃ k, k = min p.length (64 - n % 64) := ⟨_, rfl⟩
  have hk1 : 0 < k := by omega
  have hk2 : k ≤ p.length := by omega
  have hk3 : n % 64 + k ≤ 64 := by omega
  have hc : (p.take k).length = k := by rw [List.length_take]; omega
  have hch := addL_chunk (p.take k) W T n hT (by rw [hc]; exact hk3) (by intro e; rw [e] at hc; simp at hc; omega)
  rw [hc] at hch
  have hsplit : addL (W, T, n) p = addL (addL (W, T, n) (p.take k)) (p.drop k) := by rw [← addL_app, List.take_append_drop]
  rw [hsplit, hch] at hR
  have hT' : (lput T (n % 64) (p.take k)).length = 64 := by rw [lput_length (by rw [hc]; omega)]; exact hT
  obtain ⟨f, hf⟩ := ih (p.drop k) (if (n + k) % 64 = 0 then blk W (lput T (n % 64) (p.take k)) else W) (lput T (n % 64) (p.take k)) (n + k) (by rw [List.length_drop]; omega)
   (by split; exact blk_len _ _; exact hW) hT' (by rw [List.length_drop]; omega) hR
  refine ⟨f + 1, ?_⟩
  rw [hadd.l0_succ]
  refine ⟨fun _ => ?_, fun q => ?_⟩
  ·have e1 : conv .u64 (k : Int) = (k : Int) := convu64 (by omega)
   have e2 : add .u64 (n : Int) (k : Int) = ((n + k : Nat) : Int) := addu64 (by omega)
   simp only [rem64, nat_cast, nadd_def, nsub_def, nmin_def, ofNat_def, llen_def, Nat.zero_add, ← hk, e1, e2, lsub_take, lsub_drop, NeZ_iff, NonNeg_iff, Fits_iff]
   refine ⟨by omega, ⟨by omega, by omega⟩, by omega, ⟨by omega, hk2⟩, by omega, fun q => ?_, fun q => ?_⟩
   ·rw [ieq_true] at q
    rw [List.take_of_length_le (l := W) (by omega), List.take_of_length_le (l := lput T (n % 64) (p.take k)) (by omega), lput_full (by rw [blk_len, hW])]
    rw [if_pos (by omega)] at hf
    exact ⟨by omega, by omega, ⟨trivial, ⟨by first | exact hW | (rw [List.length_take]; omega)⟩⟩, by omega, hf⟩
   ·rw [ieq_false] at q
    rw [if_neg (by omega)] at hf
    exact hf
  ·rw [igt_false] at q; simp only [ofNat, llen] at q; omega
theorem addH_eq (W T : List Int) (n : Nat) (p : List Int) : addH (W, T, n) p = addL ((if n < 64 then firstL else W), T, n) p := by
 unfold addH readied; split <;> rfl
theorem good_add : Sx.Good Tryd.prog 25 addHS := by
 refine Sx.Good.reads (D := [⟨1, [.ints .u8], false, false⟩]) mixed gamH2_good Tryd.func25 (by kernel_rfl) rfl fun d args σ K h => ?_
 simp only [addHS] at h
 split at h <;> try exact h.elim
 rename_i W T n x
 obtain ⟨p, ⟨⟨hr, hW, hT, h0, hn⟩, hK⟩, hrow⟩ := rdb_row h
 unfold hasRoots at hr
 split at hr <;> try exact hr.elim
 rename_i l hg
 subst hr
 obtain ⟨m, rfl⟩ := Int.eq_ofNat_of_zero_le h0
 rw [Int.toNat_natCast] at hn
 rw [addW_eq, addT_eq, addN_eq, nat_cast, addH_eq] at hK
 refine ⟨_, _, .glob hg (by intro m; rfl) (.plain (fun n => rfl) (.row [.ints .u8] _ hrow (by decide) (.nil _))), by simp, ?_⟩
 obtain ⟨f, hf⟩ := hadd_l0 (R := Res d addHS.news σ K) (p0 := p) p.length p (if m < 64 then firstL else W) T m (Nat.le_refl _) (by split; rfl; exact hW) hT hn (fun W' T' n' σ' e1 e2 e3 => res_hash e1 e2 e3 hK)
 refine ⟨f + 1, ?_⟩
 have e := hadd_vc (Res d addHS.news σ K) f W T (m : Int) p
 refine e.mpr ⟨fun q => ⟨⟨by omega⟩, ?_⟩, fun q => ?_⟩
 ·rw [ilt_true] at q
  rw [if_pos (by omega)] at hf
  rw [lput_full (by rw [hW]; rfl)]; exact hf
 ·rw [ilt_false] at q
  rw [if_neg (by omega)] at hf
  exact hf
theorem gamH3_good : GoodG Tryd.prog gamH3 := gamH2_good.ext good_add ⟨_, Tryd.func25, by decide, by kernel_rfl⟩
theorem shr0 (x : Int) : shr .u32 x 0 = x := by
 unfold shr; show x.fdiv (2 ^ 0) = x; simp
theorem shl3 (n : Int) : shl .u64 n 3 = mul .u64 n 8 := rfl
def dg (W : List Int) (i : Nat) : Int := conv .u8 (shr .u32 (lget W (i / 4)) ((24 - 8 * (i % 4) : Nat) : Int))
theorem hsumm_l1 {R : AV → Mem → Prop} {W T x V : List Int} {n : Int} (hV : V = lsub (addW W T n x) 0 8) (hR : ∀ l σ, l = digest V → R (.agg [.ints .u8 32 l]) σ) : ∃ f, hsumm.l1 R W T n x f 0 (lzeros 32) := by
 have key := loop_ex (fun f i y => hsumm.l1 R W T n x f i y) 8 (fun i => upto 32 (4 * i) (dg V) (fun _ => 0))
  (fun g i hi h => ⟨g + 1, by
   rw [hsumm.l1_succ, ← hV]
   refine ⟨fun _ => ?_, fun q => ?_⟩
   ·have e0 : mul .i64 4 (i : Int) = ((4 * i : Nat) : Int) := mulN_i64 (a := 4) (b := i) (by omega)
    have e1 : add .i64 ((4 * i : Nat) : Int) 1 = ((4 * i + 1 : Nat) : Int) := addN_i64 (b := 1) (by omega)
    have e2 : add .i64 ((4 * i : Nat) : Int) 2 = ((4 * i + 2 : Nat) : Int) := addN_i64 (b := 2) (by omega)
    have e3 : add .i64 ((4 * i : Nat) : Int) 3 = ((4 * i + 3 : Nat) : Int) := addN_i64 (b := 3) (by omega)
    simp only [e0, e1, e2, e3, nat_cast, nadd_def, Nat.zero_add, InB_iff, Low_iff, NonNeg_iff]
    have d0 : conv .u8 (shr .u32 (lget V i) 24) = dg V (4 * i) := by unfold dg; rw [show 4 * i / 4 = i by omega, show 24 - 8 * (4 * i % 4) = 24 by omega]; rfl
    have d1 : conv .u8 (shr .u32 (lget V i) 16) = dg V (4 * i + 1) := by unfold dg; rw [show (4 * i + 1) / 4 = i by omega, show 24 - 8 * ((4 * i + 1) % 4) = 16 by omega]; rfl
    have d2 : conv .u8 (shr .u32 (lget V i) 8) = dg V (4 * i + 2) := by unfold dg; rw [show (4 * i + 2) / 4 = i by omega, show 24 - 8 * ((4 * i + 2) % 4) = 8 by omega]; rfl
    have d3 : conv .u8 (lget V i) = dg V (4 * i + 3) := by unfold dg; rw [show (4 * i + 3) / 4 = i by omega, show 24 - 8 * ((4 * i + 3) % 4) = 0 by omega, show ((0 : Nat) : Int) = 0 from rfl, shr0]
    rw [upto_lset d0, upto_lset d1, upto_lset d2, upto_lset d3, add1_i64 (by omega)]
    repeat (refine ⟨by first | omega | (refine ⟨?_, ?_⟩ <;> omega), ?_⟩)
    exact h
   ·rw [ilt_false] at q; omega⟩)
  ⟨1, by
   rw [hsumm.l1_succ]
   refine ⟨fun q => ?_, fun _ => ?_⟩
   ·rw [ilt_true] at q; omega
   ·exact hR _ _ (upto_done (n := 32))⟩
 obtain ⟨f, hf⟩ := key 0 (by omega)
 exact ⟨f, by
  have e : upto 32 (4 * 0) (dg V) (fun _ => 0) = lzeros 32 := by rw [lzeros_tab]; exact upto_zero
  rw [e] at hf; exact hf⟩
theorem hsumm_l0 {R : AV → Mem → Prop} {W T : List Int} {n : Nat} (hW : W.length = 8) (hT : T.length = 64) (hn : n + 200 ≤ 1125899906842624) (hR : ∀ l σ, l = sumH (W, T, n) → R (.agg [.ints .u8 32 l]) σ) :
  ∃ f, hsumm.l0 R (n : Int) W T f 56 (128 :: List.replicate (nfill n) 0) := by
 have hf64 : nfill n < 64 := by unfold nfill; omega
 have key := loop_ex (fun f i y => hsumm.l0 R (n : Int) W T f (56 - 8 * i) y) 8 (fun i => 128 :: (List.replicate (nfill n) 0 ++ tab i (fun i => bitsN n i)))
  (fun g i hi h => ⟨g + 1, by
   rw [hsumm.l0_succ]
   refine ⟨fun _ => ?_, fun q => ?_⟩
   ·have e0 : sub .i64 (56 - 8 * (i : Int)) 8 = 56 - 8 * ((i + 1 : Nat) : Int) := by rw [sub_i64 (by omega) (by omega)]; omega
    have e1 : conv .u8 (shr .u64 (shl .u64 (n : Int) 3) (56 - 8 * (i : Int))) = bitsN n i := by
     unfold bitsN
     rw [shl3, convu64 (a := n) (by omega), show ((56 - 8 * i : Nat) : Int) = 56 - 8 * (i : Int) by omega]
    rw [e0, e1]
    simp only [NonNeg_iff, nadd_def, llen_def, lcat_def, List.length_cons, List.length_append, List.length_replicate, tab_len, List.length_nil]
    refine ⟨by omega, by omega, room1 (by omega), ?_⟩
    rw [List.cons_append, List.append_assoc]
    rw [tab_succ] at h
    exact h
   ·rw [ige_false] at q; omega⟩)
  (by
   obtain ⟨f, hf⟩ := hsumm_l1 (R := R) (W := W) (T := T) (x := fillN n) (n := (n : Int)) rfl (fun l σ e => hR l σ (by
    rw [e, addW_eq, nat_cast]; unfold sumH
    rw [lsub_whole]
    rw [addH_eq]; exact addL_W _ _ (by simp only; split; rfl; exact hW)))
   exact ⟨f + 1, by
    rw [hsumm.l0_succ]
    refine ⟨fun q => ?_, fun _ => ⟨⟨rfl, hW, hT, by omega, ?_⟩, ⟨by omega⟩, hf⟩⟩
    ·rw [ige_true] at q; omega
    ·rw [Int.toNat_natCast]
     simp only [List.length_cons, List.length_append, List.length_replicate, tab_len]; omega⟩)
 obtain ⟨f, hf⟩ := key 0 (by omega)
 rw [tab_zero, List.append_nil] at hf
 exact ⟨f, hf⟩
theorem good_sumH : Sx.Good Tryd.prog 26 sumHS := by
 refine Sx.Good.reads (D := [⟨4, [.ints .u8], true, false⟩]) mixed gamH3_good Tryd.func26 (by kernel_rfl) rfl fun d args σ K h => ?_
 simp only [sumHS] at h
 split at h <;> try exact h.elim
 rename_i W T n
 obtain ⟨⟨hr, hW, hT, h0, hn⟩, hK⟩ := h
 unfold hasRoots at hr
 split at hr <;> try exact hr.elim
 rename_i l hg
 subst hr
 obtain ⟨m, rfl⟩ := Int.eq_ofNat_of_zero_le h0
 rw [Int.toNat_natCast] at hn
 rw [sumL_eq, nat_cast] at hK
 refine ⟨_, _, .glob hg (by intro m; rfl) (.plain (fun n => rfl) (.nil _)), by simp, ?_⟩
 obtain ⟨f, hf⟩ := hsumm_l0 (R := Res d sumHS.news σ K) hW hT hn (fun l σ' e => res_arr e hK)
 refine ⟨f + 1, ?_⟩
 have e := hsumm_vc (Res d sumHS.news σ K) f W T (m : Int)
 refine e.mpr ?_
 have e0 : sub .u64 119 ((m % 64 : Nat) : Int) = ((119 - m % 64 : Nat) : Int) := by show IntKind.u64.wrap _ = _; rw [IntKind.wrap_u64]; omega
 have e1 : add .u64 1 ((nfill m : Nat) : Int) = ((1 + nfill m : Nat) : Int) := addu64 (a := 1) (by unfold nfill; omega)
 have hf64 : nfill m < 64 := by unfold nfill; omega
 simp only [rem64, e0, show (119 - m % 64) % 64 = nfill m from rfl, e1, nat_cast, NeZ_iff, Mk_iff, InB_iff, llen_def, lzeros, List.length_replicate]
 refine ⟨by omega, by omega, by omega, by omega, ?_⟩
 rw [Nat.add_comm 1, List.replicate_succ]
 exact hf
theorem gamH4_good : GoodG Tryd.prog gamH4 := gamH3_good.ext good_sumH ⟨_, Tryd.func26, by decide, by kernel_rfl⟩
theorem good_sha : Sx.Good Tryd.prog 10 shaS := by
 refine Sx.Good.reads (D := []) mixed gamH4_good Tryd.func10 (by kernel_rfl) rfl fun d args σ K h => ?_
 simp only [shaS] at h
 split at h <;> try exact h.elim
 obtain ⟨p, ⟨⟨hr, hp⟩, hK⟩, hrow⟩ := rdb_row h
 unfold hasRoots at hr
 split at hr <;> try exact hr.elim
 rename_i l hg
 subst hr
 refine ⟨_, _, .row [.ints .u8] _ hrow (by decide) (.glob hg (by intro m; rfl) (.nil _)), by simp, 1, ?_⟩
 have e := hsum_vc (Res d shaS.news σ K) 0 p
 refine e.mpr ?_
 have hp := hp.le
 have e1 : addH (lzeros 8, lzeros 64, nat 0) p = stA p := addH_zero p
 rw [addW_eq, addT_eq, addN_eq]
 rw [shaL_eq] at hK
 have e2 : addH (hZ.fst, hZ.snd.fst, nat ((hZ.snd.snd : Nat) : Int)) p = stA p := e1
 have e3 : addH (lzeros 8, lzeros 64, nat (Int.ofNat 0)) p = stA p := e1
 simp only [e1, e2, e3]
 refine ⟨⟨trivial, rfl, rfl, by decide, by show 0 + p.length ≤ _; omega⟩, ⟨trivial, stA_W p, stA_T p, by simp, ?_⟩, ?_⟩
 ·rw [stA_n, Int.toNat_natCast]; omega
 ·refine res_arr ?_ hK
  rw [sumL_eq, nat_cast]
  exact sumH_stA p
theorem hrsum_l1 {R : AV → Mem → Prop} {V p : List Int} (hR : ∀ l σ, l = digest V → R (.agg [.ints .u8 32 l]) σ) : ∃ f, hrsum.l1 R V p f 0 (lzeros 32) := by
 have key := loop_ex (fun f i y => hrsum.l1 R V p f i y) 32 (fun i => upto 32 i (dg V) (fun _ => 0))
  (fun g i hi h => ⟨g + 1, by
   rw [hrsum.l1_succ]
   refine ⟨fun _ => ?_, fun q => ?_⟩
   ·have e0 : quo .i64 (i : Int) 4 = ((i / 4 : Nat) : Int) := quoN_i64 (b := 4) (by omega)
    have e1 : rem (i : Int) 4 = ((i % 4 : Nat) : Int) := remN (b := 4)
    have e2 : mul .i64 8 ((i % 4 : Nat) : Int) = ((8 * (i % 4) : Nat) : Int) := mulN_i64 (a := 8) (by omega)
    have e3 : sub .i64 24 ((8 * (i % 4) : Nat) : Int) = ((24 - 8 * (i % 4) : Nat) : Int) := subN_i64 (a := 24) (by omega) (by omega)
    simp only [e0, e1, e2, e3, nat_cast, nadd_def, Nat.zero_add, InB_iff, Low_iff, NonNeg_iff, NeZ_iff]
    rw [upto_lset (F := dg V) (v := conv .u8 (shr .u32 (lget V (i / 4)) ((24 - 8 * (i % 4) : Nat) : Int))) rfl, add1_i64 (by omega)]
    repeat (refine ⟨by first | omega | (refine ⟨?_, ?_⟩ <;> omega), ?_⟩)
    exact h
   ·rw [ilt_false] at q; omega⟩)
  ⟨1, by
   rw [hrsum.l1_succ]
   refine ⟨fun q => ?_, fun _ => ?_⟩
   ·rw [ilt_true] at q; omega
   ·exact hR _ _ (upto_done (n := 32))⟩
 obtain ⟨f, hf⟩ := key 0 (by omega)
 exact ⟨f, by
  have e : upto 32 0 (dg V) (fun _ => 0) = lzeros 32 := by rw [lzeros_tab]; exact upto_zero
  rw [e] at hf; exact hf⟩
theorem good_rsha : Sx.Good Tryd.prog 28 rshaS := by
 refine Sx.Good.reads (D := []) mixed gamH4_good Tryd.func28 (by kernel_rfl) rfl fun d args σ K h => ?_
 simp only [rshaS] at h
 split at h <;> try exact h.elim
 obtain ⟨p, ⟨⟨hp, hb⟩, hK⟩, hrow⟩ := rdb_row h
 rw [shaL_eq] at hK
 refine ⟨_, _, .row [.ints .u8] _ hrow (by decide) (.nil _), by simp, ?_⟩
 have hl := hp.le
 have hm := fillOf_len p
 have hml : (fillOf p).length ≤ 200000000001000 := by
  have : nfill p.length < 64 := by unfold nfill; omega
  unfold fillOf; simp only [List.length_append, List.length_replicate, List.length_singleton, tab_len]; omega
 obtain ⟨f1, hf1⟩ := hrsum_l1 (R := Res d rshaS.news σ K) (V := blks (fillOf p) ((fillOf p).length / 64)) (p := p) (fun l σ' e => res_arr (by rw [e, blks_all hm]; rfl) hK)
 obtain ⟨f, hf⟩ := loop_exby 64 (fun f i y => hrsum.l0 (Res d rshaS.news σ K) p f i y) ((fillOf p).length / 64) (fun i => blks (fillOf p) i)
  (fun g i hi h => ⟨g + 1, by
   rw [hrsum.l0_succ]
   refine ⟨fun _ => ⟨⟨fillOf_bytes hb, rfl, blks_len _ _, by omega, by omega, by omega⟩, ?_⟩, fun q => ?_⟩
   ·have e : add .i64 ((64 * i : Nat) : Int) 64 = ((64 * (i + 1) : Nat) : Int) := addN_i64 (b := 64) (by omega)
    rw [e, nat_cast]; exact h
   ·rw [ilt_false] at q; simp only [ofNat, llen] at q; omega⟩)
  ⟨f1 + 1, by
   rw [hrsum.l0_succ]
   refine ⟨fun q => ?_, fun _ => hf1⟩
   rw [ilt_true] at q; simp only [ofNat, llen] at q; omega⟩ 0 (by omega)
 refine ⟨f + 1, ?_⟩
 have e := hrsum_vc (Res d rshaS.news σ K) f p
 refine e.mpr ?_
 refine ⟨⟨by omega⟩, ⟨by omega⟩, ⟨by omega⟩, ⟨by omega⟩, ⟨by omega⟩, ⟨by omega⟩, ⟨by omega⟩, ⟨by omega⟩, ?_⟩
 exact ⟨hp, hf⟩
theorem gamH5_good : GoodG Tryd.prog gamH5 :=
 (gamH4_good.ext good_sha ⟨_, Tryd.func10, by decide, by kernel_rfl⟩).ext good_rsha ⟨_, Tryd.func28, by decide, by kernel_rfl⟩
end Go.Proofs.YtmgbaimcjkhieaaDoor.G
namespace Go.Sx
open Go Go.ChangeShapes Go.WideShapes Go.ChangeAt Go.RowKit
def fieldsO (P : Program) (f : TypeId → Option (List Kd)) : List Field → Nat → Option (List Kd)
 | [], o => some []
 | fd :: r, o => match f fd.type, fieldsO P f r (o + P.cellsOf fd.type) with
  | some k1, some k2 => if fd.offset = o ∧ P.cellsOf fd.type = width k1 then some (k1 ++ k2) else none
  | _, _ => none
def kindsO (P : Program) : Nat → TypeId → Option (List Kd)
 | 0, _ => none
 | d + 1, t => match P.underlying t with
  | some (.int k) => if P.cellsOf t = 1 then some [.ints k] else none
  | some .bool => if P.cellsOf t = 1 then some [.bools] else none
  | some (.slice e) => match P.underlying e with
   | some (.int k) => if P.cellsOf e = 1 ∧ P.cellsOf t = 1 ∧ 1 ≤ P.bytesOf e then some [.rows k] else none
   | _ => none
  | some (.array m e) => match P.underlying e with
   | some (.int k) => if P.cellsOf e = 1 ∧ P.cellsOf t = m then some [.arrs k m] else none
   | _ => none
  | some (.struct fs) => match fieldsO P (kindsO P d) fs.toList 0 with
   | some ks => if P.cellsOf t = width ks then some ks else none
   | none => none
  | _ => none
def KdAt (w : World) (k : Kd) (cs : List Value) (o : Nat) : Prop :=
 match k with
 | .ints q => ∃ n, cs[o]? = some (.int q n) ∧ (Lit.int q n).wf = true
 | .bools => ∃ b, cs[o]? = some (.bool b)
 | .arrs q m => ∃ l : List Int, l.length = m ∧ (∀ (j : Nat) x, l[j]? = some x → cs[o + j]? = some (.int q x)) ∧ ∀ x ∈ l, (Lit.int q x).wf = true
 | .rows q => ∃ A L C Z, cs[o]? = some (.slice A L C) ∧ IsRow q w A L C Z ∧ Z.length ≤ reachBytes
 | .strs => ∃ b, cs[o]? = some (.string b)
def KdsAt (w : World) : List Kd → List Value → Nat → Prop
 | [], _, _ => True
 | k :: r, cs, o => KdAt w k cs o ∧ KdsAt w r cs (o + k.width)
theorem KdsAt.append {w : World} {cs : List Value} : ∀ {a b : List Kd} {o : Nat}, KdsAt w a cs o → KdsAt w b cs (o + width a) → KdsAt w (a ++ b) cs o
 | [], b, o, _, h => by simpa [width] using h
 | k :: a, b, o, h, g => ⟨h.1, KdsAt.append h.2 (by simpa [width, Nat.add_assoc] using g)⟩
theorem KdAt.shift {w : World} {cs : List Value} {o z : Nat} {k : Kd} {p : Nat} (hp : p + k.width ≤ z) (h : KdAt w k ((cs.drop o).take z) p) : KdAt w k cs (o + p) := by
 have get : ∀ i, i < z → ((cs.drop o).take z)[i]? = cs[o + i]? := fun i hi => by rw [List.getElem?_take, if_pos hi, List.getElem?_drop]
 cases k with
 | ints q =>
  obtain ⟨n, h1, h2⟩ := h
  exact ⟨n, by rw [← get p (by simp [Kd.width] at hp; omega)]; exact h1, h2⟩
 | bools =>
  obtain ⟨b, h1⟩ := h
  exact ⟨b, by rw [← get p (by simp [Kd.width] at hp; omega)]; exact h1⟩
 | arrs q m =>
  obtain ⟨l, h1, h2, h3⟩ := h
  refine ⟨l, h1, fun j x hj => ?_, h3⟩
  have : j < m := by rw [← h1]; exact (List.getElem?_eq_some_iff.1 hj).1
  rw [Nat.add_assoc, ← get (p + j) (by simp [Kd.width] at hp; omega)]
  exact h2 j x hj
 | strs =>
  obtain ⟨b, h1⟩ := h
  exact ⟨b, by rw [← get p (by simp [Kd.width] at hp; omega)]; exact h1⟩
 | rows q =>
  obtain ⟨A, L, C, Z, h1, h2⟩ := h
  exact ⟨A, L, C, Z, by rw [← get p (by simp [Kd.width] at hp; omega)]; exact h1, h2⟩
theorem KdsAt.shift {w : World} {cs : List Value} {o z : Nat} : ∀ {ks : List Kd} {p : Nat}, p + width ks ≤ z → KdsAt w ks ((cs.drop o).take z) p → KdsAt w ks cs (o + p)
 | [], _, _, _ => trivial
 | k :: r, p, hp, h => ⟨h.1.shift (by simp [width] at hp; omega), by have := KdsAt.shift (ks := r) (p := p + k.width) (by simp [width] at hp; omega) h.2; rwa [← Nat.add_assoc] at this⟩
section
variable {H : Type} {enc : TypeId × Value → H} {P : Program} {w : World} {base : Nat} {held : Bool}
theorem row_of_trod {t e : TypeId} {k : IntKind} {fuel : Nat} {cs : List Value} {x : DataW H × List MemPlace} (ht : P.underlying t = some (.slice e)) (he : P.underlying e = some (.int k)) (hc : P.cellsOf e = 1) (hb : 1 ≤ P.bytesOf e)
  (h : DataW.trod enc P w base (fun _ => true) held fuel t cs = some x) (hz : ∀ n ∈ x.1.weights P t, n ≤ reachBytes) : ∃ A L C Z, cs = [.slice A L C] ∧ IsRow k w A L C Z ∧ Z.length ≤ reachBytes := by
 rcases open_ints ht he hc h with ⟨rfl, rfl⟩ | ⟨a, len, cap, zs, rfl, _, hl, hm, hlen, rfl, hcell, hw⟩
 ·exact ⟨none, 0, 0, [], rfl, .inl ⟨rfl, rfl, rfl, rfl⟩, Nat.zero_le _⟩
 ·refine ⟨some a, len, cap, zs, rfl, .inr ⟨a, rfl, hl, hm, by simpa using hlen, hcell, hw⟩, ?_⟩
  have := hz (((lits (H := H) k (zs.take len)).length + (lits (H := H) k (zs.drop len)).length) * P.bytesOf e) (by simp [DataW.weights, ht])
  simp only [lits, List.length_map, List.length_take, List.length_drop] at this
  have e1 : min len zs.length + (zs.length - len) = zs.length := by omega
  rw [e1] at this
  exact Nat.le_trans (Nat.le_mul_of_pos_right _ hb) this
theorem kinds_of_trod : ∀ (d : Nat) {t : TypeId} {ks : List Kd} {fuel : Nat} {cs : List Value} {x : DataW H × List MemPlace}, kindsO P d t = some ks → DataW.trod enc P w base (fun _ => true) held fuel t cs = some x → (∀ n ∈ x.1.weights P t, n ≤ reachBytes) →
  cs.length = width ks ∧ KdsAt w ks cs 0
 | 0, _, _, _, _, _, h, _, _ => by simp [kindsO] at h
 | d + 1, t, ks, fuel, cs, x, h, htr, hz => by
  unfold kindsO at h
  split at h
  ·rename_i k hu
   split at h
   ·cases h
    obtain ⟨n, rfl, rfl, hw⟩ := DataW.trod_int hu htr
    exact ⟨rfl, ⟨n, rfl, hw⟩, trivial⟩
   ·cases h
  ·rename_i hu
   split at h
   ·cases h
    obtain ⟨b, rfl, rfl⟩ := DataW.trod_bool hu htr
    exact ⟨rfl, ⟨b, rfl⟩, trivial⟩
   ·cases h
  ·rename_i e hu
   split at h
   ·rename_i k he
    split at h
    ·rename_i hc
     cases h
     obtain ⟨A, L, C, Z, rfl, hr, hl⟩ := row_of_trod hu he hc.1 hc.2.2 htr hz
     exact ⟨rfl, ⟨A, L, C, Z, rfl, hr, hl⟩, trivial⟩
    ·cases h
   ·cases h
  ·rename_i m e hu
   split at h
   ·rename_i k he
    split at h
    ·rename_i hc
     cases h
     obtain ⟨xs, n, _, _, hcl, hxl, hx⟩ := DataW.trod_array hu htr
     rw [hc.2] at hcl
     have each : ∀ i, i < m → ∃ n, cs[i]? = some (.int k n) ∧ (Lit.int k n).wf = true := by
      intro i hi
      have h1 := hx i hi
      rw [hc.1, Nat.mul_one] at h1
      have h2 : xs[i]? = some (xs[i]'(by omega)) := List.getElem?_eq_getElem (by omega)
      rw [h2] at h1
      obtain ⟨n, e1, _, hw⟩ := DataW.trod_int he h1
      have hlt : i < cs.length := by omega
      rw [List.drop_eq_getElem_cons hlt] at e1
      simp only [List.take_succ_cons, List.take_zero, List.cons.injEq, and_true] at e1
      exact ⟨n, by rw [List.getElem?_eq_getElem hlt, e1], hw⟩
     refine ⟨by simp [width, Kd.width, hcl], ⟨cs.map fun v => match v with | .int _ n => n | _ => 0, by simp [hcl], fun j y hj => ?_, fun y hy => ?_⟩, trivial⟩
     ·simp only [List.getElem?_map, Option.map_eq_some_iff] at hj
      obtain ⟨v, hv, rfl⟩ := hj
      have hlt : j < cs.length := (List.getElem?_eq_some_iff.1 hv).1
      obtain ⟨n, e1, _⟩ := each j (by omega)
      rw [e1] at hv; cases hv
      rw [Nat.zero_add, e1]
     ·obtain ⟨v, hv, rfl⟩ := List.mem_map.1 hy
      obtain ⟨j, hj⟩ := List.getElem?_of_mem hv
      have hlt : j < cs.length := (List.getElem?_eq_some_iff.1 hj).1
      obtain ⟨n, e1, hw⟩ := each j (by omega)
      rw [e1] at hj; cases hj
      exact hw
    ·cases h
   ·cases h
  ·rename_i fs hu
   split at h
   ·rename_i ks' hks
    split at h
    ·rename_i hc
     cases h
     obtain ⟨xs, n, _, rfl, hcl, hxl, hx⟩ := DataW.trod_struct hu htr
     refine ⟨by rw [hcl, hc], ?_⟩
     have wt : ∀ (i : Nat) f y, fs[i]? = some f → xs[i]? = some y → ∀ n ∈ y.1.weights P f.type, n ≤ reachBytes := by
      intro i f y hf hy n hn
      refine hz n ?_
      simp only [DataW.weights, hu]
      exact DataW.weights_mem_each (j := i) (t := f.type) (d := y.1) (by simp [List.getElem?_map]; exact ⟨f, by simpa using hf, rfl⟩) (by simp [List.getElem?_map, hy]) n hn
     have all : ∀ (fl : List Field) (o i : Nat) (ks : List Kd), fieldsO P (kindsO P d) fl o = some ks → (∀ j f, fl[j]? = some f → fs[i + j]? = some f) → KdsAt w ks cs o := by
      intro fl
      induction fl with
      | nil => intro o i ks h _; simp only [fieldsO, Option.some.injEq] at h; subst h; trivial
      | cons fd r ih =>
       intro o i ks h hf
       simp only [fieldsO] at h
       split at h
       ·rename_i k1 k2 h1 h2
        split at h
        ·rename_i hq
         cases h
         obtain ⟨ho, hcw⟩ := hq
         have hfi : fs[i]? = some fd := by simpa using hf 0 fd rfl
         have hxi := hx i fd hfi
         have hlt : i < xs.length := by rw [hxl]; exact (Array.getElem?_eq_some_iff.1 hfi).1
         have h3 : xs[i]? = some xs[i] := List.getElem?_eq_getElem hlt
         rw [h3] at hxi
         obtain ⟨_, g2⟩ := kinds_of_trod d h1 hxi (wt i fd _ hfi h3)
         rw [ho, hcw] at g2
         refine KdsAt.append (by have := KdsAt.shift (p := 0) (by omega) g2; simpa using this) ?_
         rw [← hcw]
         exact ih (o + P.cellsOf fd.type) (i + 1) k2 h2 fun j f hj => by have := hf (j + 1) f (by simpa using hj); rwa [show i + 1 + j = i + (j + 1) by omega]
        ·cases h
       ·cases h
     exact all fs.toList 0 0 ks hks fun j f hj => by rw [Nat.zero_add]; simpa using hj
    ·cases h
   ·cases h
  ·cases h
end
def Col.wf : Col → Prop
 | .ints k l => ∀ x ∈ l, (Lit.int k x).wf = true
 | .bools _ => True
 | .arrs k _ ll => ∀ l ∈ ll, ∀ x ∈ l, (Lit.int k x).wf = true
 | .rows k ll => ∀ l ∈ ll, l.length ≤ reachBytes ∧ ∀ x ∈ l, (Lit.int k x).wf = true
 | .strs _ => True
 | .hss _ _ => False
theorem wf_noHss {cs : List Col} (h : ∀ col ∈ cs, col.wf) : noHss cs = true := by
 simp only [noHss, List.all_eq_true, Bool.not_eq_true']
 intro c hc
 have := h c hc
 cases c <;> first | rfl | exact this.elim
section
variable {H : Type} {enc : TypeId × Value → H} {P : Program} {w : World}
theorem LawArgs.recs {j : Nat} {A : Option Addr} {len cap : Nat} {L : Loc} {cs : List Col} {xs : List AV} {vs : List Value} {τ : Mem} (hV : VRep w L cs) (hv : Value.slice A len cap = .slice L.a L.len L.cap) (t : LawArgs w (j + 1) xs vs τ) (hj : j < 1000 := by decide) (hn : noHss cs = true := by first | rfl | exact wf_noHss (by assumption)) :
  LawArgs w j (.one (.vec (200000 + j)) :: xs) (.slice A len cap :: vs) ((200000 + j, .rview cs) :: τ) := .row L cs hj hV hv t hn
theorem KdsAt.rows {q : IntKind} {r : List Kd} {cs : List Value} {o : Nat} (h : KdsAt w (.rows q :: r) cs o) : ∃ A L C Z, IsRow q w A L C Z ∧ Z.length ≤ reachBytes ∧ cs.drop o = .slice A L C :: cs.drop (o + 1) ∧ KdsAt w r cs (o + 1) := by
 obtain ⟨⟨A, L, C, Z, h1, h2, h3⟩, h4⟩ := h
 have hlt := (List.getElem?_eq_some_iff.1 h1)
 obtain ⟨hl, he⟩ := hlt
 exact ⟨A, L, C, Z, h2, h3, by rw [List.drop_eq_getElem_cons hl, he], h4⟩
theorem KdsAt.ints {q : IntKind} {r : List Kd} {cs : List Value} {o : Nat} (h : KdsAt w (.ints q :: r) cs o) : ∃ n, (Lit.int q n).wf = true ∧ cs.drop o = .int q n :: cs.drop (o + 1) ∧ KdsAt w r cs (o + 1) := by
 obtain ⟨⟨n, h1, h2⟩, h4⟩ := h
 obtain ⟨hl, he⟩ := (List.getElem?_eq_some_iff.1 h1)
 exact ⟨n, h2, by rw [List.drop_eq_getElem_cons hl, he], h4⟩
theorem KdsAt.bools {r : List Kd} {cs : List Value} {o : Nat} (h : KdsAt w (.bools :: r) cs o) : ∃ b, cs.drop o = .bool b :: cs.drop (o + 1) ∧ KdsAt w r cs (o + 1) := by
 obtain ⟨⟨b, h1⟩, h4⟩ := h
 obtain ⟨hl, he⟩ := (List.getElem?_eq_some_iff.1 h1)
 exact ⟨b, by rw [List.drop_eq_getElem_cons hl, he], h4⟩
theorem KdsAt.arrs {q : IntKind} {m : Nat} {r : List Kd} {cs : List Value} {o : Nat} (h : KdsAt w (.arrs q m :: r) cs o) (hl : o + m ≤ cs.length) : ∃ l : List Int, l.length = m ∧ (∀ x ∈ l, (Lit.int q x).wf = true) ∧ cs.drop o = l.map (Value.int q) ++ cs.drop (o + m) ∧ KdsAt w r cs (o + m) := by
 obtain ⟨⟨l, h1, h2, h3⟩, h4⟩ := h
 refine ⟨l, h1, h3, ?_, h4⟩
 conv => lhs; rw [← List.take_append_drop m (cs.drop o), List.drop_drop]
 congr 1
 refine List.ext_getElem? fun j => ?_
 rw [List.getElem?_take]
 by_cases hj : j < m
 ·rw [if_pos hj, List.getElem?_drop]
  have : l[j]? = some (l[j]'(by omega)) := List.getElem?_eq_getElem (by omega)
  rw [h2 j _ this]
  simp [this]
 ·rw [if_neg hj, List.getElem?_eq_none (by simp; omega)]
theorem open_struct {t : TypeId} {fs : Array Field} {ks : List Kd} {v : Value} {d : DataW H} {ps : List MemPlace} {r : Reach} {b0 : Nat} (ht : P.underlying t = some (.struct fs)) (hk : kindsO P 8 t = some ks) (hv : Value.okWide P w r b0 t v)
  (h : DataW.Trod enc P w 0 (fun _ => true) true t v d ps) {ts : List TypeId} {ds : List (DataW H)} (hsz : (DataW.weightsEach P ts ds).all (· ≤ reachBytes) = true) {j : Nat} (htj : ts[j]? = some t) (hdj : ds[j]? = some d) :
  ∃ cs : List Value, v = .agg cs.toArray ∧ cs.length = width ks ∧ KdsAt w ks cs 0 := by
 obtain ⟨cs, rfl, _⟩ := okWide_struct ht hv
 obtain ⟨fuel, hf⟩ := h
 have hall : ∀ n ∈ d.weights P t, n ≤ reachBytes := fun n hn => by
  have := List.all_eq_true.1 hsz n (DataW.weights_mem_each htj hdj n hn)
  simpa using this
 obtain ⟨h1, h2⟩ := kinds_of_trod 8 hk hf hall
 exact ⟨cs.toList, by simp, h1, h2⟩
end
end Go.Sx
namespace Go.Sx
open Go
structure I64 (i : Int) : Prop where
 lo : -9223372036854775808 ≤ i
 hi : i < 9223372036854775808
theorem leq_self (a : List Int) : leq a a = true := by rw [leq_true]
theorem seq_self (a : List Int) : seq2 (bytesOf a) (bytesOf a) = true := seq2_self rfl
theorem res_yes {d : Nat} {σ σ' : Mem} {K : AV → Mem → Prop} {b : Bool} (e : b = true) (hK : K (.one (.lit true)) σ) : Res d 0 σ K (.one (.bool b)) σ' := by
 subst e
 have hv : ResV [] d (.one (.bool true)) (.one (.lit true)) := Or.inl ⟨fun _ => rfl, fun _ => rfl, fun _ _ q => q⟩
 exact res_plain hv hK
theorem wf_i64 {n : Int} (h : (Lit.int .i64 n).wf = true) : I64 n := by
 obtain ⟨h1, h2⟩ := Go.bounds_i64 h
 exact ⟨by omega, by omega⟩
theorem IsRow.i64 {w : World} {a : Option Addr} {len cap : Nat} {zs : List Int} (h : IsRow .i64 w a len cap zs) : ∀ i, i < (zs.take len).length → I64 (lget (zs.take len) i) := by
 intro i hi
 have hm : lget (zs.take len) i ∈ zs.take len := List.mem_of_getElem? (lget_some hi)
 rcases h with ⟨_, _, _, rfl⟩ | ⟨x, _, _, _, _, _, hw⟩
 ·simp at hi
 ·exact wf_i64 (hw _ (List.mem_of_mem_take hm))
def okR : AV → Mem → Prop := fun av _ => av = .one (.bool true) ∨ av = .one (.lit true)
theorem okR_bool {b : Bool} {σ : Mem} (h : b = true) : okR (.one (.bool b)) σ := by subst h; exact Or.inl rfl
end Go.Sx
namespace Go.Hsh
open Go Go.Sx
structure At (l W T : List Int) (n : Int) : Prop where
 t : T = (stA l).2.1
 n : n = (l.length : Int)
 w : 64 ≤ l.length → W = (stA l).1
 len : W.length = 8
theorem At.new : At [] (lzeros 8) (lzeros 64) (Int.ofNat 0) := ⟨rfl, rfl, fun h => by simp at h, rfl⟩
theorem At.ready {l W T : List Int} {n : Int} (h : At l W T n) : readied (W, T, nat n) = stA l := by
 obtain ⟨rfl, rfl, hw, _⟩ := h
 unfold readied
 rw [nat_cast]
 obtain ⟨W', T', n', hs⟩ : ∃ W' T' n', stA l = (W', T', n') := ⟨_, _, _, rfl⟩
 have hn := stA_n l
 rw [hs] at hn hw ⊢
 simp only at hn hw ⊢
 subst hn
 split
 ·rename_i q
  have := stA_few q
  rw [hs] at this
  rw [← this]
 ·rename_i q
  rw [hw (by omega)]
theorem At.add {l W T : List Int} {n : Int} (h : At l W T n) (p : List Int) : At (l ++ p) (addW W T n p) (addT W T n p) (addN W T n p) := by
 have e : addH (W, T, nat n) p = stA (l ++ p) := by unfold addH; rw [h.ready, stA_app]
 refine ⟨by rw [addT_eq, e], by rw [addN_eq, e, stA_n], fun _ => by rw [addW_eq, e], by rw [addW_eq, e]; exact stA_W _⟩
theorem At.sum {l W T : List Int} {n : Int} (h : At l W T n) : sumL W T n = shaL l := by
 rw [sumL_eq, shaL_eq]
 unfold sumH sha addH
 rw [h.ready, h.n, nat_cast, ← stA_app, fillOf_eq]
theorem At.ok {l W T : List Int} {n : Int} (h : At l W T n) {more : Nat} (hm : l.length + more ≤ 1125899906842624) : HOk W T n more :=
 ⟨h.len, by rw [h.t]; exact stA_T l, by rw [h.n]; omega, by rw [h.n, Int.toNat_natCast]; exact hm⟩
end Go.Hsh
namespace Go.Sx
open Go Go.Hsh
theorem glob_roots {w : World} {g : Nat} (T : ∀ i, i < 64 → w.cell? ⟨g, i, none⟩ = some (.int .u32 (rootsL.getD i 0))) : ∀ ρ, Glob ρ → segsOk [.ints .u32 64 rootsL] ∧ CellsAt ρ w (gname g) (flat [.ints .u32 64 rootsL]) := by
 intro ρ hρ
 refine ⟨⟨rfl, trivial⟩, fun j a hj => ?_⟩
 have e : flat [.ints .u32 64 rootsL] = rootsL.map (.int .u32) := by simp [flat, Seg.flat]
 rw [e, List.getElem?_map] at hj
 cases hq : rootsL[j]? with
 | none => rw [hq] at hj; cases hj
 | some v =>
  rw [hq] at hj
  simp only [Option.map_some, Option.some.injEq] at hj
  subst hj
  have hlt : j < 64 := by
   have := (List.getElem?_eq_some_iff.mp hq).1
   exact this
  refine ⟨.int .u32 v, ?_, rfl⟩
  have ea : at_ ρ (gname g) j = ⟨g, j, none⟩ := by unfold at_; rw [(hρ g).1, (hρ g).2, Nat.zero_add]
  rw [ea, T j hlt]
  rw [List.getD_eq_getElem?_getD, hq]; rfl
end Go.Sx
namespace Go.Mac
open Go Go.Sx Go.Hsh
theorem lget_app (a : List Int) (n j : Nat) : lget (a ++ List.replicate n 0) j = lget a j := by
 unfold lget
 rw [List.getD_eq_getElem?_getD, List.getD_eq_getElem?_getD]
 by_cases h : j < a.length
 ·rw [List.getElem?_append_left h]
 ·rw [List.getElem?_append_right (by omega), List.getElem?_eq_none (l := a) (by omega), List.getElem?_replicate]
  split <;> rfl
theorem lput_zeros {K : List Int} (h : K.length ≤ 64) : lput (lzeros 64) 0 (lsub K 0 (min K.length 64)) = tab 64 (lget K) := by
 rw [lsub_take, List.take_of_length_le (by omega)]
 have e : lput (lzeros 64) 0 K = K ++ List.replicate (64 - K.length) 0 := by
  unfold lput lzeros; rw [List.take_zero, List.nil_append, Nat.zero_add, List.drop_replicate]
 rw [e, eq_tab (l := K ++ _) (n := 64) (by simp; omega)]
 exact tab_ext fun j _ => lget_app _ _ _
theorem At.of {l W T : List Int} (hW : W = (stA l).1) (hT : T = (stA l).2.1) : At l W T (l.length : Int) := ⟨hT, rfl, fun _ => hW, by rw [hW]; exact stA_W l⟩
theorem pad_at (key : List Int) (m : Int) : At (padK key m) (pdW key m) (pdT key m) 64 := by
 have := At.of (pdW_eq key m) (pdT_eq key m)
 rw [padK_len] at this
 exact this
end Go.Mac
namespace Go.Proofs.YtmgbaimcjkhieaaDoor.G
open Go Go.Sx Go.Hsh Go.Mac
set_option maxRecDepth 20000
theorem roots_at {σ : Mem} (h : hasRoots σ) : Mem.find σ (gname 0) = some (.view [.ints .u32 64 rootsL]) := by
 unfold hasRoots at h
 split at h <;> try exact h.elim
 rename_i l hg
 subst h; exact hg
theorem mpadded_l0 {R : AV → Mem → Prop} {key K : List Int} {m : Int} (hK : K = keyL key) (hR : ∀ W T n σ, W = pdW key m → T = pdT key m → n = 64 → R (.agg [.ints .u32 8 W, .ints .u8 64 T, .cells [.int .u64 n]]) σ) :
  ∃ f, mpadded.l0 R m key f 0 (tab 64 (lget K)) := by
 have key' := loop_ex (fun f i x => mpadded.l0 R m key f i x) 64 (fun i => upto 64 i (fun j => bxor .u8 (lget K j) m) (lget K))
  (fun g i hi h => ⟨g + 1, by
   rw [mpadded.l0_succ]
   refine ⟨fun _ => ?_, fun q => ?_⟩
   ·simp only [InB_iff, Low_iff, nat_cast, nadd_def, Nat.zero_add]
    refine ⟨by omega, hi, by omega, hi, ?_⟩
    rw [add1_i64 (by omega), upto_hi (Nat.le_refl _) hi, upto_lset rfl]
    exact h
   ·rw [ilt_false] at q; omega⟩)
  ⟨1, by
   rw [mpadded.l0_succ]
   refine ⟨fun q => ?_, fun _ => ?_⟩
   ·rw [ilt_true] at q; omega
   ·rw [upto_done, hK]
    have e : lsub (tab 64 fun j => bxor .u8 (lget (keyL key) j) m) 0 64 = padK key m := lsub_whole (tab_len _ _)
    rw [e]
    have a := At.new.add (padK key m)
    rw [List.nil_append] at a
    refine ⟨⟨by omega⟩, ⟨rfl, rfl, rfl, by decide, by rw [padK_len]; decide⟩, hR _ _ _ _ ?_ ?_ ?_⟩
    ·rw [pdW_eq]; exact a.w (by rw [padK_len]; omega)
    ·rw [pdT_eq]; exact a.t
    ·have := a.n; rw [padK_len] at this; exact this⟩
 obtain ⟨f, hf⟩ := key' 0 (by omega)
 rw [upto_zero] at hf
 exact ⟨f, hf⟩
theorem good_mpadded : Sx.Good Tryd.prog 27 padS := by
 refine Sx.Good.reads (D := []) mixed gamH5_good Tryd.func27 (by kernel_rfl) rfl fun d args σ K h => ?_
 simp only [padS] at h
 split at h <;> try exact h.elim
 rename_i x m
 obtain ⟨key, ⟨⟨hr, hk⟩, hK⟩, hrow⟩ := rdb_row h
 refine ⟨_, _, .row [.ints .u8] _ hrow (by decide) (.glob (roots_at hr) (by intro m; rfl) (.plain (plain_int _ _) (.nil _))), by simp, ?_⟩
 have hk := hk.le
 obtain ⟨f, hf⟩ := mpadded_l0 (R := Res d padS.news σ K) (key := key) (m := m) rfl (fun W T n σ' e1 e2 e3 => by
  subst e1 e2 e3
  have hv : ResV [] d (.agg [.ints .u32 8 (pdW key m), .ints .u8 64 (pdT key m), .cells [.int .u64 64]]) (.agg [.ints .u32 8 (pdW key m), .ints .u8 64 (pdT key m), .cells [.int .u64 64]]) := ⟨⟨rfl, rfl, rfl⟩, ⟨rfl, rfl, rfl⟩, ⟨Or.inl ⟨fun _ => rfl, fun _ => rfl, fun _ _ q => q⟩, trivial⟩, trivial⟩
  exact res_plain hv hK)
 refine ⟨f + 1, ?_⟩
 have e := mpadded_vc (Res d padS.news σ K) f key m
 refine e.mpr ⟨fun q => ?_, fun q => ?_⟩
 ·rw [igt_true] at q; simp only [ofNat, llen] at q
  refine ⟨⟨rfl, ⟨by omega⟩⟩, ⟨by omega⟩, ⟨by omega⟩, ?_⟩
  have e1 : keyL key = sha key := by unfold keyL; rw [if_pos (by omega)]
  rw [e1] at hf
  rw [shaL_eq, show lsub (sha key) 0 32 = sha key from lsub_whole (sha_len key), nmin_def, llen_def, lput_zeros (by rw [sha_len]; omega)]
  exact hf
 ·rw [igt_false] at q; simp only [ofNat, llen] at q
  refine ⟨⟨by omega⟩, ?_⟩
  have e1 : keyL key = key := by unfold keyL; rw [if_neg (by omega)]
  rw [e1] at hf
  rw [nmin_def, llen_def, lput_zeros (by omega)]
  exact hf
theorem good_mmasked : Sx.Good Tryd.prog 29 mmaskS := by
 refine Sx.Good.reads (D := [⟨0, [.ints .u8], false, false⟩, ⟨6, [.ints .u8], true, false⟩]) mixed gamH5_good Tryd.func29 (by kernel_rfl) rfl fun d args σ K h => ?_
 simp only [mmaskS] at h
 split at h <;> try exact h.elim
 rename_i x m
 obtain ⟨key, ⟨⟨hk, hb⟩, hK⟩, hrow⟩ := rdb_row h
 refine ⟨_, _, .row [.ints .u8] _ hrow (by decide) (.plain (plain_int _ _) (.nil _)), by simp, ?_⟩
 have hk := hk.le
 rw [mskL_eq] at hK
 by_cases q : 64 < key.length
 ·have e1 : keyL key = sha key := by unfold keyL; rw [if_pos q]
  have hl : (sha key).length = 32 := sha_len key
  obtain ⟨f, hf⟩ := loop_ex (fun f i y => mmasked.l0 (Res d mmaskS.news σ K) m key f i y) 64 (fun i => tab i fun j => bxor .u8 (lget (keyL key) j) m)
   (fun g i hi h => ⟨g + 1, by
    rw [mmasked.l0_succ, shaL_eq, show lsub (sha key) 0 32 = sha key from lsub_whole hl]
    simp only [ofNat_def, llen_def, hl, nat_cast, nadd_def, lcat_def, tab_len, List.length_singleton, InB_iff]
    rw [add1_i64 (by omega)]
    rw [tab_succ, e1] at h
    refine ⟨fun _ => ⟨fun r => ⟨⟨by omega, by rw [ilt_true] at r; omega⟩, room1 (by omega), ?_⟩, fun r => ⟨room1 (by omega), ?_⟩⟩, fun r => ?_⟩
    ·rw [e1]; exact h
    ·rw [ilt_false] at r
     have e2 : lget (sha key) i = 0 := by unfold lget; rw [List.getD_eq_getElem?_getD, List.getElem?_eq_none (by omega)]; rfl
     rw [e2] at h
     rw [e1]; exact h
    ·rw [ilt_false] at r; omega⟩)
   ⟨1, by
    rw [mmasked.l0_succ]
    refine ⟨fun r => ?_, fun _ => res_vec (k := .u8) rfl rfl hK⟩
    rw [ilt_true] at r; omega⟩ 0 (by omega)
  refine ⟨f + 1, ?_⟩
  have e := mmasked_vc (Res d mmaskS.news σ K) f key m
  refine e.mpr ⟨fun _ => ⟨⟨⟨by omega⟩, hb⟩, hf⟩, fun r => ?_⟩
  rw [igt_false] at r; simp only [ofNat, llen] at r; omega
 ·have e1 : keyL key = key := by unfold keyL; rw [if_neg q]
  obtain ⟨f, hf⟩ := loop_ex (fun f i y => mmasked.l1 (Res d mmaskS.news σ K) m key f i y) 64 (fun i => tab i fun j => bxor .u8 (lget (keyL key) j) m)
   (fun g i hi h => ⟨g + 1, by
    rw [mmasked.l1_succ]
    simp only [ofNat_def, llen_def, nat_cast, nadd_def, lcat_def, tab_len, List.length_singleton, InB_iff]
    rw [add1_i64 (by omega)]
    rw [tab_succ, e1] at h
    refine ⟨fun _ => ⟨fun r => ⟨⟨by omega, by rw [ilt_true] at r; omega⟩, room1 (by omega), ?_⟩, fun r => ⟨room1 (by omega), ?_⟩⟩, fun r => ?_⟩
    ·rw [e1]; exact h
    ·rw [ilt_false] at r
     have e2 : lget key i = 0 := by unfold lget; rw [List.getD_eq_getElem?_getD, List.getElem?_eq_none (by omega)]; rfl
     rw [e2] at h
     rw [e1]; exact h
    ·rw [ilt_false] at r; omega⟩)
   ⟨1, by
    rw [mmasked.l1_succ]
    refine ⟨fun r => ?_, fun _ => res_vec (k := .u8) rfl rfl hK⟩
    rw [ilt_true] at r; omega⟩ 0 (by omega)
  refine ⟨f + 1, ?_⟩
  have e := mmasked_vc (Res d mmaskS.news σ K) f key m
  refine e.mpr ⟨fun r => ?_, fun _ => hf⟩
  rw [igt_true] at r; simp only [ofNat, llen] at r; omega
theorem gamM1_good : GoodG Tryd.prog gamM1 :=
 (gamH5_good.ext good_mpadded ⟨_, Tryd.func27, by decide, by kernel_rfl⟩).ext good_mmasked ⟨_, Tryd.func29, by decide, by kernel_rfl⟩
theorem good_mtag : Sx.Good Tryd.prog 11 tagS := by
 refine Sx.Good.reads (D := []) mixed gamM1_good Tryd.func11 (by kernel_rfl) rfl fun d args σ K h => ?_
 simp only [tagS] at h
 split at h <;> try exact h.elim
 obtain ⟨key, h, hrow⟩ := rdb_row h
 obtain ⟨msg, ⟨⟨hr, hk, hm⟩, hK⟩, hrow2⟩ := rdb_row h
 refine ⟨_, _, .row [.ints .u8] _ hrow (by decide) (.row [.ints .u8] _ hrow2 (by decide) (.glob (roots_at hr) (by intro m; rfl) (.nil _))), by simp, 1, ?_⟩
 have e := mtag_vc (Res d tagS.news σ K) 0 key msg
 refine e.mpr ?_
 have hml := hm.le
 have a1 := (pad_at key 54).add msg
 have e1 : lsub (sumL (addW (pdW key 54) (pdT key 54) 64 msg) (addT (pdW key 54) (pdT key 54) 64 msg) (addN (pdW key 54) (pdT key 54) 64 msg)) 0 32 = sha (padK key 54 ++ msg) := by
  rw [a1.sum, shaL_eq]; exact lsub_whole (sha_len _)
 have a2 := (pad_at key 92).add (sha (padK key 54 ++ msg))
 have l1 := padK_len key 54
 have l2 := padK_len key 92
 have l3 := sha_len (padK key 54 ++ msg)
 refine ⟨⟨rfl, hk⟩, ⟨rfl, (pad_at key 54).ok (by omega)⟩, ⟨rfl, a1.ok (by rw [List.length_append]; omega)⟩, ⟨rfl, hk⟩, ⟨by omega⟩, ?_⟩
 simp only [e1]
 refine ⟨⟨trivial, (pad_at key 92).ok (by omega)⟩, ⟨trivial, a2.ok (by rw [List.length_append]; omega)⟩, res_arr ?_ hK⟩
 rw [a2.sum, shaL_eq, tagL_eq]; rfl
theorem good_mrtag : Sx.Good Tryd.prog 13 rtagS := by
 refine Sx.Good.reads (D := []) mixed gamM1_good Tryd.func13 (by kernel_rfl) rfl fun d args σ K h => ?_
 simp only [rtagS] at h
 split at h <;> try exact h.elim
 obtain ⟨key, h, hrow⟩ := rdb_row h
 obtain ⟨msg, ⟨⟨⟨hk, hkb⟩, hm, hmb⟩, hK⟩, hrow2⟩ := rdb_row h
 refine ⟨_, _, .row [.ints .u8] _ hrow (by decide) (.row [.ints .u8] _ hrow2 (by decide) (.nil _)), by simp, 1, ?_⟩
 have e := mrtag_vc (Res d rtagS.news σ K) 0 key msg
 refine e.mpr ?_
 have hml := hm.le
 have l1 := padK_len key 54
 have l2 := padK_len key 92
 have l3 := sha_len (padK key 54 ++ msg)
 have b1 : Bs (padK key 54) := padK_bytes hkb (by decide)
 have b2 : Bs (padK key 92) := padK_bytes hkb (by decide)
 simp only [mskL_eq, shaL_eq, lcat_def, show lsub (sha (padK key 54 ++ msg)) 0 32 = sha (padK key 54 ++ msg) from lsub_whole (sha_len _), nadd_def, llen_def, l1, l2, l3]
 refine ⟨⟨hk, hkb⟩, roomw (by omega), ⟨⟨by rw [List.length_append]; omega⟩, b1.app hmb⟩, ⟨hk, hkb⟩, ⟨by omega⟩, roomw (by omega), ⟨⟨by rw [List.length_append]; omega⟩, b2.app (sha_bytes _)⟩, res_arr ?_ hK⟩
 rw [tagL_eq]; rfl
theorem gamM2_good : GoodG Tryd.prog gamM2 :=
 (gamM1_good.ext good_mtag ⟨_, Tryd.func11, by decide, by kernel_rfl⟩).ext good_mrtag ⟨_, Tryd.func13, by decide, by kernel_rfl⟩
theorem exT_succ (key info : List Int) (i : Nat) : exT key info (i + 1) = tagL key (exT key info i ++ info ++ [conv .u8 ((i + 1 : Nat) : Int)]) := by rw [tagL_eq]; rfl
theorem exO_succ (key info : List Int) (i : Nat) : exO key info (i + 1) = exO key info i ++ exT key info (i + 1) := rfl
theorem good_mexpand : Sx.Good Tryd.prog 17 expandS := by
 refine Sx.Good.reads (D := [⟨8, [.ints .u8], true, false⟩, ⟨9, [.ints .u8], false, false⟩, ⟨6, [.ints .u8], true, true⟩]) mixed gamM2_good Tryd.func17 (by kernel_rfl) rfl fun d args σ K h => ?_
 simp only [expandS] at h
 split at h <;> try exact h.elim
 rename_i x y n
 obtain ⟨key, h, hrow⟩ := rdb_row h
 obtain ⟨info, ⟨⟨hr, hkey, hi⟩, hK⟩, hrow2⟩ := rdb_row h
 refine ⟨_, _, .row [.ints .u8] _ hrow (by decide) (.row [.ints .u8] _ hrow2 (by decide) (.glob (roots_at hr) (by intro m; rfl) (.plain (plain_int _ _) (.nil _)))), by simp, ?_⟩
 have hil := hi.le
 rw [exL_eq] at hK
 by_cases c1 : n < 0
 ·refine ⟨1, ?_⟩
  have e := mexpand_vc (Res d expandS.news σ K) 0 key info n
  refine e.mpr ⟨fun _ => ?_, fun q => ?_⟩
  ·exact res_tvec rfl (.int (by unfold exE; rw [if_pos c1]) .nil) (by unfold exR; rw [if_pos c1]) hK
  ·rw [ilt_false] at q; omega
 by_cases c2 : 8160 < n
 ·refine ⟨1, ?_⟩
  have e := mexpand_vc (Res d expandS.news σ K) 0 key info n
  refine e.mpr ⟨fun q => ?_, fun _ => ⟨fun _ => ?_, fun q => ?_⟩⟩
  ·rw [ilt_true] at q; omega
  ·exact res_tvec rfl (.int (by unfold exE; rw [if_neg c1, if_pos c2]) .nil) (by unfold exR; rw [if_neg c1, if_pos c2]) hK
  ·rw [igt_false] at q; omega
 obtain ⟨N, rfl⟩ := Int.eq_ofNat_of_zero_le (show 0 ≤ n by omega)
 have hl : ∀ k i, k = (N + 31) / 32 - i → i ≤ (N + 31) / 32 → ∃ f, mexpand.l0 (Res d expandS.news σ K) (N : Int) key info f ((i + 1 : Nat) : Int) (exO key info i) (exT key info i) := by
  intro k
  induction k with
  | zero =>
   intro i hk hi
   refine ⟨1, ?_⟩
   rw [mexpand.l0_succ]
   simp only [ofNat_def, llen_def, exO_len, nat_cast, NonNeg_iff, Fits_iff]
   refine ⟨fun q => ?_, fun _ => ⟨⟨by omega, by omega⟩, ?_⟩⟩
   ·rw [ilt_true] at q; omega
   ·refine res_tvec rfl (.int (by unfold exE; rw [if_neg c1, if_neg c2]) .nil) ?_ hK
    unfold exR
    rw [if_neg c1, if_neg c2, Int.toNat_natCast, lsub_take, show (N + 31) / 32 = i by omega]
  | succ k ih =>
   intro i hk hi
   obtain ⟨f, hf⟩ := ih (i + 1) (by omega) (by omega)
   refine ⟨f + 1, ?_⟩
   rw [mexpand.l0_succ]
   have hT := exT_le key info i
   have e1 : add .i64 ((exT key info i).length : Int) (info.length : Int) = (((exT key info i).length + info.length : Nat) : Int) := addN_i64 (by omega)
   have e2 : add .i64 (((exT key info i).length + info.length : Nat) : Int) 1 = (((exT key info i).length + info.length + 1 : Nat) : Int) := add1_i64 (by omega)
   have e3 : lsub (exT key info (i + 1)) 0 32 = exT key info (i + 1) := lsub_whole (exT_len _ _ (by omega))
   simp only [ofNat_def, llen_def, exO_len, nat_cast, lcat_def, lzeros, List.replicate_zero, List.nil_append, nadd_def, List.length_append, List.length_singleton, e1, e2, ← exT_succ, e3, ← exO_succ, exT_len key info (show 0 < i + 1 by omega), Mk_iff]
   rw [add1_i64 (by omega)]
   refine ⟨fun _ => ⟨by omega, roomw (by omega), roomw (by omega), roomw (by omega), ⟨trivial, hkey, ⟨by simp only [List.length_append, List.length_singleton]; omega⟩⟩, ⟨by omega⟩, roomw (by omega), hf⟩, fun q => ?_⟩
   rw [ilt_false] at q; omega
 obtain ⟨f, hf⟩ := hl _ 0 rfl (by omega)
 refine ⟨f + 1, ?_⟩
 have e := mexpand_vc (Res d expandS.news σ K) f key info (N : Int)
 refine e.mpr ⟨fun q => ?_, fun _ => ⟨fun q => ?_, fun _ => ⟨?_, hf⟩⟩⟩
 ·rw [ilt_true] at q; omega
 ·rw [igt_true] at q; omega
 ·have e1 : add .i64 (N : Int) 32 = ((N + 32 : Nat) : Int) := addN_i64 (b := 32) (by omega)
  rw [e1]; simp only [Mk_iff]; omega
theorem good_mrexpand : Sx.Good Tryd.prog 18 rexpandS := by
 refine Sx.Good.reads (D := [⟨8, [.ints .u8], true, false⟩, ⟨9, [.ints .u8], false, false⟩, ⟨6, [.ints .u8], true, true⟩]) mixed gamM2_good Tryd.func18 (by kernel_rfl) rfl fun d args σ K h => ?_
 simp only [rexpandS] at h
 split at h <;> try exact h.elim
 rename_i x y n
 obtain ⟨key, h, hrow⟩ := rdb_row h
 obtain ⟨info, ⟨⟨⟨hkey, hkb⟩, hi, hib⟩, hK⟩, hrow2⟩ := rdb_row h
 refine ⟨_, _, .row [.ints .u8] _ hrow (by decide) (.row [.ints .u8] _ hrow2 (by decide) (.plain (plain_int _ _) (.nil _))), by simp, ?_⟩
 have hil := hi.le
 rw [exL_eq] at hK
 by_cases c1 : n < 0
 ·refine ⟨1, ?_⟩
  have e := mrexpand_vc (Res d rexpandS.news σ K) 0 key info n
  refine e.mpr ⟨fun _ => ?_, fun q => ?_⟩
  ·exact res_tvec rfl (.int (by unfold exE; rw [if_pos c1]) .nil) (by unfold exR; rw [if_pos c1]) hK
  ·rw [ilt_false] at q; omega
 by_cases c2 : 8160 < n
 ·refine ⟨1, ?_⟩
  have e := mrexpand_vc (Res d rexpandS.news σ K) 0 key info n
  refine e.mpr ⟨fun q => ?_, fun _ => ⟨fun _ => ?_, fun q => ?_⟩⟩
  ·rw [ilt_true] at q; omega
  ·exact res_tvec rfl (.int (by unfold exE; rw [if_neg c1, if_pos c2]) .nil) (by unfold exR; rw [if_neg c1, if_pos c2]) hK
  ·rw [igt_false] at q; omega
 obtain ⟨N, rfl⟩ := Int.eq_ofNat_of_zero_le (show 0 ≤ n by omega)
 have hl : ∀ k i, k = (N + 31) / 32 - i → i ≤ (N + 31) / 32 → ∃ f, mrexpand.l0 (Res d rexpandS.news σ K) (N : Int) key info f ((i + 1 : Nat) : Int) (exO key info i) (exT key info i) := by
  intro k
  induction k with
  | zero =>
   intro i hk hi
   refine ⟨1, ?_⟩
   rw [mrexpand.l0_succ]
   simp only [ofNat_def, llen_def, exO_len, nat_cast, NonNeg_iff, Fits_iff]
   refine ⟨fun q => ?_, fun _ => ⟨⟨by omega, by omega, by omega, by omega⟩, ⟨by omega, by omega⟩, ?_⟩⟩
   ·rw [ilt_true] at q; omega
   ·refine res_tvec rfl (.int (by unfold exE; rw [if_neg c1, if_neg c2]) .nil) ?_ hK
    unfold exR
    rw [if_neg c1, if_neg c2, Int.toNat_natCast, lsub_take, show (N + 31) / 32 = i by omega]
  | succ k ih =>
   intro i hk hi
   obtain ⟨f, hf⟩ := ih (i + 1) (by omega) (by omega)
   refine ⟨f + 1, ?_⟩
   rw [mrexpand.l0_succ]
   have hT := exT_le key info i
   have e3 : lsub (exT key info (i + 1)) 0 32 = exT key info (i + 1) := lsub_whole (exT_len _ _ (by omega))
   have hb : Bs (exT key info i ++ info ++ [conv .u8 ((i + 1 : Nat) : Int)]) := ((exT_bytes _ _ _).app hib).app (.cons (conv_u8_byte _).1 (conv_u8_byte _).2 .nil)
   simp only [ofNat_def, llen_def, exO_len, nat_cast, lcat_def, List.nil_append, nadd_def, List.length_append, List.length_singleton, ← exT_succ, e3, ← exO_succ, exT_len key info (show 0 < i + 1 by omega)]
   rw [add1_i64 (by omega)]
   refine ⟨fun _ => ⟨roomw (by omega), roomw (by omega), roomw (by omega), ⟨⟨hkey, hkb⟩, ⟨by simp only [List.length_append, List.length_singleton]; omega⟩, hb⟩, ⟨by omega⟩, roomw (by omega), hf⟩, fun q => ?_⟩
   rw [ilt_false] at q; omega
 obtain ⟨f, hf⟩ := hl _ 0 rfl (by omega)
 refine ⟨f + 1, ?_⟩
 have e := mrexpand_vc (Res d rexpandS.news σ K) f key info (N : Int)
 refine e.mpr ⟨fun q => ?_, fun _ => ⟨fun q => ?_, fun _ => hf⟩⟩
 ·rw [ilt_true] at q; omega
 ·rw [igt_true] at q; omega
theorem gamM3_good : GoodG Tryd.prog gamM3 :=
 (gamM2_good.ext good_mexpand ⟨_, Tryd.func17, by decide, by kernel_rfl⟩).ext good_mrexpand ⟨_, Tryd.func18, by decide, by kernel_rfl⟩
theorem off_byte {x a b : Int} (hx : 0 ≤ x ∧ x < 256) (ha : 0 ≤ a ∧ a < 256) (hb : 0 ≤ b ∧ b < 256) :
  (0 ≤ bor .u8 x (bxor .u8 a b) ∧ bor .u8 x (bxor .u8 a b) < 256) ∧ (bor .u8 x (bxor .u8 a b) = 0 ↔ x = 0 ∧ a = b) := by
 obtain ⟨p, rfl⟩ := Int.eq_ofNat_of_zero_le hx.1
 obtain ⟨q, rfl⟩ := Int.eq_ofNat_of_zero_le ha.1
 obtain ⟨r, rfl⟩ := Int.eq_ofNat_of_zero_le hb.1
 have h1 : q ^^^ r < 2 ^ 8 := Nat.xor_lt_two_pow (by omega) (by omega)
 rw [bxor_u8 (by omega) (by omega), bor_u8 (by omega) (by omega)]
 have h2 : p ||| (q ^^^ r) < 2 ^ 8 := Nat.or_lt_two_pow (by omega) h1
 refine ⟨by omega, ?_⟩
 have h3 : p ||| (q ^^^ r) = 0 ↔ p = 0 ∧ q ^^^ r = 0 := Nat.or_eq_zero_iff
 have h4 : q ^^^ r = 0 ↔ q = r := by
  constructor
  ·intro h
   have e : (q ^^^ r) ^^^ r = q := by rw [Nat.xor_assoc, Nat.xor_self, Nat.xor_zero]
   rw [h, Nat.zero_xor] at e; exact e.symm
  ·rintro rfl; exact Nat.xor_self _
 omega
theorem mequal_l0 {R : AV → Mem → Prop} {a b : List Int} (ha : Bs a) (hb : Bs b) (hl : a.length = b.length) (hs : a.length < 4611686018427387904) (hR : ∀ q σ, q = leq a b → R (.one (.bool q)) σ) :
  ∀ (k i : Nat) (x : Int), k = a.length - i → i ≤ a.length → (0 ≤ x ∧ x < 256) → (x = 0 ↔ ∀ j, j < i → lget a j = lget b j) → ∃ f, mequal.l0 R a b f x (i : Int) := by
 intro k
 induction k with
 | zero =>
  intro i x hk hi hx he
  refine ⟨1, ?_⟩
  rw [mequal.l0_succ]
  refine ⟨fun q => ?_, fun _ => hR _ _ ?_⟩
  ·rw [ilt_true] at q; simp only [ofNat, llen] at q; omega
  ·obtain rfl : i = a.length := by omega
   have h1 : a = b ↔ ∀ j, j < a.length → lget a j = lget b j := by
    constructor
    ·rintro rfl; exact fun _ _ => rfl
    ·intro h
     rw [eq_tab (l := a) rfl, eq_tab (l := b) hl.symm]
     exact tab_ext h
   cases hq : leq a b with
   | true => rw [leq_true] at hq; rw [ieq_true]; exact he.mpr (h1.mp hq)
   | false => rw [leq_false] at hq; rw [ieq_false]; exact fun h0 => hq (h1.mpr (he.mp h0))
 | succ k ih =>
  intro i x hk hi hx he
  have g := off_byte hx (ha.get i) (hb.get i)
  obtain ⟨f, hf⟩ := ih (i + 1) (bor .u8 x (bxor .u8 (lget a i) (lget b i))) (by omega) (by omega) g.1 (by
   refine g.2.trans ?_
   constructor
   ·rintro ⟨h0, h1⟩ j hj
    by_cases hji : j = i
    ·subst hji; exact h1
    ·exact he.mp h0 j (by omega)
   ·intro h
    exact ⟨he.mpr fun j hj => h j (by omega), h i (by omega)⟩)
  refine ⟨f + 1, ?_⟩
  rw [mequal.l0_succ]
  simp only [nat_cast, ofNat_def, llen_def, InB_iff]
  rw [add1_i64 (by omega)]
  refine ⟨fun _ => ⟨⟨by omega, by omega⟩, ⟨by omega, by omega⟩, hf⟩, fun q => ?_⟩
  rw [ilt_false] at q; omega
theorem good_mequal : Sx.Good Tryd.prog 12 equalS := by
 refine Sx.Good.reads (D := []) mixed gamM1_good Tryd.func12 (by kernel_rfl) rfl fun d args σ K h => ?_
 simp only [equalS] at h
 split at h <;> try exact h.elim
 obtain ⟨a, h, hrow⟩ := rdb_row h
 obtain ⟨b, ⟨⟨⟨ha, hab⟩, hb, hbb⟩, hK⟩, hrow2⟩ := rdb_row h
 refine ⟨_, _, .row [.ints .u8] _ hrow (by decide) (.row [.ints .u8] _ hrow2 (by decide) (.nil _)), by simp, ?_⟩
 have hal := ha.le
 by_cases hl : a.length = b.length
 ·obtain ⟨f, hf⟩ := mequal_l0 (R := Res d equalS.news σ K) hab hbb hl (by omega) (fun q σ' e => res_bool e hK) a.length 0 0 (by omega) (by omega) (by decide) (by simp)
  refine ⟨f + 1, ?_⟩
  have e := mequal_vc (Res d equalS.news σ K) f a b
  refine e.mpr ⟨fun q => ?_, fun _ => hf⟩
  rw [ine_true] at q; simp only [ofNat, llen] at q; omega
 ·refine ⟨1, ?_⟩
  have e := mequal_vc (Res d equalS.news σ K) 0 a b
  refine e.mpr ⟨fun _ => res_lit ?_ hK, fun q => ?_⟩
  ·have : leq a b = false := by rw [leq_false]; rintro rfl; exact hl rfl
   rw [this]
  ·rw [ine_false] at q; simp only [ofNat, llen] at q; omega
theorem good_mrequal : Sx.Good Tryd.prog 15 equalS := by
 refine Sx.Good.reads (D := []) mixed gamM1_good Tryd.func15 (by kernel_rfl) rfl fun d args σ K h => ?_
 simp only [equalS] at h
 split at h <;> try exact h.elim
 obtain ⟨a, h, hrow⟩ := rdb_row h
 obtain ⟨b, ⟨⟨⟨ha, hab⟩, hb, hbb⟩, hK⟩, hrow2⟩ := rdb_row h
 refine ⟨_, _, .row [.ints .u8] _ hrow (by decide) (.row [.ints .u8] _ hrow2 (by decide) (.nil _)), by simp, 1, ?_⟩
 have e := mrequal_vc (Res d equalS.news σ K) 0 a b
 refine e.mpr (res_bool ?_ hK)
 cases hq : leq a b with
 | true => rw [leq_true] at hq; exact seq2_self hq
 | false =>
  rw [leq_false] at hq
  cases hs : seq2 (bytesOf a) (bytesOf b) with
  | false => rfl
  | true => exact absurd (bytes_eq hab hbb (seq2_true.mp hs)) hq
theorem good_mextract : Sx.Good Tryd.prog 16 tagS := by
 refine Sx.Good.reads (D := []) mixed gamM2_good Tryd.func16 (by kernel_rfl) rfl fun d args σ K h => ?_
 simp only [tagS] at h
 split at h <;> try exact h.elim
 obtain ⟨key, h, hrow⟩ := rdb_row h
 obtain ⟨msg, ⟨⟨hr, hk, hm⟩, hK⟩, hrow2⟩ := rdb_row h
 refine ⟨_, _, .row [.ints .u8] _ hrow (by decide) (.row [.ints .u8] _ hrow2 (by decide) (.glob (roots_at hr) (by intro m; rfl) (.nil _))), by simp, 1, ?_⟩
 have e := mextract_vc (Res d tagS.news σ K) 0 key msg
 exact e.mpr ⟨⟨rfl, hk, hm⟩, res_arr rfl hK⟩
theorem good_mrextract : Sx.Good Tryd.prog 14 rtagS := by
 refine Sx.Good.reads (D := []) mixed gamM2_good Tryd.func14 (by kernel_rfl) rfl fun d args σ K h => ?_
 simp only [rtagS] at h
 split at h <;> try exact h.elim
 obtain ⟨key, h, hrow⟩ := rdb_row h
 obtain ⟨msg, ⟨⟨⟨hk, hkb⟩, hm, hmb⟩, hK⟩, hrow2⟩ := rdb_row h
 refine ⟨_, _, .row [.ints .u8] _ hrow (by decide) (.row [.ints .u8] _ hrow2 (by decide) (.nil _)), by simp, 1, ?_⟩
 have e := mrextract_vc (Res d rtagS.news σ K) 0 key msg
 exact e.mpr ⟨⟨⟨hk, hkb⟩, hm, hmb⟩, res_arr rfl hK⟩
theorem gamM3x_good : GoodG Tryd.prog gamM3x :=
 (((gamM3_good.ext good_mextract ⟨_, Tryd.func16, by decide, by kernel_rfl⟩).ext good_mrextract ⟨_, Tryd.func14, by decide, by kernel_rfl⟩).ext good_mequal ⟨_, Tryd.func12, by decide, by kernel_rfl⟩).ext good_mrequal ⟨_, Tryd.func15, by decide, by kernel_rfl⟩
theorem tag_len (a b : List Int) : (tagL a b).length = 32 := by rw [tagL_eq]; exact hmac_len _ _
theorem tag_whole (a b : List Int) : lsub (tagL a b) 0 32 = tagL a b := lsub_whole (tag_len a b)
theorem tag_bytes (a b : List Int) : Bs (tagL a b) := by rw [tagL_eq]; exact hmac_bytes _ _
theorem tag_sg (a b : List Int) : Sg (tagL a b) := ⟨by rw [tag_len]; omega⟩
theorem good_mderive : Sx.Good Tryd.prog 19 deriveS := by
 refine Sx.Good.reads (D := []) mixed gamM3x_good Tryd.func19 (by kernel_rfl) rfl fun d args σ K h => ?_
 simp only [deriveS] at h
 split at h <;> try exact h.elim
 rename_i x y z n
 obtain ⟨s, h, hrow⟩ := rdb_row h
 obtain ⟨a, h, hrow2⟩ := rdb_row h
 obtain ⟨i, ⟨⟨hr, hs, ha, hi⟩, hK⟩, hrow3⟩ := rdb_row h
 refine ⟨_, _, .row [.ints .u8] _ hrow (by decide) (.row [.ints .u8] _ hrow2 (by decide) (.row [.ints .u8] _ hrow3 (by decide) (.glob (roots_at hr) (by intro m; rfl) (.plain (plain_int _ _) (.nil _))))), by simp, 1, ?_⟩
 have e := mderive_vc (Res d deriveS.news σ K) 0 s a i n
 refine e.mpr ?_
 rw [tag_whole]
 exact ⟨⟨rfl, ha, hs⟩, ⟨by omega⟩, ⟨rfl, tag_sg _ _, hi⟩, res_tvec rfl (.int rfl .nil) rfl hK⟩
theorem good_mrderive : Sx.Good Tryd.prog 20 rderiveS := by
 refine Sx.Good.reads (D := []) mixed gamM3x_good Tryd.func20 (by kernel_rfl) rfl fun d args σ K h => ?_
 simp only [rderiveS] at h
 split at h <;> try exact h.elim
 rename_i x y z n
 obtain ⟨s, h, hrow⟩ := rdb_row h
 obtain ⟨a, h, hrow2⟩ := rdb_row h
 obtain ⟨i, ⟨⟨⟨hs, hsb⟩, ⟨ha, hab⟩, hi, hib⟩, hK⟩, hrow3⟩ := rdb_row h
 refine ⟨_, _, .row [.ints .u8] _ hrow (by decide) (.row [.ints .u8] _ hrow2 (by decide) (.row [.ints .u8] _ hrow3 (by decide) (.plain (plain_int _ _) (.nil _)))), by simp, 1, ?_⟩
 have e := mrderive_vc (Res d rderiveS.news σ K) 0 s a i n
 refine e.mpr ?_
 rw [tag_whole]
 exact ⟨⟨⟨ha, hab⟩, hs, hsb⟩, ⟨by omega⟩, ⟨⟨tag_sg _ _, tag_bytes _ _⟩, hi, hib⟩, res_tvec rfl (.int rfl .nil) rfl hK⟩
theorem gamM4_good : GoodG Tryd.prog gamM4 :=
 (gamM3x_good.ext good_mderive ⟨_, Tryd.func19, by decide, by kernel_rfl⟩).ext good_mrderive ⟨_, Tryd.func20, by decide, by kernel_rfl⟩
end Go.Proofs.YtmgbaimcjkhieaaDoor.G
