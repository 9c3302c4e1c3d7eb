import Derived.Test.YtnpfockaigegiaaDropOrderE
import Derived.Test.YtnpfockaigegiaaProg
set_option linter.unusedSimpArgs false
set_option linter.unusedVariables false
namespace Go.Proofs.Ytnpfockaigegiaa.G
open Go Go.Sx Go.Sx
set_option maxRecDepth 100000
def lorder.k0 (R : AV → Mem → Prop) (ll : List (List Int)) (c : List Int) (fuel m : Nat) : Prop := runM Try.prog gamD4 [⟨5,[.ints .i64],true,false⟩,⟨7,[.ints .i64],true,false⟩,⟨10,[.rows .u8],true,false⟩,⟨777777,[],true,false⟩] (resh Try.prog [⟨5,[.ints .i64],true,false⟩,⟨7,[.ints .i64],true,false⟩,⟨10,[.rows .u8],true,false⟩,⟨777777,[],true,false⟩] Try.f4.results.toList R) (run Try.prog gamD4 [⟨5,[.ints .i64],true,false⟩,⟨7,[.ints .i64],true,false⟩,⟨10,[.rows .u8],true,false⟩,⟨777777,[],true,false⟩] (resh Try.prog [⟨5,[.ints .i64],true,false⟩,⟨7,[.ints .i64],true,false⟩,⟨10,[.rows .u8],true,false⟩,⟨777777,[],true,false⟩] Try.f4.results.toList R) fuel) m [kc Try.f4 [1,0,1,0,1],kc Try.f4 [1,1,1]] (Vv 200000::Vv 200001::Uu::Uu::Ll true::(zs 6 (Uu::(zs 5 (us 4 (zs 93 [])))))) [(200000,Blk.rview [Col.rows IntKind.u8 ll]),(200001,Blk.rview [Col.ints IntKind.i64 c])]
def lorder.k1 (R : AV → Mem → Prop) (x0 : Int) (ll : List (List Int)) (x1 c : List Int) (fuel m : Nat) : Prop := runM Try.prog gamD4 [⟨5,[.ints .i64],true,false⟩,⟨7,[.ints .i64],true,false⟩,⟨10,[.rows .u8],true,false⟩,⟨777777,[],true,false⟩] (resh Try.prog [⟨5,[.ints .i64],true,false⟩,⟨7,[.ints .i64],true,false⟩,⟨10,[.rows .u8],true,false⟩,⟨777777,[],true,false⟩] Try.f4.results.toList R) (run Try.prog gamD4 [⟨5,[.ints .i64],true,false⟩,⟨7,[.ints .i64],true,false⟩,⟨10,[.rows .u8],true,false⟩,⟨777777,[],true,false⟩] (resh Try.prog [⟨5,[.ints .i64],true,false⟩,⟨7,[.ints .i64],true,false⟩,⟨10,[.rows .u8],true,false⟩,⟨777777,[],true,false⟩] Try.f4.results.toList R) fuel) m [ki Try.f4 [1,1,1,1,0,1,0,0],.inBlock 0,kc Try.f4 [1,1,1,1,1]] (Vv 200000::Vv 200001::Uu::Uu::Uu::Vv 100005::Ii x0::(zs 4 (Uu::(zs 5 (us 8 (Ii (ofNat (llen (lzeros (nat (ofNat (llen ll))))))::Ii (add IntKind.i64 x0 1)::Ll true::Ii x0::Vv 100005::Ii x0::Ii x0::AV.one (AC.vptr 100005 1 (nat x0) 0 0)::Ii (add IntKind.i64 x0 1)::(zs 80 []))))))) [(100005,Blk.vec [Col.ints IntKind.i64 (lset x1 (nat x0) x0)]),(200000,Blk.rview [Col.rows IntKind.u8 ll]),(200001,Blk.rview [Col.ints IntKind.i64 c])]
def lorder.k2 (R : AV → Mem → Prop) (x0 : Int) (ll : List (List Int)) (x1 c : List Int) (fuel m : Nat) : Prop := runM Try.prog gamD4 [⟨5,[.ints .i64],true,false⟩,⟨7,[.ints .i64],true,false⟩,⟨10,[.rows .u8],true,false⟩,⟨777777,[],true,false⟩] (resh Try.prog [⟨5,[.ints .i64],true,false⟩,⟨7,[.ints .i64],true,false⟩,⟨10,[.rows .u8],true,false⟩,⟨777777,[],true,false⟩] Try.f4.results.toList R) (run Try.prog gamD4 [⟨5,[.ints .i64],true,false⟩,⟨7,[.ints .i64],true,false⟩,⟨10,[.rows .u8],true,false⟩,⟨777777,[],true,false⟩] (resh Try.prog [⟨5,[.ints .i64],true,false⟩,⟨7,[.ints .i64],true,false⟩,⟨10,[.rows .u8],true,false⟩,⟨777777,[],true,false⟩] Try.f4.results.toList R) fuel) m [kc Try.f4 [1,1,1,1,0,1,0,0,1,1,0,0,1],.inBlock 1,kc Try.f4 [1,1,1,1,0,1,0,0,1,1,1],ki Try.f4 [1,1,1,1,0,1,0,0],.inBlock 0,kc Try.f4 [1,1,1,1,1]] (Vv 200000::Vv 200001::Uu::Uu::Uu::Vv 100005::Ii x0::(zs 4 (Uu::(zs 5 (us 8 (Ii (ofNat (llen (lzeros (nat (ofNat (llen ll))))))::Ii x0::Ll true::Ii x0::(us 5 (zs 80 [])))))))) [(100005,Blk.vec [Col.ints IntKind.i64 x1]),(200000,Blk.rview [Col.rows IntKind.u8 ll]),(200001,Blk.rview [Col.ints IntKind.i64 c])]
def lorder.k3 (R : AV → Mem → Prop) (ll : List (List Int)) (x0 : Int) (x1 c : List Int) (fuel m : Nat) : Prop := runM Try.prog gamD4 [⟨5,[.ints .i64],true,false⟩,⟨7,[.ints .i64],true,false⟩,⟨10,[.rows .u8],true,false⟩,⟨777777,[],true,false⟩] (resh Try.prog [⟨5,[.ints .i64],true,false⟩,⟨7,[.ints .i64],true,false⟩,⟨10,[.rows .u8],true,false⟩,⟨777777,[],true,false⟩] Try.f4.results.toList R) (run Try.prog gamD4 [⟨5,[.ints .i64],true,false⟩,⟨7,[.ints .i64],true,false⟩,⟨10,[.rows .u8],true,false⟩,⟨777777,[],true,false⟩] (resh Try.prog [⟨5,[.ints .i64],true,false⟩,⟨7,[.ints .i64],true,false⟩,⟨10,[.rows .u8],true,false⟩,⟨777777,[],true,false⟩] Try.f4.results.toList R) fuel) m [kc Try.f4 [1,0,1,1],kc Try.f4 [1,1,1,1,0,1,0,0,1,1],ki Try.f4 [1,1,1,1,0,1,0,0],.inBlock 0,kc Try.f4 [1,1,1,1,1]] (Vv 200000::Vv 200001::Uu::Uu::Uu::Vv 100005::Uu::(zs 4 (Uu::(zs 5 (us 8 (Ii (ofNat (llen (lzeros (nat (ofNat (llen ll))))))::Ii x0::Ll true::(us 6 (zs 80 [])))))))) [(100005,Blk.vec [Col.ints IntKind.i64 x1]),(200000,Blk.rview [Col.rows IntKind.u8 ll]),(200001,Blk.rview [Col.ints IntKind.i64 c])]
def lorder.k4 (R : AV → Mem → Prop) (x2 : Int) (c x3 : List Int) (ll : List (List Int)) (x4 y5 : List Int) (fuel m : Nat) : Prop := runM Try.prog gamD4 [⟨5,[.ints .i64],true,false⟩,⟨7,[.ints .i64],true,false⟩,⟨10,[.rows .u8],true,false⟩,⟨777777,[],true,false⟩] (resh Try.prog [⟨5,[.ints .i64],true,false⟩,⟨7,[.ints .i64],true,false⟩,⟨10,[.rows .u8],true,false⟩,⟨777777,[],true,false⟩] Try.f4.results.toList R) (run Try.prog gamD4 [⟨5,[.ints .i64],true,false⟩,⟨7,[.ints .i64],true,false⟩,⟨10,[.rows .u8],true,false⟩,⟨777777,[],true,false⟩] (resh Try.prog [⟨5,[.ints .i64],true,false⟩,⟨7,[.ints .i64],true,false⟩,⟨10,[.rows .u8],true,false⟩,⟨777777,[],true,false⟩] Try.f4.results.toList R) fuel) m [ki Try.f4 [1,1,1,1,1,1,0,1,0,0],.inBlock 2,kc Try.f4 [1,1,1,1,1,1,1]] (Vv 200000::Vv 200001::Uu::Uu::Uu::Vv 64::Uu::Vv 56::Ii x2::Ii (placeI (lget c (nat x2)) (ofNat (llen x3)))::Zz::Uu::(zs 5 (us 18 (Ii (ofNat (llen ll))::Ii (add IntKind.i64 x2 1)::Ll true::Ii x2::Ii x2::Vv 200001::Ii (ofNat (llen c))::Ll true::Vv 200001::Ii x2::AV.one (AC.vptr 200001 1 (nat x2) 0 0)::Ii (lget c (nat x2))::Vv 100005::Ii (ofNat (llen x3))::Ii (placeI (lget c (nat x2)) (ofNat (llen x3)))::Vv 100007::Vv 100005::Ii (placeI (lget c (nat x2)) (ofNat (llen x3)))::AV.one (AC.vptr 100005 1 (nat (placeI (lget c (nat x2)) (ofNat (llen x3)))) 0 0)::Ii (lget x3 (nat (placeI (lget c (nat x2)) (ofNat (llen x3)))))::Vv 55::Vv 56::Vv 100005::Ii (placeI (lget c (nat x2)) (ofNat (llen x3)))::AV.one (AC.vsl 100005 1 0 (nat (placeI (lget c (nat x2)) (ofNat (llen x3)))))::Vv 100005::Ii (placeI (lget c (nat x2)) (ofNat (llen x3)))::Ii (add IntKind.i64 (placeI (lget c (nat x2)) (ofNat (llen x3))) 1)::AV.one (AC.vsl 100005 1 (nat (add IntKind.i64 (placeI (lget c (nat x2)) (ofNat (llen x3))) 1)) (nsub (llen x3) (nat (add IntKind.i64 (placeI (lget c (nat x2)) (ofNat (llen x3))) 1))))::Vv 64::Ii (add IntKind.i64 x2 1)::(zs 48 []))))) [(55,Blk.vec [Col.ints IntKind.i64 [(lget x3 (nat (placeI (lget c (nat x2)) (ofNat (llen x3)))))]]),(56,Blk.vec [Col.ints IntKind.i64 (lcat x4 [(lget x3 (nat (placeI (lget c (nat x2)) (ofNat (llen x3)))))])]),(64,Blk.vec [Col.ints IntKind.i64 y5]),(200000,Blk.rview [Col.rows IntKind.u8 ll]),(200001,Blk.rview [Col.ints IntKind.i64 c])]
def lorder.k5 (R : AV → Mem → Prop) (x2 : Int) (c x3 : List Int) (ll : List (List Int)) (x4 : List Int) (fuel m : Nat) : Prop := runM Try.prog gamD4 [⟨5,[.ints .i64],true,false⟩,⟨7,[.ints .i64],true,false⟩,⟨10,[.rows .u8],true,false⟩,⟨777777,[],true,false⟩] (resh Try.prog [⟨5,[.ints .i64],true,false⟩,⟨7,[.ints .i64],true,false⟩,⟨10,[.rows .u8],true,false⟩,⟨777777,[],true,false⟩] Try.f4.results.toList R) (run Try.prog gamD4 [⟨5,[.ints .i64],true,false⟩,⟨7,[.ints .i64],true,false⟩,⟨10,[.rows .u8],true,false⟩,⟨777777,[],true,false⟩] (resh Try.prog [⟨5,[.ints .i64],true,false⟩,⟨7,[.ints .i64],true,false⟩,⟨10,[.rows .u8],true,false⟩,⟨777777,[],true,false⟩] Try.f4.results.toList R) fuel) m [.inBlock 3,kc Try.f4 [1,1,1,1,1,1,0,1,0,0,1,1,1],ki Try.f4 [1,1,1,1,1,1,0,1,0,0],.inBlock 2,kc Try.f4 [1,1,1,1,1,1,1]] (Vv 200000::Vv 200001::Uu::Uu::Uu::Vv 64::Uu::Vv 56::Ii x2::Ii (placeI (lget c (nat x2)) (ofNat (llen x3)))::Zz::Uu::(zs 5 (us 18 (Ii (ofNat (llen ll))::Ii x2::Ll true::Ii x2::Ii x2::Vv 200001::Ii (ofNat (llen c))::Ll true::Vv 200001::Ii x2::AV.one (AC.vptr 200001 1 (nat x2) 0 0)::Ii (lget c (nat x2))::Vv 100005::Ii (ofNat (llen x3))::Ii (placeI (lget c (nat x2)) (ofNat (llen x3)))::Vv 100007::Vv 100005::Ii (placeI (lget c (nat x2)) (ofNat (llen x3)))::AV.one (AC.vptr 100005 1 (nat (placeI (lget c (nat x2)) (ofNat (llen x3)))) 0 0)::Ii (lget x3 (nat (placeI (lget c (nat x2)) (ofNat (llen x3)))))::Vv 55::Vv 56::Vv 100005::Ii (placeI (lget c (nat x2)) (ofNat (llen x3)))::AV.one (AC.vsl 100005 1 0 (nat (placeI (lget c (nat x2)) (ofNat (llen x3)))))::Vv 100005::Ii (placeI (lget c (nat x2)) (ofNat (llen x3)))::Ii (add IntKind.i64 (placeI (lget c (nat x2)) (ofNat (llen x3))) 1)::AV.one (AC.vsl 100005 1 (nat (add IntKind.i64 (placeI (lget c (nat x2)) (ofNat (llen x3))) 1)) (nsub (llen x3) (nat (add IntKind.i64 (placeI (lget c (nat x2)) (ofNat (llen x3))) 1))))::Vv 64::Uu::(zs 48 []))))) [(55,Blk.vec [Col.ints IntKind.i64 [(lget x3 (nat (placeI (lget c (nat x2)) (ofNat (llen x3)))))]]),(56,Blk.vec [Col.ints IntKind.i64 (lcat x4 [(lget x3 (nat (placeI (lget c (nat x2)) (ofNat (llen x3)))))])]),(64,Blk.vec [Col.ints IntKind.i64 (lcat (lsub x3 0 (nat (placeI (lget c (nat x2)) (ofNat (llen x3))))) (lsub x3 (nat (add IntKind.i64 (placeI (lget c (nat x2)) (ofNat (llen x3))) 1)) (nsub (llen x3) (nat (add IntKind.i64 (placeI (lget c (nat x2)) (ofNat (llen x3))) 1)))))]),(200000,Blk.rview [Col.rows IntKind.u8 ll]),(200001,Blk.rview [Col.ints IntKind.i64 c])]
def lorder.k6 (R : AV → Mem → Prop) (x2 : Int) (c x3 : List Int) (ll : List (List Int)) (x4 : List Int) (fuel m : Nat) : Prop := runM Try.prog gamD4 [⟨5,[.ints .i64],true,false⟩,⟨7,[.ints .i64],true,false⟩,⟨10,[.rows .u8],true,false⟩,⟨777777,[],true,false⟩] (resh Try.prog [⟨5,[.ints .i64],true,false⟩,⟨7,[.ints .i64],true,false⟩,⟨10,[.rows .u8],true,false⟩,⟨777777,[],true,false⟩] Try.f4.results.toList R) (run Try.prog gamD4 [⟨5,[.ints .i64],true,false⟩,⟨7,[.ints .i64],true,false⟩,⟨10,[.rows .u8],true,false⟩,⟨777777,[],true,false⟩] (resh Try.prog [⟨5,[.ints .i64],true,false⟩,⟨7,[.ints .i64],true,false⟩,⟨10,[.rows .u8],true,false⟩,⟨777777,[],true,false⟩] Try.f4.results.toList R) fuel) m [kc Try.f4 [1,1,1,1,1,1,0,1,0,0,1,1,0,0,1,1,1,1],.inBlock 3,kc Try.f4 [1,1,1,1,1,1,0,1,0,0,1,1,1],ki Try.f4 [1,1,1,1,1,1,0,1,0,0],.inBlock 2,kc Try.f4 [1,1,1,1,1,1,1]] (Vv 200000::Vv 200001::Uu::Uu::Uu::Vv 100005::Uu::Vv 56::Ii x2::Ii (placeI (lget c (nat x2)) (ofNat (llen x3)))::Zz::Uu::(zs 5 (us 18 (Ii (ofNat (llen ll))::Ii x2::Ll true::Ii x2::Ii x2::Vv 200001::Ii (ofNat (llen c))::Ll true::Vv 200001::Ii x2::AV.one (AC.vptr 200001 1 (nat x2) 0 0)::Ii (lget c (nat x2))::Vv 100005::Ii (ofNat (llen x3))::Ii (placeI (lget c (nat x2)) (ofNat (llen x3)))::Vv 100007::Vv 100005::Ii (placeI (lget c (nat x2)) (ofNat (llen x3)))::AV.one (AC.vptr 100005 1 (nat (placeI (lget c (nat x2)) (ofNat (llen x3)))) 0 0)::Ii (lget x3 (nat (placeI (lget c (nat x2)) (ofNat (llen x3)))))::Vv 55::Vv 56::(us 9 (zs 48 [])))))) [(55,Blk.vec [Col.ints IntKind.i64 [(lget x3 (nat (placeI (lget c (nat x2)) (ofNat (llen x3)))))]]),(56,Blk.vec [Col.ints IntKind.i64 (lcat x4 [(lget x3 (nat (placeI (lget c (nat x2)) (ofNat (llen x3)))))])]),(100005,Blk.vec [Col.ints IntKind.i64 x3]),(200000,Blk.rview [Col.rows IntKind.u8 ll]),(200001,Blk.rview [Col.ints IntKind.i64 c])]
def lorder.k7 (R : AV → Mem → Prop) (x2 : Int) (c x3 : List Int) (ll : List (List Int)) (x4 : List Int) (fuel m : Nat) : Prop := runM Try.prog gamD4 [⟨5,[.ints .i64],true,false⟩,⟨7,[.ints .i64],true,false⟩,⟨10,[.rows .u8],true,false⟩,⟨777777,[],true,false⟩] (resh Try.prog [⟨5,[.ints .i64],true,false⟩,⟨7,[.ints .i64],true,false⟩,⟨10,[.rows .u8],true,false⟩,⟨777777,[],true,false⟩] Try.f4.results.toList R) (run Try.prog gamD4 [⟨5,[.ints .i64],true,false⟩,⟨7,[.ints .i64],true,false⟩,⟨10,[.rows .u8],true,false⟩,⟨777777,[],true,false⟩] (resh Try.prog [⟨5,[.ints .i64],true,false⟩,⟨7,[.ints .i64],true,false⟩,⟨10,[.rows .u8],true,false⟩,⟨777777,[],true,false⟩] Try.f4.results.toList R) fuel) m [kc Try.f4 [1,1,1,1,1,1,0,1,0,0,1,1,0,0,1,1,1],.inBlock 3,kc Try.f4 [1,1,1,1,1,1,0,1,0,0,1,1,1],ki Try.f4 [1,1,1,1,1,1,0,1,0,0],.inBlock 2,kc Try.f4 [1,1,1,1,1,1,1]] (Vv 200000::Vv 200001::Uu::Uu::Uu::Vv 100005::Uu::Vv 100007::Ii x2::Ii (placeI (lget c (nat x2)) (ofNat (llen x3)))::Zz::Uu::(zs 5 (us 18 (Ii (ofNat (llen ll))::Ii x2::Ll true::Ii x2::Ii x2::Vv 200001::Ii (ofNat (llen c))::Ll true::Vv 200001::Ii x2::AV.one (AC.vptr 200001 1 (nat x2) 0 0)::Ii (lget c (nat x2))::Vv 100005::Ii (ofNat (llen x3))::Ii (placeI (lget c (nat x2)) (ofNat (llen x3)))::(us 16 (zs 48 [])))))) [(100005,Blk.vec [Col.ints IntKind.i64 x3]),(100007,Blk.vec [Col.ints IntKind.i64 x4]),(200000,Blk.rview [Col.rows IntKind.u8 ll]),(200001,Blk.rview [Col.ints IntKind.i64 c])]
def lorder.k8 (R : AV → Mem → Prop) (x2 : Int) (ll : List (List Int)) (c x3 x4 : List Int) (fuel m : Nat) : Prop := runM Try.prog gamD4 [⟨5,[.ints .i64],true,false⟩,⟨7,[.ints .i64],true,false⟩,⟨10,[.rows .u8],true,false⟩,⟨777777,[],true,false⟩] (resh Try.prog [⟨5,[.ints .i64],true,false⟩,⟨7,[.ints .i64],true,false⟩,⟨10,[.rows .u8],true,false⟩,⟨777777,[],true,false⟩] Try.f4.results.toList R) (run Try.prog gamD4 [⟨5,[.ints .i64],true,false⟩,⟨7,[.ints .i64],true,false⟩,⟨10,[.rows .u8],true,false⟩,⟨777777,[],true,false⟩] (resh Try.prog [⟨5,[.ints .i64],true,false⟩,⟨7,[.ints .i64],true,false⟩,⟨10,[.rows .u8],true,false⟩,⟨777777,[],true,false⟩] Try.f4.results.toList R) fuel) m [kc Try.f4 [1,1,1,1,1,1,0,1,0,0,1,1,0,0,1,1,0,1,0],kc Try.f4 [1,1,1,1,1,1,0,1,0,0,1,1,0,0,1,1,1],.inBlock 3,kc Try.f4 [1,1,1,1,1,1,0,1,0,0,1,1,1],ki Try.f4 [1,1,1,1,1,1,0,1,0,0],.inBlock 2,kc Try.f4 [1,1,1,1,1,1,1]] (Vv 200000::Vv 200001::Uu::Uu::Uu::Vv 100005::Uu::Vv 100007::Ii x2::Ii 0::Zz::Uu::(zs 5 (us 18 (Ii (ofNat (llen ll))::Ii x2::Ll true::Ii x2::Ii x2::Vv 200001::Ii (ofNat (llen c))::Ll true::(us 23 (zs 48 [])))))) [(100005,Blk.vec [Col.ints IntKind.i64 x3]),(100007,Blk.vec [Col.ints IntKind.i64 x4]),(200000,Blk.rview [Col.rows IntKind.u8 ll]),(200001,Blk.rview [Col.ints IntKind.i64 c])]
def lorder.k9 (R : AV → Mem → Prop) (x2 : Int) (ll : List (List Int)) (c x3 x4 : List Int) (fuel m : Nat) : Prop := runM Try.prog gamD4 [⟨5,[.ints .i64],true,false⟩,⟨7,[.ints .i64],true,false⟩,⟨10,[.rows .u8],true,false⟩,⟨777777,[],true,false⟩] (resh Try.prog [⟨5,[.ints .i64],true,false⟩,⟨7,[.ints .i64],true,false⟩,⟨10,[.rows .u8],true,false⟩,⟨777777,[],true,false⟩] Try.f4.results.toList R) (run Try.prog gamD4 [⟨5,[.ints .i64],true,false⟩,⟨7,[.ints .i64],true,false⟩,⟨10,[.rows .u8],true,false⟩,⟨777777,[],true,false⟩] (resh Try.prog [⟨5,[.ints .i64],true,false⟩,⟨7,[.ints .i64],true,false⟩,⟨10,[.rows .u8],true,false⟩,⟨777777,[],true,false⟩] Try.f4.results.toList R) fuel) m [ki Try.f4 [1,1,1,1,1,1,0,1,0,0],.inBlock 2,kc Try.f4 [1,1,1,1,1,1,1]] (Vv 200000::Vv 200001::Uu::Uu::Uu::Vv 64::Uu::Vv 56::Ii x2::Ii 0::Zz::Uu::(zs 5 (us 18 (Ii (ofNat (llen ll))::Ii (add IntKind.i64 x2 1)::Ll true::Ii x2::Ii x2::Vv 200001::Ii (ofNat (llen c))::Ll false::(us 7 (Vv 100007::Vv 100005::Ii 0::AV.one (AC.vptr 100005 1 0 0 0)::Ii (lget x3 0)::Vv 55::Vv 56::Vv 100005::Ii 0::AV.one (AC.vsl 100005 1 0 0)::Vv 100005::Ii 0::Ii 1::AV.one (AC.vsl 100005 1 1 (nsub (llen x3) 1))::Vv 64::Ii (add IntKind.i64 x2 1)::(zs 48 []))))))) [(55,Blk.vec [Col.ints IntKind.i64 [(lget x3 0)]]),(56,Blk.vec [Col.ints IntKind.i64 (lcat x4 [(lget x3 0)])]),(64,Blk.vec [Col.ints IntKind.i64 (lcat (lsub x3 0 0) (lsub x3 1 (nsub (llen x3) 1)))]),(200000,Blk.rview [Col.rows IntKind.u8 ll]),(200001,Blk.rview [Col.ints IntKind.i64 c])]
def lorder.k10 (R : AV → Mem → Prop) (x2 : Int) (ll : List (List Int)) (c x3 x4 : List Int) (fuel m : Nat) : Prop := runM Try.prog gamD4 [⟨5,[.ints .i64],true,false⟩,⟨7,[.ints .i64],true,false⟩,⟨10,[.rows .u8],true,false⟩,⟨777777,[],true,false⟩] (resh Try.prog [⟨5,[.ints .i64],true,false⟩,⟨7,[.ints .i64],true,false⟩,⟨10,[.rows .u8],true,false⟩,⟨777777,[],true,false⟩] Try.f4.results.toList R) (run Try.prog gamD4 [⟨5,[.ints .i64],true,false⟩,⟨7,[.ints .i64],true,false⟩,⟨10,[.rows .u8],true,false⟩,⟨777777,[],true,false⟩] (resh Try.prog [⟨5,[.ints .i64],true,false⟩,⟨7,[.ints .i64],true,false⟩,⟨10,[.rows .u8],true,false⟩,⟨777777,[],true,false⟩] Try.f4.results.toList R) fuel) m [kc Try.f4 [1,1,1,1,1,1,0,1,0,0,1,1,0,0,1,1,1,1],.inBlock 3,kc Try.f4 [1,1,1,1,1,1,0,1,0,0,1,1,1],ki Try.f4 [1,1,1,1,1,1,0,1,0,0],.inBlock 2,kc Try.f4 [1,1,1,1,1,1,1]] (Vv 200000::Vv 200001::Uu::Uu::Uu::Vv 100005::Uu::Vv 56::Ii x2::Ii 0::Zz::Uu::(zs 5 (us 18 (Ii (ofNat (llen ll))::Ii x2::Ll true::Ii x2::Ii x2::Vv 200001::Ii (ofNat (llen c))::Ll false::(us 7 (Vv 100007::Vv 100005::Ii 0::AV.one (AC.vptr 100005 1 0 0 0)::Ii (lget x3 0)::Vv 55::Vv 56::(us 9 (zs 48 [])))))))) [(55,Blk.vec [Col.ints IntKind.i64 [(lget x3 0)]]),(56,Blk.vec [Col.ints IntKind.i64 (lcat x4 [(lget x3 0)])]),(100005,Blk.vec [Col.ints IntKind.i64 x3]),(200000,Blk.rview [Col.rows IntKind.u8 ll]),(200001,Blk.rview [Col.ints IntKind.i64 c])]
def lorder.k11 (R : AV → Mem → Prop) (x2 : Int) (ll : List (List Int)) (c x3 x4 : List Int) (fuel m : Nat) : Prop := runM Try.prog gamD4 [⟨5,[.ints .i64],true,false⟩,⟨7,[.ints .i64],true,false⟩,⟨10,[.rows .u8],true,false⟩,⟨777777,[],true,false⟩] (resh Try.prog [⟨5,[.ints .i64],true,false⟩,⟨7,[.ints .i64],true,false⟩,⟨10,[.rows .u8],true,false⟩,⟨777777,[],true,false⟩] Try.f4.results.toList R) (run Try.prog gamD4 [⟨5,[.ints .i64],true,false⟩,⟨7,[.ints .i64],true,false⟩,⟨10,[.rows .u8],true,false⟩,⟨777777,[],true,false⟩] (resh Try.prog [⟨5,[.ints .i64],true,false⟩,⟨7,[.ints .i64],true,false⟩,⟨10,[.rows .u8],true,false⟩,⟨777777,[],true,false⟩] Try.f4.results.toList R) fuel) m [kc Try.f4 [1,0,1,1],kc Try.f4 [1,1,1,1,1,1,0,1,0,0,1,1,0,0,1,1,1],.inBlock 3,kc Try.f4 [1,1,1,1,1,1,0,1,0,0,1,1,1],ki Try.f4 [1,1,1,1,1,1,0,1,0,0],.inBlock 2,kc Try.f4 [1,1,1,1,1,1,1]] (Vv 200000::Vv 200001::Uu::Uu::Uu::Vv 100005::Uu::Vv 100007::Ii x2::Ii 0::Zz::Uu::(zs 5 (us 18 (Ii (ofNat (llen ll))::Ii x2::Ll true::Ii x2::Ii x2::Vv 200001::Ii (ofNat (llen c))::Ll false::(us 23 (zs 48 [])))))) [(100005,Blk.vec [Col.ints IntKind.i64 x3]),(100007,Blk.vec [Col.ints IntKind.i64 x4]),(200000,Blk.rview [Col.rows IntKind.u8 ll]),(200001,Blk.rview [Col.ints IntKind.i64 c])]
def lorder.k12 (R : AV → Mem → Prop) (x2 : Int) (ll : List (List Int)) (c x3 x4 : List Int) (fuel m : Nat) : Prop := runM Try.prog gamD4 [⟨5,[.ints .i64],true,false⟩,⟨7,[.ints .i64],true,false⟩,⟨10,[.rows .u8],true,false⟩,⟨777777,[],true,false⟩] (resh Try.prog [⟨5,[.ints .i64],true,false⟩,⟨7,[.ints .i64],true,false⟩,⟨10,[.rows .u8],true,false⟩,⟨777777,[],true,false⟩] Try.f4.results.toList R) (run Try.prog gamD4 [⟨5,[.ints .i64],true,false⟩,⟨7,[.ints .i64],true,false⟩,⟨10,[.rows .u8],true,false⟩,⟨777777,[],true,false⟩] (resh Try.prog [⟨5,[.ints .i64],true,false⟩,⟨7,[.ints .i64],true,false⟩,⟨10,[.rows .u8],true,false⟩,⟨777777,[],true,false⟩] Try.f4.results.toList R) fuel) m [kc Try.f4 [1,1,1,1,1,1,0,1,0,0,1,1,0,0,1,1,0,1],kc Try.f4 [1,1,1,1,1,1,0,1,0,0,1,1,0,0,1,1,1],.inBlock 3,kc Try.f4 [1,1,1,1,1,1,0,1,0,0,1,1,1],ki Try.f4 [1,1,1,1,1,1,0,1,0,0],.inBlock 2,kc Try.f4 [1,1,1,1,1,1,1]] (Vv 200000::Vv 200001::Uu::Uu::Uu::Vv 100005::Uu::Vv 100007::Ii x2::Ii 0::Zz::Uu::(zs 5 (us 18 (Ii (ofNat (llen ll))::Ii x2::Ll true::Ii x2::Ii x2::Vv 200001::Ii (ofNat (llen c))::Bb (ilt x2 (ofNat (llen c)))::(us 23 (zs 48 [])))))) [(100005,Blk.vec [Col.ints IntKind.i64 x3]),(100007,Blk.vec [Col.ints IntKind.i64 x4]),(200000,Blk.rview [Col.rows IntKind.u8 ll]),(200001,Blk.rview [Col.ints IntKind.i64 c])]
def lorder.k13 (R : AV → Mem → Prop) (x2 : Int) (ll : List (List Int)) (x3 x4 c : List Int) (fuel m : Nat) : Prop := runM Try.prog gamD4 [⟨5,[.ints .i64],true,false⟩,⟨7,[.ints .i64],true,false⟩,⟨10,[.rows .u8],true,false⟩,⟨777777,[],true,false⟩] (resh Try.prog [⟨5,[.ints .i64],true,false⟩,⟨7,[.ints .i64],true,false⟩,⟨10,[.rows .u8],true,false⟩,⟨777777,[],true,false⟩] Try.f4.results.toList R) (run Try.prog gamD4 [⟨5,[.ints .i64],true,false⟩,⟨7,[.ints .i64],true,false⟩,⟨10,[.rows .u8],true,false⟩,⟨777777,[],true,false⟩] (resh Try.prog [⟨5,[.ints .i64],true,false⟩,⟨7,[.ints .i64],true,false⟩,⟨10,[.rows .u8],true,false⟩,⟨777777,[],true,false⟩] Try.f4.results.toList R) fuel) m [kc Try.f4 [1,1,1,1,1,1,0,1,0,0,1,1,0,0,1],.inBlock 3,kc Try.f4 [1,1,1,1,1,1,0,1,0,0,1,1,1],ki Try.f4 [1,1,1,1,1,1,0,1,0,0],.inBlock 2,kc Try.f4 [1,1,1,1,1,1,1]] (Vv 200000::Vv 200001::Uu::Uu::Uu::Vv 100005::Uu::Vv 100007::Ii x2::Uu::Zz::Uu::(zs 5 (us 18 (Ii (ofNat (llen ll))::Ii x2::Ll true::Ii x2::(us 27 (zs 48 [])))))) [(100005,Blk.vec [Col.ints IntKind.i64 x3]),(100007,Blk.vec [Col.ints IntKind.i64 x4]),(200000,Blk.rview [Col.rows IntKind.u8 ll]),(200001,Blk.rview [Col.ints IntKind.i64 c])]
def lorder.k14 (R : AV → Mem → Prop) (ll : List (List Int)) (x2 : Int) (x3 x4 c : List Int) (fuel m : Nat) : Prop := runM Try.prog gamD4 [⟨5,[.ints .i64],true,false⟩,⟨7,[.ints .i64],true,false⟩,⟨10,[.rows .u8],true,false⟩,⟨777777,[],true,false⟩] (resh Try.prog [⟨5,[.ints .i64],true,false⟩,⟨7,[.ints .i64],true,false⟩,⟨10,[.rows .u8],true,false⟩,⟨777777,[],true,false⟩] Try.f4.results.toList R) (run Try.prog gamD4 [⟨5,[.ints .i64],true,false⟩,⟨7,[.ints .i64],true,false⟩,⟨10,[.rows .u8],true,false⟩,⟨777777,[],true,false⟩] (resh Try.prog [⟨5,[.ints .i64],true,false⟩,⟨7,[.ints .i64],true,false⟩,⟨10,[.rows .u8],true,false⟩,⟨777777,[],true,false⟩] Try.f4.results.toList R) fuel) m [kc Try.f4 [1,0,1,1],kc Try.f4 [1,1,1,1,1,1,0,1,0,0,1,1],ki Try.f4 [1,1,1,1,1,1,0,1,0,0],.inBlock 2,kc Try.f4 [1,1,1,1,1,1,1]] (Vv 200000::Vv 200001::Uu::Uu::Uu::Vv 100005::Uu::Vv 100007::Uu::Uu::Zz::Uu::(zs 5 (us 18 (Ii (ofNat (llen ll))::Ii x2::Ll true::(us 28 (zs 48 [])))))) [(100005,Blk.vec [Col.ints IntKind.i64 x3]),(100007,Blk.vec [Col.ints IntKind.i64 x4]),(200000,Blk.rview [Col.rows IntKind.u8 ll]),(200001,Blk.rview [Col.ints IntKind.i64 c])]
def lorder.k15 (R : AV → Mem → Prop) (x4 : List Int) (x6 : Int) (ll x7 : List (List Int)) (c : List Int) (fuel m : Nat) : Prop := runM Try.prog gamD4 [⟨5,[.ints .i64],true,false⟩,⟨7,[.ints .i64],true,false⟩,⟨10,[.rows .u8],true,false⟩,⟨777777,[],true,false⟩] (resh Try.prog [⟨5,[.ints .i64],true,false⟩,⟨7,[.ints .i64],true,false⟩,⟨10,[.rows .u8],true,false⟩,⟨777777,[],true,false⟩] Try.f4.results.toList R) (run Try.prog gamD4 [⟨5,[.ints .i64],true,false⟩,⟨7,[.ints .i64],true,false⟩,⟨10,[.rows .u8],true,false⟩,⟨777777,[],true,false⟩] (resh Try.prog [⟨5,[.ints .i64],true,false⟩,⟨7,[.ints .i64],true,false⟩,⟨10,[.rows .u8],true,false⟩,⟨777777,[],true,false⟩] Try.f4.results.toList R) fuel) m [ki Try.f4 [1,1,1,1,1,1,1,1,0,1,0,0],.inBlock 4,kc Try.f4 [1,1,1,1,1,1,1,1,1]] (Vv 200000::(us 6 (Vv 100007::Uu::Uu::Vv 78::Uu::Ii (lget x4 (nat x6))::(zs 4 (us 49 (Vv 100007::Ii (ofNat (llen x4))::Ii (add IntKind.i64 x6 1)::Ll true::AV.one (AC.vptr 100007 1 (nat x6) 0 0)::Ii (lget x4 (nat x6))::Vv 100010::Vv 200000::Ii (lget x4 (nat x6))::AV.one (AC.vptr 200000 1 (nat (lget x4 (nat x6))) 0 0)::AV.one (AC.el 200000 0 (nat (lget x4 (nat x6))))::Vv 77::Vv 78::Ii (add IntKind.i64 x6 1)::(zs 34 []))))))) [(77,Blk.vec [Col.rows IntKind.u8 [(llget ll (nat (lget x4 (nat x6))))]]),(78,Blk.vec [Col.rows IntKind.u8 (lcat x7 [(llget ll (nat (lget x4 (nat x6))))])]),(100007,Blk.vec [Col.ints IntKind.i64 x4]),(200000,Blk.rview [Col.rows IntKind.u8 ll]),(200001,Blk.rview [Col.ints IntKind.i64 c])]
def lorder.k16 (R : AV → Mem → Prop) (x4 : List Int) (x6 : Int) (x7 ll : List (List Int)) (c : List Int) (fuel m : Nat) : Prop := runM Try.prog gamD4 [⟨5,[.ints .i64],true,false⟩,⟨7,[.ints .i64],true,false⟩,⟨10,[.rows .u8],true,false⟩,⟨777777,[],true,false⟩] (resh Try.prog [⟨5,[.ints .i64],true,false⟩,⟨7,[.ints .i64],true,false⟩,⟨10,[.rows .u8],true,false⟩,⟨777777,[],true,false⟩] Try.f4.results.toList R) (run Try.prog gamD4 [⟨5,[.ints .i64],true,false⟩,⟨7,[.ints .i64],true,false⟩,⟨10,[.rows .u8],true,false⟩,⟨777777,[],true,false⟩] (resh Try.prog [⟨5,[.ints .i64],true,false⟩,⟨7,[.ints .i64],true,false⟩,⟨10,[.rows .u8],true,false⟩,⟨777777,[],true,false⟩] Try.f4.results.toList R) fuel) m [kc Try.f4 [1,1,1,1,1,1,1,1,0,1,0,0,1,1,0,0,1],.inBlock 5,kc Try.f4 [1,1,1,1,1,1,1,1,0,1,0,0,1,1,1],ki Try.f4 [1,1,1,1,1,1,1,1,0,1,0,0],.inBlock 4,kc Try.f4 [1,1,1,1,1,1,1,1,1]] (Vv 200000::(us 6 (Vv 100007::Uu::Uu::Vv 100010::Uu::Ii (lget x4 (nat x6))::(zs 4 (us 49 (Vv 100007::Ii (ofNat (llen x4))::Ii x6::Ll true::AV.one (AC.vptr 100007 1 (nat x6) 0 0)::Ii (lget x4 (nat x6))::(us 8 (zs 34 [])))))))) [(100007,Blk.vec [Col.ints IntKind.i64 x4]),(100010,Blk.vec [Col.rows IntKind.u8 x7]),(200000,Blk.rview [Col.rows IntKind.u8 ll]),(200001,Blk.rview [Col.ints IntKind.i64 c])]
def lorder.k17 (R : AV → Mem → Prop) (x4 : List Int) (x6 : Int) (x7 ll : List (List Int)) (c : List Int) (fuel m : Nat) : Prop := runM Try.prog gamD4 [⟨5,[.ints .i64],true,false⟩,⟨7,[.ints .i64],true,false⟩,⟨10,[.rows .u8],true,false⟩,⟨777777,[],true,false⟩] (resh Try.prog [⟨5,[.ints .i64],true,false⟩,⟨7,[.ints .i64],true,false⟩,⟨10,[.rows .u8],true,false⟩,⟨777777,[],true,false⟩] Try.f4.results.toList R) (run Try.prog gamD4 [⟨5,[.ints .i64],true,false⟩,⟨7,[.ints .i64],true,false⟩,⟨10,[.rows .u8],true,false⟩,⟨777777,[],true,false⟩] (resh Try.prog [⟨5,[.ints .i64],true,false⟩,⟨7,[.ints .i64],true,false⟩,⟨10,[.rows .u8],true,false⟩,⟨777777,[],true,false⟩] Try.f4.results.toList R) fuel) m [kc Try.f4 [1,0,1,1],kc Try.f4 [1,1,1,1,1,1,1,1,0,1,0,0,1,1],ki Try.f4 [1,1,1,1,1,1,1,1,0,1,0,0],.inBlock 4,kc Try.f4 [1,1,1,1,1,1,1,1,1]] (Vv 200000::(us 6 (Vv 100007::Uu::Uu::Vv 100010::Uu::Uu::(zs 4 (us 49 (Vv 100007::Ii (ofNat (llen x4))::Ii x6::Ll true::(us 10 (zs 34 [])))))))) [(100007,Blk.vec [Col.ints IntKind.i64 x4]),(100010,Blk.vec [Col.rows IntKind.u8 x7]),(200000,Blk.rview [Col.rows IntKind.u8 ll]),(200001,Blk.rview [Col.ints IntKind.i64 c])]
def lorder.k18 (R : AV → Mem → Prop) (ll x7 : List (List Int)) (x4 c : List Int) (fuel m : Nat) : Prop := runM Try.prog gamD4 [⟨5,[.ints .i64],true,false⟩,⟨7,[.ints .i64],true,false⟩,⟨10,[.rows .u8],true,false⟩,⟨777777,[],true,false⟩] (resh Try.prog [⟨5,[.ints .i64],true,false⟩,⟨7,[.ints .i64],true,false⟩,⟨10,[.rows .u8],true,false⟩,⟨777777,[],true,false⟩] Try.f4.results.toList R) (run Try.prog gamD4 [⟨5,[.ints .i64],true,false⟩,⟨7,[.ints .i64],true,false⟩,⟨10,[.rows .u8],true,false⟩,⟨777777,[],true,false⟩] (resh Try.prog [⟨5,[.ints .i64],true,false⟩,⟨7,[.ints .i64],true,false⟩,⟨10,[.rows .u8],true,false⟩,⟨777777,[],true,false⟩] Try.f4.results.toList R) fuel) m [kc Try.f4 [1,0,1,0,1],kc Try.f4 [1,1,1,1,1,1,1,1,1,1,1]] (us 4 (Ll false::Uu::Uu::Vv 100007::(us 5 (Vv 81::Vv 83::Zz::Zz::(us 79 (zs 18 [])))))) [(81,Blk.rview [Col.rows IntKind.u8 (exchL ll)]),(83,Blk.rview [Col.rows IntKind.u8 (exchL x7)]),(100007,Blk.vec [Col.ints IntKind.i64 x4]),(200000,Blk.rview [Col.rows IntKind.u8 ll]),(200001,Blk.rview [Col.ints IntKind.i64 c])]
def lorder.k19 (R : AV → Mem → Prop) (x8 : Int) (x4 : List Int) (x7 ll : List (List Int)) (c : List Int) (fuel m : Nat) : Prop := runM Try.prog gamD4 [⟨5,[.ints .i64],true,false⟩,⟨7,[.ints .i64],true,false⟩,⟨10,[.rows .u8],true,false⟩,⟨777777,[],true,false⟩] (resh Try.prog [⟨5,[.ints .i64],true,false⟩,⟨7,[.ints .i64],true,false⟩,⟨10,[.rows .u8],true,false⟩,⟨777777,[],true,false⟩] Try.f4.results.toList R) (run Try.prog gamD4 [⟨5,[.ints .i64],true,false⟩,⟨7,[.ints .i64],true,false⟩,⟨10,[.rows .u8],true,false⟩,⟨777777,[],true,false⟩] (resh Try.prog [⟨5,[.ints .i64],true,false⟩,⟨7,[.ints .i64],true,false⟩,⟨10,[.rows .u8],true,false⟩,⟨777777,[],true,false⟩] Try.f4.results.toList R) fuel) m [kc Try.f4 [1,0,1,0,1],.inBlock 7,kc Try.f4 [1,1,1,1,1,1,1,1,1,1,1,0,1,0,0,1,1,1],ki Try.f4 [1,1,1,1,1,1,1,1,1,1,1,0,1,0,0],.inBlock 6,kc Try.f4 [1,1,1,1,1,1,1,1,1,1,1,1]] (us 4 (Ll false::(us 8 (Vv 81::Vv 83::Ii x8::Ii (lget x4 (nat x8))::(us 79 [Vv 100007,Ii (ofNat (llen x4)),Ii x8,Ll true,Ii x8,AV.one (AC.vptr 100007 1 (nat x8) 0 0),Ii (lget x4 (nat x8)),Vv 83,Ii x8,AV.one (AC.vptr 83 1 (nat x8) 0 0),AV.one (AC.el 83 0 (nat x8)),Vv 81,Ii (lget x4 (nat x8)),AV.one (AC.vptr 81 1 (nat (lget x4 (nat x8))) 0 0),AV.one (AC.el 81 0 (nat (lget x4 (nat x8)))),Bb (leq (llget (exchL x7) (nat x8)) (llget (exchL ll) (nat (lget x4 (nat x8))))),Ll true,Uu]))))) [(81,Blk.rview [Col.rows IntKind.u8 (exchL ll)]),(83,Blk.rview [Col.rows IntKind.u8 (exchL x7)]),(100007,Blk.vec [Col.ints IntKind.i64 x4]),(200000,Blk.rview [Col.rows IntKind.u8 ll]),(200001,Blk.rview [Col.ints IntKind.i64 c])]
def lorder.k20 (R : AV → Mem → Prop) (x8 : Int) (x4 : List Int) (x7 ll : List (List Int)) (c : List Int) (fuel m : Nat) : Prop := runM Try.prog gamD4 [⟨5,[.ints .i64],true,false⟩,⟨7,[.ints .i64],true,false⟩,⟨10,[.rows .u8],true,false⟩,⟨777777,[],true,false⟩] (resh Try.prog [⟨5,[.ints .i64],true,false⟩,⟨7,[.ints .i64],true,false⟩,⟨10,[.rows .u8],true,false⟩,⟨777777,[],true,false⟩] Try.f4.results.toList R) (run Try.prog gamD4 [⟨5,[.ints .i64],true,false⟩,⟨7,[.ints .i64],true,false⟩,⟨10,[.rows .u8],true,false⟩,⟨777777,[],true,false⟩] (resh Try.prog [⟨5,[.ints .i64],true,false⟩,⟨7,[.ints .i64],true,false⟩,⟨10,[.rows .u8],true,false⟩,⟨777777,[],true,false⟩] Try.f4.results.toList R) fuel) m [ki Try.f4 [1,1,1,1,1,1,1,1,1,1,1,0,1,0,0],.inBlock 6,kc Try.f4 [1,1,1,1,1,1,1,1,1,1,1,1]] (us 13 (Vv 81::Vv 83::Ii x8::Ii (lget x4 (nat x8))::(us 79 [Vv 100007,Ii (ofNat (llen x4)),Ii (add IntKind.i64 x8 1),Ll true,Ii x8,AV.one (AC.vptr 100007 1 (nat x8) 0 0),Ii (lget x4 (nat x8)),Vv 83,Ii x8,AV.one (AC.vptr 83 1 (nat x8) 0 0),AV.one (AC.el 83 0 (nat x8)),Vv 81,Ii (lget x4 (nat x8)),AV.one (AC.vptr 81 1 (nat (lget x4 (nat x8))) 0 0),AV.one (AC.el 81 0 (nat (lget x4 (nat x8)))),Bb (leq (llget (exchL x7) (nat x8)) (llget (exchL ll) (nat (lget x4 (nat x8))))),Ll false,Ii (add IntKind.i64 x8 1)]))) [(81,Blk.rview [Col.rows IntKind.u8 (exchL ll)]),(83,Blk.rview [Col.rows IntKind.u8 (exchL x7)]),(100007,Blk.vec [Col.ints IntKind.i64 x4]),(200000,Blk.rview [Col.rows IntKind.u8 ll]),(200001,Blk.rview [Col.ints IntKind.i64 c])]
def lorder.k21 (R : AV → Mem → Prop) (x8 : Int) (x4 : List Int) (x7 ll : List (List Int)) (c : List Int) (fuel m : Nat) : Prop := runM Try.prog gamD4 [⟨5,[.ints .i64],true,false⟩,⟨7,[.ints .i64],true,false⟩,⟨10,[.rows .u8],true,false⟩,⟨777777,[],true,false⟩] (resh Try.prog [⟨5,[.ints .i64],true,false⟩,⟨7,[.ints .i64],true,false⟩,⟨10,[.rows .u8],true,false⟩,⟨777777,[],true,false⟩] Try.f4.results.toList R) (run Try.prog gamD4 [⟨5,[.ints .i64],true,false⟩,⟨7,[.ints .i64],true,false⟩,⟨10,[.rows .u8],true,false⟩,⟨777777,[],true,false⟩] (resh Try.prog [⟨5,[.ints .i64],true,false⟩,⟨7,[.ints .i64],true,false⟩,⟨10,[.rows .u8],true,false⟩,⟨777777,[],true,false⟩] Try.f4.results.toList R) fuel) m [kc Try.f4 [1,1,1,1,1,1,1,1,1,1,1,0,1,0,0,1,1,0,0,1,1],.inBlock 7,kc Try.f4 [1,1,1,1,1,1,1,1,1,1,1,0,1,0,0,1,1,1],ki Try.f4 [1,1,1,1,1,1,1,1,1,1,1,0,1,0,0],.inBlock 6,kc Try.f4 [1,1,1,1,1,1,1,1,1,1,1,1]] (us 13 (Vv 81::Vv 83::Ii x8::Ii (lget x4 (nat x8))::(us 79 [Vv 100007,Ii (ofNat (llen x4)),Ii x8,Ll true,Ii x8,AV.one (AC.vptr 100007 1 (nat x8) 0 0),Ii (lget x4 (nat x8)),Vv 83,Ii x8,AV.one (AC.vptr 83 1 (nat x8) 0 0),AV.one (AC.el 83 0 (nat x8)),Vv 81,Ii (lget x4 (nat x8)),AV.one (AC.vptr 81 1 (nat (lget x4 (nat x8))) 0 0),AV.one (AC.el 81 0 (nat (lget x4 (nat x8)))),Bb (leq (llget (exchL x7) (nat x8)) (llget (exchL ll) (nat (lget x4 (nat x8))))),Bb (bnot (leq (llget (exchL x7) (nat x8)) (llget (exchL ll) (nat (lget x4 (nat x8)))))),Uu]))) [(81,Blk.rview [Col.rows IntKind.u8 (exchL ll)]),(83,Blk.rview [Col.rows IntKind.u8 (exchL x7)]),(100007,Blk.vec [Col.ints IntKind.i64 x4]),(200000,Blk.rview [Col.rows IntKind.u8 ll]),(200001,Blk.rview [Col.ints IntKind.i64 c])]
def lorder.k22 (R : AV → Mem → Prop) (x8 : Int) (x4 : List Int) (ll x7 : List (List Int)) (c : List Int) (fuel m : Nat) : Prop := runM Try.prog gamD4 [⟨5,[.ints .i64],true,false⟩,⟨7,[.ints .i64],true,false⟩,⟨10,[.rows .u8],true,false⟩,⟨777777,[],true,false⟩] (resh Try.prog [⟨5,[.ints .i64],true,false⟩,⟨7,[.ints .i64],true,false⟩,⟨10,[.rows .u8],true,false⟩,⟨777777,[],true,false⟩] Try.f4.results.toList R) (run Try.prog gamD4 [⟨5,[.ints .i64],true,false⟩,⟨7,[.ints .i64],true,false⟩,⟨10,[.rows .u8],true,false⟩,⟨777777,[],true,false⟩] (resh Try.prog [⟨5,[.ints .i64],true,false⟩,⟨7,[.ints .i64],true,false⟩,⟨10,[.rows .u8],true,false⟩,⟨777777,[],true,false⟩] Try.f4.results.toList R) fuel) m [kc Try.f4 [1,1,1,1,1,1,1,1,1,1,1,0,1,0,0,1,1,0,0,1],.inBlock 7,kc Try.f4 [1,1,1,1,1,1,1,1,1,1,1,0,1,0,0,1,1,1],ki Try.f4 [1,1,1,1,1,1,1,1,1,1,1,0,1,0,0],.inBlock 6,kc Try.f4 [1,1,1,1,1,1,1,1,1,1,1,1]] (us 13 (Vv 81::Vv 83::Ii x8::Ii (lget x4 (nat x8))::(us 79 (Vv 100007::Ii (ofNat (llen x4))::Ii x8::Ll true::Ii x8::AV.one (AC.vptr 100007 1 (nat x8) 0 0)::Ii (lget x4 (nat x8))::(us 11 []))))) [(81,Blk.rview [Col.rows IntKind.u8 (exchL ll)]),(83,Blk.rview [Col.rows IntKind.u8 (exchL x7)]),(100007,Blk.vec [Col.ints IntKind.i64 x4]),(200000,Blk.rview [Col.rows IntKind.u8 ll]),(200001,Blk.rview [Col.ints IntKind.i64 c])]
def lorder.k23 (R : AV → Mem → Prop) (x4 : List Int) (x8 : Int) (ll x7 : List (List Int)) (c : List Int) (fuel m : Nat) : Prop := runM Try.prog gamD4 [⟨5,[.ints .i64],true,false⟩,⟨7,[.ints .i64],true,false⟩,⟨10,[.rows .u8],true,false⟩,⟨777777,[],true,false⟩] (resh Try.prog [⟨5,[.ints .i64],true,false⟩,⟨7,[.ints .i64],true,false⟩,⟨10,[.rows .u8],true,false⟩,⟨777777,[],true,false⟩] Try.f4.results.toList R) (run Try.prog gamD4 [⟨5,[.ints .i64],true,false⟩,⟨7,[.ints .i64],true,false⟩,⟨10,[.rows .u8],true,false⟩,⟨777777,[],true,false⟩] (resh Try.prog [⟨5,[.ints .i64],true,false⟩,⟨7,[.ints .i64],true,false⟩,⟨10,[.rows .u8],true,false⟩,⟨777777,[],true,false⟩] Try.f4.results.toList R) fuel) m [kc Try.f4 [1,0,1,1],kc Try.f4 [1,1,1,1,1,1,1,1,1,1,1,0,1,0,0,1,1],ki Try.f4 [1,1,1,1,1,1,1,1,1,1,1,0,1,0,0],.inBlock 6,kc Try.f4 [1,1,1,1,1,1,1,1,1,1,1,1]] (us 13 (Vv 81::Vv 83::(us 81 (Vv 100007::Ii (ofNat (llen x4))::Ii x8::Ll true::(us 14 []))))) [(81,Blk.rview [Col.rows IntKind.u8 (exchL ll)]),(83,Blk.rview [Col.rows IntKind.u8 (exchL x7)]),(100007,Blk.vec [Col.ints IntKind.i64 x4]),(200000,Blk.rview [Col.rows IntKind.u8 ll]),(200001,Blk.rview [Col.ints IntKind.i64 c])]
def lorder.k24 (R : AV → Mem → Prop) (x4 : List Int) (x8 : Int) (ll x7 : List (List Int)) (c : List Int) (fuel m : Nat) : Prop := runM Try.prog gamD4 [⟨5,[.ints .i64],true,false⟩,⟨7,[.ints .i64],true,false⟩,⟨10,[.rows .u8],true,false⟩,⟨777777,[],true,false⟩] (resh Try.prog [⟨5,[.ints .i64],true,false⟩,⟨7,[.ints .i64],true,false⟩,⟨10,[.rows .u8],true,false⟩,⟨777777,[],true,false⟩] Try.f4.results.toList R) (run Try.prog gamD4 [⟨5,[.ints .i64],true,false⟩,⟨7,[.ints .i64],true,false⟩,⟨10,[.rows .u8],true,false⟩,⟨777777,[],true,false⟩] (resh Try.prog [⟨5,[.ints .i64],true,false⟩,⟨7,[.ints .i64],true,false⟩,⟨10,[.rows .u8],true,false⟩,⟨777777,[],true,false⟩] Try.f4.results.toList R) fuel) m [kc Try.f4 [1,0,1,0,1]] (us 4 (Ll true::(us 8 (Vv 81::Vv 83::(us 81 (Vv 100007::Ii (ofNat (llen x4))::Ii x8::Ll false::(us 14 []))))))) [(81,Blk.rview [Col.rows IntKind.u8 (exchL ll)]),(83,Blk.rview [Col.rows IntKind.u8 (exchL x7)]),(100007,Blk.vec [Col.ints IntKind.i64 x4]),(200000,Blk.rview [Col.rows IntKind.u8 ll]),(200001,Blk.rview [Col.ints IntKind.i64 c])]
def lorder.k25 (R : AV → Mem → Prop) (x4 : List Int) (x8 : Int) (ll x7 : List (List Int)) (c : List Int) (fuel m : Nat) : Prop := runM Try.prog gamD4 [⟨5,[.ints .i64],true,false⟩,⟨7,[.ints .i64],true,false⟩,⟨10,[.rows .u8],true,false⟩,⟨777777,[],true,false⟩] (resh Try.prog [⟨5,[.ints .i64],true,false⟩,⟨7,[.ints .i64],true,false⟩,⟨10,[.rows .u8],true,false⟩,⟨777777,[],true,false⟩] Try.f4.results.toList R) (run Try.prog gamD4 [⟨5,[.ints .i64],true,false⟩,⟨7,[.ints .i64],true,false⟩,⟨10,[.rows .u8],true,false⟩,⟨777777,[],true,false⟩] (resh Try.prog [⟨5,[.ints .i64],true,false⟩,⟨7,[.ints .i64],true,false⟩,⟨10,[.rows .u8],true,false⟩,⟨777777,[],true,false⟩] Try.f4.results.toList R) fuel) m [kc Try.f4 [1,1,1,1,1,1,1,1,1,1,1,0,1,0,0,1],ki Try.f4 [1,1,1,1,1,1,1,1,1,1,1,0,1,0,0],.inBlock 6,kc Try.f4 [1,1,1,1,1,1,1,1,1,1,1,1]] (us 13 (Vv 81::Vv 83::(us 81 (Vv 100007::Ii (ofNat (llen x4))::Ii x8::Bb (ilt x8 (ofNat (llen x4)))::(us 14 []))))) [(81,Blk.rview [Col.rows IntKind.u8 (exchL ll)]),(83,Blk.rview [Col.rows IntKind.u8 (exchL x7)]),(100007,Blk.vec [Col.ints IntKind.i64 x4]),(200000,Blk.rview [Col.rows IntKind.u8 ll]),(200001,Blk.rview [Col.ints IntKind.i64 c])]
def lorder.l3 (R : AV → Mem → Prop) (x4 : List Int) (ll x7 : List (List Int)) (c : List Int) (fuel : Nat) (x8 : Int) : Prop := run Try.prog gamD4 [⟨5,[.ints .i64],true,false⟩,⟨7,[.ints .i64],true,false⟩,⟨10,[.rows .u8],true,false⟩,⟨777777,[],true,false⟩] (resh Try.prog [⟨5,[.ints .i64],true,false⟩,⟨7,[.ints .i64],true,false⟩,⟨10,[.rows .u8],true,false⟩,⟨777777,[],true,false⟩] Try.f4.results.toList R) fuel [kc Try.f4 [1,1,1,1,1,1,1,1,1,1,1,0,1,0,0],ki Try.f4 [1,1,1,1,1,1,1,1,1,1,1,0,1,0,0],.inBlock 6,kc Try.f4 [1,1,1,1,1,1,1,1,1,1,1,1]] (us 13 (Vv 81::Vv 83::(us 81 (Vv 100007::Ii (ofNat (llen x4))::Ii x8::(us 15 []))))) [(81,Blk.rview [Col.rows IntKind.u8 (exchL ll)]),(83,Blk.rview [Col.rows IntKind.u8 (exchL x7)]),(100007,Blk.vec [Col.ints IntKind.i64 x4]),(200000,Blk.rview [Col.rows IntKind.u8 ll]),(200001,Blk.rview [Col.ints IntKind.i64 c])]
def lorder.k26 (R : AV → Mem → Prop) (x4 : List Int) (ll x7 : List (List Int)) (c : List Int) (fuel m : Nat) : Prop := runM Try.prog gamD4 [⟨5,[.ints .i64],true,false⟩,⟨7,[.ints .i64],true,false⟩,⟨10,[.rows .u8],true,false⟩,⟨777777,[],true,false⟩] (resh Try.prog [⟨5,[.ints .i64],true,false⟩,⟨7,[.ints .i64],true,false⟩,⟨10,[.rows .u8],true,false⟩,⟨777777,[],true,false⟩] Try.f4.results.toList R) (run Try.prog gamD4 [⟨5,[.ints .i64],true,false⟩,⟨7,[.ints .i64],true,false⟩,⟨10,[.rows .u8],true,false⟩,⟨777777,[],true,false⟩] (resh Try.prog [⟨5,[.ints .i64],true,false⟩,⟨7,[.ints .i64],true,false⟩,⟨10,[.rows .u8],true,false⟩,⟨777777,[],true,false⟩] Try.f4.results.toList R) fuel) m [kc Try.f4 [1,1,1,1,1,1,1,1,1,1,1,0,1],kc Try.f4 [1,1,1,1,1,1,1,1,1,1,1,1]] (us 7 (Vv 100007::(us 5 (Vv 81::Vv 83::Zz::Zz::(us 79 (Vv 100007::Ii (ofNat (llen x4))::Ii 0::(zs 15 []))))))) [(81,Blk.rview [Col.rows IntKind.u8 (exchL ll)]),(83,Blk.rview [Col.rows IntKind.u8 (exchL x7)]),(100007,Blk.vec [Col.ints IntKind.i64 x4]),(200000,Blk.rview [Col.rows IntKind.u8 ll]),(200001,Blk.rview [Col.ints IntKind.i64 c])]
def lorder.k27 (R : AV → Mem → Prop) (x4 : List Int) (x6 : Int) (ll x7 : List (List Int)) (c : List Int) (fuel m : Nat) : Prop := runM Try.prog gamD4 [⟨5,[.ints .i64],true,false⟩,⟨7,[.ints .i64],true,false⟩,⟨10,[.rows .u8],true,false⟩,⟨777777,[],true,false⟩] (resh Try.prog [⟨5,[.ints .i64],true,false⟩,⟨7,[.ints .i64],true,false⟩,⟨10,[.rows .u8],true,false⟩,⟨777777,[],true,false⟩] Try.f4.results.toList R) (run Try.prog gamD4 [⟨5,[.ints .i64],true,false⟩,⟨7,[.ints .i64],true,false⟩,⟨10,[.rows .u8],true,false⟩,⟨777777,[],true,false⟩] (resh Try.prog [⟨5,[.ints .i64],true,false⟩,⟨7,[.ints .i64],true,false⟩,⟨10,[.rows .u8],true,false⟩,⟨777777,[],true,false⟩] Try.f4.results.toList R) fuel) m [kc Try.f4 [1,1,1,1,1,1,1,1,1,1,0,1],kc Try.f4 [1,1,1,1,1,1,1,1,1,1,1]] (Vv 200000::(us 6 (Vv 100007::Uu::Uu::Vv 100010::Uu::Uu::Vv 81::Vv 83::Zz::Zz::(us 49 (Vv 100007::Ii (ofNat (llen x4))::Ii x6::Ll false::(us 10 (Vv 200000::Vv 81::Vv 100010::Vv 83::Vv 81::Ii (ofNat (llen (exchL ll)))::Vv 200000::Ii (ofNat (llen ll))::Bb (ine (ofNat (llen (exchL ll))) (ofNat (llen ll)))::Ll false::Vv 83::Ii (ofNat (llen (exchL x7)))::Vv 200000::Ii (ofNat (llen ll))::Bb (ine (ofNat (llen (exchL x7))) (ofNat (llen ll)))::Bb (ine (ofNat (llen (exchL x7))) (ofNat (llen ll)))::(zs 18 [])))))))) [(81,Blk.rview [Col.rows IntKind.u8 (exchL ll)]),(83,Blk.rview [Col.rows IntKind.u8 (exchL x7)]),(100007,Blk.vec [Col.ints IntKind.i64 x4]),(100010,Blk.vec [Col.rows IntKind.u8 x7]),(200000,Blk.rview [Col.rows IntKind.u8 ll]),(200001,Blk.rview [Col.ints IntKind.i64 c])]
def lorder.k28 (R : AV → Mem → Prop) (x4 : List Int) (x6 : Int) (ll x7 : List (List Int)) (c : List Int) (fuel m : Nat) : Prop := runM Try.prog gamD4 [⟨5,[.ints .i64],true,false⟩,⟨7,[.ints .i64],true,false⟩,⟨10,[.rows .u8],true,false⟩,⟨777777,[],true,false⟩] (resh Try.prog [⟨5,[.ints .i64],true,false⟩,⟨7,[.ints .i64],true,false⟩,⟨10,[.rows .u8],true,false⟩,⟨777777,[],true,false⟩] Try.f4.results.toList R) (run Try.prog gamD4 [⟨5,[.ints .i64],true,false⟩,⟨7,[.ints .i64],true,false⟩,⟨10,[.rows .u8],true,false⟩,⟨777777,[],true,false⟩] (resh Try.prog [⟨5,[.ints .i64],true,false⟩,⟨7,[.ints .i64],true,false⟩,⟨10,[.rows .u8],true,false⟩,⟨777777,[],true,false⟩] Try.f4.results.toList R) fuel) m [kc Try.f4 [1,1,1,1,1,1,1,1,1,1]] (Vv 200000::(us 6 (Vv 100007::Uu::Uu::Vv 100010::Uu::Uu::Vv 81::Vv 83::Zz::Zz::(us 49 (Vv 100007::Ii (ofNat (llen x4))::Ii x6::Ll false::(us 10 (Vv 200000::Vv 81::Vv 100010::Vv 83::(zs 30 [])))))))) [(81,Blk.rview [Col.rows IntKind.u8 (exchL ll)]),(83,Blk.rview [Col.rows IntKind.u8 (exchL x7)]),(100007,Blk.vec [Col.ints IntKind.i64 x4]),(100010,Blk.vec [Col.rows IntKind.u8 x7]),(200000,Blk.rview [Col.rows IntKind.u8 ll]),(200001,Blk.rview [Col.ints IntKind.i64 c])]
def lorder.k29 (R : AV → Mem → Prop) (x4 : List Int) (x6 : Int) (x7 ll : List (List Int)) (c : List Int) (fuel m : Nat) : Prop := runM Try.prog gamD4 [⟨5,[.ints .i64],true,false⟩,⟨7,[.ints .i64],true,false⟩,⟨10,[.rows .u8],true,false⟩,⟨777777,[],true,false⟩] (resh Try.prog [⟨5,[.ints .i64],true,false⟩,⟨7,[.ints .i64],true,false⟩,⟨10,[.rows .u8],true,false⟩,⟨777777,[],true,false⟩] Try.f4.results.toList R) (run Try.prog gamD4 [⟨5,[.ints .i64],true,false⟩,⟨7,[.ints .i64],true,false⟩,⟨10,[.rows .u8],true,false⟩,⟨777777,[],true,false⟩] (resh Try.prog [⟨5,[.ints .i64],true,false⟩,⟨7,[.ints .i64],true,false⟩,⟨10,[.rows .u8],true,false⟩,⟨777777,[],true,false⟩] Try.f4.results.toList R) fuel) m [kc Try.f4 [1,1,1,1,1,1,1,1,0,1,0,0,1,0,1],kc Try.f4 [1,1,1,1,1,1,1,1,0,1,0,0,1,1],ki Try.f4 [1,1,1,1,1,1,1,1,0,1,0,0],.inBlock 4,kc Try.f4 [1,1,1,1,1,1,1,1,1]] (Vv 200000::(us 6 (Vv 100007::Uu::Uu::Vv 100010::Uu::Uu::(zs 4 (us 49 (Vv 100007::Ii (ofNat (llen x4))::Ii x6::Ll false::(us 10 (zs 34 [])))))))) [(100007,Blk.vec [Col.ints IntKind.i64 x4]),(100010,Blk.vec [Col.rows IntKind.u8 x7]),(200000,Blk.rview [Col.rows IntKind.u8 ll]),(200001,Blk.rview [Col.ints IntKind.i64 c])]
def lorder.k30 (R : AV → Mem → Prop) (x4 : List Int) (x6 : Int) (x7 ll : List (List Int)) (c : List Int) (fuel m : Nat) : Prop := runM Try.prog gamD4 [⟨5,[.ints .i64],true,false⟩,⟨7,[.ints .i64],true,false⟩,⟨10,[.rows .u8],true,false⟩,⟨777777,[],true,false⟩] (resh Try.prog [⟨5,[.ints .i64],true,false⟩,⟨7,[.ints .i64],true,false⟩,⟨10,[.rows .u8],true,false⟩,⟨777777,[],true,false⟩] Try.f4.results.toList R) (run Try.prog gamD4 [⟨5,[.ints .i64],true,false⟩,⟨7,[.ints .i64],true,false⟩,⟨10,[.rows .u8],true,false⟩,⟨777777,[],true,false⟩] (resh Try.prog [⟨5,[.ints .i64],true,false⟩,⟨7,[.ints .i64],true,false⟩,⟨10,[.rows .u8],true,false⟩,⟨777777,[],true,false⟩] Try.f4.results.toList R) fuel) m [kc Try.f4 [1,1,1,1,1,1,1,1,0,1,0,0,1],ki Try.f4 [1,1,1,1,1,1,1,1,0,1,0,0],.inBlock 4,kc Try.f4 [1,1,1,1,1,1,1,1,1]] (Vv 200000::(us 6 (Vv 100007::Uu::Uu::Vv 100010::Uu::Uu::(zs 4 (us 49 (Vv 100007::Ii (ofNat (llen x4))::Ii x6::Bb (ilt x6 (ofNat (llen x4)))::(us 10 (zs 34 [])))))))) [(100007,Blk.vec [Col.ints IntKind.i64 x4]),(100010,Blk.vec [Col.rows IntKind.u8 x7]),(200000,Blk.rview [Col.rows IntKind.u8 ll]),(200001,Blk.rview [Col.ints IntKind.i64 c])]
def lorder.l2 (R : AV → Mem → Prop) (x4 : List Int) (ll : List (List Int)) (c : List Int) (fuel : Nat) (x6 : Int) (x7 : List (List Int)) : Prop := run Try.prog gamD4 [⟨5,[.ints .i64],true,false⟩,⟨7,[.ints .i64],true,false⟩,⟨10,[.rows .u8],true,false⟩,⟨777777,[],true,false⟩] (resh Try.prog [⟨5,[.ints .i64],true,false⟩,⟨7,[.ints .i64],true,false⟩,⟨10,[.rows .u8],true,false⟩,⟨777777,[],true,false⟩] Try.f4.results.toList R) fuel [kc Try.f4 [1,1,1,1,1,1,1,1,0,1,0,0],ki Try.f4 [1,1,1,1,1,1,1,1,0,1,0,0],.inBlock 4,kc Try.f4 [1,1,1,1,1,1,1,1,1]] (Vv 200000::(us 6 (Vv 100007::Uu::Uu::Vv 100010::Uu::Uu::(zs 4 (us 49 (Vv 100007::Ii (ofNat (llen x4))::Ii x6::(us 11 (zs 34 [])))))))) [(100007,Blk.vec [Col.ints IntKind.i64 x4]),(100010,Blk.vec [Col.rows IntKind.u8 x7]),(200000,Blk.rview [Col.rows IntKind.u8 ll]),(200001,Blk.rview [Col.ints IntKind.i64 c])]
def lorder.k31 (R : AV → Mem → Prop) (ll : List (List Int)) (x2 : Int) (x4 x3 c : List Int) (fuel m : Nat) : Prop := runM Try.prog gamD4 [⟨5,[.ints .i64],true,false⟩,⟨7,[.ints .i64],true,false⟩,⟨10,[.rows .u8],true,false⟩,⟨777777,[],true,false⟩] (resh Try.prog [⟨5,[.ints .i64],true,false⟩,⟨7,[.ints .i64],true,false⟩,⟨10,[.rows .u8],true,false⟩,⟨777777,[],true,false⟩] Try.f4.results.toList R) (run Try.prog gamD4 [⟨5,[.ints .i64],true,false⟩,⟨7,[.ints .i64],true,false⟩,⟨10,[.rows .u8],true,false⟩,⟨777777,[],true,false⟩] (resh Try.prog [⟨5,[.ints .i64],true,false⟩,⟨7,[.ints .i64],true,false⟩,⟨10,[.rows .u8],true,false⟩,⟨777777,[],true,false⟩] Try.f4.results.toList R) fuel) m [kc Try.f4 [1,1,1,1,1,1,1,1,0,1],kc Try.f4 [1,1,1,1,1,1,1,1,1]] (Vv 200000::Vv 200001::Uu::Uu::Uu::Vv 100005::Uu::Vv 100007::Uu::Uu::AV.one (AC.con (Value.slice (Option.none) 0 0))::Uu::(zs 5 (us 18 (Ii (ofNat (llen ll))::Ii x2::Ll false::(us 28 (Vv 100007::Ii (ofNat (llen x4))::Ii 0::(zs 45 []))))))) [(100005,Blk.vec [Col.ints IntKind.i64 x3]),(100007,Blk.vec [Col.ints IntKind.i64 x4]),(200000,Blk.rview [Col.rows IntKind.u8 ll]),(200001,Blk.rview [Col.ints IntKind.i64 c])]
def lorder.k32 (R : AV → Mem → Prop) (ll : List (List Int)) (x2 : Int) (x3 x4 c : List Int) (fuel m : Nat) : Prop := runM Try.prog gamD4 [⟨5,[.ints .i64],true,false⟩,⟨7,[.ints .i64],true,false⟩,⟨10,[.rows .u8],true,false⟩,⟨777777,[],true,false⟩] (resh Try.prog [⟨5,[.ints .i64],true,false⟩,⟨7,[.ints .i64],true,false⟩,⟨10,[.rows .u8],true,false⟩,⟨777777,[],true,false⟩] Try.f4.results.toList R) (run Try.prog gamD4 [⟨5,[.ints .i64],true,false⟩,⟨7,[.ints .i64],true,false⟩,⟨10,[.rows .u8],true,false⟩,⟨777777,[],true,false⟩] (resh Try.prog [⟨5,[.ints .i64],true,false⟩,⟨7,[.ints .i64],true,false⟩,⟨10,[.rows .u8],true,false⟩,⟨777777,[],true,false⟩] Try.f4.results.toList R) fuel) m [kc Try.f4 [1,1,1,1,1,1,0,1,0,0,1,0,1],kc Try.f4 [1,1,1,1,1,1,0,1,0,0,1,1],ki Try.f4 [1,1,1,1,1,1,0,1,0,0],.inBlock 2,kc Try.f4 [1,1,1,1,1,1,1]] (Vv 200000::Vv 200001::Uu::Uu::Uu::Vv 100005::Uu::Vv 100007::Uu::Uu::Zz::Uu::(zs 5 (us 18 (Ii (ofNat (llen ll))::Ii x2::Ll false::(us 28 (zs 48 [])))))) [(100005,Blk.vec [Col.ints IntKind.i64 x3]),(100007,Blk.vec [Col.ints IntKind.i64 x4]),(200000,Blk.rview [Col.rows IntKind.u8 ll]),(200001,Blk.rview [Col.ints IntKind.i64 c])]
def lorder.k33 (R : AV → Mem → Prop) (ll : List (List Int)) (x2 : Int) (x3 x4 c : List Int) (fuel m : Nat) : Prop := runM Try.prog gamD4 [⟨5,[.ints .i64],true,false⟩,⟨7,[.ints .i64],true,false⟩,⟨10,[.rows .u8],true,false⟩,⟨777777,[],true,false⟩] (resh Try.prog [⟨5,[.ints .i64],true,false⟩,⟨7,[.ints .i64],true,false⟩,⟨10,[.rows .u8],true,false⟩,⟨777777,[],true,false⟩] Try.f4.results.toList R) (run Try.prog gamD4 [⟨5,[.ints .i64],true,false⟩,⟨7,[.ints .i64],true,false⟩,⟨10,[.rows .u8],true,false⟩,⟨777777,[],true,false⟩] (resh Try.prog [⟨5,[.ints .i64],true,false⟩,⟨7,[.ints .i64],true,false⟩,⟨10,[.rows .u8],true,false⟩,⟨777777,[],true,false⟩] Try.f4.results.toList R) fuel) m [kc Try.f4 [1,1,1,1,1,1,0,1,0,0,1],ki Try.f4 [1,1,1,1,1,1,0,1,0,0],.inBlock 2,kc Try.f4 [1,1,1,1,1,1,1]] (Vv 200000::Vv 200001::Uu::Uu::Uu::Vv 100005::Uu::Vv 100007::Uu::Uu::Zz::Uu::(zs 5 (us 18 (Ii (ofNat (llen ll))::Ii x2::Bb (ilt x2 (ofNat (llen ll)))::(us 28 (zs 48 [])))))) [(100005,Blk.vec [Col.ints IntKind.i64 x3]),(100007,Blk.vec [Col.ints IntKind.i64 x4]),(200000,Blk.rview [Col.rows IntKind.u8 ll]),(200001,Blk.rview [Col.ints IntKind.i64 c])]
def lorder.l1 (R : AV → Mem → Prop) (ll : List (List Int)) (c : List Int) (fuel : Nat) (x2 : Int) (x3 x4 : List Int) : Prop := run Try.prog gamD4 [⟨5,[.ints .i64],true,false⟩,⟨7,[.ints .i64],true,false⟩,⟨10,[.rows .u8],true,false⟩,⟨777777,[],true,false⟩] (resh Try.prog [⟨5,[.ints .i64],true,false⟩,⟨7,[.ints .i64],true,false⟩,⟨10,[.rows .u8],true,false⟩,⟨777777,[],true,false⟩] Try.f4.results.toList R) fuel [kc Try.f4 [1,1,1,1,1,1,0,1,0,0],ki Try.f4 [1,1,1,1,1,1,0,1,0,0],.inBlock 2,kc Try.f4 [1,1,1,1,1,1,1]] (Vv 200000::Vv 200001::Uu::Uu::Uu::Vv 100005::Uu::Vv 100007::Uu::Uu::Zz::Uu::(zs 5 (us 18 (Ii (ofNat (llen ll))::Ii x2::(us 29 (zs 48 [])))))) [(100005,Blk.vec [Col.ints IntKind.i64 x3]),(100007,Blk.vec [Col.ints IntKind.i64 x4]),(200000,Blk.rview [Col.rows IntKind.u8 ll]),(200001,Blk.rview [Col.ints IntKind.i64 c])]
def lorder.k34 (R : AV → Mem → Prop) (ll : List (List Int)) (x0 : Int) (x1 c : List Int) (fuel m : Nat) : Prop := runM Try.prog gamD4 [⟨5,[.ints .i64],true,false⟩,⟨7,[.ints .i64],true,false⟩,⟨10,[.rows .u8],true,false⟩,⟨777777,[],true,false⟩] (resh Try.prog [⟨5,[.ints .i64],true,false⟩,⟨7,[.ints .i64],true,false⟩,⟨10,[.rows .u8],true,false⟩,⟨777777,[],true,false⟩] Try.f4.results.toList R) (run Try.prog gamD4 [⟨5,[.ints .i64],true,false⟩,⟨7,[.ints .i64],true,false⟩,⟨10,[.rows .u8],true,false⟩,⟨777777,[],true,false⟩] (resh Try.prog [⟨5,[.ints .i64],true,false⟩,⟨7,[.ints .i64],true,false⟩,⟨10,[.rows .u8],true,false⟩,⟨777777,[],true,false⟩] Try.f4.results.toList R) fuel) m [kc Try.f4 [1,1,1,1,1,1,0,1],kc Try.f4 [1,1,1,1,1,1,1]] (Vv 200000::Vv 200001::Uu::Uu::Uu::Vv 100005::Uu::AV.one (AC.con (Value.slice (Option.none) 0 0))::Zz::Zz::Zz::Uu::(zs 5 (us 8 (Ii (ofNat (llen (lzeros (nat (ofNat (llen ll))))))::Ii x0::Ll false::(us 6 (Vv 200000::Ii (ofNat (llen ll))::Ii 0::(zs 77 []))))))) [(100005,Blk.vec [Col.ints IntKind.i64 x1]),(200000,Blk.rview [Col.rows IntKind.u8 ll]),(200001,Blk.rview [Col.ints IntKind.i64 c])]
def lorder.k35 (R : AV → Mem → Prop) (ll : List (List Int)) (x0 : Int) (x1 c : List Int) (fuel m : Nat) : Prop := runM Try.prog gamD4 [⟨5,[.ints .i64],true,false⟩,⟨7,[.ints .i64],true,false⟩,⟨10,[.rows .u8],true,false⟩,⟨777777,[],true,false⟩] (resh Try.prog [⟨5,[.ints .i64],true,false⟩,⟨7,[.ints .i64],true,false⟩,⟨10,[.rows .u8],true,false⟩,⟨777777,[],true,false⟩] Try.f4.results.toList R) (run Try.prog gamD4 [⟨5,[.ints .i64],true,false⟩,⟨7,[.ints .i64],true,false⟩,⟨10,[.rows .u8],true,false⟩,⟨777777,[],true,false⟩] (resh Try.prog [⟨5,[.ints .i64],true,false⟩,⟨7,[.ints .i64],true,false⟩,⟨10,[.rows .u8],true,false⟩,⟨777777,[],true,false⟩] Try.f4.results.toList R) fuel) m [kc Try.f4 [1,1,1,1,0,1,0,0,1,0,1],kc Try.f4 [1,1,1,1,0,1,0,0,1,1],ki Try.f4 [1,1,1,1,0,1,0,0],.inBlock 0,kc Try.f4 [1,1,1,1,1]] (Vv 200000::Vv 200001::Uu::Uu::Uu::Vv 100005::Uu::(zs 4 (Uu::(zs 5 (us 8 (Ii (ofNat (llen (lzeros (nat (ofNat (llen ll))))))::Ii x0::Ll false::(us 6 (zs 80 [])))))))) [(100005,Blk.vec [Col.ints IntKind.i64 x1]),(200000,Blk.rview [Col.rows IntKind.u8 ll]),(200001,Blk.rview [Col.ints IntKind.i64 c])]
def lorder.k36 (R : AV → Mem → Prop) (ll : List (List Int)) (x0 : Int) (x1 c : List Int) (fuel m : Nat) : Prop := runM Try.prog gamD4 [⟨5,[.ints .i64],true,false⟩,⟨7,[.ints .i64],true,false⟩,⟨10,[.rows .u8],true,false⟩,⟨777777,[],true,false⟩] (resh Try.prog [⟨5,[.ints .i64],true,false⟩,⟨7,[.ints .i64],true,false⟩,⟨10,[.rows .u8],true,false⟩,⟨777777,[],true,false⟩] Try.f4.results.toList R) (run Try.prog gamD4 [⟨5,[.ints .i64],true,false⟩,⟨7,[.ints .i64],true,false⟩,⟨10,[.rows .u8],true,false⟩,⟨777777,[],true,false⟩] (resh Try.prog [⟨5,[.ints .i64],true,false⟩,⟨7,[.ints .i64],true,false⟩,⟨10,[.rows .u8],true,false⟩,⟨777777,[],true,false⟩] Try.f4.results.toList R) fuel) m [kc Try.f4 [1,1,1,1,0,1,0,0,1],ki Try.f4 [1,1,1,1,0,1,0,0],.inBlock 0,kc Try.f4 [1,1,1,1,1]] (Vv 200000::Vv 200001::Uu::Uu::Uu::Vv 100005::Uu::(zs 4 (Uu::(zs 5 (us 8 (Ii (ofNat (llen (lzeros (nat (ofNat (llen ll))))))::Ii x0::Bb (ilt x0 (ofNat (llen (lzeros (nat (ofNat (llen ll)))))))::(us 6 (zs 80 [])))))))) [(100005,Blk.vec [Col.ints IntKind.i64 x1]),(200000,Blk.rview [Col.rows IntKind.u8 ll]),(200001,Blk.rview [Col.ints IntKind.i64 c])]
def lorder.l0 (R : AV → Mem → Prop) (ll : List (List Int)) (c : List Int) (fuel : Nat) (x0 : Int) (x1 : List Int) : Prop := run Try.prog gamD4 [⟨5,[.ints .i64],true,false⟩,⟨7,[.ints .i64],true,false⟩,⟨10,[.rows .u8],true,false⟩,⟨777777,[],true,false⟩] (resh Try.prog [⟨5,[.ints .i64],true,false⟩,⟨7,[.ints .i64],true,false⟩,⟨10,[.rows .u8],true,false⟩,⟨777777,[],true,false⟩] Try.f4.results.toList R) fuel [kc Try.f4 [1,1,1,1,0,1,0,0],ki Try.f4 [1,1,1,1,0,1,0,0],.inBlock 0,kc Try.f4 [1,1,1,1,1]] (Vv 200000::Vv 200001::Uu::Uu::Uu::Vv 100005::Uu::(zs 4 (Uu::(zs 5 (us 8 (Ii (ofNat (llen (lzeros (nat (ofNat (llen ll))))))::Ii x0::(us 7 (zs 80 [])))))))) [(100005,Blk.vec [Col.ints IntKind.i64 x1]),(200000,Blk.rview [Col.rows IntKind.u8 ll]),(200001,Blk.rview [Col.ints IntKind.i64 c])]
def lorder.k37 (R : AV → Mem → Prop) (ll : List (List Int)) (c : List Int) (fuel m : Nat) : Prop := runM Try.prog gamD4 [⟨5,[.ints .i64],true,false⟩,⟨7,[.ints .i64],true,false⟩,⟨10,[.rows .u8],true,false⟩,⟨777777,[],true,false⟩] (resh Try.prog [⟨5,[.ints .i64],true,false⟩,⟨7,[.ints .i64],true,false⟩,⟨10,[.rows .u8],true,false⟩,⟨777777,[],true,false⟩] Try.f4.results.toList R) (run Try.prog gamD4 [⟨5,[.ints .i64],true,false⟩,⟨7,[.ints .i64],true,false⟩,⟨10,[.rows .u8],true,false⟩,⟨777777,[],true,false⟩] (resh Try.prog [⟨5,[.ints .i64],true,false⟩,⟨7,[.ints .i64],true,false⟩,⟨10,[.rows .u8],true,false⟩,⟨777777,[],true,false⟩] Try.f4.results.toList R) fuel) m [kc Try.f4 [1,1,1,1,0,1],kc Try.f4 [1,1,1,1,1]] (Vv 200000::Vv 200001::Uu::Uu::Uu::Vv 23::(zs 5 (Uu::(zs 5 (us 4 (Vv 200000::Ii (ofNat (llen ll))::Vv 23::Vv 23::Ii (ofNat (llen (lzeros (nat (ofNat (llen ll))))))::Ii 0::(zs 87 []))))))) [(23,Blk.vec [Col.ints IntKind.i64 (lzeros (nat (ofNat (llen ll))))]),(200000,Blk.rview [Col.rows IntKind.u8 ll]),(200001,Blk.rview [Col.ints IntKind.i64 c])]
def lorder.k38 (R : AV → Mem → Prop) (ll : List (List Int)) (c : List Int) (fuel m : Nat) : Prop := runM Try.prog gamD4 [⟨5,[.ints .i64],true,false⟩,⟨7,[.ints .i64],true,false⟩,⟨10,[.rows .u8],true,false⟩,⟨777777,[],true,false⟩] (resh Try.prog [⟨5,[.ints .i64],true,false⟩,⟨7,[.ints .i64],true,false⟩,⟨10,[.rows .u8],true,false⟩,⟨777777,[],true,false⟩] Try.f4.results.toList R) (run Try.prog gamD4 [⟨5,[.ints .i64],true,false⟩,⟨7,[.ints .i64],true,false⟩,⟨10,[.rows .u8],true,false⟩,⟨777777,[],true,false⟩] (resh Try.prog [⟨5,[.ints .i64],true,false⟩,⟨7,[.ints .i64],true,false⟩,⟨10,[.rows .u8],true,false⟩,⟨777777,[],true,false⟩] Try.f4.results.toList R) fuel) m [kc Try.f4 [1,0,1,1],kc Try.f4 [1,1,1]] (Vv 200000::Vv 200001::Uu::Uu::Uu::(zs 6 (Uu::(zs 5 (us 4 (zs 93 [])))))) [(200000,Blk.rview [Col.rows IntKind.u8 ll]),(200001,Blk.rview [Col.ints IntKind.i64 c])]
def lorder.k39 (R : AV → Mem → Prop) (ll : List (List Int)) (c : List Int) (fuel m : Nat) : Prop := runM Try.prog gamD4 [⟨5,[.ints .i64],true,false⟩,⟨7,[.ints .i64],true,false⟩,⟨10,[.rows .u8],true,false⟩,⟨777777,[],true,false⟩] (resh Try.prog [⟨5,[.ints .i64],true,false⟩,⟨7,[.ints .i64],true,false⟩,⟨10,[.rows .u8],true,false⟩,⟨777777,[],true,false⟩] Try.f4.results.toList R) (run Try.prog gamD4 [⟨5,[.ints .i64],true,false⟩,⟨7,[.ints .i64],true,false⟩,⟨10,[.rows .u8],true,false⟩,⟨777777,[],true,false⟩] (resh Try.prog [⟨5,[.ints .i64],true,false⟩,⟨7,[.ints .i64],true,false⟩,⟨10,[.rows .u8],true,false⟩,⟨777777,[],true,false⟩] Try.f4.results.toList R) fuel) m [kc Try.f4 [1,1,0,1],kc Try.f4 [1,1,1]] (Vv 200000::Vv 200001::Uu::Uu::Uu::(zs 6 (Uu::(zs 5 (Uu::Uu::Vv 200000::Bb (greatB ll)::(zs 93 [])))))) [(200000,Blk.rview [Col.rows IntKind.u8 ll]),(200001,Blk.rview [Col.ints IntKind.i64 c])]
def lorder.k40 (R : AV → Mem → Prop) (ll : List (List Int)) (c : List Int) (fuel m : Nat) : Prop := runM Try.prog gamD4 [⟨5,[.ints .i64],true,false⟩,⟨7,[.ints .i64],true,false⟩,⟨10,[.rows .u8],true,false⟩,⟨777777,[],true,false⟩] (resh Try.prog [⟨5,[.ints .i64],true,false⟩,⟨7,[.ints .i64],true,false⟩,⟨10,[.rows .u8],true,false⟩,⟨777777,[],true,false⟩] Try.f4.results.toList R) (run Try.prog gamD4 [⟨5,[.ints .i64],true,false⟩,⟨7,[.ints .i64],true,false⟩,⟨10,[.rows .u8],true,false⟩,⟨777777,[],true,false⟩] (resh Try.prog [⟨5,[.ints .i64],true,false⟩,⟨7,[.ints .i64],true,false⟩,⟨10,[.rows .u8],true,false⟩,⟨777777,[],true,false⟩] Try.f4.results.toList R) fuel) m [kc Try.f4 [1,0,1,1],kc Try.f4 [1,1]] (Vv 200000::Vv 200001::Uu::Uu::Uu::(zs 6 (Uu::(zs 5 (Uu::Uu::(zs 95 [])))))) [(200000,Blk.rview [Col.rows IntKind.u8 ll]),(200001,Blk.rview [Col.ints IntKind.i64 c])]
def lorder.k41 (R : AV → Mem → Prop) (ll : List (List Int)) (c : List Int) (fuel m : Nat) : Prop := runM Try.prog gamD4 [⟨5,[.ints .i64],true,false⟩,⟨7,[.ints .i64],true,false⟩,⟨10,[.rows .u8],true,false⟩,⟨777777,[],true,false⟩] (resh Try.prog [⟨5,[.ints .i64],true,false⟩,⟨7,[.ints .i64],true,false⟩,⟨10,[.rows .u8],true,false⟩,⟨777777,[],true,false⟩] Try.f4.results.toList R) (run Try.prog gamD4 [⟨5,[.ints .i64],true,false⟩,⟨7,[.ints .i64],true,false⟩,⟨10,[.rows .u8],true,false⟩,⟨777777,[],true,false⟩] (resh Try.prog [⟨5,[.ints .i64],true,false⟩,⟨7,[.ints .i64],true,false⟩,⟨10,[.rows .u8],true,false⟩,⟨777777,[],true,false⟩] Try.f4.results.toList R) fuel) m [.code (bodyOf Try.f4)] (Vv 200000::Vv 200001::(zs 112 [])) [(200000,Blk.rview [Col.rows IntKind.u8 ll]),(200001,Blk.rview [Col.ints IntKind.i64 c])]
theorem lorder.k0_eq (R : AV → Mem → Prop) (ll : List (List Int)) (c : List Int) (fuel m : Nat) : lorder.k0 R ll c fuel (m + 100) = ((R (Ll true) [(200000,Blk.rview [Col.rows IntKind.u8 ll]),(200001,Blk.rview [Col.ints IntKind.i64 c])])) := by kernel_rfl
theorem lorder.k1_eq (R : AV → Mem → Prop) (x0 : Int) (ll : List (List Int)) (x1 c : List Int) (fuel m : Nat) : lorder.k1 R x0 ll x1 c fuel (m + 100) = ((lorder.l0 R ll c fuel (add IntKind.i64 x0 1) (lset x1 (nat x0) x0))) := by kernel_rfl
theorem lorder.k2_eq (R : AV → Mem → Prop) (x0 : Int) (ll : List (List Int)) (x1 c : List Int) (fuel m : Nat) : lorder.k2 R x0 ll x1 c fuel (m + 3) = (((InB x0 (llen x1)) ∧ (lorder.k1 R x0 ll x1 c fuel m))) := by kernel_rfl
theorem lorder.k3_eq (R : AV → Mem → Prop) (ll : List (List Int)) (x0 : Int) (x1 c : List Int) (fuel m : Nat) : lorder.k3 R ll x0 x1 c fuel (m + 5) = ((lorder.k2 R x0 ll x1 c fuel m)) := by kernel_rfl
theorem lorder.k4_eq (R : AV → Mem → Prop) (x2 : Int) (c x3 : List Int) (ll : List (List Int)) (x4 y5 : List Int) (fuel m : Nat) : lorder.k4 R x2 c x3 ll x4 y5 fuel (m + 100) = ((lorder.l1 R ll c fuel (add IntKind.i64 x2 1) y5 (lcat x4 [(lget x3 (nat (placeI (lget c (nat x2)) (ofNat (llen x3)))))]))) := by kernel_rfl
theorem lorder.k5_eq (R : AV → Mem → Prop) (x2 : Int) (c x3 : List Int) (ll : List (List Int)) (x4 : List Int) (fuel m : Nat) : lorder.k5 R x2 c x3 ll x4 fuel (m + 2) = ((let y5 : List Int := (lcat (lsub x3 0 (nat (placeI (lget c (nat x2)) (ofNat (llen x3))))) (lsub x3 (nat (add IntKind.i64 (placeI (lget c (nat x2)) (ofNat (llen x3))) 1)) (nsub (llen x3) (nat (add IntKind.i64 (placeI (lget c (nat x2)) (ofNat (llen x3))) 1))))); (lorder.k4 R x2 c x3 ll x4 y5 fuel m))) := by kernel_rfl
theorem lorder.k6_eq (R : AV → Mem → Prop) (x2 : Int) (c x3 : List Int) (ll : List (List Int)) (x4 : List Int) (fuel m : Nat) : lorder.k6 R x2 c x3 ll x4 fuel (m + 1) = ((((NonNeg (placeI (lget c (nat x2)) (ofNat (llen x3)))) ∧ (Fits (nat (placeI (lget c (nat x2)) (ofNat (llen x3)))) (llen x3))) ∧ (((NonNeg (add IntKind.i64 (placeI (lget c (nat x2)) (ofNat (llen x3))) 1)) ∧ (Fits (nat (add IntKind.i64 (placeI (lget c (nat x2)) (ofNat (llen x3))) 1)) (llen x3))) ∧ ((Room (nadd (llen (lsub x3 0 (nat (placeI (lget c (nat x2)) (ofNat (llen x3)))))) (llen (lsub x3 (nat (add IntKind.i64 (placeI (lget c (nat x2)) (ofNat (llen x3))) 1)) (nsub (llen x3) (nat (add IntKind.i64 (placeI (lget c (nat x2)) (ofNat (llen x3))) 1)))))) 8) ∧ (lorder.k5 R x2 c x3 ll x4 fuel m))))) := by kernel_rfl
theorem lorder.k7_eq (R : AV → Mem → Prop) (x2 : Int) (c x3 : List Int) (ll : List (List Int)) (x4 : List Int) (fuel m : Nat) : lorder.k7 R x2 c x3 ll x4 fuel (m + 2) = (((InB (placeI (lget c (nat x2)) (ofNat (llen x3))) (llen x3)) ∧ ((Room (nadd (llen x4) (llen [(lget x3 (nat (placeI (lget c (nat x2)) (ofNat (llen x3)))))])) 8) ∧ (lorder.k6 R x2 c x3 ll x4 fuel m)))) := by kernel_rfl
theorem lorder.k8_eq (R : AV → Mem → Prop) (x2 : Int) (ll : List (List Int)) (c x3 x4 : List Int) (fuel m : Nat) : lorder.k8 R x2 ll c x3 x4 fuel (m + 1) = (((InB x2 (llen c)) ∧ (((I64 (lget c (nat x2))) ∧ (Pos (ofNat (llen x3)))) ∧ (lorder.k7 R x2 c x3 ll x4 fuel m)))) := by kernel_rfl
theorem lorder.k9_eq (R : AV → Mem → Prop) (x2 : Int) (ll : List (List Int)) (c x3 x4 : List Int) (fuel m : Nat) : lorder.k9 R x2 ll c x3 x4 fuel (m + 100) = ((lorder.l1 R ll c fuel (add IntKind.i64 x2 1) (lcat (lsub x3 0 0) (lsub x3 1 (nsub (llen x3) 1))) (lcat x4 [(lget x3 0)]))) := by kernel_rfl
theorem lorder.k10_eq (R : AV → Mem → Prop) (x2 : Int) (ll : List (List Int)) (c x3 x4 : List Int) (fuel m : Nat) : lorder.k10 R x2 ll c x3 x4 fuel (m + 3) = ((((NonNeg 0) ∧ (Fits 0 (llen x3))) ∧ (((NonNeg 1) ∧ (Fits 1 (llen x3))) ∧ ((Room (nadd (llen (lsub x3 0 0)) (llen (lsub x3 1 (nsub (llen x3) 1)))) 8) ∧ (lorder.k9 R x2 ll c x3 x4 fuel m))))) := by kernel_rfl
theorem lorder.k11_eq (R : AV → Mem → Prop) (x2 : Int) (ll : List (List Int)) (c x3 x4 : List Int) (fuel m : Nat) : lorder.k11 R x2 ll c x3 x4 fuel (m + 3) = (((InB 0 (llen x3)) ∧ ((Room (nadd (llen x4) (llen [(lget x3 0)])) 8) ∧ (lorder.k10 R x2 ll c x3 x4 fuel m)))) := by kernel_rfl
theorem lorder.k12_eq (R : AV → Mem → Prop) (x2 : Int) (ll : List (List Int)) (c x3 x4 : List Int) (fuel m : Nat) : lorder.k12 R x2 ll c x3 x4 fuel (m + 1) = (((((ilt x2 (ofNat (llen c))) = true) → (lorder.k8 R x2 ll c x3 x4 fuel m)) ∧ (((ilt x2 (ofNat (llen c))) = false) → (lorder.k11 R x2 ll c x3 x4 fuel m)))) := by kernel_rfl
theorem lorder.k13_eq (R : AV → Mem → Prop) (x2 : Int) (ll : List (List Int)) (x3 x4 c : List Int) (fuel m : Nat) : lorder.k13 R x2 ll x3 x4 c fuel (m + 5) = ((lorder.k12 R x2 ll c x3 x4 fuel m)) := by kernel_rfl
theorem lorder.k14_eq (R : AV → Mem → Prop) (ll : List (List Int)) (x2 : Int) (x3 x4 c : List Int) (fuel m : Nat) : lorder.k14 R ll x2 x3 x4 c fuel (m + 5) = ((lorder.k13 R x2 ll x3 x4 c fuel m)) := by kernel_rfl
theorem lorder.k15_eq (R : AV → Mem → Prop) (x4 : List Int) (x6 : Int) (ll x7 : List (List Int)) (c : List Int) (fuel m : Nat) : lorder.k15 R x4 x6 ll x7 c fuel (m + 100) = ((lorder.l2 R x4 ll c fuel (add IntKind.i64 x6 1) (lcat x7 [(llget ll (nat (lget x4 (nat x6))))]))) := by kernel_rfl
theorem lorder.k16_eq (R : AV → Mem → Prop) (x4 : List Int) (x6 : Int) (x7 ll : List (List Int)) (c : List Int) (fuel m : Nat) : lorder.k16 R x4 x6 x7 ll c fuel (m + 3) = (((InB (lget x4 (nat x6)) (llen ll)) ∧ ((Room (nadd (llen x7) (llen [(llget ll (nat (lget x4 (nat x6))))])) 24) ∧ (lorder.k15 R x4 x6 ll x7 c fuel m)))) := by kernel_rfl
theorem lorder.k17_eq (R : AV → Mem → Prop) (x4 : List Int) (x6 : Int) (x7 ll : List (List Int)) (c : List Int) (fuel m : Nat) : lorder.k17 R x4 x6 x7 ll c fuel (m + 5) = (((InB x6 (llen x4)) ∧ (lorder.k16 R x4 x6 x7 ll c fuel m))) := by kernel_rfl
theorem lorder.k18_eq (R : AV → Mem → Prop) (ll x7 : List (List Int)) (x4 c : List Int) (fuel m : Nat) : lorder.k18 R ll x7 x4 c fuel (m + 100) = ((R (Ll false) [(81,Blk.rview [Col.rows IntKind.u8 (exchL ll)]),(83,Blk.rview [Col.rows IntKind.u8 (exchL x7)]),(100007,Blk.vec [Col.ints IntKind.i64 x4]),(200000,Blk.rview [Col.rows IntKind.u8 ll]),(200001,Blk.rview [Col.ints IntKind.i64 c])])) := by kernel_rfl
theorem lorder.k19_eq (R : AV → Mem → Prop) (x8 : Int) (x4 : List Int) (x7 ll : List (List Int)) (c : List Int) (fuel m : Nat) : lorder.k19 R x8 x4 x7 ll c fuel (m + 100) = ((R (Ll false) [(81,Blk.rview [Col.rows IntKind.u8 (exchL ll)]),(83,Blk.rview [Col.rows IntKind.u8 (exchL x7)]),(100007,Blk.vec [Col.ints IntKind.i64 x4]),(200000,Blk.rview [Col.rows IntKind.u8 ll]),(200001,Blk.rview [Col.ints IntKind.i64 c])])) := by kernel_rfl
theorem lorder.k20_eq (R : AV → Mem → Prop) (x8 : Int) (x4 : List Int) (x7 ll : List (List Int)) (c : List Int) (fuel m : Nat) : lorder.k20 R x8 x4 x7 ll c fuel (m + 100) = ((lorder.l3 R x4 ll x7 c fuel (add IntKind.i64 x8 1))) := by kernel_rfl
theorem lorder.k21_eq (R : AV → Mem → Prop) (x8 : Int) (x4 : List Int) (x7 ll : List (List Int)) (c : List Int) (fuel m : Nat) : lorder.k21 R x8 x4 x7 ll c fuel (m + 4) = (((((bnot (leq (llget (exchL x7) (nat x8)) (llget (exchL ll) (nat (lget x4 (nat x8)))))) = true) → (lorder.k19 R x8 x4 x7 ll c fuel (m + 1))) ∧ (((bnot (leq (llget (exchL x7) (nat x8)) (llget (exchL ll) (nat (lget x4 (nat x8)))))) = false) → (lorder.k20 R x8 x4 x7 ll c fuel m)))) := by kernel_rfl
theorem lorder.k22_eq (R : AV → Mem → Prop) (x8 : Int) (x4 : List Int) (ll x7 : List (List Int)) (c : List Int) (fuel m : Nat) : lorder.k22 R x8 x4 ll x7 c fuel (m + 2) = (((InB x8 (llen (exchL x7))) ∧ ((InB (lget x4 (nat x8)) (llen (exchL ll))) ∧ (((Bs (llget (exchL x7) (nat x8))) ∧ (Bs (llget (exchL ll) (nat (lget x4 (nat x8)))))) ∧ (lorder.k21 R x8 x4 x7 ll c fuel m))))) := by kernel_rfl
theorem lorder.k23_eq (R : AV → Mem → Prop) (x4 : List Int) (x8 : Int) (ll x7 : List (List Int)) (c : List Int) (fuel m : Nat) : lorder.k23 R x4 x8 ll x7 c fuel (m + 5) = (((InB x8 (llen x4)) ∧ (lorder.k22 R x8 x4 ll x7 c fuel m))) := by kernel_rfl
theorem lorder.k24_eq (R : AV → Mem → Prop) (x4 : List Int) (x8 : Int) (ll x7 : List (List Int)) (c : List Int) (fuel m : Nat) : lorder.k24 R x4 x8 ll x7 c fuel (m + 100) = ((R (Ll true) [(81,Blk.rview [Col.rows IntKind.u8 (exchL ll)]),(83,Blk.rview [Col.rows IntKind.u8 (exchL x7)]),(100007,Blk.vec [Col.ints IntKind.i64 x4]),(200000,Blk.rview [Col.rows IntKind.u8 ll]),(200001,Blk.rview [Col.ints IntKind.i64 c])])) := by kernel_rfl
theorem lorder.k25_eq (R : AV → Mem → Prop) (x4 : List Int) (x8 : Int) (ll x7 : List (List Int)) (c : List Int) (fuel m : Nat) : lorder.k25 R x4 x8 ll x7 c fuel (m + 5) = (((((ilt x8 (ofNat (llen x4))) = true) → (lorder.k23 R x4 x8 ll x7 c fuel (m + 3))) ∧ (((ilt x8 (ofNat (llen x4))) = false) → (lorder.k24 R x4 x8 ll x7 c fuel m)))) := by kernel_rfl
theorem lorder.l3_succ (R : AV → Mem → Prop) (x4 : List Int) (ll x7 : List (List Int)) (c : List Int) (fuel : Nat) (x8 : Int) : lorder.l3 R x4 ll x7 c (fuel + 1) x8 = ((lorder.k25 R x4 x8 ll x7 c fuel 3998)) := by kernel_rfl
theorem lorder.k26_eq (R : AV → Mem → Prop) (x4 : List Int) (ll x7 : List (List Int)) (c : List Int) (fuel m : Nat) : lorder.k26 R x4 ll x7 c fuel (m + 100) = ((lorder.l3 R x4 ll x7 c fuel 0)) := by kernel_rfl
theorem lorder.k27_eq (R : AV → Mem → Prop) (x4 : List Int) (x6 : Int) (ll x7 : List (List Int)) (c : List Int) (fuel m : Nat) : lorder.k27 R x4 x6 ll x7 c fuel (m + 5) = (((((ine (ofNat (llen (exchL x7))) (ofNat (llen ll))) = true) → (lorder.k18 R ll x7 x4 c fuel (m + 2))) ∧ (((ine (ofNat (llen (exchL x7))) (ofNat (llen ll))) = false) → (lorder.k26 R x4 ll x7 c fuel m)))) := by kernel_rfl
theorem lorder.k28_eq (R : AV → Mem → Prop) (x4 : List Int) (x6 : Int) (ll x7 : List (List Int)) (c : List Int) (fuel m : Nat) : lorder.k28 R x4 x6 ll x7 c fuel (m + 6) = (((((ine (ofNat (llen (exchL ll))) (ofNat (llen ll))) = false) → (lorder.k27 R x4 x6 ll x7 c fuel (m + 3))) ∧ (((ine (ofNat (llen (exchL ll))) (ofNat (llen ll))) = true) → (lorder.k18 R ll x7 x4 c fuel m)))) := by kernel_rfl
theorem lorder.k29_eq (R : AV → Mem → Prop) (x4 : List Int) (x6 : Int) (x7 ll : List (List Int)) (c : List Int) (fuel m : Nat) : lorder.k29 R x4 x6 x7 ll c fuel (m + 3) = (((Fits (llen ll) 1000000000) ∧ ((Fits (llen x7) 1000000000) ∧ (lorder.k28 R x4 x6 ll x7 c fuel m)))) := by kernel_rfl
theorem lorder.k30_eq (R : AV → Mem → Prop) (x4 : List Int) (x6 : Int) (x7 ll : List (List Int)) (c : List Int) (fuel m : Nat) : lorder.k30 R x4 x6 x7 ll c fuel (m + 2) = (((((ilt x6 (ofNat (llen x4))) = true) → (lorder.k17 R x4 x6 x7 ll c fuel m)) ∧ (((ilt x6 (ofNat (llen x4))) = false) → (lorder.k29 R x4 x6 x7 ll c fuel m)))) := by kernel_rfl
theorem lorder.l2_succ (R : AV → Mem → Prop) (x4 : List Int) (ll : List (List Int)) (c : List Int) (fuel : Nat) (x6 : Int) (x7 : List (List Int)) : lorder.l2 R x4 ll c (fuel + 1) x6 x7 = ((lorder.k30 R x4 x6 x7 ll c fuel 3998)) := by kernel_rfl
theorem lorder.k31_eq (R : AV → Mem → Prop) (ll : List (List Int)) (x2 : Int) (x4 x3 c : List Int) (fuel m : Nat) : lorder.k31 R ll x2 x4 x3 c fuel (m + 100) = ((lorder.l2 R x4 ll c fuel 0 [])) := by kernel_rfl
theorem lorder.k32_eq (R : AV → Mem → Prop) (ll : List (List Int)) (x2 : Int) (x3 x4 c : List Int) (fuel m : Nat) : lorder.k32 R ll x2 x3 x4 c fuel (m + 6) = ((lorder.k31 R ll x2 x4 x3 c fuel m)) := by kernel_rfl
theorem lorder.k33_eq (R : AV → Mem → Prop) (ll : List (List Int)) (x2 : Int) (x3 x4 c : List Int) (fuel m : Nat) : lorder.k33 R ll x2 x3 x4 c fuel (m + 2) = (((((ilt x2 (ofNat (llen ll))) = true) → (lorder.k14 R ll x2 x3 x4 c fuel m)) ∧ (((ilt x2 (ofNat (llen ll))) = false) → (lorder.k32 R ll x2 x3 x4 c fuel m)))) := by kernel_rfl
theorem lorder.l1_succ (R : AV → Mem → Prop) (ll : List (List Int)) (c : List Int) (fuel : Nat) (x2 : Int) (x3 x4 : List Int) : lorder.l1 R ll c (fuel + 1) x2 x3 x4 = ((lorder.k33 R ll x2 x3 x4 c fuel 3998)) := by kernel_rfl
theorem lorder.k34_eq (R : AV → Mem → Prop) (ll : List (List Int)) (x0 : Int) (x1 c : List Int) (fuel m : Nat) : lorder.k34 R ll x0 x1 c fuel (m + 100) = ((lorder.l1 R ll c fuel 0 x1 [])) := by kernel_rfl
theorem lorder.k35_eq (R : AV → Mem → Prop) (ll : List (List Int)) (x0 : Int) (x1 c : List Int) (fuel m : Nat) : lorder.k35 R ll x0 x1 c fuel (m + 6) = ((lorder.k34 R ll x0 x1 c fuel m)) := by kernel_rfl
theorem lorder.k36_eq (R : AV → Mem → Prop) (ll : List (List Int)) (x0 : Int) (x1 c : List Int) (fuel m : Nat) : lorder.k36 R ll x0 x1 c fuel (m + 2) = (((((ilt x0 (ofNat (llen (lzeros (nat (ofNat (llen ll))))))) = true) → (lorder.k3 R ll x0 x1 c fuel m)) ∧ (((ilt x0 (ofNat (llen (lzeros (nat (ofNat (llen ll))))))) = false) → (lorder.k35 R ll x0 x1 c fuel m)))) := by kernel_rfl
theorem lorder.l0_succ (R : AV → Mem → Prop) (ll : List (List Int)) (c : List Int) (fuel : Nat) (x0 : Int) (x1 : List Int) : lorder.l0 R ll c (fuel + 1) x0 x1 = ((lorder.k36 R ll x0 x1 c fuel 3998)) := by kernel_rfl
theorem lorder.k37_eq (R : AV → Mem → Prop) (ll : List (List Int)) (c : List Int) (fuel m : Nat) : lorder.k37 R ll c fuel (m + 100) = ((lorder.l0 R ll c fuel 0 (lzeros (nat (ofNat (llen ll)))))) := by kernel_rfl
theorem lorder.k38_eq (R : AV → Mem → Prop) (ll : List (List Int)) (c : List Int) (fuel m : Nat) : lorder.k38 R ll c fuel (m + 6) = (((Mk (ofNat (llen ll)) (ofNat (llen ll)) 8) ∧ (lorder.k37 R ll c fuel m))) := by kernel_rfl
theorem lorder.k39_eq (R : AV → Mem → Prop) (ll : List (List Int)) (c : List Int) (fuel m : Nat) : lorder.k39 R ll c fuel (m + 3) = (((((greatB ll) = true) → (lorder.k0 R ll c fuel m)) ∧ (((greatB ll) = false) → (lorder.k38 R ll c fuel (m + 2))))) := by kernel_rfl
theorem lorder.k40_eq (R : AV → Mem → Prop) (ll : List (List Int)) (c : List Int) (fuel m : Nat) : lorder.k40 R ll c fuel (m + 4) = (((RowsS ll) ∧ (lorder.k39 R ll c fuel m))) := by kernel_rfl
theorem lorder.k41_eq (R : AV → Mem → Prop) (ll : List (List Int)) (c : List Int) (fuel m : Nat) : lorder.k41 R ll c fuel (m + 6) = ((lorder.k40 R ll c fuel m)) := by kernel_rfl
theorem lorder_vc0 (R : AV → Mem → Prop) (fuel m : Nat) (ll : List (List Int)) (c : List Int) : runM Try.prog gamD4 [⟨5, [.ints .i64], true, false⟩, ⟨7, [.ints .i64], true, false⟩, ⟨10, [.rows .u8], true, false⟩, ⟨777777, [], true, false⟩] (resh Try.prog [⟨5, [.ints .i64], true, false⟩, ⟨7, [.ints .i64], true, false⟩, ⟨10, [.rows .u8], true, false⟩, ⟨777777, [], true, false⟩] Try.f4.results.toList R) (run Try.prog gamD4 [⟨5, [.ints .i64], true, false⟩, ⟨7, [.ints .i64], true, false⟩, ⟨10, [.rows .u8], true, false⟩, ⟨777777, [], true, false⟩] (resh Try.prog [⟨5, [.ints .i64], true, false⟩, ⟨7, [.ints .i64], true, false⟩, ⟨10, [.rows .u8], true, false⟩, ⟨777777, [], true, false⟩] Try.f4.results.toList R) fuel) (m + 0) [.code (bodyOf Try.f4)] (startFr Try.f4.ntmps [.one (.vec 200000), .one (.vec 200001)]) [(200000, .rview [.rows .u8 ll]), (200001, .rview [.ints .i64 c])] = (lorder.k41 R ll c fuel m) := by kernel_rfl
theorem lorder_vc (R : AV → Mem → Prop) (fuel : Nat) (ll : List (List Int)) (c : List Int) : callsx Try.prog gamD4 [⟨5, [.ints .i64], true, false⟩, ⟨7, [.ints .i64], true, false⟩, ⟨10, [.rows .u8], true, false⟩, ⟨777777, [], true, false⟩] Try.f4 (fuel + 1) [.one (.vec 200000), .one (.vec 200001)] [(200000, .rview [.rows .u8 ll]), (200001, .rview [.ints .i64 c])] R = (lorder.k41 R ll c fuel 4000) := lorder_vc0 R fuel 4000 ll c
theorem dsame_vc (R : AV → Mem → Prop) (fuel : Nat) (a : List Int) (b : List Int) : callsx Try.prog gam0 [] Try.f17 (fuel + 1) [.one (.vec 200000), .one (.vec 200001)] [(200000, .rview [.ints .u8 a]), (200001, .rview [.ints .u8 b])] R = ((R (AV.one (AC.bool (seq2 (bytesOf a) (bytesOf b)))) [(200000, Blk.rview [(Col.ints IntKind.u8 a)]), (200001, Blk.rview [(Col.ints IntKind.u8 b)])])) := by kernel_rfl
theorem dplace_vc (R : AV → Mem → Prop) (fuel : Nat) (i : Int) (n : Int) : callsx Try.prog gam0 [] Try.f16 (fuel + 1) [.one (.int .i64 i), .one (.int .i64 n)] [] R = (((((ilt i 0) = true) → ((NeZ n) ∧ (R (AV.one (AC.int IntKind.i64 (rem (sub IntKind.i64 0 (add IntKind.i64 i 1)) n))) []))) ∧ (((ilt i 0) = false) → ((NeZ n) ∧ (R (AV.one (AC.int IntKind.i64 (rem i n))) []))))) := by kernel_rfl
def dalike.l0 (R : AV → Mem → Prop) (a b : List (List Int)) (fuel : Nat) (x0 : Int) : Prop := run Try.prog gamD3 [] (resh Try.prog [] Try.f13.results.toList R) fuel [kc Try.f13 [1,1,0,1,0,0],ki Try.f13 [1,1,0,1,0,0],.inBlock 0,kc Try.f13 [1,1,1]] (Vv 200000::Vv 200001::(us 10 (Ii (ofNat (llen a))::Ii x0::(us 13 [])))) [(200000,Blk.rview [Col.rows IntKind.u8 a]),(200001,Blk.rview [Col.rows IntKind.u8 b])]
theorem dalike.l0_succ (R : AV → Mem → Prop) (a b : List (List Int)) (fuel : Nat) (x0 : Int) : dalike.l0 R a b (fuel + 1) x0 = (((((ilt x0 (ofNat (llen a))) = true) → ((InB x0 (llen a)) ∧ ((InB x0 (llen b)) ∧ (((Bs (llget a (nat x0))) ∧ (Bs (llget b (nat x0)))) ∧ ((((bnot (leq (llget a (nat x0)) (llget b (nat x0)))) = true) → (R (Ll false) [(200000,Blk.rview [Col.rows IntKind.u8 a]),(200001,Blk.rview [Col.rows IntKind.u8 b])])) ∧ (((bnot (leq (llget a (nat x0)) (llget b (nat x0)))) = false) → (dalike.l0 R a b fuel (add IntKind.i64 x0 1)))))))) ∧ (((ilt x0 (ofNat (llen a))) = false) → (R (Ll true) [(200000,Blk.rview [Col.rows IntKind.u8 a]),(200001,Blk.rview [Col.rows IntKind.u8 b])])))) := by kernel_rfl
theorem dalike_vc (R : AV → Mem → Prop) (fuel : Nat) (a : List (List Int)) (b : List (List Int)) : callsx Try.prog gamD3 [] Try.f13 (fuel + 1) [.one (.vec 200000), .one (.vec 200001)] [(200000, .rview [.rows .u8 a]), (200001, .rview [.rows .u8 b])] R = (((((ine (ofNat (llen a)) (ofNat (llen b))) = true) → (R (AV.one (AC.lit false)) [(200000, Blk.rview [(Col.rows IntKind.u8 a)]), (200001, Blk.rview [(Col.rows IntKind.u8 b)])])) ∧ (((ine (ofNat (llen a)) (ofNat (llen b))) = false) → (dalike.l0 R a b fuel 0)))) := by kernel_rfl
def dgreat.l0 (R : AV → Mem → Prop) (a : List (List Int)) (fuel : Nat) (x0 x1 : Int) : Prop := run Try.prog gam0 [] (resh Try.prog [] Try.f9.results.toList R) fuel [kc Try.f9 [1,1,0,1,0,0],ki Try.f9 [1,1,0,1,0,0],.inBlock 0,kc Try.f9 [1,1,1]] (Vv 200000::Uu::Uu::Ii x0::Uu::Uu::Vv 200000::Ii (ofNat (llen a))::Ii x1::(us 10 [Zz,Zz,Zz])) [(200000,Blk.rview [Col.rows IntKind.u8 a])]
theorem dgreat.l0_succ (R : AV → Mem → Prop) (a : List (List Int)) (fuel : Nat) (x0 x1 : Int) : dgreat.l0 R a (fuel + 1) x0 x1 = (((((ilt x1 (ofNat (llen a))) = true) → ((InB x1 (llen a)) ∧ ((((igt (add IntKind.i64 x0 (ofNat (llen (llget a (nat x1))))) 1048576) = true) → (R (Ll true) [(200000,Blk.rview [Col.rows IntKind.u8 a])])) ∧ (((igt (add IntKind.i64 x0 (ofNat (llen (llget a (nat x1))))) 1048576) = false) → (dgreat.l0 R a fuel (add IntKind.i64 x0 (ofNat (llen (llget a (nat x1))))) (add IntKind.i64 x1 1)))))) ∧ (((ilt x1 (ofNat (llen a))) = false) → (R (Bb (igt (ofNat (llen a)) 2048)) [(200000,Blk.rview [Col.rows IntKind.u8 a])])))) := by kernel_rfl
theorem dgreat_vc (R : AV → Mem → Prop) (fuel : Nat) (a : List (List Int)) : callsx Try.prog gam0 [] Try.f9 (fuel + 1) [.one (.vec 200000)] [(200000, .rview [.rows .u8 a])] R = ((dgreat.l0 R a fuel 0 0)) := by kernel_rfl
theorem dawake_vc (R : AV → Mem → Prop) (fuel : Nat)  : callsx Try.prog gamD2 [] Try.f8 (fuel + 1) [] [] R = (((InB 0 10) ∧ ((InB 0 8) ∧ ((InB 0 10) ∧ ((Fits 3 1000000000) ∧ ((((ieq (ofNat (llen (exchL [[114, 111, 111, 109, 48, 48, 48, 49, 104, 105], [114, 111, 111, 109, 48, 48, 48, 50], [114, 111, 111, 109, 48, 48, 48, 49, 104, 111]]))) 3) = true) → ((InB 0 (llen (exchL [[114, 111, 111, 109, 48, 48, 48, 49, 104, 105], [114, 111, 111, 109, 48, 48, 48, 50], [114, 111, 111, 109, 48, 48, 48, 49, 104, 111]]))) ∧ ((((seq2 (bytesOf (llget (exchL [[114, 111, 111, 109, 48, 48, 48, 49, 104, 105], [114, 111, 111, 109, 48, 48, 48, 50], [114, 111, 111, 109, 48, 48, 48, 49, 104, 111]]) 0)) (ByteArray.mk (Array.mk [1, 104, 111]))) = true) → ((InB 1 (llen (exchL [[114, 111, 111, 109, 48, 48, 48, 49, 104, 105], [114, 111, 111, 109, 48, 48, 48, 50], [114, 111, 111, 109, 48, 48, 48, 49, 104, 111]]))) ∧ ((((seq2 (bytesOf (llget (exchL [[114, 111, 111, 109, 48, 48, 48, 49, 104, 105], [114, 111, 111, 109, 48, 48, 48, 50], [114, 111, 111, 109, 48, 48, 48, 49, 104, 111]]) 1)) (ByteArray.mk (Array.mk [0]))) = true) → ((InB 2 (llen (exchL [[114, 111, 111, 109, 48, 48, 48, 49, 104, 105], [114, 111, 111, 109, 48, 48, 48, 50], [114, 111, 111, 109, 48, 48, 48, 49, 104, 111]]))) ∧ (let y0 : Bool := (seq2 (bytesOf (llget (exchL [[114, 111, 111, 109, 48, 48, 48, 49, 104, 105], [114, 111, 111, 109, 48, 48, 48, 50], [114, 111, 111, 109, 48, 48, 48, 49, 104, 111]]) 2)) (ByteArray.mk (Array.mk [1, 104, 105]))); (let y1 : Int := (ofNat (llen (exchL [[114, 111, 111, 109, 48, 48, 48, 49, 104, 105], [114, 111, 111, 109, 48, 48, 48, 50], [114, 111, 111, 109, 48, 48, 48, 49, 104, 111]]))); (let y2 : Bool := (ieq (ofNat (llen (exchL [[114, 111, 111, 109, 48, 48, 48, 49, 104, 105], [114, 111, 111, 109, 48, 48, 48, 50], [114, 111, 111, 109, 48, 48, 48, 49, 104, 111]]))) 3); (let y3 : ByteArray := (bytesOf (llget (exchL [[114, 111, 111, 109, 48, 48, 48, 49, 104, 105], [114, 111, 111, 109, 48, 48, 48, 50], [114, 111, 111, 109, 48, 48, 48, 49, 104, 111]]) 0)); (let y4 : Bool := (seq2 (bytesOf (llget (exchL [[114, 111, 111, 109, 48, 48, 48, 49, 104, 105], [114, 111, 111, 109, 48, 48, 48, 50], [114, 111, 111, 109, 48, 48, 48, 49, 104, 111]]) 0)) (ByteArray.mk (Array.mk [1, 104, 111]))); (let y5 : ByteArray := (bytesOf (llget (exchL [[114, 111, 111, 109, 48, 48, 48, 49, 104, 105], [114, 111, 111, 109, 48, 48, 48, 50], [114, 111, 111, 109, 48, 48, 48, 49, 104, 111]]) 1)); (let y6 : Bool := (seq2 (bytesOf (llget (exchL [[114, 111, 111, 109, 48, 48, 48, 49, 104, 105], [114, 111, 111, 109, 48, 48, 48, 50], [114, 111, 111, 109, 48, 48, 48, 49, 104, 111]]) 1)) (ByteArray.mk (Array.mk [0]))); (let y7 : ByteArray := (bytesOf (llget (exchL [[114, 111, 111, 109, 48, 48, 48, 49, 104, 105], [114, 111, 111, 109, 48, 48, 48, 50], [114, 111, 111, 109, 48, 48, 48, 49, 104, 111]]) 2)); (R (AV.one (AC.bool y0)) [(2, Blk.rview [(Col.ints IntKind.u8 [114, 111, 111, 109, 48, 48, 48, 49, 104, 105])]), (4, Blk.rview [(Col.ints IntKind.u8 [114, 111, 111, 109, 48, 48, 48, 50])]), (6, Blk.rview [(Col.ints IntKind.u8 [114, 111, 111, 109, 48, 48, 48, 49, 104, 111])]), (8, Blk.vec [(Col.rows IntKind.u8 [[114, 111, 111, 109, 48, 48, 48, 49, 104, 105], [114, 111, 111, 109, 48, 48, 48, 50], [114, 111, 111, 109, 48, 48, 48, 49, 104, 111]])]), (9, Blk.rview [(Col.rows IntKind.u8 (exchL [[114, 111, 111, 109, 48, 48, 48, 49, 104, 105], [114, 111, 111, 109, 48, 48, 48, 50], [114, 111, 111, 109, 48, 48, 48, 49, 104, 111]]))])]))))))))))) ∧ (((seq2 (bytesOf (llget (exchL [[114, 111, 111, 109, 48, 48, 48, 49, 104, 105], [114, 111, 111, 109, 48, 48, 48, 50], [114, 111, 111, 109, 48, 48, 48, 49, 104, 111]]) 1)) (ByteArray.mk (Array.mk [0]))) = false) → (let y8 : Int := (ofNat (llen (exchL [[114, 111, 111, 109, 48, 48, 48, 49, 104, 105], [114, 111, 111, 109, 48, 48, 48, 50], [114, 111, 111, 109, 48, 48, 48, 49, 104, 111]]))); (let y9 : Bool := (ieq (ofNat (llen (exchL [[114, 111, 111, 109, 48, 48, 48, 49, 104, 105], [114, 111, 111, 109, 48, 48, 48, 50], [114, 111, 111, 109, 48, 48, 48, 49, 104, 111]]))) 3); (let y10 : ByteArray := (bytesOf (llget (exchL [[114, 111, 111, 109, 48, 48, 48, 49, 104, 105], [114, 111, 111, 109, 48, 48, 48, 50], [114, 111, 111, 109, 48, 48, 48, 49, 104, 111]]) 0)); (let y11 : Bool := (seq2 (bytesOf (llget (exchL [[114, 111, 111, 109, 48, 48, 48, 49, 104, 105], [114, 111, 111, 109, 48, 48, 48, 50], [114, 111, 111, 109, 48, 48, 48, 49, 104, 111]]) 0)) (ByteArray.mk (Array.mk [1, 104, 111]))); (let y12 : ByteArray := (bytesOf (llget (exchL [[114, 111, 111, 109, 48, 48, 48, 49, 104, 105], [114, 111, 111, 109, 48, 48, 48, 50], [114, 111, 111, 109, 48, 48, 48, 49, 104, 111]]) 1)); (let y13 : Bool := (seq2 (bytesOf (llget (exchL [[114, 111, 111, 109, 48, 48, 48, 49, 104, 105], [114, 111, 111, 109, 48, 48, 48, 50], [114, 111, 111, 109, 48, 48, 48, 49, 104, 111]]) 1)) (ByteArray.mk (Array.mk [0]))); (R (AV.one (AC.lit false)) [(2, Blk.rview [(Col.ints IntKind.u8 [114, 111, 111, 109, 48, 48, 48, 49, 104, 105])]), (4, Blk.rview [(Col.ints IntKind.u8 [114, 111, 111, 109, 48, 48, 48, 50])]), (6, Blk.rview [(Col.ints IntKind.u8 [114, 111, 111, 109, 48, 48, 48, 49, 104, 111])]), (8, Blk.vec [(Col.rows IntKind.u8 [[114, 111, 111, 109, 48, 48, 48, 49, 104, 105], [114, 111, 111, 109, 48, 48, 48, 50], [114, 111, 111, 109, 48, 48, 48, 49, 104, 111]])]), (9, Blk.rview [(Col.rows IntKind.u8 (exchL [[114, 111, 111, 109, 48, 48, 48, 49, 104, 105], [114, 111, 111, 109, 48, 48, 48, 50], [114, 111, 111, 109, 48, 48, 48, 49, 104, 111]]))])]))))))))))) ∧ (((seq2 (bytesOf (llget (exchL [[114, 111, 111, 109, 48, 48, 48, 49, 104, 105], [114, 111, 111, 109, 48, 48, 48, 50], [114, 111, 111, 109, 48, 48, 48, 49, 104, 111]]) 0)) (ByteArray.mk (Array.mk [1, 104, 111]))) = false) → (let y14 : Int := (ofNat (llen (exchL [[114, 111, 111, 109, 48, 48, 48, 49, 104, 105], [114, 111, 111, 109, 48, 48, 48, 50], [114, 111, 111, 109, 48, 48, 48, 49, 104, 111]]))); (let y15 : Bool := (ieq (ofNat (llen (exchL [[114, 111, 111, 109, 48, 48, 48, 49, 104, 105], [114, 111, 111, 109, 48, 48, 48, 50], [114, 111, 111, 109, 48, 48, 48, 49, 104, 111]]))) 3); (let y16 : ByteArray := (bytesOf (llget (exchL [[114, 111, 111, 109, 48, 48, 48, 49, 104, 105], [114, 111, 111, 109, 48, 48, 48, 50], [114, 111, 111, 109, 48, 48, 48, 49, 104, 111]]) 0)); (let y17 : Bool := (seq2 (bytesOf (llget (exchL [[114, 111, 111, 109, 48, 48, 48, 49, 104, 105], [114, 111, 111, 109, 48, 48, 48, 50], [114, 111, 111, 109, 48, 48, 48, 49, 104, 111]]) 0)) (ByteArray.mk (Array.mk [1, 104, 111]))); (R (AV.one (AC.lit false)) [(2, Blk.rview [(Col.ints IntKind.u8 [114, 111, 111, 109, 48, 48, 48, 49, 104, 105])]), (4, Blk.rview [(Col.ints IntKind.u8 [114, 111, 111, 109, 48, 48, 48, 50])]), (6, Blk.rview [(Col.ints IntKind.u8 [114, 111, 111, 109, 48, 48, 48, 49, 104, 111])]), (8, Blk.vec [(Col.rows IntKind.u8 [[114, 111, 111, 109, 48, 48, 48, 49, 104, 105], [114, 111, 111, 109, 48, 48, 48, 50], [114, 111, 111, 109, 48, 48, 48, 49, 104, 111]])]), (9, Blk.rview [(Col.rows IntKind.u8 (exchL [[114, 111, 111, 109, 48, 48, 48, 49, 104, 105], [114, 111, 111, 109, 48, 48, 48, 50], [114, 111, 111, 109, 48, 48, 48, 49, 104, 111]]))])]))))))))) ∧ (((ieq (ofNat (llen (exchL [[114, 111, 111, 109, 48, 48, 48, 49, 104, 105], [114, 111, 111, 109, 48, 48, 48, 50], [114, 111, 111, 109, 48, 48, 48, 49, 104, 111]]))) 3) = false) → (let y18 : Int := (ofNat (llen (exchL [[114, 111, 111, 109, 48, 48, 48, 49, 104, 105], [114, 111, 111, 109, 48, 48, 48, 50], [114, 111, 111, 109, 48, 48, 48, 49, 104, 111]]))); (let y19 : Bool := (ieq (ofNat (llen (exchL [[114, 111, 111, 109, 48, 48, 48, 49, 104, 105], [114, 111, 111, 109, 48, 48, 48, 50], [114, 111, 111, 109, 48, 48, 48, 49, 104, 111]]))) 3); (R (AV.one (AC.lit false)) [(2, Blk.rview [(Col.ints IntKind.u8 [114, 111, 111, 109, 48, 48, 48, 49, 104, 105])]), (4, Blk.rview [(Col.ints IntKind.u8 [114, 111, 111, 109, 48, 48, 48, 50])]), (6, Blk.rview [(Col.ints IntKind.u8 [114, 111, 111, 109, 48, 48, 48, 49, 104, 111])]), (8, Blk.vec [(Col.rows IntKind.u8 [[114, 111, 111, 109, 48, 48, 48, 49, 104, 105], [114, 111, 111, 109, 48, 48, 48, 50], [114, 111, 111, 109, 48, 48, 48, 49, 104, 111]])]), (9, Blk.rview [(Col.rows IntKind.u8 (exchL [[114, 111, 111, 109, 48, 48, 48, 49, 104, 105], [114, 111, 111, 109, 48, 48, 48, 50], [114, 111, 111, 109, 48, 48, 48, 49, 104, 111]]))])])))))))))) := by kernel_rfl
set_option maxRecDepth 20000
set_option maxHeartbeats 1000000
theorem seq_leq {a b : List Int} (ha : Bs a) (hb : Bs b) : seq2 (bytesOf a) (bytesOf b) = leq a b := by
 rw [Bool.eq_iff_iff, seq2_true, leq_eq]
 exact ⟨fun h => bytes_eq ha hb h, fun h => by rw [h]⟩
theorem good_dsame : Sx.Good Try.prog 17 dsameS := by
 refine Sx.Good.reads (D := []) mixed (good0 _) Try.func17 (by kernel_rfl) rfl fun d args σ K h => ?_
 simp only [dsameS] at h
 split at h <;> try exact h.elim
 obtain ⟨a, h, hr⟩ := rdb_row h
 obtain ⟨b, ⟨⟨ha, hb⟩, hK⟩, hr2⟩ := rdb_row h
 refine ⟨[.one (.vec 200000), .one (.vec 200001)], [(200000, .rview [.ints .u8 a]), (200001, .rview [.ints .u8 b])], .row [.ints .u8] _ hr (by decide) (.row [.ints .u8] _ hr2 (by decide) (.nil _)), by simp, 1, ?_⟩
 rw [dsame_vc]
 exact res_bool (seq_leq ha hb) hK
theorem good_dplace : Sx.Good Try.prog 16 dplaceS := by
 refine Sx.Good.pure (D := []) mixed (good0 _) Try.func16 (by kernel_rfl) rfl fun d args σ K h => ?_
 simp only [dplaceS] at h
 split at h <;> try exact h.elim
 rename_i i n
 obtain ⟨⟨hi, hn⟩, hK⟩ := h
 obtain ⟨h1, h2⟩ := hi
 have hn := hn.lt
 refine ⟨by simp [plain_int], _, plain_int _ _, hK, 0 + 1, ?_⟩
 rw [dplace_vc]
 refine ⟨fun q => ?_, fun q => ?_⟩
 ·rw [ilt_true] at q
  refine ⟨⟨by omega⟩, ?_⟩
  rw [add_i64 (by omega) (by omega), sub_i64 (by omega) (by omega)]
  unfold placeI; rw [if_pos q]
  congr 3; omega
 ·rw [ilt_false] at q
  refine ⟨⟨by omega⟩, ?_⟩
  unfold placeI; rw [if_neg (by omega)]
theorem d2_good : GoodG Try.prog gamD2 := d1_good.ext good_exch ⟨_, Try.func12, by decide, by kernel_rfl⟩
theorem d3_good : GoodG Try.prog gamD3 := (good0 _).ext good_dsame ⟨_, Try.func17, by decide, by kernel_rfl⟩
theorem llget_mem {ll : List (List Int)} {i : Nat} (h : i < ll.length) : llget ll i ∈ ll := List.mem_of_getElem? (llget_some h)
theorem llEq_true {a b : List (List Int)} : llEq a b = true ↔ a = b := by simp [llEq]
theorem llget_ext {a b : List (List Int)} (hl : a.length = b.length) (h : ∀ i, i < a.length → llget a i = llget b i) : a = b := by
 apply List.ext_getElem hl
 intro i h1 h2
 have := h i h1
 simp only [llget, List.getD, List.getElem?_eq_getElem h1, List.getElem?_eq_getElem h2, Option.getD_some] at this
 exact this
theorem alike_loop {R : AV → Mem → Prop} {a b : List (List Int)} (hl : a.length = b.length) (hn : a.length ≤ 17592186044416) (ha : RowsB a) (hb : RowsB b)
  (hY : a = b → R (.one (.lit true)) [(200000, .rview [.rows .u8 a]), (200001, .rview [.rows .u8 b])]) (hN : a ≠ b → R (.one (.lit false)) [(200000, .rview [.rows .u8 a]), (200001, .rview [.rows .u8 b])]) :
  ∀ (r i : Nat), a.length - i = r → i ≤ a.length → (∀ j, j < i → llget a j = llget b j) → ∃ F, dalike.l0 R a b F (i : Int)
 | 0, i, hr, hi, h => by
  have e1 : ilt (i : Int) (ofNat (llen a)) = false := by rw [ilt_false, ofNat_def, llen_def]; omega
  refine ⟨0 + 1, ?_⟩
  rw [dalike.l0_succ, e1]
  exact ⟨fun q => (by cases q), fun _ => hY (llget_ext hl fun j hj => h j (by omega))⟩
 | r + 1, i, hr, hi, h => by
  have e1 : ilt (i : Int) (ofNat (llen a)) = true := by rw [ilt_true, ofNat_def, llen_def]; omega
  have a1 : add .i64 (i : Int) 1 = ((i + 1 : Nat) : Int) := add1_i64 (by omega)
  have i1 : InB (i : Int) (llen a) := ⟨by omega, by rw [llen_def]; omega⟩
  have i2 : InB (i : Int) (llen b) := ⟨by omega, by rw [llen_def]; omega⟩
  have b1 := ha.all _ (llget_mem (i := i) (by omega))
  have b2 := hb.all _ (llget_mem (i := i) (by omega))
  cases q : leq (llget a i) (llget b i) with
  | true =>
   obtain ⟨F, hF⟩ := alike_loop hl hn ha hb hY hN r (i + 1) (by omega) (by omega) fun j hj => by
    by_cases e : j = i
    ·subst e; exact leq_eq.1 q
    ·exact h j (by omega)
   refine ⟨F + 1, ?_⟩
   rw [dalike.l0_succ, e1, nat_cast, q, a1]
   exact ⟨fun _ => ⟨i1, i2, ⟨b1, b2⟩, fun q => (by cases q), fun _ => hF⟩, fun q => (by cases q)⟩
  | false =>
   refine ⟨0 + 1, ?_⟩
   rw [dalike.l0_succ, e1, nat_cast, q]
   exact ⟨fun _ => ⟨i1, i2, ⟨b1, b2⟩, fun _ => hN fun e => (by rw [e, leq_eq.2 rfl] at q; cases q), fun q => (by cases q)⟩, fun q => (by cases q)⟩
theorem good_dalike : Sx.Good Try.prog 13 dalikeS := by
 refine Sx.Good.reads (D := []) mixed d3_good Try.func13 (by kernel_rfl) rfl fun d args σ K h => ?_
 simp only [dalikeS] at h
 split at h <;> try exact h.elim
 obtain ⟨a, h, hr⟩ := rdr_row h
 obtain ⟨b, ⟨⟨⟨ha, hb⟩, hsa, hsb⟩, hK⟩, hr2⟩ := rdr_row h
 have yes : ∀ σ', a = b → Res d 0 σ K (.one (.lit true)) σ' := fun σ' e => res_lit (llEq_true.2 e).symm hK
 have no : ∀ σ', a ≠ b → Res d 0 σ K (.one (.lit false)) σ' := fun σ' e => res_lit (by
  cases q : llEq a b with
  | false => rfl
  | true => exact absurd (llEq_true.1 q) e) hK
 have key : ∃ F, callsx Try.prog gamD3 [] Try.f13 F [.one (.vec 200000), .one (.vec 200001)] [(200000, .rview [.rows .u8 a]), (200001, .rview [.rows .u8 b])] (Res d dalikeS.news σ K) := by
  have ha2 := hsa.le
  have hb2 := hsb.le
  by_cases q : a.length = b.length
  ·obtain ⟨F, hF⟩ := alike_loop (R := Res d dalikeS.news σ K) q ha2 ha hb (yes _) (no _) a.length 0 (by omega) (by omega) (fun j hj => by omega)
   refine ⟨F + 1, ?_⟩
   have e : ine (ofNat (llen a)) (ofNat (llen b)) = false := by rw [ine_false, ofNat_def, ofNat_def, llen_def, llen_def, q]
   rw [dalike_vc, e]
   exact ⟨fun q => (by cases q), fun _ => hF⟩
  ·have e : ine (ofNat (llen a)) (ofNat (llen b)) = true := by rw [ine_true, ofNat_def, ofNat_def, llen_def, llen_def]; omega
   refine ⟨0 + 1, ?_⟩
   rw [dalike_vc, e]
   exact ⟨fun _ => no _ fun e => q (by rw [e]), fun q => (by cases q)⟩
 obtain ⟨F, hF⟩ := key
 exact ⟨[.one (.vec 200000), .one (.vec 200001)], [(200000, .rview [.rows .u8 a]), (200001, .rview [.rows .u8 b])], .rowH [.rows .u8] _ hr (by decide) (.rowH [.rows .u8] _ hr2 (by decide) (.nil _)), by simp, F, hF⟩
theorem sum_take {ll : List (List Int)} (i : Nat) (h : i < ll.length) : ((ll.take (i + 1)).map fun p => (p.length : Int)).sum = ((ll.take i).map fun p => (p.length : Int)).sum + ((llget ll i).length : Int) := by
 rw [List.take_add_one, llget_some h]
 simp
theorem sum_le {ll : List (List Int)} (i : Nat) : ((ll.take i).map fun p => (p.length : Int)).sum ≤ (ll.map fun p => (p.length : Int)).sum := by
 conv => rhs; rw [← List.take_append_drop i ll, List.map_append, List.sum_append]
 have : ∀ l : List (List Int), 0 ≤ (l.map fun p => (p.length : Int)).sum := fun l => by
  induction l with
  | nil => simp
  | cons p r ih => simp; omega
 have := this (ll.drop i)
 omega
theorem great_loop {R : AV → Mem → Prop} {a : List (List Int)} (hs : RowsS a) (hY : greatB a = true → R (.one (.lit true)) [(200000, .rview [.rows .u8 a])])
  (hN : ¬ (1048576 < ((a.map fun p => (p.length : Int)).sum)) → R (.one (.bool (igt (ofNat (llen a)) 2048))) [(200000, .rview [.rows .u8 a])]) :
  ∀ (r i : Nat), a.length - i = r → i ≤ a.length → ((a.take i).map fun p => (p.length : Int)).sum ≤ 1048576 → 0 ≤ ((a.take i).map fun p => (p.length : Int)).sum → ∃ F, dgreat.l0 R a F ((a.take i).map fun p => (p.length : Int)).sum (i : Int)
 | 0, i, hr, hi, h, h0 => by
  have e1 : ilt (i : Int) (ofNat (llen a)) = false := by rw [ilt_false, ofNat_def, llen_def]; omega
  have e2 : a.take i = a := List.take_of_length_le (by omega)
  refine ⟨0 + 1, ?_⟩
  rw [dgreat.l0_succ, e1]
  exact ⟨fun q => (by cases q), fun _ => hN (by rw [e2] at h; omega)⟩
 | r + 1, i, hr, hi, h, h0 => by
  have hle := hs.le
  have hil : i < a.length := by omega
  have hpl := hs.all _ (llget_mem hil)
  have e1 : ilt (i : Int) (ofNat (llen a)) = true := by rw [ilt_true, ofNat_def, llen_def]; omega
  have a1 : add .i64 (i : Int) 1 = ((i + 1 : Nat) : Int) := add1_i64 (by omega)
  have i1 : InB (i : Int) (llen a) := ⟨by omega, by rw [llen_def]; omega⟩
  have aS : add .i64 ((a.take i).map fun p => (p.length : Int)).sum (ofNat (llen (llget a i))) = ((a.take (i + 1)).map fun p => (p.length : Int)).sum := by
   rw [sum_take i hil, ofNat_def, llen_def]
   exact add_i64 (by omega) (by omega)
  have st := sum_take (ll := a) i hil
  by_cases q : 1048576 < ((a.take (i + 1)).map fun p => (p.length : Int)).sum
  ·have e2 : igt (add .i64 ((a.take i).map fun p => (p.length : Int)).sum (ofNat (llen (llget a i)))) 1048576 = true := by rw [igt_true, aS]; exact q
   refine ⟨0 + 1, ?_⟩
   rw [dgreat.l0_succ, e1, nat_cast, e2]
   refine ⟨fun _ => ⟨i1, fun _ => hY ?_, fun q => (by cases q)⟩, fun q => (by cases q)⟩
   have := sum_le (ll := a) (i + 1)
   have e3 : igt ((a.map fun p => (p.length : Int)).sum) 1048576 = true := by rw [igt_true]; omega
   unfold greatB; rw [e3]; rfl
  ·have e2 : igt (add .i64 ((a.take i).map fun p => (p.length : Int)).sum (ofNat (llen (llget a i)))) 1048576 = false := by rw [igt_false, aS]; omega
   obtain ⟨F, hF⟩ := great_loop hs hY hN r (i + 1) (by omega) (by omega) (by omega) (by omega)
   refine ⟨F + 1, ?_⟩
   rw [dgreat.l0_succ, e1, nat_cast, e2, aS, a1]
   exact ⟨fun _ => ⟨i1, fun q => (by cases q), fun _ => hF⟩, fun q => (by cases q)⟩
theorem good_great : Sx.Good Try.prog 9 greatS := by
 refine Sx.Good.reads (D := []) mixed (good0 _) Try.func9 (by kernel_rfl) rfl fun d args σ K h => ?_
 simp only [greatS] at h
 split at h <;> try exact h.elim
 obtain ⟨a, ⟨hs, hK⟩, hr⟩ := rdr_row h
 obtain ⟨F, hF⟩ := great_loop (R := Res d greatS.news σ K) hs (fun e => res_lit e.symm hK) (fun e => res_bool (by
  have e3 : igt ((a.map fun p => (p.length : Int)).sum) 1048576 = false := by rw [igt_false]; omega
  unfold greatB; rw [e3]; rfl) hK) a.length 0 (by omega) (by omega) (by simp) (by simp)
 exact ⟨[.one (.vec 200000)], [(200000, .rview [.rows .u8 a])], .rowH [.rows .u8] _ hr (by decide) (.nil _), by simp, F + 1, by rw [dgreat_vc]; exact hF⟩
theorem awake_answers : exchL [[114, 111, 111, 109, 48, 48, 48, 49, 104, 105], [114, 111, 111, 109, 48, 48, 48, 50], [114, 111, 111, 109, 48, 48, 48, 49, 104, 111]] = [[1, 104, 111], [0], [1, 104, 105]] := by decide +kernel
theorem good_dawake : Sx.Good Try.prog 8 dyesS := by
 refine Sx.Good.pure2 (D := []) mixed d2_good Try.func8 (by kernel_rfl) rfl fun d args σ K h => ?_
 simp only [dyesS] at h
 split at h <;> try exact h.elim
 refine ⟨by simp, _, fun n => rfl, h, 0 + 1, ?_⟩
 rw [dawake_vc]
 have i0 : InB 0 10 := ⟨by omega, by omega⟩
 have i1 : InB 0 8 := ⟨by omega, by omega⟩
 have f3 : Fits 3 1000000000 := ⟨by omega⟩
 have j0 : InB 0 3 := ⟨by omega, by omega⟩
 have j1 : InB 1 3 := ⟨by omega, by omega⟩
 have j2 : InB 2 3 := ⟨by omega, by omega⟩
 have s0 : seq2 (bytesOf [1, 104, 111]) (ByteArray.mk (Array.mk [1, 104, 111])) = true := by decide +kernel
 have s1 : seq2 (bytesOf [0]) (ByteArray.mk (Array.mk [0])) = true := by decide +kernel
 have s2 : seq2 (bytesOf [1, 104, 105]) (ByteArray.mk (Array.mk [1, 104, 105])) = true := by decide +kernel
 have l3 : llen [[1, 104, 111], [0], [(1 : Int), 104, 105]] = 3 := rfl
 have g0 : llget [[1, 104, 111], [0], [(1 : Int), 104, 105]] 0 = [1, 104, 111] := rfl
 have g1 : llget [[1, 104, 111], [0], [(1 : Int), 104, 105]] 1 = [0] := rfl
 have g2 : llget [[1, 104, 111], [0], [(1 : Int), 104, 105]] 2 = [1, 104, 105] := rfl
 have e3 : ieq (ofNat 3) 3 = true := rfl
 simp only [awake_answers, l3, g0, g1, g2, s0, s1, s2, e3, i0, i1, f3, j0, j1, j2, true_and, and_true, Bool.true_eq_false, false_implies, forall_const]
 exact fun ρ v h => h
theorem d4_good : GoodG Try.prog gamD4 := ((((d2_good.ext good_dsame ⟨_, Try.func17, by decide, by kernel_rfl⟩).ext good_dalike ⟨_, Try.func13, by decide, by kernel_rfl⟩).ext good_great ⟨_, Try.func9, by decide, by kernel_rfl⟩).ext good_dplace ⟨_, Try.func16, by decide, by kernel_rfl⟩).ext good_dawake ⟨_, Try.func8, by decide, by kernel_rfl⟩
end Go.Proofs.Ytnpfockaigegiaa.G
namespace Go.Sx
open Go
def ints (n : Nat) : List Int := tab n fun k => (k : Int)
theorem ints_mem {n : Nat} {v : Int} : v ∈ ints n ↔ ∃ k : Nat, v = (k : Int) ∧ k < n := by
 unfold ints tab
 rw [List.mem_map]
 constructor
 ·rintro ⟨k, hk, rfl⟩; exact ⟨k, rfl, List.mem_range.1 hk⟩
 ·rintro ⟨k, rfl, hk⟩; exact ⟨k, List.mem_range.2 hk, rfl⟩
theorem two_sum {q r : List Int} (hq : q.length = 2) (hr : r.length = 2) (hn : q.Nodup) (hm : ∀ x, x ∈ q → x ∈ r) : lget q 0 + lget q 1 = lget r 0 + lget r 1 := by
 match q, hq, r, hr with
 | [a, b], _, [c, d], _ =>
  have h1 := hm a (by simp)
  have h2 := hm b (by simp)
  simp only [List.mem_cons, List.not_mem_nil, or_false] at h1 h2
  have h3 : a ≠ b := by
   have := List.nodup_cons.1 hn
   intro e; exact this.1 (by simp [e])
  show a + b = c + d
  rcases h1 with rfl | rfl <;> rcases h2 with rfl | rfl
  ·exact absurd rfl h3
  ·rfl
  ·omega
  ·exact absurd rfl h3
def turnL (ll : List (List Int)) (o : List Int) : List (List Int) := o.map fun v => llget ll (nat v)
theorem turn_get {ll : List (List Int)} {o : List Int} {k : Nat} (hk : k < o.length) : llget (turnL ll o) k = llget ll (nat (lget o k)) := by
 unfold turnL
 simp only [llget, lget, List.getD, List.getElem?_map, List.getElem?_eq_getElem hk, Option.map_some, Option.getD_some]
theorem turn_idx {ll : List (List Int)} {o : List Int} {x : List Int} : (idxL (turnL ll o) x o.length).map (fun v => lget o (nat v)) = o.filter fun v => atD ll x (nat v) := by
 unfold idxL
 rw [List.map_map]
 have ho : o = (List.range o.length).map (lget o) := by
  conv => lhs; rw [eq_tab (l := o) rfl]
  rfl
 conv => rhs; rw [ho]
 rw [List.filter_map]
 have : (List.range o.length).filter (atD (turnL ll o) x) = (List.range o.length).filter ((fun v => atD ll x (nat v)) ∘ lget o) := by
  refine List.filter_congr fun k hk => ?_
  rw [List.mem_range] at hk
  simp only [Function.comp, atD, turn_get hk]
 rw [this]
 refine List.map_congr_left fun k hk => ?_
 simp only [Function.comp, nat_cast]
theorem idx_filter {ll : List (List Int)} {x : List Int} {n : Nat} : idxL ll x n = (ints n).filter fun v => atD ll x (nat v) := by
 unfold idxL ints tab
 rw [List.filter_map]
 congr 1
theorem exch_turn {ll : List (List Int)} {o : List Int} (hp : o.Perm (ints ll.length)) {k : Nat} (hk : k < o.length) : exch1 (turnL ll o) k = exch1 ll (nat (lget o k)) := by
 have hol : o.length = ll.length := by rw [hp.length_eq]; unfold ints; rw [tab_len]
 have hN : (turnL ll o).length = o.length := by unfold turnL; simp
 have hm : ∀ j, j < o.length → ∃ m : Nat, lget o j = (m : Int) ∧ m < ll.length := fun j hj => ints_mem.1 (hp.mem_iff.1 (List.mem_of_getElem? (lget_some hj)))
 obtain ⟨m, hmk, hmN⟩ := hm k hk
 have hg := turn_get (ll := ll) hk
 rw [hmk, nat_cast] at hg ⊢
 have hperm : ∀ x, ((idxL (turnL ll o) x o.length).map fun v => lget o (nat v)).Perm (idxL ll x ll.length) := fun x => by
  rw [turn_idx, idx_filter]; exact hp.filter _
 have hlen : ∀ x, (idxL (turnL ll o) x o.length).length = (idxL ll x ll.length).length := fun x => by
  have := (hperm x).length_eq
  rwa [List.length_map] at this
 unfold exch1
 rw [hg, hN, hlen]
 cases hr : rtB (llget ll m) with
 | false => rfl
 | true =>
  simp only [if_true]
  by_cases c1 : (idxL ll (nmL (llget ll m)) ll.length).length = 1
  ·rw [if_pos c1, if_pos c1]
  ·rw [if_neg c1, if_neg c1]
   by_cases c2 : (idxL ll (nmL (llget ll m)) ll.length).length = 2
   ·rw [if_pos c2, if_pos c2]
    have c3 := c2
    rw [← hlen] at c3
    have hkm : (k : Int) ∈ idxL (turnL ll o) (nmL (llget ll m)) o.length := idx_mem.2 ⟨k, rfl, hk, by simp [atD, hg, hr, leq]⟩
    have hpm := hperm (nmL (llget ll m))
    have hnd := idx_nodup (ll := turnL ll o) (x := nmL (llget ll m)) (t := o.length)
    have hnd2 := hpm.nodup_iff.2 (idx_nodup (ll := ll) (x := nmL (llget ll m)) (t := ll.length))
    have hq : ∀ v, v ∈ idxL (turnL ll o) (nmL (llget ll m)) o.length → ∃ j : Nat, v = (j : Int) ∧ j < o.length := fun v hv => by
     obtain ⟨j, h1, h2, _⟩ := idx_mem.1 hv; exact ⟨j, h1, h2⟩
    generalize idxL (turnL ll o) (nmL (llget ll m)) o.length = q at c3 hkm hpm hnd hnd2 hq
    generalize idxL ll (nmL (llget ll m)) ll.length = r at c2 hpm c1
    have hsum := two_sum (q := q.map fun v => lget o (nat v)) (r := r) (by rw [List.length_map]; exact c3) c2 hnd2 (fun x hx => hpm.mem_iff.1 hx)
    match q, c3 with
    | [a, b], _ =>
     have hsum : lget o (nat a) + lget o (nat b) = lget r 0 + lget r 1 := hsum
     have e : ∀ c d : Int, (k : Int) = c → (c = a ∧ d = b ∨ c = b ∧ d = a) → llget (turnL ll o) (nat (lget [a, b] 0 + lget [a, b] 1 - (k : Int))) = llget ll (nat (lget r 0 + lget r 1 - (m : Int))) := fun c d hc hcd => by
      have hd : lget [a, b] 0 + lget [a, b] 1 - (k : Int) = d := by
       show a + b - (k : Int) = d
       omega
      have hd2 : lget r 0 + lget r 1 - (m : Int) = lget o (nat d) := by
       rw [← hsum, ← hmk]
       have : lget o k = lget o (nat c) := by rw [← hc, nat_cast]
       rw [this]
       rcases hcd with ⟨rfl, rfl⟩ | ⟨rfl, rfl⟩ <;> omega
      rw [hd, hd2]
      have hdo : nat d < o.length := by
       obtain ⟨j, hj, hjl⟩ := hq d (by rcases hcd with ⟨_, rfl⟩ | ⟨_, rfl⟩ <;> simp)
       rw [hj, nat_cast]; exact hjl
      rw [turn_get hdo]
     simp only [List.mem_cons, List.not_mem_nil, or_false] at hkm
     have : llget (turnL ll o) (nat (lget [a, b] 0 + lget [a, b] 1 - (k : Int))) = llget ll (nat (lget r 0 + lget r 1 - (m : Int))) := by
      rcases hkm with h | h
      ·exact e a b h (Or.inl ⟨rfl, rfl⟩)
      ·exact e b a h (Or.inr ⟨rfl, rfl⟩)
     rw [this]
   ·rw [if_neg c2, if_neg c2]
end Go.Sx
namespace Go.Proofs.Ytnpfockaigegiaa.G
open Go Go.Sx
set_option maxRecDepth 20000
set_option maxHeartbeats 1000000
theorem exch_bs {ll : List (List Int)} (h : RowsB ll) (i : Nat) : Bs (exch1 ll i) := by
 have hb : ∀ j, Bs (llget ll j) := fun j => by
  rcases Nat.lt_or_ge j ll.length with q | q
  ·exact h.all _ (llget_mem q)
  ·have : llget ll j = [] := by simp only [llget, List.getD, List.getElem?_eq_none q, Option.getD_none]
   rw [this]; exact ⟨by simp⟩
 have hs : ∀ (l : List Int), Bs l → ∀ a b, Bs (lsub l a b) := fun l h a b => by unfold lsub; exact (h.drop a).take b
 unfold exch1
 split
 ·split
  ·exact ⟨by simp⟩
  ·split
   ·exact Bs.app (a := [1]) ⟨by simp⟩ (hs _ (hb _) _ _)
   ·exact ⟨by simp⟩
 ·exact ⟨by simp⟩
theorem exchL_len (ll : List (List Int)) : (exchL ll).length = ll.length := tab_len _ _
theorem exchL_get {ll : List (List Int)} {i : Nat} (h : i < ll.length) : llget (exchL ll) i = exch1 ll i := tab_llget _ h
theorem turn_rows {ll : List (List Int)} (h : RowsB ll) {o : List Int} (ho : ∀ v ∈ o, ∃ k : Nat, v = (k : Int) ∧ k < ll.length) : RowsB (turnL ll o) := ⟨fun p hp => by
 obtain ⟨v, hv, rfl⟩ := List.mem_map.1 hp
 obtain ⟨k, rfl, hk⟩ := ho v hv
 rw [nat_cast]; exact h.all _ (llget_mem hk)⟩
theorem do_l3 {ll : List (List Int)} {o c : List Int} (hB : RowsB ll) (hN : ll.length ≤ 2048) (hp : o.Perm (ints ll.length)) : ∃ F, lorder.l3 okR o ll (turnL ll o) c F 0 := by
 have hol : o.length = ll.length := by rw [hp.length_eq]; unfold ints; rw [tab_len]
 have hin : ∀ v ∈ o, ∃ k : Nat, v = (k : Int) ∧ k < ll.length := fun v hv => ints_mem.1 (hp.mem_iff.1 hv)
 have hTB := turn_rows hB hin
 have hTl : (turnL ll o).length = o.length := by unfold turnL; simp
 exact ⟨_, loop_n (fun f i (_ : Unit) => lorder.l3 okR o ll (turnL ll o) c f i) o.length (fun _ => ()) 1 1 (fun g i hi hx => by
  have a1 : add .i64 (i : Int) 1 = ((i + 1 : Nat) : Int) := add1_i64 (by omega)
  have e1 : ilt (i : Int) (ofNat (llen o)) = true := by rw [ilt_true, ofNat_def, llen_def]; omega
  obtain ⟨m, hm, hmN⟩ := hin (lget o i) (List.mem_of_getElem? (lget_some hi))
  have i1 : InB (i : Int) (llen o) := ⟨by omega, by rw [llen_def]; omega⟩
  have i2 : InB (i : Int) (llen (exchL (turnL ll o))) := ⟨by omega, by rw [llen_def, exchL_len, hTl]; omega⟩
  have i3 : InB (m : Int) (llen (exchL ll)) := ⟨by omega, by rw [llen_def, exchL_len]; omega⟩
  have t := exch_turn hp hi
  rw [hm, nat_cast] at t
  have b1 : Bs (llget (exchL (turnL ll o)) i) := by rw [exchL_get (by omega)]; exact exch_bs hTB i
  have b2 : Bs (llget (exchL ll) m) := by rw [exchL_get hmN]; exact exch_bs hB m
  have lq : leq (llget (exchL (turnL ll o)) i) (llget (exchL ll) m) = true := by rw [leq_eq, exchL_get (by omega), exchL_get hmN]; exact t
  show lorder.l3 okR o ll (turnL ll o) c (g + 1) (i : Int)
  rw [lorder.l3_succ, lorder.k25_eq okR _ _ _ _ _ g 3993, e1, lorder.k23_eq okR _ _ _ _ _ g 3991, lorder.k22_eq okR _ _ _ _ _ g 3989, nat_cast, hm, nat_cast, lorder.k21_eq okR _ _ _ _ _ g 3985, nat_cast, hm, nat_cast, lq, lorder.k20_eq okR _ _ _ _ _ g 3885, a1]
  exact dr_tt ⟨i1, i2, i3, ⟨b1, b2⟩, dr_ff hx⟩) (by
  have e1 : ilt (o.length : Int) (ofNat (llen o)) = false := by rw [ilt_false, ofNat_def, llen_def]; omega
  show lorder.l3 okR o ll (turnL ll o) c (0 + 1) (o.length : Int)
  rw [lorder.l3_succ, lorder.k25_eq okR _ _ _ _ _ 0 3993, e1, lorder.k24_eq okR _ _ _ _ _ 0 3893]
  exact dr_ff okR_lit) 0 (Nat.zero_le _)⟩
theorem do_l2 {ll : List (List Int)} {o c : List Int} (hB : RowsB ll) (hN : ll.length ≤ 2048) (hp : o.Perm (ints ll.length)) : ∃ F, lorder.l2 okR o ll c F 0 [] := by
 have hol : o.length = ll.length := by rw [hp.length_eq]; unfold ints; rw [tab_len]
 have hin : ∀ v ∈ o, ∃ k : Nat, v = (k : Int) ∧ k < ll.length := fun v hv => ints_mem.1 (hp.mem_iff.1 hv)
 have hTl : (turnL ll o).length = o.length := by unfold turnL; simp
 obtain ⟨F3, h3⟩ := do_l3 (c := c) hB hN hp
 have hT : turnL ll o = tab o.length fun k => llget ll (nat (lget o k)) := by
  unfold turnL
  conv => lhs; rw [eq_tab (l := o) rfl]
  rw [tab_map]
 exact ⟨_, loop_n (fun f i (x : List (List Int)) => lorder.l2 okR o ll c f i x) o.length (fun i => tab i fun k => llget ll (nat (lget o k))) 1 (F3 + 1) (fun g i hi hx => by
  have a1 : add .i64 (i : Int) 1 = ((i + 1 : Nat) : Int) := add1_i64 (by omega)
  have e1 : ilt (i : Int) (ofNat (llen o)) = true := by rw [ilt_true, ofNat_def, llen_def]; omega
  obtain ⟨m, hm, hmN⟩ := hin (lget o i) (List.mem_of_getElem? (lget_some hi))
  have i1 : InB (i : Int) (llen o) := ⟨by omega, by rw [llen_def]; omega⟩
  have i2 : InB (m : Int) (llen ll) := ⟨by omega, by rw [llen_def]; omega⟩
  have rm : Room (nadd (llen (tab i fun k => llget ll (nat (lget o k)))) (llen [llget ll m])) 24 := ⟨by
   show (5 * ((tab i fun k => llget ll (nat (lget o k))).length + 1) + 4096) * 24 ≤ _
   rw [tab_len]; omega⟩
  have st : lcat (tab i fun k => llget ll (nat (lget o k))) [llget ll m] = tab (i + 1) fun k => llget ll (nat (lget o k)) := by
   rw [tab_succ]
   show _ ++ [llget ll m] = _ ++ [llget ll (nat (lget o i))]
   rw [hm, nat_cast]
  show lorder.l2 okR o ll c (g + 1) (i : Int) (tab i fun k => llget ll (nat (lget o k)))
  rw [lorder.l2_succ, lorder.k30_eq okR _ _ _ _ _ g 3996, e1, lorder.k17_eq okR _ _ _ _ _ g 3991, lorder.k16_eq okR _ _ _ _ _ g 3988, nat_cast, hm, nat_cast, lorder.k15_eq okR _ _ _ _ _ g 3888, nat_cast, hm, nat_cast, st, a1]
  exact dr_tt ⟨i1, i2, rm, hx⟩) (by
  have e1 : ilt (o.length : Int) (ofNat (llen o)) = false := by rw [ilt_false, ofNat_def, llen_def]; omega
  have f1 : Fits (llen ll) 1000000000 := ⟨by rw [llen_def]; omega⟩
  have f2 : Fits (llen (turnL ll o)) 1000000000 := ⟨by rw [llen_def, hTl]; omega⟩
  have e2 : ine (ofNat (llen (exchL ll))) (ofNat (llen ll)) = false := by rw [ine_false, ofNat_def, ofNat_def, llen_def, llen_def, exchL_len]
  have e3 : ine (ofNat (llen (exchL (turnL ll o)))) (ofNat (llen ll)) = false := by rw [ine_false, ofNat_def, ofNat_def, llen_def, llen_def, exchL_len, hTl, hol]
  show lorder.l2 okR o ll c (F3 + 1) (o.length : Int) (tab o.length fun k => llget ll (nat (lget o k)))
  rw [← hT, lorder.l2_succ, lorder.k30_eq okR _ _ _ _ _ F3 3996, e1, lorder.k29_eq okR _ _ _ _ _ F3 3993, lorder.k28_eq okR _ _ _ _ _ F3 3987, e2, lorder.k27_eq okR _ _ _ _ _ F3 3985, e3, lorder.k26_eq okR _ _ _ _ F3 3885]
  exact dr_ff ⟨f1, f2, fun _ => dr_ff h3, fun q => (by cases q)⟩) 0 (Nat.zero_le _)⟩
theorem lcat_erase2 {l : List Int} {p : Nat} (h : p < l.length) : lcat (lsub l 0 p) (lsub l (p + 1) (nsub (llen l) (p + 1))) = l.eraseIdx p := by
 rw [lcat_def, lsub, List.drop_zero, List.eraseIdx_eq_take_drop_succ]
 congr 1
 rw [lsub, nsub, llen_def, ← List.length_drop, List.take_length]
theorem perm_move {o l : List Int} {p : Nat} (h : p < l.length) : ((o ++ [lget l p]) ++ l.eraseIdx p).Perm (o ++ l) := by
 rw [List.append_assoc]
 refine List.Perm.append_left o ?_
 have e : lget l p = l[p] := by
  have := lget_some h
  rw [List.getElem?_eq_getElem h] at this
  exact (Option.some.inj this).symm
 rw [e]
 rw [List.eraseIdx_eq_take_drop_succ]
 have e2 : l = l.take p ++ l[p] :: l.drop (p + 1) := by
  conv => lhs; rw [← List.take_append_drop p l, List.drop_eq_getElem_cons h]
 conv => rhs; rw [e2]
 show (l[p] :: (l.take p ++ l.drop (p + 1))).Perm _
 exact List.perm_middle.symm
theorem do_l1 {ll : List (List Int)} {c : List Int} (hB : RowsB ll) (hN : ll.length ≤ 2048) (hc : ∀ i, i < c.length → I64 (lget c i)) :
  ∀ (r n : Nat) (left o : List Int), ll.length - n = r → n ≤ ll.length → o.length = n → (o ++ left).Perm (ints ll.length) → ∃ F, lorder.l1 okR ll c F (n : Int) left o
 | 0, n, left, o, hr, hn, ho, hp => by
  have hl := hp.length_eq
  rw [List.length_append] at hl
  unfold ints at hl
  rw [tab_len] at hl
  have hnil : left = [] := List.length_eq_zero_iff.1 (by omega)
  subst hnil
  rw [List.append_nil] at hp
  obtain ⟨F, hF⟩ := do_l2 (c := c) hB hN hp
  have e1 : ilt (n : Int) (ofNat (llen ll)) = false := by rw [ilt_false, ofNat_def, llen_def]; omega
  refine ⟨F + 1, ?_⟩
  rw [lorder.l1_succ, lorder.k33_eq okR _ _ _ _ _ F 3996, e1, lorder.k32_eq okR _ _ _ _ _ F 3990, lorder.k31_eq okR _ _ _ _ _ F 3890]
  exact dr_ff hF
 | r + 1, n, left, o, hr, hn, ho, hp => by
  have hl := hp.length_eq
  rw [List.length_append] at hl
  unfold ints at hl
  rw [tab_len] at hl
  have a1 : add .i64 (n : Int) 1 = ((n + 1 : Nat) : Int) := add1_i64 (by omega)
  have e1 : ilt (n : Int) (ofNat (llen ll)) = true := by rw [ilt_true, ofNat_def, llen_def]; omega
  have next : ∀ p, p < left.length → ∃ F, lorder.l1 okR ll c F ((n + 1 : Nat) : Int) (left.eraseIdx p) (o ++ [lget left p]) := fun p hpl =>
   do_l1 hB hN hc r (n + 1) _ _ (by omega) (by omega) (by simp; omega) ((perm_move hpl).trans hp)
  have rmO : ∀ v : Int, Room (nadd (llen o) (llen [v])) 8 := fun v => ⟨by show (5 * (o.length + 1) + 4096) * 8 ≤ _; omega⟩
  have rmL : ∀ p, Room (nadd (llen (lsub left 0 p)) (llen (lsub left (p + 1) (nsub (llen left) (p + 1))))) 8 := fun p => ⟨by
   have l1 : (lsub left 0 p).length ≤ 2048 := by unfold lsub; simp; omega
   have l2 : (lsub left (p + 1) (nsub (llen left) (p + 1))).length ≤ 2048 := by unfold lsub; simp; omega
   show (5 * ((lsub left 0 p).length + (lsub left (p + 1) (nsub (llen left) (p + 1))).length) + 4096) * 8 ≤ _
   omega⟩
  by_cases q : n < c.length
  ·have e2 : ilt (n : Int) (ofNat (llen c)) = true := by rw [ilt_true, ofNat_def, llen_def]; omega
   obtain ⟨p, hp2, hplt⟩ := place_fit (i := lget c n) (n := ofNat (llen left)) (by rw [ofNat_def, llen_def]; omega)
   have hpl : p < left.length := by rw [ofNat_def, llen_def] at hplt; omega
   obtain ⟨F, hF⟩ := next p hpl
   have ap : add .i64 (p : Int) 1 = ((p + 1 : Nat) : Int) := add1_i64 (by omega)
   have i1 : InB (n : Int) (llen c) := ⟨by omega, by rw [llen_def]; omega⟩
   have i2 := hc n q
   have i3 : Pos (ofNat (llen left)) := ⟨by rw [ofNat_def, llen_def]; omega⟩
   have i4 : InB (p : Int) (llen left) := ⟨by omega, by rw [llen_def]; omega⟩
   have i5 : NonNeg (p : Int) := ⟨by omega⟩
   have i6 : Fits p (llen left) := ⟨by rw [llen_def]; omega⟩
   have i7 : NonNeg ((p + 1 : Nat) : Int) := ⟨by omega⟩
   have i8 : Fits (p + 1) (llen left) := ⟨by rw [llen_def]; omega⟩
   refine ⟨F + 1, ?_⟩
   rw [lorder.l1_succ, lorder.k33_eq okR _ _ _ _ _ F 3996, e1, lorder.k14_eq okR _ _ _ _ _ F 3991, lorder.k13_eq okR _ _ _ _ _ F 3986, lorder.k12_eq okR _ _ _ _ _ F 3985, e2, lorder.k8_eq okR _ _ _ _ _ F 3984, lorder.k7_eq okR _ _ _ _ _ F 3982, lorder.k6_eq okR _ _ _ _ _ F 3981, lorder.k5_eq okR _ _ _ _ _ F 3979]
   simp only [lorder.k4_eq okR _ _ _ _ _ _ F 3879, nat_cast, hp2, ap, lcat_erase2 hpl, a1]
   exact ⟨fun _ => ⟨fun _ => ⟨i1, ⟨i2, i3⟩, i4, rmO _, ⟨i5, i6⟩, ⟨i7, i8⟩, rmL p, hF⟩, fun q => (by cases q)⟩, fun q => (by cases q)⟩
  ·have e2 : ilt (n : Int) (ofNat (llen c)) = false := by rw [ilt_false, ofNat_def, llen_def]; omega
   have hpl : 0 < left.length := by omega
   obtain ⟨F, hF⟩ := next 0 hpl
   have i4 : InB 0 (llen left) := ⟨by omega, by rw [llen_def]; omega⟩
   have i5 : NonNeg (0 : Int) := ⟨by omega⟩
   have i6 : Fits 0 (llen left) := ⟨by rw [llen_def]; omega⟩
   have i7 : NonNeg (1 : Int) := ⟨by omega⟩
   have i8 : Fits 1 (llen left) := ⟨by rw [llen_def]; omega⟩
   have ce := lcat_erase2 hpl
   rw [Nat.zero_add] at ce
   have rl := rmL 0
   rw [Nat.zero_add] at rl
   refine ⟨F + 1, ?_⟩
   rw [lorder.l1_succ, lorder.k33_eq okR _ _ _ _ _ F 3996, e1, lorder.k14_eq okR _ _ _ _ _ F 3991, lorder.k13_eq okR _ _ _ _ _ F 3986, lorder.k12_eq okR _ _ _ _ _ F 3985, e2, lorder.k11_eq okR _ _ _ _ _ F 3982, lorder.k10_eq okR _ _ _ _ _ F 3979, lorder.k9_eq okR _ _ _ _ _ F 3879, ce, a1]
   exact dr_tt (dr_ff ⟨i4, rmO _, ⟨i5, i6⟩, ⟨i7, i8⟩, rl, hF⟩)
theorem great_few {ll : List (List Int)} (h : greatB ll = false) : ll.length ≤ 2048 := by
 unfold greatB at h
 rw [Bool.or_eq_false_iff, igt_false, igt_false, ofNat_def, llen_def] at h
 omega
theorem dropOrder_plain {ll : List (List Int)} {c : List Int} (hS : RowsS ll) (hB : RowsB ll) (hc : ∀ i, i < c.length → I64 (lget c i)) :
  ∃ f, Has (callsx Try.prog gamD4 [⟨5, [.ints .i64], true, false⟩, ⟨7, [.ints .i64], true, false⟩, ⟨10, [.rows .u8], true, false⟩, ⟨777777, [], true, false⟩] Try.f4 f [.one (.vec 200000), .one (.vec 200001)] [(200000, .rview [.rows .u8 ll]), (200001, .rview [.ints .i64 c])] fun av _ => av = .one (.bool true) ∨ av = .one (.lit true)) := by
 cases hg : greatB ll with
 | true =>
  refine ⟨0 + 1, ⟨?_⟩⟩
  show callsx Try.prog gamD4 _ _ (0 + 1) _ _ okR
  rw [lorder_vc, lorder.k41_eq okR ll c 0 3994, lorder.k40_eq okR ll c 0 3990, lorder.k39_eq okR ll c 0 3987, hg, lorder.k0_eq okR ll c 0 3887]
  exact ⟨hS, dr_tt okR_lit⟩
 | false =>
  have hN := great_few hg
  have mk : Mk (ofNat (llen ll)) (ofNat (llen ll)) 8 := by rw [ofNat_def, llen_def]; exact ⟨by omega, by omega, by omega, by omega⟩
  obtain ⟨F1, h1⟩ := do_l1 (c := c) hB hN hc ll.length 0 (ints ll.length) [] (by omega) (by omega) rfl (List.Perm.refl _)
  obtain ⟨F, hF⟩ := loop_ex (fun f i (x : List Int) => lorder.l0 okR ll c f i x) ll.length (fun i => upto ll.length i (fun j => (j : Int)) (fun _ => 0)) (fun f i hi' hx => ⟨f + 1, by
   have e1 : ilt (i : Int) (ofNat (llen (lzeros (nat (ofNat (llen ll)))))) = true := by rw [ilt_true, ofNat_def, nat, ofNat_def, llen_def, llen_def]; simp [lzeros]; omega
   have ib : InB (i : Int) (llen (upto ll.length i (fun j => (j : Int)) (fun _ => 0))) := ⟨by omega, by rw [llen_def, upto_len]; omega⟩
   rw [lorder.l0_succ, lorder.k36_eq okR _ _ _ _ f 3996, e1, lorder.k3_eq okR _ _ _ _ f 3991, lorder.k2_eq okR _ _ _ _ f 3988, lorder.k1_eq okR _ _ _ _ f 3888, add1_i64 (by omega), nat_cast, upto_lset (F := fun j => (j : Int)) rfl]
   exact dr_tt ⟨ib, hx⟩⟩) ⟨F1 + 1, by
   have e1 : ilt (ll.length : Int) (ofNat (llen (lzeros (nat (ofNat (llen ll)))))) = false := by rw [ilt_false, ofNat_def, nat, ofNat_def, llen_def, llen_def]; simp [lzeros]
   rw [lorder.l0_succ, lorder.k36_eq okR _ _ _ _ F1 3996, e1, lorder.k35_eq okR _ _ _ _ F1 3990, lorder.k34_eq okR _ _ _ _ F1 3890, upto_done]
   exact dr_ff h1⟩ 0 (Nat.zero_le _)
  have hz : lzeros (nat (ofNat (llen ll))) = upto ll.length 0 (fun j => (j : Int)) (fun _ => 0) := by rw [upto_zero, lzeros_tab]; rfl
  refine ⟨F + 1, ⟨?_⟩⟩
  show callsx Try.prog gamD4 _ _ (F + 1) _ _ okR
  rw [lorder_vc, lorder.k41_eq okR ll c F 3994, lorder.k40_eq okR ll c F 3990, lorder.k39_eq okR ll c F 3987, hg, lorder.k38_eq okR ll c F 3983, lorder.k37_eq okR ll c F 3883, hz]
  exact ⟨hS, dr_ff ⟨mk, hF⟩⟩
end Go.Proofs.Ytnpfockaigegiaa.G
namespace Go.Sx
open Go Go.ChangeShapes Go.WideShapes Go.ChangeAt Go.RowKit
inductive KF where
 | ks (l : List Kd)
 | recs (l : List Kd) (bytes : Nat)
def KF.width : KF → Nat
 | .ks l => Sx.width l
 | .recs _ _ => 1
structure RecsIn (w : World) (l : List Kd) (bytes : Nat) (A : Option Addr) (len cap : Nat) (L : Loc) (cols : List Col) : Prop where
 rep : VRep w L cols
 val : Value.slice A len cap = .slice L.a L.len L.cap
 kds : kdsOf cols = l
 wf : ∀ col ∈ cols, col.wf
 size : L.len * bytes ≤ reachBytes
def KF.at (w : World) (k : KF) (cs : List Value) (o : Nat) : Prop :=
 match k with
 | .ks l => KdsAt w l cs o
 | .recs l b => ∃ A len cap L cols, cs[o]? = some (.slice A len cap) ∧ RecsIn w l b A len cap L cols
def KFsAt (w : World) : List KF → List Value → Nat → Prop
 | [], _, _ => True
 | k :: r, cs, o => k.at w cs o ∧ KFsAt w r cs (o + k.width)
section
variable {H : Type} {enc : TypeId × Value → H} {P : Program} {w : World}
theorem KFsAt.recs {l : List Kd} {b : Nat} {r : List KF} {cs : List Value} {o : Nat} (h : KFsAt w (.recs l b :: r) cs o) : ∃ A len cap L cols, RecsIn w l b A len cap L cols ∧ cs.drop o = .slice A len cap :: cs.drop (o + 1) ∧ KFsAt w r cs (o + 1) := by
 obtain ⟨⟨A, len, cap, L, cols, h1, h2⟩, h4⟩ := h
 obtain ⟨hl, he⟩ := (List.getElem?_eq_some_iff.1 h1)
 exact ⟨A, len, cap, L, cols, h2, by rw [List.drop_eq_getElem_cons hl, he], h4⟩
theorem KFsAt.rows {q : IntKind} {r : List KF} {cs : List Value} {o : Nat} (h : KFsAt w (.ks [.rows q] :: r) cs o) : ∃ A L C Z, IsRow q w A L C Z ∧ Z.length ≤ reachBytes ∧ cs.drop o = .slice A L C :: cs.drop (o + 1) ∧ KFsAt w r cs (o + 1) := by
 obtain ⟨A, L, C, Z, h1, h2, h3, _⟩ := KdsAt.rows h.1
 exact ⟨A, L, C, Z, h1, h2, h3, h.2⟩
theorem KFsAt.ints {q : IntKind} {r : List KF} {cs : List Value} {o : Nat} (h : KFsAt w (.ks [.ints q] :: r) cs o) : ∃ n, (Lit.int q n).wf = true ∧ cs.drop o = .int q n :: cs.drop (o + 1) ∧ KFsAt w r cs (o + 1) := by
 obtain ⟨n, h1, h2, _⟩ := KdsAt.ints h.1
 exact ⟨n, h1, h2, h.2⟩
theorem KFsAt.bools {r : List KF} {cs : List Value} {o : Nat} (h : KFsAt w (.ks [.bools] :: r) cs o) : ∃ b, cs.drop o = .bool b :: cs.drop (o + 1) ∧ KFsAt w r cs (o + 1) := by
 obtain ⟨b, h1, _⟩ := KdsAt.bools h.1
 exact ⟨b, h1, h.2⟩
theorem KFsAt.arrs {q : IntKind} {m : Nat} {r : List KF} {cs : List Value} {o : Nat} (h : KFsAt w (.ks [.arrs q m] :: r) cs o) (hl : o + m ≤ cs.length) : ∃ l : List Int, l.length = m ∧ (∀ x ∈ l, (Lit.int q x).wf = true) ∧ cs.drop o = l.map (Value.int q) ++ cs.drop (o + m) ∧ KFsAt w r cs (o + m) := by
 obtain ⟨l, h1, h2, h3, _⟩ := KdsAt.arrs h.1 hl
 have e : (KF.ks [.arrs q m]).width = m := by simp [KF.width, Sx.width, Kd.width]
 have := h.2
 rw [e] at this
 exact ⟨l, h1, h2, h3, this⟩
theorem AggArgs.recs {j j' : Nat} {l : List Kd} {b : Nat} {A : Option Addr} {len cap : Nat} {L : Loc} {cols : List Col} {s : List Seg} {cs : List Value} {τ : Mem} (h : RecsIn w l b A len cap L cols) (t : AggArgs w (j + 1) s cs τ j') (hj : j < 1000 := by decide) :
  AggArgs w j (.cells [.vec (200000 + j)] :: s) (.slice A len cap :: cs) ((200000 + j, .rview cols) :: τ) j' := .row L cols hj h.rep h.val t (wf_noHss h.wf)
end
end Go.Sx
