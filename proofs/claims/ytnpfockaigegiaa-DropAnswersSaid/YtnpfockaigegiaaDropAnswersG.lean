import Derived.Test.YtnpfockaigegiaaDropAnswersF
import Derived.Test.YtnpfockaigegiaaProg
set_option linter.unusedSimpArgs false
set_option linter.unusedVariables false
namespace Go.Proofs.Ytnpfockaigegiaa.G
open Go Go.Sx Go.Sx
set_option maxRecDepth 100000
def lorder.k0 (R : AV → Mem → Prop) (ll : List (List Int)) (c : List Int) (fuel m : Nat) : Prop := runM Try.prog gamD4 [⟨5,[.ints .i64],true,false⟩,⟨7,[.ints .i64],true,false⟩,⟨10,[.rows .u8],true,false⟩,⟨777777,[],true,false⟩] (resh Try.prog [⟨5,[.ints .i64],true,false⟩,⟨7,[.ints .i64],true,false⟩,⟨10,[.rows .u8],true,false⟩,⟨777777,[],true,false⟩] Try.f4.results.toList R) (run Try.prog gamD4 [⟨5,[.ints .i64],true,false⟩,⟨7,[.ints .i64],true,false⟩,⟨10,[.rows .u8],true,false⟩,⟨777777,[],true,false⟩] (resh Try.prog [⟨5,[.ints .i64],true,false⟩,⟨7,[.ints .i64],true,false⟩,⟨10,[.rows .u8],true,false⟩,⟨777777,[],true,false⟩] Try.f4.results.toList R) fuel) m [kc Try.f4 [1,0,1,0,1],kc Try.f4 [1,1,1]] (Vv 200000::Vv 200001::Uu::Uu::Ll true::(zs 6 (Uu::(zs 5 (us 4 (zs 93 [])))))) [(200000,Blk.rview [Col.rows IntKind.u8 ll]),(200001,Blk.rview [Col.ints IntKind.i64 c])]
def lorder.k1 (R : AV → Mem → Prop) (x0 : Int) (ll : List (List Int)) (x1 c : List Int) (fuel m : Nat) : Prop := runM Try.prog gamD4 [⟨5,[.ints .i64],true,false⟩,⟨7,[.ints .i64],true,false⟩,⟨10,[.rows .u8],true,false⟩,⟨777777,[],true,false⟩] (resh Try.prog [⟨5,[.ints .i64],true,false⟩,⟨7,[.ints .i64],true,false⟩,⟨10,[.rows .u8],true,false⟩,⟨777777,[],true,false⟩] Try.f4.results.toList R) (run Try.prog gamD4 [⟨5,[.ints .i64],true,false⟩,⟨7,[.ints .i64],true,false⟩,⟨10,[.rows .u8],true,false⟩,⟨777777,[],true,false⟩] (resh Try.prog [⟨5,[.ints .i64],true,false⟩,⟨7,[.ints .i64],true,false⟩,⟨10,[.rows .u8],true,false⟩,⟨777777,[],true,false⟩] Try.f4.results.toList R) fuel) m [ki Try.f4 [1,1,1,1,0,1,0,0],.inBlock 0,kc Try.f4 [1,1,1,1,1]] (Vv 200000::Vv 200001::Uu::Uu::Uu::Vv 100005::Ii x0::(zs 4 (Uu::(zs 5 (us 8 (Ii (ofNat (llen (lzeros (nat (ofNat (llen ll))))))::Ii (add IntKind.i64 x0 1)::Ll true::Ii x0::Vv 100005::Ii x0::Ii x0::AV.one (AC.vptr 100005 1 (nat x0) 0 0)::Ii (add IntKind.i64 x0 1)::(zs 80 []))))))) [(100005,Blk.vec [Col.ints IntKind.i64 (lset x1 (nat x0) x0)]),(200000,Blk.rview [Col.rows IntKind.u8 ll]),(200001,Blk.rview [Col.ints IntKind.i64 c])]
def lorder.k2 (R : AV → Mem → Prop) (x0 : Int) (ll : List (List Int)) (x1 c : List Int) (fuel m : Nat) : Prop := runM Try.prog gamD4 [⟨5,[.ints .i64],true,false⟩,⟨7,[.ints .i64],true,false⟩,⟨10,[.rows .u8],true,false⟩,⟨777777,[],true,false⟩] (resh Try.prog [⟨5,[.ints .i64],true,false⟩,⟨7,[.ints .i64],true,false⟩,⟨10,[.rows .u8],true,false⟩,⟨777777,[],true,false⟩] Try.f4.results.toList R) (run Try.prog gamD4 [⟨5,[.ints .i64],true,false⟩,⟨7,[.ints .i64],true,false⟩,⟨10,[.rows .u8],true,false⟩,⟨777777,[],true,false⟩] (resh Try.prog [⟨5,[.ints .i64],true,false⟩,⟨7,[.ints .i64],true,false⟩,⟨10,[.rows .u8],true,false⟩,⟨777777,[],true,false⟩] Try.f4.results.toList R) fuel) m [kc Try.f4 [1,1,1,1,0,1,0,0,1,1,0,0,1],.inBlock 1,kc Try.f4 [1,1,1,1,0,1,0,0,1,1,1],ki Try.f4 [1,1,1,1,0,1,0,0],.inBlock 0,kc Try.f4 [1,1,1,1,1]] (Vv 200000::Vv 200001::Uu::Uu::Uu::Vv 100005::Ii x0::(zs 4 (Uu::(zs 5 (us 8 (Ii (ofNat (llen (lzeros (nat (ofNat (llen ll))))))::Ii x0::Ll true::Ii x0::(us 5 (zs 80 [])))))))) [(100005,Blk.vec [Col.ints IntKind.i64 x1]),(200000,Blk.rview [Col.rows IntKind.u8 ll]),(200001,Blk.rview [Col.ints IntKind.i64 c])]
def lorder.k3 (R : AV → Mem → Prop) (ll : List (List Int)) (x0 : Int) (x1 c : List Int) (fuel m : Nat) : Prop := runM Try.prog gamD4 [⟨5,[.ints .i64],true,false⟩,⟨7,[.ints .i64],true,false⟩,⟨10,[.rows .u8],true,false⟩,⟨777777,[],true,false⟩] (resh Try.prog [⟨5,[.ints .i64],true,false⟩,⟨7,[.ints .i64],true,false⟩,⟨10,[.rows .u8],true,false⟩,⟨777777,[],true,false⟩] Try.f4.results.toList R) (run Try.prog gamD4 [⟨5,[.ints .i64],true,false⟩,⟨7,[.ints .i64],true,false⟩,⟨10,[.rows .u8],true,false⟩,⟨777777,[],true,false⟩] (resh Try.prog [⟨5,[.ints .i64],true,false⟩,⟨7,[.ints .i64],true,false⟩,⟨10,[.rows .u8],true,false⟩,⟨777777,[],true,false⟩] Try.f4.results.toList R) fuel) m [kc Try.f4 [1,0,1,1],kc Try.f4 [1,1,1,1,0,1,0,0,1,1],ki Try.f4 [1,1,1,1,0,1,0,0],.inBlock 0,kc Try.f4 [1,1,1,1,1]] (Vv 200000::Vv 200001::Uu::Uu::Uu::Vv 100005::Uu::(zs 4 (Uu::(zs 5 (us 8 (Ii (ofNat (llen (lzeros (nat (ofNat (llen ll))))))::Ii x0::Ll true::(us 6 (zs 80 [])))))))) [(100005,Blk.vec [Col.ints IntKind.i64 x1]),(200000,Blk.rview [Col.rows IntKind.u8 ll]),(200001,Blk.rview [Col.ints IntKind.i64 c])]
def lorder.k4 (R : AV → Mem → Prop) (x2 : Int) (c x3 : List Int) (ll : List (List Int)) (x4 y5 : List Int) (fuel m : Nat) : Prop := runM Try.prog gamD4 [⟨5,[.ints .i64],true,false⟩,⟨7,[.ints .i64],true,false⟩,⟨10,[.rows .u8],true,false⟩,⟨777777,[],true,false⟩] (resh Try.prog [⟨5,[.ints .i64],true,false⟩,⟨7,[.ints .i64],true,false⟩,⟨10,[.rows .u8],true,false⟩,⟨777777,[],true,false⟩] Try.f4.results.toList R) (run Try.prog gamD4 [⟨5,[.ints .i64],true,false⟩,⟨7,[.ints .i64],true,false⟩,⟨10,[.rows .u8],true,false⟩,⟨777777,[],true,false⟩] (resh Try.prog [⟨5,[.ints .i64],true,false⟩,⟨7,[.ints .i64],true,false⟩,⟨10,[.rows .u8],true,false⟩,⟨777777,[],true,false⟩] Try.f4.results.toList R) fuel) m [ki Try.f4 [1,1,1,1,1,1,0,1,0,0],.inBlock 2,kc Try.f4 [1,1,1,1,1,1,1]] (Vv 200000::Vv 200001::Uu::Uu::Uu::Vv 64::Uu::Vv 56::Ii x2::Ii (placeI (lget c (nat x2)) (ofNat (llen x3)))::Zz::Uu::(zs 5 (us 18 (Ii (ofNat (llen ll))::Ii (add IntKind.i64 x2 1)::Ll true::Ii x2::Ii x2::Vv 200001::Ii (ofNat (llen c))::Ll true::Vv 200001::Ii x2::AV.one (AC.vptr 200001 1 (nat x2) 0 0)::Ii (lget c (nat x2))::Vv 100005::Ii (ofNat (llen x3))::Ii (placeI (lget c (nat x2)) (ofNat (llen x3)))::Vv 100007::Vv 100005::Ii (placeI (lget c (nat x2)) (ofNat (llen x3)))::AV.one (AC.vptr 100005 1 (nat (placeI (lget c (nat x2)) (ofNat (llen x3)))) 0 0)::Ii (lget x3 (nat (placeI (lget c (nat x2)) (ofNat (llen x3)))))::Vv 55::Vv 56::Vv 100005::Ii (placeI (lget c (nat x2)) (ofNat (llen x3)))::AV.one (AC.vsl 100005 1 0 (nat (placeI (lget c (nat x2)) (ofNat (llen x3)))))::Vv 100005::Ii (placeI (lget c (nat x2)) (ofNat (llen x3)))::Ii (add IntKind.i64 (placeI (lget c (nat x2)) (ofNat (llen x3))) 1)::AV.one (AC.vsl 100005 1 (nat (add IntKind.i64 (placeI (lget c (nat x2)) (ofNat (llen x3))) 1)) (nsub (llen x3) (nat (add IntKind.i64 (placeI (lget c (nat x2)) (ofNat (llen x3))) 1))))::Vv 64::Ii (add IntKind.i64 x2 1)::(zs 48 []))))) [(55,Blk.vec [Col.ints IntKind.i64 [(lget x3 (nat (placeI (lget c (nat x2)) (ofNat (llen x3)))))]]),(56,Blk.vec [Col.ints IntKind.i64 (lcat x4 [(lget x3 (nat (placeI (lget c (nat x2)) (ofNat (llen x3)))))])]),(64,Blk.vec [Col.ints IntKind.i64 y5]),(200000,Blk.rview [Col.rows IntKind.u8 ll]),(200001,Blk.rview [Col.ints IntKind.i64 c])]
def lorder.k5 (R : AV → Mem → Prop) (x2 : Int) (c x3 : List Int) (ll : List (List Int)) (x4 : List Int) (fuel m : Nat) : Prop := runM Try.prog gamD4 [⟨5,[.ints .i64],true,false⟩,⟨7,[.ints .i64],true,false⟩,⟨10,[.rows .u8],true,false⟩,⟨777777,[],true,false⟩] (resh Try.prog [⟨5,[.ints .i64],true,false⟩,⟨7,[.ints .i64],true,false⟩,⟨10,[.rows .u8],true,false⟩,⟨777777,[],true,false⟩] Try.f4.results.toList R) (run Try.prog gamD4 [⟨5,[.ints .i64],true,false⟩,⟨7,[.ints .i64],true,false⟩,⟨10,[.rows .u8],true,false⟩,⟨777777,[],true,false⟩] (resh Try.prog [⟨5,[.ints .i64],true,false⟩,⟨7,[.ints .i64],true,false⟩,⟨10,[.rows .u8],true,false⟩,⟨777777,[],true,false⟩] Try.f4.results.toList R) fuel) m [.inBlock 3,kc Try.f4 [1,1,1,1,1,1,0,1,0,0,1,1,1],ki Try.f4 [1,1,1,1,1,1,0,1,0,0],.inBlock 2,kc Try.f4 [1,1,1,1,1,1,1]] (Vv 200000::Vv 200001::Uu::Uu::Uu::Vv 64::Uu::Vv 56::Ii x2::Ii (placeI (lget c (nat x2)) (ofNat (llen x3)))::Zz::Uu::(zs 5 (us 18 (Ii (ofNat (llen ll))::Ii x2::Ll true::Ii x2::Ii x2::Vv 200001::Ii (ofNat (llen c))::Ll true::Vv 200001::Ii x2::AV.one (AC.vptr 200001 1 (nat x2) 0 0)::Ii (lget c (nat x2))::Vv 100005::Ii (ofNat (llen x3))::Ii (placeI (lget c (nat x2)) (ofNat (llen x3)))::Vv 100007::Vv 100005::Ii (placeI (lget c (nat x2)) (ofNat (llen x3)))::AV.one (AC.vptr 100005 1 (nat (placeI (lget c (nat x2)) (ofNat (llen x3)))) 0 0)::Ii (lget x3 (nat (placeI (lget c (nat x2)) (ofNat (llen x3)))))::Vv 55::Vv 56::Vv 100005::Ii (placeI (lget c (nat x2)) (ofNat (llen x3)))::AV.one (AC.vsl 100005 1 0 (nat (placeI (lget c (nat x2)) (ofNat (llen x3)))))::Vv 100005::Ii (placeI (lget c (nat x2)) (ofNat (llen x3)))::Ii (add IntKind.i64 (placeI (lget c (nat x2)) (ofNat (llen x3))) 1)::AV.one (AC.vsl 100005 1 (nat (add IntKind.i64 (placeI (lget c (nat x2)) (ofNat (llen x3))) 1)) (nsub (llen x3) (nat (add IntKind.i64 (placeI (lget c (nat x2)) (ofNat (llen x3))) 1))))::Vv 64::Uu::(zs 48 []))))) [(55,Blk.vec [Col.ints IntKind.i64 [(lget x3 (nat (placeI (lget c (nat x2)) (ofNat (llen x3)))))]]),(56,Blk.vec [Col.ints IntKind.i64 (lcat x4 [(lget x3 (nat (placeI (lget c (nat x2)) (ofNat (llen x3)))))])]),(64,Blk.vec [Col.ints IntKind.i64 (lcat (lsub x3 0 (nat (placeI (lget c (nat x2)) (ofNat (llen x3))))) (lsub x3 (nat (add IntKind.i64 (placeI (lget c (nat x2)) (ofNat (llen x3))) 1)) (nsub (llen x3) (nat (add IntKind.i64 (placeI (lget c (nat x2)) (ofNat (llen x3))) 1)))))]),(200000,Blk.rview [Col.rows IntKind.u8 ll]),(200001,Blk.rview [Col.ints IntKind.i64 c])]
def lorder.k6 (R : AV → Mem → Prop) (x2 : Int) (c x3 : List Int) (ll : List (List Int)) (x4 : List Int) (fuel m : Nat) : Prop := runM Try.prog gamD4 [⟨5,[.ints .i64],true,false⟩,⟨7,[.ints .i64],true,false⟩,⟨10,[.rows .u8],true,false⟩,⟨777777,[],true,false⟩] (resh Try.prog [⟨5,[.ints .i64],true,false⟩,⟨7,[.ints .i64],true,false⟩,⟨10,[.rows .u8],true,false⟩,⟨777777,[],true,false⟩] Try.f4.results.toList R) (run Try.prog gamD4 [⟨5,[.ints .i64],true,false⟩,⟨7,[.ints .i64],true,false⟩,⟨10,[.rows .u8],true,false⟩,⟨777777,[],true,false⟩] (resh Try.prog [⟨5,[.ints .i64],true,false⟩,⟨7,[.ints .i64],true,false⟩,⟨10,[.rows .u8],true,false⟩,⟨777777,[],true,false⟩] Try.f4.results.toList R) fuel) m [kc Try.f4 [1,1,1,1,1,1,0,1,0,0,1,1,0,0,1,1,1,1],.inBlock 3,kc Try.f4 [1,1,1,1,1,1,0,1,0,0,1,1,1],ki Try.f4 [1,1,1,1,1,1,0,1,0,0],.inBlock 2,kc Try.f4 [1,1,1,1,1,1,1]] (Vv 200000::Vv 200001::Uu::Uu::Uu::Vv 100005::Uu::Vv 56::Ii x2::Ii (placeI (lget c (nat x2)) (ofNat (llen x3)))::Zz::Uu::(zs 5 (us 18 (Ii (ofNat (llen ll))::Ii x2::Ll true::Ii x2::Ii x2::Vv 200001::Ii (ofNat (llen c))::Ll true::Vv 200001::Ii x2::AV.one (AC.vptr 200001 1 (nat x2) 0 0)::Ii (lget c (nat x2))::Vv 100005::Ii (ofNat (llen x3))::Ii (placeI (lget c (nat x2)) (ofNat (llen x3)))::Vv 100007::Vv 100005::Ii (placeI (lget c (nat x2)) (ofNat (llen x3)))::AV.one (AC.vptr 100005 1 (nat (placeI (lget c (nat x2)) (ofNat (llen x3)))) 0 0)::Ii (lget x3 (nat (placeI (lget c (nat x2)) (ofNat (llen x3)))))::Vv 55::Vv 56::(us 9 (zs 48 [])))))) [(55,Blk.vec [Col.ints IntKind.i64 [(lget x3 (nat (placeI (lget c (nat x2)) (ofNat (llen x3)))))]]),(56,Blk.vec [Col.ints IntKind.i64 (lcat x4 [(lget x3 (nat (placeI (lget c (nat x2)) (ofNat (llen x3)))))])]),(100005,Blk.vec [Col.ints IntKind.i64 x3]),(200000,Blk.rview [Col.rows IntKind.u8 ll]),(200001,Blk.rview [Col.ints IntKind.i64 c])]
def lorder.k7 (R : AV → Mem → Prop) (x2 : Int) (c x3 : List Int) (ll : List (List Int)) (x4 : List Int) (fuel m : Nat) : Prop := runM Try.prog gamD4 [⟨5,[.ints .i64],true,false⟩,⟨7,[.ints .i64],true,false⟩,⟨10,[.rows .u8],true,false⟩,⟨777777,[],true,false⟩] (resh Try.prog [⟨5,[.ints .i64],true,false⟩,⟨7,[.ints .i64],true,false⟩,⟨10,[.rows .u8],true,false⟩,⟨777777,[],true,false⟩] Try.f4.results.toList R) (run Try.prog gamD4 [⟨5,[.ints .i64],true,false⟩,⟨7,[.ints .i64],true,false⟩,⟨10,[.rows .u8],true,false⟩,⟨777777,[],true,false⟩] (resh Try.prog [⟨5,[.ints .i64],true,false⟩,⟨7,[.ints .i64],true,false⟩,⟨10,[.rows .u8],true,false⟩,⟨777777,[],true,false⟩] Try.f4.results.toList R) fuel) m [kc Try.f4 [1,1,1,1,1,1,0,1,0,0,1,1,0,0,1,1,1],.inBlock 3,kc Try.f4 [1,1,1,1,1,1,0,1,0,0,1,1,1],ki Try.f4 [1,1,1,1,1,1,0,1,0,0],.inBlock 2,kc Try.f4 [1,1,1,1,1,1,1]] (Vv 200000::Vv 200001::Uu::Uu::Uu::Vv 100005::Uu::Vv 100007::Ii x2::Ii (placeI (lget c (nat x2)) (ofNat (llen x3)))::Zz::Uu::(zs 5 (us 18 (Ii (ofNat (llen ll))::Ii x2::Ll true::Ii x2::Ii x2::Vv 200001::Ii (ofNat (llen c))::Ll true::Vv 200001::Ii x2::AV.one (AC.vptr 200001 1 (nat x2) 0 0)::Ii (lget c (nat x2))::Vv 100005::Ii (ofNat (llen x3))::Ii (placeI (lget c (nat x2)) (ofNat (llen x3)))::(us 16 (zs 48 [])))))) [(100005,Blk.vec [Col.ints IntKind.i64 x3]),(100007,Blk.vec [Col.ints IntKind.i64 x4]),(200000,Blk.rview [Col.rows IntKind.u8 ll]),(200001,Blk.rview [Col.ints IntKind.i64 c])]
def lorder.k8 (R : AV → Mem → Prop) (x2 : Int) (ll : List (List Int)) (c x3 x4 : List Int) (fuel m : Nat) : Prop := runM Try.prog gamD4 [⟨5,[.ints .i64],true,false⟩,⟨7,[.ints .i64],true,false⟩,⟨10,[.rows .u8],true,false⟩,⟨777777,[],true,false⟩] (resh Try.prog [⟨5,[.ints .i64],true,false⟩,⟨7,[.ints .i64],true,false⟩,⟨10,[.rows .u8],true,false⟩,⟨777777,[],true,false⟩] Try.f4.results.toList R) (run Try.prog gamD4 [⟨5,[.ints .i64],true,false⟩,⟨7,[.ints .i64],true,false⟩,⟨10,[.rows .u8],true,false⟩,⟨777777,[],true,false⟩] (resh Try.prog [⟨5,[.ints .i64],true,false⟩,⟨7,[.ints .i64],true,false⟩,⟨10,[.rows .u8],true,false⟩,⟨777777,[],true,false⟩] Try.f4.results.toList R) fuel) m [kc Try.f4 [1,1,1,1,1,1,0,1,0,0,1,1,0,0,1,1,0,1,0],kc Try.f4 [1,1,1,1,1,1,0,1,0,0,1,1,0,0,1,1,1],.inBlock 3,kc Try.f4 [1,1,1,1,1,1,0,1,0,0,1,1,1],ki Try.f4 [1,1,1,1,1,1,0,1,0,0],.inBlock 2,kc Try.f4 [1,1,1,1,1,1,1]] (Vv 200000::Vv 200001::Uu::Uu::Uu::Vv 100005::Uu::Vv 100007::Ii x2::Ii 0::Zz::Uu::(zs 5 (us 18 (Ii (ofNat (llen ll))::Ii x2::Ll true::Ii x2::Ii x2::Vv 200001::Ii (ofNat (llen c))::Ll true::(us 23 (zs 48 [])))))) [(100005,Blk.vec [Col.ints IntKind.i64 x3]),(100007,Blk.vec [Col.ints IntKind.i64 x4]),(200000,Blk.rview [Col.rows IntKind.u8 ll]),(200001,Blk.rview [Col.ints IntKind.i64 c])]
def lorder.k9 (R : AV → Mem → Prop) (x2 : Int) (ll : List (List Int)) (c x3 x4 : List Int) (fuel m : Nat) : Prop := runM Try.prog gamD4 [⟨5,[.ints .i64],true,false⟩,⟨7,[.ints .i64],true,false⟩,⟨10,[.rows .u8],true,false⟩,⟨777777,[],true,false⟩] (resh Try.prog [⟨5,[.ints .i64],true,false⟩,⟨7,[.ints .i64],true,false⟩,⟨10,[.rows .u8],true,false⟩,⟨777777,[],true,false⟩] Try.f4.results.toList R) (run Try.prog gamD4 [⟨5,[.ints .i64],true,false⟩,⟨7,[.ints .i64],true,false⟩,⟨10,[.rows .u8],true,false⟩,⟨777777,[],true,false⟩] (resh Try.prog [⟨5,[.ints .i64],true,false⟩,⟨7,[.ints .i64],true,false⟩,⟨10,[.rows .u8],true,false⟩,⟨777777,[],true,false⟩] Try.f4.results.toList R) fuel) m [ki Try.f4 [1,1,1,1,1,1,0,1,0,0],.inBlock 2,kc Try.f4 [1,1,1,1,1,1,1]] (Vv 200000::Vv 200001::Uu::Uu::Uu::Vv 64::Uu::Vv 56::Ii x2::Ii 0::Zz::Uu::(zs 5 (us 18 (Ii (ofNat (llen ll))::Ii (add IntKind.i64 x2 1)::Ll true::Ii x2::Ii x2::Vv 200001::Ii (ofNat (llen c))::Ll false::(us 7 (Vv 100007::Vv 100005::Ii 0::AV.one (AC.vptr 100005 1 0 0 0)::Ii (lget x3 0)::Vv 55::Vv 56::Vv 100005::Ii 0::AV.one (AC.vsl 100005 1 0 0)::Vv 100005::Ii 0::Ii 1::AV.one (AC.vsl 100005 1 1 (nsub (llen x3) 1))::Vv 64::Ii (add IntKind.i64 x2 1)::(zs 48 []))))))) [(55,Blk.vec [Col.ints IntKind.i64 [(lget x3 0)]]),(56,Blk.vec [Col.ints IntKind.i64 (lcat x4 [(lget x3 0)])]),(64,Blk.vec [Col.ints IntKind.i64 (lcat (lsub x3 0 0) (lsub x3 1 (nsub (llen x3) 1)))]),(200000,Blk.rview [Col.rows IntKind.u8 ll]),(200001,Blk.rview [Col.ints IntKind.i64 c])]
def lorder.k10 (R : AV → Mem → Prop) (x2 : Int) (ll : List (List Int)) (c x3 x4 : List Int) (fuel m : Nat) : Prop := runM Try.prog gamD4 [⟨5,[.ints .i64],true,false⟩,⟨7,[.ints .i64],true,false⟩,⟨10,[.rows .u8],true,false⟩,⟨777777,[],true,false⟩] (resh Try.prog [⟨5,[.ints .i64],true,false⟩,⟨7,[.ints .i64],true,false⟩,⟨10,[.rows .u8],true,false⟩,⟨777777,[],true,false⟩] Try.f4.results.toList R) (run Try.prog gamD4 [⟨5,[.ints .i64],true,false⟩,⟨7,[.ints .i64],true,false⟩,⟨10,[.rows .u8],true,false⟩,⟨777777,[],true,false⟩] (resh Try.prog [⟨5,[.ints .i64],true,false⟩,⟨7,[.ints .i64],true,false⟩,⟨10,[.rows .u8],true,false⟩,⟨777777,[],true,false⟩] Try.f4.results.toList R) fuel) m [kc Try.f4 [1,1,1,1,1,1,0,1,0,0,1,1,0,0,1,1,1,1],.inBlock 3,kc Try.f4 [1,1,1,1,1,1,0,1,0,0,1,1,1],ki Try.f4 [1,1,1,1,1,1,0,1,0,0],.inBlock 2,kc Try.f4 [1,1,1,1,1,1,1]] (Vv 200000::Vv 200001::Uu::Uu::Uu::Vv 100005::Uu::Vv 56::Ii x2::Ii 0::Zz::Uu::(zs 5 (us 18 (Ii (ofNat (llen ll))::Ii x2::Ll true::Ii x2::Ii x2::Vv 200001::Ii (ofNat (llen c))::Ll false::(us 7 (Vv 100007::Vv 100005::Ii 0::AV.one (AC.vptr 100005 1 0 0 0)::Ii (lget x3 0)::Vv 55::Vv 56::(us 9 (zs 48 [])))))))) [(55,Blk.vec [Col.ints IntKind.i64 [(lget x3 0)]]),(56,Blk.vec [Col.ints IntKind.i64 (lcat x4 [(lget x3 0)])]),(100005,Blk.vec [Col.ints IntKind.i64 x3]),(200000,Blk.rview [Col.rows IntKind.u8 ll]),(200001,Blk.rview [Col.ints IntKind.i64 c])]
def lorder.k11 (R : AV → Mem → Prop) (x2 : Int) (ll : List (List Int)) (c x3 x4 : List Int) (fuel m : Nat) : Prop := runM Try.prog gamD4 [⟨5,[.ints .i64],true,false⟩,⟨7,[.ints .i64],true,false⟩,⟨10,[.rows .u8],true,false⟩,⟨777777,[],true,false⟩] (resh Try.prog [⟨5,[.ints .i64],true,false⟩,⟨7,[.ints .i64],true,false⟩,⟨10,[.rows .u8],true,false⟩,⟨777777,[],true,false⟩] Try.f4.results.toList R) (run Try.prog gamD4 [⟨5,[.ints .i64],true,false⟩,⟨7,[.ints .i64],true,false⟩,⟨10,[.rows .u8],true,false⟩,⟨777777,[],true,false⟩] (resh Try.prog [⟨5,[.ints .i64],true,false⟩,⟨7,[.ints .i64],true,false⟩,⟨10,[.rows .u8],true,false⟩,⟨777777,[],true,false⟩] Try.f4.results.toList R) fuel) m [kc Try.f4 [1,0,1,1],kc Try.f4 [1,1,1,1,1,1,0,1,0,0,1,1,0,0,1,1,1],.inBlock 3,kc Try.f4 [1,1,1,1,1,1,0,1,0,0,1,1,1],ki Try.f4 [1,1,1,1,1,1,0,1,0,0],.inBlock 2,kc Try.f4 [1,1,1,1,1,1,1]] (Vv 200000::Vv 200001::Uu::Uu::Uu::Vv 100005::Uu::Vv 100007::Ii x2::Ii 0::Zz::Uu::(zs 5 (us 18 (Ii (ofNat (llen ll))::Ii x2::Ll true::Ii x2::Ii x2::Vv 200001::Ii (ofNat (llen c))::Ll false::(us 23 (zs 48 [])))))) [(100005,Blk.vec [Col.ints IntKind.i64 x3]),(100007,Blk.vec [Col.ints IntKind.i64 x4]),(200000,Blk.rview [Col.rows IntKind.u8 ll]),(200001,Blk.rview [Col.ints IntKind.i64 c])]
def lorder.k12 (R : AV → Mem → Prop) (x2 : Int) (ll : List (List Int)) (c x3 x4 : List Int) (fuel m : Nat) : Prop := runM Try.prog gamD4 [⟨5,[.ints .i64],true,false⟩,⟨7,[.ints .i64],true,false⟩,⟨10,[.rows .u8],true,false⟩,⟨777777,[],true,false⟩] (resh Try.prog [⟨5,[.ints .i64],true,false⟩,⟨7,[.ints .i64],true,false⟩,⟨10,[.rows .u8],true,false⟩,⟨777777,[],true,false⟩] Try.f4.results.toList R) (run Try.prog gamD4 [⟨5,[.ints .i64],true,false⟩,⟨7,[.ints .i64],true,false⟩,⟨10,[.rows .u8],true,false⟩,⟨777777,[],true,false⟩] (resh Try.prog [⟨5,[.ints .i64],true,false⟩,⟨7,[.ints .i64],true,false⟩,⟨10,[.rows .u8],true,false⟩,⟨777777,[],true,false⟩] Try.f4.results.toList R) fuel) m [kc Try.f4 [1,1,1,1,1,1,0,1,0,0,1,1,0,0,1,1,0,1],kc Try.f4 [1,1,1,1,1,1,0,1,0,0,1,1,0,0,1,1,1],.inBlock 3,kc Try.f4 [1,1,1,1,1,1,0,1,0,0,1,1,1],ki Try.f4 [1,1,1,1,1,1,0,1,0,0],.inBlock 2,kc Try.f4 [1,1,1,1,1,1,1]] (Vv 200000::Vv 200001::Uu::Uu::Uu::Vv 100005::Uu::Vv 100007::Ii x2::Ii 0::Zz::Uu::(zs 5 (us 18 (Ii (ofNat (llen ll))::Ii x2::Ll true::Ii x2::Ii x2::Vv 200001::Ii (ofNat (llen c))::Bb (ilt x2 (ofNat (llen c)))::(us 23 (zs 48 [])))))) [(100005,Blk.vec [Col.ints IntKind.i64 x3]),(100007,Blk.vec [Col.ints IntKind.i64 x4]),(200000,Blk.rview [Col.rows IntKind.u8 ll]),(200001,Blk.rview [Col.ints IntKind.i64 c])]
def lorder.k13 (R : AV → Mem → Prop) (x2 : Int) (ll : List (List Int)) (x3 x4 c : List Int) (fuel m : Nat) : Prop := runM Try.prog gamD4 [⟨5,[.ints .i64],true,false⟩,⟨7,[.ints .i64],true,false⟩,⟨10,[.rows .u8],true,false⟩,⟨777777,[],true,false⟩] (resh Try.prog [⟨5,[.ints .i64],true,false⟩,⟨7,[.ints .i64],true,false⟩,⟨10,[.rows .u8],true,false⟩,⟨777777,[],true,false⟩] Try.f4.results.toList R) (run Try.prog gamD4 [⟨5,[.ints .i64],true,false⟩,⟨7,[.ints .i64],true,false⟩,⟨10,[.rows .u8],true,false⟩,⟨777777,[],true,false⟩] (resh Try.prog [⟨5,[.ints .i64],true,false⟩,⟨7,[.ints .i64],true,false⟩,⟨10,[.rows .u8],true,false⟩,⟨777777,[],true,false⟩] Try.f4.results.toList R) fuel) m [kc Try.f4 [1,1,1,1,1,1,0,1,0,0,1,1,0,0,1],.inBlock 3,kc Try.f4 [1,1,1,1,1,1,0,1,0,0,1,1,1],ki Try.f4 [1,1,1,1,1,1,0,1,0,0],.inBlock 2,kc Try.f4 [1,1,1,1,1,1,1]] (Vv 200000::Vv 200001::Uu::Uu::Uu::Vv 100005::Uu::Vv 100007::Ii x2::Uu::Zz::Uu::(zs 5 (us 18 (Ii (ofNat (llen ll))::Ii x2::Ll true::Ii x2::(us 27 (zs 48 [])))))) [(100005,Blk.vec [Col.ints IntKind.i64 x3]),(100007,Blk.vec [Col.ints IntKind.i64 x4]),(200000,Blk.rview [Col.rows IntKind.u8 ll]),(200001,Blk.rview [Col.ints IntKind.i64 c])]
def lorder.k14 (R : AV → Mem → Prop) (ll : List (List Int)) (x2 : Int) (x3 x4 c : List Int) (fuel m : Nat) : Prop := runM Try.prog gamD4 [⟨5,[.ints .i64],true,false⟩,⟨7,[.ints .i64],true,false⟩,⟨10,[.rows .u8],true,false⟩,⟨777777,[],true,false⟩] (resh Try.prog [⟨5,[.ints .i64],true,false⟩,⟨7,[.ints .i64],true,false⟩,⟨10,[.rows .u8],true,false⟩,⟨777777,[],true,false⟩] Try.f4.results.toList R) (run Try.prog gamD4 [⟨5,[.ints .i64],true,false⟩,⟨7,[.ints .i64],true,false⟩,⟨10,[.rows .u8],true,false⟩,⟨777777,[],true,false⟩] (resh Try.prog [⟨5,[.ints .i64],true,false⟩,⟨7,[.ints .i64],true,false⟩,⟨10,[.rows .u8],true,false⟩,⟨777777,[],true,false⟩] Try.f4.results.toList R) fuel) m [kc Try.f4 [1,0,1,1],kc Try.f4 [1,1,1,1,1,1,0,1,0,0,1,1],ki Try.f4 [1,1,1,1,1,1,0,1,0,0],.inBlock 2,kc Try.f4 [1,1,1,1,1,1,1]] (Vv 200000::Vv 200001::Uu::Uu::Uu::Vv 100005::Uu::Vv 100007::Uu::Uu::Zz::Uu::(zs 5 (us 18 (Ii (ofNat (llen ll))::Ii x2::Ll true::(us 28 (zs 48 [])))))) [(100005,Blk.vec [Col.ints IntKind.i64 x3]),(100007,Blk.vec [Col.ints IntKind.i64 x4]),(200000,Blk.rview [Col.rows IntKind.u8 ll]),(200001,Blk.rview [Col.ints IntKind.i64 c])]
def lorder.k15 (R : AV → Mem → Prop) (x4 : List Int) (x6 : Int) (ll x7 : List (List Int)) (c : List Int) (fuel m : Nat) : Prop := runM Try.prog gamD4 [⟨5,[.ints .i64],true,false⟩,⟨7,[.ints .i64],true,false⟩,⟨10,[.rows .u8],true,false⟩,⟨777777,[],true,false⟩] (resh Try.prog [⟨5,[.ints .i64],true,false⟩,⟨7,[.ints .i64],true,false⟩,⟨10,[.rows .u8],true,false⟩,⟨777777,[],true,false⟩] Try.f4.results.toList R) (run Try.prog gamD4 [⟨5,[.ints .i64],true,false⟩,⟨7,[.ints .i64],true,false⟩,⟨10,[.rows .u8],true,false⟩,⟨777777,[],true,false⟩] (resh Try.prog [⟨5,[.ints .i64],true,false⟩,⟨7,[.ints .i64],true,false⟩,⟨10,[.rows .u8],true,false⟩,⟨777777,[],true,false⟩] Try.f4.results.toList R) fuel) m [ki Try.f4 [1,1,1,1,1,1,1,1,0,1,0,0],.inBlock 4,kc Try.f4 [1,1,1,1,1,1,1,1,1]] (Vv 200000::(us 6 (Vv 100007::Uu::Uu::Vv 78::Uu::Ii (lget x4 (nat x6))::(zs 4 (us 49 (Vv 100007::Ii (ofNat (llen x4))::Ii (add IntKind.i64 x6 1)::Ll true::AV.one (AC.vptr 100007 1 (nat x6) 0 0)::Ii (lget x4 (nat x6))::Vv 100010::Vv 200000::Ii (lget x4 (nat x6))::AV.one (AC.vptr 200000 1 (nat (lget x4 (nat x6))) 0 0)::AV.one (AC.el 200000 0 (nat (lget x4 (nat x6))))::Vv 77::Vv 78::Ii (add IntKind.i64 x6 1)::(zs 34 []))))))) [(77,Blk.vec [Col.rows IntKind.u8 [(llget ll (nat (lget x4 (nat x6))))]]),(78,Blk.vec [Col.rows IntKind.u8 (lcat x7 [(llget ll (nat (lget x4 (nat x6))))])]),(100007,Blk.vec [Col.ints IntKind.i64 x4]),(200000,Blk.rview [Col.rows IntKind.u8 ll]),(200001,Blk.rview [Col.ints IntKind.i64 c])]
def lorder.k16 (R : AV → Mem → Prop) (x4 : List Int) (x6 : Int) (x7 ll : List (List Int)) (c : List Int) (fuel m : Nat) : Prop := runM Try.prog gamD4 [⟨5,[.ints .i64],true,false⟩,⟨7,[.ints .i64],true,false⟩,⟨10,[.rows .u8],true,false⟩,⟨777777,[],true,false⟩] (resh Try.prog [⟨5,[.ints .i64],true,false⟩,⟨7,[.ints .i64],true,false⟩,⟨10,[.rows .u8],true,false⟩,⟨777777,[],true,false⟩] Try.f4.results.toList R) (run Try.prog gamD4 [⟨5,[.ints .i64],true,false⟩,⟨7,[.ints .i64],true,false⟩,⟨10,[.rows .u8],true,false⟩,⟨777777,[],true,false⟩] (resh Try.prog [⟨5,[.ints .i64],true,false⟩,⟨7,[.ints .i64],true,false⟩,⟨10,[.rows .u8],true,false⟩,⟨777777,[],true,false⟩] Try.f4.results.toList R) fuel) m [kc Try.f4 [1,1,1,1,1,1,1,1,0,1,0,0,1,1,0,0,1],.inBlock 5,kc Try.f4 [1,1,1,1,1,1,1,1,0,1,0,0,1,1,1],ki Try.f4 [1,1,1,1,1,1,1,1,0,1,0,0],.inBlock 4,kc Try.f4 [1,1,1,1,1,1,1,1,1]] (Vv 200000::(us 6 (Vv 100007::Uu::Uu::Vv 100010::Uu::Ii (lget x4 (nat x6))::(zs 4 (us 49 (Vv 100007::Ii (ofNat (llen x4))::Ii x6::Ll true::AV.one (AC.vptr 100007 1 (nat x6) 0 0)::Ii (lget x4 (nat x6))::(us 8 (zs 34 [])))))))) [(100007,Blk.vec [Col.ints IntKind.i64 x4]),(100010,Blk.vec [Col.rows IntKind.u8 x7]),(200000,Blk.rview [Col.rows IntKind.u8 ll]),(200001,Blk.rview [Col.ints IntKind.i64 c])]
def lorder.k17 (R : AV → Mem → Prop) (x4 : List Int) (x6 : Int) (x7 ll : List (List Int)) (c : List Int) (fuel m : Nat) : Prop := runM Try.prog gamD4 [⟨5,[.ints .i64],true,false⟩,⟨7,[.ints .i64],true,false⟩,⟨10,[.rows .u8],true,false⟩,⟨777777,[],true,false⟩] (resh Try.prog [⟨5,[.ints .i64],true,false⟩,⟨7,[.ints .i64],true,false⟩,⟨10,[.rows .u8],true,false⟩,⟨777777,[],true,false⟩] Try.f4.results.toList R) (run Try.prog gamD4 [⟨5,[.ints .i64],true,false⟩,⟨7,[.ints .i64],true,false⟩,⟨10,[.rows .u8],true,false⟩,⟨777777,[],true,false⟩] (resh Try.prog [⟨5,[.ints .i64],true,false⟩,⟨7,[.ints .i64],true,false⟩,⟨10,[.rows .u8],true,false⟩,⟨777777,[],true,false⟩] Try.f4.results.toList R) fuel) m [kc Try.f4 [1,0,1,1],kc Try.f4 [1,1,1,1,1,1,1,1,0,1,0,0,1,1],ki Try.f4 [1,1,1,1,1,1,1,1,0,1,0,0],.inBlock 4,kc Try.f4 [1,1,1,1,1,1,1,1,1]] (Vv 200000::(us 6 (Vv 100007::Uu::Uu::Vv 100010::Uu::Uu::(zs 4 (us 49 (Vv 100007::Ii (ofNat (llen x4))::Ii x6::Ll true::(us 10 (zs 34 [])))))))) [(100007,Blk.vec [Col.ints IntKind.i64 x4]),(100010,Blk.vec [Col.rows IntKind.u8 x7]),(200000,Blk.rview [Col.rows IntKind.u8 ll]),(200001,Blk.rview [Col.ints IntKind.i64 c])]
def lorder.k18 (R : AV → Mem → Prop) (ll x7 : List (List Int)) (x4 c : List Int) (fuel m : Nat) : Prop := runM Try.prog gamD4 [⟨5,[.ints .i64],true,false⟩,⟨7,[.ints .i64],true,false⟩,⟨10,[.rows .u8],true,false⟩,⟨777777,[],true,false⟩] (resh Try.prog [⟨5,[.ints .i64],true,false⟩,⟨7,[.ints .i64],true,false⟩,⟨10,[.rows .u8],true,false⟩,⟨777777,[],true,false⟩] Try.f4.results.toList R) (run Try.prog gamD4 [⟨5,[.ints .i64],true,false⟩,⟨7,[.ints .i64],true,false⟩,⟨10,[.rows .u8],true,false⟩,⟨777777,[],true,false⟩] (resh Try.prog [⟨5,[.ints .i64],true,false⟩,⟨7,[.ints .i64],true,false⟩,⟨10,[.rows .u8],true,false⟩,⟨777777,[],true,false⟩] Try.f4.results.toList R) fuel) m [kc Try.f4 [1,0,1,0,1],kc Try.f4 [1,1,1,1,1,1,1,1,1,1,1]] (us 4 (Ll false::Uu::Uu::Vv 100007::(us 5 (Vv 81::Vv 83::Zz::Zz::(us 79 (zs 18 [])))))) [(81,Blk.rview [Col.rows IntKind.u8 (exchL ll)]),(83,Blk.rview [Col.rows IntKind.u8 (exchL x7)]),(100007,Blk.vec [Col.ints IntKind.i64 x4]),(200000,Blk.rview [Col.rows IntKind.u8 ll]),(200001,Blk.rview [Col.ints IntKind.i64 c])]
def lorder.k19 (R : AV → Mem → Prop) (x8 : Int) (x4 : List Int) (x7 ll : List (List Int)) (c : List Int) (fuel m : Nat) : Prop := runM Try.prog gamD4 [⟨5,[.ints .i64],true,false⟩,⟨7,[.ints .i64],true,false⟩,⟨10,[.rows .u8],true,false⟩,⟨777777,[],true,false⟩] (resh Try.prog [⟨5,[.ints .i64],true,false⟩,⟨7,[.ints .i64],true,false⟩,⟨10,[.rows .u8],true,false⟩,⟨777777,[],true,false⟩] Try.f4.results.toList R) (run Try.prog gamD4 [⟨5,[.ints .i64],true,false⟩,⟨7,[.ints .i64],true,false⟩,⟨10,[.rows .u8],true,false⟩,⟨777777,[],true,false⟩] (resh Try.prog [⟨5,[.ints .i64],true,false⟩,⟨7,[.ints .i64],true,false⟩,⟨10,[.rows .u8],true,false⟩,⟨777777,[],true,false⟩] Try.f4.results.toList R) fuel) m [kc Try.f4 [1,0,1,0,1],.inBlock 7,kc Try.f4 [1,1,1,1,1,1,1,1,1,1,1,0,1,0,0,1,1,1],ki Try.f4 [1,1,1,1,1,1,1,1,1,1,1,0,1,0,0],.inBlock 6,kc Try.f4 [1,1,1,1,1,1,1,1,1,1,1,1]] (us 4 (Ll false::(us 8 (Vv 81::Vv 83::Ii x8::Ii (lget x4 (nat x8))::(us 79 [Vv 100007,Ii (ofNat (llen x4)),Ii x8,Ll true,Ii x8,AV.one (AC.vptr 100007 1 (nat x8) 0 0),Ii (lget x4 (nat x8)),Vv 83,Ii x8,AV.one (AC.vptr 83 1 (nat x8) 0 0),AV.one (AC.el 83 0 (nat x8)),Vv 81,Ii (lget x4 (nat x8)),AV.one (AC.vptr 81 1 (nat (lget x4 (nat x8))) 0 0),AV.one (AC.el 81 0 (nat (lget x4 (nat x8)))),Bb (leq (llget (exchL x7) (nat x8)) (llget (exchL ll) (nat (lget x4 (nat x8))))),Ll true,Uu]))))) [(81,Blk.rview [Col.rows IntKind.u8 (exchL ll)]),(83,Blk.rview [Col.rows IntKind.u8 (exchL x7)]),(100007,Blk.vec [Col.ints IntKind.i64 x4]),(200000,Blk.rview [Col.rows IntKind.u8 ll]),(200001,Blk.rview [Col.ints IntKind.i64 c])]
def lorder.k20 (R : AV → Mem → Prop) (x8 : Int) (x4 : List Int) (x7 ll : List (List Int)) (c : List Int) (fuel m : Nat) : Prop := runM Try.prog gamD4 [⟨5,[.ints .i64],true,false⟩,⟨7,[.ints .i64],true,false⟩,⟨10,[.rows .u8],true,false⟩,⟨777777,[],true,false⟩] (resh Try.prog [⟨5,[.ints .i64],true,false⟩,⟨7,[.ints .i64],true,false⟩,⟨10,[.rows .u8],true,false⟩,⟨777777,[],true,false⟩] Try.f4.results.toList R) (run Try.prog gamD4 [⟨5,[.ints .i64],true,false⟩,⟨7,[.ints .i64],true,false⟩,⟨10,[.rows .u8],true,false⟩,⟨777777,[],true,false⟩] (resh Try.prog [⟨5,[.ints .i64],true,false⟩,⟨7,[.ints .i64],true,false⟩,⟨10,[.rows .u8],true,false⟩,⟨777777,[],true,false⟩] Try.f4.results.toList R) fuel) m [ki Try.f4 [1,1,1,1,1,1,1,1,1,1,1,0,1,0,0],.inBlock 6,kc Try.f4 [1,1,1,1,1,1,1,1,1,1,1,1]] (us 13 (Vv 81::Vv 83::Ii x8::Ii (lget x4 (nat x8))::(us 79 [Vv 100007,Ii (ofNat (llen x4)),Ii (add IntKind.i64 x8 1),Ll true,Ii x8,AV.one (AC.vptr 100007 1 (nat x8) 0 0),Ii (lget x4 (nat x8)),Vv 83,Ii x8,AV.one (AC.vptr 83 1 (nat x8) 0 0),AV.one (AC.el 83 0 (nat x8)),Vv 81,Ii (lget x4 (nat x8)),AV.one (AC.vptr 81 1 (nat (lget x4 (nat x8))) 0 0),AV.one (AC.el 81 0 (nat (lget x4 (nat x8)))),Bb (leq (llget (exchL x7) (nat x8)) (llget (exchL ll) (nat (lget x4 (nat x8))))),Ll false,Ii (add IntKind.i64 x8 1)]))) [(81,Blk.rview [Col.rows IntKind.u8 (exchL ll)]),(83,Blk.rview [Col.rows IntKind.u8 (exchL x7)]),(100007,Blk.vec [Col.ints IntKind.i64 x4]),(200000,Blk.rview [Col.rows IntKind.u8 ll]),(200001,Blk.rview [Col.ints IntKind.i64 c])]
def lorder.k21 (R : AV → Mem → Prop) (x8 : Int) (x4 : List Int) (x7 ll : List (List Int)) (c : List Int) (fuel m : Nat) : Prop := runM Try.prog gamD4 [⟨5,[.ints .i64],true,false⟩,⟨7,[.ints .i64],true,false⟩,⟨10,[.rows .u8],true,false⟩,⟨777777,[],true,false⟩] (resh Try.prog [⟨5,[.ints .i64],true,false⟩,⟨7,[.ints .i64],true,false⟩,⟨10,[.rows .u8],true,false⟩,⟨777777,[],true,false⟩] Try.f4.results.toList R) (run Try.prog gamD4 [⟨5,[.ints .i64],true,false⟩,⟨7,[.ints .i64],true,false⟩,⟨10,[.rows .u8],true,false⟩,⟨777777,[],true,false⟩] (resh Try.prog [⟨5,[.ints .i64],true,false⟩,⟨7,[.ints .i64],true,false⟩,⟨10,[.rows .u8],true,false⟩,⟨777777,[],true,false⟩] Try.f4.results.toList R) fuel) m [kc Try.f4 [1,1,1,1,1,1,1,1,1,1,1,0,1,0,0,1,1,0,0,1,1],.inBlock 7,kc Try.f4 [1,1,1,1,1,1,1,1,1,1,1,0,1,0,0,1,1,1],ki Try.f4 [1,1,1,1,1,1,1,1,1,1,1,0,1,0,0],.inBlock 6,kc Try.f4 [1,1,1,1,1,1,1,1,1,1,1,1]] (us 13 (Vv 81::Vv 83::Ii x8::Ii (lget x4 (nat x8))::(us 79 [Vv 100007,Ii (ofNat (llen x4)),Ii x8,Ll true,Ii x8,AV.one (AC.vptr 100007 1 (nat x8) 0 0),Ii (lget x4 (nat x8)),Vv 83,Ii x8,AV.one (AC.vptr 83 1 (nat x8) 0 0),AV.one (AC.el 83 0 (nat x8)),Vv 81,Ii (lget x4 (nat x8)),AV.one (AC.vptr 81 1 (nat (lget x4 (nat x8))) 0 0),AV.one (AC.el 81 0 (nat (lget x4 (nat x8)))),Bb (leq (llget (exchL x7) (nat x8)) (llget (exchL ll) (nat (lget x4 (nat x8))))),Bb (bnot (leq (llget (exchL x7) (nat x8)) (llget (exchL ll) (nat (lget x4 (nat x8)))))),Uu]))) [(81,Blk.rview [Col.rows IntKind.u8 (exchL ll)]),(83,Blk.rview [Col.rows IntKind.u8 (exchL x7)]),(100007,Blk.vec [Col.ints IntKind.i64 x4]),(200000,Blk.rview [Col.rows IntKind.u8 ll]),(200001,Blk.rview [Col.ints IntKind.i64 c])]
def lorder.k22 (R : AV → Mem → Prop) (x8 : Int) (x4 : List Int) (ll x7 : List (List Int)) (c : List Int) (fuel m : Nat) : Prop := runM Try.prog gamD4 [⟨5,[.ints .i64],true,false⟩,⟨7,[.ints .i64],true,false⟩,⟨10,[.rows .u8],true,false⟩,⟨777777,[],true,false⟩] (resh Try.prog [⟨5,[.ints .i64],true,false⟩,⟨7,[.ints .i64],true,false⟩,⟨10,[.rows .u8],true,false⟩,⟨777777,[],true,false⟩] Try.f4.results.toList R) (run Try.prog gamD4 [⟨5,[.ints .i64],true,false⟩,⟨7,[.ints .i64],true,false⟩,⟨10,[.rows .u8],true,false⟩,⟨777777,[],true,false⟩] (resh Try.prog [⟨5,[.ints .i64],true,false⟩,⟨7,[.ints .i64],true,false⟩,⟨10,[.rows .u8],true,false⟩,⟨777777,[],true,false⟩] Try.f4.results.toList R) fuel) m [kc Try.f4 [1,1,1,1,1,1,1,1,1,1,1,0,1,0,0,1,1,0,0,1],.inBlock 7,kc Try.f4 [1,1,1,1,1,1,1,1,1,1,1,0,1,0,0,1,1,1],ki Try.f4 [1,1,1,1,1,1,1,1,1,1,1,0,1,0,0],.inBlock 6,kc Try.f4 [1,1,1,1,1,1,1,1,1,1,1,1]] (us 13 (Vv 81::Vv 83::Ii x8::Ii (lget x4 (nat x8))::(us 79 (Vv 100007::Ii (ofNat (llen x4))::Ii x8::Ll true::Ii x8::AV.one (AC.vptr 100007 1 (nat x8) 0 0)::Ii (lget x4 (nat x8))::(us 11 []))))) [(81,Blk.rview [Col.rows IntKind.u8 (exchL ll)]),(83,Blk.rview [Col.rows IntKind.u8 (exchL x7)]),(100007,Blk.vec [Col.ints IntKind.i64 x4]),(200000,Blk.rview [Col.rows IntKind.u8 ll]),(200001,Blk.rview [Col.ints IntKind.i64 c])]
def lorder.k23 (R : AV → Mem → Prop) (x4 : List Int) (x8 : Int) (ll x7 : List (List Int)) (c : List Int) (fuel m : Nat) : Prop := runM Try.prog gamD4 [⟨5,[.ints .i64],true,false⟩,⟨7,[.ints .i64],true,false⟩,⟨10,[.rows .u8],true,false⟩,⟨777777,[],true,false⟩] (resh Try.prog [⟨5,[.ints .i64],true,false⟩,⟨7,[.ints .i64],true,false⟩,⟨10,[.rows .u8],true,false⟩,⟨777777,[],true,false⟩] Try.f4.results.toList R) (run Try.prog gamD4 [⟨5,[.ints .i64],true,false⟩,⟨7,[.ints .i64],true,false⟩,⟨10,[.rows .u8],true,false⟩,⟨777777,[],true,false⟩] (resh Try.prog [⟨5,[.ints .i64],true,false⟩,⟨7,[.ints .i64],true,false⟩,⟨10,[.rows .u8],true,false⟩,⟨777777,[],true,false⟩] Try.f4.results.toList R) fuel) m [kc Try.f4 [1,0,1,1],kc Try.f4 [1,1,1,1,1,1,1,1,1,1,1,0,1,0,0,1,1],ki Try.f4 [1,1,1,1,1,1,1,1,1,1,1,0,1,0,0],.inBlock 6,kc Try.f4 [1,1,1,1,1,1,1,1,1,1,1,1]] (us 13 (Vv 81::Vv 83::(us 81 (Vv 100007::Ii (ofNat (llen x4))::Ii x8::Ll true::(us 14 []))))) [(81,Blk.rview [Col.rows IntKind.u8 (exchL ll)]),(83,Blk.rview [Col.rows IntKind.u8 (exchL x7)]),(100007,Blk.vec [Col.ints IntKind.i64 x4]),(200000,Blk.rview [Col.rows IntKind.u8 ll]),(200001,Blk.rview [Col.ints IntKind.i64 c])]
def lorder.k24 (R : AV → Mem → Prop) (x4 : List Int) (x8 : Int) (ll x7 : List (List Int)) (c : List Int) (fuel m : Nat) : Prop := runM Try.prog gamD4 [⟨5,[.ints .i64],true,false⟩,⟨7,[.ints .i64],true,false⟩,⟨10,[.rows .u8],true,false⟩,⟨777777,[],true,false⟩] (resh Try.prog [⟨5,[.ints .i64],true,false⟩,⟨7,[.ints .i64],true,false⟩,⟨10,[.rows .u8],true,false⟩,⟨777777,[],true,false⟩] Try.f4.results.toList R) (run Try.prog gamD4 [⟨5,[.ints .i64],true,false⟩,⟨7,[.ints .i64],true,false⟩,⟨10,[.rows .u8],true,false⟩,⟨777777,[],true,false⟩] (resh Try.prog [⟨5,[.ints .i64],true,false⟩,⟨7,[.ints .i64],true,false⟩,⟨10,[.rows .u8],true,false⟩,⟨777777,[],true,false⟩] Try.f4.results.toList R) fuel) m [kc Try.f4 [1,0,1,0,1]] (us 4 (Ll true::(us 8 (Vv 81::Vv 83::(us 81 (Vv 100007::Ii (ofNat (llen x4))::Ii x8::Ll false::(us 14 []))))))) [(81,Blk.rview [Col.rows IntKind.u8 (exchL ll)]),(83,Blk.rview [Col.rows IntKind.u8 (exchL x7)]),(100007,Blk.vec [Col.ints IntKind.i64 x4]),(200000,Blk.rview [Col.rows IntKind.u8 ll]),(200001,Blk.rview [Col.ints IntKind.i64 c])]
def lorder.k25 (R : AV → Mem → Prop) (x4 : List Int) (x8 : Int) (ll x7 : List (List Int)) (c : List Int) (fuel m : Nat) : Prop := runM Try.prog gamD4 [⟨5,[.ints .i64],true,false⟩,⟨7,[.ints .i64],true,false⟩,⟨10,[.rows .u8],true,false⟩,⟨777777,[],true,false⟩] (resh Try.prog [⟨5,[.ints .i64],true,false⟩,⟨7,[.ints .i64],true,false⟩,⟨10,[.rows .u8],true,false⟩,⟨777777,[],true,false⟩] Try.f4.results.toList R) (run Try.prog gamD4 [⟨5,[.ints .i64],true,false⟩,⟨7,[.ints .i64],true,false⟩,⟨10,[.rows .u8],true,false⟩,⟨777777,[],true,false⟩] (resh Try.prog [⟨5,[.ints .i64],true,false⟩,⟨7,[.ints .i64],true,false⟩,⟨10,[.rows .u8],true,false⟩,⟨777777,[],true,false⟩] Try.f4.results.toList R) fuel) m [kc Try.f4 [1,1,1,1,1,1,1,1,1,1,1,0,1,0,0,1],ki Try.f4 [1,1,1,1,1,1,1,1,1,1,1,0,1,0,0],.inBlock 6,kc Try.f4 [1,1,1,1,1,1,1,1,1,1,1,1]] (us 13 (Vv 81::Vv 83::(us 81 (Vv 100007::Ii (ofNat (llen x4))::Ii x8::Bb (ilt x8 (ofNat (llen x4)))::(us 14 []))))) [(81,Blk.rview [Col.rows IntKind.u8 (exchL ll)]),(83,Blk.rview [Col.rows IntKind.u8 (exchL x7)]),(100007,Blk.vec [Col.ints IntKind.i64 x4]),(200000,Blk.rview [Col.rows IntKind.u8 ll]),(200001,Blk.rview [Col.ints IntKind.i64 c])]
def lorder.l3 (R : AV → Mem → Prop) (x4 : List Int) (ll x7 : List (List Int)) (c : List Int) (fuel : Nat) (x8 : Int) : Prop := run Try.prog gamD4 [⟨5,[.ints .i64],true,false⟩,⟨7,[.ints .i64],true,false⟩,⟨10,[.rows .u8],true,false⟩,⟨777777,[],true,false⟩] (resh Try.prog [⟨5,[.ints .i64],true,false⟩,⟨7,[.ints .i64],true,false⟩,⟨10,[.rows .u8],true,false⟩,⟨777777,[],true,false⟩] Try.f4.results.toList R) fuel [kc Try.f4 [1,1,1,1,1,1,1,1,1,1,1,0,1,0,0],ki Try.f4 [1,1,1,1,1,1,1,1,1,1,1,0,1,0,0],.inBlock 6,kc Try.f4 [1,1,1,1,1,1,1,1,1,1,1,1]] (us 13 (Vv 81::Vv 83::(us 81 (Vv 100007::Ii (ofNat (llen x4))::Ii x8::(us 15 []))))) [(81,Blk.rview [Col.rows IntKind.u8 (exchL ll)]),(83,Blk.rview [Col.rows IntKind.u8 (exchL x7)]),(100007,Blk.vec [Col.ints IntKind.i64 x4]),(200000,Blk.rview [Col.rows IntKind.u8 ll]),(200001,Blk.rview [Col.ints IntKind.i64 c])]
def lorder.k26 (R : AV → Mem → Prop) (x4 : List Int) (ll x7 : List (List Int)) (c : List Int) (fuel m : Nat) : Prop := runM Try.prog gamD4 [⟨5,[.ints .i64],true,false⟩,⟨7,[.ints .i64],true,false⟩,⟨10,[.rows .u8],true,false⟩,⟨777777,[],true,false⟩] (resh Try.prog [⟨5,[.ints .i64],true,false⟩,⟨7,[.ints .i64],true,false⟩,⟨10,[.rows .u8],true,false⟩,⟨777777,[],true,false⟩] Try.f4.results.toList R) (run Try.prog gamD4 [⟨5,[.ints .i64],true,false⟩,⟨7,[.ints .i64],true,false⟩,⟨10,[.rows .u8],true,false⟩,⟨777777,[],true,false⟩] (resh Try.prog [⟨5,[.ints .i64],true,false⟩,⟨7,[.ints .i64],true,false⟩,⟨10,[.rows .u8],true,false⟩,⟨777777,[],true,false⟩] Try.f4.results.toList R) fuel) m [kc Try.f4 [1,1,1,1,1,1,1,1,1,1,1,0,1],kc Try.f4 [1,1,1,1,1,1,1,1,1,1,1,1]] (us 7 (Vv 100007::(us 5 (Vv 81::Vv 83::Zz::Zz::(us 79 (Vv 100007::Ii (ofNat (llen x4))::Ii 0::(zs 15 []))))))) [(81,Blk.rview [Col.rows IntKind.u8 (exchL ll)]),(83,Blk.rview [Col.rows IntKind.u8 (exchL x7)]),(100007,Blk.vec [Col.ints IntKind.i64 x4]),(200000,Blk.rview [Col.rows IntKind.u8 ll]),(200001,Blk.rview [Col.ints IntKind.i64 c])]
def lorder.k27 (R : AV → Mem → Prop) (x4 : List Int) (x6 : Int) (ll x7 : List (List Int)) (c : List Int) (fuel m : Nat) : Prop := runM Try.prog gamD4 [⟨5,[.ints .i64],true,false⟩,⟨7,[.ints .i64],true,false⟩,⟨10,[.rows .u8],true,false⟩,⟨777777,[],true,false⟩] (resh Try.prog [⟨5,[.ints .i64],true,false⟩,⟨7,[.ints .i64],true,false⟩,⟨10,[.rows .u8],true,false⟩,⟨777777,[],true,false⟩] Try.f4.results.toList R) (run Try.prog gamD4 [⟨5,[.ints .i64],true,false⟩,⟨7,[.ints .i64],true,false⟩,⟨10,[.rows .u8],true,false⟩,⟨777777,[],true,false⟩] (resh Try.prog [⟨5,[.ints .i64],true,false⟩,⟨7,[.ints .i64],true,false⟩,⟨10,[.rows .u8],true,false⟩,⟨777777,[],true,false⟩] Try.f4.results.toList R) fuel) m [kc Try.f4 [1,1,1,1,1,1,1,1,1,1,0,1],kc Try.f4 [1,1,1,1,1,1,1,1,1,1,1]] (Vv 200000::(us 6 (Vv 100007::Uu::Uu::Vv 100010::Uu::Uu::Vv 81::Vv 83::Zz::Zz::(us 49 (Vv 100007::Ii (ofNat (llen x4))::Ii x6::Ll false::(us 10 (Vv 200000::Vv 81::Vv 100010::Vv 83::Vv 81::Ii (ofNat (llen (exchL ll)))::Vv 200000::Ii (ofNat (llen ll))::Bb (ine (ofNat (llen (exchL ll))) (ofNat (llen ll)))::Ll false::Vv 83::Ii (ofNat (llen (exchL x7)))::Vv 200000::Ii (ofNat (llen ll))::Bb (ine (ofNat (llen (exchL x7))) (ofNat (llen ll)))::Bb (ine (ofNat (llen (exchL x7))) (ofNat (llen ll)))::(zs 18 [])))))))) [(81,Blk.rview [Col.rows IntKind.u8 (exchL ll)]),(83,Blk.rview [Col.rows IntKind.u8 (exchL x7)]),(100007,Blk.vec [Col.ints IntKind.i64 x4]),(100010,Blk.vec [Col.rows IntKind.u8 x7]),(200000,Blk.rview [Col.rows IntKind.u8 ll]),(200001,Blk.rview [Col.ints IntKind.i64 c])]
def lorder.k28 (R : AV → Mem → Prop) (x4 : List Int) (x6 : Int) (ll x7 : List (List Int)) (c : List Int) (fuel m : Nat) : Prop := runM Try.prog gamD4 [⟨5,[.ints .i64],true,false⟩,⟨7,[.ints .i64],true,false⟩,⟨10,[.rows .u8],true,false⟩,⟨777777,[],true,false⟩] (resh Try.prog [⟨5,[.ints .i64],true,false⟩,⟨7,[.ints .i64],true,false⟩,⟨10,[.rows .u8],true,false⟩,⟨777777,[],true,false⟩] Try.f4.results.toList R) (run Try.prog gamD4 [⟨5,[.ints .i64],true,false⟩,⟨7,[.ints .i64],true,false⟩,⟨10,[.rows .u8],true,false⟩,⟨777777,[],true,false⟩] (resh Try.prog [⟨5,[.ints .i64],true,false⟩,⟨7,[.ints .i64],true,false⟩,⟨10,[.rows .u8],true,false⟩,⟨777777,[],true,false⟩] Try.f4.results.toList R) fuel) m [kc Try.f4 [1,1,1,1,1,1,1,1,1,1]] (Vv 200000::(us 6 (Vv 100007::Uu::Uu::Vv 100010::Uu::Uu::Vv 81::Vv 83::Zz::Zz::(us 49 (Vv 100007::Ii (ofNat (llen x4))::Ii x6::Ll false::(us 10 (Vv 200000::Vv 81::Vv 100010::Vv 83::(zs 30 [])))))))) [(81,Blk.rview [Col.rows IntKind.u8 (exchL ll)]),(83,Blk.rview [Col.rows IntKind.u8 (exchL x7)]),(100007,Blk.vec [Col.ints IntKind.i64 x4]),(100010,Blk.vec [Col.rows IntKind.u8 x7]),(200000,Blk.rview [Col.rows IntKind.u8 ll]),(200001,Blk.rview [Col.ints IntKind.i64 c])]
def lorder.k29 (R : AV → Mem → Prop) (x4 : List Int) (x6 : Int) (x7 ll : List (List Int)) (c : List Int) (fuel m : Nat) : Prop := runM Try.prog gamD4 [⟨5,[.ints .i64],true,false⟩,⟨7,[.ints .i64],true,false⟩,⟨10,[.rows .u8],true,false⟩,⟨777777,[],true,false⟩] (resh Try.prog [⟨5,[.ints .i64],true,false⟩,⟨7,[.ints .i64],true,false⟩,⟨10,[.rows .u8],true,false⟩,⟨777777,[],true,false⟩] Try.f4.results.toList R) (run Try.prog gamD4 [⟨5,[.ints .i64],true,false⟩,⟨7,[.ints .i64],true,false⟩,⟨10,[.rows .u8],true,false⟩,⟨777777,[],true,false⟩] (resh Try.prog [⟨5,[.ints .i64],true,false⟩,⟨7,[.ints .i64],true,false⟩,⟨10,[.rows .u8],true,false⟩,⟨777777,[],true,false⟩] Try.f4.results.toList R) fuel) m [kc Try.f4 [1,1,1,1,1,1,1,1,0,1,0,0,1,0,1],kc Try.f4 [1,1,1,1,1,1,1,1,0,1,0,0,1,1],ki Try.f4 [1,1,1,1,1,1,1,1,0,1,0,0],.inBlock 4,kc Try.f4 [1,1,1,1,1,1,1,1,1]] (Vv 200000::(us 6 (Vv 100007::Uu::Uu::Vv 100010::Uu::Uu::(zs 4 (us 49 (Vv 100007::Ii (ofNat (llen x4))::Ii x6::Ll false::(us 10 (zs 34 [])))))))) [(100007,Blk.vec [Col.ints IntKind.i64 x4]),(100010,Blk.vec [Col.rows IntKind.u8 x7]),(200000,Blk.rview [Col.rows IntKind.u8 ll]),(200001,Blk.rview [Col.ints IntKind.i64 c])]
def lorder.k30 (R : AV → Mem → Prop) (x4 : List Int) (x6 : Int) (x7 ll : List (List Int)) (c : List Int) (fuel m : Nat) : Prop := runM Try.prog gamD4 [⟨5,[.ints .i64],true,false⟩,⟨7,[.ints .i64],true,false⟩,⟨10,[.rows .u8],true,false⟩,⟨777777,[],true,false⟩] (resh Try.prog [⟨5,[.ints .i64],true,false⟩,⟨7,[.ints .i64],true,false⟩,⟨10,[.rows .u8],true,false⟩,⟨777777,[],true,false⟩] Try.f4.results.toList R) (run Try.prog gamD4 [⟨5,[.ints .i64],true,false⟩,⟨7,[.ints .i64],true,false⟩,⟨10,[.rows .u8],true,false⟩,⟨777777,[],true,false⟩] (resh Try.prog [⟨5,[.ints .i64],true,false⟩,⟨7,[.ints .i64],true,false⟩,⟨10,[.rows .u8],true,false⟩,⟨777777,[],true,false⟩] Try.f4.results.toList R) fuel) m [kc Try.f4 [1,1,1,1,1,1,1,1,0,1,0,0,1],ki Try.f4 [1,1,1,1,1,1,1,1,0,1,0,0],.inBlock 4,kc Try.f4 [1,1,1,1,1,1,1,1,1]] (Vv 200000::(us 6 (Vv 100007::Uu::Uu::Vv 100010::Uu::Uu::(zs 4 (us 49 (Vv 100007::Ii (ofNat (llen x4))::Ii x6::Bb (ilt x6 (ofNat (llen x4)))::(us 10 (zs 34 [])))))))) [(100007,Blk.vec [Col.ints IntKind.i64 x4]),(100010,Blk.vec [Col.rows IntKind.u8 x7]),(200000,Blk.rview [Col.rows IntKind.u8 ll]),(200001,Blk.rview [Col.ints IntKind.i64 c])]
def lorder.l2 (R : AV → Mem → Prop) (x4 : List Int) (ll : List (List Int)) (c : List Int) (fuel : Nat) (x6 : Int) (x7 : List (List Int)) : Prop := run Try.prog gamD4 [⟨5,[.ints .i64],true,false⟩,⟨7,[.ints .i64],true,false⟩,⟨10,[.rows .u8],true,false⟩,⟨777777,[],true,false⟩] (resh Try.prog [⟨5,[.ints .i64],true,false⟩,⟨7,[.ints .i64],true,false⟩,⟨10,[.rows .u8],true,false⟩,⟨777777,[],true,false⟩] Try.f4.results.toList R) fuel [kc Try.f4 [1,1,1,1,1,1,1,1,0,1,0,0],ki Try.f4 [1,1,1,1,1,1,1,1,0,1,0,0],.inBlock 4,kc Try.f4 [1,1,1,1,1,1,1,1,1]] (Vv 200000::(us 6 (Vv 100007::Uu::Uu::Vv 100010::Uu::Uu::(zs 4 (us 49 (Vv 100007::Ii (ofNat (llen x4))::Ii x6::(us 11 (zs 34 [])))))))) [(100007,Blk.vec [Col.ints IntKind.i64 x4]),(100010,Blk.vec [Col.rows IntKind.u8 x7]),(200000,Blk.rview [Col.rows IntKind.u8 ll]),(200001,Blk.rview [Col.ints IntKind.i64 c])]
def lorder.k31 (R : AV → Mem → Prop) (ll : List (List Int)) (x2 : Int) (x4 x3 c : List Int) (fuel m : Nat) : Prop := runM Try.prog gamD4 [⟨5,[.ints .i64],true,false⟩,⟨7,[.ints .i64],true,false⟩,⟨10,[.rows .u8],true,false⟩,⟨777777,[],true,false⟩] (resh Try.prog [⟨5,[.ints .i64],true,false⟩,⟨7,[.ints .i64],true,false⟩,⟨10,[.rows .u8],true,false⟩,⟨777777,[],true,false⟩] Try.f4.results.toList R) (run Try.prog gamD4 [⟨5,[.ints .i64],true,false⟩,⟨7,[.ints .i64],true,false⟩,⟨10,[.rows .u8],true,false⟩,⟨777777,[],true,false⟩] (resh Try.prog [⟨5,[.ints .i64],true,false⟩,⟨7,[.ints .i64],true,false⟩,⟨10,[.rows .u8],true,false⟩,⟨777777,[],true,false⟩] Try.f4.results.toList R) fuel) m [kc Try.f4 [1,1,1,1,1,1,1,1,0,1],kc Try.f4 [1,1,1,1,1,1,1,1,1]] (Vv 200000::Vv 200001::Uu::Uu::Uu::Vv 100005::Uu::Vv 100007::Uu::Uu::AV.one (AC.con (Value.slice (Option.none) 0 0))::Uu::(zs 5 (us 18 (Ii (ofNat (llen ll))::Ii x2::Ll false::(us 28 (Vv 100007::Ii (ofNat (llen x4))::Ii 0::(zs 45 []))))))) [(100005,Blk.vec [Col.ints IntKind.i64 x3]),(100007,Blk.vec [Col.ints IntKind.i64 x4]),(200000,Blk.rview [Col.rows IntKind.u8 ll]),(200001,Blk.rview [Col.ints IntKind.i64 c])]
def lorder.k32 (R : AV → Mem → Prop) (ll : List (List Int)) (x2 : Int) (x3 x4 c : List Int) (fuel m : Nat) : Prop := runM Try.prog gamD4 [⟨5,[.ints .i64],true,false⟩,⟨7,[.ints .i64],true,false⟩,⟨10,[.rows .u8],true,false⟩,⟨777777,[],true,false⟩] (resh Try.prog [⟨5,[.ints .i64],true,false⟩,⟨7,[.ints .i64],true,false⟩,⟨10,[.rows .u8],true,false⟩,⟨777777,[],true,false⟩] Try.f4.results.toList R) (run Try.prog gamD4 [⟨5,[.ints .i64],true,false⟩,⟨7,[.ints .i64],true,false⟩,⟨10,[.rows .u8],true,false⟩,⟨777777,[],true,false⟩] (resh Try.prog [⟨5,[.ints .i64],true,false⟩,⟨7,[.ints .i64],true,false⟩,⟨10,[.rows .u8],true,false⟩,⟨777777,[],true,false⟩] Try.f4.results.toList R) fuel) m [kc Try.f4 [1,1,1,1,1,1,0,1,0,0,1,0,1],kc Try.f4 [1,1,1,1,1,1,0,1,0,0,1,1],ki Try.f4 [1,1,1,1,1,1,0,1,0,0],.inBlock 2,kc Try.f4 [1,1,1,1,1,1,1]] (Vv 200000::Vv 200001::Uu::Uu::Uu::Vv 100005::Uu::Vv 100007::Uu::Uu::Zz::Uu::(zs 5 (us 18 (Ii (ofNat (llen ll))::Ii x2::Ll false::(us 28 (zs 48 [])))))) [(100005,Blk.vec [Col.ints IntKind.i64 x3]),(100007,Blk.vec [Col.ints IntKind.i64 x4]),(200000,Blk.rview [Col.rows IntKind.u8 ll]),(200001,Blk.rview [Col.ints IntKind.i64 c])]
def lorder.k33 (R : AV → Mem → Prop) (ll : List (List Int)) (x2 : Int) (x3 x4 c : List Int) (fuel m : Nat) : Prop := runM Try.prog gamD4 [⟨5,[.ints .i64],true,false⟩,⟨7,[.ints .i64],true,false⟩,⟨10,[.rows .u8],true,false⟩,⟨777777,[],true,false⟩] (resh Try.prog [⟨5,[.ints .i64],true,false⟩,⟨7,[.ints .i64],true,false⟩,⟨10,[.rows .u8],true,false⟩,⟨777777,[],true,false⟩] Try.f4.results.toList R) (run Try.prog gamD4 [⟨5,[.ints .i64],true,false⟩,⟨7,[.ints .i64],true,false⟩,⟨10,[.rows .u8],true,false⟩,⟨777777,[],true,false⟩] (resh Try.prog [⟨5,[.ints .i64],true,false⟩,⟨7,[.ints .i64],true,false⟩,⟨10,[.rows .u8],true,false⟩,⟨777777,[],true,false⟩] Try.f4.results.toList R) fuel) m [kc Try.f4 [1,1,1,1,1,1,0,1,0,0,1],ki Try.f4 [1,1,1,1,1,1,0,1,0,0],.inBlock 2,kc Try.f4 [1,1,1,1,1,1,1]] (Vv 200000::Vv 200001::Uu::Uu::Uu::Vv 100005::Uu::Vv 100007::Uu::Uu::Zz::Uu::(zs 5 (us 18 (Ii (ofNat (llen ll))::Ii x2::Bb (ilt x2 (ofNat (llen ll)))::(us 28 (zs 48 [])))))) [(100005,Blk.vec [Col.ints IntKind.i64 x3]),(100007,Blk.vec [Col.ints IntKind.i64 x4]),(200000,Blk.rview [Col.rows IntKind.u8 ll]),(200001,Blk.rview [Col.ints IntKind.i64 c])]
def lorder.l1 (R : AV → Mem → Prop) (ll : List (List Int)) (c : List Int) (fuel : Nat) (x2 : Int) (x3 x4 : List Int) : Prop := run Try.prog gamD4 [⟨5,[.ints .i64],true,false⟩,⟨7,[.ints .i64],true,false⟩,⟨10,[.rows .u8],true,false⟩,⟨777777,[],true,false⟩] (resh Try.prog [⟨5,[.ints .i64],true,false⟩,⟨7,[.ints .i64],true,false⟩,⟨10,[.rows .u8],true,false⟩,⟨777777,[],true,false⟩] Try.f4.results.toList R) fuel [kc Try.f4 [1,1,1,1,1,1,0,1,0,0],ki Try.f4 [1,1,1,1,1,1,0,1,0,0],.inBlock 2,kc Try.f4 [1,1,1,1,1,1,1]] (Vv 200000::Vv 200001::Uu::Uu::Uu::Vv 100005::Uu::Vv 100007::Uu::Uu::Zz::Uu::(zs 5 (us 18 (Ii (ofNat (llen ll))::Ii x2::(us 29 (zs 48 [])))))) [(100005,Blk.vec [Col.ints IntKind.i64 x3]),(100007,Blk.vec [Col.ints IntKind.i64 x4]),(200000,Blk.rview [Col.rows IntKind.u8 ll]),(200001,Blk.rview [Col.ints IntKind.i64 c])]
def lorder.k36 (R : AV → Mem → Prop) (ll : List (List Int)) (x0 : Int) (x1 c : List Int) (fuel m : Nat) : Prop := runM Try.prog gamD4 [⟨5,[.ints .i64],true,false⟩,⟨7,[.ints .i64],true,false⟩,⟨10,[.rows .u8],true,false⟩,⟨777777,[],true,false⟩] (resh Try.prog [⟨5,[.ints .i64],true,false⟩,⟨7,[.ints .i64],true,false⟩,⟨10,[.rows .u8],true,false⟩,⟨777777,[],true,false⟩] Try.f4.results.toList R) (run Try.prog gamD4 [⟨5,[.ints .i64],true,false⟩,⟨7,[.ints .i64],true,false⟩,⟨10,[.rows .u8],true,false⟩,⟨777777,[],true,false⟩] (resh Try.prog [⟨5,[.ints .i64],true,false⟩,⟨7,[.ints .i64],true,false⟩,⟨10,[.rows .u8],true,false⟩,⟨777777,[],true,false⟩] Try.f4.results.toList R) fuel) m [kc Try.f4 [1,1,1,1,0,1,0,0,1],ki Try.f4 [1,1,1,1,0,1,0,0],.inBlock 0,kc Try.f4 [1,1,1,1,1]] (Vv 200000::Vv 200001::Uu::Uu::Uu::Vv 100005::Uu::(zs 4 (Uu::(zs 5 (us 8 (Ii (ofNat (llen (lzeros (nat (ofNat (llen ll))))))::Ii x0::Bb (ilt x0 (ofNat (llen (lzeros (nat (ofNat (llen ll)))))))::(us 6 (zs 80 [])))))))) [(100005,Blk.vec [Col.ints IntKind.i64 x1]),(200000,Blk.rview [Col.rows IntKind.u8 ll]),(200001,Blk.rview [Col.ints IntKind.i64 c])]
def lorder.l0 (R : AV → Mem → Prop) (ll : List (List Int)) (c : List Int) (fuel : Nat) (x0 : Int) (x1 : List Int) : Prop := run Try.prog gamD4 [⟨5,[.ints .i64],true,false⟩,⟨7,[.ints .i64],true,false⟩,⟨10,[.rows .u8],true,false⟩,⟨777777,[],true,false⟩] (resh Try.prog [⟨5,[.ints .i64],true,false⟩,⟨7,[.ints .i64],true,false⟩,⟨10,[.rows .u8],true,false⟩,⟨777777,[],true,false⟩] Try.f4.results.toList R) fuel [kc Try.f4 [1,1,1,1,0,1,0,0],ki Try.f4 [1,1,1,1,0,1,0,0],.inBlock 0,kc Try.f4 [1,1,1,1,1]] (Vv 200000::Vv 200001::Uu::Uu::Uu::Vv 100005::Uu::(zs 4 (Uu::(zs 5 (us 8 (Ii (ofNat (llen (lzeros (nat (ofNat (llen ll))))))::Ii x0::(us 7 (zs 80 [])))))))) [(100005,Blk.vec [Col.ints IntKind.i64 x1]),(200000,Blk.rview [Col.rows IntKind.u8 ll]),(200001,Blk.rview [Col.ints IntKind.i64 c])]
theorem lorder.k0_eq (R : AV → Mem → Prop) (ll : List (List Int)) (c : List Int) (fuel m : Nat) : lorder.k0 R ll c fuel (m + 100) = ((R (Ll true) [(200000,Blk.rview [Col.rows IntKind.u8 ll]),(200001,Blk.rview [Col.ints IntKind.i64 c])])) := by kernel_rfl
theorem lorder.k1_eq (R : AV → Mem → Prop) (x0 : Int) (ll : List (List Int)) (x1 c : List Int) (fuel m : Nat) : lorder.k1 R x0 ll x1 c fuel (m + 100) = ((lorder.l0 R ll c fuel (add IntKind.i64 x0 1) (lset x1 (nat x0) x0))) := by kernel_rfl
theorem lorder.k2_eq (R : AV → Mem → Prop) (x0 : Int) (ll : List (List Int)) (x1 c : List Int) (fuel m : Nat) : lorder.k2 R x0 ll x1 c fuel (m + 3) = (((InB x0 (llen x1)) ∧ (lorder.k1 R x0 ll x1 c fuel m))) := by kernel_rfl
theorem lorder.k3_eq (R : AV → Mem → Prop) (ll : List (List Int)) (x0 : Int) (x1 c : List Int) (fuel m : Nat) : lorder.k3 R ll x0 x1 c fuel (m + 5) = ((lorder.k2 R x0 ll x1 c fuel m)) := by kernel_rfl
theorem lorder.k4_eq (R : AV → Mem → Prop) (x2 : Int) (c x3 : List Int) (ll : List (List Int)) (x4 y5 : List Int) (fuel m : Nat) : lorder.k4 R x2 c x3 ll x4 y5 fuel (m + 100) = ((lorder.l1 R ll c fuel (add IntKind.i64 x2 1) y5 (lcat x4 [(lget x3 (nat (placeI (lget c (nat x2)) (ofNat (llen x3)))))]))) := by kernel_rfl
theorem lorder.k5_eq (R : AV → Mem → Prop) (x2 : Int) (c x3 : List Int) (ll : List (List Int)) (x4 : List Int) (fuel m : Nat) : lorder.k5 R x2 c x3 ll x4 fuel (m + 2) = ((let y5 : List Int := (lcat (lsub x3 0 (nat (placeI (lget c (nat x2)) (ofNat (llen x3))))) (lsub x3 (nat (add IntKind.i64 (placeI (lget c (nat x2)) (ofNat (llen x3))) 1)) (nsub (llen x3) (nat (add IntKind.i64 (placeI (lget c (nat x2)) (ofNat (llen x3))) 1))))); (lorder.k4 R x2 c x3 ll x4 y5 fuel m))) := by kernel_rfl
theorem lorder.k6_eq (R : AV → Mem → Prop) (x2 : Int) (c x3 : List Int) (ll : List (List Int)) (x4 : List Int) (fuel m : Nat) : lorder.k6 R x2 c x3 ll x4 fuel (m + 1) = ((((NonNeg (placeI (lget c (nat x2)) (ofNat (llen x3)))) ∧ (Fits (nat (placeI (lget c (nat x2)) (ofNat (llen x3)))) (llen x3))) ∧ (((NonNeg (add IntKind.i64 (placeI (lget c (nat x2)) (ofNat (llen x3))) 1)) ∧ (Fits (nat (add IntKind.i64 (placeI (lget c (nat x2)) (ofNat (llen x3))) 1)) (llen x3))) ∧ ((Room (nadd (llen (lsub x3 0 (nat (placeI (lget c (nat x2)) (ofNat (llen x3)))))) (llen (lsub x3 (nat (add IntKind.i64 (placeI (lget c (nat x2)) (ofNat (llen x3))) 1)) (nsub (llen x3) (nat (add IntKind.i64 (placeI (lget c (nat x2)) (ofNat (llen x3))) 1)))))) 8) ∧ (lorder.k5 R x2 c x3 ll x4 fuel m))))) := by kernel_rfl
theorem lorder.k7_eq (R : AV → Mem → Prop) (x2 : Int) (c x3 : List Int) (ll : List (List Int)) (x4 : List Int) (fuel m : Nat) : lorder.k7 R x2 c x3 ll x4 fuel (m + 2) = (((InB (placeI (lget c (nat x2)) (ofNat (llen x3))) (llen x3)) ∧ ((Room (nadd (llen x4) (llen [(lget x3 (nat (placeI (lget c (nat x2)) (ofNat (llen x3)))))])) 8) ∧ (lorder.k6 R x2 c x3 ll x4 fuel m)))) := by kernel_rfl
theorem lorder.k8_eq (R : AV → Mem → Prop) (x2 : Int) (ll : List (List Int)) (c x3 x4 : List Int) (fuel m : Nat) : lorder.k8 R x2 ll c x3 x4 fuel (m + 1) = (((InB x2 (llen c)) ∧ (((I64 (lget c (nat x2))) ∧ (Pos (ofNat (llen x3)))) ∧ (lorder.k7 R x2 c x3 ll x4 fuel m)))) := by kernel_rfl
theorem lorder.k9_eq (R : AV → Mem → Prop) (x2 : Int) (ll : List (List Int)) (c x3 x4 : List Int) (fuel m : Nat) : lorder.k9 R x2 ll c x3 x4 fuel (m + 100) = ((lorder.l1 R ll c fuel (add IntKind.i64 x2 1) (lcat (lsub x3 0 0) (lsub x3 1 (nsub (llen x3) 1))) (lcat x4 [(lget x3 0)]))) := by kernel_rfl
theorem lorder.k10_eq (R : AV → Mem → Prop) (x2 : Int) (ll : List (List Int)) (c x3 x4 : List Int) (fuel m : Nat) : lorder.k10 R x2 ll c x3 x4 fuel (m + 3) = ((((NonNeg 0) ∧ (Fits 0 (llen x3))) ∧ (((NonNeg 1) ∧ (Fits 1 (llen x3))) ∧ ((Room (nadd (llen (lsub x3 0 0)) (llen (lsub x3 1 (nsub (llen x3) 1)))) 8) ∧ (lorder.k9 R x2 ll c x3 x4 fuel m))))) := by kernel_rfl
theorem lorder.k11_eq (R : AV → Mem → Prop) (x2 : Int) (ll : List (List Int)) (c x3 x4 : List Int) (fuel m : Nat) : lorder.k11 R x2 ll c x3 x4 fuel (m + 3) = (((InB 0 (llen x3)) ∧ ((Room (nadd (llen x4) (llen [(lget x3 0)])) 8) ∧ (lorder.k10 R x2 ll c x3 x4 fuel m)))) := by kernel_rfl
theorem lorder.k12_eq (R : AV → Mem → Prop) (x2 : Int) (ll : List (List Int)) (c x3 x4 : List Int) (fuel m : Nat) : lorder.k12 R x2 ll c x3 x4 fuel (m + 1) = (((((ilt x2 (ofNat (llen c))) = true) → (lorder.k8 R x2 ll c x3 x4 fuel m)) ∧ (((ilt x2 (ofNat (llen c))) = false) → (lorder.k11 R x2 ll c x3 x4 fuel m)))) := by kernel_rfl
theorem lorder.k13_eq (R : AV → Mem → Prop) (x2 : Int) (ll : List (List Int)) (x3 x4 c : List Int) (fuel m : Nat) : lorder.k13 R x2 ll x3 x4 c fuel (m + 5) = ((lorder.k12 R x2 ll c x3 x4 fuel m)) := by kernel_rfl
theorem lorder.k14_eq (R : AV → Mem → Prop) (ll : List (List Int)) (x2 : Int) (x3 x4 c : List Int) (fuel m : Nat) : lorder.k14 R ll x2 x3 x4 c fuel (m + 5) = ((lorder.k13 R x2 ll x3 x4 c fuel m)) := by kernel_rfl
theorem lorder.k15_eq (R : AV → Mem → Prop) (x4 : List Int) (x6 : Int) (ll x7 : List (List Int)) (c : List Int) (fuel m : Nat) : lorder.k15 R x4 x6 ll x7 c fuel (m + 100) = ((lorder.l2 R x4 ll c fuel (add IntKind.i64 x6 1) (lcat x7 [(llget ll (nat (lget x4 (nat x6))))]))) := by kernel_rfl
theorem lorder.k16_eq (R : AV → Mem → Prop) (x4 : List Int) (x6 : Int) (x7 ll : List (List Int)) (c : List Int) (fuel m : Nat) : lorder.k16 R x4 x6 x7 ll c fuel (m + 3) = (((InB (lget x4 (nat x6)) (llen ll)) ∧ ((Room (nadd (llen x7) (llen [(llget ll (nat (lget x4 (nat x6))))])) 24) ∧ (lorder.k15 R x4 x6 ll x7 c fuel m)))) := by kernel_rfl
theorem lorder.k17_eq (R : AV → Mem → Prop) (x4 : List Int) (x6 : Int) (x7 ll : List (List Int)) (c : List Int) (fuel m : Nat) : lorder.k17 R x4 x6 x7 ll c fuel (m + 5) = (((InB x6 (llen x4)) ∧ (lorder.k16 R x4 x6 x7 ll c fuel m))) := by kernel_rfl
theorem lorder.k18_eq (R : AV → Mem → Prop) (ll x7 : List (List Int)) (x4 c : List Int) (fuel m : Nat) : lorder.k18 R ll x7 x4 c fuel (m + 100) = ((R (Ll false) [(81,Blk.rview [Col.rows IntKind.u8 (exchL ll)]),(83,Blk.rview [Col.rows IntKind.u8 (exchL x7)]),(100007,Blk.vec [Col.ints IntKind.i64 x4]),(200000,Blk.rview [Col.rows IntKind.u8 ll]),(200001,Blk.rview [Col.ints IntKind.i64 c])])) := by kernel_rfl
theorem lorder.k19_eq (R : AV → Mem → Prop) (x8 : Int) (x4 : List Int) (x7 ll : List (List Int)) (c : List Int) (fuel m : Nat) : lorder.k19 R x8 x4 x7 ll c fuel (m + 100) = ((R (Ll false) [(81,Blk.rview [Col.rows IntKind.u8 (exchL ll)]),(83,Blk.rview [Col.rows IntKind.u8 (exchL x7)]),(100007,Blk.vec [Col.ints IntKind.i64 x4]),(200000,Blk.rview [Col.rows IntKind.u8 ll]),(200001,Blk.rview [Col.ints IntKind.i64 c])])) := by kernel_rfl
theorem lorder.k20_eq (R : AV → Mem → Prop) (x8 : Int) (x4 : List Int) (x7 ll : List (List Int)) (c : List Int) (fuel m : Nat) : lorder.k20 R x8 x4 x7 ll c fuel (m + 100) = ((lorder.l3 R x4 ll x7 c fuel (add IntKind.i64 x8 1))) := by kernel_rfl
theorem lorder.k21_eq (R : AV → Mem → Prop) (x8 : Int) (x4 : List Int) (x7 ll : List (List Int)) (c : List Int) (fuel m : Nat) : lorder.k21 R x8 x4 x7 ll c fuel (m + 4) = (((((bnot (leq (llget (exchL x7) (nat x8)) (llget (exchL ll) (nat (lget x4 (nat x8)))))) = true) → (lorder.k19 R x8 x4 x7 ll c fuel (m + 1))) ∧ (((bnot (leq (llget (exchL x7) (nat x8)) (llget (exchL ll) (nat (lget x4 (nat x8)))))) = false) → (lorder.k20 R x8 x4 x7 ll c fuel m)))) := by kernel_rfl
theorem lorder.k22_eq (R : AV → Mem → Prop) (x8 : Int) (x4 : List Int) (ll x7 : List (List Int)) (c : List Int) (fuel m : Nat) : lorder.k22 R x8 x4 ll x7 c fuel (m + 2) = (((InB x8 (llen (exchL x7))) ∧ ((InB (lget x4 (nat x8)) (llen (exchL ll))) ∧ (((Bs (llget (exchL x7) (nat x8))) ∧ (Bs (llget (exchL ll) (nat (lget x4 (nat x8)))))) ∧ (lorder.k21 R x8 x4 x7 ll c fuel m))))) := by kernel_rfl
theorem lorder.k23_eq (R : AV → Mem → Prop) (x4 : List Int) (x8 : Int) (ll x7 : List (List Int)) (c : List Int) (fuel m : Nat) : lorder.k23 R x4 x8 ll x7 c fuel (m + 5) = (((InB x8 (llen x4)) ∧ (lorder.k22 R x8 x4 ll x7 c fuel m))) := by kernel_rfl
theorem lorder.k24_eq (R : AV → Mem → Prop) (x4 : List Int) (x8 : Int) (ll x7 : List (List Int)) (c : List Int) (fuel m : Nat) : lorder.k24 R x4 x8 ll x7 c fuel (m + 100) = ((R (Ll true) [(81,Blk.rview [Col.rows IntKind.u8 (exchL ll)]),(83,Blk.rview [Col.rows IntKind.u8 (exchL x7)]),(100007,Blk.vec [Col.ints IntKind.i64 x4]),(200000,Blk.rview [Col.rows IntKind.u8 ll]),(200001,Blk.rview [Col.ints IntKind.i64 c])])) := by kernel_rfl
theorem lorder.k25_eq (R : AV → Mem → Prop) (x4 : List Int) (x8 : Int) (ll x7 : List (List Int)) (c : List Int) (fuel m : Nat) : lorder.k25 R x4 x8 ll x7 c fuel (m + 5) = (((((ilt x8 (ofNat (llen x4))) = true) → (lorder.k23 R x4 x8 ll x7 c fuel (m + 3))) ∧ (((ilt x8 (ofNat (llen x4))) = false) → (lorder.k24 R x4 x8 ll x7 c fuel m)))) := by kernel_rfl
theorem lorder.l3_succ (R : AV → Mem → Prop) (x4 : List Int) (ll x7 : List (List Int)) (c : List Int) (fuel : Nat) (x8 : Int) : lorder.l3 R x4 ll x7 c (fuel + 1) x8 = ((lorder.k25 R x4 x8 ll x7 c fuel 3998)) := by kernel_rfl
theorem lorder.k26_eq (R : AV → Mem → Prop) (x4 : List Int) (ll x7 : List (List Int)) (c : List Int) (fuel m : Nat) : lorder.k26 R x4 ll x7 c fuel (m + 100) = ((lorder.l3 R x4 ll x7 c fuel 0)) := by kernel_rfl
theorem lorder.k27_eq (R : AV → Mem → Prop) (x4 : List Int) (x6 : Int) (ll x7 : List (List Int)) (c : List Int) (fuel m : Nat) : lorder.k27 R x4 x6 ll x7 c fuel (m + 5) = (((((ine (ofNat (llen (exchL x7))) (ofNat (llen ll))) = true) → (lorder.k18 R ll x7 x4 c fuel (m + 2))) ∧ (((ine (ofNat (llen (exchL x7))) (ofNat (llen ll))) = false) → (lorder.k26 R x4 ll x7 c fuel m)))) := by kernel_rfl
theorem lorder.k28_eq (R : AV → Mem → Prop) (x4 : List Int) (x6 : Int) (ll x7 : List (List Int)) (c : List Int) (fuel m : Nat) : lorder.k28 R x4 x6 ll x7 c fuel (m + 6) = (((((ine (ofNat (llen (exchL ll))) (ofNat (llen ll))) = false) → (lorder.k27 R x4 x6 ll x7 c fuel (m + 3))) ∧ (((ine (ofNat (llen (exchL ll))) (ofNat (llen ll))) = true) → (lorder.k18 R ll x7 x4 c fuel m)))) := by kernel_rfl
theorem lorder.k29_eq (R : AV → Mem → Prop) (x4 : List Int) (x6 : Int) (x7 ll : List (List Int)) (c : List Int) (fuel m : Nat) : lorder.k29 R x4 x6 x7 ll c fuel (m + 3) = (((Fits (llen ll) 1000000000) ∧ ((Fits (llen x7) 1000000000) ∧ (lorder.k28 R x4 x6 ll x7 c fuel m)))) := by kernel_rfl
theorem lorder.k30_eq (R : AV → Mem → Prop) (x4 : List Int) (x6 : Int) (x7 ll : List (List Int)) (c : List Int) (fuel m : Nat) : lorder.k30 R x4 x6 x7 ll c fuel (m + 2) = (((((ilt x6 (ofNat (llen x4))) = true) → (lorder.k17 R x4 x6 x7 ll c fuel m)) ∧ (((ilt x6 (ofNat (llen x4))) = false) → (lorder.k29 R x4 x6 x7 ll c fuel m)))) := by kernel_rfl
theorem lorder.k31_eq (R : AV → Mem → Prop) (ll : List (List Int)) (x2 : Int) (x4 x3 c : List Int) (fuel m : Nat) : lorder.k31 R ll x2 x4 x3 c fuel (m + 100) = ((lorder.l2 R x4 ll c fuel 0 [])) := by kernel_rfl
theorem lorder.k32_eq (R : AV → Mem → Prop) (ll : List (List Int)) (x2 : Int) (x3 x4 c : List Int) (fuel m : Nat) : lorder.k32 R ll x2 x3 x4 c fuel (m + 6) = ((lorder.k31 R ll x2 x4 x3 c fuel m)) := by kernel_rfl
theorem lorder.l1_succ (R : AV → Mem → Prop) (ll : List (List Int)) (c : List Int) (fuel : Nat) (x2 : Int) (x3 x4 : List Int) : lorder.l1 R ll c (fuel + 1) x2 x3 x4 = ((lorder.k33 R ll x2 x3 x4 c fuel 3998)) := by kernel_rfl
theorem lorder.l0_succ (R : AV → Mem → Prop) (ll : List (List Int)) (c : List Int) (fuel : Nat) (x0 : Int) (x1 : List Int) : lorder.l0 R ll c (fuel + 1) x0 x1 = ((lorder.k36 R ll x0 x1 c fuel 3998)) := by kernel_rfl
end Go.Proofs.Ytnpfockaigegiaa.G
namespace Go.Sx
open Go
def ints (n : Nat) : List Int := tab n fun k => (k : Int)
end Go.Sx
namespace Go.Proofs.Ytnpfockaigegiaa.G
open Go Go.Sx
set_option maxRecDepth 20000
set_option maxHeartbeats 1000000
theorem exchL_len (ll : List (List Int)) : (exchL ll).length = ll.length := tab_len _ _
theorem exchL_get {ll : List (List Int)} {i : Nat} (h : i < ll.length) : llget (exchL ll) i = exch1 ll i := tab_llget _ h
theorem great_few {ll : List (List Int)} (h : greatB ll = false) : ll.length ≤ 2048 := by
 unfold greatB at h
 rw [Bool.or_eq_false_iff, igt_false, igt_false, ofNat_def, llen_def] at h
 omega
end Go.Proofs.Ytnpfockaigegiaa.G
namespace Go.Sx
open Go
def othN (ll : List (List Int)) (x : List Int) (i t : Nat) : Nat := ((List.range t).filter fun k => atD ll x k && !(k == i)).length
theorem oth_succ {ll : List (List Int)} {x : List Int} {i t : Nat} : othN ll x i (t + 1) = if atD ll x t = true ∧ t ≠ i then othN ll x i t + 1 else othN ll x i t := by
 unfold othN
 rw [List.range_succ, List.filter_append, List.length_append]
 by_cases h : atD ll x t = true ∧ t ≠ i
 ·rw [if_pos h]
  have : (atD ll x t && !(t == i)) = true := by rw [h.1]; simp [h.2]
  simp [this]
 ·rw [if_neg h]
  have : (atD ll x t && !(t == i)) = false := by
   cases e : atD ll x t with
   | false => rfl
   | true =>
    have : t = i := Classical.byContradiction fun q => h ⟨e, q⟩
    simp [this]
  simp [this]
theorem oth_le {ll : List (List Int)} {x : List Int} {i : Nat} : ∀ t, othN ll x i t ≤ t
 | 0 => by simp [othN]
 | t + 1 => by rw [oth_succ]; have := oth_le (ll := ll) (x := x) (i := i) t; split <;> omega
theorem oth_idx {ll : List (List Int)} {x : List Int} {i : Nat} (h : atD ll x i = true) : ∀ t, (idxL ll x t).length = othN ll x i t + if i < t then 1 else 0
 | 0 => by simp [othN, idxL]
 | t + 1 => by
  have ih := oth_idx h t
  rw [idx_succ, oth_succ]
  by_cases e : t = i
  ·subst e
   rw [if_pos h, if_neg (by simp), List.length_append, ih]
   simp
  ·by_cases q : atD ll x t = true
   ·rw [if_pos q, if_pos ⟨q, e⟩, List.length_append, ih]
    by_cases w : i < t
    ·rw [if_pos w, if_pos (by omega)]; simp
    ·rw [if_neg w, if_neg (by omega)]; try simp
   ·rw [if_neg q, if_neg (fun c => q c.1), ih]
    by_cases w : i < t
    ·rw [if_pos w, if_pos (by omega)]
    ·rw [if_neg w, if_neg (by omega)]
theorem two_is {q : List Int} {i k : Int} (hl : q.length = 2) (hn : q.Nodup) (hi : i ∈ q) (hk : k ∈ q) (h : k ≠ i) : lget q 0 + lget q 1 - i = k := by
 match q, hl with
 | [a, b], _ =>
  simp only [List.mem_cons, List.not_mem_nil, or_false] at hi hk
  show a + b - i = k
  rcases hi with rfl | rfl <;> rcases hk with rfl | rfl
  ·exact absurd rfl h
  ·omega
  ·omega
  ·exact absurd rfl h
theorem at_iff {ll : List (List Int)} {x : List Int} {k : Nat} : atD ll x k = true ↔ rtB (llget ll k) = true ∧ nmL (llget ll k) = x := by
 unfold atD; rw [Bool.and_eq_true, leq_true]
end Go.Sx
namespace Go.Proofs.Ytnpfockaigegiaa.G
open Go Go.Sx
set_option maxRecDepth 20000
set_option maxHeartbeats 2000000
theorem ex_two {ll : List (List Int)} {i k : Nat} (hi : i < ll.length) (hk : k < ll.length) (ri : rtB (llget ll i) = true) (rk : rtB (llget ll k) = true) (hx : nmL (llget ll k) = nmL (llget ll i)) (hne : k ≠ i) (h2 : (idxL ll (nmL (llget ll i)) ll.length).length = 2) :
  exch1 ll i = 1 :: lsub (llget ll k) 8 (nsub (llen (llget ll k)) 8) := by
 have mi : (i : Int) ∈ idxL ll (nmL (llget ll i)) ll.length := idx_mem.2 ⟨i, rfl, hi, at_iff.2 ⟨ri, rfl⟩⟩
 have mk : (k : Int) ∈ idxL ll (nmL (llget ll i)) ll.length := idx_mem.2 ⟨k, rfl, hk, at_iff.2 ⟨rk, hx⟩⟩
 unfold exch1
 rw [if_pos ri, if_neg (by omega), if_pos h2, two_is h2 idx_nodup mi mk (by omega), nat_cast]
theorem ex_bs {ll : List (List Int)} (hB : RowsB ll) {i : Nat} : Bs (exch1 ll i) := by
 unfold exch1
 have hg : ∀ j, Bs (llget ll j) := fun j => by
  by_cases q : j < ll.length
  ·exact hB.all _ (List.mem_of_getElem? (llget_some q))
  ·have : llget ll j = [] := by simp [llget, List.getD, List.getElem?_eq_none (by omega : ll.length ≤ j)]
   rw [this]; exact Bs.nil
 split
 ·split
  ·exact Bs.cons (by decide) (by decide) Bs.nil
  ·split
   ·exact Bs.cons (by decide) (by decide) (by unfold lsub; exact ((hg _).drop _).take _)
   ·exact Bs.cons (by decide) (by decide) Bs.nil
 ·exact Bs.cons (by decide) (by decide) Bs.nil
theorem ex_ok {ll : List (List Int)} {i : Nat} (hi : i < ll.length) : okA (exch1 ll i) = true := by
 rw [ok_iff]
 unfold exch1
 split
 ·rename_i ri
  split
  ·exact ⟨by decide, by decide, by decide, Or.inr (by decide)⟩
  ·split
   ·rename_i h1 h2
    have mi : (i : Int) ∈ idxL ll (nmL (llget ll i)) ll.length := idx_mem.2 ⟨i, rfl, hi, at_iff.2 ⟨ri, rfl⟩⟩
    obtain ⟨k, hk, hkN, hka⟩ := idx_mem.1 (two_other h2 mi)
    obtain ⟨r1, r2⟩ := rt_yes (at_iff.1 hka).1
    rw [hk, nat_cast]
    refine ⟨by simp, ?_, by show (1 : Int) ≤ 3; decide, Or.inl rfl⟩
    show (lsub _ 8 _).length + 1 ≤ 41
    unfold lsub nsub
    rw [List.length_take, List.length_drop, llen_def]
    omega
   ·exact ⟨by decide, by decide, by decide, Or.inr (by decide)⟩
 ·exact ⟨by decide, by decide, by decide, Or.inr (by decide)⟩
theorem la_l3 {ll : List (List Int)} (hB : RowsB ll) (hN : ll.length ≤ 2048) {i : Nat} (hi : i < ll.length) (ri : rtB (llget ll i) = true) (h2 : (idxL ll (nmL (llget ll i)) ll.length).length = 2)
  (h : ∃ f, lans.l0 okR ll f ((i + 1 : Nat) : Int)) : ∃ f, lans.l3 okR (i : Int) ll f 0 0 := by
 obtain ⟨i8, i48⟩ := rt_yes ri
 have hai : atD ll (nmL (llget ll i)) i = true := at_iff.2 ⟨ri, rfl⟩
 have hg : ∀ j, j < ll.length → Bs (llget ll j) := fun j q => hB.all _ (List.mem_of_getElem? (llget_some q))
 have mi : (i : Int) ∈ idxL ll (nmL (llget ll i)) ll.length := idx_mem.2 ⟨i, rfl, hi, hai⟩
 have hi1 : ansH (exch1 ll i) = 1 := by
  obtain ⟨k, hk, hkN, hka⟩ := idx_mem.1 (two_other h2 mi)
  unfold ansH; rw [ex_ok hi]
  show lget (exch1 ll i) 0 = 1
  unfold exch1; rw [if_pos ri, if_neg (by omega), if_pos h2]; rfl
 obtain ⟨F, hF⟩ := loop_ex (fun f t (n : Int) => lans.l3 okR (i : Int) ll f n t) ll.length (fun t => (othN ll (nmL (llget ll i)) i t : Int)) (fun F k hk hx => ⟨F + 1, by
  have hol := oth_le (ll := ll) (x := nmL (llget ll i)) (i := i) k
  have a1 : add .i64 (k : Int) 1 = ((k + 1 : Nat) : Int) := add1_i64 (by omega)
  have a2 : add .i64 ((othN ll (nmL (llget ll i)) i k : Nat) : Int) 1 = ((othN ll (nmL (llget ll i)) i k + 1 : Nat) : Int) := add1_i64 (by omega)
  have e1 : ilt (k : Int) (ofNat (llen ll)) = true := by rw [ilt_true, ofNat_def, llen_def]; omega
  have ib : InB (k : Int) (llen ll) := ⟨by omega, by rw [llen_def]; omega⟩
  have hx0 := hx
  simp only [oth_succ] at hx
  show lans.l3 okR (i : Int) ll (F + 1) (othN ll (nmL (llget ll i)) i k : Int) (k : Int)
  rw [lans.l3_succ, lans.k72_eq okR _ _ _ _ F 3993, e1, lans.k68_eq okR _ _ _ _ F 3991, lans.k67_eq okR _ _ _ _ F 3985, lans.k66_eq okR _ _ _ _ F 3885, lans.k65_eq okR _ _ _ _ F 3885, lans.k64_eq okR _ _ _ _ F 3885, nat_cast, nat_cast, a1]
  refine dr_tt ⟨ib, fun q => ?_, fun q => ?_⟩
  ·have hne : k ≠ i := fun e => by rw [ieq_false, e] at q; exact q rfl
   refine ⟨fun q1 => ⟨fun q2 => ?_, fun q2 => ?_⟩, fun q1 => ?_⟩
   ·rw [ilt_false, ofNat_def, llen_def] at q1
    rw [igt_false, ofNat_def, llen_def] at q2
    have rk : rtB (llget ll k) = true := rt_of (by omega) (by omega)
    have fk : Fits 8 (llen (llget ll k)) := ⟨by rw [llen_def]; omega⟩
    have fi : Fits 8 (llen (llget ll i)) := ⟨by rw [llen_def]; omega⟩
    have n8 : NonNeg 8 := ⟨by omega⟩
    have bk := hg k hk
    have bi := hg i hi
    have bsub : ∀ {l : List Int} (a b : Nat), Bs l → Bs (lsub l a b) := fun a b h => by unfold lsub; exact (h.drop a).take b
    rw [lans.k63_eq okR _ _ _ _ F 3984, lans.k55_eq okR _ _ _ _ F 3885, a1, nat_cast, nat_cast]
    refine ⟨⟨n8, fk⟩, ⟨n8, fi⟩, ⟨bsub _ _ bk, bsub _ _ bi⟩, fun q3 => ?_, fun q3 => ?_⟩
    ·rw [bnot_true, leq_false] at q3
     rw [if_neg (fun c => q3 (at_iff.1 c.1).2)] at hx
     exact hx
    ·have hxk : nmL (llget ll k) = nmL (llget ll i) := by
      cases e : leq (lsub (llget ll k) 0 8) (lsub (llget ll i) 0 8) with
      | true => exact leq_true.1 e
      | false => rw [e] at q3; cases q3
     have hak : atD ll (nmL (llget ll i)) k = true := at_iff.2 ⟨rk, hxk⟩
     rw [if_pos ⟨hak, hne⟩] at hx
     have x1 := ex_two hi hk ri rk hxk hne h2
     have x2 := ex_two hk hi rk ri hxk.symm (Ne.symm hne) (by rw [hxk]; exact h2)
     have y1 : ansR (llget (exchL ll) i) = lsub (llget ll k) 8 (nsub (llen (llget ll k)) 8) := by
      rw [exchL_get hi]; unfold ansR; rw [ex_ok hi]; show (exch1 ll i).drop 1 = _; rw [x1]; rfl
     have y2 : llget (exchL ll) k = lcat [1] (lsub (llget ll i) 8 (nsub (llen (llget ll i)) 8)) := by
      rw [exchL_get hk, x2]; rfl
     have l1 : ∀ l : List Int, leq l l = true := fun l => leq_true.2 rfl
     have e3 : ieq 1 1 = true := rfl
     have ik : InB (k : Int) (llen (exchL ll)) := ⟨by omega, by rw [llen_def, exchL_len]; omega⟩
     have rm : Room (nadd 1 (llen (lsub (llget ll i) 8 (nsub (llen (llget ll i)) 8)))) 1 := room1 (by
      have : (lsub (llget ll i) 8 (nsub (llen (llget ll i)) 8)).length ≤ 48 := by unfold lsub; simp; omega
      show _ + _ ≤ _; rw [llen_def]; omega)
     have b1 : Bs (lcat [1] (lsub (llget ll i) 8 (nsub (llen (llget ll i)) 8))) := by
      exact Bs.cons (by decide) (by decide) (bsub _ _ bi)
     have done : lans.k58 okR (i : Int) ll ((othN ll (nmL (llget ll i)) i k : Nat) : Int) (k : Int) F 3982 := by
      rw [lans.k58_eq okR _ _ _ _ F 3978]
      simp only [nat_cast, y1, y2, l1, lans.k57_eq okR _ _ _ _ _ _ _ _ F 3878, a1, a2]
      exact ⟨fun q => (by cases q), fun _ => hx⟩
     rw [lans.k62_eq okR _ _ _ _ F 3978, nat_cast, nat_cast, exchL_get hi, hi1, e3, ← exchL_get hi, y1, l1, y2]
     exact ⟨fun _ => ⟨⟨n8, fk⟩, ⟨bsub _ _ bk, bsub _ _ bk⟩, fun _ => ⟨ik, ⟨n8, fi⟩, ⟨rm, ⟨b1, b1⟩, done⟩, ⟨rm, ⟨b1, b1⟩, done⟩, rm, ⟨b1, b1⟩, done⟩, fun q => (by cases q)⟩, fun q => (by cases q)⟩
   ·rw [igt_true, ofNat_def, llen_def] at q2
    rw [if_neg (fun c => by have := (rt_yes (at_iff.1 c.1).1).2; omega)] at hx
    exact hx
   ·rw [ilt_true, ofNat_def, llen_def] at q1
    rw [if_neg (fun c => by have := (rt_yes (at_iff.1 c.1).1).1; omega)] at hx
    exact hx
  ·rw [ieq_true] at q
   rw [if_neg (fun c => c.2 (by omega))] at hx
   exact hx⟩) (by
  obtain ⟨F, hF⟩ := h
  refine ⟨F + 1, ?_⟩
  have e1 : ilt (ll.length : Int) (ofNat (llen ll)) = false := by rw [ilt_false, ofNat_def, llen_def]; omega
  have hq := oth_idx hai ll.length
  rw [if_pos hi, h2] at hq
  have ho : (othN ll (nmL (llget ll i)) i ll.length : Int) = 1 := by omega
  have e2 : ine 1 (imin 1 2) = false := rfl
  show lans.l3 okR (i : Int) ll (F + 1) (othN ll (nmL (llget ll i)) i ll.length : Int) (ll.length : Int)
  rw [ho, lans.l3_succ, lans.k72_eq okR _ _ _ _ F 3993, e1, lans.k71_eq okR _ _ _ _ F 3989, lans.k70_eq okR _ _ _ _ F 3889, nat_cast, exchL_get hi, hi1, e2, add1_i64 (by omega)]
  exact dr_ff (dr_ff hF)) 0 (Nat.zero_le _)
 exact ⟨F, hF⟩
theorem la_l1 {ll : List (List Int)} (hB : RowsB ll) (hN : ll.length ≤ 2048) {i : Nat} (hi : i < ll.length) (ri : rtB (llget ll i) = true) (h1 : ansH (exch1 ll i) ≠ 1) (h3 : ansH (exch1 ll i) = imin ((othN ll (nmL (llget ll i)) i ll.length : Nat) : Int) 2)
  (h : ∃ f, lans.l0 okR ll f ((i + 1 : Nat) : Int)) : ∃ f, lans.l1 okR (i : Int) ll f 0 0 := by
 obtain ⟨i8, i48⟩ := rt_yes ri
 have hg : ∀ j, j < ll.length → Bs (llget ll j) := fun j q => hB.all _ (List.mem_of_getElem? (llget_some q))
 obtain ⟨F, hF⟩ := loop_ex (fun f t (n : Int) => lans.l1 okR (i : Int) ll f n t) ll.length (fun t => (othN ll (nmL (llget ll i)) i t : Int)) (fun F k hk hx => ⟨F + 1, by
  have hol := oth_le (ll := ll) (x := nmL (llget ll i)) (i := i) k
  have a1 : add .i64 (k : Int) 1 = ((k + 1 : Nat) : Int) := add1_i64 (by omega)
  have a2 : add .i64 ((othN ll (nmL (llget ll i)) i k : Nat) : Int) 1 = ((othN ll (nmL (llget ll i)) i k + 1 : Nat) : Int) := add1_i64 (by omega)
  have e1 : ilt (k : Int) (ofNat (llen ll)) = true := by rw [ilt_true, ofNat_def, llen_def]; omega
  have ib : InB (k : Int) (llen ll) := ⟨by omega, by rw [llen_def]; omega⟩
  simp only [oth_succ] at hx
  show lans.l1 okR (i : Int) ll (F + 1) (othN ll (nmL (llget ll i)) i k : Int) (k : Int)
  rw [lans.l1_succ, lans.k22_eq okR _ _ _ _ F 3993, e1, lans.k18_eq okR _ _ _ _ F 3991, lans.k17_eq okR _ _ _ _ F 3985, lans.k16_eq okR _ _ _ _ F 3885, lans.k15_eq okR _ _ _ _ F 3885, lans.k14_eq okR _ _ _ _ F 3885, nat_cast, nat_cast, a1]
  refine dr_tt ⟨ib, fun q => ?_, fun q => ?_⟩
  ·have hne : k ≠ i := fun e => by rw [ieq_false, e] at q; exact q rfl
   refine ⟨fun q1 => ⟨fun q2 => ?_, fun q2 => ?_⟩, fun q1 => ?_⟩
   ·rw [ilt_false, ofNat_def, llen_def] at q1
    rw [igt_false, ofNat_def, llen_def] at q2
    have rk : rtB (llget ll k) = true := rt_of (by omega) (by omega)
    have fk : Fits 8 (llen (llget ll k)) := ⟨by rw [llen_def]; omega⟩
    have fi : Fits 8 (llen (llget ll i)) := ⟨by rw [llen_def]; omega⟩
    have n8 : NonNeg 8 := ⟨by omega⟩
    have bk := hg k hk
    have bi := hg i hi
    have bsub : ∀ {l : List Int} (a b : Nat), Bs l → Bs (lsub l a b) := fun a b h => by unfold lsub; exact (h.drop a).take b
    rw [lans.k13_eq okR _ _ _ _ F 3984, lans.k5_eq okR _ _ _ _ F 3885, a1, nat_cast, nat_cast]
    refine ⟨⟨n8, fk⟩, ⟨n8, fi⟩, ⟨bsub _ _ bk, bsub _ _ bi⟩, fun q3 => ?_, fun q3 => ?_⟩
    ·rw [bnot_true, leq_false] at q3
     rw [if_neg (fun c => q3 (at_iff.1 c.1).2)] at hx
     exact hx
    ·have hxk : nmL (llget ll k) = nmL (llget ll i) := by
      cases e : leq (lsub (llget ll k) 0 8) (lsub (llget ll i) 0 8) with
      | true => exact leq_true.1 e
      | false => rw [e] at q3; cases q3
     have hak : atD ll (nmL (llget ll i)) k = true := at_iff.2 ⟨rk, hxk⟩
     rw [if_pos ⟨hak, hne⟩] at hx
     have e3 : ieq (ansH (exch1 ll i)) 1 = false := ieq_false.2 h1
     rw [lans.k12_eq okR _ _ _ _ F 3978, lans.k11_eq okR _ _ _ _ F 3878, nat_cast, exchL_get hi, e3, a1, a2]
     exact ⟨fun q => (by cases q), fun _ => hx⟩
   ·rw [igt_true, ofNat_def, llen_def] at q2
    rw [if_neg (fun c => by have := (rt_yes (at_iff.1 c.1).1).2; omega)] at hx
    exact hx
   ·rw [ilt_true, ofNat_def, llen_def] at q1
    rw [if_neg (fun c => by have := (rt_yes (at_iff.1 c.1).1).1; omega)] at hx
    exact hx
  ·rw [ieq_true] at q
   rw [if_neg (fun c => c.2 (by omega))] at hx
   exact hx⟩) (by
  obtain ⟨F, hF⟩ := h
  refine ⟨F + 1, ?_⟩
  have e1 : ilt (ll.length : Int) (ofNat (llen ll)) = false := by rw [ilt_false, ofNat_def, llen_def]; omega
  have e2 : ine (ansH (exch1 ll i)) (imin ((othN ll (nmL (llget ll i)) i ll.length : Nat) : Int) 2) = false := ine_false.2 h3
  show lans.l1 okR (i : Int) ll (F + 1) (othN ll (nmL (llget ll i)) i ll.length : Int) (ll.length : Int)
  rw [lans.l1_succ, lans.k22_eq okR _ _ _ _ F 3993, e1, lans.k21_eq okR _ _ _ _ F 3989, lans.k20_eq okR _ _ _ _ F 3889, nat_cast, exchL_get hi, e2, add1_i64 (by omega)]
  exact dr_ff (dr_ff hF)) 0 (Nat.zero_le _)
 exact ⟨F, hF⟩
theorem dropAnswers_plain {ll : List (List Int)} (hS : RowsS ll) (hB : RowsB ll) :
  ∃ f, Has (callsx Try.prog gamD5 [⟨777777, [], true, false⟩] Try.f5 f [.one (.vec 200000)] [(200000, .rview [.rows .u8 ll])] fun av _ => av = .one (.bool true) ∨ av = .one (.lit true)) := by
 cases hg : greatB ll with
 | true =>
  refine ⟨0 + 1, ⟨?_⟩⟩
  show callsx Try.prog gamD5 _ _ (0 + 1) _ _ okR
  rw [lans_vc, lans.k116_eq okR _ 0 3994, lans.k115_eq okR _ 0 3990, lans.k114_eq okR _ 0 3987, hg, lans.k0_eq okR _ 0 3887]
  exact ⟨hS, dr_tt okR_lit⟩
 | false =>
  have hN := great_few hg
  obtain ⟨F, hF⟩ := loop_ex (fun f i (_ : Unit) => lans.l0 okR ll f i) ll.length (fun _ => ()) (fun F0 i hi hx => by
   have e1 : ilt (i : Int) (ofNat (llen ll)) = true := by rw [ilt_true, ofNat_def, llen_def]; omega
   have ib : InB (i : Int) (llen ll) := ⟨by omega, by rw [llen_def]; omega⟩
   have ie : InB (i : Int) (llen (exchL ll)) := ⟨by omega, by rw [llen_def, exchL_len]; omega⟩
   have ok := ex_ok hi
   obtain ⟨o1, o41, o3, o4⟩ := ok_iff.1 ok
   have bs := ex_bs hB (i := i)
   have b0 := bs.get 0
   have hH : ansH (exch1 ll i) = lget (exch1 ll i) 0 := by unfold ansH; rw [ok]
   have hE : ansE (exch1 ll i) = 0 := by unfold ansE; rw [ok]
   have hR : ansR (exch1 ll i) = (exch1 ll i).drop 1 := by unfold ansR; rw [ok]
   have f1 : Fits (llen (exch1 ll i)) 200000000000000 := ⟨by rw [llen_def]; omega⟩
   have c1 : ine 0 0 = false := rfl
   have c2 : igt (ofNat (llen (exch1 ll i))) 48 = false := by rw [igt_false, ofNat_def, llen_def]; omega
   have c3 : ilt (ansH (exch1 ll i)) 0 = false := by rw [ilt_false, hH]; simp only [lget]; omega
   have c4 : igt (ansH (exch1 ll i)) 3 = false := by rw [igt_false, hH]; omega
   have start : ∀ F, (ine (ansH (exch1 ll i)) 1 = true → lans.k52 okR (i : Int) ll F 3986) → (ine (ansH (exch1 ll i)) 1 = false → lans.k101 okR (i : Int) ll F 3985) → lans.l0 okR ll (F + 1) (i : Int) := fun F y n => by
    rw [lans.l0_succ, lans.k110_eq okR _ _ F 3993, e1, lans.k108_eq okR _ _ F 3991, lans.k107_eq okR _ _ F 3989, lans.k106_eq okR _ _ F 3983, nat_cast, exchL_get hi, hE, c1, c2, c3, c4]
    exact dr_tt ⟨ib, ie, ⟨bs, f1⟩, fun _ => ⟨ie, fun _ => ⟨fun _ => ⟨fun _ => ⟨y, n⟩, fun q => (by cases q)⟩, fun q => (by cases q)⟩, fun q => (by cases q)⟩, fun q => (by cases q)⟩
   have a1 : add .i64 (i : Int) 1 = ((i + 1 : Nat) : Int) := add1_i64 (by omega)
   have hx : lans.l0 okR ll F0 ((i + 1 : Nat) : Int) := hx
   cases hr : rtB (llget ll i) with
   | false =>
    have x : exch1 ll i = [3] := by unfold exch1; rw [hr]; rfl
    refine ⟨F0 + 1, start F0 (fun _ => ?_) (fun q => by rw [hH, x] at q; cases q)⟩
    have hr0 : ine (ofNat (llen (ansR (exch1 ll i)))) 0 = false := by rw [hR, x]; rfl
    have c5 : ansH (exch1 ll i) = 3 := by rw [hH, x]; rfl
    have c6 : ieq 3 3 = true := rfl
    rw [lans.k52_eq okR _ _ F0 3983, lans.k51_eq okR _ _ F0 3981, lans.k26_eq okR _ _ F0 3976, lans.k50_eq okR _ _ F0 3976, lans.k25_eq okR _ _ F0 3973, lans.k4_eq okR _ _ F0 3873, lans.k49_eq okR _ _ F0 3973, lans.k28_eq okR _ _ F0 3873]
    have c8 : bnot (beq2 true true) = false := rfl
    simp only [nat_cast, exchL_get hi, hr0, c5, c6, a1, c8, Bool.false_eq_true, Bool.true_eq_false, false_implies, forall_const, true_and, and_true]
    refine ⟨fun q => ?_, fun q => hx⟩
    rw [ilt_false, ofNat_def, llen_def] at q
    have c7 : igt (ofNat (llen (llget ll i))) 48 = true := by
     rw [igt_true, ofNat_def, llen_def]
     rcases rt_no hr with w | w <;> omega
    rw [c7, c8]
    exact dr_ff hx
   | true =>
    obtain ⟨i8, i48⟩ := rt_yes hr
    have c5 : ilt (ofNat (llen (llget ll i))) 8 = false := by rw [ilt_false, ofNat_def, llen_def]; omega
    have c6 : igt (ofNat (llen (llget ll i))) 48 = false := by rw [igt_false, ofNat_def, llen_def]; omega
    have hq := oth_idx (at_iff.2 ⟨hr, rfl⟩ : atD ll (nmL (llget ll i)) i = true) ll.length
    rw [if_pos hi] at hq
    by_cases h2 : (idxL ll (nmL (llget ll i)) ll.length).length = 2
    ·obtain ⟨F, hF⟩ := la_l3 hB hN hi hr h2 ⟨F0, hx⟩
     have x : lget (exch1 ll i) 0 = 1 := by unfold exch1; rw [if_pos hr, if_neg (by omega), if_pos h2]; rfl
     refine ⟨F + 1, start F (fun q => by rw [hH, x] at q; cases q) (fun _ => ?_)⟩
     have c7 : ieq 1 3 = false := rfl
     have c8 : bnot (beq2 false false) = false := rfl
     rw [lans.k101_eq okR _ _ F 3981, lans.k76_eq okR _ _ F 3976, lans.k75_eq okR _ _ F 3973, lans.k74_eq okR _ _ F 3969, lans.k73_eq okR _ _ F 3869]
     simp only [nat_cast, exchL_get hi, hH, x, c5, c6, c7, c8, Bool.false_eq_true, Bool.true_eq_false, false_implies, forall_const, true_and, and_true]
     exact hF
    ·have hd : exch1 ll i = [0] ∧ (idxL ll (nmL (llget ll i)) ll.length).length = 1 ∨ exch1 ll i = [2] ∧ 3 ≤ (idxL ll (nmL (llget ll i)) ll.length).length := by
      by_cases h1 : (idxL ll (nmL (llget ll i)) ll.length).length = 1
      ·left; refine ⟨?_, h1⟩; unfold exch1; rw [if_pos hr, if_pos h1]
      ·right; refine ⟨?_, by omega⟩; unfold exch1; rw [if_pos hr, if_neg h1, if_neg h2]
     have hm : ansH (exch1 ll i) ≠ 1 ∧ ansH (exch1 ll i) ≠ 3 ∧ ansR (exch1 ll i) = [] ∧ ansH (exch1 ll i) = imin ((othN ll (nmL (llget ll i)) i ll.length : Nat) : Int) 2 := by
      rw [hH, hR]
      rcases hd with ⟨x, w⟩ | ⟨x, w⟩
      ·rw [x]
       have : othN ll (nmL (llget ll i)) i ll.length = 0 := by omega
       rw [this]
       exact ⟨by decide, by decide, rfl, rfl⟩
      ·rw [x]
       refine ⟨by decide, by decide, rfl, ?_⟩
       unfold imin
       by_cases z : (2 : Int) < ((othN ll (nmL (llget ll i)) i ll.length : Nat) : Int)
       ·rw [if_pos z]; rfl
       ·rw [if_neg z]; show (2 : Int) = _; omega
     obtain ⟨m1, m3, m4, m5⟩ := hm
     obtain ⟨F, hF⟩ := la_l1 hB hN hi hr m1 m5 ⟨F0, hx⟩
     refine ⟨F + 1, start F (fun _ => ?_) (fun q => by rw [ine_false] at q; exact absurd q m1)⟩
     have c7 : ieq (ansH (exch1 ll i)) 3 = false := ieq_false.2 m3
     have c8 : ine (ofNat (llen ([] : List Int))) 0 = false := rfl
     have c9 : bnot (beq2 false false) = false := rfl
     rw [lans.k52_eq okR _ _ F 3983, lans.k51_eq okR _ _ F 3981, lans.k26_eq okR _ _ F 3976, lans.k25_eq okR _ _ F 3973, lans.k24_eq okR _ _ F 3969, lans.k23_eq okR _ _ F 3869]
     simp only [nat_cast, exchL_get hi, m4, c5, c6, c7, c8, c9, Bool.false_eq_true, Bool.true_eq_false, false_implies, forall_const, true_and, and_true]
     exact hF) ⟨0 + 1, by
   have e1 : ilt (ll.length : Int) (ofNat (llen ll)) = false := by rw [ilt_false, ofNat_def, llen_def]; omega
   rw [lans.l0_succ, lans.k110_eq okR _ _ 0 3993, e1, lans.k109_eq okR _ _ 0 3893]
   exact dr_ff okR_lit⟩ 0 (Nat.zero_le _)
  refine ⟨F + 1, ⟨?_⟩⟩
  have f1 : Fits (llen ll) 1000000000 := ⟨by rw [llen_def]; omega⟩
  have e2 : ine (ofNat (llen (exchL ll))) (ofNat (llen ll)) = false := by rw [ine_false, llen_def, llen_def, exchL_len]
  show callsx Try.prog gamD5 _ _ (F + 1) _ _ okR
  rw [lans_vc, lans.k116_eq okR _ F 3994, lans.k115_eq okR _ F 3990, lans.k114_eq okR _ F 3987, hg, lans.k113_eq okR _ F 3983, lans.k112_eq okR _ F 3978, lans.k111_eq okR _ F 3878, e2]
  exact ⟨hS, dr_ff ⟨f1, dr_ff hF⟩⟩
end Go.Proofs.Ytnpfockaigegiaa.G
namespace Go.Sx
open Go Go.ChangeShapes Go.WideShapes Go.ChangeAt Go.RowKit
inductive KF where
 | ks (l : List Kd)
 | recs (l : List Kd) (bytes : Nat)
def KF.width : KF → Nat
 | .ks l => Sx.width l
 | .recs _ _ => 1
structure RecsIn (w : World) (l : List Kd) (bytes : Nat) (A : Option Addr) (len cap : Nat) (L : Loc) (cols : List Col) : Prop where
 rep : VRep w L cols
 val : Value.slice A len cap = .slice L.a L.len L.cap
 kds : kdsOf cols = l
 wf : ∀ col ∈ cols, col.wf
 size : L.len * bytes ≤ reachBytes
def KF.at (w : World) (k : KF) (cs : List Value) (o : Nat) : Prop :=
 match k with
 | .ks l => KdsAt w l cs o
 | .recs l b => ∃ A len cap L cols, cs[o]? = some (.slice A len cap) ∧ RecsIn w l b A len cap L cols
def KFsAt (w : World) : List KF → List Value → Nat → Prop
 | [], _, _ => True
 | k :: r, cs, o => k.at w cs o ∧ KFsAt w r cs (o + k.width)
section
variable {H : Type} {enc : TypeId × Value → H} {P : Program} {w : World}
theorem KFsAt.recs {l : List Kd} {b : Nat} {r : List KF} {cs : List Value} {o : Nat} (h : KFsAt w (.recs l b :: r) cs o) : ∃ A len cap L cols, RecsIn w l b A len cap L cols ∧ cs.drop o = .slice A len cap :: cs.drop (o + 1) ∧ KFsAt w r cs (o + 1) := by
 obtain ⟨⟨A, len, cap, L, cols, h1, h2⟩, h4⟩ := h
 obtain ⟨hl, he⟩ := (List.getElem?_eq_some_iff.1 h1)
 exact ⟨A, len, cap, L, cols, h2, by rw [List.drop_eq_getElem_cons hl, he], h4⟩
theorem KFsAt.rows {q : IntKind} {r : List KF} {cs : List Value} {o : Nat} (h : KFsAt w (.ks [.rows q] :: r) cs o) : ∃ A L C Z, IsRow q w A L C Z ∧ Z.length ≤ reachBytes ∧ cs.drop o = .slice A L C :: cs.drop (o + 1) ∧ KFsAt w r cs (o + 1) := by
 obtain ⟨A, L, C, Z, h1, h2, h3, _⟩ := KdsAt.rows h.1
 exact ⟨A, L, C, Z, h1, h2, h3, h.2⟩
theorem KFsAt.ints {q : IntKind} {r : List KF} {cs : List Value} {o : Nat} (h : KFsAt w (.ks [.ints q] :: r) cs o) : ∃ n, (Lit.int q n).wf = true ∧ cs.drop o = .int q n :: cs.drop (o + 1) ∧ KFsAt w r cs (o + 1) := by
 obtain ⟨n, h1, h2, _⟩ := KdsAt.ints h.1
 exact ⟨n, h1, h2, h.2⟩
theorem KFsAt.bools {r : List KF} {cs : List Value} {o : Nat} (h : KFsAt w (.ks [.bools] :: r) cs o) : ∃ b, cs.drop o = .bool b :: cs.drop (o + 1) ∧ KFsAt w r cs (o + 1) := by
 obtain ⟨b, h1, _⟩ := KdsAt.bools h.1
 exact ⟨b, h1, h.2⟩
theorem KFsAt.arrs {q : IntKind} {m : Nat} {r : List KF} {cs : List Value} {o : Nat} (h : KFsAt w (.ks [.arrs q m] :: r) cs o) (hl : o + m ≤ cs.length) : ∃ l : List Int, l.length = m ∧ (∀ x ∈ l, (Lit.int q x).wf = true) ∧ cs.drop o = l.map (Value.int q) ++ cs.drop (o + m) ∧ KFsAt w r cs (o + m) := by
 obtain ⟨l, h1, h2, h3, _⟩ := KdsAt.arrs h.1 hl
 have e : (KF.ks [.arrs q m]).width = m := by simp [KF.width, Sx.width, Kd.width]
 have := h.2
 rw [e] at this
 exact ⟨l, h1, h2, h3, this⟩
theorem AggArgs.recs {j j' : Nat} {l : List Kd} {b : Nat} {A : Option Addr} {len cap : Nat} {L : Loc} {cols : List Col} {s : List Seg} {cs : List Value} {τ : Mem} (h : RecsIn w l b A len cap L cols) (t : AggArgs w (j + 1) s cs τ j') (hj : j < 1000 := by decide) :
  AggArgs w j (.cells [.vec (200000 + j)] :: s) (.slice A len cap :: cs) ((200000 + j, .rview cols) :: τ) j' := .row L cols hj h.rep h.val t (wf_noHss h.wf)
end
end Go.Sx
