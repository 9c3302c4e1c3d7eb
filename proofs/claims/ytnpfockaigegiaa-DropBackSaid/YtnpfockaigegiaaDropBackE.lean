import Derived.Test.YtnpfockaigegiaaDropBackD
import Derived.Test.YtnpfockaigegiaaProg
import Derived.Deep.Slices
set_option linter.unusedSimpArgs false
set_option linter.unusedVariables false
namespace Go.Proofs.Ytnpfockaigegiaa.G
open Go Go.Sx Go.Sx
set_option maxRecDepth 100000
def exch.k0 (R : AV → Mem → Prop) (x0 : Int) (ll : List (List Int)) (x1 : List (List Int × HS)) (j'4 : Nat) (off'5 : Nat) (y6 : List (List Int × HS)) (os'3 : List (List Int)) (fuel m : Nat) : Prop := runM Try.prog gamD1 [⟨9,[.rows .u8],true,false⟩,⟨777777,[],true,false⟩] (resh Try.prog [⟨9,[.rows .u8],true,false⟩,⟨777777,[],true,false⟩] Try.f12.results.toList R) (run Try.prog gamD1 [⟨9,[.rows .u8],true,false⟩,⟨777777,[],true,false⟩] (resh Try.prog [⟨9,[.rows .u8],true,false⟩,⟨777777,[],true,false⟩] Try.f12.results.toList R) fuel) m [ki Try.f12 [1,1,0,1,0,0],.inBlock 0,kc Try.f12 [1,1,1]] (Vv 200000::Uu::Uu::AV.one (AC.map 20)::Ii x0::AV.one (AC.el 200000 0 (nat x0))::AV.one (AC.ptr 6 0 0)::Uu::Ll true::(zs 4 (Uu::(zs 5 (Uu::Uu::Vv 200000::Ii (ofNat (llen ll))::Ii (add IntKind.i64 x0 1)::Ll true::Ii x0::AV.one (AC.vptr 200000 1 (nat x0) 0 0)::AV.one (AC.el 200000 0 (nat x0))::AV.tup [(TV.g [Seg.ints IntKind.u8 8 (lsub (llget ll (nat x0)) 0 8)]),TV.c (AC.esl 200000 0 (nat x0) 8 (nsub (llen (llget ll (nat x0))) 8)),TV.c (AC.lit true)]::AV.one (AC.el 200000 0 (nat x0))::AV.tup [(TV.g [Seg.ints IntKind.u8 8 (lsub (llget ll (nat x0)) 0 8)]),TV.c (AC.esl 200000 0 (nat x0) 8 (nsub (llen (llget ll (nat x0))) 8)),TV.c (AC.lit true)]::(AV.agg [Seg.ints IntKind.u8 8 (lsub (llget ll (nat x0)) 0 8)])::AV.one (AC.esl 200000 0 (nat x0) 8 (nsub (llen (llget ll (nat x0))) 8))::Ll true::Ll true::AV.one (AC.map 20)::(AV.agg [Seg.ints IntKind.u8 8 (lsub (llget ll (nat x0)) 0 8)])::AV.one (AC.hs IntKind.i64 (hj (mget (HS.mk 0 0 0) x1 (lsub (llget ll (nat x0)) 0 8))) (ho (mget (HS.mk 0 0 0) x1 (lsub (llget ll (nat x0)) 0 8))) (hl (mget (HS.mk 0 0 0) x1 (lsub (llget ll (nat x0)) 0 8))))::Ii x0::Vv 39::AV.tup [TV.c (AC.hs IntKind.i64 (hj (mget (HS.mk 0 0 0) x1 (lsub (llget ll (nat x0)) 0 8))) (ho (mget (HS.mk 0 0 0) x1 (lsub (llget ll (nat x0)) 0 8))) (hl (mget (HS.mk 0 0 0) x1 (lsub (llget ll (nat x0)) 0 8)))),TV.c (AC.int IntKind.i64 (ofNat (mix x1 (lsub (llget ll (nat x0)) 0 8))))]::AV.one (AC.hs IntKind.i64 j'4 off'5 (nadd (hl (mget (HS.mk 0 0 0) x1 (lsub (llget ll (nat x0)) 0 8))) (llen [x0])))::Ii (ofNat (mix x1 (lsub (llget ll (nat x0)) 0 8)))::Ii (add IntKind.i64 x0 1)::(zs 65 [])))))) [(6,Blk.own 35 [Seg.ints IntKind.u8 8 (lsub (llget ll (nat x0)) 0 8)]),(20,Blk.map (KK.arr IntKind.u8 8) (MVs.hss IntKind.i64 y6)),(39,Blk.vec [Col.ints IntKind.i64 [x0]]),(200000,Blk.rview [Col.rows IntKind.u8 ll]),(900003,Blk.heap IntKind.i64 os'3),(900004,Blk.heap IntKind.u8 [[]])]
def exch.k1 (R : AV → Mem → Prop) (x0 : Int) (ll : List (List Int)) (x1 : List (List Int × HS)) (j'4 : Nat) (off'5 : Nat) (os'3 : List (List Int)) (fuel m : Nat) : Prop := runM Try.prog gamD1 [⟨9,[.rows .u8],true,false⟩,⟨777777,[],true,false⟩] (resh Try.prog [⟨9,[.rows .u8],true,false⟩,⟨777777,[],true,false⟩] Try.f12.results.toList R) (run Try.prog gamD1 [⟨9,[.rows .u8],true,false⟩,⟨777777,[],true,false⟩] (resh Try.prog [⟨9,[.rows .u8],true,false⟩,⟨777777,[],true,false⟩] Try.f12.results.toList R) fuel) m [.inBlock 1,kc Try.f12 [1,1,0,1,0,0,1,1,1],ki Try.f12 [1,1,0,1,0,0],.inBlock 0,kc Try.f12 [1,1,1]] (Vv 200000::Uu::Uu::AV.one (AC.map 20)::Ii x0::AV.one (AC.el 200000 0 (nat x0))::AV.one (AC.ptr 6 0 0)::Uu::Ll true::(zs 4 (Uu::(zs 5 (Uu::Uu::Vv 200000::Ii (ofNat (llen ll))::Ii x0::Ll true::Ii x0::AV.one (AC.vptr 200000 1 (nat x0) 0 0)::AV.one (AC.el 200000 0 (nat x0))::AV.tup [(TV.g [Seg.ints IntKind.u8 8 (lsub (llget ll (nat x0)) 0 8)]),TV.c (AC.esl 200000 0 (nat x0) 8 (nsub (llen (llget ll (nat x0))) 8)),TV.c (AC.lit true)]::AV.one (AC.el 200000 0 (nat x0))::AV.tup [(TV.g [Seg.ints IntKind.u8 8 (lsub (llget ll (nat x0)) 0 8)]),TV.c (AC.esl 200000 0 (nat x0) 8 (nsub (llen (llget ll (nat x0))) 8)),TV.c (AC.lit true)]::(AV.agg [Seg.ints IntKind.u8 8 (lsub (llget ll (nat x0)) 0 8)])::AV.one (AC.esl 200000 0 (nat x0) 8 (nsub (llen (llget ll (nat x0))) 8))::Ll true::Ll true::AV.one (AC.map 20)::(AV.agg [Seg.ints IntKind.u8 8 (lsub (llget ll (nat x0)) 0 8)])::AV.one (AC.hs IntKind.i64 (hj (mget (HS.mk 0 0 0) x1 (lsub (llget ll (nat x0)) 0 8))) (ho (mget (HS.mk 0 0 0) x1 (lsub (llget ll (nat x0)) 0 8))) (hl (mget (HS.mk 0 0 0) x1 (lsub (llget ll (nat x0)) 0 8))))::Ii x0::Vv 39::AV.tup [TV.c (AC.hs IntKind.i64 (hj (mget (HS.mk 0 0 0) x1 (lsub (llget ll (nat x0)) 0 8))) (ho (mget (HS.mk 0 0 0) x1 (lsub (llget ll (nat x0)) 0 8))) (hl (mget (HS.mk 0 0 0) x1 (lsub (llget ll (nat x0)) 0 8)))),TV.c (AC.int IntKind.i64 (ofNat (mix x1 (lsub (llget ll (nat x0)) 0 8))))]::AV.one (AC.hs IntKind.i64 j'4 off'5 (nadd (hl (mget (HS.mk 0 0 0) x1 (lsub (llget ll (nat x0)) 0 8))) (llen [x0])))::Ii (ofNat (mix x1 (lsub (llget ll (nat x0)) 0 8)))::Uu::(zs 65 [])))))) [(6,Blk.own 35 [Seg.ints IntKind.u8 8 (lsub (llget ll (nat x0)) 0 8)]),(20,Blk.map (KK.arr IntKind.u8 8) (MVs.hss IntKind.i64 (mseti (ment (HS.mk 0 0 0) x1 (lsub (llget ll (nat x0)) 0 8)) (nat (ofNat (mix x1 (lsub (llget ll (nat x0)) 0 8)))) (HS.mk j'4 off'5 (nadd (hl (mget (HS.mk 0 0 0) x1 (lsub (llget ll (nat x0)) 0 8))) (llen [x0])))))),(39,Blk.vec [Col.ints IntKind.i64 [x0]]),(200000,Blk.rview [Col.rows IntKind.u8 ll]),(900003,Blk.heap IntKind.i64 os'3),(900004,Blk.heap IntKind.u8 [[]])]
def exch.k2 (R : AV → Mem → Prop) (x0 : Int) (ll : List (List Int)) (x1 : List (List Int × HS)) (x2 : List (List Int)) (fuel m : Nat) : Prop := runM Try.prog gamD1 [⟨9,[.rows .u8],true,false⟩,⟨777777,[],true,false⟩] (resh Try.prog [⟨9,[.rows .u8],true,false⟩,⟨777777,[],true,false⟩] Try.f12.results.toList R) (run Try.prog gamD1 [⟨9,[.rows .u8],true,false⟩,⟨777777,[],true,false⟩] (resh Try.prog [⟨9,[.rows .u8],true,false⟩,⟨777777,[],true,false⟩] Try.f12.results.toList R) fuel) m [kc Try.f12 [1,1,0,1,0,0,1,1,0,0,1,1,1,0],.inBlock 1,kc Try.f12 [1,1,0,1,0,0,1,1,1],ki Try.f12 [1,1,0,1,0,0],.inBlock 0,kc Try.f12 [1,1,1]] (Vv 200000::Uu::Uu::AV.one (AC.map 20)::Ii x0::AV.one (AC.el 200000 0 (nat x0))::AV.one (AC.ptr 6 0 0)::Uu::Ll true::(zs 4 (Uu::(zs 5 (Uu::Uu::Vv 200000::Ii (ofNat (llen ll))::Ii x0::Ll true::Ii x0::AV.one (AC.vptr 200000 1 (nat x0) 0 0)::AV.one (AC.el 200000 0 (nat x0))::AV.tup [(TV.g [Seg.ints IntKind.u8 8 (lsub (llget ll (nat x0)) 0 8)]),TV.c (AC.esl 200000 0 (nat x0) 8 (nsub (llen (llget ll (nat x0))) 8)),TV.c (AC.lit true)]::AV.one (AC.el 200000 0 (nat x0))::AV.tup [(TV.g [Seg.ints IntKind.u8 8 (lsub (llget ll (nat x0)) 0 8)]),TV.c (AC.esl 200000 0 (nat x0) 8 (nsub (llen (llget ll (nat x0))) 8)),TV.c (AC.lit true)]::(AV.agg [Seg.ints IntKind.u8 8 (lsub (llget ll (nat x0)) 0 8)])::AV.one (AC.esl 200000 0 (nat x0) 8 (nsub (llen (llget ll (nat x0))) 8))::Ll true::Ll true::(us 9 (zs 65 []))))))) [(6,Blk.own 35 [Seg.ints IntKind.u8 8 (lsub (llget ll (nat x0)) 0 8)]),(20,Blk.map (KK.arr IntKind.u8 8) (MVs.hss IntKind.i64 x1)),(200000,Blk.rview [Col.rows IntKind.u8 ll]),(900003,Blk.heap IntKind.i64 x2),(900004,Blk.heap IntKind.u8 [[]])]
def exch.k3 (R : AV → Mem → Prop) (x0 : Int) (ll : List (List Int)) (x1 : List (List Int × HS)) (x2 : List (List Int)) (fuel m : Nat) : Prop := runM Try.prog gamD1 [⟨9,[.rows .u8],true,false⟩,⟨777777,[],true,false⟩] (resh Try.prog [⟨9,[.rows .u8],true,false⟩,⟨777777,[],true,false⟩] Try.f12.results.toList R) (run Try.prog gamD1 [⟨9,[.rows .u8],true,false⟩,⟨777777,[],true,false⟩] (resh Try.prog [⟨9,[.rows .u8],true,false⟩,⟨777777,[],true,false⟩] Try.f12.results.toList R) fuel) m [ki Try.f12 [1,1,0,1,0,0],.inBlock 0,kc Try.f12 [1,1,1]] (Vv 200000::Uu::Uu::AV.one (AC.map 20)::Ii x0::AV.one (AC.el 200000 0 (nat x0))::AV.one (AC.ptr 6 0 0)::Uu::Ll false::(zs 4 (Uu::(zs 5 (Uu::Uu::Vv 200000::Ii (ofNat (llen ll))::Ii (add IntKind.i64 x0 1)::Ll true::Ii x0::AV.one (AC.vptr 200000 1 (nat x0) 0 0)::AV.one (AC.el 200000 0 (nat x0))::AV.tup [(TV.g [Seg.ints IntKind.u8 8 (lzeros 8)]),TV.c (AC.con (Value.slice (Option.none) 0 0)),TV.c (AC.lit false)]::AV.one (AC.el 200000 0 (nat x0))::AV.tup [(TV.g [Seg.ints IntKind.u8 8 (lzeros 8)]),TV.c (AC.con (Value.slice (Option.none) 0 0)),TV.c (AC.lit false)]::(AV.agg [Seg.ints IntKind.u8 8 (lzeros 8)])::AV.one (AC.con (Value.slice (Option.none) 0 0))::Ll false::Ll false::(us 8 (Ii (add IntKind.i64 x0 1)::(zs 65 [])))))))) [(6,Blk.own 35 [Seg.ints IntKind.u8 8 (lzeros 8)]),(20,Blk.map (KK.arr IntKind.u8 8) (MVs.hss IntKind.i64 x1)),(200000,Blk.rview [Col.rows IntKind.u8 ll]),(900003,Blk.heap IntKind.i64 x2),(900004,Blk.heap IntKind.u8 [[]])]
def exch.k4 (R : AV → Mem → Prop) (x0 : Int) (ll : List (List Int)) (x1 : List (List Int × HS)) (x2 : List (List Int)) (fuel m : Nat) : Prop := runM Try.prog gamD1 [⟨9,[.rows .u8],true,false⟩,⟨777777,[],true,false⟩] (resh Try.prog [⟨9,[.rows .u8],true,false⟩,⟨777777,[],true,false⟩] Try.f12.results.toList R) (run Try.prog gamD1 [⟨9,[.rows .u8],true,false⟩,⟨777777,[],true,false⟩] (resh Try.prog [⟨9,[.rows .u8],true,false⟩,⟨777777,[],true,false⟩] Try.f12.results.toList R) fuel) m [kc Try.f12 [1,1,0,1,0,0,1,1,0,0,1,1],.inBlock 1,kc Try.f12 [1,1,0,1,0,0,1,1,1],ki Try.f12 [1,1,0,1,0,0],.inBlock 0,kc Try.f12 [1,1,1]] (Vv 200000::Uu::Uu::AV.one (AC.map 20)::Ii x0::AV.one (AC.el 200000 0 (nat x0))::AV.one (AC.ptr 6 0 0)::AV.one (AC.con (Value.slice (Option.none) 0 0))::Ll false::(zs 4 (Uu::(zs 5 (Uu::Uu::Vv 200000::Ii (ofNat (llen ll))::Ii x0::Ll true::Ii x0::AV.one (AC.vptr 200000 1 (nat x0) 0 0)::AV.one (AC.el 200000 0 (nat x0))::AV.tup [(TV.g [Seg.ints IntKind.u8 8 (lzeros 8)]),TV.c (AC.con (Value.slice (Option.none) 0 0)),TV.c (AC.lit false)]::AV.one (AC.el 200000 0 (nat x0))::AV.tup [(TV.g [Seg.ints IntKind.u8 8 (lzeros 8)]),TV.c (AC.con (Value.slice (Option.none) 0 0)),TV.c (AC.lit false)]::(AV.agg [Seg.ints IntKind.u8 8 (lzeros 8)])::AV.one (AC.con (Value.slice (Option.none) 0 0))::Ll false::(us 10 (zs 65 []))))))) [(6,Blk.own 35 [Seg.ints IntKind.u8 8 (lzeros 8)]),(20,Blk.map (KK.arr IntKind.u8 8) (MVs.hss IntKind.i64 x1)),(200000,Blk.rview [Col.rows IntKind.u8 ll]),(900003,Blk.heap IntKind.i64 x2),(900004,Blk.heap IntKind.u8 [[]])]
def exch.k5 (R : AV → Mem → Prop) (x0 : Int) (ll : List (List Int)) (x1 : List (List Int × HS)) (x2 : List (List Int)) (fuel m : Nat) : Prop := runM Try.prog gamD1 [⟨9,[.rows .u8],true,false⟩,⟨777777,[],true,false⟩] (resh Try.prog [⟨9,[.rows .u8],true,false⟩,⟨777777,[],true,false⟩] Try.f12.results.toList R) (run Try.prog gamD1 [⟨9,[.rows .u8],true,false⟩,⟨777777,[],true,false⟩] (resh Try.prog [⟨9,[.rows .u8],true,false⟩,⟨777777,[],true,false⟩] Try.f12.results.toList R) fuel) m [kc Try.f12 [1,1,0,1,0,0,1,1,0,0,1],.inBlock 1,kc Try.f12 [1,1,0,1,0,0,1,1,1],ki Try.f12 [1,1,0,1,0,0],.inBlock 0,kc Try.f12 [1,1,1]] (Vv 200000::Uu::Uu::AV.one (AC.map 20)::Ii x0::AV.one (AC.el 200000 0 (nat x0))::Uu::Uu::Uu::(zs 4 (Uu::(zs 5 (Uu::Uu::Vv 200000::Ii (ofNat (llen ll))::Ii x0::Ll true::Ii x0::AV.one (AC.vptr 200000 1 (nat x0) 0 0)::AV.one (AC.el 200000 0 (nat x0))::(us 16 (zs 65 []))))))) [(20,Blk.map (KK.arr IntKind.u8 8) (MVs.hss IntKind.i64 x1)),(200000,Blk.rview [Col.rows IntKind.u8 ll]),(900003,Blk.heap IntKind.i64 x2),(900004,Blk.heap IntKind.u8 [[]])]
def exch.k6 (R : AV → Mem → Prop) (ll : List (List Int)) (x0 : Int) (x1 : List (List Int × HS)) (x2 : List (List Int)) (fuel m : Nat) : Prop := runM Try.prog gamD1 [⟨9,[.rows .u8],true,false⟩,⟨777777,[],true,false⟩] (resh Try.prog [⟨9,[.rows .u8],true,false⟩,⟨777777,[],true,false⟩] Try.f12.results.toList R) (run Try.prog gamD1 [⟨9,[.rows .u8],true,false⟩,⟨777777,[],true,false⟩] (resh Try.prog [⟨9,[.rows .u8],true,false⟩,⟨777777,[],true,false⟩] Try.f12.results.toList R) fuel) m [kc Try.f12 [1,1,0,1,0,0,1,0,0],kc Try.f12 [1,1,0,1,0,0,1,1],ki Try.f12 [1,1,0,1,0,0],.inBlock 0,kc Try.f12 [1,1,1]] (Vv 200000::Uu::Uu::AV.one (AC.map 20)::(us 5 (zs 4 (Uu::(zs 5 (Uu::Uu::Vv 200000::Ii (ofNat (llen ll))::Ii x0::Ll true::(us 19 (zs 65 [])))))))) [(20,Blk.map (KK.arr IntKind.u8 8) (MVs.hss IntKind.i64 x1)),(200000,Blk.rview [Col.rows IntKind.u8 ll]),(900003,Blk.heap IntKind.i64 x2),(900004,Blk.heap IntKind.u8 [[]])]
def exch.k7 (R : AV → Mem → Prop) (x7 : Int) (x1 : List (List Int × HS)) (ll x9 : List (List Int)) (x8 : List HS) (x2 : List (List Int)) (fuel m : Nat) : Prop := runM Try.prog gamD1 [⟨9,[.rows .u8],true,false⟩,⟨777777,[],true,false⟩] (resh Try.prog [⟨9,[.rows .u8],true,false⟩,⟨777777,[],true,false⟩] Try.f12.results.toList R) (run Try.prog gamD1 [⟨9,[.rows .u8],true,false⟩,⟨777777,[],true,false⟩] (resh Try.prog [⟨9,[.rows .u8],true,false⟩,⟨777777,[],true,false⟩] Try.f12.results.toList R) fuel) m [ki Try.f12 [1,1,1,1,0,1,0,0],.inBlock 2,kc Try.f12 [1,1,1,1,1]] (Vv 200000::Uu::Uu::AV.one (AC.map 20)::(us 5 (Vv 80::Ii x7::AV.one (AC.el 200000 0 (nat x7))::AV.one (AC.ptr 12 0 0)::Uu::Ll true::AV.one (AC.hs IntKind.i64 (hj (mget (HS.mk 0 0 0) x1 (lsub (llget ll (nat x7)) 0 8))) (ho (mget (HS.mk 0 0 0) x1 (lsub (llget ll (nat x7)) 0 8))) (hl (mget (HS.mk 0 0 0) x1 (lsub (llget ll (nat x7)) 0 8))))::(us 31 (Vv 200000::Ii (ofNat (llen ll))::Ii (add IntKind.i64 x7 1)::Ll true::Ii x7::AV.one (AC.vptr 200000 1 (nat x7) 0 0)::AV.one (AC.el 200000 0 (nat x7))::AV.tup [(TV.g [Seg.ints IntKind.u8 8 (lsub (llget ll (nat x7)) 0 8)]),TV.c (AC.esl 200000 0 (nat x7) 8 (nsub (llen (llget ll (nat x7))) 8)),TV.c (AC.lit true)]::AV.one (AC.el 200000 0 (nat x7))::AV.tup [(TV.g [Seg.ints IntKind.u8 8 (lsub (llget ll (nat x7)) 0 8)]),TV.c (AC.esl 200000 0 (nat x7) 8 (nsub (llen (llget ll (nat x7))) 8)),TV.c (AC.lit true)]::(AV.agg [Seg.ints IntKind.u8 8 (lsub (llget ll (nat x7)) 0 8)])::AV.one (AC.esl 200000 0 (nat x7) 8 (nsub (llen (llget ll (nat x7))) 8))::Ll true::Ll true::Ll false::(us 4 (AV.one (AC.map 20)::(AV.agg [Seg.ints IntKind.u8 8 (lsub (llget ll (nat x7)) 0 8)])::AV.one (AC.hs IntKind.i64 (hj (mget (HS.mk 0 0 0) x1 (lsub (llget ll (nat x7)) 0 8))) (ho (mget (HS.mk 0 0 0) x1 (lsub (llget ll (nat x7)) 0 8))) (hl (mget (HS.mk 0 0 0) x1 (lsub (llget ll (nat x7)) 0 8))))::AV.one (AC.hs IntKind.i64 (hj (mget (HS.mk 0 0 0) x1 (lsub (llget ll (nat x7)) 0 8))) (ho (mget (HS.mk 0 0 0) x1 (lsub (llget ll (nat x7)) 0 8))) (hl (mget (HS.mk 0 0 0) x1 (lsub (llget ll (nat x7)) 0 8))))::Ii (ofNat (hl (mget (HS.mk 0 0 0) x1 (lsub (llget ll (nat x7)) 0 8))))::(us 4 (Ll true::Bb (ieq (ofNat (hl (mget (HS.mk 0 0 0) x1 (lsub (llget ll (nat x7)) 0 8)))) 1)::Vv 100009::AV.one (AC.hs IntKind.u8 (llen x9) 0 1)::Vv 79::Vv 80::(us 26 [Ii (add IntKind.i64 x7 1),Zz])))))))))) [(12,Blk.own 35 [Seg.ints IntKind.u8 8 (lsub (llget ll (nat x7)) 0 8)]),(20,Blk.map (KK.arr IntKind.u8 8) (MVs.hss IntKind.i64 x1)),(79,Blk.vec [Col.hss IntKind.u8 [(HS.mk (llen x9) 0 1)]]),(80,Blk.vec [Col.hss IntKind.u8 (lcat x8 [(HS.mk (llen x9) 0 1)])]),(200000,Blk.rview [Col.rows IntKind.u8 ll]),(900003,Blk.heap IntKind.i64 x2),(900004,Blk.heap IntKind.u8 (List.append x9 [[0]]))]
def exch.k8 (R : AV → Mem → Prop) (x7 : Int) (x1 : List (List Int × HS)) (ll : List (List Int)) (x8 : List HS) (x2 x9 : List (List Int)) (fuel m : Nat) : Prop := runM Try.prog gamD1 [⟨9,[.rows .u8],true,false⟩,⟨777777,[],true,false⟩] (resh Try.prog [⟨9,[.rows .u8],true,false⟩,⟨777777,[],true,false⟩] Try.f12.results.toList R) (run Try.prog gamD1 [⟨9,[.rows .u8],true,false⟩,⟨777777,[],true,false⟩] (resh Try.prog [⟨9,[.rows .u8],true,false⟩,⟨777777,[],true,false⟩] Try.f12.results.toList R) fuel) m [kc Try.f12 [1,1,1,1,0,1,0,0,1,1,0,0,1,1,1,1,1,0,1,0],.inBlock 4,.inBlock 3,kc Try.f12 [1,1,1,1,0,1,0,0,1,1,1],ki Try.f12 [1,1,1,1,0,1,0,0],.inBlock 2,kc Try.f12 [1,1,1,1,1]] (Vv 200000::Uu::Uu::AV.one (AC.map 20)::(us 5 (Vv 100009::Ii x7::AV.one (AC.el 200000 0 (nat x7))::AV.one (AC.ptr 12 0 0)::Uu::Ll true::AV.one (AC.hs IntKind.i64 (hj (mget (HS.mk 0 0 0) x1 (lsub (llget ll (nat x7)) 0 8))) (ho (mget (HS.mk 0 0 0) x1 (lsub (llget ll (nat x7)) 0 8))) (hl (mget (HS.mk 0 0 0) x1 (lsub (llget ll (nat x7)) 0 8))))::(us 31 (Vv 200000::Ii (ofNat (llen ll))::Ii x7::Ll true::Ii x7::AV.one (AC.vptr 200000 1 (nat x7) 0 0)::AV.one (AC.el 200000 0 (nat x7))::AV.tup [(TV.g [Seg.ints IntKind.u8 8 (lsub (llget ll (nat x7)) 0 8)]),TV.c (AC.esl 200000 0 (nat x7) 8 (nsub (llen (llget ll (nat x7))) 8)),TV.c (AC.lit true)]::AV.one (AC.el 200000 0 (nat x7))::AV.tup [(TV.g [Seg.ints IntKind.u8 8 (lsub (llget ll (nat x7)) 0 8)]),TV.c (AC.esl 200000 0 (nat x7) 8 (nsub (llen (llget ll (nat x7))) 8)),TV.c (AC.lit true)]::(AV.agg [Seg.ints IntKind.u8 8 (lsub (llget ll (nat x7)) 0 8)])::AV.one (AC.esl 200000 0 (nat x7) 8 (nsub (llen (llget ll (nat x7))) 8))::Ll true::Ll true::Ll false::(us 4 (AV.one (AC.map 20)::(AV.agg [Seg.ints IntKind.u8 8 (lsub (llget ll (nat x7)) 0 8)])::AV.one (AC.hs IntKind.i64 (hj (mget (HS.mk 0 0 0) x1 (lsub (llget ll (nat x7)) 0 8))) (ho (mget (HS.mk 0 0 0) x1 (lsub (llget ll (nat x7)) 0 8))) (hl (mget (HS.mk 0 0 0) x1 (lsub (llget ll (nat x7)) 0 8))))::AV.one (AC.hs IntKind.i64 (hj (mget (HS.mk 0 0 0) x1 (lsub (llget ll (nat x7)) 0 8))) (ho (mget (HS.mk 0 0 0) x1 (lsub (llget ll (nat x7)) 0 8))) (hl (mget (HS.mk 0 0 0) x1 (lsub (llget ll (nat x7)) 0 8))))::Ii (ofNat (hl (mget (HS.mk 0 0 0) x1 (lsub (llget ll (nat x7)) 0 8))))::(us 4 (Ll true::Bb (ieq (ofNat (hl (mget (HS.mk 0 0 0) x1 (lsub (llget ll (nat x7)) 0 8)))) 1)::(us 31 [Zz])))))))))) [(12,Blk.own 35 [Seg.ints IntKind.u8 8 (lsub (llget ll (nat x7)) 0 8)]),(20,Blk.map (KK.arr IntKind.u8 8) (MVs.hss IntKind.i64 x1)),(100009,Blk.vec [Col.hss IntKind.u8 x8]),(200000,Blk.rview [Col.rows IntKind.u8 ll]),(900003,Blk.heap IntKind.i64 x2),(900004,Blk.heap IntKind.u8 x9)]
def exch.k9 (R : AV → Mem → Prop) (x7 : Int) (x1 : List (List Int × HS)) (ll : List (List Int)) (y10 y11 y12 y13 : Int) (x9 : List (List Int)) (y14 y15 : List HS) (x2 : List (List Int)) (fuel m : Nat) : Prop := runM Try.prog gamD1 [⟨9,[.rows .u8],true,false⟩,⟨777777,[],true,false⟩] (resh Try.prog [⟨9,[.rows .u8],true,false⟩,⟨777777,[],true,false⟩] Try.f12.results.toList R) (run Try.prog gamD1 [⟨9,[.rows .u8],true,false⟩,⟨777777,[],true,false⟩] (resh Try.prog [⟨9,[.rows .u8],true,false⟩,⟨777777,[],true,false⟩] Try.f12.results.toList R) fuel) m [ki Try.f12 [1,1,1,1,0,1,0,0],.inBlock 2,kc Try.f12 [1,1,1,1,1]] (Vv 200000::Uu::Uu::AV.one (AC.map 20)::(us 5 (Vv 106::Ii x7::AV.one (AC.el 200000 0 (nat x7))::AV.one (AC.ptr 12 0 0)::Uu::Ll true::AV.one (AC.hs IntKind.i64 (hj (mget (HS.mk 0 0 0) x1 (lsub (llget ll (nat x7)) 0 8))) (ho (mget (HS.mk 0 0 0) x1 (lsub (llget ll (nat x7)) 0 8))) (hl (mget (HS.mk 0 0 0) x1 (lsub (llget ll (nat x7)) 0 8))))::Ii y10::AV.one (AC.ptr 17 0 0)::AV.one (AC.esl 200000 0 (nat y10) 8 (nsub (llen (llget ll (nat y10))) 8))::Ll true::(us 27 (Vv 200000::Ii (ofNat (llen ll))::Ii (add IntKind.i64 x7 1)::Ll true::Ii x7::AV.one (AC.vptr 200000 1 (nat x7) 0 0)::AV.one (AC.el 200000 0 (nat x7))::AV.tup [(TV.g [Seg.ints IntKind.u8 8 (lsub (llget ll (nat x7)) 0 8)]),TV.c (AC.esl 200000 0 (nat x7) 8 (nsub (llen (llget ll (nat x7))) 8)),TV.c (AC.lit true)]::AV.one (AC.el 200000 0 (nat x7))::AV.tup [(TV.g [Seg.ints IntKind.u8 8 (lsub (llget ll (nat x7)) 0 8)]),TV.c (AC.esl 200000 0 (nat x7) 8 (nsub (llen (llget ll (nat x7))) 8)),TV.c (AC.lit true)]::(AV.agg [Seg.ints IntKind.u8 8 (lsub (llget ll (nat x7)) 0 8)])::AV.one (AC.esl 200000 0 (nat x7) 8 (nsub (llen (llget ll (nat x7))) 8))::Ll true::Ll true::Ll false::(us 4 (AV.one (AC.map 20)::(AV.agg [Seg.ints IntKind.u8 8 (lsub (llget ll (nat x7)) 0 8)])::AV.one (AC.hs IntKind.i64 (hj (mget (HS.mk 0 0 0) x1 (lsub (llget ll (nat x7)) 0 8))) (ho (mget (HS.mk 0 0 0) x1 (lsub (llget ll (nat x7)) 0 8))) (hl (mget (HS.mk 0 0 0) x1 (lsub (llget ll (nat x7)) 0 8))))::AV.one (AC.hs IntKind.i64 (hj (mget (HS.mk 0 0 0) x1 (lsub (llget ll (nat x7)) 0 8))) (ho (mget (HS.mk 0 0 0) x1 (lsub (llget ll (nat x7)) 0 8))) (hl (mget (HS.mk 0 0 0) x1 (lsub (llget ll (nat x7)) 0 8))))::Ii (ofNat (hl (mget (HS.mk 0 0 0) x1 (lsub (llget ll (nat x7)) 0 8))))::(us 4 (Ll false::Bb (ieq (ofNat (hl (mget (HS.mk 0 0 0) x1 (lsub (llget ll (nat x7)) 0 8)))) 1)::(us 4 [Ll true,Bb (ieq (ofNat (hl (mget (HS.mk 0 0 0) x1 (lsub (llget ll (nat x7)) 0 8)))) 2),AV.one (AC.hs IntKind.i64 (hj (mget (HS.mk 0 0 0) x1 (lsub (llget ll (nat x7)) 0 8))) (ho (mget (HS.mk 0 0 0) x1 (lsub (llget ll (nat x7)) 0 8))) (hl (mget (HS.mk 0 0 0) x1 (lsub (llget ll (nat x7)) 0 8)))),AV.one (AC.hp IntKind.i64 (hj (mget (HS.mk 0 0 0) x1 (lsub (llget ll (nat x7)) 0 8))) (nadd (ho (mget (HS.mk 0 0 0) x1 (lsub (llget ll (nat x7)) 0 8))) 0)),Ii y11,AV.one (AC.hs IntKind.i64 (hj (mget (HS.mk 0 0 0) x1 (lsub (llget ll (nat x7)) 0 8))) (ho (mget (HS.mk 0 0 0) x1 (lsub (llget ll (nat x7)) 0 8))) (hl (mget (HS.mk 0 0 0) x1 (lsub (llget ll (nat x7)) 0 8)))),AV.one (AC.hp IntKind.i64 (hj (mget (HS.mk 0 0 0) x1 (lsub (llget ll (nat x7)) 0 8))) (nadd (ho (mget (HS.mk 0 0 0) x1 (lsub (llget ll (nat x7)) 0 8))) 1)),Ii y12,Ii y13,Ii x7,Ii y10,AV.tup [(TV.g [Seg.ints IntKind.u8 8 (lsub (llget ll (nat y10)) 0 8)]),TV.c (AC.esl 200000 0 (nat y10) 8 (nsub (llen (llget ll (nat y10))) 8)),TV.c (AC.lit true)],Vv 200000,Ii y10,AV.one (AC.vptr 200000 1 (nat y10) 0 0),AV.one (AC.el 200000 0 (nat y10)),AV.tup [(TV.g [Seg.ints IntKind.u8 8 (lsub (llget ll (nat y10)) 0 8)]),TV.c (AC.esl 200000 0 (nat y10) 8 (nsub (llen (llget ll (nat y10))) 8)),TV.c (AC.lit true)],(AV.agg [Seg.ints IntKind.u8 8 (lsub (llget ll (nat y10)) 0 8)]),AV.one (AC.esl 200000 0 (nat y10) 8 (nsub (llen (llget ll (nat y10))) 8)),Ll true,Vv 100009,Vv 102,AV.one (AC.esl 200000 0 (nat y10) 8 (nsub (llen (llget ll (nat y10))) 8)),AV.one (AC.hs IntKind.u8 (llen x9) 0 (llen (lcat [1] (lsub (llget ll (nat y10)) 8 (nsub (llen (llget ll (nat y10))) 8))))),Vv 105,Vv 106,Ii (add IntKind.i64 x7 1),Zz])))))))))) [(12,Blk.own 35 [Seg.ints IntKind.u8 8 (lsub (llget ll (nat x7)) 0 8)]),(17,Blk.own 35 [Seg.ints IntKind.u8 8 (lsub (llget ll (nat y10)) 0 8)]),(20,Blk.map (KK.arr IntKind.u8 8) (MVs.hss IntKind.i64 x1)),(105,Blk.vec [Col.hss IntKind.u8 y14]),(106,Blk.vec [Col.hss IntKind.u8 y15]),(200000,Blk.rview [Col.rows IntKind.u8 ll]),(900003,Blk.heap IntKind.i64 x2),(900004,Blk.heap IntKind.u8 (List.append x9 [(lcat [1] (lsub (llget ll (nat y10)) 8 (nsub (llen (llget ll (nat y10))) 8)))]))]
def exch.k10 (R : AV → Mem → Prop) (x7 : Int) (x1 : List (List Int × HS)) (ll : List (List Int)) (y10 y11 y12 y13 : Int) (x9 : List (List Int)) (x8 : List HS) (x2 : List (List Int)) (fuel m : Nat) : Prop := runM Try.prog gamD1 [⟨9,[.rows .u8],true,false⟩,⟨777777,[],true,false⟩] (resh Try.prog [⟨9,[.rows .u8],true,false⟩,⟨777777,[],true,false⟩] Try.f12.results.toList R) (run Try.prog gamD1 [⟨9,[.rows .u8],true,false⟩,⟨777777,[],true,false⟩] (resh Try.prog [⟨9,[.rows .u8],true,false⟩,⟨777777,[],true,false⟩] Try.f12.results.toList R) fuel) m [.inBlock 4,.inBlock 3,kc Try.f12 [1,1,1,1,0,1,0,0,1,1,1],ki Try.f12 [1,1,1,1,0,1,0,0],.inBlock 2,kc Try.f12 [1,1,1,1,1]] (Vv 200000::Uu::Uu::AV.one (AC.map 20)::(us 5 (Vv 106::Ii x7::AV.one (AC.el 200000 0 (nat x7))::AV.one (AC.ptr 12 0 0)::Uu::Ll true::AV.one (AC.hs IntKind.i64 (hj (mget (HS.mk 0 0 0) x1 (lsub (llget ll (nat x7)) 0 8))) (ho (mget (HS.mk 0 0 0) x1 (lsub (llget ll (nat x7)) 0 8))) (hl (mget (HS.mk 0 0 0) x1 (lsub (llget ll (nat x7)) 0 8))))::Ii y10::AV.one (AC.ptr 17 0 0)::AV.one (AC.esl 200000 0 (nat y10) 8 (nsub (llen (llget ll (nat y10))) 8))::Ll true::(us 27 (Vv 200000::Ii (ofNat (llen ll))::Ii x7::Ll true::Ii x7::AV.one (AC.vptr 200000 1 (nat x7) 0 0)::AV.one (AC.el 200000 0 (nat x7))::AV.tup [(TV.g [Seg.ints IntKind.u8 8 (lsub (llget ll (nat x7)) 0 8)]),TV.c (AC.esl 200000 0 (nat x7) 8 (nsub (llen (llget ll (nat x7))) 8)),TV.c (AC.lit true)]::AV.one (AC.el 200000 0 (nat x7))::AV.tup [(TV.g [Seg.ints IntKind.u8 8 (lsub (llget ll (nat x7)) 0 8)]),TV.c (AC.esl 200000 0 (nat x7) 8 (nsub (llen (llget ll (nat x7))) 8)),TV.c (AC.lit true)]::(AV.agg [Seg.ints IntKind.u8 8 (lsub (llget ll (nat x7)) 0 8)])::AV.one (AC.esl 200000 0 (nat x7) 8 (nsub (llen (llget ll (nat x7))) 8))::Ll true::Ll true::Ll false::(us 4 (AV.one (AC.map 20)::(AV.agg [Seg.ints IntKind.u8 8 (lsub (llget ll (nat x7)) 0 8)])::AV.one (AC.hs IntKind.i64 (hj (mget (HS.mk 0 0 0) x1 (lsub (llget ll (nat x7)) 0 8))) (ho (mget (HS.mk 0 0 0) x1 (lsub (llget ll (nat x7)) 0 8))) (hl (mget (HS.mk 0 0 0) x1 (lsub (llget ll (nat x7)) 0 8))))::AV.one (AC.hs IntKind.i64 (hj (mget (HS.mk 0 0 0) x1 (lsub (llget ll (nat x7)) 0 8))) (ho (mget (HS.mk 0 0 0) x1 (lsub (llget ll (nat x7)) 0 8))) (hl (mget (HS.mk 0 0 0) x1 (lsub (llget ll (nat x7)) 0 8))))::Ii (ofNat (hl (mget (HS.mk 0 0 0) x1 (lsub (llget ll (nat x7)) 0 8))))::(us 4 (Ll false::Bb (ieq (ofNat (hl (mget (HS.mk 0 0 0) x1 (lsub (llget ll (nat x7)) 0 8)))) 1)::(us 4 [Ll true,Bb (ieq (ofNat (hl (mget (HS.mk 0 0 0) x1 (lsub (llget ll (nat x7)) 0 8)))) 2),AV.one (AC.hs IntKind.i64 (hj (mget (HS.mk 0 0 0) x1 (lsub (llget ll (nat x7)) 0 8))) (ho (mget (HS.mk 0 0 0) x1 (lsub (llget ll (nat x7)) 0 8))) (hl (mget (HS.mk 0 0 0) x1 (lsub (llget ll (nat x7)) 0 8)))),AV.one (AC.hp IntKind.i64 (hj (mget (HS.mk 0 0 0) x1 (lsub (llget ll (nat x7)) 0 8))) (nadd (ho (mget (HS.mk 0 0 0) x1 (lsub (llget ll (nat x7)) 0 8))) 0)),Ii y11,AV.one (AC.hs IntKind.i64 (hj (mget (HS.mk 0 0 0) x1 (lsub (llget ll (nat x7)) 0 8))) (ho (mget (HS.mk 0 0 0) x1 (lsub (llget ll (nat x7)) 0 8))) (hl (mget (HS.mk 0 0 0) x1 (lsub (llget ll (nat x7)) 0 8)))),AV.one (AC.hp IntKind.i64 (hj (mget (HS.mk 0 0 0) x1 (lsub (llget ll (nat x7)) 0 8))) (nadd (ho (mget (HS.mk 0 0 0) x1 (lsub (llget ll (nat x7)) 0 8))) 1)),Ii y12,Ii y13,Ii x7,Ii y10,AV.tup [(TV.g [Seg.ints IntKind.u8 8 (lsub (llget ll (nat y10)) 0 8)]),TV.c (AC.esl 200000 0 (nat y10) 8 (nsub (llen (llget ll (nat y10))) 8)),TV.c (AC.lit true)],Vv 200000,Ii y10,AV.one (AC.vptr 200000 1 (nat y10) 0 0),AV.one (AC.el 200000 0 (nat y10)),AV.tup [(TV.g [Seg.ints IntKind.u8 8 (lsub (llget ll (nat y10)) 0 8)]),TV.c (AC.esl 200000 0 (nat y10) 8 (nsub (llen (llget ll (nat y10))) 8)),TV.c (AC.lit true)],(AV.agg [Seg.ints IntKind.u8 8 (lsub (llget ll (nat y10)) 0 8)]),AV.one (AC.esl 200000 0 (nat y10) 8 (nsub (llen (llget ll (nat y10))) 8)),Ll true,Vv 100009,Vv 102,AV.one (AC.esl 200000 0 (nat y10) 8 (nsub (llen (llget ll (nat y10))) 8)),AV.one (AC.hs IntKind.u8 (llen x9) 0 (llen (lcat [1] (lsub (llget ll (nat y10)) 8 (nsub (llen (llget ll (nat y10))) 8))))),Vv 105,Vv 106,Uu,Zz])))))))))) [(12,Blk.own 35 [Seg.ints IntKind.u8 8 (lsub (llget ll (nat x7)) 0 8)]),(17,Blk.own 35 [Seg.ints IntKind.u8 8 (lsub (llget ll (nat y10)) 0 8)]),(20,Blk.map (KK.arr IntKind.u8 8) (MVs.hss IntKind.i64 x1)),(105,Blk.vec [Col.hss IntKind.u8 [(HS.mk (llen x9) 0 (llen (lcat [1] (lsub (llget ll (nat y10)) 8 (nsub (llen (llget ll (nat y10))) 8)))))]]),(106,Blk.vec [Col.hss IntKind.u8 (lcat x8 [(HS.mk (llen x9) 0 (llen (lcat [1] (lsub (llget ll (nat y10)) 8 (nsub (llen (llget ll (nat y10))) 8)))))])]),(200000,Blk.rview [Col.rows IntKind.u8 ll]),(900003,Blk.heap IntKind.i64 x2),(900004,Blk.heap IntKind.u8 (List.append x9 [(lcat [1] (lsub (llget ll (nat y10)) 8 (nsub (llen (llget ll (nat y10))) 8)))]))]
def exch.k11 (R : AV → Mem → Prop) (x7 : Int) (x1 : List (List Int × HS)) (ll : List (List Int)) (y10 y11 y12 y13 : Int) (x8 : List HS) (x2 x9 : List (List Int)) (fuel m : Nat) : Prop := runM Try.prog gamD1 [⟨9,[.rows .u8],true,false⟩,⟨777777,[],true,false⟩] (resh Try.prog [⟨9,[.rows .u8],true,false⟩,⟨777777,[],true,false⟩] Try.f12.results.toList R) (run Try.prog gamD1 [⟨9,[.rows .u8],true,false⟩,⟨777777,[],true,false⟩] (resh Try.prog [⟨9,[.rows .u8],true,false⟩,⟨777777,[],true,false⟩] Try.f12.results.toList R) fuel) m [kc Try.f12 [1,1,1,1,0,1,0,0,1,1,0,0,1,1,1,1,1,0,1,1,1,0,1,1],.inBlock 4,.inBlock 3,kc Try.f12 [1,1,1,1,0,1,0,0,1,1,1],ki Try.f12 [1,1,1,1,0,1,0,0],.inBlock 2,kc Try.f12 [1,1,1,1,1]] (Vv 200000::Uu::Uu::AV.one (AC.map 20)::(us 5 (Vv 100009::Ii x7::AV.one (AC.el 200000 0 (nat x7))::AV.one (AC.ptr 12 0 0)::Uu::Ll true::AV.one (AC.hs IntKind.i64 (hj (mget (HS.mk 0 0 0) x1 (lsub (llget ll (nat x7)) 0 8))) (ho (mget (HS.mk 0 0 0) x1 (lsub (llget ll (nat x7)) 0 8))) (hl (mget (HS.mk 0 0 0) x1 (lsub (llget ll (nat x7)) 0 8))))::Ii y10::AV.one (AC.ptr 17 0 0)::AV.one (AC.esl 200000 0 (nat y10) 8 (nsub (llen (llget ll (nat y10))) 8))::Ll true::(us 27 (Vv 200000::Ii (ofNat (llen ll))::Ii x7::Ll true::Ii x7::AV.one (AC.vptr 200000 1 (nat x7) 0 0)::AV.one (AC.el 200000 0 (nat x7))::AV.tup [(TV.g [Seg.ints IntKind.u8 8 (lsub (llget ll (nat x7)) 0 8)]),TV.c (AC.esl 200000 0 (nat x7) 8 (nsub (llen (llget ll (nat x7))) 8)),TV.c (AC.lit true)]::AV.one (AC.el 200000 0 (nat x7))::AV.tup [(TV.g [Seg.ints IntKind.u8 8 (lsub (llget ll (nat x7)) 0 8)]),TV.c (AC.esl 200000 0 (nat x7) 8 (nsub (llen (llget ll (nat x7))) 8)),TV.c (AC.lit true)]::(AV.agg [Seg.ints IntKind.u8 8 (lsub (llget ll (nat x7)) 0 8)])::AV.one (AC.esl 200000 0 (nat x7) 8 (nsub (llen (llget ll (nat x7))) 8))::Ll true::Ll true::Ll false::(us 4 (AV.one (AC.map 20)::(AV.agg [Seg.ints IntKind.u8 8 (lsub (llget ll (nat x7)) 0 8)])::AV.one (AC.hs IntKind.i64 (hj (mget (HS.mk 0 0 0) x1 (lsub (llget ll (nat x7)) 0 8))) (ho (mget (HS.mk 0 0 0) x1 (lsub (llget ll (nat x7)) 0 8))) (hl (mget (HS.mk 0 0 0) x1 (lsub (llget ll (nat x7)) 0 8))))::AV.one (AC.hs IntKind.i64 (hj (mget (HS.mk 0 0 0) x1 (lsub (llget ll (nat x7)) 0 8))) (ho (mget (HS.mk 0 0 0) x1 (lsub (llget ll (nat x7)) 0 8))) (hl (mget (HS.mk 0 0 0) x1 (lsub (llget ll (nat x7)) 0 8))))::Ii (ofNat (hl (mget (HS.mk 0 0 0) x1 (lsub (llget ll (nat x7)) 0 8))))::(us 4 (Ll false::Bb (ieq (ofNat (hl (mget (HS.mk 0 0 0) x1 (lsub (llget ll (nat x7)) 0 8)))) 1)::(us 4 (Ll true::Bb (ieq (ofNat (hl (mget (HS.mk 0 0 0) x1 (lsub (llget ll (nat x7)) 0 8)))) 2)::AV.one (AC.hs IntKind.i64 (hj (mget (HS.mk 0 0 0) x1 (lsub (llget ll (nat x7)) 0 8))) (ho (mget (HS.mk 0 0 0) x1 (lsub (llget ll (nat x7)) 0 8))) (hl (mget (HS.mk 0 0 0) x1 (lsub (llget ll (nat x7)) 0 8))))::AV.one (AC.hp IntKind.i64 (hj (mget (HS.mk 0 0 0) x1 (lsub (llget ll (nat x7)) 0 8))) (nadd (ho (mget (HS.mk 0 0 0) x1 (lsub (llget ll (nat x7)) 0 8))) 0))::Ii y11::AV.one (AC.hs IntKind.i64 (hj (mget (HS.mk 0 0 0) x1 (lsub (llget ll (nat x7)) 0 8))) (ho (mget (HS.mk 0 0 0) x1 (lsub (llget ll (nat x7)) 0 8))) (hl (mget (HS.mk 0 0 0) x1 (lsub (llget ll (nat x7)) 0 8))))::AV.one (AC.hp IntKind.i64 (hj (mget (HS.mk 0 0 0) x1 (lsub (llget ll (nat x7)) 0 8))) (nadd (ho (mget (HS.mk 0 0 0) x1 (lsub (llget ll (nat x7)) 0 8))) 1))::Ii y12::Ii y13::Ii x7::Ii y10::AV.tup [(TV.g [Seg.ints IntKind.u8 8 (lsub (llget ll (nat y10)) 0 8)]),TV.c (AC.esl 200000 0 (nat y10) 8 (nsub (llen (llget ll (nat y10))) 8)),TV.c (AC.lit true)]::Vv 200000::Ii y10::AV.one (AC.vptr 200000 1 (nat y10) 0 0)::AV.one (AC.el 200000 0 (nat y10))::AV.tup [(TV.g [Seg.ints IntKind.u8 8 (lsub (llget ll (nat y10)) 0 8)]),TV.c (AC.esl 200000 0 (nat y10) 8 (nsub (llen (llget ll (nat y10))) 8)),TV.c (AC.lit true)]::(AV.agg [Seg.ints IntKind.u8 8 (lsub (llget ll (nat y10)) 0 8)])::AV.one (AC.esl 200000 0 (nat y10) 8 (nsub (llen (llget ll (nat y10))) 8))::Ll true::(us 7 [Zz])))))))))))) [(12,Blk.own 35 [Seg.ints IntKind.u8 8 (lsub (llget ll (nat x7)) 0 8)]),(17,Blk.own 35 [Seg.ints IntKind.u8 8 (lsub (llget ll (nat y10)) 0 8)]),(20,Blk.map (KK.arr IntKind.u8 8) (MVs.hss IntKind.i64 x1)),(100009,Blk.vec [Col.hss IntKind.u8 x8]),(200000,Blk.rview [Col.rows IntKind.u8 ll]),(900003,Blk.heap IntKind.i64 x2),(900004,Blk.heap IntKind.u8 x9)]
def exch.k12 (R : AV → Mem → Prop) (x7 : Int) (x1 : List (List Int × HS)) (ll : List (List Int)) (y10 y11 y12 y13 : Int) (x9 : List (List Int)) (x8 : List HS) (x2 : List (List Int)) (fuel m : Nat) : Prop := runM Try.prog gamD1 [⟨9,[.rows .u8],true,false⟩,⟨777777,[],true,false⟩] (resh Try.prog [⟨9,[.rows .u8],true,false⟩,⟨777777,[],true,false⟩] Try.f12.results.toList R) (run Try.prog gamD1 [⟨9,[.rows .u8],true,false⟩,⟨777777,[],true,false⟩] (resh Try.prog [⟨9,[.rows .u8],true,false⟩,⟨777777,[],true,false⟩] Try.f12.results.toList R) fuel) m [ki Try.f12 [1,1,1,1,0,1,0,0],.inBlock 2,kc Try.f12 [1,1,1,1,1]] (Vv 200000::Uu::Uu::AV.one (AC.map 20)::(us 5 (Vv 106::Ii x7::AV.one (AC.el 200000 0 (nat x7))::AV.one (AC.ptr 12 0 0)::Uu::Ll true::AV.one (AC.hs IntKind.i64 (hj (mget (HS.mk 0 0 0) x1 (lsub (llget ll (nat x7)) 0 8))) (ho (mget (HS.mk 0 0 0) x1 (lsub (llget ll (nat x7)) 0 8))) (hl (mget (HS.mk 0 0 0) x1 (lsub (llget ll (nat x7)) 0 8))))::Ii y10::AV.one (AC.ptr 17 0 0)::AV.one (AC.con (Value.slice (Option.none) 0 0))::Ll false::(us 27 (Vv 200000::Ii (ofNat (llen ll))::Ii (add IntKind.i64 x7 1)::Ll true::Ii x7::AV.one (AC.vptr 200000 1 (nat x7) 0 0)::AV.one (AC.el 200000 0 (nat x7))::AV.tup [(TV.g [Seg.ints IntKind.u8 8 (lsub (llget ll (nat x7)) 0 8)]),TV.c (AC.esl 200000 0 (nat x7) 8 (nsub (llen (llget ll (nat x7))) 8)),TV.c (AC.lit true)]::AV.one (AC.el 200000 0 (nat x7))::AV.tup [(TV.g [Seg.ints IntKind.u8 8 (lsub (llget ll (nat x7)) 0 8)]),TV.c (AC.esl 200000 0 (nat x7) 8 (nsub (llen (llget ll (nat x7))) 8)),TV.c (AC.lit true)]::(AV.agg [Seg.ints IntKind.u8 8 (lsub (llget ll (nat x7)) 0 8)])::AV.one (AC.esl 200000 0 (nat x7) 8 (nsub (llen (llget ll (nat x7))) 8))::Ll true::Ll true::Ll false::(us 4 (AV.one (AC.map 20)::(AV.agg [Seg.ints IntKind.u8 8 (lsub (llget ll (nat x7)) 0 8)])::AV.one (AC.hs IntKind.i64 (hj (mget (HS.mk 0 0 0) x1 (lsub (llget ll (nat x7)) 0 8))) (ho (mget (HS.mk 0 0 0) x1 (lsub (llget ll (nat x7)) 0 8))) (hl (mget (HS.mk 0 0 0) x1 (lsub (llget ll (nat x7)) 0 8))))::AV.one (AC.hs IntKind.i64 (hj (mget (HS.mk 0 0 0) x1 (lsub (llget ll (nat x7)) 0 8))) (ho (mget (HS.mk 0 0 0) x1 (lsub (llget ll (nat x7)) 0 8))) (hl (mget (HS.mk 0 0 0) x1 (lsub (llget ll (nat x7)) 0 8))))::Ii (ofNat (hl (mget (HS.mk 0 0 0) x1 (lsub (llget ll (nat x7)) 0 8))))::(us 4 (Ll false::Bb (ieq (ofNat (hl (mget (HS.mk 0 0 0) x1 (lsub (llget ll (nat x7)) 0 8)))) 1)::(us 4 [Ll true,Bb (ieq (ofNat (hl (mget (HS.mk 0 0 0) x1 (lsub (llget ll (nat x7)) 0 8)))) 2),AV.one (AC.hs IntKind.i64 (hj (mget (HS.mk 0 0 0) x1 (lsub (llget ll (nat x7)) 0 8))) (ho (mget (HS.mk 0 0 0) x1 (lsub (llget ll (nat x7)) 0 8))) (hl (mget (HS.mk 0 0 0) x1 (lsub (llget ll (nat x7)) 0 8)))),AV.one (AC.hp IntKind.i64 (hj (mget (HS.mk 0 0 0) x1 (lsub (llget ll (nat x7)) 0 8))) (nadd (ho (mget (HS.mk 0 0 0) x1 (lsub (llget ll (nat x7)) 0 8))) 0)),Ii y11,AV.one (AC.hs IntKind.i64 (hj (mget (HS.mk 0 0 0) x1 (lsub (llget ll (nat x7)) 0 8))) (ho (mget (HS.mk 0 0 0) x1 (lsub (llget ll (nat x7)) 0 8))) (hl (mget (HS.mk 0 0 0) x1 (lsub (llget ll (nat x7)) 0 8)))),AV.one (AC.hp IntKind.i64 (hj (mget (HS.mk 0 0 0) x1 (lsub (llget ll (nat x7)) 0 8))) (nadd (ho (mget (HS.mk 0 0 0) x1 (lsub (llget ll (nat x7)) 0 8))) 1)),Ii y12,Ii y13,Ii x7,Ii y10,AV.tup [(TV.g [Seg.ints IntKind.u8 8 (lzeros 8)]),TV.c (AC.con (Value.slice (Option.none) 0 0)),TV.c (AC.lit false)],Vv 200000,Ii y10,AV.one (AC.vptr 200000 1 (nat y10) 0 0),AV.one (AC.el 200000 0 (nat y10)),AV.tup [(TV.g [Seg.ints IntKind.u8 8 (lzeros 8)]),TV.c (AC.con (Value.slice (Option.none) 0 0)),TV.c (AC.lit false)],(AV.agg [Seg.ints IntKind.u8 8 (lzeros 8)]),AV.one (AC.con (Value.slice (Option.none) 0 0)),Ll false,Vv 100009,Vv 102,AV.one (AC.con (Value.slice (Option.none) 0 0)),AV.one (AC.hs IntKind.u8 (llen x9) 0 1),Vv 105,Vv 106,Ii (add IntKind.i64 x7 1),Zz])))))))))) [(12,Blk.own 35 [Seg.ints IntKind.u8 8 (lsub (llget ll (nat x7)) 0 8)]),(17,Blk.own 35 [Seg.ints IntKind.u8 8 (lzeros 8)]),(20,Blk.map (KK.arr IntKind.u8 8) (MVs.hss IntKind.i64 x1)),(105,Blk.vec [Col.hss IntKind.u8 [(HS.mk (llen x9) 0 1)]]),(106,Blk.vec [Col.hss IntKind.u8 (lcat x8 [(HS.mk (llen x9) 0 1)])]),(200000,Blk.rview [Col.rows IntKind.u8 ll]),(900003,Blk.heap IntKind.i64 x2),(900004,Blk.heap IntKind.u8 (List.append x9 [(lcat [1] [])]))]
def exch.k13 (R : AV → Mem → Prop) (x7 : Int) (x1 : List (List Int × HS)) (ll : List (List Int)) (y10 y11 y12 y13 : Int) (x8 : List HS) (x2 x9 : List (List Int)) (fuel m : Nat) : Prop := runM Try.prog gamD1 [⟨9,[.rows .u8],true,false⟩,⟨777777,[],true,false⟩] (resh Try.prog [⟨9,[.rows .u8],true,false⟩,⟨777777,[],true,false⟩] Try.f12.results.toList R) (run Try.prog gamD1 [⟨9,[.rows .u8],true,false⟩,⟨777777,[],true,false⟩] (resh Try.prog [⟨9,[.rows .u8],true,false⟩,⟨777777,[],true,false⟩] Try.f12.results.toList R) fuel) m [kc Try.f12 [1,1,1,1,0,1,0,0,1,1,0,0,1,1,1,1,1,0,1,1,1,0,1,1],.inBlock 4,.inBlock 3,kc Try.f12 [1,1,1,1,0,1,0,0,1,1,1],ki Try.f12 [1,1,1,1,0,1,0,0],.inBlock 2,kc Try.f12 [1,1,1,1,1]] (Vv 200000::Uu::Uu::AV.one (AC.map 20)::(us 5 (Vv 100009::Ii x7::AV.one (AC.el 200000 0 (nat x7))::AV.one (AC.ptr 12 0 0)::Uu::Ll true::AV.one (AC.hs IntKind.i64 (hj (mget (HS.mk 0 0 0) x1 (lsub (llget ll (nat x7)) 0 8))) (ho (mget (HS.mk 0 0 0) x1 (lsub (llget ll (nat x7)) 0 8))) (hl (mget (HS.mk 0 0 0) x1 (lsub (llget ll (nat x7)) 0 8))))::Ii y10::AV.one (AC.ptr 17 0 0)::AV.one (AC.con (Value.slice (Option.none) 0 0))::Ll false::(us 27 (Vv 200000::Ii (ofNat (llen ll))::Ii x7::Ll true::Ii x7::AV.one (AC.vptr 200000 1 (nat x7) 0 0)::AV.one (AC.el 200000 0 (nat x7))::AV.tup [(TV.g [Seg.ints IntKind.u8 8 (lsub (llget ll (nat x7)) 0 8)]),TV.c (AC.esl 200000 0 (nat x7) 8 (nsub (llen (llget ll (nat x7))) 8)),TV.c (AC.lit true)]::AV.one (AC.el 200000 0 (nat x7))::AV.tup [(TV.g [Seg.ints IntKind.u8 8 (lsub (llget ll (nat x7)) 0 8)]),TV.c (AC.esl 200000 0 (nat x7) 8 (nsub (llen (llget ll (nat x7))) 8)),TV.c (AC.lit true)]::(AV.agg [Seg.ints IntKind.u8 8 (lsub (llget ll (nat x7)) 0 8)])::AV.one (AC.esl 200000 0 (nat x7) 8 (nsub (llen (llget ll (nat x7))) 8))::Ll true::Ll true::Ll false::(us 4 (AV.one (AC.map 20)::(AV.agg [Seg.ints IntKind.u8 8 (lsub (llget ll (nat x7)) 0 8)])::AV.one (AC.hs IntKind.i64 (hj (mget (HS.mk 0 0 0) x1 (lsub (llget ll (nat x7)) 0 8))) (ho (mget (HS.mk 0 0 0) x1 (lsub (llget ll (nat x7)) 0 8))) (hl (mget (HS.mk 0 0 0) x1 (lsub (llget ll (nat x7)) 0 8))))::AV.one (AC.hs IntKind.i64 (hj (mget (HS.mk 0 0 0) x1 (lsub (llget ll (nat x7)) 0 8))) (ho (mget (HS.mk 0 0 0) x1 (lsub (llget ll (nat x7)) 0 8))) (hl (mget (HS.mk 0 0 0) x1 (lsub (llget ll (nat x7)) 0 8))))::Ii (ofNat (hl (mget (HS.mk 0 0 0) x1 (lsub (llget ll (nat x7)) 0 8))))::(us 4 (Ll false::Bb (ieq (ofNat (hl (mget (HS.mk 0 0 0) x1 (lsub (llget ll (nat x7)) 0 8)))) 1)::(us 4 (Ll true::Bb (ieq (ofNat (hl (mget (HS.mk 0 0 0) x1 (lsub (llget ll (nat x7)) 0 8)))) 2)::AV.one (AC.hs IntKind.i64 (hj (mget (HS.mk 0 0 0) x1 (lsub (llget ll (nat x7)) 0 8))) (ho (mget (HS.mk 0 0 0) x1 (lsub (llget ll (nat x7)) 0 8))) (hl (mget (HS.mk 0 0 0) x1 (lsub (llget ll (nat x7)) 0 8))))::AV.one (AC.hp IntKind.i64 (hj (mget (HS.mk 0 0 0) x1 (lsub (llget ll (nat x7)) 0 8))) (nadd (ho (mget (HS.mk 0 0 0) x1 (lsub (llget ll (nat x7)) 0 8))) 0))::Ii y11::AV.one (AC.hs IntKind.i64 (hj (mget (HS.mk 0 0 0) x1 (lsub (llget ll (nat x7)) 0 8))) (ho (mget (HS.mk 0 0 0) x1 (lsub (llget ll (nat x7)) 0 8))) (hl (mget (HS.mk 0 0 0) x1 (lsub (llget ll (nat x7)) 0 8))))::AV.one (AC.hp IntKind.i64 (hj (mget (HS.mk 0 0 0) x1 (lsub (llget ll (nat x7)) 0 8))) (nadd (ho (mget (HS.mk 0 0 0) x1 (lsub (llget ll (nat x7)) 0 8))) 1))::Ii y12::Ii y13::Ii x7::Ii y10::AV.tup [(TV.g [Seg.ints IntKind.u8 8 (lzeros 8)]),TV.c (AC.con (Value.slice (Option.none) 0 0)),TV.c (AC.lit false)]::Vv 200000::Ii y10::AV.one (AC.vptr 200000 1 (nat y10) 0 0)::AV.one (AC.el 200000 0 (nat y10))::AV.tup [(TV.g [Seg.ints IntKind.u8 8 (lzeros 8)]),TV.c (AC.con (Value.slice (Option.none) 0 0)),TV.c (AC.lit false)]::(AV.agg [Seg.ints IntKind.u8 8 (lzeros 8)])::AV.one (AC.con (Value.slice (Option.none) 0 0))::Ll false::(us 7 [Zz])))))))))))) [(12,Blk.own 35 [Seg.ints IntKind.u8 8 (lsub (llget ll (nat x7)) 0 8)]),(17,Blk.own 35 [Seg.ints IntKind.u8 8 (lzeros 8)]),(20,Blk.map (KK.arr IntKind.u8 8) (MVs.hss IntKind.i64 x1)),(100009,Blk.vec [Col.hss IntKind.u8 x8]),(200000,Blk.rview [Col.rows IntKind.u8 ll]),(900003,Blk.heap IntKind.i64 x2),(900004,Blk.heap IntKind.u8 x9)]
def exch.k14 (R : AV → Mem → Prop) (x7 : Int) (x1 : List (List Int × HS)) (ll x2 : List (List Int)) (x8 : List HS) (x9 : List (List Int)) (fuel m : Nat) : Prop := runM Try.prog gamD1 [⟨9,[.rows .u8],true,false⟩,⟨777777,[],true,false⟩] (resh Try.prog [⟨9,[.rows .u8],true,false⟩,⟨777777,[],true,false⟩] Try.f12.results.toList R) (run Try.prog gamD1 [⟨9,[.rows .u8],true,false⟩,⟨777777,[],true,false⟩] (resh Try.prog [⟨9,[.rows .u8],true,false⟩,⟨777777,[],true,false⟩] Try.f12.results.toList R) fuel) m [kc Try.f12 [1,1,1,1,0,1,0,0,1,1,0,0,1,1,1,1,1,0,1,1,1,0,1],.inBlock 4,.inBlock 3,kc Try.f12 [1,1,1,1,0,1,0,0,1,1,1],ki Try.f12 [1,1,1,1,0,1,0,0],.inBlock 2,kc Try.f12 [1,1,1,1,1]] (Vv 200000::Uu::Uu::AV.one (AC.map 20)::(us 5 (Vv 100009::Ii x7::AV.one (AC.el 200000 0 (nat x7))::AV.one (AC.ptr 12 0 0)::Uu::Ll true::AV.one (AC.hs IntKind.i64 (hj (mget (HS.mk 0 0 0) x1 (lsub (llget ll (nat x7)) 0 8))) (ho (mget (HS.mk 0 0 0) x1 (lsub (llget ll (nat x7)) 0 8))) (hl (mget (HS.mk 0 0 0) x1 (lsub (llget ll (nat x7)) 0 8))))::Ii (sub IntKind.i64 (add IntKind.i64 (lget (llget x2 (hj (mget (HS.mk 0 0 0) x1 (lsub (llget ll (nat x7)) 0 8)))) (nadd (ho (mget (HS.mk 0 0 0) x1 (lsub (llget ll (nat x7)) 0 8))) 0)) (lget (llget x2 (hj (mget (HS.mk 0 0 0) x1 (lsub (llget ll (nat x7)) 0 8)))) (nadd (ho (mget (HS.mk 0 0 0) x1 (lsub (llget ll (nat x7)) 0 8))) 1))) x7)::(us 30 (Vv 200000::Ii (ofNat (llen ll))::Ii x7::Ll true::Ii x7::AV.one (AC.vptr 200000 1 (nat x7) 0 0)::AV.one (AC.el 200000 0 (nat x7))::AV.tup [(TV.g [Seg.ints IntKind.u8 8 (lsub (llget ll (nat x7)) 0 8)]),TV.c (AC.esl 200000 0 (nat x7) 8 (nsub (llen (llget ll (nat x7))) 8)),TV.c (AC.lit true)]::AV.one (AC.el 200000 0 (nat x7))::AV.tup [(TV.g [Seg.ints IntKind.u8 8 (lsub (llget ll (nat x7)) 0 8)]),TV.c (AC.esl 200000 0 (nat x7) 8 (nsub (llen (llget ll (nat x7))) 8)),TV.c (AC.lit true)]::(AV.agg [Seg.ints IntKind.u8 8 (lsub (llget ll (nat x7)) 0 8)])::AV.one (AC.esl 200000 0 (nat x7) 8 (nsub (llen (llget ll (nat x7))) 8))::Ll true::Ll true::Ll false::(us 4 (AV.one (AC.map 20)::(AV.agg [Seg.ints IntKind.u8 8 (lsub (llget ll (nat x7)) 0 8)])::AV.one (AC.hs IntKind.i64 (hj (mget (HS.mk 0 0 0) x1 (lsub (llget ll (nat x7)) 0 8))) (ho (mget (HS.mk 0 0 0) x1 (lsub (llget ll (nat x7)) 0 8))) (hl (mget (HS.mk 0 0 0) x1 (lsub (llget ll (nat x7)) 0 8))))::AV.one (AC.hs IntKind.i64 (hj (mget (HS.mk 0 0 0) x1 (lsub (llget ll (nat x7)) 0 8))) (ho (mget (HS.mk 0 0 0) x1 (lsub (llget ll (nat x7)) 0 8))) (hl (mget (HS.mk 0 0 0) x1 (lsub (llget ll (nat x7)) 0 8))))::Ii (ofNat (hl (mget (HS.mk 0 0 0) x1 (lsub (llget ll (nat x7)) 0 8))))::(us 4 (Ll false::Bb (ieq (ofNat (hl (mget (HS.mk 0 0 0) x1 (lsub (llget ll (nat x7)) 0 8)))) 1)::(us 4 (Ll true::Bb (ieq (ofNat (hl (mget (HS.mk 0 0 0) x1 (lsub (llget ll (nat x7)) 0 8)))) 2)::AV.one (AC.hs IntKind.i64 (hj (mget (HS.mk 0 0 0) x1 (lsub (llget ll (nat x7)) 0 8))) (ho (mget (HS.mk 0 0 0) x1 (lsub (llget ll (nat x7)) 0 8))) (hl (mget (HS.mk 0 0 0) x1 (lsub (llget ll (nat x7)) 0 8))))::AV.one (AC.hp IntKind.i64 (hj (mget (HS.mk 0 0 0) x1 (lsub (llget ll (nat x7)) 0 8))) (nadd (ho (mget (HS.mk 0 0 0) x1 (lsub (llget ll (nat x7)) 0 8))) 0))::Ii (lget (llget x2 (hj (mget (HS.mk 0 0 0) x1 (lsub (llget ll (nat x7)) 0 8)))) (nadd (ho (mget (HS.mk 0 0 0) x1 (lsub (llget ll (nat x7)) 0 8))) 0))::AV.one (AC.hs IntKind.i64 (hj (mget (HS.mk 0 0 0) x1 (lsub (llget ll (nat x7)) 0 8))) (ho (mget (HS.mk 0 0 0) x1 (lsub (llget ll (nat x7)) 0 8))) (hl (mget (HS.mk 0 0 0) x1 (lsub (llget ll (nat x7)) 0 8))))::AV.one (AC.hp IntKind.i64 (hj (mget (HS.mk 0 0 0) x1 (lsub (llget ll (nat x7)) 0 8))) (nadd (ho (mget (HS.mk 0 0 0) x1 (lsub (llget ll (nat x7)) 0 8))) 1))::Ii (lget (llget x2 (hj (mget (HS.mk 0 0 0) x1 (lsub (llget ll (nat x7)) 0 8)))) (nadd (ho (mget (HS.mk 0 0 0) x1 (lsub (llget ll (nat x7)) 0 8))) 1))::Ii (add IntKind.i64 (lget (llget x2 (hj (mget (HS.mk 0 0 0) x1 (lsub (llget ll (nat x7)) 0 8)))) (nadd (ho (mget (HS.mk 0 0 0) x1 (lsub (llget ll (nat x7)) 0 8))) 0)) (lget (llget x2 (hj (mget (HS.mk 0 0 0) x1 (lsub (llget ll (nat x7)) 0 8)))) (nadd (ho (mget (HS.mk 0 0 0) x1 (lsub (llget ll (nat x7)) 0 8))) 1)))::Ii x7::Ii (sub IntKind.i64 (add IntKind.i64 (lget (llget x2 (hj (mget (HS.mk 0 0 0) x1 (lsub (llget ll (nat x7)) 0 8)))) (nadd (ho (mget (HS.mk 0 0 0) x1 (lsub (llget ll (nat x7)) 0 8))) 0)) (lget (llget x2 (hj (mget (HS.mk 0 0 0) x1 (lsub (llget ll (nat x7)) 0 8)))) (nadd (ho (mget (HS.mk 0 0 0) x1 (lsub (llget ll (nat x7)) 0 8))) 1))) x7)::(us 16 [Zz])))))))))))) [(12,Blk.own 35 [Seg.ints IntKind.u8 8 (lsub (llget ll (nat x7)) 0 8)]),(20,Blk.map (KK.arr IntKind.u8 8) (MVs.hss IntKind.i64 x1)),(100009,Blk.vec [Col.hss IntKind.u8 x8]),(200000,Blk.rview [Col.rows IntKind.u8 ll]),(900003,Blk.heap IntKind.i64 x2),(900004,Blk.heap IntKind.u8 x9)]
def exch.k15 (R : AV → Mem → Prop) (x7 : Int) (x1 : List (List Int × HS)) (ll : List (List Int)) (x8 : List HS) (x2 x9 : List (List Int)) (fuel m : Nat) : Prop := runM Try.prog gamD1 [⟨9,[.rows .u8],true,false⟩,⟨777777,[],true,false⟩] (resh Try.prog [⟨9,[.rows .u8],true,false⟩,⟨777777,[],true,false⟩] Try.f12.results.toList R) (run Try.prog gamD1 [⟨9,[.rows .u8],true,false⟩,⟨777777,[],true,false⟩] (resh Try.prog [⟨9,[.rows .u8],true,false⟩,⟨777777,[],true,false⟩] Try.f12.results.toList R) fuel) m [kc Try.f12 [1,1,1,1,0,1,0,0,1,1,0,0,1,1,1,1,1,0,1,1,1,0],.inBlock 4,.inBlock 3,kc Try.f12 [1,1,1,1,0,1,0,0,1,1,1],ki Try.f12 [1,1,1,1,0,1,0,0],.inBlock 2,kc Try.f12 [1,1,1,1,1]] (Vv 200000::Uu::Uu::AV.one (AC.map 20)::(us 5 (Vv 100009::Ii x7::AV.one (AC.el 200000 0 (nat x7))::AV.one (AC.ptr 12 0 0)::Uu::Ll true::AV.one (AC.hs IntKind.i64 (hj (mget (HS.mk 0 0 0) x1 (lsub (llget ll (nat x7)) 0 8))) (ho (mget (HS.mk 0 0 0) x1 (lsub (llget ll (nat x7)) 0 8))) (hl (mget (HS.mk 0 0 0) x1 (lsub (llget ll (nat x7)) 0 8))))::(us 31 (Vv 200000::Ii (ofNat (llen ll))::Ii x7::Ll true::Ii x7::AV.one (AC.vptr 200000 1 (nat x7) 0 0)::AV.one (AC.el 200000 0 (nat x7))::AV.tup [(TV.g [Seg.ints IntKind.u8 8 (lsub (llget ll (nat x7)) 0 8)]),TV.c (AC.esl 200000 0 (nat x7) 8 (nsub (llen (llget ll (nat x7))) 8)),TV.c (AC.lit true)]::AV.one (AC.el 200000 0 (nat x7))::AV.tup [(TV.g [Seg.ints IntKind.u8 8 (lsub (llget ll (nat x7)) 0 8)]),TV.c (AC.esl 200000 0 (nat x7) 8 (nsub (llen (llget ll (nat x7))) 8)),TV.c (AC.lit true)]::(AV.agg [Seg.ints IntKind.u8 8 (lsub (llget ll (nat x7)) 0 8)])::AV.one (AC.esl 200000 0 (nat x7) 8 (nsub (llen (llget ll (nat x7))) 8))::Ll true::Ll true::Ll false::(us 4 (AV.one (AC.map 20)::(AV.agg [Seg.ints IntKind.u8 8 (lsub (llget ll (nat x7)) 0 8)])::AV.one (AC.hs IntKind.i64 (hj (mget (HS.mk 0 0 0) x1 (lsub (llget ll (nat x7)) 0 8))) (ho (mget (HS.mk 0 0 0) x1 (lsub (llget ll (nat x7)) 0 8))) (hl (mget (HS.mk 0 0 0) x1 (lsub (llget ll (nat x7)) 0 8))))::AV.one (AC.hs IntKind.i64 (hj (mget (HS.mk 0 0 0) x1 (lsub (llget ll (nat x7)) 0 8))) (ho (mget (HS.mk 0 0 0) x1 (lsub (llget ll (nat x7)) 0 8))) (hl (mget (HS.mk 0 0 0) x1 (lsub (llget ll (nat x7)) 0 8))))::Ii (ofNat (hl (mget (HS.mk 0 0 0) x1 (lsub (llget ll (nat x7)) 0 8))))::(us 4 (Ll false::Bb (ieq (ofNat (hl (mget (HS.mk 0 0 0) x1 (lsub (llget ll (nat x7)) 0 8)))) 1)::(us 4 (Ll true::Bb (ieq (ofNat (hl (mget (HS.mk 0 0 0) x1 (lsub (llget ll (nat x7)) 0 8)))) 2)::(us 25 [Zz])))))))))))) [(12,Blk.own 35 [Seg.ints IntKind.u8 8 (lsub (llget ll (nat x7)) 0 8)]),(20,Blk.map (KK.arr IntKind.u8 8) (MVs.hss IntKind.i64 x1)),(100009,Blk.vec [Col.hss IntKind.u8 x8]),(200000,Blk.rview [Col.rows IntKind.u8 ll]),(900003,Blk.heap IntKind.i64 x2),(900004,Blk.heap IntKind.u8 x9)]
def exch.k16 (R : AV → Mem → Prop) (x7 : Int) (x1 : List (List Int × HS)) (ll x9 : List (List Int)) (x8 : List HS) (x2 : List (List Int)) (fuel m : Nat) : Prop := runM Try.prog gamD1 [⟨9,[.rows .u8],true,false⟩,⟨777777,[],true,false⟩] (resh Try.prog [⟨9,[.rows .u8],true,false⟩,⟨777777,[],true,false⟩] Try.f12.results.toList R) (run Try.prog gamD1 [⟨9,[.rows .u8],true,false⟩,⟨777777,[],true,false⟩] (resh Try.prog [⟨9,[.rows .u8],true,false⟩,⟨777777,[],true,false⟩] Try.f12.results.toList R) fuel) m [ki Try.f12 [1,1,1,1,0,1,0,0],.inBlock 2,kc Try.f12 [1,1,1,1,1]] (Vv 200000::Uu::Uu::AV.one (AC.map 20)::(us 5 (Vv 74::Ii x7::AV.one (AC.el 200000 0 (nat x7))::AV.one (AC.ptr 12 0 0)::Uu::Ll true::AV.one (AC.hs IntKind.i64 (hj (mget (HS.mk 0 0 0) x1 (lsub (llget ll (nat x7)) 0 8))) (ho (mget (HS.mk 0 0 0) x1 (lsub (llget ll (nat x7)) 0 8))) (hl (mget (HS.mk 0 0 0) x1 (lsub (llget ll (nat x7)) 0 8))))::(us 31 (Vv 200000::Ii (ofNat (llen ll))::Ii (add IntKind.i64 x7 1)::Ll true::Ii x7::AV.one (AC.vptr 200000 1 (nat x7) 0 0)::AV.one (AC.el 200000 0 (nat x7))::AV.tup [(TV.g [Seg.ints IntKind.u8 8 (lsub (llget ll (nat x7)) 0 8)]),TV.c (AC.esl 200000 0 (nat x7) 8 (nsub (llen (llget ll (nat x7))) 8)),TV.c (AC.lit true)]::AV.one (AC.el 200000 0 (nat x7))::AV.tup [(TV.g [Seg.ints IntKind.u8 8 (lsub (llget ll (nat x7)) 0 8)]),TV.c (AC.esl 200000 0 (nat x7) 8 (nsub (llen (llget ll (nat x7))) 8)),TV.c (AC.lit true)]::(AV.agg [Seg.ints IntKind.u8 8 (lsub (llget ll (nat x7)) 0 8)])::AV.one (AC.esl 200000 0 (nat x7) 8 (nsub (llen (llget ll (nat x7))) 8))::Ll true::Ll true::Ll false::(us 4 (AV.one (AC.map 20)::(AV.agg [Seg.ints IntKind.u8 8 (lsub (llget ll (nat x7)) 0 8)])::AV.one (AC.hs IntKind.i64 (hj (mget (HS.mk 0 0 0) x1 (lsub (llget ll (nat x7)) 0 8))) (ho (mget (HS.mk 0 0 0) x1 (lsub (llget ll (nat x7)) 0 8))) (hl (mget (HS.mk 0 0 0) x1 (lsub (llget ll (nat x7)) 0 8))))::AV.one (AC.hs IntKind.i64 (hj (mget (HS.mk 0 0 0) x1 (lsub (llget ll (nat x7)) 0 8))) (ho (mget (HS.mk 0 0 0) x1 (lsub (llget ll (nat x7)) 0 8))) (hl (mget (HS.mk 0 0 0) x1 (lsub (llget ll (nat x7)) 0 8))))::Ii (ofNat (hl (mget (HS.mk 0 0 0) x1 (lsub (llget ll (nat x7)) 0 8))))::Vv 100009::AV.one (AC.hs IntKind.u8 (llen x9) 0 1)::Vv 73::Vv 74::Ll false::Bb (ieq (ofNat (hl (mget (HS.mk 0 0 0) x1 (lsub (llget ll (nat x7)) 0 8)))) 1)::(us 4 (Ll false::Bb (ieq (ofNat (hl (mget (HS.mk 0 0 0) x1 (lsub (llget ll (nat x7)) 0 8)))) 2)::(us 24 [Ii (add IntKind.i64 x7 1),Zz])))))))))) [(12,Blk.own 35 [Seg.ints IntKind.u8 8 (lsub (llget ll (nat x7)) 0 8)]),(20,Blk.map (KK.arr IntKind.u8 8) (MVs.hss IntKind.i64 x1)),(73,Blk.vec [Col.hss IntKind.u8 [(HS.mk (llen x9) 0 1)]]),(74,Blk.vec [Col.hss IntKind.u8 (lcat x8 [(HS.mk (llen x9) 0 1)])]),(200000,Blk.rview [Col.rows IntKind.u8 ll]),(900003,Blk.heap IntKind.i64 x2),(900004,Blk.heap IntKind.u8 (List.append x9 [[2]]))]
def exch.k17 (R : AV → Mem → Prop) (x7 : Int) (x1 : List (List Int × HS)) (ll : List (List Int)) (x8 : List HS) (x2 x9 : List (List Int)) (fuel m : Nat) : Prop := runM Try.prog gamD1 [⟨9,[.rows .u8],true,false⟩,⟨777777,[],true,false⟩] (resh Try.prog [⟨9,[.rows .u8],true,false⟩,⟨777777,[],true,false⟩] Try.f12.results.toList R) (run Try.prog gamD1 [⟨9,[.rows .u8],true,false⟩,⟨777777,[],true,false⟩] (resh Try.prog [⟨9,[.rows .u8],true,false⟩,⟨777777,[],true,false⟩] Try.f12.results.toList R) fuel) m [kc Try.f12 [1,1,1,1,0,1,0,0,1,1,0,0,1,1,1,1,1,0,1,1,1,1],.inBlock 4,.inBlock 3,kc Try.f12 [1,1,1,1,0,1,0,0,1,1,1],ki Try.f12 [1,1,1,1,0,1,0,0],.inBlock 2,kc Try.f12 [1,1,1,1,1]] (Vv 200000::Uu::Uu::AV.one (AC.map 20)::(us 5 (Vv 100009::Ii x7::AV.one (AC.el 200000 0 (nat x7))::AV.one (AC.ptr 12 0 0)::Uu::Ll true::AV.one (AC.hs IntKind.i64 (hj (mget (HS.mk 0 0 0) x1 (lsub (llget ll (nat x7)) 0 8))) (ho (mget (HS.mk 0 0 0) x1 (lsub (llget ll (nat x7)) 0 8))) (hl (mget (HS.mk 0 0 0) x1 (lsub (llget ll (nat x7)) 0 8))))::(us 31 (Vv 200000::Ii (ofNat (llen ll))::Ii x7::Ll true::Ii x7::AV.one (AC.vptr 200000 1 (nat x7) 0 0)::AV.one (AC.el 200000 0 (nat x7))::AV.tup [(TV.g [Seg.ints IntKind.u8 8 (lsub (llget ll (nat x7)) 0 8)]),TV.c (AC.esl 200000 0 (nat x7) 8 (nsub (llen (llget ll (nat x7))) 8)),TV.c (AC.lit true)]::AV.one (AC.el 200000 0 (nat x7))::AV.tup [(TV.g [Seg.ints IntKind.u8 8 (lsub (llget ll (nat x7)) 0 8)]),TV.c (AC.esl 200000 0 (nat x7) 8 (nsub (llen (llget ll (nat x7))) 8)),TV.c (AC.lit true)]::(AV.agg [Seg.ints IntKind.u8 8 (lsub (llget ll (nat x7)) 0 8)])::AV.one (AC.esl 200000 0 (nat x7) 8 (nsub (llen (llget ll (nat x7))) 8))::Ll true::Ll true::Ll false::(us 4 (AV.one (AC.map 20)::(AV.agg [Seg.ints IntKind.u8 8 (lsub (llget ll (nat x7)) 0 8)])::AV.one (AC.hs IntKind.i64 (hj (mget (HS.mk 0 0 0) x1 (lsub (llget ll (nat x7)) 0 8))) (ho (mget (HS.mk 0 0 0) x1 (lsub (llget ll (nat x7)) 0 8))) (hl (mget (HS.mk 0 0 0) x1 (lsub (llget ll (nat x7)) 0 8))))::AV.one (AC.hs IntKind.i64 (hj (mget (HS.mk 0 0 0) x1 (lsub (llget ll (nat x7)) 0 8))) (ho (mget (HS.mk 0 0 0) x1 (lsub (llget ll (nat x7)) 0 8))) (hl (mget (HS.mk 0 0 0) x1 (lsub (llget ll (nat x7)) 0 8))))::Ii (ofNat (hl (mget (HS.mk 0 0 0) x1 (lsub (llget ll (nat x7)) 0 8))))::(us 4 (Ll false::Bb (ieq (ofNat (hl (mget (HS.mk 0 0 0) x1 (lsub (llget ll (nat x7)) 0 8)))) 1)::(us 4 (Ll false::Bb (ieq (ofNat (hl (mget (HS.mk 0 0 0) x1 (lsub (llget ll (nat x7)) 0 8)))) 2)::(us 25 [Zz])))))))))))) [(12,Blk.own 35 [Seg.ints IntKind.u8 8 (lsub (llget ll (nat x7)) 0 8)]),(20,Blk.map (KK.arr IntKind.u8 8) (MVs.hss IntKind.i64 x1)),(100009,Blk.vec [Col.hss IntKind.u8 x8]),(200000,Blk.rview [Col.rows IntKind.u8 ll]),(900003,Blk.heap IntKind.i64 x2),(900004,Blk.heap IntKind.u8 x9)]
def exch.k18 (R : AV → Mem → Prop) (x7 : Int) (x1 : List (List Int × HS)) (ll : List (List Int)) (x8 : List HS) (x2 x9 : List (List Int)) (fuel m : Nat) : Prop := runM Try.prog gamD1 [⟨9,[.rows .u8],true,false⟩,⟨777777,[],true,false⟩] (resh Try.prog [⟨9,[.rows .u8],true,false⟩,⟨777777,[],true,false⟩] Try.f12.results.toList R) (run Try.prog gamD1 [⟨9,[.rows .u8],true,false⟩,⟨777777,[],true,false⟩] (resh Try.prog [⟨9,[.rows .u8],true,false⟩,⟨777777,[],true,false⟩] Try.f12.results.toList R) fuel) m [kc Try.f12 [1,1,1,1,0,1,0,0,1,1,0,0,1,1,1,1,1,0,1,1,1],.inBlock 4,.inBlock 3,kc Try.f12 [1,1,1,1,0,1,0,0,1,1,1],ki Try.f12 [1,1,1,1,0,1,0,0],.inBlock 2,kc Try.f12 [1,1,1,1,1]] (Vv 200000::Uu::Uu::AV.one (AC.map 20)::(us 5 (Vv 100009::Ii x7::AV.one (AC.el 200000 0 (nat x7))::AV.one (AC.ptr 12 0 0)::Uu::Ll true::AV.one (AC.hs IntKind.i64 (hj (mget (HS.mk 0 0 0) x1 (lsub (llget ll (nat x7)) 0 8))) (ho (mget (HS.mk 0 0 0) x1 (lsub (llget ll (nat x7)) 0 8))) (hl (mget (HS.mk 0 0 0) x1 (lsub (llget ll (nat x7)) 0 8))))::(us 31 (Vv 200000::Ii (ofNat (llen ll))::Ii x7::Ll true::Ii x7::AV.one (AC.vptr 200000 1 (nat x7) 0 0)::AV.one (AC.el 200000 0 (nat x7))::AV.tup [(TV.g [Seg.ints IntKind.u8 8 (lsub (llget ll (nat x7)) 0 8)]),TV.c (AC.esl 200000 0 (nat x7) 8 (nsub (llen (llget ll (nat x7))) 8)),TV.c (AC.lit true)]::AV.one (AC.el 200000 0 (nat x7))::AV.tup [(TV.g [Seg.ints IntKind.u8 8 (lsub (llget ll (nat x7)) 0 8)]),TV.c (AC.esl 200000 0 (nat x7) 8 (nsub (llen (llget ll (nat x7))) 8)),TV.c (AC.lit true)]::(AV.agg [Seg.ints IntKind.u8 8 (lsub (llget ll (nat x7)) 0 8)])::AV.one (AC.esl 200000 0 (nat x7) 8 (nsub (llen (llget ll (nat x7))) 8))::Ll true::Ll true::Ll false::(us 4 (AV.one (AC.map 20)::(AV.agg [Seg.ints IntKind.u8 8 (lsub (llget ll (nat x7)) 0 8)])::AV.one (AC.hs IntKind.i64 (hj (mget (HS.mk 0 0 0) x1 (lsub (llget ll (nat x7)) 0 8))) (ho (mget (HS.mk 0 0 0) x1 (lsub (llget ll (nat x7)) 0 8))) (hl (mget (HS.mk 0 0 0) x1 (lsub (llget ll (nat x7)) 0 8))))::AV.one (AC.hs IntKind.i64 (hj (mget (HS.mk 0 0 0) x1 (lsub (llget ll (nat x7)) 0 8))) (ho (mget (HS.mk 0 0 0) x1 (lsub (llget ll (nat x7)) 0 8))) (hl (mget (HS.mk 0 0 0) x1 (lsub (llget ll (nat x7)) 0 8))))::Ii (ofNat (hl (mget (HS.mk 0 0 0) x1 (lsub (llget ll (nat x7)) 0 8))))::(us 4 (Ll false::Bb (ieq (ofNat (hl (mget (HS.mk 0 0 0) x1 (lsub (llget ll (nat x7)) 0 8)))) 1)::(us 4 (Bb (ieq (ofNat (hl (mget (HS.mk 0 0 0) x1 (lsub (llget ll (nat x7)) 0 8)))) 2)::Bb (ieq (ofNat (hl (mget (HS.mk 0 0 0) x1 (lsub (llget ll (nat x7)) 0 8)))) 2)::(us 25 [Zz])))))))))))) [(12,Blk.own 35 [Seg.ints IntKind.u8 8 (lsub (llget ll (nat x7)) 0 8)]),(20,Blk.map (KK.arr IntKind.u8 8) (MVs.hss IntKind.i64 x1)),(100009,Blk.vec [Col.hss IntKind.u8 x8]),(200000,Blk.rview [Col.rows IntKind.u8 ll]),(900003,Blk.heap IntKind.i64 x2),(900004,Blk.heap IntKind.u8 x9)]
def exch.k19 (R : AV → Mem → Prop) (x7 : Int) (x1 : List (List Int × HS)) (ll : List (List Int)) (x8 : List HS) (x2 x9 : List (List Int)) (fuel m : Nat) : Prop := runM Try.prog gamD1 [⟨9,[.rows .u8],true,false⟩,⟨777777,[],true,false⟩] (resh Try.prog [⟨9,[.rows .u8],true,false⟩,⟨777777,[],true,false⟩] Try.f12.results.toList R) (run Try.prog gamD1 [⟨9,[.rows .u8],true,false⟩,⟨777777,[],true,false⟩] (resh Try.prog [⟨9,[.rows .u8],true,false⟩,⟨777777,[],true,false⟩] Try.f12.results.toList R) fuel) m [kc Try.f12 [1,1,1,1,0,1,0,0,1,1,0,0,1,1,1,1,1,0,1],.inBlock 4,.inBlock 3,kc Try.f12 [1,1,1,1,0,1,0,0,1,1,1],ki Try.f12 [1,1,1,1,0,1,0,0],.inBlock 2,kc Try.f12 [1,1,1,1,1]] (Vv 200000::Uu::Uu::AV.one (AC.map 20)::(us 5 (Vv 100009::Ii x7::AV.one (AC.el 200000 0 (nat x7))::AV.one (AC.ptr 12 0 0)::Uu::Ll true::AV.one (AC.hs IntKind.i64 (hj (mget (HS.mk 0 0 0) x1 (lsub (llget ll (nat x7)) 0 8))) (ho (mget (HS.mk 0 0 0) x1 (lsub (llget ll (nat x7)) 0 8))) (hl (mget (HS.mk 0 0 0) x1 (lsub (llget ll (nat x7)) 0 8))))::(us 31 (Vv 200000::Ii (ofNat (llen ll))::Ii x7::Ll true::Ii x7::AV.one (AC.vptr 200000 1 (nat x7) 0 0)::AV.one (AC.el 200000 0 (nat x7))::AV.tup [(TV.g [Seg.ints IntKind.u8 8 (lsub (llget ll (nat x7)) 0 8)]),TV.c (AC.esl 200000 0 (nat x7) 8 (nsub (llen (llget ll (nat x7))) 8)),TV.c (AC.lit true)]::AV.one (AC.el 200000 0 (nat x7))::AV.tup [(TV.g [Seg.ints IntKind.u8 8 (lsub (llget ll (nat x7)) 0 8)]),TV.c (AC.esl 200000 0 (nat x7) 8 (nsub (llen (llget ll (nat x7))) 8)),TV.c (AC.lit true)]::(AV.agg [Seg.ints IntKind.u8 8 (lsub (llget ll (nat x7)) 0 8)])::AV.one (AC.esl 200000 0 (nat x7) 8 (nsub (llen (llget ll (nat x7))) 8))::Ll true::Ll true::Ll false::(us 4 (AV.one (AC.map 20)::(AV.agg [Seg.ints IntKind.u8 8 (lsub (llget ll (nat x7)) 0 8)])::AV.one (AC.hs IntKind.i64 (hj (mget (HS.mk 0 0 0) x1 (lsub (llget ll (nat x7)) 0 8))) (ho (mget (HS.mk 0 0 0) x1 (lsub (llget ll (nat x7)) 0 8))) (hl (mget (HS.mk 0 0 0) x1 (lsub (llget ll (nat x7)) 0 8))))::AV.one (AC.hs IntKind.i64 (hj (mget (HS.mk 0 0 0) x1 (lsub (llget ll (nat x7)) 0 8))) (ho (mget (HS.mk 0 0 0) x1 (lsub (llget ll (nat x7)) 0 8))) (hl (mget (HS.mk 0 0 0) x1 (lsub (llget ll (nat x7)) 0 8))))::Ii (ofNat (hl (mget (HS.mk 0 0 0) x1 (lsub (llget ll (nat x7)) 0 8))))::(us 4 (Bb (ieq (ofNat (hl (mget (HS.mk 0 0 0) x1 (lsub (llget ll (nat x7)) 0 8)))) 1)::Bb (ieq (ofNat (hl (mget (HS.mk 0 0 0) x1 (lsub (llget ll (nat x7)) 0 8)))) 1)::(us 31 [Zz])))))))))) [(12,Blk.own 35 [Seg.ints IntKind.u8 8 (lsub (llget ll (nat x7)) 0 8)]),(20,Blk.map (KK.arr IntKind.u8 8) (MVs.hss IntKind.i64 x1)),(100009,Blk.vec [Col.hss IntKind.u8 x8]),(200000,Blk.rview [Col.rows IntKind.u8 ll]),(900003,Blk.heap IntKind.i64 x2),(900004,Blk.heap IntKind.u8 x9)]
def exch.k20 (R : AV → Mem → Prop) (x7 : Int) (x1 : List (List Int × HS)) (ll : List (List Int)) (x8 : List HS) (x2 x9 : List (List Int)) (fuel m : Nat) : Prop := runM Try.prog gamD1 [⟨9,[.rows .u8],true,false⟩,⟨777777,[],true,false⟩] (resh Try.prog [⟨9,[.rows .u8],true,false⟩,⟨777777,[],true,false⟩] Try.f12.results.toList R) (run Try.prog gamD1 [⟨9,[.rows .u8],true,false⟩,⟨777777,[],true,false⟩] (resh Try.prog [⟨9,[.rows .u8],true,false⟩,⟨777777,[],true,false⟩] Try.f12.results.toList R) fuel) m [kc Try.f12 [1,1,1,1,0,1,0,0,1,1,0,0,1,1,1,1],.inBlock 3,kc Try.f12 [1,1,1,1,0,1,0,0,1,1,1],ki Try.f12 [1,1,1,1,0,1,0,0],.inBlock 2,kc Try.f12 [1,1,1,1,1]] (Vv 200000::Uu::Uu::AV.one (AC.map 20)::(us 5 (Vv 100009::Ii x7::AV.one (AC.el 200000 0 (nat x7))::AV.one (AC.ptr 12 0 0)::Uu::Ll true::AV.one (AC.hs IntKind.i64 (hj (mget (HS.mk 0 0 0) x1 (lsub (llget ll (nat x7)) 0 8))) (ho (mget (HS.mk 0 0 0) x1 (lsub (llget ll (nat x7)) 0 8))) (hl (mget (HS.mk 0 0 0) x1 (lsub (llget ll (nat x7)) 0 8))))::(us 31 (Vv 200000::Ii (ofNat (llen ll))::Ii x7::Ll true::Ii x7::AV.one (AC.vptr 200000 1 (nat x7) 0 0)::AV.one (AC.el 200000 0 (nat x7))::AV.tup [(TV.g [Seg.ints IntKind.u8 8 (lsub (llget ll (nat x7)) 0 8)]),TV.c (AC.esl 200000 0 (nat x7) 8 (nsub (llen (llget ll (nat x7))) 8)),TV.c (AC.lit true)]::AV.one (AC.el 200000 0 (nat x7))::AV.tup [(TV.g [Seg.ints IntKind.u8 8 (lsub (llget ll (nat x7)) 0 8)]),TV.c (AC.esl 200000 0 (nat x7) 8 (nsub (llen (llget ll (nat x7))) 8)),TV.c (AC.lit true)]::(AV.agg [Seg.ints IntKind.u8 8 (lsub (llget ll (nat x7)) 0 8)])::AV.one (AC.esl 200000 0 (nat x7) 8 (nsub (llen (llget ll (nat x7))) 8))::Ll true::Ll true::Ll false::(us 4 (AV.one (AC.map 20)::(AV.agg [Seg.ints IntKind.u8 8 (lsub (llget ll (nat x7)) 0 8)])::AV.one (AC.hs IntKind.i64 (hj (mget (HS.mk 0 0 0) x1 (lsub (llget ll (nat x7)) 0 8))) (ho (mget (HS.mk 0 0 0) x1 (lsub (llget ll (nat x7)) 0 8))) (hl (mget (HS.mk 0 0 0) x1 (lsub (llget ll (nat x7)) 0 8))))::(us 39 [Zz])))))))) [(12,Blk.own 35 [Seg.ints IntKind.u8 8 (lsub (llget ll (nat x7)) 0 8)]),(20,Blk.map (KK.arr IntKind.u8 8) (MVs.hss IntKind.i64 x1)),(100009,Blk.vec [Col.hss IntKind.u8 x8]),(200000,Blk.rview [Col.rows IntKind.u8 ll]),(900003,Blk.heap IntKind.i64 x2),(900004,Blk.heap IntKind.u8 x9)]
def exch.k21 (R : AV → Mem → Prop) (x7 : Int) (ll : List (List Int)) (x1 : List (List Int × HS)) (x8 : List HS) (x2 x9 : List (List Int)) (fuel m : Nat) : Prop := runM Try.prog gamD1 [⟨9,[.rows .u8],true,false⟩,⟨777777,[],true,false⟩] (resh Try.prog [⟨9,[.rows .u8],true,false⟩,⟨777777,[],true,false⟩] Try.f12.results.toList R) (run Try.prog gamD1 [⟨9,[.rows .u8],true,false⟩,⟨777777,[],true,false⟩] (resh Try.prog [⟨9,[.rows .u8],true,false⟩,⟨777777,[],true,false⟩] Try.f12.results.toList R) fuel) m [kc Try.f12 [1,1,1,1,0,1,0,0,1,1,0,0,1,1],.inBlock 3,kc Try.f12 [1,1,1,1,0,1,0,0,1,1,1],ki Try.f12 [1,1,1,1,0,1,0,0],.inBlock 2,kc Try.f12 [1,1,1,1,1]] (Vv 200000::Uu::Uu::AV.one (AC.map 20)::(us 5 (Vv 100009::Ii x7::AV.one (AC.el 200000 0 (nat x7))::AV.one (AC.ptr 12 0 0)::AV.one (AC.esl 200000 0 (nat x7) 8 (nsub (llen (llget ll (nat x7))) 8))::Ll true::(us 32 (Vv 200000::Ii (ofNat (llen ll))::Ii x7::Ll true::Ii x7::AV.one (AC.vptr 200000 1 (nat x7) 0 0)::AV.one (AC.el 200000 0 (nat x7))::AV.tup [(TV.g [Seg.ints IntKind.u8 8 (lsub (llget ll (nat x7)) 0 8)]),TV.c (AC.esl 200000 0 (nat x7) 8 (nsub (llen (llget ll (nat x7))) 8)),TV.c (AC.lit true)]::AV.one (AC.el 200000 0 (nat x7))::AV.tup [(TV.g [Seg.ints IntKind.u8 8 (lsub (llget ll (nat x7)) 0 8)]),TV.c (AC.esl 200000 0 (nat x7) 8 (nsub (llen (llget ll (nat x7))) 8)),TV.c (AC.lit true)]::(AV.agg [Seg.ints IntKind.u8 8 (lsub (llget ll (nat x7)) 0 8)])::AV.one (AC.esl 200000 0 (nat x7) 8 (nsub (llen (llget ll (nat x7))) 8))::Ll true::(us 48 [Zz])))))) [(12,Blk.own 35 [Seg.ints IntKind.u8 8 (lsub (llget ll (nat x7)) 0 8)]),(20,Blk.map (KK.arr IntKind.u8 8) (MVs.hss IntKind.i64 x1)),(100009,Blk.vec [Col.hss IntKind.u8 x8]),(200000,Blk.rview [Col.rows IntKind.u8 ll]),(900003,Blk.heap IntKind.i64 x2),(900004,Blk.heap IntKind.u8 x9)]
def exch.k22 (R : AV → Mem → Prop) (x7 : Int) (ll x9 : List (List Int)) (x1 : List (List Int × HS)) (x8 : List HS) (x2 : List (List Int)) (fuel m : Nat) : Prop := runM Try.prog gamD1 [⟨9,[.rows .u8],true,false⟩,⟨777777,[],true,false⟩] (resh Try.prog [⟨9,[.rows .u8],true,false⟩,⟨777777,[],true,false⟩] Try.f12.results.toList R) (run Try.prog gamD1 [⟨9,[.rows .u8],true,false⟩,⟨777777,[],true,false⟩] (resh Try.prog [⟨9,[.rows .u8],true,false⟩,⟨777777,[],true,false⟩] Try.f12.results.toList R) fuel) m [ki Try.f12 [1,1,1,1,0,1,0,0],.inBlock 2,kc Try.f12 [1,1,1,1,1]] (Vv 200000::Uu::Uu::AV.one (AC.map 20)::(us 5 (Vv 65::Ii x7::AV.one (AC.el 200000 0 (nat x7))::AV.one (AC.ptr 12 0 0)::Uu::Ll false::(us 32 (Vv 200000::Ii (ofNat (llen ll))::Ii (add IntKind.i64 x7 1)::Ll true::Ii x7::AV.one (AC.vptr 200000 1 (nat x7) 0 0)::AV.one (AC.el 200000 0 (nat x7))::AV.tup [(TV.g [Seg.ints IntKind.u8 8 (lzeros 8)]),TV.c (AC.con (Value.slice (Option.none) 0 0)),TV.c (AC.lit false)]::AV.one (AC.el 200000 0 (nat x7))::AV.tup [(TV.g [Seg.ints IntKind.u8 8 (lzeros 8)]),TV.c (AC.con (Value.slice (Option.none) 0 0)),TV.c (AC.lit false)]::(AV.agg [Seg.ints IntKind.u8 8 (lzeros 8)])::AV.one (AC.con (Value.slice (Option.none) 0 0))::Ll false::Ll false::Ll true::Vv 100009::AV.one (AC.hs IntKind.u8 (llen x9) 0 1)::Vv 64::Vv 65::(us 41 [Ii (add IntKind.i64 x7 1),Zz])))))) [(12,Blk.own 35 [Seg.ints IntKind.u8 8 (lzeros 8)]),(20,Blk.map (KK.arr IntKind.u8 8) (MVs.hss IntKind.i64 x1)),(64,Blk.vec [Col.hss IntKind.u8 [(HS.mk (llen x9) 0 1)]]),(65,Blk.vec [Col.hss IntKind.u8 (lcat x8 [(HS.mk (llen x9) 0 1)])]),(200000,Blk.rview [Col.rows IntKind.u8 ll]),(900003,Blk.heap IntKind.i64 x2),(900004,Blk.heap IntKind.u8 (List.append x9 [[3]]))]
def exch.k23 (R : AV → Mem → Prop) (x7 : Int) (ll : List (List Int)) (x1 : List (List Int × HS)) (x8 : List HS) (x2 x9 : List (List Int)) (fuel m : Nat) : Prop := runM Try.prog gamD1 [⟨9,[.rows .u8],true,false⟩,⟨777777,[],true,false⟩] (resh Try.prog [⟨9,[.rows .u8],true,false⟩,⟨777777,[],true,false⟩] Try.f12.results.toList R) (run Try.prog gamD1 [⟨9,[.rows .u8],true,false⟩,⟨777777,[],true,false⟩] (resh Try.prog [⟨9,[.rows .u8],true,false⟩,⟨777777,[],true,false⟩] Try.f12.results.toList R) fuel) m [kc Try.f12 [1,1,1,1,0,1,0,0,1,1,0,0,1,1,0,1,0],kc Try.f12 [1,1,1,1,0,1,0,0,1,1,0,0,1,1,1],.inBlock 3,kc Try.f12 [1,1,1,1,0,1,0,0,1,1,1],ki Try.f12 [1,1,1,1,0,1,0,0],.inBlock 2,kc Try.f12 [1,1,1,1,1]] (Vv 200000::Uu::Uu::AV.one (AC.map 20)::(us 5 (Vv 100009::Ii x7::AV.one (AC.el 200000 0 (nat x7))::AV.one (AC.ptr 12 0 0)::Uu::Ll false::(us 32 (Vv 200000::Ii (ofNat (llen ll))::Ii x7::Ll true::Ii x7::AV.one (AC.vptr 200000 1 (nat x7) 0 0)::AV.one (AC.el 200000 0 (nat x7))::AV.tup [(TV.g [Seg.ints IntKind.u8 8 (lzeros 8)]),TV.c (AC.con (Value.slice (Option.none) 0 0)),TV.c (AC.lit false)]::AV.one (AC.el 200000 0 (nat x7))::AV.tup [(TV.g [Seg.ints IntKind.u8 8 (lzeros 8)]),TV.c (AC.con (Value.slice (Option.none) 0 0)),TV.c (AC.lit false)]::(AV.agg [Seg.ints IntKind.u8 8 (lzeros 8)])::AV.one (AC.con (Value.slice (Option.none) 0 0))::Ll false::Ll false::Ll true::(us 46 [Zz])))))) [(12,Blk.own 35 [Seg.ints IntKind.u8 8 (lzeros 8)]),(20,Blk.map (KK.arr IntKind.u8 8) (MVs.hss IntKind.i64 x1)),(100009,Blk.vec [Col.hss IntKind.u8 x8]),(200000,Blk.rview [Col.rows IntKind.u8 ll]),(900003,Blk.heap IntKind.i64 x2),(900004,Blk.heap IntKind.u8 x9)]
def exch.k24 (R : AV → Mem → Prop) (x7 : Int) (ll : List (List Int)) (x1 : List (List Int × HS)) (x8 : List HS) (x2 x9 : List (List Int)) (fuel m : Nat) : Prop := runM Try.prog gamD1 [⟨9,[.rows .u8],true,false⟩,⟨777777,[],true,false⟩] (resh Try.prog [⟨9,[.rows .u8],true,false⟩,⟨777777,[],true,false⟩] Try.f12.results.toList R) (run Try.prog gamD1 [⟨9,[.rows .u8],true,false⟩,⟨777777,[],true,false⟩] (resh Try.prog [⟨9,[.rows .u8],true,false⟩,⟨777777,[],true,false⟩] Try.f12.results.toList R) fuel) m [kc Try.f12 [1,1,1,1,0,1,0,0,1,1,0,0,1],.inBlock 3,kc Try.f12 [1,1,1,1,0,1,0,0,1,1,1],ki Try.f12 [1,1,1,1,0,1,0,0],.inBlock 2,kc Try.f12 [1,1,1,1,1]] (Vv 200000::Uu::Uu::AV.one (AC.map 20)::(us 5 (Vv 100009::Ii x7::AV.one (AC.el 200000 0 (nat x7))::(us 35 (Vv 200000::Ii (ofNat (llen ll))::Ii x7::Ll true::Ii x7::AV.one (AC.vptr 200000 1 (nat x7) 0 0)::AV.one (AC.el 200000 0 (nat x7))::(us 54 [Zz])))))) [(20,Blk.map (KK.arr IntKind.u8 8) (MVs.hss IntKind.i64 x1)),(100009,Blk.vec [Col.hss IntKind.u8 x8]),(200000,Blk.rview [Col.rows IntKind.u8 ll]),(900003,Blk.heap IntKind.i64 x2),(900004,Blk.heap IntKind.u8 x9)]
def exch.k25 (R : AV → Mem → Prop) (ll : List (List Int)) (x7 : Int) (x1 : List (List Int × HS)) (x8 : List HS) (x2 x9 : List (List Int)) (fuel m : Nat) : Prop := runM Try.prog gamD1 [⟨9,[.rows .u8],true,false⟩,⟨777777,[],true,false⟩] (resh Try.prog [⟨9,[.rows .u8],true,false⟩,⟨777777,[],true,false⟩] Try.f12.results.toList R) (run Try.prog gamD1 [⟨9,[.rows .u8],true,false⟩,⟨777777,[],true,false⟩] (resh Try.prog [⟨9,[.rows .u8],true,false⟩,⟨777777,[],true,false⟩] Try.f12.results.toList R) fuel) m [kc Try.f12 [1,1,0,1,0,0,1,0,0],kc Try.f12 [1,1,1,1,0,1,0,0,1,1],ki Try.f12 [1,1,1,1,0,1,0,0],.inBlock 2,kc Try.f12 [1,1,1,1,1]] (Vv 200000::Uu::Uu::AV.one (AC.map 20)::(us 5 (Vv 100009::(us 37 (Vv 200000::Ii (ofNat (llen ll))::Ii x7::Ll true::(us 57 [Zz])))))) [(20,Blk.map (KK.arr IntKind.u8 8) (MVs.hss IntKind.i64 x1)),(100009,Blk.vec [Col.hss IntKind.u8 x8]),(200000,Blk.rview [Col.rows IntKind.u8 ll]),(900003,Blk.heap IntKind.i64 x2),(900004,Blk.heap IntKind.u8 x9)]
def exch.k26 (R : AV → Mem → Prop) (ll : List (List Int)) (x7 : Int) (x1 : List (List Int × HS)) (x8 : List HS) (x2 x9 : List (List Int)) (fuel m : Nat) : Prop := runM Try.prog gamD1 [⟨9,[.rows .u8],true,false⟩,⟨777777,[],true,false⟩] (resh Try.prog [⟨9,[.rows .u8],true,false⟩,⟨777777,[],true,false⟩] Try.f12.results.toList R) (run Try.prog gamD1 [⟨9,[.rows .u8],true,false⟩,⟨777777,[],true,false⟩] (resh Try.prog [⟨9,[.rows .u8],true,false⟩,⟨777777,[],true,false⟩] Try.f12.results.toList R) fuel) m [kc Try.f12 [1,1,1,1,1,1]] (Vv 200000::Uu::Vv 100009::AV.one (AC.map 20)::(us 5 (Vv 100009::(us 37 (Vv 200000::Ii (ofNat (llen ll))::Ii x7::Ll false::(us 57 [Vv 100009])))))) [(20,Blk.map (KK.arr IntKind.u8 8) (MVs.hss IntKind.i64 x1)),(100009,Blk.vec [Col.hss IntKind.u8 x8]),(200000,Blk.rview [Col.rows IntKind.u8 ll]),(900003,Blk.heap IntKind.i64 x2),(900004,Blk.heap IntKind.u8 x9)]
def exch.k27 (R : AV → Mem → Prop) (ll : List (List Int)) (x7 : Int) (x1 : List (List Int × HS)) (x8 : List HS) (x2 x9 : List (List Int)) (fuel m : Nat) : Prop := runM Try.prog gamD1 [⟨9,[.rows .u8],true,false⟩,⟨777777,[],true,false⟩] (resh Try.prog [⟨9,[.rows .u8],true,false⟩,⟨777777,[],true,false⟩] Try.f12.results.toList R) (run Try.prog gamD1 [⟨9,[.rows .u8],true,false⟩,⟨777777,[],true,false⟩] (resh Try.prog [⟨9,[.rows .u8],true,false⟩,⟨777777,[],true,false⟩] Try.f12.results.toList R) fuel) m [kc Try.f12 [1,1,1,1,0,1,0,0,1],ki Try.f12 [1,1,1,1,0,1,0,0],.inBlock 2,kc Try.f12 [1,1,1,1,1]] (Vv 200000::Uu::Uu::AV.one (AC.map 20)::(us 5 (Vv 100009::(us 37 (Vv 200000::Ii (ofNat (llen ll))::Ii x7::Bb (ilt x7 (ofNat (llen ll)))::(us 57 [Zz])))))) [(20,Blk.map (KK.arr IntKind.u8 8) (MVs.hss IntKind.i64 x1)),(100009,Blk.vec [Col.hss IntKind.u8 x8]),(200000,Blk.rview [Col.rows IntKind.u8 ll]),(900003,Blk.heap IntKind.i64 x2),(900004,Blk.heap IntKind.u8 x9)]
def exch.l1 (R : AV → Mem → Prop) (ll : List (List Int)) (x1 : List (List Int × HS)) (x2 : List (List Int)) (fuel : Nat) (x7 : Int) (x8 : List HS) (x9 : List (List Int)) : Prop := run Try.prog gamD1 [⟨9,[.rows .u8],true,false⟩,⟨777777,[],true,false⟩] (resh Try.prog [⟨9,[.rows .u8],true,false⟩,⟨777777,[],true,false⟩] Try.f12.results.toList R) fuel [kc Try.f12 [1,1,1,1,0,1,0,0],ki Try.f12 [1,1,1,1,0,1,0,0],.inBlock 2,kc Try.f12 [1,1,1,1,1]] (Vv 200000::Uu::Uu::AV.one (AC.map 20)::(us 5 (Vv 100009::(us 37 (Vv 200000::Ii (ofNat (llen ll))::Ii x7::(us 58 [Zz])))))) [(20,Blk.map (KK.arr IntKind.u8 8) (MVs.hss IntKind.i64 x1)),(100009,Blk.vec [Col.hss IntKind.u8 x8]),(200000,Blk.rview [Col.rows IntKind.u8 ll]),(900003,Blk.heap IntKind.i64 x2),(900004,Blk.heap IntKind.u8 x9)]
def exch.k28 (R : AV → Mem → Prop) (ll : List (List Int)) (x0 : Int) (x1 : List (List Int × HS)) (x2 : List (List Int)) (fuel m : Nat) : Prop := runM Try.prog gamD1 [⟨9,[.rows .u8],true,false⟩,⟨777777,[],true,false⟩] (resh Try.prog [⟨9,[.rows .u8],true,false⟩,⟨777777,[],true,false⟩] Try.f12.results.toList R) (run Try.prog gamD1 [⟨9,[.rows .u8],true,false⟩,⟨777777,[],true,false⟩] (resh Try.prog [⟨9,[.rows .u8],true,false⟩,⟨777777,[],true,false⟩] Try.f12.results.toList R) fuel) m [kc Try.f12 [1,1,1,1,0,1],kc Try.f12 [1,1,1,1,1]] (Vv 200000::Uu::Uu::AV.one (AC.map 20)::(us 5 (Vv 46::Zz::Zz::Zz::Uu::(zs 5 (Uu::Uu::Vv 200000::Ii (ofNat (llen ll))::Ii x0::Ll false::(us 19 (Vv 200000::Ii (ofNat (llen ll))::Vv 46::Vv 200000::Ii (ofNat (llen ll))::Ii 0::(zs 59 [])))))))) [(20,Blk.map (KK.arr IntKind.u8 8) (MVs.hss IntKind.i64 x1)),(46,Blk.vec [Col.hss IntKind.u8 (hzeros 0)]),(200000,Blk.rview [Col.rows IntKind.u8 ll]),(900003,Blk.heap IntKind.i64 x2),(900004,Blk.heap IntKind.u8 [[]])]
def exch.k29 (R : AV → Mem → Prop) (ll : List (List Int)) (x0 : Int) (x1 : List (List Int × HS)) (x2 : List (List Int)) (fuel m : Nat) : Prop := runM Try.prog gamD1 [⟨9,[.rows .u8],true,false⟩,⟨777777,[],true,false⟩] (resh Try.prog [⟨9,[.rows .u8],true,false⟩,⟨777777,[],true,false⟩] Try.f12.results.toList R) (run Try.prog gamD1 [⟨9,[.rows .u8],true,false⟩,⟨777777,[],true,false⟩] (resh Try.prog [⟨9,[.rows .u8],true,false⟩,⟨777777,[],true,false⟩] Try.f12.results.toList R) fuel) m [kc Try.f12 [1,1,0,1,0,0,1,0,1],kc Try.f12 [1,1,0,1,0,0,1,1],ki Try.f12 [1,1,0,1,0,0],.inBlock 0,kc Try.f12 [1,1,1]] (Vv 200000::Uu::Uu::AV.one (AC.map 20)::(us 5 (zs 4 (Uu::(zs 5 (Uu::Uu::Vv 200000::Ii (ofNat (llen ll))::Ii x0::Ll false::(us 19 (zs 65 [])))))))) [(20,Blk.map (KK.arr IntKind.u8 8) (MVs.hss IntKind.i64 x1)),(200000,Blk.rview [Col.rows IntKind.u8 ll]),(900003,Blk.heap IntKind.i64 x2),(900004,Blk.heap IntKind.u8 [[]])]
def exch.k30 (R : AV → Mem → Prop) (ll : List (List Int)) (x0 : Int) (x1 : List (List Int × HS)) (x2 : List (List Int)) (fuel m : Nat) : Prop := runM Try.prog gamD1 [⟨9,[.rows .u8],true,false⟩,⟨777777,[],true,false⟩] (resh Try.prog [⟨9,[.rows .u8],true,false⟩,⟨777777,[],true,false⟩] Try.f12.results.toList R) (run Try.prog gamD1 [⟨9,[.rows .u8],true,false⟩,⟨777777,[],true,false⟩] (resh Try.prog [⟨9,[.rows .u8],true,false⟩,⟨777777,[],true,false⟩] Try.f12.results.toList R) fuel) m [kc Try.f12 [1,1,0,1,0,0,1],ki Try.f12 [1,1,0,1,0,0],.inBlock 0,kc Try.f12 [1,1,1]] (Vv 200000::Uu::Uu::AV.one (AC.map 20)::(us 5 (zs 4 (Uu::(zs 5 (Uu::Uu::Vv 200000::Ii (ofNat (llen ll))::Ii x0::Bb (ilt x0 (ofNat (llen ll)))::(us 19 (zs 65 [])))))))) [(20,Blk.map (KK.arr IntKind.u8 8) (MVs.hss IntKind.i64 x1)),(200000,Blk.rview [Col.rows IntKind.u8 ll]),(900003,Blk.heap IntKind.i64 x2),(900004,Blk.heap IntKind.u8 [[]])]
def exch.l0 (R : AV → Mem → Prop) (ll : List (List Int)) (fuel : Nat) (x0 : Int) (x1 : List (List Int × HS)) (x2 : List (List Int)) : Prop := run Try.prog gamD1 [⟨9,[.rows .u8],true,false⟩,⟨777777,[],true,false⟩] (resh Try.prog [⟨9,[.rows .u8],true,false⟩,⟨777777,[],true,false⟩] Try.f12.results.toList R) fuel [kc Try.f12 [1,1,0,1,0,0],ki Try.f12 [1,1,0,1,0,0],.inBlock 0,kc Try.f12 [1,1,1]] (Vv 200000::Uu::Uu::AV.one (AC.map 20)::(us 5 (zs 4 (Uu::(zs 5 (Uu::Uu::Vv 200000::Ii (ofNat (llen ll))::Ii x0::(us 20 (zs 65 [])))))))) [(20,Blk.map (KK.arr IntKind.u8 8) (MVs.hss IntKind.i64 x1)),(200000,Blk.rview [Col.rows IntKind.u8 ll]),(900003,Blk.heap IntKind.i64 x2),(900004,Blk.heap IntKind.u8 [[]])]
def exch.k31 (R : AV → Mem → Prop) (ll : List (List Int)) (fuel m : Nat) : Prop := runM Try.prog gamD1 [⟨9,[.rows .u8],true,false⟩,⟨777777,[],true,false⟩] (resh Try.prog [⟨9,[.rows .u8],true,false⟩,⟨777777,[],true,false⟩] Try.f12.results.toList R) (run Try.prog gamD1 [⟨9,[.rows .u8],true,false⟩,⟨777777,[],true,false⟩] (resh Try.prog [⟨9,[.rows .u8],true,false⟩,⟨777777,[],true,false⟩] Try.f12.results.toList R) fuel) m [kc Try.f12 [1,1,0,1],kc Try.f12 [1,1,1]] (Vv 200000::Zz::AV.one (AC.con (Value.slice (Option.none) 0 0))::AV.one (AC.map 20)::(zs 16 (AV.one (AC.map 20)::Vv 200000::Ii (ofNat (llen ll))::Ii 0::(zs 85 [])))) [(20,Blk.map (KK.arr IntKind.u8 8) (MVs.hss IntKind.i64 ([] : List (List Int × HS)))),(200000,Blk.rview [Col.rows IntKind.u8 ll]),(900003,Blk.heap IntKind.i64 [[]]),(900004,Blk.heap IntKind.u8 [[]])]
def exch.k32 (R : AV → Mem → Prop) (ll : List (List Int)) (fuel m : Nat) : Prop := runM Try.prog gamD1 [⟨9,[.rows .u8],true,false⟩,⟨777777,[],true,false⟩] (resh Try.prog [⟨9,[.rows .u8],true,false⟩,⟨777777,[],true,false⟩] Try.f12.results.toList R) (run Try.prog gamD1 [⟨9,[.rows .u8],true,false⟩,⟨777777,[],true,false⟩] (resh Try.prog [⟨9,[.rows .u8],true,false⟩,⟨777777,[],true,false⟩] Try.f12.results.toList R) fuel) m [kc Try.f12 [1]] (Vv 200000::Zz::AV.one (AC.con (Value.slice (Option.none) 0 0))::(zs 106 [])) [(200000,Blk.rview [Col.rows IntKind.u8 ll]),(900003,Blk.heap IntKind.i64 [[]]),(900004,Blk.heap IntKind.u8 [[]])]
theorem exch.k0_eq (R : AV → Mem → Prop) (x0 : Int) (ll : List (List Int)) (x1 : List (List Int × HS)) (j'4 : Nat) (off'5 : Nat) (y6 : List (List Int × HS)) (os'3 : List (List Int)) (fuel m : Nat) : exch.k0 R x0 ll x1 j'4 off'5 y6 os'3 fuel (m + 100) = ((exch.l0 R ll fuel (add IntKind.i64 x0 1) y6 os'3)) := by kernel_rfl
theorem exch.k1_eq (R : AV → Mem → Prop) (x0 : Int) (ll : List (List Int)) (x1 : List (List Int × HS)) (j'4 : Nat) (off'5 : Nat) (os'3 : List (List Int)) (fuel m : Nat) : exch.k1 R x0 ll x1 j'4 off'5 os'3 fuel (m + 2) = ((let y6 : List (List Int × HS) := (mseti (ment (HS.mk 0 0 0) x1 (lsub (llget ll (nat x0)) 0 8)) (nat (ofNat (mix x1 (lsub (llget ll (nat x0)) 0 8)))) (HS.mk j'4 off'5 (nadd (hl (mget (HS.mk 0 0 0) x1 (lsub (llget ll (nat x0)) 0 8))) (llen [x0])))); (exch.k0 R x0 ll x1 j'4 off'5 y6 os'3 fuel m))) := by kernel_rfl
theorem exch.k2_eq (R : AV → Mem → Prop) (x0 : Int) (ll : List (List Int)) (x1 : List (List Int × HS)) (x2 : List (List Int)) (fuel m : Nat) : exch.k2 R x0 ll x1 x2 fuel (m + 1) = (((Room (nadd (hl (mget (HS.mk 0 0 0) x1 (lsub (llget ll (nat x0)) 0 8))) (llen [x0])) 8) ∧ (∀ os'3 : List (List Int),(∀ j'4 : Nat,(∀ off'5 : Nat,((AppR x2 (hj (mget (HS.mk 0 0 0) x1 (lsub (llget ll (nat x0)) 0 8))) (ho (mget (HS.mk 0 0 0) x1 (lsub (llget ll (nat x0)) 0 8))) (hl (mget (HS.mk 0 0 0) x1 (lsub (llget ll (nat x0)) 0 8))) [x0] os'3 j'4 off'5) → ((InB (ofNat (mix x1 (lsub (llget ll (nat x0)) 0 8))) (mlen (ment (HS.mk 0 0 0) x1 (lsub (llget ll (nat x0)) 0 8)))) ∧ (exch.k1 R x0 ll x1 j'4 off'5 os'3 fuel m)))))))) := by kernel_rfl
theorem exch.k3_eq (R : AV → Mem → Prop) (x0 : Int) (ll : List (List Int)) (x1 : List (List Int × HS)) (x2 : List (List Int)) (fuel m : Nat) : exch.k3 R x0 ll x1 x2 fuel (m + 100) = ((exch.l0 R ll fuel (add IntKind.i64 x0 1) x1 x2)) := by kernel_rfl
theorem exch.k4_eq (R : AV → Mem → Prop) (x0 : Int) (ll : List (List Int)) (x1 : List (List Int × HS)) (x2 : List (List Int)) (fuel m : Nat) : exch.k4 R x0 ll x1 x2 fuel (m + 6) = ((exch.k3 R x0 ll x1 x2 fuel m)) := by kernel_rfl
theorem exch.k5_eq (R : AV → Mem → Prop) (x0 : Int) (ll : List (List Int)) (x1 : List (List Int × HS)) (x2 : List (List Int)) (fuel m : Nat) : exch.k5 R x0 ll x1 x2 fuel (m + 5) = (((((rtB (llget ll (nat x0))) = true) → (exch.k2 R x0 ll x1 x2 fuel m)) ∧ (((rtB (llget ll (nat x0))) = false) → (exch.k4 R x0 ll x1 x2 fuel (m + 3))))) := by kernel_rfl
theorem exch.k6_eq (R : AV → Mem → Prop) (ll : List (List Int)) (x0 : Int) (x1 : List (List Int × HS)) (x2 : List (List Int)) (fuel m : Nat) : exch.k6 R ll x0 x1 x2 fuel (m + 5) = (((InB x0 (llen ll)) ∧ (exch.k5 R x0 ll x1 x2 fuel m))) := by kernel_rfl
theorem exch.k7_eq (R : AV → Mem → Prop) (x7 : Int) (x1 : List (List Int × HS)) (ll x9 : List (List Int)) (x8 : List HS) (x2 : List (List Int)) (fuel m : Nat) : exch.k7 R x7 x1 ll x9 x8 x2 fuel (m + 100) = ((exch.l1 R ll x1 x2 fuel (add IntKind.i64 x7 1) (lcat x8 [(HS.mk (llen x9) 0 1)]) (List.append x9 [[0]]))) := by kernel_rfl
theorem exch.k8_eq (R : AV → Mem → Prop) (x7 : Int) (x1 : List (List Int × HS)) (ll : List (List Int)) (x8 : List HS) (x2 x9 : List (List Int)) (fuel m : Nat) : exch.k8 R x7 x1 ll x8 x2 x9 fuel (m + 4) = (((Room (nadd (llen x8) (llen [(HS.mk (llen x9) 0 1)])) 24) ∧ (exch.k7 R x7 x1 ll x9 x8 x2 fuel m))) := by kernel_rfl
theorem exch.k9_eq (R : AV → Mem → Prop) (x7 : Int) (x1 : List (List Int × HS)) (ll : List (List Int)) (y10 y11 y12 y13 : Int) (x9 : List (List Int)) (y14 y15 : List HS) (x2 : List (List Int)) (fuel m : Nat) : exch.k9 R x7 x1 ll y10 y11 y12 y13 x9 y14 y15 x2 fuel (m + 100) = ((exch.l1 R ll x1 x2 fuel (add IntKind.i64 x7 1) y15 (List.append x9 [(lcat [1] (lsub (llget ll (nat y10)) 8 (nsub (llen (llget ll (nat y10))) 8)))]))) := by kernel_rfl
theorem exch.k10_eq (R : AV → Mem → Prop) (x7 : Int) (x1 : List (List Int × HS)) (ll : List (List Int)) (y10 y11 y12 y13 : Int) (x9 : List (List Int)) (x8 : List HS) (x2 : List (List Int)) (fuel m : Nat) : exch.k10 R x7 x1 ll y10 y11 y12 y13 x9 x8 x2 fuel (m + 3) = ((let y14 : List HS := [(HS.mk (llen x9) 0 (llen (lcat [1] (lsub (llget ll (nat y10)) 8 (nsub (llen (llget ll (nat y10))) 8)))))]; (let y15 : List HS := (lcat x8 [(HS.mk (llen x9) 0 (llen (lcat [1] (lsub (llget ll (nat y10)) 8 (nsub (llen (llget ll (nat y10))) 8)))))]); (exch.k9 R x7 x1 ll y10 y11 y12 y13 x9 y14 y15 x2 fuel m)))) := by kernel_rfl
theorem exch.k11_eq (R : AV → Mem → Prop) (x7 : Int) (x1 : List (List Int × HS)) (ll : List (List Int)) (y10 y11 y12 y13 : Int) (x8 : List HS) (x2 x9 : List (List Int)) (fuel m : Nat) : exch.k11 R x7 x1 ll y10 y11 y12 y13 x8 x2 x9 fuel (m + 1) = (((Room (nadd 1 (llen (lsub (llget ll (nat y10)) 8 (nsub (llen (llget ll (nat y10))) 8)))) 1) ∧ ((Room (nadd (llen x8) (llen [(HS.mk (llen x9) 0 (llen (lcat [1] (lsub (llget ll (nat y10)) 8 (nsub (llen (llget ll (nat y10))) 8)))))])) 24) ∧ (exch.k10 R x7 x1 ll y10 y11 y12 y13 x9 x8 x2 fuel m)))) := by kernel_rfl
theorem exch.k12_eq (R : AV → Mem → Prop) (x7 : Int) (x1 : List (List Int × HS)) (ll : List (List Int)) (y10 y11 y12 y13 : Int) (x9 : List (List Int)) (x8 : List HS) (x2 : List (List Int)) (fuel m : Nat) : exch.k12 R x7 x1 ll y10 y11 y12 y13 x9 x8 x2 fuel (m + 100) = ((exch.l1 R ll x1 x2 fuel (add IntKind.i64 x7 1) (lcat x8 [(HS.mk (llen x9) 0 1)]) (List.append x9 [(lcat [1] [])]))) := by kernel_rfl
theorem exch.k13_eq (R : AV → Mem → Prop) (x7 : Int) (x1 : List (List Int × HS)) (ll : List (List Int)) (y10 y11 y12 y13 : Int) (x8 : List HS) (x2 x9 : List (List Int)) (fuel m : Nat) : exch.k13 R x7 x1 ll y10 y11 y12 y13 x8 x2 x9 fuel (m + 4) = (((Room 1 1) ∧ ((Room (nadd (llen x8) (llen [(HS.mk (llen x9) 0 1)])) 24) ∧ (exch.k12 R x7 x1 ll y10 y11 y12 y13 x9 x8 x2 fuel m)))) := by kernel_rfl
theorem exch.k14_eq (R : AV → Mem → Prop) (x7 : Int) (x1 : List (List Int × HS)) (ll x2 : List (List Int)) (x8 : List HS) (x9 : List (List Int)) (fuel m : Nat) : exch.k14 R x7 x1 ll x2 x8 x9 fuel (m + 2) = ((let y10 : Int := (sub IntKind.i64 (add IntKind.i64 (lget (llget x2 (hj (mget (HS.mk 0 0 0) x1 (lsub (llget ll (nat x7)) 0 8)))) (nadd (ho (mget (HS.mk 0 0 0) x1 (lsub (llget ll (nat x7)) 0 8))) 0)) (lget (llget x2 (hj (mget (HS.mk 0 0 0) x1 (lsub (llget ll (nat x7)) 0 8)))) (nadd (ho (mget (HS.mk 0 0 0) x1 (lsub (llget ll (nat x7)) 0 8))) 1))) x7); (let y11 : Int := (lget (llget x2 (hj (mget (HS.mk 0 0 0) x1 (lsub (llget ll (nat x7)) 0 8)))) (nadd (ho (mget (HS.mk 0 0 0) x1 (lsub (llget ll (nat x7)) 0 8))) 0)); (let y12 : Int := (lget (llget x2 (hj (mget (HS.mk 0 0 0) x1 (lsub (llget ll (nat x7)) 0 8)))) (nadd (ho (mget (HS.mk 0 0 0) x1 (lsub (llget ll (nat x7)) 0 8))) 1)); (let y13 : Int := (add IntKind.i64 (lget (llget x2 (hj (mget (HS.mk 0 0 0) x1 (lsub (llget ll (nat x7)) 0 8)))) (nadd (ho (mget (HS.mk 0 0 0) x1 (lsub (llget ll (nat x7)) 0 8))) 0)) (lget (llget x2 (hj (mget (HS.mk 0 0 0) x1 (lsub (llget ll (nat x7)) 0 8)))) (nadd (ho (mget (HS.mk 0 0 0) x1 (lsub (llget ll (nat x7)) 0 8))) 1))); ((InB y10 (llen ll)) ∧ ((((rtB (llget ll (nat y10))) = true) → (exch.k11 R x7 x1 ll y10 y11 y12 y13 x8 x2 x9 fuel m)) ∧ (((rtB (llget ll (nat y10))) = false) → (exch.k13 R x7 x1 ll y10 y11 y12 y13 x8 x2 x9 fuel m))))))))) := by kernel_rfl
theorem exch.k15_eq (R : AV → Mem → Prop) (x7 : Int) (x1 : List (List Int × HS)) (ll : List (List Int)) (x8 : List HS) (x2 x9 : List (List Int)) (fuel m : Nat) : exch.k15 R x7 x1 ll x8 x2 x9 fuel (m + 2) = (((InB 0 (hl (mget (HS.mk 0 0 0) x1 (lsub (llget ll (nat x7)) 0 8)))) ∧ ((InB 1 (hl (mget (HS.mk 0 0 0) x1 (lsub (llget ll (nat x7)) 0 8)))) ∧ (exch.k14 R x7 x1 ll x2 x8 x9 fuel m)))) := by kernel_rfl
theorem exch.k16_eq (R : AV → Mem → Prop) (x7 : Int) (x1 : List (List Int × HS)) (ll x9 : List (List Int)) (x8 : List HS) (x2 : List (List Int)) (fuel m : Nat) : exch.k16 R x7 x1 ll x9 x8 x2 fuel (m + 100) = ((exch.l1 R ll x1 x2 fuel (add IntKind.i64 x7 1) (lcat x8 [(HS.mk (llen x9) 0 1)]) (List.append x9 [[2]]))) := by kernel_rfl
theorem exch.k17_eq (R : AV → Mem → Prop) (x7 : Int) (x1 : List (List Int × HS)) (ll : List (List Int)) (x8 : List HS) (x2 x9 : List (List Int)) (fuel m : Nat) : exch.k17 R x7 x1 ll x8 x2 x9 fuel (m + 4) = (((Room (nadd (llen x8) (llen [(HS.mk (llen x9) 0 1)])) 24) ∧ (exch.k16 R x7 x1 ll x9 x8 x2 fuel m))) := by kernel_rfl
theorem exch.k18_eq (R : AV → Mem → Prop) (x7 : Int) (x1 : List (List Int × HS)) (ll : List (List Int)) (x8 : List HS) (x2 x9 : List (List Int)) (fuel m : Nat) : exch.k18 R x7 x1 ll x8 x2 x9 fuel (m + 1) = (((((ieq (ofNat (hl (mget (HS.mk 0 0 0) x1 (lsub (llget ll (nat x7)) 0 8)))) 2) = true) → (exch.k15 R x7 x1 ll x8 x2 x9 fuel m)) ∧ (((ieq (ofNat (hl (mget (HS.mk 0 0 0) x1 (lsub (llget ll (nat x7)) 0 8)))) 2) = false) → (exch.k17 R x7 x1 ll x8 x2 x9 fuel m)))) := by kernel_rfl
theorem exch.k19_eq (R : AV → Mem → Prop) (x7 : Int) (x1 : List (List Int × HS)) (ll : List (List Int)) (x8 : List HS) (x2 x9 : List (List Int)) (fuel m : Nat) : exch.k19 R x7 x1 ll x8 x2 x9 fuel (m + 3) = (((((ieq (ofNat (hl (mget (HS.mk 0 0 0) x1 (lsub (llget ll (nat x7)) 0 8)))) 1) = true) → (exch.k8 R x7 x1 ll x8 x2 x9 fuel (m + 2))) ∧ (((ieq (ofNat (hl (mget (HS.mk 0 0 0) x1 (lsub (llget ll (nat x7)) 0 8)))) 1) = false) → (exch.k18 R x7 x1 ll x8 x2 x9 fuel m)))) := by kernel_rfl
theorem exch.k20_eq (R : AV → Mem → Prop) (x7 : Int) (x1 : List (List Int × HS)) (ll : List (List Int)) (x8 : List HS) (x2 x9 : List (List Int)) (fuel m : Nat) : exch.k20 R x7 x1 ll x8 x2 x9 fuel (m + 5) = ((exch.k19 R x7 x1 ll x8 x2 x9 fuel m)) := by kernel_rfl
theorem exch.k21_eq (R : AV → Mem → Prop) (x7 : Int) (ll : List (List Int)) (x1 : List (List Int × HS)) (x8 : List HS) (x2 x9 : List (List Int)) (fuel m : Nat) : exch.k21 R x7 ll x1 x8 x2 x9 fuel (m + 7) = ((exch.k20 R x7 x1 ll x8 x2 x9 fuel m)) := by kernel_rfl
theorem exch.k22_eq (R : AV → Mem → Prop) (x7 : Int) (ll x9 : List (List Int)) (x1 : List (List Int × HS)) (x8 : List HS) (x2 : List (List Int)) (fuel m : Nat) : exch.k22 R x7 ll x9 x1 x8 x2 fuel (m + 100) = ((exch.l1 R ll x1 x2 fuel (add IntKind.i64 x7 1) (lcat x8 [(HS.mk (llen x9) 0 1)]) (List.append x9 [[3]]))) := by kernel_rfl
theorem exch.k23_eq (R : AV → Mem → Prop) (x7 : Int) (ll : List (List Int)) (x1 : List (List Int × HS)) (x8 : List HS) (x2 x9 : List (List Int)) (fuel m : Nat) : exch.k23 R x7 ll x1 x8 x2 x9 fuel (m + 4) = (((Room (nadd (llen x8) (llen [(HS.mk (llen x9) 0 1)])) 24) ∧ (exch.k22 R x7 ll x9 x1 x8 x2 fuel m))) := by kernel_rfl
theorem exch.k24_eq (R : AV → Mem → Prop) (x7 : Int) (ll : List (List Int)) (x1 : List (List Int × HS)) (x8 : List HS) (x2 x9 : List (List Int)) (fuel m : Nat) : exch.k24 R x7 ll x1 x8 x2 x9 fuel (m + 6) = (((((rtB (llget ll (nat x7))) = true) → (exch.k21 R x7 ll x1 x8 x2 x9 fuel (m + 4))) ∧ (((rtB (llget ll (nat x7))) = false) → (exch.k23 R x7 ll x1 x8 x2 x9 fuel m)))) := by kernel_rfl
theorem exch.k25_eq (R : AV → Mem → Prop) (ll : List (List Int)) (x7 : Int) (x1 : List (List Int × HS)) (x8 : List HS) (x2 x9 : List (List Int)) (fuel m : Nat) : exch.k25 R ll x7 x1 x8 x2 x9 fuel (m + 5) = (((InB x7 (llen ll)) ∧ (exch.k24 R x7 ll x1 x8 x2 x9 fuel m))) := by kernel_rfl
theorem exch.k26_eq (R : AV → Mem → Prop) (ll : List (List Int)) (x7 : Int) (x1 : List (List Int × HS)) (x8 : List HS) (x2 x9 : List (List Int)) (fuel m : Nat) : exch.k26 R ll x7 x1 x8 x2 x9 fuel (m + 100) = ((R (Vv 100009) [(20,Blk.map (KK.arr IntKind.u8 8) (MVs.hss IntKind.i64 x1)),(100009,Blk.vec [Col.hss IntKind.u8 x8]),(200000,Blk.rview [Col.rows IntKind.u8 ll]),(900003,Blk.heap IntKind.i64 x2),(900004,Blk.heap IntKind.u8 x9)])) := by kernel_rfl
theorem exch.k27_eq (R : AV → Mem → Prop) (ll : List (List Int)) (x7 : Int) (x1 : List (List Int × HS)) (x8 : List HS) (x2 x9 : List (List Int)) (fuel m : Nat) : exch.k27 R ll x7 x1 x8 x2 x9 fuel (m + 5) = (((((ilt x7 (ofNat (llen ll))) = true) → (exch.k25 R ll x7 x1 x8 x2 x9 fuel (m + 3))) ∧ (((ilt x7 (ofNat (llen ll))) = false) → (exch.k26 R ll x7 x1 x8 x2 x9 fuel m)))) := by kernel_rfl
theorem exch.l1_succ (R : AV → Mem → Prop) (ll : List (List Int)) (x1 : List (List Int × HS)) (x2 : List (List Int)) (fuel : Nat) (x7 : Int) (x8 : List HS) (x9 : List (List Int)) : exch.l1 R ll x1 x2 (fuel + 1) x7 x8 x9 = ((exch.k27 R ll x7 x1 x8 x2 x9 fuel 3998)) := by kernel_rfl
theorem exch.k28_eq (R : AV → Mem → Prop) (ll : List (List Int)) (x0 : Int) (x1 : List (List Int × HS)) (x2 : List (List Int)) (fuel m : Nat) : exch.k28 R ll x0 x1 x2 fuel (m + 100) = ((exch.l1 R ll x1 x2 fuel 0 (hzeros 0) [[]])) := by kernel_rfl
theorem exch.k29_eq (R : AV → Mem → Prop) (ll : List (List Int)) (x0 : Int) (x1 : List (List Int × HS)) (x2 : List (List Int)) (fuel m : Nat) : exch.k29 R ll x0 x1 x2 fuel (m + 6) = (((Mk 0 (ofNat (llen ll)) 24) ∧ (exch.k28 R ll x0 x1 x2 fuel m))) := by kernel_rfl
theorem exch.k30_eq (R : AV → Mem → Prop) (ll : List (List Int)) (x0 : Int) (x1 : List (List Int × HS)) (x2 : List (List Int)) (fuel m : Nat) : exch.k30 R ll x0 x1 x2 fuel (m + 2) = (((((ilt x0 (ofNat (llen ll))) = true) → (exch.k6 R ll x0 x1 x2 fuel m)) ∧ (((ilt x0 (ofNat (llen ll))) = false) → (exch.k29 R ll x0 x1 x2 fuel m)))) := by kernel_rfl
theorem exch.l0_succ (R : AV → Mem → Prop) (ll : List (List Int)) (fuel : Nat) (x0 : Int) (x1 : List (List Int × HS)) (x2 : List (List Int)) : exch.l0 R ll (fuel + 1) x0 x1 x2 = ((exch.k30 R ll x0 x1 x2 fuel 3998)) := by kernel_rfl
theorem exch.k31_eq (R : AV → Mem → Prop) (ll : List (List Int)) (fuel m : Nat) : exch.k31 R ll fuel (m + 100) = ((exch.l0 R ll fuel 0 ([] : List (List Int × HS)) [[]])) := by kernel_rfl
theorem exch.k32_eq (R : AV → Mem → Prop) (ll : List (List Int)) (fuel m : Nat) : exch.k32 R ll fuel (m + 5) = ((exch.k31 R ll fuel m)) := by kernel_rfl
theorem exch_vc0 (R : AV → Mem → Prop) (fuel m : Nat) (ll : List (List Int)) : runM Try.prog gamD1 [⟨9, [.rows .u8], true, false⟩, ⟨777777, [], true, false⟩] (resh Try.prog [⟨9, [.rows .u8], true, false⟩, ⟨777777, [], true, false⟩] Try.f12.results.toList R) (run Try.prog gamD1 [⟨9, [.rows .u8], true, false⟩, ⟨777777, [], true, false⟩] (resh Try.prog [⟨9, [.rows .u8], true, false⟩, ⟨777777, [], true, false⟩] Try.f12.results.toList R) fuel) (m + 2) [.code (bodyOf Try.f12)] (startFr Try.f12.ntmps [.one (.vec 200000)]) [(200000, .rview [.rows .u8 ll]), (900003, .heap .i64 [[]]), (900004, .heap .u8 [[]])] = (exch.k32 R ll fuel m) := by kernel_rfl
theorem exch_vc (R : AV → Mem → Prop) (fuel : Nat) (ll : List (List Int)) : callsx Try.prog gamD1 [⟨9, [.rows .u8], true, false⟩, ⟨777777, [], true, false⟩] Try.f12 (fuel + 1) [.one (.vec 200000)] [(200000, .rview [.rows .u8 ll]), (900003, .heap .i64 [[]]), (900004, .heap .u8 [[]])] R = (exch.k32 R ll fuel 3998) := exch_vc0 R fuel 3998 ll
theorem mixed : Try.prog.follows .mixedOrders = true := by kernel_rfl
end Go.Proofs.Ytnpfockaigegiaa.G
namespace Go.Sx
open Go
def exchS : Spec := ⟨1, false, fun d args σ K => match args with
 | [x] => rdr σ x fun ll => Fits (llen ll) 1000000000 ∧ K (.one (.vec d)) (Mem.ins d (.rview [.rows .u8 (exchL ll)]) σ)
 | _ => False⟩
end Go.Sx
namespace Go.Proofs.Ytnpfockaigegiaa.G
open Go Go.Sx
set_option maxRecDepth 20000
set_option maxHeartbeats 1000000
theorem dr_tt {A B : Prop} (h : A) : (true = true → A) ∧ (true = false → B) := ⟨fun _ => h, fun q => (by cases q)⟩
theorem dr_ff {A B : Prop} (h : B) : (false = true → A) ∧ (false = false → B) := ⟨fun q => (by cases q), fun _ => h⟩
theorem rt_yes {l : List Int} (h : rtB l = true) : 8 ≤ l.length ∧ l.length ≤ 48 := by
 simp only [rtB, Bool.and_eq_true, llen_def] at h
 exact ⟨Nat.le_of_ble_eq_true h.1, Nat.le_of_ble_eq_true h.2⟩
theorem rt_of {l : List Int} (h1 : 8 ≤ l.length) (h2 : l.length ≤ 48) : rtB l = true := by
 simp only [rtB, Bool.and_eq_true, llen_def]
 exact ⟨Nat.ble_eq_true_of_le h1, Nat.ble_eq_true_of_le h2⟩
theorem rt_no {l : List Int} (h : rtB l = false) : l.length < 8 ∨ 48 < l.length := by
 rcases Nat.lt_or_ge l.length 8 with q | q
 ·exact Or.inl q
 ·rcases Nat.lt_or_ge 48 l.length with r | r
  ·exact Or.inr r
  ·rw [rt_of q r] at h; cases h
def paπ (n x : Nat) : Nat := if x = 200000 then n else x
theorem good_parted : Sx.Good Try.prog 24 partedS := by
 refine Good.inlr (D := []) mixed (good0 _) Try.func24 (by kernel_rfl) rfl fun d args σ K h => ?_
 simp only [partedS] at h
 split at h <;> try exact h.elim
 rename_i n i
 split at h <;> try exact h.elim
 rename_i ll hf hh
 have tau : ∀ {x b}, Mem.find [(200000, Blk.rview [.rows .u8 ll])] x = some b → x = 200000 ∧ b = .rview [.rows .u8 ll] := fun {x b} hx => by
  simp only [Mem.find] at hx
  split at hx
  ·rename_i e; cases hx; exact ⟨e.symm, rfl⟩
  ·cases hx
 have hE : Enter (paπ n) σ [(200000, .rview [.rows .u8 ll])] := by
  refine ⟨⟨fun x hx => ?_, fun x hx => ?_⟩, fun g => ?_, fun x y b c hx hy _ => ?_, fun x b hx => ?_, fun x b hx hq => ?_⟩
  ·have := isHeap_le hx; unfold paπ; rw [if_neg (by omega)]
  ·unfold paπ; split
   ·exact hh
   ·exact hx
  ·unfold paπ gname; rw [if_neg (by omega)]
  ·rw [(tau hx).1, (tau hy).1]
  ·obtain ⟨rfl, rfl⟩ := tau hx
   exact ⟨by omega, _, by rw [show paπ n 200000 = n from rfl]; exact hf, .same _⟩
  ·obtain ⟨rfl, rfl⟩ := tau hx
   simp [isHeap_no] at hq
 refine ⟨paπ n, [.one (.el 200000 0 i)], _, hE, fun x b hx => by obtain ⟨_, rfl⟩ := tau hx; rfl, by simp [AV.ren, AC.ren, paπ], 1, ?_⟩
 rw [parted_vc]
 have nores : (∀ ρ v, SRep ρ (AV.ren (paπ n) (.tup [.g [.ints .u8 8 (lzeros 8)], .c (.con (.slice none 0 0)), .c (.lit false)])) v → SRep ρ (.tup [.g [.ints .u8 8 (lzeros 8)], .c (.con (.slice none 0 0)), .c (.lit false)]) v) := fun ρ v q => q
 cases hr : rtB (llget ll i) with
 | true =>
  obtain ⟨h8, h48⟩ := rt_yes hr
  have e1 : ilt (ofNat (llen (llget ll i))) 8 = false := by rw [ilt_false, ofNat_def, llen_def]; omega
  have e2 : igt (ofNat (llen (llget ll i))) 48 = false := by rw [igt_false, ofNat_def, llen_def]; omega
  have f8 : Fits 8 (llen (llget ll i)) := ⟨by rw [llen_def]; omega⟩
  rw [e1, e2]
  refine ⟨fun _ => ⟨fun q => (by cases q), fun _ => ⟨f8, f8, ⟨⟨by omega⟩, f8⟩, .tup [.g [.ints .u8 8 (lsub (llget ll i) 0 8)], .c (.esl n 0 i 8 (nsub (llen (llget ll i)) 8)), .c (.lit true)], fun r hr' => ?_, fun ρ v q => ?_, h.1 hr⟩⟩, fun q => (by cases q)⟩
  ·have : 200000 = r := by simpa [AV.refs, TV.refs, segsRefs, Seg.refs, AC.refs] using hr'
   subst this
   exact ⟨isHeap_no (Or.inl (by omega)), by omega, Or.inl rfl⟩
  ·exact q
 | false =>
  have fin : ∃ av0, (∀ r, AV.refs r (.tup [.g [.ints .u8 8 (lzeros 8)], .c (.con (.slice none 0 0)), .c (.lit false)]) = true → KnownR (paπ n) [(200000, .rview [.rows .u8 ll])] r) ∧ (∀ ρ v, SRep ρ (AV.ren (paπ n) (.tup [.g [.ints .u8 8 (lzeros 8)], .c (.con (.slice none 0 0)), .c (.lit false)])) v → SRep ρ av0 v) ∧ K av0 σ :=
   ⟨_, fun r hr' => (by simp [AV.refs, TV.refs, segsRefs, Seg.refs, AC.refs] at hr'), nores, h.2 hr⟩
  rcases rt_no hr with q | q
  ·have e1 : ilt (ofNat (llen (llget ll i))) 8 = true := by rw [ilt_true, ofNat_def, llen_def]; omega
   rw [e1]
   exact ⟨fun q => (by cases q), fun _ => fin⟩
  ·have e1 : ilt (ofNat (llen (llget ll i))) 8 = false := by rw [ilt_false, ofNat_def, llen_def]; omega
   have e2 : igt (ofNat (llen (llget ll i))) 48 = true := by rw [igt_true, ofNat_def, llen_def]; omega
   rw [e1, e2]
   exact ⟨fun _ => ⟨fun _ => fin, fun q => (by cases q)⟩, fun q => (by cases q)⟩
theorem d1_good : GoodG Try.prog gamD1 := (good0 _).ext good_parted ⟨_, Try.func24, by decide, by kernel_rfl⟩
theorem two_other {q : List Int} {i : Int} (hl : q.length = 2) (hi : i ∈ q) : lget q 0 + lget q 1 - i ∈ q := by
 match q, hl with
 | [a, b], _ =>
  simp only [List.mem_cons, List.not_mem_nil, or_false] at hi ⊢
  show a + b - i = a ∨ a + b - i = b
  rcases hi with rfl | rfl
  ·right; omega
  ·left; omega
theorem ex_loop2 {R : AV → Mem → Prop} {ll : List (List Int)} (hn : ll.length ≤ 1000000000) {mp : List (List Int × HS)} {os : List (List Int)} (h : DI ll ll.length mp os)
  (hR : R (.one (.vec 100009)) [(20, Blk.map (KK.arr .u8 8) (MVs.hss .i64 mp)), (100009, Blk.vec [(Col.hss .u8 (hfrom 1 (exchL ll)))]), (200000, Blk.rview [(Col.rows .u8 ll)]), (900003, Blk.heap .i64 os), (900004, Blk.heap .u8 ([[]] ++ exchL ll))]) :
  exch.l1 R ll mp os (1 + 1 * (ll.length - 0)) 0 (hzeros 0) [[]] := by
 have q := loop_n (fun f i (x : List HS × List (List Int)) => exch.l1 R ll mp os f i x.1 x.2) ll.length (fun i => (hfrom 1 (tab i (exch1 ll)), [[]] ++ tab i (exch1 ll))) 1 1 (fun g i hi hx => by
  have a1 : add .i64 (i : Int) 1 = ((i + 1 : Nat) : Int) := add1_i64 (by omega)
  have e1 : ilt (i : Int) (ofNat (llen ll)) = true := by rw [ilt_true, ofNat_def, llen_def]; omega
  have ib : InB (i : Int) (llen ll) := ⟨by omega, by rw [llen_def]; omega⟩
  have l9 : llen ([[]] ++ tab i (exch1 ll)) = 1 + i := by rw [llen_def, List.length_append, tab_len]; rfl
  have l8 : llen (hfrom 1 (tab i (exch1 ll))) = i := by rw [llen_def, hfrom_len, tab_len]
  have nx : ∀ y, y = exch1 ll i → exch.l1 R ll mp os g ((i + 1 : Nat) : Int) (lcat (hfrom 1 (tab i (exch1 ll))) [⟨1 + i, 0, y.length⟩]) (List.append ([[]] ++ tab i (exch1 ll)) [y]) := fun y hy => by
   subst hy
   have q1 : lcat (hfrom 1 (tab i (exch1 ll))) [⟨1 + i, 0, (exch1 ll i).length⟩] = hfrom 1 (tab (i + 1) (exch1 ll)) := by
    rw [tab_succ, hfrom_app, tab_len]; rfl
   have q2 : List.append ([[]] ++ tab i (exch1 ll)) [exch1 ll i] = [[]] ++ tab (i + 1) (exch1 ll) := by
    rw [tab_succ]; exact List.append_assoc _ _ _
   rw [q1, q2]; exact hx
  have rm : ∀ n : Nat, Room (nadd i (llen [(⟨1 + i, 0, n⟩ : HS)])) 24 := fun n => ⟨by show (5 * (i + 1) + 4096) * 24 ≤ _; omega⟩
  show exch.l1 R ll mp os (g + 1) (i : Int) (hfrom 1 (tab i (exch1 ll))) ([[]] ++ tab i (exch1 ll))
  rw [exch.l1_succ, exch.k27_eq R ll _ mp _ os _ g 3993, e1, exch.k25_eq R ll _ mp _ os _ g 3991, exch.k24_eq R _ ll mp _ os _ g 3985]
  refine dr_tt ⟨ib, ?_⟩
  rw [nat_cast]
  cases hr : rtB (llget ll i) with
  | false =>
   have hy : exch1 ll i = [3] := by unfold exch1; rw [if_neg (by rw [hr]; simp)]
   rw [exch.k23_eq R _ ll mp _ os _ g 3981, exch.k22_eq R _ ll _ mp _ os g 3881, l9, l8, a1]
   exact dr_ff ⟨rm 1, nx [3] hy.symm⟩
  | true =>
   have hlen := h.len (nmL (llget ll i))
   have hmem : (i : Int) ∈ idxL ll (nmL (llget ll i)) ll.length := idx_mem.2 ⟨i, rfl, hi, by simp [atD, hr, leq]⟩
   have hx8 : lsub (llget ll i) 0 8 = nmL (llget ll i) := rfl
   rw [exch.k21_eq R _ ll mp _ os _ g 3982, exch.k20_eq R _ mp ll _ os _ g 3977, exch.k19_eq R _ mp ll _ os _ g 3974, exch.k18_eq R _ mp ll _ os _ g 3973, nat_cast, hx8]
   refine dr_tt ?_
   have hhl : Go.Sx.hl (mget (⟨0, 0, 0⟩ : HS) mp (nmL (llget ll i))) = (idxL ll (nmL (llget ll i)) ll.length).length := hlen
   rw [hhl]
   by_cases c1 : (idxL ll (nmL (llget ll i)) ll.length).length = 1
   ·have hy : exch1 ll i = [0] := by unfold exch1; rw [if_pos hr, if_pos c1]
    have b1 : ieq (ofNat (idxL ll (nmL (llget ll i)) ll.length).length) 1 = true := by rw [ieq_true, ofNat_def, c1]; rfl
    rw [b1, exch.k8_eq R _ mp ll _ os _ g 3972, exch.k7_eq R _ mp ll _ _ os g 3872, l9, l8, a1]
    exact dr_tt ⟨rm 1, nx [0] hy.symm⟩
   ·have b1 : ieq (ofNat (idxL ll (nmL (llget ll i)) ll.length).length) 1 = false := by rw [ieq_false, ofNat_def]; omega
    rw [b1]
    refine dr_ff ?_
    by_cases c2 : (idxL ll (nmL (llget ll i)) ll.length).length = 2
    ·have b2 : ieq (ofNat (idxL ll (nmL (llget ll i)) ll.length).length) 2 = true := by rw [ieq_true, ofNat_def, c2]; rfl
     have oth := two_other c2 hmem
     obtain ⟨k, hk, hkN, hka⟩ := idx_mem.1 oth
     have hkr : rtB (llget ll k) = true := by
      simp only [atD, Bool.and_eq_true] at hka; exact hka.1
     obtain ⟨k8, k48⟩ := rt_yes hkr
     have g0 := h.get (x := nmL (llget ll i)) (k := 0) (by omega)
     have g1 := h.get (x := nmL (llget ll i)) (k := 1) (by omega)
     have m0 : lget (idxL ll (nmL (llget ll i)) ll.length) 0 ∈ idxL ll (nmL (llget ll i)) ll.length := List.mem_of_getElem? (lget_some (by omega))
     have m1 : lget (idxL ll (nmL (llget ll i)) ll.length) 1 ∈ idxL ll (nmL (llget ll i)) ll.length := List.mem_of_getElem? (lget_some (by omega))
     obtain ⟨a, ha, haN, _⟩ := idx_mem.1 m0
     obtain ⟨b, hb, hbN, _⟩ := idx_mem.1 m1
     have hy : exch1 ll i = 1 :: lsub (llget ll k) 8 (nsub (llen (llget ll k)) 8) := by
      unfold exch1; rw [if_pos hr, if_neg c1, if_pos c2, hk, nat_cast]
     have s1 : sub .i64 (add .i64 (a : Int) (b : Int)) (i : Int) = (k : Int) := by
      have e : add .i64 (a : Int) (b : Int) = (a : Int) + (b : Int) := add_i64 (by omega) (by omega)
      have e' : sub .i64 ((a : Int) + (b : Int)) (i : Int) = (a : Int) + (b : Int) - (i : Int) := sub_i64 (by omega) (by omega)
      rw [e, e', ← ha, ← hb, hk]
     have G0 : lget (llget os (hj (mget (⟨0, 0, 0⟩ : HS) mp (nmL (llget ll i))))) (nadd (ho (mget (⟨0, 0, 0⟩ : HS) mp (nmL (llget ll i)))) 0) = (a : Int) := by rw [← ha]; exact g0
     have G1 : lget (llget os (hj (mget (⟨0, 0, 0⟩ : HS) mp (nmL (llget ll i))))) (nadd (ho (mget (⟨0, 0, 0⟩ : HS) mp (nmL (llget ll i)))) 1) = (b : Int) := by rw [← hb]; exact g1
     have ik : InB (k : Int) (llen ll) := ⟨by omega, by rw [llen_def]; omega⟩
     have i0 : InB 0 (idxL ll (nmL (llget ll i)) ll.length).length := ⟨by omega, by omega⟩
     have i1 : InB 1 (idxL ll (nmL (llget ll i)) ll.length).length := ⟨by omega, by omega⟩
     have lm : (lsub (llget ll k) 8 (nsub (llen (llget ll k)) 8)).length ≤ 40 := by
      simp only [lsub, nsub, llen_def, List.length_take, List.length_drop]; omega
     have r1 : Room (nadd 1 (llen (lsub (llget ll k) 8 (nsub (llen (llget ll k)) 8)))) 1 := ⟨by show (5 * (1 + (lsub (llget ll k) 8 (nsub (llen (llget ll k)) 8)).length) + 4096) * 1 ≤ _; omega⟩
     rw [b2, exch.k15_eq R _ mp ll _ os _ g 3971, exch.k14_eq R _ mp ll os _ _ g 3969, nat_cast, hx8, hhl]
     refine dr_tt ⟨i0, i1, ?_⟩
     simp only [G0, G1, s1, nat_cast, hkr]
     refine ⟨ik, fun _ => ?_, fun q => (by cases q)⟩
     rw [exch.k11_eq R _ mp ll _ _ _ _ _ os _ g 3968, exch.k10_eq R _ mp ll _ _ _ _ _ _ os g 3965, nat_cast, l9, l8]
     refine ⟨r1, rm _, ?_⟩
     simp only [exch.k9_eq R _ mp ll _ _ _ _ _ _ _ os g 3865, nat_cast, a1]
     have := nx (1 :: lsub (llget ll k) 8 (nsub (llen (llget ll k)) 8)) hy.symm
     rw [← l9] at this
     rw [← l9]
     exact this
    ·have b2 : ieq (ofNat (idxL ll (nmL (llget ll i)) ll.length).length) 2 = false := by rw [ieq_false, ofNat_def]; omega
     have hy : exch1 ll i = [2] := by unfold exch1; rw [if_pos hr, if_neg c1, if_neg c2]
     rw [b2, exch.k17_eq R _ mp ll _ os _ g 3969, exch.k16_eq R _ mp ll _ _ os g 3869, l9, l8, a1]
     exact dr_ff ⟨rm 1, nx [2] hy.symm⟩) (by
  have e1 : ilt (ll.length : Int) (ofNat (llen ll)) = false := by rw [ilt_false, ofNat_def, llen_def]; omega
  show exch.l1 R ll mp os (0 + 1) (ll.length : Int) (hfrom 1 (tab ll.length (exch1 ll))) ([[]] ++ tab ll.length (exch1 ll))
  rw [exch.l1_succ, exch.k27_eq R ll _ mp _ os _ 0 3993, e1, exch.k26_eq R ll _ mp _ os _ 0 3893]
  exact dr_ff hR) 0 (Nat.zero_le _)
 exact q
theorem ex_run {R : AV → Mem → Prop} {ll : List (List Int)} (hn : ll.length ≤ 1000000000)
  (hR : ∀ mp os, R (.one (.vec 100009)) [(20, Blk.map (KK.arr .u8 8) (MVs.hss .i64 mp)), (100009, Blk.vec [(Col.hss .u8 (hfrom 1 (exchL ll)))]), (200000, Blk.rview [(Col.rows .u8 ll)]), (900003, Blk.heap .i64 os), (900004, Blk.heap .u8 ([[]] ++ exchL ll))]) :
  ∃ F, callsx Try.prog gamD1 [⟨9, [.rows .u8], true, false⟩, ⟨777777, [], true, false⟩] Try.f12 F [.one (.vec 200000)] [(200000, .rview [.rows .u8 ll]), (900003, .heap .i64 [[]]), (900004, .heap .u8 [[]])] R := by
 obtain ⟨F, hF⟩ := loop_inv_ex (fun f i (x : List (List Int × HS) × List (List Int)) => exch.l0 R ll f i x.1 x.2) ll.length (fun i x => DI ll i x.1 x.2) (fun _ => 1) ((1 + 1 * (ll.length - 0)) + 1) (fun g i x hi hI hnx => by
  have a1 : add .i64 (i : Int) 1 = ((i + 1 : Nat) : Int) := add1_i64 (by omega)
  have e1 : ilt (i : Int) (ofNat (llen ll)) = true := by rw [ilt_true, ofNat_def, llen_def]; omega
  have ib : InB (i : Int) (llen ll) := ⟨by omega, by rw [llen_def]; omega⟩
  have hx8 : lsub (llget ll i) 0 8 = nmL (llget ll i) := rfl
  show exch.l0 R ll (g + 1) (i : Int) x.1 x.2
  rw [exch.l0_succ, exch.k30_eq R ll _ _ _ g 3996, e1, exch.k6_eq R ll _ _ _ g 3991, exch.k5_eq R _ ll _ _ g 3986, nat_cast]
  refine dr_tt ⟨ib, ?_⟩
  cases hr : rtB (llget ll i) with
  | false =>
   have q := hnx x (hI.skip hr)
   rw [exch.k4_eq R _ ll _ _ g 3983, exch.k3_eq R _ ll _ _ g 3883, a1]
   exact dr_ff q
  | true =>
   have hle := hI.len (nmL (llget ll i))
   have hbd : (idxL ll (nmL (llget ll i)) i).length ≤ i := by
    unfold idxL
    rw [List.length_map]
    exact Nat.le_trans (List.length_filter_le _ _) (by simp)
   have rm : Room (nadd (Go.Sx.hl (mget (⟨0, 0, 0⟩ : HS) x.1 (nmL (llget ll i)))) (llen [(i : Int)])) 8 := ⟨by
    have : Go.Sx.hl (mget (⟨0, 0, 0⟩ : HS) x.1 (nmL (llget ll i))) = (idxL ll (nmL (llget ll i)) i).length := hle
    rw [this]
    show (5 * ((idxL ll (nmL (llget ll i)) i).length + 1) + 4096) * 8 ≤ _
    omega⟩
   rw [exch.k2_eq R _ ll _ _ g 3985, nat_cast, hx8]
   refine dr_tt ⟨rm, fun os' j' off' hA => ⟨⟨by rw [ofNat_def]; omega, ?_⟩, ?_⟩⟩
   ·rw [ofNat_def]
    have := mix_lt (d := (⟨0, 0, 0⟩ : HS)) (x := nmL (llget ll i)) (l := x.1)
    show ((mix x.1 (nmL (llget ll i)) : Nat) : Int) < ((ment (⟨0, 0, 0⟩ : HS) x.1 (nmL (llget ll i))).length : Nat)
    omega
   ·have st := hnx (mput x.1 (nmL (llget ll i)) ⟨j', off', (mget hs0 x.1 (nmL (llget ll i))).len + 1⟩, os') (hI.step hr hA)
    have e2 : mseti (ment (⟨0, 0, 0⟩ : HS) x.1 (nmL (llget ll i))) (nat (ofNat (mix x.1 (nmL (llget ll i))))) ⟨j', off', nadd (Go.Sx.hl (mget (⟨0, 0, 0⟩ : HS) x.1 (nmL (llget ll i)))) (llen [(i : Int)])⟩ = mput x.1 (nmL (llget ll i)) ⟨j', off', (mget hs0 x.1 (nmL (llget ll i))).len + 1⟩ := by
     rw [ofNat_def, nat_cast]; exact ment_put
    rw [exch.k1_eq R _ ll _ _ _ _ g 3983]
    simp only [exch.k0_eq R _ ll _ _ _ _ _ g 3883, nat_cast, hx8, e2, a1]
    exact st) (fun x hI => by
  have e1 : ilt (ll.length : Int) (ofNat (llen ll)) = false := by rw [ilt_false, ofNat_def, llen_def]; omega
  have mk : Mk 0 (ofNat (llen ll)) 24 := by rw [ofNat_def, llen_def]; exact ⟨by omega, by omega, by omega, by omega⟩
  have q := ex_loop2 hn hI (hR x.1 x.2)
  show exch.l0 R ll ((1 + 1 * (ll.length - 0)) + 1) (ll.length : Int) x.1 x.2
  rw [exch.l0_succ, exch.k30_eq R ll _ _ _ _ 3996, e1, exch.k29_eq R ll _ _ _ _ 3990, exch.k28_eq R ll _ _ _ _ 3890]
  exact dr_ff ⟨mk, q⟩)
 have q := hF ([], [[]]) (DI.start ll)
 refine ⟨F + 1, ?_⟩
 rw [exch_vc, exch.k32_eq R ll F 3993, exch.k31_eq R ll F 3893]
 exact q
theorem good_exch : Sx.Good Try.prog 12 exchS := by
 refine Good.privR (D := [⟨9, [.rows .u8], true, false⟩, ⟨777777, [], true, false⟩]) mixed d1_good Try.func12 (by kernel_rfl) rfl rfl fun d args σ K h => ?_
 simp only [exchS] at h
 split at h <;> try exact h.elim
 obtain ⟨ll, ⟨hf, hK⟩, hr⟩ := rdr_row h
 have hn : ll.length ≤ 1000000000 := hf.le
 obtain ⟨F, hF⟩ := ex_run (R := ResR d σ .u8 K) hn fun mp os => ⟨100009, hfrom 1 (exchL ll), [[]] ++ exchL ll, rfl, rfl, rfl, by
  rw [show hcons ([[]] ++ exchL ll) (hfrom 1 (exchL ll)) = exchL ll from hcons_from [[]] (exchL ll)]; exact hK⟩
 refine ⟨.u8, .i64, [.one (.vec 200000)], [(200000, .rview [.rows .u8 ll])], [(200000, .rview [.rows .u8 ll]), (900003, .heap .i64 [[]]), (900004, .heap .u8 [[]])], .rowH [.rows .u8] _ hr (by decide) (.nil _), rfl, rfl, fun x hx => (by simp at hx; subst hx; rfl), fun x hx => (by simp at hx; subst hx; rfl), by simp, fun m => ?_, F, hF⟩
 simp only [Mem.find, hname]
 by_cases h1 : 200000 = m
 ·subst h1; simp
 ·by_cases h2 : 900004 = m
  ·subst h2; simp
  ·by_cases h3 : 900003 = m
   ·subst h3; simp
   ·simp [h1, h2, h3]
end Go.Proofs.Ytnpfockaigegiaa.G
namespace Go.Sx
open Go Go.ChangeShapes Go.WideShapes Go.ChangeAt Go.RowKit
def fieldsO (P : Program) (f : TypeId → Option (List Kd)) : List Field → Nat → Option (List Kd)
 | [], o => some []
 | fd :: r, o => match f fd.type, fieldsO P f r (o + P.cellsOf fd.type) with
  | some k1, some k2 => if fd.offset = o ∧ P.cellsOf fd.type = width k1 then some (k1 ++ k2) else none
  | _, _ => none
def kindsO (P : Program) : Nat → TypeId → Option (List Kd)
 | 0, _ => none
 | d + 1, t => match P.underlying t with
  | some (.int k) => if P.cellsOf t = 1 then some [.ints k] else none
  | some .bool => if P.cellsOf t = 1 then some [.bools] else none
  | some (.slice e) => match P.underlying e with
   | some (.int k) => if P.cellsOf e = 1 ∧ P.cellsOf t = 1 ∧ 1 ≤ P.bytesOf e then some [.rows k] else none
   | _ => none
  | some (.array m e) => match P.underlying e with
   | some (.int k) => if P.cellsOf e = 1 ∧ P.cellsOf t = m then some [.arrs k m] else none
   | _ => none
  | some (.struct fs) => match fieldsO P (kindsO P d) fs.toList 0 with
   | some ks => if P.cellsOf t = width ks then some ks else none
   | none => none
  | _ => none
def KdAt (w : World) (k : Kd) (cs : List Value) (o : Nat) : Prop :=
 match k with
 | .ints q => ∃ n, cs[o]? = some (.int q n) ∧ (Lit.int q n).wf = true
 | .bools => ∃ b, cs[o]? = some (.bool b)
 | .arrs q m => ∃ l : List Int, l.length = m ∧ (∀ (j : Nat) x, l[j]? = some x → cs[o + j]? = some (.int q x)) ∧ ∀ x ∈ l, (Lit.int q x).wf = true
 | .rows q => ∃ A L C Z, cs[o]? = some (.slice A L C) ∧ IsRow q w A L C Z ∧ Z.length ≤ reachBytes
 | .strs => ∃ b, cs[o]? = some (.string b)
def KdsAt (w : World) : List Kd → List Value → Nat → Prop
 | [], _, _ => True
 | k :: r, cs, o => KdAt w k cs o ∧ KdsAt w r cs (o + k.width)
theorem KdsAt.append {w : World} {cs : List Value} : ∀ {a b : List Kd} {o : Nat}, KdsAt w a cs o → KdsAt w b cs (o + width a) → KdsAt w (a ++ b) cs o
 | [], b, o, _, h => by simpa [width] using h
 | k :: a, b, o, h, g => ⟨h.1, KdsAt.append h.2 (by simpa [width, Nat.add_assoc] using g)⟩
theorem KdAt.shift {w : World} {cs : List Value} {o z : Nat} {k : Kd} {p : Nat} (hp : p + k.width ≤ z) (h : KdAt w k ((cs.drop o).take z) p) : KdAt w k cs (o + p) := by
 have get : ∀ i, i < z → ((cs.drop o).take z)[i]? = cs[o + i]? := fun i hi => by rw [List.getElem?_take, if_pos hi, List.getElem?_drop]
 cases k with
 | ints q =>
  obtain ⟨n, h1, h2⟩ := h
  exact ⟨n, by rw [← get p (by simp [Kd.width] at hp; omega)]; exact h1, h2⟩
 | bools =>
  obtain ⟨b, h1⟩ := h
  exact ⟨b, by rw [← get p (by simp [Kd.width] at hp; omega)]; exact h1⟩
 | arrs q m =>
  obtain ⟨l, h1, h2, h3⟩ := h
  refine ⟨l, h1, fun j x hj => ?_, h3⟩
  have : j < m := by rw [← h1]; exact (List.getElem?_eq_some_iff.1 hj).1
  rw [Nat.add_assoc, ← get (p + j) (by simp [Kd.width] at hp; omega)]
  exact h2 j x hj
 | strs =>
  obtain ⟨b, h1⟩ := h
  exact ⟨b, by rw [← get p (by simp [Kd.width] at hp; omega)]; exact h1⟩
 | rows q =>
  obtain ⟨A, L, C, Z, h1, h2⟩ := h
  exact ⟨A, L, C, Z, by rw [← get p (by simp [Kd.width] at hp; omega)]; exact h1, h2⟩
theorem KdsAt.shift {w : World} {cs : List Value} {o z : Nat} : ∀ {ks : List Kd} {p : Nat}, p + width ks ≤ z → KdsAt w ks ((cs.drop o).take z) p → KdsAt w ks cs (o + p)
 | [], _, _, _ => trivial
 | k :: r, p, hp, h => ⟨h.1.shift (by simp [width] at hp; omega), by have := KdsAt.shift (ks := r) (p := p + k.width) (by simp [width] at hp; omega) h.2; rwa [← Nat.add_assoc] at this⟩
section
variable {H : Type} {enc : TypeId × Value → H} {P : Program} {w : World} {base : Nat} {held : Bool}
theorem weightsAll_mem {e : TypeId} : ∀ {ds : List (DataW H)} {i : Nat} {d : DataW H}, ds[i]? = some d → ∀ n ∈ d.weights P e, n ∈ DataW.weightsAll P e ds
 | d0 :: ds, 0, d, h, n, hn => by
  simp only [List.getElem?_cons_zero, Option.some.injEq] at h
  subst h
  simp only [DataW.weightsAll, List.mem_append]; exact Or.inl hn
 | d0 :: ds, i + 1, d, h, n, hn => by
  simp only [List.getElem?_cons_succ] at h
  simp only [DataW.weightsAll, List.mem_append]; exact Or.inr (weightsAll_mem h n hn)
 | [], _, _, h, _, _ => by simp at h
theorem row_of_trod {t e : TypeId} {k : IntKind} {fuel : Nat} {cs : List Value} {x : DataW H × List MemPlace} (ht : P.underlying t = some (.slice e)) (he : P.underlying e = some (.int k)) (hc : P.cellsOf e = 1) (hb : 1 ≤ P.bytesOf e)
  (h : DataW.trod enc P w base (fun _ => true) held fuel t cs = some x) (hz : ∀ n ∈ x.1.weights P t, n ≤ reachBytes) : ∃ A L C Z, cs = [.slice A L C] ∧ IsRow k w A L C Z ∧ Z.length ≤ reachBytes := by
 rcases open_ints ht he hc h with ⟨rfl, rfl⟩ | ⟨a, len, cap, zs, rfl, _, hl, hm, hlen, rfl, hcell, hw⟩
 ·exact ⟨none, 0, 0, [], rfl, .inl ⟨rfl, rfl, rfl, rfl⟩, Nat.zero_le _⟩
 ·refine ⟨some a, len, cap, zs, rfl, .inr ⟨a, rfl, hl, hm, by simpa using hlen, hcell, hw⟩, ?_⟩
  have := hz (((lits (H := H) k (zs.take len)).length + (lits (H := H) k (zs.drop len)).length) * P.bytesOf e) (by simp [DataW.weights, ht])
  simp only [lits, List.length_map, List.length_take, List.length_drop] at this
  have e1 : min len zs.length + (zs.length - len) = zs.length := by omega
  rw [e1] at this
  exact Nat.le_trans (Nat.le_mul_of_pos_right _ hb) this
theorem kinds_of_trod : ∀ (d : Nat) {t : TypeId} {ks : List Kd} {fuel : Nat} {cs : List Value} {x : DataW H × List MemPlace}, kindsO P d t = some ks → DataW.trod enc P w base (fun _ => true) held fuel t cs = some x → (∀ n ∈ x.1.weights P t, n ≤ reachBytes) →
  cs.length = width ks ∧ KdsAt w ks cs 0
 | 0, _, _, _, _, _, h, _, _ => by simp [kindsO] at h
 | d + 1, t, ks, fuel, cs, x, h, htr, hz => by
  unfold kindsO at h
  split at h
  ·rename_i k hu
   split at h
   ·cases h
    obtain ⟨n, rfl, rfl, hw⟩ := DataW.trod_int hu htr
    exact ⟨rfl, ⟨n, rfl, hw⟩, trivial⟩
   ·cases h
  ·rename_i hu
   split at h
   ·cases h
    obtain ⟨b, rfl, rfl⟩ := DataW.trod_bool hu htr
    exact ⟨rfl, ⟨b, rfl⟩, trivial⟩
   ·cases h
  ·rename_i e hu
   split at h
   ·rename_i k he
    split at h
    ·rename_i hc
     cases h
     obtain ⟨A, L, C, Z, rfl, hr, hl⟩ := row_of_trod hu he hc.1 hc.2.2 htr hz
     exact ⟨rfl, ⟨A, L, C, Z, rfl, hr, hl⟩, trivial⟩
    ·cases h
   ·cases h
  ·rename_i m e hu
   split at h
   ·rename_i k he
    split at h
    ·rename_i hc
     cases h
     obtain ⟨xs, n, _, _, hcl, hxl, hx⟩ := DataW.trod_array hu htr
     rw [hc.2] at hcl
     have each : ∀ i, i < m → ∃ n, cs[i]? = some (.int k n) ∧ (Lit.int k n).wf = true := by
      intro i hi
      have h1 := hx i hi
      rw [hc.1, Nat.mul_one] at h1
      have h2 : xs[i]? = some (xs[i]'(by omega)) := List.getElem?_eq_getElem (by omega)
      rw [h2] at h1
      obtain ⟨n, e1, _, hw⟩ := DataW.trod_int he h1
      have hlt : i < cs.length := by omega
      rw [List.drop_eq_getElem_cons hlt] at e1
      simp only [List.take_succ_cons, List.take_zero, List.cons.injEq, and_true] at e1
      exact ⟨n, by rw [List.getElem?_eq_getElem hlt, e1], hw⟩
     refine ⟨by simp [width, Kd.width, hcl], ⟨cs.map fun v => match v with | .int _ n => n | _ => 0, by simp [hcl], fun j y hj => ?_, fun y hy => ?_⟩, trivial⟩
     ·simp only [List.getElem?_map, Option.map_eq_some_iff] at hj
      obtain ⟨v, hv, rfl⟩ := hj
      have hlt : j < cs.length := (List.getElem?_eq_some_iff.1 hv).1
      obtain ⟨n, e1, _⟩ := each j (by omega)
      rw [e1] at hv; cases hv
      rw [Nat.zero_add, e1]
     ·obtain ⟨v, hv, rfl⟩ := List.mem_map.1 hy
      obtain ⟨j, hj⟩ := List.getElem?_of_mem hv
      have hlt : j < cs.length := (List.getElem?_eq_some_iff.1 hj).1
      obtain ⟨n, e1, hw⟩ := each j (by omega)
      rw [e1] at hj; cases hj
      exact hw
    ·cases h
   ·cases h
  ·rename_i fs hu
   split at h
   ·rename_i ks' hks
    split at h
    ·rename_i hc
     cases h
     obtain ⟨xs, n, _, rfl, hcl, hxl, hx⟩ := DataW.trod_struct hu htr
     refine ⟨by rw [hcl, hc], ?_⟩
     have wt : ∀ (i : Nat) f y, fs[i]? = some f → xs[i]? = some y → ∀ n ∈ y.1.weights P f.type, n ≤ reachBytes := by
      intro i f y hf hy n hn
      refine hz n ?_
      simp only [DataW.weights, hu]
      exact DataW.weights_mem_each (j := i) (t := f.type) (d := y.1) (by simp [List.getElem?_map]; exact ⟨f, by simpa using hf, rfl⟩) (by simp [List.getElem?_map, hy]) n hn
     have all : ∀ (fl : List Field) (o i : Nat) (ks : List Kd), fieldsO P (kindsO P d) fl o = some ks → (∀ j f, fl[j]? = some f → fs[i + j]? = some f) → KdsAt w ks cs o := by
      intro fl
      induction fl with
      | nil => intro o i ks h _; simp only [fieldsO, Option.some.injEq] at h; subst h; trivial
      | cons fd r ih =>
       intro o i ks h hf
       simp only [fieldsO] at h
       split at h
       ·rename_i k1 k2 h1 h2
        split at h
        ·rename_i hq
         cases h
         obtain ⟨ho, hcw⟩ := hq
         have hfi : fs[i]? = some fd := by simpa using hf 0 fd rfl
         have hxi := hx i fd hfi
         have hlt : i < xs.length := by rw [hxl]; exact (Array.getElem?_eq_some_iff.1 hfi).1
         have h3 : xs[i]? = some xs[i] := List.getElem?_eq_getElem hlt
         rw [h3] at hxi
         obtain ⟨_, g2⟩ := kinds_of_trod d h1 hxi (wt i fd _ hfi h3)
         rw [ho, hcw] at g2
         refine KdsAt.append (by have := KdsAt.shift (p := 0) (by omega) g2; simpa using this) ?_
         rw [← hcw]
         exact ih (o + P.cellsOf fd.type) (i + 1) k2 h2 fun j f hj => by have := hf (j + 1) f (by simpa using hj); rwa [show i + 1 + j = i + (j + 1) by omega]
        ·cases h
       ·cases h
     exact all fs.toList 0 0 ks hks fun j f hj => by rw [Nat.zero_add]; simpa using hj
    ·cases h
   ·cases h
  ·cases h
end
def Col.wf : Col → Prop
 | .ints k l => ∀ x ∈ l, (Lit.int k x).wf = true
 | .bools _ => True
 | .arrs k _ ll => ∀ l ∈ ll, ∀ x ∈ l, (Lit.int k x).wf = true
 | .rows k ll => ∀ l ∈ ll, l.length ≤ reachBytes ∧ ∀ x ∈ l, (Lit.int k x).wf = true
 | .strs _ => True
 | .hss _ _ => False
theorem wf_noHss {cs : List Col} (h : ∀ col ∈ cs, col.wf) : noHss cs = true := by
 simp only [noHss, List.all_eq_true, Bool.not_eq_true']
 intro c hc
 have := h c hc
 cases c <;> first | rfl | exact this.elim
theorem choose_range {α : Type} [Inhabited α] {n : Nat} {p : Nat → α → Prop} (h : ∀ i, i < n → ∃ a, p i a) : ∃ f : Nat → α, ∀ i, i < n → p i (f i) := by
 refine ⟨fun i => if hi : i < n then Classical.choose (h i hi) else default, fun i hi => ?_⟩
 simp only [dif_pos hi]
 exact Classical.choose_spec (h i hi)
theorem range_get {α : Type} {n i : Nat} (f : Nat → α) : ((List.range n).map f)[i]? = if i < n then some (f i) else none := by
 by_cases h : i < n
 ·simp [h]
 ·simp [h]
theorem build_cols {w : World} {len : Nat} {CS : Nat → List Value} : ∀ (ks : List Kd) (o : Nat), (∀ r, r < len → KdsAt w ks (CS r) o) →
  ∃ (cs : List Col) (E : Nat → Nat → Elt), kdsOf cs = ks ∧ (∀ col ∈ cs, col.ok len ∧ col.wf) ∧ (∀ (L : Loc) (c0 : Nat), (∀ c r, L.el (c0 + c) r = E c r) → ∀ r, r < len → ∀ t, t < width ks → (CS r)[o + t]? = some (rowVal L cs c0 r t)) ∧
   ∀ c k ll, cs[c]? = some (.rows k ll) → ∀ i l, ll[i]? = some l → EltRep w (E c i) k l
 | [], o, _ => ⟨[], fun _ _ => ⟨none, 0, 0⟩, rfl, by simp, fun _ _ _ _ _ t ht => by simp [width] at ht, fun c k ll h => by simp at h⟩
 | k :: ks, o, h => by
  obtain ⟨cs, E, g1, g2, g3, g4⟩ := build_cols ks (o + k.width) fun r hr => (h r hr).2
  have first : ∃ (col : Col) (e : Nat → Elt), col.kd = k ∧ (col.ok len ∧ col.wf) ∧ (∀ (L : Loc) (c0 : Nat), (∀ r, L.el c0 r = e r) → ∀ r, r < len → ∀ t, t < k.width → (CS r)[o + t]? = some (colVal L c0 col r t)) ∧
    ∀ q ll, col = .rows q ll → ∀ i l, ll[i]? = some l → EltRep w (e i) q l := by
   cases k with
   | ints q =>
    obtain ⟨f, hf⟩ := choose_range fun r hr => (h r hr).1
    refine ⟨.ints q ((List.range len).map f), fun _ => ⟨none, 0, 0⟩, rfl, ⟨by simp [Col.ok], fun x hx => ?_⟩, fun L c0 _ r hr t ht => ?_, fun q ll h => by cases h⟩
    ·obtain ⟨r, hr, rfl⟩ := List.mem_map.1 hx
     exact (hf r (by simpa using hr)).2
    ·obtain rfl : t = 0 := by simp [Kd.width] at ht; exact ht
     rw [Nat.add_zero, (hf r hr).1]
     simp only [colVal, lget, List.getD, range_get, if_pos hr, Option.getD_some]
   | bools =>
    obtain ⟨f, hf⟩ := choose_range fun r hr => (h r hr).1
    refine ⟨.bools ((List.range len).map f), fun _ => ⟨none, 0, 0⟩, rfl, ⟨by simp [Col.ok], trivial⟩, fun L c0 _ r hr t ht => ?_, fun q ll h => by cases h⟩
    obtain rfl : t = 0 := by simp [Kd.width] at ht; exact ht
    rw [Nat.add_zero, hf r hr]
    simp only [colVal, lgetb, List.getD, range_get, if_pos hr, Option.getD_some]
   | strs =>
    obtain ⟨f, hf⟩ := choose_range fun r hr => (h r hr).1
    refine ⟨.strs ((List.range len).map f), fun _ => ⟨none, 0, 0⟩, rfl, ⟨by simp [Col.ok], trivial⟩, fun L c0 _ r hr t ht => ?_, fun q ll h => by cases h⟩
    obtain rfl : t = 0 := by simp [Kd.width] at ht; exact ht
    rw [Nat.add_zero, hf r hr]
    simp only [colVal, sgets, List.getD, range_get, if_pos hr, Option.getD_some]
   | arrs q m =>
    obtain ⟨f, hf⟩ := choose_range fun r hr => (h r hr).1
    refine ⟨.arrs q m ((List.range len).map f), fun _ => ⟨none, 0, 0⟩, rfl, ⟨⟨by simp, fun x hx => ?_⟩, fun l hl x hx => ?_⟩, fun L c0 _ r hr t ht => ?_, fun q ll h => by cases h⟩
    ·obtain ⟨r, hr, rfl⟩ := List.mem_map.1 hx
     exact (hf r (by simpa using hr)).1
    ·obtain ⟨r, hr, rfl⟩ := List.mem_map.1 hl
     exact (hf r (by simpa using hr)).2.2 x hx
    ·obtain ⟨f1, f2, f3⟩ := hf r hr
     have ht' : t < (f r).length := by rw [f1]; simpa [Kd.width] using ht
     rw [f2 t _ (List.getElem?_eq_getElem ht')]
     simp only [colVal, llget, lget, List.getD, range_get, if_pos hr, Option.getD_some, List.getElem?_eq_getElem ht']
   | rows q =>
    obtain ⟨f, hf⟩ := choose_range (α := Option Addr × Nat × Nat × List Int) (n := len) (p := fun r y => (CS r)[o]? = some (.slice y.1 y.2.1 y.2.2.1) ∧ IsRow q w y.1 y.2.1 y.2.2.1 y.2.2.2 ∧ y.2.2.2.length ≤ reachBytes) fun r hr => by
     obtain ⟨A, L, C, Z, hh⟩ := (h r hr).1
     exact ⟨(A, L, C, Z), hh⟩
    refine ⟨.rows q ((List.range len).map fun r => (f r).2.2.2.take (f r).2.1), fun r => ⟨(f r).1, (f r).2.1, (f r).2.2.1⟩, rfl, ⟨by simp [Col.ok], fun l hl => ?_⟩, fun L c0 hL r hr t ht => ?_, fun q' ll h i l hi => ?_⟩
    ·obtain ⟨r, hr, rfl⟩ := List.mem_map.1 hl
     obtain ⟨f1, f2, f3⟩ := hf r (by simpa using hr)
     refine ⟨Nat.le_trans (by simp; omega) f3, fun x hx => ?_⟩
     rcases f2 with ⟨_, _, _, e⟩ | ⟨a, _, _, _, _, _, hw⟩
     ·rw [e] at hx; simp at hx
     ·exact hw x (List.mem_of_mem_take hx)
    ·obtain rfl : t = 0 := by simp [Kd.width] at ht; exact ht
     rw [Nat.add_zero, (hf r hr).1]
     simp only [colVal, hL]
    ·cases h
     rw [range_get] at hi
     split at hi
     ·rename_i hr
      cases hi
      obtain ⟨f1, f2, f3⟩ := hf i hr
      rcases f2 with ⟨e1, e2, e3, e4⟩ | ⟨a, e1, hl, hm, hz, hcell, hw⟩
      ·refine ⟨by simp [e2, e4], by simp [e2, e3], fun q => by simp [e4] at q, fun j x hx => by simp [e4] at hx⟩
      ·refine ⟨by simp; omega, hl, fun _ => ⟨a, e1⟩, fun j x hx a' ha' => ?_⟩
       simp only [e1, Option.some.injEq] at ha'
       subst ha'
       have hlt : j < (f i).2.1 := by have := (List.getElem?_eq_some_iff.1 hx).1; simp at this; omega
       rw [List.getElem?_take_of_lt hlt] at hx
       rw [hcell j (by have := (List.getElem?_eq_some_iff.1 hx).1; omega)]
       simp [List.getD, hx]
     ·cases hi
  obtain ⟨col, e, c1, c2, c3, c4⟩ := first
  refine ⟨col :: cs, fun c r => match c with | 0 => e r | c + 1 => E c r, by simp [kdsOf, c1] at g1 ⊢; exact g1, ?_, fun L c0 hL r hr t ht => ?_, fun c q ll hc i l hi => ?_⟩
  ·intro x hx
   rcases List.mem_cons.1 hx with rfl | hx
   ·exact c2
   ·exact g2 x hx
  ·simp only [rowVal, c1]
   split
   ·rename_i hlt
    exact c3 L c0 (fun r => by have := hL 0 r; simpa using this) r hr t hlt
   ·rename_i hge
    have := g3 L (c0 + 1) (fun c r => by have := hL (c + 1) r; rw [show c0 + 1 + c = c0 + (c + 1) by omega]; exact this) r hr (t - k.width) (by simp [width] at ht; omega)
    rw [show o + k.width + (t - k.width) = o + t by omega] at this
    exact this
  ·cases c with
   | zero => simp at hc; exact c4 q ll hc i l hi
   | succ c => exact g4 c q ll (by simpa using hc) i l hi
section
variable {H : Type} {enc : TypeId × Value → H} {P : Program} {w : World}
theorem LawArgs.recs {j : Nat} {A : Option Addr} {len cap : Nat} {L : Loc} {cs : List Col} {xs : List AV} {vs : List Value} {τ : Mem} (hV : VRep w L cs) (hv : Value.slice A len cap = .slice L.a L.len L.cap) (t : LawArgs w (j + 1) xs vs τ) (hj : j < 1000 := by decide) (hn : noHss cs = true := by first | rfl | exact wf_noHss (by assumption)) :
  LawArgs w j (.one (.vec (200000 + j)) :: xs) (.slice A len cap :: vs) ((200000 + j, .rview cs) :: τ) := .row L cs hj hV hv t hn
theorem cols_one {cs : List Col} {k : Kd} (h : kdsOf cs = [k]) : ∃ c, cs = [c] ∧ c.kd = k := by
 match cs, h with
 | [c], h => exact ⟨c, rfl, by simpa [kdsOf] using h⟩
theorem kd_rows {c : Col} {k : IntKind} (h : c.kd = .rows k) (hw : c.wf := by first | exact ‹∀ col ∈ _, Col.wf col› _ (by simp)) : ∃ l, c = .rows k l := by
 cases c <;> simp [Col.kd] at h
 ·subst h; exact ⟨_, rfl⟩
 ·exact hw.elim
theorem wf_u8 {n : Int} (h : (Lit.int .u8 n).wf = true) : 0 ≤ n ∧ n < 256 := by
 obtain ⟨h1, h2⟩ := bounds_u8 h; exact ⟨h1, by omega⟩
theorem KdsAt.rows {q : IntKind} {r : List Kd} {cs : List Value} {o : Nat} (h : KdsAt w (.rows q :: r) cs o) : ∃ A L C Z, IsRow q w A L C Z ∧ Z.length ≤ reachBytes ∧ cs.drop o = .slice A L C :: cs.drop (o + 1) ∧ KdsAt w r cs (o + 1) := by
 obtain ⟨⟨A, L, C, Z, h1, h2, h3⟩, h4⟩ := h
 have hlt := (List.getElem?_eq_some_iff.1 h1)
 obtain ⟨hl, he⟩ := hlt
 exact ⟨A, L, C, Z, h2, h3, by rw [List.drop_eq_getElem_cons hl, he], h4⟩
theorem KdsAt.ints {q : IntKind} {r : List Kd} {cs : List Value} {o : Nat} (h : KdsAt w (.ints q :: r) cs o) : ∃ n, (Lit.int q n).wf = true ∧ cs.drop o = .int q n :: cs.drop (o + 1) ∧ KdsAt w r cs (o + 1) := by
 obtain ⟨⟨n, h1, h2⟩, h4⟩ := h
 obtain ⟨hl, he⟩ := (List.getElem?_eq_some_iff.1 h1)
 exact ⟨n, h2, by rw [List.drop_eq_getElem_cons hl, he], h4⟩
theorem KdsAt.bools {r : List Kd} {cs : List Value} {o : Nat} (h : KdsAt w (.bools :: r) cs o) : ∃ b, cs.drop o = .bool b :: cs.drop (o + 1) ∧ KdsAt w r cs (o + 1) := by
 obtain ⟨⟨b, h1⟩, h4⟩ := h
 obtain ⟨hl, he⟩ := (List.getElem?_eq_some_iff.1 h1)
 exact ⟨b, by rw [List.drop_eq_getElem_cons hl, he], h4⟩
theorem KdsAt.arrs {q : IntKind} {m : Nat} {r : List Kd} {cs : List Value} {o : Nat} (h : KdsAt w (.arrs q m :: r) cs o) (hl : o + m ≤ cs.length) : ∃ l : List Int, l.length = m ∧ (∀ x ∈ l, (Lit.int q x).wf = true) ∧ cs.drop o = l.map (Value.int q) ++ cs.drop (o + m) ∧ KdsAt w r cs (o + m) := by
 obtain ⟨⟨l, h1, h2, h3⟩, h4⟩ := h
 refine ⟨l, h1, h3, ?_, h4⟩
 conv => lhs; rw [← List.take_append_drop m (cs.drop o), List.drop_drop]
 congr 1
 refine List.ext_getElem? fun j => ?_
 rw [List.getElem?_take]
 by_cases hj : j < m
 ·rw [if_pos hj, List.getElem?_drop]
  have : l[j]? = some (l[j]'(by omega)) := List.getElem?_eq_getElem (by omega)
  rw [h2 j _ this]
  simp [this]
 ·rw [if_neg hj, List.getElem?_eq_none (by simp; omega)]
end
end Go.Sx
namespace Go.Sx
open Go
structure I64 (i : Int) : Prop where
 lo : -9223372036854775808 ≤ i
 hi : i < 9223372036854775808
structure Pos (i : Int) : Prop where
 lt : 0 < i
def placeI (i n : Int) : Int := if i < 0 then rem (-(i + 1)) n else rem i n
theorem wf_i64 {n : Int} (h : (Lit.int .i64 n).wf = true) : I64 n := by
 obtain ⟨h1, h2⟩ := Go.bounds_i64 h
 exact ⟨by omega, by omega⟩
theorem IsRow.i64 {w : World} {a : Option Addr} {len cap : Nat} {zs : List Int} (h : IsRow .i64 w a len cap zs) : ∀ i, i < (zs.take len).length → I64 (lget (zs.take len) i) := by
 intro i hi
 have hm : lget (zs.take len) i ∈ zs.take len := List.mem_of_getElem? (lget_some hi)
 rcases h with ⟨_, _, _, rfl⟩ | ⟨x, _, _, _, _, _, hw⟩
 ·simp at hi
 ·exact wf_i64 (hw _ (List.mem_of_mem_take hm))
theorem rows_bytes {ll : List (List Int)} (h : ∀ l ∈ ll, l.length ≤ reachBytes ∧ ∀ x ∈ l, (Lit.int .u8 x).wf = true) (i : Nat) : (llget ll i).length ≤ 140737488355328 ∧ Bs (llget ll i) := by
 by_cases hi : i < ll.length
 ·obtain ⟨h1, h2⟩ := h _ (List.mem_of_getElem? (llget_some hi))
  have h1 : (llget ll i).length ≤ 140737488351232 := h1
  exact ⟨by omega, ⟨fun x hx => wf_u8 (h2 x hx)⟩⟩
 ·have e : llget ll i = [] := by unfold llget; rw [List.getD_eq_getElem?_getD, List.getElem?_eq_none (by omega)]; rfl
  rw [e]; exact ⟨by simp, Bs.nil⟩
def okR : AV → Mem → Prop := fun av _ => av = .one (.bool true) ∨ av = .one (.lit true)
structure RowsB (ll : List (List Int)) : Prop where
 all : ∀ p ∈ ll, Bs p
structure RowsS (ll : List (List Int)) : Prop where
 le : ll.length ≤ 17592186044416
 all : ∀ p ∈ ll, p.length ≤ 140737488355328
def greatB (ll : List (List Int)) : Bool := igt ((ll.map fun p => (p.length : Int)).sum) 1048576 || igt (ofNat (llen ll)) 2048
def llEq (a b : List (List Int)) : Bool := a == b
def dyesS : Spec := ⟨0, false, fun _ args σ K => match args with
 | [] => K (.one (.lit true)) σ
 | _ => False⟩
def dplaceS : Spec := ⟨0, false, fun _ args σ K => match args with
 | [.one (.int .i64 i), .one (.int .i64 n)] => (I64 i ∧ Pos n) ∧ K (.one (.int .i64 (placeI i n))) σ
 | _ => False⟩
def dsameS : Spec := ⟨0, false, fun _ args σ K => match args with
 | [x, y] => rdb σ x fun a => rdb σ y fun b => (Bs a ∧ Bs b) ∧ K (.one (.bool (leq a b))) σ
 | _ => False⟩
def dalikeS : Spec := ⟨0, false, fun _ args σ K => match args with
 | [x, y] => rdr σ x fun a => rdr σ y fun b => ((RowsB a ∧ RowsB b) ∧ RowsS a ∧ RowsS b) ∧ K (.one (.bool (llEq a b))) σ
 | _ => False⟩
def greatS : Spec := ⟨0, false, fun _ args σ K => match args with
 | [x] => rdr σ x fun ll => RowsS ll ∧ K (.one (.bool (greatB ll))) σ
 | _ => False⟩
def gamD2 : Gam := ext gamD1 12 exchS
def gamD3 : Gam := ext gam0 17 dsameS
def gamD4 : Gam := ext (ext (ext (ext (ext gamD2 17 dsameS) 13 dalikeS) 9 greatS) 16 dplaceS) 8 dyesS
end Go.Sx
namespace Go.Proofs.Ytnpfockaigegiaa.G
open Go Go.Sx Go.Sx
set_option maxRecDepth 100000
theorem dsame_vc (R : AV → Mem → Prop) (fuel : Nat) (a : List Int) (b : List Int) : callsx Try.prog gam0 [] Try.f17 (fuel + 1) [.one (.vec 200000), .one (.vec 200001)] [(200000, .rview [.ints .u8 a]), (200001, .rview [.ints .u8 b])] R = ((R (AV.one (AC.bool (seq2 (bytesOf a) (bytesOf b)))) [(200000, Blk.rview [(Col.ints IntKind.u8 a)]), (200001, Blk.rview [(Col.ints IntKind.u8 b)])])) := by kernel_rfl
theorem dplace_vc (R : AV → Mem → Prop) (fuel : Nat) (i : Int) (n : Int) : callsx Try.prog gam0 [] Try.f16 (fuel + 1) [.one (.int .i64 i), .one (.int .i64 n)] [] R = (((((ilt i 0) = true) → ((NeZ n) ∧ (R (AV.one (AC.int IntKind.i64 (rem (sub IntKind.i64 0 (add IntKind.i64 i 1)) n))) []))) ∧ (((ilt i 0) = false) → ((NeZ n) ∧ (R (AV.one (AC.int IntKind.i64 (rem i n))) []))))) := by kernel_rfl
def dalike.l0 (R : AV → Mem → Prop) (a b : List (List Int)) (fuel : Nat) (x0 : Int) : Prop := run Try.prog gamD3 [] (resh Try.prog [] Try.f13.results.toList R) fuel [kc Try.f13 [1,1,0,1,0,0],ki Try.f13 [1,1,0,1,0,0],.inBlock 0,kc Try.f13 [1,1,1]] (Vv 200000::Vv 200001::(us 10 (Ii (ofNat (llen a))::Ii x0::(us 13 [])))) [(200000,Blk.rview [Col.rows IntKind.u8 a]),(200001,Blk.rview [Col.rows IntKind.u8 b])]
theorem dalike.l0_succ (R : AV → Mem → Prop) (a b : List (List Int)) (fuel : Nat) (x0 : Int) : dalike.l0 R a b (fuel + 1) x0 = (((((ilt x0 (ofNat (llen a))) = true) → ((InB x0 (llen a)) ∧ ((InB x0 (llen b)) ∧ (((Bs (llget a (nat x0))) ∧ (Bs (llget b (nat x0)))) ∧ ((((bnot (leq (llget a (nat x0)) (llget b (nat x0)))) = true) → (R (Ll false) [(200000,Blk.rview [Col.rows IntKind.u8 a]),(200001,Blk.rview [Col.rows IntKind.u8 b])])) ∧ (((bnot (leq (llget a (nat x0)) (llget b (nat x0)))) = false) → (dalike.l0 R a b fuel (add IntKind.i64 x0 1)))))))) ∧ (((ilt x0 (ofNat (llen a))) = false) → (R (Ll true) [(200000,Blk.rview [Col.rows IntKind.u8 a]),(200001,Blk.rview [Col.rows IntKind.u8 b])])))) := by kernel_rfl
theorem dalike_vc (R : AV → Mem → Prop) (fuel : Nat) (a : List (List Int)) (b : List (List Int)) : callsx Try.prog gamD3 [] Try.f13 (fuel + 1) [.one (.vec 200000), .one (.vec 200001)] [(200000, .rview [.rows .u8 a]), (200001, .rview [.rows .u8 b])] R = (((((ine (ofNat (llen a)) (ofNat (llen b))) = true) → (R (AV.one (AC.lit false)) [(200000, Blk.rview [(Col.rows IntKind.u8 a)]), (200001, Blk.rview [(Col.rows IntKind.u8 b)])])) ∧ (((ine (ofNat (llen a)) (ofNat (llen b))) = false) → (dalike.l0 R a b fuel 0)))) := by kernel_rfl
def dgreat.l0 (R : AV → Mem → Prop) (a : List (List Int)) (fuel : Nat) (x0 x1 : Int) : Prop := run Try.prog gam0 [] (resh Try.prog [] Try.f9.results.toList R) fuel [kc Try.f9 [1,1,0,1,0,0],ki Try.f9 [1,1,0,1,0,0],.inBlock 0,kc Try.f9 [1,1,1]] (Vv 200000::Uu::Uu::Ii x0::Uu::Uu::Vv 200000::Ii (ofNat (llen a))::Ii x1::(us 10 [Zz,Zz,Zz])) [(200000,Blk.rview [Col.rows IntKind.u8 a])]
theorem dgreat.l0_succ (R : AV → Mem → Prop) (a : List (List Int)) (fuel : Nat) (x0 x1 : Int) : dgreat.l0 R a (fuel + 1) x0 x1 = (((((ilt x1 (ofNat (llen a))) = true) → ((InB x1 (llen a)) ∧ ((((igt (add IntKind.i64 x0 (ofNat (llen (llget a (nat x1))))) 1048576) = true) → (R (Ll true) [(200000,Blk.rview [Col.rows IntKind.u8 a])])) ∧ (((igt (add IntKind.i64 x0 (ofNat (llen (llget a (nat x1))))) 1048576) = false) → (dgreat.l0 R a fuel (add IntKind.i64 x0 (ofNat (llen (llget a (nat x1))))) (add IntKind.i64 x1 1)))))) ∧ (((ilt x1 (ofNat (llen a))) = false) → (R (Bb (igt (ofNat (llen a)) 2048)) [(200000,Blk.rview [Col.rows IntKind.u8 a])])))) := by kernel_rfl
theorem dgreat_vc (R : AV → Mem → Prop) (fuel : Nat) (a : List (List Int)) : callsx Try.prog gam0 [] Try.f9 (fuel + 1) [.one (.vec 200000)] [(200000, .rview [.rows .u8 a])] R = ((dgreat.l0 R a fuel 0 0)) := by kernel_rfl
theorem dawake_vc (R : AV → Mem → Prop) (fuel : Nat)  : callsx Try.prog gamD2 [] Try.f8 (fuel + 1) [] [] R = (((InB 0 10) ∧ ((InB 0 8) ∧ ((InB 0 10) ∧ ((Fits 3 1000000000) ∧ ((((ieq (ofNat (llen (exchL [[114, 111, 111, 109, 48, 48, 48, 49, 104, 105], [114, 111, 111, 109, 48, 48, 48, 50], [114, 111, 111, 109, 48, 48, 48, 49, 104, 111]]))) 3) = true) → ((InB 0 (llen (exchL [[114, 111, 111, 109, 48, 48, 48, 49, 104, 105], [114, 111, 111, 109, 48, 48, 48, 50], [114, 111, 111, 109, 48, 48, 48, 49, 104, 111]]))) ∧ ((((seq2 (bytesOf (llget (exchL [[114, 111, 111, 109, 48, 48, 48, 49, 104, 105], [114, 111, 111, 109, 48, 48, 48, 50], [114, 111, 111, 109, 48, 48, 48, 49, 104, 111]]) 0)) (ByteArray.mk (Array.mk [1, 104, 111]))) = true) → ((InB 1 (llen (exchL [[114, 111, 111, 109, 48, 48, 48, 49, 104, 105], [114, 111, 111, 109, 48, 48, 48, 50], [114, 111, 111, 109, 48, 48, 48, 49, 104, 111]]))) ∧ ((((seq2 (bytesOf (llget (exchL [[114, 111, 111, 109, 48, 48, 48, 49, 104, 105], [114, 111, 111, 109, 48, 48, 48, 50], [114, 111, 111, 109, 48, 48, 48, 49, 104, 111]]) 1)) (ByteArray.mk (Array.mk [0]))) = true) → ((InB 2 (llen (exchL [[114, 111, 111, 109, 48, 48, 48, 49, 104, 105], [114, 111, 111, 109, 48, 48, 48, 50], [114, 111, 111, 109, 48, 48, 48, 49, 104, 111]]))) ∧ (let y0 : Bool := (seq2 (bytesOf (llget (exchL [[114, 111, 111, 109, 48, 48, 48, 49, 104, 105], [114, 111, 111, 109, 48, 48, 48, 50], [114, 111, 111, 109, 48, 48, 48, 49, 104, 111]]) 2)) (ByteArray.mk (Array.mk [1, 104, 105]))); (let y1 : Int := (ofNat (llen (exchL [[114, 111, 111, 109, 48, 48, 48, 49, 104, 105], [114, 111, 111, 109, 48, 48, 48, 50], [114, 111, 111, 109, 48, 48, 48, 49, 104, 111]]))); (let y2 : Bool := (ieq (ofNat (llen (exchL [[114, 111, 111, 109, 48, 48, 48, 49, 104, 105], [114, 111, 111, 109, 48, 48, 48, 50], [114, 111, 111, 109, 48, 48, 48, 49, 104, 111]]))) 3); (let y3 : ByteArray := (bytesOf (llget (exchL [[114, 111, 111, 109, 48, 48, 48, 49, 104, 105], [114, 111, 111, 109, 48, 48, 48, 50], [114, 111, 111, 109, 48, 48, 48, 49, 104, 111]]) 0)); (let y4 : Bool := (seq2 (bytesOf (llget (exchL [[114, 111, 111, 109, 48, 48, 48, 49, 104, 105], [114, 111, 111, 109, 48, 48, 48, 50], [114, 111, 111, 109, 48, 48, 48, 49, 104, 111]]) 0)) (ByteArray.mk (Array.mk [1, 104, 111]))); (let y5 : ByteArray := (bytesOf (llget (exchL [[114, 111, 111, 109, 48, 48, 48, 49, 104, 105], [114, 111, 111, 109, 48, 48, 48, 50], [114, 111, 111, 109, 48, 48, 48, 49, 104, 111]]) 1)); (let y6 : Bool := (seq2 (bytesOf (llget (exchL [[114, 111, 111, 109, 48, 48, 48, 49, 104, 105], [114, 111, 111, 109, 48, 48, 48, 50], [114, 111, 111, 109, 48, 48, 48, 49, 104, 111]]) 1)) (ByteArray.mk (Array.mk [0]))); (let y7 : ByteArray := (bytesOf (llget (exchL [[114, 111, 111, 109, 48, 48, 48, 49, 104, 105], [114, 111, 111, 109, 48, 48, 48, 50], [114, 111, 111, 109, 48, 48, 48, 49, 104, 111]]) 2)); (R (AV.one (AC.bool y0)) [(2, Blk.rview [(Col.ints IntKind.u8 [114, 111, 111, 109, 48, 48, 48, 49, 104, 105])]), (4, Blk.rview [(Col.ints IntKind.u8 [114, 111, 111, 109, 48, 48, 48, 50])]), (6, Blk.rview [(Col.ints IntKind.u8 [114, 111, 111, 109, 48, 48, 48, 49, 104, 111])]), (8, Blk.vec [(Col.rows IntKind.u8 [[114, 111, 111, 109, 48, 48, 48, 49, 104, 105], [114, 111, 111, 109, 48, 48, 48, 50], [114, 111, 111, 109, 48, 48, 48, 49, 104, 111]])]), (9, Blk.rview [(Col.rows IntKind.u8 (exchL [[114, 111, 111, 109, 48, 48, 48, 49, 104, 105], [114, 111, 111, 109, 48, 48, 48, 50], [114, 111, 111, 109, 48, 48, 48, 49, 104, 111]]))])]))))))))))) ∧ (((seq2 (bytesOf (llget (exchL [[114, 111, 111, 109, 48, 48, 48, 49, 104, 105], [114, 111, 111, 109, 48, 48, 48, 50], [114, 111, 111, 109, 48, 48, 48, 49, 104, 111]]) 1)) (ByteArray.mk (Array.mk [0]))) = false) → (let y8 : Int := (ofNat (llen (exchL [[114, 111, 111, 109, 48, 48, 48, 49, 104, 105], [114, 111, 111, 109, 48, 48, 48, 50], [114, 111, 111, 109, 48, 48, 48, 49, 104, 111]]))); (let y9 : Bool := (ieq (ofNat (llen (exchL [[114, 111, 111, 109, 48, 48, 48, 49, 104, 105], [114, 111, 111, 109, 48, 48, 48, 50], [114, 111, 111, 109, 48, 48, 48, 49, 104, 111]]))) 3); (let y10 : ByteArray := (bytesOf (llget (exchL [[114, 111, 111, 109, 48, 48, 48, 49, 104, 105], [114, 111, 111, 109, 48, 48, 48, 50], [114, 111, 111, 109, 48, 48, 48, 49, 104, 111]]) 0)); (let y11 : Bool := (seq2 (bytesOf (llget (exchL [[114, 111, 111, 109, 48, 48, 48, 49, 104, 105], [114, 111, 111, 109, 48, 48, 48, 50], [114, 111, 111, 109, 48, 48, 48, 49, 104, 111]]) 0)) (ByteArray.mk (Array.mk [1, 104, 111]))); (let y12 : ByteArray := (bytesOf (llget (exchL [[114, 111, 111, 109, 48, 48, 48, 49, 104, 105], [114, 111, 111, 109, 48, 48, 48, 50], [114, 111, 111, 109, 48, 48, 48, 49, 104, 111]]) 1)); (let y13 : Bool := (seq2 (bytesOf (llget (exchL [[114, 111, 111, 109, 48, 48, 48, 49, 104, 105], [114, 111, 111, 109, 48, 48, 48, 50], [114, 111, 111, 109, 48, 48, 48, 49, 104, 111]]) 1)) (ByteArray.mk (Array.mk [0]))); (R (AV.one (AC.lit false)) [(2, Blk.rview [(Col.ints IntKind.u8 [114, 111, 111, 109, 48, 48, 48, 49, 104, 105])]), (4, Blk.rview [(Col.ints IntKind.u8 [114, 111, 111, 109, 48, 48, 48, 50])]), (6, Blk.rview [(Col.ints IntKind.u8 [114, 111, 111, 109, 48, 48, 48, 49, 104, 111])]), (8, Blk.vec [(Col.rows IntKind.u8 [[114, 111, 111, 109, 48, 48, 48, 49, 104, 105], [114, 111, 111, 109, 48, 48, 48, 50], [114, 111, 111, 109, 48, 48, 48, 49, 104, 111]])]), (9, Blk.rview [(Col.rows IntKind.u8 (exchL [[114, 111, 111, 109, 48, 48, 48, 49, 104, 105], [114, 111, 111, 109, 48, 48, 48, 50], [114, 111, 111, 109, 48, 48, 48, 49, 104, 111]]))])]))))))))))) ∧ (((seq2 (bytesOf (llget (exchL [[114, 111, 111, 109, 48, 48, 48, 49, 104, 105], [114, 111, 111, 109, 48, 48, 48, 50], [114, 111, 111, 109, 48, 48, 48, 49, 104, 111]]) 0)) (ByteArray.mk (Array.mk [1, 104, 111]))) = false) → (let y14 : Int := (ofNat (llen (exchL [[114, 111, 111, 109, 48, 48, 48, 49, 104, 105], [114, 111, 111, 109, 48, 48, 48, 50], [114, 111, 111, 109, 48, 48, 48, 49, 104, 111]]))); (let y15 : Bool := (ieq (ofNat (llen (exchL [[114, 111, 111, 109, 48, 48, 48, 49, 104, 105], [114, 111, 111, 109, 48, 48, 48, 50], [114, 111, 111, 109, 48, 48, 48, 49, 104, 111]]))) 3); (let y16 : ByteArray := (bytesOf (llget (exchL [[114, 111, 111, 109, 48, 48, 48, 49, 104, 105], [114, 111, 111, 109, 48, 48, 48, 50], [114, 111, 111, 109, 48, 48, 48, 49, 104, 111]]) 0)); (let y17 : Bool := (seq2 (bytesOf (llget (exchL [[114, 111, 111, 109, 48, 48, 48, 49, 104, 105], [114, 111, 111, 109, 48, 48, 48, 50], [114, 111, 111, 109, 48, 48, 48, 49, 104, 111]]) 0)) (ByteArray.mk (Array.mk [1, 104, 111]))); (R (AV.one (AC.lit false)) [(2, Blk.rview [(Col.ints IntKind.u8 [114, 111, 111, 109, 48, 48, 48, 49, 104, 105])]), (4, Blk.rview [(Col.ints IntKind.u8 [114, 111, 111, 109, 48, 48, 48, 50])]), (6, Blk.rview [(Col.ints IntKind.u8 [114, 111, 111, 109, 48, 48, 48, 49, 104, 111])]), (8, Blk.vec [(Col.rows IntKind.u8 [[114, 111, 111, 109, 48, 48, 48, 49, 104, 105], [114, 111, 111, 109, 48, 48, 48, 50], [114, 111, 111, 109, 48, 48, 48, 49, 104, 111]])]), (9, Blk.rview [(Col.rows IntKind.u8 (exchL [[114, 111, 111, 109, 48, 48, 48, 49, 104, 105], [114, 111, 111, 109, 48, 48, 48, 50], [114, 111, 111, 109, 48, 48, 48, 49, 104, 111]]))])]))))))))) ∧ (((ieq (ofNat (llen (exchL [[114, 111, 111, 109, 48, 48, 48, 49, 104, 105], [114, 111, 111, 109, 48, 48, 48, 50], [114, 111, 111, 109, 48, 48, 48, 49, 104, 111]]))) 3) = false) → (let y18 : Int := (ofNat (llen (exchL [[114, 111, 111, 109, 48, 48, 48, 49, 104, 105], [114, 111, 111, 109, 48, 48, 48, 50], [114, 111, 111, 109, 48, 48, 48, 49, 104, 111]]))); (let y19 : Bool := (ieq (ofNat (llen (exchL [[114, 111, 111, 109, 48, 48, 48, 49, 104, 105], [114, 111, 111, 109, 48, 48, 48, 50], [114, 111, 111, 109, 48, 48, 48, 49, 104, 111]]))) 3); (R (AV.one (AC.lit false)) [(2, Blk.rview [(Col.ints IntKind.u8 [114, 111, 111, 109, 48, 48, 48, 49, 104, 105])]), (4, Blk.rview [(Col.ints IntKind.u8 [114, 111, 111, 109, 48, 48, 48, 50])]), (6, Blk.rview [(Col.ints IntKind.u8 [114, 111, 111, 109, 48, 48, 48, 49, 104, 111])]), (8, Blk.vec [(Col.rows IntKind.u8 [[114, 111, 111, 109, 48, 48, 48, 49, 104, 105], [114, 111, 111, 109, 48, 48, 48, 50], [114, 111, 111, 109, 48, 48, 48, 49, 104, 111]])]), (9, Blk.rview [(Col.rows IntKind.u8 (exchL [[114, 111, 111, 109, 48, 48, 48, 49, 104, 105], [114, 111, 111, 109, 48, 48, 48, 50], [114, 111, 111, 109, 48, 48, 48, 49, 104, 111]]))])])))))))))) := by kernel_rfl
set_option maxRecDepth 20000
set_option maxHeartbeats 1000000
theorem seq_leq {a b : List Int} (ha : Bs a) (hb : Bs b) : seq2 (bytesOf a) (bytesOf b) = leq a b := by
 rw [Bool.eq_iff_iff, seq2_true, leq_eq]
 exact ⟨fun h => bytes_eq ha hb h, fun h => by rw [h]⟩
theorem good_dsame : Sx.Good Try.prog 17 dsameS := by
 refine Sx.Good.reads (D := []) mixed (good0 _) Try.func17 (by kernel_rfl) rfl fun d args σ K h => ?_
 simp only [dsameS] at h
 split at h <;> try exact h.elim
 obtain ⟨a, h, hr⟩ := rdb_row h
 obtain ⟨b, ⟨⟨ha, hb⟩, hK⟩, hr2⟩ := rdb_row h
 refine ⟨[.one (.vec 200000), .one (.vec 200001)], [(200000, .rview [.ints .u8 a]), (200001, .rview [.ints .u8 b])], .row [.ints .u8] _ hr (by decide) (.row [.ints .u8] _ hr2 (by decide) (.nil _)), by simp, 1, ?_⟩
 rw [dsame_vc]
 exact res_bool (seq_leq ha hb) hK
theorem good_dplace : Sx.Good Try.prog 16 dplaceS := by
 refine Sx.Good.pure (D := []) mixed (good0 _) Try.func16 (by kernel_rfl) rfl fun d args σ K h => ?_
 simp only [dplaceS] at h
 split at h <;> try exact h.elim
 rename_i i n
 obtain ⟨⟨hi, hn⟩, hK⟩ := h
 obtain ⟨h1, h2⟩ := hi
 have hn := hn.lt
 refine ⟨by simp [plain_int], _, plain_int _ _, hK, 0 + 1, ?_⟩
 rw [dplace_vc]
 refine ⟨fun q => ?_, fun q => ?_⟩
 ·rw [ilt_true] at q
  refine ⟨⟨by omega⟩, ?_⟩
  rw [add_i64 (by omega) (by omega), sub_i64 (by omega) (by omega)]
  unfold placeI; rw [if_pos q]
  congr 3; omega
 ·rw [ilt_false] at q
  refine ⟨⟨by omega⟩, ?_⟩
  unfold placeI; rw [if_neg (by omega)]
theorem d2_good : GoodG Try.prog gamD2 := d1_good.ext good_exch ⟨_, Try.func12, by decide, by kernel_rfl⟩
theorem d3_good : GoodG Try.prog gamD3 := (good0 _).ext good_dsame ⟨_, Try.func17, by decide, by kernel_rfl⟩
theorem llget_mem {ll : List (List Int)} {i : Nat} (h : i < ll.length) : llget ll i ∈ ll := List.mem_of_getElem? (llget_some h)
theorem llEq_true {a b : List (List Int)} : llEq a b = true ↔ a = b := by simp [llEq]
theorem llget_ext {a b : List (List Int)} (hl : a.length = b.length) (h : ∀ i, i < a.length → llget a i = llget b i) : a = b := by
 apply List.ext_getElem hl
 intro i h1 h2
 have := h i h1
 simp only [llget, List.getD, List.getElem?_eq_getElem h1, List.getElem?_eq_getElem h2, Option.getD_some] at this
 exact this
theorem alike_loop {R : AV → Mem → Prop} {a b : List (List Int)} (hl : a.length = b.length) (hn : a.length ≤ 17592186044416) (ha : RowsB a) (hb : RowsB b)
  (hY : a = b → R (.one (.lit true)) [(200000, .rview [.rows .u8 a]), (200001, .rview [.rows .u8 b])]) (hN : a ≠ b → R (.one (.lit false)) [(200000, .rview [.rows .u8 a]), (200001, .rview [.rows .u8 b])]) :
  ∀ (r i : Nat), a.length - i = r → i ≤ a.length → (∀ j, j < i → llget a j = llget b j) → ∃ F, dalike.l0 R a b F (i : Int)
 | 0, i, hr, hi, h => by
  have e1 : ilt (i : Int) (ofNat (llen a)) = false := by rw [ilt_false, ofNat_def, llen_def]; omega
  refine ⟨0 + 1, ?_⟩
  rw [dalike.l0_succ, e1]
  exact ⟨fun q => (by cases q), fun _ => hY (llget_ext hl fun j hj => h j (by omega))⟩
 | r + 1, i, hr, hi, h => by
  have e1 : ilt (i : Int) (ofNat (llen a)) = true := by rw [ilt_true, ofNat_def, llen_def]; omega
  have a1 : add .i64 (i : Int) 1 = ((i + 1 : Nat) : Int) := add1_i64 (by omega)
  have i1 : InB (i : Int) (llen a) := ⟨by omega, by rw [llen_def]; omega⟩
  have i2 : InB (i : Int) (llen b) := ⟨by omega, by rw [llen_def]; omega⟩
  have b1 := ha.all _ (llget_mem (i := i) (by omega))
  have b2 := hb.all _ (llget_mem (i := i) (by omega))
  cases q : leq (llget a i) (llget b i) with
  | true =>
   obtain ⟨F, hF⟩ := alike_loop hl hn ha hb hY hN r (i + 1) (by omega) (by omega) fun j hj => by
    by_cases e : j = i
    ·subst e; exact leq_eq.1 q
    ·exact h j (by omega)
   refine ⟨F + 1, ?_⟩
   rw [dalike.l0_succ, e1, nat_cast, q, a1]
   exact ⟨fun _ => ⟨i1, i2, ⟨b1, b2⟩, fun q => (by cases q), fun _ => hF⟩, fun q => (by cases q)⟩
  | false =>
   refine ⟨0 + 1, ?_⟩
   rw [dalike.l0_succ, e1, nat_cast, q]
   exact ⟨fun _ => ⟨i1, i2, ⟨b1, b2⟩, fun _ => hN fun e => (by rw [e, leq_eq.2 rfl] at q; cases q), fun q => (by cases q)⟩, fun q => (by cases q)⟩
theorem good_dalike : Sx.Good Try.prog 13 dalikeS := by
 refine Sx.Good.reads (D := []) mixed d3_good Try.func13 (by kernel_rfl) rfl fun d args σ K h => ?_
 simp only [dalikeS] at h
 split at h <;> try exact h.elim
 obtain ⟨a, h, hr⟩ := rdr_row h
 obtain ⟨b, ⟨⟨⟨ha, hb⟩, hsa, hsb⟩, hK⟩, hr2⟩ := rdr_row h
 have yes : ∀ σ', a = b → Res d 0 σ K (.one (.lit true)) σ' := fun σ' e => res_lit (llEq_true.2 e).symm hK
 have no : ∀ σ', a ≠ b → Res d 0 σ K (.one (.lit false)) σ' := fun σ' e => res_lit (by
  cases q : llEq a b with
  | false => rfl
  | true => exact absurd (llEq_true.1 q) e) hK
 have key : ∃ F, callsx Try.prog gamD3 [] Try.f13 F [.one (.vec 200000), .one (.vec 200001)] [(200000, .rview [.rows .u8 a]), (200001, .rview [.rows .u8 b])] (Res d dalikeS.news σ K) := by
  have ha2 := hsa.le
  have hb2 := hsb.le
  by_cases q : a.length = b.length
  ·obtain ⟨F, hF⟩ := alike_loop (R := Res d dalikeS.news σ K) q ha2 ha hb (yes _) (no _) a.length 0 (by omega) (by omega) (fun j hj => by omega)
   refine ⟨F + 1, ?_⟩
   have e : ine (ofNat (llen a)) (ofNat (llen b)) = false := by rw [ine_false, ofNat_def, ofNat_def, llen_def, llen_def, q]
   rw [dalike_vc, e]
   exact ⟨fun q => (by cases q), fun _ => hF⟩
  ·have e : ine (ofNat (llen a)) (ofNat (llen b)) = true := by rw [ine_true, ofNat_def, ofNat_def, llen_def, llen_def]; omega
   refine ⟨0 + 1, ?_⟩
   rw [dalike_vc, e]
   exact ⟨fun _ => no _ fun e => q (by rw [e]), fun q => (by cases q)⟩
 obtain ⟨F, hF⟩ := key
 exact ⟨[.one (.vec 200000), .one (.vec 200001)], [(200000, .rview [.rows .u8 a]), (200001, .rview [.rows .u8 b])], .rowH [.rows .u8] _ hr (by decide) (.rowH [.rows .u8] _ hr2 (by decide) (.nil _)), by simp, F, hF⟩
theorem sum_take {ll : List (List Int)} (i : Nat) (h : i < ll.length) : ((ll.take (i + 1)).map fun p => (p.length : Int)).sum = ((ll.take i).map fun p => (p.length : Int)).sum + ((llget ll i).length : Int) := by
 rw [List.take_add_one, llget_some h]
 simp
theorem sum_le {ll : List (List Int)} (i : Nat) : ((ll.take i).map fun p => (p.length : Int)).sum ≤ (ll.map fun p => (p.length : Int)).sum := by
 conv => rhs; rw [← List.take_append_drop i ll, List.map_append, List.sum_append]
 have : ∀ l : List (List Int), 0 ≤ (l.map fun p => (p.length : Int)).sum := fun l => by
  induction l with
  | nil => simp
  | cons p r ih => simp; omega
 have := this (ll.drop i)
 omega
theorem great_loop {R : AV → Mem → Prop} {a : List (List Int)} (hs : RowsS a) (hY : greatB a = true → R (.one (.lit true)) [(200000, .rview [.rows .u8 a])])
  (hN : ¬ (1048576 < ((a.map fun p => (p.length : Int)).sum)) → R (.one (.bool (igt (ofNat (llen a)) 2048))) [(200000, .rview [.rows .u8 a])]) :
  ∀ (r i : Nat), a.length - i = r → i ≤ a.length → ((a.take i).map fun p => (p.length : Int)).sum ≤ 1048576 → 0 ≤ ((a.take i).map fun p => (p.length : Int)).sum → ∃ F, dgreat.l0 R a F ((a.take i).map fun p => (p.length : Int)).sum (i : Int)
 | 0, i, hr, hi, h, h0 => by
  have e1 : ilt (i : Int) (ofNat (llen a)) = false := by rw [ilt_false, ofNat_def, llen_def]; omega
  have e2 : a.take i = a := List.take_of_length_le (by omega)
  refine ⟨0 + 1, ?_⟩
  rw [dgreat.l0_succ, e1]
  exact ⟨fun q => (by cases q), fun _ => hN (by rw [e2] at h; omega)⟩
 | r + 1, i, hr, hi, h, h0 => by
  have hle := hs.le
  have hil : i < a.length := by omega
  have hpl := hs.all _ (llget_mem hil)
  have e1 : ilt (i : Int) (ofNat (llen a)) = true := by rw [ilt_true, ofNat_def, llen_def]; omega
  have a1 : add .i64 (i : Int) 1 = ((i + 1 : Nat) : Int) := add1_i64 (by omega)
  have i1 : InB (i : Int) (llen a) := ⟨by omega, by rw [llen_def]; omega⟩
  have aS : add .i64 ((a.take i).map fun p => (p.length : Int)).sum (ofNat (llen (llget a i))) = ((a.take (i + 1)).map fun p => (p.length : Int)).sum := by
   rw [sum_take i hil, ofNat_def, llen_def]
   exact add_i64 (by omega) (by omega)
  have st := sum_take (ll := a) i hil
  by_cases q : 1048576 < ((a.take (i + 1)).map fun p => (p.length : Int)).sum
  ·have e2 : igt (add .i64 ((a.take i).map fun p => (p.length : Int)).sum (ofNat (llen (llget a i)))) 1048576 = true := by rw [igt_true, aS]; exact q
   refine ⟨0 + 1, ?_⟩
   rw [dgreat.l0_succ, e1, nat_cast, e2]
   refine ⟨fun _ => ⟨i1, fun _ => hY ?_, fun q => (by cases q)⟩, fun q => (by cases q)⟩
   have := sum_le (ll := a) (i + 1)
   have e3 : igt ((a.map fun p => (p.length : Int)).sum) 1048576 = true := by rw [igt_true]; omega
   unfold greatB; rw [e3]; rfl
  ·have e2 : igt (add .i64 ((a.take i).map fun p => (p.length : Int)).sum (ofNat (llen (llget a i)))) 1048576 = false := by rw [igt_false, aS]; omega
   obtain ⟨F, hF⟩ := great_loop hs hY hN r (i + 1) (by omega) (by omega) (by omega) (by omega)
   refine ⟨F + 1, ?_⟩
   rw [dgreat.l0_succ, e1, nat_cast, e2, aS, a1]
   exact ⟨fun _ => ⟨i1, fun q => (by cases q), fun _ => hF⟩, fun q => (by cases q)⟩
theorem good_great : Sx.Good Try.prog 9 greatS := by
 refine Sx.Good.reads (D := []) mixed (good0 _) Try.func9 (by kernel_rfl) rfl fun d args σ K h => ?_
 simp only [greatS] at h
 split at h <;> try exact h.elim
 obtain ⟨a, ⟨hs, hK⟩, hr⟩ := rdr_row h
 obtain ⟨F, hF⟩ := great_loop (R := Res d greatS.news σ K) hs (fun e => res_lit e.symm hK) (fun e => res_bool (by
  have e3 : igt ((a.map fun p => (p.length : Int)).sum) 1048576 = false := by rw [igt_false]; omega
  unfold greatB; rw [e3]; rfl) hK) a.length 0 (by omega) (by omega) (by simp) (by simp)
 exact ⟨[.one (.vec 200000)], [(200000, .rview [.rows .u8 a])], .rowH [.rows .u8] _ hr (by decide) (.nil _), by simp, F + 1, by rw [dgreat_vc]; exact hF⟩
theorem awake_answers : exchL [[114, 111, 111, 109, 48, 48, 48, 49, 104, 105], [114, 111, 111, 109, 48, 48, 48, 50], [114, 111, 111, 109, 48, 48, 48, 49, 104, 111]] = [[1, 104, 111], [0], [1, 104, 105]] := by decide +kernel
theorem good_dawake : Sx.Good Try.prog 8 dyesS := by
 refine Sx.Good.pure2 (D := []) mixed d2_good Try.func8 (by kernel_rfl) rfl fun d args σ K h => ?_
 simp only [dyesS] at h
 split at h <;> try exact h.elim
 refine ⟨by simp, _, fun n => rfl, h, 0 + 1, ?_⟩
 rw [dawake_vc]
 have i0 : InB 0 10 := ⟨by omega, by omega⟩
 have i1 : InB 0 8 := ⟨by omega, by omega⟩
 have f3 : Fits 3 1000000000 := ⟨by omega⟩
 have j0 : InB 0 3 := ⟨by omega, by omega⟩
 have j1 : InB 1 3 := ⟨by omega, by omega⟩
 have j2 : InB 2 3 := ⟨by omega, by omega⟩
 have s0 : seq2 (bytesOf [1, 104, 111]) (ByteArray.mk (Array.mk [1, 104, 111])) = true := by decide +kernel
 have s1 : seq2 (bytesOf [0]) (ByteArray.mk (Array.mk [0])) = true := by decide +kernel
 have s2 : seq2 (bytesOf [1, 104, 105]) (ByteArray.mk (Array.mk [1, 104, 105])) = true := by decide +kernel
 have l3 : llen [[1, 104, 111], [0], [(1 : Int), 104, 105]] = 3 := rfl
 have g0 : llget [[1, 104, 111], [0], [(1 : Int), 104, 105]] 0 = [1, 104, 111] := rfl
 have g1 : llget [[1, 104, 111], [0], [(1 : Int), 104, 105]] 1 = [0] := rfl
 have g2 : llget [[1, 104, 111], [0], [(1 : Int), 104, 105]] 2 = [1, 104, 105] := rfl
 have e3 : ieq (ofNat 3) 3 = true := rfl
 simp only [awake_answers, l3, g0, g1, g2, s0, s1, s2, e3, i0, i1, f3, j0, j1, j2, true_and, and_true, Bool.true_eq_false, false_implies, forall_const]
 exact fun ρ v h => h
theorem d4_good : GoodG Try.prog gamD4 := ((((d2_good.ext good_dsame ⟨_, Try.func17, by decide, by kernel_rfl⟩).ext good_dalike ⟨_, Try.func13, by decide, by kernel_rfl⟩).ext good_great ⟨_, Try.func9, by decide, by kernel_rfl⟩).ext good_dplace ⟨_, Try.func16, by decide, by kernel_rfl⟩).ext good_dawake ⟨_, Try.func8, by decide, by kernel_rfl⟩
end Go.Proofs.Ytnpfockaigegiaa.G
namespace Go.Sx
open Go
def okA (p : List Int) : Bool := Nat.ble 1 (llen p) && Nat.ble (llen p) 41 && ile (lget p 0) 3 && (ieq (lget p 0) 1 || Nat.ble (llen p) 1)
def ansH (p : List Int) : Int := match okA p with | true => lget p 0 | false => 0
def ansR (p : List Int) : List Int := match okA p with | true => p.drop 1 | false => []
def ansE (p : List Int) : Int := match okA p with | true => 0 | false => 280
def reqE (m : List Int) : Int := match Nat.ble (llen m) 40 with | true => 0 | false => 1
def reqR (n m : List Int) : List Int := match Nat.ble (llen m) 40 with | true => lsub n 0 8 ++ m | false => []
def answerS : Spec := ⟨1, false, fun d args σ K => match args with
 | [x] => rdb σ x fun p => (Bs p ∧ Fits (llen p) 200000000000000) ∧ K (.tup [.c (.int .i64 (ansH p)), .c (.vec d), .c (.int .i64 (ansE p))]) (Mem.ins d (.vec [.ints .u8 (ansR p)]) σ)
 | _ => False⟩
def requestS : Spec := ⟨1, false, fun d args σ K => match args with
 | [.agg [.ints .u8 8 n], x] => rdb σ x fun m => Fits (llen m) 200000000000000 ∧ K (.tup [.c (.vec d), .c (.int .i64 (reqE m))]) (Mem.ins d (.vec [.ints .u8 (reqR n m)]) σ)
 | _ => False⟩
def gamD5 : Gam := ext (ext gamD4 18 answerS) 21 requestS
end Go.Sx
namespace Go.Proofs.Ytnpfockaigegiaa.G
open Go Go.Sx Go.Sx
set_option maxRecDepth 100000
theorem dans_vc (R : AV → Mem → Prop) (fuel : Nat) (p : List Int) : callsx Try.prog gam0 [] Try.f18 (fuel + 1) [.one (.vec 200000)] [(200000, .rview [.ints .u8 p])] R = (((((ilt (ofNat (llen p)) 1) = false) → ((((igt (ofNat (llen p)) 41) = true) → (R (AV.tup [(TV.c (AC.int IntKind.i64 0)), (TV.c (AC.con (Value.slice (Option.none) 0 0))), (TV.c (AC.int IntKind.i64 280))]) [(200000, Blk.rview [(Col.ints IntKind.u8 p)])])) ∧ (((igt (ofNat (llen p)) 41) = false) → ((InB 0 (llen p)) ∧ ((((igt (conv IntKind.i64 (lget p 0)) 3) = false) → ((((ine (conv IntKind.i64 (lget p 0)) 1) = true) → ((((igt (ofNat (llen p)) 1) = true) → (R (AV.tup [(TV.c (AC.int IntKind.i64 0)), (TV.c (AC.con (Value.slice (Option.none) 0 0))), (TV.c (AC.int IntKind.i64 280))]) [(200000, Blk.rview [(Col.ints IntKind.u8 p)])])) ∧ (((igt (ofNat (llen p)) 1) = false) → (((NonNeg 1) ∧ (Fits 1 (llen p))) ∧ ((Room (nadd 0 (llen (lsub p 1 (nsub (llen p) 1)))) 1) ∧ (R (AV.tup [(TV.c (AC.int IntKind.i64 (conv IntKind.i64 (lget p 0)))), (TV.c (AC.vec 33)), (TV.c (AC.int IntKind.i64 0))]) [(33, Blk.vec [(Col.ints IntKind.u8 (lcat [] (lsub p 1 (nsub (llen p) 1))))]), (200000, Blk.rview [(Col.ints IntKind.u8 p)])])))))) ∧ (((ine (conv IntKind.i64 (lget p 0)) 1) = false) → (((NonNeg 1) ∧ (Fits 1 (llen p))) ∧ ((Room (nadd 0 (llen (lsub p 1 (nsub (llen p) 1)))) 1) ∧ (R (AV.tup [(TV.c (AC.int IntKind.i64 (conv IntKind.i64 (lget p 0)))), (TV.c (AC.vec 33)), (TV.c (AC.int IntKind.i64 0))]) [(33, Blk.vec [(Col.ints IntKind.u8 (lcat [] (lsub p 1 (nsub (llen p) 1))))]), (200000, Blk.rview [(Col.ints IntKind.u8 p)])])))))) ∧ (((igt (conv IntKind.i64 (lget p 0)) 3) = true) → (R (AV.tup [(TV.c (AC.int IntKind.i64 0)), (TV.c (AC.con (Value.slice (Option.none) 0 0))), (TV.c (AC.int IntKind.i64 280))]) [(200000, Blk.rview [(Col.ints IntKind.u8 p)])]))))))) ∧ (((ilt (ofNat (llen p)) 1) = true) → (R (AV.tup [(TV.c (AC.int IntKind.i64 0)), (TV.c (AC.con (Value.slice (Option.none) 0 0))), (TV.c (AC.int IntKind.i64 280))]) [(200000, Blk.rview [(Col.ints IntKind.u8 p)])])))) := by kernel_rfl
theorem dreq_vc (R : AV → Mem → Prop) (fuel : Nat) (n : List Int) (m : List Int) : callsx Try.prog gam0 [] Try.f21 (fuel + 1) [.agg [.ints .u8 8 n], .one (.vec 200001)] [(200001, .rview [.ints .u8 m])] R = (((((igt (ofNat (llen m)) 40) = true) → (R (AV.tup [(TV.c (AC.con (Value.slice (Option.none) 0 0))), (TV.c (AC.int IntKind.i64 1))]) [(2, Blk.own 35 [(Seg.ints IntKind.u8 8 n)]), (200001, Blk.rview [(Col.ints IntKind.u8 m)])])) ∧ (((igt (ofNat (llen m)) 40) = false) → ((Fits 8 8) ∧ ((Room (nadd (llen (lsub n 0 8)) (llen m)) 1) ∧ (R (AV.tup [(TV.c (AC.vec 11)), (TV.c (AC.int IntKind.i64 0))]) [(11, Blk.vec [(Col.ints IntKind.u8 (lcat (lsub n 0 8) m))]), (200001, Blk.rview [(Col.ints IntKind.u8 m)])])))))) := by kernel_rfl
set_option maxRecDepth 20000
set_option maxHeartbeats 1000000
section
variable {d : Nat} {σ σ' : Mem} {K : AV → Mem → Prop}
theorem res_itv {m : Nat} {k : IntKind} {l l' : List Int} {a b : Int} {r s : List TV} (ea : a = b) (hf : Mem.find σ' m = some (.vec [.ints k l])) (hr : PlainT r s) (e : l = l') (hK : K (.tup (.c (.int .i64 b) :: .c (.vec d) :: s)) (Mem.ins d (.vec [.ints k l']) σ)) : Res d 1 σ K (.tup (.c (.int .i64 a) :: .c (.vec m) :: r)) σ' := by
 subst e; subst ea
 exact ⟨[.vec m [.ints k l]], .tup (.c (.int .i64 a) :: .c (.vec d) :: s), Nat.le_refl _, fun it h => by simp at h; subst h; exact ⟨hf, rfl⟩, pairwise_one, ⟨Or.inl ⟨fun _ => rfl, fun _ => rfl, fun _ _ h => h⟩, Or.inr ⟨0, _, rfl, rfl, rfl⟩, hr.res⟩, hK⟩
theorem res_itnil {k : IntKind} {l' : List Int} {a b : Int} {r s : List TV} (ea : a = b) (hr : PlainT r s) (e : l' = []) (hK : K (.tup (.c (.int .i64 b) :: .c (.vec d) :: s)) (Mem.ins d (.vec [.ints k l']) σ)) : Res d 1 σ K (.tup (.c (.int .i64 a) :: .c (.con (.slice none 0 0)) :: r)) σ' := by
 subst e; subst ea
 exact ⟨[.nil [.ints k]], .tup (.c (.int .i64 a) :: .c (.vec d) :: s), Nat.le_refl _, fun it h => by simp at h; subst h; exact ⟨Nat.one_pos, rfl⟩, pairwise_one, ⟨Or.inl ⟨fun _ => rfl, fun _ => rfl, fun _ _ h => h⟩, Or.inr ⟨0, _, rfl, rfl, rfl⟩, hr.res⟩, hK⟩
end
theorem ok_iff {p : List Int} : okA p = true ↔ 1 ≤ p.length ∧ p.length ≤ 41 ∧ lget p 0 ≤ 3 ∧ (lget p 0 = 1 ∨ p.length ≤ 1) := by
 unfold okA
 rw [Bool.and_eq_true, Bool.and_eq_true, Bool.and_eq_true, Bool.or_eq_true, Nat.ble_eq, Nat.ble_eq, Nat.ble_eq, llen_def]
 simp only [ile, ieq, decide_eq_true_eq, and_assoc, beq_iff_eq]
theorem good_answer : Sx.Good Try.prog 18 answerS := by
 refine Sx.Good.reads (D := []) mixed (good0 _) Try.func18 (by kernel_rfl) rfl fun d args σ K h => ?_
 simp only [answerS] at h
 split at h <;> try exact h.elim
 obtain ⟨p, ⟨⟨hB, hs⟩, hK⟩, hr⟩ := rdb_row h
 refine ⟨[.one (.vec 200000)], [(200000, .rview [.ints .u8 p])], .row [.ints .u8] _ hr (by decide) (.nil _), by simp, 0 + 1, ?_⟩
 rw [dans_vc]
 have b0 := hB.get 0
 have cv : conv .i64 (lget p 0) = lget p 0 := conv_i64 (by simp only [lget]; omega) (by simp only [lget]; omega)
 rw [cv]
 have no : okA p = false → Res d answerS.news σ K (.tup [.c (.int .i64 0), .c (.con (.slice none 0 0)), .c (.int .i64 280)]) [(200000, Blk.rview [(Col.ints IntKind.u8 p)])] := fun q => by
  refine res_itnil ?_ (.int ?_ .nil) ?_ hK
  ·unfold ansH; rw [q]
  ·unfold ansE; rw [q]
  ·unfold ansR; rw [q]
 have yes : okA p = true → Res d answerS.news σ K (.tup [.c (.int .i64 (lget p 0)), .c (.vec 33), .c (.int .i64 0)]) [(33, Blk.vec [(Col.ints IntKind.u8 (lcat [] (lsub p 1 (nsub (llen p) 1))))]), (200000, Blk.rview [(Col.ints IntKind.u8 p)])] := fun q => by
  refine res_itv ?_ rfl (.int ?_ .nil) ?_ hK
  ·unfold ansH; rw [q]
  ·unfold ansE; rw [q]
  ·unfold ansR; rw [q]; exact lsub_drop p 1
 have nk : ¬ (1 ≤ p.length ∧ p.length ≤ 41 ∧ lget p 0 ≤ 3 ∧ (lget p 0 = 1 ∨ p.length ≤ 1)) → okA p = false := fun q => by
  cases e : okA p with
  | false => rfl
  | true => exact absurd (ok_iff.1 e) q
 have sd : llen (lsub p 1 (nsub (llen p) 1)) = p.length - 1 := by rw [llen_def, llen_def, nsub, lsub_drop]; simp
 refine ⟨fun q => ⟨fun q2 => no (nk ?_), fun q2 => ⟨⟨by omega, ?_⟩, fun q3 => ⟨fun q4 => ⟨fun q5 => no (nk ?_), fun q5 => ⟨⟨⟨by omega⟩, ⟨?_⟩⟩, room1 ?_, yes (ok_iff.2 ?_)⟩⟩, fun q4 => ⟨⟨⟨by omega⟩, ⟨?_⟩⟩, room1 ?_, yes (ok_iff.2 ?_)⟩⟩, fun q3 => no (nk ?_)⟩⟩, fun q => no (nk ?_)⟩ <;>
  simp only [ilt_true, ilt_false, igt_true, igt_false, ine_true, ine_false, ofNat_def, llen_def] at * <;> (try simp only [nadd] at *) <;> (try rw [sd]) <;> omega
theorem good_request : Sx.Good Try.prog 21 requestS := by
 refine Sx.Good.reads (D := []) mixed (good0 _) Try.func21 (by kernel_rfl) rfl fun d args σ K h => ?_
 simp only [requestS] at h
 split at h <;> try exact h.elim
 rename_i n x
 obtain ⟨m, ⟨hs, hK⟩, hr⟩ := rdb_row h
 refine ⟨[.agg [.ints .u8 8 n], .one (.vec 200001)], [(200001, .rview [.ints .u8 m])], .plain (plain_ints _ _ _) (.row [.ints .u8] _ hr (by decide) (.nil _)), by simp, 0 + 1, ?_⟩
 rw [dreq_vc]
 have hl := hs.le
 refine ⟨fun q => ?_, fun q => ⟨⟨by omega⟩, room1 ?_, ?_⟩⟩
 ·rw [igt_true, ofNat_def, llen_def] at q
  have e : Nat.ble (llen m) 40 = false := by rw [llen_def]; cases e : Nat.ble m.length 40 with
   | false => rfl
   | true => have := Nat.le_of_ble_eq_true e; omega
  exact res_tnil (.int (by unfold reqE; rw [e]) .nil) (by unfold reqR; rw [e]) hK
 ·rw [igt_false, ofNat_def, llen_def] at q
  have : (lsub n 0 8).length ≤ 8 := by unfold lsub; simp; omega
  show _ + _ ≤ _
  rw [llen_def, llen_def]; omega
 ·rw [igt_false, ofNat_def, llen_def] at q
  have e : Nat.ble (llen m) 40 = true := Nat.ble_eq_true_of_le (by rw [llen_def]; omega)
  refine res_tvec rfl (.int (by unfold reqE; rw [e]) .nil) ?_ hK
  unfold reqR; rw [e]; rfl
theorem d5_good : GoodG Try.prog gamD5 := (d4_good.ext good_answer ⟨_, Try.func18, by decide, by kernel_rfl⟩).ext good_request ⟨_, Try.func21, by decide, by kernel_rfl⟩
end Go.Proofs.Ytnpfockaigegiaa.G
