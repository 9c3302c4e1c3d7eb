import Derived.Test.YtienfecnkglilaaDoorRouteThroughG
set_option linter.unusedSimpArgs false
set_option linter.unusedVariables false
namespace Go.Proofs.YtienfecnkglilaaDoor.G
open Go Go.Sx Go.Oni Go.Rou
set_option maxRecDepth 100000
def lrwalks.k0 (R : AV → Mem → Prop) (KL : List (List Int)) (c : List Int) (ext0 ext1 : List (List Int)) (fuel m : Nat) : Prop := rM Tryd.prog gamR3 [⟨777777,[],true,false⟩] Tryd.f6 R fuel m [kc Tryd.f6 [1,0,1,0,1]] [Vv 200000,Vv 200001,Uu,Uu,Bb (ieq (weI KL c) (weI KL c)),Vv 14,Ii (weI KL c),Vv 20,Ii (weI KL c),Uu,Uu,AV.tup [TV.c (AC.vec 14),TV.c (AC.int IntKind.i64 (weI KL c))],Vv 200000,Vv 200001,AV.tup [TV.c (AC.vec 14),TV.c (AC.int IntKind.i64 (weI KL c))],Vv 14,Ii (weI KL c),AV.tup [TV.c (AC.vec 20),TV.c (AC.int IntKind.i64 (weI KL c))],Vv 200000,Vv 200001,AV.tup [TV.c (AC.vec 20),TV.c (AC.int IntKind.i64 (weI KL c))],Vv 20,Ii (weI KL c),Vv 20,Vv 14,Bb (llq2 (hcons (lcat (lcat [[]] ext0) ext1) (hfrom (llen (lcat [[]] ext0)) (wcL KL c))) (wrL KL c) (hcons (lcat (lcat [[]] ext0) ext1) (hfrom 1 (wcL KL c))) (wrL KL c)),Ll true,Ii (weI KL c),Ii (weI KL c),Bb (ieq (weI KL c) (weI KL c)),Bb (ieq (weI KL c) (weI KL c))] [(14,Blk.vec [Col.hss IntKind.u8 (hfrom 1 (wcL KL c)),Col.arrs IntKind.u8 16 (wrL KL c)]),(20,Blk.vec [Col.hss IntKind.u8 (hfrom (llen (lcat [[]] ext0)) (wcL KL c)),Col.arrs IntKind.u8 16 (wrL KL c)]),(200000,Blk.rview [Col.rows IntKind.u8 KL]),(200001,Blk.rview [Col.ints IntKind.u8 c]),(900004,Blk.heap IntKind.u8 (lcat (lcat [[]] ext0) ext1)),(1000000,Blk.view [Seg.ints IntKind.u32 64 Go.Hsh.rootsL])]
def lrwalks.k1 (R : AV → Mem → Prop) (KL : List (List Int)) (c : List Int) (ext0 ext1 : List (List Int)) (fuel m : Nat) : Prop := rM Tryd.prog gamR3 [⟨777777,[],true,false⟩] Tryd.f6 R fuel m [kc Tryd.f6 [1,0,1,0,1]] [Vv 200000,Vv 200001,Uu,Uu,Ll false,Vv 14,Ii (weI KL c),Vv 20,Ii (weI KL c),Uu,Uu,AV.tup [TV.c (AC.vec 14),TV.c (AC.int IntKind.i64 (weI KL c))],Vv 200000,Vv 200001,AV.tup [TV.c (AC.vec 14),TV.c (AC.int IntKind.i64 (weI KL c))],Vv 14,Ii (weI KL c),AV.tup [TV.c (AC.vec 20),TV.c (AC.int IntKind.i64 (weI KL c))],Vv 200000,Vv 200001,AV.tup [TV.c (AC.vec 20),TV.c (AC.int IntKind.i64 (weI KL c))],Vv 20,Ii (weI KL c),Vv 20,Vv 14,Bb (llq2 (hcons (lcat (lcat [[]] ext0) ext1) (hfrom (llen (lcat [[]] ext0)) (wcL KL c))) (wrL KL c) (hcons (lcat (lcat [[]] ext0) ext1) (hfrom 1 (wcL KL c))) (wrL KL c)),Ll false,Zz,Zz,Zz,Ll false] [(14,Blk.vec [Col.hss IntKind.u8 (hfrom 1 (wcL KL c)),Col.arrs IntKind.u8 16 (wrL KL c)]),(20,Blk.vec [Col.hss IntKind.u8 (hfrom (llen (lcat [[]] ext0)) (wcL KL c)),Col.arrs IntKind.u8 16 (wrL KL c)]),(200000,Blk.rview [Col.rows IntKind.u8 KL]),(200001,Blk.rview [Col.ints IntKind.u8 c]),(900004,Blk.heap IntKind.u8 (lcat (lcat [[]] ext0) ext1)),(1000000,Blk.view [Seg.ints IntKind.u32 64 Go.Hsh.rootsL])]
def lrwalks.k2 (R : AV → Mem → Prop) (KL : List (List Int)) (c : List Int) (ext0 ext1 : List (List Int)) (fuel m : Nat) : Prop := rM Tryd.prog gamR3 [⟨777777,[],true,false⟩] Tryd.f6 R fuel m [kc Tryd.f6 [1,1,1,1]] (Vv 200000::Vv 200001::Uu::Uu::Uu::Vv 14::Ii (weI KL c)::Vv 20::Ii (weI KL c)::Uu::Uu::AV.tup [TV.c (AC.vec 14),TV.c (AC.int IntKind.i64 (weI KL c))]::Vv 200000::Vv 200001::AV.tup [TV.c (AC.vec 14),TV.c (AC.int IntKind.i64 (weI KL c))]::Vv 14::Ii (weI KL c)::AV.tup [TV.c (AC.vec 20),TV.c (AC.int IntKind.i64 (weI KL c))]::Vv 200000::Vv 200001::AV.tup [TV.c (AC.vec 20),TV.c (AC.int IntKind.i64 (weI KL c))]::Vv 20::Ii (weI KL c)::(zs 8 [])) [(14,Blk.vec [Col.hss IntKind.u8 (hfrom 1 (wcL KL c)),Col.arrs IntKind.u8 16 (wrL KL c)]),(20,Blk.vec [Col.hss IntKind.u8 (hfrom (llen (lcat [[]] ext0)) (wcL KL c)),Col.arrs IntKind.u8 16 (wrL KL c)]),(200000,Blk.rview [Col.rows IntKind.u8 KL]),(200001,Blk.rview [Col.ints IntKind.u8 c]),(900004,Blk.heap IntKind.u8 (lcat (lcat [[]] ext0) ext1)),(1000000,Blk.view [Seg.ints IntKind.u32 64 Go.Hsh.rootsL])]
def lrwalks.k3 (R : AV → Mem → Prop) (KL : List (List Int)) (c : List Int) (ext0 : List (List Int)) (fuel m : Nat) : Prop := rM Tryd.prog gamR3 [⟨777777,[],true,false⟩] Tryd.f6 R fuel m [kc Tryd.f6 [1,1,1]] (Vv 200000::Vv 200001::Uu::Uu::Uu::Vv 14::Ii (weI KL c)::Zz::Zz::Uu::Uu::AV.tup [TV.c (AC.vec 14),TV.c (AC.int IntKind.i64 (weI KL c))]::Vv 200000::Vv 200001::AV.tup [TV.c (AC.vec 14),TV.c (AC.int IntKind.i64 (weI KL c))]::Vv 14::Ii (weI KL c)::(zs 14 [])) [(14,Blk.vec [Col.hss IntKind.u8 (hfrom 1 (wcL KL c)),Col.arrs IntKind.u8 16 (wrL KL c)]),(200000,Blk.rview [Col.rows IntKind.u8 KL]),(200001,Blk.rview [Col.ints IntKind.u8 c]),(900004,Blk.heap IntKind.u8 (lcat [[]] ext0)),(1000000,Blk.view [Seg.ints IntKind.u32 64 Go.Hsh.rootsL])]
def lrwalks.k4 (R : AV → Mem → Prop) (KL : List (List Int)) (c : List Int) (fuel m : Nat) : Prop := rM Tryd.prog gamR3 [⟨777777,[],true,false⟩] Tryd.f6 R fuel m [kc Tryd.f6 [1,0,1,1],kc Tryd.f6 [1,1]] (Vv 200000::Vv 200001::Uu::Uu::Uu::(zs 4 (Uu::Uu::(zs 20 [])))) [(200000,Blk.rview [Col.rows IntKind.u8 KL]),(200001,Blk.rview [Col.ints IntKind.u8 c]),(900004,Blk.heap IntKind.u8 [[]]),(1000000,Blk.view [Seg.ints IntKind.u32 64 Go.Hsh.rootsL])]
def lrwalks.k5 (R : AV → Mem → Prop) (KL : List (List Int)) (c : List Int) (fuel m : Nat) : Prop := rM Tryd.prog gamR3 [⟨777777,[],true,false⟩] Tryd.f6 R fuel m [kc Tryd.f6 [1]] (Vv 200000::Vv 200001::Zz::Zz::Ll false::(zs 26 [])) [(200000,Blk.rview [Col.rows IntKind.u8 KL]),(200001,Blk.rview [Col.ints IntKind.u8 c]),(900004,Blk.heap IntKind.u8 [[]]),(1000000,Blk.view [Seg.ints IntKind.u32 64 Go.Hsh.rootsL])]
theorem lrwalks.k0_eq (R : AV → Mem → Prop) (KL : List (List Int)) (c : List Int) (ext0 ext1 : List (List Int)) (fuel m : Nat) : lrwalks.k0 R KL c ext0 ext1 fuel (m + 100) = ((let y2 : Bool := (llq2 (hcons (lcat (lcat [[]] ext0) ext1) (hfrom (llen (lcat [[]] ext0)) (wcL KL c))) (wrL KL c) (hcons (lcat (lcat [[]] ext0) ext1) (hfrom 1 (wcL KL c))) (wrL KL c)); (R (Bb (ieq (weI KL c) (weI KL c))) [(14,Blk.vec [Col.hss IntKind.u8 (hfrom 1 (wcL KL c)),Col.arrs IntKind.u8 16 (wrL KL c)]),(20,Blk.vec [Col.hss IntKind.u8 (hfrom (llen (lcat [[]] ext0)) (wcL KL c)),Col.arrs IntKind.u8 16 (wrL KL c)]),(200000,Blk.rview [Col.rows IntKind.u8 KL]),(200001,Blk.rview [Col.ints IntKind.u8 c]),(900004,Blk.heap IntKind.u8 (lcat (lcat [[]] ext0) ext1)),(1000000,Blk.view [Seg.ints IntKind.u32 64 Go.Hsh.rootsL])]))) := by kernel_rfl
theorem lrwalks.k2_eq (R : AV → Mem → Prop) (KL : List (List Int)) (c : List Int) (ext0 ext1 : List (List Int)) (fuel m : Nat) : lrwalks.k2 R KL c ext0 ext1 fuel (m + 2) = ((((FewR (hcons (lcat (lcat [[]] ext0) ext1) (hfrom (llen (lcat [[]] ext0)) (wcL KL c))) (wrL KL c)) ∧ (FewR (hcons (lcat (lcat [[]] ext0) ext1) (hfrom 1 (wcL KL c))) (wrL KL c))) ∧ ((((llq2 (hcons (lcat (lcat [[]] ext0) ext1) (hfrom (llen (lcat [[]] ext0)) (wcL KL c))) (wrL KL c) (hcons (lcat (lcat [[]] ext0) ext1) (hfrom 1 (wcL KL c))) (wrL KL c)) = true) → (lrwalks.k0 R KL c ext0 ext1 fuel m)) ∧ (((llq2 (hcons (lcat (lcat [[]] ext0) ext1) (hfrom (llen (lcat [[]] ext0)) (wcL KL c))) (wrL KL c) (hcons (lcat (lcat [[]] ext0) ext1) (hfrom 1 (wcL KL c))) (wrL KL c)) = false) → (lrwalks.k1 R KL c ext0 ext1 fuel m))))) := by kernel_rfl
theorem lrwalks.k3_eq (R : AV → Mem → Prop) (KL : List (List Int)) (c : List Int) (ext0 : List (List Int)) (fuel m : Nat) : lrwalks.k3 R KL c ext0 fuel (m + 2) = ((((Go.Hsh.rootsL = Go.Hsh.rootsL) ∧ ((Kys KL) ∧ (In c))) ∧ (∀ ext1 : List (List Int),((WkX KL c ext1) → (lrwalks.k2 R KL c ext0 ext1 fuel m))))) := by kernel_rfl
theorem lrwalks.k4_eq (R : AV → Mem → Prop) (KL : List (List Int)) (c : List Int) (fuel m : Nat) : lrwalks.k4 R KL c fuel (m + 3) = ((((Kys KL) ∧ (In c)) ∧ (∀ ext0 : List (List Int),((WkX KL c ext0) → (lrwalks.k3 R KL c ext0 fuel m))))) := by kernel_rfl
theorem lrwalks.k5_eq (R : AV → Mem → Prop) (KL : List (List Int)) (c : List Int) (fuel m : Nat) : lrwalks.k5 R KL c fuel (m + 4) = (((Go.Hsh.rootsL = Go.Hsh.rootsL) ∧ (lrwalks.k4 R KL c fuel m))) := by kernel_rfl
theorem lrwalks_vc0 (R : AV → Mem → Prop) (fuel m : Nat) (KL : List (List Int)) (c : List Int) : runM Tryd.prog gamR3 [⟨777777, [], true, false⟩] (resh Tryd.prog [⟨777777, [], true, false⟩] Tryd.f6.results.toList R) (run Tryd.prog gamR3 [⟨777777, [], true, false⟩] (resh Tryd.prog [⟨777777, [], true, false⟩] Tryd.f6.results.toList R) fuel) (m + 2) [.code (bodyOf Tryd.f6)] (startFr Tryd.f6.ntmps [.one (.vec 200000), .one (.vec 200001)]) [(200000, .rview [.rows .u8 KL]), (200001, .rview [.ints .u8 c]), (900004, .heap .u8 [[]]), (1000000 + 0, .view [.ints .u32 64 Go.Hsh.rootsL])] = (lrwalks.k5 R KL c fuel m) := by kernel_rfl
theorem lrwalks_vc (R : AV → Mem → Prop) (fuel : Nat) (KL : List (List Int)) (c : List Int) : callsx Tryd.prog gamR3 [⟨777777, [], true, false⟩] Tryd.f6 (fuel + 1) [.one (.vec 200000), .one (.vec 200001)] [(200000, .rview [.rows .u8 KL]), (200001, .rview [.ints .u8 c]), (900004, .heap .u8 [[]]), (1000000 + 0, .view [.ints .u32 64 Go.Hsh.rootsL])] R = (lrwalks.k5 R KL c fuel 3998) := lrwalks_vc0 R fuel 3998 KL c
def lrthrough.k0 (R : AV → Mem → Prop) (KL NL : List (List Int)) (pay : List Int) (fuel m : Nat) : Prop := rM Tryd.prog gamR3 [⟨777777,[],true,false⟩] Tryd.f8 R fuel m [kc Tryd.f8 [1,0,1,0,1],kc Tryd.f8 [1,1,1,1]] (Uu::AV.one (AC.ptr 1 0 0)::Bb (ieq (ofNat (llen (wcR KL NL pay))) 0)::Vv 22::Ii (wcE KL NL pay)::(zs 7 (us 16 (Ii (wcE KL NL pay)::Bb (ine (wcE KL NL pay) 0)::Ll true::Vv 22::Ii (ofNat (llen (wcR KL NL pay)))::Bb (ieq (ofNat (llen (wcR KL NL pay))) 0)::Bb (ieq (ofNat (llen (wcR KL NL pay))) 0)::(zs 83 []))))) [(1,Blk.own 33 [Seg.cells [AC.vec 200000],Seg.cells [AC.vec 200001],Seg.cells [AC.vec 200002]]),(22,Blk.vec [Col.ints IntKind.u8 (wcR KL NL pay)]),(200000,Blk.rview [Col.rows IntKind.u8 KL]),(200001,Blk.rview [Col.arrs IntKind.u8 16 NL]),(200002,Blk.rview [Col.ints IntKind.u8 pay]),(900004,Blk.heap IntKind.u8 [[]]),(1000000,Blk.view [Seg.ints IntKind.u32 64 Go.Hsh.rootsL])]
def lrthrough.k1 (R : AV → Mem → Prop) (KL NL : List (List Int)) (pay : List Int) (fuel m : Nat) : Prop := rM Tryd.prog gamR3 [⟨777777,[],true,false⟩] Tryd.f8 R fuel m [kc Tryd.f8 [1,0,1,0,1],kc Tryd.f8 [1,1,1,1]] (Uu::AV.one (AC.ptr 1 0 0)::Ll false::Vv 22::Ii (wcE KL NL pay)::(zs 7 (us 16 (Ii (wcE KL NL pay)::Bb (ine (wcE KL NL pay) 0)::Ll false::Zz::Zz::Zz::Ll false::(zs 83 []))))) [(1,Blk.own 33 [Seg.cells [AC.vec 200000],Seg.cells [AC.vec 200001],Seg.cells [AC.vec 200002]]),(22,Blk.vec [Col.ints IntKind.u8 (wcR KL NL pay)]),(200000,Blk.rview [Col.rows IntKind.u8 KL]),(200001,Blk.rview [Col.arrs IntKind.u8 16 NL]),(200002,Blk.rview [Col.ints IntKind.u8 pay]),(900004,Blk.heap IntKind.u8 [[]]),(1000000,Blk.view [Seg.ints IntKind.u32 64 Go.Hsh.rootsL])]
def lrthrough.k2 (R : AV → Mem → Prop) (KL NL : List (List Int)) (pay : List Int) (fuel m : Nat) : Prop := rM Tryd.prog gamR3 [⟨777777,[],true,false⟩] Tryd.f8 R fuel m [kc Tryd.f8 [1,1,1,0,1,0],kc Tryd.f8 [1,1,1,1]] (Uu::AV.one (AC.ptr 1 0 0)::Uu::Vv 22::Ii (wcE KL NL pay)::(zs 7 (us 16 (zs 90 [])))) [(1,Blk.own 33 [Seg.cells [AC.vec 200000],Seg.cells [AC.vec 200001],Seg.cells [AC.vec 200002]]),(22,Blk.vec [Col.ints IntKind.u8 (wcR KL NL pay)]),(200000,Blk.rview [Col.rows IntKind.u8 KL]),(200001,Blk.rview [Col.arrs IntKind.u8 16 NL]),(200002,Blk.rview [Col.ints IntKind.u8 pay]),(900004,Blk.heap IntKind.u8 [[]]),(1000000,Blk.view [Seg.ints IntKind.u32 64 Go.Hsh.rootsL])]
def lrthrough.k3 (R : AV → Mem → Prop) (KL NL : List (List Int)) (pay : List Int) (ext0 : List (List Int)) (fuel m : Nat) : Prop := rM Tryd.prog gamR3 [⟨777777,[],true,false⟩] Tryd.f8 R fuel m [kc Tryd.f8 [1,0,1,0,1],kc Tryd.f8 [1,1,1,1,1,1]] (Uu::AV.one (AC.ptr 1 0 0)::Ll false::Uu::Uu::Vv 39::Uu::(zs 5 (us 49 (zs 57 [])))) [(1,Blk.own 33 [Seg.cells [AC.vec 200000],Seg.cells [AC.vec 200001],Seg.cells [AC.vec 200002]]),(39,Blk.vec [Col.hss IntKind.u8 (hfrom 1 (wcL KL (wcR KL NL pay))),Col.arrs IntKind.u8 16 (wrL KL (wcR KL NL pay))]),(200000,Blk.rview [Col.rows IntKind.u8 KL]),(200001,Blk.rview [Col.arrs IntKind.u8 16 NL]),(200002,Blk.rview [Col.ints IntKind.u8 pay]),(900004,Blk.heap IntKind.u8 (lcat [[]] ext0)),(1000000,Blk.view [Seg.ints IntKind.u32 64 Go.Hsh.rootsL])]
def lrthrough.k4 (R : AV → Mem → Prop) (x1 : Int) (KL NL : List (List Int)) (pay : List Int) (ext0 : List (List Int)) (fuel m : Nat) : Prop := rM Tryd.prog gamR3 [⟨777777,[],true,false⟩] Tryd.f8 R fuel m [kc Tryd.f8 [1,0,1,0,1],.inBlock 1,kc Tryd.f8 [1,1,1,1,1,1,0,1,0,0,1,1],ki Tryd.f8 [1,1,1,1,1,1,0,1,0,0],.inBlock 0,kc Tryd.f8 [1,1,1,1,1,1,1]] (Uu::AV.one (AC.ptr 1 0 0)::Ll false::Uu::Uu::Vv 39::Uu::Ii x1::(zs 4 (us 49 (Ii x1::Vv 39::Ii (ofNat (llen (hfrom 1 (wcL KL (wcR KL NL pay)))))::Ll true::Uu::Uu::Vv 39::Ii x1::AV.one (AC.vptr 39 17 (nat x1) 0 0)::AV.one (AC.vptr 39 17 (nat x1) 0 0)::AV.one (AC.hs IntKind.u8 (hj (hget (hfrom 1 (wcL KL (wcR KL NL pay))) (nat x1))) (ho (hget (hfrom 1 (wcL KL (wcR KL NL pay))) (nat x1))) (hl (hget (hfrom 1 (wcL KL (wcR KL NL pay))) (nat x1))))::Ii (ofNat (hl (hget (hfrom 1 (wcL KL (wcR KL NL pay))) (nat x1))))::Ll true::(zs 44 []))))) [(1,Blk.own 33 [Seg.cells [AC.vec 200000],Seg.cells [AC.vec 200001],Seg.cells [AC.vec 200002]]),(39,Blk.vec [Col.hss IntKind.u8 (hfrom 1 (wcL KL (wcR KL NL pay))),Col.arrs IntKind.u8 16 (wrL KL (wcR KL NL pay))]),(200000,Blk.rview [Col.rows IntKind.u8 KL]),(200001,Blk.rview [Col.arrs IntKind.u8 16 NL]),(200002,Blk.rview [Col.ints IntKind.u8 pay]),(900004,Blk.heap IntKind.u8 (lcat [[]] ext0)),(1000000,Blk.view [Seg.ints IntKind.u32 64 Go.Hsh.rootsL])]
def lrthrough.k5 (R : AV → Mem → Prop) (x1 : Int) (KL NL : List (List Int)) (pay : List Int) (ext0 : List (List Int)) (fuel m : Nat) : Prop := rM Tryd.prog gamR3 [⟨777777,[],true,false⟩] Tryd.f8 R fuel m [ki Tryd.f8 [1,1,1,1,1,1,0,1,0,0],.inBlock 0,kc Tryd.f8 [1,1,1,1,1,1,1]] (Uu::AV.one (AC.ptr 1 0 0)::Uu::Uu::Uu::Vv 39::Uu::Ii (add IntKind.i64 x1 1)::(zs 4 (us 49 (Ii x1::Vv 39::Ii (ofNat (llen (hfrom 1 (wcL KL (wcR KL NL pay)))))::Ll true::Ii x1::Ii (add IntKind.i64 x1 1)::Vv 39::Ii x1::AV.one (AC.vptr 39 17 (nat x1) 0 0)::AV.one (AC.vptr 39 17 (nat x1) 0 0)::AV.one (AC.hs IntKind.u8 (hj (hget (hfrom 1 (wcL KL (wcR KL NL pay))) (nat x1))) (ho (hget (hfrom 1 (wcL KL (wcR KL NL pay))) (nat x1))) (hl (hget (hfrom 1 (wcL KL (wcR KL NL pay))) (nat x1))))::Ii (ofNat (hl (hget (hfrom 1 (wcL KL (wcR KL NL pay))) (nat x1))))::Ll false::(zs 44 []))))) [(1,Blk.own 33 [Seg.cells [AC.vec 200000],Seg.cells [AC.vec 200001],Seg.cells [AC.vec 200002]]),(39,Blk.vec [Col.hss IntKind.u8 (hfrom 1 (wcL KL (wcR KL NL pay))),Col.arrs IntKind.u8 16 (wrL KL (wcR KL NL pay))]),(200000,Blk.rview [Col.rows IntKind.u8 KL]),(200001,Blk.rview [Col.arrs IntKind.u8 16 NL]),(200002,Blk.rview [Col.ints IntKind.u8 pay]),(900004,Blk.heap IntKind.u8 (lcat [[]] ext0)),(1000000,Blk.view [Seg.ints IntKind.u32 64 Go.Hsh.rootsL])]
def lrthrough.k6 (R : AV → Mem → Prop) (x1 : Int) (KL NL : List (List Int)) (pay : List Int) (ext0 : List (List Int)) (fuel m : Nat) : Prop := rM Tryd.prog gamR3 [⟨777777,[],true,false⟩] Tryd.f8 R fuel m [kc Tryd.f8 [1,1,1,1,1,1,0,1,0,0,1,0,0,1],.inBlock 1,kc Tryd.f8 [1,1,1,1,1,1,0,1,0,0,1,1],ki Tryd.f8 [1,1,1,1,1,1,0,1,0,0],.inBlock 0,kc Tryd.f8 [1,1,1,1,1,1,1]] (Uu::AV.one (AC.ptr 1 0 0)::Uu::Uu::Uu::Vv 39::Uu::Ii x1::(zs 4 (us 49 (Ii x1::Vv 39::Ii (ofNat (llen (hfrom 1 (wcL KL (wcR KL NL pay)))))::Ll true::Uu::Uu::Vv 39::Ii x1::AV.one (AC.vptr 39 17 (nat x1) 0 0)::AV.one (AC.vptr 39 17 (nat x1) 0 0)::AV.one (AC.hs IntKind.u8 (hj (hget (hfrom 1 (wcL KL (wcR KL NL pay))) (nat x1))) (ho (hget (hfrom 1 (wcL KL (wcR KL NL pay))) (nat x1))) (hl (hget (hfrom 1 (wcL KL (wcR KL NL pay))) (nat x1))))::Ii (ofNat (hl (hget (hfrom 1 (wcL KL (wcR KL NL pay))) (nat x1))))::Bb (ine (ofNat (hl (hget (hfrom 1 (wcL KL (wcR KL NL pay))) (nat x1)))) 320)::(zs 44 []))))) [(1,Blk.own 33 [Seg.cells [AC.vec 200000],Seg.cells [AC.vec 200001],Seg.cells [AC.vec 200002]]),(39,Blk.vec [Col.hss IntKind.u8 (hfrom 1 (wcL KL (wcR KL NL pay))),Col.arrs IntKind.u8 16 (wrL KL (wcR KL NL pay))]),(200000,Blk.rview [Col.rows IntKind.u8 KL]),(200001,Blk.rview [Col.arrs IntKind.u8 16 NL]),(200002,Blk.rview [Col.ints IntKind.u8 pay]),(900004,Blk.heap IntKind.u8 (lcat [[]] ext0)),(1000000,Blk.view [Seg.ints IntKind.u32 64 Go.Hsh.rootsL])]
def lrthrough.k7 (R : AV → Mem → Prop) (x1 : Int) (KL NL : List (List Int)) (pay : List Int) (ext0 : List (List Int)) (fuel m : Nat) : Prop := rM Tryd.prog gamR3 [⟨777777,[],true,false⟩] Tryd.f8 R fuel m [kc Tryd.f8 [1,0,1,1],kc Tryd.f8 [1,1,1,1,1,1,0,1,0,0,1],ki Tryd.f8 [1,1,1,1,1,1,0,1,0,0],.inBlock 0,kc Tryd.f8 [1,1,1,1,1,1,1]] (Uu::AV.one (AC.ptr 1 0 0)::Uu::Uu::Uu::Vv 39::Uu::Ii x1::(zs 4 (us 49 (Ii x1::Vv 39::Ii (ofNat (llen (hfrom 1 (wcL KL (wcR KL NL pay)))))::Ll true::(us 9 (zs 44 [])))))) [(1,Blk.own 33 [Seg.cells [AC.vec 200000],Seg.cells [AC.vec 200001],Seg.cells [AC.vec 200002]]),(39,Blk.vec [Col.hss IntKind.u8 (hfrom 1 (wcL KL (wcR KL NL pay))),Col.arrs IntKind.u8 16 (wrL KL (wcR KL NL pay))]),(200000,Blk.rview [Col.rows IntKind.u8 KL]),(200001,Blk.rview [Col.arrs IntKind.u8 16 NL]),(200002,Blk.rview [Col.ints IntKind.u8 pay]),(900004,Blk.heap IntKind.u8 (lcat [[]] ext0)),(1000000,Blk.view [Seg.ints IntKind.u32 64 Go.Hsh.rootsL])]
def lrthrough.k8 (R : AV → Mem → Prop) (ext0 KL NL : List (List Int)) (pay : List Int) (x1 : Int) (y2 : Bool) (y3 : Int) (y4 y5 y6 : Nat) (y7 : List Int) (fuel m : Nat) : Prop := rM Tryd.prog gamR3 [⟨777777,[],true,false⟩] Tryd.f8 R fuel m [kc Tryd.f8 [1,0,1,0,1]] (Uu::AV.one (AC.ptr 1 0 0)::Bb (seq2 (bytesOf (lsub (llget (lcat [[]] ext0) (hj (hget (hfrom 1 (wcL KL (wcR KL NL pay))) (nat (sub IntKind.i64 (ofNat (llen (hfrom 1 (wcL KL (wcR KL NL pay))))) 1))))) (ho (hget (hfrom 1 (wcL KL (wcR KL NL pay))) (nat (sub IntKind.i64 (ofNat (llen (hfrom 1 (wcL KL (wcR KL NL pay))))) 1)))) (hl (hget (hfrom 1 (wcL KL (wcR KL NL pay))) (nat (sub IntKind.i64 (ofNat (llen (hfrom 1 (wcL KL (wcR KL NL pay))))) 1)))))) (bytesOf (Go.Cel.plainR pay)))::Uu::Uu::Vv 39::Uu::Ii x1::Vv 82::Bb y2::Ii y3::Vv 89::Ii (Go.Cel.plainE pay)::(us 48 (Ii x1::Vv 39::Ii (ofNat (llen (hfrom 1 (wcL KL (wcR KL NL pay)))))::Ll false::(us 9 [AV.tup [TV.c (AC.vec 82),TV.c (AC.bool y2),TV.c (AC.int IntKind.i64 y3)],Vv 39,Vv 39,Ii (ofNat (llen (hfrom 1 (wcL KL (wcR KL NL pay))))),Ii (sub IntKind.i64 (ofNat (llen (hfrom 1 (wcL KL (wcR KL NL pay))))) 1),AV.one (AC.vptr 39 17 (nat (sub IntKind.i64 (ofNat (llen (hfrom 1 (wcL KL (wcR KL NL pay))))) 1)) 0 0),AV.one (AC.vptr 39 17 (nat (sub IntKind.i64 (ofNat (llen (hfrom 1 (wcL KL (wcR KL NL pay))))) 1)) 0 0),AV.one (AC.hs IntKind.u8 y4 y5 y6),AV.tup [TV.c (AC.vec 82),TV.c (AC.bool y2),TV.c (AC.int IntKind.i64 y3)],Vv 82,Bb y2,Ii y3,AV.tup [TV.c (AC.vec 89),TV.c (AC.int IntKind.i64 (Go.Cel.plainE pay))],AV.one (AC.ptr 1 2 0),Vv 200002,AV.tup [TV.c (AC.vec 89),TV.c (AC.int IntKind.i64 (Go.Cel.plainE pay))],Vv 89,Ii (Go.Cel.plainE pay),Ii y3,Bb (ieq y3 0),Ll true,Bb y2,Bb y2,Ll true,Vv 82,AV.one (AC.str (bytesOf y7)),AV.one (AC.ptr 1 2 0),Vv 200002,AV.one (AC.str (bytesOf pay)),Bb (seq2 (bytesOf y7) (bytesOf pay)),Bb (seq2 (bytesOf y7) (bytesOf pay)),Ll true,Vv 39,Vv 39,Ii (ofNat (llen (hfrom 1 (wcL KL (wcR KL NL pay))))),Ii (sub IntKind.i64 (ofNat (llen (hfrom 1 (wcL KL (wcR KL NL pay))))) 1),AV.one (AC.vptr 39 17 (nat (sub IntKind.i64 (ofNat (llen (hfrom 1 (wcL KL (wcR KL NL pay))))) 1)) 0 0),AV.one (AC.vptr 39 17 (nat (sub IntKind.i64 (ofNat (llen (hfrom 1 (wcL KL (wcR KL NL pay))))) 1)) 0 0),AV.one (AC.hs IntKind.u8 (hj (hget (hfrom 1 (wcL KL (wcR KL NL pay))) (nat (sub IntKind.i64 (ofNat (llen (hfrom 1 (wcL KL (wcR KL NL pay))))) 1)))) (ho (hget (hfrom 1 (wcL KL (wcR KL NL pay))) (nat (sub IntKind.i64 (ofNat (llen (hfrom 1 (wcL KL (wcR KL NL pay))))) 1)))) (hl (hget (hfrom 1 (wcL KL (wcR KL NL pay))) (nat (sub IntKind.i64 (ofNat (llen (hfrom 1 (wcL KL (wcR KL NL pay))))) 1))))),AV.one (AC.str (bytesOf (lsub (llget (lcat [[]] ext0) (hj (hget (hfrom 1 (wcL KL (wcR KL NL pay))) (nat (sub IntKind.i64 (ofNat (llen (hfrom 1 (wcL KL (wcR KL NL pay))))) 1))))) (ho (hget (hfrom 1 (wcL KL (wcR KL NL pay))) (nat (sub IntKind.i64 (ofNat (llen (hfrom 1 (wcL KL (wcR KL NL pay))))) 1)))) (hl (hget (hfrom 1 (wcL KL (wcR KL NL pay))) (nat (sub IntKind.i64 (ofNat (llen (hfrom 1 (wcL KL (wcR KL NL pay))))) 1))))))),Vv 89,AV.one (AC.str (bytesOf (Go.Cel.plainR pay))),Bb (seq2 (bytesOf (lsub (llget (lcat [[]] ext0) (hj (hget (hfrom 1 (wcL KL (wcR KL NL pay))) (nat (sub IntKind.i64 (ofNat (llen (hfrom 1 (wcL KL (wcR KL NL pay))))) 1))))) (ho (hget (hfrom 1 (wcL KL (wcR KL NL pay))) (nat (sub IntKind.i64 (ofNat (llen (hfrom 1 (wcL KL (wcR KL NL pay))))) 1)))) (hl (hget (hfrom 1 (wcL KL (wcR KL NL pay))) (nat (sub IntKind.i64 (ofNat (llen (hfrom 1 (wcL KL (wcR KL NL pay))))) 1)))))) (bytesOf (Go.Cel.plainR pay))),Bb (seq2 (bytesOf (lsub (llget (lcat [[]] ext0) (hj (hget (hfrom 1 (wcL KL (wcR KL NL pay))) (nat (sub IntKind.i64 (ofNat (llen (hfrom 1 (wcL KL (wcR KL NL pay))))) 1))))) (ho (hget (hfrom 1 (wcL KL (wcR KL NL pay))) (nat (sub IntKind.i64 (ofNat (llen (hfrom 1 (wcL KL (wcR KL NL pay))))) 1)))) (hl (hget (hfrom 1 (wcL KL (wcR KL NL pay))) (nat (sub IntKind.i64 (ofNat (llen (hfrom 1 (wcL KL (wcR KL NL pay))))) 1)))))) (bytesOf (Go.Cel.plainR pay)))])))) [(1,Blk.own 33 [Seg.cells [AC.vec 200000],Seg.cells [AC.vec 200001],Seg.cells [AC.vec 200002]]),(39,Blk.vec [Col.hss IntKind.u8 (hfrom 1 (wcL KL (wcR KL NL pay))),Col.arrs IntKind.u8 16 (wrL KL (wcR KL NL pay))]),(82,Blk.vec [Col.ints IntKind.u8 y7]),(89,Blk.vec [Col.ints IntKind.u8 (Go.Cel.plainR pay)]),(200000,Blk.rview [Col.rows IntKind.u8 KL]),(200001,Blk.rview [Col.arrs IntKind.u8 16 NL]),(200002,Blk.rview [Col.ints IntKind.u8 pay]),(900004,Blk.heap IntKind.u8 (lcat [[]] ext0)),(1000000,Blk.view [Seg.ints IntKind.u32 64 Go.Hsh.rootsL])]
def lrthrough.k9 (R : AV → Mem → Prop) (x1 : Int) (y2 : Bool) (y3 : Int) (pay : List Int) (KL NL : List (List Int)) (y4 y5 y6 : Nat) (y7 : List Int) (ext0 : List (List Int)) (fuel m : Nat) : Prop := rM Tryd.prog gamR3 [⟨777777,[],true,false⟩] Tryd.f8 R fuel m [kc Tryd.f8 [1,0,1,0,1]] (Uu::AV.one (AC.ptr 1 0 0)::Ll false::Uu::Uu::Vv 39::Uu::Ii x1::Vv 82::Bb y2::Ii y3::Vv 89::Ii (Go.Cel.plainE pay)::(us 48 (Ii x1::Vv 39::Ii (ofNat (llen (hfrom 1 (wcL KL (wcR KL NL pay)))))::Ll false::(us 9 (AV.tup [TV.c (AC.vec 82),TV.c (AC.bool y2),TV.c (AC.int IntKind.i64 y3)]::Vv 39::Vv 39::Ii (ofNat (llen (hfrom 1 (wcL KL (wcR KL NL pay)))))::Ii (sub IntKind.i64 (ofNat (llen (hfrom 1 (wcL KL (wcR KL NL pay))))) 1)::AV.one (AC.vptr 39 17 (nat (sub IntKind.i64 (ofNat (llen (hfrom 1 (wcL KL (wcR KL NL pay))))) 1)) 0 0)::AV.one (AC.vptr 39 17 (nat (sub IntKind.i64 (ofNat (llen (hfrom 1 (wcL KL (wcR KL NL pay))))) 1)) 0 0)::AV.one (AC.hs IntKind.u8 y4 y5 y6)::AV.tup [TV.c (AC.vec 82),TV.c (AC.bool y2),TV.c (AC.int IntKind.i64 y3)]::Vv 82::Bb y2::Ii y3::AV.tup [TV.c (AC.vec 89),TV.c (AC.int IntKind.i64 (Go.Cel.plainE pay))]::AV.one (AC.ptr 1 2 0)::Vv 200002::AV.tup [TV.c (AC.vec 89),TV.c (AC.int IntKind.i64 (Go.Cel.plainE pay))]::Vv 89::Ii (Go.Cel.plainE pay)::Ii y3::Bb (ieq y3 0)::Ll true::Bb y2::Bb y2::Ll true::Vv 82::AV.one (AC.str (bytesOf y7))::AV.one (AC.ptr 1 2 0)::Vv 200002::AV.one (AC.str (bytesOf pay))::Bb (seq2 (bytesOf y7) (bytesOf pay))::Bb (seq2 (bytesOf y7) (bytesOf pay))::Ll false::(zs 11 [Ll false])))))) [(1,Blk.own 33 [Seg.cells [AC.vec 200000],Seg.cells [AC.vec 200001],Seg.cells [AC.vec 200002]]),(39,Blk.vec [Col.hss IntKind.u8 (hfrom 1 (wcL KL (wcR KL NL pay))),Col.arrs IntKind.u8 16 (wrL KL (wcR KL NL pay))]),(82,Blk.vec [Col.ints IntKind.u8 y7]),(89,Blk.vec [Col.ints IntKind.u8 (Go.Cel.plainR pay)]),(200000,Blk.rview [Col.rows IntKind.u8 KL]),(200001,Blk.rview [Col.arrs IntKind.u8 16 NL]),(200002,Blk.rview [Col.ints IntKind.u8 pay]),(900004,Blk.heap IntKind.u8 (lcat [[]] ext0)),(1000000,Blk.view [Seg.ints IntKind.u32 64 Go.Hsh.rootsL])]
def lrthrough.k10 (R : AV → Mem → Prop) (x1 : Int) (y2 : Bool) (y3 : Int) (pay : List Int) (KL NL : List (List Int)) (y4 y5 y6 : Nat) (y7 : List Int) (ext0 : List (List Int)) (fuel m : Nat) : Prop := rM Tryd.prog gamR3 [⟨777777,[],true,false⟩] Tryd.f8 R fuel m [kc Tryd.f8 [1,0,1,0,1]] (Uu::AV.one (AC.ptr 1 0 0)::Ll false::Uu::Uu::Vv 39::Uu::Ii x1::Vv 82::Bb y2::Ii y3::Vv 89::Ii (Go.Cel.plainE pay)::(us 48 (Ii x1::Vv 39::Ii (ofNat (llen (hfrom 1 (wcL KL (wcR KL NL pay)))))::Ll false::(us 9 (AV.tup [TV.c (AC.vec 82),TV.c (AC.bool y2),TV.c (AC.int IntKind.i64 y3)]::Vv 39::Vv 39::Ii (ofNat (llen (hfrom 1 (wcL KL (wcR KL NL pay)))))::Ii (sub IntKind.i64 (ofNat (llen (hfrom 1 (wcL KL (wcR KL NL pay))))) 1)::AV.one (AC.vptr 39 17 (nat (sub IntKind.i64 (ofNat (llen (hfrom 1 (wcL KL (wcR KL NL pay))))) 1)) 0 0)::AV.one (AC.vptr 39 17 (nat (sub IntKind.i64 (ofNat (llen (hfrom 1 (wcL KL (wcR KL NL pay))))) 1)) 0 0)::AV.one (AC.hs IntKind.u8 y4 y5 y6)::AV.tup [TV.c (AC.vec 82),TV.c (AC.bool y2),TV.c (AC.int IntKind.i64 y3)]::Vv 82::Bb y2::Ii y3::AV.tup [TV.c (AC.vec 89),TV.c (AC.int IntKind.i64 (Go.Cel.plainE pay))]::AV.one (AC.ptr 1 2 0)::Vv 200002::AV.tup [TV.c (AC.vec 89),TV.c (AC.int IntKind.i64 (Go.Cel.plainE pay))]::Vv 89::Ii (Go.Cel.plainE pay)::Ii y3::Bb (ieq y3 0)::Ll true::Bb y2::Bb y2::Ll false::(zs 6 (Ll false::Ll false::(zs 11 [Ll false])))))))) [(1,Blk.own 33 [Seg.cells [AC.vec 200000],Seg.cells [AC.vec 200001],Seg.cells [AC.vec 200002]]),(39,Blk.vec [Col.hss IntKind.u8 (hfrom 1 (wcL KL (wcR KL NL pay))),Col.arrs IntKind.u8 16 (wrL KL (wcR KL NL pay))]),(82,Blk.vec [Col.ints IntKind.u8 y7]),(89,Blk.vec [Col.ints IntKind.u8 (Go.Cel.plainR pay)]),(200000,Blk.rview [Col.rows IntKind.u8 KL]),(200001,Blk.rview [Col.arrs IntKind.u8 16 NL]),(200002,Blk.rview [Col.ints IntKind.u8 pay]),(900004,Blk.heap IntKind.u8 (lcat [[]] ext0)),(1000000,Blk.view [Seg.ints IntKind.u32 64 Go.Hsh.rootsL])]
def lrthrough.k11 (R : AV → Mem → Prop) (x1 : Int) (y2 : Bool) (y3 : Int) (pay : List Int) (KL NL : List (List Int)) (y4 y5 y6 : Nat) (y7 : List Int) (ext0 : List (List Int)) (fuel m : Nat) : Prop := rM Tryd.prog gamR3 [⟨777777,[],true,false⟩] Tryd.f8 R fuel m [kc Tryd.f8 [1,0,1,0,1]] (Uu::AV.one (AC.ptr 1 0 0)::Ll false::Uu::Uu::Vv 39::Uu::Ii x1::Vv 82::Bb y2::Ii y3::Vv 89::Ii (Go.Cel.plainE pay)::(us 48 (Ii x1::Vv 39::Ii (ofNat (llen (hfrom 1 (wcL KL (wcR KL NL pay)))))::Ll false::(us 9 (AV.tup [TV.c (AC.vec 82),TV.c (AC.bool y2),TV.c (AC.int IntKind.i64 y3)]::Vv 39::Vv 39::Ii (ofNat (llen (hfrom 1 (wcL KL (wcR KL NL pay)))))::Ii (sub IntKind.i64 (ofNat (llen (hfrom 1 (wcL KL (wcR KL NL pay))))) 1)::AV.one (AC.vptr 39 17 (nat (sub IntKind.i64 (ofNat (llen (hfrom 1 (wcL KL (wcR KL NL pay))))) 1)) 0 0)::AV.one (AC.vptr 39 17 (nat (sub IntKind.i64 (ofNat (llen (hfrom 1 (wcL KL (wcR KL NL pay))))) 1)) 0 0)::AV.one (AC.hs IntKind.u8 y4 y5 y6)::AV.tup [TV.c (AC.vec 82),TV.c (AC.bool y2),TV.c (AC.int IntKind.i64 y3)]::Vv 82::Bb y2::Ii y3::AV.tup [TV.c (AC.vec 89),TV.c (AC.int IntKind.i64 (Go.Cel.plainE pay))]::AV.one (AC.ptr 1 2 0)::Vv 200002::AV.tup [TV.c (AC.vec 89),TV.c (AC.int IntKind.i64 (Go.Cel.plainE pay))]::Vv 89::Ii (Go.Cel.plainE pay)::Ii y3::Bb (ieq y3 0)::Ll false::Zz::Ll false::Ll false::(zs 6 (Ll false::Ll false::(zs 11 [Ll false])))))))) [(1,Blk.own 33 [Seg.cells [AC.vec 200000],Seg.cells [AC.vec 200001],Seg.cells [AC.vec 200002]]),(39,Blk.vec [Col.hss IntKind.u8 (hfrom 1 (wcL KL (wcR KL NL pay))),Col.arrs IntKind.u8 16 (wrL KL (wcR KL NL pay))]),(82,Blk.vec [Col.ints IntKind.u8 y7]),(89,Blk.vec [Col.ints IntKind.u8 (Go.Cel.plainR pay)]),(200000,Blk.rview [Col.rows IntKind.u8 KL]),(200001,Blk.rview [Col.arrs IntKind.u8 16 NL]),(200002,Blk.rview [Col.ints IntKind.u8 pay]),(900004,Blk.heap IntKind.u8 (lcat [[]] ext0)),(1000000,Blk.view [Seg.ints IntKind.u32 64 Go.Hsh.rootsL])]
def lrthrough.k12 (R : AV → Mem → Prop) (x1 : Int) (y2 : Bool) (y3 : Int) (pay : List Int) (KL NL : List (List Int)) (y4 y5 y6 : Nat) (y7 : List Int) (ext0 : List (List Int)) (fuel m : Nat) : Prop := rM Tryd.prog gamR3 [⟨777777,[],true,false⟩] Tryd.f8 R fuel m [kc Tryd.f8 [1,1,1,1,1,1,1,1,1]] (Uu::AV.one (AC.ptr 1 0 0)::Uu::Uu::Uu::Vv 39::Uu::Ii x1::Vv 82::Bb y2::Ii y3::Vv 89::Ii (Go.Cel.plainE pay)::(us 48 (Ii x1::Vv 39::Ii (ofNat (llen (hfrom 1 (wcL KL (wcR KL NL pay)))))::Ll false::(us 9 (AV.tup [TV.c (AC.vec 82),TV.c (AC.bool y2),TV.c (AC.int IntKind.i64 y3)]::Vv 39::Vv 39::Ii (ofNat (llen (hfrom 1 (wcL KL (wcR KL NL pay)))))::Ii (sub IntKind.i64 (ofNat (llen (hfrom 1 (wcL KL (wcR KL NL pay))))) 1)::AV.one (AC.vptr 39 17 (nat (sub IntKind.i64 (ofNat (llen (hfrom 1 (wcL KL (wcR KL NL pay))))) 1)) 0 0)::AV.one (AC.vptr 39 17 (nat (sub IntKind.i64 (ofNat (llen (hfrom 1 (wcL KL (wcR KL NL pay))))) 1)) 0 0)::AV.one (AC.hs IntKind.u8 y4 y5 y6)::AV.tup [TV.c (AC.vec 82),TV.c (AC.bool y2),TV.c (AC.int IntKind.i64 y3)]::Vv 82::Bb y2::Ii y3::AV.tup [TV.c (AC.vec 89),TV.c (AC.int IntKind.i64 (Go.Cel.plainE pay))]::AV.one (AC.ptr 1 2 0)::Vv 200002::AV.tup [TV.c (AC.vec 89),TV.c (AC.int IntKind.i64 (Go.Cel.plainE pay))]::Vv 89::Ii (Go.Cel.plainE pay)::(zs 26 [])))))) [(1,Blk.own 33 [Seg.cells [AC.vec 200000],Seg.cells [AC.vec 200001],Seg.cells [AC.vec 200002]]),(39,Blk.vec [Col.hss IntKind.u8 (hfrom 1 (wcL KL (wcR KL NL pay))),Col.arrs IntKind.u8 16 (wrL KL (wcR KL NL pay))]),(82,Blk.vec [Col.ints IntKind.u8 y7]),(89,Blk.vec [Col.ints IntKind.u8 (Go.Cel.plainR pay)]),(200000,Blk.rview [Col.rows IntKind.u8 KL]),(200001,Blk.rview [Col.arrs IntKind.u8 16 NL]),(200002,Blk.rview [Col.ints IntKind.u8 pay]),(900004,Blk.heap IntKind.u8 (lcat [[]] ext0)),(1000000,Blk.view [Seg.ints IntKind.u32 64 Go.Hsh.rootsL])]
def lrthrough.k13 (R : AV → Mem → Prop) (x1 : Int) (ext0 KL NL : List (List Int)) (pay : List Int) (fuel m : Nat) : Prop := rM Tryd.prog gamR3 [⟨777777,[],true,false⟩] Tryd.f8 R fuel m [kc Tryd.f8 [1,1,1,1,1,1,1,1]] (Uu::AV.one (AC.ptr 1 0 0)::Uu::Uu::Uu::Vv 39::Uu::Ii x1::Vv 82::Bb (Go.Cel.opY (lsub (llget (lcat [[]] ext0) (hj (hget (hfrom 1 (wcL KL (wcR KL NL pay))) (nat (sub IntKind.i64 (ofNat (llen (hfrom 1 (wcL KL (wcR KL NL pay))))) 1))))) (ho (hget (hfrom 1 (wcL KL (wcR KL NL pay))) (nat (sub IntKind.i64 (ofNat (llen (hfrom 1 (wcL KL (wcR KL NL pay))))) 1)))) (hl (hget (hfrom 1 (wcL KL (wcR KL NL pay))) (nat (sub IntKind.i64 (ofNat (llen (hfrom 1 (wcL KL (wcR KL NL pay))))) 1))))))::Ii (Go.Cel.opE (lsub (llget (lcat [[]] ext0) (hj (hget (hfrom 1 (wcL KL (wcR KL NL pay))) (nat (sub IntKind.i64 (ofNat (llen (hfrom 1 (wcL KL (wcR KL NL pay))))) 1))))) (ho (hget (hfrom 1 (wcL KL (wcR KL NL pay))) (nat (sub IntKind.i64 (ofNat (llen (hfrom 1 (wcL KL (wcR KL NL pay))))) 1)))) (hl (hget (hfrom 1 (wcL KL (wcR KL NL pay))) (nat (sub IntKind.i64 (ofNat (llen (hfrom 1 (wcL KL (wcR KL NL pay))))) 1))))))::Zz::(us 49 (Ii x1::Vv 39::Ii (ofNat (llen (hfrom 1 (wcL KL (wcR KL NL pay)))))::Ll false::(us 9 (AV.tup [TV.c (AC.vec 82),TV.c (AC.bool (Go.Cel.opY (lsub (llget (lcat [[]] ext0) (hj (hget (hfrom 1 (wcL KL (wcR KL NL pay))) (nat (sub IntKind.i64 (ofNat (llen (hfrom 1 (wcL KL (wcR KL NL pay))))) 1))))) (ho (hget (hfrom 1 (wcL KL (wcR KL NL pay))) (nat (sub IntKind.i64 (ofNat (llen (hfrom 1 (wcL KL (wcR KL NL pay))))) 1)))) (hl (hget (hfrom 1 (wcL KL (wcR KL NL pay))) (nat (sub IntKind.i64 (ofNat (llen (hfrom 1 (wcL KL (wcR KL NL pay))))) 1))))))),TV.c (AC.int IntKind.i64 (Go.Cel.opE (lsub (llget (lcat [[]] ext0) (hj (hget (hfrom 1 (wcL KL (wcR KL NL pay))) (nat (sub IntKind.i64 (ofNat (llen (hfrom 1 (wcL KL (wcR KL NL pay))))) 1))))) (ho (hget (hfrom 1 (wcL KL (wcR KL NL pay))) (nat (sub IntKind.i64 (ofNat (llen (hfrom 1 (wcL KL (wcR KL NL pay))))) 1)))) (hl (hget (hfrom 1 (wcL KL (wcR KL NL pay))) (nat (sub IntKind.i64 (ofNat (llen (hfrom 1 (wcL KL (wcR KL NL pay))))) 1)))))))]::Vv 39::Vv 39::Ii (ofNat (llen (hfrom 1 (wcL KL (wcR KL NL pay)))))::Ii (sub IntKind.i64 (ofNat (llen (hfrom 1 (wcL KL (wcR KL NL pay))))) 1)::AV.one (AC.vptr 39 17 (nat (sub IntKind.i64 (ofNat (llen (hfrom 1 (wcL KL (wcR KL NL pay))))) 1)) 0 0)::AV.one (AC.vptr 39 17 (nat (sub IntKind.i64 (ofNat (llen (hfrom 1 (wcL KL (wcR KL NL pay))))) 1)) 0 0)::AV.one (AC.hs IntKind.u8 (hj (hget (hfrom 1 (wcL KL (wcR KL NL pay))) (nat (sub IntKind.i64 (ofNat (llen (hfrom 1 (wcL KL (wcR KL NL pay))))) 1)))) (ho (hget (hfrom 1 (wcL KL (wcR KL NL pay))) (nat (sub IntKind.i64 (ofNat (llen (hfrom 1 (wcL KL (wcR KL NL pay))))) 1)))) (hl (hget (hfrom 1 (wcL KL (wcR KL NL pay))) (nat (sub IntKind.i64 (ofNat (llen (hfrom 1 (wcL KL (wcR KL NL pay))))) 1)))))::AV.tup [TV.c (AC.vec 82),TV.c (AC.bool (Go.Cel.opY (lsub (llget (lcat [[]] ext0) (hj (hget (hfrom 1 (wcL KL (wcR KL NL pay))) (nat (sub IntKind.i64 (ofNat (llen (hfrom 1 (wcL KL (wcR KL NL pay))))) 1))))) (ho (hget (hfrom 1 (wcL KL (wcR KL NL pay))) (nat (sub IntKind.i64 (ofNat (llen (hfrom 1 (wcL KL (wcR KL NL pay))))) 1)))) (hl (hget (hfrom 1 (wcL KL (wcR KL NL pay))) (nat (sub IntKind.i64 (ofNat (llen (hfrom 1 (wcL KL (wcR KL NL pay))))) 1))))))),TV.c (AC.int IntKind.i64 (Go.Cel.opE (lsub (llget (lcat [[]] ext0) (hj (hget (hfrom 1 (wcL KL (wcR KL NL pay))) (nat (sub IntKind.i64 (ofNat (llen (hfrom 1 (wcL KL (wcR KL NL pay))))) 1))))) (ho (hget (hfrom 1 (wcL KL (wcR KL NL pay))) (nat (sub IntKind.i64 (ofNat (llen (hfrom 1 (wcL KL (wcR KL NL pay))))) 1)))) (hl (hget (hfrom 1 (wcL KL (wcR KL NL pay))) (nat (sub IntKind.i64 (ofNat (llen (hfrom 1 (wcL KL (wcR KL NL pay))))) 1)))))))]::Vv 82::Bb (Go.Cel.opY (lsub (llget (lcat [[]] ext0) (hj (hget (hfrom 1 (wcL KL (wcR KL NL pay))) (nat (sub IntKind.i64 (ofNat (llen (hfrom 1 (wcL KL (wcR KL NL pay))))) 1))))) (ho (hget (hfrom 1 (wcL KL (wcR KL NL pay))) (nat (sub IntKind.i64 (ofNat (llen (hfrom 1 (wcL KL (wcR KL NL pay))))) 1)))) (hl (hget (hfrom 1 (wcL KL (wcR KL NL pay))) (nat (sub IntKind.i64 (ofNat (llen (hfrom 1 (wcL KL (wcR KL NL pay))))) 1))))))::Ii (Go.Cel.opE (lsub (llget (lcat [[]] ext0) (hj (hget (hfrom 1 (wcL KL (wcR KL NL pay))) (nat (sub IntKind.i64 (ofNat (llen (hfrom 1 (wcL KL (wcR KL NL pay))))) 1))))) (ho (hget (hfrom 1 (wcL KL (wcR KL NL pay))) (nat (sub IntKind.i64 (ofNat (llen (hfrom 1 (wcL KL (wcR KL NL pay))))) 1)))) (hl (hget (hfrom 1 (wcL KL (wcR KL NL pay))) (nat (sub IntKind.i64 (ofNat (llen (hfrom 1 (wcL KL (wcR KL NL pay))))) 1))))))::(zs 32 [])))))) [(1,Blk.own 33 [Seg.cells [AC.vec 200000],Seg.cells [AC.vec 200001],Seg.cells [AC.vec 200002]]),(39,Blk.vec [Col.hss IntKind.u8 (hfrom 1 (wcL KL (wcR KL NL pay))),Col.arrs IntKind.u8 16 (wrL KL (wcR KL NL pay))]),(82,Blk.vec [Col.ints IntKind.u8 (Go.Cel.opR (lsub (llget (lcat [[]] ext0) (hj (hget (hfrom 1 (wcL KL (wcR KL NL pay))) (nat (sub IntKind.i64 (ofNat (llen (hfrom 1 (wcL KL (wcR KL NL pay))))) 1))))) (ho (hget (hfrom 1 (wcL KL (wcR KL NL pay))) (nat (sub IntKind.i64 (ofNat (llen (hfrom 1 (wcL KL (wcR KL NL pay))))) 1)))) (hl (hget (hfrom 1 (wcL KL (wcR KL NL pay))) (nat (sub IntKind.i64 (ofNat (llen (hfrom 1 (wcL KL (wcR KL NL pay))))) 1))))))]),(200000,Blk.rview [Col.rows IntKind.u8 KL]),(200001,Blk.rview [Col.arrs IntKind.u8 16 NL]),(200002,Blk.rview [Col.ints IntKind.u8 pay]),(900004,Blk.heap IntKind.u8 (lcat [[]] ext0)),(1000000,Blk.view [Seg.ints IntKind.u32 64 Go.Hsh.rootsL])]
def lrthrough.k14 (R : AV → Mem → Prop) (x1 : Int) (KL NL : List (List Int)) (pay : List Int) (ext0 : List (List Int)) (fuel m : Nat) : Prop := rM Tryd.prog gamR3 [⟨777777,[],true,false⟩] Tryd.f8 R fuel m [kc Tryd.f8 [1,1,1,1,1,1,0,1,0,0,0,1,1],kc Tryd.f8 [1,1,1,1,1,1,0,1,0,0,1],ki Tryd.f8 [1,1,1,1,1,1,0,1,0,0],.inBlock 0,kc Tryd.f8 [1,1,1,1,1,1,1]] (Uu::AV.one (AC.ptr 1 0 0)::Uu::Uu::Uu::Vv 39::Uu::Ii x1::(zs 4 (us 49 (Ii x1::Vv 39::Ii (ofNat (llen (hfrom 1 (wcL KL (wcR KL NL pay)))))::Ll false::(us 9 (zs 44 [])))))) [(1,Blk.own 33 [Seg.cells [AC.vec 200000],Seg.cells [AC.vec 200001],Seg.cells [AC.vec 200002]]),(39,Blk.vec [Col.hss IntKind.u8 (hfrom 1 (wcL KL (wcR KL NL pay))),Col.arrs IntKind.u8 16 (wrL KL (wcR KL NL pay))]),(200000,Blk.rview [Col.rows IntKind.u8 KL]),(200001,Blk.rview [Col.arrs IntKind.u8 16 NL]),(200002,Blk.rview [Col.ints IntKind.u8 pay]),(900004,Blk.heap IntKind.u8 (lcat [[]] ext0)),(1000000,Blk.view [Seg.ints IntKind.u32 64 Go.Hsh.rootsL])]
def lrthrough.k15 (R : AV → Mem → Prop) (x1 : Int) (KL NL : List (List Int)) (pay : List Int) (ext0 : List (List Int)) (fuel m : Nat) : Prop := rM Tryd.prog gamR3 [⟨777777,[],true,false⟩] Tryd.f8 R fuel m [kc Tryd.f8 [1,1,1,1,1,1,0,1,0,0,0,1],kc Tryd.f8 [1,1,1,1,1,1,0,1,0,0,1],ki Tryd.f8 [1,1,1,1,1,1,0,1,0,0],.inBlock 0,kc Tryd.f8 [1,1,1,1,1,1,1]] (Uu::AV.one (AC.ptr 1 0 0)::Uu::Uu::Uu::Vv 39::Uu::Ii x1::(zs 4 (us 49 (Ii x1::Vv 39::Ii (ofNat (llen (hfrom 1 (wcL KL (wcR KL NL pay)))))::Bb (ilt x1 (ofNat (llen (hfrom 1 (wcL KL (wcR KL NL pay))))))::(us 9 (zs 44 [])))))) [(1,Blk.own 33 [Seg.cells [AC.vec 200000],Seg.cells [AC.vec 200001],Seg.cells [AC.vec 200002]]),(39,Blk.vec [Col.hss IntKind.u8 (hfrom 1 (wcL KL (wcR KL NL pay))),Col.arrs IntKind.u8 16 (wrL KL (wcR KL NL pay))]),(200000,Blk.rview [Col.rows IntKind.u8 KL]),(200001,Blk.rview [Col.arrs IntKind.u8 16 NL]),(200002,Blk.rview [Col.ints IntKind.u8 pay]),(900004,Blk.heap IntKind.u8 (lcat [[]] ext0)),(1000000,Blk.view [Seg.ints IntKind.u32 64 Go.Hsh.rootsL])]
def lrthrough.l0 (R : AV → Mem → Prop) (KL NL : List (List Int)) (pay : List Int) (ext0 : List (List Int)) (fuel : Nat) (x1 : Int) : Prop := rN Tryd.prog gamR3 [⟨777777,[],true,false⟩] Tryd.f8 R fuel [kc Tryd.f8 [1,1,1,1,1,1,0,1,0,0],ki Tryd.f8 [1,1,1,1,1,1,0,1,0,0],.inBlock 0,kc Tryd.f8 [1,1,1,1,1,1,1]] (Uu::AV.one (AC.ptr 1 0 0)::Uu::Uu::Uu::Vv 39::Uu::Ii x1::(zs 4 (us 62 (zs 44 [])))) [(1,Blk.own 33 [Seg.cells [AC.vec 200000],Seg.cells [AC.vec 200001],Seg.cells [AC.vec 200002]]),(39,Blk.vec [Col.hss IntKind.u8 (hfrom 1 (wcL KL (wcR KL NL pay))),Col.arrs IntKind.u8 16 (wrL KL (wcR KL NL pay))]),(200000,Blk.rview [Col.rows IntKind.u8 KL]),(200001,Blk.rview [Col.arrs IntKind.u8 16 NL]),(200002,Blk.rview [Col.ints IntKind.u8 pay]),(900004,Blk.heap IntKind.u8 (lcat [[]] ext0)),(1000000,Blk.view [Seg.ints IntKind.u32 64 Go.Hsh.rootsL])]
def lrthrough.k16 (R : AV → Mem → Prop) (KL NL : List (List Int)) (pay : List Int) (ext0 : List (List Int)) (fuel m : Nat) : Prop := rM Tryd.prog gamR3 [⟨777777,[],true,false⟩] Tryd.f8 R fuel m [kc Tryd.f8 [1,1,1,1,1,1,0,1],kc Tryd.f8 [1,1,1,1,1,1,1]] (Uu::AV.one (AC.ptr 1 0 0)::Uu::Uu::Uu::Vv 39::Uu::Ii 0::(zs 4 (us 49 (zs 57 [])))) [(1,Blk.own 33 [Seg.cells [AC.vec 200000],Seg.cells [AC.vec 200001],Seg.cells [AC.vec 200002]]),(39,Blk.vec [Col.hss IntKind.u8 (hfrom 1 (wcL KL (wcR KL NL pay))),Col.arrs IntKind.u8 16 (wrL KL (wcR KL NL pay))]),(200000,Blk.rview [Col.rows IntKind.u8 KL]),(200001,Blk.rview [Col.arrs IntKind.u8 16 NL]),(200002,Blk.rview [Col.ints IntKind.u8 pay]),(900004,Blk.heap IntKind.u8 (lcat [[]] ext0)),(1000000,Blk.view [Seg.ints IntKind.u32 64 Go.Hsh.rootsL])]
def lrthrough.k17 (R : AV → Mem → Prop) (KL NL : List (List Int)) (pay : List Int) (ext0 : List (List Int)) (fuel m : Nat) : Prop := rM Tryd.prog gamR3 [⟨777777,[],true,false⟩] Tryd.f8 R fuel m [kc Tryd.f8 [1,1,1,1,1,0,1],kc Tryd.f8 [1,1,1,1,1,1]] (Uu::AV.one (AC.ptr 1 0 0)::Uu::Vv 22::Ii (wcE KL NL pay)::Vv 39::Ii (weI KL (wcR KL NL pay))::(zs 5 (us 23 (AV.tup [TV.c (AC.vec 39),TV.c (AC.int IntKind.i64 (weI KL (wcR KL NL pay)))]::AV.one (AC.ptr 1 0 0)::Vv 200000::Vv 22::AV.tup [TV.c (AC.vec 39),TV.c (AC.int IntKind.i64 (weI KL (wcR KL NL pay)))]::Vv 39::Ii (weI KL (wcR KL NL pay))::Ii (wcE KL NL pay)::Bb (ine (wcE KL NL pay) 0)::Ll false::Ii (weI KL (wcR KL NL pay))::Bb (ine (weI KL (wcR KL NL pay)) 0)::Bb (ine (weI KL (wcR KL NL pay)) 0)::Ll false::Vv 22::Ii (ofNat (llen (wcR KL NL pay)))::Bb (ine (ofNat (llen (wcR KL NL pay))) 320)::Bb (ine (ofNat (llen (wcR KL NL pay))) 320)::Ll false::Vv 39::Ii (ofNat (llen (hfrom 1 (wcL KL (wcR KL NL pay)))))::AV.one (AC.ptr 1 0 0)::Vv 200000::Ii (ofNat (llen KL))::Bb (ine (ofNat (llen (hfrom 1 (wcL KL (wcR KL NL pay))))) (ofNat (llen KL)))::Bb (ine (ofNat (llen (hfrom 1 (wcL KL (wcR KL NL pay))))) (ofNat (llen KL)))::(zs 57 []))))) [(1,Blk.own 33 [Seg.cells [AC.vec 200000],Seg.cells [AC.vec 200001],Seg.cells [AC.vec 200002]]),(22,Blk.vec [Col.ints IntKind.u8 (wcR KL NL pay)]),(39,Blk.vec [Col.hss IntKind.u8 (hfrom 1 (wcL KL (wcR KL NL pay))),Col.arrs IntKind.u8 16 (wrL KL (wcR KL NL pay))]),(200000,Blk.rview [Col.rows IntKind.u8 KL]),(200001,Blk.rview [Col.arrs IntKind.u8 16 NL]),(200002,Blk.rview [Col.ints IntKind.u8 pay]),(900004,Blk.heap IntKind.u8 (lcat [[]] ext0)),(1000000,Blk.view [Seg.ints IntKind.u32 64 Go.Hsh.rootsL])]
def lrthrough.k18 (R : AV → Mem → Prop) (KL NL : List (List Int)) (pay : List Int) (ext0 : List (List Int)) (fuel m : Nat) : Prop := rM Tryd.prog gamR3 [⟨777777,[],true,false⟩] Tryd.f8 R fuel m [kc Tryd.f8 [1,1,1,1,1]] (Uu::AV.one (AC.ptr 1 0 0)::Uu::Vv 22::Ii (wcE KL NL pay)::Vv 39::Ii (weI KL (wcR KL NL pay))::(zs 5 (us 23 (AV.tup [TV.c (AC.vec 39),TV.c (AC.int IntKind.i64 (weI KL (wcR KL NL pay)))]::AV.one (AC.ptr 1 0 0)::Vv 200000::Vv 22::AV.tup [TV.c (AC.vec 39),TV.c (AC.int IntKind.i64 (weI KL (wcR KL NL pay)))]::Vv 39::Ii (weI KL (wcR KL NL pay))::(zs 76 []))))) [(1,Blk.own 33 [Seg.cells [AC.vec 200000],Seg.cells [AC.vec 200001],Seg.cells [AC.vec 200002]]),(22,Blk.vec [Col.ints IntKind.u8 (wcR KL NL pay)]),(39,Blk.vec [Col.hss IntKind.u8 (hfrom 1 (wcL KL (wcR KL NL pay))),Col.arrs IntKind.u8 16 (wrL KL (wcR KL NL pay))]),(200000,Blk.rview [Col.rows IntKind.u8 KL]),(200001,Blk.rview [Col.arrs IntKind.u8 16 NL]),(200002,Blk.rview [Col.ints IntKind.u8 pay]),(900004,Blk.heap IntKind.u8 (lcat [[]] ext0)),(1000000,Blk.view [Seg.ints IntKind.u32 64 Go.Hsh.rootsL])]
def lrthrough.k19 (R : AV → Mem → Prop) (KL NL : List (List Int)) (pay : List Int) (fuel m : Nat) : Prop := rM Tryd.prog gamR3 [⟨777777,[],true,false⟩] Tryd.f8 R fuel m [kc Tryd.f8 [1,0,1,1],kc Tryd.f8 [1,1,1,1]] (Uu::AV.one (AC.ptr 1 0 0)::Uu::Vv 22::Ii (wcE KL NL pay)::(zs 7 (us 23 (zs 83 [])))) [(1,Blk.own 33 [Seg.cells [AC.vec 200000],Seg.cells [AC.vec 200001],Seg.cells [AC.vec 200002]]),(22,Blk.vec [Col.ints IntKind.u8 (wcR KL NL pay)]),(200000,Blk.rview [Col.rows IntKind.u8 KL]),(200001,Blk.rview [Col.arrs IntKind.u8 16 NL]),(200002,Blk.rview [Col.ints IntKind.u8 pay]),(900004,Blk.heap IntKind.u8 [[]]),(1000000,Blk.view [Seg.ints IntKind.u32 64 Go.Hsh.rootsL])]
def lrthrough.k20 (R : AV → Mem → Prop) (KL NL : List (List Int)) (pay : List Int) (fuel m : Nat) : Prop := rM Tryd.prog gamR3 [⟨777777,[],true,false⟩] Tryd.f8 R fuel m [kc Tryd.f8 [1,1,1,0,1],kc Tryd.f8 [1,1,1,1]] (Uu::AV.one (AC.ptr 1 0 0)::Uu::Vv 22::Ii (wcE KL NL pay)::(zs 7 (Uu::Uu::Uu::AV.tup [TV.c (AC.vec 22),TV.c (AC.int IntKind.i64 (wcE KL NL pay))]::AV.one (AC.ptr 1 0 0)::Vv 200000::AV.one (AC.ptr 1 1 0)::Vv 200001::AV.one (AC.ptr 1 2 0)::Vv 200002::AV.tup [TV.c (AC.vec 22),TV.c (AC.int IntKind.i64 (wcE KL NL pay))]::Vv 22::Ii (wcE KL NL pay)::(AV.agg [Seg.cells [AC.vec 200000],Seg.cells [AC.vec 200001],Seg.cells [AC.vec 200002]])::Bb (rightB KL NL pay)::Bb (bnot (rightB KL NL pay))::(zs 90 [])))) [(1,Blk.own 33 [Seg.cells [AC.vec 200000],Seg.cells [AC.vec 200001],Seg.cells [AC.vec 200002]]),(22,Blk.vec [Col.ints IntKind.u8 (wcR KL NL pay)]),(200000,Blk.rview [Col.rows IntKind.u8 KL]),(200001,Blk.rview [Col.arrs IntKind.u8 16 NL]),(200002,Blk.rview [Col.ints IntKind.u8 pay]),(900004,Blk.heap IntKind.u8 [[]]),(1000000,Blk.view [Seg.ints IntKind.u32 64 Go.Hsh.rootsL])]
def lrthrough.k21 (R : AV → Mem → Prop) (KL NL : List (List Int)) (pay : List Int) (fuel m : Nat) : Prop := rM Tryd.prog gamR3 [⟨777777,[],true,false⟩] Tryd.f8 R fuel m [kc Tryd.f8 [1,1,1]] (Uu::AV.one (AC.ptr 1 0 0)::Uu::Vv 22::Ii (wcE KL NL pay)::(zs 7 (Uu::Uu::Uu::AV.tup [TV.c (AC.vec 22),TV.c (AC.int IntKind.i64 (wcE KL NL pay))]::AV.one (AC.ptr 1 0 0)::Vv 200000::AV.one (AC.ptr 1 1 0)::Vv 200001::AV.one (AC.ptr 1 2 0)::Vv 200002::AV.tup [TV.c (AC.vec 22),TV.c (AC.int IntKind.i64 (wcE KL NL pay))]::Vv 22::Ii (wcE KL NL pay)::(zs 93 [])))) [(1,Blk.own 33 [Seg.cells [AC.vec 200000],Seg.cells [AC.vec 200001],Seg.cells [AC.vec 200002]]),(22,Blk.vec [Col.ints IntKind.u8 (wcR KL NL pay)]),(200000,Blk.rview [Col.rows IntKind.u8 KL]),(200001,Blk.rview [Col.arrs IntKind.u8 16 NL]),(200002,Blk.rview [Col.ints IntKind.u8 pay]),(900004,Blk.heap IntKind.u8 [[]]),(1000000,Blk.view [Seg.ints IntKind.u32 64 Go.Hsh.rootsL])]
def lrthrough.k22 (R : AV → Mem → Prop) (KL NL : List (List Int)) (pay : List Int) (fuel m : Nat) : Prop := rM Tryd.prog gamR3 [⟨777777,[],true,false⟩] Tryd.f8 R fuel m [kc Tryd.f8 [1,0,1,1],kc Tryd.f8 [1,1]] (Uu::AV.one (AC.ptr 1 0 0)::Uu::(zs 9 (Uu::Uu::Uu::(zs 103 [])))) [(1,Blk.own 33 [Seg.cells [AC.vec 200000],Seg.cells [AC.vec 200001],Seg.cells [AC.vec 200002]]),(200000,Blk.rview [Col.rows IntKind.u8 KL]),(200001,Blk.rview [Col.arrs IntKind.u8 16 NL]),(200002,Blk.rview [Col.ints IntKind.u8 pay]),(900004,Blk.heap IntKind.u8 [[]]),(1000000,Blk.view [Seg.ints IntKind.u32 64 Go.Hsh.rootsL])]
def lrthrough.k23 (R : AV → Mem → Prop) (KL NL : List (List Int)) (pay : List Int) (fuel m : Nat) : Prop := rM Tryd.prog gamR3 [⟨777777,[],true,false⟩] Tryd.f8 R fuel m [kc Tryd.f8 [1]] [(AV.agg [Seg.cells [AC.vec 200000],Seg.cells [AC.vec 200001],Seg.cells [AC.vec 200002]]),AV.one (AC.ptr 1 0 0),Ll false,Zz,Zz,Zz,Zz,Zz,Zz,Zz,Zz,Zz,Zz,Zz,Zz,Zz,Zz,Zz,Zz,Zz,Zz,Zz,Zz,Zz,Zz,Zz,Zz,Zz,Zz,Zz,Zz,Zz,Zz,Zz,Zz,Zz,Zz,Zz,Zz,Zz,Zz,Zz,Zz,Zz,Zz,Zz,Zz,Zz,Zz,Zz,Zz,Zz,Zz,Zz,Zz,Zz,Zz,Zz,Zz,Zz,Zz,Zz,Zz,Zz,Zz,Zz,Zz,Zz,Zz,Zz,Zz,Zz,Zz,Zz,Zz,Zz,Zz,Zz,Zz,Zz,Zz,Zz,Zz,Zz,Zz,Zz,Zz,Zz,Zz,Zz,Zz,Zz,Zz,Zz,Zz,Zz,Zz,Zz,Zz,Zz,Zz,Zz,Zz,Zz,Zz,Zz,Zz,Zz,Zz,Zz,Zz,Zz,Zz,Zz,Zz,Zz,Zz,Zz] [(1,Blk.own 33 [Seg.cells [AC.vec 200000],Seg.cells [AC.vec 200001],Seg.cells [AC.vec 200002]]),(200000,Blk.rview [Col.rows IntKind.u8 KL]),(200001,Blk.rview [Col.arrs IntKind.u8 16 NL]),(200002,Blk.rview [Col.ints IntKind.u8 pay]),(900004,Blk.heap IntKind.u8 [[]]),(1000000,Blk.view [Seg.ints IntKind.u32 64 Go.Hsh.rootsL])]
theorem lrthrough.k0_eq (R : AV → Mem → Prop) (KL NL : List (List Int)) (pay : List Int) (fuel m : Nat) : lrthrough.k0 R KL NL pay fuel (m + 100) = ((R (Bb (ieq (ofNat (llen (wcR KL NL pay))) 0)) [(1,Blk.own 33 [Seg.cells [AC.vec 200000],Seg.cells [AC.vec 200001],Seg.cells [AC.vec 200002]]),(22,Blk.vec [Col.ints IntKind.u8 (wcR KL NL pay)]),(200000,Blk.rview [Col.rows IntKind.u8 KL]),(200001,Blk.rview [Col.arrs IntKind.u8 16 NL]),(200002,Blk.rview [Col.ints IntKind.u8 pay]),(900004,Blk.heap IntKind.u8 [[]]),(1000000,Blk.view [Seg.ints IntKind.u32 64 Go.Hsh.rootsL])])) := by kernel_rfl
theorem lrthrough.k2_eq (R : AV → Mem → Prop) (KL NL : List (List Int)) (pay : List Int) (fuel m : Nat) : lrthrough.k2 R KL NL pay fuel (m + 2) = (((((ine (wcE KL NL pay) 0) = true) → (lrthrough.k0 R KL NL pay fuel m)) ∧ (((ine (wcE KL NL pay) 0) = false) → (lrthrough.k1 R KL NL pay fuel m)))) := by kernel_rfl
theorem lrthrough.k5_eq (R : AV → Mem → Prop) (x1 : Int) (KL NL : List (List Int)) (pay : List Int) (ext0 : List (List Int)) (fuel m : Nat) : lrthrough.k5 R x1 KL NL pay ext0 fuel (m + 100) = ((lrthrough.l0 R KL NL pay ext0 fuel (add IntKind.i64 x1 1))) := by kernel_rfl
theorem lrthrough.k6_eq (R : AV → Mem → Prop) (x1 : Int) (KL NL : List (List Int)) (pay : List Int) (ext0 : List (List Int)) (fuel m : Nat) : lrthrough.k6 R x1 KL NL pay ext0 fuel (m + 4) = (((((ine (ofNat (hl (hget (hfrom 1 (wcL KL (wcR KL NL pay))) (nat x1)))) 320) = true) → (lrthrough.k4 R x1 KL NL pay ext0 fuel (m + 1))) ∧ (((ine (ofNat (hl (hget (hfrom 1 (wcL KL (wcR KL NL pay))) (nat x1)))) 320) = false) → (lrthrough.k5 R x1 KL NL pay ext0 fuel m)))) := by kernel_rfl
theorem lrthrough.k7_eq (R : AV → Mem → Prop) (x1 : Int) (KL NL : List (List Int)) (pay : List Int) (ext0 : List (List Int)) (fuel m : Nat) : lrthrough.k7 R x1 KL NL pay ext0 fuel (m + 5) = (((InB x1 (llen (hfrom 1 (wcL KL (wcR KL NL pay))))) ∧ (lrthrough.k6 R x1 KL NL pay ext0 fuel m))) := by kernel_rfl
theorem lrthrough.k8_eq (R : AV → Mem → Prop) (ext0 KL NL : List (List Int)) (pay : List Int) (x1 : Int) (y2 : Bool) (y3 : Int) (y4 y5 y6 : Nat) (y7 : List Int) (fuel m : Nat) : lrthrough.k8 R ext0 KL NL pay x1 y2 y3 y4 y5 y6 y7 fuel (m + 100) = ((let y8 : Bool := (seq2 (bytesOf (lsub (llget (lcat [[]] ext0) (hj (hget (hfrom 1 (wcL KL (wcR KL NL pay))) (nat (sub IntKind.i64 (ofNat (llen (hfrom 1 (wcL KL (wcR KL NL pay))))) 1))))) (ho (hget (hfrom 1 (wcL KL (wcR KL NL pay))) (nat (sub IntKind.i64 (ofNat (llen (hfrom 1 (wcL KL (wcR KL NL pay))))) 1)))) (hl (hget (hfrom 1 (wcL KL (wcR KL NL pay))) (nat (sub IntKind.i64 (ofNat (llen (hfrom 1 (wcL KL (wcR KL NL pay))))) 1)))))) (bytesOf (Go.Cel.plainR pay))); (let y9 : Nat := (hj (hget (hfrom 1 (wcL KL (wcR KL NL pay))) (nat (sub IntKind.i64 (ofNat (llen (hfrom 1 (wcL KL (wcR KL NL pay))))) 1)))); (let y10 : Nat := (ho (hget (hfrom 1 (wcL KL (wcR KL NL pay))) (nat (sub IntKind.i64 (ofNat (llen (hfrom 1 (wcL KL (wcR KL NL pay))))) 1)))); (let y11 : Nat := (hl (hget (hfrom 1 (wcL KL (wcR KL NL pay))) (nat (sub IntKind.i64 (ofNat (llen (hfrom 1 (wcL KL (wcR KL NL pay))))) 1)))); (let y12 : ByteArray := (bytesOf (lsub (llget (lcat [[]] ext0) (hj (hget (hfrom 1 (wcL KL (wcR KL NL pay))) (nat (sub IntKind.i64 (ofNat (llen (hfrom 1 (wcL KL (wcR KL NL pay))))) 1))))) (ho (hget (hfrom 1 (wcL KL (wcR KL NL pay))) (nat (sub IntKind.i64 (ofNat (llen (hfrom 1 (wcL KL (wcR KL NL pay))))) 1)))) (hl (hget (hfrom 1 (wcL KL (wcR KL NL pay))) (nat (sub IntKind.i64 (ofNat (llen (hfrom 1 (wcL KL (wcR KL NL pay))))) 1)))))); (R (Bb y8) [(1,Blk.own 33 [Seg.cells [AC.vec 200000],Seg.cells [AC.vec 200001],Seg.cells [AC.vec 200002]]),(39,Blk.vec [Col.hss IntKind.u8 (hfrom 1 (wcL KL (wcR KL NL pay))),Col.arrs IntKind.u8 16 (wrL KL (wcR KL NL pay))]),(82,Blk.vec [Col.ints IntKind.u8 y7]),(89,Blk.vec [Col.ints IntKind.u8 (Go.Cel.plainR pay)]),(200000,Blk.rview [Col.rows IntKind.u8 KL]),(200001,Blk.rview [Col.arrs IntKind.u8 16 NL]),(200002,Blk.rview [Col.ints IntKind.u8 pay]),(900004,Blk.heap IntKind.u8 (lcat [[]] ext0)),(1000000,Blk.view [Seg.ints IntKind.u32 64 Go.Hsh.rootsL])]))))))) := by kernel_rfl
theorem lrthrough.k12_eq (R : AV → Mem → Prop) (x1 : Int) (y2 : Bool) (y3 : Int) (pay : List Int) (KL NL : List (List Int)) (y4 y5 y6 : Nat) (y7 : List Int) (ext0 : List (List Int)) (fuel m : Nat) : lrthrough.k12 R x1 y2 y3 pay KL NL y4 y5 y6 y7 ext0 fuel (m + 2) = (((((ieq y3 0) = true) → (((y2 = true) → (((((seq2 (bytesOf y7) (bytesOf pay)) = true) → ((InB (sub IntKind.i64 (ofNat (llen (hfrom 1 (wcL KL (wcR KL NL pay))))) 1) (llen (hfrom 1 (wcL KL (wcR KL NL pay))))) ∧ ((lrthrough.k8 R ext0 KL NL pay x1 y2 y3 y4 y5 y6 y7 fuel m) ∧ (lrthrough.k8 R ext0 KL NL pay x1 y2 y3 y4 y5 y6 y7 fuel m)))) ∧ (((seq2 (bytesOf y7) (bytesOf pay)) = false) → ((lrthrough.k9 R x1 y2 y3 pay KL NL y4 y5 y6 y7 ext0 fuel m) ∧ (lrthrough.k9 R x1 y2 y3 pay KL NL y4 y5 y6 y7 ext0 fuel m)))) ∧ ((((seq2 (bytesOf y7) (bytesOf pay)) = true) → ((InB (sub IntKind.i64 (ofNat (llen (hfrom 1 (wcL KL (wcR KL NL pay))))) 1) (llen (hfrom 1 (wcL KL (wcR KL NL pay))))) ∧ ((lrthrough.k8 R ext0 KL NL pay x1 y2 y3 y4 y5 y6 y7 fuel m) ∧ (lrthrough.k8 R ext0 KL NL pay x1 y2 y3 y4 y5 y6 y7 fuel m)))) ∧ (((seq2 (bytesOf y7) (bytesOf pay)) = false) → ((lrthrough.k9 R x1 y2 y3 pay KL NL y4 y5 y6 y7 ext0 fuel m) ∧ (lrthrough.k9 R x1 y2 y3 pay KL NL y4 y5 y6 y7 ext0 fuel m)))))) ∧ ((y2 = false) → (((lrthrough.k10 R x1 y2 y3 pay KL NL y4 y5 y6 y7 ext0 fuel m) ∧ (lrthrough.k10 R x1 y2 y3 pay KL NL y4 y5 y6 y7 ext0 fuel m)) ∧ ((lrthrough.k10 R x1 y2 y3 pay KL NL y4 y5 y6 y7 ext0 fuel m) ∧ (lrthrough.k10 R x1 y2 y3 pay KL NL y4 y5 y6 y7 ext0 fuel m)))))) ∧ (((ieq y3 0) = false) → (((lrthrough.k11 R x1 y2 y3 pay KL NL y4 y5 y6 y7 ext0 fuel m) ∧ (lrthrough.k11 R x1 y2 y3 pay KL NL y4 y5 y6 y7 ext0 fuel m)) ∧ ((lrthrough.k11 R x1 y2 y3 pay KL NL y4 y5 y6 y7 ext0 fuel m) ∧ (lrthrough.k11 R x1 y2 y3 pay KL NL y4 y5 y6 y7 ext0 fuel m)))))) := by kernel_rfl
theorem lrthrough.k13_eq (R : AV → Mem → Prop) (x1 : Int) (ext0 KL NL : List (List Int)) (pay : List Int) (fuel m : Nat) : lrthrough.k13 R x1 ext0 KL NL pay fuel (m + 2) = ((let y2 : Bool := (Go.Cel.opY (lsub (llget (lcat [[]] ext0) (hj (hget (hfrom 1 (wcL KL (wcR KL NL pay))) (nat (sub IntKind.i64 (ofNat (llen (hfrom 1 (wcL KL (wcR KL NL pay))))) 1))))) (ho (hget (hfrom 1 (wcL KL (wcR KL NL pay))) (nat (sub IntKind.i64 (ofNat (llen (hfrom 1 (wcL KL (wcR KL NL pay))))) 1)))) (hl (hget (hfrom 1 (wcL KL (wcR KL NL pay))) (nat (sub IntKind.i64 (ofNat (llen (hfrom 1 (wcL KL (wcR KL NL pay))))) 1)))))); (let y3 : Int := (Go.Cel.opE (lsub (llget (lcat [[]] ext0) (hj (hget (hfrom 1 (wcL KL (wcR KL NL pay))) (nat (sub IntKind.i64 (ofNat (llen (hfrom 1 (wcL KL (wcR KL NL pay))))) 1))))) (ho (hget (hfrom 1 (wcL KL (wcR KL NL pay))) (nat (sub IntKind.i64 (ofNat (llen (hfrom 1 (wcL KL (wcR KL NL pay))))) 1)))) (hl (hget (hfrom 1 (wcL KL (wcR KL NL pay))) (nat (sub IntKind.i64 (ofNat (llen (hfrom 1 (wcL KL (wcR KL NL pay))))) 1)))))); (let y4 : Nat := (hj (hget (hfrom 1 (wcL KL (wcR KL NL pay))) (nat (sub IntKind.i64 (ofNat (llen (hfrom 1 (wcL KL (wcR KL NL pay))))) 1)))); (let y5 : Nat := (ho (hget (hfrom 1 (wcL KL (wcR KL NL pay))) (nat (sub IntKind.i64 (ofNat (llen (hfrom 1 (wcL KL (wcR KL NL pay))))) 1)))); (let y6 : Nat := (hl (hget (hfrom 1 (wcL KL (wcR KL NL pay))) (nat (sub IntKind.i64 (ofNat (llen (hfrom 1 (wcL KL (wcR KL NL pay))))) 1)))); (let y7 : List Int := (Go.Cel.opR (lsub (llget (lcat [[]] ext0) (hj (hget (hfrom 1 (wcL KL (wcR KL NL pay))) (nat (sub IntKind.i64 (ofNat (llen (hfrom 1 (wcL KL (wcR KL NL pay))))) 1))))) (ho (hget (hfrom 1 (wcL KL (wcR KL NL pay))) (nat (sub IntKind.i64 (ofNat (llen (hfrom 1 (wcL KL (wcR KL NL pay))))) 1)))) (hl (hget (hfrom 1 (wcL KL (wcR KL NL pay))) (nat (sub IntKind.i64 (ofNat (llen (hfrom 1 (wcL KL (wcR KL NL pay))))) 1)))))); ((Short pay) ∧ (lrthrough.k12 R x1 y2 y3 pay KL NL y4 y5 y6 y7 ext0 fuel m))))))))) := by kernel_rfl
theorem lrthrough.k14_eq (R : AV → Mem → Prop) (x1 : Int) (KL NL : List (List Int)) (pay : List Int) (ext0 : List (List Int)) (fuel m : Nat) : lrthrough.k14 R x1 KL NL pay ext0 fuel (m + 3) = (((InB (sub IntKind.i64 (ofNat (llen (hfrom 1 (wcL KL (wcR KL NL pay))))) 1) (llen (hfrom 1 (wcL KL (wcR KL NL pay))))) ∧ (((Short (lsub (llget (lcat [[]] ext0) (hj (hget (hfrom 1 (wcL KL (wcR KL NL pay))) (nat (sub IntKind.i64 (ofNat (llen (hfrom 1 (wcL KL (wcR KL NL pay))))) 1))))) (ho (hget (hfrom 1 (wcL KL (wcR KL NL pay))) (nat (sub IntKind.i64 (ofNat (llen (hfrom 1 (wcL KL (wcR KL NL pay))))) 1)))) (hl (hget (hfrom 1 (wcL KL (wcR KL NL pay))) (nat (sub IntKind.i64 (ofNat (llen (hfrom 1 (wcL KL (wcR KL NL pay))))) 1)))))) ∧ (Bs (lsub (llget (lcat [[]] ext0) (hj (hget (hfrom 1 (wcL KL (wcR KL NL pay))) (nat (sub IntKind.i64 (ofNat (llen (hfrom 1 (wcL KL (wcR KL NL pay))))) 1))))) (ho (hget (hfrom 1 (wcL KL (wcR KL NL pay))) (nat (sub IntKind.i64 (ofNat (llen (hfrom 1 (wcL KL (wcR KL NL pay))))) 1)))) (hl (hget (hfrom 1 (wcL KL (wcR KL NL pay))) (nat (sub IntKind.i64 (ofNat (llen (hfrom 1 (wcL KL (wcR KL NL pay))))) 1))))))) ∧ (lrthrough.k13 R x1 ext0 KL NL pay fuel m)))) := by kernel_rfl
theorem lrthrough.k15_eq (R : AV → Mem → Prop) (x1 : Int) (KL NL : List (List Int)) (pay : List Int) (ext0 : List (List Int)) (fuel m : Nat) : lrthrough.k15 R x1 KL NL pay ext0 fuel (m + 1) = (((((ilt x1 (ofNat (llen (hfrom 1 (wcL KL (wcR KL NL pay)))))) = true) → (lrthrough.k7 R x1 KL NL pay ext0 fuel m)) ∧ (((ilt x1 (ofNat (llen (hfrom 1 (wcL KL (wcR KL NL pay)))))) = false) → (lrthrough.k14 R x1 KL NL pay ext0 fuel m)))) := by kernel_rfl
theorem lrthrough.l0_succ (R : AV → Mem → Prop) (KL NL : List (List Int)) (pay : List Int) (ext0 : List (List Int)) (fuel : Nat) (x1 : Int) : lrthrough.l0 R KL NL pay ext0 (fuel + 1) x1 = ((lrthrough.k15 R x1 KL NL pay ext0 fuel 3997)) := by kernel_rfl
theorem lrthrough.k16_eq (R : AV → Mem → Prop) (KL NL : List (List Int)) (pay : List Int) (ext0 : List (List Int)) (fuel m : Nat) : lrthrough.k16 R KL NL pay ext0 fuel (m + 100) = ((lrthrough.l0 R KL NL pay ext0 fuel 0)) := by kernel_rfl
theorem lrthrough.k17_eq (R : AV → Mem → Prop) (KL NL : List (List Int)) (pay : List Int) (ext0 : List (List Int)) (fuel m : Nat) : lrthrough.k17 R KL NL pay ext0 fuel (m + 5) = (((((ine (ofNat (llen (hfrom 1 (wcL KL (wcR KL NL pay))))) (ofNat (llen KL))) = true) → (lrthrough.k3 R KL NL pay ext0 fuel (m + 2))) ∧ (((ine (ofNat (llen (hfrom 1 (wcL KL (wcR KL NL pay))))) (ofNat (llen KL))) = false) → (lrthrough.k16 R KL NL pay ext0 fuel m)))) := by kernel_rfl
theorem lrthrough.k18_eq (R : AV → Mem → Prop) (KL NL : List (List Int)) (pay : List Int) (ext0 : List (List Int)) (fuel m : Nat) : lrthrough.k18 R KL NL pay ext0 fuel (m + 6) = (((((ine (wcE KL NL pay) 0) = false) → ((((ine (weI KL (wcR KL NL pay)) 0) = false) → ((((ine (ofNat (llen (wcR KL NL pay))) 320) = false) → (lrthrough.k17 R KL NL pay ext0 fuel (m + 3))) ∧ (((ine (ofNat (llen (wcR KL NL pay))) 320) = true) → (lrthrough.k3 R KL NL pay ext0 fuel m)))) ∧ (((ine (weI KL (wcR KL NL pay)) 0) = true) → (lrthrough.k3 R KL NL pay ext0 fuel m)))) ∧ (((ine (wcE KL NL pay) 0) = true) → (lrthrough.k3 R KL NL pay ext0 fuel m)))) := by kernel_rfl
theorem lrthrough.k19_eq (R : AV → Mem → Prop) (KL NL : List (List Int)) (pay : List Int) (fuel m : Nat) : lrthrough.k19 R KL NL pay fuel (m + 3) = ((((Go.Hsh.rootsL = Go.Hsh.rootsL) ∧ ((Kys KL) ∧ (In (wcR KL NL pay)))) ∧ (∀ ext0 : List (List Int),((WkX KL (wcR KL NL pay) ext0) → (lrthrough.k18 R KL NL pay ext0 fuel m))))) := by kernel_rfl
theorem lrthrough.k20_eq (R : AV → Mem → Prop) (KL NL : List (List Int)) (pay : List Int) (fuel m : Nat) : lrthrough.k20 R KL NL pay fuel (m + 1) = (((((bnot (rightB KL NL pay)) = true) → (lrthrough.k2 R KL NL pay fuel m)) ∧ (((bnot (rightB KL NL pay)) = false) → (lrthrough.k19 R KL NL pay fuel m)))) := by kernel_rfl
theorem lrthrough.k21_eq (R : AV → Mem → Prop) (KL NL : List (List Int)) (pay : List Int) (fuel m : Nat) : lrthrough.k21 R KL NL pay fuel (m + 3) = ((((Kys KL) ∧ ((Ncs NL) ∧ (In pay))) ∧ (lrthrough.k20 R KL NL pay fuel m))) := by kernel_rfl
theorem lrthrough.k22_eq (R : AV → Mem → Prop) (KL NL : List (List Int)) (pay : List Int) (fuel m : Nat) : lrthrough.k22 R KL NL pay fuel (m + 3) = ((((Go.Hsh.rootsL = Go.Hsh.rootsL) ∧ ((Kys KL) ∧ ((Ncs NL) ∧ (In pay)))) ∧ (lrthrough.k21 R KL NL pay fuel m))) := by kernel_rfl
theorem lrthrough.k23_eq (R : AV → Mem → Prop) (KL NL : List (List Int)) (pay : List Int) (fuel m : Nat) : lrthrough.k23 R KL NL pay fuel (m + 4) = (((Go.Hsh.rootsL = Go.Hsh.rootsL) ∧ (lrthrough.k22 R KL NL pay fuel m))) := by kernel_rfl
theorem lrthrough_vc0 (R : AV → Mem → Prop) (fuel m : Nat) (KL : List (List Int)) (NL : List (List Int)) (pay : List Int) : runM Tryd.prog gamR3 [⟨777777, [], true, false⟩] (resh Tryd.prog [⟨777777, [], true, false⟩] Tryd.f8.results.toList R) (run Tryd.prog gamR3 [⟨777777, [], true, false⟩] (resh Tryd.prog [⟨777777, [], true, false⟩] Tryd.f8.results.toList R) fuel) (m + 2) [.code (bodyOf Tryd.f8)] (startFr Tryd.f8.ntmps [.agg [.cells [.vec 200000], .cells [.vec 200001], .cells [.vec 200002]]]) [(200000, .rview [.rows .u8 KL]), (200001, .rview [.arrs .u8 16 NL]), (200002, .rview [.ints .u8 pay]), (900004, .heap .u8 [[]]), (1000000 + 0, .view [.ints .u32 64 Go.Hsh.rootsL])] = (lrthrough.k23 R KL NL pay fuel m) := by kernel_rfl
theorem lrthrough_vc (R : AV → Mem → Prop) (fuel : Nat) (KL : List (List Int)) (NL : List (List Int)) (pay : List Int) : callsx Tryd.prog gamR3 [⟨777777, [], true, false⟩] Tryd.f8 (fuel + 1) [.agg [.cells [.vec 200000], .cells [.vec 200001], .cells [.vec 200002]]] [(200000, .rview [.rows .u8 KL]), (200001, .rview [.arrs .u8 16 NL]), (200002, .rview [.ints .u8 pay]), (900004, .heap .u8 [[]]), (1000000 + 0, .view [.ints .u32 64 Go.Hsh.rootsL])] R = (lrthrough.k23 R KL NL pay fuel 3998) := lrthrough_vc0 R fuel 3998 KL NL pay
end Go.Proofs.YtienfecnkglilaaDoor.G
namespace Go.Rou
open Go Go.Sx Go.Hsh Go.Mac Go.Blk Go.Cel Go.Oni Go.Fld Go.Proofs.YtienfecnkglilaaDoor.G
theorem wkL_get (key : Nat → List Int) (h : Nat) (c : List Int) : ∀ {n i : Nat}, i < n → llget (wkL key h c n) i = wkC key h c (i + 1)
 | n + 1, i, hi => by
  simp only [wkL, llget, List.getD]
  by_cases e : i < n
  ·rw [List.getElem?_append_left (by rw [wkL_len]; exact e)]
   have := wkL_get key h c (n := n) e
   simp only [llget, List.getD] at this; exact this
  ·obtain rfl : i = n := by omega
   rw [List.getElem?_append_right (by rw [wkL_len]; omega), wkL_len, Nat.sub_self]; rfl
theorem wkT_get (key : Nat → List Int) (h : Nat) (c : List Int) : ∀ {n i : Nat}, i < n → llget (wkT key h c n) i = wkR key h c i
 | n + 1, i, hi => by
  simp only [wkT, llget, List.getD]
  by_cases e : i < n
  ·rw [List.getElem?_append_left (by rw [wkT_len]; exact e)]
   have := wkT_get key h c (n := n) e
   simp only [llget, List.getD] at this; exact this
  ·obtain rfl : i = n := by omega
   rw [List.getElem?_append_right (by rw [wkT_len]; omega), wkT_len, Nat.sub_self]; rfl
theorem wc_few {KL : List (List Int)} {c : List Int} (hc : In c) : FewR (wcL KL c) (wrL KL c) := by
 unfold wcL wrL
 by_cases h : weI KL c = 0
 ·rw [if_pos h, if_pos h]
  obtain ⟨h1, h8, _⟩ := weI_ok h
  refine ⟨by rw [wkL_len]; exact h8, fun i hi => ?_, by rw [wkL_len, wkT_len], fun i hi => ?_⟩
  ·rw [wkL_len] at hi
   rw [wkL_get _ _ _ hi]; exact (wkC_in hc _).bs
  ·rw [wkT_len] at hi
   rw [wkT_get _ _ _ hi]; exact Go.Proofs.YtienfecnkglilaaDoor.G.pR_len _ _ _
 ·rw [if_neg h, if_neg h]
  exact ⟨by decide, fun i hi => by simp at hi, rfl, fun i hi => by simp at hi⟩
theorem walk_chain {KL NL : List (List Int)} {pay : List Int} (C : Ch (llget KL) (llget NL) KL.length pay) (h1 : 1 ≤ KL.length) :
  (∀ i, i < KL.length → wkC (llget KL) KL.length (padR (chainO (llget KL) (llget NL) KL.length pay KL.length)) i = padR (chainO (llget KL) (llget NL) KL.length pay (KL.length - i))) ∧
  (∀ i, i < KL.length → wkE (llget KL) KL.length (padR (chainO (llget KL) (llget NL) KL.length pay KL.length)) i = 0) ∧
  wkC (llget KL) KL.length (padR (chainO (llget KL) (llget NL) KL.length pay KL.length)) KL.length = plainR pay := by
 have layer : ∀ i, i < KL.length → Bk (llget KL i) (llget NL i) (chainO (llget KL) (llget NL) KL.length pay (KL.length - (i + 1))) (chainO (llget KL) (llget NL) KL.length pay (KL.length - i)) (KL.length - i) := fun i hi => by
  have b := C.layer (j := KL.length - (i + 1)) (by omega)
  have e3 : KL.length - 1 - (KL.length - (i + 1)) = i := by omega
  have e4 : KL.length - (i + 1) + 1 = KL.length - i := by omega
  rw [e3, e4] at b
  exact b
 have inv : ∀ i, i < KL.length → wkC (llget KL) KL.length (padR (chainO (llget KL) (llget NL) KL.length pay KL.length)) i = padR (chainO (llget KL) (llget NL) KL.length pay (KL.length - i)) := by
  intro i
  induction i with
  | zero => intro _; rfl
  | succ i ih =>
   intro hi
   have b := layer i (by omega)
   show pC (llget KL i) ((KL.length - i : Nat) : Int) (wkC (llget KL) KL.length _ i) = _
   rw [ih (by omega), pC_eq, b.pC]
   rw [if_pos (by omega)]
 refine ⟨inv, fun i hi => ?_, ?_⟩
 ·unfold wkE
  rw [inv i hi]
  rw [pE_eq]; exact (layer i hi).pE
 ·obtain ⟨n, hn⟩ : ∃ n, KL.length = n + 1 := ⟨KL.length - 1, by omega⟩
  have b := layer n (by omega)
  have e : wkC (llget KL) KL.length (padR (chainO (llget KL) (llget NL) KL.length pay KL.length)) (n + 1) = plainR pay := by
   show pC (llget KL n) ((KL.length - n : Nat) : Int) (wkC (llget KL) KL.length _ n) = _
   rw [inv n (by omega), pC_eq, b.pC, if_neg (by omega), show KL.length - (n + 1) = 0 by omega]
   rfl
  rw [← hn] at e; exact e
theorem plain_opens3 {p : List Int} (h : p.length ≤ 48) (hb : Bs p) : opE (plainR p) = 0 ∧ opR (plainR p) = p ∧ opY (plainR p) = true := by
 have hl : (plainR p).length = 320 := by unfold plainR; rw [if_pos h]; exact fillL_len' (by simp; omega)
 have e : plainR p = 1 :: (p.length : Int) :: (p ++ List.replicate (318 - p.length) 0) := by
  unfold plainR; rw [if_pos h]; unfold fillL
  rw [show 320 - (1 :: (p.length : Int) :: p).length = 318 - p.length by simp]; rfl
 have g0 : (plainR p).getD 0 0 = 1 := by rw [e]; rfl
 have g1 : (plainR p).getD 1 0 = (p.length : Int) := by rw [e]; rfl
 have gz : zb ((plainR p).drop (2 + p.length)) = true := by
  rw [e, show 2 + p.length = p.length + 1 + 1 by omega, List.drop_succ_cons, List.drop_succ_cons, List.drop_left]
  rw [zb_true]
  intro j hj
  simp only [lget, List.getD_eq_getElem?_getD, List.getElem?_replicate]
  split <;> rfl
 have oe : opE (plainR p) = 0 := by
  unfold opE
  rw [if_neg (by rw [hl]; simp), g0, if_neg (by decide), if_neg (by simp), g1, if_neg (by omega), Int.toNat_natCast, gz, if_neg (by simp)]
 have oy : opY (plainR p) = true := by unfold opY; rw [oe, g0]; decide
 refine ⟨oe, ?_, oy⟩
 unfold opR
 rw [if_pos oy, g1, Int.toNat_natCast, e, show (2 : Nat) = 1 + 1 from rfl, List.drop_succ_cons, List.drop_succ_cons, List.drop_zero, List.take_left]
end Go.Rou
namespace Go.Proofs.YtienfecnkglilaaDoor.G
open Go Go.Sx Go.Fld Go.Hsh Go.Mac Go.Blk Go.Cel Go.Oni Go.Rou
set_option maxRecDepth 20000
set_option maxHeartbeats 4000000
theorem llq2_self (a r : List (List Int)) : llq2 a r a r = true := by unfold llq2; rw [decide_eq_true_eq]; exact ⟨rfl, rfl⟩
theorem hcons_at {H os L M : List (List Int)} (h : H = os ++ (L ++ M)) : hcons H (hfrom os.length L) = L := by
 subst h
 have e := hcons_from (os) (L ++ M)
 have f : ∀ (n : Nat) (A B : List (List Int)), hfrom n (A ++ B) = hfrom n A ++ hfrom (n + A.length) B := by
  intro n A B
  induction A generalizing n with
  | nil => rfl
  | cons c r ih =>
   simp only [List.cons_append, hfrom, ih, List.length_cons]
   rw [show n + 1 + r.length = n + (r.length + 1) by omega]
 rw [f] at e
 simp only [hcons, List.map_append] at e ⊢
 have hl : (List.map (hcon (os ++ (L ++ M))) (hfrom os.length L)).length = L.length := by rw [List.length_map, hfrom_len]
 have := congrArg (List.take L.length) e
 rw [List.take_left' hl, List.take_left' rfl] at this
 exact this
theorem hcons_walk {KL : List (List Int)} {c : List Int} {ext os M : List (List Int)} (h : WkX KL c ext) : hcons ((os ++ ext) ++ M) (hfrom os.length (wcL KL c)) = wcL KL c := by
 by_cases e : weI KL c = 0
 ·rw [h.ok e]; exact hcons_at (M := M) (by simp)
 ·have : wcL KL c = [] := by unfold wcL; rw [if_neg e]
  rw [this]; rfl
theorem routeWalks_plain {KL : List (List Int)} {c : List Int} (hk : Kys KL) (hc : In c) :
  ∃ n, Has (callsx Tryd.prog gamR3 [⟨777777, [], true, false⟩] Tryd.f6 n [.one (.vec 200000), .one (.vec 200001)] [(200000, .rview [.rows .u8 KL]), (200001, .rview [.ints .u8 c]), (900004, .heap .u8 [[]]), (gname 0, .view [.ints .u32 64 rootsL])] fun av _ => av = .one (.bool true) ∨ av = .one (.lit true)) := by
 refine ⟨1, ⟨?_⟩⟩
 have few := wc_few (KL := KL) hc
 refine (lrwalks_vc _ 0 KL c).mpr ?_
 rw [lrwalks.k5_eq _ KL c 0 3994, lrwalks.k4_eq _ KL c 0 3991]
 refine ⟨rfl, ⟨hk, hc⟩, fun ext0 h0 => ?_⟩
 rw [lrwalks.k3_eq _ KL c ext0 0 3989]
 refine ⟨⟨rfl, hk, hc⟩, fun ext1 h1 => ?_⟩
 have e0 : hcons (lcat (lcat [[]] ext0) ext1) (hfrom 1 (wcL KL c)) = wcL KL c := hcons_walk (os := [[]]) h0
 have e1 : hcons (lcat (lcat [[]] ext0) ext1) (hfrom (llen (lcat [[]] ext0)) (wcL KL c)) = wcL KL c := by
  have := hcons_walk (os := lcat [[]] ext0) (M := []) h1
  rw [List.append_nil] at this; exact this
 rw [lrwalks.k2_eq _ KL c ext0 ext1 0 3987]
 simp only [e0, e1, llq2_self, Bool.true_eq_false, false_implies, forall_const, and_true]
 refine ⟨⟨few, few⟩, ?_⟩
 rw [lrwalks.k0_eq _ KL c ext0 ext1 0 3887]
 have g1 : ieq (weI KL c) (weI KL c) = true := by rw [ieq_true]
 simp only [g1]
 exact Or.inl trivial
theorem routeThrough_plain {KL NL : List (List Int)} {pay : List Int} (hk : Kys KL) (hn : Ncs NL) (hp : In pay) :
  ∃ n, Has (callsx Tryd.prog gamR3 [⟨777777, [], true, false⟩] Tryd.f8 n [.agg [.cells [.vec 200000], .cells [.vec 200001], .cells [.vec 200002]]] [(200000, .rview [.rows .u8 KL]), (200001, .rview [.arrs .u8 16 NL]), (200002, .rview [.ints .u8 pay]), (900004, .heap .u8 [[]]), (gname 0, .view [.ints .u32 64 rootsL])] fun av _ => av = .one (.bool true) ∨ av = .one (.lit true)) := by
 have wE := wcE_eq KL NL pay
 have wR := wcR_eq KL NL pay
 by_cases hr : rcE KL NL pay = 0
 ·have hrB : rightB KL NL pay = true := by unfold rightB; rw [hr]; rfl
  have C := Ch.of hn hp.bs hr
  obtain ⟨q0, q48⟩ := rcE_ok hr
  obtain ⟨q1, q2, q3, q4⟩ := faE_ok q0
  obtain ⟨w1, w2, w3⟩ := walk_chain C q1
  have hcell : wcR KL NL pay = padR (chainO (llget KL) (llget NL) KL.length pay KL.length) := by rw [wR]; unfold rcR; rw [if_pos hr]
  have hl320 : (wcR KL NL pay).length = 320 := by
   rw [hcell]; exact pad_fill (by have := (C.len _ (Nat.le_refl _)).1; omega)
  have hin : In (wcR KL NL pay) := wcR_in hn hp.bs
  have hwe : weI KL (wcR KL NL pay) = 0 := by
   unfold weI
   rw [if_neg (by omega), hcell]
   exact wkX_zero.2 w2
  have hcl : wcL KL (wcR KL NL pay) = wkL (llget KL) KL.length (wcR KL NL pay) KL.length := by unfold wcL; rw [if_pos hwe]
  have hclen : (wcL KL (wcR KL NL pay)).length = KL.length := by rw [hcl, wkL_len]
  have hget : ∀ i, i < KL.length → llget (wcL KL (wcR KL NL pay)) i = wkC (llget KL) KL.length (wcR KL NL pay) (i + 1) := fun i hi => by rw [hcl]; exact wkL_get _ _ _ hi
  have hcelli : ∀ i, i < KL.length → (llget (wcL KL (wcR KL NL pay)) i).length = 320 := fun i hi => by
   rw [hget i hi]
   by_cases e : i + 1 < KL.length
   ·rw [hcell, w1 (i + 1) e]
    exact pad_fill (by have := (C.len (KL.length - (i + 1)) (by omega)).1; omega)
   ·have e : i + 1 = KL.length := by omega
    rw [e, hcell, w3]
    unfold plainR; rw [if_pos q48]; exact fillL_len' (by simp; omega)
  have hlast : llget (wcL KL (wcR KL NL pay)) (KL.length - 1) = plainR pay := by
   rw [hget _ (by omega), show KL.length - 1 + 1 = KL.length by omega, hcell, w3]
  obtain ⟨o1, o2, o3⟩ := plain_opens3 q48 hp.bs
  have hpl : In (plainR pay) := plainR_in' hp.bs
  refine ⟨(1 + 1 * (KL.length - 0)) + 1, ⟨?_⟩⟩
  refine (lrthrough_vc _ _ KL NL pay).mpr ?_
  have k18 : ∀ ext0, WkX KL (wcR KL NL pay) ext0 → ∀ M, lrthrough.k18 (fun av _ => av = .one (.bool true) ∨ av = .one (.lit true)) KL NL pay ext0 (1 + 1 * (KL.length - 0)) (M + 300) := by
   intro ext0 hx M
   have hext : ext0 = wcL KL (wcR KL NL pay) := hx.ok hwe
   have hll : llen (hfrom 1 (wcL KL (wcR KL NL pay))) = KL.length := by rw [llen_def, hfrom_len, hclen]
   have hg : ∀ i, i < KL.length → Go.Sx.hget (hfrom 1 (wcL KL (wcR KL NL pay))) i = ⟨1 + i, 0, 320⟩ := fun i hi => by
    rw [hfrom_get (by rw [hclen]; exact hi), hcelli i hi]
   have lp := loop_n (fun f i (_ : Unit) => lrthrough.l0 (fun av _ => av = .one (.bool true) ∨ av = .one (.lit true)) KL NL pay ext0 f i) KL.length (fun _ => ()) 1 1 (fun f i hi hf => by
    have a1 : add .i64 (i : Int) 1 = ((i + 1 : Nat) : Int) := add1_i64 (by omega)
    show lrthrough.l0 _ KL NL pay ext0 (f + 1) (i : Int)
    rw [lrthrough.l0_succ, lrthrough.k15_eq _ (i : Int) KL NL pay ext0 f 3996, lrthrough.k7_eq _ (i : Int) KL NL pay ext0 f 3991, lrthrough.k6_eq _ (i : Int) KL NL pay ext0 f 3987, lrthrough.k5_eq _ (i : Int) KL NL pay ext0 f 3887]
    rw [nat_cast, hg i hi, a1]
    have i1 : ine (ofNat (Go.Sx.hl ⟨1 + i, 0, 320⟩)) 320 = false := by rw [ine_false]; rfl
    simp only [i1, Bool.false_eq_true, false_implies, forall_const, true_and]
    refine ⟨fun _ => ⟨⟨by omega, by omega⟩, hf⟩, fun q => ?_⟩
    exfalso
    rw [ilt_false, ofNat_def, hll] at q; omega) (by
    show lrthrough.l0 _ KL NL pay ext0 (0 + 1) ((KL.length : Nat) : Int)
    have s1 : sub .i64 (ofNat (llen (hfrom 1 (wcL KL (wcR KL NL pay))))) 1 = ((KL.length - 1 : Nat) : Int) := by
     rw [hll, ofNat_def]; exact subN_i64 (b := 1) q1 (by omega)
    have hcon : lsub (llget (lcat [[]] ext0) (Go.Sx.hj (Go.Sx.hget (hfrom 1 (wcL KL (wcR KL NL pay))) (KL.length - 1)))) (Go.Sx.ho (Go.Sx.hget (hfrom 1 (wcL KL (wcR KL NL pay))) (KL.length - 1))) (Go.Sx.hl (Go.Sx.hget (hfrom 1 (wcL KL (wcR KL NL pay))) (KL.length - 1))) = plainR pay := by
     rw [hg _ (by omega)]
     show lsub (llget ([] :: ext0) (1 + (KL.length - 1))) 0 320 = _
     have e2 : llget ([] :: ext0) (1 + (KL.length - 1)) = llget ext0 (KL.length - 1) := by rw [Nat.add_comm]; rfl
     rw [e2, hext, hlast, lsub, List.drop_zero, List.take_of_length_le]
     have := hcelli (KL.length - 1) (by omega)
     rw [hlast] at this; omega
    have hinb : InB ((KL.length - 1 : Nat) : Int) (llen (hfrom 1 (wcL KL (wcR KL NL pay)))) := ⟨by omega, by rw [hll]; omega⟩
    rw [lrthrough.l0_succ, lrthrough.k15_eq _ _ KL NL pay ext0 0 3996, lrthrough.k14_eq _ _ KL NL pay ext0 0 3993, lrthrough.k13_eq _ _ ext0 KL NL pay 0 3991]
    simp only [s1, nat_cast, hcon, o1, o2, o3]
    refine ⟨fun q => ?_, fun _ => ⟨hinb, ⟨⟨hpl.sh⟩, hpl.bs⟩, ?_⟩⟩
    ·exfalso
     rw [ilt_true, ofNat_def, hll] at q; omega
    ·have k8 : ∀ x1 y2 y3 y4 y5 y6 M, lrthrough.k8 (fun av _ => av = .one (.bool true) ∨ av = .one (.lit true)) ext0 KL NL pay x1 y2 y3 y4 y5 y6 pay 0 (M + 100) := fun x1 y2 y3 y4 y5 y6 M => by
      rw [lrthrough.k8_eq _ ext0 KL NL pay x1 y2 y3 y4 y5 y6 pay 0 M]
      simp only [s1, nat_cast, hcon, seq_self]
      exact Or.inl trivial
     rw [lrthrough.k12_eq _ _ true 0 pay KL NL _ _ _ pay ext0 0 3989]
     have i0 : ieq 0 0 = true := rfl
     simp only [i0, seq_self, s1, hinb, k8 _ _ _ _ _ _ 3889, Bool.true_eq_false, false_implies, forall_const, and_self]
     exact ⟨⟨hp.sh⟩, trivial⟩) 0 (Nat.zero_le _)
   have n1 : ine (wcE KL NL pay) 0 = false := by rw [ine_false, wE]; exact hr
   have n2 : ine (weI KL (wcR KL NL pay)) 0 = false := by rw [ine_false]; exact hwe
   have n3 : ine (ofNat (llen (wcR KL NL pay))) 320 = false := by rw [ine_false, ofNat_def, llen_def, hl320]; rfl
   have n4 : ine (ofNat (llen (hfrom 1 (wcL KL (wcR KL NL pay))))) (ofNat (llen KL)) = false := by rw [ine_false, hll, llen_def]
   have k16 : ∀ M, lrthrough.k16 (fun av _ => av = .one (.bool true) ∨ av = .one (.lit true)) KL NL pay ext0 (1 + 1 * (KL.length - 0)) (M + 100) := fun M => by rw [lrthrough.k16_eq]; exact lp
   rw [lrthrough.k18_eq _ KL NL pay ext0 _ (M + 294)]
   simp only [n1, n2, n3, Bool.false_eq_true, Bool.true_eq_false, false_implies, forall_const, true_and, and_true]
   rw [lrthrough.k17_eq _ KL NL pay ext0 _ (M + 292)]
   simp only [n4, Bool.false_eq_true, Bool.true_eq_false, false_implies, forall_const, true_and, and_true]
   exact k16 (M + 192)
  rw [lrthrough.k23_eq _ KL NL pay _ 3994, lrthrough.k22_eq _ KL NL pay _ 3991, lrthrough.k21_eq _ KL NL pay _ 3988, lrthrough.k20_eq _ KL NL pay _ 3987, lrthrough.k19_eq _ KL NL pay _ 3984]
  simp only [hrB, bnot, Bool.not_true, Bool.false_eq_true, Bool.true_eq_false, false_implies, forall_const, true_and, and_true]
  exact ⟨⟨hk, hn, hp⟩, ⟨hk, hn, hp⟩, ⟨hk, hin⟩, fun ext0 hx => k18 ext0 hx 3684⟩
 ·have hrB : rightB KL NL pay = false := by unfold rightB; rw [decide_eq_false_iff_not]; exact hr
  refine ⟨0 + 1, ⟨?_⟩⟩
  refine (lrthrough_vc _ _ KL NL pay).mpr ?_
  have n1 : ine (wcE KL NL pay) 0 = true := by rw [ine_true, wE]; exact hr
  have hnil : wcR KL NL pay = [] := by rw [wR]; exact rcR_fail hr
  have e0 : ieq (ofNat (llen (wcR KL NL pay))) 0 = true := by rw [hnil]; rfl
  rw [lrthrough.k23_eq _ KL NL pay _ 3994, lrthrough.k22_eq _ KL NL pay _ 3991, lrthrough.k21_eq _ KL NL pay _ 3988, lrthrough.k20_eq _ KL NL pay _ 3987, lrthrough.k2_eq _ KL NL pay _ 3985, lrthrough.k0_eq _ KL NL pay _ 3885]
  simp only [hrB, n1, e0, bnot, Bool.not_false, Bool.false_eq_true, Bool.true_eq_false, false_implies, forall_const, true_and, and_true]
  exact ⟨⟨hk, hn, hp⟩, ⟨hk, hn, hp⟩, Or.inl trivial⟩
end Go.Proofs.YtienfecnkglilaaDoor.G
namespace Go.Sx
open Go Go.ChangeShapes Go.WideShapes Go.ChangeAt Go.RowKit
inductive KF where
 | ks (l : List Kd)
 | recs (l : List Kd) (bytes : Nat)
def KF.width : KF → Nat
 | .ks l => Sx.width l
 | .recs _ _ => 1
structure RecsIn (w : World) (l : List Kd) (bytes : Nat) (A : Option Addr) (len cap : Nat) (L : Loc) (cols : List Col) : Prop where
 rep : VRep w L cols
 val : Value.slice A len cap = .slice L.a L.len L.cap
 kds : kdsOf cols = l
 wf : ∀ col ∈ cols, col.wf
 size : L.len * bytes ≤ reachBytes
def KF.at (w : World) (k : KF) (cs : List Value) (o : Nat) : Prop :=
 match k with
 | .ks l => KdsAt w l cs o
 | .recs l b => ∃ A len cap L cols, cs[o]? = some (.slice A len cap) ∧ RecsIn w l b A len cap L cols
def KFsAt (w : World) : List KF → List Value → Nat → Prop
 | [], _, _ => True
 | k :: r, cs, o => k.at w cs o ∧ KFsAt w r cs (o + k.width)
def fieldF (P : Program) (t : TypeId) : Option KF :=
 match kindsO P 8 t with
 | some ks => some (.ks ks)
 | none => match P.underlying t with
  | some (.slice e) => match kindsO P 8 e with
   | some ks => if 0 < Sx.width ks ∧ P.cellsOf e = Sx.width ks then some (.recs ks (P.bytesOf e)) else none
   | none => none
  | _ => none
def fieldsF (P : Program) : List Field → Nat → Option (List KF)
 | [], _ => some []
 | fd :: r, o => match fieldF P fd.type, fieldsF P r (o + P.cellsOf fd.type) with
  | some k1, some k2 => if fd.offset = o ∧ P.cellsOf fd.type = k1.width then some (k1 :: k2) else none
  | _, _ => none
section
variable {H : Type} {enc : TypeId × Value → H} {P : Program} {w : World}
theorem recs_of_trod {t e : TypeId} {ks : List Kd} {fuel : Nat} {cs0 : List Value} {x : DataW H × List MemPlace} (ht : P.underlying t = some (.slice e)) (hk : kindsO P 8 e = some ks) (hp : 0 < width ks) (hc : P.cellsOf e = width ks)
  (hf : DataW.trod enc P w 0 (fun _ => true) true fuel t cs0 = some x) (hall : ∀ n ∈ x.1.weights P t, n ≤ reachBytes) :
  ∃ A len cap L cols, cs0 = [.slice A len cap] ∧ RecsIn w ks (P.bytesOf e) A len cap L cols := by
 rcases Go.Deep.open_slice ht hf with ⟨hcs, _⟩ | ⟨a, len', cap', m, n, D, Pl, hcs, _, hl, hm, hmm, hx, hi⟩
 ·have hz := nil_rep (w := w) hp
  refine ⟨none, 0, 0, loc0, ks.map Kd.nil, hcs, hz.1, rfl, nil_kds ks, fun col hcol => ?_, by simp [loc0]⟩
  obtain ⟨k, _, rfl⟩ := List.mem_map.1 hcol
  cases k <;> simp [Kd.nil, Col.wf]
 ·simp only [if_true] at hmm
  subst hmm
  have hx1 := hx
  have each : ∀ r, r < m → ∃ cs', (∀ t, t < width ks → w.cell? (a.add (r * width ks + t)) = cs'[t]?) ∧ KdsAt w ks cs' 0 := by
   intro r hr
   obtain ⟨cs', h1, h2⟩ := hi r hr
   obtain ⟨_, g1, g2⟩ := World.cells?_some h1
   have hwt : ∀ n ∈ (D r).weights P e, n ≤ reachBytes := fun n hn => hall n (by
    rw [hx1]
    simp only [DataW.weights, ht]
    refine List.mem_cons_of_mem _ (List.mem_append.2 ?_)
    by_cases hq : r < len'
    ·exact Or.inl (weightsAll_mem (i := r) (d := D r) (by rw [range_get, if_pos hq]) n hn)
    ·exact Or.inr (weightsAll_mem (i := r - len') (d := D r) (by rw [range_get, if_pos (by omega), show len' + (r - len') = r by omega]) n hn))
   obtain ⟨g3, g4⟩ := kinds_of_trod 8 hk h2 hwt
   refine ⟨cs', fun t ht => ?_, g4⟩
   rw [← g2 t (by rw [hc]; exact ht), hc, addr_add_add]
  obtain ⟨CS, hCS⟩ := choose_range each
  obtain ⟨cs, E, b1, b2, b3, b4⟩ := build_cols (len := len') (CS := CS) ks 0 fun r hr => (hCS r (by omega)).2
  have hcell : ∀ i, i < len' → ∀ t, t < width ks → ∀ L : Loc, (∀ c r, L.el c r = E c r) → w.cell? (a.add (i * width ks + t)) = some (rowVal L cs 0 i t) := fun i hi t ht L hL => by
   rw [(hCS i (by omega)).1 t ht]
   have := b3 L 0 (fun c r => by rw [Nat.zero_add]; exact hL c r) i hi t ht
   rwa [Nat.zero_add] at this
  have hsp : 0 < len' → a.spot = none := fun hp' => by
   have h0 := hcell 0 hp' 0 hp ⟨0, 0, none, 0, 0, E⟩ (fun _ _ => rfl)
   simp only [Nat.zero_mul, Nat.add_zero] at h0
   have : a.add 0 = a := by simp [Addr.add]
   rw [this] at h0
   exact spot_none h0
  refine ⟨some a, len', m, ⟨a.block, a.off, some a, len', m, E⟩, cs, hcs, ?_, rfl, b1, fun col hcol => (b2 col hcol).2, ?_⟩
  ·refine ⟨fun q => by subst q; simp [kdsOf] at b1; subst b1; simp [width] at hp, by simpa [cwidth, b1] using hp, fun col hcol => (b2 col hcol).1, hl, fun q => ?_, fun i hi t ht => ?_, fun c k ll hc i l hi => b4 c k ll hc i l hi⟩
   ·have := hsp (Nat.pos_of_ne_zero q)
    cases a
    simp only at this; subst this; rfl
   ·have hw' : cwidth cs = width ks := by simp [cwidth, b1]
    rw [hw'] at ht ⊢
    have := hsp (by simp only at hi; omega)
    have e : (Loc.at ⟨a.block, a.off, some a, len', m, E⟩ (i * width ks + t)) = a.add (i * width ks + t) := by
     cases a; simp only at this; subst this; simp [Loc.at, Addr.add]
    rw [e]
    exact hcell i hi t ht _ (fun _ _ => rfl)
  ·have := hall ((((List.range len').map D).length + ((List.range (m - len')).map fun j => D (len' + j)).length) * P.bytesOf e) (by rw [hx1]; simp [DataW.weights, ht])
   simp only [List.length_map, List.length_range] at this
   exact Nat.le_trans (Nat.mul_le_mul_right _ (by show len' ≤ _; omega)) this
theorem open_structF {t : TypeId} {fs : Array Field} {ks : List KF} {n0 : Nat} {v : Value} {d : DataW H} {ps : List MemPlace} {r : Reach} {b0 : Nat} (hu : P.underlying t = some (.struct fs)) (hk : fieldsF P fs.toList 0 = some ks) (hn0 : P.cellsOf t = n0) (hv : Value.okWide P w r b0 t v)
  (h : DataW.Trod enc P w 0 (fun _ => true) true t v d ps) {ts : List TypeId} {ds : List (DataW H)} (hsz : (DataW.weightsEach P ts ds).all (· ≤ reachBytes) = true) {j : Nat} (htj : ts[j]? = some t) (hdj : ds[j]? = some d) :
  ∃ cs : List Value, v = .agg cs.toArray ∧ cs.length = n0 ∧ KFsAt w ks cs 0 := by
 obtain ⟨csA, rfl, _⟩ := okWide_struct hu hv
 obtain ⟨fuel, htr⟩ := h
 have hz : ∀ n ∈ d.weights P t, n ≤ reachBytes := fun n hn => by
  have := List.all_eq_true.1 hsz n (DataW.weights_mem_each htj hdj n hn)
  simpa using this
 obtain ⟨xs, n, _, hd, hcl, hxl, hx⟩ := DataW.trod_struct hu htr
 refine ⟨csA.toList, by simp, by rw [← hn0]; exact hcl, ?_⟩
 have wt : ∀ (i : Nat) f y, fs[i]? = some f → xs[i]? = some y → ∀ n ∈ y.1.weights P f.type, n ≤ reachBytes := by
  intro i f y hf hy n hn
  refine hz n ?_
  have hd1 := congrArg Prod.fst hd
  simp only at hd1
  rw [hd1]
  simp only [DataW.weights, hu]
  exact DataW.weights_mem_each (j := i) (t := f.type) (d := y.1) (by simp [List.getElem?_map]; exact ⟨f, by simpa using hf, rfl⟩) (by simp [List.getElem?_map, hy]) n hn
 have all : ∀ (fl : List Field) (o i : Nat) (ks : List KF), fieldsF P fl o = some ks → (∀ j f, fl[j]? = some f → fs[i + j]? = some f) → KFsAt w ks csA.toList o := by
  intro fl
  induction fl with
  | nil => intro o i ks h _; simp only [fieldsF, Option.some.injEq] at h; subst h; trivial
  | cons fd r ih =>
   intro o i ks h hf
   simp only [fieldsF] at h
   split at h
   ·rename_i k1 k2 h1 h2
    split at h
    ·rename_i hq
     cases h
     obtain ⟨ho, hcw⟩ := hq
     have hfi : fs[i]? = some fd := by simpa using hf 0 fd rfl
     have hxi := hx i fd hfi
     have hlt : i < xs.length := by rw [hxl]; exact (Array.getElem?_eq_some_iff.1 hfi).1
     have h3 : xs[i]? = some xs[i] := List.getElem?_eq_getElem hlt
     rw [h3] at hxi
     have hw := wt i fd _ hfi h3
     rw [ho, hcw] at hxi
     refine ⟨?_, by
      have := ih (o + P.cellsOf fd.type) (i + 1) k2 h2 fun j f hj => by have := hf (j + 1) f (by simpa using hj); rwa [show i + 1 + j = i + (j + 1) by omega]
      rw [hcw] at this; exact this⟩
     unfold fieldF at h1
     split at h1
     ·rename_i ks' hks
      cases h1
      obtain ⟨_, g2⟩ := kinds_of_trod 8 hks hxi hw
      have := KdsAt.shift (p := 0) (by simp [KF.width]) g2
      rw [Nat.add_zero] at this
      exact this
     ·split at h1 <;> try (cases h1; done)
      rename_i e hue
      split at h1 <;> try (cases h1; done)
      rename_i ks' hks
      split at h1 <;> try (cases h1; done)
      rename_i hcond
      cases h1
      obtain ⟨A, len, cap, L, cols, e1, e2⟩ := recs_of_trod hue hks hcond.1 hcond.2 hxi hw
      refine ⟨A, len, cap, L, cols, ?_, e2⟩
      have e3 : ((csA.toList.drop o).take 1)[0]? = some (.slice A len cap) := congrArg (fun l => l[0]?) e1
      rw [List.getElem?_take, if_pos (by decide), List.getElem?_drop, Nat.add_zero] at e3
      exact e3
    ·cases h
   ·cases h
 exact all fs.toList 0 0 ks hk fun j f hj => by rw [Nat.zero_add]; simpa using hj
theorem KFsAt.recs {l : List Kd} {b : Nat} {r : List KF} {cs : List Value} {o : Nat} (h : KFsAt w (.recs l b :: r) cs o) : ∃ A len cap L cols, RecsIn w l b A len cap L cols ∧ cs.drop o = .slice A len cap :: cs.drop (o + 1) ∧ KFsAt w r cs (o + 1) := by
 obtain ⟨⟨A, len, cap, L, cols, h1, h2⟩, h4⟩ := h
 obtain ⟨hl, he⟩ := (List.getElem?_eq_some_iff.1 h1)
 exact ⟨A, len, cap, L, cols, h2, by rw [List.drop_eq_getElem_cons hl, he], h4⟩
theorem KFsAt.rows {q : IntKind} {r : List KF} {cs : List Value} {o : Nat} (h : KFsAt w (.ks [.rows q] :: r) cs o) : ∃ A L C Z, IsRow q w A L C Z ∧ Z.length ≤ reachBytes ∧ cs.drop o = .slice A L C :: cs.drop (o + 1) ∧ KFsAt w r cs (o + 1) := by
 obtain ⟨A, L, C, Z, h1, h2, h3, _⟩ := KdsAt.rows h.1
 exact ⟨A, L, C, Z, h1, h2, h3, h.2⟩
theorem KFsAt.ints {q : IntKind} {r : List KF} {cs : List Value} {o : Nat} (h : KFsAt w (.ks [.ints q] :: r) cs o) : ∃ n, (Lit.int q n).wf = true ∧ cs.drop o = .int q n :: cs.drop (o + 1) ∧ KFsAt w r cs (o + 1) := by
 obtain ⟨n, h1, h2, _⟩ := KdsAt.ints h.1
 exact ⟨n, h1, h2, h.2⟩
theorem KFsAt.bools {r : List KF} {cs : List Value} {o : Nat} (h : KFsAt w (.ks [.bools] :: r) cs o) : ∃ b, cs.drop o = .bool b :: cs.drop (o + 1) ∧ KFsAt w r cs (o + 1) := by
 obtain ⟨b, h1, _⟩ := KdsAt.bools h.1
 exact ⟨b, h1, h.2⟩
theorem KFsAt.arrs {q : IntKind} {m : Nat} {r : List KF} {cs : List Value} {o : Nat} (h : KFsAt w (.ks [.arrs q m] :: r) cs o) (hl : o + m ≤ cs.length) : ∃ l : List Int, l.length = m ∧ (∀ x ∈ l, (Lit.int q x).wf = true) ∧ cs.drop o = l.map (Value.int q) ++ cs.drop (o + m) ∧ KFsAt w r cs (o + m) := by
 obtain ⟨l, h1, h2, h3, _⟩ := KdsAt.arrs h.1 hl
 have e : (KF.ks [.arrs q m]).width = m := by simp [KF.width, Sx.width, Kd.width]
 have := h.2
 rw [e] at this
 exact ⟨l, h1, h2, h3, this⟩
theorem AggArgs.recs {j j' : Nat} {l : List Kd} {b : Nat} {A : Option Addr} {len cap : Nat} {L : Loc} {cols : List Col} {s : List Seg} {cs : List Value} {τ : Mem} (h : RecsIn w l b A len cap L cols) (t : AggArgs w (j + 1) s cs τ j') (hj : j < 1000 := by decide) :
  AggArgs w j (.cells [.vec (200000 + j)] :: s) (.slice A len cap :: cs) ((200000 + j, .rview cols) :: τ) j' := .row L cols hj h.rep h.val t (wf_noHss h.wf)
end
end Go.Sx
namespace Go.Proofs.YtienfecnkglilaaDoor.G
open Go Go.Sx Go.Fld Go.Hsh Go.Mac Go.Blk Go.Cel Go.Oni Go.Rou
set_option maxRecDepth 20000
theorem kys_in {w : World} {bytes : Nat} {A : Option Addr} {len cap : Nat} {L : Sx.Loc} {KL : List (List Int)} (h : RecsIn w [.rows .u8] bytes A len cap L [.rows .u8 KL]) (hb : bytes = 24) : Kys KL := by
 subst hb
 have hok : KL.length = L.len := h.rep.ok _ (List.mem_singleton.2 rfl)
 have hs : L.len * 24 ≤ 140737488351232 := h.size
 have hr := rows_bytes (h.wf _ (List.mem_singleton.2 rfl))
 exact ⟨by omega, fun i => ⟨(hr i).1, (hr i).2⟩⟩
theorem ncs_in {w : World} {bytes : Nat} {A : Option Addr} {len cap : Nat} {L : Sx.Loc} {NL : List (List Int)} (h : RecsIn w [.arrs .u8 16] bytes A len cap L [.arrs .u8 16 NL]) (hb : bytes = 16) : Ncs NL := by
 subst hb
 have hok := h.rep.ok _ (List.mem_singleton.2 rfl)
 have hs : L.len * 16 ≤ 140737488351232 := h.size
 have h3 : NL.length = L.len := hok.1
 exact ⟨by omega, fun i hi => bl_of (hok.2 _ (List.mem_of_getElem? (llget_some hi))) ⟨fun x hx => wf_u8 (h.wf _ (List.mem_singleton.2 rfl) _ (List.mem_of_getElem? (llget_some hi)) x hx)⟩⟩
end Go.Proofs.YtienfecnkglilaaDoor.G
