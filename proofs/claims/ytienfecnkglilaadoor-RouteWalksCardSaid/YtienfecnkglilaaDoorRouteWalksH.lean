import Derived.Test.YtienfecnkglilaaDoorRouteWalksG
set_option linter.unusedSimpArgs false
set_option linter.unusedVariables false
namespace Go.Proofs.YtienfecnkglilaaDoor.G
open Go Go.Sx Go.Oni Go.Rou
set_option maxRecDepth 100000
def lrwalks.k0 (R : AV → Mem → Prop) (KL : List (List Int)) (c : List Int) (ext0 ext1 : List (List Int)) (fuel m : Nat) : Prop := rM Tryd.prog gamR3 [⟨777777,[],true,false⟩] Tryd.f6 R fuel m [kc Tryd.f6 [1,0,1,0,1]] [Vv 200000,Vv 200001,Uu,Uu,Bb (ieq (weI KL c) (weI KL c)),Vv 14,Ii (weI KL c),Vv 20,Ii (weI KL c),Uu,Uu,AV.tup [TV.c (AC.vec 14),TV.c (AC.int IntKind.i64 (weI KL c))],Vv 200000,Vv 200001,AV.tup [TV.c (AC.vec 14),TV.c (AC.int IntKind.i64 (weI KL c))],Vv 14,Ii (weI KL c),AV.tup [TV.c (AC.vec 20),TV.c (AC.int IntKind.i64 (weI KL c))],Vv 200000,Vv 200001,AV.tup [TV.c (AC.vec 20),TV.c (AC.int IntKind.i64 (weI KL c))],Vv 20,Ii (weI KL c),Vv 20,Vv 14,Bb (llq2 (hcons (lcat (lcat [[]] ext0) ext1) (hfrom (llen (lcat [[]] ext0)) (wcL KL c))) (wrL KL c) (hcons (lcat (lcat [[]] ext0) ext1) (hfrom 1 (wcL KL c))) (wrL KL c)),Ll true,Ii (weI KL c),Ii (weI KL c),Bb (ieq (weI KL c) (weI KL c)),Bb (ieq (weI KL c) (weI KL c))] [(14,Blk.vec [Col.hss IntKind.u8 (hfrom 1 (wcL KL c)),Col.arrs IntKind.u8 16 (wrL KL c)]),(20,Blk.vec [Col.hss IntKind.u8 (hfrom (llen (lcat [[]] ext0)) (wcL KL c)),Col.arrs IntKind.u8 16 (wrL KL c)]),(200000,Blk.rview [Col.rows IntKind.u8 KL]),(200001,Blk.rview [Col.ints IntKind.u8 c]),(900004,Blk.heap IntKind.u8 (lcat (lcat [[]] ext0) ext1)),(1000000,Blk.view [Seg.ints IntKind.u32 64 Go.Hsh.rootsL])]
def lrwalks.k1 (R : AV → Mem → Prop) (KL : List (List Int)) (c : List Int) (ext0 ext1 : List (List Int)) (fuel m : Nat) : Prop := rM Tryd.prog gamR3 [⟨777777,[],true,false⟩] Tryd.f6 R fuel m [kc Tryd.f6 [1,0,1,0,1]] [Vv 200000,Vv 200001,Uu,Uu,Ll false,Vv 14,Ii (weI KL c),Vv 20,Ii (weI KL c),Uu,Uu,AV.tup [TV.c (AC.vec 14),TV.c (AC.int IntKind.i64 (weI KL c))],Vv 200000,Vv 200001,AV.tup [TV.c (AC.vec 14),TV.c (AC.int IntKind.i64 (weI KL c))],Vv 14,Ii (weI KL c),AV.tup [TV.c (AC.vec 20),TV.c (AC.int IntKind.i64 (weI KL c))],Vv 200000,Vv 200001,AV.tup [TV.c (AC.vec 20),TV.c (AC.int IntKind.i64 (weI KL c))],Vv 20,Ii (weI KL c),Vv 20,Vv 14,Bb (llq2 (hcons (lcat (lcat [[]] ext0) ext1) (hfrom (llen (lcat [[]] ext0)) (wcL KL c))) (wrL KL c) (hcons (lcat (lcat [[]] ext0) ext1) (hfrom 1 (wcL KL c))) (wrL KL c)),Ll false,Zz,Zz,Zz,Ll false] [(14,Blk.vec [Col.hss IntKind.u8 (hfrom 1 (wcL KL c)),Col.arrs IntKind.u8 16 (wrL KL c)]),(20,Blk.vec [Col.hss IntKind.u8 (hfrom (llen (lcat [[]] ext0)) (wcL KL c)),Col.arrs IntKind.u8 16 (wrL KL c)]),(200000,Blk.rview [Col.rows IntKind.u8 KL]),(200001,Blk.rview [Col.ints IntKind.u8 c]),(900004,Blk.heap IntKind.u8 (lcat (lcat [[]] ext0) ext1)),(1000000,Blk.view [Seg.ints IntKind.u32 64 Go.Hsh.rootsL])]
def lrwalks.k2 (R : AV → Mem → Prop) (KL : List (List Int)) (c : List Int) (ext0 ext1 : List (List Int)) (fuel m : Nat) : Prop := rM Tryd.prog gamR3 [⟨777777,[],true,false⟩] Tryd.f6 R fuel m [kc Tryd.f6 [1,1,1,1]] (Vv 200000::Vv 200001::Uu::Uu::Uu::Vv 14::Ii (weI KL c)::Vv 20::Ii (weI KL c)::Uu::Uu::AV.tup [TV.c (AC.vec 14),TV.c (AC.int IntKind.i64 (weI KL c))]::Vv 200000::Vv 200001::AV.tup [TV.c (AC.vec 14),TV.c (AC.int IntKind.i64 (weI KL c))]::Vv 14::Ii (weI KL c)::AV.tup [TV.c (AC.vec 20),TV.c (AC.int IntKind.i64 (weI KL c))]::Vv 200000::Vv 200001::AV.tup [TV.c (AC.vec 20),TV.c (AC.int IntKind.i64 (weI KL c))]::Vv 20::Ii (weI KL c)::(zs 8 [])) [(14,Blk.vec [Col.hss IntKind.u8 (hfrom 1 (wcL KL c)),Col.arrs IntKind.u8 16 (wrL KL c)]),(20,Blk.vec [Col.hss IntKind.u8 (hfrom (llen (lcat [[]] ext0)) (wcL KL c)),Col.arrs IntKind.u8 16 (wrL KL c)]),(200000,Blk.rview [Col.rows IntKind.u8 KL]),(200001,Blk.rview [Col.ints IntKind.u8 c]),(900004,Blk.heap IntKind.u8 (lcat (lcat [[]] ext0) ext1)),(1000000,Blk.view [Seg.ints IntKind.u32 64 Go.Hsh.rootsL])]
def lrwalks.k3 (R : AV → Mem → Prop) (KL : List (List Int)) (c : List Int) (ext0 : List (List Int)) (fuel m : Nat) : Prop := rM Tryd.prog gamR3 [⟨777777,[],true,false⟩] Tryd.f6 R fuel m [kc Tryd.f6 [1,1,1]] (Vv 200000::Vv 200001::Uu::Uu::Uu::Vv 14::Ii (weI KL c)::Zz::Zz::Uu::Uu::AV.tup [TV.c (AC.vec 14),TV.c (AC.int IntKind.i64 (weI KL c))]::Vv 200000::Vv 200001::AV.tup [TV.c (AC.vec 14),TV.c (AC.int IntKind.i64 (weI KL c))]::Vv 14::Ii (weI KL c)::(zs 14 [])) [(14,Blk.vec [Col.hss IntKind.u8 (hfrom 1 (wcL KL c)),Col.arrs IntKind.u8 16 (wrL KL c)]),(200000,Blk.rview [Col.rows IntKind.u8 KL]),(200001,Blk.rview [Col.ints IntKind.u8 c]),(900004,Blk.heap IntKind.u8 (lcat [[]] ext0)),(1000000,Blk.view [Seg.ints IntKind.u32 64 Go.Hsh.rootsL])]
def lrwalks.k4 (R : AV → Mem → Prop) (KL : List (List Int)) (c : List Int) (fuel m : Nat) : Prop := rM Tryd.prog gamR3 [⟨777777,[],true,false⟩] Tryd.f6 R fuel m [kc Tryd.f6 [1,0,1,1],kc Tryd.f6 [1,1]] (Vv 200000::Vv 200001::Uu::Uu::Uu::(zs 4 (Uu::Uu::(zs 20 [])))) [(200000,Blk.rview [Col.rows IntKind.u8 KL]),(200001,Blk.rview [Col.ints IntKind.u8 c]),(900004,Blk.heap IntKind.u8 [[]]),(1000000,Blk.view [Seg.ints IntKind.u32 64 Go.Hsh.rootsL])]
def lrwalks.k5 (R : AV → Mem → Prop) (KL : List (List Int)) (c : List Int) (fuel m : Nat) : Prop := rM Tryd.prog gamR3 [⟨777777,[],true,false⟩] Tryd.f6 R fuel m [kc Tryd.f6 [1]] (Vv 200000::Vv 200001::Zz::Zz::Ll false::(zs 26 [])) [(200000,Blk.rview [Col.rows IntKind.u8 KL]),(200001,Blk.rview [Col.ints IntKind.u8 c]),(900004,Blk.heap IntKind.u8 [[]]),(1000000,Blk.view [Seg.ints IntKind.u32 64 Go.Hsh.rootsL])]
theorem lrwalks.k0_eq (R : AV → Mem → Prop) (KL : List (List Int)) (c : List Int) (ext0 ext1 : List (List Int)) (fuel m : Nat) : lrwalks.k0 R KL c ext0 ext1 fuel (m + 100) = ((let y2 : Bool := (llq2 (hcons (lcat (lcat [[]] ext0) ext1) (hfrom (llen (lcat [[]] ext0)) (wcL KL c))) (wrL KL c) (hcons (lcat (lcat [[]] ext0) ext1) (hfrom 1 (wcL KL c))) (wrL KL c)); (R (Bb (ieq (weI KL c) (weI KL c))) [(14,Blk.vec [Col.hss IntKind.u8 (hfrom 1 (wcL KL c)),Col.arrs IntKind.u8 16 (wrL KL c)]),(20,Blk.vec [Col.hss IntKind.u8 (hfrom (llen (lcat [[]] ext0)) (wcL KL c)),Col.arrs IntKind.u8 16 (wrL KL c)]),(200000,Blk.rview [Col.rows IntKind.u8 KL]),(200001,Blk.rview [Col.ints IntKind.u8 c]),(900004,Blk.heap IntKind.u8 (lcat (lcat [[]] ext0) ext1)),(1000000,Blk.view [Seg.ints IntKind.u32 64 Go.Hsh.rootsL])]))) := by kernel_rfl
theorem lrwalks.k2_eq (R : AV → Mem → Prop) (KL : List (List Int)) (c : List Int) (ext0 ext1 : List (List Int)) (fuel m : Nat) : lrwalks.k2 R KL c ext0 ext1 fuel (m + 2) = ((((FewR (hcons (lcat (lcat [[]] ext0) ext1) (hfrom (llen (lcat [[]] ext0)) (wcL KL c))) (wrL KL c)) ∧ (FewR (hcons (lcat (lcat [[]] ext0) ext1) (hfrom 1 (wcL KL c))) (wrL KL c))) ∧ ((((llq2 (hcons (lcat (lcat [[]] ext0) ext1) (hfrom (llen (lcat [[]] ext0)) (wcL KL c))) (wrL KL c) (hcons (lcat (lcat [[]] ext0) ext1) (hfrom 1 (wcL KL c))) (wrL KL c)) = true) → (lrwalks.k0 R KL c ext0 ext1 fuel m)) ∧ (((llq2 (hcons (lcat (lcat [[]] ext0) ext1) (hfrom (llen (lcat [[]] ext0)) (wcL KL c))) (wrL KL c) (hcons (lcat (lcat [[]] ext0) ext1) (hfrom 1 (wcL KL c))) (wrL KL c)) = false) → (lrwalks.k1 R KL c ext0 ext1 fuel m))))) := by kernel_rfl
theorem lrwalks.k3_eq (R : AV → Mem → Prop) (KL : List (List Int)) (c : List Int) (ext0 : List (List Int)) (fuel m : Nat) : lrwalks.k3 R KL c ext0 fuel (m + 2) = ((((Go.Hsh.rootsL = Go.Hsh.rootsL) ∧ ((Kys KL) ∧ (In c))) ∧ (∀ ext1 : List (List Int),((WkX KL c ext1) → (lrwalks.k2 R KL c ext0 ext1 fuel m))))) := by kernel_rfl
theorem lrwalks.k4_eq (R : AV → Mem → Prop) (KL : List (List Int)) (c : List Int) (fuel m : Nat) : lrwalks.k4 R KL c fuel (m + 3) = ((((Kys KL) ∧ (In c)) ∧ (∀ ext0 : List (List Int),((WkX KL c ext0) → (lrwalks.k3 R KL c ext0 fuel m))))) := by kernel_rfl
theorem lrwalks.k5_eq (R : AV → Mem → Prop) (KL : List (List Int)) (c : List Int) (fuel m : Nat) : lrwalks.k5 R KL c fuel (m + 4) = (((Go.Hsh.rootsL = Go.Hsh.rootsL) ∧ (lrwalks.k4 R KL c fuel m))) := by kernel_rfl
theorem lrwalks_vc0 (R : AV → Mem → Prop) (fuel m : Nat) (KL : List (List Int)) (c : List Int) : runM Tryd.prog gamR3 [⟨777777, [], true, false⟩] (resh Tryd.prog [⟨777777, [], true, false⟩] Tryd.f6.results.toList R) (run Tryd.prog gamR3 [⟨777777, [], true, false⟩] (resh Tryd.prog [⟨777777, [], true, false⟩] Tryd.f6.results.toList R) fuel) (m + 2) [.code (bodyOf Tryd.f6)] (startFr Tryd.f6.ntmps [.one (.vec 200000), .one (.vec 200001)]) [(200000, .rview [.rows .u8 KL]), (200001, .rview [.ints .u8 c]), (900004, .heap .u8 [[]]), (1000000 + 0, .view [.ints .u32 64 Go.Hsh.rootsL])] = (lrwalks.k5 R KL c fuel m) := by kernel_rfl
theorem lrwalks_vc (R : AV → Mem → Prop) (fuel : Nat) (KL : List (List Int)) (c : List Int) : callsx Tryd.prog gamR3 [⟨777777, [], true, false⟩] Tryd.f6 (fuel + 1) [.one (.vec 200000), .one (.vec 200001)] [(200000, .rview [.rows .u8 KL]), (200001, .rview [.ints .u8 c]), (900004, .heap .u8 [[]]), (1000000 + 0, .view [.ints .u32 64 Go.Hsh.rootsL])] R = (lrwalks.k5 R KL c fuel 3998) := lrwalks_vc0 R fuel 3998 KL c
def lrthrough.k0 (R : AV → Mem → Prop) (KL NL : List (List Int)) (pay : List Int) (fuel m : Nat) : Prop := rM Tryd.prog gamR3 [⟨777777,[],true,false⟩] Tryd.f8 R fuel m [kc Tryd.f8 [1,0,1,0,1],kc Tryd.f8 [1,1,1,1]] (Uu::AV.one (AC.ptr 1 0 0)::Bb (ieq (ofNat (llen (wcR KL NL pay))) 0)::Vv 22::Ii (wcE KL NL pay)::(zs 7 (us 16 (Ii (wcE KL NL pay)::Bb (ine (wcE KL NL pay) 0)::Ll true::Vv 22::Ii (ofNat (llen (wcR KL NL pay)))::Bb (ieq (ofNat (llen (wcR KL NL pay))) 0)::Bb (ieq (ofNat (llen (wcR KL NL pay))) 0)::(zs 83 []))))) [(1,Blk.own 33 [Seg.cells [AC.vec 200000],Seg.cells [AC.vec 200001],Seg.cells [AC.vec 200002]]),(22,Blk.vec [Col.ints IntKind.u8 (wcR KL NL pay)]),(200000,Blk.rview [Col.rows IntKind.u8 KL]),(200001,Blk.rview [Col.arrs IntKind.u8 16 NL]),(200002,Blk.rview [Col.ints IntKind.u8 pay]),(900004,Blk.heap IntKind.u8 [[]]),(1000000,Blk.view [Seg.ints IntKind.u32 64 Go.Hsh.rootsL])]
def lrthrough.k1 (R : AV → Mem → Prop) (KL NL : List (List Int)) (pay : List Int) (fuel m : Nat) : Prop := rM Tryd.prog gamR3 [⟨777777,[],true,false⟩] Tryd.f8 R fuel m [kc Tryd.f8 [1,0,1,0,1],kc Tryd.f8 [1,1,1,1]] (Uu::AV.one (AC.ptr 1 0 0)::Ll false::Vv 22::Ii (wcE KL NL pay)::(zs 7 (us 16 (Ii (wcE KL NL pay)::Bb (ine (wcE KL NL pay) 0)::Ll false::Zz::Zz::Zz::Ll false::(zs 83 []))))) [(1,Blk.own 33 [Seg.cells [AC.vec 200000],Seg.cells [AC.vec 200001],Seg.cells [AC.vec 200002]]),(22,Blk.vec [Col.ints IntKind.u8 (wcR KL NL pay)]),(200000,Blk.rview [Col.rows IntKind.u8 KL]),(200001,Blk.rview [Col.arrs IntKind.u8 16 NL]),(200002,Blk.rview [Col.ints IntKind.u8 pay]),(900004,Blk.heap IntKind.u8 [[]]),(1000000,Blk.view [Seg.ints IntKind.u32 64 Go.Hsh.rootsL])]
def lrthrough.k2 (R : AV → Mem → Prop) (KL NL : List (List Int)) (pay : List Int) (fuel m : Nat) : Prop := rM Tryd.prog gamR3 [⟨777777,[],true,false⟩] Tryd.f8 R fuel m [kc Tryd.f8 [1,1,1,0,1,0],kc Tryd.f8 [1,1,1,1]] (Uu::AV.one (AC.ptr 1 0 0)::Uu::Vv 22::Ii (wcE KL NL pay)::(zs 7 (us 16 (zs 90 [])))) [(1,Blk.own 33 [Seg.cells [AC.vec 200000],Seg.cells [AC.vec 200001],Seg.cells [AC.vec 200002]]),(22,Blk.vec [Col.ints IntKind.u8 (wcR KL NL pay)]),(200000,Blk.rview [Col.rows IntKind.u8 KL]),(200001,Blk.rview [Col.arrs IntKind.u8 16 NL]),(200002,Blk.rview [Col.ints IntKind.u8 pay]),(900004,Blk.heap IntKind.u8 [[]]),(1000000,Blk.view [Seg.ints IntKind.u32 64 Go.Hsh.rootsL])]
def lrthrough.k3 (R : AV → Mem → Prop) (KL NL : List (List Int)) (pay : List Int) (ext0 : List (List Int)) (fuel m : Nat) : Prop := rM Tryd.prog gamR3 [⟨777777,[],true,false⟩] Tryd.f8 R fuel m [kc Tryd.f8 [1,0,1,0,1],kc Tryd.f8 [1,1,1,1,1,1]] (Uu::AV.one (AC.ptr 1 0 0)::Ll false::Uu::Uu::Vv 39::Uu::(zs 5 (us 49 (zs 57 [])))) [(1,Blk.own 33 [Seg.cells [AC.vec 200000],Seg.cells [AC.vec 200001],Seg.cells [AC.vec 200002]]),(39,Blk.vec [Col.hss IntKind.u8 (hfrom 1 (wcL KL (wcR KL NL pay))),Col.arrs IntKind.u8 16 (wrL KL (wcR KL NL pay))]),(200000,Blk.rview [Col.rows IntKind.u8 KL]),(200001,Blk.rview [Col.arrs IntKind.u8 16 NL]),(200002,Blk.rview [Col.ints IntKind.u8 pay]),(900004,Blk.heap IntKind.u8 (lcat [[]] ext0)),(1000000,Blk.view [Seg.ints IntKind.u32 64 Go.Hsh.rootsL])]
def lrthrough.k4 (R : AV → Mem → Prop) (x1 : Int) (KL NL : List (List Int)) (pay : List Int) (ext0 : List (List Int)) (fuel m : Nat) : Prop := rM Tryd.prog gamR3 [⟨777777,[],true,false⟩] Tryd.f8 R fuel m [kc Tryd.f8 [1,0,1,0,1],.inBlock 1,kc Tryd.f8 [1,1,1,1,1,1,0,1,0,0,1,1],ki Tryd.f8 [1,1,1,1,1,1,0,1,0,0],.inBlock 0,kc Tryd.f8 [1,1,1,1,1,1,1]] (Uu::AV.one (AC.ptr 1 0 0)::Ll false::Uu::Uu::Vv 39::Uu::Ii x1::(zs 4 (us 49 (Ii x1::Vv 39::Ii (ofNat (llen (hfrom 1 (wcL KL (wcR KL NL pay)))))::Ll true::Uu::Uu::Vv 39::Ii x1::AV.one (AC.vptr 39 17 (nat x1) 0 0)::AV.one (AC.vptr 39 17 (nat x1) 0 0)::AV.one (AC.hs IntKind.u8 (hj (hget (hfrom 1 (wcL KL (wcR KL NL pay))) (nat x1))) (ho (hget (hfrom 1 (wcL KL (wcR KL NL pay))) (nat x1))) (hl (hget (hfrom 1 (wcL KL (wcR KL NL pay))) (nat x1))))::Ii (ofNat (hl (hget (hfrom 1 (wcL KL (wcR KL NL pay))) (nat x1))))::Ll true::(zs 44 []))))) [(1,Blk.own 33 [Seg.cells [AC.vec 200000],Seg.cells [AC.vec 200001],Seg.cells [AC.vec 200002]]),(39,Blk.vec [Col.hss IntKind.u8 (hfrom 1 (wcL KL (wcR KL NL pay))),Col.arrs IntKind.u8 16 (wrL KL (wcR KL NL pay))]),(200000,Blk.rview [Col.rows IntKind.u8 KL]),(200001,Blk.rview [Col.arrs IntKind.u8 16 NL]),(200002,Blk.rview [Col.ints IntKind.u8 pay]),(900004,Blk.heap IntKind.u8 (lcat [[]] ext0)),(1000000,Blk.view [Seg.ints IntKind.u32 64 Go.Hsh.rootsL])]
def lrthrough.l0 (R : AV → Mem → Prop) (KL NL : List (List Int)) (pay : List Int) (ext0 : List (List Int)) (fuel : Nat) (x1 : Int) : Prop := rN Tryd.prog gamR3 [⟨777777,[],true,false⟩] Tryd.f8 R fuel [kc Tryd.f8 [1,1,1,1,1,1,0,1,0,0],ki Tryd.f8 [1,1,1,1,1,1,0,1,0,0],.inBlock 0,kc Tryd.f8 [1,1,1,1,1,1,1]] (Uu::AV.one (AC.ptr 1 0 0)::Uu::Uu::Uu::Vv 39::Uu::Ii x1::(zs 4 (us 62 (zs 44 [])))) [(1,Blk.own 33 [Seg.cells [AC.vec 200000],Seg.cells [AC.vec 200001],Seg.cells [AC.vec 200002]]),(39,Blk.vec [Col.hss IntKind.u8 (hfrom 1 (wcL KL (wcR KL NL pay))),Col.arrs IntKind.u8 16 (wrL KL (wcR KL NL pay))]),(200000,Blk.rview [Col.rows IntKind.u8 KL]),(200001,Blk.rview [Col.arrs IntKind.u8 16 NL]),(200002,Blk.rview [Col.ints IntKind.u8 pay]),(900004,Blk.heap IntKind.u8 (lcat [[]] ext0)),(1000000,Blk.view [Seg.ints IntKind.u32 64 Go.Hsh.rootsL])]
end Go.Proofs.YtienfecnkglilaaDoor.G
namespace Go.Rou
open Go Go.Sx Go.Hsh Go.Mac Go.Blk Go.Cel Go.Oni Go.Fld Go.Proofs.YtienfecnkglilaaDoor.G
theorem wkL_get (key : Nat → List Int) (h : Nat) (c : List Int) : ∀ {n i : Nat}, i < n → llget (wkL key h c n) i = wkC key h c (i + 1)
 | n + 1, i, hi => by
  simp only [wkL, llget, List.getD]
  by_cases e : i < n
  ·rw [List.getElem?_append_left (by rw [wkL_len]; exact e)]
   have := wkL_get key h c (n := n) e
   simp only [llget, List.getD] at this; exact this
  ·obtain rfl : i = n := by omega
   rw [List.getElem?_append_right (by rw [wkL_len]; omega), wkL_len, Nat.sub_self]; rfl
theorem wkT_get (key : Nat → List Int) (h : Nat) (c : List Int) : ∀ {n i : Nat}, i < n → llget (wkT key h c n) i = wkR key h c i
 | n + 1, i, hi => by
  simp only [wkT, llget, List.getD]
  by_cases e : i < n
  ·rw [List.getElem?_append_left (by rw [wkT_len]; exact e)]
   have := wkT_get key h c (n := n) e
   simp only [llget, List.getD] at this; exact this
  ·obtain rfl : i = n := by omega
   rw [List.getElem?_append_right (by rw [wkT_len]; omega), wkT_len, Nat.sub_self]; rfl
theorem wc_few {KL : List (List Int)} {c : List Int} (hc : In c) : FewR (wcL KL c) (wrL KL c) := by
 unfold wcL wrL
 by_cases h : weI KL c = 0
 ·rw [if_pos h, if_pos h]
  obtain ⟨h1, h8, _⟩ := weI_ok h
  refine ⟨by rw [wkL_len]; exact h8, fun i hi => ?_, by rw [wkL_len, wkT_len], fun i hi => ?_⟩
  ·rw [wkL_len] at hi
   rw [wkL_get _ _ _ hi]; exact (wkC_in hc _).bs
  ·rw [wkT_len] at hi
   rw [wkT_get _ _ _ hi]; exact Go.Proofs.YtienfecnkglilaaDoor.G.pR_len _ _ _
 ·rw [if_neg h, if_neg h]
  exact ⟨by decide, fun i hi => by simp at hi, rfl, fun i hi => by simp at hi⟩
end Go.Rou
namespace Go.Proofs.YtienfecnkglilaaDoor.G
open Go Go.Sx Go.Fld Go.Hsh Go.Mac Go.Blk Go.Cel Go.Oni Go.Rou
set_option maxRecDepth 20000
set_option maxHeartbeats 4000000
theorem llq2_self (a r : List (List Int)) : llq2 a r a r = true := by unfold llq2; rw [decide_eq_true_eq]; exact ⟨rfl, rfl⟩
theorem hcons_at {H os L M : List (List Int)} (h : H = os ++ (L ++ M)) : hcons H (hfrom os.length L) = L := by
 subst h
 have e := hcons_from (os) (L ++ M)
 have f : ∀ (n : Nat) (A B : List (List Int)), hfrom n (A ++ B) = hfrom n A ++ hfrom (n + A.length) B := by
  intro n A B
  induction A generalizing n with
  | nil => rfl
  | cons c r ih =>
   simp only [List.cons_append, hfrom, ih, List.length_cons]
   rw [show n + 1 + r.length = n + (r.length + 1) by omega]
 rw [f] at e
 simp only [hcons, List.map_append] at e ⊢
 have hl : (List.map (hcon (os ++ (L ++ M))) (hfrom os.length L)).length = L.length := by rw [List.length_map, hfrom_len]
 have := congrArg (List.take L.length) e
 rw [List.take_left' hl, List.take_left' rfl] at this
 exact this
theorem hcons_walk {KL : List (List Int)} {c : List Int} {ext os M : List (List Int)} (h : WkX KL c ext) : hcons ((os ++ ext) ++ M) (hfrom os.length (wcL KL c)) = wcL KL c := by
 by_cases e : weI KL c = 0
 ·rw [h.ok e]; exact hcons_at (M := M) (by simp)
 ·have : wcL KL c = [] := by unfold wcL; rw [if_neg e]
  rw [this]; rfl
theorem routeWalks_plain {KL : List (List Int)} {c : List Int} (hk : Kys KL) (hc : In c) :
  ∃ n, Has (callsx Tryd.prog gamR3 [⟨777777, [], true, false⟩] Tryd.f6 n [.one (.vec 200000), .one (.vec 200001)] [(200000, .rview [.rows .u8 KL]), (200001, .rview [.ints .u8 c]), (900004, .heap .u8 [[]]), (gname 0, .view [.ints .u32 64 rootsL])] fun av _ => av = .one (.bool true) ∨ av = .one (.lit true)) := by
 refine ⟨1, ⟨?_⟩⟩
 have few := wc_few (KL := KL) hc
 refine (lrwalks_vc _ 0 KL c).mpr ?_
 rw [lrwalks.k5_eq _ KL c 0 3994, lrwalks.k4_eq _ KL c 0 3991]
 refine ⟨rfl, ⟨hk, hc⟩, fun ext0 h0 => ?_⟩
 rw [lrwalks.k3_eq _ KL c ext0 0 3989]
 refine ⟨⟨rfl, hk, hc⟩, fun ext1 h1 => ?_⟩
 have e0 : hcons (lcat (lcat [[]] ext0) ext1) (hfrom 1 (wcL KL c)) = wcL KL c := hcons_walk (os := [[]]) h0
 have e1 : hcons (lcat (lcat [[]] ext0) ext1) (hfrom (llen (lcat [[]] ext0)) (wcL KL c)) = wcL KL c := by
  have := hcons_walk (os := lcat [[]] ext0) (M := []) h1
  rw [List.append_nil] at this; exact this
 rw [lrwalks.k2_eq _ KL c ext0 ext1 0 3987]
 simp only [e0, e1, llq2_self, Bool.true_eq_false, false_implies, forall_const, and_true]
 refine ⟨⟨few, few⟩, ?_⟩
 rw [lrwalks.k0_eq _ KL c ext0 ext1 0 3887]
 have g1 : ieq (weI KL c) (weI KL c) = true := by rw [ieq_true]
 simp only [g1]
 exact Or.inl trivial
end Go.Proofs.YtienfecnkglilaaDoor.G
namespace Go.Sx
open Go Go.ChangeShapes Go.WideShapes Go.ChangeAt Go.RowKit
inductive KF where
 | ks (l : List Kd)
 | recs (l : List Kd) (bytes : Nat)
def KF.width : KF → Nat
 | .ks l => Sx.width l
 | .recs _ _ => 1
structure RecsIn (w : World) (l : List Kd) (bytes : Nat) (A : Option Addr) (len cap : Nat) (L : Loc) (cols : List Col) : Prop where
 rep : VRep w L cols
 val : Value.slice A len cap = .slice L.a L.len L.cap
 kds : kdsOf cols = l
 wf : ∀ col ∈ cols, col.wf
 size : L.len * bytes ≤ reachBytes
def KF.at (w : World) (k : KF) (cs : List Value) (o : Nat) : Prop :=
 match k with
 | .ks l => KdsAt w l cs o
 | .recs l b => ∃ A len cap L cols, cs[o]? = some (.slice A len cap) ∧ RecsIn w l b A len cap L cols
def KFsAt (w : World) : List KF → List Value → Nat → Prop
 | [], _, _ => True
 | k :: r, cs, o => k.at w cs o ∧ KFsAt w r cs (o + k.width)
section
variable {H : Type} {enc : TypeId × Value → H} {P : Program} {w : World}
theorem KFsAt.recs {l : List Kd} {b : Nat} {r : List KF} {cs : List Value} {o : Nat} (h : KFsAt w (.recs l b :: r) cs o) : ∃ A len cap L cols, RecsIn w l b A len cap L cols ∧ cs.drop o = .slice A len cap :: cs.drop (o + 1) ∧ KFsAt w r cs (o + 1) := by
 obtain ⟨⟨A, len, cap, L, cols, h1, h2⟩, h4⟩ := h
 obtain ⟨hl, he⟩ := (List.getElem?_eq_some_iff.1 h1)
 exact ⟨A, len, cap, L, cols, h2, by rw [List.drop_eq_getElem_cons hl, he], h4⟩
theorem KFsAt.rows {q : IntKind} {r : List KF} {cs : List Value} {o : Nat} (h : KFsAt w (.ks [.rows q] :: r) cs o) : ∃ A L C Z, IsRow q w A L C Z ∧ Z.length ≤ reachBytes ∧ cs.drop o = .slice A L C :: cs.drop (o + 1) ∧ KFsAt w r cs (o + 1) := by
 obtain ⟨A, L, C, Z, h1, h2, h3, _⟩ := KdsAt.rows h.1
 exact ⟨A, L, C, Z, h1, h2, h3, h.2⟩
theorem KFsAt.ints {q : IntKind} {r : List KF} {cs : List Value} {o : Nat} (h : KFsAt w (.ks [.ints q] :: r) cs o) : ∃ n, (Lit.int q n).wf = true ∧ cs.drop o = .int q n :: cs.drop (o + 1) ∧ KFsAt w r cs (o + 1) := by
 obtain ⟨n, h1, h2, _⟩ := KdsAt.ints h.1
 exact ⟨n, h1, h2, h.2⟩
theorem KFsAt.bools {r : List KF} {cs : List Value} {o : Nat} (h : KFsAt w (.ks [.bools] :: r) cs o) : ∃ b, cs.drop o = .bool b :: cs.drop (o + 1) ∧ KFsAt w r cs (o + 1) := by
 obtain ⟨b, h1, _⟩ := KdsAt.bools h.1
 exact ⟨b, h1, h.2⟩
theorem KFsAt.arrs {q : IntKind} {m : Nat} {r : List KF} {cs : List Value} {o : Nat} (h : KFsAt w (.ks [.arrs q m] :: r) cs o) (hl : o + m ≤ cs.length) : ∃ l : List Int, l.length = m ∧ (∀ x ∈ l, (Lit.int q x).wf = true) ∧ cs.drop o = l.map (Value.int q) ++ cs.drop (o + m) ∧ KFsAt w r cs (o + m) := by
 obtain ⟨l, h1, h2, h3, _⟩ := KdsAt.arrs h.1 hl
 have e : (KF.ks [.arrs q m]).width = m := by simp [KF.width, Sx.width, Kd.width]
 have := h.2
 rw [e] at this
 exact ⟨l, h1, h2, h3, this⟩
theorem AggArgs.recs {j j' : Nat} {l : List Kd} {b : Nat} {A : Option Addr} {len cap : Nat} {L : Loc} {cols : List Col} {s : List Seg} {cs : List Value} {τ : Mem} (h : RecsIn w l b A len cap L cols) (t : AggArgs w (j + 1) s cs τ j') (hj : j < 1000 := by decide) :
  AggArgs w j (.cells [.vec (200000 + j)] :: s) (.slice A len cap :: cs) ((200000 + j, .rview cols) :: τ) j' := .row L cols hj h.rep h.val t (wf_noHss h.wf)
end
end Go.Sx
