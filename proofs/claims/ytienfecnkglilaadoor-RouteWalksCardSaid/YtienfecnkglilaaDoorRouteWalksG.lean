import Derived.Test.YtienfecnkglilaaDoorRouteWalksF
set_option linter.unusedSimpArgs false
set_option linter.unusedVariables false
namespace Go.Proofs.YtienfecnkglilaaDoor.G
open Go Go.Sx Go.Oni Go.Rou
set_option maxRecDepth 100000
def rkey.l0 (R : AV → Mem → Prop) (e : Int) (m : List Int) (fuel : Nat) (x0 : Int) (x1 : List Int) : Prop := rN Tryd.prog gamR0 [] Tryd.f11 R fuel [kc Tryd.f11 [1,1,1,0,1,0,0],ki Tryd.f11 [1,1,1,0,1,0,0],.inBlock 0,kc Tryd.f11 [1,1,1,1]] (Vv 200000::Ii e::(us 4 (Vv 19::(us 14 (Ii 8::Ii x0::(us 12 (zs 7 []))))))) [(19,Blk.vec [Col.ints IntKind.u8 x1]),(200000,Blk.rview [Col.ints IntKind.u8 m]),(1000000,Blk.view [Seg.ints IntKind.u32 64 Go.Hsh.rootsL])]
theorem rkey.l0_succ (R : AV → Mem → Prop) (e : Int) (m : List Int) (fuel : Nat) (x0 : Int) (x1 : List Int) : rkey.l0 R e m (fuel + 1) x0 x1 = (((((ilt x0 8) = true) → ((NonNeg (sub IntKind.i64 56 (mul IntKind.i64 8 x0))) ∧ ((InB x0 (llen x1)) ∧ (rkey.l0 R e m fuel (add IntKind.i64 x0 1) (lset x1 (nat x0) (conv IntKind.u8 (shr IntKind.i64 e (sub IntKind.i64 56 (mul IntKind.i64 8 x0))))))))) ∧ (((ilt x0 8) = false) → ((InB 0 9) ∧ (((Go.Hsh.rootsL = Go.Hsh.rootsL) ∧ ((Go.Mac.Sg m) ∧ ((Go.Mac.Sg x1) ∧ (Go.Mac.Sm47 [99,104,117,114,110,32,104,111,112])))) ∧ (R (AV.tup [TV.c (AC.vec 39),TV.c (AC.int IntKind.i64 (Go.Mac.exE 32))]) [(19,Blk.vec [Col.ints IntKind.u8 x1]),(37,Blk.rview [Col.ints IntKind.u8 [99,104,117,114,110,32,104,111,112]]),(39,Blk.vec [Col.ints IntKind.u8 (Go.Mac.exL (Go.Mac.tagL x1 m) [99,104,117,114,110,32,104,111,112] 32)]),(200000,Blk.rview [Col.ints IntKind.u8 m]),(1000000,Blk.view [Seg.ints IntKind.u32 64 Go.Hsh.rootsL])])))))) := by kernel_rfl
theorem rkey_vc (R : AV → Mem → Prop) (fuel : Nat) (m : List Int) (e : Int) : callsx Tryd.prog gamR0 [] Tryd.f11 (fuel + 1) [.one (.vec 200000), .one (.int .i64 e)] [(200000, .rview [.ints .u8 m]), (1000000 + 0, .view [.ints .u32 64 Go.Hsh.rootsL])] R = (((((ine (ofNat (llen m)) 32) = false) → ((((ilt e 0) = false) → ((((igt e 4611686018427387904) = true) → (R (AV.tup [(TV.c (AC.con (Value.slice (Option.none) 0 0))), (TV.c (AC.int IntKind.i64 2))]) [(200000, Blk.rview [(Col.ints IntKind.u8 m)]), (1000000, Blk.view [(Seg.ints IntKind.u32 64 Go.Hsh.rootsL)])])) ∧ (((igt e 4611686018427387904) = false) → ((Mk 8 8 1) ∧ (rkey.l0 R e m fuel 0 (lzeros 8)))))) ∧ (((ilt e 0) = true) → (R (AV.tup [(TV.c (AC.con (Value.slice (Option.none) 0 0))), (TV.c (AC.int IntKind.i64 2))]) [(200000, Blk.rview [(Col.ints IntKind.u8 m)]), (1000000, Blk.view [(Seg.ints IntKind.u32 64 Go.Hsh.rootsL)])])))) ∧ (((ine (ofNat (llen m)) 32) = true) → (R (AV.tup [(TV.c (AC.con (Value.slice (Option.none) 0 0))), (TV.c (AC.int IntKind.i64 2))]) [(200000, Blk.rview [(Col.ints IntKind.u8 m)]), (1000000, Blk.view [(Seg.ints IntKind.u32 64 Go.Hsh.rootsL)])])))) := by kernel_rfl
def rrkey.l0 (R : AV → Mem → Prop) (e : Int) (m : List Int) (fuel : Nat) (x0 : Int) (x1 : List Int) : Prop := rN Tryd.prog gamR0 [⟨6,[.ints .u8],true,false⟩] Tryd.f10 R fuel [kc Tryd.f10 [1,1,1,0,1,0,0],ki Tryd.f10 [1,1,1,0,1,0,0],.inBlock 0,kc Tryd.f10 [1,1,1,1]] (Vv 200000::Ii e::(us 4 (Vv 100006::Ii x0::(us 23 (zs 7 []))))) [(100006,Blk.vec [Col.ints IntKind.u8 x1]),(200000,Blk.rview [Col.ints IntKind.u8 m])]
theorem rrkey.l0_succ (R : AV → Mem → Prop) (e : Int) (m : List Int) (fuel : Nat) (x0 : Int) (x1 : List Int) : rrkey.l0 R e m (fuel + 1) x0 x1 = (((((ige x0 0) = true) → ((NonNeg (conv IntKind.u64 x0)) ∧ ((Room (nadd (llen x1) (llen [(conv IntKind.u8 (shr IntKind.i64 e (conv IntKind.u64 x0)))])) 1) ∧ (rrkey.l0 R e m fuel (sub IntKind.i64 x0 8) (lcat x1 [(conv IntKind.u8 (shr IntKind.i64 e (conv IntKind.u64 x0)))]))))) ∧ (((ige x0 0) = false) → ((InB 0 9) ∧ ((((Go.Mac.Sg m) ∧ (Bs m)) ∧ (((Go.Mac.Sg x1) ∧ (Bs x1)) ∧ ((Go.Mac.Sm47 [99,104,117,114,110,32,104,111,112]) ∧ (Bs [99,104,117,114,110,32,104,111,112])))) ∧ (R (AV.tup [TV.c (AC.vec 35),TV.c (AC.int IntKind.i64 (Go.Mac.exE 32))]) [(33,Blk.rview [Col.ints IntKind.u8 [99,104,117,114,110,32,104,111,112]]),(35,Blk.vec [Col.ints IntKind.u8 (Go.Mac.exL (Go.Mac.tagL x1 m) [99,104,117,114,110,32,104,111,112] 32)]),(100006,Blk.vec [Col.ints IntKind.u8 x1]),(200000,Blk.rview [Col.ints IntKind.u8 m])])))))) := by kernel_rfl
theorem rrkey_vc (R : AV → Mem → Prop) (fuel : Nat) (m : List Int) (e : Int) : callsx Tryd.prog gamR0 [⟨6, [.ints .u8], true, false⟩] Tryd.f10 (fuel + 1) [.one (.vec 200000), .one (.int .i64 e)] [(200000, .rview [.ints .u8 m])] R = (((((ine (ofNat (llen m)) 32) = false) → ((((ilt e 0) = false) → ((((igt e 4611686018427387904) = true) → (R (AV.tup [(TV.c (AC.con (Value.slice (Option.none) 0 0))), (TV.c (AC.int IntKind.i64 2))]) [(200000, Blk.rview [(Col.ints IntKind.u8 m)])])) ∧ (((igt e 4611686018427387904) = false) → (rrkey.l0 R e m fuel 56 [])))) ∧ (((ilt e 0) = true) → (R (AV.tup [(TV.c (AC.con (Value.slice (Option.none) 0 0))), (TV.c (AC.int IntKind.i64 2))]) [(200000, Blk.rview [(Col.ints IntKind.u8 m)])])))) ∧ (((ine (ofNat (llen m)) 32) = true) → (R (AV.tup [(TV.c (AC.con (Value.slice (Option.none) 0 0))), (TV.c (AC.int IntKind.i64 2))]) [(200000, Blk.rview [(Col.ints IntKind.u8 m)])])))) := by kernel_rfl
def rwrap.l1 (R : AV → Mem → Prop) (KL NL : List (List Int)) (pay : List Int) (fuel : Nat) (x1 : Int) (x2 : List Int) : Prop := rN Tryd.prog gamR0 [⟨10,[.ints .u8],false,false⟩] Tryd.f13 R fuel [kc Tryd.f13 [1,1,1,1,1,0,1,0,0],ki Tryd.f13 [1,1,1,1,1,0,1,0,0],.inBlock 2,kc Tryd.f13 [1,1,1,1,1,1]] (Vv 200000::Vv 200001::(us 8 (Vv 100010::Ii x1::(us 59 (zs 4 []))))) [(100010,Blk.rview [Col.ints IntKind.u8 x2]),(200000,Blk.rview [Col.rows IntKind.u8 KL]),(200001,Blk.rview [Col.arrs IntKind.u8 16 NL]),(200002,Blk.rview [Col.ints IntKind.u8 pay]),(1000000,Blk.view [Seg.ints IntKind.u32 64 Go.Hsh.rootsL])]
def rwrap.l0 (R : AV → Mem → Prop) (KL NL : List (List Int)) (pay : List Int) (fuel : Nat) (x0 : Int) : Prop := rN Tryd.prog gamR0 [⟨10,[.ints .u8],false,false⟩] Tryd.f13 R fuel [kc Tryd.f13 [1,1,0,1,0,0],ki Tryd.f13 [1,1,0,1,0,0],.inBlock 0,kc Tryd.f13 [1,1,1]] (Vv 200000::Vv 200001::Vv 200002::(us 7 (zs 4 (us 15 (Vv 200000::Ii (ofNat (llen KL))::Ii x0::(us 7 (zs 36 []))))))) [(200000,Blk.rview [Col.rows IntKind.u8 KL]),(200001,Blk.rview [Col.arrs IntKind.u8 16 NL]),(200002,Blk.rview [Col.ints IntKind.u8 pay]),(1000000,Blk.view [Seg.ints IntKind.u32 64 Go.Hsh.rootsL])]
theorem rwrap.l1_succ (R : AV → Mem → Prop) (KL NL : List (List Int)) (pay : List Int) (fuel : Nat) (x1 : Int) (x2 : List Int) : rwrap.l1 R KL NL pay (fuel + 1) x1 x2 = (((((ige x1 0) = true) → ((InB x1 (llen KL)) ∧ ((InB x1 (llen NL)) ∧ (((Go.Hsh.rootsL = Go.Hsh.rootsL) ∧ ((Ky (llget KL (nat x1))) ∧ ((Nn (llget NL (nat x1))) ∧ ((Lf (sub IntKind.i64 (ofNat (llen KL)) x1)) ∧ (In x2))))) ∧ ((((ine (wE (llget KL (nat x1)) (sub IntKind.i64 (ofNat (llen KL)) x1) x2) 0) = true) → (R (AV.tup [TV.c (AC.con (Value.slice (Option.none) 0 0)),TV.c (AC.int IntKind.i64 (wE (llget KL (nat x1)) (sub IntKind.i64 (ofNat (llen KL)) x1) x2))]) [(64,Blk.vec [Col.ints IntKind.u8 (wL (llget KL (nat x1)) (llget NL (nat x1)) (sub IntKind.i64 (ofNat (llen KL)) x1) x2)]),(100010,Blk.rview [Col.ints IntKind.u8 x2]),(200000,Blk.rview [Col.rows IntKind.u8 KL]),(200001,Blk.rview [Col.arrs IntKind.u8 16 NL]),(200002,Blk.rview [Col.ints IntKind.u8 pay]),(1000000,Blk.view [Seg.ints IntKind.u32 64 Go.Hsh.rootsL])])) ∧ (((ine (wE (llget KL (nat x1)) (sub IntKind.i64 (ofNat (llen KL)) x1) x2) 0) = false) → (rwrap.l1 R KL NL pay fuel (sub IntKind.i64 x1 1) (wL (llget KL (nat x1)) (llget NL (nat x1)) (sub IntKind.i64 (ofNat (llen KL)) x1) x2)))))))) ∧ (((ige x1 0) = false) → ((Short x2) ∧ (R (AV.tup [TV.c (AC.vec 72),TV.c (AC.int IntKind.i64 (Go.Cel.padE x2))]) [(72,Blk.vec [Col.ints IntKind.u8 (Go.Cel.padR x2)]),(100010,Blk.rview [Col.ints IntKind.u8 x2]),(200000,Blk.rview [Col.rows IntKind.u8 KL]),(200001,Blk.rview [Col.arrs IntKind.u8 16 NL]),(200002,Blk.rview [Col.ints IntKind.u8 pay]),(1000000,Blk.view [Seg.ints IntKind.u32 64 Go.Hsh.rootsL])]))))) := by kernel_rfl
theorem rwrap.l0_succ (R : AV → Mem → Prop) (KL NL : List (List Int)) (pay : List Int) (fuel : Nat) (x0 : Int) : rwrap.l0 R KL NL pay (fuel + 1) x0 = (((((ilt x0 (ofNat (llen KL))) = true) → ((InB x0 (llen KL)) ∧ ((((ine (ofNat (llen (llget KL (nat x0)))) 32) = true) → (R (AV.tup [TV.c (AC.con (Value.slice (Option.none) 0 0)),TV.c (AC.int IntKind.i64 2)]) [(200000,Blk.rview [Col.rows IntKind.u8 KL]),(200001,Blk.rview [Col.arrs IntKind.u8 16 NL]),(200002,Blk.rview [Col.ints IntKind.u8 pay]),(1000000,Blk.view [Seg.ints IntKind.u32 64 Go.Hsh.rootsL])])) ∧ (((ine (ofNat (llen (llget KL (nat x0)))) 32) = false) → (rwrap.l0 R KL NL pay fuel (add IntKind.i64 x0 1)))))) ∧ (((ilt x0 (ofNat (llen KL))) = false) → ((((igt (ofNat (llen pay)) 48) = true) → (R (AV.tup [TV.c (AC.con (Value.slice (Option.none) 0 0)),TV.c (AC.int IntKind.i64 1)]) [(200000,Blk.rview [Col.rows IntKind.u8 KL]),(200001,Blk.rview [Col.arrs IntKind.u8 16 NL]),(200002,Blk.rview [Col.ints IntKind.u8 pay]),(1000000,Blk.view [Seg.ints IntKind.u32 64 Go.Hsh.rootsL])])) ∧ (((igt (ofNat (llen pay)) 48) = false) → (rwrap.l1 R KL NL pay fuel (sub IntKind.i64 (ofNat (llen KL)) 1) pay)))))) := by kernel_rfl
theorem rwrap_vc (R : AV → Mem → Prop) (fuel : Nat) (KL : List (List Int)) (NL : List (List Int)) (pay : List Int) : callsx Tryd.prog gamR0 [⟨10, [.ints .u8], false, false⟩] Tryd.f13 (fuel + 1) [.one (.vec 200000), .one (.vec 200001), .one (.vec 200002)] [(200000, .rview [.rows .u8 KL]), (200001, .rview [.arrs .u8 16 NL]), (200002, .rview [.ints .u8 pay]), (1000000 + 0, .view [.ints .u32 64 Go.Hsh.rootsL])] R = (((((ilt (ofNat (llen KL)) 1) = false) → ((((igt (ofNat (llen KL)) 8) = false) → ((((ine (ofNat (llen NL)) (ofNat (llen KL))) = true) → (R (AV.tup [(TV.c (AC.con (Value.slice (Option.none) 0 0))), (TV.c (AC.int IntKind.i64 80))]) [(200000, Blk.rview [(Col.rows IntKind.u8 KL)]), (200001, Blk.rview [(Col.arrs IntKind.u8 16 NL)]), (200002, Blk.rview [(Col.ints IntKind.u8 pay)]), (1000000, Blk.view [(Seg.ints IntKind.u32 64 Go.Hsh.rootsL)])])) ∧ (((ine (ofNat (llen NL)) (ofNat (llen KL))) = false) → (rwrap.l0 R KL NL pay fuel 0)))) ∧ (((igt (ofNat (llen KL)) 8) = true) → (R (AV.tup [(TV.c (AC.con (Value.slice (Option.none) 0 0))), (TV.c (AC.int IntKind.i64 80))]) [(200000, Blk.rview [(Col.rows IntKind.u8 KL)]), (200001, Blk.rview [(Col.arrs IntKind.u8 16 NL)]), (200002, Blk.rview [(Col.ints IntKind.u8 pay)]), (1000000, Blk.view [(Seg.ints IntKind.u32 64 Go.Hsh.rootsL)])])))) ∧ (((ilt (ofNat (llen KL)) 1) = true) → (R (AV.tup [(TV.c (AC.con (Value.slice (Option.none) 0 0))), (TV.c (AC.int IntKind.i64 80))]) [(200000, Blk.rview [(Col.rows IntKind.u8 KL)]), (200001, Blk.rview [(Col.arrs IntKind.u8 16 NL)]), (200002, Blk.rview [(Col.ints IntKind.u8 pay)]), (1000000, Blk.view [(Seg.ints IntKind.u32 64 Go.Hsh.rootsL)])])))) := by kernel_rfl
def rrwrap.l1 (R : AV → Mem → Prop) (KL NL : List (List Int)) (pay : List Int) (fuel : Nat) (x1 : Int) (x2 : List Int) : Prop := rN Tryd.prog gamR0 [⟨10,[.ints .u8],false,false⟩] Tryd.f12 R fuel [kc Tryd.f12 [1,1,1,1,1,1,0,1,0,0],ki Tryd.f12 [1,1,1,1,1,1,0,1,0,0],.inBlock 2,kc Tryd.f12 [1,1,1,1,1,1,1]] (Vv 200000::Vv 200001::(us 6 (Ii (ofNat (llen KL))::Uu::Vv 100010::Ii x1::(us 57 (zs 4 []))))) [(100010,Blk.rview [Col.ints IntKind.u8 x2]),(200000,Blk.rview [Col.rows IntKind.u8 KL]),(200001,Blk.rview [Col.arrs IntKind.u8 16 NL]),(200002,Blk.rview [Col.ints IntKind.u8 pay])]
def rrwrap.l0 (R : AV → Mem → Prop) (KL NL : List (List Int)) (pay : List Int) (fuel : Nat) (x0 : Int) : Prop := rN Tryd.prog gamR0 [⟨10,[.ints .u8],false,false⟩] Tryd.f12 R fuel [kc Tryd.f12 [1,1,1,0,1,0,0],ki Tryd.f12 [1,1,1,0,1,0,0],.inBlock 0,kc Tryd.f12 [1,1,1,1]] (Vv 200000::Vv 200001::Vv 200002::(us 5 (Ii (ofNat (llen KL))::Ii x0::(zs 4 (us 25 (zs 34 [])))))) [(200000,Blk.rview [Col.rows IntKind.u8 KL]),(200001,Blk.rview [Col.arrs IntKind.u8 16 NL]),(200002,Blk.rview [Col.ints IntKind.u8 pay])]
theorem rrwrap.l1_succ (R : AV → Mem → Prop) (KL NL : List (List Int)) (pay : List Int) (fuel : Nat) (x1 : Int) (x2 : List Int) : rrwrap.l1 R KL NL pay (fuel + 1) x1 x2 = (((((ige x1 0) = true) → ((InB x1 (llen KL)) ∧ ((InB x1 (llen NL)) ∧ (((Ky (llget KL (nat x1))) ∧ ((Nn (llget NL (nat x1))) ∧ ((Lf (sub IntKind.i64 (ofNat (llen KL)) x1)) ∧ (In x2)))) ∧ ((((ine (wE (llget KL (nat x1)) (sub IntKind.i64 (ofNat (llen KL)) x1) x2) 0) = true) → (R (AV.tup [TV.c (AC.con (Value.slice (Option.none) 0 0)),TV.c (AC.int IntKind.i64 (wE (llget KL (nat x1)) (sub IntKind.i64 (ofNat (llen KL)) x1) x2))]) [(62,Blk.vec [Col.ints IntKind.u8 (wL (llget KL (nat x1)) (llget NL (nat x1)) (sub IntKind.i64 (ofNat (llen KL)) x1) x2)]),(100010,Blk.rview [Col.ints IntKind.u8 x2]),(200000,Blk.rview [Col.rows IntKind.u8 KL]),(200001,Blk.rview [Col.arrs IntKind.u8 16 NL]),(200002,Blk.rview [Col.ints IntKind.u8 pay])])) ∧ (((ine (wE (llget KL (nat x1)) (sub IntKind.i64 (ofNat (llen KL)) x1) x2) 0) = false) → (rrwrap.l1 R KL NL pay fuel (sub IntKind.i64 x1 1) (wL (llget KL (nat x1)) (llget NL (nat x1)) (sub IntKind.i64 (ofNat (llen KL)) x1) x2)))))))) ∧ (((ige x1 0) = false) → ((Short x2) ∧ (R (AV.tup [TV.c (AC.vec 70),TV.c (AC.int IntKind.i64 (Go.Cel.padE x2))]) [(70,Blk.vec [Col.ints IntKind.u8 (Go.Cel.padR x2)]),(100010,Blk.rview [Col.ints IntKind.u8 x2]),(200000,Blk.rview [Col.rows IntKind.u8 KL]),(200001,Blk.rview [Col.arrs IntKind.u8 16 NL]),(200002,Blk.rview [Col.ints IntKind.u8 pay])]))))) := by kernel_rfl
theorem rrwrap.l0_succ (R : AV → Mem → Prop) (KL NL : List (List Int)) (pay : List Int) (fuel : Nat) (x0 : Int) : rrwrap.l0 R KL NL pay (fuel + 1) x0 = (((((ilt x0 (ofNat (llen KL))) = true) → ((InB x0 (llen KL)) ∧ ((((ine (ofNat (llen (llget KL (nat x0)))) 32) = true) → (R (AV.tup [TV.c (AC.con (Value.slice (Option.none) 0 0)),TV.c (AC.int IntKind.i64 2)]) [(200000,Blk.rview [Col.rows IntKind.u8 KL]),(200001,Blk.rview [Col.arrs IntKind.u8 16 NL]),(200002,Blk.rview [Col.ints IntKind.u8 pay])])) ∧ (((ine (ofNat (llen (llget KL (nat x0)))) 32) = false) → (rrwrap.l0 R KL NL pay fuel (add IntKind.i64 x0 1)))))) ∧ (((ilt x0 (ofNat (llen KL))) = false) → ((((igt (ofNat (llen pay)) 48) = true) → (R (AV.tup [TV.c (AC.con (Value.slice (Option.none) 0 0)),TV.c (AC.int IntKind.i64 1)]) [(200000,Blk.rview [Col.rows IntKind.u8 KL]),(200001,Blk.rview [Col.arrs IntKind.u8 16 NL]),(200002,Blk.rview [Col.ints IntKind.u8 pay])])) ∧ (((igt (ofNat (llen pay)) 48) = false) → (rrwrap.l1 R KL NL pay fuel (sub IntKind.i64 (ofNat (llen KL)) 1) pay)))))) := by kernel_rfl
theorem rrwrap_vc (R : AV → Mem → Prop) (fuel : Nat) (KL : List (List Int)) (NL : List (List Int)) (pay : List Int) : callsx Tryd.prog gamR0 [⟨10, [.ints .u8], false, false⟩] Tryd.f12 (fuel + 1) [.one (.vec 200000), .one (.vec 200001), .one (.vec 200002)] [(200000, .rview [.rows .u8 KL]), (200001, .rview [.arrs .u8 16 NL]), (200002, .rview [.ints .u8 pay])] R = (((((ilt (ofNat (llen KL)) 1) = false) → ((((igt (ofNat (llen KL)) 8) = false) → ((((ine (ofNat (llen NL)) (ofNat (llen KL))) = true) → (R (AV.tup [(TV.c (AC.con (Value.slice (Option.none) 0 0))), (TV.c (AC.int IntKind.i64 80))]) [(200000, Blk.rview [(Col.rows IntKind.u8 KL)]), (200001, Blk.rview [(Col.arrs IntKind.u8 16 NL)]), (200002, Blk.rview [(Col.ints IntKind.u8 pay)])])) ∧ (((ine (ofNat (llen NL)) (ofNat (llen KL))) = false) → (rrwrap.l0 R KL NL pay fuel 0)))) ∧ (((igt (ofNat (llen KL)) 8) = true) → (R (AV.tup [(TV.c (AC.con (Value.slice (Option.none) 0 0))), (TV.c (AC.int IntKind.i64 80))]) [(200000, Blk.rview [(Col.rows IntKind.u8 KL)]), (200001, Blk.rview [(Col.arrs IntKind.u8 16 NL)]), (200002, Blk.rview [(Col.ints IntKind.u8 pay)])])))) ∧ (((ilt (ofNat (llen KL)) 1) = true) → (R (AV.tup [(TV.c (AC.con (Value.slice (Option.none) 0 0))), (TV.c (AC.int IntKind.i64 80))]) [(200000, Blk.rview [(Col.rows IntKind.u8 KL)]), (200001, Blk.rview [(Col.arrs IntKind.u8 16 NL)]), (200002, Blk.rview [(Col.ints IntKind.u8 pay)])])))) := by kernel_rfl
end Go.Proofs.YtienfecnkglilaaDoor.G
namespace Go.Proofs.YtienfecnkglilaaDoor.G
open Go Go.Sx Go.Hsh Go.Mac Go.Blk Go.Cel Go.Oni Go.Rou Go.Fld
set_option maxRecDepth 20000
theorem gamR0_good : GoodG Tryd.prog gamR0 := ((gamO4_good.ext good_open ⟨_, Tryd.func20, by decide, by kernel_rfl⟩).ext good_osize ⟨_, Tryd.func27, by decide, by kernel_rfl⟩)
theorem tab_snoc {α : Type} (n : Nat) (f : Nat → α) : tab (n + 1) f = tab n f ++ [f n] := by unfold tab; rw [List.range_succ, List.map_append]; rfl
theorem salt_byte (a : Int) : 0 ≤ conv .u8 a ∧ conv .u8 a < 256 := by rw [conv_u8]; omega
theorem salt_bs (e : Int) : Bs (saltL e) := tab_bytes fun i _ => salt_byte _
theorem rkE_ok {m : List Int} {e : Int} (h : rkE m e = 0) : m.length = 32 ∧ 0 ≤ e ∧ e ≤ 4611686018427387904 := by
 unfold rkE at h; split at h
 ·cases h
 ·rename_i q; refine ⟨?_, ?_, ?_⟩ <;> (have := q; omega)
theorem salt_sh {i : Nat} (h : i < 8) : sub .i64 56 (mul .i64 8 (i : Int)) = ((56 - 8 * i : Nat) : Int) := by
 have e : mul .i64 8 (i : Int) = ((8 * i : Nat) : Int) := mulN_i64 (a := 8) (by omega)
 have g : sub .i64 56 ((8 * i : Nat) : Int) = ((56 - 8 * i : Nat) : Int) := subN_i64 (a := 56) (by omega) (by omega)
 rw [e, g]
theorem good_rkey : Sx.Good Tryd.prog 11 rkeyS := by
 refine Sx.Good.reads (D := []) mixed gamR0_good Tryd.func11 (by kernel_rfl) rfl fun d args σ K h => ?_
 simp only [rkeyS] at h
 split at h <;> try exact h.elim
 rename_i x e
 obtain ⟨m, ⟨⟨hr, hm, hl⟩, hK⟩, hrow⟩ := rdb_row h
 refine ⟨_, _, .row [.ints .u8] _ hrow (by decide) (.plain (plain_int _ _) (.glob (roots_at hr) (by intro m; rfl) (.nil _))), by simp, ?_⟩
 rw [kkE_eq, kkR_eq] at hK
 have fail : ∀ (σ' : Mem), rkE m e ≠ 0 → Res d rkeyS.news σ K (.tup [.c (.con (.slice none 0 0)), .c (.int .i64 2)]) σ' := fun σ' h0 => by
  have h2 : rkE m e = 2 := by unfold rkE at h0 ⊢; split; rfl; rename_i q; rw [if_neg q] at h0; exact absurd rfl h0
  exact res_tnil (k := .u8) (.int h2.symm .nil) (by unfold rkR; rw [if_neg h0]) hK
 by_cases hgo : rkE m e = 0
 ·obtain ⟨g1, g2, g3⟩ := rkE_ok hgo
  obtain ⟨f, hf⟩ := loop_ex (fun f i y => rkey.l0 (Res d rkeyS.news σ K) e m f i y) 8 (fun i => upto 8 i (fun i => conv .u8 (shr .i64 e ((56 - 8 * i : Nat) : Int))) (fun _ => 0))
   (fun g i hi h => ⟨g + 1, by
    rw [rkey.l0_succ, add1_i64 (by omega), salt_sh hi]
    simp only [nat_cast, llen_def, upto_len]
    rw [upto_lset rfl]
    refine ⟨fun _ => ⟨⟨by omega⟩, ⟨by omega, by omega⟩, h⟩, fun q => ?_⟩
    rw [ilt_false] at q; omega⟩)
   ⟨1, by
    rw [rkey.l0_succ, upto_done]
    refine ⟨fun q => ?_, fun _ => ⟨⟨by decide, by decide⟩, ⟨rfl, hm.sg, ⟨by rw [tab_len]; omega⟩, ⟨by decide⟩⟩, ?_⟩⟩
    ·rw [ilt_true] at q; omega
    ·refine res_tvec (k := .u8) rfl (.int (by rw [hgo]; rfl) .nil) ?_ hK
     rw [exL_eq, tagL_eq]; unfold rkR; rw [if_pos hgo]; rfl⟩ 0 (by omega)
  refine ⟨f + 1, ?_⟩
  have ev := rkey_vc (Res d rkeyS.news σ K) f m e
  refine ev.mpr ?_
  simp only [ofNat_def, llen_def]
  rw [upto_zero] at hf
  refine ⟨fun a => ⟨fun b => ⟨fun c => ?_, fun _ => ⟨⟨by decide, by decide, by decide, by decide⟩, hf⟩⟩, fun b => ?_⟩, fun a => ?_⟩
  ·rw [igt_true] at c; omega
  ·rw [ilt_true] at b; omega
  ·rw [ine_true] at a; omega
 ·refine ⟨1, ?_⟩
  have ev := rkey_vc (Res d rkeyS.news σ K) 0 m e
  refine ev.mpr ?_
  simp only [ofNat_def, llen_def]
  refine ⟨fun a => ⟨fun b => ⟨fun c => fail _ hgo, fun c => ?_⟩, fun b => fail _ hgo⟩, fun a => fail _ hgo⟩
  exfalso; apply hgo
  rw [ine_false] at a; rw [ilt_false] at b; rw [igt_false] at c
  unfold rkE; rw [if_neg (by rintro (h | h | h) <;> omega)]
theorem good_rrkey : Sx.Good Tryd.prog 10 rrkeyS := by
 refine Sx.Good.reads (D := [⟨6, [.ints .u8], true, false⟩]) mixed gamR0_good Tryd.func10 (by kernel_rfl) rfl fun d args σ K h => ?_
 simp only [rrkeyS] at h
 split at h <;> try exact h.elim
 rename_i x e
 obtain ⟨m, ⟨⟨hm, hl⟩, hK⟩, hrow⟩ := rdb_row h
 refine ⟨_, _, .row [.ints .u8] _ hrow (by decide) (.plain (plain_int _ _) (.nil _)), by simp, ?_⟩
 rw [kkE_eq, kkR_eq] at hK
 have fail : ∀ (σ' : Mem), rkE m e ≠ 0 → Res d rrkeyS.news σ K (.tup [.c (.con (.slice none 0 0)), .c (.int .i64 2)]) σ' := fun σ' h0 => by
  have h2 : rkE m e = 2 := by unfold rkE at h0 ⊢; split; rfl; rename_i q; rw [if_neg q] at h0; exact absurd rfl h0
  exact res_tnil (k := .u8) (.int h2.symm .nil) (by unfold rkR; rw [if_neg h0]) hK
 by_cases hgo : rkE m e = 0
 ·obtain ⟨g1, g2, g3⟩ := rkE_ok hgo
  have run : ∀ i, i ≤ 8 → ∃ f, rrkey.l0 (Res d rrkeyS.news σ K) e m f (56 - 8 * ((8 - i : Nat) : Int)) (tab (8 - i) fun i => conv .u8 (shr .i64 e ((56 - 8 * i : Nat) : Int))) := by
   intro i
   induction i with
   | zero =>
    intro _
    refine ⟨1, ?_⟩
    rw [rrkey.l0_succ]
    refine ⟨fun q => ?_, fun _ => ⟨⟨by decide, by decide⟩, ⟨⟨hm.sg, hm.bs⟩, ⟨⟨by rw [tab_len]; omega⟩, salt_bs e⟩, ⟨by decide⟩, ⟨by decide⟩⟩, ?_⟩⟩
    ·rw [ige_true] at q; omega
    ·refine res_tvec (k := .u8) rfl (.int (by rw [hgo]; rfl) .nil) ?_ hK
     rw [exL_eq, tagL_eq]; unfold rkR; rw [if_pos hgo]; rfl
   | succ i ih =>
    intro hi
    obtain ⟨f, hf⟩ := ih (by omega)
    refine ⟨f + 1, ?_⟩
    obtain ⟨n, hn⟩ : ∃ n, n = 8 - (i + 1) := ⟨_, rfl⟩
    have hn1 : 8 - i = n + 1 := by omega
    rw [hn1] at hf
    rw [← hn]
    have e1 : (56 : Int) - 8 * (n : Int) = ((56 - 8 * n : Nat) : Int) := by omega
    have e2 : sub .i64 ((56 - 8 * n : Nat) : Int) 8 = 56 - 8 * ((n + 1 : Nat) : Int) := by rw [sub_i64 (by omega) (by omega)]; omega
    have e3 : conv .u64 ((56 - 8 * n : Nat) : Int) = ((56 - 8 * n : Nat) : Int) := by rw [conv_u64]; omega
    rw [e1, rrkey.l0_succ]
    simp only [e2, e3, lcat_def, llen_def, nadd_def, tab_len, List.length_cons, List.length_nil]
    rw [← tab_snoc]
    refine ⟨fun _ => ?_, fun q => ?_⟩
    ·exact ⟨⟨by omega⟩, Room_iff.mpr (by omega), hf⟩
    ·rw [ige_false] at q; omega
  obtain ⟨f, hf⟩ := run 8 (by omega)
  refine ⟨f + 1, ?_⟩
  have ev := rrkey_vc (Res d rrkeyS.news σ K) f m e
  refine ev.mpr ?_
  simp only [ofNat_def, llen_def]
  refine ⟨fun a => ⟨fun b => ⟨fun c => ?_, fun _ => hf⟩, fun b => ?_⟩, fun a => ?_⟩
  ·rw [igt_true] at c; omega
  ·rw [ilt_true] at b; omega
  ·rw [ine_true] at a; omega
 ·refine ⟨1, ?_⟩
  have ev := rrkey_vc (Res d rrkeyS.news σ K) 0 m e
  refine ev.mpr ?_
  simp only [ofNat_def, llen_def]
  refine ⟨fun a => ⟨fun b => ⟨fun c => fail _ hgo, fun c => ?_⟩, fun b => fail _ hgo⟩, fun a => fail _ hgo⟩
  exfalso; apply hgo
  rw [ine_false] at a; rw [ilt_false] at b; rw [igt_false] at c
  unfold rkE; rw [if_neg (by rintro (h | h | h) <;> omega)]
theorem rwrap_l1 {R : AV → Mem → Prop} {KL NL : List (List Int)} {pay : List Int} (hk : Kys KL) (hn : Ncs NL) (hp : In pay) (h : rcE KL NL pay = 0)
  (hR : ∀ mm σ l, Mem.find σ mm = some (.vec [.ints .u8 l]) → l = padR (chainO (llget KL) (llget NL) KL.length pay KL.length) → R (.tup [.c (.vec mm), .c (.int .i64 0)]) σ) :
  ∀ (i : Nat), i ≤ KL.length → ∃ f, rwrap.l1 R KL NL pay f ((i : Int) - 1) (chainO (llget KL) (llget NL) KL.length pay (KL.length - i)) := by
 have C := Ch.of hn hp.bs h
 obtain ⟨g1, g2⟩ := rcE_ok h
 obtain ⟨q1, q2, q3, q4⟩ := faE_ok g1
 intro i
 induction i with
 | zero =>
  intro _
  obtain ⟨l1, l2, l3⟩ := C.len KL.length (Nat.le_refl _)
  refine ⟨1, ?_⟩
  rw [rwrap.l1_succ, Nat.sub_zero]
  have pe : padE (chainO (llget KL) (llget NL) KL.length pay KL.length) = 0 := by unfold padE; rw [if_pos (by omega)]
  refine ⟨fun q => ?_, fun _ => ⟨⟨by omega⟩, ?_⟩⟩
  ·rw [ige_true] at q; omega
  ·rw [pe]; exact hR _ _ _ rfl rfl
 | succ i ih =>
  intro hi
  obtain ⟨f, hf⟩ := ih (by omega)
  refine ⟨f + 1, ?_⟩
  have e0 : ((i + 1 : Nat) : Int) - 1 = (i : Int) := by omega
  have e1 : sub .i64 (KL.length : Int) (i : Int) = ((KL.length - i : Nat) : Int) := subN_i64 (by omega) (by omega)
  have e2 : sub .i64 (i : Int) 1 = (i : Int) - 1 := sub_i64 (by omega) (by omega)
  obtain ⟨l1, l2, l3⟩ := C.len (KL.length - (i + 1)) (by omega)
  have b := C.layer (j := KL.length - (i + 1)) (by omega)
  have e3 : KL.length - 1 - (KL.length - (i + 1)) = i := by omega
  have e4 : KL.length - (i + 1) + 1 = KL.length - i := by omega
  rw [e3, e4] at b
  rw [rwrap.l1_succ, e0]
  have w1 : wE (llget KL i) ((KL.length - i : Nat) : Int) (chainO (llget KL) (llget NL) KL.length pay (KL.length - (i + 1))) = 0 := by rw [wE_eq]; exact b.e
  have w2 : wL (llget KL i) (llget NL i) ((KL.length - i : Nat) : Int) (chainO (llget KL) (llget NL) KL.length pay (KL.length - (i + 1))) = chainO (llget KL) (llget NL) KL.length pay (KL.length - i) := by rw [wL_eq]; exact b.r
  simp only [nat_cast, ofNat_def, llen_def, e1, e2, w1, w2]
  refine ⟨fun _ => ⟨⟨by omega, by omega⟩, ⟨by omega, by omega⟩, ⟨trivial, ⟨⟨by have := (hk.all i).sh; omega⟩, (hk.all i).bs⟩, ⟨hn.all i (by omega)⟩, ⟨by omega, by omega⟩, ⟨by omega, l3⟩⟩, fun q => ?_, fun _ => hf⟩, fun q => ?_⟩
  ·rw [ine_true] at q; exact absurd rfl q
  ·rw [ige_false] at q; omega
theorem rwrap_l0 {R : AV → Mem → Prop} {KL NL : List (List Int)} {pay : List Int} (hk : Kys KL) (hn : Ncs NL) (hp : In pay) (h1 : 1 ≤ KL.length) (h8 : KL.length ≤ 8) (hl : NL.length = KL.length)
  (hfail : ∀ e σ, rcE KL NL pay = e → e ≠ 0 → R (.tup [.c (.con (.slice none 0 0)), .c (.int .i64 e)]) σ)
  (hR : rcE KL NL pay = 0 → ∀ mm σ l, Mem.find σ mm = some (.vec [.ints .u8 l]) → l = padR (chainO (llget KL) (llget NL) KL.length pay KL.length) → R (.tup [.c (.vec mm), .c (.int .i64 0)]) σ) :
  ∀ (k i : Nat), k = KL.length - i → i ≤ KL.length → (∀ j, j < i → (llget KL j).length = 32) → ∃ f, rwrap.l0 R KL NL pay f (i : Int) := by
 have hf80 : ∀ {b : Bool}, all32 KL = b → faE KL NL = if b = false then 2 else 0 := fun hb => by
  unfold faE; rw [if_neg (by rintro (h | h | h); omega; omega; exact h hl), hb]
 intro k
 induction k with
 | zero =>
  intro i hk0 hi hall
  obtain rfl : i = KL.length := by omega
  have ha : all32 KL = true := all32_true.mpr hall
  have hfa : faE KL NL = 0 := hf80 ha
  by_cases hpay : 48 < pay.length
  ·refine ⟨1, ?_⟩
   rw [rwrap.l0_succ]
   refine ⟨fun q => ?_, fun _ => ⟨fun _ => hfail 1 _ ?_ (by decide), fun q => ?_⟩⟩
   ·rw [ilt_true] at q; simp only [ofNat, llen] at q; omega
   ·unfold rcE; rw [if_neg (by rw [hfa]; simp), if_pos hpay]
   ·rw [igt_false] at q; simp only [ofNat, llen] at q; omega
  ·have h0 : rcE KL NL pay = 0 := by unfold rcE; rw [if_neg (by rw [hfa]; simp), if_neg hpay]
   obtain ⟨f, hf⟩ := rwrap_l1 hk hn hp h0 (hR h0) KL.length (Nat.le_refl _)
   rw [Nat.sub_self, chainO_zero] at hf
   refine ⟨f + 1, ?_⟩
   rw [rwrap.l0_succ]
   have e2 : sub .i64 (KL.length : Int) 1 = (KL.length : Int) - 1 := sub_i64 (by omega) (by omega)
   simp only [ofNat_def, llen_def, e2]
   refine ⟨fun q => ?_, fun _ => ⟨fun q => ?_, fun _ => hf⟩⟩
   ·rw [ilt_true] at q; omega
   ·rw [igt_true] at q; omega
 | succ k ih =>
  intro i hk0 hi hall
  by_cases h32 : (llget KL i).length = 32
  ·obtain ⟨f, hf⟩ := ih (i + 1) (by omega) (by omega) (fun j hj => by
    by_cases e : j = i
    ·rw [e]; exact h32
    ·exact hall j (by omega))
   refine ⟨f + 1, ?_⟩
   rw [rwrap.l0_succ, add1_i64 (by omega)]
   simp only [nat_cast, ofNat_def, llen_def]
   refine ⟨fun _ => ⟨⟨by omega, by omega⟩, fun q => ?_, fun _ => hf⟩, fun q => ?_⟩
   ·rw [ine_true] at q; omega
   ·rw [ilt_false] at q; omega
  ·have hfa : faE KL NL = 2 := hf80 (all32_false (show i < KL.length by omega) h32)
   refine ⟨1, ?_⟩
   rw [rwrap.l0_succ]
   simp only [nat_cast, ofNat_def, llen_def]
   refine ⟨fun _ => ⟨⟨by omega, by omega⟩, fun _ => hfail 2 _ ?_ (by decide), fun q => ?_⟩, fun q => ?_⟩
   ·unfold rcE; rw [if_pos (by rw [hfa]; decide), hfa]
   ·rw [ine_false] at q; omega
   ·rw [ilt_false] at q; omega
theorem good_rwrap : Sx.Good Tryd.prog 13 rchainS := by
 refine Sx.Good.reads (D := [⟨10, [.ints .u8], false, false⟩]) mixed gamR0_good Tryd.func13 (by kernel_rfl) rfl fun d args σ K h => ?_
 simp only [rchainS] at h
 split at h <;> try exact h.elim
 rename_i x y z
 obtain ⟨KL, h, hrow⟩ := rdr_row h
 obtain ⟨NL, h, hrow1⟩ := rda_row h
 obtain ⟨pay, ⟨⟨hr, hk, hn, hp⟩, hK⟩, hrow2⟩ := rdb_row h
 refine ⟨_, _, .rowH [.rows .u8] _ hrow (by decide) (.row [.arrs .u8 16] _ hrow1 (by decide) (.row [.ints .u8] _ hrow2 (by decide) (.glob (roots_at hr) (by intro m; rfl) (.nil _)))), by simp, ?_⟩
 rw [wcE_eq, wcR_eq] at hK
 have fail : ∀ (e : Int) (σ' : Mem), rcE KL NL pay = e → e ≠ 0 → Res d (rchainS).news σ K (.tup [.c (.con (.slice none 0 0)), .c (.int .i64 e)]) σ' := fun e σ' he h0 =>
  res_tnil (k := .u8) (.int he.symm .nil) (rcR_fail (by rw [he]; exact h0)) hK
 have good : rcE KL NL pay = 0 → ∀ mm σ' l, Mem.find σ' mm = some (.vec [.ints .u8 l]) → l = padR (chainO (llget KL) (llget NL) KL.length pay KL.length) → Res d (rchainS).news σ K (.tup [.c (.vec mm), .c (.int .i64 0)]) σ' := fun h0 mm σ' l hf hl =>
  res_tvec (k := .u8) hf (.int h0.symm .nil) (by rw [hl]; unfold rcR; rw [if_pos h0]) hK
 have f80 : (KL.length < 1 ∨ 8 < KL.length ∨ NL.length ≠ KL.length) → rcE KL NL pay = 80 := fun q => by
  have : faE KL NL = 80 := by unfold faE; rw [if_pos q]
  unfold rcE; rw [if_pos (by rw [this]; decide), this]
 by_cases hgo : KL.length < 1 ∨ 8 < KL.length ∨ NL.length ≠ KL.length
 ·refine ⟨1, ?_⟩
  have e := rwrap_vc (Res d (rchainS).news σ K) 0 KL NL pay
  refine e.mpr ?_
  simp only [ofNat_def, llen_def]
  refine ⟨fun a => ⟨fun b => ⟨fun _ => fail 80 _ (f80 hgo) (by decide), fun c => ?_⟩, fun _ => fail 80 _ (f80 hgo) (by decide)⟩, fun _ => fail 80 _ (f80 hgo) (by decide)⟩
  rw [ilt_false] at a; rw [igt_false] at b; rw [ine_false] at c; omega
 ·obtain ⟨f, hf⟩ := rwrap_l0 hk hn hp (by omega) (by omega) (by omega) fail good KL.length 0 rfl (by omega) (fun j hj => by omega)
  refine ⟨f + 1, ?_⟩
  have e := rwrap_vc (Res d (rchainS).news σ K) f KL NL pay
  refine e.mpr ?_
  simp only [ofNat_def, llen_def]
  refine ⟨fun a => ⟨fun b => ⟨fun c => ?_, fun c => hf⟩, fun q => ?_⟩, fun q => ?_⟩
  ·rw [ine_true] at c; omega
  ·rw [igt_true] at q; omega
  ·rw [ilt_true] at q; omega
theorem rrwrap_l1 {R : AV → Mem → Prop} {KL NL : List (List Int)} {pay : List Int} (hk : Kys KL) (hn : Ncs NL) (hp : In pay) (h : rcE KL NL pay = 0)
  (hR : ∀ mm σ l, Mem.find σ mm = some (.vec [.ints .u8 l]) → l = padR (chainO (llget KL) (llget NL) KL.length pay KL.length) → R (.tup [.c (.vec mm), .c (.int .i64 0)]) σ) :
  ∀ (i : Nat), i ≤ KL.length → ∃ f, rrwrap.l1 R KL NL pay f ((i : Int) - 1) (chainO (llget KL) (llget NL) KL.length pay (KL.length - i)) := by
 have C := Ch.of hn hp.bs h
 obtain ⟨g1, g2⟩ := rcE_ok h
 obtain ⟨q1, q2, q3, q4⟩ := faE_ok g1
 intro i
 induction i with
 | zero =>
  intro _
  obtain ⟨l1, l2, l3⟩ := C.len KL.length (Nat.le_refl _)
  refine ⟨1, ?_⟩
  rw [rrwrap.l1_succ, Nat.sub_zero]
  have pe : padE (chainO (llget KL) (llget NL) KL.length pay KL.length) = 0 := by unfold padE; rw [if_pos (by omega)]
  refine ⟨fun q => ?_, fun _ => ⟨⟨by omega⟩, ?_⟩⟩
  ·rw [ige_true] at q; omega
  ·rw [pe]; exact hR _ _ _ rfl rfl
 | succ i ih =>
  intro hi
  obtain ⟨f, hf⟩ := ih (by omega)
  refine ⟨f + 1, ?_⟩
  have e0 : ((i + 1 : Nat) : Int) - 1 = (i : Int) := by omega
  have e1 : sub .i64 (KL.length : Int) (i : Int) = ((KL.length - i : Nat) : Int) := subN_i64 (by omega) (by omega)
  have e2 : sub .i64 (i : Int) 1 = (i : Int) - 1 := sub_i64 (by omega) (by omega)
  obtain ⟨l1, l2, l3⟩ := C.len (KL.length - (i + 1)) (by omega)
  have b := C.layer (j := KL.length - (i + 1)) (by omega)
  have e3 : KL.length - 1 - (KL.length - (i + 1)) = i := by omega
  have e4 : KL.length - (i + 1) + 1 = KL.length - i := by omega
  rw [e3, e4] at b
  rw [rrwrap.l1_succ, e0]
  have w1 : wE (llget KL i) ((KL.length - i : Nat) : Int) (chainO (llget KL) (llget NL) KL.length pay (KL.length - (i + 1))) = 0 := by rw [wE_eq]; exact b.e
  have w2 : wL (llget KL i) (llget NL i) ((KL.length - i : Nat) : Int) (chainO (llget KL) (llget NL) KL.length pay (KL.length - (i + 1))) = chainO (llget KL) (llget NL) KL.length pay (KL.length - i) := by rw [wL_eq]; exact b.r
  simp only [nat_cast, ofNat_def, llen_def, e1, e2, w1, w2]
  refine ⟨fun _ => ⟨⟨by omega, by omega⟩, ⟨by omega, by omega⟩, ⟨⟨⟨by have := (hk.all i).sh; omega⟩, (hk.all i).bs⟩, ⟨hn.all i (by omega)⟩, ⟨by omega, by omega⟩, ⟨by omega, l3⟩⟩, fun q => ?_, fun _ => hf⟩, fun q => ?_⟩
  ·rw [ine_true] at q; exact absurd rfl q
  ·rw [ige_false] at q; omega
theorem rrwrap_l0 {R : AV → Mem → Prop} {KL NL : List (List Int)} {pay : List Int} (hk : Kys KL) (hn : Ncs NL) (hp : In pay) (h1 : 1 ≤ KL.length) (h8 : KL.length ≤ 8) (hl : NL.length = KL.length)
  (hfail : ∀ e σ, rcE KL NL pay = e → e ≠ 0 → R (.tup [.c (.con (.slice none 0 0)), .c (.int .i64 e)]) σ)
  (hR : rcE KL NL pay = 0 → ∀ mm σ l, Mem.find σ mm = some (.vec [.ints .u8 l]) → l = padR (chainO (llget KL) (llget NL) KL.length pay KL.length) → R (.tup [.c (.vec mm), .c (.int .i64 0)]) σ) :
  ∀ (k i : Nat), k = KL.length - i → i ≤ KL.length → (∀ j, j < i → (llget KL j).length = 32) → ∃ f, rrwrap.l0 R KL NL pay f (i : Int) := by
 have hf80 : ∀ {b : Bool}, all32 KL = b → faE KL NL = if b = false then 2 else 0 := fun hb => by
  unfold faE; rw [if_neg (by rintro (h | h | h); omega; omega; exact h hl), hb]
 intro k
 induction k with
 | zero =>
  intro i hk0 hi hall
  obtain rfl : i = KL.length := by omega
  have ha : all32 KL = true := all32_true.mpr hall
  have hfa : faE KL NL = 0 := hf80 ha
  by_cases hpay : 48 < pay.length
  ·refine ⟨1, ?_⟩
   rw [rrwrap.l0_succ]
   refine ⟨fun q => ?_, fun _ => ⟨fun _ => hfail 1 _ ?_ (by decide), fun q => ?_⟩⟩
   ·rw [ilt_true] at q; simp only [ofNat, llen] at q; omega
   ·unfold rcE; rw [if_neg (by rw [hfa]; simp), if_pos hpay]
   ·rw [igt_false] at q; simp only [ofNat, llen] at q; omega
  ·have h0 : rcE KL NL pay = 0 := by unfold rcE; rw [if_neg (by rw [hfa]; simp), if_neg hpay]
   obtain ⟨f, hf⟩ := rrwrap_l1 hk hn hp h0 (hR h0) KL.length (Nat.le_refl _)
   rw [Nat.sub_self, chainO_zero] at hf
   refine ⟨f + 1, ?_⟩
   rw [rrwrap.l0_succ]
   have e2 : sub .i64 (KL.length : Int) 1 = (KL.length : Int) - 1 := sub_i64 (by omega) (by omega)
   simp only [ofNat_def, llen_def, e2]
   refine ⟨fun q => ?_, fun _ => ⟨fun q => ?_, fun _ => hf⟩⟩
   ·rw [ilt_true] at q; omega
   ·rw [igt_true] at q; omega
 | succ k ih =>
  intro i hk0 hi hall
  by_cases h32 : (llget KL i).length = 32
  ·obtain ⟨f, hf⟩ := ih (i + 1) (by omega) (by omega) (fun j hj => by
    by_cases e : j = i
    ·rw [e]; exact h32
    ·exact hall j (by omega))
   refine ⟨f + 1, ?_⟩
   rw [rrwrap.l0_succ, add1_i64 (by omega)]
   simp only [nat_cast, ofNat_def, llen_def]
   refine ⟨fun _ => ⟨⟨by omega, by omega⟩, fun q => ?_, fun _ => hf⟩, fun q => ?_⟩
   ·rw [ine_true] at q; omega
   ·rw [ilt_false] at q; omega
  ·have hfa : faE KL NL = 2 := hf80 (all32_false (show i < KL.length by omega) h32)
   refine ⟨1, ?_⟩
   rw [rrwrap.l0_succ]
   simp only [nat_cast, ofNat_def, llen_def]
   refine ⟨fun _ => ⟨⟨by omega, by omega⟩, fun _ => hfail 2 _ ?_ (by decide), fun q => ?_⟩, fun q => ?_⟩
   ·unfold rcE; rw [if_pos (by rw [hfa]; decide), hfa]
   ·rw [ine_false] at q; omega
   ·rw [ilt_false] at q; omega
theorem good_rrwrap : Sx.Good Tryd.prog 12 rrchainS := by
 refine Sx.Good.reads (D := [⟨10, [.ints .u8], false, false⟩]) mixed gamR0_good Tryd.func12 (by kernel_rfl) rfl fun d args σ K h => ?_
 simp only [rrchainS] at h
 split at h <;> try exact h.elim
 rename_i x y z
 obtain ⟨KL, h, hrow⟩ := rdr_row h
 obtain ⟨NL, h, hrow1⟩ := rda_row h
 obtain ⟨pay, ⟨⟨hk, hn, hp⟩, hK⟩, hrow2⟩ := rdb_row h
 refine ⟨_, _, .rowH [.rows .u8] _ hrow (by decide) (.row [.arrs .u8 16] _ hrow1 (by decide) (.row [.ints .u8] _ hrow2 (by decide) (.nil _))), by simp, ?_⟩
 rw [wcE_eq, wcR_eq] at hK
 have fail : ∀ (e : Int) (σ' : Mem), rcE KL NL pay = e → e ≠ 0 → Res d (rrchainS).news σ K (.tup [.c (.con (.slice none 0 0)), .c (.int .i64 e)]) σ' := fun e σ' he h0 =>
  res_tnil (k := .u8) (.int he.symm .nil) (rcR_fail (by rw [he]; exact h0)) hK
 have good : rcE KL NL pay = 0 → ∀ mm σ' l, Mem.find σ' mm = some (.vec [.ints .u8 l]) → l = padR (chainO (llget KL) (llget NL) KL.length pay KL.length) → Res d (rrchainS).news σ K (.tup [.c (.vec mm), .c (.int .i64 0)]) σ' := fun h0 mm σ' l hf hl =>
  res_tvec (k := .u8) hf (.int h0.symm .nil) (by rw [hl]; unfold rcR; rw [if_pos h0]) hK
 have f80 : (KL.length < 1 ∨ 8 < KL.length ∨ NL.length ≠ KL.length) → rcE KL NL pay = 80 := fun q => by
  have : faE KL NL = 80 := by unfold faE; rw [if_pos q]
  unfold rcE; rw [if_pos (by rw [this]; decide), this]
 by_cases hgo : KL.length < 1 ∨ 8 < KL.length ∨ NL.length ≠ KL.length
 ·refine ⟨1, ?_⟩
  have e := rrwrap_vc (Res d (rrchainS).news σ K) 0 KL NL pay
  refine e.mpr ?_
  simp only [ofNat_def, llen_def]
  refine ⟨fun a => ⟨fun b => ⟨fun _ => fail 80 _ (f80 hgo) (by decide), fun c => ?_⟩, fun _ => fail 80 _ (f80 hgo) (by decide)⟩, fun _ => fail 80 _ (f80 hgo) (by decide)⟩
  rw [ilt_false] at a; rw [igt_false] at b; rw [ine_false] at c; omega
 ·obtain ⟨f, hf⟩ := rrwrap_l0 hk hn hp (by omega) (by omega) (by omega) fail good KL.length 0 rfl (by omega) (fun j hj => by omega)
  refine ⟨f + 1, ?_⟩
  have e := rrwrap_vc (Res d (rrchainS).news σ K) f KL NL pay
  refine e.mpr ?_
  simp only [ofNat_def, llen_def]
  refine ⟨fun a => ⟨fun b => ⟨fun c => ?_, fun c => hf⟩, fun q => ?_⟩, fun q => ?_⟩
  ·rw [ine_true] at c; omega
  ·rw [igt_true] at q; omega
  ·rw [ilt_true] at q; omega
theorem gamR1_good : GoodG Tryd.prog gamR1 := (((gamR0_good.ext good_rkey ⟨_, Tryd.func11, by decide, by kernel_rfl⟩).ext good_rrkey ⟨_, Tryd.func10, by decide, by kernel_rfl⟩).ext good_rwrap ⟨_, Tryd.func13, by decide, by kernel_rfl⟩).ext good_rrwrap ⟨_, Tryd.func12, by decide, by kernel_rfl⟩
end Go.Proofs.YtienfecnkglilaaDoor.G
namespace Go.Proofs.YtienfecnkglilaaDoor.G
open Go Go.Sx Go.Oni Go.Rou
set_option maxRecDepth 100000
def rawake.k0 (R : AV → Mem → Prop)  (fuel m : Nat) : Prop := rM Tryd.prog gamR1 [] Tryd.f9 R fuel m [kc Tryd.f9 [1,1,1,1]] [Bb (ieq (lget (wcR [(lzeros 32)] [(lset (lzeros 16) 0 1)] [120]) 0) 1),Vv 7,Ii (kkE (lzeros 32) 1),Vv 17,Ii (wcE [(lzeros 32)] [(lset (lzeros 16) 0 1)] [120]),AV.tup [TV.c (AC.vec 7),TV.c (AC.int IntKind.i64 (kkE (lzeros 32) 1))],Vv 6,AV.tup [TV.c (AC.vec 7),TV.c (AC.int IntKind.i64 (kkE (lzeros 32) 1))],Vv 7,Ii (kkE (lzeros 32) 1),AV.tup [TV.c (AC.vec 17),TV.c (AC.int IntKind.i64 (wcE [(lzeros 32)] [(lset (lzeros 16) 0 1)] [120]))],Vv 11,Vv 12,(AV.agg [Seg.ints IntKind.u8 16 (lset (lzeros 16) 0 1)]),Vv 14,Vv 15,Vv 15,AV.tup [TV.c (AC.vec 17),TV.c (AC.int IntKind.i64 (wcE [(lzeros 32)] [(lset (lzeros 16) 0 1)] [120]))],Vv 17,Ii (wcE [(lzeros 32)] [(lset (lzeros 16) 0 1)] [120]),Ii (kkE (lzeros 32) 1),Bb (ieq (kkE (lzeros 32) 1) 0),Ll true,Ii (wcE [(lzeros 32)] [(lset (lzeros 16) 0 1)] [120]),Bb (ieq (wcE [(lzeros 32)] [(lset (lzeros 16) 0 1)] [120]) 0),Bb (ieq (wcE [(lzeros 32)] [(lset (lzeros 16) 0 1)] [120]) 0),Ll true,Vv 7,Ii (ofNat (llen (kkR (lzeros 32) 1))),Bb (ieq (ofNat (llen (kkR (lzeros 32) 1))) 32),Bb (ieq (ofNat (llen (kkR (lzeros 32) 1))) 32),Ll true,Vv 7,AV.one (AC.str (bytesOf (kkR (lzeros 32) 1))),Vv 34,AV.one (AC.str (bytesOf (lzeros 32))),Bb (bnot (seq2 (bytesOf (kkR (lzeros 32) 1)) (bytesOf (lzeros 32)))),Bb (bnot (seq2 (bytesOf (kkR (lzeros 32) 1)) (bytesOf (lzeros 32)))),Ll true,Vv 17,Ii (ofNat (llen (wcR [(lzeros 32)] [(lset (lzeros 16) 0 1)] [120]))),Bb (ieq (ofNat (llen (wcR [(lzeros 32)] [(lset (lzeros 16) 0 1)] [120]))) 320),Bb (ieq (ofNat (llen (wcR [(lzeros 32)] [(lset (lzeros 16) 0 1)] [120]))) 320),Ll true,Vv 17,AV.one (AC.vptr 17 1 0 0 0),AV.one (AC.int IntKind.u8 (lget (wcR [(lzeros 32)] [(lset (lzeros 16) 0 1)] [120]) 0)),Bb (ieq (lget (wcR [(lzeros 32)] [(lset (lzeros 16) 0 1)] [120]) 0) 1),Bb (ieq (lget (wcR [(lzeros 32)] [(lset (lzeros 16) 0 1)] [120]) 0) 1)] [(6,Blk.vec [Col.ints IntKind.u8 (lzeros 32)]),(7,Blk.vec [Col.ints IntKind.u8 (kkR (lzeros 32) 1)]),(12,Blk.vec [Col.rows IntKind.u8 [(lzeros 32)]]),(14,Blk.vec [Col.arrs IntKind.u8 16 [(lset (lzeros 16) 0 1)]]),(15,Blk.rview [Col.ints IntKind.u8 [120]]),(17,Blk.vec [Col.ints IntKind.u8 (wcR [(lzeros 32)] [(lset (lzeros 16) 0 1)] [120])]),(34,Blk.vec [Col.ints IntKind.u8 (lzeros 32)]),(1000000,Blk.view [Seg.ints IntKind.u32 64 Go.Hsh.rootsL])]
def rawake.k1 (R : AV → Mem → Prop)  (fuel m : Nat) : Prop := rM Tryd.prog gamR1 [] Tryd.f9 R fuel m [kc Tryd.f9 [1,1,1,1]] (Ll false::Vv 7::Ii (kkE (lzeros 32) 1)::Vv 17::Ii (wcE [(lzeros 32)] [(lset (lzeros 16) 0 1)] [120])::AV.tup [TV.c (AC.vec 7),TV.c (AC.int IntKind.i64 (kkE (lzeros 32) 1))]::Vv 6::AV.tup [TV.c (AC.vec 7),TV.c (AC.int IntKind.i64 (kkE (lzeros 32) 1))]::Vv 7::Ii (kkE (lzeros 32) 1)::AV.tup [TV.c (AC.vec 17),TV.c (AC.int IntKind.i64 (wcE [(lzeros 32)] [(lset (lzeros 16) 0 1)] [120]))]::Vv 11::Vv 12::(AV.agg [Seg.ints IntKind.u8 16 (lset (lzeros 16) 0 1)])::Vv 14::Vv 15::Vv 15::AV.tup [TV.c (AC.vec 17),TV.c (AC.int IntKind.i64 (wcE [(lzeros 32)] [(lset (lzeros 16) 0 1)] [120]))]::Vv 17::Ii (wcE [(lzeros 32)] [(lset (lzeros 16) 0 1)] [120])::Ii (kkE (lzeros 32) 1)::Bb (ieq (kkE (lzeros 32) 1) 0)::Ll true::Ii (wcE [(lzeros 32)] [(lset (lzeros 16) 0 1)] [120])::Bb (ieq (wcE [(lzeros 32)] [(lset (lzeros 16) 0 1)] [120]) 0)::Bb (ieq (wcE [(lzeros 32)] [(lset (lzeros 16) 0 1)] [120]) 0)::Ll true::Vv 7::Ii (ofNat (llen (kkR (lzeros 32) 1)))::Bb (ieq (ofNat (llen (kkR (lzeros 32) 1))) 32)::Bb (ieq (ofNat (llen (kkR (lzeros 32) 1))) 32)::Ll true::Vv 7::AV.one (AC.str (bytesOf (kkR (lzeros 32) 1)))::Vv 34::AV.one (AC.str (bytesOf (lzeros 32)))::Bb (bnot (seq2 (bytesOf (kkR (lzeros 32) 1)) (bytesOf (lzeros 32))))::Bb (bnot (seq2 (bytesOf (kkR (lzeros 32) 1)) (bytesOf (lzeros 32))))::Ll true::Vv 17::Ii (ofNat (llen (wcR [(lzeros 32)] [(lset (lzeros 16) 0 1)] [120])))::Bb (ieq (ofNat (llen (wcR [(lzeros 32)] [(lset (lzeros 16) 0 1)] [120]))) 320)::Bb (ieq (ofNat (llen (wcR [(lzeros 32)] [(lset (lzeros 16) 0 1)] [120]))) 320)::Ll false::(zs 4 [Ll false])) [(6,Blk.vec [Col.ints IntKind.u8 (lzeros 32)]),(7,Blk.vec [Col.ints IntKind.u8 (kkR (lzeros 32) 1)]),(12,Blk.vec [Col.rows IntKind.u8 [(lzeros 32)]]),(14,Blk.vec [Col.arrs IntKind.u8 16 [(lset (lzeros 16) 0 1)]]),(15,Blk.rview [Col.ints IntKind.u8 [120]]),(17,Blk.vec [Col.ints IntKind.u8 (wcR [(lzeros 32)] [(lset (lzeros 16) 0 1)] [120])]),(34,Blk.vec [Col.ints IntKind.u8 (lzeros 32)]),(1000000,Blk.view [Seg.ints IntKind.u32 64 Go.Hsh.rootsL])]
def rawake.k2 (R : AV → Mem → Prop)  (fuel m : Nat) : Prop := rM Tryd.prog gamR1 [] Tryd.f9 R fuel m [kc Tryd.f9 [1,1,1,1]] (Ll false::Vv 7::Ii (kkE (lzeros 32) 1)::Vv 17::Ii (wcE [(lzeros 32)] [(lset (lzeros 16) 0 1)] [120])::AV.tup [TV.c (AC.vec 7),TV.c (AC.int IntKind.i64 (kkE (lzeros 32) 1))]::Vv 6::AV.tup [TV.c (AC.vec 7),TV.c (AC.int IntKind.i64 (kkE (lzeros 32) 1))]::Vv 7::Ii (kkE (lzeros 32) 1)::AV.tup [TV.c (AC.vec 17),TV.c (AC.int IntKind.i64 (wcE [(lzeros 32)] [(lset (lzeros 16) 0 1)] [120]))]::Vv 11::Vv 12::(AV.agg [Seg.ints IntKind.u8 16 (lset (lzeros 16) 0 1)])::Vv 14::Vv 15::Vv 15::AV.tup [TV.c (AC.vec 17),TV.c (AC.int IntKind.i64 (wcE [(lzeros 32)] [(lset (lzeros 16) 0 1)] [120]))]::Vv 17::Ii (wcE [(lzeros 32)] [(lset (lzeros 16) 0 1)] [120])::Ii (kkE (lzeros 32) 1)::Bb (ieq (kkE (lzeros 32) 1) 0)::Ll true::Ii (wcE [(lzeros 32)] [(lset (lzeros 16) 0 1)] [120])::Bb (ieq (wcE [(lzeros 32)] [(lset (lzeros 16) 0 1)] [120]) 0)::Bb (ieq (wcE [(lzeros 32)] [(lset (lzeros 16) 0 1)] [120]) 0)::Ll true::Vv 7::Ii (ofNat (llen (kkR (lzeros 32) 1)))::Bb (ieq (ofNat (llen (kkR (lzeros 32) 1))) 32)::Bb (ieq (ofNat (llen (kkR (lzeros 32) 1))) 32)::Ll true::Vv 7::AV.one (AC.str (bytesOf (kkR (lzeros 32) 1)))::Vv 34::AV.one (AC.str (bytesOf (lzeros 32)))::Bb (bnot (seq2 (bytesOf (kkR (lzeros 32) 1)) (bytesOf (lzeros 32))))::Bb (bnot (seq2 (bytesOf (kkR (lzeros 32) 1)) (bytesOf (lzeros 32))))::Ll false::Zz::Zz::Zz::Ll false::Ll false::(zs 4 [Ll false])) [(6,Blk.vec [Col.ints IntKind.u8 (lzeros 32)]),(7,Blk.vec [Col.ints IntKind.u8 (kkR (lzeros 32) 1)]),(12,Blk.vec [Col.rows IntKind.u8 [(lzeros 32)]]),(14,Blk.vec [Col.arrs IntKind.u8 16 [(lset (lzeros 16) 0 1)]]),(15,Blk.rview [Col.ints IntKind.u8 [120]]),(17,Blk.vec [Col.ints IntKind.u8 (wcR [(lzeros 32)] [(lset (lzeros 16) 0 1)] [120])]),(34,Blk.vec [Col.ints IntKind.u8 (lzeros 32)]),(1000000,Blk.view [Seg.ints IntKind.u32 64 Go.Hsh.rootsL])]
def rawake.k3 (R : AV → Mem → Prop)  (fuel m : Nat) : Prop := rM Tryd.prog gamR1 [] Tryd.f9 R fuel m [kc Tryd.f9 [1,1,1,1]] (Ll false::Vv 7::Ii (kkE (lzeros 32) 1)::Vv 17::Ii (wcE [(lzeros 32)] [(lset (lzeros 16) 0 1)] [120])::AV.tup [TV.c (AC.vec 7),TV.c (AC.int IntKind.i64 (kkE (lzeros 32) 1))]::Vv 6::AV.tup [TV.c (AC.vec 7),TV.c (AC.int IntKind.i64 (kkE (lzeros 32) 1))]::Vv 7::Ii (kkE (lzeros 32) 1)::AV.tup [TV.c (AC.vec 17),TV.c (AC.int IntKind.i64 (wcE [(lzeros 32)] [(lset (lzeros 16) 0 1)] [120]))]::Vv 11::Vv 12::(AV.agg [Seg.ints IntKind.u8 16 (lset (lzeros 16) 0 1)])::Vv 14::Vv 15::Vv 15::AV.tup [TV.c (AC.vec 17),TV.c (AC.int IntKind.i64 (wcE [(lzeros 32)] [(lset (lzeros 16) 0 1)] [120]))]::Vv 17::Ii (wcE [(lzeros 32)] [(lset (lzeros 16) 0 1)] [120])::Ii (kkE (lzeros 32) 1)::Bb (ieq (kkE (lzeros 32) 1) 0)::Ll true::Ii (wcE [(lzeros 32)] [(lset (lzeros 16) 0 1)] [120])::Bb (ieq (wcE [(lzeros 32)] [(lset (lzeros 16) 0 1)] [120]) 0)::Bb (ieq (wcE [(lzeros 32)] [(lset (lzeros 16) 0 1)] [120]) 0)::Ll true::Vv 7::Ii (ofNat (llen (kkR (lzeros 32) 1)))::Bb (ieq (ofNat (llen (kkR (lzeros 32) 1))) 32)::Bb (ieq (ofNat (llen (kkR (lzeros 32) 1))) 32)::Ll false::(zs 5 (Ll false::Ll false::Zz::Zz::Zz::Ll false::Ll false::(zs 4 [Ll false])))) [(6,Blk.vec [Col.ints IntKind.u8 (lzeros 32)]),(7,Blk.vec [Col.ints IntKind.u8 (kkR (lzeros 32) 1)]),(12,Blk.vec [Col.rows IntKind.u8 [(lzeros 32)]]),(14,Blk.vec [Col.arrs IntKind.u8 16 [(lset (lzeros 16) 0 1)]]),(15,Blk.rview [Col.ints IntKind.u8 [120]]),(17,Blk.vec [Col.ints IntKind.u8 (wcR [(lzeros 32)] [(lset (lzeros 16) 0 1)] [120])]),(1000000,Blk.view [Seg.ints IntKind.u32 64 Go.Hsh.rootsL])]
def rawake.k4 (R : AV → Mem → Prop)  (fuel m : Nat) : Prop := rM Tryd.prog gamR1 [] Tryd.f9 R fuel m [kc Tryd.f9 [1,1,1,1]] (Ll false::Vv 7::Ii (kkE (lzeros 32) 1)::Vv 17::Ii (wcE [(lzeros 32)] [(lset (lzeros 16) 0 1)] [120])::AV.tup [TV.c (AC.vec 7),TV.c (AC.int IntKind.i64 (kkE (lzeros 32) 1))]::Vv 6::AV.tup [TV.c (AC.vec 7),TV.c (AC.int IntKind.i64 (kkE (lzeros 32) 1))]::Vv 7::Ii (kkE (lzeros 32) 1)::AV.tup [TV.c (AC.vec 17),TV.c (AC.int IntKind.i64 (wcE [(lzeros 32)] [(lset (lzeros 16) 0 1)] [120]))]::Vv 11::Vv 12::(AV.agg [Seg.ints IntKind.u8 16 (lset (lzeros 16) 0 1)])::Vv 14::Vv 15::Vv 15::AV.tup [TV.c (AC.vec 17),TV.c (AC.int IntKind.i64 (wcE [(lzeros 32)] [(lset (lzeros 16) 0 1)] [120]))]::Vv 17::Ii (wcE [(lzeros 32)] [(lset (lzeros 16) 0 1)] [120])::Ii (kkE (lzeros 32) 1)::Bb (ieq (kkE (lzeros 32) 1) 0)::Ll true::Ii (wcE [(lzeros 32)] [(lset (lzeros 16) 0 1)] [120])::Bb (ieq (wcE [(lzeros 32)] [(lset (lzeros 16) 0 1)] [120]) 0)::Bb (ieq (wcE [(lzeros 32)] [(lset (lzeros 16) 0 1)] [120]) 0)::Ll false::Zz::Zz::Zz::Ll false::Ll false::(zs 5 (Ll false::Ll false::Zz::Zz::Zz::Ll false::Ll false::(zs 4 [Ll false])))) [(6,Blk.vec [Col.ints IntKind.u8 (lzeros 32)]),(7,Blk.vec [Col.ints IntKind.u8 (kkR (lzeros 32) 1)]),(12,Blk.vec [Col.rows IntKind.u8 [(lzeros 32)]]),(14,Blk.vec [Col.arrs IntKind.u8 16 [(lset (lzeros 16) 0 1)]]),(15,Blk.rview [Col.ints IntKind.u8 [120]]),(17,Blk.vec [Col.ints IntKind.u8 (wcR [(lzeros 32)] [(lset (lzeros 16) 0 1)] [120])]),(1000000,Blk.view [Seg.ints IntKind.u32 64 Go.Hsh.rootsL])]
def rawake.k5 (R : AV → Mem → Prop)  (fuel m : Nat) : Prop := rM Tryd.prog gamR1 [] Tryd.f9 R fuel m [kc Tryd.f9 [1,1,1,1]] (Ll false::Vv 7::Ii (kkE (lzeros 32) 1)::Vv 17::Ii (wcE [(lzeros 32)] [(lset (lzeros 16) 0 1)] [120])::AV.tup [TV.c (AC.vec 7),TV.c (AC.int IntKind.i64 (kkE (lzeros 32) 1))]::Vv 6::AV.tup [TV.c (AC.vec 7),TV.c (AC.int IntKind.i64 (kkE (lzeros 32) 1))]::Vv 7::Ii (kkE (lzeros 32) 1)::AV.tup [TV.c (AC.vec 17),TV.c (AC.int IntKind.i64 (wcE [(lzeros 32)] [(lset (lzeros 16) 0 1)] [120]))]::Vv 11::Vv 12::(AV.agg [Seg.ints IntKind.u8 16 (lset (lzeros 16) 0 1)])::Vv 14::Vv 15::Vv 15::AV.tup [TV.c (AC.vec 17),TV.c (AC.int IntKind.i64 (wcE [(lzeros 32)] [(lset (lzeros 16) 0 1)] [120]))]::Vv 17::Ii (wcE [(lzeros 32)] [(lset (lzeros 16) 0 1)] [120])::Ii (kkE (lzeros 32) 1)::Bb (ieq (kkE (lzeros 32) 1) 0)::Ll false::Zz::Zz::Ll false::Ll false::Zz::Zz::Zz::Ll false::Ll false::(zs 5 (Ll false::Ll false::Zz::Zz::Zz::Ll false::Ll false::(zs 4 [Ll false])))) [(6,Blk.vec [Col.ints IntKind.u8 (lzeros 32)]),(7,Blk.vec [Col.ints IntKind.u8 (kkR (lzeros 32) 1)]),(12,Blk.vec [Col.rows IntKind.u8 [(lzeros 32)]]),(14,Blk.vec [Col.arrs IntKind.u8 16 [(lset (lzeros 16) 0 1)]]),(15,Blk.rview [Col.ints IntKind.u8 [120]]),(17,Blk.vec [Col.ints IntKind.u8 (wcR [(lzeros 32)] [(lset (lzeros 16) 0 1)] [120])]),(1000000,Blk.view [Seg.ints IntKind.u32 64 Go.Hsh.rootsL])]
theorem rawake.k0_eq (R : AV → Mem → Prop)  (fuel m : Nat) : rawake.k0 R  fuel (m + 100) = ((R (Bb (ieq (lget (wcR [(lzeros 32)] [(lset (lzeros 16) 0 1)] [120]) 0) 1)) [(6,Blk.vec [Col.ints IntKind.u8 (lzeros 32)]),(7,Blk.vec [Col.ints IntKind.u8 (kkR (lzeros 32) 1)]),(12,Blk.vec [Col.rows IntKind.u8 [(lzeros 32)]]),(14,Blk.vec [Col.arrs IntKind.u8 16 [(lset (lzeros 16) 0 1)]]),(15,Blk.rview [Col.ints IntKind.u8 [120]]),(17,Blk.vec [Col.ints IntKind.u8 (wcR [(lzeros 32)] [(lset (lzeros 16) 0 1)] [120])]),(34,Blk.vec [Col.ints IntKind.u8 (lzeros 32)]),(1000000,Blk.view [Seg.ints IntKind.u32 64 Go.Hsh.rootsL])])) := by kernel_rfl
theorem rawake_vc (R : AV → Mem → Prop) (fuel : Nat)  : callsx Tryd.prog gamR1 [] Tryd.f9 (fuel + 1) [] [(1000000 + 0, .view [.ints .u32 64 Go.Hsh.rootsL])] R = (((Mk 32 32 1) ∧ (((Go.Hsh.rootsL = Go.Hsh.rootsL) ∧ ((Go.Oni.Ky (lzeros 32)) ∧ (Go.Oni.Lf 1))) ∧ ((Mk 32 32 1) ∧ ((Low 0 16) ∧ ((InB 0 1) ∧ (((Go.Hsh.rootsL = Go.Hsh.rootsL) ∧ ((Go.Rou.Kys [(lzeros 32)]) ∧ ((Go.Rou.Ncs [(lset (lzeros 16) 0 1)]) ∧ (Go.Oni.In [120])))) ∧ ((((ieq (Go.Rou.kkE (lzeros 32) 1) 0) = true) → ((((ieq (Go.Rou.wcE [(lzeros 32)] [(lset (lzeros 16) 0 1)] [120]) 0) = true) → ((((ieq (ofNat (llen (Go.Rou.kkR (lzeros 32) 1))) 32) = true) → (((Mk 32 32 1) ∧ ((((bnot (seq2 (bytesOf (Go.Rou.kkR (lzeros 32) 1)) (bytesOf (lzeros 32)))) = true) → ((((ieq (ofNat (llen (Go.Rou.wcR [(lzeros 32)] [(lset (lzeros 16) 0 1)] [120]))) 320) = true) → ((InB 0 (llen (Go.Rou.wcR [(lzeros 32)] [(lset (lzeros 16) 0 1)] [120]))) ∧ (rawake.k0 R  fuel 3992))) ∧ (((ieq (ofNat (llen (Go.Rou.wcR [(lzeros 32)] [(lset (lzeros 16) 0 1)] [120]))) 320) = false) → (rawake.k2 R  fuel 3992)))) ∧ (((bnot (seq2 (bytesOf (Go.Rou.kkR (lzeros 32) 1)) (bytesOf (lzeros 32)))) = false) → (rawake.k2 R  fuel 3992)))) ∧ ((Mk 32 32 1) ∧ (((((bnot (seq2 (bytesOf (Go.Rou.kkR (lzeros 32) 1)) (bytesOf (lzeros 32)))) = true) → ((((ieq (ofNat (llen (Go.Rou.wcR [(lzeros 32)] [(lset (lzeros 16) 0 1)] [120]))) 320) = true) → ((InB 0 (llen (Go.Rou.wcR [(lzeros 32)] [(lset (lzeros 16) 0 1)] [120]))) ∧ (rawake.k0 R  fuel 3992))) ∧ (((ieq (ofNat (llen (Go.Rou.wcR [(lzeros 32)] [(lset (lzeros 16) 0 1)] [120]))) 320) = false) → (rawake.k1 R  fuel 3992)))) ∧ (((bnot (seq2 (bytesOf (Go.Rou.kkR (lzeros 32) 1)) (bytesOf (lzeros 32)))) = false) → (rawake.k2 R  fuel 3992))) ∧ ((((bnot (seq2 (bytesOf (Go.Rou.kkR (lzeros 32) 1)) (bytesOf (lzeros 32)))) = true) → ((((ieq (ofNat (llen (Go.Rou.wcR [(lzeros 32)] [(lset (lzeros 16) 0 1)] [120]))) 320) = true) → ((InB 0 (llen (Go.Rou.wcR [(lzeros 32)] [(lset (lzeros 16) 0 1)] [120]))) ∧ (rawake.k0 R  fuel 3992))) ∧ (((ieq (ofNat (llen (Go.Rou.wcR [(lzeros 32)] [(lset (lzeros 16) 0 1)] [120]))) 320) = false) → (rawake.k1 R  fuel 3992)))) ∧ (((bnot (seq2 (bytesOf (Go.Rou.kkR (lzeros 32) 1)) (bytesOf (lzeros 32)))) = false) → (rawake.k2 R  fuel 3992))))))) ∧ (((ieq (ofNat (llen (Go.Rou.kkR (lzeros 32) 1))) 32) = false) → ((rawake.k5 R  fuel 3992) ∧ ((rawake.k3 R  fuel 3992) ∧ (rawake.k3 R  fuel 3992)))))) ∧ (((ieq (Go.Rou.wcE [(lzeros 32)] [(lset (lzeros 16) 0 1)] [120]) 0) = false) → ((rawake.k5 R  fuel 3992) ∧ ((rawake.k4 R  fuel 3992) ∧ (rawake.k4 R  fuel 3992)))))) ∧ (((ieq (Go.Rou.kkE (lzeros 32) 1) 0) = false) → ((rawake.k5 R  fuel 3992) ∧ ((rawake.k5 R  fuel 3992) ∧ (rawake.k5 R  fuel 3992)))))))))))) := by kernel_rfl
def rright.l0 (R : AV → Mem → Prop) (KL NL : List (List Int)) (pay : List Int) (fuel : Nat) (x0 : Int) : Prop := rN Tryd.prog gamR1 [] Tryd.f14 R fuel [kc Tryd.f14 [1,1,0,1,0,0],ki Tryd.f14 [1,1,0,1,0,0],.inBlock 0,kc Tryd.f14 [1,1,1]] (Uu::AV.one (AC.ptr 1 0 0)::Uu::Ii x0::(us 39 [])) [(1,Blk.own 33 [Seg.cells [AC.vec 200000],Seg.cells [AC.vec 201000],Seg.cells [AC.vec 202000]]),(200000,Blk.rview [Col.rows IntKind.u8 KL]),(201000,Blk.rview [Col.arrs IntKind.u8 16 NL]),(202000,Blk.rview [Col.ints IntKind.u8 pay])]
theorem rright.l0_succ (R : AV → Mem → Prop) (KL NL : List (List Int)) (pay : List Int) (fuel : Nat) (x0 : Int) : rright.l0 R KL NL pay (fuel + 1) x0 = (((((ilt x0 (ofNat (llen KL))) = true) → ((InB x0 (llen KL)) ∧ ((((ine (ofNat (llen (llget KL (nat x0)))) 32) = true) → (R (Ll false) [(1,Blk.own 33 [Seg.cells [AC.vec 200000],Seg.cells [AC.vec 201000],Seg.cells [AC.vec 202000]]),(200000,Blk.rview [Col.rows IntKind.u8 KL]),(201000,Blk.rview [Col.arrs IntKind.u8 16 NL]),(202000,Blk.rview [Col.ints IntKind.u8 pay])])) ∧ (((ine (ofNat (llen (llget KL (nat x0)))) 32) = false) → (rright.l0 R KL NL pay fuel (add IntKind.i64 x0 1)))))) ∧ (((ilt x0 (ofNat (llen KL))) = false) → (R (Ll true) [(1,Blk.own 33 [Seg.cells [AC.vec 200000],Seg.cells [AC.vec 201000],Seg.cells [AC.vec 202000]]),(200000,Blk.rview [Col.rows IntKind.u8 KL]),(201000,Blk.rview [Col.arrs IntKind.u8 16 NL]),(202000,Blk.rview [Col.ints IntKind.u8 pay])])))) := by kernel_rfl
theorem rright_vc (R : AV → Mem → Prop) (fuel : Nat) (KL : List (List Int)) (NL : List (List Int)) (pay : List Int) : callsx Tryd.prog gamR1 [] Tryd.f14 (fuel + 1) [.agg [.cells [.vec 200000], .cells [.vec 201000], .cells [.vec 202000]]] [(200000, .rview [.rows .u8 KL]), (201000, .rview [.arrs .u8 16 NL]), (202000, .rview [.ints .u8 pay])] R = (((((ilt (ofNat (llen KL)) 1) = false) → ((((igt (ofNat (llen KL)) 8) = false) → ((((ine (ofNat (llen NL)) (ofNat (llen KL))) = false) → ((((igt (ofNat (llen pay)) 48) = true) → (R (AV.one (AC.lit false)) [(1, Blk.own 33 [(Seg.cells [(AC.vec 200000)]), (Seg.cells [(AC.vec 201000)]), (Seg.cells [(AC.vec 202000)])]), (200000, Blk.rview [(Col.rows IntKind.u8 KL)]), (201000, Blk.rview [(Col.arrs IntKind.u8 16 NL)]), (202000, Blk.rview [(Col.ints IntKind.u8 pay)])])) ∧ (((igt (ofNat (llen pay)) 48) = false) → (rright.l0 R KL NL pay fuel 0)))) ∧ (((ine (ofNat (llen NL)) (ofNat (llen KL))) = true) → (R (AV.one (AC.lit false)) [(1, Blk.own 33 [(Seg.cells [(AC.vec 200000)]), (Seg.cells [(AC.vec 201000)]), (Seg.cells [(AC.vec 202000)])]), (200000, Blk.rview [(Col.rows IntKind.u8 KL)]), (201000, Blk.rview [(Col.arrs IntKind.u8 16 NL)]), (202000, Blk.rview [(Col.ints IntKind.u8 pay)])])))) ∧ (((igt (ofNat (llen KL)) 8) = true) → (R (AV.one (AC.lit false)) [(1, Blk.own 33 [(Seg.cells [(AC.vec 200000)]), (Seg.cells [(AC.vec 201000)]), (Seg.cells [(AC.vec 202000)])]), (200000, Blk.rview [(Col.rows IntKind.u8 KL)]), (201000, Blk.rview [(Col.arrs IntKind.u8 16 NL)]), (202000, Blk.rview [(Col.ints IntKind.u8 pay)])])))) ∧ (((ilt (ofNat (llen KL)) 1) = true) → (R (AV.one (AC.lit false)) [(1, Blk.own 33 [(Seg.cells [(AC.vec 200000)]), (Seg.cells [(AC.vec 201000)]), (Seg.cells [(AC.vec 202000)])]), (200000, Blk.rview [(Col.rows IntKind.u8 KL)]), (201000, Blk.rview [(Col.arrs IntKind.u8 16 NL)]), (202000, Blk.rview [(Col.ints IntKind.u8 pay)])])))) := by kernel_rfl
end Go.Proofs.YtienfecnkglilaaDoor.G
namespace Go.Proofs.YtienfecnkglilaaDoor.G
open Go Go.Sx Go.Fld Go.Hsh Go.Mac Go.Blk Go.Cel Go.Oni Go.Rou
set_option maxRecDepth 20000
def rsaltN : List Nat := [0, 0, 0, 0, 0, 0, 0, 1]
def rhopN : List Nat := [99, 104, 117, 114, 110, 32, 104, 111, 112, 1]
def rz32 : List Nat := List.replicate 32 0
set_option maxRecDepth 100000 in
theorem rkey_first : (hmacN (hmacN rsaltN rz32) rhopN).getD 0 0 ≠ 0 := by decide +kernel
theorem rkey_one : kkR (lzeros 32) 1 = cN (hmacN (hmacN rsaltN rz32) rhopN) := by
 rw [kkR_eq]
 unfold rkR
 rw [if_pos (by decide)]
 have es : saltL 1 = cN rsaltN := by decide +kernel
 have e1 : hmac (cN rsaltN) (cN rz32) = cN (hmacN rsaltN rz32) := hmac_nat (k := rsaltN) (msg := rz32) (by decide) (by decide) (by decide) (by decide)
 have hb : Bs (cN (hmacN rsaltN rz32)) := by rw [← e1]; exact hmac_bytes _ _
 have hl : (hmacN rsaltN rz32).length = 32 := by rw [← cN_len, ← e1]; exact hmac_len _ _
 have e2 : hmac (cN (hmacN rsaltN rz32)) (cN rhopN) = cN (hmacN (hmacN rsaltN rz32) rhopN) := hmac_nat (k := hmacN rsaltN rz32) (msg := rhopN) (cN_lt hb) (by omega) (by decide) (by decide)
 have ez : (lzeros 32) = cN rz32 := by decide
 have eh : hopB ++ [1] = cN rhopN := by decide
 rw [es, ez, e1]
 have e3 := exR_first (m := 32) (k := 32) (by decide) (by decide) (by decide) (cN (hmacN rsaltN rz32)) hopB
 have l3 : (exR (cN (hmacN rsaltN rz32)) hopB ((32 : Nat) : Int)).length = 32 := exR_len (by decide) _ _
 rw [List.take_of_length_le (by omega), eh, e2, List.take_of_length_le (by rw [cN_len, ← cN_len, ← e2, hmac_len]; omega)] at e3
 exact e3
theorem rkey_len : (kkR (lzeros 32) 1).length = 32 := by
 rw [kkR_eq]; unfold rkR; rw [if_pos (by decide)]; exact exR_len (n := 32) (by decide) _ _
theorem rkey_not : kkR (lzeros 32) 1 ≠ lzeros 32 := by
 intro h
 rw [rkey_one] at h
 have this : lget (cN (hmacN (hmacN rsaltN rz32) rhopN)) 0 = lget (lzeros 32) 0 := congrArg (fun l => lget l 0) h
 have e : lget (cN (hmacN (hmacN rsaltN rz32) rhopN)) 0 = (((hmacN (hmacN rsaltN rz32) rhopN).getD 0 0 : Nat) : Int) := cN_get _ _
 rw [e] at this
 have z : lget (lzeros 32) 0 = 0 := by decide
 rw [z] at this
 exact rkey_first (by omega)
theorem one_chain : rcE [lzeros 32] [lset (lzeros 16) 0 1] [120] = 0 := by decide +kernel
theorem one_ncs : Ncs [lset (lzeros 16) 0 1] := ⟨by decide, fun i hi => by
 obtain rfl : i = 0 := by simp at hi; exact hi
 exact bl_of rfl ⟨by decide⟩⟩
theorem one_kys : Kys [lzeros 32] := ⟨by decide, fun i => by
 cases i with
 | zero => exact ⟨by decide, ⟨by decide⟩⟩
 | succ i => exact ⟨Nat.zero_le _, ⟨fun x hx => by cases hx⟩⟩⟩
theorem lget_left {a b : List Int} {i : Nat} (h : i < a.length) : lget (a ++ b) i = lget a i := by
 unfold lget; rw [List.getD_eq_getElem?_getD, List.getElem?_append_left h, ← List.getD_eq_getElem?_getD]
theorem padR_first {w : List Int} {i : Nat} (h : w.length ≤ 320) (hi : i < w.length) : lget (padR w) i = lget w i := by
 unfold padR; rw [if_pos h]; exact lget_left hi
theorem one_cell : (wcR [lzeros 32] [lset (lzeros 16) 0 1] [120]).length = 320 ∧ lget (wcR [lzeros 32] [lset (lzeros 16) 0 1] [120]) 0 = 1 := by
 have C := Ch.of (pay := [120]) one_ncs ⟨by decide⟩ one_chain
 have e : wcR [lzeros 32] [lset (lzeros 16) 0 1] [120] = padR (chainO (llget [lzeros 32]) (llget [lset (lzeros 16) 0 1]) 1 [120] 1) := by
  rw [wcR_eq]; unfold rcR; rw [if_pos one_chain]; rfl
 obtain ⟨l1, l2, l3⟩ := C.len 1 (by decide)
 have l2 := l2 (by decide)
 have b := C.layer (j := 0) (by decide)
 have l1' : (chainO (llget [lzeros 32]) (llget [lset (lzeros 16) 0 1]) 1 [120] 1).length = 82 := l2
 rw [e]
 refine ⟨pad_fill (by omega), ?_⟩
 rw [padR_first (by omega) (by omega)]
 have n : lsub (chainO (llget [lzeros 32]) (llget [lset (lzeros 16) 0 1]) 1 [120] 1) 0 16 = lset (lzeros 16) 0 1 := b.nn
 have this : lget (lsub (chainO (llget [lzeros 32]) (llget [lset (lzeros 16) 0 1]) 1 [120] 1) 0 16) 0 = lget (lset (lzeros 16) 0 1) 0 := congrArg (fun l => lget l 0) n
 rw [lget_lsub (by decide)] at this
 exact this
theorem good_rawake : Sx.Good Tryd.prog 9 yesR := by
 refine Sx.Good.reads (D := []) mixed gamR1_good Tryd.func9 (by kernel_rfl) rfl fun d args σ K h => ?_
 simp only [yesR] at h
 split at h <;> try exact h.elim
 obtain ⟨hr, hK⟩ := h
 refine ⟨_, _, .glob (roots_at hr) (by intro m; rfl) (.nil _), by simp, 1, ?_⟩
 have e := rawake_vc (Res d yesR.news σ K) 0
 refine e.mpr ?_
 obtain ⟨cl, c0⟩ := one_cell
 have g1 : ieq (kkE (lzeros 32) 1) 0 = true := by rw [kkE_eq]; decide
 have g2 : ieq (wcE [lzeros 32] [lset (lzeros 16) 0 1] [120]) 0 = true := by rw [wcE_eq, one_chain]; rfl
 have g3 : ieq (ofNat (llen (kkR (lzeros 32) 1))) 32 = true := by rw [ieq_true, ofNat_def, llen_def, rkey_len]; rfl
 have g4 : bnot (seq2 (bytesOf (kkR (lzeros 32) 1)) (bytesOf (lzeros 32))) = true := by
  rw [bnot_true]
  cases hq : seq2 (bytesOf (kkR (lzeros 32) 1)) (bytesOf (lzeros 32)) with
  | false => rfl
  | true => exact absurd (bytes_eq (kkR_bs _ _) ⟨by decide⟩ (seq2_true.mp hq)) rkey_not
 have g5 : ieq (ofNat (llen (wcR [lzeros 32] [lset (lzeros 16) 0 1] [120]))) 320 = true := by rw [ieq_true, ofNat_def, llen_def, cl]; rfl
 have k0 : ∀ M, rawake.k0 (Res d yesR.news σ K) 0 (M + 100) := fun M => by
  rw [rawake.k0_eq, c0]
  exact res_yes rfl hK
 have ib : InB 0 (llen (wcR [lzeros 32] [lset (lzeros 16) 0 1] [120])) := ⟨by decide, by rw [llen_def, cl]; decide⟩
 have mk : Mk 32 32 1 := ⟨by decide, by decide, by decide, by decide⟩
 simp only [g1, g2, g3, g4, g5, true_and, and_true, Bool.true_eq_false, false_implies, forall_const]
 have t : InB 0 (llen (wcR [lzeros 32] [lset (lzeros 16) 0 1] [120])) ∧ rawake.k0 (Res d yesR.news σ K) 0 3992 := ⟨ib, k0 3892⟩
 exact ⟨mk, ⟨⟨⟨by decide⟩, ⟨by decide⟩⟩, ⟨by decide, by decide⟩⟩, mk, ⟨by decide⟩, ⟨by decide, by decide⟩, ⟨one_kys, one_ncs, ⟨by decide, ⟨by decide⟩⟩⟩, ⟨mk, t⟩, mk, t, t⟩
theorem rres_lit {d : Nat} {σ σ' : Mem} {K : AV → Mem → Prop} {b c : Bool} (e : b = c) (hK : K (.one (.bool c)) σ) : Res d 0 σ K (.one (.lit b)) σ' := by
 subst e
 have hv : ResV [] d (.one (.lit b)) (.one (.bool b)) := Or.inl ⟨fun _ => rfl, fun _ => rfl, fun _ _ q => q⟩
 exact res_plain hv hK
theorem right_true {KL NL : List (List Int)} {pay : List Int} : rightB KL NL pay = true ↔ rcE KL NL pay = 0 := by unfold rightB; simp
theorem good_rright : Sx.Good Tryd.prog 14 rightS := by
 refine Sx.Good.reads (D := []) mixed gamR1_good Tryd.func14 (by kernel_rfl) rfl fun d args σ K h => ?_
 simp only [rightS] at h
 split at h <;> try exact h.elim
 rename_i x y z
 obtain ⟨KL, h, hrow⟩ := rdr_row h
 obtain ⟨NL, h, hrow1⟩ := rda_row h
 obtain ⟨pay, ⟨⟨hk, hn, hp⟩, hK⟩, hrow2⟩ := rdb_row h
 refine ⟨_, _, .aggs (.rowH [.rows .u8] _ (by decide) hrow (by decide) (.row [.arrs .u8 16] _ (by decide) hrow1 (by decide) (.row [.ints .u8] _ (by decide) hrow2 (by decide) (.nil _)))) (.nil _), by simp, ?_⟩
 have no : ∀ σ', rcE KL NL pay ≠ 0 → Res d rightS.news σ K (.one (.lit false)) σ' := fun σ' h0 => by
  refine rres_lit ?_ hK
  unfold rightB; rw [decide_eq_false h0]
 by_cases hgo : KL.length < 1 ∨ 8 < KL.length ∨ NL.length ≠ KL.length ∨ 48 < pay.length
 ·have h0 : rcE KL NL pay ≠ 0 := fun q => by
   obtain ⟨a, b⟩ := rcE_ok q
   obtain ⟨a1, a2, a3, a4⟩ := faE_ok a
   omega
  refine ⟨1, ?_⟩
  have e := rright_vc (Res d rightS.news σ K) 0 KL NL pay
  refine e.mpr ?_
  simp only [ofNat_def, llen_def]
  refine ⟨fun a => ⟨fun b => ⟨fun c => ⟨fun q => no _ h0, fun q => ?_⟩, fun c => no _ h0⟩, fun b => no _ h0⟩, fun a => no _ h0⟩
  rw [ilt_false] at a; rw [igt_false] at b; rw [ine_false] at c; rw [igt_false] at q; omega
 ·have hf80 : ∀ {b : Bool}, all32 KL = b → faE KL NL = if b = false then 2 else 0 := fun hb => by
   unfold faE; rw [if_neg (by omega), hb]
  have run : ∀ (k i : Nat), k = KL.length - i → i ≤ KL.length → (∀ j, j < i → (llget KL j).length = 32) → ∃ f, rright.l0 (Res d rightS.news σ K) KL NL pay f (i : Int) := by
   intro k
   induction k with
   | zero =>
    intro i hk0 hi hall
    obtain rfl : i = KL.length := by omega
    have h0 : rcE KL NL pay = 0 := by unfold rcE; rw [hf80 (all32_true.mpr hall), if_neg (by simp), if_neg (by omega)]
    refine ⟨1, ?_⟩
    rw [rright.l0_succ]
    refine ⟨fun q => ?_, fun _ => ?_⟩
    ·rw [ilt_true] at q; simp only [ofNat, llen] at q; omega
    ·refine rres_lit ?_ hK
     exact (right_true.mpr h0).symm
   | succ k ih =>
    intro i hk0 hi hall
    by_cases h32 : (llget KL i).length = 32
    ·obtain ⟨f, hf⟩ := ih (i + 1) (by omega) (by omega) (fun j hj => by
      by_cases e : j = i
      ·rw [e]; exact h32
      ·exact hall j (by omega))
     refine ⟨f + 1, ?_⟩
     rw [rright.l0_succ, add1_i64 (by omega)]
     simp only [nat_cast, ofNat_def, llen_def]
     refine ⟨fun _ => ⟨⟨by omega, by omega⟩, fun q => ?_, fun _ => hf⟩, fun q => ?_⟩
     ·rw [ine_true] at q; omega
     ·rw [ilt_false] at q; omega
    ·have h0 : rcE KL NL pay ≠ 0 := by unfold rcE; rw [hf80 (all32_false (show i < KL.length by omega) h32)]; simp
     refine ⟨1, ?_⟩
     rw [rright.l0_succ]
     simp only [nat_cast, ofNat_def, llen_def]
     refine ⟨fun _ => ⟨⟨by omega, by omega⟩, fun _ => no _ h0, fun q => ?_⟩, fun q => ?_⟩
     ·rw [ine_false] at q; omega
     ·rw [ilt_false] at q; omega
  obtain ⟨f, hf⟩ := run KL.length 0 rfl (by omega) (fun j hj => by omega)
  refine ⟨f + 1, ?_⟩
  have e := rright_vc (Res d rightS.news σ K) f KL NL pay
  refine e.mpr ?_
  simp only [ofNat_def, llen_def]
  refine ⟨fun a => ⟨fun b => ⟨fun c => ⟨fun q => ?_, fun q => hf⟩, fun c => ?_⟩, fun b => ?_⟩, fun a => ?_⟩
  ·rw [igt_true] at q; omega
  ·rw [ine_true] at c; omega
  ·rw [igt_true] at b; omega
  ·rw [ilt_true] at a; omega
theorem gamR2_good : GoodG Tryd.prog gamR2 := (gamR1_good.ext good_rawake ⟨_, Tryd.func9, by decide, by kernel_rfl⟩).ext good_rright ⟨_, Tryd.func14, by decide, by kernel_rfl⟩
end Go.Proofs.YtienfecnkglilaaDoor.G
namespace Go.Proofs.YtienfecnkglilaaDoor.G
open Go Go.Sx Go.Oni Go.Rou
set_option maxRecDepth 100000
def rowalk.k0 (R : AV → Mem → Prop) (x0 : Int) (KL : List (List Int)) (x1 : List Int) (x4 : List (List Int)) (x2 : List HS) (x3 : List (List Int)) (c : List Int) (fuel m : Nat) : Prop := rM Tryd.prog gamR0 [⟨6,[.rows .u8,.arrs .u8 16],true,false⟩,⟨1,[.ints .u8],false,false⟩] Tryd.f18 R fuel m [kc Tryd.f18 [1,1,1,0,1,0,0,1,1,0,0,1,1,1,1],.inBlock 1,kc Tryd.f18 [1,1,1,0,1,0,0,1,1,1],ki Tryd.f18 [1,1,1,0,1,0,0],.inBlock 0,kc Tryd.f18 [1,1,1,1]] (Vv 200000::Vv 100001::(us 4 (Vv 50::Ii x0::AV.one (AC.el 200000 0 (nat x0))::AV.one (AC.ptr 9 0 0)::Ii (pE (llget KL (nat x0)) (sub IntKind.i64 (ofNat (llen KL)) x0) x1)::(us 11 [Vv 200000,Ii (ofNat (llen KL)),Ii x0,Ll true,Ii x0,AV.one (AC.vptr 200000 1 (nat x0) 0 0),AV.one (AC.el 200000 0 (nat x0)),AV.tup [(TV.g [Seg.cells [AC.vec 36],Seg.ints IntKind.u8 16 (pR (llget KL (nat x0)) (sub IntKind.i64 (ofNat (llen KL)) x0) x1)]),TV.c (AC.int IntKind.i64 (pE (llget KL (nat x0)) (sub IntKind.i64 (ofNat (llen KL)) x0) x1))],AV.one (AC.el 200000 0 (nat x0)),Vv 200000,Ii (ofNat (llen KL)),Ii x0,Ii (sub IntKind.i64 (ofNat (llen KL)) x0),Vv 100001,AV.tup [(TV.g [Seg.cells [AC.vec 36],Seg.ints IntKind.u8 16 (pR (llget KL (nat x0)) (sub IntKind.i64 (ofNat (llen KL)) x0) x1)]),TV.c (AC.int IntKind.i64 (pE (llget KL (nat x0)) (sub IntKind.i64 (ofNat (llen KL)) x0) x1))],(AV.agg [Seg.cells [AC.vec 36],Seg.ints IntKind.u8 16 (pR (llget KL (nat x0)) (sub IntKind.i64 (ofNat (llen KL)) x0) x1)]),Ii (pE (llget KL (nat x0)) (sub IntKind.i64 (ofNat (llen KL)) x0) x1),Ii (pE (llget KL (nat x0)) (sub IntKind.i64 (ofNat (llen KL)) x0) x1),Ll false,Uu,Vv 100006,AV.one (AC.ptr 9 0 0),Vv 36,AV.one (AC.hs IntKind.u8 (llen x4) 0 (llen (lcat [] (pC (llget KL (nat x0)) (sub IntKind.i64 (ofNat (llen KL)) x0) x1)))),AV.one (AC.ptr 9 1 0),(AV.agg [Seg.ints IntKind.u8 16 (lsub (pR (llget KL (nat x0)) (sub IntKind.i64 (ofNat (llen KL)) x0) x1) 0 16)]),(AV.agg [Seg.cells [AC.hs IntKind.u8 (llen x4) 0 (llen (lcat [] (pC (llget KL (nat x0)) (sub IntKind.i64 (ofNat (llen KL)) x0) x1)))],Seg.ints IntKind.u8 16 (lput (lzeros 16) 0 (lsub (pR (llget KL (nat x0)) (sub IntKind.i64 (ofNat (llen KL)) x0) x1) 0 16))]),Vv 49,Vv 50,Uu,Uu,Uu,Zz])))) [(9,Blk.own 39 [Seg.cells [AC.vec 36],Seg.ints IntKind.u8 16 (pR (llget KL (nat x0)) (sub IntKind.i64 (ofNat (llen KL)) x0) x1)]),(36,Blk.vec [Col.ints IntKind.u8 (pC (llget KL (nat x0)) (sub IntKind.i64 (ofNat (llen KL)) x0) x1)]),(49,Blk.vec [Col.hss IntKind.u8 [(HS.mk (llen x4) 0 (llen (lcat [] (pC (llget KL (nat x0)) (sub IntKind.i64 (ofNat (llen KL)) x0) x1))))],Col.arrs IntKind.u8 16 [(lput (lzeros 16) 0 (lsub (pR (llget KL (nat x0)) (sub IntKind.i64 (ofNat (llen KL)) x0) x1) 0 16))]]),(50,Blk.vec [Col.hss IntKind.u8 (lcat x2 [(HS.mk (llen x4) 0 (llen (lcat [] (pC (llget KL (nat x0)) (sub IntKind.i64 (ofNat (llen KL)) x0) x1))))]),Col.arrs IntKind.u8 16 (lcat x3 [(lput (lzeros 16) 0 (lsub (pR (llget KL (nat x0)) (sub IntKind.i64 (ofNat (llen KL)) x0) x1) 0 16))])]),(100001,Blk.rview [Col.ints IntKind.u8 x1]),(200000,Blk.rview [Col.rows IntKind.u8 KL]),(200001,Blk.rview [Col.ints IntKind.u8 c]),(900004,Blk.heap IntKind.u8 (List.append x4 [(lcat [] (pC (llget KL (nat x0)) (sub IntKind.i64 (ofNat (llen KL)) x0) x1))])),(1000000,Blk.view [Seg.ints IntKind.u32 64 Go.Hsh.rootsL])]
def rowalk.l0 (R : AV → Mem → Prop) (KL : List (List Int)) (c : List Int) (fuel : Nat) (x0 : Int) (x1 : List Int) (x2 : List HS) (x3 x4 : List (List Int)) : Prop := rN Tryd.prog gamR0 [⟨6,[.rows .u8,.arrs .u8 16],true,false⟩,⟨1,[.ints .u8],false,false⟩] Tryd.f18 R fuel [kc Tryd.f18 [1,1,1,0,1,0,0],ki Tryd.f18 [1,1,1,0,1,0,0],.inBlock 0,kc Tryd.f18 [1,1,1,1]] (Vv 200000::Vv 100001::(us 4 (Vv 100006::(us 15 (Vv 200000::Ii (ofNat (llen KL))::Ii x0::(us 29 [Zz])))))) [(100001,Blk.rview [Col.ints IntKind.u8 x1]),(100006,Blk.vec [Col.hss IntKind.u8 x2,Col.arrs IntKind.u8 16 x3]),(200000,Blk.rview [Col.rows IntKind.u8 KL]),(200001,Blk.rview [Col.ints IntKind.u8 c]),(900004,Blk.heap IntKind.u8 x4),(1000000,Blk.view [Seg.ints IntKind.u32 64 Go.Hsh.rootsL])]
theorem rowalk.k0_eq (R : AV → Mem → Prop) (x0 : Int) (KL : List (List Int)) (x1 : List Int) (x4 : List (List Int)) (x2 : List HS) (x3 : List (List Int)) (c : List Int) (fuel m : Nat) : rowalk.k0 R x0 KL x1 x4 x2 x3 c fuel (m + 100) = ((let y5 : List Int := (lput (lzeros 16) 0 (lsub (pR (llget KL (nat x0)) (sub IntKind.i64 (ofNat (llen KL)) x0) x1) 0 16)); (let y6 : List HS := [(HS.mk (llen x4) 0 (llen (lcat [] (pC (llget KL (nat x0)) (sub IntKind.i64 (ofNat (llen KL)) x0) x1))))]; (let y7 : List (List Int) := [(lput (lzeros 16) 0 (lsub (pR (llget KL (nat x0)) (sub IntKind.i64 (ofNat (llen KL)) x0) x1) 0 16))]; (let y8 : List HS := (lcat x2 [(HS.mk (llen x4) 0 (llen (lcat [] (pC (llget KL (nat x0)) (sub IntKind.i64 (ofNat (llen KL)) x0) x1))))]); (let y9 : List (List Int) := (lcat x3 [(lput (lzeros 16) 0 (lsub (pR (llget KL (nat x0)) (sub IntKind.i64 (ofNat (llen KL)) x0) x1) 0 16))]); (rowalk.l0 R KL c fuel (add IntKind.i64 x0 1) (pC (llget KL (nat x0)) (sub IntKind.i64 (ofNat (llen KL)) x0) x1) y8 y9 (List.append x4 [(lcat [] (pC (llget KL (nat x0)) (sub IntKind.i64 (ofNat (llen KL)) x0) x1))])))))))) := by kernel_rfl
theorem rowalk.l0_succ (R : AV → Mem → Prop) (KL : List (List Int)) (c : List Int) (fuel : Nat) (x0 : Int) (x1 : List Int) (x2 : List HS) (x3 x4 : List (List Int)) : rowalk.l0 R KL c (fuel + 1) x0 x1 x2 x3 x4 = (((((ilt x0 (ofNat (llen KL))) = true) → ((InB x0 (llen KL)) ∧ (((Go.Hsh.rootsL = Go.Hsh.rootsL) ∧ ((Ky (llget KL (nat x0))) ∧ ((Lf (sub IntKind.i64 (ofNat (llen KL)) x0)) ∧ (In x1)))) ∧ ((((ine (pE (llget KL (nat x0)) (sub IntKind.i64 (ofNat (llen KL)) x0) x1) 0) = true) → (R (AV.tup [TV.c (AC.con (Value.slice (Option.none) 0 0)),TV.c (AC.int IntKind.i64 (pE (llget KL (nat x0)) (sub IntKind.i64 (ofNat (llen KL)) x0) x1))]) [(9,Blk.own 39 [Seg.cells [AC.vec 36],Seg.ints IntKind.u8 16 (pR (llget KL (nat x0)) (sub IntKind.i64 (ofNat (llen KL)) x0) x1)]),(36,Blk.vec [Col.ints IntKind.u8 (pC (llget KL (nat x0)) (sub IntKind.i64 (ofNat (llen KL)) x0) x1)]),(100001,Blk.rview [Col.ints IntKind.u8 x1]),(100006,Blk.vec [Col.hss IntKind.u8 x2,Col.arrs IntKind.u8 16 x3]),(200000,Blk.rview [Col.rows IntKind.u8 KL]),(200001,Blk.rview [Col.ints IntKind.u8 c]),(900004,Blk.heap IntKind.u8 x4),(1000000,Blk.view [Seg.ints IntKind.u32 64 Go.Hsh.rootsL])])) ∧ (((ine (pE (llget KL (nat x0)) (sub IntKind.i64 (ofNat (llen KL)) x0) x1) 0) = false) → ((((Room (nadd 0 (llen (pC (llget KL (nat x0)) (sub IntKind.i64 (ofNat (llen KL)) x0) x1))) 1) ∧ ((Fits 16 16) ∧ ((Fits 16 16) ∧ ((Room (nadd (llen x2) (llen [(HS.mk (llen x4) 0 (llen (lcat [] (pC (llget KL (nat x0)) (sub IntKind.i64 (ofNat (llen KL)) x0) x1))))])) 40) ∧ (rowalk.k0 R x0 KL x1 x4 x2 x3 c fuel 3982))))) ∧ ((Fits 16 16) ∧ ((Room (nadd 0 (llen (pC (llget KL (nat x0)) (sub IntKind.i64 (ofNat (llen KL)) x0) x1))) 1) ∧ ((Fits 16 16) ∧ ((Room (nadd (llen x2) (llen [(HS.mk (llen x4) 0 (llen (lcat [] (pC (llget KL (nat x0)) (sub IntKind.i64 (ofNat (llen KL)) x0) x1))))])) 40) ∧ (rowalk.k0 R x0 KL x1 x4 x2 x3 c fuel 3982)))))) ∧ ((Fits 16 16) ∧ ((Room (nadd 0 (llen (pC (llget KL (nat x0)) (sub IntKind.i64 (ofNat (llen KL)) x0) x1))) 1) ∧ ((Fits 16 16) ∧ ((Room (nadd (llen x2) (llen [(HS.mk (llen x4) 0 (llen (lcat [] (pC (llget KL (nat x0)) (sub IntKind.i64 (ofNat (llen KL)) x0) x1))))])) 40) ∧ (rowalk.k0 R x0 KL x1 x4 x2 x3 c fuel 3982))))))))))) ∧ (((ilt x0 (ofNat (llen KL))) = false) → (R (AV.tup [TV.c (AC.vec 100006),TV.c (AC.int IntKind.i64 0)]) [(100001,Blk.rview [Col.ints IntKind.u8 x1]),(100006,Blk.vec [Col.hss IntKind.u8 x2,Col.arrs IntKind.u8 16 x3]),(200000,Blk.rview [Col.rows IntKind.u8 KL]),(200001,Blk.rview [Col.ints IntKind.u8 c]),(900004,Blk.heap IntKind.u8 x4),(1000000,Blk.view [Seg.ints IntKind.u32 64 Go.Hsh.rootsL])])))) := by kernel_rfl
theorem rowalk_vc (R : AV → Mem → Prop) (fuel : Nat) (KL : List (List Int)) (c : List Int) : callsx Tryd.prog gamR0 [⟨6, [.rows .u8, .arrs .u8 16], true, false⟩, ⟨1, [.ints .u8], false, false⟩] Tryd.f18 (fuel + 1) [.one (.vec 200000), .one (.vec 200001)] [(200000, .rview [.rows .u8 KL]), (200001, .rview [.ints .u8 c]), (900004, .heap .u8 [[]]), (1000000 + 0, .view [.ints .u32 64 Go.Hsh.rootsL])] R = (((((ilt (ofNat (llen KL)) 1) = false) → ((((igt (ofNat (llen KL)) 8) = true) → (R (AV.tup [(TV.c (AC.con (Value.slice (Option.none) 0 0))), (TV.c (AC.int IntKind.i64 80))]) [(200000, Blk.rview [(Col.rows IntKind.u8 KL)]), (200001, Blk.rview [(Col.ints IntKind.u8 c)]), (900004, Blk.heap IntKind.u8 [[]]), (1000000, Blk.view [(Seg.ints IntKind.u32 64 Go.Hsh.rootsL)])])) ∧ (((igt (ofNat (llen KL)) 8) = false) → ((Mk 0 (ofNat (llen KL)) 40) ∧ (rowalk.l0 R KL c fuel 0 c (hzeros 0) (azeros 0 16) [[]]))))) ∧ (((ilt (ofNat (llen KL)) 1) = true) → (R (AV.tup [(TV.c (AC.con (Value.slice (Option.none) 0 0))), (TV.c (AC.int IntKind.i64 80))]) [(200000, Blk.rview [(Col.rows IntKind.u8 KL)]), (200001, Blk.rview [(Col.ints IntKind.u8 c)]), (900004, Blk.heap IntKind.u8 [[]]), (1000000, Blk.view [(Seg.ints IntKind.u32 64 Go.Hsh.rootsL)])])))) := by kernel_rfl
def rrwalk.l1 (R : AV → Mem → Prop) (KL : List (List Int)) (c : List Int) (fuel x0 x1 : Nat) (x2 : Int) (x3 : List HS) (x4 x5 : List (List Int)) : Prop := rN Tryd.prog gamR0 [⟨7,[.rows .u8,.arrs .u8 16],true,false⟩,⟨1,[.ints .u8],false,false⟩] Tryd.f17 R fuel [kc Tryd.f17 [1,1,1,1,0,1,0,0],ki Tryd.f17 [1,1,1,1,0,1,0,0],.inBlock 0,kc Tryd.f17 [1,1,1,1,1]] (Vv 200000::AV.one (AC.hs IntKind.u8 x0 0 x1)::(us 4 (Ii (ofNat (llen KL))::Vv 100007::Ii x2::(us 36 [Zz])))) [(100007,Blk.vec [Col.hss IntKind.u8 x3,Col.arrs IntKind.u8 16 x4]),(200000,Blk.rview [Col.rows IntKind.u8 KL]),(200001,Blk.rview [Col.ints IntKind.u8 c]),(900004,Blk.heap IntKind.u8 x5)]
def rrwalk.l0 (R : AV → Mem → Prop) (KL : List (List Int)) (c : List Int) (fuel : Nat)  : Prop := rN Tryd.prog gamR0 [⟨7,[.rows .u8,.arrs .u8 16],true,false⟩,⟨1,[.ints .u8],false,false⟩] Tryd.f17 R fuel [kc Tryd.f17 [1,1,1,1,0,1,0,0],ki Tryd.f17 [1,1,1,1,0,1,0,0],.inBlock 0,kc Tryd.f17 [1,1,1,1,1]] (Vv 200000::Vv 100001::(us 4 (Ii (ofNat (llen KL))::Vv 100007::Ii 0::(us 36 [Zz])))) [(100001,Blk.rview [Col.ints IntKind.u8 c]),(100007,Blk.vec [Col.hss IntKind.u8 [],Col.arrs IntKind.u8 16 []]),(200000,Blk.rview [Col.rows IntKind.u8 KL]),(200001,Blk.rview [Col.ints IntKind.u8 c]),(900004,Blk.heap IntKind.u8 [[]])]
theorem rrwalk.l1_succ (R : AV → Mem → Prop) (KL : List (List Int)) (c : List Int) (fuel x0 x1 : Nat) (x2 : Int) (x3 : List HS) (x4 x5 : List (List Int)) : rrwalk.l1 R KL c (fuel + 1) x0 x1 x2 x3 x4 x5 = (((((ilt x2 (ofNat (llen KL))) = true) → ((InB x2 (llen KL)) ∧ (((Ky (llget KL (nat x2))) ∧ ((Lf (sub IntKind.i64 (ofNat (llen KL)) x2)) ∧ (In (lsub (llget x5 x0) 0 x1)))) ∧ (let y6 : Bool := (ine (pE (llget KL (nat x2)) (sub IntKind.i64 (ofNat (llen KL)) x2) (lsub (llget x5 x0) 0 x1)) 0); (((y6 = true) → (R (AV.tup [TV.c (AC.con (Value.slice (Option.none) 0 0)),TV.c (AC.int IntKind.i64 (pE (llget KL (nat x2)) (sub IntKind.i64 (ofNat (llen KL)) x2) (lsub (llget x5 x0) 0 x1)))]) [(9,Blk.own 39 [Seg.cells [AC.vec 33],Seg.ints IntKind.u8 16 (pR (llget KL (nat x2)) (sub IntKind.i64 (ofNat (llen KL)) x2) (lsub (llget x5 x0) 0 x1))]),(33,Blk.vec [Col.ints IntKind.u8 (pC (llget KL (nat x2)) (sub IntKind.i64 (ofNat (llen KL)) x2) (lsub (llget x5 x0) 0 x1))]),(100007,Blk.vec [Col.hss IntKind.u8 x3,Col.arrs IntKind.u8 16 x4]),(200000,Blk.rview [Col.rows IntKind.u8 KL]),(200001,Blk.rview [Col.ints IntKind.u8 c]),(900004,Blk.heap IntKind.u8 x5)])) ∧ ((y6 = false) → ((Room (nadd (llen x3) (llen [(HS.mk (llen x5) 0 (llen (pC (llget KL (nat x2)) (sub IntKind.i64 (ofNat (llen KL)) x2) (lsub (llget x5 x0) 0 x1))))])) 40) ∧ (let y7 : Nat := (llen (pC (llget KL (nat x2)) (sub IntKind.i64 (ofNat (llen KL)) x2) (lsub (llget x5 x0) 0 x1))); (let y8 : List HS := [(HS.mk (llen x5) 0 (llen (pC (llget KL (nat x2)) (sub IntKind.i64 (ofNat (llen KL)) x2) (lsub (llget x5 x0) 0 x1))))]; (let y9 : List HS := (lcat x3 [(HS.mk (llen x5) 0 (llen (pC (llget KL (nat x2)) (sub IntKind.i64 (ofNat (llen KL)) x2) (lsub (llget x5 x0) 0 x1))))]); (let y10 : List (List Int) := (lcat x4 [(pR (llget KL (nat x2)) (sub IntKind.i64 (ofNat (llen KL)) x2) (lsub (llget x5 x0) 0 x1))]); (let y11 : List (List Int) := (List.append x5 [(pC (llget KL (nat x2)) (sub IntKind.i64 (ofNat (llen KL)) x2) (lsub (llget x5 x0) 0 x1))]); (rrwalk.l1 R KL c fuel (llen x5) y7 (add IntKind.i64 x2 1) y9 y10 y11))))))))))))) ∧ (((ilt x2 (ofNat (llen KL))) = false) → (R (AV.tup [TV.c (AC.vec 100007),TV.c (AC.int IntKind.i64 0)]) [(100007,Blk.vec [Col.hss IntKind.u8 x3,Col.arrs IntKind.u8 16 x4]),(200000,Blk.rview [Col.rows IntKind.u8 KL]),(200001,Blk.rview [Col.ints IntKind.u8 c]),(900004,Blk.heap IntKind.u8 x5)])))) := by kernel_rfl
theorem rrwalk.l0_succ (R : AV → Mem → Prop) (KL : List (List Int)) (c : List Int) (fuel : Nat)  : rrwalk.l0 R KL c (fuel + 1)  = (((((ilt 0 (ofNat (llen KL))) = true) → ((InB 0 (llen KL)) ∧ (((Ky (llget KL 0)) ∧ ((Lf (sub IntKind.i64 (ofNat (llen KL)) 0)) ∧ (In c))) ∧ ((((ine (pE (llget KL 0) (sub IntKind.i64 (ofNat (llen KL)) 0) c) 0) = true) → (R (AV.tup [TV.c (AC.con (Value.slice (Option.none) 0 0)),TV.c (AC.int IntKind.i64 (pE (llget KL 0) (sub IntKind.i64 (ofNat (llen KL)) 0) c))]) [(9,Blk.own 39 [Seg.cells [AC.vec 33],Seg.ints IntKind.u8 16 (pR (llget KL 0) (sub IntKind.i64 (ofNat (llen KL)) 0) c)]),(33,Blk.vec [Col.ints IntKind.u8 (pC (llget KL 0) (sub IntKind.i64 (ofNat (llen KL)) 0) c)]),(100001,Blk.rview [Col.ints IntKind.u8 c]),(100007,Blk.vec [Col.hss IntKind.u8 [],Col.arrs IntKind.u8 16 []]),(200000,Blk.rview [Col.rows IntKind.u8 KL]),(200001,Blk.rview [Col.ints IntKind.u8 c]),(900004,Blk.heap IntKind.u8 [[]])])) ∧ (((ine (pE (llget KL 0) (sub IntKind.i64 (ofNat (llen KL)) 0) c) 0) = false) → ((Room (nadd 0 (llen [(HS.mk 1 0 (llen (pC (llget KL 0) (sub IntKind.i64 (ofNat (llen KL)) 0) c)))])) 40) ∧ (rrwalk.l1 R KL c fuel 1 (llen (pC (llget KL 0) (sub IntKind.i64 (ofNat (llen KL)) 0) c)) 1 (lcat [] [(HS.mk 1 0 (llen (pC (llget KL 0) (sub IntKind.i64 (ofNat (llen KL)) 0) c)))]) (lcat [] [(pR (llget KL 0) (sub IntKind.i64 (ofNat (llen KL)) 0) c)]) [[],(pC (llget KL 0) (sub IntKind.i64 (ofNat (llen KL)) 0) c)]))))))) ∧ (((ilt 0 (ofNat (llen KL))) = false) → (R (AV.tup [TV.c (AC.vec 100007),TV.c (AC.int IntKind.i64 0)]) [(100001,Blk.rview [Col.ints IntKind.u8 c]),(100007,Blk.vec [Col.hss IntKind.u8 [],Col.arrs IntKind.u8 16 []]),(200000,Blk.rview [Col.rows IntKind.u8 KL]),(200001,Blk.rview [Col.ints IntKind.u8 c]),(900004,Blk.heap IntKind.u8 [[]])])))) := by kernel_rfl
theorem rrwalk_vc (R : AV → Mem → Prop) (fuel : Nat) (KL : List (List Int)) (c : List Int) : callsx Tryd.prog gamR0 [⟨7, [.rows .u8, .arrs .u8 16], true, false⟩, ⟨1, [.ints .u8], false, false⟩] Tryd.f17 (fuel + 1) [.one (.vec 200000), .one (.vec 200001)] [(200000, .rview [.rows .u8 KL]), (200001, .rview [.ints .u8 c]), (900004, .heap .u8 [[]])] R = (((((ilt (ofNat (llen KL)) 1) = false) → ((((igt (ofNat (llen KL)) 8) = true) → (R (AV.tup [(TV.c (AC.con (Value.slice (Option.none) 0 0))), (TV.c (AC.int IntKind.i64 80))]) [(200000, Blk.rview [(Col.rows IntKind.u8 KL)]), (200001, Blk.rview [(Col.ints IntKind.u8 c)]), (900004, Blk.heap IntKind.u8 [[]])])) ∧ (((igt (ofNat (llen KL)) 8) = false) → (rrwalk.l0 R KL c fuel )))) ∧ (((ilt (ofNat (llen KL)) 1) = true) → (R (AV.tup [(TV.c (AC.con (Value.slice (Option.none) 0 0))), (TV.c (AC.int IntKind.i64 80))]) [(200000, Blk.rview [(Col.rows IntKind.u8 KL)]), (200001, Blk.rview [(Col.ints IntKind.u8 c)]), (900004, Blk.heap IntKind.u8 [[]])])))) := by kernel_rfl
def rsame.k0 (R : AV → Mem → Prop) (x0 : Int) (a r s b : List (List Int)) (fuel m : Nat) : Prop := rM Tryd.prog gam0 [] Tryd.f19 R fuel m [kc Tryd.f19 [1,1,0,1,0,0,1,0,0,1],.inBlock 1,kc Tryd.f19 [1,1,0,1,0,0,1,1],ki Tryd.f19 [1,1,0,1,0,0],.inBlock 0,kc Tryd.f19 [1,1,1]] (Vv 200000::Vv 200001::Uu::Uu::Uu::Ii x0::(us 5 [Ii x0,Vv 200000,Ii (ofNat (llen a)),Ll true,Uu,Uu,Vv 200000,Ii x0,AV.one (AC.vptr 200000 17 (nat x0) 0 0),AV.one (AC.vptr 200000 17 (nat x0) 1 0),(AV.agg [Seg.ints IntKind.u8 16 (llget r (nat x0))]),Vv 200001,Ii x0,AV.one (AC.vptr 200001 17 (nat x0) 0 0),AV.one (AC.vptr 200001 17 (nat x0) 1 0),(AV.agg [Seg.ints IntKind.u8 16 (llget s (nat x0))]),Bb (bnot (leq (llget r (nat x0)) (llget s (nat x0)))),Ll false,Vv 200000,Ii x0,AV.one (AC.vptr 200000 17 (nat x0) 0 0),AV.one (AC.vptr 200000 17 (nat x0) 0 0),AV.one (AC.el 200000 0 (nat x0)),AV.one (AC.str (bytesOf (llget a (nat x0)))),Vv 200001,Ii x0,AV.one (AC.vptr 200001 17 (nat x0) 0 0),AV.one (AC.vptr 200001 17 (nat x0) 0 0),AV.one (AC.el 200001 0 (nat x0)),AV.one (AC.str (bytesOf (llget b (nat x0)))),Bb (bnot (seq2 (bytesOf (llget a (nat x0))) (bytesOf (llget b (nat x0))))),Bb (bnot (seq2 (bytesOf (llget a (nat x0))) (bytesOf (llget b (nat x0)))))])) [(200000,Blk.rview [Col.rows IntKind.u8 a,Col.arrs IntKind.u8 16 r]),(200001,Blk.rview [Col.rows IntKind.u8 b,Col.arrs IntKind.u8 16 s])]
def rsame.l0 (R : AV → Mem → Prop) (a r b s : List (List Int)) (fuel : Nat) (x0 : Int) : Prop := rN Tryd.prog gam0 [] Tryd.f19 R fuel [kc Tryd.f19 [1,1,0,1,0,0],ki Tryd.f19 [1,1,0,1,0,0],.inBlock 0,kc Tryd.f19 [1,1,1]] (Vv 200000::Vv 200001::Uu::Uu::Uu::Ii x0::(us 37 [])) [(200000,Blk.rview [Col.rows IntKind.u8 a,Col.arrs IntKind.u8 16 r]),(200001,Blk.rview [Col.rows IntKind.u8 b,Col.arrs IntKind.u8 16 s])]
theorem rsame.k0_eq (R : AV → Mem → Prop) (x0 : Int) (a r s b : List (List Int)) (fuel m : Nat) : rsame.k0 R x0 a r s b fuel (m + 100) = (((((bnot (seq2 (bytesOf (llget a (nat x0))) (bytesOf (llget b (nat x0))))) = true) → (R (Ll false) [(200000,Blk.rview [Col.rows IntKind.u8 a,Col.arrs IntKind.u8 16 r]),(200001,Blk.rview [Col.rows IntKind.u8 b,Col.arrs IntKind.u8 16 s])])) ∧ (((bnot (seq2 (bytesOf (llget a (nat x0))) (bytesOf (llget b (nat x0))))) = false) → (rsame.l0 R a r b s fuel (add IntKind.i64 x0 1))))) := by kernel_rfl
theorem rsame.l0_succ (R : AV → Mem → Prop) (a r b s : List (List Int)) (fuel : Nat) (x0 : Int) : rsame.l0 R a r b s (fuel + 1) x0 = (((((ilt x0 (ofNat (llen a))) = true) → ((InB x0 (llen a)) ∧ ((InB x0 (llen b)) ∧ ((((bnot (leq (llget r (nat x0)) (llget s (nat x0)))) = false) → ((InB x0 (llen a)) ∧ ((InB x0 (llen b)) ∧ ((rsame.k0 R x0 a r s b fuel 3991) ∧ (rsame.k0 R x0 a r s b fuel 3991))))) ∧ (((bnot (leq (llget r (nat x0)) (llget s (nat x0)))) = true) → ((R (Ll false) [(200000,Blk.rview [Col.rows IntKind.u8 a,Col.arrs IntKind.u8 16 r]),(200001,Blk.rview [Col.rows IntKind.u8 b,Col.arrs IntKind.u8 16 s])]) ∧ (R (Ll false) [(200000,Blk.rview [Col.rows IntKind.u8 a,Col.arrs IntKind.u8 16 r]),(200001,Blk.rview [Col.rows IntKind.u8 b,Col.arrs IntKind.u8 16 s])]))))))) ∧ (((ilt x0 (ofNat (llen a))) = false) → (R (Ll true) [(200000,Blk.rview [Col.rows IntKind.u8 a,Col.arrs IntKind.u8 16 r]),(200001,Blk.rview [Col.rows IntKind.u8 b,Col.arrs IntKind.u8 16 s])])))) := by kernel_rfl
theorem rsame_vc (R : AV → Mem → Prop) (fuel : Nat) (a : List (List Int)) (r : List (List Int)) (b : List (List Int)) (s : List (List Int)) : callsx Tryd.prog gam0 [] Tryd.f19 (fuel + 1) [.one (.vec 200000), .one (.vec 200001)] [(200000, .rview [.rows .u8 a, .arrs .u8 16 r]), (200001, .rview [.rows .u8 b, .arrs .u8 16 s])] R = (((((ine (ofNat (llen a)) (ofNat (llen b))) = true) → (R (AV.one (AC.lit false)) [(200000, Blk.rview [(Col.rows IntKind.u8 a), (Col.arrs IntKind.u8 16 r)]), (200001, Blk.rview [(Col.rows IntKind.u8 b), (Col.arrs IntKind.u8 16 s)])])) ∧ (((ine (ofNat (llen a)) (ofNat (llen b))) = false) → (rsame.l0 R a r b s fuel 0)))) := by kernel_rfl
end Go.Proofs.YtienfecnkglilaaDoor.G
namespace Go.Sx
open Go
inductive CanonH (σ : Mem) : Nat → List AV → List AV → Mem → Prop
 | nil (j : Nat) : CanonH σ j [] [] []
 | same {j : Nat} {x : AV} {xs ys : List AV} {τ : Mem} : (∀ m, x.refs m = true → isHeap m = true) → CanonH σ (j + 1) xs ys τ → CanonH σ j (x :: xs) (x :: ys) τ
 | row {j n : Nat} {xs ys : List AV} {τ : Mem} (cs : List Col) : Mem.cols σ n = some cs → CanonH σ (j + 1) xs ys τ → CanonH σ j (.one (.vec n) :: xs) (.one (.vec (200000 + j)) :: ys) ((200000 + j, .rview cs) :: τ)
 | glob {j g : Nat} {b : Blk} {xs ys : List AV} {τ : Mem} : Mem.find σ (gname g) = some b → (∀ m, segsRefs m b.segs = false) → CanonH σ j xs ys τ → CanonH σ j xs ys ((gname g, .view b.segs) :: τ)
def notHeap : Blk → Bool
 | .heap _ _ => false
 | _ => true
theorem canonH_sound {σ τ : Mem} {ρ : Rho} {w : World} (hm : MemRep ρ σ w) (hs : Sep ρ σ) : ∀ {j : Nat} {xs ys : List AV}, CanonH σ j xs ys τ → ∀ (vals : List Value), j + xs.length ≤ 1000 → xs.length = vals.length → (∀ (i : Nat) x v, xs[i]? = some x → vals[i]? = some v → SRep ρ x v) →
  ys.length = vals.length ∧ ∃ Ls : Nat → Loc, ∀ ρc : Rho, (∀ i, j ≤ i → i < j + xs.length → ρc (200000 + i) = Ls i) → (∀ g, ρc (gname g) = ρ (gname g)) → (∀ n, isHeap n = true → ρc n = ρ n) →
   (∀ (i : Nat) y v, ys[i]? = some y → vals[i]? = some v → SRep ρc y v) ∧ MemRep ρc τ w ∧ ∀ n b, Mem.find τ n = some b → isHeap n = false ∧ (∀ k, ¬ Out ρc n b k) ∧ ∀ k, Foot ρc n b k → ∃ m c, Mem.find σ m = some c ∧ notHeap c = true ∧ Foot ρ m c k := by
 intro j xs ys h
 induction h with
 | nil j => intro vals _ hl _; exact ⟨hl, fun _ => loc0, fun ρc _ _ _ => ⟨fun i y v hy => by simp at hy, fun n b hb => by simp [Mem.find] at hb, fun n b hb => by simp [Mem.find] at hb⟩⟩
 | @same j x xs ys τ hp _ ih =>
  intro vals hj hl hv
  cases vals with
  | nil => simp at hl
  | cons v vals =>
   obtain ⟨h1, Ls, h2⟩ := ih vals (by simp only [List.length_cons] at hj; omega) (by simpa using hl) (fun i x u hx hu => hv (i + 1) x u (by simpa using hx) (by simpa using hu))
   refine ⟨by simpa using h1, Ls, fun ρc hc hcg hch => ?_⟩
   obtain ⟨g1, g2⟩ := h2 ρc (fun i hi hlt => hc i (by omega) (by simp only [List.length_cons]; omega)) hcg hch
   refine ⟨fun i y u hy hu => ?_, g2⟩
   cases i with
   | zero => simp at hy hu; subst hy hu; exact (hv 0 x v rfl rfl).agree fun n hn => .of_eq (hch n (hp n hn))
   | succ i => exact g1 i y u (by simpa using hy) (by simpa using hu)
 | @row j n xs ys τ cs hcs _ ih =>
  intro vals hjl hl hv
  cases vals with
  | nil => simp at hl
  | cons v vals =>
   simp only [List.length_cons] at hjl
   obtain ⟨h1, Ls, h2⟩ := ih vals (by omega) (by simpa using hl) (fun i x u hx hu => hv (i + 1) x u (by simpa using hx) (by simpa using hu))
   have hR := reads_vec hm hs hcs (hv 0 _ v rfl rfl)
   obtain ⟨_, b0, hb0, hbb, hf⟩ := cols_sound hm hcs
   refine ⟨by simpa using h1, fun i => if i = j then ρ n else Ls i, fun ρc hc hcg hch => ?_⟩
   have hj : ρc (200000 + j) = ρ n := by have q := hc j (Nat.le_refl _) (by simp); simpa using q
   obtain ⟨g1, g2, g3⟩ := h2 ρc (fun i hi hlt => by rw [hc i (by omega) (by simp only [List.length_cons]; omega)]; show (if i = j then _ else Ls i) = Ls i; rw [if_neg (by omega)]) hcg hch
   refine ⟨fun i y u hy hu => ?_, fun m b hb => ?_, fun m b hb => ?_⟩
   ·cases i with
    | zero =>
     simp at hy hu
     subst hy hu
     show v = _
     rw [hj]; exact hR.val
    | succ i => exact g1 i y u (by simpa using hy) (by simpa using hu)
   ·simp only [Mem.find] at hb
    split at hb
    ·rename_i e; subst e; cases hb
     exact ⟨by rw [hj]; exact hR.rep, by rw [hj]; exact hR.lnk.heaps hch⟩
    ·exact g2 m b hb
   ·simp only [Mem.find] at hb
    split at hb
    ·rename_i e; subst e; cases hb
     refine ⟨isHeap_no (Or.inl (by omega)), fun k q => q, fun k hk => ⟨n, b0, hb0, by rcases hbb with rfl | rfl <;> rfl, hf k ?_⟩⟩
     have hk : FootL (ρc (200000 + j)) cs k := hk
     rw [hj] at hk; exact hk
    ·exact g3 m b hb
 | @glob j g b xs ys τ hn hp _ ih =>
  intro vals hj hl hv
  obtain ⟨h1, Ls, h2⟩ := ih vals hj hl hv
  refine ⟨h1, Ls, fun ρc hc hcg hch => ?_⟩
  obtain ⟨g1, g2, g3⟩ := h2 ρc hc hcg hch
  refine ⟨g1, fun m b' hb => ?_, fun m b' hb => ?_⟩
  ·simp only [Mem.find] at hb
   split at hb
   ·rename_i e; subst e; cases hb
    obtain ⟨q1, q2⟩ := (hm (gname g) b hn).cells
    refine ⟨q1, fun i a ha => ?_⟩
    obtain ⟨u, hu1, hu2⟩ := q2 i a ha
    refine ⟨u, by simp only [at_, hcg]; exact hu1, hu2.agree fun m hm' => ?_⟩
    have := flat_refs' (List.any_eq_true.2 ⟨a, List.mem_of_getElem? ha, hm'⟩)
    rw [hp m] at this; cases this
   ·exact g2 m b' hb
  ·simp only [Mem.find] at hb
   split at hb
   ·rename_i e; subst e; cases hb
    refine ⟨isHeap_gname g, fun k q => q, fun k hk => ⟨gname g, b, hn, ?_, ?_⟩⟩
    ·obtain ⟨hne, _⟩ := hk
     cases b <;> first | rfl | exact absurd rfl hne
    ·obtain ⟨hne, rfl⟩ := hk
     rw [hcg]
     cases b with
     | own T s => exact rfl
     | view s => exact ⟨hne, rfl⟩
     | vec cs => exact absurd rfl hne
     | rview cs => exact absurd rfl hne
     | heap q os => exact absurd rfl hne
   ·exact g3 m b' hb
section
variable {P : Program} {Γ : Gam} {D : Hints}
theorem Good.heap (hm : P.follows .mixedOrders = true) (hΓ : GoodG P Γ) {f : FuncId} {fn : Func} (hf : P.funcs[f]? = some fn) (hb : fn.body.isSome = true) {s : Spec} (hs : s.mods = true)
  (hsem : ∀ d args σ (K : AV → Mem → Prop), s.sem d args σ K → ∃ k os cargs τ τ', Mem.heap σ k = some os ∧ CanonH σ 0 args cargs τ ∧ args.length ≤ 1000 ∧ (∀ n, Mem.find τ' n = Mem.find ((hname k, .heap k os) :: τ) n) ∧ ∃ n, callsx P Γ D fn n cargs τ' fun av σ' => ∃ os' av', Mem.heap σ' k = some os' ∧ (∀ m, av'.refs m = true → m = hname k) ∧ (∀ ρ v, SRep ρ av v → SRep ρ av' v) ∧ K av' (σ.put (hname k) (.heap k os'))) : Good P f s := by
 refine ⟨fun d args σ K h ρ w vals hg hmem hsep hl hv hnew => ?_⟩
 obtain ⟨k, os, cargs, τ, τ', ho, hcan, hlen, hτ, n, hc⟩ := hsem d args σ K h
 obtain ⟨h1, Ls, h2⟩ := canonH_sound hmem hsep hcan vals.toList (by omega) (by simpa using hl) (fun i x v hx hu => hv i x v hx (by simpa using hu))
 generalize hρ0 : rhoC ρ Ls = ρc
 have hρc : ∀ i, 0 ≤ i → i < 0 + args.length → ρc (200000 + i) = Ls i := fun i _ hi => by rw [← hρ0, rhoC_arg (by omega)]
 have hgg : ∀ g, ρc (gname g) = ρ (gname g) := fun g => by rw [← hρ0]; exact rhoC_glob
 have hhh : ∀ n, isHeap n = true → ρc n = ρ n := fun n hn => by rw [← hρ0]; exact rhoC_heap hn
 obtain ⟨g1, g2, g3⟩ := h2 ρc hρc hgg hhh
 have hgc : Glob ρc := fun g => by rw [hgg]; exact hg g
 have hfd := heap_find ho
 have hhp := isHeap_hname k
 have hρk := hhh _ hhp
 obtain ⟨_, hH⟩ := hmem _ _ hfd
 have unf : ∀ {m b}, Mem.find τ' m = some b → (m = hname k ∧ b = .heap k os) ∨ (m ≠ hname k ∧ Mem.find τ m = some b) := by
  intro m b hb
  rw [hτ] at hb
  simp only [Mem.find] at hb
  split at hb
  ·rename_i e; cases hb; exact Or.inl ⟨e.symm, rfl⟩
  ·rename_i e; exact Or.inr ⟨Ne.symm e, hb⟩
 have hmemc : MemRep ρc τ' w := fun m b hb => by
  rcases unf hb with ⟨rfl, rfl⟩ | ⟨_, hb⟩
  ·exact ⟨hhp, by rw [hρk]; exact hH⟩
  ·exact g2 m b hb
 have hout : ∀ q, Out ρc (hname k) (.heap k os) q → HFoot (ρ (hname k)) q := fun q hq => by simpa only [Out, hρk] using hq
 have hsepc : Sep ρc τ' := by
  refine ⟨fun m m' b c q hb hc hne hO hF => ?_, fun m b q hb hO hI => ?_⟩
  ·rcases unf hb with ⟨rfl, rfl⟩ | ⟨_, hb⟩
   ·rcases unf hc with ⟨rfl, rfl⟩ | ⟨_, hc⟩
    ·exact hne rfl
    ·obtain ⟨m0, c0, h0, h0h, h0f⟩ := (g3 m' c hc).2.2 q hF
     exact hsep.1 _ m0 _ c0 q hfd h0 (fun e => by subst e; rw [hfd] at h0; cases h0; cases h0h) (hout q hO) h0f
   ·exact (g3 m b hb).2.1 q hO
  ·rcases unf hb with ⟨rfl, rfl⟩ | ⟨_, hb⟩
   ·exact hI
   ·exact (g3 m b hb).2.1 q hO
 refine (callsx_sound hm hΓ hf hb hc (ex := fun q => HFoot (ρ (hname k)) q) hgc (by simpa using h1) (fun i y v hy hu => g1 i y v hy (by simpa using hu)) hmemc hsepc (fun m b q hn hO => by
  rcases unf hn with ⟨rfl, rfl⟩ | ⟨_, hb⟩
  ·exact Or.inr (hout q hO)
  ·exact absurd hO ((g3 m b hb).2.1 q))).mono ?_
 rintro e w' ⟨v, av, σ'', ρ'', rfl, ⟨os', av', ho', hrefs, hav, hK⟩, hsr, hmem'', hsep'', hfix, hext, hown, hk⟩
 have hfd' := heap_find ho'
 obtain ⟨_, hH'⟩ := hmem'' _ _ hfd'
 let E : Env := ⟨w, ρ, OwnAt ρ σ, hg⟩
 let a : Act := { tmps := #[], defers := [] }
 have hk' : Keeps (OwnAt ρ σ) w w' := ⟨hk.os, hk.tape, hk.output, hk.size, fun q hq hx => hk.block q hq fun hF => hx ⟨hname k, _, hfd, hF⟩⟩
 have hR : Rep E ρ [] σ a w := ⟨⟨rfl, fun t v ht => by simp [a] at ht⟩, rfl, hmem, hsep, fun _ _ _ => rfl, fun _ _ => .refl _, fun n b q hn hO => Or.inr ⟨n, b, hn, hO⟩, Keeps.refl _ _⟩
 have hx : HExt (ρ (hname k)) (ρ'' (hname k)) := by have := hext _ hhp; rw [hρk] at this; exact this
 have grown := heap_grow (L' := ρ'' (hname k)) hR hhp hfd hx hH' hk' (fun m c q hm hmh hF => hk.block q (in_range (hmem m c hm) hF) fun hq => hsep.1 _ m _ c q hfd hm (Ne.symm hmh) hq hF) (fun q hq => by
  rcases hown _ _ q hfd' hq with h | h
  ·exact Or.inr ⟨Or.inl h, fun m c hm _ hF => by have := in_range (hmem m c hm) hF; omega⟩
  ·exact Or.inl h)
 refine ⟨v, av', _, _, rfl, hK, (hav _ _ hsr).agree fun m hm => ?_, grown.mem, grown.sep, fun m hm _ => upd_ne fun q => (by subst q; rw [hhp] at hm; cases hm), fun m _ => ext_upd hx m, fun m b q hm hO => ?_, hk', fun q => by rw [hs] at q; cases q⟩
 ·have e := hrefs m hm
  subst e; rw [upd_eq]; exact .refl _
 ·rcases grown.own m b q hm hO with h | h
  ·exact Or.inr h
  ·exact Or.inl h
end
theorem lget_app (a b : List Int) (t : Nat) : lget (a ++ b) t = if t < a.length then lget a t else lget b (t - a.length) := lget_cat a b t
end Go.Sx
namespace Go.Rou
open Go Go.Sx Go.Hsh Go.Mac Go.Blk Go.Cel Go.Oni Go.Fld
theorem wkL_len (key : Nat → List Int) (h : Nat) (c : List Int) : ∀ n, (wkL key h c n).length = n
 | 0 => rfl
 | n + 1 => by simp [wkL, wkL_len key h c n]
theorem wkT_len (key : Nat → List Int) (h : Nat) (c : List Int) : ∀ n, (wkT key h c n).length = n
 | 0 => rfl
 | n + 1 => by simp [wkT, wkT_len key h c n]
theorem wkX_zero {key : Nat → List Int} {h : Nat} {c : List Int} : ∀ {n : Nat}, wkX key h c n = 0 ↔ ∀ i, i < n → wkE key h c i = 0
 | 0 => ⟨fun _ i hi => by omega, fun _ => rfl⟩
 | n + 1 => by
  have ih := wkX_zero (key := key) (h := h) (c := c) (n := n)
  simp only [wkX]
  by_cases q : wkX key h c n = 0
  ·rw [if_pos q]
   exact ⟨fun e i hi => by
    by_cases hin : i < n
    ·exact ih.1 q i hin
    ·obtain rfl : i = n := by omega
     exact e, fun e => e n (by omega)⟩
  ·rw [if_neg q]
   exact ⟨fun e => absurd e q, fun e => absurd (ih.2 fun i hi => e i (by omega)) q⟩
theorem wkX_first {key : Nat → List Int} {h : Nat} {c : List Int} {i : Nat} (h0 : ∀ j, j < i → wkE key h c j = 0) (he : wkE key h c i ≠ 0) : ∀ {n : Nat}, i < n → wkX key h c n = wkE key h c i
 | n + 1, hi => by
  simp only [wkX]
  by_cases e : i = n
  ·subst e
   rw [if_pos (wkX_zero.2 h0)]
  ·have ih := wkX_first h0 he (n := n) (by omega)
   rw [ih, if_neg he]
theorem wkC_in {key : Nat → List Int} {h : Nat} {c : List Int} (hc : In c) : ∀ i, In (wkC key h c i)
 | 0 => hc
 | i + 1 => pC_in' (wkC_in hc i).bs
theorem weI_ok {KL : List (List Int)} {c : List Int} (h : weI KL c = 0) : 1 ≤ KL.length ∧ KL.length ≤ 8 ∧ ∀ i, i < KL.length → wkE (llget KL) KL.length c i = 0 := by
 unfold weI at h
 by_cases q : KL.length < 1 ∨ 8 < KL.length
 ·rw [if_pos q] at h; cases h
 ·rw [if_neg q] at h
  exact ⟨by omega, by omega, wkX_zero.1 h⟩
end Go.Rou
namespace Go.Proofs.YtienfecnkglilaaDoor.G
open Go Go.Sx Go.Hsh Go.Mac Go.Blk Go.Cel Go.Oni Go.Fld Go.Rou
set_option maxRecDepth 20000
theorem hfrom_more (L : List (List Int)) (y : List Int) : lcat (hfrom 1 L) [(HS.mk (llen ([] :: L)) 0 (llen y))] = hfrom 1 (L ++ [y]) := by
 rw [hfrom_app, lcat_def, llen_def, llen_def, List.length_cons, Nat.add_comm]
theorem walk_left {h i : Nat} (hi : i < h) (h8 : h ≤ 8) : sub .i64 (ofNat h) (i : Int) = ((h - i : Nat) : Int) := by
 rw [ofNat_def]; exact subN_i64 (by omega) (by omega)
theorem good_rrwalk : Sx.Good Tryd.prog 17 rrwalkS := by
 refine Sx.Good.priv (D := [⟨7, [.rows .u8, .arrs .u8 16], true, false⟩, ⟨1, [.ints .u8], false, false⟩]) mixed gamR0_good Tryd.func17 (by kernel_rfl) rfl fun d args σ K h => ?_
 simp only [rrwalkS] at h
 split at h <;> try exact h.elim
 rename_i x y
 obtain ⟨KL, h, hr1⟩ := rdr_row h
 obtain ⟨c, h, hr2⟩ := rdb_row h
 split at h <;> try exact h.elim
 rename_i os ho
 obtain ⟨⟨hk, hc⟩, hK⟩ := h
 have hkn := hk.n
 refine ⟨.u8, os, _, _, [(200000, .rview [.rows .u8 KL]), (200001, .rview [.ints .u8 c]), (900004, .heap .u8 [[]])], ho, .rowH [.rows .u8] _ hr1 (by decide) (.row [.ints .u8] _ hr2 (by decide) (.nil _)), rfl, by simp [AV.refs, AC.refs, hname], by simp, fun m => ?_, ?_⟩
 ·simp only [Mem.find, hname]
  by_cases h1 : 200000 = m
  ·subst h1; simp
  ·by_cases h2 : 200001 = m
   ·subst h2; simp
   ·by_cases h3 : 900004 = m
    ·subst h3; simp
    ·simp [h1, h2, h3]
 have fail : ∀ {e : Int} {σ' : Mem} {o : List Int} {ext : List (List Int)}, weI KL c = e → e ≠ 0 → Mem.heap σ' .u8 = some (o :: ext) → ResH d rrwalkS.news σ .u8 os K (.tup [.c (.con (.slice none 0 0)), .c (.int .i64 e)]) σ' := fun {e σ' o ext} he hne hh => by
  have h1 : wcL KL c = [] := by unfold wcL; rw [if_neg (by rw [he]; exact hne)]
  have h2 : wrL KL c = [] := by unfold wrL; rw [if_neg (by rw [he]; exact hne)]
  have := hK ext ⟨fun q => absurd q (by rw [he]; exact hne)⟩
  rw [h1, h2, he] at this
  exact resH_hnils (ks := [.arrs .u8 16]) (cs := [.arrs .u8 16 []]) hh (.int rfl .nil) rfl this
 by_cases hn : KL.length < 1 ∨ 8 < KL.length
 ·have h80 : weI KL c = 80 := by unfold weI; rw [if_pos hn]
  refine ⟨0 + 1, ?_⟩
  rw [rrwalk_vc]
  refine ⟨fun q1 => ⟨fun q2 => fail h80 (by decide) (by rfl), fun q2 => ?_⟩, fun q1 => fail h80 (by decide) (by rfl)⟩
  rw [ilt_false, ofNat_def, llen_def] at q1; rw [igt_false, ofNat_def, llen_def] at q2
  omega
 ·have hX : weI KL c = wkX (llget KL) KL.length c KL.length := by unfold weI; rw [if_neg hn]
  generalize hh : KL.length = H at *
  have step : ∀ i, i < H → (∀ j, j < i → wkE (llget KL) H c j = 0) → Ky (llget KL i) ∧ Lf ((H - i : Nat) : Int) ∧ In (wkC (llget KL) H c i) := fun i hi _ => ⟨⟨⟨by have := (hk.all i).sh; omega⟩, (hk.all i).bs⟩, ⟨by omega, by omega⟩, wkC_in hc i⟩
  have room : ∀ i, i ≤ 8 → ∀ y : List Int, Room (nadd (llen (hfrom 1 (wkL (llget KL) H c i))) (llen [(HS.mk (llen ([] :: wkL (llget KL) H c i)) 0 (llen y))])) 40 := fun i hi y => ⟨by
   rw [llen_def, hfrom_len, wkL_len]
   show (5 * (i + 1) + 4096) * 40 ≤ _
   omega⟩
  have last : ∀ i, 1 ≤ i → i ≤ H → (∀ j, j < i → wkE (llget KL) H c j = 0) → rrwalk.l1 (ResH d rrwalkS.news σ .u8 os K) KL c (1 + (H - i)) i (llen (wkC (llget KL) H c i)) (i : Int) (hfrom 1 (wkL (llget KL) H c i)) (wkT (llget KL) H c i) ([] :: wkL (llget KL) H c i) := by
   suffices h : ∀ m i, 1 ≤ i → i + m = H → (∀ j, j < i → wkE (llget KL) H c j = 0) → rrwalk.l1 (ResH d rrwalkS.news σ .u8 os K) KL c (1 + m) i (llen (wkC (llget KL) H c i)) (i : Int) (hfrom 1 (wkL (llget KL) H c i)) (wkT (llget KL) H c i) ([] :: wkL (llget KL) H c i) from fun i h1 h2 h3 => h (H - i) i h1 (by omega) h3
   intro m
   induction m with
   | zero =>
    intro i h1 hi h0
    obtain rfl : i = H := by omega
    show rrwalk.l1 _ KL c (0 + 1) _ _ _ _ _ _
    rw [rrwalk.l1_succ]
    refine ⟨fun q => ?_, fun _ => ?_⟩
    ·rw [ilt_true, ofNat_def, llen_def, hh] at q; omega
    have hE : weI KL c = 0 := by rw [hX]; exact wkX_zero.2 h0
    have e1 : wcL KL c = wkL (llget KL) i c i := by unfold wcL; rw [if_pos hE, hh]
    have e2 : wrL KL c = wkT (llget KL) i c i := by unfold wrL; rw [if_pos hE, hh]
    have := hK _ ⟨fun _ => rfl⟩
    rw [e1, e2, hE] at this
    exact resH_hvecs (cs := [.arrs .u8 16 (wkT (llget KL) i c i)]) (by rfl) (by rfl) (.int rfl .nil) rfl (fun _ => rfl) rfl this
   | succ m ih =>
    intro i h1 hi h0
    obtain ⟨s1, s2, s3⟩ := step i (by omega) h0
    have e1 : sub .i64 (ofNat (llen KL)) (i : Int) = ((H - i : Nat) : Int) := by rw [llen_def, hh]; exact walk_left (by omega) (by omega)
    have e2 : lsub (llget ([] :: wkL (llget KL) H c i) i) 0 (llen (wkC (llget KL) H c i)) = wkC (llget KL) H c i := by
     obtain ⟨j, rfl⟩ : ∃ j, i = j + 1 := ⟨i - 1, by omega⟩
     have : llget ([] :: wkL (llget KL) H c (j + 1)) (j + 1) = wkC (llget KL) H c (j + 1) := by
      simp only [llget, wkL, List.getD_cons_succ]
      simp only [List.getD]
      rw [List.getElem?_append_right (by rw [wkL_len]; omega), wkL_len, Nat.sub_self]; rfl
     rw [this]; exact lsub_all _
    have a1 : add .i64 (i : Int) 1 = ((i + 1 : Nat) : Int) := add1_i64 (by omega)
    have hpE : pE (llget KL i) ((H - i : Nat) : Int) (wkC (llget KL) H c i) = wkE (llget KL) H c i := rfl
    have hpC : pC (llget KL i) ((H - i : Nat) : Int) (wkC (llget KL) H c i) = wkC (llget KL) H c (i + 1) := rfl
    have hpR : pR (llget KL i) ((H - i : Nat) : Int) (wkC (llget KL) H c i) = wkR (llget KL) H c i := rfl
    rw [show 1 + (m + 1) = (1 + m) + 1 by omega, rrwalk.l1_succ]
    simp only [nat_cast, e1, e2, hpE, hpC, hpR, a1]
    refine ⟨fun _ => ⟨⟨by omega, by rw [llen_def, hh]; omega⟩, ⟨s1, s2, s3⟩, fun q => ?_, fun q => ⟨room i (by omega) _, ?_⟩⟩, fun q => ?_⟩
    ·rw [ine_true] at q
     exact fail (by rw [hX]; exact wkX_first h0 q (by omega)) q (by rfl)
    ·rw [ine_false] at q
     have := ih (i + 1) (by omega) (by omega) (fun j hj => by
      by_cases e : j = i
      ·rw [e]; exact q
      ·exact h0 j (by omega))
     rw [hfrom_more]
     have e3 : llen ([] :: wkL (llget KL) H c i) = i + 1 := by rw [llen_def, List.length_cons, wkL_len]
     rw [e3]
     exact this
    ·rw [ilt_false, ofNat_def, llen_def, hh] at q; omega
  refine ⟨((1 + (H - 1)) + 1) + 1, ?_⟩
  rw [rrwalk_vc]
  obtain ⟨s1, s2, s3⟩ := step 0 (by omega) (fun j hj => by omega)
  have e1 : sub .i64 (ofNat (llen KL)) 0 = ((H - 0 : Nat) : Int) := by rw [llen_def, hh]; exact walk_left (i := 0) (by omega) (by omega)
  have hpE : pE (llget KL 0) ((H - 0 : Nat) : Int) c = wkE (llget KL) H c 0 := rfl
  have hpC : pC (llget KL 0) ((H - 0 : Nat) : Int) c = wkC (llget KL) H c 1 := rfl
  have hpR : pR (llget KL 0) ((H - 0 : Nat) : Int) c = wkR (llget KL) H c 0 := rfl
  have first : rrwalk.l0 (ResH d rrwalkS.news σ .u8 os K) KL c ((1 + (H - 1)) + 1) := by
   rw [rrwalk.l0_succ]
   simp only [e1, hpE, hpC, hpR]
   refine ⟨fun _ => ⟨⟨by omega, by rw [llen_def, hh]; omega⟩, ⟨s1, s2, hc⟩, fun q => ?_, fun q => ⟨⟨by show (5 * (0 + 1) + 4096) * 40 ≤ _; omega⟩, ?_⟩⟩, fun q => ?_⟩
   ·rw [ine_true] at q
    exact fail (by rw [hX]; exact wkX_first (fun j hj => by omega) q (by omega)) q (by rfl)
   ·rw [ine_false] at q
    exact last 1 (Nat.le_refl _) (by omega) (fun j hj => by
     obtain rfl : j = 0 := by omega
     exact q)
   ·rw [ilt_false, ofNat_def, llen_def, hh] at q; omega
  refine ⟨fun q1 => ⟨fun q2 => ?_, fun q2 => first⟩, fun q1 => ?_⟩
  ·rw [igt_true, ofNat_def, llen_def, hh] at q2; omega
  ·rw [ilt_true, ofNat_def, llen_def, hh] at q1; omega
theorem pR_len (key : List Int) (left : Int) (c : List Int) : (pR key left c).length = 16 := by
 rw [pR_eq]
 unfold peR
 split
 ·rw [lsub_len _ _ _ (by rw [hmac_len]; decide)]
 ·simp [lzeros]
theorem lput_all {l : List Int} (h : l.length = 16) : lput (lzeros 16) 0 (lsub l 0 16) = l := by
 have e : lsub l 0 16 = l := by rw [lsub, List.drop_zero, List.take_of_length_le (by omega)]
 rw [e]
 simp only [lput, List.take_zero, List.nil_append]
 rw [List.drop_eq_nil_of_le (by simp [lzeros]; omega), List.append_nil]
set_option maxHeartbeats 1000000 in
theorem good_rowalk : Sx.Good Tryd.prog 18 rwalkS := by
 refine Sx.Good.priv (D := [⟨6, [.rows .u8, .arrs .u8 16], true, false⟩, ⟨1, [.ints .u8], false, false⟩]) mixed gamR0_good Tryd.func18 (by kernel_rfl) rfl fun d args σ K h => ?_
 simp only [rwalkS] at h
 split at h <;> try exact h.elim
 rename_i x y
 obtain ⟨KL, h, hr1⟩ := rdr_row h
 obtain ⟨c, h, hr2⟩ := rdb_row h
 split at h <;> try exact h.elim
 rename_i os ho
 obtain ⟨⟨hroots, hk, hc⟩, hK⟩ := h
 have hkn := hk.n
 refine ⟨.u8, os, _, _, [(200000, .rview [.rows .u8 KL]), (200001, .rview [.ints .u8 c]), (900004, .heap .u8 [[]]), (1000000 + 0, .view [.ints .u32 64 Go.Hsh.rootsL])], ho, .rowH [.rows .u8] _ hr1 (by decide) (.row [.ints .u8] _ hr2 (by decide) (.glob (roots_at hroots) (by intro m; rfl) (.nil _))), rfl, by simp [AV.refs, AC.refs, hname], by simp, fun m => ?_, ?_⟩
 ·simp only [Mem.find, hname, gname]
  by_cases h1 : 200000 = m
  ·subst h1; simp
  ·by_cases h2 : 200001 = m
   ·subst h2; simp
   ·by_cases h3 : 900004 = m
    ·subst h3; simp
    ·simp [h1, h2, h3, Blk.segs]
     rfl
 have fail : ∀ {e : Int} {σ' : Mem} {o : List Int} {ext : List (List Int)}, weI KL c = e → e ≠ 0 → Mem.heap σ' .u8 = some (o :: ext) → ResH d rwalkS.news σ .u8 os K (.tup [.c (.con (.slice none 0 0)), .c (.int .i64 e)]) σ' := fun {e σ' o ext} he hne hh => by
  have h1 : wcL KL c = [] := by unfold wcL; rw [if_neg (by rw [he]; exact hne)]
  have h2 : wrL KL c = [] := by unfold wrL; rw [if_neg (by rw [he]; exact hne)]
  have := hK ext ⟨fun q => absurd q (by rw [he]; exact hne)⟩
  rw [h1, h2, he] at this
  exact resH_hnils (ks := [.arrs .u8 16]) (cs := [.arrs .u8 16 []]) hh (.int rfl .nil) rfl this
 by_cases hn : KL.length < 1 ∨ 8 < KL.length
 ·have h80 : weI KL c = 80 := by unfold weI; rw [if_pos hn]
  refine ⟨0 + 1, ?_⟩
  rw [rowalk_vc]
  refine ⟨fun q1 => ⟨fun q2 => fail h80 (by decide) (by rfl), fun q2 => ?_⟩, fun q1 => fail h80 (by decide) (by rfl)⟩
  rw [ilt_false, ofNat_def, llen_def] at q1; rw [igt_false, ofNat_def, llen_def] at q2
  omega
 ·have hX : weI KL c = wkX (llget KL) KL.length c KL.length := by unfold weI; rw [if_neg hn]
  generalize hh : KL.length = H at *
  have room : ∀ i, i ≤ 8 → ∀ y : List Int, Room (nadd (llen (hfrom 1 (wkL (llget KL) H c i))) (llen [(HS.mk (llen ([] :: wkL (llget KL) H c i)) 0 (llen y))])) 40 := fun i hi y => ⟨by
   rw [llen_def, hfrom_len, wkL_len]
   show (5 * (i + 1) + 4096) * 40 ≤ _
   omega⟩
  have last : ∀ m i, i + m = H → (∀ j, j < i → wkE (llget KL) H c j = 0) → rowalk.l0 (ResH d rwalkS.news σ .u8 os K) KL c (1 + m) (i : Int) (wkC (llget KL) H c i) (hfrom 1 (wkL (llget KL) H c i)) (wkT (llget KL) H c i) ([] :: wkL (llget KL) H c i) := by
   intro m
   induction m with
   | zero =>
    intro i hi h0
    obtain rfl : i = H := by omega
    show rowalk.l0 _ KL c (0 + 1) _ _ _ _ _
    rw [rowalk.l0_succ]
    refine ⟨fun q => ?_, fun _ => ?_⟩
    ·rw [ilt_true, ofNat_def, llen_def, hh] at q; omega
    have hE : weI KL c = 0 := by rw [hX]; exact wkX_zero.2 h0
    have e1 : wcL KL c = wkL (llget KL) i c i := by unfold wcL; rw [if_pos hE, hh]
    have e2 : wrL KL c = wkT (llget KL) i c i := by unfold wrL; rw [if_pos hE, hh]
    have := hK _ ⟨fun _ => rfl⟩
    rw [e1, e2, hE] at this
    exact resH_hvecs (cs := [.arrs .u8 16 (wkT (llget KL) i c i)]) (by rfl) (by rfl) (.int rfl .nil) rfl (fun _ => rfl) rfl this
   | succ m ih =>
    intro i hi h0
    have e1 : sub .i64 (ofNat (llen KL)) (i : Int) = ((H - i : Nat) : Int) := by rw [llen_def, hh]; exact walk_left (by omega) (by omega)
    have a1 : add .i64 (i : Int) 1 = ((i + 1 : Nat) : Int) := add1_i64 (by omega)
    have hin := wkC_in (key := llget KL) (h := H) hc i
    have hin2 := wkC_in (key := llget KL) (h := H) hc (i + 1)
    have hpE : pE (llget KL i) ((H - i : Nat) : Int) (wkC (llget KL) H c i) = wkE (llget KL) H c i := rfl
    have hpC : pC (llget KL i) ((H - i : Nat) : Int) (wkC (llget KL) H c i) = wkC (llget KL) H c (i + 1) := rfl
    have hpR : pR (llget KL i) ((H - i : Nat) : Int) (wkC (llget KL) H c i) = wkR (llget KL) H c i := rfl
    have hR16 : lput (lzeros 16) 0 (lsub (wkR (llget KL) H c i) 0 16) = wkR (llget KL) H c i := lput_all (pR_len _ _ _)
    have hnil : ∀ l : List Int, lcat [] l = l := fun l => rfl
    rw [show 1 + (m + 1) = (1 + m) + 1 by omega, rowalk.l0_succ]
    simp only [nat_cast, e1, hpE, hpC, hpR, hR16, hnil, a1]
    have hroom1 : Room (nadd 0 (llen (wkC (llget KL) H c (i + 1)))) 1 := ⟨by have := hin2.sh; show (5 * (0 + (wkC (llget KL) H c (i + 1)).length) + 4096) * 1 ≤ _; omega⟩
    have hf : Fits 16 16 := ⟨by decide⟩
    have k0 : wkE (llget KL) H c i = 0 → ∀ M, rowalk.k0 (ResH d rwalkS.news σ .u8 os K) (i : Int) KL (wkC (llget KL) H c i) ([] :: wkL (llget KL) H c i) (hfrom 1 (wkL (llget KL) H c i)) (wkT (llget KL) H c i) c (1 + m) (M + 100) := fun q M => by
     have := ih (i + 1) (by omega) (fun j hj => by
      by_cases e : j = i
      ·rw [e]; exact q
      ·exact h0 j (by omega))
     rw [rowalk.k0_eq]
     simp only [nat_cast, e1, hpE, hpC, hpR, hR16, hnil, a1]
     rw [hfrom_more]
     exact this
    refine ⟨fun _ => ⟨⟨by omega, by rw [llen_def, hh]; omega⟩, ⟨trivial, ⟨⟨by have := (hk.all i).sh; omega⟩, (hk.all i).bs⟩, ⟨by omega, by omega⟩, hin⟩, fun q => ?_, fun q => ?_⟩, fun q => ?_⟩
    ·rw [ine_true] at q
     exact fail (by rw [hX]; exact wkX_first h0 q (by omega)) q (by rfl)
    ·rw [ine_false] at q
     have k := k0 q 3882
     have r := room i (by omega) (wkC (llget KL) H c (i + 1))
     simp only [hroom1, hf, r, k, and_self]
    ·rw [ilt_false, ofNat_def, llen_def, hh] at q; omega
  have first := last H 0 (by omega) (fun j hj => by omega)
  refine ⟨(1 + H) + 1, ?_⟩
  rw [rowalk_vc]
  refine ⟨fun q1 => ⟨fun q2 => ?_, fun q2 => ⟨?_, first⟩⟩, fun q1 => ?_⟩
  ·rw [igt_true, ofNat_def, llen_def, hh] at q2; omega
  ·rw [Mk_iff, ofNat_def, llen_def, hh]; omega
  ·rw [ilt_true, ofNat_def, llen_def, hh] at q1; omega
theorem good_rsame : Sx.Good Tryd.prog 19 sameAllS := by
 refine Sx.Good.reads (D := []) mixed (good0 _) Tryd.func19 (by kernel_rfl) rfl fun d args σ K h => ?_
 simp only [sameAllS] at h
 split at h <;> try exact h.elim
 rename_i x y
 obtain ⟨a, r, h, ha⟩ := rdp_row h
 obtain ⟨b, s, ⟨⟨sa, sb⟩, hK⟩, hb⟩ := rdp_row h
 have la := sa.le
 have lr := sa.len
 have ls := sb.len
 refine ⟨[.one (.vec 200000), .one (.vec 200001)], [(200000, .rview [.rows .u8 a, .arrs .u8 16 r]), (200001, .rview [.rows .u8 b, .arrs .u8 16 s])], .rowH [.rows .u8, .arrs .u8 16] _ ha (by decide) (.rowH [.rows .u8, .arrs .u8 16] _ hb (by decide) (.nil _)), by simp, ?_⟩
 have no : ¬ (a = b ∧ r = s) → llq2 a r b s = false := fun q => by unfold llq2; rw [decide_eq_false_iff_not]; exact q
 have ext : ∀ {a b : List (List Int)}, a.length = b.length → (∀ i, i < a.length → llget a i = llget b i) → a = b := fun hl h => list_ext hl fun i hi => by rw [llget_some hi, llget_some (by omega), h i hi]
 have key : a.length = b.length → ∀ n i, a.length - i = n → i ≤ a.length → (∀ j, j < i → llget a j = llget b j ∧ llget r j = llget s j) → ∃ f, rsame.l0 (Res d sameAllS.news σ K) a r b s f (i : Int) := by
  intro hl n
  induction n with
  | zero =>
   intro i hn hi hp
   refine ⟨0 + 1, ?_⟩
   rw [rsame.l0_succ]
   refine ⟨fun q => ?_, fun _ => res_lit ?_ hK⟩
   ·rw [ilt_true, ofNat_def, llen_def] at q; omega
   ·symm; unfold llq2; rw [decide_eq_true_eq]
    exact ⟨ext hl fun j hj => (hp j (by omega)).1, ext (by omega) fun j hj => (hp j (by omega)).2⟩
  | succ n ih =>
   intro i hn hi hp
   have in1 : InB (i : Int) (llen a) := ⟨by omega, by rw [llen_def]; omega⟩
   have in2 : InB (i : Int) (llen b) := ⟨by omega, by rw [llen_def]; omega⟩
   by_cases er : llget r i = llget s i
   ·by_cases e : llget a i = llget b i
    ·obtain ⟨f, hf⟩ := ih (i + 1) (by omega) (by omega) (fun j hj => by
      by_cases c : j = i
      ·rw [c]; exact ⟨e, er⟩
      ·exact hp j (by omega))
     refine ⟨f + 1, ?_⟩
     have k0 : ∀ M, rsame.k0 (Res d sameAllS.news σ K) (i : Int) a r s b f (M + 100) := fun M => by
      rw [rsame.k0_eq, add1_i64 (by omega), nat_cast, e, seq2_self rfl]
      exact ⟨fun q => (by cases q), fun _ => hf⟩
     rw [rsame.l0_succ]
     simp only [nat_cast, er, leq_self]
     refine ⟨fun _ => ⟨in1, in2, fun _ => ⟨in1, in2, k0 3891, k0 3891⟩, fun q => (by cases q)⟩, fun q => ?_⟩
     rw [ilt_false, ofNat_def, llen_def] at q; omega
    ·refine ⟨0 + 1, ?_⟩
     have hno := no fun c => e (by rw [c.1])
     have k0 : ∀ M, rsame.k0 (Res d sameAllS.news σ K) (i : Int) a r s b 0 (M + 100) := fun M => by
      have hn : seq2 (bytesOf (llget a i)) (bytesOf (llget b i)) = false := by
       cases q : seq2 (bytesOf (llget a i)) (bytesOf (llget b i)) with
       | false => rfl
       | true => exact absurd (bytes_eq (sa.bs i (by omega)) (sb.bs i (by omega)) (seq2_true.1 q)) e
      rw [rsame.k0_eq, nat_cast, hn]
      exact ⟨fun _ => res_lit hno.symm hK, fun q => (by cases q)⟩
     rw [rsame.l0_succ]
     simp only [nat_cast, er, leq_self]
     refine ⟨fun _ => ⟨in1, in2, fun _ => ⟨in1, in2, k0 3891, k0 3891⟩, fun q => (by cases q)⟩, fun q => ?_⟩
     rw [ilt_false, ofNat_def, llen_def] at q; omega
   ·refine ⟨0 + 1, ?_⟩
    have hno := no fun c => er (by rw [c.2])
    have hle : leq (llget r i) (llget s i) = false := leq_false.2 er
    rw [rsame.l0_succ]
    simp only [nat_cast, hle]
    refine ⟨fun _ => ⟨in1, in2, fun q => (by cases q), fun _ => ⟨res_lit hno.symm hK, res_lit hno.symm hK⟩⟩, fun q => ?_⟩
    rw [ilt_false, ofNat_def, llen_def] at q; omega
 by_cases hl : a.length = b.length
 ·obtain ⟨f, hf⟩ := key hl a.length 0 (by omega) (Nat.zero_le _) (fun j hj => by omega)
  refine ⟨f + 1, ?_⟩
  rw [rsame_vc]
  refine ⟨fun q => ?_, fun _ => hf⟩
  rw [ine_true, ofNat_def, ofNat_def, llen_def, llen_def] at q; omega
 ·refine ⟨0 + 1, ?_⟩
  rw [rsame_vc]
  refine ⟨fun _ => res_lit (no fun c => hl (by rw [c.1])).symm hK, fun q => ?_⟩
  rw [ine_false, ofNat_def, ofNat_def, llen_def, llen_def] at q; omega
theorem gamR3_good : GoodG Tryd.prog gamR3 := by
 refine ((gamR2_good.ext good_rowalk ?_).ext good_rrwalk ?_).ext good_rsame ?_
 ·exact ⟨_, Tryd.func18, by decide, by kernel_rfl⟩
 ·exact ⟨_, Tryd.func17, by decide, by kernel_rfl⟩
 ·exact ⟨_, Tryd.func19, by decide, by kernel_rfl⟩
end Go.Proofs.YtienfecnkglilaaDoor.G
