import Derived.Test.YtgkklobamebnjaaCellKeepsD
import Derived.OpenShut
import Derived.WideShapes
import Derived.Below
import Derived.WalkKit
import Derived.ProofKit
import Derived.ChangeOld
import Derived.ChangeSlices
import Derived.SizedLaws
import Derived.Test.YtgkklobamebnjaaProg
set_option linter.unusedSimpArgs false
set_option linter.unusedVariables false
namespace Go.Proofs.Ytgkklobamebnjaa.G
open Go Go.Sx Go.Cel
set_option maxRecDepth 100000
theorem cawake_vc (R : AV → Mem → Prop) (fuel : Nat)  : callsx Try.prog gamC2 [] Try.f8 (fuel + 1) [] [] R = (((InB 0 2) ∧ ((Go.Sx.Short [104, 105]) ∧ (((true = true) → (((true = true) → ((InB 0 320) ∧ (((true = true) → ((InB 1 320) ∧ (((true = true) → ((InB 2 320) ∧ (((true = true) → ((InB 4 320) ∧ (R (AV.one (AC.bool true)) [(4, Blk.rview [(Col.ints IntKind.u8 [104, 105])]), (6, Blk.vec [(Col.ints IntKind.u8 (Go.Cel.plainR [104, 105]))])]))) ∧ ((true = false) → (R (AV.one (AC.lit false)) [(4, Blk.rview [(Col.ints IntKind.u8 [104, 105])]), (6, Blk.vec [(Col.ints IntKind.u8 (Go.Cel.plainR [104, 105]))])]))))) ∧ ((true = false) → (R (AV.one (AC.lit false)) [(4, Blk.rview [(Col.ints IntKind.u8 [104, 105])]), (6, Blk.vec [(Col.ints IntKind.u8 (Go.Cel.plainR [104, 105]))])]))))) ∧ ((true = false) → (R (AV.one (AC.lit false)) [(4, Blk.rview [(Col.ints IntKind.u8 [104, 105])]), (6, Blk.vec [(Col.ints IntKind.u8 (Go.Cel.plainR [104, 105]))])]))))) ∧ ((true = false) → (R (AV.one (AC.lit false)) [(4, Blk.rview [(Col.ints IntKind.u8 [104, 105])]), (6, Blk.vec [(Col.ints IntKind.u8 (Go.Cel.plainR [104, 105]))])])))) ∧ ((true = false) → (R (AV.one (AC.lit false)) [(4, Blk.rview [(Col.ints IntKind.u8 [104, 105])]), (6, Blk.vec [(Col.ints IntKind.u8 (Go.Cel.plainR [104, 105]))])])))))) := by kernel_rfl
def CellBack.k0 (R : AV → Mem → Prop) (n : Int) (p : List Int) (x0 : Bool) (x1 : Int) (fuel : Nat) : Prop := runM Try.prog gamC4 [⟨10,[],true,false⟩] (resh Try.prog [⟨10,[],true,false⟩] Try.f6.results.toList R) (run Try.prog gamC4 [⟨10,[],true,false⟩] (resh Try.prog [⟨10,[],true,false⟩] Try.f6.results.toList R) fuel) 3991 [kc Try.f6 [1,0,1,0,1]] (Vv 200000::Ii n::Uu::Uu::Bb (seq2 (bytesOf (cutR (padR p) n)) (bytesOf (lsub p 0 (nat n))))::Vv 105::Uu::Vv 164::Uu::Ii (cutE (padR p) n)::Bb x0::Ii x1::(us 135 (Ii x1::Vv 200000::Ii (ofNat (llen p))::Ll false::(us 10 [AV.tup [TV.c (AC.vec 164),TV.c (AC.int IntKind.i64 (cutE (padR p) n))],Vv 105,Ii n,AV.tup [TV.c (AC.vec 164),TV.c (AC.int IntKind.i64 (cutE (padR p) n))],Vv 164,Ii (cutE (padR p) n),Bb x0,Ll true,Ii (cutE (padR p) n),Bb (ieq (cutE (padR p) n) 51),Bb (ieq (cutE (padR p) n) 51),Ll true,Vv 164,Ii (ofNat (llen (cutR (padR p) n))),Bb (ieq (ofNat (llen (cutR (padR p) n))) 0),Bb (ieq (ofNat (llen (cutR (padR p) n))) 0),Ll false,Bb x0,Bb (bnot x0),Ll true,Ii (cutE (padR p) n),Bb (ieq (cutE (padR p) n) 0),Bb (ieq (cutE (padR p) n) 0),Ll true,Vv 164,AV.one (AC.str (bytesOf (cutR (padR p) n))),Vv 200000,Ii n,AV.one (AC.vsl 200000 1 0 (nat n)),AV.one (AC.str (bytesOf (lsub p 0 (nat n)))),Bb (seq2 (bytesOf (cutR (padR p) n)) (bytesOf (lsub p 0 (nat n)))),Bb (seq2 (bytesOf (cutR (padR p) n)) (bytesOf (lsub p 0 (nat n)))),Bb (seq2 (bytesOf (cutR (padR p) n)) (bytesOf (lsub p 0 (nat n))))])))) [(105,Blk.vec [Col.ints IntKind.u8 (padR p)]),(122,Blk.vec [Col.ints IntKind.u8 (cutR (padR p) (ofNat (llen p)))]),(164,Blk.vec [Col.ints IntKind.u8 (cutR (padR p) n)]),(200000,Blk.rview [Col.ints IntKind.u8 p])]
def CellBack.k1 (R : AV → Mem → Prop) (n : Int) (p : List Int) (x0 : Bool) (x1 : Int) (fuel : Nat) : Prop := runM Try.prog gamC4 [⟨10,[],true,false⟩] (resh Try.prog [⟨10,[],true,false⟩] Try.f6.results.toList R) (run Try.prog gamC4 [⟨10,[],true,false⟩] (resh Try.prog [⟨10,[],true,false⟩] Try.f6.results.toList R) fuel) 3991 [kc Try.f6 [1,0,1,0,1]] (Vv 200000::Ii n::Uu::Uu::Ll false::Vv 105::Uu::Vv 164::Uu::Ii (cutE (padR p) n)::Bb x0::Ii x1::(us 135 (Ii x1::Vv 200000::Ii (ofNat (llen p))::Ll false::(us 10 (AV.tup [TV.c (AC.vec 164),TV.c (AC.int IntKind.i64 (cutE (padR p) n))]::Vv 105::Ii n::AV.tup [TV.c (AC.vec 164),TV.c (AC.int IntKind.i64 (cutE (padR p) n))]::Vv 164::Ii (cutE (padR p) n)::Bb x0::Ll true::Ii (cutE (padR p) n)::Bb (ieq (cutE (padR p) n) 51)::Bb (ieq (cutE (padR p) n) 51)::Ll true::Vv 164::Ii (ofNat (llen (cutR (padR p) n)))::Bb (ieq (ofNat (llen (cutR (padR p) n))) 0)::Bb (ieq (ofNat (llen (cutR (padR p) n))) 0)::Ll false::Bb x0::Bb (bnot x0)::Ll true::Ii (cutE (padR p) n)::Bb (ieq (cutE (padR p) n) 0)::Bb (ieq (cutE (padR p) n) 0)::Ll false::(zs 7 [Ll false,Ll false])))))) [(105,Blk.vec [Col.ints IntKind.u8 (padR p)]),(122,Blk.vec [Col.ints IntKind.u8 (cutR (padR p) (ofNat (llen p)))]),(164,Blk.vec [Col.ints IntKind.u8 (cutR (padR p) n)]),(200000,Blk.rview [Col.ints IntKind.u8 p])]
def CellBack.k2 (R : AV → Mem → Prop) (n : Int) (p : List Int) (x0 : Bool) (x1 : Int) (fuel : Nat) : Prop := runM Try.prog gamC4 [⟨10,[],true,false⟩] (resh Try.prog [⟨10,[],true,false⟩] Try.f6.results.toList R) (run Try.prog gamC4 [⟨10,[],true,false⟩] (resh Try.prog [⟨10,[],true,false⟩] Try.f6.results.toList R) fuel) 3991 [kc Try.f6 [1,0,1,0,1]] (Vv 200000::Ii n::Uu::Uu::Ll false::Vv 105::Uu::Vv 164::Uu::Ii (cutE (padR p) n)::Bb x0::Ii x1::(us 135 (Ii x1::Vv 200000::Ii (ofNat (llen p))::Ll false::(us 10 (AV.tup [TV.c (AC.vec 164),TV.c (AC.int IntKind.i64 (cutE (padR p) n))]::Vv 105::Ii n::AV.tup [TV.c (AC.vec 164),TV.c (AC.int IntKind.i64 (cutE (padR p) n))]::Vv 164::Ii (cutE (padR p) n)::Bb x0::Ll true::Ii (cutE (padR p) n)::Bb (ieq (cutE (padR p) n) 51)::Bb (ieq (cutE (padR p) n) 51)::Ll true::Vv 164::Ii (ofNat (llen (cutR (padR p) n)))::Bb (ieq (ofNat (llen (cutR (padR p) n))) 0)::Bb (ieq (ofNat (llen (cutR (padR p) n))) 0)::Ll false::Bb x0::Bb (bnot x0)::Ll false::Zz::Zz::Ll false::Ll false::(zs 7 [Ll false,Ll false])))))) [(105,Blk.vec [Col.ints IntKind.u8 (padR p)]),(122,Blk.vec [Col.ints IntKind.u8 (cutR (padR p) (ofNat (llen p)))]),(164,Blk.vec [Col.ints IntKind.u8 (cutR (padR p) n)]),(200000,Blk.rview [Col.ints IntKind.u8 p])]
def CellBack.k3 (R : AV → Mem → Prop) (n : Int) (p : List Int) (x0 : Bool) (x1 : Int) (fuel : Nat) : Prop := runM Try.prog gamC4 [⟨10,[],true,false⟩] (resh Try.prog [⟨10,[],true,false⟩] Try.f6.results.toList R) (run Try.prog gamC4 [⟨10,[],true,false⟩] (resh Try.prog [⟨10,[],true,false⟩] Try.f6.results.toList R) fuel) 3991 [kc Try.f6 [1,0,1,0,1]] (Vv 200000::Ii n::Uu::Uu::Ll true::Vv 105::Uu::Vv 164::Uu::Ii (cutE (padR p) n)::Bb x0::Ii x1::(us 135 (Ii x1::Vv 200000::Ii (ofNat (llen p))::Ll false::(us 10 (AV.tup [TV.c (AC.vec 164),TV.c (AC.int IntKind.i64 (cutE (padR p) n))]::Vv 105::Ii n::AV.tup [TV.c (AC.vec 164),TV.c (AC.int IntKind.i64 (cutE (padR p) n))]::Vv 164::Ii (cutE (padR p) n)::Bb x0::Ll true::Ii (cutE (padR p) n)::Bb (ieq (cutE (padR p) n) 51)::Bb (ieq (cutE (padR p) n) 51)::Ll true::Vv 164::Ii (ofNat (llen (cutR (padR p) n)))::Bb (ieq (ofNat (llen (cutR (padR p) n))) 0)::Bb (ieq (ofNat (llen (cutR (padR p) n))) 0)::Ll true::(zs 15 [Ll true])))))) [(105,Blk.vec [Col.ints IntKind.u8 (padR p)]),(122,Blk.vec [Col.ints IntKind.u8 (cutR (padR p) (ofNat (llen p)))]),(164,Blk.vec [Col.ints IntKind.u8 (cutR (padR p) n)]),(200000,Blk.rview [Col.ints IntKind.u8 p])]
def CellBack.k4 (R : AV → Mem → Prop) (n : Int) (p : List Int) (x0 : Bool) (x1 : Int) (fuel : Nat) : Prop := runM Try.prog gamC4 [⟨10,[],true,false⟩] (resh Try.prog [⟨10,[],true,false⟩] Try.f6.results.toList R) (run Try.prog gamC4 [⟨10,[],true,false⟩] (resh Try.prog [⟨10,[],true,false⟩] Try.f6.results.toList R) fuel) 3991 [kc Try.f6 [1,0,1,0,1]] (Vv 200000::Ii n::Uu::Uu::Bb (seq2 (bytesOf (cutR (padR p) n)) (bytesOf (lsub p 0 (nat n))))::Vv 105::Uu::Vv 164::Uu::Ii (cutE (padR p) n)::Bb x0::Ii x1::(us 135 (Ii x1::Vv 200000::Ii (ofNat (llen p))::Ll false::(us 10 [AV.tup [TV.c (AC.vec 164),TV.c (AC.int IntKind.i64 (cutE (padR p) n))],Vv 105,Ii n,AV.tup [TV.c (AC.vec 164),TV.c (AC.int IntKind.i64 (cutE (padR p) n))],Vv 164,Ii (cutE (padR p) n),Bb x0,Ll true,Ii (cutE (padR p) n),Bb (ieq (cutE (padR p) n) 51),Bb (ieq (cutE (padR p) n) 51),Ll false,Zz,Zz,Zz,Ll false,Ll false,Bb x0,Bb (bnot x0),Ll true,Ii (cutE (padR p) n),Bb (ieq (cutE (padR p) n) 0),Bb (ieq (cutE (padR p) n) 0),Ll true,Vv 164,AV.one (AC.str (bytesOf (cutR (padR p) n))),Vv 200000,Ii n,AV.one (AC.vsl 200000 1 0 (nat n)),AV.one (AC.str (bytesOf (lsub p 0 (nat n)))),Bb (seq2 (bytesOf (cutR (padR p) n)) (bytesOf (lsub p 0 (nat n)))),Bb (seq2 (bytesOf (cutR (padR p) n)) (bytesOf (lsub p 0 (nat n)))),Bb (seq2 (bytesOf (cutR (padR p) n)) (bytesOf (lsub p 0 (nat n))))])))) [(105,Blk.vec [Col.ints IntKind.u8 (padR p)]),(122,Blk.vec [Col.ints IntKind.u8 (cutR (padR p) (ofNat (llen p)))]),(164,Blk.vec [Col.ints IntKind.u8 (cutR (padR p) n)]),(200000,Blk.rview [Col.ints IntKind.u8 p])]
def CellBack.l0 (R : AV → Mem → Prop) (n : Int) (p : List Int) (fuel : Nat) (x0 : Bool) (x1 : Int) : Prop := run Try.prog gamC4 [⟨10,[],true,false⟩] (resh Try.prog [⟨10,[],true,false⟩] Try.f6.results.toList R) fuel [kc Try.f6 [1,1,1,1,1,1,1,1,1,1,1,1,1,1,0,1,0,0],ki Try.f6 [1,1,1,1,1,1,1,1,1,1,1,1,1,1,0,1,0,0],.inBlock 0,kc Try.f6 [1,1,1,1,1,1,1,1,1,1,1,1,1,1,1]] (Vv 200000::Ii n::Uu::Uu::Uu::Vv 105::Uu::Vv 122::Uu::Ii (cutE (padR p) (ofNat (llen p)))::Bb x0::Ii x1::(us 149 (zs 33 []))) [(105,Blk.vec [Col.ints IntKind.u8 (padR p)]),(122,Blk.vec [Col.ints IntKind.u8 (cutR (padR p) (ofNat (llen p)))]),(200000,Blk.rview [Col.ints IntKind.u8 p])]
end Go.Proofs.Ytgkklobamebnjaa.G
namespace Go.Sx
open Go Go.ChangeShapes Go.WideShapes Go.ChangeAt Go.RowKit
section
variable {H : Type} {enc : TypeId × Value → H} {P : Program} {w : World} {base : Nat} {sp : Nat → Bool} {held : Bool}
inductive Args (ρ : Rho) : List AV → List Value → Prop
 | nil : Args ρ [] []
 | cons {x v l m} : SRep ρ x v → Args ρ l m → Args ρ (x :: l) (v :: m)
theorem Args.at {ρ : Rho} {l : List AV} {m : List Value} (h : Args ρ l m) : ∀ (j : Nat) x v, l[j]? = some x → m[j]? = some v → SRep ρ x v := by
 induction h with
 | nil => intro j x v h1; simp at h1
 | cons h t ih =>
  intro j x v h1 h2
  cases j with
  | zero => simp only [List.getElem?_cons_zero, Option.some.injEq] at h1 h2; subst h1; subst h2; exact h
  | succ j => exact ih j x v (by simpa using h1) (by simpa using h2)
theorem Args.arr {ρ : Rho} {l : List AV} {vals : Array Value} (h : Args ρ l vals.toList) (j : Nat) (x : AV) (v : Value) (h1 : l[j]? = some x) (h2 : vals[j]? = some v) : SRep ρ x v :=
 h.at j x v h1 (by simpa using h2)
theorem srep_int (ρ : Rho) (k : IntKind) (n : Int) : SRep ρ (.one (.int k n)) (.int k n) := rfl
def IsRow (k : IntKind) (w : World) (a : Option Addr) (len cap : Nat) (zs : List Int) : Prop :=
 (a = none ∧ len = 0 ∧ cap = 0 ∧ zs = []) ∨
 ∃ x, a = some x ∧ len ≤ cap ∧ cap ≤ maxLen ∧ zs.length = cap ∧ (∀ i, i < zs.length → w.cell? (x.add i) = some (.int k (zs.getD i 0))) ∧ ∀ n ∈ zs, (Lit.int k n).wf = true
end
inductive AggArgs (w : World) : Nat → List Seg → List Value → Mem → Nat → Prop
 | nil (j : Nat) : AggArgs w j [] [] [] j
 | one {j j' : Nat} {a : AC} {v : Value} {s : List Seg} {cs : List Value} {τ : Mem} : (∀ ρ, CRep ρ a v) → AggArgs w j s cs τ j' → AggArgs w j (.cells [a] :: s) (v :: cs) τ j'
 | arr {j j' m : Nat} {k : IntKind} {l : List Int} {s : List Seg} {cs : List Value} {τ : Mem} : l.length = m → AggArgs w j s cs τ j' → AggArgs w j (.ints k m l :: s) (l.map (Value.int k) ++ cs) τ j'
 | row {j j' : Nat} {v : Value} {s : List Seg} {cs : List Value} {τ : Mem} (L : Loc) (cols : List Col) (hj : j < 1000) : VRep w L cols → v = .slice L.a L.len L.cap → AggArgs w (j + 1) s cs τ j' → (hH : noHss cols = true := by rfl) → AggArgs w j (.cells [.vec (200000 + j)] :: s) (v :: cs) ((200000 + j, .rview cols) :: τ) j'
inductive LawArgs (w : World) : Nat → List AV → List Value → Mem → Prop
 | nil (j : Nat) : LawArgs w j [] [] []
 | plain {j : Nat} {x : AV} {v : Value} {xs : List AV} {vs : List Value} {τ : Mem} : (∀ ρ, SRep ρ x v) → LawArgs w (j + 1) xs vs τ → LawArgs w j (x :: xs) (v :: vs) τ
 | row {j : Nat} {v : Value} {xs : List AV} {vs : List Value} {τ : Mem} (L : Loc) (cs : List Col) (hj : j < 1000) : VRep w L cs → v = .slice L.a L.len L.cap → LawArgs w (j + 1) xs vs τ → (hH : noHss cs = true := by rfl) → LawArgs w j (.one (.vec (200000 + j)) :: xs) (v :: vs) ((200000 + j, .rview cs) :: τ)
 | agg {j j' : Nat} {s : List Seg} {cs : List Value} {xs : List AV} {vs : List Value} {τ τ' : Mem} : AggArgs w j s cs τ' j' → LawArgs w j' xs vs τ → LawArgs w j (.agg s :: xs) (.agg cs.toArray :: vs) (τ' ++ τ)
 | heap {j : Nat} {k : IntKind} {xs : List AV} {vs : List Value} {τ : Mem} : LawArgs w j xs vs τ → LawArgs w j xs vs ((hname k, .heap k [[]]) :: τ)
 | glob {j g : Nat} {s : List Seg} {xs : List AV} {vs : List Value} {τ : Mem} : (∀ ρ, Glob ρ → segsOk s ∧ CellsAt ρ w (gname g) (flat s)) → LawArgs w j xs vs τ → LawArgs w j xs vs ((gname g, .view s) :: τ)
theorem find_append {τ' τ : Mem} {n : Nat} {b : Blk} (h : Mem.find (τ' ++ τ) n = some b) : Mem.find τ' n = some b ∨ Mem.find τ n = some b := by
 induction τ' with
 | nil => exact Or.inr h
 | cons x r ih =>
  obtain ⟨m, y⟩ := x
  simp only [List.cons_append, Mem.find] at h ⊢
  split at h
  ·rename_i e; rw [if_pos e]; exact Or.inl h
  ·rename_i e; rw [if_neg e]; exact ih h
theorem aggArgs_views {w : World} {τ : Mem} : ∀ {j j' : Nat} {s : List Seg} {cs : List Value}, AggArgs w j s cs τ j' → ∀ ρ n b k, Mem.find τ n = some b → ¬ Out ρ n b k := by
 intro j j' s cs h
 induction h with
 | nil j => intro ρ n b k hn; simp [Mem.find] at hn
 | one _ _ ih => exact ih
 | arr _ _ ih => exact ih
 | row L cols _ _ _ _ _ ih =>
  intro ρ n b k hn
  simp only [Mem.find] at hn
  split at hn
  ·cases hn; exact fun q => q
  ·exact ih ρ n b k hn
def heap0 : Loc := ⟨0, 0, none, 0, 0, fun c _ => ⟨none, c, 0⟩⟩
theorem heap0_rep (w : World) (k : IntKind) : HeapRep w heap0 k [[]] :=
 ⟨rfl, rfl, by decide, rfl, fun j l hl => by
  cases j with
  | zero =>
   simp at hl; subst hl
   exact ⟨VRep.ofInts rfl (Nat.le_refl _) (fun q => absurd rfl q) (fun j x hj => by simp at hj), fun q => absurd rfl q⟩
  | succ j => simp at hl, fun i j hi hj hij => by simp at hi hj; omega⟩
theorem lawArgs_views {w : World} {τ : Mem} : ∀ {j : Nat} {xs : List AV} {vs : List Value}, LawArgs w j xs vs τ → ∀ ρ, (∀ n, isHeap n = true → ρ n = heap0) → ∀ n b k, Mem.find τ n = some b → ¬ Out ρ n b k := by
 intro j xs vs h
 induction h with
 | nil j => intro ρ _ n b k hn; simp [Mem.find] at hn
 | plain _ _ ih => exact ih
 | row L cs _ _ _ _ _ ih =>
  intro ρ hp n b k hn
  simp only [Mem.find] at hn
  split at hn
  ·cases hn; exact fun q => q
  ·exact ih ρ hp n b k hn
 | agg ha _ ih =>
  intro ρ hp n b k hn
  rcases find_append hn with q | q
  ·exact aggArgs_views ha ρ n b k q
  ·exact ih ρ hp n b k q
 | @heap j k xs vs τ _ ih =>
  intro ρ hp n b q hn
  simp only [Mem.find] at hn
  split at hn
  ·rename_i e
   subst e
   cases hn
   rintro ⟨i, h1, h2, _⟩
   rw [hp _ (isHeap_hname k)] at h1 h2
   exact h2 rfl
  ·exact ih ρ hp n b q hn
 | glob _ _ ih =>
  intro ρ hp n b k hn
  simp only [Mem.find] at hn
  split at hn
  ·cases hn; exact fun q => q
  ·exact ih ρ hp n b k hn
theorem FRep.cons {ρ : Rho} {a : AC} {v : Value} {l : List AC} {c : List Value} (h : CRep ρ a v) (t : FRep ρ l c) : FRep ρ (a :: l) (v :: c) := by
 refine ⟨by simp [t.1], fun j x u hx hu => ?_⟩
 cases j with
 | zero => simp at hx hu; subst hx hu; exact h
 | succ j => exact t.2 j x u (by simpa using hx) (by simpa using hu)
theorem FRep.arr {ρ : Rho} {k : IntKind} {l : List AC} {c : List Value} : ∀ (a : List Int), FRep ρ l c → FRep ρ (a.map (.int k) ++ l) (a.map (Value.int k) ++ c)
 | [], h => h
 | x :: a, h => FRep.cons rfl (FRep.arr a h)
theorem aggArgs_sound {w : World} {τ : Mem} : ∀ {j j' : Nat} {s : List Seg} {cs : List Value}, AggArgs w j s cs τ j' →
  j ≤ j' ∧ ∃ Ls : Nat → Loc, ∀ ρ : Rho, (∀ i, j ≤ i → i < j' → i < 1000 → ρ (200000 + i) = Ls i) → segsOk s ∧ FRep ρ (flat s) cs ∧ MemRep ρ τ w := by
 intro j j' s cs h
 induction h with
 | nil j => exact ⟨Nat.le_refl _, fun _ => loc0, fun ρ _ => ⟨trivial, ⟨rfl, fun i y v hy => by simp [flat] at hy⟩, fun n b hb => by simp [Mem.find] at hb⟩⟩
 | one hp _ ih =>
  obtain ⟨h1, Ls, h2⟩ := ih
  refine ⟨h1, Ls, fun ρ hc => ?_⟩
  obtain ⟨g1, g2, g3⟩ := h2 ρ hc
  exact ⟨⟨trivial, g1⟩, FRep.cons (hp ρ) g2, g3⟩
 | arr hl _ ih =>
  obtain ⟨h1, Ls, h2⟩ := ih
  refine ⟨h1, Ls, fun ρ hc => ?_⟩
  obtain ⟨g1, g2, g3⟩ := h2 ρ hc
  exact ⟨⟨hl, g1⟩, FRep.arr _ g2, g3⟩
 | @row j j' v s cs τ L cols hj hV hv _ hH ih =>
  obtain ⟨h1, Ls, h2⟩ := ih
  refine ⟨by omega, fun i => if i = j then L else Ls i, fun ρ hc => ?_⟩
  have hj' : ρ (200000 + j) = L := by rw [hc j (Nat.le_refl _) (by omega) hj]; simp
  obtain ⟨g1, g2, g3⟩ := h2 ρ (fun i hi hlt h1000 => by rw [hc i (by omega) hlt h1000]; show (if i = j then _ else Ls i) = Ls i; rw [if_neg (by omega)])
  refine ⟨⟨trivial, g1⟩, FRep.cons (show v = _ by rw [hj']; exact hv) g2, fun n b hb => ?_⟩
  simp only [Mem.find] at hb
  split at hb
  ·rename_i e; subst e; cases hb
   exact ⟨by rw [hj']; exact hV, noHss_lnk hH⟩
  ·exact g3 n b hb
theorem lawArgs_sound {w : World} {τ : Mem} : ∀ {j : Nat} {xs : List AV} {vs : List Value}, LawArgs w j xs vs τ →
  xs.length = vs.length ∧ ∃ Ls : Nat → Loc, ∀ ρ : Rho, Glob ρ → (∀ n, isHeap n = true → ρ n = heap0) → (∀ i, j ≤ i → i < 1000 → ρ (200000 + i) = Ls i) → (∀ (i : Nat) y v, xs[i]? = some y → vs[i]? = some v → SRep ρ y v) ∧ MemRep ρ τ w := by
 intro j xs vs h
 induction h with
 | nil j => exact ⟨rfl, fun _ => loc0, fun ρ _ _ _ => ⟨fun i y v hy => by simp at hy, fun n b hb => by simp [Mem.find] at hb⟩⟩
 | @plain j x v xs vs τ hp _ ih =>
  obtain ⟨h1, Ls, h2⟩ := ih
  refine ⟨by simpa using h1, Ls, fun ρ hg hp0 hc => ?_⟩
  obtain ⟨g1, g2⟩ := h2 ρ hg hp0 (fun i hi hlt => hc i (by omega) hlt)
  refine ⟨fun i y u hy hu => ?_, g2⟩
  cases i with
  | zero => simp at hy hu; subst hy hu; exact hp ρ
  | succ i => exact g1 i y u (by simpa using hy) (by simpa using hu)
 | @row j v xs vs τ L cs hj hV hv _ hH ih =>
  obtain ⟨h1, Ls, h2⟩ := ih
  refine ⟨by simpa using h1, fun i => if i = j then L else Ls i, fun ρ hg hp0 hc => ?_⟩
  have hj : ρ (200000 + j) = L := by rw [hc j (Nat.le_refl _) hj]; simp
  obtain ⟨g1, g2⟩ := h2 ρ hg hp0 (fun i hi hlt => by rw [hc i (by omega) hlt]; show (if i = j then _ else Ls i) = Ls i; rw [if_neg (by omega)])
  refine ⟨fun i y u hy hu => ?_, fun n b hb => ?_⟩
  ·cases i with
   | zero =>
    simp at hy hu
    subst hy hu
    show v = _
    rw [hj]; exact hv
   | succ i => exact g1 i y u (by simpa using hy) (by simpa using hu)
  ·simp only [Mem.find] at hb
   split at hb
   ·rename_i e; subst e; cases hb
    exact ⟨by rw [hj]; exact hV, noHss_lnk hH⟩
   ·exact g2 n b hb
 | @agg j j' s cs xs vs τ τ' ha _ ih =>
  obtain ⟨h1, Ls, h2⟩ := ih
  obtain ⟨a1, La, a2⟩ := aggArgs_sound ha
  refine ⟨by simpa using h1, fun i => if i < j' then La i else Ls i, fun ρ hg hp0 hc => ?_⟩
  obtain ⟨g1, g2⟩ := h2 ρ hg hp0 (fun i hi hlt => by rw [hc i (by omega) hlt]; show (if i < j' then _ else Ls i) = Ls i; rw [if_neg (by omega)])
  obtain ⟨b1, b2, b3⟩ := a2 ρ (fun i hi hlt h1000 => by rw [hc i hi h1000]; show (if i < j' then La i else _) = La i; rw [if_pos hlt])
  refine ⟨fun i y u hy hu => ?_, fun n b hb => ?_⟩
  ·cases i with
   | zero =>
    simp at hy hu
    subst hy hu
    exact ⟨b1, cs, rfl, b2⟩
   | succ i => exact g1 i y u (by simpa using hy) (by simpa using hu)
  ·rcases find_append hb with q | q
   ·exact b3 n b q
   ·exact g2 n b q
 | @heap j k xs vs τ _ ih =>
  obtain ⟨h1, Ls, h2⟩ := ih
  refine ⟨h1, Ls, fun ρ hg hp0 hc => ?_⟩
  obtain ⟨g1, g2⟩ := h2 ρ hg hp0 hc
  refine ⟨g1, fun n b hb => ?_⟩
  simp only [Mem.find] at hb
  split at hb
  ·rename_i e; subst e; cases hb
   exact ⟨isHeap_hname k, by rw [hp0 _ (isHeap_hname k)]; exact heap0_rep w k⟩
  ·exact g2 n b hb
 | @glob j g s xs vs τ hp _ ih =>
  obtain ⟨h1, Ls, h2⟩ := ih
  refine ⟨h1, Ls, fun ρ hg hp0 hc => ?_⟩
  obtain ⟨g1, g2⟩ := h2 ρ hg hp0 hc
  refine ⟨g1, fun n b hb => ?_⟩
  simp only [Mem.find] at hb
  split at hb
  ·rename_i e; subst e; cases hb
   exact hp ρ hg
  ·exact g2 n b hb
theorem loc_of {w : World} {k : IntKind} {a : Option Addr} {len cap : Nat} {zs : List Int} (h : IsRow k w a len cap zs) : ∃ L : Loc, VRep w L [.ints k (zs.take len)] ∧ Value.slice a len cap = .slice L.a L.len L.cap := by
 rcases h with ⟨rfl, rfl, rfl, rfl⟩ | ⟨x, rfl, hl, hm, hz, hc, hw⟩
 ·exact ⟨loc0, VRep.ofInts rfl (Nat.le_refl _) (fun q => absurd rfl q) (fun j x hj => by simp at hj), rfl⟩
 ·have hcell : ∀ (j : Nat) y, (zs.take len)[j]? = some y → w.cell? (x.add j) = some (.int k y) := fun j y hj => by
   have hlt : j < len := by have := (List.getElem?_eq_some_iff.1 hj).1; simp at this; omega
   rw [hc j (by omega)]
   rw [List.getElem?_take_of_lt hlt] at hj
   simp [List.getD, hj]
  have hsp : 0 < len → x.spot = none := fun hp => by
   have h0 := hc 0 (by omega)
   cases hs : x.spot with
   | none => rfl
   | some q =>
    exfalso
    have : (x.add 0).spot.isSome = true := by cases x; simp only at hs; subst hs; rfl
    simp only [World.cell?, this] at h0
    split at h0 <;> simp at h0
  refine ⟨⟨x.block, x.off, some x, len, cap, fun _ _ => ⟨none, 0, 0⟩⟩, VRep.ofInts (by simp; omega) hl (fun q => ?_) (fun j y hj => ?_), rfl⟩
  ·have := hsp (Nat.pos_of_ne_zero q)
   cases x
   simp only at this; subst this; rfl
  ·have hlt : j < len := by have := (List.getElem?_eq_some_iff.1 hj).1; simp at this; omega
   have := hsp (by omega)
   have e : (Loc.at ⟨x.block, x.off, some x, len, cap, fun _ _ => ⟨none, 0, 0⟩⟩ j) = x.add j := by
    cases x; simp only at this; subst this; simp [Loc.at, Addr.add]
   rw [e]; exact hcell j y hj
theorem LawArgs.ints {w : World} {k : IntKind} {a : Option Addr} {len cap j : Nat} {zs : List Int} {xs : List AV} {vs : List Value} {τ : Mem} (h : IsRow k w a len cap zs) (t : LawArgs w (j + 1) xs vs τ) (hj : j < 1000 := by decide) :
  LawArgs w j (.one (.vec (200000 + j)) :: xs) (.slice a len cap :: vs) ((200000 + j, .rview [.ints k (zs.take len)]) :: τ) := by
 obtain ⟨L, h1, h2⟩ := loc_of h
 exact .row L _ hj h1 h2 t
theorem AggArgs.ints {w : World} {k : IntKind} {a : Option Addr} {len cap j j' : Nat} {zs : List Int} {s : List Seg} {cs : List Value} {τ : Mem} (h : IsRow k w a len cap zs) (t : AggArgs w (j + 1) s cs τ j') (hj : j < 1000 := by decide) :
  AggArgs w j (.cells [.vec (200000 + j)] :: s) (.slice a len cap :: cs) ((200000 + j, .rview [.ints k (zs.take len)]) :: τ) j' := by
 obtain ⟨L, h1, h2⟩ := loc_of h
 exact .row L _ hj h1 h2 t
theorem IsRow.bytes {w : World} {a : Option Addr} {len cap : Nat} {zs : List Int} (h : IsRow .u8 w a len cap zs) : ∀ x ∈ zs.take len, 0 ≤ x ∧ x < 256 := by
 rcases h with ⟨rfl, rfl, rfl, rfl⟩ | ⟨x, rfl, hl, hm, hz, hc, hw⟩
 ·intro x hx; simp at hx
 ·intro x hx
  obtain ⟨h1, h2⟩ := bounds_u8 (hw x (List.mem_of_mem_take hx))
  exact ⟨h1, by omega⟩
section
variable {H : Type} {enc : TypeId × Value → H} {P : Program} {w : World}
theorem open_row_sized {t e : TypeId} {k : IntKind} {a : Option Addr} {len cap : Nat} {d : DataW H} {ps : List MemPlace} (ht : P.underlying t = some (.slice e)) (he : P.underlying e = some (.int k)) (hc : P.cellsOf e = 1)
  (h : DataW.Trod enc P w 0 (fun _ => true) true t (.slice a len cap) d ps) {ts : List TypeId} {ds : List (DataW H)} (hsz : (DataW.weightsEach P ts ds).all (· ≤ reachBytes) = true) {j : Nat} (htj : ts[j]? = some t) (hdj : ds[j]? = some d) :
  ∃ zs, IsRow k w a len cap zs ∧ zs.length * P.bytesOf e ≤ reachBytes := by
 obtain ⟨fuel, hf⟩ := h
 rcases open_ints ht he hc hf with ⟨hcs, _⟩ | ⟨x, l, c, zs, hcs, _, hl, hm, hz, hd, hcell, hwz⟩
 ·simp [Value.cells] at hcs
  obtain ⟨rfl, rfl, rfl⟩ := hcs
  exact ⟨[], .inl ⟨rfl, rfl, rfl, rfl⟩, by simp⟩
 ·simp [Value.cells] at hcs
  obtain ⟨rfl, rfl, rfl⟩ := hcs
  simp only [Prod.mk.injEq] at hd
  obtain ⟨rfl, _⟩ := hd
  refine ⟨zs, .inr ⟨_, rfl, hl, hm, by simpa using hz, hcell, hwz⟩, ?_⟩
  have := sized_slice hsz htj hdj ht
  simp only [lits, List.length_map, List.length_take, List.length_drop] at this
  have hz' : zs.length = cap := by simpa using hz
  rw [show min len zs.length + (zs.length - len) = zs.length by omega] at this
  exact this
end
section
variable {P : Program} {Γ : Gam} {D : Hints}
theorem law_mem (hm : P.follows .mixedOrders = true) (hΓ : GoodG P Γ) {f : FuncId} {fn : Func} (hf : P.funcs[f]? = some fn) (hb : fn.body.isSome = true) {n : Nat} {args : List AV} {vals : Array Value} {w : World} {τ : Mem} (ha : LawArgs w 0 args vals.toList τ) (hlen : args.length ≤ 1000)
  (h0 : Has (callsx P Γ D fn n args τ fun av _ => av = .one (.bool true) ∨ av = .one (.lit true))) :
  Calls P f vals w fun e w' => e = .returned (.bool true) ∧ Go.RowKit.Below w.heap.size w w' := by
 have h := h0.out
 obtain ⟨hl, Ls, hs⟩ := lawArgs_sound ha
 generalize hρ0 : rhoC (fun n => if n < 1000000 then heap0 else ⟨n - 1000000, 0, none, 0, 0, fun _ _ => ⟨none, 0, 0⟩⟩) Ls = ρ
 have hρ : ∀ i, 0 ≤ i → i < 1000 → ρ (200000 + i) = Ls i := fun i _ hi => by rw [← hρ0]; exact rhoC_arg (by omega)
 have hg : Glob ρ := fun g => by
  have e : ρ (gname g) = ⟨gname g - 1000000, 0, none, 0, 0, fun _ _ => ⟨none, 0, 0⟩⟩ := by rw [← hρ0, rhoC_glob, if_neg (by simp only [gname]; omega)]
  rw [e]; simp [gname]
 have hh : ∀ n, isHeap n = true → ρ n = heap0 := fun n hn => by rw [← hρ0, rhoC_heap hn, if_pos (isHeap_le hn).2]
 obtain ⟨g1, g2⟩ := hs ρ hg hh hρ
 have hno := lawArgs_views ha ρ hh
 refine (callsx_sound hm hΓ hf hb h (ρ := ρ) (ex := fun _ => False) hg (by simpa using hl) (fun j x v h1 h2 => g1 j x v h1 (by rw [Array.getElem?_toList]; exact h2)) g2 ⟨fun n m b c k hn _ _ hO => absurd hO (hno n b k hn), fun n b k hn hO => absurd hO (hno n b k hn)⟩ (fun n b k hn hO => absurd hO (hno n b k hn))).mono ?_
 rintro e w' ⟨v, av, σ', ρ', rfl, hav, hsr, _, _, _, _, _, hk⟩
 have : v = .bool true := by rcases hav with rfl | rfl <;> exact hsr
 subst this
 exact ⟨rfl, hk.below⟩
end
end Go.Sx
namespace Go.Proofs.Ytgkklobamebnjaa.G
open Go Go.Sx
theorem mixed : Try.prog.follows .mixedOrders = true := by kernel_rfl
end Go.Proofs.Ytgkklobamebnjaa.G
namespace Go.Proofs.Ytgkklobamebnjaa.G
open Go Go.Sx Go.Cel
set_option maxRecDepth 100000
def noughts.l0 (R : AV → Mem → Prop) (p : List Int) (fuel : Nat) (x0 : Int) : Prop := run Try.prog gam0 [] (resh Try.prog [] Try.f21.results.toList R) fuel [kc Try.f21 [1,0,1,0,0],ki Try.f21 [1,0,1,0,0],.inBlock 0,kc Try.f21 [1,1]] (us 5 (Vv 200000::Ii (ofNat (llen p))::Ii x0::(us 6 []))) [(200000,Blk.rview [Col.ints IntKind.u8 p])]
theorem noughts.l0_succ (R : AV → Mem → Prop) (p : List Int) (fuel : Nat) (x0 : Int) : noughts.l0 R p (fuel + 1) x0 = (((((ilt x0 (ofNat (llen p))) = true) → ((InB x0 (llen p)) ∧ ((((ine (lget p (nat x0)) 0) = true) → (R (Ll false) [(200000,Blk.rview [Col.ints IntKind.u8 p])])) ∧ (((ine (lget p (nat x0)) 0) = false) → (noughts.l0 R p fuel (add IntKind.i64 x0 1)))))) ∧ (((ilt x0 (ofNat (llen p))) = false) → (R (Ll true) [(200000,Blk.rview [Col.ints IntKind.u8 p])])))) := by kernel_rfl
theorem noughts_vc (R : AV → Mem → Prop) (fuel : Nat) (p : List Int) : callsx Try.prog gam0 [] Try.f21 (fuel + 1) [.one (.vec 200000)] [(200000, .rview [.ints .u8 p])] R = ((noughts.l0 R p fuel 0)) := by kernel_rfl
def rnoughts.l0 (R : AV → Mem → Prop) (p : List Int) (fuel : Nat) (x0 : Int) : Prop := run Try.prog gam0 [] (resh Try.prog [] Try.f22.results.toList R) fuel [kc Try.f22 [1,0,0,0],ki Try.f22 [1,0,0,0],.inBlock 0,kc Try.f22 [1,1]] (Vv 200000::Ii x0::(us 14 [])) [(200000,Blk.rview [Col.ints IntKind.u8 p])]
theorem rnoughts.l0_succ (R : AV → Mem → Prop) (p : List Int) (fuel : Nat) (x0 : Int) : rnoughts.l0 R p (fuel + 1) x0 = (((((ilt x0 (ofNat (llen p))) = true) → ((InB x0 (llen p)) ∧ ((((ine (lget p (nat x0)) 0) = true) → (R (Ll false) [(200000,Blk.rview [Col.ints IntKind.u8 p])])) ∧ (((ine (lget p (nat x0)) 0) = false) → (rnoughts.l0 R p fuel (add IntKind.i64 x0 1)))))) ∧ (((ilt x0 (ofNat (llen p))) = false) → (R (Ll true) [(200000,Blk.rview [Col.ints IntKind.u8 p])])))) := by kernel_rfl
theorem rnoughts_vc (R : AV → Mem → Prop) (fuel : Nat) (p : List Int) (i : Int) : callsx Try.prog gam0 [] Try.f22 (fuel + 1) [.one (.vec 200000), .one (.int .i64 i)] [(200000, .rview [.ints .u8 p])] R = ((rnoughts.l0 R p fuel i)) := by kernel_rfl
theorem laid_vc (R : AV → Mem → Prop) (fuel : Nat) (p : List Int) (f : List Int) (i : Int) : callsx Try.prog gam0 [] Try.f20 (fuel + 1) [.one (.vec 200000), .one (.int .i64 i), .one (.vec 200002)] [(200000, .rview [.ints .u8 p]), (200002, .rview [.ints .u8 f])] R = (((Mk 320 320 1) ∧ (((NonNeg i) ∧ (Fits (nat i) (llen (lput (lzeros 320) 0 (lsub f 0 (nmin (llen f) 320)))))) ∧ (R (AV.one (AC.vec 8)) [(8, Blk.vec [(Col.ints IntKind.u8 (lput (lput (lzeros 320) 0 (lsub f 0 (nmin (llen f) 320))) (nat i) (lsub p 0 (nmin (llen p) (nsub (llen (lput (lzeros 320) 0 (lsub f 0 (nmin (llen f) 320)))) (nat i))))))]), (200000, Blk.rview [(Col.ints IntKind.u8 p)]), (200002, Blk.rview [(Col.ints IntKind.u8 f)])])))) := by kernel_rfl
def fill.l0 (R : AV → Mem → Prop) (p : List Int) (fuel : Nat) (x0 : List Int) : Prop := run Try.prog gam0 [⟨3,[.ints .u8],true,false⟩] (resh Try.prog [⟨3,[.ints .u8],true,false⟩] Try.f19.results.toList R) fuel [kc Try.f19 [1,1,0,0,0],ki Try.f19 [1,1,0,0,0],.inBlock 0,kc Try.f19 [1,1,1]] (Uu::Uu::Uu::Vv 100003::(us 9 [Zz])) [(100003,Blk.vec [Col.ints IntKind.u8 x0]),(200000,Blk.rview [Col.ints IntKind.u8 p])]
theorem fill.l0_succ (R : AV → Mem → Prop) (p : List Int) (fuel : Nat) (x0 : List Int) : fill.l0 R p (fuel + 1) x0 = (((((ilt (ofNat (llen x0)) 320) = true) → ((Room (nadd (llen x0) 1) 1) ∧ (fill.l0 R p fuel (lcat x0 [0])))) ∧ (((ilt (ofNat (llen x0)) 320) = false) → (R (Vv 100003) [(100003,Blk.vec [Col.ints IntKind.u8 x0]),(200000,Blk.rview [Col.ints IntKind.u8 p])])))) := by kernel_rfl
theorem fill_vc (R : AV → Mem → Prop) (fuel : Nat) (p : List Int) : callsx Try.prog gam0 [⟨3, [.ints .u8], true, false⟩] Try.f19 (fuel + 1) [.one (.vec 200000)] [(200000, .rview [.ints .u8 p])] R = (((Room (nadd 0 (llen p)) 1) ∧ (fill.l0 R p fuel (lcat [] p)))) := by kernel_rfl
theorem Pad_vc (R : AV → Mem → Prop) (fuel : Nat) (p : List Int) : callsx Try.prog gamC1 [] Try.f12 (fuel + 1) [.one (.vec 200000)] [(200000, .rview [.ints .u8 p])] R = (((((igt (ofNat (llen p)) 320) = true) → (R (AV.tup [(TV.c (AC.con (Value.slice (Option.none) 0 0))), (TV.c (AC.int IntKind.i64 1))]) [(200000, Blk.rview [(Col.ints IntKind.u8 p)])])) ∧ (((igt (ofNat (llen p)) 320) = false) → ((Go.Cel.LaidOk p [] 0) ∧ (R (AV.tup [(TV.c (AC.vec 8)), (TV.c (AC.int IntKind.i64 0))]) [(8, Blk.vec [(Col.ints IntKind.u8 (Go.Cel.fillL (lcat [] p)))]), (200000, Blk.rview [(Col.ints IntKind.u8 p)])]))))) := by kernel_rfl
theorem Plain_vc (R : AV → Mem → Prop) (fuel : Nat) (p : List Int) : callsx Try.prog gamC1 [] Try.f13 (fuel + 1) [.one (.vec 200000)] [(200000, .rview [.ints .u8 p])] R = (((((igt (ofNat (llen p)) 48) = true) → (R (AV.tup [(TV.c (AC.con (Value.slice (Option.none) 0 0))), (TV.c (AC.int IntKind.i64 1))]) [(200000, Blk.rview [(Col.ints IntKind.u8 p)])])) ∧ (((igt (ofNat (llen p)) 48) = false) → ((Go.Cel.LaidOk p [1, (conv IntKind.u8 (ofNat (llen p)))] 2) ∧ (R (AV.tup [(TV.c (AC.vec 12)), (TV.c (AC.int IntKind.i64 0))]) [(11, Blk.vec [(Col.ints IntKind.u8 [1, (conv IntKind.u8 (ofNat (llen p)))])]), (12, Blk.vec [(Col.ints IntKind.u8 (Go.Cel.fillL (lcat [1, (conv IntKind.u8 (ofNat (llen p)))] p)))]), (200000, Blk.rview [(Col.ints IntKind.u8 p)])]))))) := by kernel_rfl
theorem Noise_vc (R : AV → Mem → Prop) (fuel : Nat) (p : List Int) : callsx Try.prog gamC1 [] Try.f14 (fuel + 1) [.one (.vec 200000)] [(200000, .rview [.ints .u8 p])] R = (((((igt (ofNat (llen p)) 319) = true) → (R (AV.tup [(TV.c (AC.con (Value.slice (Option.none) 0 0))), (TV.c (AC.int IntKind.i64 1))]) [(200000, Blk.rview [(Col.ints IntKind.u8 p)])])) ∧ (((igt (ofNat (llen p)) 319) = false) → ((Go.Cel.LaidOk p [0] 1) ∧ (R (AV.tup [(TV.c (AC.vec 9)), (TV.c (AC.int IntKind.i64 0))]) [(8, Blk.vec [(Col.ints IntKind.u8 [0])]), (9, Blk.vec [(Col.ints IntKind.u8 (Go.Cel.fillL (lcat [0] p)))]), (200000, Blk.rview [(Col.ints IntKind.u8 p)])]))))) := by kernel_rfl
theorem Cut_vc (R : AV → Mem → Prop) (fuel : Nat) (p : List Int) (n : Int) : callsx Try.prog gamC1 [] Try.f18 (fuel + 1) [.one (.vec 200000), .one (.int .i64 n)] [(200000, .rview [.ints .u8 p])] R = (((((ine (ofNat (llen p)) 320) = true) → (R (AV.tup [(TV.c (AC.con (Value.slice (Option.none) 0 0))), (TV.c (AC.int IntKind.i64 50))]) [(200000, Blk.rview [(Col.ints IntKind.u8 p)])])) ∧ (((ine (ofNat (llen p)) 320) = false) → ((((ilt n 0) = false) → ((((igt n 320) = true) → (R (AV.tup [(TV.c (AC.con (Value.slice (Option.none) 0 0))), (TV.c (AC.int IntKind.i64 2))]) [(200000, Blk.rview [(Col.ints IntKind.u8 p)])])) ∧ (((igt n 320) = false) → (((NonNeg n) ∧ (Fits (nat n) (llen p))) ∧ ((Go.Sx.Short (lsub p (nat n) (nsub (llen p) (nat n)))) ∧ ((((bnot (Go.Cel.zb (lsub p (nat n) (nsub (llen p) (nat n))))) = true) → (R (AV.tup [(TV.c (AC.con (Value.slice (Option.none) 0 0))), (TV.c (AC.int IntKind.i64 51))]) [(200000, Blk.rview [(Col.ints IntKind.u8 p)])])) ∧ (((bnot (Go.Cel.zb (lsub p (nat n) (nsub (llen p) (nat n))))) = false) → (((NonNeg n) ∧ (Fits (nat n) (llen p))) ∧ ((Room (nadd 0 (llen (lsub p 0 (nat n)))) 1) ∧ (R (AV.tup [(TV.c (AC.vec 26)), (TV.c (AC.int IntKind.i64 0))]) [(26, Blk.vec [(Col.ints IntKind.u8 (lcat [] (lsub p 0 (nat n))))]), (200000, Blk.rview [(Col.ints IntKind.u8 p)])])))))))))) ∧ (((ilt n 0) = true) → (R (AV.tup [(TV.c (AC.con (Value.slice (Option.none) 0 0))), (TV.c (AC.int IntKind.i64 2))]) [(200000, Blk.rview [(Col.ints IntKind.u8 p)])])))))) := by kernel_rfl
theorem Open_vc (R : AV → Mem → Prop) (fuel : Nat) (p : List Int) : callsx Try.prog gamC1 [] Try.f15 (fuel + 1) [.one (.vec 200000)] [(200000, .rview [.ints .u8 p])] R = (((((ine (ofNat (llen p)) 320) = true) → (R (AV.tup [(TV.c (AC.con (Value.slice (Option.none) 0 0))), (TV.c (AC.lit false)), (TV.c (AC.int IntKind.i64 50))]) [(200000, Blk.rview [(Col.ints IntKind.u8 p)])])) ∧ (((ine (ofNat (llen p)) 320) = false) → ((InB 0 (llen p)) ∧ ((((ieq (lget p 0) 0) = true) → (R (AV.tup [(TV.c (AC.con (Value.slice (Option.none) 0 0))), (TV.c (AC.lit false)), (TV.c (AC.int IntKind.i64 0))]) [(200000, Blk.rview [(Col.ints IntKind.u8 p)])])) ∧ (((ieq (lget p 0) 0) = false) → ((((ieq (lget p 0) 1) = true) → ((InB 1 (llen p)) ∧ ((((igt (conv IntKind.i64 (lget p 1)) 48) = true) → (R (AV.tup [(TV.c (AC.con (Value.slice (Option.none) 0 0))), (TV.c (AC.lit false)), (TV.c (AC.int IntKind.i64 53))]) [(200000, Blk.rview [(Col.ints IntKind.u8 p)])])) ∧ (((igt (conv IntKind.i64 (lget p 1)) 48) = false) → (((NonNeg (add IntKind.i64 2 (conv IntKind.i64 (lget p 1)))) ∧ (Fits (nat (add IntKind.i64 2 (conv IntKind.i64 (lget p 1)))) (llen p))) ∧ ((Go.Sx.Short (lsub p (nat (add IntKind.i64 2 (conv IntKind.i64 (lget p 1)))) (nsub (llen p) (nat (add IntKind.i64 2 (conv IntKind.i64 (lget p 1))))))) ∧ ((((bnot (Go.Cel.zb (lsub p (nat (add IntKind.i64 2 (conv IntKind.i64 (lget p 1)))) (nsub (llen p) (nat (add IntKind.i64 2 (conv IntKind.i64 (lget p 1)))))))) = true) → (R (AV.tup [(TV.c (AC.con (Value.slice (Option.none) 0 0))), (TV.c (AC.lit false)), (TV.c (AC.int IntKind.i64 51))]) [(200000, Blk.rview [(Col.ints IntKind.u8 p)])])) ∧ (((bnot (Go.Cel.zb (lsub p (nat (add IntKind.i64 2 (conv IntKind.i64 (lget p 1)))) (nsub (llen p) (nat (add IntKind.i64 2 (conv IntKind.i64 (lget p 1)))))))) = false) → ((((NonNeg (add IntKind.i64 2 (conv IntKind.i64 (lget p 1)))) ∧ (Fits (nat (add IntKind.i64 2 (conv IntKind.i64 (lget p 1)))) (llen p))) ∧ ((NonNeg 2) ∧ (Fits 2 (nat (add IntKind.i64 2 (conv IntKind.i64 (lget p 1))))))) ∧ ((Room (nadd 0 (llen (lsub p 2 (nsub (nat (add IntKind.i64 2 (conv IntKind.i64 (lget p 1)))) 2)))) 1) ∧ (R (AV.tup [(TV.c (AC.vec 32)), (TV.c (AC.lit true)), (TV.c (AC.int IntKind.i64 0))]) [(32, Blk.vec [(Col.ints IntKind.u8 (lcat [] (lsub p 2 (nsub (nat (add IntKind.i64 2 (conv IntKind.i64 (lget p 1)))) 2))))]), (200000, Blk.rview [(Col.ints IntKind.u8 p)])]))))))))))) ∧ (((ieq (lget p 0) 1) = false) → (R (AV.tup [(TV.c (AC.con (Value.slice (Option.none) 0 0))), (TV.c (AC.lit false)), (TV.c (AC.int IntKind.i64 52))]) [(200000, Blk.rview [(Col.ints IntKind.u8 p)])]))))))))) := by kernel_rfl
theorem rPad_vc (R : AV → Mem → Prop) (fuel : Nat) (p : List Int) : callsx Try.prog gamC1 [] Try.f9 (fuel + 1) [.one (.vec 200000)] [(200000, .rview [.ints .u8 p])] R = (((((igt (ofNat (llen p)) 320) = true) → (R (AV.tup [(TV.c (AC.con (Value.slice (Option.none) 0 0))), (TV.c (AC.int IntKind.i64 1))]) [(200000, Blk.rview [(Col.ints IntKind.u8 p)])])) ∧ (((igt (ofNat (llen p)) 320) = false) → ((Go.Cel.FillOk p) ∧ (R (AV.tup [(TV.c (AC.vec 8)), (TV.c (AC.int IntKind.i64 0))]) [(8, Blk.vec [(Col.ints IntKind.u8 (Go.Cel.fillL p))]), (200000, Blk.rview [(Col.ints IntKind.u8 p)])]))))) := by kernel_rfl
theorem rPlain_vc (R : AV → Mem → Prop) (fuel : Nat) (p : List Int) : callsx Try.prog gamC1 [] Try.f10 (fuel + 1) [.one (.vec 200000)] [(200000, .rview [.ints .u8 p])] R = (((((igt (ofNat (llen p)) 48) = true) → (R (AV.tup [(TV.c (AC.con (Value.slice (Option.none) 0 0))), (TV.c (AC.int IntKind.i64 1))]) [(200000, Blk.rview [(Col.ints IntKind.u8 p)])])) ∧ (((igt (ofNat (llen p)) 48) = false) → ((Room (nadd (llen [1, (conv IntKind.u8 (ofNat (llen p)))]) (llen p)) 1) ∧ ((Go.Cel.FillOk (lcat [1, (conv IntKind.u8 (ofNat (llen p)))] p)) ∧ (R (AV.tup [(TV.c (AC.vec 13)), (TV.c (AC.int IntKind.i64 0))]) [(12, Blk.vec [(Col.ints IntKind.u8 (lcat [1, (conv IntKind.u8 (ofNat (llen p)))] p))]), (13, Blk.vec [(Col.ints IntKind.u8 (Go.Cel.fillL (lcat [1, (conv IntKind.u8 (ofNat (llen p)))] p)))]), (200000, Blk.rview [(Col.ints IntKind.u8 p)])])))))) := by kernel_rfl
theorem rNoise_vc (R : AV → Mem → Prop) (fuel : Nat) (p : List Int) : callsx Try.prog gamC1 [] Try.f11 (fuel + 1) [.one (.vec 200000)] [(200000, .rview [.ints .u8 p])] R = (((((igt (ofNat (llen p)) 319) = true) → (R (AV.tup [(TV.c (AC.con (Value.slice (Option.none) 0 0))), (TV.c (AC.int IntKind.i64 1))]) [(200000, Blk.rview [(Col.ints IntKind.u8 p)])])) ∧ (((igt (ofNat (llen p)) 319) = false) → ((Room (nadd 1 (llen p)) 1) ∧ ((Go.Cel.FillOk (lcat [0] p)) ∧ (R (AV.tup [(TV.c (AC.vec 10)), (TV.c (AC.int IntKind.i64 0))]) [(9, Blk.vec [(Col.ints IntKind.u8 (lcat [0] p))]), (10, Blk.vec [(Col.ints IntKind.u8 (Go.Cel.fillL (lcat [0] p)))]), (200000, Blk.rview [(Col.ints IntKind.u8 p)])])))))) := by kernel_rfl
theorem rCut_vc (R : AV → Mem → Prop) (fuel : Nat) (p : List Int) (n : Int) : callsx Try.prog gamC1 [] Try.f16 (fuel + 1) [.one (.vec 200000), .one (.int .i64 n)] [(200000, .rview [.ints .u8 p])] R = (((((ine (ofNat (llen p)) 320) = true) → (R (AV.tup [(TV.c (AC.con (Value.slice (Option.none) 0 0))), (TV.c (AC.int IntKind.i64 50))]) [(200000, Blk.rview [(Col.ints IntKind.u8 p)])])) ∧ (((ine (ofNat (llen p)) 320) = false) → ((((ilt n 0) = false) → ((((igt n 320) = true) → (R (AV.tup [(TV.c (AC.con (Value.slice (Option.none) 0 0))), (TV.c (AC.int IntKind.i64 2))]) [(200000, Blk.rview [(Col.ints IntKind.u8 p)])])) ∧ (((igt n 320) = false) → (((Go.Sx.Short p) ∧ (NonNeg n)) ∧ ((((bnot (Go.Cel.zb (List.drop (nat n) p))) = true) → (R (AV.tup [(TV.c (AC.con (Value.slice (Option.none) 0 0))), (TV.c (AC.int IntKind.i64 51))]) [(200000, Blk.rview [(Col.ints IntKind.u8 p)])])) ∧ (((bnot (Go.Cel.zb (List.drop (nat n) p))) = false) → (((NonNeg n) ∧ (Fits (nat n) (llen p))) ∧ ((Room (nadd 0 (llen (lsub p 0 (nat n)))) 1) ∧ (R (AV.tup [(TV.c (AC.vec 26)), (TV.c (AC.int IntKind.i64 0))]) [(26, Blk.vec [(Col.ints IntKind.u8 (lcat [] (lsub p 0 (nat n))))]), (200000, Blk.rview [(Col.ints IntKind.u8 p)])]))))))))) ∧ (((ilt n 0) = true) → (R (AV.tup [(TV.c (AC.con (Value.slice (Option.none) 0 0))), (TV.c (AC.int IntKind.i64 2))]) [(200000, Blk.rview [(Col.ints IntKind.u8 p)])])))))) := by kernel_rfl
theorem rOpen_vc (R : AV → Mem → Prop) (fuel : Nat) (p : List Int) : callsx Try.prog gamC1 [] Try.f17 (fuel + 1) [.one (.vec 200000)] [(200000, .rview [.ints .u8 p])] R = (((((ine (ofNat (llen p)) 320) = true) → (R (AV.tup [(TV.c (AC.con (Value.slice (Option.none) 0 0))), (TV.c (AC.lit false)), (TV.c (AC.int IntKind.i64 50))]) [(200000, Blk.rview [(Col.ints IntKind.u8 p)])])) ∧ (((ine (ofNat (llen p)) 320) = false) → ((InB 0 (llen p)) ∧ ((((igt (lget p 0) 1) = true) → (R (AV.tup [(TV.c (AC.con (Value.slice (Option.none) 0 0))), (TV.c (AC.lit false)), (TV.c (AC.int IntKind.i64 52))]) [(200000, Blk.rview [(Col.ints IntKind.u8 p)])])) ∧ (((igt (lget p 0) 1) = false) → ((InB 0 (llen p)) ∧ ((((ieq (lget p 0) 0) = true) → (R (AV.tup [(TV.c (AC.con (Value.slice (Option.none) 0 0))), (TV.c (AC.lit false)), (TV.c (AC.int IntKind.i64 0))]) [(200000, Blk.rview [(Col.ints IntKind.u8 p)])])) ∧ (((ieq (lget p 0) 0) = false) → ((InB 1 (llen p)) ∧ ((((igt (lget p 1) 48) = true) → (R (AV.tup [(TV.c (AC.con (Value.slice (Option.none) 0 0))), (TV.c (AC.lit false)), (TV.c (AC.int IntKind.i64 53))]) [(200000, Blk.rview [(Col.ints IntKind.u8 p)])])) ∧ (((igt (lget p 1) 48) = false) → ((InB 1 (llen p)) ∧ (((Go.Sx.Short p) ∧ (NonNeg (add IntKind.i64 2 (conv IntKind.i64 (lget p 1))))) ∧ ((((bnot (Go.Cel.zb (List.drop (nat (add IntKind.i64 2 (conv IntKind.i64 (lget p 1)))) p))) = true) → (R (AV.tup [(TV.c (AC.con (Value.slice (Option.none) 0 0))), (TV.c (AC.lit false)), (TV.c (AC.int IntKind.i64 51))]) [(200000, Blk.rview [(Col.ints IntKind.u8 p)])])) ∧ (((bnot (Go.Cel.zb (List.drop (nat (add IntKind.i64 2 (conv IntKind.i64 (lget p 1)))) p))) = false) → ((InB 1 (llen p)) ∧ ((((NonNeg (add IntKind.i64 2 (conv IntKind.i64 (lget p 1)))) ∧ (Fits (nat (add IntKind.i64 2 (conv IntKind.i64 (lget p 1)))) (llen p))) ∧ ((NonNeg 2) ∧ (Fits 2 (nat (add IntKind.i64 2 (conv IntKind.i64 (lget p 1))))))) ∧ ((Room (nadd 0 (llen (lsub p 2 (nsub (nat (add IntKind.i64 2 (conv IntKind.i64 (lget p 1)))) 2)))) 1) ∧ (R (AV.tup [(TV.c (AC.vec 41)), (TV.c (AC.lit true)), (TV.c (AC.int IntKind.i64 0))]) [(41, Blk.vec [(Col.ints IntKind.u8 (lcat [] (lsub p 2 (nsub (nat (add IntKind.i64 2 (conv IntKind.i64 (lget p 1)))) 2))))]), (200000, Blk.rview [(Col.ints IntKind.u8 p)])])))))))))))))))))))) := by kernel_rfl
set_option maxRecDepth 20000
theorem zb_cons (x : Int) (l : List Int) : zb (x :: l) = (x == 0 && zb l) := rfl
theorem noughts_l0 (R : AV → Mem → Prop) (p : List Int) (hs : Short p) : ∀ (n i : Nat), p.length - i = n → i ≤ p.length → (∀ b, b = zb (p.drop i) → R (.one (.lit b)) [(200000, .rview [.ints .u8 p])]) → noughts.l0 R p (n + 1) (i : Int) := by
 have hle := hs.le
 intro n
 induction n with
 | zero =>
  intro i hn hi h
  rw [noughts.l0_succ]
  refine ⟨fun q => ?_, fun _ => h true ?_⟩
  ·rw [ilt_true] at q; simp only [ofNat, llen] at q; omega
  ·rw [List.drop_of_length_le (by omega)]; rfl
 | succ n ih =>
  intro i hn hi h
  rw [noughts.l0_succ]
  have hlt : i < p.length := by omega
  have hd := lget_succ p i hlt
  refine ⟨fun _ => ⟨⟨by omega, by simp only [llen]; omega⟩, fun q => h false ?_, fun q => ?_⟩, fun q => ?_⟩
  ·rw [ine_true] at q
   simp only [nat, Int.toNat_natCast] at q
   rw [hd, zb_cons]; simp [q]
  ·rw [ine_false] at q
   simp only [nat, Int.toNat_natCast] at q
   rw [add_i64 (by omega) (by omega)]
   refine ih (i + 1) (by omega) (by omega) fun b hb => h b ?_
   rw [hb, hd, zb_cons, q]; rfl
  ·rw [ilt_false] at q; simp only [ofNat, llen] at q; omega
theorem good_noughts : Sx.Good Try.prog 21 noughtsS := by
 refine Sx.Good.reads (D := []) mixed (good0 _) Try.func21 (by kernel_rfl) rfl fun d args σ K h => ?_
 simp only [noughtsS] at h
 split at h <;> try exact h.elim
 obtain ⟨l, ⟨hs, hK⟩, hr⟩ := rdb_row h
 refine ⟨[.one (.vec 200000)], [(200000, .rview [.ints .u8 l])], .row [.ints .u8] _ hr (by decide) (.nil _), by simp, l.length + 1 + 1, ?_⟩
 rw [noughts_vc]
 exact noughts_l0 _ l hs l.length 0 (by omega) (by omega) fun b hb => res_lit hb hK
theorem rnoughts_l0 (R : AV → Mem → Prop) (p : List Int) (hs : Short p) : ∀ (n i : Nat), p.length - i = n → (∀ b, b = zb (p.drop i) → R (.one (.lit b)) [(200000, .rview [.ints .u8 p])]) → rnoughts.l0 R p (n + 1) (i : Int) := by
 have hle := hs.le
 intro n
 induction n with
 | zero =>
  intro i hn h
  rw [rnoughts.l0_succ]
  refine ⟨fun q => ?_, fun _ => h true ?_⟩
  ·rw [ilt_true] at q; simp only [ofNat, llen] at q; omega
  ·rw [List.drop_of_length_le (by omega)]; rfl
 | succ n ih =>
  intro i hn h
  rw [rnoughts.l0_succ]
  have hlt : i < p.length := by omega
  have hd := lget_succ p i hlt
  refine ⟨fun _ => ⟨⟨by omega, by simp only [llen]; omega⟩, fun q => h false ?_, fun q => ?_⟩, fun q => ?_⟩
  ·rw [ine_true] at q
   simp only [nat, Int.toNat_natCast] at q
   rw [hd, zb_cons]; simp [q]
  ·rw [ine_false] at q
   simp only [nat, Int.toNat_natCast] at q
   rw [add_i64 (by omega) (by omega)]
   refine ih (i + 1) (by omega) fun b hb => h b ?_
   rw [hb, hd, zb_cons, q]; rfl
  ·rw [ilt_false] at q; simp only [ofNat, llen] at q; omega
theorem good_rnoughts : Sx.Good Try.prog 22 noughts2S := by
 refine Sx.Good.reads (D := []) mixed (good0 _) Try.func22 (by kernel_rfl) rfl fun d args σ K h => ?_
 simp only [noughts2S] at h
 split at h <;> try exact h.elim
 rename_i i
 obtain ⟨l, ⟨⟨hs, hi⟩, hK⟩, hr⟩ := rdb_row h
 obtain ⟨j, rfl⟩ := Int.eq_ofNat_of_zero_le hi.le
 refine ⟨[.one (.vec 200000), .one (.int .i64 (j : Int))], [(200000, .rview [.ints .u8 l])], .row [.ints .u8] _ hr (by decide) (.plain (plain_int _ _) (.nil _)), by simp, l.length - j + 1 + 1, ?_⟩
 rw [rnoughts_vc]
 exact rnoughts_l0 _ l hs (l.length - j) j rfl fun b hb => res_lit (by rw [hb]; simp [nat]) hK
theorem zeros_drop (n i : Nat) : (List.replicate n (0 : Int)).drop i = List.replicate (n - i) 0 := by simp
theorem lput_zeros (f : List Int) (h : f.length ≤ 320) : lput (lzeros 320) 0 f = fillL f := by
 simp only [lput, lzeros, fillL, List.take_zero, List.nil_append, Nat.zero_add, List.drop_replicate]
theorem lput_fill (f p : List Int) (h : f.length + p.length ≤ 320) : lput (fillL f) f.length p = fillL (f ++ p) := by
 have e1 : (fillL f).take f.length = f := by simp [fillL]
 have e2 : (fillL f).drop (f.length + p.length) = List.replicate (320 - (f.length + p.length)) 0 := by
  unfold fillL
  rw [List.drop_append, List.drop_of_length_le (by omega), List.nil_append, zeros_drop]
  congr 1; omega
 simp only [lput, e1, e2]
 simp [fillL, List.append_assoc]
theorem good_laid : Sx.Good Try.prog 20 laidS := by
 refine Sx.Good.reads (D := []) mixed (good0 _) Try.func20 (by kernel_rfl) rfl fun d args σ K h => ?_
 simp only [laidS] at h
 split at h <;> try exact h.elim
 rename_i x i y
 obtain ⟨p, h, hp⟩ := rdb_row h
 obtain ⟨f, ⟨hok, hK⟩, hf⟩ := rdb_row h
 have he := hok.e
 have hle := hok.le
 refine ⟨[.one (.vec 200000), .one (.int .i64 i), .one (.vec 200002)], [(200000, .rview [.ints .u8 p]), (200002, .rview [.ints .u8 f])], .row [.ints .u8] _ hp (by decide) (.plain (plain_int _ _) (.row [.ints .u8] _ hf (by decide) (.nil _))), by simp, 1, ?_⟩
 rw [laid_vc]
 have hi : nat i = f.length := by simp only [nat]; omega
 have e1 : nmin (llen f) 320 = f.length := by simp only [nmin, llen]; omega
 rw [e1, lsub_all, lput_zeros f (by omega), hi]
 have e2 : llen (fillL f) = 320 := by simp [llen, fillL]; omega
 rw [e2]
 have e3 : nmin (llen p) (nsub 320 f.length) = p.length := by simp only [nmin, llen, nsub]; omega
 rw [e3, lsub_all, lput_fill f p hle]
 exact ⟨⟨by decide, by decide, by decide, by decide⟩, ⟨⟨by omega⟩, ⟨by omega⟩⟩, res_vec rfl rfl hK⟩
theorem fill_l0 (R : AV → Mem → Prop) (p q : List Int) : ∀ (n : Nat) (l : List Int), 320 - l.length = n → l.length ≤ 320 → R (.one (.vec 100003)) [(100003, .vec [.ints .u8 (fillL l)]), (200000, .rview [.ints .u8 p])] → fill.l0 R p (n + 1) l := by
 intro n
 induction n with
 | zero =>
  intro l hn hle h
  rw [fill.l0_succ]
  refine ⟨fun q => ?_, fun _ => ?_⟩
  ·rw [ilt_true] at q; simp only [ofNat, llen] at q; omega
  ·have : fillL l = l := by unfold fillL; rw [hn]; simp
   rw [this] at h; exact h
 | succ n ih =>
  intro l hn hle h
  have hl : (lcat l [0]).length = l.length + 1 := by simp [lcat]
  rw [fill.l0_succ]
  refine ⟨fun _ => ⟨room1 (by simp only [nadd, llen]; omega), ih _ (by rw [hl]; omega) (by rw [hl]; omega) ?_⟩, fun q => ?_⟩
  ·have : fillL (lcat l [0]) = fillL l := by
    unfold fillL
    rw [hl, hn, show 320 - (l.length + 1) = n by omega, List.replicate_succ]
    simp [lcat]
   rw [this]; exact h
  ·rw [ilt_false] at q; simp only [ofNat, llen] at q; omega
theorem good_fill : Sx.Good Try.prog 19 fillS := by
 refine Sx.Good.reads (D := [⟨3, [.ints .u8], true, false⟩]) mixed (good0 _) Try.func19 (by kernel_rfl) rfl fun d args σ K h => ?_
 simp only [fillS] at h
 split at h <;> try exact h.elim
 obtain ⟨p, ⟨hok, hK⟩, hr⟩ := rdb_row h
 have hle := hok.le
 refine ⟨[.one (.vec 200000)], [(200000, .rview [.ints .u8 p])], .row [.ints .u8] _ hr (by decide) (.nil _), by simp, 320 - p.length + 1 + 1, ?_⟩
 rw [fill_vc]
 refine ⟨room1 (by simp only [nadd, llen]; omega), fill_l0 _ p p (320 - p.length) _ (by simp [lcat]) (by simpa [lcat] using hle) ?_⟩
 exact res_vec rfl (by simp [lcat]) hK
theorem gamC1_good : GoodG Try.prog gamC1 := by
 refine ((((good0 _).ext good_noughts ?_).ext good_rnoughts ?_).ext good_laid ?_).ext good_fill ?_
 ·exact ⟨_, Try.func21, by decide, by kernel_rfl⟩
 ·exact ⟨_, Try.func22, by decide, by kernel_rfl⟩
 ·exact ⟨_, Try.func20, by decide, by kernel_rfl⟩
 ·exact ⟨_, Try.func19, by decide, by kernel_rfl⟩
theorem laid0 {p : List Int} (h : p.length ≤ 320) : LaidOk p [] 0 := ⟨rfl, by simpa using h⟩
theorem conv_len {p : List Int} (h : p.length ≤ 48) : conv .u8 (ofNat (llen p)) = (p.length : Int) := by
 rw [conv_u8]; simp only [ofNat, llen]; omega
theorem good_pad : Sx.Good Try.prog 12 (lstS padR padE) := by
 refine Sx.Good.reads (D := []) mixed gamC1_good Try.func12 (by kernel_rfl) rfl fun d args σ K h => ?_
 simp only [lstS] at h
 split at h <;> try exact h.elim
 obtain ⟨p, ⟨hs, hK⟩, hr⟩ := rdb_row h
 refine ⟨[.one (.vec 200000)], [(200000, .rview [.ints .u8 p])], .row [.ints .u8] _ hr (by decide) (.nil _), by simp, 1, ?_⟩
 rw [Pad_vc]
 refine ⟨fun q => ?_, fun q => ?_⟩
 ·rw [igt_true] at q; simp only [ofNat, llen] at q
  exact res_tnil (.int (by simp only [padE]; rw [if_neg (by omega)]) .nil) (by simp only [padR]; rw [if_neg (by omega)]) hK
 ·rw [igt_false] at q; simp only [ofNat, llen] at q
  have hl : p.length ≤ 320 := by omega
  exact ⟨laid0 hl, res_tvec rfl (.int (by simp only [padE]; rw [if_pos hl]) .nil) (by simp only [padR]; rw [if_pos hl]; rfl) hK⟩
theorem good_rpad : Sx.Good Try.prog 9 (lstS padR padE) := by
 refine Sx.Good.reads (D := []) mixed gamC1_good Try.func9 (by kernel_rfl) rfl fun d args σ K h => ?_
 simp only [lstS] at h
 split at h <;> try exact h.elim
 obtain ⟨p, ⟨hs, hK⟩, hr⟩ := rdb_row h
 refine ⟨[.one (.vec 200000)], [(200000, .rview [.ints .u8 p])], .row [.ints .u8] _ hr (by decide) (.nil _), by simp, 1, ?_⟩
 rw [rPad_vc]
 refine ⟨fun q => ?_, fun q => ?_⟩
 ·rw [igt_true] at q; simp only [ofNat, llen] at q
  exact res_tnil (.int (by simp only [padE]; rw [if_neg (by omega)]) .nil) (by simp only [padR]; rw [if_neg (by omega)]) hK
 ·rw [igt_false] at q; simp only [ofNat, llen] at q
  have hl : p.length ≤ 320 := by omega
  exact ⟨⟨hl⟩, res_tvec rfl (.int (by simp only [padE]; rw [if_pos hl]) .nil) (by simp only [padR]; rw [if_pos hl]) hK⟩
theorem good_plain : Sx.Good Try.prog 13 (lstS plainR plainE) := by
 refine Sx.Good.reads (D := []) mixed gamC1_good Try.func13 (by kernel_rfl) rfl fun d args σ K h => ?_
 simp only [lstS] at h
 split at h <;> try exact h.elim
 obtain ⟨p, ⟨hs, hK⟩, hr⟩ := rdb_row h
 refine ⟨[.one (.vec 200000)], [(200000, .rview [.ints .u8 p])], .row [.ints .u8] _ hr (by decide) (.nil _), by simp, 1, ?_⟩
 rw [Plain_vc]
 refine ⟨fun q => ?_, fun q => ?_⟩
 ·rw [igt_true] at q; simp only [ofNat, llen] at q
  exact res_tnil (.int (by simp only [plainE]; rw [if_neg (by omega)]) .nil) (by simp only [plainR]; rw [if_neg (by omega)]) hK
 ·rw [igt_false] at q; simp only [ofNat, llen] at q
  have hl : p.length ≤ 48 := by omega
  rw [conv_len hl]
  exact ⟨⟨rfl, by simp; omega⟩, res_tvec rfl (.int (by simp only [plainE]; rw [if_pos hl]) .nil) (by simp only [plainR]; rw [if_pos hl]; rfl) hK⟩
theorem good_rplain : Sx.Good Try.prog 10 (lstS plainR plainE) := by
 refine Sx.Good.reads (D := []) mixed gamC1_good Try.func10 (by kernel_rfl) rfl fun d args σ K h => ?_
 simp only [lstS] at h
 split at h <;> try exact h.elim
 obtain ⟨p, ⟨hs, hK⟩, hr⟩ := rdb_row h
 refine ⟨[.one (.vec 200000)], [(200000, .rview [.ints .u8 p])], .row [.ints .u8] _ hr (by decide) (.nil _), by simp, 1, ?_⟩
 rw [rPlain_vc]
 refine ⟨fun q => ?_, fun q => ?_⟩
 ·rw [igt_true] at q; simp only [ofNat, llen] at q
  exact res_tnil (.int (by simp only [plainE]; rw [if_neg (by omega)]) .nil) (by simp only [plainR]; rw [if_neg (by omega)]) hK
 ·rw [igt_false] at q; simp only [ofNat, llen] at q
  have hl : p.length ≤ 48 := by omega
  rw [conv_len hl]
  exact ⟨room1 (by simp only [nadd, llen, List.length_cons, List.length_nil]; omega), ⟨by simp [lcat]; omega⟩, res_tvec rfl (.int (by simp only [plainE]; rw [if_pos hl]) .nil) (by simp only [plainR]; rw [if_pos hl]; rfl) hK⟩
theorem good_noise : Sx.Good Try.prog 14 (lstS noiseR noiseE) := by
 refine Sx.Good.reads (D := []) mixed gamC1_good Try.func14 (by kernel_rfl) rfl fun d args σ K h => ?_
 simp only [lstS] at h
 split at h <;> try exact h.elim
 obtain ⟨p, ⟨hs, hK⟩, hr⟩ := rdb_row h
 refine ⟨[.one (.vec 200000)], [(200000, .rview [.ints .u8 p])], .row [.ints .u8] _ hr (by decide) (.nil _), by simp, 1, ?_⟩
 rw [Noise_vc]
 refine ⟨fun q => ?_, fun q => ?_⟩
 ·rw [igt_true] at q; simp only [ofNat, llen] at q
  exact res_tnil (.int (by simp only [noiseE]; rw [if_neg (by omega)]) .nil) (by simp only [noiseR]; rw [if_neg (by omega)]) hK
 ·rw [igt_false] at q; simp only [ofNat, llen] at q
  have hl : p.length ≤ 319 := by omega
  exact ⟨⟨rfl, by simp; omega⟩, res_tvec rfl (.int (by simp only [noiseE]; rw [if_pos hl]) .nil) (by simp only [noiseR]; rw [if_pos hl]; rfl) hK⟩
theorem good_rnoise : Sx.Good Try.prog 11 (lstS noiseR noiseE) := by
 refine Sx.Good.reads (D := []) mixed gamC1_good Try.func11 (by kernel_rfl) rfl fun d args σ K h => ?_
 simp only [lstS] at h
 split at h <;> try exact h.elim
 obtain ⟨p, ⟨hs, hK⟩, hr⟩ := rdb_row h
 refine ⟨[.one (.vec 200000)], [(200000, .rview [.ints .u8 p])], .row [.ints .u8] _ hr (by decide) (.nil _), by simp, 1, ?_⟩
 rw [rNoise_vc]
 refine ⟨fun q => ?_, fun q => ?_⟩
 ·rw [igt_true] at q; simp only [ofNat, llen] at q
  exact res_tnil (.int (by simp only [noiseE]; rw [if_neg (by omega)]) .nil) (by simp only [noiseR]; rw [if_neg (by omega)]) hK
 ·rw [igt_false] at q; simp only [ofNat, llen] at q
  have hl : p.length ≤ 319 := by omega
  exact ⟨room1 (by simp only [nadd, llen]; omega), ⟨by simp [lcat]; omega⟩, res_tvec rfl (.int (by simp only [noiseE]; rw [if_pos hl]) .nil) (by simp only [noiseR]; rw [if_pos hl]; rfl) hK⟩
theorem cut_len {c : List Int} {n : Int} (h : c.length ≠ 320) : cutE c n = 50 := by simp only [cutE]; rw [if_pos h]
theorem cut_arg {c : List Int} {n : Int} (h : c.length = 320) (hn : n < 0 ∨ 320 < n) : cutE c n = 2 := by simp only [cutE]; rw [if_neg (by omega), if_pos hn]
theorem cut_pad {c : List Int} {n : Int} (h : c.length = 320) (h0 : 0 ≤ n) (h1 : n ≤ 320) (hz : zb (c.drop n.toNat) = false) : cutE c n = 51 := by simp only [cutE]; rw [if_neg (by omega), if_neg (by omega), if_pos hz]
theorem cut_ok {c : List Int} {n : Int} (h : c.length = 320) (h0 : 0 ≤ n) (h1 : n ≤ 320) (hz : zb (c.drop n.toNat) = true) : cutE c n = 0 := by simp only [cutE]; rw [if_neg (by omega), if_neg (by omega), if_neg (by simp [hz])]
theorem cut_none {c : List Int} {n : Int} (h : cutE c n ≠ 0) : cutR c n = [] := by simp only [cutR]; rw [if_neg h]
theorem cut_some {c : List Int} {n : Int} (h : cutE c n = 0) : cutR c n = c.take n.toNat := by simp only [cutR]; rw [if_pos h]
theorem good_cut : Sx.Good Try.prog 18 cutS := by
 refine Sx.Good.reads (D := []) mixed gamC1_good Try.func18 (by kernel_rfl) rfl fun d args σ K h => ?_
 simp only [cutS] at h
 split at h <;> try exact h.elim
 rename_i n
 obtain ⟨c, ⟨hs, hK⟩, hr⟩ := rdb_row h
 refine ⟨[.one (.vec 200000), .one (.int .i64 n)], [(200000, .rview [.ints .u8 c])], .row [.ints .u8] _ hr (by decide) (.plain (plain_int _ _) (.nil _)), by simp, 1, ?_⟩
 rw [Cut_vc]
 have nil : ∀ {e : Int}, cutE c n = e → e ≠ 0 → ∀ σ', Res d 1 σ K (.tup [.c (.con (.slice none 0 0)), .c (.int .i64 e)]) σ' := fun he hne σ' => res_tnil (.int he.symm .nil) (cut_none (by rw [he]; exact hne)) hK
 refine ⟨fun q => ?_, fun q => ⟨fun q0 => ⟨fun q1 => ?_, fun q1 => ?_⟩, fun q0 => ?_⟩⟩
 ·rw [ine_true] at q; simp only [ofNat, llen] at q
  exact nil (cut_len (by omega)) (by decide) _
 ·rw [ine_false] at q; rw [igt_true] at q1; simp only [ofNat, llen] at q
  exact nil (cut_arg (by omega) (Or.inr q1)) (by decide) _
 ·rw [ine_false] at q; rw [igt_false] at q1; rw [ilt_false] at q0; simp only [ofNat, llen] at q
  have hl : c.length = 320 := by omega
  have ed : lsub c (nat n) (nsub (llen c) (nat n)) = c.drop n.toNat := by simp only [nat, nsub, llen]; exact lsub_drop c _
  have et : lsub c 0 (nat n) = c.take n.toNat := by simp only [nat]; exact lsub_take c _
  rw [ed, et]
  have hb : NonNeg n ∧ Fits (nat n) (llen c) := ⟨⟨q0⟩, ⟨by simp only [nat, llen]; omega⟩⟩
  refine ⟨hb, ⟨by simp; omega⟩, fun q2 => ?_, fun q2 => ⟨hb, room1 (by simp only [nadd, llen, List.length_take]; omega), ?_⟩⟩
  ·rw [bnot_true] at q2
   exact nil (cut_pad hl q0 q1 q2) (by decide) _
  ·rw [bnot_false] at q2
   have e0 := cut_ok hl q0 q1 q2
   exact res_tvec rfl (.int e0.symm .nil) (by rw [cut_some e0]; rfl) hK
 ·rw [ine_false] at q; rw [ilt_true] at q0; simp only [ofNat, llen] at q
  exact nil (cut_arg (by omega) (Or.inl q0)) (by decide) _
theorem good_rcut : Sx.Good Try.prog 16 cutS := by
 refine Sx.Good.reads (D := []) mixed gamC1_good Try.func16 (by kernel_rfl) rfl fun d args σ K h => ?_
 simp only [cutS] at h
 split at h <;> try exact h.elim
 rename_i n
 obtain ⟨c, ⟨hs, hK⟩, hr⟩ := rdb_row h
 refine ⟨[.one (.vec 200000), .one (.int .i64 n)], [(200000, .rview [.ints .u8 c])], .row [.ints .u8] _ hr (by decide) (.plain (plain_int _ _) (.nil _)), by simp, 1, ?_⟩
 rw [rCut_vc]
 have nil : ∀ {e : Int}, cutE c n = e → e ≠ 0 → ∀ σ', Res d 1 σ K (.tup [.c (.con (.slice none 0 0)), .c (.int .i64 e)]) σ' := fun he hne σ' => res_tnil (.int he.symm .nil) (cut_none (by rw [he]; exact hne)) hK
 refine ⟨fun q => ?_, fun q => ⟨fun q0 => ⟨fun q1 => ?_, fun q1 => ?_⟩, fun q0 => ?_⟩⟩
 ·rw [ine_true] at q; simp only [ofNat, llen] at q
  exact nil (cut_len (by omega)) (by decide) _
 ·rw [ine_false] at q; rw [igt_true] at q1; simp only [ofNat, llen] at q
  exact nil (cut_arg (by omega) (Or.inr q1)) (by decide) _
 ·rw [ine_false] at q; rw [igt_false] at q1; rw [ilt_false] at q0; simp only [ofNat, llen] at q
  have hl : c.length = 320 := by omega
  have ed : List.drop (nat n) c = c.drop n.toNat := rfl
  have et : lsub c 0 (nat n) = c.take n.toNat := by simp only [nat]; exact lsub_take c _
  rw [ed, et]
  have hb : NonNeg n ∧ Fits (nat n) (llen c) := ⟨⟨q0⟩, ⟨by simp only [nat, llen]; omega⟩⟩
  refine ⟨⟨hs, ⟨q0⟩⟩, fun q2 => ?_, fun q2 => ⟨hb, room1 (by simp only [nadd, llen, List.length_take]; omega), ?_⟩⟩
  ·rw [bnot_true] at q2
   exact nil (cut_pad hl q0 q1 q2) (by decide) _
  ·rw [bnot_false] at q2
   have e0 := cut_ok hl q0 q1 q2
   exact res_tvec rfl (.int e0.symm .nil) (by rw [cut_some e0]; rfl) hK
 ·rw [ine_false] at q; rw [ilt_true] at q0; simp only [ofNat, llen] at q
  exact nil (cut_arg (by omega) (Or.inl q0)) (by decide) _
theorem op_len {c : List Int} (h : c.length ≠ 320) : opE c = 50 := by simp only [opE]; rw [if_pos h]
theorem op_noise {c : List Int} (h : c.length = 320) (h0 : lget c 0 = 0) : opE c = 0 ∧ opY c = false := by
 have : c.getD 0 0 = 0 := h0
 constructor
 ·simp only [opE]; rw [if_neg (by omega), if_pos this]
 ·simp [opY]; intro _; exact h0
theorem op_kind {c : List Int} (h : c.length = 320) (h0 : lget c 0 ≠ 0) (h1 : lget c 0 ≠ 1) : opE c = 52 := by
 have g0 : c.getD 0 0 ≠ 0 := h0
 have g1 : c.getD 0 0 ≠ 1 := h1
 simp only [opE]; rw [if_neg (by omega), if_neg g0, if_pos g1]
theorem op_long {c : List Int} (h : c.length = 320) (h1 : lget c 0 = 1) (h2 : 48 < lget c 1) : opE c = 53 := by
 have g1 : c.getD 0 0 = 1 := h1
 have g2 : 48 < c.getD 1 0 := h2
 simp only [opE]; rw [if_neg (by omega), if_neg (by omega), if_neg (by omega), if_pos g2]
theorem op_pad {c : List Int} {n : Nat} (h : c.length = 320) (h1 : lget c 0 = 1) (h2 : lget c 1 ≤ 48) (hn : (lget c 1).toNat = n) (hz : zb (c.drop (2 + n)) = false) : opE c = 51 := by
 have g1 : c.getD 0 0 = 1 := h1
 have g2 : c.getD 1 0 ≤ 48 := h2
 have gn : (c.getD 1 0).toNat = n := hn
 simp only [opE]; rw [if_neg (by omega), if_neg (by omega), if_neg (by omega), if_neg (by omega), gn, if_pos hz]
theorem op_ok {c : List Int} {n : Nat} (h : c.length = 320) (h1 : lget c 0 = 1) (h2 : lget c 1 ≤ 48) (hn : (lget c 1).toNat = n) (hz : zb (c.drop (2 + n)) = true) : opE c = 0 ∧ opY c = true ∧ opR c = (c.drop 2).take n := by
 have g1 : c.getD 0 0 = 1 := h1
 have g2 : c.getD 1 0 ≤ 48 := h2
 have gn : (c.getD 1 0).toNat = n := hn
 have e0 : opE c = 0 := by
  simp only [opE]; rw [if_neg (by omega), if_neg (by omega), if_neg (by omega), if_neg (by omega), gn, if_neg (by simp [hz])]
 have e1 : opY c = true := by simp only [opY, e0, g1]; decide
 exact ⟨e0, e1, by simp only [opR]; rw [if_pos e1, gn]⟩
theorem op_no {c : List Int} (h : opE c ≠ 0) : opY c = false := by simp [opY, h]
theorem op_nil {c : List Int} (h : opY c = false) : opR c = [] := by simp [opR, h]
section
variable {d : Nat} {σ : Mem} {K : AV → Mem → Prop} {c : List Int}
theorem op_fail (hK : K (.tup [.c (.vec d), .c (.bool (opY c)), .c (.int .i64 (opE c))]) (Mem.ins d (.vec [.ints .u8 (opR c)]) σ)) {e : Int} (he : opE c = e) (hne : e ≠ 0) (σ' : Mem) : Res d 1 σ K (.tup [.c (.con (.slice none 0 0)), .c (.lit false), .c (.int .i64 e)]) σ' := by
 have hy := op_no (c := c) (by rw [he]; exact hne)
 exact res_tnil (.lit hy.symm (.int he.symm .nil)) (op_nil hy) hK
theorem op_still (hK : K (.tup [.c (.vec d), .c (.bool (opY c)), .c (.int .i64 (opE c))]) (Mem.ins d (.vec [.ints .u8 (opR c)]) σ)) (h : opE c = 0 ∧ opY c = false) (σ' : Mem) : Res d 1 σ K (.tup [.c (.con (.slice none 0 0)), .c (.lit false), .c (.int .i64 0)]) σ' :=
 res_tnil (.lit h.2.symm (.int h.1.symm .nil)) (op_nil h.2) hK
end
theorem op_words {c : List Int} (hb : Bs c) : ∃ n : Nat, lget c 1 = (n : Int) ∧ (lget c 1).toNat = n ∧ n < 256 ∧ conv .i64 (lget c 1) = (n : Int) ∧ nat (add .i64 2 (conv .i64 (lget c 1))) = 2 + n ∧ 0 ≤ add .i64 2 (conv .i64 (lget c 1)) := by
 have h := hb.get 1
 obtain ⟨n, hn⟩ := Int.eq_ofNat_of_zero_le h.1
 have hg : lget c 1 = (n : Int) := hn
 have hlt : n < 256 := by have := h.2; omega
 have hc : conv .i64 (lget c 1) = (n : Int) := by rw [hg, conv_i64 (by omega) (by omega)]
 have ha : add .i64 2 (conv .i64 (lget c 1)) = 2 + (n : Int) := by rw [hc, add_i64 (by omega) (by omega)]
 refine ⟨n, hg, by rw [hg]; rfl, hlt, hc, by rw [ha]; simp only [nat]; omega, by rw [ha]; omega⟩
theorem good_open : Sx.Good Try.prog 15 openS := by
 refine Sx.Good.reads (D := []) mixed gamC1_good Try.func15 (by kernel_rfl) rfl fun d args σ K h => ?_
 simp only [openS] at h
 split at h <;> try exact h.elim
 obtain ⟨c, ⟨⟨hs, hb⟩, hK⟩, hr⟩ := rdb_row h
 refine ⟨[.one (.vec 200000)], [(200000, .rview [.ints .u8 c])], .row [.ints .u8] _ hr (by decide) (.nil _), by simp, 1, ?_⟩
 rw [Open_vc]
 obtain ⟨n, hg, hgn, hlt, hc, hnat, h0⟩ := op_words hb
 refine ⟨fun q => ?_, fun q => ?_⟩
 ·rw [ine_true] at q; simp only [ofNat, llen] at q
  exact op_fail hK (op_len (by omega)) (by decide) _
 rw [ine_false] at q; simp only [ofNat, llen] at q
 have hl : c.length = 320 := by omega
 refine ⟨⟨by omega, by simp only [llen]; omega⟩, fun q0 => ?_, fun q0 => ⟨fun q1 => ⟨⟨by omega, by simp only [llen]; omega⟩, fun q2 => ?_, fun q2 => ?_⟩, fun q1 => ?_⟩⟩
 ·rw [ieq_true] at q0
  exact op_still hK (op_noise hl q0) _
 ·rw [ieq_false] at q0; rw [ieq_true] at q1; rw [igt_true, hc] at q2
  exact op_fail hK (op_long hl q1 (by rw [hg]; exact q2)) (by decide) _
 ·rw [ieq_false] at q0; rw [ieq_true] at q1; rw [igt_false, hc] at q2
  rw [hnat]
  have ed : lsub c (2 + n) (nsub (llen c) (2 + n)) = c.drop (2 + n) := by simp only [nsub, llen]; exact lsub_drop c _
  rw [ed]
  refine ⟨⟨⟨h0⟩, ⟨by simp only [llen]; omega⟩⟩, ⟨by simp; omega⟩, fun q3 => ?_, fun q3 => ⟨⟨⟨⟨h0⟩, ⟨by simp only [llen]; omega⟩⟩, ⟨⟨by decide⟩, ⟨by omega⟩⟩⟩, room1 (by simp only [nadd, nsub, llen, lsub, List.length_take, List.length_drop]; omega), ?_⟩⟩
  ·rw [bnot_true] at q3
   exact op_fail hK (op_pad hl q1 (by rw [hg]; exact q2) hgn q3) (by decide) _
  ·rw [bnot_false] at q3
   obtain ⟨e0, ey, er⟩ := op_ok hl q1 (by rw [hg]; exact q2) hgn q3
   refine res_tvec rfl (.lit ey.symm (.int e0.symm .nil)) ?_ hK
   rw [er]; simp only [lcat, List.nil_append, lsub, nsub]
   rw [show 2 + n - 2 = n by omega]
 ·rw [ieq_false] at q0; rw [ieq_false] at q1
  exact op_fail hK (op_kind hl q0 q1) (by decide) _
theorem good_ropen : Sx.Good Try.prog 17 openS := by
 refine Sx.Good.reads (D := []) mixed gamC1_good Try.func17 (by kernel_rfl) rfl fun d args σ K h => ?_
 simp only [openS] at h
 split at h <;> try exact h.elim
 obtain ⟨c, ⟨⟨hs, hb⟩, hK⟩, hr⟩ := rdb_row h
 refine ⟨[.one (.vec 200000)], [(200000, .rview [.ints .u8 c])], .row [.ints .u8] _ hr (by decide) (.nil _), by simp, 1, ?_⟩
 rw [rOpen_vc]
 obtain ⟨n, hg, hgn, hlt, hc, hnat, h0⟩ := op_words hb
 refine ⟨fun q => ?_, fun q => ?_⟩
 ·rw [ine_true] at q; simp only [ofNat, llen] at q
  exact op_fail hK (op_len (by omega)) (by decide) _
 rw [ine_false] at q; simp only [ofNat, llen] at q
 have hl : c.length = 320 := by omega
 have i0 : InB 0 (llen c) := ⟨by omega, by simp only [llen]; omega⟩
 have i1 : InB 1 (llen c) := ⟨by omega, by simp only [llen]; omega⟩
 have hz := hb.get 0
 have hz0 : 0 ≤ lget c 0 := hz.1
 refine ⟨i0, fun q0 => ?_, fun q0 => ⟨i0, fun q1 => ?_, fun q1 => ⟨i1, fun q2 => ?_, fun q2 => ⟨i1, ?_⟩⟩⟩⟩
 ·rw [igt_true] at q0
  exact op_fail hK (op_kind hl (by omega) (by omega)) (by decide) _
 ·rw [ieq_true] at q1
  exact op_still hK (op_noise hl q1) _
 ·rw [igt_false] at q0; rw [ieq_false] at q1; rw [igt_true] at q2
  exact op_fail hK (op_long hl (by omega) q2) (by decide) _
 ·rw [igt_false] at q0; rw [ieq_false] at q1; rw [igt_false] at q2
  have q1' : lget c 0 = 1 := by omega
  rw [hnat]
  have hn48 : n ≤ 48 := by omega
  refine ⟨⟨hs, ⟨h0⟩⟩, fun q3 => ?_, fun q3 => ⟨i1, ⟨⟨⟨h0⟩, ⟨by simp only [llen]; omega⟩⟩, ⟨⟨by decide⟩, ⟨by omega⟩⟩⟩, room1 (by simp only [nadd, nsub, llen, lsub, List.length_take, List.length_drop]; omega), ?_⟩⟩
  ·rw [bnot_true] at q3
   exact op_fail hK (op_pad hl q1' q2 hgn q3) (by decide) _
  ·rw [bnot_false] at q3
   obtain ⟨e0, ey, er⟩ := op_ok hl q1' q2 hgn q3
   refine res_tvec rfl (.lit ey.symm (.int e0.symm .nil)) ?_ hK
   rw [er]; simp only [lcat, List.nil_append, lsub, nsub]
   rw [show 2 + n - 2 = n by omega]
theorem gamC2_good : GoodG Try.prog gamC2 := by
 refine ((((gamC1_good.ext good_pad ?_).ext good_plain ?_).ext good_noise ?_).ext good_cut ?_).ext good_open ?_
 ·exact ⟨_, Try.func12, by decide, by kernel_rfl⟩
 ·exact ⟨_, Try.func13, by decide, by kernel_rfl⟩
 ·exact ⟨_, Try.func14, by decide, by kernel_rfl⟩
 ·exact ⟨_, Try.func18, by decide, by kernel_rfl⟩
 ·exact ⟨_, Try.func15, by decide, by kernel_rfl⟩
theorem gamC3_good : GoodG Try.prog gamC3 := by
 refine ((((gamC2_good.ext good_rpad ?_).ext good_rplain ?_).ext good_rnoise ?_).ext good_rcut ?_).ext good_ropen ?_
 ·exact ⟨_, Try.func9, by decide, by kernel_rfl⟩
 ·exact ⟨_, Try.func10, by decide, by kernel_rfl⟩
 ·exact ⟨_, Try.func11, by decide, by kernel_rfl⟩
 ·exact ⟨_, Try.func16, by decide, by kernel_rfl⟩
 ·exact ⟨_, Try.func17, by decide, by kernel_rfl⟩
theorem good_cawake : Sx.Good Try.prog 8 yesS := by
 refine Sx.Good.reads (D := []) mixed gamC2_good Try.func8 (by kernel_rfl) rfl fun d args σ K h => ?_
 simp only [yesS] at h
 split at h <;> try exact h.elim
 refine ⟨[], [], .nil _, by simp, 1, ?_⟩
 rw [cawake_vc]
 exact ⟨⟨by decide, by decide⟩, ⟨by decide⟩, fun _ => ⟨fun _ => ⟨⟨by decide, by decide⟩, fun _ => ⟨⟨by decide, by decide⟩, fun _ => ⟨⟨by decide, by decide⟩, fun _ => ⟨⟨by decide, by decide⟩, res_bool rfl h⟩, fun q => by cases q⟩, fun q => by cases q⟩, fun q => by cases q⟩, fun q => by cases q⟩, fun q => by cases q⟩
theorem gamC4_good : GoodG Try.prog gamC4 := by
 refine gamC3_good.ext good_cawake ?_
 exact ⟨_, Try.func8, by decide, by kernel_rfl⟩
abbrev Yes : AV → Mem → Prop := fun av _ => av = .one (.bool true) ∨ av = .one (.lit true)
end Go.Proofs.Ytgkklobamebnjaa.G
namespace Go.Sx
open Go
inductive CanonH (σ : Mem) : Nat → List AV → List AV → Mem → Prop
 | nil (j : Nat) : CanonH σ j [] [] []
 | same {j : Nat} {x : AV} {xs ys : List AV} {τ : Mem} : (∀ m, x.refs m = true → isHeap m = true) → CanonH σ (j + 1) xs ys τ → CanonH σ j (x :: xs) (x :: ys) τ
 | row {j n : Nat} {xs ys : List AV} {τ : Mem} (cs : List Col) : Mem.cols σ n = some cs → CanonH σ (j + 1) xs ys τ → CanonH σ j (.one (.vec n) :: xs) (.one (.vec (200000 + j)) :: ys) ((200000 + j, .rview cs) :: τ)
 | glob {j g : Nat} {b : Blk} {xs ys : List AV} {τ : Mem} : Mem.find σ (gname g) = some b → (∀ m, segsRefs m b.segs = false) → CanonH σ j xs ys τ → CanonH σ j xs ys ((gname g, .view b.segs) :: τ)
def notHeap : Blk → Bool
 | .heap _ _ => false
 | _ => true
theorem canonH_sound {σ τ : Mem} {ρ : Rho} {w : World} (hm : MemRep ρ σ w) (hs : Sep ρ σ) : ∀ {j : Nat} {xs ys : List AV}, CanonH σ j xs ys τ → ∀ (vals : List Value), j + xs.length ≤ 1000 → xs.length = vals.length → (∀ (i : Nat) x v, xs[i]? = some x → vals[i]? = some v → SRep ρ x v) →
  ys.length = vals.length ∧ ∃ Ls : Nat → Loc, ∀ ρc : Rho, (∀ i, j ≤ i → i < j + xs.length → ρc (200000 + i) = Ls i) → (∀ g, ρc (gname g) = ρ (gname g)) → (∀ n, isHeap n = true → ρc n = ρ n) →
   (∀ (i : Nat) y v, ys[i]? = some y → vals[i]? = some v → SRep ρc y v) ∧ MemRep ρc τ w ∧ ∀ n b, Mem.find τ n = some b → isHeap n = false ∧ (∀ k, ¬ Out ρc n b k) ∧ ∀ k, Foot ρc n b k → ∃ m c, Mem.find σ m = some c ∧ notHeap c = true ∧ Foot ρ m c k := by
 intro j xs ys h
 induction h with
 | nil j => intro vals _ hl _; exact ⟨hl, fun _ => loc0, fun ρc _ _ _ => ⟨fun i y v hy => by simp at hy, fun n b hb => by simp [Mem.find] at hb, fun n b hb => by simp [Mem.find] at hb⟩⟩
 | @same j x xs ys τ hp _ ih =>
  intro vals hj hl hv
  cases vals with
  | nil => simp at hl
  | cons v vals =>
   obtain ⟨h1, Ls, h2⟩ := ih vals (by simp only [List.length_cons] at hj; omega) (by simpa using hl) (fun i x u hx hu => hv (i + 1) x u (by simpa using hx) (by simpa using hu))
   refine ⟨by simpa using h1, Ls, fun ρc hc hcg hch => ?_⟩
   obtain ⟨g1, g2⟩ := h2 ρc (fun i hi hlt => hc i (by omega) (by simp only [List.length_cons]; omega)) hcg hch
   refine ⟨fun i y u hy hu => ?_, g2⟩
   cases i with
   | zero => simp at hy hu; subst hy hu; exact (hv 0 x v rfl rfl).agree fun n hn => .of_eq (hch n (hp n hn))
   | succ i => exact g1 i y u (by simpa using hy) (by simpa using hu)
 | @row j n xs ys τ cs hcs _ ih =>
  intro vals hjl hl hv
  cases vals with
  | nil => simp at hl
  | cons v vals =>
   simp only [List.length_cons] at hjl
   obtain ⟨h1, Ls, h2⟩ := ih vals (by omega) (by simpa using hl) (fun i x u hx hu => hv (i + 1) x u (by simpa using hx) (by simpa using hu))
   have hR := reads_vec hm hs hcs (hv 0 _ v rfl rfl)
   obtain ⟨_, b0, hb0, hbb, hf⟩ := cols_sound hm hcs
   refine ⟨by simpa using h1, fun i => if i = j then ρ n else Ls i, fun ρc hc hcg hch => ?_⟩
   have hj : ρc (200000 + j) = ρ n := by have q := hc j (Nat.le_refl _) (by simp); simpa using q
   obtain ⟨g1, g2, g3⟩ := h2 ρc (fun i hi hlt => by rw [hc i (by omega) (by simp only [List.length_cons]; omega)]; show (if i = j then _ else Ls i) = Ls i; rw [if_neg (by omega)]) hcg hch
   refine ⟨fun i y u hy hu => ?_, fun m b hb => ?_, fun m b hb => ?_⟩
   ·cases i with
    | zero =>
     simp at hy hu
     subst hy hu
     show v = _
     rw [hj]; exact hR.val
    | succ i => exact g1 i y u (by simpa using hy) (by simpa using hu)
   ·simp only [Mem.find] at hb
    split at hb
    ·rename_i e; subst e; cases hb
     exact ⟨by rw [hj]; exact hR.rep, by rw [hj]; exact hR.lnk.heaps hch⟩
    ·exact g2 m b hb
   ·simp only [Mem.find] at hb
    split at hb
    ·rename_i e; subst e; cases hb
     refine ⟨isHeap_no (Or.inl (by omega)), fun k q => q, fun k hk => ⟨n, b0, hb0, by rcases hbb with rfl | rfl <;> rfl, hf k ?_⟩⟩
     have hk : FootL (ρc (200000 + j)) cs k := hk
     rw [hj] at hk; exact hk
    ·exact g3 m b hb
 | @glob j g b xs ys τ hn hp _ ih =>
  intro vals hj hl hv
  obtain ⟨h1, Ls, h2⟩ := ih vals hj hl hv
  refine ⟨h1, Ls, fun ρc hc hcg hch => ?_⟩
  obtain ⟨g1, g2, g3⟩ := h2 ρc hc hcg hch
  refine ⟨g1, fun m b' hb => ?_, fun m b' hb => ?_⟩
  ·simp only [Mem.find] at hb
   split at hb
   ·rename_i e; subst e; cases hb
    obtain ⟨q1, q2⟩ := (hm (gname g) b hn).cells
    refine ⟨q1, fun i a ha => ?_⟩
    obtain ⟨u, hu1, hu2⟩ := q2 i a ha
    refine ⟨u, by simp only [at_, hcg]; exact hu1, hu2.agree fun m hm' => ?_⟩
    have := flat_refs' (List.any_eq_true.2 ⟨a, List.mem_of_getElem? ha, hm'⟩)
    rw [hp m] at this; cases this
   ·exact g2 m b' hb
  ·simp only [Mem.find] at hb
   split at hb
   ·rename_i e; subst e; cases hb
    refine ⟨isHeap_gname g, fun k q => q, fun k hk => ⟨gname g, b, hn, ?_, ?_⟩⟩
    ·obtain ⟨hne, _⟩ := hk
     cases b <;> first | rfl | exact absurd rfl hne
    ·obtain ⟨hne, rfl⟩ := hk
     rw [hcg]
     cases b with
     | own T s => exact rfl
     | view s => exact ⟨hne, rfl⟩
     | vec cs => exact absurd rfl hne
     | rview cs => exact absurd rfl hne
     | heap q os => exact absurd rfl hne
   ·exact g3 m b' hb
section
variable {P : Program} {Γ : Gam} {D : Hints}
theorem Good.heap (hm : P.follows .mixedOrders = true) (hΓ : GoodG P Γ) {f : FuncId} {fn : Func} (hf : P.funcs[f]? = some fn) (hb : fn.body.isSome = true) {s : Spec} (hs : s.mods = true)
  (hsem : ∀ d args σ (K : AV → Mem → Prop), s.sem d args σ K → ∃ k os cargs τ τ', Mem.heap σ k = some os ∧ CanonH σ 0 args cargs τ ∧ args.length ≤ 1000 ∧ (∀ n, Mem.find τ' n = Mem.find ((hname k, .heap k os) :: τ) n) ∧ ∃ n, callsx P Γ D fn n cargs τ' fun av σ' => ∃ os' av', Mem.heap σ' k = some os' ∧ (∀ m, av'.refs m = true → m = hname k) ∧ (∀ ρ v, SRep ρ av v → SRep ρ av' v) ∧ K av' (σ.put (hname k) (.heap k os'))) : Good P f s := by
 refine ⟨fun d args σ K h ρ w vals hg hmem hsep hl hv hnew => ?_⟩
 obtain ⟨k, os, cargs, τ, τ', ho, hcan, hlen, hτ, n, hc⟩ := hsem d args σ K h
 obtain ⟨h1, Ls, h2⟩ := canonH_sound hmem hsep hcan vals.toList (by omega) (by simpa using hl) (fun i x v hx hu => hv i x v hx (by simpa using hu))
 generalize hρ0 : rhoC ρ Ls = ρc
 have hρc : ∀ i, 0 ≤ i → i < 0 + args.length → ρc (200000 + i) = Ls i := fun i _ hi => by rw [← hρ0, rhoC_arg (by omega)]
 have hgg : ∀ g, ρc (gname g) = ρ (gname g) := fun g => by rw [← hρ0]; exact rhoC_glob
 have hhh : ∀ n, isHeap n = true → ρc n = ρ n := fun n hn => by rw [← hρ0]; exact rhoC_heap hn
 obtain ⟨g1, g2, g3⟩ := h2 ρc hρc hgg hhh
 have hgc : Glob ρc := fun g => by rw [hgg]; exact hg g
 have hfd := heap_find ho
 have hhp := isHeap_hname k
 have hρk := hhh _ hhp
 obtain ⟨_, hH⟩ := hmem _ _ hfd
 have unf : ∀ {m b}, Mem.find τ' m = some b → (m = hname k ∧ b = .heap k os) ∨ (m ≠ hname k ∧ Mem.find τ m = some b) := by
  intro m b hb
  rw [hτ] at hb
  simp only [Mem.find] at hb
  split at hb
  ·rename_i e; cases hb; exact Or.inl ⟨e.symm, rfl⟩
  ·rename_i e; exact Or.inr ⟨Ne.symm e, hb⟩
 have hmemc : MemRep ρc τ' w := fun m b hb => by
  rcases unf hb with ⟨rfl, rfl⟩ | ⟨_, hb⟩
  ·exact ⟨hhp, by rw [hρk]; exact hH⟩
  ·exact g2 m b hb
 have hout : ∀ q, Out ρc (hname k) (.heap k os) q → HFoot (ρ (hname k)) q := fun q hq => by simpa only [Out, hρk] using hq
 have hsepc : Sep ρc τ' := by
  refine ⟨fun m m' b c q hb hc hne hO hF => ?_, fun m b q hb hO hI => ?_⟩
  ·rcases unf hb with ⟨rfl, rfl⟩ | ⟨_, hb⟩
   ·rcases unf hc with ⟨rfl, rfl⟩ | ⟨_, hc⟩
    ·exact hne rfl
    ·obtain ⟨m0, c0, h0, h0h, h0f⟩ := (g3 m' c hc).2.2 q hF
     exact hsep.1 _ m0 _ c0 q hfd h0 (fun e => by subst e; rw [hfd] at h0; cases h0; cases h0h) (hout q hO) h0f
   ·exact (g3 m b hb).2.1 q hO
  ·rcases unf hb with ⟨rfl, rfl⟩ | ⟨_, hb⟩
   ·exact hI
   ·exact (g3 m b hb).2.1 q hO
 refine (callsx_sound hm hΓ hf hb hc (ex := fun q => HFoot (ρ (hname k)) q) hgc (by simpa using h1) (fun i y v hy hu => g1 i y v hy (by simpa using hu)) hmemc hsepc (fun m b q hn hO => by
  rcases unf hn with ⟨rfl, rfl⟩ | ⟨_, hb⟩
  ·exact Or.inr (hout q hO)
  ·exact absurd hO ((g3 m b hb).2.1 q))).mono ?_
 rintro e w' ⟨v, av, σ'', ρ'', rfl, ⟨os', av', ho', hrefs, hav, hK⟩, hsr, hmem'', hsep'', hfix, hext, hown, hk⟩
 have hfd' := heap_find ho'
 obtain ⟨_, hH'⟩ := hmem'' _ _ hfd'
 let E : Env := ⟨w, ρ, OwnAt ρ σ, hg⟩
 let a : Act := { tmps := #[], defers := [] }
 have hk' : Keeps (OwnAt ρ σ) w w' := ⟨hk.os, hk.tape, hk.output, hk.size, fun q hq hx => hk.block q hq fun hF => hx ⟨hname k, _, hfd, hF⟩⟩
 have hR : Rep E ρ [] σ a w := ⟨⟨rfl, fun t v ht => by simp [a] at ht⟩, rfl, hmem, hsep, fun _ _ _ => rfl, fun _ _ => .refl _, fun n b q hn hO => Or.inr ⟨n, b, hn, hO⟩, Keeps.refl _ _⟩
 have hx : HExt (ρ (hname k)) (ρ'' (hname k)) := by have := hext _ hhp; rw [hρk] at this; exact this
 have grown := heap_grow (L' := ρ'' (hname k)) hR hhp hfd hx hH' hk' (fun m c q hm hmh hF => hk.block q (in_range (hmem m c hm) hF) fun hq => hsep.1 _ m _ c q hfd hm (Ne.symm hmh) hq hF) (fun q hq => by
  rcases hown _ _ q hfd' hq with h | h
  ·exact Or.inr ⟨Or.inl h, fun m c hm _ hF => by have := in_range (hmem m c hm) hF; omega⟩
  ·exact Or.inl h)
 refine ⟨v, av', _, _, rfl, hK, (hav _ _ hsr).agree fun m hm => ?_, grown.mem, grown.sep, fun m hm _ => upd_ne fun q => (by subst q; rw [hhp] at hm; cases hm), fun m _ => ext_upd hx m, fun m b q hm hO => ?_, hk', fun q => by rw [hs] at q; cases q⟩
 ·have e := hrefs m hm
  subst e; rw [upd_eq]; exact .refl _
 ·rcases grown.own m b q hm hO with h | h
  ·exact Or.inr h
  ·exact Or.inl h
end
def tot (c : Nat → Nat) : Nat → Nat → Nat
 | _, 0 => 0
 | i, m + 1 => c i + tot c (i + 1) m
theorem loop_inv {S : Type} (L : Nat → Int → S → Prop) (n : Nat) (Inv : Nat → S → Prop) (c : Nat → Nat) (f0 : Nat) (hs : ∀ g i s, i < n → Inv i s → (∀ s', Inv (i + 1) s' → L g ((i + 1 : Nat) : Int) s') → L (g + c i) (i : Int) s) (he : ∀ s, Inv n s → L f0 (n : Int) s) :
  ∀ m i s, i + m = n → Inv i s → L (f0 + tot c i m) (i : Int) s
 | 0, i, s, h, hi => by
  obtain rfl : i = n := by omega
  exact he s hi
 | m + 1, i, s, h, hi => by
  have := hs (f0 + tot c (i + 1) m) i s (by omega) hi fun s' h' => loop_inv L n Inv c f0 hs he m (i + 1) s' (by omega) h'
  rw [show f0 + tot c i (m + 1) = f0 + tot c (i + 1) m + c i by simp only [tot]; omega]
  exact this
theorem lget_lput (l v : List Int) (p t : Nat) (h : p ≤ l.length) : lget (lput l p v) t = if p ≤ t ∧ t < p + v.length then lget v (t - p) else lget l t := by
 simp only [lget, List.getD]
 rw [lput_get2 _ _ _ _ h]
 split <;> rfl
theorem llget_app (H : List (List Int)) (x : List Int) (q : Nat) : llget (H ++ [x]) q = if q < H.length then llget H q else if q = H.length then x else [] := by
 simp only [llget, List.getD, List.getElem?_append]
 by_cases h : q < H.length
 ·rw [if_pos h, if_pos h]
 ·rw [if_neg h, if_neg h]
  by_cases e : q = H.length
  ·rw [if_pos e, e, Nat.sub_self]; rfl
  ·rw [if_neg e, List.getElem?_eq_none (by simp; omega)]; rfl
theorem lget_sub (l : List Int) (o n t : Nat) (h : t < n) : lget (lsub l o n) t = lget l (o + t) := by
 simp only [lget, lsub, List.getD, List.getElem?_take, if_pos h, List.getElem?_drop]
structure Grown2 (ls : List HS) (m g : Nat → Int) (c : Nat → Nat) (gs : List HS) (H : List (List Int)) : Prop where
 len : gs.length = ls.length
 z : llget H 0 = []
 own : ∀ k, k < ls.length → (hget gs k).j < H.length ∧ (hget gs k).len = (hget ls k).len + c k ∧ (hget gs k).off + (hget gs k).len ≤ (llget H (hget gs k).j).length ∧ ∀ t, t < (hget gs k).len → lget (llget H (hget gs k).j) ((hget gs k).off + t) = if t < (hget ls k).len then m k else g k
 old : ∀ k, k < ls.length → (hget ls k).j < H.length ∧ (hget ls k).off + (hget ls k).len ≤ (llget H (hget ls k).j).length ∧ ∀ t, t < (hget ls k).len → lget (llget H (hget ls k).j) ((hget ls k).off + t) = m k
 same : ∀ k, k < ls.length → (hget gs k).j = (hget ls k).j → (hget gs k).off = (hget ls k).off ∨ (hget gs k).j = 0
 ne : ∀ k k', k < ls.length → k' < ls.length → k ≠ k' → ((hget gs k).j = (hget gs k').j → (hget gs k).j = 0) ∧ ((hget gs k).j = (hget ls k').j → (hget gs k).j = 0)
structure ApartOk2 (ls : List HS) (os : List (List Int)) : Prop where
 z : llget os 0 = []
 inn : ∀ k, k < ls.length → (hget ls k).j < os.length ∧ (hget ls k).off + (hget ls k).len ≤ (llget os (hget ls k).j).length ∧ (hget ls k).len ≤ 140737488355328
 ne : ∀ k k', k < ls.length → k' < ls.length → k ≠ k' → (hget ls k).j = (hget ls k').j → (hget ls k).j = 0
structure Marked2 (ls : List HS) (m : Nat → Int) (i t : Nat) (H : List (List Int)) : Prop where
 z : llget H 0 = []
 inn : ∀ k, k < ls.length → (hget ls k).j < H.length ∧ (hget ls k).off + (hget ls k).len ≤ (llget H (hget ls k).j).length
 done : ∀ k, k < ls.length → ∀ u, u < (hget ls k).len → (k < i ∨ (k = i ∧ u < t)) → lget (llget H (hget ls k).j) ((hget ls k).off + u) = m k
theorem marked2_step {ls os H : _} {m : Nat → Int} {i t : Nat} (hO : ApartOk2 ls os) (h : Marked2 ls m i t H) (hi : i < ls.length) (ht : t < (hget ls i).len) :
  Marked2 ls m i (t + 1) (llset H (hget ls i).j (lset (llget H (hget ls i).j) ((hget ls i).off + t) (m i))) := by
 obtain ⟨h1, h2⟩ := h.inn i hi
 have hj0 : (hget ls i).j ≠ 0 := fun q => by rw [q, h.z] at h2; simp at h2; omega
 have obj : ∀ q, llget (llset H (hget ls i).j (lset (llget H (hget ls i).j) ((hget ls i).off + t) (m i))) q = if q = (hget ls i).j then lset (llget H (hget ls i).j) ((hget ls i).off + t) (m i) else llget H q := fun q => llset_get _ _ _ _ h1
 refine ⟨by rw [obj, if_neg (Ne.symm hj0)]; exact h.z, fun k hk => ?_, fun k hk u hu hc => ?_⟩
 ·obtain ⟨p1, p2⟩ := h.inn k hk
  refine ⟨by simpa [llset] using p1, ?_⟩
  rw [obj]
  split
  ·rename_i e; rw [e] at p2; simpa [lset] using p2
  ·exact p2
 ·rw [obj]
  split
  ·rename_i e
   have hki : k = i := by
    refine Classical.byContradiction fun q => ?_
    exact hj0 (e ▸ hO.ne k i hk hi q e)
   subst hki
   rw [lset_get _ _ _ _ (by omega)]
   by_cases hut : u = t
   ·subst hut; rw [if_pos rfl]
   ·rw [if_neg (by omega)]
    exact h.done k hk u hu (by omega)
  ·rename_i e
   refine h.done k hk u hu ?_
   rcases hc with hc | ⟨rfl, hc⟩
   ·exact Or.inl hc
   ·exact absurd rfl e
theorem Grown2.congr {ls gs H : _} {m g : Nat → Int} {c c' : Nat → Nat} (h : Grown2 ls m g c gs H) (hc : ∀ k, k < ls.length → c k = c' k) : Grown2 ls m g c' gs H :=
 ⟨h.len, h.z, fun k hk => by rw [← hc k hk]; exact h.own k hk, h.old, h.same, h.ne⟩
structure Holds (ls : List HS) (V : Nat → Nat → Int) (H : List (List Int)) : Prop where
 z : llget H 0 = []
 inn : ∀ k, k < ls.length → (hget ls k).j < H.length ∧ (hget ls k).off + (hget ls k).len ≤ (llget H (hget ls k).j).length
 val : ∀ k, k < ls.length → ∀ u, u < (hget ls k).len → lget (llget H (hget ls k).j) ((hget ls k).off + u) = V k u
theorem Holds.congr {ls H : _} {V V' : Nat → Nat → Int} (h : Holds ls V H) (e : ∀ k, k < ls.length → ∀ u, u < (hget ls k).len → V k u = V' k u) : Holds ls V' H :=
 ⟨h.z, h.inn, fun k hk u hu => (h.val k hk u hu).trans (e k hk u hu)⟩
theorem Marked2.holds {ls H : _} {m : Nat → Int} (h : Marked2 ls m ls.length 0 H) : Holds ls (fun k _ => m k) H := ⟨h.z, h.inn, fun k hk u hu => h.done k hk u hu (Or.inl hk)⟩
theorem Holds.con {ls H : _} {V : Nat → Nat → Int} (h : Holds ls V H) {k : Nat} (hk : k < ls.length) : hcon H (hget ls k) = tab (hget ls k).len (V k) := by
 obtain ⟨_, h2⟩ := h.inn k hk
 unfold hcon
 rw [eq_tab (l := lsub (llget H (hget ls k).j) (hget ls k).off (hget ls k).len) (lsub_len _ _ _ h2)]
 exact tab_ext fun u hu => by rw [lget_sub _ _ _ _ hu]; exact h.val k hk u hu
theorem Holds.store {ls os H : _} {V : Nat → Nat → Int} {i t : Nat} (x : Int) (hO : ApartOk2 ls os) (h : Holds ls V H) (hi : i < ls.length) (ht : t < (hget ls i).len) :
  Holds ls (fun k u => if k = i ∧ u = t then x else V k u) (llset H (hget ls i).j (lset (llget H (hget ls i).j) ((hget ls i).off + t) x)) := by
 obtain ⟨h1, h2⟩ := h.inn i hi
 have hj0 : (hget ls i).j ≠ 0 := fun q => by rw [q, h.z] at h2; simp at h2; omega
 have obj : ∀ q, llget (llset H (hget ls i).j (lset (llget H (hget ls i).j) ((hget ls i).off + t) x)) q = if q = (hget ls i).j then lset (llget H (hget ls i).j) ((hget ls i).off + t) x else llget H q := fun q => llset_get _ _ _ _ h1
 refine ⟨by rw [obj, if_neg (Ne.symm hj0)]; exact h.z, fun k hk => ?_, fun k hk u hu => ?_⟩
 ·obtain ⟨p1, p2⟩ := h.inn k hk
  refine ⟨by simpa [llset] using p1, ?_⟩
  rw [obj]
  split
  ·rename_i e; rw [e] at p2; simpa [lset] using p2
  ·exact p2
 ·rw [obj]
  split
  ·rename_i e
   have hki : k = i := by
    refine Classical.byContradiction fun q => ?_
    exact hj0 (e ▸ hO.ne k i hk hi q e)
   subst hki
   rw [lset_get _ _ _ _ (by omega)]
   by_cases hut : u = t
   ·subst hut; rw [if_pos rfl, if_pos ⟨rfl, rfl⟩]
   ·rw [if_neg (by omega), if_neg (by omega)]
    exact h.val k hk u hu
  ·rename_i e
   rw [if_neg (fun c => e (by rw [c.1]))]
   exact h.val k hk u hu
structure Tip (ls : List HS) (H : List (List Int)) (i : Nat) (d : HS) : Prop where
 j : d.j < H.length
 fit : d.off + d.len ≤ (llget H d.j).length
 own : (d.j = (hget ls i).j ∧ (hget ls i).off + (hget ls i).len ≤ d.off + d.len) ∨ ∀ k, k < ls.length → (hget ls k).j ≠ d.j
theorem Holds.tip {ls H : _} {V : Nat → Nat → Int} (h : Holds ls V H) {i : Nat} (hi : i < ls.length) : Tip ls H i (hget ls i) :=
 ⟨(h.inn i hi).1, (h.inn i hi).2, Or.inl ⟨rfl, Nat.le_refl _⟩⟩
theorem Holds.grow {ls os H H' : _} {V : Nat → Nat → Int} {i j' off' : Nat} {d : HS} {v : List Int} (hO : ApartOk2 ls os) (h : Holds ls V H) (hi : i < ls.length) (hd : Tip ls H i d) (hv : v ≠ []) (hA : AppR H d.j d.off d.len v H' j' off') :
  Holds ls V H' ∧ Tip ls H' i ⟨j', off', d.len + v.length⟩ := by
 cases hA with
 | here hj0 =>
  have hj0 := hj0 hv
  have obj : ∀ q, llget (llset H d.j (lput (llget H d.j) (d.off + d.len) v)) q = if q = d.j then lput (llget H d.j) (d.off + d.len) v else llget H q := fun q => llset_get _ _ _ _ hd.j
  refine ⟨⟨by rw [obj, if_neg (Ne.symm hj0)]; exact h.z, fun k hk => ?_, fun k hk u hu => ?_⟩, ⟨by simpa [llset] using hd.j, ?_, ?_⟩⟩
  ·obtain ⟨p1, p2⟩ := h.inn k hk
   refine ⟨by simpa [llset] using p1, ?_⟩
   rw [obj]; split
   ·rename_i e; rw [lput_len2 _ _ _ hd.fit]; rw [e] at p2; omega
   ·exact p2
  ·rw [obj]; split
   ·rename_i e
    rcases hd.own with ⟨q1, q2⟩ | q
    ·have hki : k = i ∨ (hget ls k).j = 0 := by
      by_cases c : k = i
      ·exact Or.inl c
      ·exact Or.inr (hO.ne k i hk hi c (by rw [e, q1]))
     rcases hki with rfl | c
     ·rw [lget_lput _ _ _ _ hd.fit, if_neg (by omega), ← e]; exact h.val k hk u hu
     ·rw [e] at c; exact absurd c hj0
    ·exact absurd e (q k hk)
   ·exact h.val k hk u hu
  ·rw [obj, if_pos rfl, lput_len2 _ _ _ hd.fit]; simp only; omega
  ·rcases hd.own with ⟨q1, q2⟩ | q
   ·exact Or.inl ⟨q1, by simp only; omega⟩
   ·exact Or.inr q
 | new =>
  have obj : ∀ q, q < H.length → llget (H ++ [lsub (llget H d.j) d.off d.len ++ v]) q = llget H q := fun q hq => by rw [llget_app, if_pos hq]
  have hpos : 0 < H.length := by have := hd.j; omega
  refine ⟨⟨by rw [obj _ hpos]; exact h.z, fun k hk => ?_, fun k hk u hu => ?_⟩, ⟨by simp, ?_, Or.inr fun k hk e => ?_⟩⟩
  ·obtain ⟨p1, p2⟩ := h.inn k hk
   exact ⟨by simp; omega, by rw [obj _ p1]; exact p2⟩
  ·rw [obj _ (h.inn k hk).1]; exact h.val k hk u hu
  ·show 0 + (d.len + v.length) ≤ (llget (H ++ [lsub (llget H d.j) d.off d.len ++ v]) H.length).length
   rw [llget_app, if_neg (by omega), if_pos rfl, List.length_append, lsub_len _ _ _ hd.fit]; omega
  ·have q1 := (h.inn k hk).1; have q2 : (hget ls k).j = H.length := e; omega
section
variable {P : Program} {Γ : Gam} {D : Hints}
end
def hfrom : Nat → List (List Int) → List HS
 | _, [] => []
 | n, c :: r => ⟨n, 0, c.length⟩ :: hfrom (n + 1) r
theorem hfrom_app (n : Nat) (L : List (List Int)) (y : List Int) : hfrom n (L ++ [y]) = hfrom n L ++ [⟨n + L.length, 0, y.length⟩] := by
 induction L generalizing n with
 | nil => rfl
 | cons c r ih => simp only [List.cons_append, hfrom, ih, List.length_cons]; congr 4; omega
theorem hfrom_len (n : Nat) (L : List (List Int)) : (hfrom n L).length = L.length := by
 induction L generalizing n with
 | nil => rfl
 | cons c r ih => simp only [hfrom, List.length_cons, ih]
theorem hfrom_get {n : Nat} {L : List (List Int)} {i : Nat} (hi : i < L.length) : hget (hfrom n L) i = ⟨n + i, 0, (llget L i).length⟩ := by
 induction L generalizing n i with
 | nil => simp at hi
 | cons c r ih =>
  cases i with
  | zero => rfl
  | succ i =>
   have := ih (n := n + 1) (i := i) (by simpa using hi)
   simp only [hget, hfrom, llget, List.getD_cons_succ] at this ⊢
   rw [this]; congr 1; omega
end Go.Sx
