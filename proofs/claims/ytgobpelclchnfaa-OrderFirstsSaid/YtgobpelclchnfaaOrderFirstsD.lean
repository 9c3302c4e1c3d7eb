/- Own texts of this proof, laid one behind the other: OrdB, OrdM, OrdG, MixM, SxB, AptM, OrdP, SxP. -/
import Derived.Test.YtgobpelclchnfaaOrderFirstsC
import Derived.Test.YtgobpelclchnfaaProg

/- What is known of the functions that keep the first error. -/
set_option linter.unusedVariables false
namespace Go.Ord
open Go.Sx
/-- is a note passed over? -/
def skip (a e i x : Int) : Bool := decide (i < 0) || decide (x = 0) || (decide (e ≠ 0) && decide (a ≤ i))
def ntA (a e i x : Int) : Int := if skip a e i x = true then a else i
def ntE (a e i x : Int) : Int := if skip a e i x = true then e else x
def fsA (a e : Int) : Int := if e = 0 then -1 else a
/-- the document's first one of the first n -/
def rfS (I E : List Int) : Nat → Int × Int
  | 0 => (-1, 0)
  | n + 1 => if 0 ≤ lget I n ∧ lget E n ≠ 0 ∧ ((rfS I E n).1 < 0 ∨ lget I n < (rfS I E n).1) then (lget I n, lget E n) else rfS I E n
def rfA (I E : List Int) : Int := (rfS I E I.length).1
def rfE (I E : List Int) : Int := (rfS I E I.length).2
def allZ (E : List Int) : Bool := E.all fun e => e == 0
structure Two (a b : List Int) : Prop where
  len : b.length = a.length
  short : a.length ≤ 8796093022208
end Go.Ord
namespace Go.Sx
open Go.Ord
/-- what a list of pairs of numbers reads -/
def twoInts (K : List Int → List Int → Prop) (cs : List Col) : Prop :=
  match cs with
  | [.ints .i64 a, .ints .i64 b] => K a b
  | _ => False
def rd2 (σ : Mem) (x : AV) (K : List Int → List Int → Prop) : Prop := rdx σ [.ints .i64, .ints .i64] x (twoInts K)
theorem rd2_row {σ : Mem} {x : AV} {K : List Int → List Int → Prop} (h : rd2 σ x K) : ∃ a b, K a b ∧ rdx σ [.ints .i64, .ints .i64] x (fun c => c = [.ints .i64 a, .ints .i64 b]) := by
  obtain ⟨cs, h1, h2⟩ := rdx_det h
  unfold twoInts at h1
  split at h1 <;> try exact h1.elim
  exact ⟨_, _, h1, h2⟩
def noteS : Spec := ⟨0, true, fun _ args σ K => match args with
  | [.one (.ptr n 0 0), .one (.int .i64 i), .one (.int .i64 x)] => match Mem.find σ n with
    | some (.own 25 [.cells [.int .i64 a], .cells [.int .i64 e]]) => K (.tup []) (σ.put n (.own 25 [.cells [.int .i64 (ntA a e i x)], .cells [.int .i64 (ntE a e i x)]]))
    | _ => False
  | [.one (.con (.pointer none)), .one (.int .i64 i), .one (.int .i64 x)] => K (.tup []) σ
  | _ => False⟩
def firstS : Spec := ⟨0, false, fun _ args σ K => match args with
  | [.one (.ptr n 0 0)] => match Mem.find σ n with
    | some (.own 25 [.cells [.int .i64 a], .cells [.int .i64 e]]) => K (.tup [.c (.int .i64 (fsA a e)), .c (.int .i64 e)]) σ
    | _ => False
  | [.one (.con (.pointer none))] => K (.tup [.c (.int .i64 (-1)), .c (.int .i64 0)]) σ
  | _ => False⟩
def rfirstS : Spec := ⟨0, false, fun _ args σ K => match args with
  | [x] => rd2 σ x fun I E => Two I E ∧ K (.tup [.c (.int .i64 (rfA I E)), .c (.int .i64 (rfE I E))]) σ
  | _ => False⟩
def belowS : Spec := ⟨0, false, fun _ args σ K => match args with
  | [x] => rd2 σ x fun I E => Two I E ∧ K (.one (.bool (allZ E))) σ
  | _ => False⟩
def gamF1 : Gam := ext (ext (ext (ext gam0 7 noteS) 8 firstS) 9 rfirstS) 10 belowS
end Go.Sx

/- The first error: the plain law. -/
namespace Go.Ord
open Go.Sx
set_option linter.unusedSimpArgs false
set_option linter.unusedVariables false
def rfT (r : Int × Int) (i x : Int) : Int × Int := if 0 ≤ i ∧ x ≠ 0 ∧ (r.1 < 0 ∨ i < r.1) then (i, x) else r
def rfF (i x : Nat → Int) : Nat → Int × Int
  | 0 => (-1, 0)
  | n + 1 => rfT (rfF i x n) (i n) (x n)
theorem rfS_F (I E : List Int) : ∀ n, rfS I E n = rfF (lget I) (lget E) n
  | 0 => rfl
  | n + 1 => by
    show (if 0 ≤ lget I n ∧ lget E n ≠ 0 ∧ ((rfS I E n).1 < 0 ∨ lget I n < (rfS I E n).1) then (lget I n, lget E n) else rfS I E n) = _
    rw [rfS_F I E n]; rfl
theorem rfF_congr {i x i' x' : Nat → Int} : ∀ {n : Nat}, (∀ k, k < n → i k = i' k ∧ x k = x' k) → rfF i x n = rfF i' x' n
  | 0, _ => rfl
  | n + 1, h => by
    show rfT (rfF i x n) (i n) (x n) = rfT (rfF i' x' n) (i' n) (x' n)
    rw [rfF_congr (n := n) fun k hk => h k (by omega), (h n (by omega)).1, (h n (by omega)).2]
/-- what a fault holds, against the first one -/
structure FS (a e : Int) (r : Int × Int) : Prop where
  fst : fsA a e = r.1
  snd : e = r.2
  pos : e ≠ 0 → 0 ≤ r.1
theorem FS.zero : FS 0 0 (-1, 0) := ⟨rfl, rfl, fun h => absurd rfl h⟩
theorem skip_iff {a e i x : Int} : skip a e i x = true ↔ i < 0 ∨ x = 0 ∨ (e ≠ 0 ∧ a ≤ i) := by
  simp only [skip, Bool.or_eq_true, Bool.and_eq_true, decide_eq_true_eq, or_assoc]
theorem FS.step {a e : Int} {r : Int × Int} (h : FS a e r) (i x : Int) : FS (ntA a e i x) (ntE a e i x) (rfT r i x) := by
  obtain ⟨h1, h2, h3⟩ := h
  have hr : (e = 0 ∧ r.1 = -1) ∨ (e ≠ 0 ∧ r.1 = a ∧ 0 ≤ a) := by
    unfold fsA at h1
    by_cases he : e = 0
    · rw [if_pos he] at h1; exact Or.inl ⟨he, h1.symm⟩
    · rw [if_neg he] at h1; exact Or.inr ⟨he, h1.symm, by rw [h1]; exact h3 he⟩
  by_cases hs : skip a e i x = true
  · have q := skip_iff.1 hs
    have : rfT r i x = r := if_neg fun c => by
      obtain ⟨c1, c2, c3⟩ := c
      rcases q with q | q | q
      · omega
      · exact c2 q
      · rcases hr with ⟨e1, _⟩ | ⟨_, e2, e3⟩
        · exact q.1 e1
        · have := q.2; omega
    rw [this, ntA, ntE, if_pos hs, if_pos hs]
    exact ⟨h1, h2, h3⟩
  · have q := fun c => hs (skip_iff.2 c)
    have q1 : ¬ i < 0 := fun c => q (Or.inl c)
    have q2 : ¬ x = 0 := fun c => q (Or.inr (Or.inl c))
    have q3 : e = 0 ∨ i < a := by
      by_cases he : e = 0
      · exact Or.inl he
      · exact Or.inr (by
          have : ¬ a ≤ i := fun c => q (Or.inr (Or.inr ⟨he, c⟩))
          omega)
    have : rfT r i x = (i, x) := if_pos ⟨by omega, q2, by
      rcases hr with ⟨e1, e2⟩ | ⟨e1, e2, e3⟩
      · exact Or.inl (by omega)
      · rcases q3 with q3 | q3
        · exact absurd q3 e1
        · exact Or.inr (by omega)⟩
    rw [this, ntA, ntE, if_neg hs, if_neg hs]
    exact ⟨by unfold fsA; rw [if_neg q2], rfl, fun _ => by show (0 : Int) ≤ i; omega⟩
/-- the first one is among them, and none stands lower -/
theorem rfF_is (i x : Nat → Int) : ∀ n, (rfF i x n = (-1, 0) ∧ ∀ k, k < n → 0 ≤ i k → x k = 0) ∨ ∃ k, k < n ∧ 0 ≤ i k ∧ x k ≠ 0 ∧ rfF i x n = (i k, x k) ∧ ∀ k', k' < n → 0 ≤ i k' → x k' ≠ 0 → i k ≤ i k'
  | 0 => Or.inl ⟨rfl, fun k h => by omega⟩
  | n + 1 => by
    have hf : rfF i x (n + 1) = if 0 ≤ i n ∧ x n ≠ 0 ∧ ((rfF i x n).1 < 0 ∨ i n < (rfF i x n).1) then (i n, x n) else rfF i x n := rfl
    rcases rfF_is i x n with ⟨h1, h2⟩ | ⟨k, h1, h2, h3, h4, h5⟩
    · by_cases c : 0 ≤ i n ∧ x n ≠ 0
      · refine Or.inr ⟨n, by omega, c.1, c.2, ?_, fun k' hk' hi hx => ?_⟩
        · rw [hf, if_pos ⟨c.1, c.2, Or.inl (by rw [h1]; decide)⟩]
        · by_cases e : k' = n
          · rw [e]; omega
          · exact absurd (h2 k' (by omega) hi) hx
      · refine Or.inl ⟨?_, fun k hk hi => ?_⟩
        · rw [hf, if_neg fun q => c ⟨q.1, q.2.1⟩]; exact h1
        · by_cases e : k = n
          · subst e; exact Classical.byContradiction fun q => c ⟨hi, q⟩
          · exact h2 k (by omega) hi
    · by_cases c : 0 ≤ i n ∧ x n ≠ 0 ∧ i n < i k
      · refine Or.inr ⟨n, by omega, c.1, c.2.1, ?_, fun k' hk' hi hx => ?_⟩
        · rw [hf, if_pos ⟨c.1, c.2.1, Or.inr (by rw [h4]; exact c.2.2)⟩]
        · by_cases e : k' = n
          · rw [e]; omega
          · have := h5 k' (by omega) hi hx; omega
      · refine Or.inr ⟨k, by omega, h2, h3, ?_, fun k' hk' hi hx => ?_⟩
        · rw [hf, if_neg fun q => ?_]
          · exact h4
          · obtain ⟨q1, q2, q3⟩ := q
            rw [h4] at q3
            exact c ⟨q1, q2, by rcases q3 with q3 | q3 <;> simp only at q3 <;> omega⟩
        · by_cases e : k' = n
          · subst e
            exact Classical.byContradiction fun q => c ⟨hi, hx, by omega⟩
          · exact h5 k' (by omega) hi hx
theorem lget_take (l : List Int) (n k : Nat) (h : k < n) : lget (l.take n) k = lget l k := by
  simp only [lget, List.getD, List.getElem?_take, if_pos h]
theorem rfS_take (I E : List Int) (n m : Nat) (h : m ≤ n) : rfS (I.take n) (E.take n) m = rfS I E m := by
  rw [rfS_F, rfS_F]
  exact rfF_congr fun k hk => ⟨lget_take _ _ _ (by omega), lget_take _ _ _ (by omega)⟩
theorem take_more (l : List Int) (n : Nat) (h : n < l.length) : lcat (l.take n) [lget l n] = l.take (n + 1) := by
  simp only [lcat, lget, List.getD, List.getElem?_eq_getElem h, Option.getD_some]
  exact (List.take_append_getElem h)
theorem allZ_iff {E : List Int} : allZ E = true ↔ ∀ k, k < E.length → lget E k = 0 := by
  unfold allZ
  rw [List.all_eq_true]
  constructor
  · intro h k hk
    have := h E[k] (List.getElem_mem hk)
    simp only [lget, List.getD, List.getElem?_eq_getElem hk, Option.getD_some]
    simpa using this
  · intro h x hx
    obtain ⟨k, hk, rfl⟩ := List.mem_iff_getElem.mp hx
    have := h k hk
    simp only [lget, List.getD, List.getElem?_eq_getElem hk, Option.getD_some] at this
    simpa using this
end Go.Ord
namespace Go.Sx
theorem cols_two {cs : List Col} {k l : Kd} (h : kdsOf cs = [k, l]) : ∃ c d, cs = [c, d] ∧ c.kd = k ∧ d.kd = l := by
  cases cs with
  | nil => simp [kdsOf] at h
  | cons c r => cases r with
    | nil => simp [kdsOf] at h
    | cons d r => cases r with
      | nil => simp [kdsOf] at h; exact ⟨c, d, rfl, h.1, h.2⟩
      | cons e r => simp [kdsOf] at h
end Go.Sx

/- The verification conditions of functions, printed by a program of this session out of their codes. -/
namespace Go.Proofs.Ytgobpelclchnfaa.G
open Go Go.Sx Go.Ord
set_option linter.unusedVariables false
set_option maxRecDepth 100000

theorem onote_vc (R : AV → Mem → Prop) (fuel : Nat) (a : Int) (e : Int) (i : Int) (x : Int) : callsx Try.prog gam0 [] Try.f7 (fuel + 1) [.one (.ptr 200000 0 0), .one (.int .i64 i), .one (.int .i64 x)] [(200000, .own 25 [.cells [.int .i64 a], .cells [.int .i64 e]])] R = (((((ilt i 0) = false) → ((((ieq x 0) = false) → ((((ine e 0) = true) → ((((ile a i) = true) → (R (AV.tup []) [(200000, Blk.own 25 [(Seg.cells [(AC.int IntKind.i64 a)]), (Seg.cells [(AC.int IntKind.i64 e)])])])) ∧ (((ile a i) = false) → (R (AV.tup []) [(200000, Blk.own 25 [(Seg.cells [(AC.int IntKind.i64 i)]), (Seg.cells [(AC.int IntKind.i64 x)])])])))) ∧ (((ine e 0) = false) → (R (AV.tup []) [(200000, Blk.own 25 [(Seg.cells [(AC.int IntKind.i64 i)]), (Seg.cells [(AC.int IntKind.i64 x)])])])))) ∧ (((ieq x 0) = true) → (R (AV.tup []) [(200000, Blk.own 25 [(Seg.cells [(AC.int IntKind.i64 a)]), (Seg.cells [(AC.int IntKind.i64 e)])])])))) ∧ (((ilt i 0) = true) → (R (AV.tup []) [(200000, Blk.own 25 [(Seg.cells [(AC.int IntKind.i64 a)]), (Seg.cells [(AC.int IntKind.i64 e)])])])))) := by kernel_rfl

theorem onoteN_vc (R : AV → Mem → Prop) (fuel : Nat) (i : Int) (x : Int) : callsx Try.prog gam0 [] Try.f7 (fuel + 1) [.one (.con (.pointer none)), .one (.int .i64 i), .one (.int .i64 x)] [] R = ((R (AV.tup []) [])) := by kernel_rfl

theorem ofirst_vc (R : AV → Mem → Prop) (fuel : Nat) (a : Int) (e : Int) : callsx Try.prog gam0 [] Try.f8 (fuel + 1) [.one (.ptr 200000 0 0)] [(200000, .view [.cells [.int .i64 a], .cells [.int .i64 e]])] R = (((((ieq e 0) = true) → (R (AV.tup [(TV.c (AC.int IntKind.i64 (-1 : Int))), (TV.c (AC.int IntKind.i64 0))]) [(200000, Blk.view [(Seg.cells [(AC.int IntKind.i64 a)]), (Seg.cells [(AC.int IntKind.i64 e)])])])) ∧ (((ieq e 0) = false) → (R (AV.tup [(TV.c (AC.int IntKind.i64 a)), (TV.c (AC.int IntKind.i64 e))]) [(200000, Blk.view [(Seg.cells [(AC.int IntKind.i64 a)]), (Seg.cells [(AC.int IntKind.i64 e)])])])))) := by kernel_rfl

theorem ofirstN_vc (R : AV → Mem → Prop) (fuel : Nat)  : callsx Try.prog gam0 [] Try.f8 (fuel + 1) [.one (.con (.pointer none))] [] R = ((R (AV.tup [(TV.c (AC.int IntKind.i64 (-1 : Int))), (TV.c (AC.int IntKind.i64 0))]) [])) := by kernel_rfl

def orfirst.l0 (R : AV → Mem → Prop) (I : List Int) (E : List Int) (fuel : Nat) (x0 : Int) (x1 : Int) (x2 : Int) : Prop := run Try.prog gam0 [⟨777776, [], true, false⟩] (resh Try.prog [⟨777776, [], true, false⟩] Try.f9.results.toList R) fuel [.code (cAt (bodyOf Try.f9) [1, 1, 0, 1, 0, 0]), .inLoop (cAt (bodyOf Try.f9) [1, 1, 0, 1, 0, 0]), .inBlock 0, .code (cAt (bodyOf Try.f9) [1, 1, 1])] [(AV.one (AC.vec 200000)), AV.undef, AV.undef, AV.undef, (AV.one (AC.int IntKind.i64 x0)), (AV.one (AC.int IntKind.i64 x1)), (AV.one (AC.int IntKind.i64 x2)), AV.undef, AV.undef, AV.undef, AV.undef, AV.undef, AV.undef, AV.undef, AV.undef, AV.undef, AV.undef, AV.undef, AV.undef, AV.undef, AV.undef, AV.undef, AV.undef, AV.undef, AV.undef, AV.undef, AV.undef, AV.undef, AV.undef, AV.undef, AV.undef, AV.undef, AV.undef, AV.undef, AV.undef, AV.undef, AV.undef, AV.undef, AV.undef, AV.undef, AV.undef, AV.undef, AV.undef, AV.undef, AV.undef, AV.undef, AV.undef, AV.undef, AV.undef, AV.undef, AV.undef, AV.undef] [(200000, Blk.rview [(Col.ints IntKind.i64 I), (Col.ints IntKind.i64 E)])]

theorem orfirst.l0_succ (R : AV → Mem → Prop) (I : List Int) (E : List Int) (fuel : Nat) (x0 : Int) (x1 : Int) (x2 : Int) : orfirst.l0 R I E (fuel + 1) x0 x1 x2 = (((((ilt x2 (ofNat (llen I))) = true) → ((InB x2 (llen I)) ∧ ((((ige (lget I (nat x2)) 0) = true) → ((InB x2 (llen I)) ∧ ((((ine (lget E (nat x2)) 0) = true) → ((((ilt x0 0) = false) → ((InB x2 (llen I)) ∧ ((((ilt (lget I (nat x2)) x0) = true) → ((InB x2 (llen I)) ∧ ((InB x2 (llen I)) ∧ (orfirst.l0 R I E fuel (lget I (nat x2)) (lget E (nat x2)) (add IntKind.i64 x2 1))))) ∧ (((ilt (lget I (nat x2)) x0) = false) → (orfirst.l0 R I E fuel x0 x1 (add IntKind.i64 x2 1)))))) ∧ (((ilt x0 0) = true) → ((InB x2 (llen I)) ∧ ((InB x2 (llen I)) ∧ (orfirst.l0 R I E fuel (lget I (nat x2)) (lget E (nat x2)) (add IntKind.i64 x2 1))))))) ∧ (((ine (lget E (nat x2)) 0) = false) → (orfirst.l0 R I E fuel x0 x1 (add IntKind.i64 x2 1)))))) ∧ (((ige (lget I (nat x2)) 0) = false) → (orfirst.l0 R I E fuel x0 x1 (add IntKind.i64 x2 1)))))) ∧ (((ilt x2 (ofNat (llen I))) = false) → (R (AV.tup [(TV.c (AC.int IntKind.i64 x0)), (TV.c (AC.int IntKind.i64 x1))]) [(200000, Blk.rview [(Col.ints IntKind.i64 I), (Col.ints IntKind.i64 E)])])))) := by kernel_rfl
theorem orfirst.l0_zero (R : AV → Mem → Prop) (I : List Int) (E : List Int) (x0 : Int) (x1 : Int) (x2 : Int) : orfirst.l0 R I E 0 x0 x1 x2 = False := by kernel_rfl

theorem orfirst_vc (R : AV → Mem → Prop) (fuel : Nat) (I : List Int) (E : List Int) : callsx Try.prog gam0 [⟨777776, [], true, false⟩] Try.f9 (fuel + 1) [.one (.vec 200000)] [(200000, .rview [.ints .i64 I, .ints .i64 E])] R = ((orfirst.l0 R I E fuel (-1 : Int) 0 0)) := by kernel_rfl

def obelow.l0 (R : AV → Mem → Prop) (I : List Int) (E : List Int) (fuel : Nat) (x0 : Int) : Prop := run Try.prog gam0 [] (resh Try.prog [] Try.f10.results.toList R) fuel [.code (cAt (bodyOf Try.f10) [1, 0, 1, 0, 0]), .inLoop (cAt (bodyOf Try.f10) [1, 0, 1, 0, 0]), .inBlock 0, .code (cAt (bodyOf Try.f10) [1, 1])] [AV.undef, AV.undef, AV.undef, AV.undef, AV.undef, (AV.one (AC.vec 200000)), (AV.one (AC.int IntKind.i64 (ofNat (llen I)))), (AV.one (AC.int IntKind.i64 x0)), AV.undef, AV.undef, AV.undef, AV.undef, AV.undef, AV.undef, AV.undef] [(200000, Blk.rview [(Col.ints IntKind.i64 I), (Col.ints IntKind.i64 E)])]

theorem obelow.l0_succ (R : AV → Mem → Prop) (I : List Int) (E : List Int) (fuel : Nat) (x0 : Int) : obelow.l0 R I E (fuel + 1) x0 = (((((ilt x0 (ofNat (llen I))) = true) → ((InB x0 (llen I)) ∧ ((((ine (lget E (nat x0)) 0) = true) → (R (AV.one (AC.lit false)) [(4, Blk.own 32 [(Seg.cells [(AC.int IntKind.i64 (lget I (nat x0)))]), (Seg.cells [(AC.int IntKind.i64 (lget E (nat x0)))])]), (200000, Blk.rview [(Col.ints IntKind.i64 I), (Col.ints IntKind.i64 E)])])) ∧ (((ine (lget E (nat x0)) 0) = false) → (obelow.l0 R I E fuel (add IntKind.i64 x0 1)))))) ∧ (((ilt x0 (ofNat (llen I))) = false) → (R (AV.one (AC.lit true)) [(200000, Blk.rview [(Col.ints IntKind.i64 I), (Col.ints IntKind.i64 E)])])))) := by kernel_rfl
theorem obelow.l0_zero (R : AV → Mem → Prop) (I : List Int) (E : List Int) (x0 : Int) : obelow.l0 R I E 0 x0 = False := by kernel_rfl

theorem obelow_vc (R : AV → Mem → Prop) (fuel : Nat) (I : List Int) (E : List Int) : callsx Try.prog gam0 [] Try.f10 (fuel + 1) [.one (.vec 200000)] [(200000, .rview [.ints .i64 I, .ints .i64 E])] R = ((obelow.l0 R I E fuel 0)) := by kernel_rfl

def lnotes.l0 (R : AV → Mem → Prop) (I : List Int) (E : List Int) (fuel : Nat) (x0 : Int) (x1 : Int) (x2 : Int) (x3 : List Int) (x4 : List Int) : Prop := run Try.prog gamF1 [⟨8, [.ints .i64, .ints .i64], true, false⟩] (resh Try.prog [⟨8, [.ints .i64, .ints .i64], true, false⟩] Try.f3.results.toList R) fuel [.code (cAt (bodyOf Try.f3) [1, 1, 1, 1, 1, 1, 0, 1, 0, 0]), .inLoop (cAt (bodyOf Try.f3) [1, 1, 1, 1, 1, 1, 0, 1, 0, 0]), .inBlock 0, .code (cAt (bodyOf Try.f3) [1, 1, 1, 1, 1, 1, 1])] [AV.undef, AV.undef, AV.undef, (AV.one (AC.ptr 3 0 0)), AV.undef, AV.undef, AV.undef, (AV.one (AC.con (Value.pointer (Option.none)))), (AV.one (AC.vec 100008)), AV.undef, AV.undef, AV.undef, AV.undef, AV.undef, AV.undef, (AV.tup []), (AV.tup []), AV.undef, AV.undef, AV.undef, AV.undef, AV.undef, AV.undef, AV.undef, AV.undef, AV.undef, AV.undef, AV.undef, (AV.one (AC.vec 200000)), (AV.one (AC.int IntKind.i64 (ofNat (llen I)))), (AV.one (AC.int IntKind.i64 x0)), AV.undef, AV.undef, AV.undef, AV.undef, AV.undef, AV.undef, AV.undef, AV.undef, AV.undef, AV.undef, AV.undef, AV.undef, AV.undef, AV.undef, AV.undef, AV.undef, AV.undef, AV.undef, AV.undef, AV.undef, AV.undef, AV.undef, AV.undef, AV.undef, AV.undef, AV.undef, AV.undef, AV.undef, AV.undef, AV.undef, AV.undef, AV.undef, AV.undef, AV.undef, AV.undef, AV.undef, AV.undef, AV.undef, AV.undef, AV.undef, (AV.tup []), (AV.tup []), (AV.tup []), (AV.tup []), (AV.tup []), (AV.tup []), (AV.tup []), (AV.tup []), (AV.tup []), (AV.tup []), (AV.tup [])] [(3, Blk.own 25 [(Seg.cells [(AC.int IntKind.i64 x1)]), (Seg.cells [(AC.int IntKind.i64 x2)])]), (100008, Blk.vec [(Col.ints IntKind.i64 x3), (Col.ints IntKind.i64 x4)]), (200000, Blk.rview [(Col.ints IntKind.i64 I), (Col.ints IntKind.i64 E)])]

theorem lnotes.l0_succ (R : AV → Mem → Prop) (I : List Int) (E : List Int) (fuel : Nat) (x0 : Int) (x1 : Int) (x2 : Int) (x3 : List Int) (x4 : List Int) : lnotes.l0 R I E (fuel + 1) x0 x1 x2 x3 x4 = (((((ilt x0 (ofNat (llen I))) = true) → ((InB x0 (llen I)) ∧ ((Room (nadd (llen x3) (llen [(lget I (nat x0))])) 16) ∧ ((Go.Ord.Two (lcat x3 [(lget I (nat x0))]) (lcat x4 [(lget E (nat x0))])) ∧ (let y5 : Int := (Go.Ord.fsA (Go.Ord.ntA x1 x2 (lget I (nat x0)) (lget E (nat x0))) (Go.Ord.ntE x1 x2 (lget I (nat x0)) (lget E (nat x0)))); ((((ine y5 (Go.Ord.rfA (lcat x3 [(lget I (nat x0))]) (lcat x4 [(lget E (nat x0))]))) = false) → (let y6 : Bool := (ine (Go.Ord.ntE x1 x2 (lget I (nat x0)) (lget E (nat x0))) (Go.Ord.rfE (lcat x3 [(lget I (nat x0))]) (lcat x4 [(lget E (nat x0))]))); (((y6 = true) → (R (AV.one (AC.lit false)) [(3, Blk.own 25 [(Seg.cells [(AC.int IntKind.i64 (Go.Ord.ntA x1 x2 (lget I (nat x0)) (lget E (nat x0))))]), (Seg.cells [(AC.int IntKind.i64 (Go.Ord.ntE x1 x2 (lget I (nat x0)) (lget E (nat x0))))])]), (10, Blk.own 32 [(Seg.cells [(AC.int IntKind.i64 (lget I (nat x0)))]), (Seg.cells [(AC.int IntKind.i64 (lget E (nat x0)))])]), (51, Blk.vec [(Col.ints IntKind.i64 [(lget I (nat x0))]), (Col.ints IntKind.i64 [(lget E (nat x0))])]), (52, Blk.vec [(Col.ints IntKind.i64 (lcat x3 [(lget I (nat x0))])), (Col.ints IntKind.i64 (lcat x4 [(lget E (nat x0))]))]), (200000, Blk.rview [(Col.ints IntKind.i64 I), (Col.ints IntKind.i64 E)])])) ∧ ((y6 = false) → (lnotes.l0 R I E fuel (add IntKind.i64 x0 1) (Go.Ord.ntA x1 x2 (lget I (nat x0)) (lget E (nat x0))) (Go.Ord.ntE x1 x2 (lget I (nat x0)) (lget E (nat x0))) (lcat x3 [(lget I (nat x0))]) (lcat x4 [(lget E (nat x0))])))))) ∧ (((ine y5 (Go.Ord.rfA (lcat x3 [(lget I (nat x0))]) (lcat x4 [(lget E (nat x0))]))) = true) → (R (AV.one (AC.lit false)) [(3, Blk.own 25 [(Seg.cells [(AC.int IntKind.i64 (Go.Ord.ntA x1 x2 (lget I (nat x0)) (lget E (nat x0))))]), (Seg.cells [(AC.int IntKind.i64 (Go.Ord.ntE x1 x2 (lget I (nat x0)) (lget E (nat x0))))])]), (10, Blk.own 32 [(Seg.cells [(AC.int IntKind.i64 (lget I (nat x0)))]), (Seg.cells [(AC.int IntKind.i64 (lget E (nat x0)))])]), (51, Blk.vec [(Col.ints IntKind.i64 [(lget I (nat x0))]), (Col.ints IntKind.i64 [(lget E (nat x0))])]), (52, Blk.vec [(Col.ints IntKind.i64 (lcat x3 [(lget I (nat x0))])), (Col.ints IntKind.i64 (lcat x4 [(lget E (nat x0))]))]), (200000, Blk.rview [(Col.ints IntKind.i64 I), (Col.ints IntKind.i64 E)])])))))))) ∧ (((ilt x0 (ofNat (llen I))) = false) → (((true = true) → (R (AV.one (AC.bool true)) [(3, Blk.own 25 [(Seg.cells [(AC.int IntKind.i64 x1)]), (Seg.cells [(AC.int IntKind.i64 x2)])]), (100008, Blk.vec [(Col.ints IntKind.i64 x3), (Col.ints IntKind.i64 x4)]), (200000, Blk.rview [(Col.ints IntKind.i64 I), (Col.ints IntKind.i64 E)])])) ∧ ((true = false) → (R (AV.one (AC.lit false)) [(3, Blk.own 25 [(Seg.cells [(AC.int IntKind.i64 x1)]), (Seg.cells [(AC.int IntKind.i64 x2)])]), (100008, Blk.vec [(Col.ints IntKind.i64 x3), (Col.ints IntKind.i64 x4)]), (200000, Blk.rview [(Col.ints IntKind.i64 I), (Col.ints IntKind.i64 E)])])))))) := by kernel_rfl
theorem lnotes.l0_zero (R : AV → Mem → Prop) (I : List Int) (E : List Int) (x0 : Int) (x1 : Int) (x2 : Int) (x3 : List Int) (x4 : List Int) : lnotes.l0 R I E 0 x0 x1 x2 x3 x4 = False := by kernel_rfl

theorem lnotes_vc (R : AV → Mem → Prop) (fuel : Nat) (I : List Int) (E : List Int) : callsx Try.prog gamF1 [⟨8, [.ints .i64, .ints .i64], true, false⟩] Try.f3 (fuel + 1) [.one (.vec 200000)] [(200000, .rview [.ints .i64 I, .ints .i64 E])] R = (((((ine (Go.Ord.fsA (Go.Ord.ntA 0 0 4 7) (Go.Ord.ntE 0 0 4 7)) 4) = false) → ((((ine (Go.Ord.ntE 0 0 4 7) 7) = true) → (R (AV.one (AC.lit false)) [(3, Blk.own 25 [(Seg.cells [(AC.int IntKind.i64 0)]), (Seg.cells [(AC.int IntKind.i64 0)])]), (4, Blk.own 25 [(Seg.cells [(AC.int IntKind.i64 (Go.Ord.ntA 0 0 4 7))]), (Seg.cells [(AC.int IntKind.i64 (Go.Ord.ntE 0 0 4 7))])]), (200000, Blk.rview [(Col.ints IntKind.i64 I), (Col.ints IntKind.i64 E)])])) ∧ (((ine (Go.Ord.ntE 0 0 4 7) 7) = false) → (lnotes.l0 R I E fuel 0 0 0 [] [])))) ∧ (((ine (Go.Ord.fsA (Go.Ord.ntA 0 0 4 7) (Go.Ord.ntE 0 0 4 7)) 4) = true) → (R (AV.one (AC.lit false)) [(3, Blk.own 25 [(Seg.cells [(AC.int IntKind.i64 0)]), (Seg.cells [(AC.int IntKind.i64 0)])]), (4, Blk.own 25 [(Seg.cells [(AC.int IntKind.i64 (Go.Ord.ntA 0 0 4 7))]), (Seg.cells [(AC.int IntKind.i64 (Go.Ord.ntE 0 0 4 7))])]), (200000, Blk.rview [(Col.ints IntKind.i64 I), (Col.ints IntKind.i64 E)])])))) := by kernel_rfl

def lfirsts.l1 (R : AV → Mem → Prop) (x3 : Int) (x4 : Int) (I : List Int) (x1 : Int) (x2 : Int) (x5 : Int) (x6 : Int) (E : List Int) (fuel : Nat) (x9 : Bool) (x10 : Int) : Prop := run Try.prog gamF1 [⟨12, [], true, false⟩] (resh Try.prog [⟨12, [], true, false⟩] Try.f4.results.toList R) fuel [.code (cAt (bodyOf Try.f4) [1, 1, 1, 1, 1, 1, 1, 1, 0, 1, 0, 0]), .inLoop (cAt (bodyOf Try.f4) [1, 1, 1, 1, 1, 1, 1, 1, 0, 1, 0, 0]), .inBlock 2, .code (cAt (bodyOf Try.f4) [1, 1, 1, 1, 1, 1, 1, 1, 1])] [(AV.one (AC.vec 200000)), AV.undef, AV.undef, (AV.one (AC.ptr 3 0 0)), AV.undef, AV.undef, AV.undef, AV.undef, (AV.one (AC.ptr 8 0 0)), AV.undef, (AV.one (AC.int IntKind.i64 (Go.Ord.fsA x3 x4))), (AV.one (AC.int IntKind.i64 x4)), (AV.one (AC.bool x9)), AV.undef, AV.undef, (AV.tup []), (AV.tup []), (AV.tup []), (AV.tup []), AV.undef, AV.undef, AV.undef, AV.undef, AV.undef, AV.undef, AV.undef, AV.undef, AV.undef, AV.undef, AV.undef, AV.undef, AV.undef, AV.undef, AV.undef, AV.undef, AV.undef, AV.undef, AV.undef, AV.undef, AV.undef, AV.undef, AV.undef, AV.undef, AV.undef, AV.undef, AV.undef, AV.undef, AV.undef, AV.undef, AV.undef, AV.undef, AV.undef, AV.undef, AV.undef, AV.undef, AV.undef, AV.undef, AV.undef, AV.undef, AV.undef, AV.undef, AV.undef, AV.undef, AV.undef, AV.undef, AV.undef, AV.undef, AV.undef, AV.undef, AV.undef, AV.undef, AV.undef, AV.undef, AV.undef, AV.undef, AV.undef, AV.undef, AV.undef, AV.undef, (AV.one (AC.vec 200000)), (AV.one (AC.int IntKind.i64 (ofNat (llen I)))), (AV.one (AC.int IntKind.i64 x10)), AV.undef, AV.undef, AV.undef, AV.undef, AV.undef, AV.undef, AV.undef, AV.undef, AV.undef, AV.undef, AV.undef, AV.undef, AV.undef, AV.undef, AV.undef, AV.undef, AV.undef, AV.undef, AV.undef, AV.undef, AV.undef, AV.undef, AV.undef, AV.undef, AV.undef, AV.undef, AV.undef, AV.undef, AV.undef, AV.undef, AV.undef, AV.undef, AV.undef, AV.undef, AV.undef, AV.undef, AV.undef, AV.undef, AV.undef, (AV.tup []), (AV.tup []), (AV.tup []), (AV.tup []), (AV.tup []), (AV.tup []), (AV.tup []), (AV.tup []), (AV.tup []), (AV.tup []), (AV.tup []), (AV.tup []), (AV.tup []), (AV.tup []), (AV.tup []), (AV.tup []), (AV.tup []), (AV.tup []), (AV.tup []), (AV.tup []), (AV.tup []), (AV.tup []), (AV.tup []), (AV.tup []), (AV.tup []), (AV.tup []), (AV.tup []), (AV.tup []), (AV.tup []), (AV.tup [])] [(3, Blk.own 25 [(Seg.cells [(AC.int IntKind.i64 x1)]), (Seg.cells [(AC.int IntKind.i64 x2)])]), (8, Blk.own 25 [(Seg.cells [(AC.int IntKind.i64 x5)]), (Seg.cells [(AC.int IntKind.i64 x6)])]), (200000, Blk.rview [(Col.ints IntKind.i64 I), (Col.ints IntKind.i64 E)])]

def lfirsts.l0 (R : AV → Mem → Prop) (I : List Int) (E : List Int) (fuel : Nat) (x0 : Int) (x1 : Int) (x2 : Int) (x3 : Int) (x4 : Int) (x5 : Int) (x6 : Int) : Prop := run Try.prog gamF1 [⟨12, [], true, false⟩] (resh Try.prog [⟨12, [], true, false⟩] Try.f4.results.toList R) fuel [.code (cAt (bodyOf Try.f4) [1, 1, 1, 1, 1, 0, 1, 0, 0]), .inLoop (cAt (bodyOf Try.f4) [1, 1, 1, 1, 1, 0, 1, 0, 0]), .inBlock 0, .code (cAt (bodyOf Try.f4) [1, 1, 1, 1, 1, 1])] [(AV.one (AC.vec 200000)), AV.undef, AV.undef, (AV.one (AC.ptr 3 0 0)), AV.undef, AV.undef, AV.undef, (AV.one (AC.ptr 7 0 0)), (AV.one (AC.ptr 8 0 0)), AV.undef, (AV.tup []), (AV.tup []), (AV.tup []), AV.undef, (AV.tup []), (AV.tup []), (AV.tup []), (AV.tup []), (AV.tup []), AV.undef, AV.undef, AV.undef, AV.undef, AV.undef, AV.undef, AV.undef, AV.undef, AV.undef, AV.undef, AV.undef, AV.undef, (AV.one (AC.int IntKind.i64 (ofNat (llen I)))), (AV.one (AC.int IntKind.i64 x0)), AV.undef, AV.undef, AV.undef, AV.undef, AV.undef, AV.undef, AV.undef, AV.undef, AV.undef, AV.undef, AV.undef, AV.undef, AV.undef, AV.undef, AV.undef, AV.undef, AV.undef, AV.undef, AV.undef, AV.undef, AV.undef, AV.undef, AV.undef, AV.undef, AV.undef, AV.undef, AV.undef, AV.undef, AV.undef, AV.undef, AV.undef, AV.undef, AV.undef, AV.undef, AV.undef, AV.undef, (AV.tup []), (AV.tup []), (AV.tup []), (AV.tup []), (AV.tup []), (AV.tup []), (AV.tup []), (AV.tup []), (AV.tup []), (AV.tup []), (AV.tup []), (AV.tup []), (AV.tup []), (AV.tup []), (AV.tup []), (AV.tup []), (AV.tup []), (AV.tup []), (AV.tup []), (AV.tup []), (AV.tup []), (AV.tup []), (AV.tup []), (AV.tup []), (AV.tup []), (AV.tup []), (AV.tup []), (AV.tup []), (AV.tup []), (AV.tup []), (AV.tup []), (AV.tup []), (AV.tup []), (AV.tup []), (AV.tup []), (AV.tup []), (AV.tup []), (AV.tup []), (AV.tup []), (AV.tup []), (AV.tup []), (AV.tup []), (AV.tup []), (AV.tup []), (AV.tup []), (AV.tup []), (AV.tup []), (AV.tup []), (AV.tup []), (AV.tup []), (AV.tup []), (AV.tup []), (AV.tup []), (AV.tup []), (AV.tup []), (AV.tup []), (AV.tup []), (AV.tup []), (AV.tup []), (AV.tup []), (AV.tup []), (AV.tup []), (AV.tup []), (AV.tup []), (AV.tup []), (AV.tup []), (AV.tup []), (AV.tup []), (AV.tup []), (AV.tup []), (AV.tup []), (AV.tup []), (AV.tup []), (AV.tup []), (AV.tup []), (AV.tup []), (AV.tup []), (AV.tup []), (AV.tup []), (AV.tup []), (AV.tup []), (AV.tup [])] [(3, Blk.own 25 [(Seg.cells [(AC.int IntKind.i64 x1)]), (Seg.cells [(AC.int IntKind.i64 x2)])]), (7, Blk.own 25 [(Seg.cells [(AC.int IntKind.i64 x3)]), (Seg.cells [(AC.int IntKind.i64 x4)])]), (8, Blk.own 25 [(Seg.cells [(AC.int IntKind.i64 x5)]), (Seg.cells [(AC.int IntKind.i64 x6)])]), (200000, Blk.rview [(Col.ints IntKind.i64 I), (Col.ints IntKind.i64 E)])]

theorem lfirsts.l1_succ (R : AV → Mem → Prop) (x3 : Int) (x4 : Int) (I : List Int) (x1 : Int) (x2 : Int) (x5 : Int) (x6 : Int) (E : List Int) (fuel : Nat) (x9 : Bool) (x10 : Int) : lfirsts.l1 R x3 x4 I x1 x2 x5 x6 E (fuel + 1) x9 x10 = (((((ilt x10 (ofNat (llen I))) = true) → ((InB x10 (llen I)) ∧ ((((ige (lget I (nat x10)) 0) = true) → ((((ine (lget E (nat x10)) 0) = true) → ((((ilt (Go.Ord.fsA x3 x4) 0) = false) → ((((ilt (lget I (nat x10)) (Go.Ord.fsA x3 x4)) = true) → (R (AV.one (AC.lit false)) [(3, Blk.own 25 [(Seg.cells [(AC.int IntKind.i64 x1)]), (Seg.cells [(AC.int IntKind.i64 x2)])]), (8, Blk.own 25 [(Seg.cells [(AC.int IntKind.i64 x5)]), (Seg.cells [(AC.int IntKind.i64 x6)])]), (14, Blk.own 32 [(Seg.cells [(AC.int IntKind.i64 (lget I (nat x10)))]), (Seg.cells [(AC.int IntKind.i64 (lget E (nat x10)))])]), (200000, Blk.rview [(Col.ints IntKind.i64 I), (Col.ints IntKind.i64 E)])])) ∧ (((ilt (lget I (nat x10)) (Go.Ord.fsA x3 x4)) = false) → (((x9 = false) → ((((ieq (lget I (nat x10)) (Go.Ord.fsA x3 x4)) = true) → ((((ieq (lget E (nat x10)) x4) = true) → (lfirsts.l1 R x3 x4 I x1 x2 x5 x6 E fuel (ine x4 0) (add IntKind.i64 x10 1))) ∧ (((ieq (lget E (nat x10)) x4) = false) → (lfirsts.l1 R x3 x4 I x1 x2 x5 x6 E fuel false (add IntKind.i64 x10 1))))) ∧ (((ieq (lget I (nat x10)) (Go.Ord.fsA x3 x4)) = false) → (lfirsts.l1 R x3 x4 I x1 x2 x5 x6 E fuel false (add IntKind.i64 x10 1))))) ∧ ((x9 = true) → (lfirsts.l1 R x3 x4 I x1 x2 x5 x6 E fuel true (add IntKind.i64 x10 1))))))) ∧ (((ilt (Go.Ord.fsA x3 x4) 0) = true) → (R (AV.one (AC.lit false)) [(3, Blk.own 25 [(Seg.cells [(AC.int IntKind.i64 x1)]), (Seg.cells [(AC.int IntKind.i64 x2)])]), (8, Blk.own 25 [(Seg.cells [(AC.int IntKind.i64 x5)]), (Seg.cells [(AC.int IntKind.i64 x6)])]), (14, Blk.own 32 [(Seg.cells [(AC.int IntKind.i64 (lget I (nat x10)))]), (Seg.cells [(AC.int IntKind.i64 (lget E (nat x10)))])]), (200000, Blk.rview [(Col.ints IntKind.i64 I), (Col.ints IntKind.i64 E)])])))) ∧ (((ine (lget E (nat x10)) 0) = false) → (((x9 = false) → ((((ieq (lget I (nat x10)) (Go.Ord.fsA x3 x4)) = true) → ((((ieq (lget E (nat x10)) x4) = true) → (lfirsts.l1 R x3 x4 I x1 x2 x5 x6 E fuel (ine x4 0) (add IntKind.i64 x10 1))) ∧ (((ieq (lget E (nat x10)) x4) = false) → (lfirsts.l1 R x3 x4 I x1 x2 x5 x6 E fuel false (add IntKind.i64 x10 1))))) ∧ (((ieq (lget I (nat x10)) (Go.Ord.fsA x3 x4)) = false) → (lfirsts.l1 R x3 x4 I x1 x2 x5 x6 E fuel false (add IntKind.i64 x10 1))))) ∧ ((x9 = true) → (lfirsts.l1 R x3 x4 I x1 x2 x5 x6 E fuel true (add IntKind.i64 x10 1))))))) ∧ (((ige (lget I (nat x10)) 0) = false) → (((x9 = false) → ((((ieq (lget I (nat x10)) (Go.Ord.fsA x3 x4)) = true) → ((((ieq (lget E (nat x10)) x4) = true) → (lfirsts.l1 R x3 x4 I x1 x2 x5 x6 E fuel (ine x4 0) (add IntKind.i64 x10 1))) ∧ (((ieq (lget E (nat x10)) x4) = false) → (lfirsts.l1 R x3 x4 I x1 x2 x5 x6 E fuel false (add IntKind.i64 x10 1))))) ∧ (((ieq (lget I (nat x10)) (Go.Ord.fsA x3 x4)) = false) → (lfirsts.l1 R x3 x4 I x1 x2 x5 x6 E fuel false (add IntKind.i64 x10 1))))) ∧ ((x9 = true) → (lfirsts.l1 R x3 x4 I x1 x2 x5 x6 E fuel true (add IntKind.i64 x10 1)))))))) ∧ (((ilt x10 (ofNat (llen I))) = false) → (((x9 = true) → ((((ieq (Go.Ord.fsA x1 x2) (Go.Ord.fsA x5 x6)) = true) → ((((ieq x2 x6) = true) → ((((ieq x4 0) = true) → ((Go.Ord.Two I E) ∧ (R (AV.one (AC.bool (beq2 (ieq x2 0) (Go.Ord.allZ E)))) [(3, Blk.own 25 [(Seg.cells [(AC.int IntKind.i64 x1)]), (Seg.cells [(AC.int IntKind.i64 x2)])]), (8, Blk.own 25 [(Seg.cells [(AC.int IntKind.i64 x5)]), (Seg.cells [(AC.int IntKind.i64 x6)])]), (200000, Blk.rview [(Col.ints IntKind.i64 I), (Col.ints IntKind.i64 E)])]))) ∧ (((ieq x4 0) = false) → (R (AV.one (AC.bool (beq2 (ieq x2 0) false))) [(3, Blk.own 25 [(Seg.cells [(AC.int IntKind.i64 x1)]), (Seg.cells [(AC.int IntKind.i64 x2)])]), (8, Blk.own 25 [(Seg.cells [(AC.int IntKind.i64 x5)]), (Seg.cells [(AC.int IntKind.i64 x6)])]), (200000, Blk.rview [(Col.ints IntKind.i64 I), (Col.ints IntKind.i64 E)])])))) ∧ (((ieq x2 x6) = false) → (R (AV.one (AC.lit false)) [(3, Blk.own 25 [(Seg.cells [(AC.int IntKind.i64 x1)]), (Seg.cells [(AC.int IntKind.i64 x2)])]), (8, Blk.own 25 [(Seg.cells [(AC.int IntKind.i64 x5)]), (Seg.cells [(AC.int IntKind.i64 x6)])]), (200000, Blk.rview [(Col.ints IntKind.i64 I), (Col.ints IntKind.i64 E)])])))) ∧ (((ieq (Go.Ord.fsA x1 x2) (Go.Ord.fsA x5 x6)) = false) → (R (AV.one (AC.lit false)) [(3, Blk.own 25 [(Seg.cells [(AC.int IntKind.i64 x1)]), (Seg.cells [(AC.int IntKind.i64 x2)])]), (8, Blk.own 25 [(Seg.cells [(AC.int IntKind.i64 x5)]), (Seg.cells [(AC.int IntKind.i64 x6)])]), (200000, Blk.rview [(Col.ints IntKind.i64 I), (Col.ints IntKind.i64 E)])])))) ∧ ((x9 = false) → (R (AV.one (AC.lit false)) [(3, Blk.own 25 [(Seg.cells [(AC.int IntKind.i64 x1)]), (Seg.cells [(AC.int IntKind.i64 x2)])]), (8, Blk.own 25 [(Seg.cells [(AC.int IntKind.i64 x5)]), (Seg.cells [(AC.int IntKind.i64 x6)])]), (200000, Blk.rview [(Col.ints IntKind.i64 I), (Col.ints IntKind.i64 E)])])))))) := by kernel_rfl
theorem lfirsts.l1_zero (R : AV → Mem → Prop) (x3 : Int) (x4 : Int) (I : List Int) (x1 : Int) (x2 : Int) (x5 : Int) (x6 : Int) (E : List Int) (x9 : Bool) (x10 : Int) : lfirsts.l1 R x3 x4 I x1 x2 x5 x6 E 0 x9 x10 = False := by kernel_rfl

theorem lfirsts.l0_succ (R : AV → Mem → Prop) (I : List Int) (E : List Int) (fuel : Nat) (x0 : Int) (x1 : Int) (x2 : Int) (x3 : Int) (x4 : Int) (x5 : Int) (x6 : Int) : lfirsts.l0 R I E (fuel + 1) x0 x1 x2 x3 x4 x5 x6 = (((((ilt x0 (ofNat (llen I))) = true) → ((InB x0 (llen I)) ∧ ((InB x0 (llen I)) ∧ ((InB x0 (llen I)) ∧ ((InB (sub IntKind.i64 (sub IntKind.i64 (ofNat (llen I)) 1) x0) (llen I)) ∧ (let y7 : Int := (Go.Ord.ntA x5 x6 (sub IntKind.i64 (sub IntKind.i64 (ofNat (llen I)) 1) x0) (lget E (nat (sub IntKind.i64 (sub IntKind.i64 (ofNat (llen I)) 1) x0)))); (let y8 : Int := (Go.Ord.ntE x5 x6 (sub IntKind.i64 (sub IntKind.i64 (ofNat (llen I)) 1) x0) (lget E (nat (sub IntKind.i64 (sub IntKind.i64 (ofNat (llen I)) 1) x0)))); (lfirsts.l0 R I E fuel (add IntKind.i64 x0 1) (Go.Ord.ntA x1 x2 x0 (lget E (nat x0))) (Go.Ord.ntE x1 x2 x0 (lget E (nat x0))) (Go.Ord.ntA x3 x4 (lget I (nat x0)) (lget E (nat x0))) (Go.Ord.ntE x3 x4 (lget I (nat x0)) (lget E (nat x0))) y7 y8)))))))) ∧ (((ilt x0 (ofNat (llen I))) = false) → ((((ieq (Go.Ord.fsA x3 x4) (-1 : Int)) = true) → (lfirsts.l1 R x3 x4 I x1 x2 x5 x6 E fuel (ieq x4 0) 0)) ∧ (((ieq (Go.Ord.fsA x3 x4) (-1 : Int)) = false) → (lfirsts.l1 R x3 x4 I x1 x2 x5 x6 E fuel false 0)))))) := by kernel_rfl
theorem lfirsts.l0_zero (R : AV → Mem → Prop) (I : List Int) (E : List Int) (x0 : Int) (x1 : Int) (x2 : Int) (x3 : Int) (x4 : Int) (x5 : Int) (x6 : Int) : lfirsts.l0 R I E 0 x0 x1 x2 x3 x4 x5 x6 = False := by kernel_rfl

theorem lfirsts_vc (R : AV → Mem → Prop) (fuel : Nat) (I : List Int) (E : List Int) : callsx Try.prog gamF1 [⟨12, [], true, false⟩] Try.f4 (fuel + 1) [.one (.vec 200000)] [(200000, .rview [.ints .i64 I, .ints .i64 E])] R = (((((ine (Go.Ord.fsA (Go.Ord.ntA 0 0 4 7) (Go.Ord.ntE 0 0 4 7)) 4) = false) → ((((ine (Go.Ord.ntE 0 0 4 7) 7) = true) → (R (AV.one (AC.lit false)) [(3, Blk.own 25 [(Seg.cells [(AC.int IntKind.i64 0)]), (Seg.cells [(AC.int IntKind.i64 0)])]), (4, Blk.own 25 [(Seg.cells [(AC.int IntKind.i64 (Go.Ord.ntA 0 0 4 7))]), (Seg.cells [(AC.int IntKind.i64 (Go.Ord.ntE 0 0 4 7))])]), (200000, Blk.rview [(Col.ints IntKind.i64 I), (Col.ints IntKind.i64 E)])])) ∧ (((ine (Go.Ord.ntE 0 0 4 7) 7) = false) → (lfirsts.l0 R I E fuel 0 0 0 0 0 0 0)))) ∧ (((ine (Go.Ord.fsA (Go.Ord.ntA 0 0 4 7) (Go.Ord.ntE 0 0 4 7)) 4) = true) → (R (AV.one (AC.lit false)) [(3, Blk.own 25 [(Seg.cells [(AC.int IntKind.i64 0)]), (Seg.cells [(AC.int IntKind.i64 0)])]), (4, Blk.own 25 [(Seg.cells [(AC.int IntKind.i64 (Go.Ord.ntA 0 0 4 7))]), (Seg.cells [(AC.int IntKind.i64 (Go.Ord.ntE 0 0 4 7))])]), (200000, Blk.rview [(Col.ints IntKind.i64 I), (Col.ints IntKind.i64 E)])])))) := by kernel_rfl

end Go.Proofs.Ytgobpelclchnfaa.G

/- The program draws the order of its regions. -/
namespace Go.Proofs.Ytgobpelclchnfaa.G
open Go Go.Sx
theorem mixed : Try.prog.follows .mixedOrders = true := by kernel_rfl
end Go.Proofs.Ytgobpelclchnfaa.G

/- Functions that work on a heap. -/
namespace Go.Sx
open Go
set_option linter.unusedSimpArgs false
set_option linter.unusedVariables false

/-- the arguments of a call that hands on its heap -/
inductive CanonH (σ : Mem) : Nat → List AV → List AV → Mem → Prop
  | nil (j : Nat) : CanonH σ j [] [] []
  | same {j : Nat} {x : AV} {xs ys : List AV} {τ : Mem} : (∀ m, x.refs m = true → isHeap m = true) → CanonH σ (j + 1) xs ys τ → CanonH σ j (x :: xs) (x :: ys) τ
  | row {j n : Nat} {xs ys : List AV} {τ : Mem} (cs : List Col) : Mem.cols σ n = some cs → CanonH σ (j + 1) xs ys τ → CanonH σ j (.one (.vec n) :: xs) (.one (.vec (200000 + j)) :: ys) ((200000 + j, .rview cs) :: τ)
  | glob {j g : Nat} {b : Blk} {xs ys : List AV} {τ : Mem} : Mem.find σ (gname g) = some b → (∀ m, segsRefs m b.segs = false) → CanonH σ j xs ys τ → CanonH σ j xs ys ((gname g, .view b.segs) :: τ)

def notHeap : Blk → Bool
  | .heap _ _ => false
  | _ => true

theorem canonH_sound {σ τ : Mem} {ρ : Rho} {w : World} (hm : MemRep ρ σ w) (hs : Sep ρ σ) : ∀ {j : Nat} {xs ys : List AV}, CanonH σ j xs ys τ → ∀ (vals : List Value), j + xs.length ≤ 1000 → xs.length = vals.length → (∀ (i : Nat) x v, xs[i]? = some x → vals[i]? = some v → SRep ρ x v) →
    ys.length = vals.length ∧ ∃ Ls : Nat → Loc, ∀ ρc : Rho, (∀ i, j ≤ i → i < j + xs.length → ρc (200000 + i) = Ls i) → (∀ g, ρc (gname g) = ρ (gname g)) → (∀ n, isHeap n = true → ρc n = ρ n) →
      (∀ (i : Nat) y v, ys[i]? = some y → vals[i]? = some v → SRep ρc y v) ∧ MemRep ρc τ w ∧ ∀ n b, Mem.find τ n = some b → isHeap n = false ∧ (∀ k, ¬ Out ρc n b k) ∧ ∀ k, Foot ρc n b k → ∃ m c, Mem.find σ m = some c ∧ notHeap c = true ∧ Foot ρ m c k := by
  intro j xs ys h
  induction h with
  | nil j => intro vals _ hl _; exact ⟨hl, fun _ => loc0, fun ρc _ _ _ => ⟨fun i y v hy => by simp at hy, fun n b hb => by simp [Mem.find] at hb, fun n b hb => by simp [Mem.find] at hb⟩⟩
  | @same j x xs ys τ hp _ ih =>
    intro vals hj hl hv
    cases vals with
    | nil => simp at hl
    | cons v vals =>
      obtain ⟨h1, Ls, h2⟩ := ih vals (by simp only [List.length_cons] at hj; omega) (by simpa using hl) (fun i x u hx hu => hv (i + 1) x u (by simpa using hx) (by simpa using hu))
      refine ⟨by simpa using h1, Ls, fun ρc hc hcg hch => ?_⟩
      obtain ⟨g1, g2⟩ := h2 ρc (fun i hi hlt => hc i (by omega) (by simp only [List.length_cons]; omega)) hcg hch
      refine ⟨fun i y u hy hu => ?_, g2⟩
      cases i with
      | zero => simp at hy hu; subst hy hu; exact (hv 0 x v rfl rfl).agree fun n hn => .of_eq (hch n (hp n hn))
      | succ i => exact g1 i y u (by simpa using hy) (by simpa using hu)
  | @row j n xs ys τ cs hcs _ ih =>
    intro vals hjl hl hv
    cases vals with
    | nil => simp at hl
    | cons v vals =>
      simp only [List.length_cons] at hjl
      obtain ⟨h1, Ls, h2⟩ := ih vals (by omega) (by simpa using hl) (fun i x u hx hu => hv (i + 1) x u (by simpa using hx) (by simpa using hu))
      have hR := reads_vec hm hs hcs (hv 0 _ v rfl rfl)
      obtain ⟨_, b0, hb0, hbb, hf⟩ := cols_sound hm hcs
      refine ⟨by simpa using h1, fun i => if i = j then ρ n else Ls i, fun ρc hc hcg hch => ?_⟩
      have hj : ρc (200000 + j) = ρ n := by have q := hc j (Nat.le_refl _) (by simp); simpa using q
      obtain ⟨g1, g2, g3⟩ := h2 ρc (fun i hi hlt => by rw [hc i (by omega) (by simp only [List.length_cons]; omega)]; show (if i = j then _ else Ls i) = Ls i; rw [if_neg (by omega)]) hcg hch
      refine ⟨fun i y u hy hu => ?_, fun m b hb => ?_, fun m b hb => ?_⟩
      · cases i with
        | zero =>
          simp at hy hu
          subst hy hu
          show v = _
          rw [hj]; exact hR.val
        | succ i => exact g1 i y u (by simpa using hy) (by simpa using hu)
      · simp only [Mem.find] at hb
        split at hb
        · rename_i e; subst e; cases hb
          exact ⟨by rw [hj]; exact hR.rep, by rw [hj]; exact hR.lnk.heaps hch⟩
        · exact g2 m b hb
      · simp only [Mem.find] at hb
        split at hb
        · rename_i e; subst e; cases hb
          refine ⟨isHeap_no (Or.inl (by omega)), fun k q => q, fun k hk => ⟨n, b0, hb0, by rcases hbb with rfl | rfl <;> rfl, hf k ?_⟩⟩
          have hk : FootL (ρc (200000 + j)) cs k := hk
          rw [hj] at hk; exact hk
        · exact g3 m b hb
  | @glob j g b xs ys τ hn hp _ ih =>
    intro vals hj hl hv
    obtain ⟨h1, Ls, h2⟩ := ih vals hj hl hv
    refine ⟨h1, Ls, fun ρc hc hcg hch => ?_⟩
    obtain ⟨g1, g2, g3⟩ := h2 ρc hc hcg hch
    refine ⟨g1, fun m b' hb => ?_, fun m b' hb => ?_⟩
    · simp only [Mem.find] at hb
      split at hb
      · rename_i e; subst e; cases hb
        obtain ⟨q1, q2⟩ := (hm (gname g) b hn).cells
        refine ⟨q1, fun i a ha => ?_⟩
        obtain ⟨u, hu1, hu2⟩ := q2 i a ha
        refine ⟨u, by simp only [at_, hcg]; exact hu1, hu2.agree fun m hm' => ?_⟩
        have := flat_refs' (List.any_eq_true.2 ⟨a, List.mem_of_getElem? ha, hm'⟩)
        rw [hp m] at this; cases this
      · exact g2 m b' hb
    · simp only [Mem.find] at hb
      split at hb
      · rename_i e; subst e; cases hb
        refine ⟨isHeap_gname g, fun k q => q, fun k hk => ⟨gname g, b, hn, ?_, ?_⟩⟩
        · obtain ⟨hne, _⟩ := hk
          cases b <;> first | rfl | exact absurd rfl hne
        · obtain ⟨hne, rfl⟩ := hk
          rw [hcg]
          cases b with
          | own T s => exact rfl
          | view s => exact ⟨hne, rfl⟩
          | vec cs => exact absurd rfl hne
          | rview cs => exact absurd rfl hne
          | heap q os => exact absurd rfl hne
      · exact g3 m b' hb

section
variable {P : Program} {Γ : Gam} {D : Hints}

/-- a function that works on a heap, and on nothing else of what was there -/
theorem Good.heap (hm : P.follows .mixedOrders = true) (hΓ : GoodG P Γ) {f : FuncId} {fn : Func} (hf : P.funcs[f]? = some fn) (hb : fn.body.isSome = true) {s : Spec} (hs : s.mods = true)
    (hsem : ∀ d args σ (K : AV → Mem → Prop), s.sem d args σ K → ∃ k os cargs τ τ', Mem.heap σ k = some os ∧ CanonH σ 0 args cargs τ ∧ args.length ≤ 1000 ∧ (∀ n, Mem.find τ' n = Mem.find ((hname k, .heap k os) :: τ) n) ∧ ∃ n, callsx P Γ D fn n cargs τ' fun av σ' => ∃ os' av', Mem.heap σ' k = some os' ∧ (∀ m, av'.refs m = true → m = hname k) ∧ (∀ ρ v, SRep ρ av v → SRep ρ av' v) ∧ K av' (σ.put (hname k) (.heap k os'))) : Good P f s := by
  refine ⟨fun d args σ K h ρ w vals hg hmem hsep hl hv hnew => ?_⟩
  obtain ⟨k, os, cargs, τ, τ', ho, hcan, hlen, hτ, n, hc⟩ := hsem d args σ K h
  obtain ⟨h1, Ls, h2⟩ := canonH_sound hmem hsep hcan vals.toList (by omega) (by simpa using hl) (fun i x v hx hu => hv i x v hx (by simpa using hu))
  generalize hρ0 : rhoC ρ Ls = ρc
  have hρc : ∀ i, 0 ≤ i → i < 0 + args.length → ρc (200000 + i) = Ls i := fun i _ hi => by rw [← hρ0, rhoC_arg (by omega)]
  have hgg : ∀ g, ρc (gname g) = ρ (gname g) := fun g => by rw [← hρ0]; exact rhoC_glob
  have hhh : ∀ n, isHeap n = true → ρc n = ρ n := fun n hn => by rw [← hρ0]; exact rhoC_heap hn
  obtain ⟨g1, g2, g3⟩ := h2 ρc hρc hgg hhh
  have hgc : Glob ρc := fun g => by rw [hgg]; exact hg g
  have hfd := heap_find ho
  have hhp := isHeap_hname k
  have hρk := hhh _ hhp
  obtain ⟨_, hH⟩ := hmem _ _ hfd
  have unf : ∀ {m b}, Mem.find τ' m = some b → (m = hname k ∧ b = .heap k os) ∨ (m ≠ hname k ∧ Mem.find τ m = some b) := by
    intro m b hb
    rw [hτ] at hb
    simp only [Mem.find] at hb
    split at hb
    · rename_i e; cases hb; exact Or.inl ⟨e.symm, rfl⟩
    · rename_i e; exact Or.inr ⟨Ne.symm e, hb⟩
  have hmemc : MemRep ρc τ' w := fun m b hb => by
    rcases unf hb with ⟨rfl, rfl⟩ | ⟨_, hb⟩
    · exact ⟨hhp, by rw [hρk]; exact hH⟩
    · exact g2 m b hb
  have hout : ∀ q, Out ρc (hname k) (.heap k os) q → HFoot (ρ (hname k)) q := fun q hq => by simpa only [Out, hρk] using hq
  have hsepc : Sep ρc τ' := by
    refine ⟨fun m m' b c q hb hc hne hO hF => ?_, fun m b q hb hO hI => ?_⟩
    · rcases unf hb with ⟨rfl, rfl⟩ | ⟨_, hb⟩
      · rcases unf hc with ⟨rfl, rfl⟩ | ⟨_, hc⟩
        · exact hne rfl
        · obtain ⟨m0, c0, h0, h0h, h0f⟩ := (g3 m' c hc).2.2 q hF
          exact hsep.1 _ m0 _ c0 q hfd h0 (fun e => by subst e; rw [hfd] at h0; cases h0; cases h0h) (hout q hO) h0f
      · exact (g3 m b hb).2.1 q hO
    · rcases unf hb with ⟨rfl, rfl⟩ | ⟨_, hb⟩
      · exact hI
      · exact (g3 m b hb).2.1 q hO
  refine (callsx_sound hm hΓ hf hb hc (ex := fun q => HFoot (ρ (hname k)) q) hgc (by simpa using h1) (fun i y v hy hu => g1 i y v hy (by simpa using hu)) hmemc hsepc (fun m b q hn hO => by
    rcases unf hn with ⟨rfl, rfl⟩ | ⟨_, hb⟩
    · exact Or.inr (hout q hO)
    · exact absurd hO ((g3 m b hb).2.1 q))).mono ?_
  rintro e w' ⟨v, av, σ'', ρ'', rfl, ⟨os', av', ho', hrefs, hav, hK⟩, hsr, hmem'', hsep'', hfix, hext, hown, hk⟩
  have hfd' := heap_find ho'
  obtain ⟨_, hH'⟩ := hmem'' _ _ hfd'
  let E : Env := ⟨w, ρ, OwnAt ρ σ, hg⟩
  let a : Act := { tmps := #[], defers := [] }
  have hk' : Keeps (OwnAt ρ σ) w w' := ⟨hk.os, hk.tape, hk.output, hk.size, fun q hq hx => hk.block q hq fun hF => hx ⟨hname k, _, hfd, hF⟩⟩
  have hR : Rep E ρ [] σ a w := ⟨⟨rfl, fun t v ht => by simp [a] at ht⟩, rfl, hmem, hsep, fun _ _ _ => rfl, fun _ _ => .refl _, fun n b q hn hO => Or.inr ⟨n, b, hn, hO⟩, Keeps.refl _ _⟩
  have hx : HExt (ρ (hname k)) (ρ'' (hname k)) := by have := hext _ hhp; rw [hρk] at this; exact this
  have grown := heap_grow (L' := ρ'' (hname k)) hR hhp hfd hx hH' hk' (fun m c q hm hmh hF => hk.block q (in_range (hmem m c hm) hF) fun hq => hsep.1 _ m _ c q hfd hm (Ne.symm hmh) hq hF) (fun q hq => by
    rcases hown _ _ q hfd' hq with h | h
    · exact Or.inr ⟨Or.inl h, fun m c hm _ hF => by have := in_range (hmem m c hm) hF; omega⟩
    · exact Or.inl h)
  refine ⟨v, av', _, _, rfl, hK, (hav _ _ hsr).agree fun m hm => ?_, grown.mem, grown.sep, fun m hm _ => upd_ne fun q => (by subst q; rw [hhp] at hm; cases hm), fun m _ => ext_upd hx m, fun m b q hm hO => ?_, hk', fun q => by rw [hs] at q; cases q⟩
  · have e := hrefs m hm
    subst e; rw [upd_eq]; exact .refl _
  · rcases grown.own m b q hm hO with h | h
    · exact Or.inr h
    · exact Or.inl h
end
end Go.Sx

/- Slices that share no memory, grown by turns: the plain law. -/
namespace Go.Sx
open Go
set_option linter.unusedSimpArgs false
set_option linter.unusedVariables false

def tot (c : Nat → Nat) : Nat → Nat → Nat
  | _, 0 => 0
  | i, m + 1 => c i + tot c (i + 1) m

theorem loop_inv {S : Type} (L : Nat → Int → S → Prop) (n : Nat) (Inv : Nat → S → Prop) (c : Nat → Nat) (f0 : Nat) (hs : ∀ g i s, i < n → Inv i s → (∀ s', Inv (i + 1) s' → L g ((i + 1 : Nat) : Int) s') → L (g + c i) (i : Int) s) (he : ∀ s, Inv n s → L f0 (n : Int) s) :
    ∀ m i s, i + m = n → Inv i s → L (f0 + tot c i m) (i : Int) s
  | 0, i, s, h, hi => by
    obtain rfl : i = n := by omega
    exact he s hi
  | m + 1, i, s, h, hi => by
    have := hs (f0 + tot c (i + 1) m) i s (by omega) hi fun s' h' => loop_inv L n Inv c f0 hs he m (i + 1) s' (by omega) h'
    rw [show f0 + tot c i (m + 1) = f0 + tot c (i + 1) m + c i by simp only [tot]; omega]
    exact this

theorem loop_inv_ex {S : Type} (L : Nat → Int → S → Prop) (n : Nat) (Inv : Nat → S → Prop) (c : Nat → Nat) (f0 : Nat) (hs : ∀ g i s, i < n → Inv i s → (∀ s', Inv (i + 1) s' → L g ((i + 1 : Nat) : Int) s') → L (g + c i) (i : Int) s) (he : ∀ s, Inv n s → L f0 (n : Int) s) :
    ∃ F, ∀ s, Inv 0 s → L F 0 s := ⟨f0 + tot c 0 n, fun s h => loop_inv L n Inv c f0 hs he n 0 s (by omega) h⟩

/-- slices grown by turns: how far each has come -/
structure Grown (ls : List HS) (c : Nat → Nat) (gs : List HS) (H : List (List Int)) : Prop where
  len : gs.length = ls.length
  z : llget H 0 = []
  own : ∀ k, k < ls.length → (hget gs k).j < H.length ∧ (hget gs k).len = (hget ls k).len + c k ∧ (hget gs k).off + (hget gs k).len ≤ (llget H (hget gs k).j).length ∧ ∀ t, t < (hget gs k).len → lget (llget H (hget gs k).j) ((hget gs k).off + t) = if t < (hget ls k).len then (k : Int) else 100 + (k : Int)
  old : ∀ k, k < ls.length → (hget ls k).j < H.length ∧ (hget ls k).off + (hget ls k).len ≤ (llget H (hget ls k).j).length ∧ ∀ t, t < (hget ls k).len → lget (llget H (hget ls k).j) ((hget ls k).off + t) = (k : Int)
  same : ∀ k, k < ls.length → (hget gs k).j = (hget ls k).j → (hget gs k).off = (hget ls k).off ∨ (hget gs k).j = 0
  ne : ∀ k k', k < ls.length → k' < ls.length → k ≠ k' → ((hget gs k).j = (hget gs k').j → (hget gs k).j = 0) ∧ ((hget gs k).j = (hget ls k').j → (hget gs k).j = 0)

theorem hget_set (l : List HS) (i i' : Nat) (v : HS) (hi : i < l.length) : hget (hset l i v) i' = if i' = i then v else hget l i' := by
  simp only [hget, hset, List.getD, List.getElem?_set]
  by_cases h : i = i'
  · subst h; simp [hi]
  · simp [h, Ne.symm h]
theorem lget_lput (l v : List Int) (p t : Nat) (h : p ≤ l.length) : lget (lput l p v) t = if p ≤ t ∧ t < p + v.length then lget v (t - p) else lget l t := by
  simp only [lget, List.getD]
  rw [lput_get2 _ _ _ _ h]
  split <;> rfl
theorem llget_app (H : List (List Int)) (x : List Int) (q : Nat) : llget (H ++ [x]) q = if q < H.length then llget H q else if q = H.length then x else [] := by
  simp only [llget, List.getD, List.getElem?_append]
  by_cases h : q < H.length
  · rw [if_pos h, if_pos h]
  · rw [if_neg h, if_neg h]
    by_cases e : q = H.length
    · rw [if_pos e, e, Nat.sub_self]; rfl
    · rw [if_neg e, List.getElem?_eq_none (by simp; omega)]; rfl
theorem lget_app (a b : List Int) (t : Nat) : lget (a ++ b) t = if t < a.length then lget a t else lget b (t - a.length) := lget_cat a b t
theorem lget_sub (l : List Int) (o n t : Nat) (h : t < n) : lget (lsub l o n) t = lget l (o + t) := by
  simp only [lget, lsub, List.getD, List.getElem?_take, if_pos h, List.getElem?_drop]

theorem grown_step {ls gs H H' : _} {c : Nat → Nat} {k j' off' : Nat} (h : Grown ls c gs H) (hk : k < ls.length) (hA : AppR H (hget gs k).j (hget gs k).off (hget gs k).len [100 + (k : Int)] H' j' off') :
    Grown ls (fun i => if i = k then c k + 1 else c i) (hset gs k ⟨j', off', (hget gs k).len + 1⟩) H' := by
  obtain ⟨o1, o2, o3, o4⟩ := h.own k hk
  have hkg : k < gs.length := by rw [h.len]; exact hk
  cases hA with
  | here hj0 =>
    have hj0 := hj0 (by simp)
    have obj : ∀ q, llget (llset H (hget gs k).j (lput (llget H (hget gs k).j) ((hget gs k).off + (hget gs k).len) [100 + (k : Int)])) q = if q = (hget gs k).j then lput (llget H (hget gs k).j) ((hget gs k).off + (hget gs k).len) [100 + (k : Int)] else llget H q := fun q => llset_get _ _ _ _ o1
    have hl : ∀ q, (llget H q).length ≤ (llget (llset H (hget gs k).j (lput (llget H (hget gs k).j) ((hget gs k).off + (hget gs k).len) [100 + (k : Int)])) q).length := fun q => by
      rw [obj]; split
      · rename_i e; rw [e, lput_len2 _ _ _ o3]; omega
      · exact Nat.le_refl _
    have low : ∀ t, t < (hget gs k).off + (hget gs k).len → lget (lput (llget H (hget gs k).j) ((hget gs k).off + (hget gs k).len) [100 + (k : Int)]) t = lget (llget H (hget gs k).j) t := fun t ht => by
      rw [lget_lput _ _ _ _ o3, if_neg (by omega)]
    refine ⟨by simp [hset, h.len], ?_, fun i hi => ?_, fun i hi => ?_, fun i hi => ?_, fun i i' hi hi' hii => ?_⟩
    · rw [obj, if_neg (Ne.symm hj0)]; exact h.z
    · rw [hget_set _ _ _ _ hkg]
      by_cases e : i = k
      · subst e
        simp only [if_true]
        refine ⟨by simpa [llset] using o1, by omega, ?_, fun t ht => ?_⟩
        · rw [obj, if_pos rfl, lput_len2 _ _ _ o3]; simp; omega
        · rw [obj, if_pos rfl]
          by_cases ht' : t < (hget gs i).len
          · rw [low _ (by omega)]; exact o4 t ht'
          · obtain rfl : t = (hget gs i).len := by omega
            rw [lget_lput _ _ _ _ o3, if_pos (by simp), Nat.sub_self, if_neg (by omega)]; rfl
      · simp only [if_neg e]
        obtain ⟨p1, p2, p3, p4⟩ := h.own i hi
        have hd : (hget gs i).j ≠ (hget gs k).j := fun q => hj0 (by have := (h.ne k i hk hi (Ne.symm e)).1 q.symm; exact this)
        refine ⟨by simpa [llset] using p1, p2, Nat.le_trans p3 (hl _), fun t ht => ?_⟩
        rw [obj, if_neg hd]; exact p4 t ht
    · obtain ⟨p1, p2, p3⟩ := h.old i hi
      refine ⟨by simpa [llset] using p1, Nat.le_trans p2 (hl _), fun t ht => ?_⟩
      rw [obj]
      split
      · rename_i e
        by_cases hik : i = k
        · subst hik
          rcases h.same i hi e.symm with q | q
          · rw [low _ (by omega), ← e]; exact p3 t ht
          · exact absurd q hj0
        · exact absurd ((h.ne k i hk hi (Ne.symm hik)).2 e.symm) hj0
      · exact p3 t ht
    · rw [hget_set _ _ _ _ hkg]
      by_cases e : i = k
      · subst e; simp only [if_true]; exact h.same i hi
      · simp only [if_neg e]; exact h.same i hi
    · rw [hget_set _ _ _ _ hkg, hget_set _ _ _ _ hkg]
      by_cases e : i = k
      · subst e
        rw [if_pos rfl, if_neg (Ne.symm hii)]
        exact h.ne i i' hi hi' hii
      · rw [if_neg e]
        by_cases e' : i' = k
        · subst e'; rw [if_pos rfl]; exact h.ne i i' hi hi' hii
        · rw [if_neg e']; exact h.ne i i' hi hi' hii
  | new =>
    have obj : ∀ q, q < H.length → llget (H ++ [lsub (llget H (hget gs k).j) (hget gs k).off (hget gs k).len ++ [100 + (k : Int)]]) q = llget H q := fun q hq => by rw [llget_app, if_pos hq]
    have top : llget (H ++ [lsub (llget H (hget gs k).j) (hget gs k).off (hget gs k).len ++ [100 + (k : Int)]]) H.length = lsub (llget H (hget gs k).j) (hget gs k).off (hget gs k).len ++ [100 + (k : Int)] := by rw [llget_app, if_neg (by omega), if_pos rfl]
    have hsl : (lsub (llget H (hget gs k).j) (hget gs k).off (hget gs k).len).length = (hget gs k).len := lsub_len _ _ _ o3
    refine ⟨by simp [hset, h.len], ?_, fun i hi => ?_, fun i hi => ?_, fun i hi => ?_, fun i i' hi hi' hii => ?_⟩
    · rw [obj _ (by omega)]; exact h.z
    · rw [hget_set _ _ _ _ hkg]
      by_cases e : i = k
      · subst e
        simp only [if_true]
        refine ⟨by simp, by omega, ?_, fun t ht => ?_⟩
        · rw [top, List.length_append, hsl]; simp
        · rw [top, Nat.zero_add, lget_app, hsl]
          by_cases ht' : t < (hget gs i).len
          · rw [if_pos ht', lget_sub _ _ _ _ ht']; exact o4 t ht'
          · obtain rfl : t = (hget gs i).len := by omega
            rw [if_neg ht', if_neg (by omega), Nat.sub_self]; rfl
      · simp only [if_neg e]
        obtain ⟨p1, p2, p3, p4⟩ := h.own i hi
        refine ⟨by simp; omega, p2, by rw [obj _ p1]; exact p3, fun t ht => by rw [obj _ p1]; exact p4 t ht⟩
    · obtain ⟨p1, p2, p3⟩ := h.old i hi
      exact ⟨by simp; omega, by rw [obj _ p1]; exact p2, fun t ht => by rw [obj _ p1]; exact p3 t ht⟩
    · rw [hget_set _ _ _ _ hkg]
      by_cases e : i = k
      · subst e; simp only [if_true]
        intro q
        have := (h.old i hi).1
        omega
      · simp only [if_neg e]; exact h.same i hi
    · rw [hget_set _ _ _ _ hkg, hget_set _ _ _ _ hkg]
      by_cases e : i = k
      · subst e
        rw [if_pos rfl, if_neg (Ne.symm hii)]
        have q1 := (h.own i' hi').1
        have q2 := (h.old i' hi').1
        exact ⟨fun q => by simp only at q; omega, fun q => by simp only at q; omega⟩
      · rw [if_neg e]
        by_cases e' : i' = k
        · subst e'; rw [if_pos rfl]
          have q1 := (h.own i hi).1
          exact ⟨fun q => by simp only at q; omega, (h.ne i i' hi hi' hii).2⟩
        · rw [if_neg e']; exact h.ne i i' hi hi' hii
end Go.Sx

/- The first error: program and document. -/
namespace Go.Proofs.Ytgobpelclchnfaa.G
open Go Go.Sx Go.Ord
set_option linter.unusedSimpArgs false
set_option linter.unusedVariables false
abbrev Yes : AV → Mem → Prop := fun av _ => av = .one (.bool true) ∨ av = .one (.lit true)
theorem ine_self (a : Int) : ine a a = false := by simp [ine]
theorem own_at {T : TypeId} {g : List Seg} : Mem.find [(200000, Blk.own T g)] 200000 = some (.own T g) := rfl
theorem refs_two (a e : Int) (m : Nat) : segsRefs m [.cells [.int .i64 a], .cells [.int .i64 e]] = false := rfl
theorem good_note : Sx.Good Try.prog 7 noteS := by
  refine Sx.Good.own (D := []) mixed (good0 _) Try.func7 (by kernel_rfl) rfl fun d args σ K h => ?_
  simp only [noteS] at h
  split at h <;> try exact h.elim
  · rename_i n i x
    split at h <;> try exact h.elim
    rename_i a e hn
    refine Or.inl ⟨n, _, _, _, rfl, by simp [plain_int], hn, refs_two a e, 0 + 1, ?_⟩
    rw [onote_vc]
    have yes : skip a e i x = true → ∃ g' av', Mem.find [(200000, Blk.own 25 [.cells [.int .i64 a], .cells [.int .i64 e]])] 200000 = some (.own 25 g') ∧ (∀ m, segsRefs m g' = false) ∧ slen g' = slen [Seg.cells [.int .i64 a], .cells [.int .i64 e]] ∧ plainAV av' ∧ (∀ ρ v, SRep ρ (.tup []) v → SRep ρ av' v) ∧ K av' (σ.put n (.own 25 g')) := fun q => by
      rw [ntA, ntE, if_pos q, if_pos q] at h
      exact ⟨_, .tup [], rfl, refs_two a e, rfl, fun _ => rfl, fun _ _ q => q, h⟩
    have no : ¬ skip a e i x = true → ∃ g' av', Mem.find [(200000, Blk.own 25 [.cells [.int .i64 i], .cells [.int .i64 x]])] 200000 = some (.own 25 g') ∧ (∀ m, segsRefs m g' = false) ∧ slen g' = slen [Seg.cells [.int .i64 a], .cells [.int .i64 e]] ∧ plainAV av' ∧ (∀ ρ v, SRep ρ (.tup []) v → SRep ρ av' v) ∧ K av' (σ.put n (.own 25 g')) := fun q => by
      rw [ntA, ntE, if_neg q, if_neg q] at h
      exact ⟨_, .tup [], rfl, refs_two i x, rfl, fun _ => rfl, fun _ _ q => q, h⟩
    refine ⟨fun q1 => ⟨fun q2 => ⟨fun q3 => ⟨fun q4 => yes (skip_iff.2 ?_), fun q4 => no fun c => ?_⟩, fun q3 => no fun c => ?_⟩, fun q2 => yes (skip_iff.2 ?_)⟩, fun q1 => yes (skip_iff.2 ?_)⟩
    · rw [ine_true] at q3; rw [ile_true] at q4; exact Or.inr (Or.inr ⟨q3, q4⟩)
    · rw [ilt_false] at q1; rw [ieq_false] at q2; rw [ile_false] at q4
      rcases skip_iff.1 c with c | c | c
      · omega
      · exact q2 c
      · omega
    · rw [ilt_false] at q1; rw [ieq_false] at q2; rw [ine_false] at q3
      rcases skip_iff.1 c with c | c | c
      · omega
      · exact q2 c
      · exact c.1 q3
    · rw [ieq_true] at q2; exact Or.inr (Or.inl q2)
    · rw [ilt_true] at q1; exact Or.inl q1
  · rename_i i x
    refine Or.inr ⟨by simp [plain_int, plainAV, AV.refs, AC.refs], .tup [], fun _ => rfl, h, 0 + 1, ?_⟩
    rw [onoteN_vc]
    exact fun _ _ q => q
theorem good_first : Sx.Good Try.prog 8 firstS := by
  refine Sx.Good.reads (D := []) mixed (good0 _) Try.func8 (by kernel_rfl) rfl fun d args σ K h => ?_
  simp only [firstS] at h
  split at h <;> try exact h.elim
  · rename_i n
    split at h <;> try exact h.elim
    rename_i a e hn
    refine ⟨[.one (.ptr 200000 0 0)], [(200000, .view [.cells [.int .i64 a], .cells [.int .i64 e]])], .ptr hn (refs_two a e) (.nil _), by simp, 0 + 1, ?_⟩
    rw [ofirst_vc]
    have res : ∀ {p q : Int}, fsA a e = p → e = q → Res d firstS.news σ K (.tup [.c (.int .i64 p), .c (.int .i64 q)]) [(200000, .view [.cells [.int .i64 a], .cells [.int .i64 e]])] := fun h1 h2 => by
      subst h1 h2
      exact res_plain (av' := .tup [.c (.int .i64 (fsA a e)), .c (.int .i64 e)]) ((PlainT.int rfl (.int rfl .nil)).res) h
    refine ⟨fun q => ?_, fun q => ?_⟩
    · rw [ieq_true] at q
      exact res (by unfold fsA; rw [if_pos q]) q
    · rw [ieq_false] at q
      exact res (by unfold fsA; rw [if_neg q]) rfl
  · refine ⟨[.one (.con (.pointer none))], [], .plain (by simp [plainAV, AV.refs, AC.refs]) (.nil _), by simp, 0 + 1, ?_⟩
    rw [ofirstN_vc]
    exact res_plain (av' := .tup [.c (.int .i64 (-1)), .c (.int .i64 0)]) ((PlainT.int rfl (.int rfl .nil)).res) h
theorem good_rfirst : Sx.Good Try.prog 9 rfirstS := by
  refine Sx.Good.reads (D := [⟨777776, [], true, false⟩]) mixed (good0 _) Try.func9 (by kernel_rfl) rfl fun d args σ K h => ?_
  simp only [rfirstS] at h
  split at h <;> try exact h.elim
  obtain ⟨I, E, ⟨hT, hK⟩, hr⟩ := rd2_row h
  have hl := hT.len
  have hs := hT.short
  refine ⟨[.one (.vec 200000)], [(200000, .rview [.ints .i64 I, .ints .i64 E])], .row [.ints .i64, .ints .i64] _ hr (by decide) (.nil _), by simp, (1 + 1 * (I.length - 0)) + 1, ?_⟩
  rw [orfirst_vc]
  refine loop_n (fun f (i : Int) (r : Int × Int) => orfirst.l0 (Res d rfirstS.news σ K) I E f r.1 r.2 i) I.length (fun i => rfS I E i) 1 1 (fun g i hi hg => ?_) ?_ 0 (Nat.zero_le _)
  · have hi2 : InB (i : Int) (llen I) := ⟨by omega, by rw [llen]; omega⟩
    have a1 : add .i64 (i : Int) 1 = ((i + 1 : Nat) : Int) := add1_i64 (by omega)
    show orfirst.l0 (Res d rfirstS.news σ K) I E (g + 1) (rfS I E i).1 (rfS I E i).2 (i : Int)
    rw [orfirst.l0_succ, a1]
    simp only [nat_cast]
    have yes : 0 ≤ lget I i → lget E i ≠ 0 → ((rfS I E i).1 < 0 ∨ lget I i < (rfS I E i).1) → orfirst.l0 (Res d rfirstS.news σ K) I E g (lget I i) (lget E i) ((i + 1 : Nat) : Int) := fun h1 h2 h3 => by
      have : rfS I E (i + 1) = (lget I i, lget E i) := if_pos ⟨h1, h2, h3⟩
      have hg := hg
      rw [this] at hg
      exact hg
    have no : ¬ (0 ≤ lget I i ∧ lget E i ≠ 0 ∧ ((rfS I E i).1 < 0 ∨ lget I i < (rfS I E i).1)) → orfirst.l0 (Res d rfirstS.news σ K) I E g (rfS I E i).1 (rfS I E i).2 ((i + 1 : Nat) : Int) := fun h1 => by
      have : rfS I E (i + 1) = rfS I E i := if_neg h1
      have hg := hg
      rw [this] at hg
      exact hg
    refine ⟨fun _ => ⟨hi2, fun q1 => ⟨hi2, fun q2 => ⟨fun q3 => ⟨hi2, fun q4 => ⟨hi2, hi2, yes ?_ ?_ ?_⟩, fun q4 => no fun c => ?_⟩, fun q3 => ⟨hi2, hi2, yes ?_ ?_ ?_⟩⟩, fun q2 => no fun c => ?_⟩, fun q1 => no fun c => ?_⟩, fun q => ?_⟩
    · rw [ige_true] at q1; exact q1
    · rw [ine_true] at q2; exact q2
    · rw [ilt_true] at q4; exact Or.inr q4
    · rw [ilt_false] at q3 q4; omega
    · rw [ige_true] at q1; exact q1
    · rw [ine_true] at q2; exact q2
    · rw [ilt_true] at q3; exact Or.inl q3
    · rw [ine_false] at q2; exact c.2.1 q2
    · rw [ige_false] at q1; omega
    · rw [ilt_false] at q; simp only [ofNat_def, llen] at q; omega
  · show orfirst.l0 (Res d rfirstS.news σ K) I E 1 (rfS I E I.length).1 (rfS I E I.length).2 (I.length : Int)
    rw [orfirst.l0_succ]
    refine ⟨fun q => ?_, fun _ => ?_⟩
    · rw [ilt_true] at q; simp only [ofNat_def, llen] at q; omega
    · exact res_plain (av' := .tup [.c (.int .i64 (rfA I E)), .c (.int .i64 (rfE I E))]) ((PlainT.int rfl (.int rfl .nil)).res) hK
theorem good_below : Sx.Good Try.prog 10 belowS := by
  refine Sx.Good.reads (D := []) mixed (good0 _) Try.func10 (by kernel_rfl) rfl fun d args σ K h => ?_
  simp only [belowS] at h
  split at h <;> try exact h.elim
  obtain ⟨I, E, ⟨hT, hK⟩, hr⟩ := rd2_row h
  have hl := hT.len
  have hs := hT.short
  refine ⟨[.one (.vec 200000)], [(200000, .rview [.ints .i64 I, .ints .i64 E])], .row [.ints .i64, .ints .i64] _ hr (by decide) (.nil _), by simp, ?_⟩
  have key : ∀ n i, I.length - i = n → i ≤ I.length → (∀ j, j < i → lget E j = 0) → ∃ f, obelow.l0 (Res d belowS.news σ K) I E f (i : Int) := by
    intro n
    induction n with
    | zero =>
      intro i hn hi hp
      refine ⟨0 + 1, ?_⟩
      rw [obelow.l0_succ]
      refine ⟨fun q => ?_, fun _ => res_lit ?_ hK⟩
      · rw [ilt_true, ofNat_def, llen_def] at q; omega
      · exact (allZ_iff.2 fun k hk => hp k (by omega)).symm
    | succ n ih =>
      intro i hn hi hp
      by_cases e : lget E i = 0
      · obtain ⟨f, hf⟩ := ih (i + 1) (by omega) (by omega) (fun j hj => by
          by_cases c : j = i
          · rw [c]; exact e
          · exact hp j (by omega))
        refine ⟨f + 1, ?_⟩
        rw [obelow.l0_succ, add1_i64 (by omega), nat_cast]
        refine ⟨fun _ => ⟨⟨by omega, by rw [llen_def]; omega⟩, fun q => ?_, fun _ => hf⟩, fun q => ?_⟩
        · rw [ine_true] at q; exact absurd e q
        · rw [ilt_false, ofNat_def, llen_def] at q; omega
      · refine ⟨0 + 1, ?_⟩
        rw [obelow.l0_succ, nat_cast]
        refine ⟨fun _ => ⟨⟨by omega, by rw [llen_def]; omega⟩, fun _ => res_lit ?_ hK, fun q => ?_⟩, fun q => ?_⟩
        · symm
          cases c : allZ E with
          | false => rfl
          | true => exact absurd (allZ_iff.1 c i (by omega)) e
        · rw [ine_false] at q; exact absurd q e
        · rw [ilt_false, ofNat_def, llen_def] at q; omega
  obtain ⟨f, hf⟩ := key I.length 0 (by omega) (Nat.zero_le _) (fun j hj => by omega)
  exact ⟨f + 1, by rw [obelow_vc]; exact hf⟩
theorem gamF1_good : GoodG Try.prog gamF1 := by
  refine ((((good0 _).ext good_note ?_).ext good_first ?_).ext good_rfirst ?_).ext good_below ?_
  · exact ⟨_, Try.func7, by decide, by kernel_rfl⟩
  · exact ⟨_, Try.func8, by decide, by kernel_rfl⟩
  · exact ⟨_, Try.func9, by decide, by kernel_rfl⟩
  · exact ⟨_, Try.func10, by decide, by kernel_rfl⟩
theorem orderNotes_plain {I E : List Int} (hT : Two I E) : ∃ n, Has (callsx Try.prog gamF1 [⟨8, [.ints .i64, .ints .i64], true, false⟩] Try.f3 n [.one (.vec 200000)] [(200000, .rview [.ints .i64 I, .ints .i64 E])] Yes) := by
  have hl := hT.len
  have hs := hT.short
  obtain ⟨F, h⟩ := loop_inv_ex (fun f i (s : Int × Int × List Int × List Int) => lnotes.l0 Yes I E f i s.1 s.2.1 s.2.2.1 s.2.2.2) I.length (fun i s => FS s.1 s.2.1 (rfS I E i) ∧ s.2.2.1 = I.take i ∧ s.2.2.2 = E.take i) (fun _ => 1) 1 (fun g i s hi hI hnext => by
    obtain ⟨a, e, x3, x4⟩ := s
    obtain ⟨h1, rfl, rfl⟩ := hI
    have a1 : add .i64 (i : Int) 1 = ((i + 1 : Nat) : Int) := add1_i64 (by omega)
    have hstep : FS (ntA a e (lget I i) (lget E i)) (ntE a e (lget I i) (lget E i)) (rfS I E (i + 1)) := by
      rw [rfS_F, show rfF (lget I) (lget E) (i + 1) = rfT (rfF (lget I) (lget E) i) (lget I i) (lget E i) from rfl, ← rfS_F]
      exact h1.step _ _
    show lnotes.l0 Yes I E (g + 1) (i : Int) a e (I.take i) (E.take i)
    rw [lnotes.l0_succ]
    simp only [nat_cast, a1, take_more I i hi, take_more E i (by omega)]
    have hlen : (I.take (i + 1)).length = i + 1 := by simp; omega
    have eA : rfA (I.take (i + 1)) (E.take (i + 1)) = (rfS I E (i + 1)).1 := by unfold rfA; rw [hlen, rfS_take _ _ _ _ (Nat.le_refl _)]
    have eE : rfE (I.take (i + 1)) (E.take (i + 1)) = (rfS I E (i + 1)).2 := by unfold rfE; rw [hlen, rfS_take _ _ _ _ (Nat.le_refl _)]
    refine ⟨fun _ => ⟨⟨by omega, by rw [llen]; omega⟩, ⟨?_⟩, ⟨by simp; omega, by omega⟩, ?_⟩, fun q => ?_⟩
    · show (5 * ((I.take i).length + 1) + 4096) * 16 ≤ _
      simp only [List.length_take]; omega
    · rw [eA, eE, hstep.fst, ← hstep.snd, ine_self, ine_self]
      exact ⟨fun _ => ⟨fun q => (by cases q), fun _ => hnext (_, _, _, _) ⟨hstep, rfl, rfl⟩⟩, fun q => (by cases q)⟩
    · rw [ilt_false] at q; simp only [ofNat_def, llen] at q; omega) (fun s hI => by
    obtain ⟨a, e, x3, x4⟩ := s
    show lnotes.l0 Yes I E (0 + 1) (I.length : Int) a e x3 x4
    rw [lnotes.l0_succ]
    refine ⟨fun q => ?_, fun _ => ⟨fun _ => Or.inl rfl, fun q => (by cases q)⟩⟩
    rw [ilt_true] at q; simp only [ofNat_def, llen] at q; omega)
  refine ⟨F + 1, ⟨?_⟩⟩
  rw [lnotes_vc]
  refine ⟨fun _ => ⟨fun q => absurd q (by decide), fun _ => h (0, 0, [], []) ⟨FS.zero, rfl, rfl⟩⟩, fun q => absurd q (by decide)⟩

set_option maxHeartbeats 1000000 in
theorem orderFirsts_plain {I E : List Int} (hT : Two I E) : ∃ n, Has (callsx Try.prog gamF1 [⟨12, [], true, false⟩] Try.f4 n [.one (.vec 200000)] [(200000, .rview [.ints .i64 I, .ints .i64 E])] Yes) := by
  have hl := hT.len
  have hs := hT.short
  generalize hN : I.length = N at *
  -- the three first ones
  have cA := rfF_is (lget I) (lget E) N
  have cF := rfF_is (fun k => (k : Int)) (lget E) N
  have cB := rfF_is (fun k => ((N - 1 - k : Nat) : Int)) (fun k => lget E (N - 1 - k)) N
  generalize hA : rfF (lget I) (lget E) N = rA at cA
  generalize hF : rfF (fun k => (k : Int)) (lget E) N = rF at cF
  generalize hB : rfF (fun k => ((N - 1 - k : Nat) : Int)) (fun k => lget E (N - 1 - k)) N = rB at cB
  have hFB : rF = rB := by
    rcases cF with ⟨f1, f2⟩ | ⟨k, f1, f2, f3, f4, f5⟩
    · rcases cB with ⟨b1, b2⟩ | ⟨j, b1, b2, b3, b4, b5⟩
      · rw [f1, b1]
      · exact absurd (f2 (N - 1 - j) (by omega) (by omega)) b3
    · rcases cB with ⟨b1, b2⟩ | ⟨j, b1, b2, b3, b4, b5⟩
      · have := b2 (N - 1 - k) (by omega) (by omega)
        rw [show N - 1 - (N - 1 - k) = k by omega] at this
        exact absurd this f3
      · have h1 := f5 (N - 1 - j) (by omega) (by omega) b3
        have h2 := b5 (N - 1 - k) (by omega) (by omega) (by rw [show N - 1 - (N - 1 - k) = k by omega]; exact f3)
        have e : k = N - 1 - j := by omega
        rw [f4, b4, e]
  -- the second loop
  have second : ∀ a e f1 f2 b1 b2, FS a e rA → FS f1 f2 rF → FS b1 b2 rB → ∀ x9, (x9 = true ∨ (e ≠ 0 ∧ ∃ k, 0 ≤ k ∧ k < N ∧ lget I k = fsA a e ∧ lget E k = e)) → lfirsts.l1 Yes a e I f1 f2 b1 b2 E (1 + tot (fun _ => 1) 0 N) x9 0 := by
    intro a e f1 f2 b1 b2 hfa hff hfb
    have hA1 := hfa.fst
    have hA2 := hfa.snd
    intro x9 h9
    refine loop_inv (fun f i (x9 : Bool) => lfirsts.l1 Yes a e I f1 f2 b1 b2 E f x9 i) N (fun i x9 => x9 = true ∨ (e ≠ 0 ∧ ∃ k, i ≤ k ∧ k < N ∧ lget I k = fsA a e ∧ lget E k = e)) (fun _ => 1) 1 (fun g i x9 hi hI hnext => ?_) (fun x9 hI => ?_) N 0 x9 (by omega) h9
    · have a1 : add .i64 (i : Int) 1 = ((i + 1 : Nat) : Int) := add1_i64 (by omega)
      have hin : InB (i : Int) (llen I) := ⟨by omega, by rw [llen_def, hN]; omega⟩
      -- what follows a look at one
      have look : (x9 = false → (ieq (lget I i) (fsA a e) = true → (ieq (lget E i) e = true → lfirsts.l1 Yes a e I f1 f2 b1 b2 E g (ine e 0) ((i + 1 : Nat) : Int)) ∧ (ieq (lget E i) e = false → lfirsts.l1 Yes a e I f1 f2 b1 b2 E g false ((i + 1 : Nat) : Int))) ∧ (ieq (lget I i) (fsA a e) = false → lfirsts.l1 Yes a e I f1 f2 b1 b2 E g false ((i + 1 : Nat) : Int))) ∧ (x9 = true → lfirsts.l1 Yes a e I f1 f2 b1 b2 E g true ((i + 1 : Nat) : Int)) := by
        refine ⟨fun q9 => ?_, fun _ => hnext true (Or.inl rfl)⟩
        rcases hI with hI | ⟨he, k, k1, k2, k3, k4⟩
        · rw [q9] at hI; cases hI
        · refine ⟨fun q1 => ⟨fun q2 => hnext _ (Or.inl ?_), fun q2 => hnext _ (Or.inr ⟨he, k, ?_, k2, k3, k4⟩)⟩, fun q1 => hnext _ (Or.inr ⟨he, k, ?_, k2, k3, k4⟩)⟩
          · rw [ine_true]; exact he
          · rw [ieq_false] at q2
            rcases Nat.lt_or_ge i k with h | h
            · exact h
            · obtain rfl : k = i := by omega
              exact absurd k4 q2
          · rw [ieq_false] at q1
            rcases Nat.lt_or_ge i k with h | h
            · exact h
            · obtain rfl : k = i := by omega
              exact absurd k3 q1
      have none : 0 ≤ lget I i → lget E i ≠ 0 → fsA a e ≤ lget I i ∧ 0 ≤ fsA a e := fun h1 h2 => by
        rcases cA with ⟨c1, c2⟩ | ⟨k, c1, c2, c3, c4, c5⟩
        · exact absurd (c2 i hi h1) h2
        · have := c5 i hi h1 h2
          rw [hA1, c4]
          exact ⟨this, c2⟩
      show lfirsts.l1 Yes a e I f1 f2 b1 b2 E (g + 1) x9 (i : Int)
      rw [lfirsts.l1_succ]
      simp only [nat_cast, a1]
      refine ⟨fun _ => ⟨hin, fun q1 => ⟨fun q2 => ⟨fun q3 => ⟨fun q4 => ?_, fun _ => look⟩, fun q3 => ?_⟩, fun _ => look⟩, fun _ => look⟩, fun q => ?_⟩
      · rw [ige_true] at q1; rw [ine_true] at q2; rw [ilt_true] at q4
        have := none q1 q2; omega
      · rw [ige_true] at q1; rw [ine_true] at q2; rw [ilt_true] at q3
        have := none q1 q2; omega
      · rw [ilt_false, ofNat_def, llen_def, hN] at q; omega
    · have h9 : x9 = true := by
        rcases hI with hI | ⟨_, k, k1, k2, _⟩
        · exact hI
        · omega
      subst h9
      show lfirsts.l1 Yes a e I f1 f2 b1 b2 E (0 + 1) true (N : Int)
      rw [lfirsts.l1_succ]
      have e1 : fsA f1 f2 = fsA b1 b2 := by rw [hff.fst, hfb.fst, hFB]
      have e2 : f2 = b2 := by rw [hff.snd, hfb.snd, hFB]
      have z1 : f2 = 0 ↔ allZ E = true := by
        rw [allZ_iff, hff.snd]
        rcases cF with ⟨c1, c2⟩ | ⟨k, c1, c2, c3, c4, c5⟩
        · rw [c1]
          exact ⟨fun _ k hk => c2 k (by omega) (by omega), fun _ => rfl⟩
        · rw [c4]
          exact ⟨fun q => absurd q c3, fun q => q k (by omega)⟩
      refine ⟨fun q => ?_, fun _ => ⟨fun _ => ⟨fun _ => ⟨fun _ => ⟨fun q3 => ⟨⟨by omega, by omega⟩, Or.inl ?_⟩, fun q3 => Or.inl ?_⟩, fun q => ?_⟩, fun q => ?_⟩, fun q => (by cases q)⟩⟩
      · rw [ilt_true, ofNat_def, llen_def, hN] at q; omega
      · have : ieq f2 0 = allZ E := by
          cases c : allZ E with
          | true => rw [ieq_true]; exact z1.2 c
          | false =>
            rw [ieq_false]; intro c'
            rw [z1.1 c'] at c; cases c
        rw [this]; simp [beq2]
      · rw [ieq_false] at q3
        have : ieq f2 0 = false := by
          rw [ieq_false]; intro c
          have hz := allZ_iff.1 (z1.1 c)
          rcases cA with ⟨c1, c2⟩ | ⟨k, c1, c2, c3, c4, c5⟩
          · rw [c1] at hA2; exact q3 hA2
          · exact c3 (hz k (by omega))
        rw [this]; rfl
      · rw [ieq_false] at q; exact absurd e2 q
      · rw [ieq_false] at q; exact absurd e1 q
  -- the first loop
  obtain ⟨F, h⟩ := loop_inv_ex (fun f i (s : (Int × Int) × (Int × Int) × (Int × Int)) => lfirsts.l0 Yes I E f i s.1.1 s.1.2 s.2.1.1 s.2.1.2 s.2.2.1 s.2.2.2) N
    (fun i s => FS s.1.1 s.1.2 (rfF (fun k => (k : Int)) (lget E) i) ∧ FS s.2.1.1 s.2.1.2 (rfF (lget I) (lget E) i) ∧ FS s.2.2.1 s.2.2.2 (rfF (fun k => ((N - 1 - k : Nat) : Int)) (fun k => lget E (N - 1 - k)) i)) (fun _ => 1) ((1 + tot (fun _ => 1) 0 N) + 1) (fun g i s hi hI hnext => by
    obtain ⟨⟨f1, f2⟩, ⟨a, e⟩, ⟨b1, b2⟩⟩ := s
    obtain ⟨h1, h2, h3⟩ := hI
    have a1 : add .i64 (i : Int) 1 = ((i + 1 : Nat) : Int) := add1_i64 (by omega)
    have s1 : sub .i64 (ofNat (llen I)) 1 = ((N - 1 : Nat) : Int) := by
      rw [ofNat_def, llen_def, hN]; exact subN_i64 (b := 1) (by omega) (by omega)
    have s2 : sub .i64 ((N - 1 : Nat) : Int) (i : Int) = ((N - 1 - i : Nat) : Int) := subN_i64 (by omega) (by omega)
    have hin : ∀ k : Nat, k < N → InB (k : Int) (llen I) := fun k hk => ⟨by omega, by rw [llen_def, hN]; omega⟩
    show lfirsts.l0 Yes I E (g + 1) (i : Int) f1 f2 a e b1 b2
    rw [lfirsts.l0_succ]
    simp only [nat_cast, a1, s1, s2]
    refine ⟨fun _ => ⟨hin i hi, hin i hi, hin i hi, hin _ (by omega), hnext ((_, _), (_, _), (_, _)) ⟨h1.step _ _, h2.step _ _, h3.step _ _⟩⟩, fun q => ?_⟩
    rw [ilt_false, ofNat_def, llen_def, hN] at q; omega) (fun s hI => by
    obtain ⟨⟨f1, f2⟩, ⟨a, e⟩, ⟨b1, b2⟩⟩ := s
    obtain ⟨h1, h2, h3⟩ := hI
    simp only [hF, hA, hB] at h1 h2 h3
    have sec := second a e f1 f2 b1 b2 h2 h1 h3
    show lfirsts.l0 Yes I E ((1 + tot (fun _ => 1) 0 N) + 1) (N : Int) f1 f2 a e b1 b2
    rw [lfirsts.l0_succ]
    have wit : rA ≠ (-1, 0) → e ≠ 0 ∧ ∃ k, 0 ≤ k ∧ k < N ∧ lget I k = fsA a e ∧ lget E k = e := fun q => by
      rcases cA with ⟨c1, c2⟩ | ⟨k, c1, c2, c3, c4, c5⟩
      · exact absurd c1 q
      · rw [h2.fst, h2.snd, c4]
        exact ⟨c3, k, Nat.zero_le _, c1, rfl, rfl⟩
    refine ⟨fun q => ?_, fun _ => ⟨fun q => sec _ ?_, fun q => sec _ (Or.inr (wit fun c => ?_))⟩⟩
    · rw [ilt_true, ofNat_def, llen_def, hN] at q; omega
    · by_cases c : rA = (-1, 0)
      · left; rw [ieq_true, h2.snd, c]
      · exact Or.inr (wit c)
    · rw [ieq_false, h2.fst, c] at q; exact q rfl)
  refine ⟨F + 1, ⟨?_⟩⟩
  rw [lfirsts_vc]
  refine ⟨fun _ => ⟨fun q => absurd q (by decide), fun _ => h ((0, 0), (0, 0), (0, 0)) ⟨FS.zero, FS.zero, FS.zero⟩⟩, fun q => absurd q (by decide)⟩
end Go.Proofs.Ytgobpelclchnfaa.G

/- Structs that came in, with lists of records in them. -/
namespace Go.Sx
open Go Go.ChangeShapes Go.WideShapes Go.ChangeAt Go.RowKit
set_option linter.unusedSimpArgs false
set_option linter.unusedVariables false

inductive KF where
  | ks (l : List Kd)
  | recs (l : List Kd) (bytes : Nat)
def KF.width : KF → Nat
  | .ks l => Sx.width l
  | .recs _ _ => 1
/-- a list of records that came in -/
structure RecsIn (w : World) (l : List Kd) (bytes : Nat) (A : Option Addr) (len cap : Nat) (L : Loc) (cols : List Col) : Prop where
  rep : VRep w L cols
  val : Value.slice A len cap = .slice L.a L.len L.cap
  kds : kdsOf cols = l
  wf : ∀ col ∈ cols, col.wf
  size : L.len * bytes ≤ reachBytes
def KF.at (w : World) (k : KF) (cs : List Value) (o : Nat) : Prop :=
  match k with
  | .ks l => KdsAt w l cs o
  | .recs l b => ∃ A len cap L cols, cs[o]? = some (.slice A len cap) ∧ RecsIn w l b A len cap L cols
def KFsAt (w : World) : List KF → List Value → Nat → Prop
  | [], _, _ => True
  | k :: r, cs, o => k.at w cs o ∧ KFsAt w r cs (o + k.width)
def fieldF (P : Program) (t : TypeId) : Option KF :=
  match kindsO P 8 t with
  | some ks => some (.ks ks)
  | none => match P.underlying t with
    | some (.slice e) => match kindsO P 8 e with
      | some ks => if 0 < Sx.width ks ∧ P.cellsOf e = Sx.width ks then some (.recs ks (P.bytesOf e)) else none
      | none => none
    | _ => none
def fieldsF (P : Program) : List Field → Nat → Option (List KF)
  | [], _ => some []
  | fd :: r, o => match fieldF P fd.type, fieldsF P r (o + P.cellsOf fd.type) with
    | some k1, some k2 => if fd.offset = o ∧ P.cellsOf fd.type = k1.width then some (k1 :: k2) else none
    | _, _ => none
section
variable {H : Type} {enc : TypeId × Value → H} {P : Program} {w : World}

theorem recs_of_trod {t e : TypeId} {ks : List Kd} {fuel : Nat} {cs0 : List Value} {x : DataW H × List MemPlace} (ht : P.underlying t = some (.slice e)) (hk : kindsO P 8 e = some ks) (hp : 0 < width ks) (hc : P.cellsOf e = width ks)
    (hf : DataW.trod enc P w 0 (fun _ => true) true fuel t cs0 = some x) (hall : ∀ n ∈ x.1.weights P t, n ≤ reachBytes) :
    ∃ A len cap L cols, cs0 = [.slice A len cap] ∧ RecsIn w ks (P.bytesOf e) A len cap L cols := by
  rcases Go.Deep.open_slice ht hf with ⟨hcs, _⟩ | ⟨a, len', cap', m, n, D, Pl, hcs, _, hl, hm, hmm, hx, hi⟩
  · have hz := nil_rep (w := w) hp
    refine ⟨none, 0, 0, loc0, ks.map Kd.nil, hcs, hz.1, rfl, nil_kds ks, fun col hcol => ?_, by simp [loc0]⟩
    obtain ⟨k, _, rfl⟩ := List.mem_map.1 hcol
    cases k <;> simp [Kd.nil, Col.wf]
  · simp only [if_true] at hmm
    subst hmm
    have hx1 := hx
    have each : ∀ r, r < m → ∃ cs', (∀ t, t < width ks → w.cell? (a.add (r * width ks + t)) = cs'[t]?) ∧ KdsAt w ks cs' 0 := by
      intro r hr
      obtain ⟨cs', h1, h2⟩ := hi r hr
      obtain ⟨_, g1, g2⟩ := World.cells?_some h1
      have hwt : ∀ n ∈ (D r).weights P e, n ≤ reachBytes := fun n hn => hall n (by
        rw [hx1]
        simp only [DataW.weights, ht]
        refine List.mem_cons_of_mem _ (List.mem_append.2 ?_)
        by_cases hq : r < len'
        · exact Or.inl (weightsAll_mem (i := r) (d := D r) (by rw [range_get, if_pos hq]) n hn)
        · exact Or.inr (weightsAll_mem (i := r - len') (d := D r) (by rw [range_get, if_pos (by omega), show len' + (r - len') = r by omega]) n hn))
      obtain ⟨g3, g4⟩ := kinds_of_trod 8 hk h2 hwt
      refine ⟨cs', fun t ht => ?_, g4⟩
      rw [← g2 t (by rw [hc]; exact ht), hc, addr_add_add]
    obtain ⟨CS, hCS⟩ := choose_range each
    obtain ⟨cs, E, b1, b2, b3, b4⟩ := build_cols (len := len') (CS := CS) ks 0 fun r hr => (hCS r (by omega)).2
    have hcell : ∀ i, i < len' → ∀ t, t < width ks → ∀ L : Loc, (∀ c r, L.el c r = E c r) → w.cell? (a.add (i * width ks + t)) = some (rowVal L cs 0 i t) := fun i hi t ht L hL => by
      rw [(hCS i (by omega)).1 t ht]
      have := b3 L 0 (fun c r => by rw [Nat.zero_add]; exact hL c r) i hi t ht
      rwa [Nat.zero_add] at this
    have hsp : 0 < len' → a.spot = none := fun hp' => by
      have h0 := hcell 0 hp' 0 hp ⟨0, 0, none, 0, 0, E⟩ (fun _ _ => rfl)
      simp only [Nat.zero_mul, Nat.add_zero] at h0
      have : a.add 0 = a := by simp [Addr.add]
      rw [this] at h0
      exact spot_none h0
    refine ⟨some a, len', m, ⟨a.block, a.off, some a, len', m, E⟩, cs, hcs, ?_, rfl, b1, fun col hcol => (b2 col hcol).2, ?_⟩
    · refine ⟨fun q => by subst q; simp [kdsOf] at b1; subst b1; simp [width] at hp, by simpa [cwidth, b1] using hp, fun col hcol => (b2 col hcol).1, hl, fun q => ?_, fun i hi t ht => ?_, fun c k ll hc i l hi => b4 c k ll hc i l hi⟩
      · have := hsp (Nat.pos_of_ne_zero q)
        cases a
        simp only at this; subst this; rfl
      · have hw' : cwidth cs = width ks := by simp [cwidth, b1]
        rw [hw'] at ht ⊢
        have := hsp (by simp only at hi; omega)
        have e : (Loc.at ⟨a.block, a.off, some a, len', m, E⟩ (i * width ks + t)) = a.add (i * width ks + t) := by
          cases a; simp only at this; subst this; simp [Loc.at, Addr.add]
        rw [e]
        exact hcell i hi t ht _ (fun _ _ => rfl)
    · have := hall ((((List.range len').map D).length + ((List.range (m - len')).map fun j => D (len' + j)).length) * P.bytesOf e) (by rw [hx1]; simp [DataW.weights, ht])
      simp only [List.length_map, List.length_range] at this
      exact Nat.le_trans (Nat.mul_le_mul_right _ (by show len' ≤ _; omega)) this

theorem open_structF {t : TypeId} {fs : Array Field} {ks : List KF} {n0 : Nat} {v : Value} {d : DataW H} {ps : List MemPlace} {r : Reach} {b0 : Nat} (hu : P.underlying t = some (.struct fs)) (hk : fieldsF P fs.toList 0 = some ks) (hn0 : P.cellsOf t = n0) (hv : Value.okWide P w r b0 t v)
    (h : DataW.Trod enc P w 0 (fun _ => true) true t v d ps) {ts : List TypeId} {ds : List (DataW H)} (hsz : (DataW.weightsEach P ts ds).all (· ≤ reachBytes) = true) {j : Nat} (htj : ts[j]? = some t) (hdj : ds[j]? = some d) :
    ∃ cs : List Value, v = .agg cs.toArray ∧ cs.length = n0 ∧ KFsAt w ks cs 0 := by
  obtain ⟨csA, rfl, _⟩ := okWide_struct hu hv
  obtain ⟨fuel, htr⟩ := h
  have hz : ∀ n ∈ d.weights P t, n ≤ reachBytes := fun n hn => by
    have := List.all_eq_true.1 hsz n (DataW.weights_mem_each htj hdj n hn)
    simpa using this
  obtain ⟨xs, n, _, hd, hcl, hxl, hx⟩ := DataW.trod_struct hu htr
  refine ⟨csA.toList, by simp, by rw [← hn0]; exact hcl, ?_⟩
  have wt : ∀ (i : Nat) f y, fs[i]? = some f → xs[i]? = some y → ∀ n ∈ y.1.weights P f.type, n ≤ reachBytes := by
    intro i f y hf hy n hn
    refine hz n ?_
    have hd1 := congrArg Prod.fst hd
    simp only at hd1
    rw [hd1]
    simp only [DataW.weights, hu]
    exact DataW.weights_mem_each (j := i) (t := f.type) (d := y.1) (by simp [List.getElem?_map]; exact ⟨f, by simpa using hf, rfl⟩) (by simp [List.getElem?_map, hy]) n hn
  have all : ∀ (fl : List Field) (o i : Nat) (ks : List KF), fieldsF P fl o = some ks → (∀ j f, fl[j]? = some f → fs[i + j]? = some f) → KFsAt w ks csA.toList o := by
    intro fl
    induction fl with
    | nil => intro o i ks h _; simp only [fieldsF, Option.some.injEq] at h; subst h; trivial
    | cons fd r ih =>
      intro o i ks h hf
      simp only [fieldsF] at h
      split at h
      · rename_i k1 k2 h1 h2
        split at h
        · rename_i hq
          cases h
          obtain ⟨ho, hcw⟩ := hq
          have hfi : fs[i]? = some fd := by simpa using hf 0 fd rfl
          have hxi := hx i fd hfi
          have hlt : i < xs.length := by rw [hxl]; exact (Array.getElem?_eq_some_iff.1 hfi).1
          have h3 : xs[i]? = some xs[i] := List.getElem?_eq_getElem hlt
          rw [h3] at hxi
          have hw := wt i fd _ hfi h3
          rw [ho, hcw] at hxi
          refine ⟨?_, by
            have := ih (o + P.cellsOf fd.type) (i + 1) k2 h2 fun j f hj => by have := hf (j + 1) f (by simpa using hj); rwa [show i + 1 + j = i + (j + 1) by omega]
            rw [hcw] at this; exact this⟩
          unfold fieldF at h1
          split at h1
          · rename_i ks' hks
            cases h1
            obtain ⟨_, g2⟩ := kinds_of_trod 8 hks hxi hw
            have := KdsAt.shift (p := 0) (by simp [KF.width]) g2
            rw [Nat.add_zero] at this
            exact this
          · split at h1 <;> try (cases h1; done)
            rename_i e hue
            split at h1 <;> try (cases h1; done)
            rename_i ks' hks
            split at h1 <;> try (cases h1; done)
            rename_i hcond
            cases h1
            obtain ⟨A, len, cap, L, cols, e1, e2⟩ := recs_of_trod hue hks hcond.1 hcond.2 hxi hw
            refine ⟨A, len, cap, L, cols, ?_, e2⟩
            have e3 : ((csA.toList.drop o).take 1)[0]? = some (.slice A len cap) := congrArg (fun l => l[0]?) e1
            rw [List.getElem?_take, if_pos (by decide), List.getElem?_drop, Nat.add_zero] at e3
            exact e3
        · cases h
      · cases h
  exact all fs.toList 0 0 ks hk fun j f hj => by rw [Nat.zero_add]; simpa using hj

theorem KFsAt.recs {l : List Kd} {b : Nat} {r : List KF} {cs : List Value} {o : Nat} (h : KFsAt w (.recs l b :: r) cs o) : ∃ A len cap L cols, RecsIn w l b A len cap L cols ∧ cs.drop o = .slice A len cap :: cs.drop (o + 1) ∧ KFsAt w r cs (o + 1) := by
  obtain ⟨⟨A, len, cap, L, cols, h1, h2⟩, h4⟩ := h
  obtain ⟨hl, he⟩ := (List.getElem?_eq_some_iff.1 h1)
  exact ⟨A, len, cap, L, cols, h2, by rw [List.drop_eq_getElem_cons hl, he], h4⟩
theorem KFsAt.rows {q : IntKind} {r : List KF} {cs : List Value} {o : Nat} (h : KFsAt w (.ks [.rows q] :: r) cs o) : ∃ A L C Z, IsRow q w A L C Z ∧ Z.length ≤ reachBytes ∧ cs.drop o = .slice A L C :: cs.drop (o + 1) ∧ KFsAt w r cs (o + 1) := by
  obtain ⟨A, L, C, Z, h1, h2, h3, _⟩ := KdsAt.rows h.1
  exact ⟨A, L, C, Z, h1, h2, h3, h.2⟩
theorem KFsAt.ints {q : IntKind} {r : List KF} {cs : List Value} {o : Nat} (h : KFsAt w (.ks [.ints q] :: r) cs o) : ∃ n, (Lit.int q n).wf = true ∧ cs.drop o = .int q n :: cs.drop (o + 1) ∧ KFsAt w r cs (o + 1) := by
  obtain ⟨n, h1, h2, _⟩ := KdsAt.ints h.1
  exact ⟨n, h1, h2, h.2⟩
theorem KFsAt.bools {r : List KF} {cs : List Value} {o : Nat} (h : KFsAt w (.ks [.bools] :: r) cs o) : ∃ b, cs.drop o = .bool b :: cs.drop (o + 1) ∧ KFsAt w r cs (o + 1) := by
  obtain ⟨b, h1, _⟩ := KdsAt.bools h.1
  exact ⟨b, h1, h.2⟩
theorem KFsAt.arrs {q : IntKind} {m : Nat} {r : List KF} {cs : List Value} {o : Nat} (h : KFsAt w (.ks [.arrs q m] :: r) cs o) (hl : o + m ≤ cs.length) : ∃ l : List Int, l.length = m ∧ (∀ x ∈ l, (Lit.int q x).wf = true) ∧ cs.drop o = l.map (Value.int q) ++ cs.drop (o + m) ∧ KFsAt w r cs (o + m) := by
  obtain ⟨l, h1, h2, h3, _⟩ := KdsAt.arrs h.1 hl
  have e : (KF.ks [.arrs q m]).width = m := by simp [KF.width, Sx.width, Kd.width]
  have := h.2
  rw [e] at this
  exact ⟨l, h1, h2, h3, this⟩
/-- a list of records among a struct's fields -/
theorem AggArgs.recs {j j' : Nat} {l : List Kd} {b : Nat} {A : Option Addr} {len cap : Nat} {L : Loc} {cols : List Col} {s : List Seg} {cs : List Value} {τ : Mem} (h : RecsIn w l b A len cap L cols) (t : AggArgs w (j + 1) s cs τ j') (hj : j < 1000 := by decide) :
    AggArgs w j (.cells [.vec (200000 + j)] :: s) (.slice A len cap :: cs) ((200000 + j, .rview cols) :: τ) j' := .row L cols hj h.rep h.val t (wf_noHss h.wf)
end
end Go.Sx
