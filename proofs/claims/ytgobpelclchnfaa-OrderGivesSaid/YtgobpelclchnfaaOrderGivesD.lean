import Derived.Test.YtgobpelclchnfaaOrderGivesC
import Derived.Test.YtgobpelclchnfaaProg
import Derived.Deep.Slices
set_option linter.unusedSimpArgs false
set_option linter.unusedVariables false
namespace Go.Sx
open Go
section
variable {d : Nat} {σ σ' : Mem} {K : AV → Mem → Prop}
end
def tab {α : Type} (n : Nat) (g : Nat → α) : List α := (List.range n).map g
theorem tab_len {α : Type} (n : Nat) (g : Nat → α) : (tab n g).length = n := by simp [tab]
theorem tab_get? {α : Type} (n : Nat) (g : Nat → α) (i : Nat) : (tab n g)[i]? = if i < n then some (g i) else none := by
 simp only [tab, List.getElem?_map, List.getElem?_range]
 by_cases h : i < n
 ·simp [h, List.getElem?_range]
 ·simp [h]
theorem tab_ext {α : Type} {n : Nat} {g h : Nat → α} (e : ∀ i, i < n → g i = h i) : tab n g = tab n h := by
 refine List.map_congr_left fun i hi => e i (by simpa using hi)
theorem list_ext {α : Type} {a b : List α} (hl : a.length = b.length) (h : ∀ i, i < a.length → a[i]? = b[i]?) : a = b := by
 refine List.ext_getElem? fun i => ?_
 by_cases hi : i < a.length
 ·exact h i hi
 ·rw [List.getElem?_eq_none (by omega), List.getElem?_eq_none (by omega)]
theorem tab_set {α : Type} (n i : Nat) (g : Nat → α) (v : α) : (tab n g).set i v = tab n (fun j => if j = i then v else g j) := by
 refine list_ext (by simp [tab_len]) fun j hj => ?_
 simp only [List.length_set, tab_len] at hj
 rw [List.getElem?_set, tab_get?, tab_get?, tab_len]
 by_cases e : i = j
 ·subst e; simp [hj]
 ·simp [e, hj, Ne.symm e]
theorem tab_lset (n i : Nat) (g : Nat → Int) (v : Int) : lset (tab n g) i v = tab n (fun j => if j = i then v else g j) := tab_set n i g v
theorem lzeros_tab (n : Nat) : lzeros n = tab n (fun _ => 0) := by simp [lzeros, tab, List.map_const']
theorem tab_step {α : Type} {n i : Nat} {F G : Nat → α} {v : α} (hv : v = F i) : tab n (fun j => if j = i then v else if j < i then F j else G j) = tab n (fun j => if j < i + 1 then F j else G j) := by
 subst hv
 refine tab_ext fun j hj => ?_
 by_cases e : j = i
 ·subst e; simp
 ·by_cases q : j < i
  ·simp [e, q, show j < i + 1 by omega]
  ·simp [e, q, show ¬ j < i + 1 by omega]
theorem tab_done {α : Type} {n : Nat} {F G : Nat → α} : tab n (fun j => if j < n then F j else G j) = tab n F := tab_ext fun j hj => by simp [hj]
theorem tab_start {α : Type} {n : Nat} {F G : Nat → α} : tab n (fun j => if j < 0 then F j else G j) = tab n G := tab_ext fun j hj => by simp
def upto {α : Type} (n i : Nat) (F G : Nat → α) : List α := tab n fun j => if j < i then F j else G j
theorem upto_zero {α : Type} {n : Nat} {F G : Nat → α} : upto n 0 F G = tab n G := tab_start
theorem upto_done {α : Type} {n : Nat} {F G : Nat → α} : upto n n F G = tab n F := tab_done
theorem upto_len {α : Type} {n i : Nat} {F G : Nat → α} : (upto n i F G).length = n := tab_len _ _
theorem upto_lset {n i : Nat} {F G : Nat → Int} {v : Int} (hv : v = F i) : lset (upto n i F G) i v = upto n (i + 1) F G := by rw [upto, tab_lset, tab_step hv]; rfl
theorem nat_cast (n : Nat) : nat (n : Int) = n := rfl
theorem ofNat_def (a : Nat) : ofNat a = (a : Int) := rfl
theorem llen_def {α : Type} (l : List α) : llen l = l.length := rfl
theorem lcat_def {α : Type} (a b : List α) : lcat a b = a ++ b := rfl
theorem add1_i64 {a : Nat} (h : a < 9223372036854775807) : add .i64 (a : Int) 1 = ((a + 1 : Nat) : Int) := by
 rw [add_i64 (by omega) (by omega)]; omega
theorem loop_up {S : Type} (L : Nat → Int → S → Prop) (n : Nat) (st : Nat → S) (hs : ∀ f i, i < n → L f ((i + 1 : Nat) : Int) (st (i + 1)) → L (f + 1) (i : Int) (st i)) (he : ∀ f, L (f + 1) (n : Int) (st n)) :
  ∀ i, i ≤ n → ∀ m, L (n - i + 1 + m) (i : Int) (st i) := by
 intro i hi m
 induction hk : n - i generalizing i with
 | zero =>
  obtain rfl : i = n := by omega
  rw [show 0 + 1 + m = m + 1 by omega]; exact he m
 | succ k ih =>
  rw [show k + 1 + 1 + m = (k + 1 + m) + 1 by omega]
  exact hs _ i (by omega) (ih (i + 1) (by omega) (by omega))
theorem loop_ex {S : Type} (L : Nat → Int → S → Prop) (n : Nat) (st : Nat → S) (hs : ∀ g i, i < n → L g ((i + 1 : Nat) : Int) (st (i + 1)) → ∃ g', L g' (i : Int) (st i)) (he : ∃ g, L g (n : Int) (st n)) :
  ∀ i, i ≤ n → ∃ g, L g (i : Int) (st i) := by
 intro i hi
 induction hk : n - i generalizing i with
 | zero =>
  obtain rfl : i = n := by omega
  exact he
 | succ k ih =>
  obtain ⟨g, hg⟩ := ih (i + 1) (by omega) (by omega)
  exact hs g i (by omega) hg
def bufE {α : Type} (l : List (List Int × α)) (at_ i : Int) : Int := if i < 0 then 2 else if mhas l [i] = true then 200 else if i < at_ then 200 else 0
def bufP {α : Type} (l : List (List Int × α)) (at_ i : Int) (x : α) : List (List Int × α) := if bufE l at_ i = 0 then mput l [i] x else l
def bufN {α : Type} (l : List (List Int × α)) (at_ : Int) : Int := if mhas l [at_] = true then add .i64 at_ 1 else at_
def bufAt (T0 : TypeId) (σ : Mem) (n : Nat) (K : TypeId → Nat → MVs → Int → Prop) : Prop :=
 match Mem.find σ n with
 | some (.own T [.cells [.map m], .cells [.int .i64 at_]]) => match Mem.find σ m, isHeap n || isHeap m || !(Nat.beq T T0) with
  | some (.map (.int .i64) v), false => K T m v at_
  | _, _ => False
 | _ => False
def newS (T : TypeId) (v : MVs) : Spec := ⟨2, true, fun d args σ K => match args with
 | [] => K (.one (.ptr d 0 0)) (Mem.ins (d + 10000) (.map (.int .i64) v) (Mem.ins d (.own T [.cells [.map (d + 10000)], .cells [.int .i64 0]]) σ))
 | _ => False⟩
def putS (T0 : TypeId) : Spec := ⟨0, true, fun _ args σ K => match args with
 | [.one (.con (.pointer none)), .one (.int .i64 i), .one (.int .i64 x)] => K (.one (.int .i64 2)) σ
 | [.one (.ptr n 0 0), .one (.int .i64 i), .one (.int .i64 x)] => bufAt T0 σ n fun T m v at_ => match v with
  | .ints .i64 l => K (.one (.int .i64 (bufE l at_ i))) (σ.put m (.map (.int .i64) (.ints .i64 (bufP l at_ i x))))
  | _ => False
 | _ => False⟩
def sputS (T0 : TypeId) : Spec := ⟨0, true, fun _ args σ K => match args with
 | [.one (.ptr n 0 0), .one (.int .i64 i), .one (.str x)] => bufAt T0 σ n fun T m v at_ => match v with
  | .strs l => K (.one (.int .i64 (bufE l at_ i))) (σ.put m (.map (.int .i64) (.strs (bufP l at_ i x))))
  | _ => False
 | _ => False⟩
def nextS (T0 : TypeId) : Spec := ⟨0, true, fun _ args σ K => match args with
 | [.one (.con (.pointer none))] => K (.tup [.c (.int .i64 0), .c (.lit false)]) σ
 | [.one (.ptr n 0 0)] => bufAt T0 σ n fun T m v at_ => match v with
  | .ints .i64 l => K (.tup [.c (.int .i64 (mget 0 l [at_])), .c (.bool (mhas l [at_]))]) ((σ.put m (.map (.int .i64) (.ints .i64 (mdel l [at_])))).put n (.own T [.cells [.map m], .cells [.int .i64 (bufN l at_)]]))
  | _ => False
 | _ => False⟩
def snextS (T0 : TypeId) : Spec := ⟨0, true, fun _ args σ K => match args with
 | [.one (.ptr n 0 0)] => bufAt T0 σ n fun T m v at_ => match v with
  | .strs l => K (.tup [.c (.str (mget ByteArray.empty l [at_])), .c (.bool (mhas l [at_]))]) ((σ.put m (.map (.int .i64) (.strs (mdel l [at_])))).put n (.own T [.cells [.map m], .cells [.int .i64 (bufN l at_)]]))
  | _ => False
 | _ => False⟩
def atS (T0 : TypeId) : Spec := ⟨0, true, fun _ args σ K => match args with
 | [.one (.con (.pointer none))] => K (.one (.int .i64 0)) σ
 | [.one (.ptr n 0 0)] => bufAt T0 σ n fun T m v at_ => match v with
  | .ints .i64 l => K (.one (.int .i64 at_)) σ
  | _ => False
 | _ => False⟩
def heldS (T0 : TypeId) : Spec := ⟨0, true, fun _ args σ K => match args with
 | [.one (.con (.pointer none))] => K (.one (.int .i64 0)) σ
 | [.one (.ptr n 0 0)] => bufAt T0 σ n fun T m v at_ => match v with
  | .ints .i64 l => K (.one (.int .i64 (ofNat (mlen l)))) σ
  | _ => False
 | _ => False⟩
def gamO1 : Gam := ext (ext (ext (ext (ext gam0 12 (newS 66 (.ints .i64 []))) 15 (putS 66)) 16 (nextS 66)) 17 (atS 66)) 18 (heldS 66)
def gamO2 : Gam := ext (ext (ext gamO1 19 (newS 73 (.strs []))) 20 (sputS 73)) 21 (snextS 73)
end Go.Sx
namespace Go.Proofs.Ytgobpelclchnfaa.G
open Go Go.Sx Go.Sx
set_option maxRecDepth 100000
theorem bnew_vc (R : AV → Mem → Prop) (fuel : Nat)  : callsx Try.prog gam0 [] Try.f12 (fuel + 1) [] [] R = ((R (AV.one (AC.ptr 3 0 0)) [(1, Blk.map (KK.int IntKind.i64) (MVs.ints IntKind.i64 [])), (3, Blk.own 66 [(Seg.cells [(AC.map 1)]), (Seg.cells [(AC.int IntKind.i64 0)])])])) := by kernel_rfl
theorem bput_vc (R : AV → Mem → Prop) (fuel : Nat) (l : List (List Int × Int)) (at_ : Int) (i : Int) (x : Int) : callsx Try.prog gam0 [] Try.f15 (fuel + 1) [.one (.ptr 200000 0 0), .one (.int .i64 i), .one (.int .i64 x)] [(200000, .own 66 [.cells [.map 200001], .cells [.int .i64 at_]]), (200001, .map (.int .i64) (.ints .i64 l))] R = (((((ilt i 0) = true) → (R (AV.one (AC.int IntKind.i64 2)) [(200000, Blk.own 66 [(Seg.cells [(AC.map 200001)]), (Seg.cells [(AC.int IntKind.i64 at_)])]), (200001, Blk.map (KK.int IntKind.i64) (MVs.ints IntKind.i64 l))])) ∧ (((ilt i 0) = false) → ((((mhas l [i]) = false) → ((((ilt i at_) = true) → (R (AV.one (AC.int IntKind.i64 200)) [(200000, Blk.own 66 [(Seg.cells [(AC.map 200001)]), (Seg.cells [(AC.int IntKind.i64 at_)])]), (200001, Blk.map (KK.int IntKind.i64) (MVs.ints IntKind.i64 l))])) ∧ (((ilt i at_) = false) → (R (AV.one (AC.int IntKind.i64 0)) [(200000, Blk.own 66 [(Seg.cells [(AC.map 200001)]), (Seg.cells [(AC.int IntKind.i64 at_)])]), (200001, Blk.map (KK.int IntKind.i64) (MVs.ints IntKind.i64 (mput l [i] x)))])))) ∧ (((mhas l [i]) = true) → (R (AV.one (AC.int IntKind.i64 200)) [(200000, Blk.own 66 [(Seg.cells [(AC.map 200001)]), (Seg.cells [(AC.int IntKind.i64 at_)])]), (200001, Blk.map (KK.int IntKind.i64) (MVs.ints IntKind.i64 l))])))))) := by kernel_rfl
theorem bputn_vc (R : AV → Mem → Prop) (fuel : Nat) (i : Int) (x : Int) : callsx Try.prog gam0 [] Try.f15 (fuel + 1) [.one (.con (.pointer none)), .one (.int .i64 i), .one (.int .i64 x)] [] R = ((R (AV.one (AC.int IntKind.i64 2)) [])) := by kernel_rfl
theorem bnext_vc (R : AV → Mem → Prop) (fuel : Nat) (l : List (List Int × Int)) (at_ : Int) : callsx Try.prog gam0 [] Try.f16 (fuel + 1) [.one (.ptr 200000 0 0)] [(200000, .own 66 [.cells [.map 200001], .cells [.int .i64 at_]]), (200001, .map (.int .i64) (.ints .i64 l))] R = (((((bnot (mhas l [at_])) = true) → (R (AV.tup [(TV.c (AC.int IntKind.i64 0)), (TV.c (AC.lit false))]) [(200000, Blk.own 66 [(Seg.cells [(AC.map 200001)]), (Seg.cells [(AC.int IntKind.i64 at_)])]), (200001, Blk.map (KK.int IntKind.i64) (MVs.ints IntKind.i64 l))])) ∧ (((bnot (mhas l [at_])) = false) → (R (AV.tup [(TV.c (AC.int IntKind.i64 (mget 0 l [at_]))), (TV.c (AC.lit true))]) [(200000, Blk.own 66 [(Seg.cells [(AC.map 200001)]), (Seg.cells [(AC.int IntKind.i64 (add IntKind.i64 at_ 1))])]), (200001, Blk.map (KK.int IntKind.i64) (MVs.ints IntKind.i64 (mdel l [at_])))])))) := by kernel_rfl
theorem bnextn_vc (R : AV → Mem → Prop) (fuel : Nat)  : callsx Try.prog gam0 [] Try.f16 (fuel + 1) [.one (.con (.pointer none))] [] R = ((R (AV.tup [(TV.c (AC.int IntKind.i64 0)), (TV.c (AC.lit false))]) [])) := by kernel_rfl
theorem bat_vc (R : AV → Mem → Prop) (fuel : Nat) (l : List (List Int × Int)) (at_ : Int) : callsx Try.prog gam0 [] Try.f17 (fuel + 1) [.one (.ptr 200000 0 0)] [(200000, .own 66 [.cells [.map 200001], .cells [.int .i64 at_]]), (200001, .map (.int .i64) (.ints .i64 l))] R = ((R (AV.one (AC.int IntKind.i64 at_)) [(200000, Blk.own 66 [(Seg.cells [(AC.map 200001)]), (Seg.cells [(AC.int IntKind.i64 at_)])]), (200001, Blk.map (KK.int IntKind.i64) (MVs.ints IntKind.i64 l))])) := by kernel_rfl
theorem batn_vc (R : AV → Mem → Prop) (fuel : Nat)  : callsx Try.prog gam0 [] Try.f17 (fuel + 1) [.one (.con (.pointer none))] [] R = ((R (AV.one (AC.int IntKind.i64 0)) [])) := by kernel_rfl
theorem bheld_vc (R : AV → Mem → Prop) (fuel : Nat) (l : List (List Int × Int)) (at_ : Int) : callsx Try.prog gam0 [] Try.f18 (fuel + 1) [.one (.ptr 200000 0 0)] [(200000, .own 66 [.cells [.map 200001], .cells [.int .i64 at_]]), (200001, .map (.int .i64) (.ints .i64 l))] R = ((R (AV.one (AC.int IntKind.i64 (ofNat (mlen l)))) [(200000, Blk.own 66 [(Seg.cells [(AC.map 200001)]), (Seg.cells [(AC.int IntKind.i64 at_)])]), (200001, Blk.map (KK.int IntKind.i64) (MVs.ints IntKind.i64 l))])) := by kernel_rfl
theorem bheldn_vc (R : AV → Mem → Prop) (fuel : Nat)  : callsx Try.prog gam0 [] Try.f18 (fuel + 1) [.one (.con (.pointer none))] [] R = ((R (AV.one (AC.int IntKind.i64 0)) [])) := by kernel_rfl
theorem snew_vc (R : AV → Mem → Prop) (fuel : Nat)  : callsx Try.prog gam0 [] Try.f19 (fuel + 1) [] [] R = ((R (AV.one (AC.ptr 3 0 0)) [(1, Blk.map (KK.int IntKind.i64) (MVs.strs [])), (3, Blk.own 73 [(Seg.cells [(AC.map 1)]), (Seg.cells [(AC.int IntKind.i64 0)])])])) := by kernel_rfl
theorem sput_vc (R : AV → Mem → Prop) (fuel : Nat) (l : List (List Int × ByteArray)) (at_ : Int) (i : Int) (x : ByteArray) : callsx Try.prog gam0 [] Try.f20 (fuel + 1) [.one (.ptr 200000 0 0), .one (.int .i64 i), .one (.str x)] [(200000, .own 73 [.cells [.map 200001], .cells [.int .i64 at_]]), (200001, .map (.int .i64) (.strs l))] R = (((((ilt i 0) = true) → (R (AV.one (AC.int IntKind.i64 2)) [(200000, Blk.own 73 [(Seg.cells [(AC.map 200001)]), (Seg.cells [(AC.int IntKind.i64 at_)])]), (200001, Blk.map (KK.int IntKind.i64) (MVs.strs l))])) ∧ (((ilt i 0) = false) → ((((mhas l [i]) = false) → ((((ilt i at_) = true) → (R (AV.one (AC.int IntKind.i64 200)) [(200000, Blk.own 73 [(Seg.cells [(AC.map 200001)]), (Seg.cells [(AC.int IntKind.i64 at_)])]), (200001, Blk.map (KK.int IntKind.i64) (MVs.strs l))])) ∧ (((ilt i at_) = false) → (R (AV.one (AC.int IntKind.i64 0)) [(200000, Blk.own 73 [(Seg.cells [(AC.map 200001)]), (Seg.cells [(AC.int IntKind.i64 at_)])]), (200001, Blk.map (KK.int IntKind.i64) (MVs.strs (mput l [i] x)))])))) ∧ (((mhas l [i]) = true) → (R (AV.one (AC.int IntKind.i64 200)) [(200000, Blk.own 73 [(Seg.cells [(AC.map 200001)]), (Seg.cells [(AC.int IntKind.i64 at_)])]), (200001, Blk.map (KK.int IntKind.i64) (MVs.strs l))])))))) := by kernel_rfl
theorem snext_vc (R : AV → Mem → Prop) (fuel : Nat) (l : List (List Int × ByteArray)) (at_ : Int) : callsx Try.prog gam0 [] Try.f21 (fuel + 1) [.one (.ptr 200000 0 0)] [(200000, .own 73 [.cells [.map 200001], .cells [.int .i64 at_]]), (200001, .map (.int .i64) (.strs l))] R = (((((bnot (mhas l [at_])) = true) → (R (AV.tup [(TV.c (AC.str (ByteArray.mk (Array.mk [])))), (TV.c (AC.lit false))]) [(200000, Blk.own 73 [(Seg.cells [(AC.map 200001)]), (Seg.cells [(AC.int IntKind.i64 at_)])]), (200001, Blk.map (KK.int IntKind.i64) (MVs.strs l))])) ∧ (((bnot (mhas l [at_])) = false) → (R (AV.tup [(TV.c (AC.str (mget (ByteArray.mk (Array.mk [])) l [at_]))), (TV.c (AC.lit true))]) [(200000, Blk.own 73 [(Seg.cells [(AC.map 200001)]), (Seg.cells [(AC.int IntKind.i64 (add IntKind.i64 at_ 1))])]), (200001, Blk.map (KK.int IntKind.i64) (MVs.strs (mdel l [at_])))])))) := by kernel_rfl
theorem mixed : Try.prog.follows .mixedOrders = true := by kernel_rfl
end Go.Proofs.Ytgobpelclchnfaa.G
namespace Go.Sx
open Go
theorem bufAt_open {T : TypeId} {σ : Mem} {n : Nat} {K : TypeId → Nat → MVs → Int → Prop} (h : bufAt T σ n K) : ∃ m v at_, Mem.find σ n = some (.own T [.cells [.map m], .cells [.int .i64 at_]]) ∧ Mem.find σ m = some (.map (.int .i64) v) ∧ isHeap n = false ∧ isHeap m = false ∧ K T m v at_ := by
 unfold bufAt at h
 split at h <;> try exact h.elim
 rename_i T' m at_ h1
 split at h <;> try exact h.elim
 rename_i v h2 h3
 rw [Bool.or_eq_false_iff, Bool.or_eq_false_iff] at h3
 obtain ⟨⟨h3, h4⟩, h5⟩ := h3
 have h5 : T' = T := beq_nat (by cases q : Nat.beq T' T <;> rw [q] at h5 <;> first | rfl | cases h5)
 subst h5
 exact ⟨m, v, at_, h1, h2, h3, h4, h⟩
def bufπ (n m : Nat) (x : Nat) : Nat := if x = 200000 then n else if x = 200001 then m else x
def bufτ (T : TypeId) (v : MVs) (at_ : Int) : Mem := [(200000, .own T [.cells [.map 200001], .cells [.int .i64 at_]]), (200001, .map (.int .i64) v)]
theorem bufτ_find {T : TypeId} {v : MVs} {at_ : Int} {x : Nat} {b : Blk} (h : Mem.find (bufτ T v at_) x = some b) : (x = 200000 ∧ b = .own T [.cells [.map 200001], .cells [.int .i64 at_]]) ∨ (x = 200001 ∧ b = .map (.int .i64) v) := by
 simp only [bufτ, Mem.find] at h
 split at h
 ·rename_i e; cases h; exact Or.inl ⟨e.symm, rfl⟩
 ·split at h
  ·rename_i e; cases h; exact Or.inr ⟨e.symm, rfl⟩
  ·cases h
theorem buf_enter {σ : Mem} {n m : Nat} {T : TypeId} {v : MVs} {at_ : Int} (h1 : Mem.find σ n = some (.own T [.cells [.map m], .cells [.int .i64 at_]])) (h2 : Mem.find σ m = some (.map (.int .i64) v)) (h3 : isHeap n = false) (h4 : isHeap m = false) :
  n ≠ m ∧ Enter (bufπ n m) σ (bufτ T v at_) := by
 have hne : n ≠ m := fun e => by subst e; rw [h1] at h2; cases h2
 refine ⟨hne, ⟨fun x hx => ?_, fun x hx => ?_⟩, fun g => ?_, fun x y b c hx hy hxy => ?_, fun x b hx => ?_, fun x b hx hh => ?_⟩
 ·have := isHeap_le hx; unfold bufπ; rw [if_neg (by omega), if_neg (by omega)]
 ·unfold bufπ; split
  ·exact h3
  ·split
   ·exact h4
   ·exact hx
 ·unfold bufπ gname; rw [if_neg (by omega), if_neg (by omega)]
 ·rcases bufτ_find hx with ⟨rfl, _⟩ | ⟨rfl, _⟩ <;> rcases bufτ_find hy with ⟨rfl, _⟩ | ⟨rfl, _⟩ <;> simp [bufπ] at hxy ⊢
  ·exact absurd hxy hne
  ·exact absurd hxy.symm hne
 ·rcases bufτ_find hx with ⟨rfl, rfl⟩ | ⟨rfl, rfl⟩
  ·exact ⟨by omega, _, by rw [show bufπ n m 200000 = n from rfl]; exact h1, .same _⟩
  ·exact ⟨by omega, _, by rw [show bufπ n m 200001 = m from rfl]; exact h2, .same _⟩
 ·rcases bufτ_find hx with ⟨rfl, rfl⟩ | ⟨rfl, rfl⟩ <;> simp [isHeap_no] at hh
theorem buf_leave {σ σ2 σ' : Mem} {n m d news : Nat} {T : TypeId} {v v' : MVs} {at_ at' : Int} {K : AV → Mem → Prop} {av av0 : AV} (hne : n ≠ m) (h1 : Mem.find σ2 200000 = some (.own T [.cells [.map 200001], .cells [.int .i64 at']])) (h2 : Mem.find σ2 200001 = some (.map (.int .i64) v'))
  (hv : ∀ r, (Blk.map (.int .i64) v').refs r = false) (hp : ∀ r, av.refs r = false) (hσ : ∀ x b, Mem.find σ' x = some b → (x = n ∧ b = .own T [.cells [.map m], .cells [.int .i64 at']]) ∨ (x = m ∧ b = .map (.int .i64) v') ∨ (x ≠ n ∧ x ≠ m ∧ Mem.find σ x = some b))
  (hup : ∀ ρ v, SRep ρ av v → SRep ρ av0 v) (hK : K av0 σ') : Leave (bufπ n m) d news σ (bufτ T v at_) K av σ2 := by
 have k0 : Known (bufπ n m) (bufτ T v at_) [] 200000 := Or.inr (Or.inr ⟨isHeap_no (Or.inl (by omega)), by omega, Or.inl rfl⟩)
 have k1 : Known (bufπ n m) (bufτ T v at_) [] 200001 := Or.inr (Or.inr ⟨isHeap_no (Or.inl (by omega)), by omega, Or.inl rfl⟩)
 refine ⟨[], av0, σ', Nat.zero_le _, by simp, fun r hr => (by rw [hp r] at hr; cases hr), fun x b hx => ?_, fun ρ u hu => hup ρ u (by rwa [ren_plain hp] at hu), hK⟩
 rcases hσ x b hx with ⟨rfl, rfl⟩ | ⟨rfl, rfl⟩ | ⟨q1, q2, q3⟩
 ·exact Or.inl ⟨200000, _, h1, k0, rfl, fun r hr => (by
   simp only [Blk.refs, Blk.segs, segsRefs, List.any_cons, Seg.refs, AC.refs, List.any_nil, Bool.or_false, beq_iff_eq] at hr
   subst hr; exact k1), rfl, rfl⟩
 ·exact Or.inl ⟨200001, _, h2, k1, rfl, fun r hr => (by rw [hv r] at hr; cases hr), rfl, rfl⟩
 ·refine Or.inr ⟨q3, fun y c hy e => ?_⟩
  rcases bufτ_find hy with ⟨rfl, _⟩ | ⟨rfl, _⟩
  ·exact absurd e.symm q1
  ·exact absurd e.symm q2
end Go.Sx
namespace Go.Proofs.Ytgobpelclchnfaa.G
open Go Go.Sx
set_option maxRecDepth 20000
theorem bufE_neg {α : Type} {l : List (List Int × α)} {at_ i : Int} (h : i < 0) : bufE l at_ i = 2 := by unfold bufE; rw [if_pos h]
theorem bufE_has {α : Type} {l : List (List Int × α)} {at_ i : Int} (h : ¬ i < 0) (g : mhas l [i] = true) : bufE l at_ i = 200 := by unfold bufE; rw [if_neg h, if_pos g]
theorem bufE_low {α : Type} {l : List (List Int × α)} {at_ i : Int} (h : ¬ i < 0) (g : mhas l [i] = false) (q : i < at_) : bufE l at_ i = 200 := by unfold bufE; rw [if_neg h, if_neg (by rw [g]; simp), if_pos q]
theorem bufE_ok {α : Type} {l : List (List Int × α)} {at_ i : Int} (h : ¬ i < 0) (g : mhas l [i] = false) (q : ¬ i < at_) : bufE l at_ i = 0 := by unfold bufE; rw [if_neg h, if_neg (by rw [g]; simp), if_neg q]
theorem bufP_no {α : Type} {l : List (List Int × α)} {at_ i : Int} {x : α} (h : bufE l at_ i ≠ 0) : bufP l at_ i x = l := by unfold bufP; rw [if_neg h]
theorem bufP_ok {α : Type} {l : List (List Int × α)} {at_ i : Int} {x : α} (h : bufE l at_ i = 0) : bufP l at_ i x = mput l [i] x := by unfold bufP; rw [if_pos h]
theorem srep_int_eq {k : IntKind} {a b : Int} (e : a = b) : ∀ ρ v, SRep ρ (.one (.int k a)) v → SRep ρ (.one (.int k b)) v := fun ρ v h => by subst e; exact h
theorem put_find {σ : Mem} {n m : Nat} {T : TypeId} {v v' : MVs} {at_ : Int} (hne : n ≠ m) (h1 : Mem.find σ n = some (.own T [.cells [.map m], .cells [.int .i64 at_]])) (h2 : Mem.find σ m = some (.map (.int .i64) v)) : ∀ x b, Mem.find (σ.put m (.map (.int .i64) v')) x = some b →
  (x = n ∧ b = .own T [.cells [.map m], .cells [.int .i64 at_]]) ∨ (x = m ∧ b = .map (.int .i64) v') ∨ (x ≠ n ∧ x ≠ m ∧ Mem.find σ x = some b) := fun x b hx => by
 rw [find_put] at hx
 split at hx
 ·rename_i e; subst e; rw [h2] at hx; cases hx; exact Or.inr (Or.inl ⟨rfl, rfl⟩)
 ·rename_i e
  by_cases q : x = n
  ·subst q; rw [h1] at hx; cases hx; exact Or.inl ⟨rfl, rfl⟩
  ·exact Or.inr (Or.inr ⟨q, e, hx⟩)
theorem same_find {σ : Mem} {n m : Nat} {T : TypeId} {v : MVs} {at_ : Int} (h1 : Mem.find σ n = some (.own T [.cells [.map m], .cells [.int .i64 at_]])) (h2 : Mem.find σ m = some (.map (.int .i64) v)) : ∀ x b, Mem.find σ x = some b →
  (x = n ∧ b = .own T [.cells [.map m], .cells [.int .i64 at_]]) ∨ (x = m ∧ b = .map (.int .i64) v) ∨ (x ≠ n ∧ x ≠ m ∧ Mem.find σ x = some b) := fun x b hx => by
 by_cases e : x = m
 ·subst e; rw [h2] at hx; cases hx; exact Or.inr (Or.inl ⟨rfl, rfl⟩)
 ·by_cases q : x = n
  ·subst q; rw [h1] at hx; cases hx; exact Or.inl ⟨rfl, rfl⟩
  ·exact Or.inr (Or.inr ⟨q, e, hx⟩)
theorem both_find {σ : Mem} {n m : Nat} {T : TypeId} {v v' : MVs} {at_ at' : Int} (hne : n ≠ m) (h1 : Mem.find σ n = some (.own T [.cells [.map m], .cells [.int .i64 at_]])) (h2 : Mem.find σ m = some (.map (.int .i64) v)) : ∀ x b, Mem.find ((σ.put m (.map (.int .i64) v')).put n (.own T [.cells [.map m], .cells [.int .i64 at']])) x = some b →
  (x = n ∧ b = .own T [.cells [.map m], .cells [.int .i64 at']]) ∨ (x = m ∧ b = .map (.int .i64) v') ∨ (x ≠ n ∧ x ≠ m ∧ Mem.find σ x = some b) := fun x b hx => by
 rw [find_put] at hx
 split at hx
 ·rename_i e
  subst e
  rw [find_put, if_neg hne, h1] at hx
  cases hx
  exact Or.inl ⟨rfl, rfl⟩
 ·rename_i e
  rcases put_find hne h1 h2 x b hx with ⟨q, _⟩ | q | q
  ·exact absurd q e
  ·exact Or.inr (Or.inl q)
  ·exact Or.inr (Or.inr q)
theorem nil_leave {d news : Nat} {σ : Mem} {K : AV → Mem → Prop} {av av0 : AV} (hp : ∀ r, av.refs r = false) (hup : ∀ ρ v, SRep ρ av v → SRep ρ av0 v) (hK : K av0 σ) : Leave (fun n => n) d news σ [] K av [] :=
 ⟨[], av0, σ, Nat.zero_le _, by simp, fun r hr => (by rw [hp r] at hr; cases hr), fun m b hm => Or.inr ⟨hm, fun n c hc => by simp [Mem.find] at hc⟩, fun ρ v hv => hup ρ v (by rwa [ren_plain hp] at hv), hK⟩
theorem nil_enter (σ : Mem) : Enter (fun n => n) σ [] := ⟨⟨fun _ _ => rfl, fun _ h => h⟩, fun _ => rfl, fun n m b c h => by simp [Mem.find] at h, fun n b h => by simp [Mem.find] at h, fun n b h => by simp [Mem.find] at h⟩
theorem ren_id (x : AV) : x.ren (fun n => n) = x := by
 have ac : AC.ren (fun n => n) = id := funext fun a => by cases a <;> rfl
 have sg : Seg.ren (fun n => n) = id := funext fun s => by
  cases s with
  | cells cs => show Seg.cells (cs.map (AC.ren fun n => n)) = .cells cs; rw [ac, List.map_id]
  | _ => rfl
 have tv : TV.ren (fun n => n) = id := funext fun t => by
  cases t with
  | c a => show TV.c (AC.ren (fun n => n) a) = .c a; rw [ac]; rfl
  | g s => show TV.g (s.map (Seg.ren fun n => n)) = .g s; rw [sg, List.map_id]
 cases x with
 | one a => show AV.one (AC.ren (fun n => n) a) = .one a; rw [ac]; rfl
 | agg s => show AV.agg (s.map (Seg.ren fun n => n)) = .agg s; rw [sg, List.map_id]
 | undef => rfl
 | tup vs => show AV.tup (vs.map (TV.ren fun n => n)) = .tup vs; rw [tv, List.map_id]
theorem put_ends {α : Type} {V : List (List Int × α) → MVs} {l : List (List Int × α)} {at_ i : Int} {x : α} {σ : Mem} {n m d : Nat} {T : TypeId} {K : AV → Mem → Prop} (hne : n ≠ m) (h1 : Mem.find σ n = some (.own T [.cells [.map m], .cells [.int .i64 at_]])) (h2 : Mem.find σ m = some (.map (.int .i64) (V l)))
  (hV : ∀ l r, (Blk.map (.int .i64) (V l)).refs r = false) (hK : K (.one (.int .i64 (bufE l at_ i))) (σ.put m (.map (.int .i64) (V (bufP l at_ i x))))) {e : Int} (he : e = bufE l at_ i) {l' : List (List Int × α)} (hl : l' = bufP l at_ i x) :
  Leave (bufπ n m) d 0 σ (bufτ T (V l) at_) K (.one (.int .i64 e)) [(200000, .own T [.cells [.map 200001], .cells [.int .i64 at_]]), (200001, .map (.int .i64) (V l'))] :=
 buf_leave hne rfl (by subst hl; rfl) (hV _) (fun _ => rfl) (put_find hne h1 h2) (srep_int_eq he) hK
theorem good_put : Sx.Good Try.prog 15 (putS 66) := by
 refine Good.inl (D := []) mixed (good0 _) Try.func15 (by kernel_rfl) rfl fun d args σ K h hn => ?_
 simp only [putS] at h
 split at h <;> try exact h.elim
 ·rename_i i x
  exact ⟨_, [.one (.con (.pointer none)), .one (.int .i64 i), .one (.int .i64 x)], [], nil_enter σ, by simp [ren_id], 1, by rw [bputn_vc]; exact nil_leave (fun _ => rfl) (fun _ _ h => h) h⟩
 ·rename_i n i x
  obtain ⟨m, v, at_, h1, h2, h3, h4, h⟩ := bufAt_open h
  split at h <;> try exact h.elim
  rename_i l
  obtain ⟨hne, hE⟩ := buf_enter h1 h2 h3 h4
  refine ⟨_, [.one (.ptr 200000 0 0), .one (.int .i64 i), .one (.int .i64 x)], bufτ 66 (.ints .i64 l) at_, hE, by simp [AV.ren, AC.ren, bufπ], 1, ?_⟩
  have end_ := fun {e : Int} (he : e = bufE l at_ i) {l' : List (List Int × Int)} (hl : l' = bufP l at_ i x) => put_ends (d := d) (V := .ints .i64) hne h1 h2 (fun _ _ => rfl) h he hl
  rw [bufτ, bput_vc]
  refine ⟨fun q => ?_, fun q => ⟨fun q1 => ⟨fun q2 => ?_, fun q2 => ?_⟩, fun q1 => ?_⟩⟩
  ·rw [ilt_true] at q
   have e := bufE_neg (l := l) (at_ := at_) q
   exact end_ e.symm (bufP_no (by rw [e]; decide)).symm
  ·rw [ilt_false] at q; rw [ilt_true] at q2
   have e := bufE_low (l := l) (at_ := at_) (by omega) q1 q2
   exact end_ e.symm (bufP_no (by rw [e]; decide)).symm
  ·rw [ilt_false] at q q2
   have e := bufE_ok (l := l) (at_ := at_) (by omega) q1 (by omega)
   exact end_ e.symm (bufP_ok e).symm
  ·rw [ilt_false] at q
   have e := bufE_has (l := l) (at_ := at_) (by omega) q1
   exact end_ e.symm (bufP_no (by rw [e]; decide)).symm
theorem good_sput : Sx.Good Try.prog 20 (sputS 73) := by
 refine Good.inl (D := []) mixed (good0 _) Try.func20 (by kernel_rfl) rfl fun d args σ K h hn => ?_
 simp only [sputS] at h
 split at h <;> try exact h.elim
 rename_i n i x
 obtain ⟨m, v, at_, h1, h2, h3, h4, h⟩ := bufAt_open h
 split at h <;> try exact h.elim
 rename_i l
 obtain ⟨hne, hE⟩ := buf_enter h1 h2 h3 h4
 refine ⟨_, [.one (.ptr 200000 0 0), .one (.int .i64 i), .one (.str x)], bufτ 73 (.strs l) at_, hE, by simp [AV.ren, AC.ren, bufπ], 1, ?_⟩
 have end_ := fun {e : Int} (he : e = bufE l at_ i) {l' : List (List Int × ByteArray)} (hl : l' = bufP l at_ i x) => put_ends (d := d) (V := .strs) hne h1 h2 (fun _ _ => rfl) h he hl
 rw [bufτ, sput_vc]
 refine ⟨fun q => ?_, fun q => ⟨fun q1 => ⟨fun q2 => ?_, fun q2 => ?_⟩, fun q1 => ?_⟩⟩
 ·rw [ilt_true] at q
  have e := bufE_neg (l := l) (at_ := at_) q
  exact end_ e.symm (bufP_no (by rw [e]; decide)).symm
 ·rw [ilt_false] at q; rw [ilt_true] at q2
  have e := bufE_low (l := l) (at_ := at_) (by omega) q1 q2
  exact end_ e.symm (bufP_no (by rw [e]; decide)).symm
 ·rw [ilt_false] at q q2
  have e := bufE_ok (l := l) (at_ := at_) (by omega) q1 (by omega)
  exact end_ e.symm (bufP_ok e).symm
 ·rw [ilt_false] at q
  have e := bufE_has (l := l) (at_ := at_) (by omega) q1
  exact end_ e.symm (bufP_no (by rw [e]; decide)).symm
theorem bufN_yes {α : Type} {l : List (List Int × α)} {at_ : Int} (h : mhas l [at_] = true) : bufN l at_ = add .i64 at_ 1 := by unfold bufN; rw [if_pos h]
theorem bufN_no {α : Type} {l : List (List Int × α)} {at_ : Int} (h : mhas l [at_] = false) : bufN l at_ = at_ := by unfold bufN; rw [if_neg (by rw [h]; simp)]
theorem mat_no {α : Type} {l : List (List Int × α)} {x : List Int} (h : mhas l x = false) : mat l x = none := by
 cases hq : mat l x with
 | none => rfl
 | some i => obtain ⟨_, _, _, g, _⟩ := mat_hit hq; rw [h] at g; cases g
theorem srep_tup2 {x : AC} {b : Bool} (q : Bool) (h : b = q) : ∀ ρ v, SRep ρ (.tup [.c x, .c (.lit b)]) v → SRep ρ (.tup [.c x, .c (.bool q)]) v := fun ρ v hv => by
 subst h
 obtain ⟨us, e, hl, hall⟩ := hv
 refine ⟨us, e, hl, fun j t u ht hu => ?_⟩
 match j with
 | 0 => simp at ht; subst ht; exact hall 0 _ u rfl hu
 | 1 => simp at ht; subst ht; exact hall 1 (.c (.lit b)) u rfl hu
 | j + 2 => simp at ht
theorem good_next : Sx.Good Try.prog 16 (nextS 66) := by
 refine Good.inl (D := []) mixed (good0 _) Try.func16 (by kernel_rfl) rfl fun d args σ K h hn => ?_
 simp only [nextS] at h
 split at h <;> try exact h.elim
 ·exact ⟨_, [.one (.con (.pointer none))], [], nil_enter σ, by simp [ren_id], 1, by rw [bnextn_vc]; exact nil_leave (fun _ => rfl) (fun _ _ h => h) h⟩
 ·rename_i n
  obtain ⟨m, v, at_, h1, h2, h3, h4, h⟩ := bufAt_open h
  split at h <;> try exact h.elim
  rename_i l
  obtain ⟨hne, hE⟩ := buf_enter h1 h2 h3 h4
  refine ⟨_, [.one (.ptr 200000 0 0)], bufτ 66 (.ints .i64 l) at_, hE, by simp [AV.ren, AC.ren, bufπ], 1, ?_⟩
  rw [bufτ, bnext_vc]
  refine ⟨fun q => ?_, fun q => ?_⟩
  ·have q : mhas l [at_] = false := by cases hq : mhas l [at_] <;> rw [hq] at q <;> first | rfl | cases q
   obtain ⟨_, g2, _, g4⟩ := mat_miss (mat_no q)
   rw [g2, g4, bufN_no q, q] at h
   exact buf_leave hne rfl rfl (fun _ => rfl) (fun _ => rfl) (both_find hne h1 h2) (srep_tup2 _ rfl) h
  ·have q : mhas l [at_] = true := by cases hq : mhas l [at_] <;> rw [hq] at q <;> first | rfl | cases q
   rw [bufN_yes q, q] at h
   exact buf_leave hne rfl rfl (fun _ => rfl) (fun _ => rfl) (both_find hne h1 h2) (srep_tup2 _ rfl) h
theorem good_snext : Sx.Good Try.prog 21 (snextS 73) := by
 refine Good.inl (D := []) mixed (good0 _) Try.func21 (by kernel_rfl) rfl fun d args σ K h hn => ?_
 simp only [snextS] at h
 split at h <;> try exact h.elim
 rename_i n
 obtain ⟨m, v, at_, h1, h2, h3, h4, h⟩ := bufAt_open h
 split at h <;> try exact h.elim
 rename_i l
 obtain ⟨hne, hE⟩ := buf_enter h1 h2 h3 h4
 refine ⟨_, [.one (.ptr 200000 0 0)], bufτ 73 (.strs l) at_, hE, by simp [AV.ren, AC.ren, bufπ], 1, ?_⟩
 rw [bufτ, snext_vc]
 refine ⟨fun q => ?_, fun q => ?_⟩
 ·have q : mhas l [at_] = false := by cases hq : mhas l [at_] <;> rw [hq] at q <;> first | rfl | cases q
  obtain ⟨_, g2, _, g4⟩ := mat_miss (mat_no q)
  rw [g2, g4, bufN_no q, q] at h
  exact buf_leave hne rfl rfl (fun _ => rfl) (fun _ => rfl) (both_find hne h1 h2) (srep_tup2 _ rfl) h
 ·have q : mhas l [at_] = true := by cases hq : mhas l [at_] <;> rw [hq] at q <;> first | rfl | cases q
  rw [bufN_yes q, q] at h
  exact buf_leave hne rfl rfl (fun _ => rfl) (fun _ => rfl) (both_find hne h1 h2) (srep_tup2 _ rfl) h
theorem good_at : Sx.Good Try.prog 17 (atS 66) := by
 refine Good.inl (D := []) mixed (good0 _) Try.func17 (by kernel_rfl) rfl fun d args σ K h hn => ?_
 simp only [atS] at h
 split at h <;> try exact h.elim
 ·exact ⟨_, [.one (.con (.pointer none))], [], nil_enter σ, by simp [ren_id], 1, by rw [batn_vc]; exact nil_leave (fun _ => rfl) (fun _ _ h => h) h⟩
 ·rename_i n
  obtain ⟨m, v, at_, h1, h2, h3, h4, h⟩ := bufAt_open h
  split at h <;> try exact h.elim
  rename_i l
  obtain ⟨hne, hE⟩ := buf_enter h1 h2 h3 h4
  refine ⟨_, [.one (.ptr 200000 0 0)], bufτ 66 (.ints .i64 l) at_, hE, by simp [AV.ren, AC.ren, bufπ], 1, ?_⟩
  rw [bufτ, bat_vc]
  exact buf_leave hne rfl rfl (fun _ => rfl) (fun _ => rfl) (same_find h1 h2) (fun _ _ h => h) h
theorem good_held : Sx.Good Try.prog 18 (heldS 66) := by
 refine Good.inl (D := []) mixed (good0 _) Try.func18 (by kernel_rfl) rfl fun d args σ K h hn => ?_
 simp only [heldS] at h
 split at h <;> try exact h.elim
 ·exact ⟨_, [.one (.con (.pointer none))], [], nil_enter σ, by simp [ren_id], 1, by rw [bheldn_vc]; exact nil_leave (fun _ => rfl) (fun _ _ h => h) h⟩
 ·rename_i n
  obtain ⟨m, v, at_, h1, h2, h3, h4, h⟩ := bufAt_open h
  split at h <;> try exact h.elim
  rename_i l
  obtain ⟨hne, hE⟩ := buf_enter h1 h2 h3 h4
  refine ⟨_, [.one (.ptr 200000 0 0)], bufτ 66 (.ints .i64 l) at_, hE, by simp [AV.ren, AC.ren, bufπ], 1, ?_⟩
  rw [bufτ, bheld_vc]
  exact buf_leave hne rfl rfl (fun _ => rfl) (fun _ => rfl) (same_find h1 h2) (fun _ _ h => h) h
theorem new_leave {σ : Mem} {d : Nat} {T : TypeId} {v : MVs} {K : AV → Mem → Prop} (hv : ∀ r, (Blk.map (.int .i64) v).refs r = false) (hn : ∀ k, k < 2 → d + 10000 * k < 200000 ∧ memRefs (d + 10000 * k) σ = false) (h : K (.one (.ptr d 0 0)) (Mem.ins (d + 10000) (.map (.int .i64) v) (Mem.ins d (.own T [.cells [.map (d + 10000)], .cells [.int .i64 0]]) σ))) :
  Leave (fun n => n) d 2 σ [] K (.one (.ptr 3 0 0)) [(1, .map (.int .i64) v), (3, .own T [.cells [.map 1], .cells [.int .i64 0]])] := by
 have f0 := memRefs_none (hn 0 (by omega)).2
 have f1 := memRefs_none (hn 1 (by omega)).2
 rw [Nat.mul_zero, Nat.add_zero] at f0
 rw [Nat.mul_one] at f1
 have r3 : renew (fun n => n) d 0 [3, 1] 3 = d := by simp [renew]
 have r1 : renew (fun n => n) d 0 [3, 1] 1 = d + 10000 := by simp [renew]
 refine ⟨[3, 1], .one (.ptr d 0 0), _, by simp, by simp, fun r hr => ?_, fun x b hx => ?_, fun ρ u hu => ?_, h⟩
 ·have : 3 = r := by simpa [AV.refs, AC.refs] using hr
  subst this; exact Or.inl (by simp)
 ·rw [find_ins2 (by rw [find_ins2 f0, if_neg (by omega)]; exact f1)] at hx
  split at hx
  ·rename_i e; cases hx
   exact Or.inl ⟨1, _, rfl, Or.inl (by simp), rfl, fun r hr => (by rw [hv r] at hr; cases hr), by rw [r1]; exact e.symm, rfl⟩
  ·rw [find_ins2 f0] at hx
   split at hx
   ·rename_i e; cases hx
    refine Or.inl ⟨3, _, rfl, Or.inl (by simp), rfl, fun r hr => ?_, by rw [r3]; exact e.symm, ?_⟩
    ·simp only [Blk.refs, Blk.segs, segsRefs, List.any_cons, Seg.refs, AC.refs, List.any_nil, Bool.or_false, beq_iff_eq] at hr
     subst hr; exact Or.inl (by simp)
    ·show Blk.own T _ = .own T [.cells [.map (renew (fun n => n) d 0 [3, 1] 1)], .cells [.int .i64 0]]
     rw [r1]
   ·exact Or.inr ⟨hx, fun n c hc => by simp [Mem.find] at hc⟩
 ·have e : AV.ren (renew (fun n => n) d 0 [3, 1]) (.one (.ptr 3 0 0)) = .one (.ptr d 0 0) := by show AV.one (.ptr (renew (fun n => n) d 0 [3, 1] 3) 0 0) = _; rw [r3]
  rw [e] at hu; exact hu
theorem good_new : Sx.Good Try.prog 12 (newS 66 (.ints .i64 [])) := by
 refine Good.inl (D := []) mixed (good0 _) Try.func12 (by kernel_rfl) rfl fun d args σ K h hn => ?_
 simp only [newS] at h
 split at h <;> try exact h.elim
 exact ⟨_, [], [], nil_enter σ, rfl, 1, by rw [bnew_vc]; exact new_leave (fun _ => rfl) hn h⟩
theorem good_snew : Sx.Good Try.prog 19 (newS 73 (.strs [])) := by
 refine Good.inl (D := []) mixed (good0 _) Try.func19 (by kernel_rfl) rfl fun d args σ K h hn => ?_
 simp only [newS] at h
 split at h <;> try exact h.elim
 exact ⟨_, [], [], nil_enter σ, rfl, 1, by rw [snew_vc]; exact new_leave (fun _ => rfl) hn h⟩
end Go.Proofs.Ytgobpelclchnfaa.G
namespace Go.Sx
open Go Go.ChangeShapes Go.WideShapes Go.ChangeAt Go.RowKit
def KdAt (w : World) (k : Kd) (cs : List Value) (o : Nat) : Prop :=
 match k with
 | .ints q => ∃ n, cs[o]? = some (.int q n) ∧ (Lit.int q n).wf = true
 | .bools => ∃ b, cs[o]? = some (.bool b)
 | .arrs q m => ∃ l : List Int, l.length = m ∧ (∀ (j : Nat) x, l[j]? = some x → cs[o + j]? = some (.int q x)) ∧ ∀ x ∈ l, (Lit.int q x).wf = true
 | .rows q => ∃ A L C Z, cs[o]? = some (.slice A L C) ∧ IsRow q w A L C Z ∧ Z.length ≤ reachBytes
 | .strs => ∃ b, cs[o]? = some (.string b)
def KdsAt (w : World) : List Kd → List Value → Nat → Prop
 | [], _, _ => True
 | k :: r, cs, o => KdAt w k cs o ∧ KdsAt w r cs (o + k.width)
theorem KdsAt.append {w : World} {cs : List Value} : ∀ {a b : List Kd} {o : Nat}, KdsAt w a cs o → KdsAt w b cs (o + width a) → KdsAt w (a ++ b) cs o
 | [], b, o, _, h => by simpa [width] using h
 | k :: a, b, o, h, g => ⟨h.1, KdsAt.append h.2 (by simpa [width, Nat.add_assoc] using g)⟩
theorem KdAt.shift {w : World} {cs : List Value} {o z : Nat} {k : Kd} {p : Nat} (hp : p + k.width ≤ z) (h : KdAt w k ((cs.drop o).take z) p) : KdAt w k cs (o + p) := by
 have get : ∀ i, i < z → ((cs.drop o).take z)[i]? = cs[o + i]? := fun i hi => by rw [List.getElem?_take, if_pos hi, List.getElem?_drop]
 cases k with
 | ints q =>
  obtain ⟨n, h1, h2⟩ := h
  exact ⟨n, by rw [← get p (by simp [Kd.width] at hp; omega)]; exact h1, h2⟩
 | bools =>
  obtain ⟨b, h1⟩ := h
  exact ⟨b, by rw [← get p (by simp [Kd.width] at hp; omega)]; exact h1⟩
 | arrs q m =>
  obtain ⟨l, h1, h2, h3⟩ := h
  refine ⟨l, h1, fun j x hj => ?_, h3⟩
  have : j < m := by rw [← h1]; exact (List.getElem?_eq_some_iff.1 hj).1
  rw [Nat.add_assoc, ← get (p + j) (by simp [Kd.width] at hp; omega)]
  exact h2 j x hj
 | strs =>
  obtain ⟨b, h1⟩ := h
  exact ⟨b, by rw [← get p (by simp [Kd.width] at hp; omega)]; exact h1⟩
 | rows q =>
  obtain ⟨A, L, C, Z, h1, h2⟩ := h
  exact ⟨A, L, C, Z, by rw [← get p (by simp [Kd.width] at hp; omega)]; exact h1, h2⟩
theorem KdsAt.shift {w : World} {cs : List Value} {o z : Nat} : ∀ {ks : List Kd} {p : Nat}, p + width ks ≤ z → KdsAt w ks ((cs.drop o).take z) p → KdsAt w ks cs (o + p)
 | [], _, _, _ => trivial
 | k :: r, p, hp, h => ⟨h.1.shift (by simp [width] at hp; omega), by have := KdsAt.shift (ks := r) (p := p + k.width) (by simp [width] at hp; omega) h.2; rwa [← Nat.add_assoc] at this⟩
section
variable {H : Type} {enc : TypeId × Value → H} {P : Program} {w : World} {base : Nat} {held : Bool}
end
def Col.wf : Col → Prop
 | .ints k l => ∀ x ∈ l, (Lit.int k x).wf = true
 | .bools _ => True
 | .arrs k _ ll => ∀ l ∈ ll, ∀ x ∈ l, (Lit.int k x).wf = true
 | .rows k ll => ∀ l ∈ ll, l.length ≤ reachBytes ∧ ∀ x ∈ l, (Lit.int k x).wf = true
 | .strs _ => True
 | .hss _ _ => False
theorem wf_noHss {cs : List Col} (h : ∀ col ∈ cs, col.wf) : noHss cs = true := by
 simp only [noHss, List.all_eq_true, Bool.not_eq_true']
 intro c hc
 have := h c hc
 cases c <;> first | rfl | exact this.elim
section
variable {H : Type} {enc : TypeId × Value → H} {P : Program} {w : World}
theorem LawArgs.recs {j : Nat} {A : Option Addr} {len cap : Nat} {L : Loc} {cs : List Col} {xs : List AV} {vs : List Value} {τ : Mem} (hV : VRep w L cs) (hv : Value.slice A len cap = .slice L.a L.len L.cap) (t : LawArgs w (j + 1) xs vs τ) (hj : j < 1000 := by decide) (hn : noHss cs = true := by first | rfl | exact wf_noHss (by assumption)) :
  LawArgs w j (.one (.vec (200000 + j)) :: xs) (.slice A len cap :: vs) ((200000 + j, .rview cs) :: τ) := .row L cs hj hV hv t hn
theorem KdsAt.rows {q : IntKind} {r : List Kd} {cs : List Value} {o : Nat} (h : KdsAt w (.rows q :: r) cs o) : ∃ A L C Z, IsRow q w A L C Z ∧ Z.length ≤ reachBytes ∧ cs.drop o = .slice A L C :: cs.drop (o + 1) ∧ KdsAt w r cs (o + 1) := by
 obtain ⟨⟨A, L, C, Z, h1, h2, h3⟩, h4⟩ := h
 have hlt := (List.getElem?_eq_some_iff.1 h1)
 obtain ⟨hl, he⟩ := hlt
 exact ⟨A, L, C, Z, h2, h3, by rw [List.drop_eq_getElem_cons hl, he], h4⟩
theorem KdsAt.ints {q : IntKind} {r : List Kd} {cs : List Value} {o : Nat} (h : KdsAt w (.ints q :: r) cs o) : ∃ n, (Lit.int q n).wf = true ∧ cs.drop o = .int q n :: cs.drop (o + 1) ∧ KdsAt w r cs (o + 1) := by
 obtain ⟨⟨n, h1, h2⟩, h4⟩ := h
 obtain ⟨hl, he⟩ := (List.getElem?_eq_some_iff.1 h1)
 exact ⟨n, h2, by rw [List.drop_eq_getElem_cons hl, he], h4⟩
theorem KdsAt.bools {r : List Kd} {cs : List Value} {o : Nat} (h : KdsAt w (.bools :: r) cs o) : ∃ b, cs.drop o = .bool b :: cs.drop (o + 1) ∧ KdsAt w r cs (o + 1) := by
 obtain ⟨⟨b, h1⟩, h4⟩ := h
 obtain ⟨hl, he⟩ := (List.getElem?_eq_some_iff.1 h1)
 exact ⟨b, by rw [List.drop_eq_getElem_cons hl, he], h4⟩
theorem KdsAt.arrs {q : IntKind} {m : Nat} {r : List Kd} {cs : List Value} {o : Nat} (h : KdsAt w (.arrs q m :: r) cs o) (hl : o + m ≤ cs.length) : ∃ l : List Int, l.length = m ∧ (∀ x ∈ l, (Lit.int q x).wf = true) ∧ cs.drop o = l.map (Value.int q) ++ cs.drop (o + m) ∧ KdsAt w r cs (o + m) := by
 obtain ⟨⟨l, h1, h2, h3⟩, h4⟩ := h
 refine ⟨l, h1, h3, ?_, h4⟩
 conv => lhs; rw [← List.take_append_drop m (cs.drop o), List.drop_drop]
 congr 1
 refine List.ext_getElem? fun j => ?_
 rw [List.getElem?_take]
 by_cases hj : j < m
 ·rw [if_pos hj, List.getElem?_drop]
  have : l[j]? = some (l[j]'(by omega)) := List.getElem?_eq_getElem (by omega)
  rw [h2 j _ this]
  simp [this]
 ·rw [if_neg hj, List.getElem?_eq_none (by simp; omega)]
end
end Go.Sx
namespace Go.Sx
open Go
structure I64 (i : Int) : Prop where
 lo : -9223372036854775808 ≤ i
 hi : i < 9223372036854775808
structure Pos (i : Int) : Prop where
 lt : 0 < i
def placeI (i n : Int) : Int := if i < 0 then rem (-(i + 1)) n else rem i n
theorem place_fit {i n : Int} (hn : 0 < n) : ∃ m : Nat, placeI i n = (m : Int) ∧ (m : Int) < n := by
 have key : ∀ a : Int, 0 ≤ a → ∃ m : Nat, rem a n = (m : Int) ∧ (m : Int) < n := by
  intro a ha
  refine ⟨(rem a n).toNat, ?_, ?_⟩
  ·have : 0 ≤ rem a n := Int.tmod_nonneg _ ha
   omega
  ·have h1 : 0 ≤ rem a n := Int.tmod_nonneg _ ha
   have h2 : rem a n < n := Int.tmod_lt_of_pos _ hn
   omega
 unfold placeI
 split
 ·exact key _ (by omega)
 ·exact key _ (by omega)
theorem wf_i64 {n : Int} (h : (Lit.int .i64 n).wf = true) : I64 n := by
 obtain ⟨h1, h2⟩ := Go.bounds_i64 h
 exact ⟨by omega, by omega⟩
theorem IsRow.i64 {w : World} {a : Option Addr} {len cap : Nat} {zs : List Int} (h : IsRow .i64 w a len cap zs) : ∀ i, i < (zs.take len).length → I64 (lget (zs.take len) i) := by
 intro i hi
 have hm : lget (zs.take len) i ∈ zs.take len := List.mem_of_getElem? (lget_some hi)
 rcases h with ⟨_, _, _, rfl⟩ | ⟨x, _, _, _, _, _, hw⟩
 ·simp at hi
 ·exact wf_i64 (hw _ (List.mem_of_mem_take hm))
def okR : AV → Mem → Prop := fun av _ => av = .one (.bool true) ∨ av = .one (.lit true)
theorem okR_lit {σ : Mem} : okR (.one (.lit true)) σ := Or.inr rfl
theorem okR_bool {b : Bool} {σ : Mem} (h : b = true) : okR (.one (.bool b)) σ := by subst h; exact Or.inl rfl
def byesS : Spec := ⟨0, false, fun _ args σ K => match args with
 | [] => K (.one (.lit true)) σ
 | _ => False⟩
def bplaceS : Spec := ⟨0, false, fun _ args σ K => match args with
 | [.one (.int .i64 i), .one (.int .i64 n)] => (I64 i ∧ Pos n) ∧ K (.one (.int .i64 (placeI i n))) σ
 | _ => False⟩
def gamO3 : Gam := ext (ext gamO2 11 byesS) 13 bplaceS
end Go.Sx
