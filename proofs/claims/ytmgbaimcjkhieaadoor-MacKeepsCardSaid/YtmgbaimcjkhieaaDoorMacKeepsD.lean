import Derived.Test.YtmgbaimcjkhieaaDoorMacKeepsC
import Derived.OpenShut
import Derived.WideShapes
import Derived.Below
import Derived.WalkKit
import Derived.ProofKit
import Derived.ChangeOld
import Derived.ChangeSlices
import Derived.SizedLaws
import Derived.Test.YtmgbaimcjkhieaaDoorProg
set_option linter.unusedSimpArgs false
set_option linter.unusedVariables false
namespace Go.Mac
open Go Go.Sx Go.Hsh
def keyL (key : List Int) : List Int := if 64 < key.length then sha key else key
def padK (key : List Int) (m : Int) : List Int := tab 64 fun i => bxor .u8 (lget (keyL key) i) m
def hmac (key msg : List Int) : List Int := sha (padK key 92 ++ sha (padK key 54 ++ msg))
noncomputable def tagL : List Int → List Int → List Int := hide hmac
theorem tagL_eq (key msg : List Int) : tagL key msg = hmac key msg := by unfold tagL; rw [hide_eq]
noncomputable def pdW : List Int → Int → List Int := hide fun key m => (stA (padK key m)).1
noncomputable def pdT : List Int → Int → List Int := hide fun key m => (stA (padK key m)).2.1
theorem pdW_eq (key : List Int) (m : Int) : pdW key m = (stA (padK key m)).1 := by unfold pdW; rw [hide_eq]
theorem pdT_eq (key : List Int) (m : Int) : pdT key m = (stA (padK key m)).2.1 := by unfold pdT; rw [hide_eq]
noncomputable def mskL : List Int → Int → List Int := hide padK
theorem mskL_eq (key : List Int) (m : Int) : mskL key m = padK key m := by unfold mskL; rw [hide_eq]
def exT (key info : List Int) : Nat → List Int
 | 0 => []
 | i + 1 => hmac key (exT key info i ++ info ++ [conv .u8 ((i + 1 : Nat) : Int)])
def exO (key info : List Int) : Nat → List Int
 | 0 => []
 | i + 1 => exO key info i ++ exT key info (i + 1)
def exE (n : Int) : Int := if n < 0 then 2 else if 8160 < n then 1 else 0
def exR (key info : List Int) (n : Int) : List Int := if n < 0 then [] else if 8160 < n then [] else (exO key info ((n.toNat + 31) / 32)).take n.toNat
noncomputable def exL : List Int → List Int → Int → List Int := hide exR
theorem exL_eq (key info : List Int) (n : Int) : exL key info n = exR key info n := by unfold exL; rw [hide_eq]
structure Sg (l : List Int) : Prop where
 le : l.length ≤ 150000000000000
structure Sm47 (l : List Int) : Prop where
 le : l.length ≤ 140737488355328
theorem keyL_bytes {key : List Int} (h : Bs key) : Bs (keyL key) := by unfold keyL; split; exact sha_bytes _; exact h
theorem xor_byte {a b : Int} (ha : 0 ≤ a ∧ a < 256) (hb : 0 ≤ b ∧ b < 256) : 0 ≤ bxor .u8 a b ∧ bxor .u8 a b < 256 := by
 obtain ⟨x, rfl⟩ := Int.eq_ofNat_of_zero_le ha.1
 obtain ⟨y, rfl⟩ := Int.eq_ofNat_of_zero_le hb.1
 rw [bxor_u8 (by omega) (by omega)]
 have : x ^^^ y < 2 ^ 8 := Nat.xor_lt_two_pow (by omega) (by omega)
 omega
theorem tab_bytes {n : Nat} {f : Nat → Int} (h : ∀ i, i < n → 0 ≤ f i ∧ f i < 256) : Bs (tab n f) := ⟨fun x hx => by
 unfold tab at hx
 obtain ⟨i, hi, rfl⟩ := List.mem_map.mp hx
 exact h i (List.mem_range.mp hi)⟩
theorem padK_bytes {key : List Int} (h : Bs key) {m : Int} (hm : 0 ≤ m ∧ m < 256) : Bs (padK key m) := tab_bytes fun i _ => xor_byte ((keyL_bytes h).get i) hm
theorem padK_len (key : List Int) (m : Int) : (padK key m).length = 64 := tab_len _ _
theorem hmac_len (key msg : List Int) : (hmac key msg).length = 32 := sha_len _
theorem hmac_bytes (key msg : List Int) : Bs (hmac key msg) := sha_bytes _
theorem exT_len (key info : List Int) {i : Nat} (h : 0 < i) : (exT key info i).length = 32 := by
 cases i with
 | zero => omega
 | succ i => exact hmac_len _ _
theorem exT_le (key info : List Int) (i : Nat) : (exT key info i).length ≤ 32 := by
 cases i with
 | zero => simp [exT]
 | succ i => exact Nat.le_of_eq (hmac_len _ _)
theorem exT_bytes (key info : List Int) (i : Nat) : Bs (exT key info i) := by
 cases i with
 | zero => exact Bs.nil
 | succ i => exact hmac_bytes _ _
theorem exO_len (key info : List Int) : ∀ i, (exO key info i).length = 32 * i
 | 0 => rfl
 | i + 1 => by
  have e : exO key info (i + 1) = exO key info i ++ exT key info (i + 1) := rfl
  rw [e, List.length_append, exO_len key info i, exT_len _ _ (by omega)]; omega
end Go.Mac
namespace Go.Sx
open Go.Hsh Go.Mac
noncomputable def padS : Spec := ⟨0, false, fun _ args σ K => match args with
 | [x, .one (.int .u8 m)] => rdb σ x fun key => (hasRoots σ ∧ Sg key) ∧ K (.agg [.ints .u32 8 (pdW key m), .ints .u8 64 (pdT key m), .cells [.int .u64 64]]) σ
 | _ => False⟩
noncomputable def mmaskS : Spec := ⟨1, false, fun d args σ K => match args with
 | [x, .one (.int .u8 m)] => rdb σ x fun key => (Sg key ∧ Bs key) ∧ K (.one (.vec d)) (Mem.ins d (.vec [.ints .u8 (mskL key m)]) σ)
 | _ => False⟩
noncomputable def tagS : Spec := ⟨0, false, fun _ args σ K => match args with
 | [x, y] => rdb σ x fun key => rdb σ y fun msg => (hasRoots σ ∧ Sg key ∧ Sg msg) ∧ K (.agg [.ints .u8 32 (tagL key msg)]) σ
 | _ => False⟩
noncomputable def rtagS : Spec := ⟨0, false, fun _ args σ K => match args with
 | [x, y] => rdb σ x fun key => rdb σ y fun msg => ((Sg key ∧ Bs key) ∧ Sg msg ∧ Bs msg) ∧ K (.agg [.ints .u8 32 (tagL key msg)]) σ
 | _ => False⟩
def equalS : Spec := ⟨0, false, fun _ args σ K => match args with
 | [x, y] => rdb σ x fun a => rdb σ y fun b => ((Sg a ∧ Bs a) ∧ Sg b ∧ Bs b) ∧ K (.one (.bool (leq a b))) σ
 | _ => False⟩
noncomputable def expandS : Spec := ⟨1, false, fun d args σ K => match args with
 | [x, y, .one (.int .i64 n)] => rdb σ x fun key => rdb σ y fun info => (hasRoots σ ∧ Sg key ∧ Sm47 info) ∧ K (.tup [.c (.vec d), .c (.int .i64 (exE n))]) (Mem.ins d (.vec [.ints .u8 (exL key info n)]) σ)
 | _ => False⟩
noncomputable def rexpandS : Spec := ⟨1, false, fun d args σ K => match args with
 | [x, y, .one (.int .i64 n)] => rdb σ x fun key => rdb σ y fun info => ((Sg key ∧ Bs key) ∧ Sm47 info ∧ Bs info) ∧ K (.tup [.c (.vec d), .c (.int .i64 (exE n))]) (Mem.ins d (.vec [.ints .u8 (exL key info n)]) σ)
 | _ => False⟩
noncomputable def deriveS : Spec := ⟨1, false, fun d args σ K => match args with
 | [x, y, z, .one (.int .i64 n)] => rdb σ x fun secret => rdb σ y fun salt => rdb σ z fun info => (hasRoots σ ∧ Sg secret ∧ Sg salt ∧ Sm47 info) ∧ K (.tup [.c (.vec d), .c (.int .i64 (exE n))]) (Mem.ins d (.vec [.ints .u8 (exL (tagL salt secret) info n)]) σ)
 | _ => False⟩
noncomputable def rderiveS : Spec := ⟨1, false, fun d args σ K => match args with
 | [x, y, z, .one (.int .i64 n)] => rdb σ x fun secret => rdb σ y fun salt => rdb σ z fun info => ((Sg secret ∧ Bs secret) ∧ (Sg salt ∧ Bs salt) ∧ Sm47 info ∧ Bs info) ∧ K (.tup [.c (.vec d), .c (.int .i64 (exE n))]) (Mem.ins d (.vec [.ints .u8 (exL (tagL salt secret) info n)]) σ)
 | _ => False⟩
noncomputable def gamM1 : Gam := ext (ext gamH5 27 padS) 29 mmaskS
noncomputable def gamM2 : Gam := ext (ext gamM1 11 tagS) 13 rtagS
noncomputable def gamM3 : Gam := ext (ext gamM2 17 expandS) 18 rexpandS
noncomputable def gamM3x : Gam := ext (ext (ext (ext gamM3 16 tagS) 14 rtagS) 12 equalS) 15 equalS
noncomputable def gamM4 : Gam := ext (ext gamM3x 19 deriveS) 20 rderiveS
end Go.Sx
namespace Go.Sx
noncomputable def gamM5 : Gam := ext gamM4 9 yesR
end Go.Sx
namespace Go.Sx
open Go Go.ChangeShapes Go.WideShapes Go.ChangeAt Go.RowKit
section
variable {H : Type} {enc : TypeId × Value → H} {P : Program} {w : World} {base : Nat} {sp : Nat → Bool} {held : Bool}
inductive Args (ρ : Rho) : List AV → List Value → Prop
 | nil : Args ρ [] []
 | cons {x v l m} : SRep ρ x v → Args ρ l m → Args ρ (x :: l) (v :: m)
theorem Args.at {ρ : Rho} {l : List AV} {m : List Value} (h : Args ρ l m) : ∀ (j : Nat) x v, l[j]? = some x → m[j]? = some v → SRep ρ x v := by
 induction h with
 | nil => intro j x v h1; simp at h1
 | cons h t ih =>
  intro j x v h1 h2
  cases j with
  | zero => simp only [List.getElem?_cons_zero, Option.some.injEq] at h1 h2; subst h1; subst h2; exact h
  | succ j => exact ih j x v (by simpa using h1) (by simpa using h2)
theorem Args.arr {ρ : Rho} {l : List AV} {vals : Array Value} (h : Args ρ l vals.toList) (j : Nat) (x : AV) (v : Value) (h1 : l[j]? = some x) (h2 : vals[j]? = some v) : SRep ρ x v :=
 h.at j x v h1 (by simpa using h2)
def IsRow (k : IntKind) (w : World) (a : Option Addr) (len cap : Nat) (zs : List Int) : Prop :=
 (a = none ∧ len = 0 ∧ cap = 0 ∧ zs = []) ∨
 ∃ x, a = some x ∧ len ≤ cap ∧ cap ≤ maxLen ∧ zs.length = cap ∧ (∀ i, i < zs.length → w.cell? (x.add i) = some (.int k (zs.getD i 0))) ∧ ∀ n ∈ zs, (Lit.int k n).wf = true
end
inductive AggArgs (w : World) : Nat → List Seg → List Value → Mem → Nat → Prop
 | nil (j : Nat) : AggArgs w j [] [] [] j
 | one {j j' : Nat} {a : AC} {v : Value} {s : List Seg} {cs : List Value} {τ : Mem} : (∀ ρ, CRep ρ a v) → AggArgs w j s cs τ j' → AggArgs w j (.cells [a] :: s) (v :: cs) τ j'
 | arr {j j' m : Nat} {k : IntKind} {l : List Int} {s : List Seg} {cs : List Value} {τ : Mem} : l.length = m → AggArgs w j s cs τ j' → AggArgs w j (.ints k m l :: s) (l.map (Value.int k) ++ cs) τ j'
 | row {j j' : Nat} {v : Value} {s : List Seg} {cs : List Value} {τ : Mem} (L : Loc) (cols : List Col) (hj : j < 1000) : VRep w L cols → v = .slice L.a L.len L.cap → AggArgs w (j + 1) s cs τ j' → (hH : noHss cols = true := by rfl) → AggArgs w j (.cells [.vec (200000 + j)] :: s) (v :: cs) ((200000 + j, .rview cols) :: τ) j'
inductive LawArgs (w : World) : Nat → List AV → List Value → Mem → Prop
 | nil (j : Nat) : LawArgs w j [] [] []
 | plain {j : Nat} {x : AV} {v : Value} {xs : List AV} {vs : List Value} {τ : Mem} : (∀ ρ, SRep ρ x v) → LawArgs w (j + 1) xs vs τ → LawArgs w j (x :: xs) (v :: vs) τ
 | row {j : Nat} {v : Value} {xs : List AV} {vs : List Value} {τ : Mem} (L : Loc) (cs : List Col) (hj : j < 1000) : VRep w L cs → v = .slice L.a L.len L.cap → LawArgs w (j + 1) xs vs τ → (hH : noHss cs = true := by rfl) → LawArgs w j (.one (.vec (200000 + j)) :: xs) (v :: vs) ((200000 + j, .rview cs) :: τ)
 | agg {j j' : Nat} {s : List Seg} {cs : List Value} {xs : List AV} {vs : List Value} {τ τ' : Mem} : AggArgs w j s cs τ' j' → LawArgs w j' xs vs τ → LawArgs w j (.agg s :: xs) (.agg cs.toArray :: vs) (τ' ++ τ)
 | heap {j : Nat} {k : IntKind} {xs : List AV} {vs : List Value} {τ : Mem} : LawArgs w j xs vs τ → LawArgs w j xs vs ((hname k, .heap k [[]]) :: τ)
 | glob {j g : Nat} {s : List Seg} {xs : List AV} {vs : List Value} {τ : Mem} : (∀ ρ, Glob ρ → segsOk s ∧ CellsAt ρ w (gname g) (flat s)) → LawArgs w j xs vs τ → LawArgs w j xs vs ((gname g, .view s) :: τ)
theorem find_append {τ' τ : Mem} {n : Nat} {b : Blk} (h : Mem.find (τ' ++ τ) n = some b) : Mem.find τ' n = some b ∨ Mem.find τ n = some b := by
 induction τ' with
 | nil => exact Or.inr h
 | cons x r ih =>
  obtain ⟨m, y⟩ := x
  simp only [List.cons_append, Mem.find] at h ⊢
  split at h
  ·rename_i e; rw [if_pos e]; exact Or.inl h
  ·rename_i e; rw [if_neg e]; exact ih h
theorem aggArgs_views {w : World} {τ : Mem} : ∀ {j j' : Nat} {s : List Seg} {cs : List Value}, AggArgs w j s cs τ j' → ∀ ρ n b k, Mem.find τ n = some b → ¬ Out ρ n b k := by
 intro j j' s cs h
 induction h with
 | nil j => intro ρ n b k hn; simp [Mem.find] at hn
 | one _ _ ih => exact ih
 | arr _ _ ih => exact ih
 | row L cols _ _ _ _ _ ih =>
  intro ρ n b k hn
  simp only [Mem.find] at hn
  split at hn
  ·cases hn; exact fun q => q
  ·exact ih ρ n b k hn
def heap0 : Loc := ⟨0, 0, none, 0, 0, fun c _ => ⟨none, c, 0⟩⟩
theorem heap0_rep (w : World) (k : IntKind) : HeapRep w heap0 k [[]] :=
 ⟨rfl, rfl, by decide, rfl, fun j l hl => by
  cases j with
  | zero =>
   simp at hl; subst hl
   exact ⟨VRep.ofInts rfl (Nat.le_refl _) (fun q => absurd rfl q) (fun j x hj => by simp at hj), fun q => absurd rfl q⟩
  | succ j => simp at hl, fun i j hi hj hij => by simp at hi hj; omega⟩
theorem lawArgs_views {w : World} {τ : Mem} : ∀ {j : Nat} {xs : List AV} {vs : List Value}, LawArgs w j xs vs τ → ∀ ρ, (∀ n, isHeap n = true → ρ n = heap0) → ∀ n b k, Mem.find τ n = some b → ¬ Out ρ n b k := by
 intro j xs vs h
 induction h with
 | nil j => intro ρ _ n b k hn; simp [Mem.find] at hn
 | plain _ _ ih => exact ih
 | row L cs _ _ _ _ _ ih =>
  intro ρ hp n b k hn
  simp only [Mem.find] at hn
  split at hn
  ·cases hn; exact fun q => q
  ·exact ih ρ hp n b k hn
 | agg ha _ ih =>
  intro ρ hp n b k hn
  rcases find_append hn with q | q
  ·exact aggArgs_views ha ρ n b k q
  ·exact ih ρ hp n b k q
 | @heap j k xs vs τ _ ih =>
  intro ρ hp n b q hn
  simp only [Mem.find] at hn
  split at hn
  ·rename_i e
   subst e
   cases hn
   rintro ⟨i, h1, h2, _⟩
   rw [hp _ (isHeap_hname k)] at h1 h2
   exact h2 rfl
  ·exact ih ρ hp n b q hn
 | glob _ _ ih =>
  intro ρ hp n b k hn
  simp only [Mem.find] at hn
  split at hn
  ·cases hn; exact fun q => q
  ·exact ih ρ hp n b k hn
theorem FRep.cons {ρ : Rho} {a : AC} {v : Value} {l : List AC} {c : List Value} (h : CRep ρ a v) (t : FRep ρ l c) : FRep ρ (a :: l) (v :: c) := by
 refine ⟨by simp [t.1], fun j x u hx hu => ?_⟩
 cases j with
 | zero => simp at hx hu; subst hx hu; exact h
 | succ j => exact t.2 j x u (by simpa using hx) (by simpa using hu)
theorem FRep.arr {ρ : Rho} {k : IntKind} {l : List AC} {c : List Value} : ∀ (a : List Int), FRep ρ l c → FRep ρ (a.map (.int k) ++ l) (a.map (Value.int k) ++ c)
 | [], h => h
 | x :: a, h => FRep.cons rfl (FRep.arr a h)
theorem aggArgs_sound {w : World} {τ : Mem} : ∀ {j j' : Nat} {s : List Seg} {cs : List Value}, AggArgs w j s cs τ j' →
  j ≤ j' ∧ ∃ Ls : Nat → Loc, ∀ ρ : Rho, (∀ i, j ≤ i → i < j' → i < 1000 → ρ (200000 + i) = Ls i) → segsOk s ∧ FRep ρ (flat s) cs ∧ MemRep ρ τ w := by
 intro j j' s cs h
 induction h with
 | nil j => exact ⟨Nat.le_refl _, fun _ => loc0, fun ρ _ => ⟨trivial, ⟨rfl, fun i y v hy => by simp [flat] at hy⟩, fun n b hb => by simp [Mem.find] at hb⟩⟩
 | one hp _ ih =>
  obtain ⟨h1, Ls, h2⟩ := ih
  refine ⟨h1, Ls, fun ρ hc => ?_⟩
  obtain ⟨g1, g2, g3⟩ := h2 ρ hc
  exact ⟨⟨trivial, g1⟩, FRep.cons (hp ρ) g2, g3⟩
 | arr hl _ ih =>
  obtain ⟨h1, Ls, h2⟩ := ih
  refine ⟨h1, Ls, fun ρ hc => ?_⟩
  obtain ⟨g1, g2, g3⟩ := h2 ρ hc
  exact ⟨⟨hl, g1⟩, FRep.arr _ g2, g3⟩
 | @row j j' v s cs τ L cols hj hV hv _ hH ih =>
  obtain ⟨h1, Ls, h2⟩ := ih
  refine ⟨by omega, fun i => if i = j then L else Ls i, fun ρ hc => ?_⟩
  have hj' : ρ (200000 + j) = L := by rw [hc j (Nat.le_refl _) (by omega) hj]; simp
  obtain ⟨g1, g2, g3⟩ := h2 ρ (fun i hi hlt h1000 => by rw [hc i (by omega) hlt h1000]; show (if i = j then _ else Ls i) = Ls i; rw [if_neg (by omega)])
  refine ⟨⟨trivial, g1⟩, FRep.cons (show v = _ by rw [hj']; exact hv) g2, fun n b hb => ?_⟩
  simp only [Mem.find] at hb
  split at hb
  ·rename_i e; subst e; cases hb
   exact ⟨by rw [hj']; exact hV, noHss_lnk hH⟩
  ·exact g3 n b hb
theorem lawArgs_sound {w : World} {τ : Mem} : ∀ {j : Nat} {xs : List AV} {vs : List Value}, LawArgs w j xs vs τ →
  xs.length = vs.length ∧ ∃ Ls : Nat → Loc, ∀ ρ : Rho, Glob ρ → (∀ n, isHeap n = true → ρ n = heap0) → (∀ i, j ≤ i → i < 1000 → ρ (200000 + i) = Ls i) → (∀ (i : Nat) y v, xs[i]? = some y → vs[i]? = some v → SRep ρ y v) ∧ MemRep ρ τ w := by
 intro j xs vs h
 induction h with
 | nil j => exact ⟨rfl, fun _ => loc0, fun ρ _ _ _ => ⟨fun i y v hy => by simp at hy, fun n b hb => by simp [Mem.find] at hb⟩⟩
 | @plain j x v xs vs τ hp _ ih =>
  obtain ⟨h1, Ls, h2⟩ := ih
  refine ⟨by simpa using h1, Ls, fun ρ hg hp0 hc => ?_⟩
  obtain ⟨g1, g2⟩ := h2 ρ hg hp0 (fun i hi hlt => hc i (by omega) hlt)
  refine ⟨fun i y u hy hu => ?_, g2⟩
  cases i with
  | zero => simp at hy hu; subst hy hu; exact hp ρ
  | succ i => exact g1 i y u (by simpa using hy) (by simpa using hu)
 | @row j v xs vs τ L cs hj hV hv _ hH ih =>
  obtain ⟨h1, Ls, h2⟩ := ih
  refine ⟨by simpa using h1, fun i => if i = j then L else Ls i, fun ρ hg hp0 hc => ?_⟩
  have hj : ρ (200000 + j) = L := by rw [hc j (Nat.le_refl _) hj]; simp
  obtain ⟨g1, g2⟩ := h2 ρ hg hp0 (fun i hi hlt => by rw [hc i (by omega) hlt]; show (if i = j then _ else Ls i) = Ls i; rw [if_neg (by omega)])
  refine ⟨fun i y u hy hu => ?_, fun n b hb => ?_⟩
  ·cases i with
   | zero =>
    simp at hy hu
    subst hy hu
    show v = _
    rw [hj]; exact hv
   | succ i => exact g1 i y u (by simpa using hy) (by simpa using hu)
  ·simp only [Mem.find] at hb
   split at hb
   ·rename_i e; subst e; cases hb
    exact ⟨by rw [hj]; exact hV, noHss_lnk hH⟩
   ·exact g2 n b hb
 | @agg j j' s cs xs vs τ τ' ha _ ih =>
  obtain ⟨h1, Ls, h2⟩ := ih
  obtain ⟨a1, La, a2⟩ := aggArgs_sound ha
  refine ⟨by simpa using h1, fun i => if i < j' then La i else Ls i, fun ρ hg hp0 hc => ?_⟩
  obtain ⟨g1, g2⟩ := h2 ρ hg hp0 (fun i hi hlt => by rw [hc i (by omega) hlt]; show (if i < j' then _ else Ls i) = Ls i; rw [if_neg (by omega)])
  obtain ⟨b1, b2, b3⟩ := a2 ρ (fun i hi hlt h1000 => by rw [hc i hi h1000]; show (if i < j' then La i else _) = La i; rw [if_pos hlt])
  refine ⟨fun i y u hy hu => ?_, fun n b hb => ?_⟩
  ·cases i with
   | zero =>
    simp at hy hu
    subst hy hu
    exact ⟨b1, cs, rfl, b2⟩
   | succ i => exact g1 i y u (by simpa using hy) (by simpa using hu)
  ·rcases find_append hb with q | q
   ·exact b3 n b q
   ·exact g2 n b q
 | @heap j k xs vs τ _ ih =>
  obtain ⟨h1, Ls, h2⟩ := ih
  refine ⟨h1, Ls, fun ρ hg hp0 hc => ?_⟩
  obtain ⟨g1, g2⟩ := h2 ρ hg hp0 hc
  refine ⟨g1, fun n b hb => ?_⟩
  simp only [Mem.find] at hb
  split at hb
  ·rename_i e; subst e; cases hb
   exact ⟨isHeap_hname k, by rw [hp0 _ (isHeap_hname k)]; exact heap0_rep w k⟩
  ·exact g2 n b hb
 | @glob j g s xs vs τ hp _ ih =>
  obtain ⟨h1, Ls, h2⟩ := ih
  refine ⟨h1, Ls, fun ρ hg hp0 hc => ?_⟩
  obtain ⟨g1, g2⟩ := h2 ρ hg hp0 hc
  refine ⟨g1, fun n b hb => ?_⟩
  simp only [Mem.find] at hb
  split at hb
  ·rename_i e; subst e; cases hb
   exact hp ρ hg
  ·exact g2 n b hb
theorem loc_of {w : World} {k : IntKind} {a : Option Addr} {len cap : Nat} {zs : List Int} (h : IsRow k w a len cap zs) : ∃ L : Loc, VRep w L [.ints k (zs.take len)] ∧ Value.slice a len cap = .slice L.a L.len L.cap := by
 rcases h with ⟨rfl, rfl, rfl, rfl⟩ | ⟨x, rfl, hl, hm, hz, hc, hw⟩
 ·exact ⟨loc0, VRep.ofInts rfl (Nat.le_refl _) (fun q => absurd rfl q) (fun j x hj => by simp at hj), rfl⟩
 ·have hcell : ∀ (j : Nat) y, (zs.take len)[j]? = some y → w.cell? (x.add j) = some (.int k y) := fun j y hj => by
   have hlt : j < len := by have := (List.getElem?_eq_some_iff.1 hj).1; simp at this; omega
   rw [hc j (by omega)]
   rw [List.getElem?_take_of_lt hlt] at hj
   simp [List.getD, hj]
  have hsp : 0 < len → x.spot = none := fun hp => by
   have h0 := hc 0 (by omega)
   cases hs : x.spot with
   | none => rfl
   | some q =>
    exfalso
    have : (x.add 0).spot.isSome = true := by cases x; simp only at hs; subst hs; rfl
    simp only [World.cell?, this] at h0
    split at h0 <;> simp at h0
  refine ⟨⟨x.block, x.off, some x, len, cap, fun _ _ => ⟨none, 0, 0⟩⟩, VRep.ofInts (by simp; omega) hl (fun q => ?_) (fun j y hj => ?_), rfl⟩
  ·have := hsp (Nat.pos_of_ne_zero q)
   cases x
   simp only at this; subst this; rfl
  ·have hlt : j < len := by have := (List.getElem?_eq_some_iff.1 hj).1; simp at this; omega
   have := hsp (by omega)
   have e : (Loc.at ⟨x.block, x.off, some x, len, cap, fun _ _ => ⟨none, 0, 0⟩⟩ j) = x.add j := by
    cases x; simp only at this; subst this; simp [Loc.at, Addr.add]
   rw [e]; exact hcell j y hj
theorem LawArgs.ints {w : World} {k : IntKind} {a : Option Addr} {len cap j : Nat} {zs : List Int} {xs : List AV} {vs : List Value} {τ : Mem} (h : IsRow k w a len cap zs) (t : LawArgs w (j + 1) xs vs τ) (hj : j < 1000 := by decide) :
  LawArgs w j (.one (.vec (200000 + j)) :: xs) (.slice a len cap :: vs) ((200000 + j, .rview [.ints k (zs.take len)]) :: τ) := by
 obtain ⟨L, h1, h2⟩ := loc_of h
 exact .row L _ hj h1 h2 t
theorem AggArgs.ints {w : World} {k : IntKind} {a : Option Addr} {len cap j j' : Nat} {zs : List Int} {s : List Seg} {cs : List Value} {τ : Mem} (h : IsRow k w a len cap zs) (t : AggArgs w (j + 1) s cs τ j') (hj : j < 1000 := by decide) :
  AggArgs w j (.cells [.vec (200000 + j)] :: s) (.slice a len cap :: cs) ((200000 + j, .rview [.ints k (zs.take len)]) :: τ) j' := by
 obtain ⟨L, h1, h2⟩ := loc_of h
 exact .row L _ hj h1 h2 t
theorem AggArgs.num {w : World} {k : IntKind} {n : Int} {j j' : Nat} {s : List Seg} {cs : List Value} {τ : Mem} (t : AggArgs w j s cs τ j') : AggArgs w j (.cells [.int k n] :: s) (.int k n :: cs) τ j' := .one (fun _ => rfl) t
theorem IsRow.bytes {w : World} {a : Option Addr} {len cap : Nat} {zs : List Int} (h : IsRow .u8 w a len cap zs) : ∀ x ∈ zs.take len, 0 ≤ x ∧ x < 256 := by
 rcases h with ⟨rfl, rfl, rfl, rfl⟩ | ⟨x, rfl, hl, hm, hz, hc, hw⟩
 ·intro x hx; simp at hx
 ·intro x hx
  obtain ⟨h1, h2⟩ := bounds_u8 (hw x (List.mem_of_mem_take hx))
  exact ⟨h1, by omega⟩
section
variable {H : Type} {enc : TypeId × Value → H} {P : Program} {w : World}
end
section
variable {P : Program} {Γ : Gam} {D : Hints}
theorem law_mem (hm : P.follows .mixedOrders = true) (hΓ : GoodG P Γ) {f : FuncId} {fn : Func} (hf : P.funcs[f]? = some fn) (hb : fn.body.isSome = true) {n : Nat} {args : List AV} {vals : Array Value} {w : World} {τ : Mem} (ha : LawArgs w 0 args vals.toList τ) (hlen : args.length ≤ 1000)
  (h0 : Has (callsx P Γ D fn n args τ fun av _ => av = .one (.bool true) ∨ av = .one (.lit true))) :
  Calls P f vals w fun e w' => e = .returned (.bool true) ∧ Go.RowKit.Below w.heap.size w w' := by
 have h := h0.out
 obtain ⟨hl, Ls, hs⟩ := lawArgs_sound ha
 generalize hρ0 : rhoC (fun n => if n < 1000000 then heap0 else ⟨n - 1000000, 0, none, 0, 0, fun _ _ => ⟨none, 0, 0⟩⟩) Ls = ρ
 have hρ : ∀ i, 0 ≤ i → i < 1000 → ρ (200000 + i) = Ls i := fun i _ hi => by rw [← hρ0]; exact rhoC_arg (by omega)
 have hg : Glob ρ := fun g => by
  have e : ρ (gname g) = ⟨gname g - 1000000, 0, none, 0, 0, fun _ _ => ⟨none, 0, 0⟩⟩ := by rw [← hρ0, rhoC_glob, if_neg (by simp only [gname]; omega)]
  rw [e]; simp [gname]
 have hh : ∀ n, isHeap n = true → ρ n = heap0 := fun n hn => by rw [← hρ0, rhoC_heap hn, if_pos (isHeap_le hn).2]
 obtain ⟨g1, g2⟩ := hs ρ hg hh hρ
 have hno := lawArgs_views ha ρ hh
 refine (callsx_sound hm hΓ hf hb h (ρ := ρ) (ex := fun _ => False) hg (by simpa using hl) (fun j x v h1 h2 => g1 j x v h1 (by rw [Array.getElem?_toList]; exact h2)) g2 ⟨fun n m b c k hn _ _ hO => absurd hO (hno n b k hn), fun n b k hn hO => absurd hO (hno n b k hn)⟩ (fun n b k hn hO => absurd hO (hno n b k hn))).mono ?_
 rintro e w' ⟨v, av, σ', ρ', rfl, hav, hsr, _, _, _, _, _, hk⟩
 have : v = .bool true := by rcases hav with rfl | rfl <;> exact hsr
 subst this
 exact ⟨rfl, hk.below⟩
end
end Go.Sx
namespace Go.Sx
open Go
inductive CanonH (σ : Mem) : Nat → List AV → List AV → Mem → Prop
 | nil (j : Nat) : CanonH σ j [] [] []
 | same {j : Nat} {x : AV} {xs ys : List AV} {τ : Mem} : (∀ m, x.refs m = true → isHeap m = true) → CanonH σ (j + 1) xs ys τ → CanonH σ j (x :: xs) (x :: ys) τ
 | row {j n : Nat} {xs ys : List AV} {τ : Mem} (cs : List Col) : Mem.cols σ n = some cs → CanonH σ (j + 1) xs ys τ → CanonH σ j (.one (.vec n) :: xs) (.one (.vec (200000 + j)) :: ys) ((200000 + j, .rview cs) :: τ)
 | glob {j g : Nat} {b : Blk} {xs ys : List AV} {τ : Mem} : Mem.find σ (gname g) = some b → (∀ m, segsRefs m b.segs = false) → CanonH σ j xs ys τ → CanonH σ j xs ys ((gname g, .view b.segs) :: τ)
def notHeap : Blk → Bool
 | .heap _ _ => false
 | _ => true
theorem canonH_sound {σ τ : Mem} {ρ : Rho} {w : World} (hm : MemRep ρ σ w) (hs : Sep ρ σ) : ∀ {j : Nat} {xs ys : List AV}, CanonH σ j xs ys τ → ∀ (vals : List Value), j + xs.length ≤ 1000 → xs.length = vals.length → (∀ (i : Nat) x v, xs[i]? = some x → vals[i]? = some v → SRep ρ x v) →
  ys.length = vals.length ∧ ∃ Ls : Nat → Loc, ∀ ρc : Rho, (∀ i, j ≤ i → i < j + xs.length → ρc (200000 + i) = Ls i) → (∀ g, ρc (gname g) = ρ (gname g)) → (∀ n, isHeap n = true → ρc n = ρ n) →
   (∀ (i : Nat) y v, ys[i]? = some y → vals[i]? = some v → SRep ρc y v) ∧ MemRep ρc τ w ∧ ∀ n b, Mem.find τ n = some b → isHeap n = false ∧ (∀ k, ¬ Out ρc n b k) ∧ ∀ k, Foot ρc n b k → ∃ m c, Mem.find σ m = some c ∧ notHeap c = true ∧ Foot ρ m c k := by
 intro j xs ys h
 induction h with
 | nil j => intro vals _ hl _; exact ⟨hl, fun _ => loc0, fun ρc _ _ _ => ⟨fun i y v hy => by simp at hy, fun n b hb => by simp [Mem.find] at hb, fun n b hb => by simp [Mem.find] at hb⟩⟩
 | @same j x xs ys τ hp _ ih =>
  intro vals hj hl hv
  cases vals with
  | nil => simp at hl
  | cons v vals =>
   obtain ⟨h1, Ls, h2⟩ := ih vals (by simp only [List.length_cons] at hj; omega) (by simpa using hl) (fun i x u hx hu => hv (i + 1) x u (by simpa using hx) (by simpa using hu))
   refine ⟨by simpa using h1, Ls, fun ρc hc hcg hch => ?_⟩
   obtain ⟨g1, g2⟩ := h2 ρc (fun i hi hlt => hc i (by omega) (by simp only [List.length_cons]; omega)) hcg hch
   refine ⟨fun i y u hy hu => ?_, g2⟩
   cases i with
   | zero => simp at hy hu; subst hy hu; exact (hv 0 x v rfl rfl).agree fun n hn => .of_eq (hch n (hp n hn))
   | succ i => exact g1 i y u (by simpa using hy) (by simpa using hu)
 | @row j n xs ys τ cs hcs _ ih =>
  intro vals hjl hl hv
  cases vals with
  | nil => simp at hl
  | cons v vals =>
   simp only [List.length_cons] at hjl
   obtain ⟨h1, Ls, h2⟩ := ih vals (by omega) (by simpa using hl) (fun i x u hx hu => hv (i + 1) x u (by simpa using hx) (by simpa using hu))
   have hR := reads_vec hm hs hcs (hv 0 _ v rfl rfl)
   obtain ⟨_, b0, hb0, hbb, hf⟩ := cols_sound hm hcs
   refine ⟨by simpa using h1, fun i => if i = j then ρ n else Ls i, fun ρc hc hcg hch => ?_⟩
   have hj : ρc (200000 + j) = ρ n := by have q := hc j (Nat.le_refl _) (by simp); simpa using q
   obtain ⟨g1, g2, g3⟩ := h2 ρc (fun i hi hlt => by rw [hc i (by omega) (by simp only [List.length_cons]; omega)]; show (if i = j then _ else Ls i) = Ls i; rw [if_neg (by omega)]) hcg hch
   refine ⟨fun i y u hy hu => ?_, fun m b hb => ?_, fun m b hb => ?_⟩
   ·cases i with
    | zero =>
     simp at hy hu
     subst hy hu
     show v = _
     rw [hj]; exact hR.val
    | succ i => exact g1 i y u (by simpa using hy) (by simpa using hu)
   ·simp only [Mem.find] at hb
    split at hb
    ·rename_i e; subst e; cases hb
     exact ⟨by rw [hj]; exact hR.rep, by rw [hj]; exact hR.lnk.heaps hch⟩
    ·exact g2 m b hb
   ·simp only [Mem.find] at hb
    split at hb
    ·rename_i e; subst e; cases hb
     refine ⟨isHeap_no (Or.inl (by omega)), fun k q => q, fun k hk => ⟨n, b0, hb0, by rcases hbb with rfl | rfl <;> rfl, hf k ?_⟩⟩
     have hk : FootL (ρc (200000 + j)) cs k := hk
     rw [hj] at hk; exact hk
    ·exact g3 m b hb
 | @glob j g b xs ys τ hn hp _ ih =>
  intro vals hj hl hv
  obtain ⟨h1, Ls, h2⟩ := ih vals hj hl hv
  refine ⟨h1, Ls, fun ρc hc hcg hch => ?_⟩
  obtain ⟨g1, g2, g3⟩ := h2 ρc hc hcg hch
  refine ⟨g1, fun m b' hb => ?_, fun m b' hb => ?_⟩
  ·simp only [Mem.find] at hb
   split at hb
   ·rename_i e; subst e; cases hb
    obtain ⟨q1, q2⟩ := (hm (gname g) b hn).cells
    refine ⟨q1, fun i a ha => ?_⟩
    obtain ⟨u, hu1, hu2⟩ := q2 i a ha
    refine ⟨u, by simp only [at_, hcg]; exact hu1, hu2.agree fun m hm' => ?_⟩
    have := flat_refs' (List.any_eq_true.2 ⟨a, List.mem_of_getElem? ha, hm'⟩)
    rw [hp m] at this; cases this
   ·exact g2 m b' hb
  ·simp only [Mem.find] at hb
   split at hb
   ·rename_i e; subst e; cases hb
    refine ⟨isHeap_gname g, fun k q => q, fun k hk => ⟨gname g, b, hn, ?_, ?_⟩⟩
    ·obtain ⟨hne, _⟩ := hk
     cases b <;> first | rfl | exact absurd rfl hne
    ·obtain ⟨hne, rfl⟩ := hk
     rw [hcg]
     cases b with
     | own T s => exact rfl
     | view s => exact ⟨hne, rfl⟩
     | vec cs => exact absurd rfl hne
     | rview cs => exact absurd rfl hne
     | heap q os => exact absurd rfl hne
     | map kk m => exact absurd rfl hne
   ·exact g3 m b' hb
section
variable {P : Program} {Γ : Gam} {D : Hints}
theorem Good.heap (hm : P.follows .mixedOrders = true) (hΓ : GoodG P Γ) {f : FuncId} {fn : Func} (hf : P.funcs[f]? = some fn) (hb : fn.body.isSome = true) {s : Spec} (hs : s.mods = true)
  (hsem : ∀ d args σ (K : AV → Mem → Prop), s.sem d args σ K → ∃ k os cargs τ τ', Mem.heap σ k = some os ∧ CanonH σ 0 args cargs τ ∧ args.length ≤ 1000 ∧ (∀ n, Mem.find τ' n = Mem.find ((hname k, .heap k os) :: τ) n) ∧ ∃ n, callsx P Γ D fn n cargs τ' fun av σ' => ∃ os' av', Mem.heap σ' k = some os' ∧ (∀ m, av'.refs m = true → m = hname k) ∧ (∀ ρ v, SRep ρ av v → SRep ρ av' v) ∧ K av' (σ.put (hname k) (.heap k os'))) : Good P f s := by
 refine ⟨fun d args σ K h ρ w vals hg hmem hsep hl hv hnew => ?_⟩
 obtain ⟨k, os, cargs, τ, τ', ho, hcan, hlen, hτ, n, hc⟩ := hsem d args σ K h
 obtain ⟨h1, Ls, h2⟩ := canonH_sound hmem hsep hcan vals.toList (by omega) (by simpa using hl) (fun i x v hx hu => hv i x v hx (by simpa using hu))
 generalize hρ0 : rhoC ρ Ls = ρc
 have hρc : ∀ i, 0 ≤ i → i < 0 + args.length → ρc (200000 + i) = Ls i := fun i _ hi => by rw [← hρ0, rhoC_arg (by omega)]
 have hgg : ∀ g, ρc (gname g) = ρ (gname g) := fun g => by rw [← hρ0]; exact rhoC_glob
 have hhh : ∀ n, isHeap n = true → ρc n = ρ n := fun n hn => by rw [← hρ0]; exact rhoC_heap hn
 obtain ⟨g1, g2, g3⟩ := h2 ρc hρc hgg hhh
 have hgc : Glob ρc := fun g => by rw [hgg]; exact hg g
 have hfd := heap_find ho
 have hhp := isHeap_hname k
 have hρk := hhh _ hhp
 obtain ⟨_, hH⟩ := hmem _ _ hfd
 have unf : ∀ {m b}, Mem.find τ' m = some b → (m = hname k ∧ b = .heap k os) ∨ (m ≠ hname k ∧ Mem.find τ m = some b) := by
  intro m b hb
  rw [hτ] at hb
  simp only [Mem.find] at hb
  split at hb
  ·rename_i e; cases hb; exact Or.inl ⟨e.symm, rfl⟩
  ·rename_i e; exact Or.inr ⟨Ne.symm e, hb⟩
 have hmemc : MemRep ρc τ' w := fun m b hb => by
  rcases unf hb with ⟨rfl, rfl⟩ | ⟨_, hb⟩
  ·exact ⟨hhp, by rw [hρk]; exact hH⟩
  ·exact g2 m b hb
 have hout : ∀ q, Out ρc (hname k) (.heap k os) q → HFoot (ρ (hname k)) q := fun q hq => by simpa only [Out, hρk] using hq
 have hsepc : Sep ρc τ' := by
  refine ⟨fun m m' b c q hb hc hne hO hF => ?_, fun m b q hb hO hI => ?_⟩
  ·rcases unf hb with ⟨rfl, rfl⟩ | ⟨_, hb⟩
   ·rcases unf hc with ⟨rfl, rfl⟩ | ⟨_, hc⟩
    ·exact hne rfl
    ·obtain ⟨m0, c0, h0, h0h, h0f⟩ := (g3 m' c hc).2.2 q hF
     exact hsep.1 _ m0 _ c0 q hfd h0 (fun e => by subst e; rw [hfd] at h0; cases h0; cases h0h) (hout q hO) h0f
   ·exact (g3 m b hb).2.1 q hO
  ·rcases unf hb with ⟨rfl, rfl⟩ | ⟨_, hb⟩
   ·exact hI
   ·exact (g3 m b hb).2.1 q hO
 refine (callsx_sound hm hΓ hf hb hc (ex := fun q => HFoot (ρ (hname k)) q) hgc (by simpa using h1) (fun i y v hy hu => g1 i y v hy (by simpa using hu)) hmemc hsepc (fun m b q hn hO => by
  rcases unf hn with ⟨rfl, rfl⟩ | ⟨_, hb⟩
  ·exact Or.inr (hout q hO)
  ·exact absurd hO ((g3 m b hb).2.1 q))).mono ?_
 rintro e w' ⟨v, av, σ'', ρ'', rfl, ⟨os', av', ho', hrefs, hav, hK⟩, hsr, hmem'', hsep'', hfix, hext, hown, hk⟩
 have hfd' := heap_find ho'
 obtain ⟨_, hH'⟩ := hmem'' _ _ hfd'
 let E : Env := ⟨w, ρ, OwnAt ρ σ, hg⟩
 let a : Act := { tmps := #[], defers := [] }
 have hk' : Keeps (OwnAt ρ σ) w w' := ⟨hk.os, hk.tape, hk.output, hk.size, fun q hq hx => hk.block q hq fun hF => hx ⟨hname k, _, hfd, hF⟩⟩
 have hR : Rep E ρ [] σ a w := ⟨⟨rfl, fun t v ht => by simp [a] at ht⟩, rfl, hmem, hsep, fun _ _ _ => rfl, fun _ _ => .refl _, fun n b q hn hO => Or.inr ⟨n, b, hn, hO⟩, Keeps.refl _ _⟩
 have hx : HExt (ρ (hname k)) (ρ'' (hname k)) := by have := hext _ hhp; rw [hρk] at this; exact this
 have grown := heap_grow (L' := ρ'' (hname k)) hR hhp hfd hx hH' hk' (fun m c q hm hmh hF => hk.block q (in_range (hmem m c hm) hF) fun hq => hsep.1 _ m _ c q hfd hm (Ne.symm hmh) hq hF) (fun q hq => by
  rcases hown _ _ q hfd' hq with h | h
  ·exact Or.inr ⟨Or.inl h, fun m c hm _ hF => by have := in_range (hmem m c hm) hF; omega⟩
  ·exact Or.inl h)
 refine ⟨v, av', _, _, rfl, hK, (hav _ _ hsr).agree fun m hm => ?_, grown.mem, grown.sep, fun m hm _ => upd_ne fun q => (by subst q; rw [hhp] at hm; cases hm), fun m _ => ext_upd hx m, fun m b q hm hO => ?_, hk', fun q => by rw [hs] at q; cases q⟩
 ·have e := hrefs m hm
  subst e; rw [upd_eq]; exact .refl _
 ·rcases grown.own m b q hm hO with h | h
  ·exact Or.inr h
  ·exact Or.inl h
end
end Go.Sx
namespace Go.Proofs.YtmgbaimcjkhieaaDoor.G
open Go Go.Sx Go.Sx
set_option maxRecDepth 100000
def lapart.l1 (R : AV → Mem → Prop) (x0 : Int) (ls : List HS) (fuel : Nat) (x2 : Int) (x3 : List (List Int)) : Prop := rN Tryd.prog gam0 [] Tryd.f23 R fuel [kc Tryd.f23 [1,0,1,0,0,1,0,0,1,0,0],ki Tryd.f23 [1,0,1,0,0,1,0,0,1,0,0],.inBlock 2,.inBlock 1,kc Tryd.f23 [1,0,1,0,0,1,1],ki Tryd.f23 [1,0,1,0,0],.inBlock 0,kc Tryd.f23 [1,1]] (Vv 200000::Uu::Uu::Ii x0::Ii x2::(zs 5 (Ii x0::Vv 200000::Ii (ofNat (llen ls))::Ll true::(us 20 (zs 35 []))))) [(200000,Blk.rview [Col.hss IntKind.u8 ls]),(900004,Blk.heap IntKind.u8 x3)]
def lapart.l5 (R : AV → Mem → Prop) (x5 x7 x9 : Int) (ls : List HS) (fuel x11 x12 x13 : Nat) (x14 : Int) (x15 : List (List Int)) : Prop := rN Tryd.prog gam0 [] Tryd.f23 R fuel [kc Tryd.f23 [1,1,0,1,0,0,1,0,0,1,0,0,1,0,0,1,1,1,0,0],ki Tryd.f23 [1,1,0,1,0,0,1,0,0,1,0,0,1,0,0,1,1,1,0,0],.inBlock 10,.inBlock 7,kc Tryd.f23 [1,1,0,1,0,0,1,0,0,1,0,0,1,1],ki Tryd.f23 [1,1,0,1,0,0,1,0,0,1,0,0],.inBlock 6,.inBlock 5,kc Tryd.f23 [1,1,0,1,0,0,1,1],ki Tryd.f23 [1,1,0,1,0,0],.inBlock 4,kc Tryd.f23 [1,1,1]] (Vv 200000::(us 4 (Ii x5::Ii x7::AV.one (AC.hs IntKind.u8 x11 x12 x13)::Ii x9::Ii x14::(us 24 (Ii x5::Ll true::Uu::Uu::Ii x7::Vv 200000::Ii (ofNat (llen ls))::Ll true::Uu::Uu::Vv 200000::Ii x7::AV.one (AC.vptr 200000 1 (nat x7) 0 0)::AV.one (AC.hs IntKind.u8 (hj (hget ls (nat x7))) (ho (hget ls (nat x7))) (hl (hget ls (nat x7))))::Ii x9::AV.one (AC.hs IntKind.u8 (hj (hget ls (nat x7))) (ho (hget ls (nat x7))) (hl (hget ls (nat x7))))::Ii (ofNat (hl (hget ls (nat x7))))::Ll false::(us 17 [])))))) [(200000,Blk.rview [Col.hss IntKind.u8 ls]),(900004,Blk.heap IntKind.u8 x15)]
def lapart.l4 (R : AV → Mem → Prop) (x5 x7 : Int) (ls : List HS) (x8 : List (List Int)) (fuel : Nat) (x9 : Int) : Prop := rN Tryd.prog gam0 [] Tryd.f23 R fuel [kc Tryd.f23 [1,1,0,1,0,0,1,0,0,1,0,0,1,0,0,1,0,1,0,0],ki Tryd.f23 [1,1,0,1,0,0,1,0,0,1,0,0,1,0,0,1,0,1,0,0],.inBlock 8,kc Tryd.f23 [1,1,0,1,0,0,1,0,0,1,0,0,1,0,0,1,1],.inBlock 7,kc Tryd.f23 [1,1,0,1,0,0,1,0,0,1,0,0,1,1],ki Tryd.f23 [1,1,0,1,0,0,1,0,0,1,0,0],.inBlock 6,.inBlock 5,kc Tryd.f23 [1,1,0,1,0,0,1,1],ki Tryd.f23 [1,1,0,1,0,0],.inBlock 4,kc Tryd.f23 [1,1,1]] (Vv 200000::(us 4 (Ii x5::Ii x7::AV.one (AC.hs IntKind.u8 (hj (hget ls (nat x7))) (ho (hget ls (nat x7))) (hl (hget ls (nat x7))))::Ii x9::(us 25 (Ii x5::Ll true::Uu::Uu::Ii x7::Vv 200000::Ii (ofNat (llen ls))::Ll true::Uu::Uu::Vv 200000::Ii x7::AV.one (AC.vptr 200000 1 (nat x7) 0 0)::AV.one (AC.hs IntKind.u8 (hj (hget ls (nat x7))) (ho (hget ls (nat x7))) (hl (hget ls (nat x7))))::(us 21 [])))))) [(200000,Blk.rview [Col.hss IntKind.u8 ls]),(900004,Blk.heap IntKind.u8 x8)]
def lapart.l3 (R : AV → Mem → Prop) (x5 : Int) (ls : List HS) (fuel : Nat) (x7 : Int) (x8 : List (List Int)) : Prop := rN Tryd.prog gam0 [] Tryd.f23 R fuel [kc Tryd.f23 [1,1,0,1,0,0,1,0,0,1,0,0],ki Tryd.f23 [1,1,0,1,0,0,1,0,0,1,0,0],.inBlock 6,.inBlock 5,kc Tryd.f23 [1,1,0,1,0,0,1,1],ki Tryd.f23 [1,1,0,1,0,0],.inBlock 4,kc Tryd.f23 [1,1,1]] (Vv 200000::(us 4 (Ii x5::Ii x7::(us 27 (Ii x5::Ll true::(us 33 [])))))) [(200000,Blk.rview [Col.hss IntKind.u8 ls]),(900004,Blk.heap IntKind.u8 x8)]
def lapart.l2 (R : AV → Mem → Prop) (ls : List HS) (fuel : Nat) (x5 : Int) (x6 : List (List Int)) : Prop := rN Tryd.prog gam0 [] Tryd.f23 R fuel [kc Tryd.f23 [1,1,0,1,0,0],ki Tryd.f23 [1,1,0,1,0,0],.inBlock 4,kc Tryd.f23 [1,1,1]] (Vv 200000::(us 4 (Ii x5::(us 63 [])))) [(200000,Blk.rview [Col.hss IntKind.u8 ls]),(900004,Blk.heap IntKind.u8 x6)]
def lapart.l0 (R : AV → Mem → Prop) (ls : List HS) (fuel : Nat) (x0 : Int) (x1 : List (List Int)) : Prop := rN Tryd.prog gam0 [] Tryd.f23 R fuel [kc Tryd.f23 [1,0,1,0,0],ki Tryd.f23 [1,0,1,0,0],.inBlock 0,kc Tryd.f23 [1,1]] (Vv 200000::Uu::Uu::Ii x0::Uu::(zs 5 (us 24 (zs 35 [])))) [(200000,Blk.rview [Col.hss IntKind.u8 ls]),(900004,Blk.heap IntKind.u8 x1)]
theorem lapart.l1_succ (R : AV → Mem → Prop) (x0 : Int) (ls : List HS) (fuel : Nat) (x2 : Int) (x3 : List (List Int)) : lapart.l1 R x0 ls (fuel + 1) x2 x3 = (((InB x0 (llen ls)) ∧ ((((ilt x2 (ofNat (hl (hget ls (nat x0))))) = true) → ((InB x0 (llen ls)) ∧ ((InB x2 (hl (hget ls (nat x0)))) ∧ (let y4 : List (List Int) := (llset x3 (hj (hget ls (nat x0))) (lset (llget x3 (hj (hget ls (nat x0)))) (nadd (ho (hget ls (nat x0))) (nat x2)) (conv IntKind.u8 (add IntKind.i64 x0 1)))); (lapart.l1 R x0 ls fuel (add IntKind.i64 x2 1) y4))))) ∧ (((ilt x2 (ofNat (hl (hget ls (nat x0))))) = false) → (lapart.l0 R ls fuel (add IntKind.i64 x0 1) x3))))) := by kernel_rfl
theorem lapart.l5_succ (R : AV → Mem → Prop) (x5 x7 x9 : Int) (ls : List HS) (fuel x11 x12 x13 : Nat) (x14 : Int) (x15 : List (List Int)) : lapart.l5 R x5 x7 x9 ls (fuel + 1) x11 x12 x13 x14 x15 = (((((ilt x14 80) = true) → ((Room (nadd x13 1) 1) ∧ (∀ os'16 : List (List Int),(∀ j'17 : Nat,(∀ off'18 : Nat,((AppR x15 x11 x12 x13 [238] os'16 j'17 off'18) → (lapart.l5 R x5 x7 x9 ls fuel j'17 off'18 (nadd x13 1) (add IntKind.i64 x14 1) os'16))))))) ∧ (((ilt x14 80) = false) → (lapart.l3 R x5 ls fuel (add IntKind.i64 x7 1) x15)))) := by kernel_rfl
theorem lapart.l4_succ (R : AV → Mem → Prop) (x5 x7 : Int) (ls : List HS) (x8 : List (List Int)) (fuel : Nat) (x9 : Int) : lapart.l4 R x5 x7 ls x8 (fuel + 1) x9 = (((((ilt x9 (ofNat (hl (hget ls (nat x7))))) = true) → ((InB x9 (hl (hget ls (nat x7)))) ∧ (let y10 : Bool := (ine (lget (llget x8 (hj (hget ls (nat x7)))) (nadd (ho (hget ls (nat x7))) (nat x9))) (conv IntKind.u8 (add IntKind.i64 x7 1))); (((y10 = true) → (R (Ll false) [(200000,Blk.rview [Col.hss IntKind.u8 ls]),(900004,Blk.heap IntKind.u8 x8)])) ∧ ((y10 = false) → (lapart.l4 R x5 x7 ls x8 fuel (add IntKind.i64 x9 1))))))) ∧ (((ilt x9 (ofNat (hl (hget ls (nat x7))))) = false) → (lapart.l5 R x5 x7 x9 ls fuel (hj (hget ls (nat x7))) (ho (hget ls (nat x7))) (hl (hget ls (nat x7))) 0 x8)))) := by kernel_rfl
theorem lapart.l3_succ (R : AV → Mem → Prop) (x5 : Int) (ls : List HS) (fuel : Nat) (x7 : Int) (x8 : List (List Int)) : lapart.l3 R x5 ls (fuel + 1) x7 x8 = (((((ilt x7 (ofNat (llen ls))) = true) → ((InB x7 (llen ls)) ∧ (lapart.l4 R x5 x7 ls x8 fuel 0))) ∧ (((ilt x7 (ofNat (llen ls))) = false) → (lapart.l2 R ls fuel (add IntKind.i64 x5 1) x8)))) := by kernel_rfl
theorem lapart.l2_succ (R : AV → Mem → Prop) (ls : List HS) (fuel : Nat) (x5 : Int) (x6 : List (List Int)) : lapart.l2 R ls (fuel + 1) x5 x6 = (((((ilt x5 2) = true) → (lapart.l3 R x5 ls fuel 0 x6)) ∧ (((ilt x5 2) = false) → (R (Ll true) [(200000,Blk.rview [Col.hss IntKind.u8 ls]),(900004,Blk.heap IntKind.u8 x6)])))) := by kernel_rfl
theorem lapart.l0_succ (R : AV → Mem → Prop) (ls : List HS) (fuel : Nat) (x0 : Int) (x1 : List (List Int)) : lapart.l0 R ls (fuel + 1) x0 x1 = (((((ilt x0 (ofNat (llen ls))) = true) → (lapart.l1 R x0 ls fuel 0 x1)) ∧ (((ilt x0 (ofNat (llen ls))) = false) → (lapart.l2 R ls fuel 0 x1)))) := by kernel_rfl
theorem lapart_vc (R : AV → Mem → Prop) (fuel : Nat) (ls : List HS) (os : List (List Int)) : callsx Tryd.prog gam0 [] Tryd.f23 (fuel + 1) [.one (.vec 200000)] [(200000, .rview [.hss .u8 ls]), (900004, .heap .u8 os)] R = ((lapart.l0 R ls fuel 0 os)) := by kernel_rfl
end Go.Proofs.YtmgbaimcjkhieaaDoor.G
namespace Go.Sx
open Go
def tot (c : Nat → Nat) : Nat → Nat → Nat
 | _, 0 => 0
 | i, m + 1 => c i + tot c (i + 1) m
theorem loop_inv {S : Type} (L : Nat → Int → S → Prop) (n : Nat) (Inv : Nat → S → Prop) (c : Nat → Nat) (f0 : Nat) (hs : ∀ g i s, i < n → Inv i s → (∀ s', Inv (i + 1) s' → L g ((i + 1 : Nat) : Int) s') → L (g + c i) (i : Int) s) (he : ∀ s, Inv n s → L f0 (n : Int) s) :
  ∀ m i s, i + m = n → Inv i s → L (f0 + tot c i m) (i : Int) s
 | 0, i, s, h, hi => by
  obtain rfl : i = n := by omega
  exact he s hi
 | m + 1, i, s, h, hi => by
  have := hs (f0 + tot c (i + 1) m) i s (by omega) hi fun s' h' => loop_inv L n Inv c f0 hs he m (i + 1) s' (by omega) h'
  rw [show f0 + tot c i (m + 1) = f0 + tot c (i + 1) m + c i by simp only [tot]; omega]
  exact this
theorem loop_inv_ex {S : Type} (L : Nat → Int → S → Prop) (n : Nat) (Inv : Nat → S → Prop) (c : Nat → Nat) (f0 : Nat) (hs : ∀ g i s, i < n → Inv i s → (∀ s', Inv (i + 1) s' → L g ((i + 1 : Nat) : Int) s') → L (g + c i) (i : Int) s) (he : ∀ s, Inv n s → L f0 (n : Int) s) :
  ∃ F, ∀ s, Inv 0 s → L F 0 s := ⟨f0 + tot c 0 n, fun s h => loop_inv L n Inv c f0 hs he n 0 s (by omega) h⟩
theorem lget_lput (l v : List Int) (p t : Nat) (h : p ≤ l.length) : lget (lput l p v) t = if p ≤ t ∧ t < p + v.length then lget v (t - p) else lget l t := by
 simp only [lget, List.getD]
 rw [lput_get2 _ _ _ _ h]
 split <;> rfl
theorem llget_app (H : List (List Int)) (x : List Int) (q : Nat) : llget (H ++ [x]) q = if q < H.length then llget H q else if q = H.length then x else [] := by
 simp only [llget, List.getD, List.getElem?_append]
 by_cases h : q < H.length
 ·rw [if_pos h, if_pos h]
 ·rw [if_neg h, if_neg h]
  by_cases e : q = H.length
  ·rw [if_pos e, e, Nat.sub_self]; rfl
  ·rw [if_neg e, List.getElem?_eq_none (by simp; omega)]; rfl
theorem lget_app (a b : List Int) (t : Nat) : lget (a ++ b) t = if t < a.length then lget a t else lget b (t - a.length) := lget_cat a b t
theorem lget_sub (l : List Int) (o n t : Nat) (h : t < n) : lget (lsub l o n) t = lget l (o + t) := by
 simp only [lget, lsub, List.getD, List.getElem?_take, if_pos h, List.getElem?_drop]
structure Grown2 (ls : List HS) (m g : Nat → Int) (c : Nat → Nat) (gs : List HS) (H : List (List Int)) : Prop where
 len : gs.length = ls.length
 z : llget H 0 = []
 own : ∀ k, k < ls.length → (hget gs k).j < H.length ∧ (hget gs k).len = (hget ls k).len + c k ∧ (hget gs k).off + (hget gs k).len ≤ (llget H (hget gs k).j).length ∧ ∀ t, t < (hget gs k).len → lget (llget H (hget gs k).j) ((hget gs k).off + t) = if t < (hget ls k).len then m k else g k
 old : ∀ k, k < ls.length → (hget ls k).j < H.length ∧ (hget ls k).off + (hget ls k).len ≤ (llget H (hget ls k).j).length ∧ ∀ t, t < (hget ls k).len → lget (llget H (hget ls k).j) ((hget ls k).off + t) = m k
 same : ∀ k, k < ls.length → (hget gs k).j = (hget ls k).j → (hget gs k).off = (hget ls k).off ∨ (hget gs k).j = 0
 ne : ∀ k k', k < ls.length → k' < ls.length → k ≠ k' → ((hget gs k).j = (hget gs k').j → (hget gs k).j = 0) ∧ ((hget gs k).j = (hget ls k').j → (hget gs k).j = 0)
structure ApartOk2 (ls : List HS) (os : List (List Int)) : Prop where
 z : llget os 0 = []
 inn : ∀ k, k < ls.length → (hget ls k).j < os.length ∧ (hget ls k).off + (hget ls k).len ≤ (llget os (hget ls k).j).length ∧ (hget ls k).len ≤ 140737488355328
 ne : ∀ k k', k < ls.length → k' < ls.length → k ≠ k' → (hget ls k).j = (hget ls k').j → (hget ls k).j = 0
structure Marked2 (ls : List HS) (m : Nat → Int) (i t : Nat) (H : List (List Int)) : Prop where
 z : llget H 0 = []
 inn : ∀ k, k < ls.length → (hget ls k).j < H.length ∧ (hget ls k).off + (hget ls k).len ≤ (llget H (hget ls k).j).length
 done : ∀ k, k < ls.length → ∀ u, u < (hget ls k).len → (k < i ∨ (k = i ∧ u < t)) → lget (llget H (hget ls k).j) ((hget ls k).off + u) = m k
theorem marked2_step {ls os H : _} {m : Nat → Int} {i t : Nat} (hO : ApartOk2 ls os) (h : Marked2 ls m i t H) (hi : i < ls.length) (ht : t < (hget ls i).len) :
  Marked2 ls m i (t + 1) (llset H (hget ls i).j (lset (llget H (hget ls i).j) ((hget ls i).off + t) (m i))) := by
 obtain ⟨h1, h2⟩ := h.inn i hi
 have hj0 : (hget ls i).j ≠ 0 := fun q => by rw [q, h.z] at h2; simp at h2; omega
 have obj : ∀ q, llget (llset H (hget ls i).j (lset (llget H (hget ls i).j) ((hget ls i).off + t) (m i))) q = if q = (hget ls i).j then lset (llget H (hget ls i).j) ((hget ls i).off + t) (m i) else llget H q := fun q => llset_get _ _ _ _ h1
 refine ⟨by rw [obj, if_neg (Ne.symm hj0)]; exact h.z, fun k hk => ?_, fun k hk u hu hc => ?_⟩
 ·obtain ⟨p1, p2⟩ := h.inn k hk
  refine ⟨by simpa [llset] using p1, ?_⟩
  rw [obj]
  split
  ·rename_i e; rw [e] at p2; simpa [lset] using p2
  ·exact p2
 ·rw [obj]
  split
  ·rename_i e
   have hki : k = i := by
    refine Classical.byContradiction fun q => ?_
    exact hj0 (e ▸ hO.ne k i hk hi q e)
   subst hki
   rw [lset_get _ _ _ _ (by omega)]
   by_cases hut : u = t
   ·subst hut; rw [if_pos rfl]
   ·rw [if_neg (by omega)]
    exact h.done k hk u hu (by omega)
  ·rename_i e
   refine h.done k hk u hu ?_
   rcases hc with hc | ⟨rfl, hc⟩
   ·exact Or.inl hc
   ·exact absurd rfl e
theorem marked2_next {ls H : _} {m : Nat → Int} {i : Nat} (h : Marked2 ls m i (hget ls i).len H) : Marked2 ls m (i + 1) 0 H :=
 ⟨h.z, h.inn, fun k hk u hu hc => h.done k hk u hu (by
  rcases hc with hc | ⟨_, hc⟩
  ·by_cases e : k = i
   ·subst e; exact Or.inr ⟨rfl, hu⟩
   ·exact Or.inl (by omega)
  ·omega)⟩
theorem Grown2.congr {ls gs H : _} {m g : Nat → Int} {c c' : Nat → Nat} (h : Grown2 ls m g c gs H) (hc : ∀ k, k < ls.length → c k = c' k) : Grown2 ls m g c' gs H :=
 ⟨h.len, h.z, fun k hk => by rw [← hc k hk]; exact h.own k hk, h.old, h.same, h.ne⟩
structure Holds (ls : List HS) (V : Nat → Nat → Int) (H : List (List Int)) : Prop where
 z : llget H 0 = []
 inn : ∀ k, k < ls.length → (hget ls k).j < H.length ∧ (hget ls k).off + (hget ls k).len ≤ (llget H (hget ls k).j).length
 val : ∀ k, k < ls.length → ∀ u, u < (hget ls k).len → lget (llget H (hget ls k).j) ((hget ls k).off + u) = V k u
theorem Holds.congr {ls H : _} {V V' : Nat → Nat → Int} (h : Holds ls V H) (e : ∀ k, k < ls.length → ∀ u, u < (hget ls k).len → V k u = V' k u) : Holds ls V' H :=
 ⟨h.z, h.inn, fun k hk u hu => (h.val k hk u hu).trans (e k hk u hu)⟩
theorem Marked2.holds {ls H : _} {m : Nat → Int} (h : Marked2 ls m ls.length 0 H) : Holds ls (fun k _ => m k) H := ⟨h.z, h.inn, fun k hk u hu => h.done k hk u hu (Or.inl hk)⟩
theorem Holds.con {ls H : _} {V : Nat → Nat → Int} (h : Holds ls V H) {k : Nat} (hk : k < ls.length) : hcon H (hget ls k) = tab (hget ls k).len (V k) := by
 obtain ⟨_, h2⟩ := h.inn k hk
 unfold hcon
 rw [eq_tab (l := lsub (llget H (hget ls k).j) (hget ls k).off (hget ls k).len) (lsub_len _ _ _ h2)]
 exact tab_ext fun u hu => by rw [lget_sub _ _ _ _ hu]; exact h.val k hk u hu
theorem Holds.store {ls os H : _} {V : Nat → Nat → Int} {i t : Nat} (x : Int) (hO : ApartOk2 ls os) (h : Holds ls V H) (hi : i < ls.length) (ht : t < (hget ls i).len) :
  Holds ls (fun k u => if k = i ∧ u = t then x else V k u) (llset H (hget ls i).j (lset (llget H (hget ls i).j) ((hget ls i).off + t) x)) := by
 obtain ⟨h1, h2⟩ := h.inn i hi
 have hj0 : (hget ls i).j ≠ 0 := fun q => by rw [q, h.z] at h2; simp at h2; omega
 have obj : ∀ q, llget (llset H (hget ls i).j (lset (llget H (hget ls i).j) ((hget ls i).off + t) x)) q = if q = (hget ls i).j then lset (llget H (hget ls i).j) ((hget ls i).off + t) x else llget H q := fun q => llset_get _ _ _ _ h1
 refine ⟨by rw [obj, if_neg (Ne.symm hj0)]; exact h.z, fun k hk => ?_, fun k hk u hu => ?_⟩
 ·obtain ⟨p1, p2⟩ := h.inn k hk
  refine ⟨by simpa [llset] using p1, ?_⟩
  rw [obj]
  split
  ·rename_i e; rw [e] at p2; simpa [lset] using p2
  ·exact p2
 ·rw [obj]
  split
  ·rename_i e
   have hki : k = i := by
    refine Classical.byContradiction fun q => ?_
    exact hj0 (e ▸ hO.ne k i hk hi q e)
   subst hki
   rw [lset_get _ _ _ _ (by omega)]
   by_cases hut : u = t
   ·subst hut; rw [if_pos rfl, if_pos ⟨rfl, rfl⟩]
   ·rw [if_neg (by omega), if_neg (by omega)]
    exact h.val k hk u hu
  ·rename_i e
   rw [if_neg (fun c => e (by rw [c.1]))]
   exact h.val k hk u hu
structure Tip (ls : List HS) (H : List (List Int)) (i : Nat) (d : HS) : Prop where
 j : d.j < H.length
 fit : d.off + d.len ≤ (llget H d.j).length
 own : (d.j = (hget ls i).j ∧ (hget ls i).off + (hget ls i).len ≤ d.off + d.len) ∨ ∀ k, k < ls.length → (hget ls k).j ≠ d.j
theorem Holds.tip {ls H : _} {V : Nat → Nat → Int} (h : Holds ls V H) {i : Nat} (hi : i < ls.length) : Tip ls H i (hget ls i) :=
 ⟨(h.inn i hi).1, (h.inn i hi).2, Or.inl ⟨rfl, Nat.le_refl _⟩⟩
theorem Holds.grow {ls os H H' : _} {V : Nat → Nat → Int} {i j' off' : Nat} {d : HS} {v : List Int} (hO : ApartOk2 ls os) (h : Holds ls V H) (hi : i < ls.length) (hd : Tip ls H i d) (hv : v ≠ []) (hA : AppR H d.j d.off d.len v H' j' off') :
  Holds ls V H' ∧ Tip ls H' i ⟨j', off', d.len + v.length⟩ := by
 cases hA with
 | here hj0 =>
  have hj0 := hj0 hv
  have obj : ∀ q, llget (llset H d.j (lput (llget H d.j) (d.off + d.len) v)) q = if q = d.j then lput (llget H d.j) (d.off + d.len) v else llget H q := fun q => llset_get _ _ _ _ hd.j
  refine ⟨⟨by rw [obj, if_neg (Ne.symm hj0)]; exact h.z, fun k hk => ?_, fun k hk u hu => ?_⟩, ⟨by simpa [llset] using hd.j, ?_, ?_⟩⟩
  ·obtain ⟨p1, p2⟩ := h.inn k hk
   refine ⟨by simpa [llset] using p1, ?_⟩
   rw [obj]; split
   ·rename_i e; rw [lput_len2 _ _ _ hd.fit]; rw [e] at p2; omega
   ·exact p2
  ·rw [obj]; split
   ·rename_i e
    rcases hd.own with ⟨q1, q2⟩ | q
    ·have hki : k = i ∨ (hget ls k).j = 0 := by
      by_cases c : k = i
      ·exact Or.inl c
      ·exact Or.inr (hO.ne k i hk hi c (by rw [e, q1]))
     rcases hki with rfl | c
     ·rw [lget_lput _ _ _ _ hd.fit, if_neg (by omega), ← e]; exact h.val k hk u hu
     ·rw [e] at c; exact absurd c hj0
    ·exact absurd e (q k hk)
   ·exact h.val k hk u hu
  ·rw [obj, if_pos rfl, lput_len2 _ _ _ hd.fit]; simp only; omega
  ·rcases hd.own with ⟨q1, q2⟩ | q
   ·exact Or.inl ⟨q1, by simp only; omega⟩
   ·exact Or.inr q
 | new =>
  have obj : ∀ q, q < H.length → llget (H ++ [lsub (llget H d.j) d.off d.len ++ v]) q = llget H q := fun q hq => by rw [llget_app, if_pos hq]
  have hpos : 0 < H.length := by have := hd.j; omega
  refine ⟨⟨by rw [obj _ hpos]; exact h.z, fun k hk => ?_, fun k hk u hu => ?_⟩, ⟨by simp, ?_, Or.inr fun k hk e => ?_⟩⟩
  ·obtain ⟨p1, p2⟩ := h.inn k hk
   exact ⟨by simp; omega, by rw [obj _ p1]; exact p2⟩
  ·rw [obj _ (h.inn k hk).1]; exact h.val k hk u hu
  ·show 0 + (d.len + v.length) ≤ (llget (H ++ [lsub (llget H d.j) d.off d.len ++ v]) H.length).length
   rw [llget_app, if_neg (by omega), if_pos rfl, List.length_append, lsub_len _ _ _ hd.fit]; omega
  ·have q1 := (h.inn k hk).1; have q2 : (hget ls k).j = H.length := e; omega
end Go.Sx
namespace Go.Proofs.YtmgbaimcjkhieaaDoor.G
open Go Go.Sx
set_option maxRecDepth 20000
set_option maxHeartbeats 1000000
theorem m_tt {A B : Prop} (h : A) : (true = true → A) ∧ (true = false → B) := ⟨fun _ => h, fun q => (by cases q)⟩
theorem m_ff {A B : Prop} (h : B) : (false = true → A) ∧ (false = false → B) := ⟨fun q => (by cases q), fun _ => h⟩
theorem m_one : ∀ i m, tot (fun _ => 1) i m = m
 | i, 0 => rfl
 | i, m + 1 => by simp only [tot, m_one (i + 1) m]; omega
def mkm (k : Nat) : Int := conv .u8 (add .i64 (k : Int) 1)
theorem m_l5 {N : Nat} (hN : N = 80) {R : AV → Mem → Prop} {ls : List HS} {os : List (List Int)} (hO : ApartOk2 ls os) (hn : ls.length ≤ 1000000) {x5 : Int} {i g : Nat} (hi : i < ls.length) {H : List (List Int)} (hH : Holds ls (fun k _ => mkm k) H)
  (nx : ∀ H', Holds ls (fun k _ => mkm k) H' → lapart.l3 R x5 ls g ((i + 1 : Nat) : Int) H') (x9 : Int) :
  lapart.l5 R x5 (i : Int) x9 ls ((g + 1) + tot (fun _ => 1) 0 N) (hget ls i).j (hget ls i).off (hget ls i).len 0 H := by
 have hsm := (hO.inn i hi).2.2
 have ai : add .i64 (i : Int) 1 = ((i + 1 : Nat) : Int) := add1_i64 (by omega)
 refine loop_inv (fun f t (s : HS × List (List Int)) => lapart.l5 R x5 (i : Int) x9 ls f s.1.j s.1.off s.1.len t s.2) N
  (fun t s => Holds ls (fun k _ => mkm k) s.2 ∧ Tip ls s.2 i s.1 ∧ s.1.len = (hget ls i).len + t) (fun _ => 1) (g + 1) (fun f t s ht hI hnx => ?_) (fun s hI => ?_) N 0 (hget ls i, H) (by omega) ⟨hH, hH.tip hi, rfl⟩
 ·obtain ⟨i1, i2, i3⟩ := hI
  have a1 : add .i64 (t : Int) 1 = ((t + 1 : Nat) : Int) := add1_i64 (by omega)
  have g1 : ilt (t : Int) 80 = true := by rw [ilt_true]; omega
  have rm1 : Room (nadd s.1.len 1) 1 := ⟨by show (5 * (s.1.len + 1) + 4096) * 1 ≤ _; omega⟩
  show lapart.l5 R x5 (i : Int) x9 ls (f + 1) s.1.j s.1.off s.1.len (t : Int) s.2
  rw [lapart.l5_succ R x5 (i : Int) x9 ls f s.1.j s.1.off s.1.len (t : Int) s.2, g1, a1]
  refine m_tt ⟨rm1, ?_⟩
  intro os' j' off' hA
  obtain ⟨q1, q2⟩ := i1.grow hO hi i2 (by simp) hA
  exact hnx (⟨j', off', s.1.len + 1⟩, os') ⟨q1, q2, by show s.1.len + 1 = _; omega⟩
 ·obtain ⟨i1, i2, i3⟩ := hI
  have g1 : ilt ((N : Nat) : Int) 80 = false := by rw [ilt_false]; omega
  have q := nx s.2 i1
  show lapart.l5 R x5 (i : Int) x9 ls (g + 1) s.1.j s.1.off s.1.len ((N : Nat) : Int) s.2
  rw [lapart.l5_succ R x5 (i : Int) x9 ls g s.1.j s.1.off s.1.len ((N : Nat) : Int) s.2, g1, ai]
  exact m_ff q
theorem m_l4 {N : Nat} (hN : N = 80) {R : AV → Mem → Prop} {ls : List HS} {os : List (List Int)} (hO : ApartOk2 ls os) (hn : ls.length ≤ 1000000) {x5 : Int} {i g : Nat} (hi : i < ls.length) {H : List (List Int)} (hH : Holds ls (fun k _ => mkm k) H)
  (nx : ∀ H', Holds ls (fun k _ => mkm k) H' → lapart.l3 R x5 ls g ((i + 1 : Nat) : Int) H') :
  lapart.l4 R x5 (i : Int) ls H ((((g + 1) + tot (fun _ => 1) 0 N) + 1) + tot (fun _ => 1) 0 (hget ls i).len) 0 := by
 have hsm := (hO.inn i hi).2.2
 refine loop_inv (fun f t (_ : Unit) => lapart.l4 R x5 (i : Int) ls H f t) (hget ls i).len (fun _ _ => True) (fun _ => 1) (((g + 1) + tot (fun _ => 1) 0 N) + 1) (fun f t s ht _ hnx => ?_) (fun s _ => ?_) (hget ls i).len 0 () (by omega) trivial
 ·have a1 : add .i64 (t : Int) 1 = ((t + 1 : Nat) : Int) := add1_i64 (by omega)
  have g1 : ilt (t : Int) (ofNat (Go.Sx.hl (hget ls i))) = true := by rw [ilt_true, ofNat_def]; show (t : Int) < ((hget ls i).len : Nat); omega
  have ib : InB (t : Int) (Go.Sx.hl (hget ls i)) := ⟨by omega, by show (t : Int) < ((hget ls i).len : Nat); omega⟩
  have g2 : ine (lget (llget H (hj (hget ls i))) (nadd (ho (hget ls i)) t)) (conv .u8 (add .i64 (i : Int) 1)) = false := by
   rw [ine_false]; exact hH.val i hi t ht
  have q := hnx () trivial
  show lapart.l4 R x5 (i : Int) ls H (f + 1) (t : Int)
  rw [lapart.l4_succ R x5 (i : Int) ls H f (t : Int), nat_cast, nat_cast, g1, g2, a1]
  exact m_tt ⟨ib, m_ff q⟩
 ·have g1 : ilt ((hget ls i).len : Int) (ofNat (Go.Sx.hl (hget ls i))) = false := by rw [ilt_false, ofNat_def]; show ((hget ls i).len : Int) ≤ ((hget ls i).len : Nat); omega
  have q := m_l5 hN hO hn hi hH nx ((hget ls i).len : Int)
  show lapart.l4 R x5 (i : Int) ls H (((g + 1) + tot (fun _ => 1) 0 N) + 1) ((hget ls i).len : Int)
  rw [lapart.l4_succ R x5 (i : Int) ls H ((g + 1) + tot (fun _ => 1) 0 N) ((hget ls i).len : Int), nat_cast, nat_cast, g1]
  exact m_ff q
theorem m_l3 {N : Nat} (hN : N = 80) {R : AV → Mem → Prop} {ls : List HS} {os : List (List Int)} (hO : ApartOk2 ls os) (hn : ls.length ≤ 1000000) {x5 f : Nat} (h5 : x5 < 2)
  (nx : ∀ H', Holds ls (fun k _ => mkm k) H' → lapart.l2 R ls f ((x5 + 1 : Nat) : Int) H') : ∀ H, Holds ls (fun k _ => mkm k) H →
  lapart.l3 R (x5 : Int) ls ((f + 1) + tot (fun i => (hget ls i).len + (N + 3)) 0 ls.length) 0 H := fun H hH => by
 refine loop_inv (fun f i (H : List (List Int)) => lapart.l3 R (x5 : Int) ls f i H) ls.length (fun _ H => Holds ls (fun k _ => mkm k) H) (fun i => (hget ls i).len + (N + 3)) (f + 1) (fun g i H hi hI hnx => ?_) (fun H hI => ?_) ls.length 0 H (by omega) hH
 ·have g1 : ilt (i : Int) (ofNat (llen ls)) = true := by rw [ilt_true, ofNat_def, llen_def]; omega
  have ib : InB (i : Int) (llen ls) := ⟨by omega, by rw [llen_def]; omega⟩
  have q := m_l4 (g := g) hN hO hn hi hI hnx
  rw [m_one, m_one] at q
  show lapart.l3 R (x5 : Int) ls (g + ((hget ls i).len + (N + 3))) (i : Int) H
  rw [show g + ((hget ls i).len + (N + 3)) = (((g + 1) + N) + 1 + (hget ls i).len) + 1 by omega, lapart.l3_succ R (x5 : Int) ls (((g + 1) + N) + 1 + (hget ls i).len) (i : Int) H, g1]
  exact m_tt ⟨ib, q⟩
 ·have g1 : ilt ((ls.length : Nat) : Int) (ofNat (llen ls)) = false := by rw [ilt_false, ofNat_def, llen_def]; omega
  have a1 : add .i64 (x5 : Int) 1 = ((x5 + 1 : Nat) : Int) := add1_i64 (by omega)
  have q := nx H hI
  show lapart.l3 R (x5 : Int) ls (f + 1) ((ls.length : Nat) : Int) H
  rw [lapart.l3_succ R (x5 : Int) ls f ((ls.length : Nat) : Int) H, g1, a1]
  exact m_ff q
theorem m_l2 {N T : Nat} (hN : N = 80) (hT : T = 2) {R : AV → Mem → Prop} {ls : List HS} {os : List (List Int)} (hO : ApartOk2 ls os) (hn : ls.length ≤ 1000000)
  (hR : ∀ H, R (.one (.lit true)) [(200000, Blk.rview [.hss .u8 ls]), (900004, .heap .u8 H)]) : ∀ H, Holds ls (fun k _ => mkm k) H →
  lapart.l2 R ls (1 + tot (fun _ => 2 + tot (fun i => (hget ls i).len + (N + 3)) 0 ls.length) 0 T) 0 H := fun H hH => by
 refine loop_inv (fun f i (H : List (List Int)) => lapart.l2 R ls f i H) T (fun _ H => Holds ls (fun k _ => mkm k) H) (fun _ => 2 + tot (fun i => (hget ls i).len + (N + 3)) 0 ls.length) 1 (fun g i H hi hI hnx => ?_) (fun H hI => ?_) T 0 H (by omega) hH
 ·have g1 : ilt (i : Int) 2 = true := by rw [ilt_true]; omega
  have q := m_l3 hN hO hn (by omega) hnx H hI
  show lapart.l2 R ls (g + (2 + tot (fun i => (hget ls i).len + (N + 3)) 0 ls.length)) (i : Int) H
  rw [show g + (2 + tot (fun i => (hget ls i).len + (N + 3)) 0 ls.length) = ((g + 1) + tot (fun i => (hget ls i).len + (N + 3)) 0 ls.length) + 1 by omega, lapart.l2_succ R ls ((g + 1) + tot (fun i => (hget ls i).len + (N + 3)) 0 ls.length) (i : Int) H, g1]
  exact m_tt q
 ·have g1 : ilt ((T : Nat) : Int) 2 = false := by rw [ilt_false]; omega
  show lapart.l2 R ls (0 + 1) ((T : Nat) : Int) H
  rw [lapart.l2_succ R ls 0 ((T : Nat) : Int) H, g1]
  exact m_ff (hR H)
theorem m_l1 {R : AV → Mem → Prop} {ls : List HS} {os : List (List Int)} (hO : ApartOk2 ls os) (hn : ls.length ≤ 1000000) {i g : Nat} (hi : i < ls.length)
  (nx : ∀ H', Marked2 ls mkm (i + 1) 0 H' → lapart.l0 R ls g ((i + 1 : Nat) : Int) H') : ∀ H, Marked2 ls mkm i 0 H →
  lapart.l1 R (i : Int) ls ((g + 1) + tot (fun _ => 1) 0 (hget ls i).len) 0 H := fun H hH => by
 have hsm := (hO.inn i hi).2.2
 have ai : add .i64 (i : Int) 1 = ((i + 1 : Nat) : Int) := add1_i64 (by omega)
 have i3 : InB (i : Int) (llen ls) := ⟨by omega, by rw [llen_def]; omega⟩
 refine loop_inv (fun f t (H : List (List Int)) => lapart.l1 R (i : Int) ls f t H) (hget ls i).len (fun t H => Marked2 ls mkm i t H) (fun _ => 1) (g + 1) (fun f t H ht hI hnx => ?_) (fun H hI => ?_) (hget ls i).len 0 H (by omega) hH
 ·have a1 : add .i64 (t : Int) 1 = ((t + 1 : Nat) : Int) := add1_i64 (by omega)
  have g1 : ilt (t : Int) (ofNat (Go.Sx.hl (hget ls (nat (i : Int))))) = true := by rw [ilt_true, ofNat_def]; show (t : Int) < ((hget ls i).len : Nat); omega
  have ib : InB (t : Int) (Go.Sx.hl (hget ls (nat (i : Int)))) := ⟨by omega, by show (t : Int) < ((hget ls i).len : Nat); omega⟩
  have st := hnx _ (marked2_step hO hI hi ht)
  show lapart.l1 R (i : Int) ls (f + 1) (t : Int) H
  rw [lapart.l1_succ R (i : Int) ls f (t : Int) H, g1, a1]
  exact ⟨i3, m_tt ⟨i3, ib, st⟩⟩
 ·have g1 : ilt ((hget ls i).len : Int) (ofNat (Go.Sx.hl (hget ls (nat (i : Int))))) = false := by rw [ilt_false, ofNat_def]; show ((hget ls i).len : Int) ≤ ((hget ls i).len : Nat); omega
  have q := nx H (marked2_next hI)
  show lapart.l1 R (i : Int) ls (g + 1) ((hget ls i).len : Int) H
  rw [lapart.l1_succ R (i : Int) ls g ((hget ls i).len : Int) H, g1, ai]
  exact ⟨i3, m_ff q⟩
theorem m_l0 {R : AV → Mem → Prop} {ls : List HS} {os : List (List Int)} (hO : ApartOk2 ls os) (hn : ls.length ≤ 1000000) {f : Nat} (nx : ∀ H', Marked2 ls mkm ls.length 0 H' → lapart.l2 R ls f 0 H') :
  lapart.l0 R ls ((f + 1) + tot (fun i => (hget ls i).len + 2) 0 ls.length) 0 os := by
 refine loop_inv (fun f i (H : List (List Int)) => lapart.l0 R ls f i H) ls.length (fun i H => Marked2 ls mkm i 0 H) (fun i => (hget ls i).len + 2) (f + 1) (fun g i H hi hI hnx => ?_) (fun H hI => ?_) ls.length 0 os (by omega) ⟨hO.z, fun k hk => ⟨(hO.inn k hk).1, (hO.inn k hk).2.1⟩, fun k hk u hu q => by omega⟩
 ·have g1 : ilt (i : Int) (ofNat (llen ls)) = true := by rw [ilt_true, ofNat_def, llen_def]; omega
  have q := m_l1 hO hn hi hnx H hI
  rw [m_one] at q
  show lapart.l0 R ls (g + ((hget ls i).len + 2)) (i : Int) H
  rw [show g + ((hget ls i).len + 2) = ((g + 1) + (hget ls i).len) + 1 by omega, lapart.l0_succ R ls ((g + 1) + (hget ls i).len) (i : Int) H, g1]
  exact m_tt q
 ·have g1 : ilt ((ls.length : Nat) : Int) (ofNat (llen ls)) = false := by rw [ilt_false, ofNat_def, llen_def]; omega
  have q := nx H hI
  show lapart.l0 R ls (f + 1) ((ls.length : Nat) : Int) H
  rw [lapart.l0_succ R ls f ((ls.length : Nat) : Int) H, g1]
  exact m_ff q
theorem m_apart {R : AV → Mem → Prop} {ls : List HS} {os : List (List Int)} (hO : ApartOk2 ls os) (hn : ls.length ≤ 1000000) (hR : ∀ H, R (.one (.lit true)) [(200000, Blk.rview [.hss .u8 ls]), (900004, .heap .u8 H)]) :
  ∃ f, callsx Tryd.prog gam0 [] Tryd.f23 f [.one (.vec 200000)] [(200000, .rview [.hss .u8 ls]), (900004, .heap .u8 os)] R := by
 have q := m_l0 hO hn fun H' h' => m_l2 (N := 80) (T := 2) rfl rfl hO hn hR H' h'.holds
 exact ⟨_, by rw [lapart_vc]; exact q⟩
theorem mixed : Tryd.prog.follows .mixedOrders = true := by kernel_rfl
end Go.Proofs.YtmgbaimcjkhieaaDoor.G
namespace Go.Sx
open Go
structure FewLs (ls : List HS) : Prop where
 n : ls.length ≤ 1000000
def apartM : Spec := ⟨0, true, fun _ args σ K => match args with
 | [.one (.vec n)] => match Mem.cols σ n, Mem.heap σ .u8 with
  | some [.hss .u8 ls], some os => (ApartOk2 ls os ∧ FewLs ls) ∧ ∀ os', K (.one (.lit true)) (σ.put 900004 (.heap .u8 os'))
  | _, _ => False
 | _ => False⟩
end Go.Sx
namespace Go.Proofs.YtmgbaimcjkhieaaDoor.G
open Go Go.Sx
set_option maxRecDepth 20000
theorem good_apart : Sx.Good Tryd.prog 23 apartM := by
 refine Sx.Good.heap (D := []) mixed (good0 _) Tryd.func23 (by kernel_rfl) rfl fun d args σ K h => ?_
 simp only [apartM] at h
 split at h <;> try exact h.elim
 rename_i n
 split at h <;> try exact h.elim
 rename_i ls os hcs ho
 obtain ⟨hO, hK⟩ := h
 refine ⟨.u8, os, _, _, [(200000, .rview [.hss .u8 ls]), (900004, .heap .u8 os)], ho, .row _ hcs (.nil _), by simp, fun m => ?_, m_apart hO.1 hO.2.n fun H => ⟨H, .one (.lit true), rfl, fun m hm => by simp [AV.refs, AC.refs] at hm, fun ρ v hv => hv, hK H⟩⟩
 simp only [Mem.find, hname]
 by_cases h1 : 200000 = m
 ·subst h1; simp
 ·by_cases h2 : 900004 = m
  ·subst h2; simp
  ·simp [h1, h2]
end Go.Proofs.YtmgbaimcjkhieaaDoor.G
namespace Go.Mac
open Go Go.Sx
def mks : List Int := List.replicate 80 165
def roomL (p : List Int) : List Int := p ++ mks
def keptB (l p : List Int) : Bool := leq l (roomL p)
end Go.Mac
namespace Go.Sx
open Go.Hsh Go.Mac
noncomputable def roomyS : Spec := ⟨1, false, fun d args σ K => match args with
 | [x] => rdb σ x fun p => Sg p ∧ K (.one (.vec d)) (Mem.ins d (.vec [.ints .u8 (roomL p)]) σ)
 | _ => False⟩
def keptS : Spec := ⟨0, false, fun _ args σ K => match args with
 | [x, y] => rdb σ x fun l => rdb σ y fun p => ((Bs l ∧ Bs p) ∧ Fits (llen p) (llen l) ∧ Fits (llen l) 200000000000000) ∧ K (.one (.bool (keptB l p))) σ
 | _ => False⟩
noncomputable def gamM6 : Gam := ext (ext (ext gamM5 21 roomyS) 22 keptS) 23 apartM
end Go.Sx
