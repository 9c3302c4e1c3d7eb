/- Own texts of this proof, laid one behind the other: Sx18, MixM, KfG, KfP, KfP3, KfP4, BlkP, BlkP2, BlkR, BlkP3, FieldM2, KfM3, BlkP4, BlkP5, CellM, BlkB2, BlkH, BlkP6, BlkP7, BlkH2, BlkP8, BlkP9, BlkB3, BlkQ. -/
import Derived.Test.YtkecbjohbihfmaaBlockMasksC
import Derived.SizedLaws
import Derived.Test.YtkecbjohbihfmaaProg

/- Laws over arguments that lie in memory: they are read, and nothing of them is written. -/
namespace Go.Sx
open Go Go.ChangeShapes Go.WideShapes Go.ChangeAt Go.RowKit
set_option linter.unusedSimpArgs false
set_option linter.unusedVariables false

/-- the fields of a struct that came in -/
inductive AggArgs (w : World) : Nat → List Seg → List Value → Mem → Nat → Prop
  | nil (j : Nat) : AggArgs w j [] [] [] j
  | one {j j' : Nat} {a : AC} {v : Value} {s : List Seg} {cs : List Value} {τ : Mem} : (∀ ρ, CRep ρ a v) → AggArgs w j s cs τ j' → AggArgs w j (.cells [a] :: s) (v :: cs) τ j'
  | arr {j j' m : Nat} {k : IntKind} {l : List Int} {s : List Seg} {cs : List Value} {τ : Mem} : l.length = m → AggArgs w j s cs τ j' → AggArgs w j (.ints k m l :: s) (l.map (Value.int k) ++ cs) τ j'
  | row {j j' : Nat} {v : Value} {s : List Seg} {cs : List Value} {τ : Mem} (L : Loc) (cols : List Col) (hj : j < 1000) : VRep w L cols → v = .slice L.a L.len L.cap → AggArgs w (j + 1) s cs τ j' → (hH : noHss cols = true := by rfl) → AggArgs w j (.cells [.vec (200000 + j)] :: s) (v :: cs) ((200000 + j, .rview cols) :: τ) j'

/-- the arguments of a law: plain values, structs, and lists that are seen under names of their own -/
inductive LawArgs (w : World) : Nat → List AV → List Value → Mem → Prop
  | nil (j : Nat) : LawArgs w j [] [] []
  | plain {j : Nat} {x : AV} {v : Value} {xs : List AV} {vs : List Value} {τ : Mem} : (∀ ρ, SRep ρ x v) → LawArgs w (j + 1) xs vs τ → LawArgs w j (x :: xs) (v :: vs) τ
  | row {j : Nat} {v : Value} {xs : List AV} {vs : List Value} {τ : Mem} (L : Loc) (cs : List Col) (hj : j < 1000) : VRep w L cs → v = .slice L.a L.len L.cap → LawArgs w (j + 1) xs vs τ → (hH : noHss cs = true := by rfl) → LawArgs w j (.one (.vec (200000 + j)) :: xs) (v :: vs) ((200000 + j, .rview cs) :: τ)
  | agg {j j' : Nat} {s : List Seg} {cs : List Value} {xs : List AV} {vs : List Value} {τ τ' : Mem} : AggArgs w j s cs τ' j' → LawArgs w j' xs vs τ → LawArgs w j (.agg s :: xs) (.agg cs.toArray :: vs) (τ' ++ τ)
  | heap {j : Nat} {k : IntKind} {xs : List AV} {vs : List Value} {τ : Mem} : LawArgs w j xs vs τ → LawArgs w j xs vs ((hname k, .heap k [[]]) :: τ)
  | glob {j g : Nat} {s : List Seg} {xs : List AV} {vs : List Value} {τ : Mem} : (∀ ρ, Glob ρ → segsOk s ∧ CellsAt ρ w (gname g) (flat s)) → LawArgs w j xs vs τ → LawArgs w j xs vs ((gname g, .view s) :: τ)

theorem find_append {τ' τ : Mem} {n : Nat} {b : Blk} (h : Mem.find (τ' ++ τ) n = some b) : Mem.find τ' n = some b ∨ Mem.find τ n = some b := by
  induction τ' with
  | nil => exact Or.inr h
  | cons x r ih =>
    obtain ⟨m, y⟩ := x
    simp only [List.cons_append, Mem.find] at h ⊢
    split at h
    · rename_i e; rw [if_pos e]; exact Or.inl h
    · rename_i e; rw [if_neg e]; exact ih h

theorem aggArgs_views {w : World} {τ : Mem} : ∀ {j j' : Nat} {s : List Seg} {cs : List Value}, AggArgs w j s cs τ j' → ∀ ρ n b k, Mem.find τ n = some b → ¬ Out ρ n b k := by
  intro j j' s cs h
  induction h with
  | nil j => intro ρ n b k hn; simp [Mem.find] at hn
  | one _ _ ih => exact ih
  | arr _ _ ih => exact ih
  | row L cols _ _ _ _ _ ih =>
    intro ρ n b k hn
    simp only [Mem.find] at hn
    split at hn
    · cases hn; exact fun q => q
    · exact ih ρ n b k hn

/-- the place of an empty heap -/
def heap0 : Loc := ⟨0, 0, none, 0, 0, fun c _ => ⟨none, c, 0⟩⟩
theorem heap0_rep (w : World) (k : IntKind) : HeapRep w heap0 k [[]] :=
  ⟨rfl, rfl, by decide, rfl, fun j l hl => by
    cases j with
    | zero =>
      simp at hl; subst hl
      exact ⟨VRep.ofInts rfl (Nat.le_refl _) (fun q => absurd rfl q) (fun j x hj => by simp at hj), fun q => absurd rfl q⟩
    | succ j => simp at hl, fun i j hi hj hij => by simp at hi hj; omega⟩

theorem lawArgs_views {w : World} {τ : Mem} : ∀ {j : Nat} {xs : List AV} {vs : List Value}, LawArgs w j xs vs τ → ∀ ρ, (∀ n, isHeap n = true → ρ n = heap0) → ∀ n b k, Mem.find τ n = some b → ¬ Out ρ n b k := by
  intro j xs vs h
  induction h with
  | nil j => intro ρ _ n b k hn; simp [Mem.find] at hn
  | plain _ _ ih => exact ih
  | row L cs _ _ _ _ _ ih =>
    intro ρ hp n b k hn
    simp only [Mem.find] at hn
    split at hn
    · cases hn; exact fun q => q
    · exact ih ρ hp n b k hn
  | agg ha _ ih =>
    intro ρ hp n b k hn
    rcases find_append hn with q | q
    · exact aggArgs_views ha ρ n b k q
    · exact ih ρ hp n b k q
  | @heap j k xs vs τ _ ih =>
    intro ρ hp n b q hn
    simp only [Mem.find] at hn
    split at hn
    · rename_i e
      subst e
      cases hn
      rintro ⟨i, h1, h2, _⟩
      rw [hp _ (isHeap_hname k)] at h1 h2
      exact h2 rfl
    · exact ih ρ hp n b q hn
  | glob _ _ ih =>
    intro ρ hp n b k hn
    simp only [Mem.find] at hn
    split at hn
    · cases hn; exact fun q => q
    · exact ih ρ hp n b k hn

theorem FRep.cons {ρ : Rho} {a : AC} {v : Value} {l : List AC} {c : List Value} (h : CRep ρ a v) (t : FRep ρ l c) : FRep ρ (a :: l) (v :: c) := by
  refine ⟨by simp [t.1], fun j x u hx hu => ?_⟩
  cases j with
  | zero => simp at hx hu; subst hx hu; exact h
  | succ j => exact t.2 j x u (by simpa using hx) (by simpa using hu)

theorem FRep.arr {ρ : Rho} {k : IntKind} {l : List AC} {c : List Value} : ∀ (a : List Int), FRep ρ l c → FRep ρ (a.map (.int k) ++ l) (a.map (Value.int k) ++ c)
  | [], h => h
  | x :: a, h => FRep.cons rfl (FRep.arr a h)

theorem aggArgs_sound {w : World} {τ : Mem} : ∀ {j j' : Nat} {s : List Seg} {cs : List Value}, AggArgs w j s cs τ j' →
    j ≤ j' ∧ ∃ Ls : Nat → Loc, ∀ ρ : Rho, (∀ i, j ≤ i → i < j' → i < 1000 → ρ (200000 + i) = Ls i) → segsOk s ∧ FRep ρ (flat s) cs ∧ MemRep ρ τ w := by
  intro j j' s cs h
  induction h with
  | nil j => exact ⟨Nat.le_refl _, fun _ => loc0, fun ρ _ => ⟨trivial, ⟨rfl, fun i y v hy => by simp [flat] at hy⟩, fun n b hb => by simp [Mem.find] at hb⟩⟩
  | one hp _ ih =>
    obtain ⟨h1, Ls, h2⟩ := ih
    refine ⟨h1, Ls, fun ρ hc => ?_⟩
    obtain ⟨g1, g2, g3⟩ := h2 ρ hc
    exact ⟨⟨trivial, g1⟩, FRep.cons (hp ρ) g2, g3⟩
  | arr hl _ ih =>
    obtain ⟨h1, Ls, h2⟩ := ih
    refine ⟨h1, Ls, fun ρ hc => ?_⟩
    obtain ⟨g1, g2, g3⟩ := h2 ρ hc
    exact ⟨⟨hl, g1⟩, FRep.arr _ g2, g3⟩
  | @row j j' v s cs τ L cols hj hV hv _ hH ih =>
    obtain ⟨h1, Ls, h2⟩ := ih
    refine ⟨by omega, fun i => if i = j then L else Ls i, fun ρ hc => ?_⟩
    have hj' : ρ (200000 + j) = L := by rw [hc j (Nat.le_refl _) (by omega) hj]; simp
    obtain ⟨g1, g2, g3⟩ := h2 ρ (fun i hi hlt h1000 => by rw [hc i (by omega) hlt h1000]; show (if i = j then _ else Ls i) = Ls i; rw [if_neg (by omega)])
    refine ⟨⟨trivial, g1⟩, FRep.cons (show v = _ by rw [hj']; exact hv) g2, fun n b hb => ?_⟩
    simp only [Mem.find] at hb
    split at hb
    · rename_i e; subst e; cases hb
      exact ⟨by rw [hj']; exact hV, noHss_lnk hH⟩
    · exact g3 n b hb

theorem lawArgs_sound {w : World} {τ : Mem} : ∀ {j : Nat} {xs : List AV} {vs : List Value}, LawArgs w j xs vs τ →
    xs.length = vs.length ∧ ∃ Ls : Nat → Loc, ∀ ρ : Rho, Glob ρ → (∀ n, isHeap n = true → ρ n = heap0) → (∀ i, j ≤ i → i < 1000 → ρ (200000 + i) = Ls i) → (∀ (i : Nat) y v, xs[i]? = some y → vs[i]? = some v → SRep ρ y v) ∧ MemRep ρ τ w := by
  intro j xs vs h
  induction h with
  | nil j => exact ⟨rfl, fun _ => loc0, fun ρ _ _ _ => ⟨fun i y v hy => by simp at hy, fun n b hb => by simp [Mem.find] at hb⟩⟩
  | @plain j x v xs vs τ hp _ ih =>
    obtain ⟨h1, Ls, h2⟩ := ih
    refine ⟨by simpa using h1, Ls, fun ρ hg hp0 hc => ?_⟩
    obtain ⟨g1, g2⟩ := h2 ρ hg hp0 (fun i hi hlt => hc i (by omega) hlt)
    refine ⟨fun i y u hy hu => ?_, g2⟩
    cases i with
    | zero => simp at hy hu; subst hy hu; exact hp ρ
    | succ i => exact g1 i y u (by simpa using hy) (by simpa using hu)
  | @row j v xs vs τ L cs hj hV hv _ hH ih =>
    obtain ⟨h1, Ls, h2⟩ := ih
    refine ⟨by simpa using h1, fun i => if i = j then L else Ls i, fun ρ hg hp0 hc => ?_⟩
    have hj : ρ (200000 + j) = L := by rw [hc j (Nat.le_refl _) hj]; simp
    obtain ⟨g1, g2⟩ := h2 ρ hg hp0 (fun i hi hlt => by rw [hc i (by omega) hlt]; show (if i = j then _ else Ls i) = Ls i; rw [if_neg (by omega)])
    refine ⟨fun i y u hy hu => ?_, fun n b hb => ?_⟩
    · cases i with
      | zero =>
        simp at hy hu
        subst hy hu
        show v = _
        rw [hj]; exact hv
      | succ i => exact g1 i y u (by simpa using hy) (by simpa using hu)
    · simp only [Mem.find] at hb
      split at hb
      · rename_i e; subst e; cases hb
        exact ⟨by rw [hj]; exact hV, noHss_lnk hH⟩
      · exact g2 n b hb
  | @agg j j' s cs xs vs τ τ' ha _ ih =>
    obtain ⟨h1, Ls, h2⟩ := ih
    obtain ⟨a1, La, a2⟩ := aggArgs_sound ha
    refine ⟨by simpa using h1, fun i => if i < j' then La i else Ls i, fun ρ hg hp0 hc => ?_⟩
    obtain ⟨g1, g2⟩ := h2 ρ hg hp0 (fun i hi hlt => by rw [hc i (by omega) hlt]; show (if i < j' then _ else Ls i) = Ls i; rw [if_neg (by omega)])
    obtain ⟨b1, b2, b3⟩ := a2 ρ (fun i hi hlt h1000 => by rw [hc i hi h1000]; show (if i < j' then La i else _) = La i; rw [if_pos hlt])
    refine ⟨fun i y u hy hu => ?_, fun n b hb => ?_⟩
    · cases i with
      | zero =>
        simp at hy hu
        subst hy hu
        exact ⟨b1, cs, rfl, b2⟩
      | succ i => exact g1 i y u (by simpa using hy) (by simpa using hu)
    · rcases find_append hb with q | q
      · exact b3 n b q
      · exact g2 n b q
  | @heap j k xs vs τ _ ih =>
    obtain ⟨h1, Ls, h2⟩ := ih
    refine ⟨h1, Ls, fun ρ hg hp0 hc => ?_⟩
    obtain ⟨g1, g2⟩ := h2 ρ hg hp0 hc
    refine ⟨g1, fun n b hb => ?_⟩
    simp only [Mem.find] at hb
    split at hb
    · rename_i e; subst e; cases hb
      exact ⟨isHeap_hname k, by rw [hp0 _ (isHeap_hname k)]; exact heap0_rep w k⟩
    · exact g2 n b hb
  | @glob j g s xs vs τ hp _ ih =>
    obtain ⟨h1, Ls, h2⟩ := ih
    refine ⟨h1, Ls, fun ρ hg hp0 hc => ?_⟩
    obtain ⟨g1, g2⟩ := h2 ρ hg hp0 hc
    refine ⟨g1, fun n b hb => ?_⟩
    simp only [Mem.find] at hb
    split at hb
    · rename_i e; subst e; cases hb
      exact hp ρ hg
    · exact g2 n b hb

theorem loc_of {w : World} {k : IntKind} {a : Option Addr} {len cap : Nat} {zs : List Int} (h : IsRow k w a len cap zs) : ∃ L : Loc, VRep w L [.ints k (zs.take len)] ∧ Value.slice a len cap = .slice L.a L.len L.cap := by
  rcases h with ⟨rfl, rfl, rfl, rfl⟩ | ⟨x, rfl, hl, hm, hz, hc, hw⟩
  · exact ⟨loc0, VRep.ofInts rfl (Nat.le_refl _) (fun q => absurd rfl q) (fun j x hj => by simp at hj), rfl⟩
  · have hcell : ∀ (j : Nat) y, (zs.take len)[j]? = some y → w.cell? (x.add j) = some (.int k y) := fun j y hj => by
      have hlt : j < len := by have := (List.getElem?_eq_some_iff.1 hj).1; simp at this; omega
      rw [hc j (by omega)]
      rw [List.getElem?_take_of_lt hlt] at hj
      simp [List.getD, hj]
    have hsp : 0 < len → x.spot = none := fun hp => by
      have h0 := hc 0 (by omega)
      cases hs : x.spot with
      | none => rfl
      | some q =>
        exfalso
        have : (x.add 0).spot.isSome = true := by cases x; simp only at hs; subst hs; rfl
        simp only [World.cell?, this] at h0
        split at h0 <;> simp at h0
    refine ⟨⟨x.block, x.off, some x, len, cap, fun _ _ => ⟨none, 0, 0⟩⟩, VRep.ofInts (by simp; omega) hl (fun q => ?_) (fun j y hj => ?_), rfl⟩
    · have := hsp (Nat.pos_of_ne_zero q)
      cases x
      simp only at this; subst this; rfl
    · have hlt : j < len := by have := (List.getElem?_eq_some_iff.1 hj).1; simp at this; omega
      have := hsp (by omega)
      have e : (Loc.at ⟨x.block, x.off, some x, len, cap, fun _ _ => ⟨none, 0, 0⟩⟩ j) = x.add j := by
        cases x; simp only at this; subst this; simp [Loc.at, Addr.add]
      rw [e]; exact hcell j y hj

theorem LawArgs.ints {w : World} {k : IntKind} {a : Option Addr} {len cap j : Nat} {zs : List Int} {xs : List AV} {vs : List Value} {τ : Mem} (h : IsRow k w a len cap zs) (t : LawArgs w (j + 1) xs vs τ) (hj : j < 1000 := by decide) :
    LawArgs w j (.one (.vec (200000 + j)) :: xs) (.slice a len cap :: vs) ((200000 + j, .rview [.ints k (zs.take len)]) :: τ) := by
  obtain ⟨L, h1, h2⟩ := loc_of h
  exact .row L _ hj h1 h2 t

theorem AggArgs.ints {w : World} {k : IntKind} {a : Option Addr} {len cap j j' : Nat} {zs : List Int} {s : List Seg} {cs : List Value} {τ : Mem} (h : IsRow k w a len cap zs) (t : AggArgs w (j + 1) s cs τ j') (hj : j < 1000 := by decide) :
    AggArgs w j (.cells [.vec (200000 + j)] :: s) (.slice a len cap :: cs) ((200000 + j, .rview [.ints k (zs.take len)]) :: τ) j' := by
  obtain ⟨L, h1, h2⟩ := loc_of h
  exact .row L _ hj h1 h2 t

theorem AggArgs.num {w : World} {k : IntKind} {n : Int} {j j' : Nat} {s : List Seg} {cs : List Value} {τ : Mem} (t : AggArgs w j s cs τ j') : AggArgs w j (.cells [.int k n] :: s) (.int k n :: cs) τ j' := .one (fun _ => rfl) t
theorem AggArgs.flag {w : World} {b : Bool} {j j' : Nat} {s : List Seg} {cs : List Value} {τ : Mem} (t : AggArgs w j s cs τ j') : AggArgs w j (.cells [.bool b] :: s) (.bool b :: cs) τ j' := .one (fun _ => rfl) t

theorem IsRow.take_len {w : World} {k : IntKind} {a : Option Addr} {len cap : Nat} {zs : List Int} (h : IsRow k w a len cap zs) : (zs.take len).length = len ∧ len ≤ zs.length := by
  rcases h with ⟨rfl, rfl, rfl, rfl⟩ | ⟨x, rfl, hl, hm, hz, hc, hw⟩
  · exact ⟨rfl, Nat.le_refl _⟩
  · exact ⟨by simp; omega, by omega⟩

theorem IsRow.bytes {w : World} {a : Option Addr} {len cap : Nat} {zs : List Int} (h : IsRow .u8 w a len cap zs) : ∀ x ∈ zs.take len, 0 ≤ x ∧ x < 256 := by
  rcases h with ⟨rfl, rfl, rfl, rfl⟩ | ⟨x, rfl, hl, hm, hz, hc, hw⟩
  · intro x hx; simp at hx
  · intro x hx
    obtain ⟨h1, h2⟩ := bounds_u8 (hw x (List.mem_of_mem_take hx))
    exact ⟨h1, by omega⟩

section
variable {H : Type} {enc : TypeId × Value → H} {P : Program} {w : World}
/-- a slice of integers that came in, with its size -/
theorem open_row_sized {t e : TypeId} {k : IntKind} {a : Option Addr} {len cap : Nat} {d : DataW H} {ps : List MemPlace} (ht : P.underlying t = some (.slice e)) (he : P.underlying e = some (.int k)) (hc : P.cellsOf e = 1)
    (h : DataW.Trod enc P w 0 (fun _ => true) true t (.slice a len cap) d ps) {ts : List TypeId} {ds : List (DataW H)} (hsz : (DataW.weightsEach P ts ds).all (· ≤ reachBytes) = true) {j : Nat} (htj : ts[j]? = some t) (hdj : ds[j]? = some d) :
    ∃ zs, IsRow k w a len cap zs ∧ zs.length * P.bytesOf e ≤ reachBytes := by
  obtain ⟨fuel, hf⟩ := h
  rcases open_ints ht he hc hf with ⟨hcs, _⟩ | ⟨x, l, c, zs, hcs, _, hl, hm, hz, hd, hcell, hwz⟩
  · simp [Value.cells] at hcs
    obtain ⟨rfl, rfl, rfl⟩ := hcs
    exact ⟨[], .inl ⟨rfl, rfl, rfl, rfl⟩, by simp⟩
  · simp [Value.cells] at hcs
    obtain ⟨rfl, rfl, rfl⟩ := hcs
    simp only [Prod.mk.injEq] at hd
    obtain ⟨rfl, _⟩ := hd
    refine ⟨zs, .inr ⟨_, rfl, hl, hm, by simpa using hz, hcell, hwz⟩, ?_⟩
    have := sized_slice hsz htj hdj ht
    simp only [lits, List.length_map, List.length_take, List.length_drop] at this
    have hz' : zs.length = cap := by simpa using hz
    rw [show min len zs.length + (zs.length - len) = zs.length by omega] at this
    exact this
end

section
variable {P : Program} {Γ : Gam} {D : Hints}
/-- a law over plain values and lists -/
theorem law_mem (hm : P.follows .mixedOrders = true) (hΓ : GoodG P Γ) {f : FuncId} {fn : Func} (hf : P.funcs[f]? = some fn) (hb : fn.body.isSome = true) {n : Nat} {args : List AV} {vals : Array Value} {w : World} {τ : Mem} (ha : LawArgs w 0 args vals.toList τ) (hlen : args.length ≤ 1000)
    (h0 : Has (callsx P Γ D fn n args τ fun av _ => av = .one (.bool true) ∨ av = .one (.lit true))) :
    Calls P f vals w fun e w' => e = .returned (.bool true) ∧ Go.RowKit.Below w.heap.size w w' := by
  have h := h0.out
  obtain ⟨hl, Ls, hs⟩ := lawArgs_sound ha
  generalize hρ0 : rhoC (fun n => if n < 1000000 then heap0 else ⟨n - 1000000, 0, none, 0, 0, fun _ _ => ⟨none, 0, 0⟩⟩) Ls = ρ
  have hρ : ∀ i, 0 ≤ i → i < 1000 → ρ (200000 + i) = Ls i := fun i _ hi => by rw [← hρ0]; exact rhoC_arg (by omega)
  have hg : Glob ρ := fun g => by
    have e : ρ (gname g) = ⟨gname g - 1000000, 0, none, 0, 0, fun _ _ => ⟨none, 0, 0⟩⟩ := by rw [← hρ0, rhoC_glob, if_neg (by simp only [gname]; omega)]
    rw [e]; simp [gname]
  have hh : ∀ n, isHeap n = true → ρ n = heap0 := fun n hn => by rw [← hρ0, rhoC_heap hn, if_pos (isHeap_le hn).2]
  obtain ⟨g1, g2⟩ := hs ρ hg hh hρ
  have hno := lawArgs_views ha ρ hh
  refine (callsx_sound hm hΓ hf hb h (ρ := ρ) (ex := fun _ => False) hg (by simpa using hl) (fun j x v h1 h2 => g1 j x v h1 (by rw [Array.getElem?_toList]; exact h2)) g2 ⟨fun n m b c k hn _ _ hO => absurd hO (hno n b k hn), fun n b k hn hO => absurd hO (hno n b k hn)⟩ (fun n b k hn hO => absurd hO (hno n b k hn))).mono ?_
  rintro e w' ⟨v, av, σ', ρ', rfl, hav, hsr, _, _, _, _, _, hk⟩
  have : v = .bool true := by rcases hav with rfl | rfl <;> exact hsr
  subst this
  exact ⟨rfl, hk.below⟩
end
end Go.Sx

/- The program draws the order of its regions. -/
namespace Go.Proofs.Ytkecbjohbihfmaa.G
open Go Go.Sx
theorem mixed : Try.prog.follows .mixedOrders = true := by kernel_rfl
end Go.Proofs.Ytkecbjohbihfmaa.G

/- The verification conditions of functions, printed by a program of this session out of their codes. -/
namespace Go.Proofs.Ytkecbjohbihfmaa.G
open Go Go.Sx Go.Fld
set_option linter.unusedVariables false
set_option maxRecDepth 100000

def Mul.l0 (R : AV → Mem → Prop)  (fuel : Nat) (x0 : Int) (x1 : Int) (x2 : Int) (x3 : Int) : Prop := run Try.prog gam0 [] (resh Try.prog [] Try.f26.results.toList R) fuel [.code (cAt (bodyOf Try.f26) [1, 1, 0, 1, 0, 0]), .inLoop (cAt (bodyOf Try.f26) [1, 1, 0, 1, 0, 0]), .inBlock 0, .code (cAt (bodyOf Try.f26) [1, 1, 1])] [(AV.one (AC.int IntKind.u8 x0)), (AV.one (AC.int IntKind.u8 x1)), AV.undef, AV.undef, AV.undef, (AV.one (AC.int IntKind.u8 x2)), AV.undef, (AV.one (AC.int IntKind.i64 x3)), AV.undef, AV.undef, AV.undef, AV.undef, AV.undef, AV.undef, AV.undef, AV.undef, AV.undef, AV.undef, AV.undef, AV.undef, AV.undef, AV.undef, AV.undef, AV.undef, AV.undef, AV.undef, (AV.tup [])] []

theorem Mul.l0_succ (R : AV → Mem → Prop)  (fuel : Nat) (x0 : Int) (x1 : Int) (x2 : Int) (x3 : Int) : Mul.l0 R  (fuel + 1) x0 x1 x2 x3 = (((((ilt x3 8) = true) → ((((ieq (band IntKind.u8 x1 1) 1) = true) → ((NonNeg 1) ∧ ((NonNeg 1) ∧ ((((ine (band IntKind.u8 x0 128) 0) = true) → (Mul.l0 R  fuel (bxor IntKind.u8 (shl IntKind.u8 x0 1) 27) (shr IntKind.u8 x1 1) (bxor IntKind.u8 x2 x0) (add IntKind.i64 x3 1))) ∧ (((ine (band IntKind.u8 x0 128) 0) = false) → (Mul.l0 R  fuel (shl IntKind.u8 x0 1) (shr IntKind.u8 x1 1) (bxor IntKind.u8 x2 x0) (add IntKind.i64 x3 1))))))) ∧ (((ieq (band IntKind.u8 x1 1) 1) = false) → ((NonNeg 1) ∧ ((NonNeg 1) ∧ ((((ine (band IntKind.u8 x0 128) 0) = true) → (Mul.l0 R  fuel (bxor IntKind.u8 (shl IntKind.u8 x0 1) 27) (shr IntKind.u8 x1 1) x2 (add IntKind.i64 x3 1))) ∧ (((ine (band IntKind.u8 x0 128) 0) = false) → (Mul.l0 R  fuel (shl IntKind.u8 x0 1) (shr IntKind.u8 x1 1) x2 (add IntKind.i64 x3 1))))))))) ∧ (((ilt x3 8) = false) → (R (AV.one (AC.int IntKind.u8 x2)) [])))) := by kernel_rfl
theorem Mul.l0_zero (R : AV → Mem → Prop)  (x0 : Int) (x1 : Int) (x2 : Int) (x3 : Int) : Mul.l0 R  0 x0 x1 x2 x3 = False := by kernel_rfl

theorem Mul_vc (R : AV → Mem → Prop) (fuel : Nat) (a : Int) (b : Int) : callsx Try.prog gam0 [] Try.f26 (fuel + 1) [.one (.int .u8 a), .one (.int .u8 b)] [] R = ((Mul.l0 R  fuel a b 0 0)) := by kernel_rfl

theorem turned_vc (R : AV → Mem → Prop) (fuel : Nat) (a : Int) (b : Int) : callsx Try.prog gam0 [] Try.f42 (fuel + 1) [.one (.int .u8 a), .one (.int .i64 b)] [] R = (((NonNeg b) ∧ ((NonNeg (sub IntKind.i64 8 b)) ∧ (R (AV.one (AC.int IntKind.u8 (bor IntKind.u8 (shl IntKind.u8 a b) (shr IntKind.u8 a (sub IntKind.i64 8 b))))) [])))) := by kernel_rfl

def Inv.l0 (R : AV → Mem → Prop)  (fuel : Nat) (x0 : Int) (x1 : Int) (x2 : Int) : Prop := run Try.prog gam1 [] (resh Try.prog [] Try.f41.results.toList R) fuel [.code (cAt (bodyOf Try.f41) [1, 1, 0, 1, 0, 0]), .inLoop (cAt (bodyOf Try.f41) [1, 1, 0, 1, 0, 0]), .inBlock 0, .code (cAt (bodyOf Try.f41) [1, 1, 1])] [AV.undef, AV.undef, AV.undef, (AV.one (AC.int IntKind.u8 x0)), (AV.one (AC.int IntKind.u8 x1)), AV.undef, (AV.one (AC.int IntKind.i64 x2)), AV.undef, AV.undef, AV.undef, AV.undef, AV.undef, AV.undef, AV.undef, AV.undef, (AV.tup [])] []

theorem Inv.l0_succ (R : AV → Mem → Prop)  (fuel : Nat) (x0 : Int) (x1 : Int) (x2 : Int) : Inv.l0 R  (fuel + 1) x0 x1 x2 = (((((ilt x2 7) = true) → (((Byte x1) ∧ (Byte x1)) ∧ (((Byte x0) ∧ (Byte (fmul x1 x1))) ∧ (Inv.l0 R  fuel (fmul x0 (fmul x1 x1)) (fmul x1 x1) (add IntKind.i64 x2 1))))) ∧ (((ilt x2 7) = false) → (R (AV.one (AC.int IntKind.u8 x0)) [])))) := by kernel_rfl
theorem Inv.l0_zero (R : AV → Mem → Prop)  (x0 : Int) (x1 : Int) (x2 : Int) : Inv.l0 R  0 x0 x1 x2 = False := by kernel_rfl

theorem Inv_vc (R : AV → Mem → Prop) (fuel : Nat) (a : Int) : callsx Try.prog gam1 [] Try.f41 (fuel + 1) [.one (.int .u8 a)] [] R = ((Inv.l0 R  fuel 1 a 0)) := by kernel_rfl

theorem Sub_vc (R : AV → Mem → Prop) (fuel : Nat) (a : Int) : callsx Try.prog gam2 [] Try.f25 (fuel + 1) [.one (.int .u8 a)] [] R = (((Byte a) ∧ (((Byte (finv a)) ∧ (InB 1 9)) ∧ (((Byte (finv a)) ∧ (InB 2 9)) ∧ (((Byte (finv a)) ∧ (InB 3 9)) ∧ (((Byte (finv a)) ∧ (InB 4 9)) ∧ (R (AV.one (AC.int IntKind.u8 (bxor IntKind.u8 (bxor IntKind.u8 (bxor IntKind.u8 (bxor IntKind.u8 (bxor IntKind.u8 (finv a) (fturn (finv a) 1)) (fturn (finv a) 2)) (fturn (finv a) 3)) (fturn (finv a) 4)) 99))) []))))))) := by kernel_rfl

theorem Unsub_vc (R : AV → Mem → Prop) (fuel : Nat) (a : Int) : callsx Try.prog gam2 [] Try.f32 (fuel + 1) [.one (.int .u8 a)] [] R = ((((Byte a) ∧ (InB 1 9)) ∧ (((Byte a) ∧ (InB 3 9)) ∧ (((Byte a) ∧ (InB 6 9)) ∧ ((Byte (bxor IntKind.u8 (bxor IntKind.u8 (bxor IntKind.u8 (fturn a 1) (fturn a 3)) (fturn a 6)) 5)) ∧ (R (AV.one (AC.int IntKind.u8 (finv (bxor IntKind.u8 (bxor IntKind.u8 (bxor IntKind.u8 (fturn a 1) (fturn a 3)) (fturn a 6)) 5)))) [])))))) := by kernel_rfl

def mixd.l1 (R : AV → Mem → Prop) (x0 : Int) (c : List Int) (f : List Int) (fuel : Nat) (x2 : Int) (x3 : List Int) : Prop := run Try.prog gam4 [] (resh Try.prog [] Try.f45.results.toList R) fuel [.code (cAt (bodyOf Try.f45) [1, 1, 0, 1, 0, 0, 1, 1, 0, 0, 1, 1, 0, 0]), .inLoop (cAt (bodyOf Try.f45) [1, 1, 0, 1, 0, 0, 1, 1, 0, 0, 1, 1, 0, 0]), .inBlock 2, .inBlock 1, .code (cAt (bodyOf Try.f45) [1, 1, 0, 1, 0, 0, 1, 1, 1]), .inLoop (cAt (bodyOf Try.f45) [1, 1, 0, 1, 0, 0]), .inBlock 0, .code (cAt (bodyOf Try.f45) [1, 1, 1])] [AV.undef, AV.undef, (AV.one (AC.ptr 2 0 0)), (AV.one (AC.ptr 3 0 0)), (AV.one (AC.ptr 4 0 0)), (AV.one (AC.ptr 5 0 0)), (AV.one (AC.int IntKind.i64 x0)), AV.undef, (AV.one (AC.int IntKind.i64 x0)), (AV.one (AC.lit true)), (AV.one (AC.int IntKind.i64 x0)), (AV.one (AC.int IntKind.i64 x2)), AV.undef, AV.undef, AV.undef, AV.undef, AV.undef, AV.undef, AV.undef, AV.undef, AV.undef, AV.undef, AV.undef, AV.undef, AV.undef, AV.undef, AV.undef, AV.undef, AV.undef, AV.undef, AV.undef, AV.undef, (AV.tup [])] [(2, Blk.own 49 [(Seg.ints IntKind.u8 4 c)]), (3, Blk.own 49 [(Seg.ints IntKind.u8 4 f)]), (4, Blk.own 49 [(Seg.ints IntKind.u8 4 (lzeros 4))]), (5, Blk.own 49 [(Seg.ints IntKind.u8 4 x3)])]

def mixd.l0 (R : AV → Mem → Prop) (c : List Int) (f : List Int) (fuel : Nat) (x0 : Int) (x1 : List Int) : Prop := run Try.prog gam4 [] (resh Try.prog [] Try.f45.results.toList R) fuel [.code (cAt (bodyOf Try.f45) [1, 1, 0, 1, 0, 0]), .inLoop (cAt (bodyOf Try.f45) [1, 1, 0, 1, 0, 0]), .inBlock 0, .code (cAt (bodyOf Try.f45) [1, 1, 1])] [AV.undef, AV.undef, (AV.one (AC.ptr 2 0 0)), (AV.one (AC.ptr 3 0 0)), (AV.one (AC.ptr 4 0 0)), (AV.one (AC.ptr 5 0 0)), AV.undef, AV.undef, (AV.one (AC.int IntKind.i64 x0)), AV.undef, AV.undef, AV.undef, AV.undef, AV.undef, AV.undef, AV.undef, AV.undef, AV.undef, AV.undef, AV.undef, AV.undef, AV.undef, AV.undef, AV.undef, AV.undef, AV.undef, AV.undef, AV.undef, AV.undef, AV.undef, AV.undef, AV.undef, (AV.tup [])] [(2, Blk.own 49 [(Seg.ints IntKind.u8 4 c)]), (3, Blk.own 49 [(Seg.ints IntKind.u8 4 f)]), (4, Blk.own 49 [(Seg.ints IntKind.u8 4 (lzeros 4))]), (5, Blk.own 49 [(Seg.ints IntKind.u8 4 x1)])]

theorem mixd.l1_succ (R : AV → Mem → Prop) (x0 : Int) (c : List Int) (f : List Int) (fuel : Nat) (x2 : Int) (x3 : List Int) : mixd.l1 R x0 c f (fuel + 1) x2 x3 = (((((ilt x2 4) = true) → ((InB x0 4) ∧ ((Low (nadd 0 (nat x0)) 4) ∧ ((NeZ 4) ∧ ((InB (rem (add IntKind.i64 (sub IntKind.i64 x2 x0) 4) 4) 4) ∧ ((Low (nadd 0 (nat (rem (add IntKind.i64 (sub IntKind.i64 x2 x0) 4) 4))) 4) ∧ ((InB x2 4) ∧ ((Low (nadd 0 (nat x2)) 4) ∧ (((Byte (lget f (nadd 0 (nat (rem (add IntKind.i64 (sub IntKind.i64 x2 x0) 4) 4))))) ∧ (Byte (lget c (nadd 0 (nat x2))))) ∧ ((InB x0 4) ∧ ((Low (nadd 0 (nat x0)) 4) ∧ (mixd.l1 R x0 c f fuel (add IntKind.i64 x2 1) (lset x3 (nadd 0 (nat x0)) (bxor IntKind.u8 (lget x3 (nadd 0 (nat x0))) (fmul (lget f (nadd 0 (nat (rem (add IntKind.i64 (sub IntKind.i64 x2 x0) 4) 4)))) (lget c (nadd 0 (nat x2)))))))))))))))))) ∧ (((ilt x2 4) = false) → (mixd.l0 R c f fuel (add IntKind.i64 x0 1) x3)))) := by kernel_rfl
theorem mixd.l1_zero (R : AV → Mem → Prop) (x0 : Int) (c : List Int) (f : List Int) (x2 : Int) (x3 : List Int) : mixd.l1 R x0 c f 0 x2 x3 = False := by kernel_rfl

theorem mixd.l0_succ (R : AV → Mem → Prop) (c : List Int) (f : List Int) (fuel : Nat) (x0 : Int) (x1 : List Int) : mixd.l0 R c f (fuel + 1) x0 x1 = (((((ilt x0 4) = true) → (mixd.l1 R x0 c f fuel 0 x1)) ∧ (((ilt x0 4) = false) → (R (AV.agg [(Seg.ints IntKind.u8 4 x1)]) [(2, Blk.own 49 [(Seg.ints IntKind.u8 4 c)]), (3, Blk.own 49 [(Seg.ints IntKind.u8 4 f)]), (4, Blk.own 49 [(Seg.ints IntKind.u8 4 x1)]), (5, Blk.own 49 [(Seg.ints IntKind.u8 4 x1)])])))) := by kernel_rfl
theorem mixd.l0_zero (R : AV → Mem → Prop) (c : List Int) (f : List Int) (x0 : Int) (x1 : List Int) : mixd.l0 R c f 0 x0 x1 = False := by kernel_rfl

theorem mixd_vc (R : AV → Mem → Prop) (fuel : Nat) (c : List Int) (f : List Int) : callsx Try.prog gam4 [] Try.f45 (fuel + 1) [.agg [.ints .u8 4 c], .agg [.ints .u8 4 f]] [] R = ((mixd.l0 R c f fuel 0 (lzeros 4))) := by kernel_rfl

theorem Column_vc (R : AV → Mem → Prop) (fuel : Nat) (c : List Int) : callsx Try.prog gam5 [] Try.f43 (fuel + 1) [.agg [.ints .u8 4 c]] [] R = (((Low 0 4) ∧ ((Low 1 4) ∧ ((Low 2 4) ∧ ((Low 3 4) ∧ (((FCol c) ∧ (FCol (lset (lset (lset (lset (lzeros 4) 0 2) 1 3) 2 1) 3 1))) ∧ (R (AV.agg [(Seg.ints IntKind.u8 4 (fmix c (lset (lset (lset (lset (lzeros 4) 0 2) 1 3) 2 1) 3 1)))]) [(1, Blk.own 49 [(Seg.ints IntKind.u8 4 c)]), (2, Blk.own 49 [(Seg.ints IntKind.u8 4 (fmix c (lset (lset (lset (lset (lzeros 4) 0 2) 1 3) 2 1) 3 1)))])]))))))) := by kernel_rfl

theorem Uncolumn_vc (R : AV → Mem → Prop) (fuel : Nat) (c : List Int) : callsx Try.prog gam5 [] Try.f34 (fuel + 1) [.agg [.ints .u8 4 c]] [] R = (((Low 0 4) ∧ ((Low 1 4) ∧ ((Low 2 4) ∧ ((Low 3 4) ∧ (((FCol c) ∧ (FCol (lset (lset (lset (lset (lzeros 4) 0 14) 1 11) 2 13) 3 9))) ∧ (R (AV.agg [(Seg.ints IntKind.u8 4 (fmix c (lset (lset (lset (lset (lzeros 4) 0 14) 1 11) 2 13) 3 9)))]) [(1, Blk.own 49 [(Seg.ints IntKind.u8 4 c)]), (2, Blk.own 49 [(Seg.ints IntKind.u8 4 (fmix c (lset (lset (lset (lset (lzeros 4) 0 14) 1 11) 2 13) 3 9)))])]))))))) := by kernel_rfl

end Go.Proofs.Ytkecbjohbihfmaa.G

/- The field's functions do what the plain mathematics says. -/
namespace Go.Proofs.Ytkecbjohbihfmaa.G
open Go Go.Sx Go.Fld
set_option linter.unusedSimpArgs false
set_option linter.unusedVariables false

theorem and128 : ∀ a, a < 256 → (a &&& 128 = 0 ↔ a < 128) := by decide +kernel
theorem xt_eq {a : Nat} (ha : a < 256) : xt a = if a < 128 then a * 2 ^ 1 % 256 else (a * 2 ^ 1 % 256) ^^^ 27 := by
  unfold xt
  split
  · omega
  · rw [show 2 * a - 256 = a * 2 ^ 1 % 256 by omega]

theorem mul_l0 (R : AV → Mem → Prop) : ∀ (d a b s : Nat), d ≤ 8 → a < 256 → b < 256 → s < 256 → R (.one (.int .u8 (gl d a b s : Nat))) [] → Mul.l0 R (d + 1) (a : Int) (b : Int) (s : Int) ((8 - d : Nat) : Int)
  | 0, a, b, s, _, ha, hb, hs, h => by
    rw [Mul.l0_succ]
    refine ⟨fun q => ?_, fun _ => h⟩
    rw [ilt_true] at q; omega
  | d + 1, a, b, s, hd, ha, hb, hs, h => by
    rw [Mul.l0_succ]
    have e1 : band .u8 (b : Int) 1 = ((b % 2 : Nat) : Int) := by
      rw [show (1 : Int) = ((1 : Nat) : Int) from rfl, band_u8 hb (by omega), Nat.and_one_is_mod]
    have e2 : band .u8 (a : Int) 128 = ((a &&& 128 : Nat) : Int) := by
      rw [show (128 : Int) = ((128 : Nat) : Int) from rfl, band_u8 ha (by omega)]
    have e3 : shl .u8 (a : Int) 1 = ((a * 2 ^ 1 % 256 : Nat) : Int) := shl_u8 (n := 1) (by omega)
    have e4 : shr .u8 (b : Int) 1 = ((b / 2 : Nat) : Int) := shr_u8 (n := 1) (by omega)
    have e5 : bxor .u8 (s : Int) (a : Int) = ((s ^^^ a : Nat) : Int) := bxor_u8 hs ha
    have hm : a * 2 ^ 1 % 256 < 256 := Nat.mod_lt _ (by omega)
    have e6 : bxor .u8 (((a * 2 ^ 1 % 256 : Nat) : Int)) 27 = (((a * 2 ^ 1 % 256) ^^^ 27 : Nat) : Int) := bxor_u8 (b := 27) hm (by omega)
    have e7 : add .i64 ((8 - (d + 1) : Nat) : Int) 1 = ((8 - d : Nat) : Int) := by rw [add_i64 (by omega) (by omega)]; omega
    have h128 := and128 a ha
    rw [e1, e2, e3, e4, e5, e6, e7]
    have go := fun a' s' ha' hs' hg => mul_l0 R d a' (b / 2) s' (by omega) ha' (by omega) hs' hg
    have hx := xt_eq ha
    have hxl := xt_lt ha
    simp only [gl] at h
    refine ⟨fun _ => ⟨fun q => ⟨⟨by decide⟩, ⟨by decide⟩, fun q' => ?_, fun q' => ?_⟩, fun q => ⟨⟨by decide⟩, ⟨by decide⟩, fun q' => ?_, fun q' => ?_⟩⟩, fun q => ?_⟩
    · rw [ieq_true] at q; rw [ine_true] at q'
      have c1 : b % 2 = 1 := by omega
      have c2 : ¬ a < 128 := by omega
      rw [if_neg c2] at hx
      rw [← hx] at *
      exact go _ _ hxl (xor_lt hs ha) (by simpa [c1] using h)
    · rw [ieq_true] at q; rw [ine_false] at q'
      have c1 : b % 2 = 1 := by omega
      have c2 : a < 128 := by omega
      rw [if_pos c2] at hx
      rw [← hx] at *
      exact go _ _ hxl (xor_lt hs ha) (by simpa [c1] using h)
    · rw [ieq_false] at q; rw [ine_true] at q'
      have c1 : ¬ b % 2 = 1 := by omega
      have c2 : ¬ a < 128 := by omega
      rw [if_neg c2] at hx
      rw [← hx] at *
      exact go _ _ hxl hs (by simpa [c1] using h)
    · rw [ieq_false] at q; rw [ine_false] at q'
      have c1 : ¬ b % 2 = 1 := by omega
      have c2 : a < 128 := by omega
      rw [if_pos c2] at hx
      rw [← hx] at *
      exact go _ _ hxl hs (by simpa [c1] using h)
    · rw [ilt_false] at q; omega

theorem good_mul : Sx.Good Try.prog 26 (bin8 fmul) := by
  refine Sx.Good.pure (D := []) mixed (good0 _) Try.func26 (by kernel_rfl) rfl fun d args σ K h => ?_
  simp only [bin8] at h
  split at h <;> try exact h.elim
  rename_i a b
  obtain ⟨⟨ha, hb⟩, hK⟩ := h
  obtain ⟨x, hx, rfl⟩ := ha.nat
  obtain ⟨y, hy, rfl⟩ := hb.nat
  refine ⟨by simp [plain_int], _, plain_int _ _, hK, 9 + 1, ?_⟩
  rw [Mul_vc]
  exact mul_l0 (fun av' _ => av' = .one (.int .u8 (fmul x y))) 8 x y 0 (by omega) hx hy (by omega) (by simp [fmul, gm])

theorem good_turned : Sx.Good Try.prog 42 turnS := by
  refine Sx.Good.pure (D := []) mixed (good0 _) Try.func42 (by kernel_rfl) rfl fun d args σ K h => ?_
  simp only [turnS] at h
  split at h <;> try exact h.elim
  rename_i a n
  obtain ⟨⟨ha, hn⟩, hK⟩ := h
  obtain ⟨x, hx, rfl⟩ := ha.nat
  obtain ⟨m, rfl⟩ := Int.eq_ofNat_of_zero_le hn.lo
  have hm : m ≤ 8 := by have := hn.hi; omega
  refine ⟨by simp [plain_int], _, plain_int _ _, hK, 0 + 1, ?_⟩
  rw [turned_vc]
  have e1 : sub .i64 8 (m : Int) = ((8 - m : Nat) : Int) := by rw [sub_i64 (by omega) (by omega)]; omega
  rw [e1, shl_u8 hm, shr_u8 (show 8 - m ≤ 8 by omega), bor_u8 (Nat.mod_lt _ (by decide)) (Nat.lt_of_le_of_lt (Nat.div_le_self _ _) hx)]
  exact ⟨⟨by omega⟩, ⟨by omega⟩, by simp [fturn, turn]⟩

theorem gam1_good : GoodG Try.prog gam1 := (((good0 _).ext good_mul ⟨_, Try.func26, by decide, by kernel_rfl⟩).ext good_turned ⟨_, Try.func42, by decide, by kernel_rfl⟩)

theorem inv_l0 (R : AV → Mem → Prop) : ∀ (d p q : Nat), d ≤ 7 → p < 256 → q < 256 → R (.one (.int .u8 (il d p q : Nat))) [] → Inv.l0 R (d + 1) (p : Int) (q : Int) ((7 - d : Nat) : Int)
  | 0, p, q, _, hp, hq, h => by
    rw [Inv.l0_succ]
    refine ⟨fun c => ?_, fun _ => h⟩
    rw [ilt_true] at c; omega
  | d + 1, p, q, hd, hp, hq, h => by
    rw [Inv.l0_succ]
    have e7 : add .i64 ((7 - (d + 1) : Nat) : Int) 1 = ((7 - d : Nat) : Int) := by rw [add_i64 (by omega) (by omega)]; omega
    have e1 : fmul (q : Int) (q : Int) = (gm q q : Nat) := by simp [fmul]
    have e2 : fmul (p : Int) ((gm q q : Nat) : Int) = (gm p (gm q q) : Nat) := by simp [fmul]
    rw [e1, e2, e7]
    refine ⟨fun _ => ⟨⟨.of hq, .of hq⟩, ⟨.of hp, .of (gm_lt hq)⟩, inv_l0 R d _ _ (by omega) (gm_lt hp) (gm_lt hq) h⟩, fun c => ?_⟩
    rw [ilt_false] at c; omega

theorem good_inv : Sx.Good Try.prog 41 (un8 finv) := by
  refine Sx.Good.pure (D := []) mixed gam1_good Try.func41 (by kernel_rfl) rfl fun d args σ K h => ?_
  simp only [un8] at h
  split at h <;> try exact h.elim
  rename_i a
  obtain ⟨ha, hK⟩ := h
  obtain ⟨x, hx, rfl⟩ := ha.nat
  refine ⟨by simp [plain_int], _, plain_int _ _, hK, 8 + 1, ?_⟩
  rw [Inv_vc]
  exact inv_l0 (fun av' _ => av' = .one (.int .u8 (finv x))) 7 1 x (by omega) (by omega) hx (by simp [finv, gi])

theorem gam2_good : GoodG Try.prog gam2 := gam1_good.ext good_inv ⟨_, Try.func41, by decide, by kernel_rfl⟩

theorem fturn_nat (x n : Nat) : fturn (x : Int) (n : Int) = (turn x n : Nat) := by simp [fturn]

theorem good_sub : Sx.Good Try.prog 25 (un8 fsub) := by
  refine Sx.Good.pure (D := []) mixed gam2_good Try.func25 (by kernel_rfl) rfl fun d args σ K h => ?_
  simp only [un8] at h
  split at h <;> try exact h.elim
  rename_i a
  obtain ⟨ha, hK⟩ := h
  obtain ⟨x, hx, rfl⟩ := ha.nat
  refine ⟨by simp [plain_int], _, plain_int _ _, hK, 0 + 1, ?_⟩
  rw [Sub_vc]
  have hi := gi_lt x
  have e0 : finv (x : Int) = (gi x : Nat) := by simp [finv]
  have t : ∀ n : Nat, turn (gi x) n < 256 := fun n => turn_lt hi
  have e1 : fturn ((gi x : Nat) : Int) 1 = (turn (gi x) 1 : Nat) := fturn_nat _ 1
  have e2 : fturn ((gi x : Nat) : Int) 2 = (turn (gi x) 2 : Nat) := fturn_nat _ 2
  have e3 : fturn ((gi x : Nat) : Int) 3 = (turn (gi x) 3 : Nat) := fturn_nat _ 3
  have e4 : fturn ((gi x : Nat) : Int) 4 = (turn (gi x) 4 : Nat) := fturn_nat _ 4
  have e5 : ∀ y : Nat, y < 256 → bxor .u8 (y : Int) 99 = ((y ^^^ 99 : Nat) : Int) := fun y hy => bxor_u8 (b := 99) hy (by omega)
  rw [e0, e1, e2, e3, e4, bxor_u8 hi (t 1), bxor_u8 (xor_lt hi (t 1)) (t 2), bxor_u8 (xor_lt (xor_lt hi (t 1)) (t 2)) (t 3), bxor_u8 (xor_lt (xor_lt (xor_lt hi (t 1)) (t 2)) (t 3)) (t 4), e5 _ (xor_lt (xor_lt (xor_lt (xor_lt hi (t 1)) (t 2)) (t 3)) (t 4))]
  exact ⟨ha, ⟨.of hi, ⟨by decide, by decide⟩⟩, ⟨.of hi, ⟨by decide, by decide⟩⟩, ⟨.of hi, ⟨by decide, by decide⟩⟩, ⟨.of hi, ⟨by decide, by decide⟩⟩, by simp [fsub, gs]⟩

theorem good_unsub : Sx.Good Try.prog 32 (un8 funsub) := by
  refine Sx.Good.pure (D := []) mixed gam2_good Try.func32 (by kernel_rfl) rfl fun d args σ K h => ?_
  simp only [un8] at h
  split at h <;> try exact h.elim
  rename_i a
  obtain ⟨ha, hK⟩ := h
  obtain ⟨x, hx, rfl⟩ := ha.nat
  refine ⟨by simp [plain_int], _, plain_int _ _, hK, 0 + 1, ?_⟩
  rw [Unsub_vc]
  have t : ∀ n : Nat, turn x n < 256 := fun n => turn_lt hx
  have e1 : fturn (x : Int) 1 = (turn x 1 : Nat) := fturn_nat _ 1
  have e3 : fturn (x : Int) 3 = (turn x 3 : Nat) := fturn_nat _ 3
  have e6 : fturn (x : Int) 6 = (turn x 6 : Nat) := fturn_nat _ 6
  have e5 : ∀ y : Nat, y < 256 → bxor .u8 (y : Int) 5 = ((y ^^^ 5 : Nat) : Int) := fun y hy => bxor_u8 (b := 5) hy (by omega)
  have hx2 := xor_lt (xor_lt (t 1) (t 3)) (t 6)
  rw [e1, e3, e6, bxor_u8 (t 1) (t 3), bxor_u8 (xor_lt (t 1) (t 3)) (t 6), e5 _ hx2]
  exact ⟨⟨ha, ⟨by decide, by decide⟩⟩, ⟨ha, ⟨by decide, by decide⟩⟩, ⟨ha, ⟨by decide, by decide⟩⟩, .of (xor_lt hx2 (by decide)), by simp [funsub, gu, finv]⟩

theorem gam3_good : GoodG Try.prog gam3 :=
  (gam2_good.ext good_sub ⟨_, Try.func25, by decide, by kernel_rfl⟩).ext good_unsub ⟨_, Try.func32, by decide, by kernel_rfl⟩
theorem gam4_good : GoodG Try.prog gam4 := gam3_good

end Go.Proofs.Ytkecbjohbihfmaa.G

/- Columns do what the plain mathematics says. -/
namespace Go.Proofs.Ytkecbjohbihfmaa.G
open Go Go.Sx Go.Fld
set_option linter.unusedSimpArgs false
set_option linter.unusedVariables false

theorem lget_intL (l : List Nat) (i : Nat) : lget (intL l) i = ((l.getD i 0 : Nat) : Int) := by
  simp only [lget, intL, List.getD_eq_getElem?_getD, List.getElem?_map]
  cases l[i]? <;> simp
theorem lset_intL (l : List Nat) (i v : Nat) : lset (intL l) i (v : Int) = intL (l.set i v) := by
  simp only [lset, intL, List.map_set]
theorem natL_intL (l : List Nat) : natL (intL l) = l := by
  simp [natL, intL, Function.comp_def]

structure ColN (l : List Nat) : Prop where
  len : l.length = 4
  all : ∀ x ∈ l, x < 256

theorem ColN.at {l : List Nat} (h : ColN l) (i : Nat) : l.getD i 0 < 256 := by
  rw [List.getD_eq_getElem?_getD]
  cases hq : l[i]? with
  | none => simp
  | some x => exact h.all x (List.mem_of_getElem? hq)
theorem ColN.set {l : List Nat} (h : ColN l) (i v : Nat) (hv : v < 256) : ColN (l.set i v) :=
  ⟨by simp [h.len], fun x hx => by rcases List.mem_or_eq_of_mem_set hx with h' | h'
                                   · exact h.all x h'
                                   · omega⟩

theorem col_nat {c : List Int} (h : FCol c) : ∃ l, ColN l ∧ c = intL l := by
  refine ⟨natL c, ⟨by simp [natL, h.len], fun x hx => ?_⟩, ?_⟩
  · simp only [natL, List.mem_map] at hx
    obtain ⟨y, hy, rfl⟩ := hx
    have hb := h.all y hy
    have := hb.lo; have := hb.hi; omega
  · simp only [intL, natL, List.map_map]
    symm
    rw [List.map_congr_left (g := id) fun y hy => by have := (h.all y hy).lo; simp; omega]
    simp
theorem ColN.col {l : List Nat} (h : ColN l) : FCol (intL l) := ⟨by simp [intL, h.len], fun x hx => by
  simp only [intL, List.mem_map] at hx
  obtain ⟨y, hy, rfl⟩ := hx
  exact .of (h.all y hy)⟩

theorem rot {r i : Nat} (hr : r < 4) (hi : i < 4) : rem (add .i64 (sub .i64 (i : Int) (r : Int)) 4) 4 = (((i + 4 - r) % 4 : Nat) : Int) := by
  rw [sub_i64 (by omega) (by omega), add_i64 (by omega) (by omega)]
  unfold rem
  rw [Int.tmod_eq_emod_of_nonneg (by omega)]
  omega

theorem ml_lt {c f : List Nat} (hf : ColN f) {r : Nat} : ∀ (d i s : Nat), s < 256 → ml c f r d i s < 256
  | 0, _, _, h => h
  | d + 1, i, s, h => ml_lt hf d _ _ (xor_lt h (gm_lt (hf.at _)))

theorem mix_l1 (R : AV → Mem → Prop) (c f : List Nat) (hc : ColN c) (hf : ColN f) (fuel r : Nat) (hr : r < 4) : ∀ (d : Nat) (x : List Nat), d ≤ 4 → ColN x →
    (mixd.l0 R (intL c) (intL f) fuel ((r + 1 : Nat) : Int) (intL (x.set r (ml c f r d (4 - d) (x.getD r 0))))) → mixd.l1 R (r : Int) (intL c) (intL f) (fuel + d + 1) ((4 - d : Nat) : Int) (intL x) := by
  intro d
  induction d with
  | zero =>
    intro x _ hx h
    rw [Nat.add_zero, mixd.l1_succ]
    refine ⟨fun q => ?_, fun _ => ?_⟩
    · rw [ilt_true] at q; omega
    · rw [add_i64 (by omega) (by omega)]
      have e : x.set r (ml c f r 0 (4 - 0) (x.getD r 0)) = x := by
        simp only [ml]
        apply List.ext_getElem (by simp)
        intro j h1 h2
        rw [List.getElem_set]
        split
        · rename_i q; subst q; simp [List.getD_eq_getElem?_getD, List.getElem?_eq_getElem h2]
        · rfl
      rw [e] at h
      exact h
  | succ d ih =>
    intro x hd hx h
    rw [show fuel + (d + 1) + 1 = (fuel + d + 1) + 1 by omega, mixd.l1_succ]
    have hi : 4 - (d + 1) < 4 := by omega
    rw [rot hr hi]
    simp only [nadd, nat, Int.toNat_natCast, Nat.zero_add, lget_intL]
    have e1 : fmul ((f.getD ((4 - (d + 1) + 4 - r) % 4) 0 : Nat) : Int) ((c.getD (4 - (d + 1)) 0 : Nat) : Int) = (gm (f.getD ((4 - (d + 1) + 4 - r) % 4) 0) (c.getD (4 - (d + 1)) 0) : Nat) := by simp [fmul]
    rw [e1, bxor_u8 (hx.at r) (gm_lt (hf.at _)), lset_intL, add_i64 (by omega) (by omega)]
    refine ⟨fun _ => ⟨⟨by omega, by omega⟩, ⟨by omega⟩, ⟨by decide⟩, ⟨by omega, by omega⟩, ⟨by omega⟩, ⟨by omega, by omega⟩, ⟨by omega⟩, ⟨.of (hf.at _), .of (hc.at _)⟩, ⟨by omega, by omega⟩, ⟨by omega⟩, ?_⟩, fun q => ?_⟩
    · rw [show ((4 - (d + 1) : Nat) : Int) + 1 = ((4 - d : Nat) : Int) by omega]
      refine ih _ (by omega) (hx.set _ _ (xor_lt (hx.at r) (gm_lt (hf.at _)))) ?_
      rw [List.set_set]
      have e2 : (x.set r (x.getD r 0 ^^^ gm (f.getD ((4 - (d + 1) + 4 - r) % 4) 0) (c.getD (4 - (d + 1)) 0))).getD r 0 = x.getD r 0 ^^^ gm (f.getD ((4 - (d + 1) + 4 - r) % 4) 0) (c.getD (4 - (d + 1)) 0) := by
        simp [List.getD_eq_getElem?_getD, hx.len, hr]
      rw [e2]
      simp only [ml] at h
      rw [show 4 - (d + 1) + 1 = 4 - d by omega] at h
      exact h
    · rw [ilt_false] at q; omega

theorem mix_l0 (R : AV → Mem → Prop) (c f x : List Nat) (hc : ColN c) (hf : ColN f) {r : Nat} (hr : r < 4) (hx : ColN x) (fuel : Nat) (h : mixd.l0 R (intL c) (intL f) fuel ((r + 1 : Nat) : Int) (intL (x.set r (ml c f r 4 0 (x.getD r 0))))) :
    mixd.l0 R (intL c) (intL f) (fuel + 6) (r : Int) (intL x) := by
  rw [mixd.l0_succ]
  refine ⟨fun _ => mix_l1 R c f hc hf fuel r hr 4 x (by omega) hx h, fun q => ?_⟩
  rw [ilt_false] at q; omega

theorem mix_all (v : AV) (c f : List Nat) (hc : ColN c) (hf : ColN f) (hv : v = .agg [.ints .u8 4 (intL (mixN c f))]) : mixd.l0 (fun av' _ => av' = v) (intL c) (intL f) 25 0 (intL [0, 0, 0, 0]) := by
  have z : ColN [0, 0, 0, 0] := ⟨rfl, by simp⟩
  have l := fun r s (hs : s < 256) => ml_lt (c := c) hf (r := r) 4 0 s hs
  have s1 := z.set 0 _ (l 0 _ (z.at 0))
  have s2 := s1.set 1 _ (l 1 _ (s1.at 1))
  have s3 := s2.set 2 _ (l 2 _ (s2.at 2))
  refine mix_l0 _ c f _ hc hf (r := 0) (by omega) z 19 (mix_l0 _ c f _ hc hf (r := 1) (by omega) s1 13 (mix_l0 _ c f _ hc hf (r := 2) (by omega) s2 7 (mix_l0 _ c f _ hc hf (r := 3) (by omega) s3 1 ?_)))
  rw [mixd.l0_succ]
  refine ⟨fun q => ?_, fun _ => ?_⟩
  · rw [ilt_true] at q; omega
  · rw [hv]; rfl

theorem good_mixed : Sx.Good Try.prog 45 mixS := by
  refine Sx.Good.pure (D := []) mixed gam4_good Try.func45 (by kernel_rfl) rfl fun d args σ K h => ?_
  simp only [mixS] at h
  split at h <;> try exact h.elim
  rename_i c f
  obtain ⟨⟨hc, hf⟩, hK⟩ := h
  obtain ⟨c, hc', rfl⟩ := col_nat hc
  obtain ⟨f, hf', rfl⟩ := col_nat hf
  refine ⟨by simp [plain_ints], _, plain_ints _ _ _, hK, 25 + 1, ?_⟩
  rw [mixd_vc]
  exact mix_all _ c f hc' hf' (by simp [fmix, natL_intL])
end Go.Proofs.Ytkecbjohbihfmaa.G

/- Columns, and all of the field that is known. -/
namespace Go.Proofs.Ytkecbjohbihfmaa.G
open Go Go.Sx Go.Fld
set_option linter.unusedSimpArgs false
set_option linter.unusedVariables false

theorem gam5_good : GoodG Try.prog gam5 := gam4_good.ext good_mixed ⟨_, Try.func45, by decide, by kernel_rfl⟩

theorem col_of {a b c d : Nat} (h : a < 256 ∧ b < 256 ∧ c < 256 ∧ d < 256) : FCol [(a : Int), b, c, d] :=
  ColN.col (l := [a, b, c, d]) ⟨rfl, fun x hx => by simp at hx; rcases hx with rfl | rfl | rfl | rfl <;> omega⟩

theorem good_column : Sx.Good Try.prog 43 (colS [2, 3, 1, 1]) := by
  refine Sx.Good.pure (D := []) mixed gam5_good Try.func43 (by kernel_rfl) rfl fun d args σ K h => ?_
  simp only [colS] at h
  split at h <;> try exact h.elim
  rename_i c
  obtain ⟨hc, hK⟩ := h
  refine ⟨by simp [plain_ints], _, plain_ints _ _ _, hK, 0 + 1, ?_⟩
  rw [Column_vc]
  exact ⟨⟨by decide⟩, ⟨by decide⟩, ⟨by decide⟩, ⟨by decide⟩, ⟨hc, col_of (a := 2) (b := 3) (c := 1) (d := 1) (by decide)⟩, rfl⟩

theorem good_uncolumn : Sx.Good Try.prog 34 (colS [14, 11, 13, 9]) := by
  refine Sx.Good.pure (D := []) mixed gam5_good Try.func34 (by kernel_rfl) rfl fun d args σ K h => ?_
  simp only [colS] at h
  split at h <;> try exact h.elim
  rename_i c
  obtain ⟨hc, hK⟩ := h
  refine ⟨by simp [plain_ints], _, plain_ints _ _ _, hK, 0 + 1, ?_⟩
  rw [Uncolumn_vc]
  exact ⟨⟨by decide⟩, ⟨by decide⟩, ⟨by decide⟩, ⟨by decide⟩, ⟨hc, col_of (a := 14) (b := 11) (c := 13) (d := 9) (by decide)⟩, rfl⟩

theorem gam6_good : GoodG Try.prog gam6 := ((gam4_good.ext good_column ⟨_, Try.func43, by decide, by kernel_rfl⟩).ext good_uncolumn ⟨_, Try.func34, by decide, by kernel_rfl⟩)

end Go.Proofs.Ytkecbjohbihfmaa.G

/- The block cipher's inner functions do what the plain mathematics says. -/
namespace Go.Proofs.Ytkecbjohbihfmaa.G
open Go Go.Sx Go.Fld Go.Blk
set_option linter.unusedSimpArgs false
set_option linter.unusedVariables false

theorem good_with : Sx.Good Try.prog 29 withS := by
  refine Sx.Good.pure (D := []) mixed (good0 _) Try.func29 (by kernel_rfl) rfl fun d args σ K h => ?_
  simp only [withS] at h
  split at h <;> try exact h.elim
  rename_i b k
  obtain ⟨⟨hb, hk⟩, hK⟩ := h
  refine ⟨by simp [plain_ints], _, plain_ints _ _ _, hK, 16 + 1 + 1, ?_⟩
  rw [bwith_vc]
  have key := loop_up0 (fun f i s => bwith.l0 (fun av' _ => av' = .agg [.ints .u8 16 (qx b k)]) k f i s) 16 (fun i => upto 16 i (fun j => bxor .u8 (lget b j) (lget k j)) (lget b))
    (fun f i hi h => by
      rw [bwith.l0_succ]
      refine ⟨fun _ => ?_, fun q => ?_⟩
      · simp only [InB_iff, Low_iff, nat_cast, nadd_def, Nat.zero_add]
        refine ⟨by omega, hi, by omega, hi, by omega, hi, ?_⟩
        rw [add1_i64 (by omega), upto_hi (Nat.le_refl _) hi, upto_lset rfl]
        exact h
      · rw [ilt_false] at q; omega)
    (fun f => by
      rw [bwith.l0_succ]
      refine ⟨fun q => ?_, fun _ => ?_⟩
      · rw [ilt_true] at q; omega
      · rw [upto_done]; rfl) 0
  rw [upto_zero, ← hb.eq] at key
  exact key

theorem eachS_run {R : AV → Mem → Prop} {b : List Int} (hb : BL 16 b) (m : Nat) (h : ∀ σ, R (.agg [.ints .u8 16 (qe fsub b)]) σ) : eachS.l0 R (16 + 1 + m) 0 b := by
  have key := loop_up0 (fun f i s => eachS.l0 R f i s) 16 (fun i => upto 16 i (fun j => fsub (lget b j)) (lget b))
    (fun f i hi h => by
      rw [eachS.l0_succ]
      refine ⟨fun _ => ?_, fun q => ?_⟩
      · simp only [InB_iff, Low_iff, nat_cast, nadd_def, Nat.zero_add]
        rw [upto_hi (Nat.le_refl _) hi]
        refine ⟨by omega, hi, hb.get _, by omega, hi, ?_⟩
        rw [add1_i64 (by omega), upto_lset rfl]
        exact h
      · rw [ilt_false] at q; omega)
    (fun f => by
      rw [eachS.l0_succ]
      refine ⟨fun q => ?_, fun _ => ?_⟩
      · rw [ilt_true] at q; omega
      · rw [upto_done]; exact h _) m
  rw [upto_zero, ← hb.eq] at key
  exact key

theorem eachU_run {R : AV → Mem → Prop} {b : List Int} (hb : BL 16 b) (m : Nat) (h : ∀ σ, R (.agg [.ints .u8 16 (qe funsub b)]) σ) : eachU.l0 R (16 + 1 + m) 0 b := by
  have key := loop_up0 (fun f i s => eachU.l0 R f i s) 16 (fun i => upto 16 i (fun j => funsub (lget b j)) (lget b))
    (fun f i hi h => by
      rw [eachU.l0_succ]
      refine ⟨fun _ => ?_, fun q => ?_⟩
      · simp only [InB_iff, Low_iff, nat_cast, nadd_def, Nat.zero_add]
        rw [upto_hi (Nat.le_refl _) hi]
        refine ⟨by omega, hi, hb.get _, by omega, hi, ?_⟩
        rw [add1_i64 (by omega), upto_lset rfl]
        exact h
      · rw [ilt_false] at q; omega)
    (fun f => by
      rw [eachU.l0_succ]
      refine ⟨fun q => ?_, fun _ => ?_⟩
      · rw [ilt_true] at q; omega
      · rw [upto_done]; exact h _) m
  rw [upto_zero, ← hb.eq] at key
  exact key

theorem eachT_run {R : AV → Mem → Prop} {b t : List Int} (hb : BL 16 b) (ht : Tbl t) (m : Nat) (h : ∀ σ, R (.agg [.ints .u8 16 (qe fsub b)]) σ) : eachT.l0 R t (16 + 1 + m) 0 b := by
  have key := loop_up0 (fun f i s => eachT.l0 R t f i s) 16 (fun i => upto 16 i (fun j => fsub (lget b j)) (lget b))
    (fun f i hi h => by
      rw [eachT.l0_succ]
      refine ⟨fun _ => ?_, fun q => ?_⟩
      · simp only [InB_iff, Low_iff, nat_cast, nadd_def, Nat.zero_add]
        rw [upto_hi (Nat.le_refl _) hi]
        refine ⟨by omega, hi, ⟨hb.get _, ht⟩, by omega, hi, ?_⟩
        rw [add1_i64 (by omega), upto_lset rfl]
        exact h
      · rw [ilt_false] at q; omega)
    (fun f => by
      rw [eachT.l0_succ]
      refine ⟨fun q => ?_, fun _ => ?_⟩
      · rw [ilt_true] at q; omega
      · rw [upto_done]; exact h _) m
  rw [upto_zero, ← hb.eq] at key
  exact key

theorem good_told : Sx.Good Try.prog 38 tblS := by
  refine Sx.Good.reads (D := []) mixed (good0 _) Try.func38 (by kernel_rfl) rfl fun d args σ K h => ?_
  simp only [tblS] at h
  split at h <;> try exact h.elim
  rename_i a n
  split at h <;> try exact h.elim
  rename_i b hn
  split at h <;> try exact h.elim
  rename_i t hs
  obtain ⟨⟨ha, ht⟩, hK⟩ := h
  obtain ⟨i, hi, rfl⟩ := ha.nat
  refine ⟨[.one (.int .u8 (i : Int)), .one (.ptr 200001 0 0)], [(200001, .view [.ints .u8 256 t])], .plain (plain_int _ _) (hs ▸ .ptr hn (by rw [hs]; intro m; rfl) (.nil _)), by simp, 0 + 1, ?_⟩
  rw [told_vc]
  simp only [InB_iff, Low_iff, nat_cast, nadd_def, Nat.zero_add]
  exact ⟨⟨by omega, by omega⟩, hi, res_int (ht.at_ i hi) hK⟩

theorem gamB1'_good : GoodG Try.prog (ext gam6 38 tblS) := gam6_good.ext good_told ⟨_, Try.func38, by decide, by kernel_rfl⟩

theorem colsC_run {R : AV → Mem → Prop} {b : List Int} (hb : BL 16 b) (m : Nat) (h : ∀ σ, R (.agg [.ints .u8 16 (qc [2, 3, 1, 1] b)]) σ) : colsC.l0 R (4 + 1 + m) 0 b := by
  have key := loop_by 4 (fun f i s => colsC.l0 R f i s) 4 (fun i => upto 16 (4 * i) (fun j => lget (fmix (lsub b (j / 4 * 4) 4) [2, 3, 1, 1]) (j % 4)) (lget b))
    (fun f i hi h => by
      rw [colsC.l0_succ]
      refine ⟨fun _ => ?_, fun q => ?_⟩
      · have e0 : add .i64 ((4 * i : Nat) : Int) 4 = ((4 * (i + 1) : Nat) : Int) := by rw [add_i64 (by omega) (by omega)]; omega
        have el : lsub (upto 16 (4 * i) (fun j => lget (fmix (lsub b (j / 4 * 4) 4) [2, 3, 1, 1]) (j % 4)) (lget b)) (4 * i) 4 = lsub b (4 * i) 4 := by
          rw [upto, tab_lsub _ (by omega), hb.eq, tab_lsub _ (by omega)]
          refine tab_ext fun j hj => ?_
          rw [if_neg (by omega), ← hb.eq]
        have hc : FCol (lsub b (4 * i) 4) := by
          refine ⟨lsub_len _ _ _ (by rw [hb.len]; omega), fun x hx => hb.all x ?_⟩
          exact List.mem_of_mem_drop (List.mem_of_mem_take hx)
        have hl : (fmix (lsub b (4 * i) 4) [2, 3, 1, 1]).length = 4 := rfl
        simp only [InB_iff, Low_iff, Fits_iff, NonNeg_iff, nat_cast, nadd_def, nsub_def, Nat.zero_add, e0, el]
        refine ⟨⟨⟨by omega, by omega⟩, by omega, by omega⟩, by omega, by omega, hc, ⟨by omega, by omega⟩, by omega, by omega, ?_⟩
        have e1 : lsub (fmix (lsub b (4 * i) 4) [2, 3, 1, 1]) 0 4 = fmix (lsub b (4 * i) 4) [2, 3, 1, 1] := by
          have := lsub_all (fmix (lsub b (4 * i) 4) [2, 3, 1, 1]); rwa [hl] at this
        have e2 : nmin (llen (fmix (lsub b (4 * i) 4) [2, 3, 1, 1])) (16 - 4 * i) = 4 := by rw [llen_def, hl, nmin_def]; omega
        rw [e1, e2, e1, eq_tab hl, upto, tab_lput _ _ (by omega)]
        have e3 : (tab 16 fun j => if 4 * i ≤ j ∧ j < 4 * i + 4 then lget (fmix (lsub b (4 * i) 4) [2, 3, 1, 1]) (j - 4 * i) else if j < 4 * i then lget (fmix (lsub b (j / 4 * 4) 4) [2, 3, 1, 1]) (j % 4) else lget b j) = upto 16 (4 * (i + 1)) (fun j => lget (fmix (lsub b (j / 4 * 4) 4) [2, 3, 1, 1]) (j % 4)) (lget b) := by
          refine tab_ext fun j hj => ?_
          by_cases q1 : j < 4 * i
          · rw [if_neg (by omega), if_pos q1, if_pos (by omega)]
          · by_cases q2 : j < 4 * i + 4
            · rw [if_pos ⟨by omega, q2⟩, if_pos (by omega)]; show _ = lget (fmix (lsub b (j / 4 * 4) 4) [2, 3, 1, 1]) (j % 4); rw [show j / 4 * 4 = 4 * i by omega, show j % 4 = j - 4 * i by omega]
            · rw [if_neg (by omega), if_neg q1, if_neg (by omega)]
        rw [e3]
        exact h
      · rw [ilt_false] at q; omega)
    (fun f => by
      rw [colsC.l0_succ]
      refine ⟨fun q => ?_, fun _ => ?_⟩
      · rw [ilt_true] at q; omega
      · show R (.agg [.ints .u8 16 (upto 16 16 _ _)]) _
        rw [upto_done]; exact h _) m
  rw [upto_zero, ← hb.eq] at key
  exact key

theorem colsU_run {R : AV → Mem → Prop} {b : List Int} (hb : BL 16 b) (m : Nat) (h : ∀ σ, R (.agg [.ints .u8 16 (qc [14, 11, 13, 9] b)]) σ) : colsU.l0 R (4 + 1 + m) 0 b := by
  have key := loop_by 4 (fun f i s => colsU.l0 R f i s) 4 (fun i => upto 16 (4 * i) (fun j => lget (fmix (lsub b (j / 4 * 4) 4) [14, 11, 13, 9]) (j % 4)) (lget b))
    (fun f i hi h => by
      rw [colsU.l0_succ]
      refine ⟨fun _ => ?_, fun q => ?_⟩
      · have e0 : add .i64 ((4 * i : Nat) : Int) 4 = ((4 * (i + 1) : Nat) : Int) := by rw [add_i64 (by omega) (by omega)]; omega
        have el : lsub (upto 16 (4 * i) (fun j => lget (fmix (lsub b (j / 4 * 4) 4) [14, 11, 13, 9]) (j % 4)) (lget b)) (4 * i) 4 = lsub b (4 * i) 4 := by
          rw [upto, tab_lsub _ (by omega), hb.eq, tab_lsub _ (by omega)]
          refine tab_ext fun j hj => ?_
          rw [if_neg (by omega), ← hb.eq]
        have hc : FCol (lsub b (4 * i) 4) := by
          refine ⟨lsub_len _ _ _ (by rw [hb.len]; omega), fun x hx => hb.all x ?_⟩
          exact List.mem_of_mem_drop (List.mem_of_mem_take hx)
        have hl : (fmix (lsub b (4 * i) 4) [14, 11, 13, 9]).length = 4 := rfl
        simp only [InB_iff, Low_iff, Fits_iff, NonNeg_iff, nat_cast, nadd_def, nsub_def, Nat.zero_add, e0, el]
        refine ⟨⟨⟨by omega, by omega⟩, by omega, by omega⟩, by omega, by omega, hc, ⟨by omega, by omega⟩, by omega, by omega, ?_⟩
        have e1 : lsub (fmix (lsub b (4 * i) 4) [14, 11, 13, 9]) 0 4 = fmix (lsub b (4 * i) 4) [14, 11, 13, 9] := by
          have := lsub_all (fmix (lsub b (4 * i) 4) [14, 11, 13, 9]); rwa [hl] at this
        have e2 : nmin (llen (fmix (lsub b (4 * i) 4) [14, 11, 13, 9])) (16 - 4 * i) = 4 := by rw [llen_def, hl, nmin_def]; omega
        rw [e1, e2, e1, eq_tab hl, upto, tab_lput _ _ (by omega)]
        have e3 : (tab 16 fun j => if 4 * i ≤ j ∧ j < 4 * i + 4 then lget (fmix (lsub b (4 * i) 4) [14, 11, 13, 9]) (j - 4 * i) else if j < 4 * i then lget (fmix (lsub b (j / 4 * 4) 4) [14, 11, 13, 9]) (j % 4) else lget b j) = upto 16 (4 * (i + 1)) (fun j => lget (fmix (lsub b (j / 4 * 4) 4) [14, 11, 13, 9]) (j % 4)) (lget b) := by
          refine tab_ext fun j hj => ?_
          by_cases q1 : j < 4 * i
          · rw [if_neg (by omega), if_pos q1, if_pos (by omega)]
          · by_cases q2 : j < 4 * i + 4
            · rw [if_pos ⟨by omega, q2⟩, if_pos (by omega)]; show _ = lget (fmix (lsub b (j / 4 * 4) 4) [14, 11, 13, 9]) (j % 4); rw [show j / 4 * 4 = 4 * i by omega, show j % 4 = j - 4 * i by omega]
            · rw [if_neg (by omega), if_neg q1, if_neg (by omega)]
        rw [e3]
        exact h
      · rw [ilt_false] at q; omega)
    (fun f => by
      rw [colsU.l0_succ]
      refine ⟨fun q => ?_, fun _ => ?_⟩
      · rw [ilt_true] at q; omega
      · show R (.agg [.ints .u8 16 (upto 16 16 _ _)]) _
        rw [upto_done]; exact h _) m
  rw [upto_zero, ← hb.eq] at key
  exact key

theorem turned_run {R : AV → Mem → Prop} {b : List Int} {n : Nat} (hb : BL 16 b) (hn : n < 4) (h : ∀ σ, R (.agg [.ints .u8 16 (qt n b)]) σ) : bturned.l0 R (n : Int) b (1 + 6 * 4) 0 (lzeros 16) := by
  have hs : ∀ g r, r < 4 → bturned.l0 R (n : Int) b g ((r + 1 : Nat) : Int) (tab 16 fun j => if j % 4 < r + 1 then lget b (4 * ((j / 4 + j % 4 * n) % 4) + j % 4) else 0) →
      bturned.l0 R (n : Int) b (g + 6) (r : Int) (tab 16 fun j => if j % 4 < r then lget b (4 * ((j / 4 + j % 4 * n) % 4) + j % 4) else 0) := by
    intro g r hr hg
    rw [bturned.l0_succ]
    refine ⟨fun _ => ?_, fun q => ?_⟩
    · have key := loop_n (fun f i s => bturned.l1 R (n : Int) (r : Int) b f i s) 4 (fun c => tab 16 fun j => if j % 4 < r ∨ (j % 4 = r ∧ j / 4 < c) then lget b (4 * ((j / 4 + j % 4 * n) % 4) + j % 4) else 0) 1 (g + 1)
        (fun f c hc hf => by
          rw [bturned.l1_succ]
          refine ⟨fun _ => ?_, fun q => ?_⟩
          · have hrn : r * n ≤ 9 := Nat.mul_le_mul (show r ≤ 3 by omega) (show n ≤ 3 by omega)
            have e1 : mul .i64 (r : Int) (n : Int) = ((r * n : Nat) : Int) := mulN_i64 (by omega)
            have e2 : add .i64 (c : Int) ((r * n : Nat) : Int) = ((c + r * n : Nat) : Int) := addN_i64 (by omega)
            have e3 : rem ((c + r * n : Nat) : Int) 4 = (((c + r * n) % 4 : Nat) : Int) := remN (b := 4)
            have e4 : mul .i64 4 (((c + r * n) % 4 : Nat) : Int) = ((4 * ((c + r * n) % 4) : Nat) : Int) := mulN_i64 (a := 4) (by omega)
            have e5 : add .i64 ((4 * ((c + r * n) % 4) : Nat) : Int) (r : Int) = ((4 * ((c + r * n) % 4) + r : Nat) : Int) := addN_i64 (by omega)
            have e6 : mul .i64 4 (c : Int) = ((4 * c : Nat) : Int) := mulN_i64 (a := 4) (by omega)
            have e7 : add .i64 ((4 * c : Nat) : Int) (r : Int) = ((4 * c + r : Nat) : Int) := addN_i64 (by omega)
            rw [e1, e2, e3, e4, e5, e6, e7]
            simp only [InB_iff, Low_iff, NeZ_iff, nat_cast, nadd_def, Nat.zero_add]
            refine ⟨by decide, ⟨by omega, by omega⟩, by omega, ⟨by omega, by omega⟩, by omega, ?_⟩
            rw [add1_i64 (by omega), tab_lset]
            have e8 : (tab 16 fun j => if j = 4 * c + r then lget b (4 * ((c + r * n) % 4) + r) else if j % 4 < r ∨ (j % 4 = r ∧ j / 4 < c) then lget b (4 * ((j / 4 + j % 4 * n) % 4) + j % 4) else 0) =
                tab 16 fun j => if j % 4 < r ∨ (j % 4 = r ∧ j / 4 < c + 1) then lget b (4 * ((j / 4 + j % 4 * n) % 4) + j % 4) else 0 := by
              refine tab_ext fun j hj => ?_
              by_cases q : j = 4 * c + r
              · rw [if_pos q, if_pos (by omega), show j / 4 = c by omega, show j % 4 = r by omega]
              · rw [if_neg q]
                by_cases q2 : j % 4 < r ∨ (j % 4 = r ∧ j / 4 < c)
                · rw [if_pos q2, if_pos (by omega)]
                · rw [if_neg q2, if_neg (by omega)]
            rw [e8]
            exact hf
          · rw [ilt_false] at q; omega)
        (by
          rw [bturned.l1_succ]
          refine ⟨fun q => ?_, fun _ => ?_⟩
          · rw [ilt_true] at q; omega
          · rw [add1_i64 (by omega)]
            have : (tab 16 fun j => if j % 4 < r ∨ (j % 4 = r ∧ j / 4 < 4) then lget b (4 * ((j / 4 + j % 4 * n) % 4) + j % 4) else 0) = tab 16 fun j => if j % 4 < r + 1 then lget b (4 * ((j / 4 + j % 4 * n) % 4) + j % 4) else 0 := by
              refine tab_ext fun j hj => ?_
              by_cases q : j % 4 < r + 1
              · rw [if_pos q, if_pos (by omega)]
              · rw [if_neg q, if_neg (by omega)]
            rw [this]; exact hg) 0 (Nat.zero_le _)
      have e : (tab 16 fun j => if j % 4 < r ∨ (j % 4 = r ∧ j / 4 < 0) then lget b (4 * ((j / 4 + j % 4 * n) % 4) + j % 4) else 0) = tab 16 fun j => if j % 4 < r then lget b (4 * ((j / 4 + j % 4 * n) % 4) + j % 4) else 0 := by
        refine tab_ext fun j hj => ?_
        simp
      rw [e] at key
      exact key
    · rw [ilt_false] at q; omega
  have key := loop_n (fun f i s => bturned.l0 R (n : Int) b f i s) 4 (fun r => tab 16 fun j => if j % 4 < r then lget b (4 * ((j / 4 + j % 4 * n) % 4) + j % 4) else 0) 6 1 hs
    (by
      rw [bturned.l0_succ]
      refine ⟨fun q => ?_, fun _ => ?_⟩
      · rw [ilt_true] at q; omega
      · have : (tab 16 fun j => if j % 4 < 4 then lget b (4 * ((j / 4 + j % 4 * n) % 4) + j % 4) else 0) = qt n b := tab_ext fun j hj => by rw [if_pos (by omega)]
        rw [this]; exact h _) 0 (Nat.zero_le _)
  rw [lzeros_tab]
  have e : (tab 16 fun j => if j % 4 < 0 then lget b (4 * ((j / 4 + j % 4 * n) % 4) + j % 4) else 0) = tab 16 fun _ => (0 : Int) := tab_ext fun j hj => by simp
  rw [e] at key
  exact key

/-- bytes i, .., 0 -/
theorem next_run {R : AV → Mem → Prop} (h : ∀ b σ, R (.agg [.ints .u8 16 b]) σ → True) {b0 : List Int} (hR : ∀ σ, R (.agg [.ints .u8 16 (up b0)]) σ) : ∀ (i : Nat) (b : List Int), i ≤ 16 → b.length = 16 → upN i b = up b0 → bnext.l0 R (i + 1) ((i : Int) - 1) b := by
  intro i
  induction i with
  | zero =>
    intro b _ _ e
    rw [bnext.l0_succ]
    refine ⟨fun q => ?_, fun _ => ?_⟩
    · rw [ige_true] at q; omega
    · rw [show b = up b0 from e]; exact hR _
  | succ i ih =>
    intro b hi hb e
    rw [bnext.l0_succ, show ((i + 1 : Nat) : Int) - 1 = (i : Int) by omega]
    refine ⟨fun _ => ?_, fun q => ?_⟩
    · have hl : lget (lset b i (add .u8 (lget b i) 1)) i = add .u8 (lget b i) 1 := by
        simp [lget, lset, List.getD, hb, show i < 16 by omega]
      simp only [InB_iff, Low_iff, nat_cast, nadd_def, Nat.zero_add, hl]
      refine ⟨by omega, by omega, by omega, by omega, by omega, by omega, fun q => ?_, fun q => ?_⟩
      · rw [ine_true] at q
        rw [upN, if_neg q] at e
        rw [e]; exact hR _
      · rw [ine_false] at q
        rw [upN, if_pos q] at e
        rw [sub_i64 (by omega) (by omega)]
        exact ih _ (by omega) (by simp [lset, hb]) e
    · rw [ige_false] at q; omega
end Go.Proofs.Ytkecbjohbihfmaa.G

/- The round keys of a key, by the program. -/
namespace Go.Proofs.Ytkecbjohbihfmaa.G
open Go Go.Sx Go.Fld Go.Blk
set_option linter.unusedSimpArgs false
set_option linter.unusedVariables false

/-- place p of the round keys -/
def kp (key : List Int) (p : Nat) : Int := kw key (p / 4) (p % 4)
theorem kp_word (key : List Int) (i j : Nat) (h : j < 4) : kp key (4 * i + j) = kw key i j := by
  unfold kp; rw [show (4 * i + j) / 4 = i by omega, show (4 * i + j) % 4 = j by omega]

theorem new_l0 {R : AV → Mem → Prop} {b : List Int} (hb : BL 16 b) {f : Nat} (h : bNew.l1 R f 1 4 (upto 176 16 (kp b) fun _ => 0)) : bNew.l0 R b (f + 1 + 1 * 4) 0 (lzeros 176) := by
  have key := loop_n (fun f i s => bNew.l0 R b f i s) 4 (fun i => upto 176 (4 * i) (kp b) fun _ => 0) 1 (f + 1)
    (fun g i hi hg => by
      rw [bNew.l0_succ]
      refine ⟨fun _ => ?_, fun q => ?_⟩
      · have e1 : mul .i64 4 (i : Int) = ((4 * i : Nat) : Int) := mulN_i64 (a := 4) (by omega)
        rw [e1]
        simp only [InB_iff, Low_iff, Fits_iff, NonNeg_iff, nat_cast, nadd_def, nsub_def, nmul_def, Nat.zero_add]
        refine ⟨by omega, ⟨by omega, by omega⟩, by omega, by omega, ?_⟩
        have e2 : lsub (lsub b (4 * i) (16 - 4 * i)) 0 (nmin (llen (lsub b (4 * i) (16 - 4 * i))) 4) = tab 4 (fun k => kp b (4 * i + k)) := by
          rw [llen_def, lsub_len _ _ _ (by rw [hb.len]; omega), nmin_def, show min (16 - 4 * i) 4 = 4 by omega, lsub_lsub _ _ _ _ _ (by omega), lsub_tabbed hb.len (by omega)]
          refine tab_ext fun k hk => ?_
          rw [kp_word _ _ _ hk, kw_lo _ _ hi, Nat.add_zero]
        rw [e2, add1_i64 (by omega), show i * 4 = 4 * i by omega, upto_lput rfl (by omega)]
        exact hg
      · rw [ilt_false] at q; omega)
    (by
      rw [bNew.l0_succ]
      refine ⟨fun q => ?_, fun _ => ?_⟩
      · rw [ilt_true] at q; omega
      · exact h) 0 (Nat.zero_le _)
  rw [show upto 176 (4 * 0) (kp b) (fun _ => 0) = tab 176 (fun _ => 0) from upto_zero, ← lzeros_tab] at key
  exact key

theorem new_l4 {R : AV → Mem → Prop} {w : List Int} (hw : w.length = 176) {f : Nat} (h : ∀ σ, R (.agg [.ints .u8 176 w]) σ) : bNew.l4 R w (f + 1 + 1 * 44) 0 (lzeros 176) := by
  have key := loop_n (fun f i s => bNew.l4 R w f i s) 44 (fun i => upto 176 (4 * i) (lget w) fun _ => 0) 1 (f + 1)
    (fun g i hi hg => by
      rw [bNew.l4_succ]
      refine ⟨fun _ => ?_, fun q => ?_⟩
      · have e1 : quo .i64 (i : Int) 4 = ((i / 4 : Nat) : Int) := quoN_i64 (b := 4) (by omega)
        have e2 : rem (i : Int) 4 = ((i % 4 : Nat) : Int) := remN (b := 4)
        have e3 : mul .i64 ((i % 4 : Nat) : Int) 4 = ((i % 4 * 4 : Nat) : Int) := mulN_i64 (b := 4) (by omega)
        rw [e1, e2, e3]
        simp only [InB_iff, Low_iff, Fits_iff, NonNeg_iff, NeZ_iff, nat_cast, nadd_def, nsub_def, nmul_def, Nat.zero_add]
        refine ⟨by omega, by decide, by omega, by decide, ⟨by omega, by omega⟩, by omega, by omega, ?_⟩
        have e4 : lsub (lsub (lsub w (i * 4) 4) 0 4) 0 (nmin (llen (lsub (lsub w (i * 4) 4) 0 4)) (16 - i % 4 * 4)) = tab 4 (fun k => lget w (4 * i + k)) := by
          have e5 : lsub (lsub w (i * 4) 4) 0 4 = lsub w (i * 4) 4 := lsub_lsub _ _ _ _ _ (by decide)
          rw [e5, llen_def, lsub_len _ _ _ (by omega), nmin_def, show min 4 (16 - i % 4 * 4) = 4 by omega, e5, lsub_tabbed hw (by omega)]
          exact tab_ext fun k hk => by rw [show i * 4 + k = 4 * i + k by omega]
        rw [e4, add1_i64 (by omega), show i / 4 * 16 + i % 4 * 4 = 4 * i by omega, upto_lput rfl (by omega)]
        exact hg
      · rw [ilt_false] at q; omega)
    (by
      rw [bNew.l4_succ]
      refine ⟨fun q => ?_, fun _ => ?_⟩
      · rw [ilt_true] at q; omega
      · rw [show upto 176 (4 * 44) (lget w) (fun _ => 0) = tab 176 (lget w) from upto_done, ← eq_tab hw]; exact h _) 0 (Nat.zero_le _)
  rw [show upto 176 (4 * 0) (lget w) (fun _ => 0) = tab 176 (fun _ => 0) from upto_zero, ← lzeros_tab] at key
  exact key

theorem lset_word {key : List Int} {i j : Nat} {v : Int} (hj : j < 4) (hv : v = kw key i j) : lset (upto 176 (4 * i + j) (kp key) fun _ => 0) (4 * i + j) v = upto 176 (4 * i + (j + 1)) (kp key) fun _ => 0 := by
  rw [upto_lset (by rw [kp_word _ _ _ hj]; exact hv)]; rfl

theorem word_get {key : List Int} {n i j : Nat} (h : 4 * i + j < n) (hn : n ≤ 176) (hj : j < 4) : lget (upto 176 n (kp key) fun _ => 0) (4 * i + j) = kw key i j := by
  rw [upto_lo h hn, kp_word _ _ _ hj]

theorem word_sub {key : List Int} {n i : Nat} (h : 4 * i + 4 ≤ n) (hn : n ≤ 176) : lsub (upto 176 n (kp key) fun _ => 0) (i * 4) 4 = tab 4 (kw key i) := by
  rw [lsub_tabbed upto_len (by omega)]
  exact tab_ext fun j hj => by rw [show i * 4 + j = 4 * i + j by omega, word_get (by omega) hn hj]

theorem new_round {R : AV → Mem → Prop} {b : List Int} (hb : BL 16 b) (g i : Nat) (h4 : 4 ≤ i) (hi : i < 44) (h : bNew.l1 R g (rcon ((i + 1 - 1) / 4)) ((i + 1 : Nat) : Int) (upto 176 (4 * (i + 1)) (kp b) fun _ => 0)) :
    bNew.l1 R (g + 6) (rcon ((i - 1) / 4)) (i : Int) (upto 176 (4 * i) (kp b) fun _ => 0) := by
  have e1 : sub .i64 (i : Int) 1 = ((i - 1 : Nat) : Int) := subN_i64 (b := 1) (by omega) (by omega)
  have e4 : sub .i64 (i : Int) 4 = ((i - 4 : Nat) : Int) := subN_i64 (b := 4) (by omega) (by omega)
  have er : rem (i : Int) 4 = ((i % 4 : Nat) : Int) := remN (b := 4)
  have ew : lsub (upto 176 (4 * i) (kp b) fun _ => 0) ((i - 1) * 4) 4 = tab 4 (kw b (i - 1)) := word_sub (by omega) (by omega)
  rw [bNew.l1_succ]
  refine ⟨fun _ => ?_, fun q => ?_⟩
  · rw [e1, er]
    simp only [InB_iff, Low_iff, Fits_iff, NonNeg_iff, NeZ_iff, nat_cast, nadd_def, nsub_def, nmul_def, Nat.zero_add, ew]
    refine ⟨by omega, by omega, by decide, fun q => ?_, fun q => ?_⟩
    · rw [ieq_true] at q
      have q4 : i % 4 = 0 := by omega
      have hbw := fun j (hj : j < 4) => kw_byte hb (i - 1) j hj
      rw [tab_lget _ (by decide : 1 < 4), tab_lget _ (by decide : 2 < 4), tab_lget _ (by decide : 3 < 4), tab_lget _ (by decide : 0 < 4)]
      refine ⟨⟨by decide, by decide⟩, by decide, ⟨by decide, by decide⟩, by decide, ⟨by decide, by decide⟩, by decide, ⟨by decide, by decide⟩, by decide, hbw 1 (by decide), hbw 2 (by decide), hbw 3 (by decide), hbw 0 (by decide), by decide, by decide, by decide, by decide, ⟨⟨by decide, by decide⟩, rcon_byte _⟩, ?_⟩
      have key := loop_n (fun f j s => bNew.l2 R (rcon ((i - 1) / 4)) (i : Int) (upto 176 (4 * i) (kp b) fun _ => 0) f j s) 4 (fun j => upto 176 (4 * i + j) (kp b) fun _ => 0) 1 (g + 1)
        (fun f j hj hf => by
          rw [bNew.l2_succ]
          refine ⟨fun _ => ?_, fun q => ?_⟩
          · rw [e4, e1]
            simp only [InB_iff, Low_iff, Fits_iff, NonNeg_iff, NeZ_iff, nat_cast, nadd_def, nsub_def, nmul_def, Nat.zero_add]
            refine ⟨by omega, by omega, by omega, by omega, hj, by omega, by omega, by omega, ?_⟩
            have e : tab 4 (fun j => kt i (kw b (i - 1)) j) = lset (lset (lset (lset (lzeros 4) 0 (bxor IntKind.u8 (fsub (kw b (i - 1) 1)) (rcon ((i - 1) / 4)))) 1 (fsub (kw b (i - 1) 2))) 2 (fsub (kw b (i - 1) 3))) 3 (fsub (kw b (i - 1) 0)) := by
              simp only [tab, List.range_succ, List.range_zero, List.nil_append, List.map_cons, List.map_nil, List.cons_append, lset, lzeros, List.replicate, List.set, kt, q4, if_true, Nat.reduceEqDiff, if_false, Nat.reduceAdd, Nat.reduceMod]
              rw [show i / 4 - 1 = (i - 1) / 4 by omega]
            rw [ew, tab_lget _ (by decide : 1 < 4), tab_lget _ (by decide : 2 < 4), tab_lget _ (by decide : 3 < 4), tab_lget _ (by decide : 0 < 4), ← e, tab_lget _ hj]
            rw [show (i - 4) * 4 + j = 4 * (i - 4) + j by omega, show i * 4 + j = 4 * i + j by omega, word_get (by omega) (by omega) hj, lset_word hj (by rw [kw_hi _ h4 hj]), add1_i64 (by omega)]
            exact hf
          · rw [ilt_false] at q; omega)
        (by
          rw [bNew.l2_succ]
          refine ⟨fun q => ?_, fun _ => ?_⟩
          · rw [ilt_true] at q; omega
          · rw [add1_i64 (by omega)]
            have : fmul 2 (rcon ((i - 1) / 4)) = rcon ((i + 1 - 1) / 4) := by
              rw [show (i + 1 - 1) / 4 = (i - 1) / 4 + 1 by omega]; rfl
            rw [this]; exact h) 0 (Nat.zero_le _)
      exact key
    · rw [ieq_false] at q
      have q4 : ¬ i % 4 = 0 := by omega
      have key := loop_n (fun f j s => bNew.l3 R (rcon ((i - 1) / 4)) (i : Int) (upto 176 (4 * i) (kp b) fun _ => 0) f j s) 4 (fun j => upto 176 (4 * i + j) (kp b) fun _ => 0) 1 (g + 1)
        (fun f j hj hf => by
          rw [bNew.l3_succ]
          refine ⟨fun _ => ?_, fun q => ?_⟩
          · rw [e4, e1]
            simp only [InB_iff, Low_iff, Fits_iff, NonNeg_iff, NeZ_iff, nat_cast, nadd_def, nsub_def, nmul_def, Nat.zero_add]
            refine ⟨by omega, by omega, by omega, by omega, hj, by omega, by omega, by omega, ?_⟩
            rw [ew, tab_lget _ hj, show (i - 4) * 4 + j = 4 * (i - 4) + j by omega, show i * 4 + j = 4 * i + j by omega, word_get (by omega) (by omega) hj, lset_word hj (by rw [kw_hi _ h4 hj]; unfold kt; rw [if_neg q4]), add1_i64 (by omega)]
            exact hf
          · rw [ilt_false] at q; omega)
        (by
          rw [bNew.l3_succ]
          refine ⟨fun q => ?_, fun _ => ?_⟩
          · rw [ilt_true] at q; omega
          · rw [add1_i64 (by omega), show (i - 1) / 4 = (i + 1 - 1) / 4 by omega]; exact h) 0 (Nat.zero_le _)
      exact key
  · rw [ilt_false] at q; omega

theorem new_l1 {R : AV → Mem → Prop} {b : List Int} (hb : BL 16 b) (h : ∀ σ, R (.agg [.ints .u8 176 (ks b)]) σ) : bNew.l1 R (0 + 1 + 1 * 44 + 1 + 6 * (44 - 4)) 1 4 (upto 176 16 (kp b) fun _ => 0) := by
  refine loop_from (fun f i s => bNew.l1 R f s.1 i s.2) 4 44 (fun i => (rcon ((i - 1) / 4), upto 176 (4 * i) (kp b) fun _ => 0)) 6 (0 + 1 + 1 * 44 + 1) (fun g i h4 hi hg => ?_) ?_ 4 (by decide) (by decide)
  · exact new_round hb g i h4 hi hg
  · rw [bNew.l1_succ]
    refine ⟨fun q => ?_, fun _ => ?_⟩
    · rw [ilt_true] at q; omega
    · show bNew.l4 R (upto 176 176 (kp b) fun _ => 0) _ _ _
      rw [upto_done]
      exact new_l4 (tab_len _ _) h
end Go.Proofs.Ytkecbjohbihfmaa.G

/- The verification conditions of functions, printed by a program of this session out of their codes. -/
namespace Go.Proofs.Ytkecbjohbihfmaa.G
open Go Go.Sx Go.Fld Go.Blk
set_option linter.unusedVariables false
set_option maxRecDepth 100000

def rKeys.l1 (R : AV → Mem → Prop)  (fuel : Nat) (x2 : Int) (x3 : Int) (x4 : List Int) : Prop := run Try.prog gamB1 [] (resh Try.prog [] Try.f28.results.toList R) fuel [.code (cAt (bodyOf Try.f28) [1, 1, 1, 1, 0, 1, 0, 0]), .inLoop (cAt (bodyOf Try.f28) [1, 1, 1, 1, 0, 1, 0, 0]), .inBlock 2, .code (cAt (bodyOf Try.f28) [1, 1, 1, 1, 1])] [AV.undef, AV.undef, (AV.one (AC.ptr 2 0 0)), (AV.one (AC.ptr 3 0 0)), AV.undef, (AV.one (AC.int IntKind.u8 x2)), (AV.one (AC.int IntKind.i64 x3)), AV.undef, AV.undef, AV.undef, AV.undef, AV.undef, AV.undef, AV.undef, AV.undef, AV.undef, AV.undef, AV.undef, AV.undef, AV.undef, AV.undef, AV.undef, AV.undef, AV.undef, AV.undef, AV.undef, AV.undef, AV.undef, AV.undef, AV.undef, AV.undef, AV.undef, AV.undef, AV.undef, AV.undef, AV.undef, AV.undef, AV.undef, AV.undef, AV.undef, AV.undef, AV.undef, AV.undef, AV.undef, AV.undef, AV.undef, AV.undef, AV.undef, AV.undef, AV.undef, AV.undef, AV.undef, AV.undef, AV.undef, AV.undef, AV.undef, AV.undef, AV.undef, AV.undef, AV.undef, AV.undef, AV.undef, AV.undef, AV.undef, AV.undef, AV.undef, AV.undef, AV.undef, AV.undef, AV.undef, AV.undef, AV.undef, AV.undef, AV.undef, AV.undef, AV.undef, AV.undef, AV.undef, AV.undef, AV.undef, AV.undef, AV.undef, AV.undef, AV.undef, AV.undef, AV.undef, AV.undef, AV.undef, AV.undef, AV.undef, AV.undef, AV.undef, (AV.tup [])] [(2, Blk.own 33 [(Seg.ints IntKind.u8 176 (lzeros 176))]), (3, Blk.own 33 [(Seg.ints IntKind.u8 176 x4)])]

def rKeys.l0 (R : AV → Mem → Prop) (b : List Int) (fuel : Nat) (x0 : Int) (x1 : List Int) : Prop := run Try.prog gamB1 [] (resh Try.prog [] Try.f28.results.toList R) fuel [.code (cAt (bodyOf Try.f28) [1, 1, 0, 1, 0, 0]), .inLoop (cAt (bodyOf Try.f28) [1, 1, 0, 1, 0, 0]), .inBlock 0, .code (cAt (bodyOf Try.f28) [1, 1, 1])] [AV.undef, (AV.one (AC.ptr 1 0 0)), (AV.one (AC.ptr 2 0 0)), (AV.one (AC.ptr 3 0 0)), (AV.one (AC.int IntKind.i64 x0)), (AV.tup []), (AV.tup []), (AV.tup []), (AV.tup []), (AV.tup []), (AV.tup []), (AV.tup []), AV.undef, AV.undef, AV.undef, AV.undef, AV.undef, AV.undef, AV.undef, AV.undef, AV.undef, (AV.tup []), (AV.tup []), (AV.tup []), (AV.tup []), (AV.tup []), (AV.tup []), (AV.tup []), (AV.tup []), (AV.tup []), (AV.tup []), (AV.tup []), (AV.tup []), (AV.tup []), (AV.tup []), (AV.tup []), (AV.tup []), (AV.tup []), (AV.tup []), (AV.tup []), (AV.tup []), (AV.tup []), (AV.tup []), (AV.tup []), (AV.tup []), (AV.tup []), (AV.tup []), (AV.tup []), (AV.tup []), (AV.tup []), (AV.tup []), (AV.tup []), (AV.tup []), (AV.tup []), (AV.tup []), (AV.tup []), (AV.tup []), (AV.tup []), (AV.tup []), (AV.tup []), (AV.tup []), (AV.tup []), (AV.tup []), (AV.tup []), (AV.tup []), (AV.tup []), (AV.tup []), (AV.tup []), (AV.tup []), (AV.tup []), (AV.tup []), (AV.tup []), (AV.tup []), (AV.tup []), (AV.tup []), (AV.tup []), (AV.tup []), (AV.tup []), (AV.tup []), (AV.tup []), (AV.tup []), (AV.tup []), (AV.tup []), (AV.tup []), (AV.tup []), (AV.tup []), (AV.tup []), (AV.tup []), (AV.tup []), (AV.tup []), (AV.tup []), (AV.tup []), (AV.tup [])] [(1, Blk.own 22 [(Seg.ints IntKind.u8 16 b)]), (2, Blk.own 33 [(Seg.ints IntKind.u8 176 (lzeros 176))]), (3, Blk.own 33 [(Seg.ints IntKind.u8 176 x1)])]

theorem rKeys.l1_succ (R : AV → Mem → Prop)  (fuel : Nat) (x2 : Int) (x3 : Int) (x4 : List Int) : rKeys.l1 R  (fuel + 1) x2 x3 x4 = (((((ilt x3 176) = true) → ((InB (sub IntKind.i64 x3 4) 176) ∧ ((Low (nadd 0 (nat (sub IntKind.i64 x3 4))) 176) ∧ ((InB (sub IntKind.i64 x3 3) 176) ∧ ((Low (nadd 0 (nat (sub IntKind.i64 x3 3))) 176) ∧ ((InB (sub IntKind.i64 x3 2) 176) ∧ ((Low (nadd 0 (nat (sub IntKind.i64 x3 2))) 176) ∧ ((InB (sub IntKind.i64 x3 1) 176) ∧ ((Low (nadd 0 (nat (sub IntKind.i64 x3 1))) 176) ∧ ((NeZ 16) ∧ ((((ieq (rem x3 16) 0) = true) → ((InB (lget x4 (nadd 0 (nat (sub IntKind.i64 x3 3)))) 256) ∧ ((InB (lget x4 (nadd 0 (nat (sub IntKind.i64 x3 2)))) 256) ∧ ((InB (lget x4 (nadd 0 (nat (sub IntKind.i64 x3 1)))) 256) ∧ (let y5 : Int := (bxor IntKind.u8 (sget boxC (nat (lget x4 (nadd 0 (nat (sub IntKind.i64 x3 3)))))) x2); (let y6 : Int := (sget boxC (nat (lget x4 (nadd 0 (nat (sub IntKind.i64 x3 2)))))); (let y7 : Int := (sget boxC (nat (lget x4 (nadd 0 (nat (sub IntKind.i64 x3 1)))))); (let y8 : Int := (sget boxC (nat (lget x4 (nadd 0 (nat (sub IntKind.i64 x3 3)))))); ((InB (lget x4 (nadd 0 (nat (sub IntKind.i64 x3 4)))) 256) ∧ (let y9 : Int := (sget boxC (nat (lget x4 (nadd 0 (nat (sub IntKind.i64 x3 4)))))); ((Byte x2) ∧ ((InB (sub IntKind.i64 x3 16) 176) ∧ ((Low (nadd 0 (nat (sub IntKind.i64 x3 16))) 176) ∧ ((InB x3 176) ∧ ((Low (nadd 0 (nat x3)) 176) ∧ (let y10 : List Int := (lset x4 (nadd 0 (nat x3)) (bxor IntKind.u8 (lget x4 (nadd 0 (nat (sub IntKind.i64 x3 16)))) y5)); ((InB (sub IntKind.i64 x3 15) 176) ∧ ((Low (nadd 0 (nat (sub IntKind.i64 x3 15))) 176) ∧ ((InB (add IntKind.i64 x3 1) 176) ∧ ((Low (nadd 0 (nat (add IntKind.i64 x3 1))) 176) ∧ (let y11 : List Int := (lset y10 (nadd 0 (nat (add IntKind.i64 x3 1))) (bxor IntKind.u8 (lget y10 (nadd 0 (nat (sub IntKind.i64 x3 15)))) y6)); ((InB (sub IntKind.i64 x3 14) 176) ∧ ((Low (nadd 0 (nat (sub IntKind.i64 x3 14))) 176) ∧ ((InB (add IntKind.i64 x3 2) 176) ∧ ((Low (nadd 0 (nat (add IntKind.i64 x3 2))) 176) ∧ (let y12 : List Int := (lset y11 (nadd 0 (nat (add IntKind.i64 x3 2))) (bxor IntKind.u8 (lget y11 (nadd 0 (nat (sub IntKind.i64 x3 14)))) y7)); ((InB (sub IntKind.i64 x3 13) 176) ∧ ((Low (nadd 0 (nat (sub IntKind.i64 x3 13))) 176) ∧ ((InB (add IntKind.i64 x3 3) 176) ∧ ((Low (nadd 0 (nat (add IntKind.i64 x3 3))) 176) ∧ (let y13 : List Int := (lset y12 (nadd 0 (nat (add IntKind.i64 x3 3))) (bxor IntKind.u8 (lget y12 (nadd 0 (nat (sub IntKind.i64 x3 13)))) y9)); (rKeys.l1 R  fuel (fmul 2 x2) (add IntKind.i64 x3 4) y13)))))))))))))))))))))))))))))))) ∧ (((ieq (rem x3 16) 0) = false) → ((InB (sub IntKind.i64 x3 16) 176) ∧ ((Low (nadd 0 (nat (sub IntKind.i64 x3 16))) 176) ∧ ((InB x3 176) ∧ ((Low (nadd 0 (nat x3)) 176) ∧ (let y14 : Int := (bxor IntKind.u8 (lget x4 (nadd 0 (nat (sub IntKind.i64 x3 16)))) (lget x4 (nadd 0 (nat (sub IntKind.i64 x3 4))))); (let y15 : List Int := (lset x4 (nadd 0 (nat x3)) (bxor IntKind.u8 (lget x4 (nadd 0 (nat (sub IntKind.i64 x3 16)))) (lget x4 (nadd 0 (nat (sub IntKind.i64 x3 4)))))); ((InB (sub IntKind.i64 x3 15) 176) ∧ ((Low (nadd 0 (nat (sub IntKind.i64 x3 15))) 176) ∧ ((InB (add IntKind.i64 x3 1) 176) ∧ ((Low (nadd 0 (nat (add IntKind.i64 x3 1))) 176) ∧ (let y16 : Int := (bxor IntKind.u8 (lget y15 (nadd 0 (nat (sub IntKind.i64 x3 15)))) (lget x4 (nadd 0 (nat (sub IntKind.i64 x3 3))))); (let y17 : List Int := (lset y15 (nadd 0 (nat (add IntKind.i64 x3 1))) (bxor IntKind.u8 (lget y15 (nadd 0 (nat (sub IntKind.i64 x3 15)))) (lget x4 (nadd 0 (nat (sub IntKind.i64 x3 3)))))); ((InB (sub IntKind.i64 x3 14) 176) ∧ ((Low (nadd 0 (nat (sub IntKind.i64 x3 14))) 176) ∧ ((InB (add IntKind.i64 x3 2) 176) ∧ ((Low (nadd 0 (nat (add IntKind.i64 x3 2))) 176) ∧ (let y18 : Int := (bxor IntKind.u8 (lget y17 (nadd 0 (nat (sub IntKind.i64 x3 14)))) (lget x4 (nadd 0 (nat (sub IntKind.i64 x3 2))))); (let y19 : List Int := (lset y17 (nadd 0 (nat (add IntKind.i64 x3 2))) (bxor IntKind.u8 (lget y17 (nadd 0 (nat (sub IntKind.i64 x3 14)))) (lget x4 (nadd 0 (nat (sub IntKind.i64 x3 2)))))); ((InB (sub IntKind.i64 x3 13) 176) ∧ ((Low (nadd 0 (nat (sub IntKind.i64 x3 13))) 176) ∧ ((InB (add IntKind.i64 x3 3) 176) ∧ ((Low (nadd 0 (nat (add IntKind.i64 x3 3))) 176) ∧ (let y20 : Int := (bxor IntKind.u8 (lget y19 (nadd 0 (nat (sub IntKind.i64 x3 13)))) (lget x4 (nadd 0 (nat (sub IntKind.i64 x3 1))))); (let y21 : List Int := (lset y19 (nadd 0 (nat (add IntKind.i64 x3 3))) (bxor IntKind.u8 (lget y19 (nadd 0 (nat (sub IntKind.i64 x3 13)))) (lget x4 (nadd 0 (nat (sub IntKind.i64 x3 1)))))); (rKeys.l1 R  fuel x2 (add IntKind.i64 x3 4) y21))))))))))))))))))))))))))))))))))))) ∧ (((ilt x3 176) = false) → (R (AV.agg [(Seg.ints IntKind.u8 176 x4)]) [(2, Blk.own 33 [(Seg.ints IntKind.u8 176 x4)]), (3, Blk.own 33 [(Seg.ints IntKind.u8 176 x4)])])))) := by kernel_rfl
theorem rKeys.l1_zero (R : AV → Mem → Prop)  (x2 : Int) (x3 : Int) (x4 : List Int) : rKeys.l1 R  0 x2 x3 x4 = False := by kernel_rfl

theorem rKeys.l0_succ (R : AV → Mem → Prop) (b : List Int) (fuel : Nat) (x0 : Int) (x1 : List Int) : rKeys.l0 R b (fuel + 1) x0 x1 = (((((ilt x0 16) = true) → ((InB x0 16) ∧ ((Low (nadd 0 (nat x0)) 16) ∧ ((InB x0 176) ∧ ((Low (nadd 0 (nat x0)) 176) ∧ (rKeys.l0 R b fuel (add IntKind.i64 x0 1) (lset x1 (nadd 0 (nat x0)) (lget b (nadd 0 (nat x0)))))))))) ∧ (((ilt x0 16) = false) → (rKeys.l1 R  fuel 1 16 x1)))) := by kernel_rfl
theorem rKeys.l0_zero (R : AV → Mem → Prop) (b : List Int) (x0 : Int) (x1 : List Int) : rKeys.l0 R b 0 x0 x1 = False := by kernel_rfl

theorem rKeys_vc (R : AV → Mem → Prop) (fuel : Nat) (b : List Int) : callsx Try.prog gamB1 [] Try.f28 (fuel + 1) [.agg [.ints .u8 16 b]] [] R = ((rKeys.l0 R b fuel 0 (lzeros 176))) := by kernel_rfl

theorem rtwice_vc (R : AV → Mem → Prop) (fuel : Nat) (b : Int) : callsx Try.prog gam0 [] Try.f44 (fuel + 1) [.one (.int .u8 b)] [] R = (((((ige b 128) = true) → ((NonNeg 1) ∧ (R (AV.one (AC.int IntKind.u8 (bxor IntKind.u8 (shl IntKind.u8 b 1) 27))) []))) ∧ (((ige b 128) = false) → ((NonNeg 1) ∧ (R (AV.one (AC.int IntKind.u8 (shl IntKind.u8 b 1))) []))))) := by kernel_rfl

def radded.l0 (R : AV → Mem → Prop) (i : Int) (k : List Int) (fuel : Nat) (x0 : Int) (x1 : List Int) : Prop := run Try.prog gam0 [] (resh Try.prog [] Try.f36.results.toList R) fuel [.code (cAt (bodyOf Try.f36) [1, 0, 1, 0, 0]), .inLoop (cAt (bodyOf Try.f36) [1, 0, 1, 0, 0]), .inBlock 0, .code (cAt (bodyOf Try.f36) [1, 1])] [AV.undef, AV.undef, (AV.one (AC.int IntKind.i64 i)), (AV.one (AC.ptr 3 0 0)), (AV.one (AC.ptr 4 0 0)), AV.undef, (AV.one (AC.ptr 6 0 0)), (AV.one (AC.int IntKind.i64 x0)), AV.undef, AV.undef, AV.undef, AV.undef, AV.undef, AV.undef, AV.undef, AV.undef, AV.undef, AV.undef, AV.undef, AV.undef, AV.undef, AV.undef, AV.undef, (AV.tup [])] [(3, Blk.own 22 [(Seg.ints IntKind.u8 16 x1)]), (4, Blk.own 33 [(Seg.ints IntKind.u8 176 k)]), (6, Blk.own 22 [(Seg.ints IntKind.u8 16 (lzeros 16))])]

theorem radded.l0_succ (R : AV → Mem → Prop) (i : Int) (k : List Int) (fuel : Nat) (x0 : Int) (x1 : List Int) : radded.l0 R i k (fuel + 1) x0 x1 = (((((ilt x0 16) = true) → ((InB x0 16) ∧ ((Low (nadd 0 (nat x0)) 16) ∧ ((InB (add IntKind.i64 (mul IntKind.i64 16 i) x0) 176) ∧ ((Low (nadd 0 (nat (add IntKind.i64 (mul IntKind.i64 16 i) x0))) 176) ∧ ((InB x0 16) ∧ ((Low (nadd 0 (nat x0)) 16) ∧ (let y2 : Int := (bxor IntKind.u8 (lget x1 (nadd 0 (nat x0))) (lget k (nadd 0 (nat (add IntKind.i64 (mul IntKind.i64 16 i) x0))))); (let y3 : List Int := (lset x1 (nadd 0 (nat x0)) (bxor IntKind.u8 (lget x1 (nadd 0 (nat x0))) (lget k (nadd 0 (nat (add IntKind.i64 (mul IntKind.i64 16 i) x0)))))); (radded.l0 R i k fuel (add IntKind.i64 x0 1) y3)))))))))) ∧ (((ilt x0 16) = false) → (R (AV.agg [(Seg.ints IntKind.u8 16 x1)]) [(3, Blk.own 22 [(Seg.ints IntKind.u8 16 x1)]), (4, Blk.own 33 [(Seg.ints IntKind.u8 176 k)]), (6, Blk.own 22 [(Seg.ints IntKind.u8 16 x1)])])))) := by kernel_rfl
theorem radded.l0_zero (R : AV → Mem → Prop) (i : Int) (k : List Int) (x0 : Int) (x1 : List Int) : radded.l0 R i k 0 x0 x1 = False := by kernel_rfl

theorem radded_vc (R : AV → Mem → Prop) (fuel : Nat) (b : List Int) (k : List Int) (i : Int) : callsx Try.prog gam0 [] Try.f36 (fuel + 1) [.agg [.ints .u8 16 b], .agg [.ints .u8 176 k], .one (.int .i64 i)] [] R = ((radded.l0 R i k fuel 0 b)) := by kernel_rfl

def rmixed.l1 (R : AV → Mem → Prop) (x0 : Int) (y2 : Int) (b : List Int) (y3 : Int) (fuel : Nat) (x4 : Int) (x5 : List Int) : Prop := run Try.prog gamB1 [] (resh Try.prog [] Try.f37.results.toList R) fuel [.code (cAt (bodyOf Try.f37) [1, 1, 0, 1, 0, 0, 1, 0, 0, 1, 1, 0, 0]), .inLoop (cAt (bodyOf Try.f37) [1, 1, 0, 1, 0, 0, 1, 0, 0, 1, 1, 0, 0]), .inBlock 2, .inBlock 1, .code (cAt (bodyOf Try.f37) [1, 1, 0, 1, 0, 0, 1, 1]), .inLoop (cAt (bodyOf Try.f37) [1, 1, 0, 1, 0, 0]), .inBlock 0, .code (cAt (bodyOf Try.f37) [1, 1, 1])] [AV.undef, (AV.one (AC.ptr 1 0 0)), (AV.one (AC.ptr 2 0 0)), (AV.one (AC.ptr 3 0 0)), (AV.one (AC.int IntKind.i64 x0)), (AV.one (AC.int IntKind.u8 y2)), (AV.one (AC.int IntKind.i64 x4)), (AV.one (AC.int IntKind.i64 x0)), (AV.one (AC.lit true)), AV.undef, AV.undef, (AV.one (AC.int IntKind.i64 x0)), (AV.one (AC.ptr 1 0 (nadd 0 (nat x0)))), (AV.one (AC.int IntKind.u8 (lget b (nadd 0 (nat x0))))), (AV.one (AC.int IntKind.i64 x0)), (AV.one (AC.int IntKind.i64 (add IntKind.i64 x0 1))), (AV.one (AC.ptr 1 0 (nadd 0 (nat (add IntKind.i64 x0 1))))), (AV.one (AC.int IntKind.u8 (lget b (nadd 0 (nat (add IntKind.i64 x0 1)))))), (AV.one (AC.int IntKind.u8 (bxor IntKind.u8 (lget b (nadd 0 (nat x0))) (lget b (nadd 0 (nat (add IntKind.i64 x0 1))))))), (AV.one (AC.int IntKind.i64 x0)), (AV.one (AC.int IntKind.i64 (add IntKind.i64 x0 2))), (AV.one (AC.ptr 1 0 (nadd 0 (nat (add IntKind.i64 x0 2))))), (AV.one (AC.int IntKind.u8 (lget b (nadd 0 (nat (add IntKind.i64 x0 2)))))), (AV.one (AC.int IntKind.u8 y3)), (AV.one (AC.int IntKind.i64 x0)), (AV.one (AC.int IntKind.i64 (add IntKind.i64 x0 3))), (AV.one (AC.ptr 1 0 (nadd 0 (nat (add IntKind.i64 x0 3))))), (AV.one (AC.int IntKind.u8 (lget b (nadd 0 (nat (add IntKind.i64 x0 3)))))), (AV.one (AC.int IntKind.u8 y2)), AV.undef, AV.undef, AV.undef, AV.undef, AV.undef, AV.undef, AV.undef, AV.undef, AV.undef, AV.undef, AV.undef, AV.undef, AV.undef, AV.undef, AV.undef, AV.undef, AV.undef, AV.undef, AV.undef, AV.undef, AV.undef, AV.undef, AV.undef, AV.undef, AV.undef, AV.undef, AV.undef, AV.undef, AV.undef, AV.undef, (AV.tup [])] [(1, Blk.own 22 [(Seg.ints IntKind.u8 16 b)]), (2, Blk.own 22 [(Seg.ints IntKind.u8 16 (lzeros 16))]), (3, Blk.own 22 [(Seg.ints IntKind.u8 16 x5)])]

def rmixed.l0 (R : AV → Mem → Prop) (b : List Int) (fuel : Nat) (x0 : Int) (x1 : List Int) : Prop := run Try.prog gamB1 [] (resh Try.prog [] Try.f37.results.toList R) fuel [.code (cAt (bodyOf Try.f37) [1, 1, 0, 1, 0, 0]), .inLoop (cAt (bodyOf Try.f37) [1, 1, 0, 1, 0, 0]), .inBlock 0, .code (cAt (bodyOf Try.f37) [1, 1, 1])] [AV.undef, (AV.one (AC.ptr 1 0 0)), (AV.one (AC.ptr 2 0 0)), (AV.one (AC.ptr 3 0 0)), (AV.one (AC.int IntKind.i64 x0)), AV.undef, AV.undef, AV.undef, AV.undef, AV.undef, AV.undef, AV.undef, AV.undef, AV.undef, AV.undef, AV.undef, AV.undef, AV.undef, AV.undef, AV.undef, AV.undef, AV.undef, AV.undef, AV.undef, AV.undef, AV.undef, AV.undef, AV.undef, AV.undef, AV.undef, AV.undef, AV.undef, AV.undef, AV.undef, AV.undef, AV.undef, AV.undef, AV.undef, AV.undef, AV.undef, AV.undef, AV.undef, AV.undef, AV.undef, AV.undef, AV.undef, AV.undef, AV.undef, AV.undef, AV.undef, AV.undef, AV.undef, AV.undef, AV.undef, AV.undef, AV.undef, AV.undef, AV.undef, AV.undef, (AV.tup [])] [(1, Blk.own 22 [(Seg.ints IntKind.u8 16 b)]), (2, Blk.own 22 [(Seg.ints IntKind.u8 16 (lzeros 16))]), (3, Blk.own 22 [(Seg.ints IntKind.u8 16 x1)])]

theorem rmixed.l1_succ (R : AV → Mem → Prop) (x0 : Int) (y2 : Int) (b : List Int) (y3 : Int) (fuel : Nat) (x4 : Int) (x5 : List Int) : rmixed.l1 R x0 y2 b y3 (fuel + 1) x4 x5 = (((((ilt x4 4) = true) → ((InB (add IntKind.i64 x0 x4) 16) ∧ ((Low (nadd 0 (nat (add IntKind.i64 x0 x4))) 16) ∧ ((InB (add IntKind.i64 x0 x4) 16) ∧ ((Low (nadd 0 (nat (add IntKind.i64 x0 x4))) 16) ∧ ((NeZ 4) ∧ ((InB (add IntKind.i64 x0 (rem (add IntKind.i64 x4 1) 4)) 16) ∧ ((Low (nadd 0 (nat (add IntKind.i64 x0 (rem (add IntKind.i64 x4 1) 4)))) 16) ∧ ((Byte (bxor IntKind.u8 (lget b (nadd 0 (nat (add IntKind.i64 x0 x4)))) (lget b (nadd 0 (nat (add IntKind.i64 x0 (rem (add IntKind.i64 x4 1) 4))))))) ∧ ((InB (add IntKind.i64 x0 x4) 16) ∧ ((Low (nadd 0 (nat (add IntKind.i64 x0 x4))) 16) ∧ (let y6 : Int := (bxor IntKind.u8 (lget b (nadd 0 (nat (add IntKind.i64 x0 x4)))) (lget b (nadd 0 (nat (add IntKind.i64 x0 (rem (add IntKind.i64 x4 1) 4)))))); (let y7 : Int := (fmul 2 (bxor IntKind.u8 (lget b (nadd 0 (nat (add IntKind.i64 x0 x4)))) (lget b (nadd 0 (nat (add IntKind.i64 x0 (rem (add IntKind.i64 x4 1) 4))))))); (let y8 : Int := (bxor IntKind.u8 (bxor IntKind.u8 (lget b (nadd 0 (nat (add IntKind.i64 x0 x4)))) y2) (fmul 2 (bxor IntKind.u8 (lget b (nadd 0 (nat (add IntKind.i64 x0 x4)))) (lget b (nadd 0 (nat (add IntKind.i64 x0 (rem (add IntKind.i64 x4 1) 4)))))))); (let y9 : List Int := (lset x5 (nadd 0 (nat (add IntKind.i64 x0 x4))) (bxor IntKind.u8 (bxor IntKind.u8 (lget b (nadd 0 (nat (add IntKind.i64 x0 x4)))) y2) (fmul 2 (bxor IntKind.u8 (lget b (nadd 0 (nat (add IntKind.i64 x0 x4)))) (lget b (nadd 0 (nat (add IntKind.i64 x0 (rem (add IntKind.i64 x4 1) 4))))))))); (rmixed.l1 R x0 y2 b y3 fuel (add IntKind.i64 x4 1) y9)))))))))))))))) ∧ (((ilt x4 4) = false) → (rmixed.l0 R b fuel (add IntKind.i64 x0 4) x5)))) := by kernel_rfl
theorem rmixed.l1_zero (R : AV → Mem → Prop) (x0 : Int) (y2 : Int) (b : List Int) (y3 : Int) (x4 : Int) (x5 : List Int) : rmixed.l1 R x0 y2 b y3 0 x4 x5 = False := by kernel_rfl

theorem rmixed.l0_succ (R : AV → Mem → Prop) (b : List Int) (fuel : Nat) (x0 : Int) (x1 : List Int) : rmixed.l0 R b (fuel + 1) x0 x1 = (((((ilt x0 16) = true) → ((InB x0 16) ∧ ((Low (nadd 0 (nat x0)) 16) ∧ ((InB (add IntKind.i64 x0 1) 16) ∧ ((Low (nadd 0 (nat (add IntKind.i64 x0 1))) 16) ∧ ((InB (add IntKind.i64 x0 2) 16) ∧ ((Low (nadd 0 (nat (add IntKind.i64 x0 2))) 16) ∧ ((InB (add IntKind.i64 x0 3) 16) ∧ ((Low (nadd 0 (nat (add IntKind.i64 x0 3))) 16) ∧ (let y2 : Int := (bxor IntKind.u8 (bxor IntKind.u8 (bxor IntKind.u8 (lget b (nadd 0 (nat x0))) (lget b (nadd 0 (nat (add IntKind.i64 x0 1))))) (lget b (nadd 0 (nat (add IntKind.i64 x0 2))))) (lget b (nadd 0 (nat (add IntKind.i64 x0 3))))); (let y3 : Int := (bxor IntKind.u8 (bxor IntKind.u8 (lget b (nadd 0 (nat x0))) (lget b (nadd 0 (nat (add IntKind.i64 x0 1))))) (lget b (nadd 0 (nat (add IntKind.i64 x0 2))))); (rmixed.l1 R x0 y2 b y3 fuel 0 x1)))))))))))) ∧ (((ilt x0 16) = false) → (R (AV.agg [(Seg.ints IntKind.u8 16 x1)]) [(1, Blk.own 22 [(Seg.ints IntKind.u8 16 b)]), (2, Blk.own 22 [(Seg.ints IntKind.u8 16 x1)]), (3, Blk.own 22 [(Seg.ints IntKind.u8 16 x1)])])))) := by kernel_rfl
theorem rmixed.l0_zero (R : AV → Mem → Prop) (b : List Int) (x0 : Int) (x1 : List Int) : rmixed.l0 R b 0 x0 x1 = False := by kernel_rfl

theorem rmixed_vc (R : AV → Mem → Prop) (fuel : Nat) (b : List Int) : callsx Try.prog gamB1 [] Try.f37 (fuel + 1) [.agg [.ints .u8 16 b]] [] R = ((rmixed.l0 R b fuel 0 (lzeros 16))) := by kernel_rfl

def rback.l0 (R : AV → Mem → Prop)  (fuel : Nat) (x0 : Int) (x1 : List Int) : Prop := run Try.prog gam0 [] (resh Try.prog [] Try.f35.results.toList R) fuel [.code (cAt (bodyOf Try.f35) [1, 1, 0, 1, 0, 0]), .inLoop (cAt (bodyOf Try.f35) [1, 1, 0, 1, 0, 0]), .inBlock 0, .code (cAt (bodyOf Try.f35) [1, 1, 1])] [(AV.one (AC.ptr 0 0 0)), (AV.one (AC.ptr 1 0 0)), (AV.one (AC.int IntKind.i64 x0)), AV.undef, AV.undef, AV.undef, AV.undef, AV.undef, AV.undef, AV.undef, AV.undef, AV.undef, (AV.tup [])] [(0, Blk.own 60 [(Seg.ints IntKind.u8 256 (lzeros 256))]), (1, Blk.own 60 [(Seg.ints IntKind.u8 256 x1)])]

theorem rback.l0_succ (R : AV → Mem → Prop)  (fuel : Nat) (x0 : Int) (x1 : List Int) : rback.l0 R  (fuel + 1) x0 x1 = (((((ilt x0 256) = true) → ((InB x0 256) ∧ ((InB (sget boxC (nat x0)) 256) ∧ ((Low (nadd 0 (nat (sget boxC (nat x0)))) 256) ∧ (let y2 : Int := (sget boxC (nat x0)); (let y3 : Nat := (nadd 0 (nat (sget boxC (nat x0)))); (let y4 : List Int := (lset x1 (nadd 0 (nat (sget boxC (nat x0)))) (conv IntKind.u8 x0)); (rback.l0 R  fuel (add IntKind.i64 x0 1) y4)))))))) ∧ (((ilt x0 256) = false) → (R (AV.agg [(Seg.ints IntKind.u8 256 x1)]) [(0, Blk.own 60 [(Seg.ints IntKind.u8 256 x1)]), (1, Blk.own 60 [(Seg.ints IntKind.u8 256 x1)])])))) := by kernel_rfl
theorem rback.l0_zero (R : AV → Mem → Prop)  (x0 : Int) (x1 : List Int) : rback.l0 R  0 x0 x1 = False := by kernel_rfl

theorem rback_vc (R : AV → Mem → Prop) (fuel : Nat)  : callsx Try.prog gam0 [] Try.f35 (fuel + 1) [] [] R = ((rback.l0 R  fuel 0 (lzeros 256))) := by kernel_rfl

def rnext.l0 (R : AV → Mem → Prop)  (fuel : Nat) (x0 : Int) (x1 : List Int) : Prop := run Try.prog gam0 [] (resh Try.prog [] Try.f40.results.toList R) fuel [.code (cAt (bodyOf Try.f40) [1, 0, 1, 0, 0]), .inLoop (cAt (bodyOf Try.f40) [1, 0, 1, 0, 0]), .inBlock 0, .code (cAt (bodyOf Try.f40) [1, 1])] [AV.undef, (AV.one (AC.ptr 1 0 0)), (AV.one (AC.ptr 2 0 0)), (AV.one (AC.int IntKind.i64 x0)), AV.undef, AV.undef, AV.undef, AV.undef, AV.undef, AV.undef, AV.undef, AV.undef, AV.undef, AV.undef, AV.undef, AV.undef, AV.undef, AV.undef, (AV.tup [])] [(1, Blk.own 22 [(Seg.ints IntKind.u8 16 x1)]), (2, Blk.own 22 [(Seg.ints IntKind.u8 16 (lzeros 16))])]

theorem rnext.l0_succ (R : AV → Mem → Prop)  (fuel : Nat) (x0 : Int) (x1 : List Int) : rnext.l0 R  (fuel + 1) x0 x1 = (((((ige x0 0) = true) → ((InB x0 16) ∧ ((Low (nadd 0 (nat x0)) 16) ∧ ((InB x0 16) ∧ ((Low (nadd 0 (nat x0)) 16) ∧ ((InB x0 16) ∧ ((Low (nadd 0 (nat x0)) 16) ∧ (let y2 : Int := (lget (lset x1 (nadd 0 (nat x0)) (add IntKind.u8 (lget x1 (nadd 0 (nat x0))) 1)) (nadd 0 (nat x0))); (let y3 : Bool := (ine (lget (lset x1 (nadd 0 (nat x0)) (add IntKind.u8 (lget x1 (nadd 0 (nat x0))) 1)) (nadd 0 (nat x0))) 0); (((y3 = true) → (R (AV.agg [(Seg.ints IntKind.u8 16 (lset x1 (nadd 0 (nat x0)) (add IntKind.u8 (lget x1 (nadd 0 (nat x0))) 1)))]) [(1, Blk.own 22 [(Seg.ints IntKind.u8 16 (lset x1 (nadd 0 (nat x0)) (add IntKind.u8 (lget x1 (nadd 0 (nat x0))) 1)))]), (2, Blk.own 22 [(Seg.ints IntKind.u8 16 (lset x1 (nadd 0 (nat x0)) (add IntKind.u8 (lget x1 (nadd 0 (nat x0))) 1)))])])) ∧ ((y3 = false) → (rnext.l0 R  fuel (sub IntKind.i64 x0 1) (lset x1 (nadd 0 (nat x0)) (add IntKind.u8 (lget x1 (nadd 0 (nat x0))) 1)))))))))))))) ∧ (((ige x0 0) = false) → (R (AV.agg [(Seg.ints IntKind.u8 16 x1)]) [(1, Blk.own 22 [(Seg.ints IntKind.u8 16 x1)]), (2, Blk.own 22 [(Seg.ints IntKind.u8 16 x1)])])))) := by kernel_rfl
theorem rnext.l0_zero (R : AV → Mem → Prop)  (x0 : Int) (x1 : List Int) : rnext.l0 R  0 x0 x1 = False := by kernel_rfl

theorem rnext_vc (R : AV → Mem → Prop) (fuel : Nat) (b : List Int) : callsx Try.prog gam0 [] Try.f40 (fuel + 1) [.agg [.ints .u8 16 b]] [] R = ((rnext.l0 R  fuel 15 b)) := by kernel_rfl

end Go.Proofs.Ytkecbjohbihfmaa.G

/- The program's inner functions, each as it is known. -/
namespace Go.Proofs.Ytkecbjohbihfmaa.G
open Go Go.Sx Go.Fld Go.Blk
set_option linter.unusedSimpArgs false
set_option linter.unusedVariables false

theorem plain_con (v : Value) : plainAV (.one (.con v)) := fun _ => rfl

theorem good_rtwice : Sx.Good Try.prog 44 twiceS := by
  refine Sx.Good.pure (D := []) mixed (good0 _) Try.func44 (by kernel_rfl) rfl fun d args σ K h => ?_
  simp only [twiceS] at h
  split at h <;> try exact h.elim
  rename_i b
  obtain ⟨hb, hK⟩ := h
  refine ⟨by simp [plain_int], _, plain_int _ _, hK, 0 + 1, ?_⟩
  rw [rtwice_vc]
  obtain ⟨i, hi, rfl⟩ := hb.nat
  have key : ∀ i : Nat, i < 256 → fmul 2 (i : Int) = if 128 ≤ i then bxor .u8 (shl .u8 (i : Int) 1) 27 else shl .u8 (i : Int) 1 := by decide +kernel
  refine ⟨fun q => ⟨⟨by decide⟩, ?_⟩, fun q => ⟨⟨by decide⟩, ?_⟩⟩
  · rw [ige_true] at q; rw [key i hi, if_pos (by omega)]
  · rw [ige_false] at q; rw [key i hi, if_neg (by omega)]

theorem gamB1_good : GoodG Try.prog gamB1 := gamB1'_good.ext good_rtwice ⟨_, Try.func44, by decide, by kernel_rfl⟩

theorem good_turned' : Sx.Good Try.prog 30 turnedS := by
  refine Sx.Good.pure (D := []) mixed (good0 _) Try.func30 (by kernel_rfl) rfl fun d args σ K h => ?_
  simp only [turnedS] at h
  split at h <;> try exact h.elim
  rename_i b n
  obtain ⟨⟨hb, hn⟩, hK⟩ := h
  obtain ⟨i, rfl⟩ := Int.eq_ofNat_of_zero_le hn.lo
  have hi := hn.hi
  refine ⟨by simp [plain_int, plain_ints], _, plain_ints _ _ _, hK, 25 + 1, ?_⟩
  rw [bturned_vc]
  exact turned_run hb (by omega) fun σ => rfl

theorem good_columns : Sx.Good Try.prog 33 columnsS := by
  refine Sx.Good.pure (D := []) mixed gam6_good Try.func33 (by kernel_rfl) rfl fun d args σ K h => ?_
  simp only [columnsS] at h
  split at h <;> try exact h.elim
  rename_i b x
  split at h <;> try exact h.elim
  rename_i f hf
  obtain ⟨hb, hK⟩ := h
  cases hx : conFn x with
  | none => rw [hx] at hf; cases hf
  | some g =>
    obtain rfl := conFn_eq hx
    rw [hx] at hf
    simp only [Option.bind_some, colOf] at hf
    split at hf
    · rename_i e; subst e; cases hf
      refine ⟨by simp [plain_ints, plain_con], _, plain_ints _ _ _, hK, 5 + 1, ?_⟩
      rw [colsC_vc]
      exact colsC_run hb 0 fun σ => rfl
    · split at hf
      · rename_i e; subst e; cases hf
        refine ⟨by simp [plain_ints, plain_con], _, plain_ints _ _ _, hK, 5 + 1, ?_⟩
        rw [colsU_vc]
        exact colsU_run hb 0 fun σ => rfl
      · cases hf

theorem good_new : Sx.Good Try.prog 10 keysS := by
  refine Sx.Good.pure (D := []) mixed gam6_good Try.func10 (by kernel_rfl) rfl fun d args σ K h => ?_
  simp only [keysS] at h
  split at h <;> try exact h.elim
  rename_i b
  obtain ⟨hb, hK⟩ := h
  refine ⟨by simp [plain_ints], _, plain_ints _ _ _, hK, (0 + 1 + 1 * 44 + 1 + 6 * (44 - 4)) + 1 + 1 * 4 + 1, ?_⟩
  rw [bNew_vc]
  exact new_l0 hb (new_l1 hb fun σ => rfl)

theorem good_next : Sx.Good Try.prog 39 nextS := by
  refine Sx.Good.pure (D := []) mixed (good0 _) Try.func39 (by kernel_rfl) rfl fun d args σ K h => ?_
  simp only [nextS] at h
  split at h <;> try exact h.elim
  rename_i b
  obtain ⟨hb, hK⟩ := h
  refine ⟨by simp [plain_ints], _, plain_ints _ _ _, hK, 17 + 1, ?_⟩
  rw [bnext_vc]
  exact next_run (fun _ _ _ => trivial) (fun σ => rfl) 16 b (Nat.le_refl _) hb.len rfl

theorem good_each : Sx.Good Try.prog 31 eachSp := by
  refine Sx.Good.reads (D := []) mixed gamB1_good Try.func31 (by kernel_rfl) rfl fun d args σ K h => ?_
  simp only [eachSp] at h
  split at h <;> try exact h.elim
  rename_i b x
  unfold fnx at h
  split at h
  · rename_i g hg
    obtain rfl := conFn_eq hg
    split at h <;> try exact h.elim
    rename_i f hf
    obtain ⟨hb, hK⟩ := h
    unfold subOf at hf
    split at hf
    · rename_i e; subst e; cases hf
      refine ⟨_, [], .plain (plain_ints _ _ _) (.plain (plain_con _) (.nil _)), by simp, 17 + 1, ?_⟩
      rw [eachS_vc]
      exact eachS_run hb 0 fun σ' => res_arr rfl hK
    · split at hf
      · rename_i e; subst e; cases hf
        refine ⟨_, [], .plain (plain_ints _ _ _) (.plain (plain_con _) (.nil _)), by simp, 17 + 1, ?_⟩
        rw [eachU_vc]
        exact eachU_run hb 0 fun σ' => res_arr rfl hK
      · cases hf
  · split at h <;> try exact h.elim
    rename_i n hn
    obtain rfl := isTold_eq hn
    split at h <;> try exact h.elim
    rename_i bk hbk
    split at h <;> try exact h.elim
    rename_i t ht
    obtain ⟨hT, hb, hK⟩ := h
    refine ⟨[.agg [.ints .u8 16 b], .one (.clo 38 200001 0 0)], [(200001, .view [.ints .u8 256 t])], .plain (plain_ints _ _ _) (ht ▸ .clo hbk (by rw [ht]; intro m; rfl) (.nil _)), by simp, 17 + 1, ?_⟩
    rw [eachT_vc]
    exact eachT_run hb hT 0 fun σ' => res_arr rfl hK
end Go.Proofs.Ytkecbjohbihfmaa.G

/- The field's laws: plain mathematics. -/
namespace Go.Fld

theorem x0 (a : Nat) : a ^^^ 0 = a := Nat.xor_zero a

theorem gl_acc : ∀ (d a b s t : Nat), gl d a b (s ^^^ t) = s ^^^ gl d a b t
  | 0, _, _, _, _ => rfl
  | d + 1, a, b, s, t => by
    simp only [gl]
    split
    · rw [Nat.xor_assoc, gl_acc]
    · rw [gl_acc]

theorem gl_zero (d a b s : Nat) : gl d a b s = s ^^^ gl d a b 0 := by
  have := gl_acc d a b s 0
  rwa [Nat.xor_zero] at this

theorem xt_lin : ∀ a, a < 256 → ∀ b, b < 256 → xt (a ^^^ b) = xt a ^^^ xt b := by decide +kernel

theorem xor4 (a b c d : Nat) : (a ^^^ b) ^^^ (c ^^^ d) = (a ^^^ c) ^^^ (b ^^^ d) := by
  rw [Nat.xor_assoc, Nat.xor_assoc, ← Nat.xor_assoc b c d, Nat.xor_comm b c, Nat.xor_assoc c b d]

theorem gl_lin1 : ∀ (d a a' b : Nat), a < 256 → a' < 256 → gl d (a ^^^ a') b 0 = gl d a b 0 ^^^ gl d a' b 0
  | 0, _, _, _, _, _ => by simp [gl]
  | d + 1, a, a', b, ha, ha' => by
    have ih := gl_lin1 d (xt a) (xt a') (b / 2) (xt_lt ha) (xt_lt ha')
    simp only [gl, xt_lin a ha a' ha']
    split
    · rw [gl_zero d _ _ (0 ^^^ (a ^^^ a')), gl_zero d _ _ (0 ^^^ a), gl_zero d _ _ (0 ^^^ a'), ih]
      simp only [Nat.zero_xor]
      exact xor4 a a' _ _
    · exact ih

theorem xor_half (b b' : Nat) : (b ^^^ b') / 2 = b / 2 ^^^ b' / 2 := by
  have := Nat.shiftRight_xor_distrib (a := b) (b := b') (i := 1)
  simpa [Nat.shiftRight_succ] using this

theorem xor_two (b b' : Nat) : (b ^^^ b') % 2 = (b % 2 + b' % 2) % 2 := by
  have h := Nat.testBit_xor b b' 0
  simp only [Nat.testBit_zero] at h
  rcases Nat.mod_two_eq_zero_or_one b with hb | hb <;> rcases Nat.mod_two_eq_zero_or_one b' with hb' | hb' <;> rw [hb, hb'] at h ⊢ <;> rcases Nat.mod_two_eq_zero_or_one (b ^^^ b') with hx | hx <;> rw [hx] at h ⊢ <;> simp at h ⊢

theorem gl_lin2 : ∀ (d a b b' : Nat), gl d a (b ^^^ b') 0 = gl d a b 0 ^^^ gl d a b' 0
  | 0, _, _, _ => by simp [gl]
  | d + 1, a, b, b' => by
    have ih := gl_lin2 d (xt a) (b / 2) (b' / 2)
    have h2 := xor_two b b'
    simp only [gl, xor_half]
    have z := fun s c => gl_zero d (xt a) c s
    rcases Nat.mod_two_eq_zero_or_one b with hb | hb <;> rcases Nat.mod_two_eq_zero_or_one b' with hb' | hb' <;> rw [hb, hb'] at h2 <;> simp only [h2, hb, hb', Nat.reduceAdd, Nat.reduceMod, Nat.zero_ne_one, if_true, if_false, Nat.zero_xor]
    · exact ih
    · rw [z a, z a, ih, ← Nat.xor_assoc, ← Nat.xor_assoc, Nat.xor_comm a]
    · rw [z a, z a, ih, ← Nat.xor_assoc]
    · rw [z a, z a, ih, xor4, Nat.xor_self, Nat.zero_xor]

theorem gm_lin1 {a a' : Nat} (b : Nat) (ha : a < 256) (ha' : a' < 256) : gm (a ^^^ a') b = gm a b ^^^ gm a' b := gl_lin1 8 a a' b ha ha'
theorem gm_lin2 (a b b' : Nat) : gm a (b ^^^ b') = gm a b ^^^ gm a b' := gl_lin2 8 a b b'

theorem top_bit : ∀ a, a < 256 → ∀ k, k < 8 → 2 ^ k ≤ a → a < 2 ^ (k + 1) → (a - 2 ^ k) ^^^ 2 ^ k = a := by decide +kernel

/-- two maps that go by sums and agree on the bits agree -/
theorem lin_ext {f g : Nat → Nat} (hf : ∀ a b, a < 256 → b < 256 → f (a ^^^ b) = f a ^^^ f b) (hg : ∀ a b, a < 256 → b < 256 → g (a ^^^ b) = g a ^^^ g b) (h : ∀ i, i < 8 → f (2 ^ i) = g (2 ^ i)) :
    ∀ a, a < 256 → f a = g a := by
  have zero : ∀ {f : Nat → Nat}, (∀ a b, a < 256 → b < 256 → f (a ^^^ b) = f a ^^^ f b) → f 0 = 0 := by
    intro f hf
    have := hf 0 0 (by omega) (by omega)
    rwa [Nat.xor_self, Nat.xor_self] at this
  have key : ∀ k, k ≤ 8 → ∀ a, a < 2 ^ k → f a = g a := by
    intro k
    induction k with
    | zero => intro _ a ha; have : a = 0 := by omega
              subst this; rw [zero hf, zero hg]
    | succ k ih =>
      intro hk a ha
      by_cases hlt : a < 2 ^ k
      · exact ih (by omega) a hlt
      · have hp : 2 ^ (k + 1) = 2 * 2 ^ k := by rw [Nat.pow_succ]; omega
        have h256 : 2 ^ (k + 1) ≤ 2 ^ 8 := Nat.pow_le_pow_right (by omega) hk
        have e := top_bit a (by omega) k (by omega) (by omega) ha
        rw [← e, hf _ _ (by omega) (by omega), hg _ _ (by omega) (by omega), ih (by omega) (a - 2 ^ k) (by omega), h k (by omega)]
  exact fun a ha => key 8 (by omega) a ha

theorem gm_comm_bits : ∀ i, i < 8 → ∀ j, j < 8 → gm (2 ^ i) (2 ^ j) = gm (2 ^ j) (2 ^ i) := by decide +kernel
theorem bit_lt {i : Nat} (hi : i < 8) : 2 ^ i < 256 := by
  have : 2 ^ i < 2 ^ 8 := Nat.pow_lt_pow_right (by omega) hi
  omega

theorem gm_comm {a b : Nat} (ha : a < 256) (hb : b < 256) : gm a b = gm b a := by
  refine lin_ext (f := fun a => gm a b) (g := fun a => gm b a) (fun x y hx hy => gm_lin1 b hx hy) (fun x y _ _ => gm_lin2 b x y) (fun i hi => ?_) a ha
  exact lin_ext (f := fun b => gm (2 ^ i) b) (g := fun b => gm b (2 ^ i)) (fun x y _ _ => gm_lin2 _ x y) (fun x y hx hy => gm_lin1 _ hx hy) (fun j hj => gm_comm_bits i hi j hj) b hb

theorem gm_assoc_bits : ∀ i, i < 8 → ∀ j, j < 8 → ∀ k, k < 8 → gm (gm (2 ^ i) (2 ^ j)) (2 ^ k) = gm (2 ^ i) (gm (2 ^ j) (2 ^ k)) := by decide +kernel

theorem gm_assoc {a b c : Nat} (ha : a < 256) (hb : b < 256) (hc : c < 256) : gm (gm a b) c = gm a (gm b c) := by
  refine lin_ext (f := fun a => gm (gm a b) c) (g := fun a => gm a (gm b c)) (fun x y hx hy => ?_) (fun x y hx hy => gm_lin1 _ hx hy) (fun i hi => ?_) a ha
  · show gm (gm (x ^^^ y) b) c = _
    rw [gm_lin1 b hx hy, gm_lin1 c (gm_lt hx) (gm_lt hy)]
  · refine lin_ext (f := fun b => gm (gm (2 ^ i) b) c) (g := fun b => gm (2 ^ i) (gm b c)) (fun x y hx hy => ?_) (fun x y hx hy => ?_) (fun j hj => ?_) b hb
    · show gm (gm (2 ^ i) (x ^^^ y)) c = _
      rw [gm_lin2, gm_lin1 c (gm_lt (bit_lt hi)) (gm_lt (bit_lt hi))]
    · show gm (2 ^ i) (gm (x ^^^ y) c) = _
      rw [gm_lin1 c hx hy, gm_lin2]
    · refine lin_ext (f := fun c => gm (gm (2 ^ i) (2 ^ j)) c) (g := fun c => gm (2 ^ i) (gm (2 ^ j) c)) (fun x y _ _ => gm_lin2 _ x y) (fun x y _ _ => ?_) (fun k hk => gm_assoc_bits i hi j hj k hk) c hc
      show gm (2 ^ i) (gm (2 ^ j) (x ^^^ y)) = _
      rw [gm_lin2, gm_lin2]

theorem gm_one : ∀ a, a < 256 → gm a 1 = a := by decide +kernel
theorem gm_inv : ∀ a, a < 256 → a ≠ 0 → gm a (gi a) = 1 := by decide +kernel
theorem gi_zero : gi 0 = 0 := by decide +kernel
theorem gm_zero (a : Nat) : gm a 0 = 0 := by
  have := gm_lin2 a 0 0
  rwa [Nat.xor_self, Nat.xor_self] at this
theorem zero_gm (b : Nat) : gm 0 b = 0 := by
  have := gm_lin1 (a := 0) (a' := 0) b (by omega) (by omega)
  rwa [Nat.xor_self, Nat.xor_self] at this

theorem gm_eq_zero {a b : Nat} (ha : a < 256) (hb : b < 256) : gm a b = 0 ↔ a = 0 ∨ b = 0 := by
  constructor
  · intro h
    by_cases ha0 : a = 0
    · exact Or.inl ha0
    · right
      have h1 := gm_inv a ha ha0
      have h2 : gm (gi a) (gm a b) = 0 := by rw [h, gm_zero]
      rw [← gm_assoc (gi_lt a) ha hb, gm_comm (gi_lt a) ha, h1, gm_comm (by omega) hb, gm_one b hb] at h2
      exact h2
  · rintro (rfl | rfl)
    · exact zero_gm b
    · exact gm_zero a
end Go.Fld

/- Columns: mixing is additive and is taken back. -/
namespace Go.Fld
set_option linter.unusedSimpArgs false
set_option linter.unusedVariables false

def L4 (a b c d : Nat) : Prop := a < 256 ∧ b < 256 ∧ c < 256 ∧ d < 256

/-- one place of the mixed column -/
def m4 (f : List Nat) (r a b c d : Nat) : Nat := gm (f.getD ((4 - r) % 4) 0) a ^^^ gm (f.getD ((5 - r) % 4) 0) b ^^^ gm (f.getD ((6 - r) % 4) 0) c ^^^ gm (f.getD ((7 - r) % 4) 0) d

theorem mix1_eq (a b c d : Nat) (f : List Nat) (r : Nat) : mix1 [a, b, c, d] f r = m4 f r a b c d := by
  simp only [mix1, ml, m4]
  simp only [List.getD_cons_zero, List.getD_cons_succ, Nat.zero_add, Nat.reduceAdd, Nat.zero_xor]

theorem mixN_eq (a b c d : Nat) (f : List Nat) : mixN [a, b, c, d] f = [m4 f 0 a b c d, m4 f 1 a b c d, m4 f 2 a b c d, m4 f 3 a b c d] := by
  simp only [mixN, mix1_eq]

theorem xor8 (a b c d a' b' c' d' : Nat) : (a ^^^ a') ^^^ (b ^^^ b') ^^^ (c ^^^ c') ^^^ (d ^^^ d') = (a ^^^ b ^^^ c ^^^ d) ^^^ (a' ^^^ b' ^^^ c' ^^^ d') := by
  rw [xor4 a a' b b', xor4 (a ^^^ b) (a' ^^^ b') c c', xor4 (a ^^^ b ^^^ c) (a' ^^^ b' ^^^ c') d d']

theorem m4_add (f : List Nat) (r a b c d a' b' c' d' : Nat) : m4 f r (a ^^^ a') (b ^^^ b') (c ^^^ c') (d ^^^ d') = m4 f r a b c d ^^^ m4 f r a' b' c' d' := by
  simp only [m4, gm_lin2]
  exact xor8 _ _ _ _ _ _ _ _

/-- mixed by f, then by g -/
def m44 (f g : List Nat) (r a b c d : Nat) : Nat := m4 g r (m4 f 0 a b c d) (m4 f 1 a b c d) (m4 f 2 a b c d) (m4 f 3 a b c d)

theorem m44_add (f g : List Nat) (r a b c d a' b' c' d' : Nat) : m44 f g r (a ^^^ a') (b ^^^ b') (c ^^^ c') (d ^^^ d') = m44 f g r a b c d ^^^ m44 f g r a' b' c' d' := by
  simp only [m44, m4_add]

theorem m44_split (f g : List Nat) (r a b c d : Nat) : m44 f g r a b c d = ((m44 f g r a 0 0 0 ^^^ m44 f g r 0 b 0 0) ^^^ m44 f g r 0 0 c 0) ^^^ m44 f g r 0 0 0 d := by
  rw [← m44_add, ← m44_add, ← m44_add]
  simp

theorem back_bits : ∀ i, i < 8 → ∀ r, r < 4 →
    (m44 [2, 3, 1, 1] [14, 11, 13, 9] r (2 ^ i) 0 0 0 = if r = 0 then 2 ^ i else 0) ∧ (m44 [2, 3, 1, 1] [14, 11, 13, 9] r 0 (2 ^ i) 0 0 = if r = 1 then 2 ^ i else 0) ∧
    (m44 [2, 3, 1, 1] [14, 11, 13, 9] r 0 0 (2 ^ i) 0 = if r = 2 then 2 ^ i else 0) ∧ (m44 [2, 3, 1, 1] [14, 11, 13, 9] r 0 0 0 (2 ^ i) = if r = 3 then 2 ^ i else 0) := by decide +kernel
theorem back_bits' : ∀ i, i < 8 → ∀ r, r < 4 →
    (m44 [14, 11, 13, 9] [2, 3, 1, 1] r (2 ^ i) 0 0 0 = if r = 0 then 2 ^ i else 0) ∧ (m44 [14, 11, 13, 9] [2, 3, 1, 1] r 0 (2 ^ i) 0 0 = if r = 1 then 2 ^ i else 0) ∧
    (m44 [14, 11, 13, 9] [2, 3, 1, 1] r 0 0 (2 ^ i) 0 = if r = 2 then 2 ^ i else 0) ∧ (m44 [14, 11, 13, 9] [2, 3, 1, 1] r 0 0 0 (2 ^ i) = if r = 3 then 2 ^ i else 0) := by decide +kernel

theorem back {f g : List Nat} (h : ∀ i, i < 8 → ∀ r, r < 4 → (m44 f g r (2 ^ i) 0 0 0 = if r = 0 then 2 ^ i else 0) ∧ (m44 f g r 0 (2 ^ i) 0 0 = if r = 1 then 2 ^ i else 0) ∧ (m44 f g r 0 0 (2 ^ i) 0 = if r = 2 then 2 ^ i else 0) ∧ (m44 f g r 0 0 0 (2 ^ i) = if r = 3 then 2 ^ i else 0))
    {a b c d : Nat} (hl : L4 a b c d) : mixN (mixN [a, b, c, d] f) g = [a, b, c, d] := by
  obtain ⟨ha, hb, hc, hd⟩ := hl
  rw [mixN_eq, mixN_eq]
  have e : ∀ r, r < 4 → m44 f g r a b c d = (((if r = 0 then a else 0) ^^^ (if r = 1 then b else 0)) ^^^ (if r = 2 then c else 0)) ^^^ (if r = 3 then d else 0) := by
    intro r hr
    rw [m44_split]
    have lin : ∀ (p : Prop) [Decidable p] (x y : Nat), (if p then x ^^^ y else 0) = (if p then x else 0) ^^^ (if p then y else 0) := fun p _ x y => by by_cases hp : p <;> simp [hp]
    rw [lin_ext (f := fun x => m44 f g r x 0 0 0) (g := fun x => if r = 0 then x else 0) (fun x y _ _ => by have := m44_add f g r x 0 0 0 y 0 0 0; simpa using this) (fun x y _ _ => lin _ x y) (fun i hi => (h i hi r hr).1) a ha,
      lin_ext (f := fun x => m44 f g r 0 x 0 0) (g := fun x => if r = 1 then x else 0) (fun x y _ _ => by have := m44_add f g r 0 x 0 0 0 y 0 0; simpa using this) (fun x y _ _ => lin _ x y) (fun i hi => (h i hi r hr).2.1) b hb,
      lin_ext (f := fun x => m44 f g r 0 0 x 0) (g := fun x => if r = 2 then x else 0) (fun x y _ _ => by have := m44_add f g r 0 0 x 0 0 0 y 0; simpa using this) (fun x y _ _ => lin _ x y) (fun i hi => (h i hi r hr).2.2.1) c hc,
      lin_ext (f := fun x => m44 f g r 0 0 0 x) (g := fun x => if r = 3 then x else 0) (fun x y _ _ => by have := m44_add f g r 0 0 0 x 0 0 0 y; simpa using this) (fun x y _ _ => lin _ x y) (fun i hi => (h i hi r hr).2.2.2) d hd]
  have e0 := e 0 (by decide); have e1 := e 1 (by decide); have e2 := e 2 (by decide); have e3 := e 3 (by decide)
  simp only [m44] at e0 e1 e2 e3
  rw [e0, e1, e2, e3]
  simp

theorem gu_gs : ∀ a, a < 256 → gu (gs a) = a := by decide +kernel
theorem gs_gu : ∀ a, a < 256 → gs (gu a) = a := by decide +kernel
theorem gs_ne : ∀ a, a < 256 → gs a ≠ a ∧ gs a ≠ 255 ^^^ a := by decide +kernel
end Go.Fld

/- The document's inner functions, each as it is known. -/
namespace Go.Proofs.Ytkecbjohbihfmaa.G
open Go Go.Sx Go.Fld Go.Blk
set_option linter.unusedSimpArgs false
set_option linter.unusedVariables false

theorem box_at : ∀ i : Nat, i < 256 → sget boxC i = fsub (i : Int) := by decide +kernel
theorem box_len : slen_ boxC = 256 := by decide +kernel

theorem good_radded : Sx.Good Try.prog 36 addedS := by
  refine Sx.Good.pure (D := []) mixed (good0 _) Try.func36 (by kernel_rfl) rfl fun d args σ K h => ?_
  simp only [addedS] at h
  split at h <;> try exact h.elim
  rename_i b w i
  obtain ⟨⟨⟨hb, hw⟩, hi⟩, hK⟩ := h
  obtain ⟨n, rfl⟩ := Int.eq_ofNat_of_zero_le hi.lo
  have hn := hi.hi
  refine ⟨by simp [plain_int, plain_ints], _, plain_ints _ _ _, hK, (1 + 1 * 16) + 1, ?_⟩
  rw [radded_vc]
  have key := loop_n (fun f i s => radded.l0 (fun av' _ => av' = .agg [.ints .u8 16 (qx b (rk w (nat (n : Int))))]) (n : Int) w f i s) 16 (fun i => upto 16 i (fun j => bxor .u8 (lget b j) (lget w (16 * n + j))) (lget b)) 1 1
    (fun f i hi h => by
      rw [radded.l0_succ]
      refine ⟨fun _ => ?_, fun q => ?_⟩
      · have e1 : mul .i64 16 (n : Int) = ((16 * n : Nat) : Int) := mulN_i64 (a := 16) (by omega)
        have e2 : add .i64 ((16 * n : Nat) : Int) (i : Int) = ((16 * n + i : Nat) : Int) := addN_i64 (by omega)
        rw [e1, e2]
        simp only [InB_iff, Low_iff, nat_cast, nadd_def, Nat.zero_add]
        refine ⟨by omega, hi, by omega, by omega, by omega, hi, ?_⟩
        rw [add1_i64 (by omega), upto_hi (Nat.le_refl _) hi, upto_lset rfl]
        exact h
      · rw [ilt_false] at q; omega)
    (by
      rw [radded.l0_succ]
      refine ⟨fun q => ?_, fun _ => ?_⟩
      · rw [ilt_true] at q; omega
      · rw [upto_done, nat_cast]
        have : (tab 16 fun j => bxor .u8 (lget b j) (lget w (16 * n + j))) = qx b (rk w n) := by
          refine tab_ext fun j hj => ?_
          rw [rk, lsub_tabbed hw.len (by omega), tab_lget _ hj]
        rw [this]) 0 (Nat.zero_le _)
  rw [upto_zero, ← hb.eq] at key
  exact key

theorem good_rnext : Sx.Good Try.prog 40 nextS := by
  refine Sx.Good.pure (D := []) mixed (good0 _) Try.func40 (by kernel_rfl) rfl fun d args σ K h => ?_
  simp only [nextS] at h
  split at h <;> try exact h.elim
  rename_i b
  obtain ⟨hb, hK⟩ := h
  refine ⟨by simp [plain_ints], _, plain_ints _ _ _, hK, 17 + 1, ?_⟩
  rw [rnext_vc]
  have key : ∀ (i : Nat) (c : List Int), i ≤ 16 → c.length = 16 → upN i c = up b → rnext.l0 (fun av' _ => av' = .agg [.ints .u8 16 (up b)]) (i + 1) ((i : Int) - 1) c := by
    intro i
    induction i with
    | zero =>
      intro c _ _ e
      rw [rnext.l0_succ]
      refine ⟨fun q => ?_, fun _ => ?_⟩
      · rw [ige_true] at q; omega
      · rw [show c = up b from e]
    | succ i ih =>
      intro c hi hc e
      rw [rnext.l0_succ, show ((i + 1 : Nat) : Int) - 1 = (i : Int) by omega]
      refine ⟨fun _ => ?_, fun q => ?_⟩
      · have hl : lget (lset c i (add .u8 (lget c i) 1)) i = add .u8 (lget c i) 1 := by
          simp [lget, lset, List.getD, hc, show i < 16 by omega]
        simp only [InB_iff, Low_iff, nat_cast, nadd_def, Nat.zero_add, hl]
        refine ⟨by omega, by omega, by omega, by omega, by omega, by omega, fun q => ?_, fun q => ?_⟩
        · rw [ine_true] at q
          rw [upN, if_neg q] at e
          rw [e]
        · rw [ine_false] at q
          rw [upN, if_pos q] at e
          rw [sub_i64 (by omega) (by omega)]
          exact ih _ (by omega) (by simp [lset, hc]) e
      · rw [ige_false] at q; omega
  exact key 16 b (Nat.le_refl _) hb.len rfl

theorem gs_inj {a b : Nat} (ha : a < 256) (hb : b < 256) (h : gs a = gs b) : a = b := by
  rw [← gu_gs a ha, ← gu_gs b hb, h]

theorem good_rback : Sx.Good Try.prog 35 backS := by
  refine Sx.Good.pure (D := []) mixed (good0 _) Try.func35 (by kernel_rfl) rfl fun d args σ K hsp => ?_
  simp only [backS] at hsp
  split at hsp <;> try exact hsp.elim
  refine ⟨by simp, _, plain_ints _ _ _, hsp, (1 + 1 * 256) + 1, ?_⟩
  rw [rback_vc]
  have key := loop_n (fun f i s => rback.l0 (fun av' _ => av' = .agg [.ints .u8 256 (tab 256 fun i => funsub (i : Int))]) f i s) 256 (fun i => tab 256 fun j => if gu j < i then (gu j : Int) else 0) 1 1
    (fun f i hi h => by
      rw [rback.l0_succ]
      refine ⟨fun _ => ?_, fun q => ?_⟩
      · have e1 : sget boxC i = ((gs i : Nat) : Int) := by rw [box_at i hi]; rfl
        have e2 : slen_ boxC = 256 := box_len
        have hg := gs_lt i
        rw [nat_cast, e1]
        simp only [InB_iff, Low_iff, nat_cast, nadd_def, Nat.zero_add]
        refine ⟨⟨by omega, by omega⟩, ⟨by omega, by omega⟩, hg, ?_⟩
        rw [add1_i64 (by omega), tab_lset, conv_u8, show (i : Int) % 256 = (i : Int) by omega]
        have : (tab 256 fun j => if j = gs i then (i : Int) else if gu j < i then (gu j : Int) else 0) = tab 256 fun j => if gu j < i + 1 then (gu j : Int) else 0 := by
          refine tab_ext fun j hj => ?_
          by_cases q : j = gs i
          · rw [if_pos q, q, gu_gs i hi, if_pos (by omega)]
          · have : gu j ≠ i := fun e => q (by rw [← e, gs_gu j hj])
            rw [if_neg q]
            by_cases q2 : gu j < i
            · rw [if_pos q2, if_pos (by omega)]
            · rw [if_neg q2, if_neg (by omega)]
        rw [this]
        exact h
      · rw [ilt_false] at q; omega)
    (by
      rw [rback.l0_succ]
      refine ⟨fun q => ?_, fun _ => ?_⟩
      · rw [ilt_true] at q; omega
      · have : (tab 256 fun j => if gu j < 256 then (gu j : Int) else 0) = tab 256 fun i => funsub (i : Int) := by
          refine tab_ext fun j hj => ?_
          rw [if_pos (gu_lt j)]; rfl
        rw [this]) 0 (Nat.zero_le _)
  rw [lzeros_tab]
  have e : (tab 256 fun j => if gu j < 0 then (gu j : Int) else 0) = tab 256 fun _ => (0 : Int) := tab_ext fun j hj => by simp
  rw [e] at key
  exact key

/-! ### mixing -/
theorem gm2_byte {a : Nat} (ha : a < 256) : gm 2 a < 256 := gm_lt (by decide)
theorem gm3 : ∀ a : Nat, a < 256 → gm 3 a = gm 2 a ^^^ a := by decide +kernel
theorem gm1 : ∀ a : Nat, a < 256 → gm 1 a = a := by decide +kernel
theorem mix_eq {a b c d : Nat} (ha : a < 256) (hb : b < 256) (hc : c < 256) (hd : d < 256) :
    m4 [2, 3, 1, 1] 0 a b c d = a ^^^ (a ^^^ b ^^^ c ^^^ d) ^^^ gm 2 (a ^^^ b) ∧ m4 [2, 3, 1, 1] 1 a b c d = b ^^^ (a ^^^ b ^^^ c ^^^ d) ^^^ gm 2 (b ^^^ c) ∧
    m4 [2, 3, 1, 1] 2 a b c d = c ^^^ (a ^^^ b ^^^ c ^^^ d) ^^^ gm 2 (c ^^^ d) ∧ m4 [2, 3, 1, 1] 3 a b c d = d ^^^ (a ^^^ b ^^^ c ^^^ d) ^^^ gm 2 (d ^^^ a) := by
  simp only [m4, List.getD_cons_zero, List.getD_cons_succ, List.getD_nil, Nat.reduceMod, Nat.reduceSub, gm3 _ ha, gm3 _ hb, gm3 _ hc, gm3 _ hd, gm1 _ ha, gm1 _ hb, gm1 _ hc, gm1 _ hd, gm_lin2]
  refine ⟨?_, ?_, ?_, ?_⟩ <;> (apply Nat.eq_of_testBit_eq; intro i; simp only [Nat.testBit_xor]; generalize a.testBit i = p; generalize b.testBit i = q; generalize c.testBit i = r; generalize d.testBit i = s; generalize (gm 2 a).testBit i = p'; generalize (gm 2 b).testBit i = q'; generalize (gm 2 c).testBit i = r'; generalize (gm 2 d).testBit i = s'; revert p q r s p' q' r' s'; decide)

/-- one place of a mixed column, by sums and twice -/
theorem mixed_at {b : List Int} (hb : BL 16 b) {k r : Nat} (hk : k < 4) (hr : r < 4) :
    lget (fmix (lsub b (4 * k) 4) [2, 3, 1, 1]) r = bxor .u8 (bxor .u8 (lget b (4 * k + r)) (bxor .u8 (bxor .u8 (bxor .u8 (lget b (4 * k)) (lget b (4 * k + 1))) (lget b (4 * k + 2))) (lget b (4 * k + 3)))) (fmul 2 (bxor .u8 (lget b (4 * k + r)) (lget b (4 * k + (r + 1) % 4)))) := by
  obtain ⟨x0, h0, e0⟩ := (hb.get (4 * k)).nat
  obtain ⟨x1, h1, e1⟩ := (hb.get (4 * k + 1)).nat
  obtain ⟨x2, h2, e2⟩ := (hb.get (4 * k + 2)).nat
  obtain ⟨x3, h3, e3⟩ := (hb.get (4 * k + 3)).nat
  have el : lsub b (4 * k) 4 = [(x0 : Int), x1, x2, x3] := by
    rw [lsub_tabbed hb.len (by omega)]
    simp only [tab, List.range_succ, List.range_zero, List.nil_append, List.map_cons, List.map_nil, List.cons_append, Nat.add_zero, e0, e1, e2, e3]
  obtain ⟨m0, m1, m2, m3⟩ := mix_eq h0 h1 h2 h3
  have em : fmix (lsub b (4 * k) 4) [2, 3, 1, 1] = [((m4 [2, 3, 1, 1] 0 x0 x1 x2 x3 : Nat) : Int), ((m4 [2, 3, 1, 1] 1 x0 x1 x2 x3 : Nat) : Int), ((m4 [2, 3, 1, 1] 2 x0 x1 x2 x3 : Nat) : Int), ((m4 [2, 3, 1, 1] 3 x0 x1 x2 x3 : Nat) : Int)] := by
    rw [el]
    show intL (mixN [x0, x1, x2, x3] [2, 3, 1, 1]) = _
    rw [mixN_eq]; rfl
  have hx : ∀ {p q : Nat}, p < 256 → q < 256 → bxor .u8 (p : Int) (q : Int) = ((p ^^^ q : Nat) : Int) := fun hp hq => bxor_u8 hp hq
  have hm : ∀ {p : Nat}, p < 256 → fmul 2 (p : Int) = ((gm 2 p : Nat) : Int) := fun _ => rfl
  have all := xor_lt (xor_lt (xor_lt h0 h1) h2) h3
  rw [em]
  match r, hr with
  | 0, _ => simp only [Nat.add_zero, Nat.zero_add, Nat.reduceMod, e0, e1, e2, e3]; rw [hx h0 h1, hx (xor_lt h0 h1) h2, hx (xor_lt (xor_lt h0 h1) h2) h3, hx h0 all, hm (xor_lt h0 h1), hx (xor_lt h0 all) (gm2_byte (xor_lt h0 h1)), ← m0]; rfl
  | 1, _ => simp only [Nat.reduceAdd, Nat.reduceMod, e0, e1, e2, e3]; rw [hx h0 h1, hx (xor_lt h0 h1) h2, hx (xor_lt (xor_lt h0 h1) h2) h3, hx h1 all, hx h1 h2, hm (xor_lt h1 h2), hx (xor_lt h1 all) (gm2_byte (xor_lt h1 h2)), ← m1]; rfl
  | 2, _ => simp only [Nat.reduceAdd, Nat.reduceMod, e0, e1, e2, e3]; rw [hx h0 h1, hx (xor_lt h0 h1) h2, hx (xor_lt (xor_lt h0 h1) h2) h3, hx h2 all, hx h2 h3, hm (xor_lt h2 h3), hx (xor_lt h2 all) (gm2_byte (xor_lt h2 h3)), ← m2]; rfl
  | 3, _ => simp only [Nat.reduceAdd, Nat.reduceMod, Nat.add_zero, e0, e1, e2, e3]; rw [hx h0 h1, hx (xor_lt h0 h1) h2, hx (xor_lt (xor_lt h0 h1) h2) h3, hx h3 all, hx h3 h0, hm (xor_lt h3 h0), hx (xor_lt h3 all) (gm2_byte (xor_lt h3 h0)), ← m3]; rfl
end Go.Proofs.Ytkecbjohbihfmaa.G

/- The document's keys and mixing. -/
namespace Go.Proofs.Ytkecbjohbihfmaa.G
open Go Go.Sx Go.Fld Go.Blk
set_option linter.unusedSimpArgs false
set_option linter.unusedVariables false

theorem good_rmixed : Sx.Good Try.prog 37 mixedS := by
  refine Sx.Good.pure (D := []) mixed gamB1_good Try.func37 (by kernel_rfl) rfl fun d args σ K h => ?_
  simp only [mixedS] at h
  split at h <;> try exact h.elim
  rename_i b
  obtain ⟨hb, hK⟩ := h
  refine ⟨by simp [plain_ints], _, plain_ints _ _ _, hK, (1 + 6 * 4) + 1, ?_⟩
  rw [rmixed_vc]
  have hF : ∀ k r, k < 4 → r < 4 → lget (fmix (lsub b ((4 * k + r) / 4 * 4) 4) [2, 3, 1, 1]) ((4 * k + r) % 4) = lget (fmix (lsub b (4 * k) 4) [2, 3, 1, 1]) r := fun k r hk hr => by
    rw [show (4 * k + r) / 4 * 4 = 4 * k by omega, show (4 * k + r) % 4 = r by omega]
  have key := loop_nby 4 (fun f i s => rmixed.l0 (fun av' _ => av' = .agg [.ints .u8 16 (qc [2, 3, 1, 1] b)]) b f i s) 4 (fun k => upto 16 (4 * k) (fun j => lget (fmix (lsub b (j / 4 * 4) 4) [2, 3, 1, 1]) (j % 4)) fun _ => 0) 6 1
    (fun g k hk hg => by
      rw [rmixed.l0_succ]
      refine ⟨fun _ => ?_, fun q => ?_⟩
      · have a1 : add .i64 ((4 * k : Nat) : Int) 1 = ((4 * k + 1 : Nat) : Int) := addN_i64 (b := 1) (by omega)
        have a2 : add .i64 ((4 * k : Nat) : Int) 2 = ((4 * k + 2 : Nat) : Int) := addN_i64 (b := 2) (by omega)
        have a3 : add .i64 ((4 * k : Nat) : Int) 3 = ((4 * k + 3 : Nat) : Int) := addN_i64 (b := 3) (by omega)
        have a4 : add .i64 ((4 * k : Nat) : Int) 4 = ((4 * (k + 1) : Nat) : Int) := addN_i64 (b := 4) (by omega)
        rw [a1, a2, a3]
        simp only [InB_iff, Low_iff, nat_cast, nadd_def, Nat.zero_add]
        refine ⟨⟨by omega, by omega⟩, by omega, ⟨by omega, by omega⟩, by omega, ⟨by omega, by omega⟩, by omega, ⟨by omega, by omega⟩, by omega, ?_⟩
        have key := fun z : Int => loop_n (fun f i s => rmixed.l1 (fun av' _ => av' = .agg [.ints .u8 16 (qc [2, 3, 1, 1] b)]) ((4 * k : Nat) : Int) (bxor .u8 (bxor .u8 (bxor .u8 (lget b (4 * k)) (lget b (4 * k + 1))) (lget b (4 * k + 2))) (lget b (4 * k + 3))) b z f i s) 4 (fun r => upto 16 (4 * k + r) (fun j => lget (fmix (lsub b (j / 4 * 4) 4) [2, 3, 1, 1]) (j % 4)) fun _ => 0) 1 (g + 1)
          (fun f r hr hf => by
            rw [rmixed.l1_succ]
            refine ⟨fun _ => ?_, fun q => ?_⟩
            · have b1 : add .i64 (r : Int) 1 = ((r + 1 : Nat) : Int) := addN_i64 (b := 1) (by omega)
              have b2 : rem ((r + 1 : Nat) : Int) 4 = (((r + 1) % 4 : Nat) : Int) := remN (b := 4)
              have b3 : add .i64 ((4 * k : Nat) : Int) (((r + 1) % 4 : Nat) : Int) = ((4 * k + (r + 1) % 4 : Nat) : Int) := addN_i64 (by omega)
              have b4 : add .i64 ((4 * k : Nat) : Int) (r : Int) = ((4 * k + r : Nat) : Int) := addN_i64 (by omega)
              rw [b1, b2, b3, b4]
              simp only [InB_iff, Low_iff, NeZ_iff, nat_cast, nadd_def, Nat.zero_add]
              refine ⟨⟨by omega, by omega⟩, by omega, ⟨by omega, by omega⟩, by omega, by decide, ⟨by omega, by omega⟩, by omega, byte_xor (hb.get _) (hb.get _), ⟨by omega, by omega⟩, by omega, ?_⟩
              rw [upto_lset (by rw [hF k r hk hr, mixed_at hb hk hr])]
              exact hf
            · rw [ilt_false] at q; omega)
          (by
            rw [rmixed.l1_succ]
            refine ⟨fun q => ?_, fun _ => ?_⟩
            · rw [ilt_true] at q; omega
            · rw [a4]; exact hg) 0 (Nat.zero_le _)
        exact key _
      · rw [ilt_false] at q; omega)
    (by
      rw [rmixed.l0_succ]
      refine ⟨fun q => ?_, fun _ => ?_⟩
      · rw [ilt_true] at q; omega
      · rw [show upto 16 (4 * 4) (fun j => lget (fmix (lsub b (j / 4 * 4) 4) [2, 3, 1, 1]) (j % 4)) (fun _ => (0 : Int)) = qc [2, 3, 1, 1] b from upto_done]) 0 (Nat.zero_le _)
  rw [lzeros_tab, ← upto_zero (F := fun j => lget (fmix (lsub b (j / 4 * 4) 4) [2, 3, 1, 1]) (j % 4))]
  exact key

theorem keys_round {R : AV → Mem → Prop} {b : List Int} (hb : BL 16 b) (g i : Nat) (h4 : 4 ≤ i) (hi : i < 44) (h : rKeys.l1 R g (rcon ((i + 1 - 1) / 4)) ((4 * (i + 1) : Nat) : Int) (upto 176 (4 * (i + 1)) (kp b) fun _ => 0)) :
    rKeys.l1 R (g + 1) (rcon ((i - 1) / 4)) ((4 * i : Nat) : Int) (upto 176 (4 * i) (kp b) fun _ => 0) := by
  have s4 : sub .i64 ((4 * i : Nat) : Int) 4 = ((4 * (i - 1) + 0 : Nat) : Int) := by rw [sub_i64 (by omega) (by omega)]; omega
  have s3 : sub .i64 ((4 * i : Nat) : Int) 3 = ((4 * (i - 1) + 1 : Nat) : Int) := by rw [sub_i64 (by omega) (by omega)]; omega
  have s2 : sub .i64 ((4 * i : Nat) : Int) 2 = ((4 * (i - 1) + 2 : Nat) : Int) := by rw [sub_i64 (by omega) (by omega)]; omega
  have s1 : sub .i64 ((4 * i : Nat) : Int) 1 = ((4 * (i - 1) + 3 : Nat) : Int) := by rw [sub_i64 (by omega) (by omega)]; omega
  have s16 : sub .i64 ((4 * i : Nat) : Int) 16 = ((4 * (i - 4) + 0 : Nat) : Int) := by rw [sub_i64 (by omega) (by omega)]; omega
  have s15 : sub .i64 ((4 * i : Nat) : Int) 15 = ((4 * (i - 4) + 1 : Nat) : Int) := by rw [sub_i64 (by omega) (by omega)]; omega
  have s14 : sub .i64 ((4 * i : Nat) : Int) 14 = ((4 * (i - 4) + 2 : Nat) : Int) := by rw [sub_i64 (by omega) (by omega)]; omega
  have s13 : sub .i64 ((4 * i : Nat) : Int) 13 = ((4 * (i - 4) + 3 : Nat) : Int) := by rw [sub_i64 (by omega) (by omega)]; omega
  have a1 : add .i64 ((4 * i : Nat) : Int) 1 = ((4 * i + 1 : Nat) : Int) := by rw [add_i64 (by omega) (by omega)]; omega
  have a2 : add .i64 ((4 * i : Nat) : Int) 2 = ((4 * i + 2 : Nat) : Int) := by rw [add_i64 (by omega) (by omega)]; omega
  have a3 : add .i64 ((4 * i : Nat) : Int) 3 = ((4 * i + 3 : Nat) : Int) := by rw [add_i64 (by omega) (by omega)]; omega
  have a4 : add .i64 ((4 * i : Nat) : Int) 4 = ((4 * (i + 1) : Nat) : Int) := by rw [add_i64 (by omega) (by omega)]; omega
  have er : rem ((4 * i : Nat) : Int) 16 = ((4 * i % 16 : Nat) : Int) := remN (b := 16)
  have hw : ∀ m j, m < i → j < 4 → lget (upto 176 (4 * i) (kp b) fun _ => 0) (4 * m + j) = kw b m j := fun m j hm hj => word_get (by omega) (by omega) hj
  have hx : ∀ (j : Nat), j < 4 → ∃ n : Nat, n < 256 ∧ kw b (i - 1) j = (n : Int) := fun j hj => (kw_byte hb (i - 1) j hj).nat
  have hbox : ∀ j, j < 4 → InB (kw b (i - 1) j) 256 ∧ sget boxC (nat (kw b (i - 1) j)) = fsub (kw b (i - 1) j) := fun j hj => by
    obtain ⟨n, hn, e⟩ := hx j hj
    rw [e, nat_cast]; exact ⟨⟨by omega, by omega⟩, box_at n hn⟩
  have e1 : lset (upto 176 (4 * i) (kp b) fun _ => 0) (4 * i) (kw b i 0) = upto 176 (4 * i + 1) (kp b) fun _ => 0 := lset_word (i := i) (j := 0) (by decide) rfl
  have e2 : lset (upto 176 (4 * i + 1) (kp b) fun _ => 0) (4 * i + 1) (kw b i 1) = upto 176 (4 * i + 2) (kp b) fun _ => 0 := lset_word (i := i) (j := 1) (by decide) rfl
  have e3 : lset (upto 176 (4 * i + 2) (kp b) fun _ => 0) (4 * i + 2) (kw b i 2) = upto 176 (4 * i + 3) (kp b) fun _ => 0 := lset_word (i := i) (j := 2) (by decide) rfl
  have e4 : lset (upto 176 (4 * i + 3) (kp b) fun _ => 0) (4 * i + 3) (kw b i 3) = upto 176 (4 * (i + 1)) (kp b) fun _ => 0 := lset_word (i := i) (j := 3) (by decide) rfl
  have g0 : lget (upto 176 (4 * i) (kp b) fun _ => 0) (4 * (i - 4) + 0) = kw b (i - 4) 0 := hw _ _ (by omega) (by decide)
  have g1 : lget (upto 176 (4 * i + 1) (kp b) fun _ => 0) (4 * (i - 4) + 1) = kw b (i - 4) 1 := word_get (by omega) (by omega) (by decide)
  have g2 : lget (upto 176 (4 * i + 2) (kp b) fun _ => 0) (4 * (i - 4) + 2) = kw b (i - 4) 2 := word_get (by omega) (by omega) (by decide)
  have g3 : lget (upto 176 (4 * i + 3) (kp b) fun _ => 0) (4 * (i - 4) + 3) = kw b (i - 4) 3 := word_get (by omega) (by omega) (by decide)
  have w0 := hw (i - 1) 0 (by omega) (by decide)
  have w1 := hw (i - 1) 1 (by omega) (by decide)
  have w2 := hw (i - 1) 2 (by omega) (by decide)
  have w3 := hw (i - 1) 3 (by omega) (by decide)
  rw [rKeys.l1_succ]
  refine ⟨fun _ => ?_, fun q => ?_⟩
  · simp only [s4, s3, s2, s1, s16, s15, s14, s13, a1, a2, a3, a4, er, nat_cast, nadd_def, Nat.zero_add, Low_iff, NeZ_iff]
    have hI : ∀ m j, m ≤ i → j < 4 → InB ((4 * m + j : Nat) : Int) 176 ∧ 4 * m + j < 176 := fun m j hm hj => ⟨⟨by omega, by omega⟩, by omega⟩
    refine ⟨(hI (i - 1) 0 (by omega) (by decide)).1, (hI (i - 1) 0 (by omega) (by decide)).2, (hI (i - 1) 1 (by omega) (by decide)).1, (hI (i - 1) 1 (by omega) (by decide)).2, (hI (i - 1) 2 (by omega) (by decide)).1, (hI (i - 1) 2 (by omega) (by decide)).2, (hI (i - 1) 3 (by omega) (by decide)).1, (hI (i - 1) 3 (by omega) (by decide)).2, by decide, fun q => ?_, fun q => ?_⟩
    · rw [ieq_true] at q
      have q4 : i % 4 = 0 := by omega
      have kt0 : ∀ j, kt i (kw b (i - 1)) j = if j = 0 then bxor .u8 (fsub (kw b (i - 1) 1)) (rcon ((i - 1) / 4)) else fsub (kw b (i - 1) ((j + 1) % 4)) := fun j => by
        unfold kt; rw [if_pos q4, show i / 4 - 1 = (i - 1) / 4 by omega]
      have k0 : bxor .u8 (kw b (i - 4) 0) (bxor .u8 (fsub (kw b (i - 1) 1)) (rcon ((i - 1) / 4))) = kw b i 0 := by rw [kw_hi b h4 (by decide : 0 < 4), kt0]; rfl
      have k1 : bxor .u8 (kw b (i - 4) 1) (fsub (kw b (i - 1) 2)) = kw b i 1 := by rw [kw_hi b h4 (by decide : 1 < 4), kt0]; rfl
      have k2 : bxor .u8 (kw b (i - 4) 2) (fsub (kw b (i - 1) 3)) = kw b i 2 := by rw [kw_hi b h4 (by decide : 2 < 4), kt0]; rfl
      have k3 : bxor .u8 (kw b (i - 4) 3) (fsub (kw b (i - 1) 0)) = kw b i 3 := by rw [kw_hi b h4 (by decide : 3 < 4), kt0]; rfl
      simp only [w0, w1, w2, w3, (hbox 0 (by decide)).2, (hbox 1 (by decide)).2, (hbox 2 (by decide)).2, (hbox 3 (by decide)).2, g0, k0, e1, g1, k1, e2, g2, k2, e3, g3, k3, e4]
      have hr2 : fmul 2 (rcon ((i - 1) / 4)) = rcon ((i + 1 - 1) / 4) := by
        rw [show (i + 1 - 1) / 4 = (i - 1) / 4 + 1 by omega]; rfl
      rw [hr2]
      exact ⟨(hbox 1 (by decide)).1, (hbox 2 (by decide)).1, (hbox 3 (by decide)).1, (hbox 0 (by decide)).1, rcon_byte _, (hI (i - 4) 0 (by omega) (by decide)).1, (hI (i - 4) 0 (by omega) (by decide)).2, (hI i 0 (by omega) (by decide)).1, (hI i 0 (by omega) (by decide)).2, (hI (i - 4) 1 (by omega) (by decide)).1, (hI (i - 4) 1 (by omega) (by decide)).2, (hI i 1 (by omega) (by decide)).1, (hI i 1 (by omega) (by decide)).2, (hI (i - 4) 2 (by omega) (by decide)).1, (hI (i - 4) 2 (by omega) (by decide)).2, (hI i 2 (by omega) (by decide)).1, (hI i 2 (by omega) (by decide)).2, (hI (i - 4) 3 (by omega) (by decide)).1, (hI (i - 4) 3 (by omega) (by decide)).2, (hI i 3 (by omega) (by decide)).1, (hI i 3 (by omega) (by decide)).2, h⟩
    · rw [ieq_false] at q
      have q4 : ¬ i % 4 = 0 := by omega
      have kt0 : ∀ j, kt i (kw b (i - 1)) j = kw b (i - 1) j := fun j => by unfold kt; rw [if_neg q4]
      have k0 : bxor .u8 (kw b (i - 4) 0) (kw b (i - 1) 0) = kw b i 0 := by rw [kw_hi b h4 (by decide : 0 < 4), kt0]
      have k1 : bxor .u8 (kw b (i - 4) 1) (kw b (i - 1) 1) = kw b i 1 := by rw [kw_hi b h4 (by decide : 1 < 4), kt0]
      have k2 : bxor .u8 (kw b (i - 4) 2) (kw b (i - 1) 2) = kw b i 2 := by rw [kw_hi b h4 (by decide : 2 < 4), kt0]
      have k3 : bxor .u8 (kw b (i - 4) 3) (kw b (i - 1) 3) = kw b i 3 := by rw [kw_hi b h4 (by decide : 3 < 4), kt0]
      simp only [w0, w1, w2, w3, g0, k0, e1, g1, k1, e2, g2, k2, e3, g3, k3, e4]
      rw [show (i - 1) / 4 = (i + 1 - 1) / 4 by omega]
      exact ⟨(hI (i - 4) 0 (by omega) (by decide)).1, (hI (i - 4) 0 (by omega) (by decide)).2, (hI i 0 (by omega) (by decide)).1, (hI i 0 (by omega) (by decide)).2, (hI (i - 4) 1 (by omega) (by decide)).1, (hI (i - 4) 1 (by omega) (by decide)).2, (hI i 1 (by omega) (by decide)).1, (hI i 1 (by omega) (by decide)).2, (hI (i - 4) 2 (by omega) (by decide)).1, (hI (i - 4) 2 (by omega) (by decide)).2, (hI i 2 (by omega) (by decide)).1, (hI i 2 (by omega) (by decide)).2, (hI (i - 4) 3 (by omega) (by decide)).1, (hI (i - 4) 3 (by omega) (by decide)).2, (hI i 3 (by omega) (by decide)).1, (hI i 3 (by omega) (by decide)).2, h⟩
  · rw [ilt_false] at q; omega

theorem good_rkeys : Sx.Good Try.prog 28 keysS := by
  refine Sx.Good.pure (D := []) mixed gamB1_good Try.func28 (by kernel_rfl) rfl fun d args σ K h => ?_
  simp only [keysS] at h
  split at h <;> try exact h.elim
  rename_i b
  obtain ⟨hb, hK⟩ := h
  refine ⟨by simp [plain_ints], _, plain_ints _ _ _, hK, (1 + 1 * (44 - 4)) + 1 + 1 * 16 + 1, ?_⟩
  rw [rKeys_vc]
  have key := loop_n (fun f i s => rKeys.l0 (fun av' _ => av' = .agg [.ints .u8 176 (ks b)]) b f i s) 16 (fun i => upto 176 i (kp b) fun _ => 0) 1 ((1 + 1 * (44 - 4)) + 1)
    (fun g i hi hg => by
      rw [rKeys.l0_succ]
      refine ⟨fun _ => ?_, fun q => ?_⟩
      · simp only [InB_iff, Low_iff, nat_cast, nadd_def, Nat.zero_add]
        refine ⟨by omega, hi, by omega, by omega, ?_⟩
        have e : kp b i = lget b i := by unfold kp; rw [kw_lo _ _ (by omega), show 4 * (i / 4) + i % 4 = i by omega]
        rw [add1_i64 (by omega), upto_lset e.symm]
        exact hg
      · rw [ilt_false] at q; omega)
    (by
      rw [rKeys.l0_succ]
      refine ⟨fun q => ?_, fun _ => ?_⟩
      · rw [ilt_true] at q; omega
      · refine loop_from (fun f i s => rKeys.l1 (fun av' _ => av' = .agg [.ints .u8 176 (ks b)]) f s.1 ((4 * i.toNat : Nat) : Int) s.2) 4 44 (fun i => (rcon ((i - 1) / 4), upto 176 (4 * i) (kp b) fun _ => 0)) 1 1 (fun g i h4 hi hg => keys_round hb g i h4 hi hg) ?_ 4 (by decide) (by decide)
        show rKeys.l1 _ (0 + 1) _ (((4 * 44 : Nat) : Int)) _
        rw [rKeys.l1_succ]
        refine ⟨fun q => ?_, fun _ => ?_⟩
        · rw [ilt_true] at q; omega
        · show AV.agg [.ints .u8 176 (upto 176 176 (kp b) fun _ => 0)] = _
          rw [upto_done]; rfl) 0 (Nat.zero_le _)
  rw [lzeros_tab, ← upto_zero (F := kp b)]
  exact key

theorem gamB2_good : GoodG Try.prog gamB2 :=
  (((((gamB1_good.ext good_with ⟨_, Try.func29, by decide, by kernel_rfl⟩).ext good_turned' ⟨_, Try.func30, by decide, by kernel_rfl⟩).ext good_each ⟨_, Try.func31, by decide, by kernel_rfl⟩).ext good_columns ⟨_, Try.func33, by decide, by kernel_rfl⟩).ext good_new ⟨_, Try.func10, by decide, by kernel_rfl⟩).ext good_next ⟨_, Try.func39, by decide, by kernel_rfl⟩
theorem gamB3_good : GoodG Try.prog gamB3 :=
  ((((gamB2_good.ext good_rkeys ⟨_, Try.func28, by decide, by kernel_rfl⟩).ext good_radded ⟨_, Try.func36, by decide, by kernel_rfl⟩).ext good_rmixed ⟨_, Try.func37, by decide, by kernel_rfl⟩).ext good_rback ⟨_, Try.func35, by decide, by kernel_rfl⟩).ext good_rnext ⟨_, Try.func40, by decide, by kernel_rfl⟩
end Go.Proofs.Ytkecbjohbihfmaa.G

/- Words for lists of bytes in memory. -/
namespace Go.Sx
structure Short (l : List Int) : Prop where
  le : l.length ≤ 140737488355328
end Go.Sx

/- What is known of the block cipher's outer functions. -/
namespace Go.Blk
/-- the round keys' number i, noughts outside -/
def rkI (w : List Int) (i : Int) : List Int := if i < 0 ∨ 10 < i then Sx.lzeros 16 else rk w i.toNat
/-- the key stream's first n bytes, none outside 0 to 65536 -/
def strmI (w s : List Int) (n : Int) : List Int := if n < 0 ∨ 65536 < n then [] else mask w s (Sx.lzeros n.toNat)
end Go.Blk
namespace Go.Sx
open Go.Fld Go.Blk

/-- the substitution, by the field or by a table -/
def fnS (σ : Mem) (x : AV) (K : Prop) : Prop :=
  match conFn x with
  | some g => match Nat.beq g 25 with
    | true => K
    | false => False
  | none => match isTold x with
    | some n => match Mem.find σ n with
      | some b => match b.segs with
        | [.ints .u8 256 t] => Tbl t ∧ K
        | _ => False
      | none => False
    | none => False
def encryptedS : Spec := ⟨0, false, fun _ args σ K => match args with
  | [.agg [.ints .u8 176 w], .agg [.ints .u8 16 b], x] => fnS σ x ((BL 176 w ∧ BL 16 b) ∧ K (.agg [.ints .u8 16 (enc w b)]) σ)
  | _ => False⟩
def encS : Spec := ⟨0, false, fun _ args σ K => match args with
  | [.agg [.ints .u8 176 w], .agg [.ints .u8 16 b]] => (BL 176 w ∧ BL 16 b) ∧ K (.agg [.ints .u8 16 (enc w b)]) σ
  | _ => False⟩
def decS : Spec := ⟨0, false, fun _ args σ K => match args with
  | [.agg [.ints .u8 176 w], .agg [.ints .u8 16 b]] => (BL 176 w ∧ BL 16 b) ∧ K (.agg [.ints .u8 16 (dec w b)]) σ
  | _ => False⟩
def roundS : Spec := ⟨0, false, fun _ args σ K => match args with
  | [.agg [.ints .u8 176 w], .one (.int .i64 i)] => BL 176 w ∧ K (.agg [.ints .u8 16 (rkI w i)]) σ
  | _ => False⟩
def kencS : Spec := ⟨0, false, fun _ args σ K => match args with
  | [.agg [.ints .u8 16 k], .agg [.ints .u8 16 b]] => (BL 16 k ∧ BL 16 b) ∧ K (.agg [.ints .u8 16 (enc (ks k) b)]) σ
  | _ => False⟩
def kdecS : Spec := ⟨0, false, fun _ args σ K => match args with
  | [.agg [.ints .u8 16 k], .agg [.ints .u8 16 b]] => (BL 16 k ∧ BL 16 b) ∧ K (.agg [.ints .u8 16 (dec (ks k) b)]) σ
  | _ => False⟩
def kroundS : Spec := ⟨0, false, fun _ args σ K => match args with
  | [.agg [.ints .u8 16 k], .one (.int .i64 i)] => BL 16 k ∧ K (.agg [.ints .u8 16 (rkI (ks k) i)]) σ
  | _ => False⟩
def maskS : Spec := ⟨1, false, fun d args σ K => match args with
  | [.agg [.ints .u8 16 k], .agg [.ints .u8 16 s], x] => rdb σ x fun p => ((BL 16 k ∧ BL 16 s) ∧ (Short p ∧ Bs p)) ∧ K (.one (.vec d)) (Mem.ins d (.vec [.ints .u8 (mask (ks k) s p)]) σ)
  | _ => False⟩
def streamS : Spec := ⟨1, false, fun d args σ K => match args with
  | [.agg [.ints .u8 16 k], .agg [.ints .u8 16 s], .one (.int .i64 n)] => (BL 16 k ∧ BL 16 s) ∧ K (.one (.vec d)) (Mem.ins d (.vec [.ints .u8 (strmI (ks k) s n)]) σ)
  | _ => False⟩

def gamB4 : Gam := ext (ext gamB3 27 encryptedS) 15 encS
def gamB5 : Gam := ext (ext (ext (ext (ext (ext gamB4 11 encS) 13 decS) 16 roundS) 12 kencS) 14 kdecS) 17 kroundS
def gamB6 : Gam := ext (ext gamB5 18 maskS) 19 maskS
def gamB7 : Gam := ext (ext gamB6 20 streamS) 21 streamS
end Go.Sx

/- The verification conditions of functions, printed by a program of this session out of their codes. -/
namespace Go.Proofs.Ytkecbjohbihfmaa.G
open Go Go.Sx Go.Fld Go.Blk
set_option linter.unusedVariables false
set_option maxRecDepth 100000

def encS.l0 (R : AV → Mem → Prop) (w : List Int) (fuel : Nat) (x0 : Int) (x1 : List Int) : Prop := run Try.prog gamB2 [] (resh Try.prog [] Try.f27.results.toList R) fuel [.code (cAt (bodyOf Try.f27) [1, 1, 0, 1, 0, 0]), .inLoop (cAt (bodyOf Try.f27) [1, 1, 0, 1, 0, 0]), .inBlock 0, .code (cAt (bodyOf Try.f27) [1, 1, 1])] [AV.undef, AV.undef, (AV.one (AC.con (Value.func (Fn.func 25) (List.toArray []) (List.toArray [])))), (AV.one (AC.ptr 3 0 0)), AV.undef, AV.undef, (AV.one (AC.ptr 6 0 0)), (AV.one (AC.ptr 7 0 0)), (AV.one (AC.int IntKind.i64 x0)), AV.undef, AV.undef, AV.undef, AV.undef, AV.undef, AV.undef, AV.undef, AV.undef, AV.undef, AV.undef, AV.undef, AV.undef, AV.undef, AV.undef, AV.undef, AV.undef, AV.undef, AV.undef, AV.undef, AV.undef, AV.undef, AV.undef, AV.undef, (AV.tup [])] [(3, Blk.own 28 [(Seg.ints IntKind.u8 176 w)]), (6, Blk.own 22 [(Seg.ints IntKind.u8 16 (lzeros 16))]), (7, Blk.own 25 [(Seg.ints IntKind.u8 16 x1)])]

theorem encS.l0_succ (R : AV → Mem → Prop) (w : List Int) (fuel : Nat) (x0 : Int) (x1 : List Int) : encS.l0 R w (fuel + 1) x0 x1 = (((((ile x0 10) = true) → ((Go.Blk.BL 16 x1) ∧ (((Go.Blk.BL 16 (Go.Blk.qe fsub x1)) ∧ (InB 1 4)) ∧ ((((ilt x0 10) = true) → ((Go.Blk.BL 16 (Go.Blk.qt 1 (Go.Blk.qe fsub x1))) ∧ ((InB x0 11) ∧ ((Fits (nadd (nadd 0 (nmul (nat x0) 16)) 16) 176) ∧ (((Go.Blk.BL 16 (Go.Blk.qc [2, 3, 1, 1] (Go.Blk.qt 1 (Go.Blk.qe fsub x1)))) ∧ (Go.Blk.BL 16 (lsub w (nadd 0 (nmul (nat x0) 16)) 16))) ∧ (encS.l0 R w fuel (add IntKind.i64 x0 1) (Go.Blk.qx (Go.Blk.qc [2, 3, 1, 1] (Go.Blk.qt 1 (Go.Blk.qe fsub x1))) (lsub w (nadd 0 (nmul (nat x0) 16)) 16)))))))) ∧ (((ilt x0 10) = false) → ((InB x0 11) ∧ ((Fits (nadd (nadd 0 (nmul (nat x0) 16)) 16) 176) ∧ (((Go.Blk.BL 16 (Go.Blk.qt 1 (Go.Blk.qe fsub x1))) ∧ (Go.Blk.BL 16 (lsub w (nadd 0 (nmul (nat x0) 16)) 16))) ∧ (encS.l0 R w fuel (add IntKind.i64 x0 1) (Go.Blk.qx (Go.Blk.qt 1 (Go.Blk.qe fsub x1)) (lsub w (nadd 0 (nmul (nat x0) 16)) 16))))))))))) ∧ (((ile x0 10) = false) → (R (AV.agg [(Seg.ints IntKind.u8 16 x1)]) [(3, Blk.own 28 [(Seg.ints IntKind.u8 176 w)]), (6, Blk.own 22 [(Seg.ints IntKind.u8 16 x1)]), (7, Blk.own 25 [(Seg.ints IntKind.u8 16 x1)])])))) := by kernel_rfl
theorem encS.l0_zero (R : AV → Mem → Prop) (w : List Int) (x0 : Int) (x1 : List Int) : encS.l0 R w 0 x0 x1 = False := by kernel_rfl

theorem encS_vc (R : AV → Mem → Prop) (fuel : Nat) (w : List Int) (b : List Int) : callsx Try.prog gamB2 [] Try.f27 (fuel + 1) [.agg [.ints .u8 176 w], .agg [.ints .u8 16 b], .one (.con (.func (.func 25) #[] #[]))] [] R = (((InB 0 11) ∧ ((Fits 16 176) ∧ (((Go.Blk.BL 16 b) ∧ (Go.Blk.BL 16 (lsub w 0 16))) ∧ (encS.l0 R w fuel 1 (Go.Blk.qx b (lsub w 0 16))))))) := by kernel_rfl

def encT.l0 (R : AV → Mem → Prop) (w : List Int) (t : List Int) (fuel : Nat) (x0 : Int) (x1 : List Int) : Prop := run Try.prog gamB2 [] (resh Try.prog [] Try.f27.results.toList R) fuel [.code (cAt (bodyOf Try.f27) [1, 1, 0, 1, 0, 0]), .inLoop (cAt (bodyOf Try.f27) [1, 1, 0, 1, 0, 0]), .inBlock 0, .code (cAt (bodyOf Try.f27) [1, 1, 1])] [AV.undef, AV.undef, (AV.one (AC.clo 38 200002 0 0)), (AV.one (AC.ptr 3 0 0)), AV.undef, AV.undef, (AV.one (AC.ptr 6 0 0)), (AV.one (AC.ptr 7 0 0)), (AV.one (AC.int IntKind.i64 x0)), AV.undef, AV.undef, AV.undef, AV.undef, AV.undef, AV.undef, AV.undef, AV.undef, AV.undef, AV.undef, AV.undef, AV.undef, AV.undef, AV.undef, AV.undef, AV.undef, AV.undef, AV.undef, AV.undef, AV.undef, AV.undef, AV.undef, AV.undef, (AV.tup [])] [(3, Blk.own 28 [(Seg.ints IntKind.u8 176 w)]), (6, Blk.own 22 [(Seg.ints IntKind.u8 16 (lzeros 16))]), (7, Blk.own 25 [(Seg.ints IntKind.u8 16 x1)]), (200002, Blk.view [(Seg.ints IntKind.u8 256 t)])]

theorem encT.l0_succ (R : AV → Mem → Prop) (w : List Int) (t : List Int) (fuel : Nat) (x0 : Int) (x1 : List Int) : encT.l0 R w t (fuel + 1) x0 x1 = (((((ile x0 10) = true) → ((Tbl t) ∧ ((Go.Blk.BL 16 x1) ∧ (((Go.Blk.BL 16 (Go.Blk.qe fsub x1)) ∧ (InB 1 4)) ∧ ((((ilt x0 10) = true) → ((Go.Blk.BL 16 (Go.Blk.qt 1 (Go.Blk.qe fsub x1))) ∧ ((InB x0 11) ∧ ((Fits (nadd (nadd 0 (nmul (nat x0) 16)) 16) 176) ∧ (((Go.Blk.BL 16 (Go.Blk.qc [2, 3, 1, 1] (Go.Blk.qt 1 (Go.Blk.qe fsub x1)))) ∧ (Go.Blk.BL 16 (lsub w (nadd 0 (nmul (nat x0) 16)) 16))) ∧ (encT.l0 R w t fuel (add IntKind.i64 x0 1) (Go.Blk.qx (Go.Blk.qc [2, 3, 1, 1] (Go.Blk.qt 1 (Go.Blk.qe fsub x1))) (lsub w (nadd 0 (nmul (nat x0) 16)) 16)))))))) ∧ (((ilt x0 10) = false) → ((InB x0 11) ∧ ((Fits (nadd (nadd 0 (nmul (nat x0) 16)) 16) 176) ∧ (((Go.Blk.BL 16 (Go.Blk.qt 1 (Go.Blk.qe fsub x1))) ∧ (Go.Blk.BL 16 (lsub w (nadd 0 (nmul (nat x0) 16)) 16))) ∧ (encT.l0 R w t fuel (add IntKind.i64 x0 1) (Go.Blk.qx (Go.Blk.qt 1 (Go.Blk.qe fsub x1)) (lsub w (nadd 0 (nmul (nat x0) 16)) 16)))))))))))) ∧ (((ile x0 10) = false) → (R (AV.agg [(Seg.ints IntKind.u8 16 x1)]) [(3, Blk.own 28 [(Seg.ints IntKind.u8 176 w)]), (6, Blk.own 22 [(Seg.ints IntKind.u8 16 x1)]), (7, Blk.own 25 [(Seg.ints IntKind.u8 16 x1)]), (200002, Blk.view [(Seg.ints IntKind.u8 256 t)])])))) := by kernel_rfl
theorem encT.l0_zero (R : AV → Mem → Prop) (w : List Int) (t : List Int) (x0 : Int) (x1 : List Int) : encT.l0 R w t 0 x0 x1 = False := by kernel_rfl

theorem encT_vc (R : AV → Mem → Prop) (fuel : Nat) (w : List Int) (b : List Int) (t : List Int) : callsx Try.prog gamB2 [] Try.f27 (fuel + 1) [.agg [.ints .u8 176 w], .agg [.ints .u8 16 b], .one (.clo 38 200002 0 0)] [(200002, .view [.ints .u8 256 t])] R = (((InB 0 11) ∧ ((Fits 16 176) ∧ (((Go.Blk.BL 16 b) ∧ (Go.Blk.BL 16 (lsub w 0 16))) ∧ (encT.l0 R w t fuel 1 (Go.Blk.qx b (lsub w 0 16))))))) := by kernel_rfl

theorem bEnc_vc (R : AV → Mem → Prop) (fuel : Nat) (w : List Int) (b : List Int) : callsx Try.prog gamB4 [] Try.f11 (fuel + 1) [.agg [.ints .u8 176 w], .agg [.ints .u8 16 b]] [] R = ((((Go.Blk.BL 176 w) ∧ (Go.Blk.BL 16 b)) ∧ (R (AV.agg [(Seg.ints IntKind.u8 16 (Go.Blk.enc w b))]) [(2, Blk.own 28 [(Seg.ints IntKind.u8 176 w)]), (3, Blk.own 22 [(Seg.ints IntKind.u8 16 b)]), (4, Blk.own 22 [(Seg.ints IntKind.u8 16 (Go.Blk.enc w b))])]))) := by kernel_rfl

def bDec.l0 (R : AV → Mem → Prop) (w : List Int) (fuel : Nat) (x0 : Int) (x1 : List Int) : Prop := run Try.prog gamB2 [] (resh Try.prog [] Try.f13.results.toList R) fuel [.code (cAt (bodyOf Try.f13) [1, 1, 0, 1, 0, 0]), .inLoop (cAt (bodyOf Try.f13) [1, 1, 0, 1, 0, 0]), .inBlock 0, .code (cAt (bodyOf Try.f13) [1, 1, 1])] [AV.undef, AV.undef, (AV.one (AC.ptr 2 0 0)), AV.undef, (AV.one (AC.ptr 4 0 0)), (AV.one (AC.ptr 5 0 0)), (AV.one (AC.int IntKind.i64 x0)), AV.undef, AV.undef, AV.undef, AV.undef, AV.undef, AV.undef, AV.undef, AV.undef, AV.undef, AV.undef, AV.undef, AV.undef, AV.undef, AV.undef, AV.undef, AV.undef, AV.undef, AV.undef, AV.undef, AV.undef, AV.undef, AV.undef, (AV.tup [])] [(2, Blk.own 28 [(Seg.ints IntKind.u8 176 w)]), (4, Blk.own 22 [(Seg.ints IntKind.u8 16 (lzeros 16))]), (5, Blk.own 25 [(Seg.ints IntKind.u8 16 x1)])]

theorem bDec.l0_succ (R : AV → Mem → Prop) (w : List Int) (fuel : Nat) (x0 : Int) (x1 : List Int) : bDec.l0 R w (fuel + 1) x0 x1 = (((((ige x0 1) = true) → ((InB (sub IntKind.i64 x0 1) 11) ∧ ((Fits (nadd (nadd 0 (nmul (nat (sub IntKind.i64 x0 1)) 16)) 16) 176) ∧ (((Go.Blk.BL 16 x1) ∧ (InB 3 4)) ∧ ((Go.Blk.BL 16 (Go.Blk.qt 3 x1)) ∧ (((Go.Blk.BL 16 (Go.Blk.qe funsub (Go.Blk.qt 3 x1))) ∧ (Go.Blk.BL 16 (lsub w (nadd 0 (nmul (nat (sub IntKind.i64 x0 1)) 16)) 16))) ∧ ((((igt x0 1) = true) → ((Go.Blk.BL 16 (Go.Blk.qx (Go.Blk.qe funsub (Go.Blk.qt 3 x1)) (lsub w (nadd 0 (nmul (nat (sub IntKind.i64 x0 1)) 16)) 16))) ∧ (let y2 : List Int := (Go.Blk.qc [14, 11, 13, 9] (Go.Blk.qx (Go.Blk.qe funsub (Go.Blk.qt 3 x1)) (lsub w (nadd 0 (nmul (nat (sub IntKind.i64 x0 1)) 16)) 16))); (bDec.l0 R w fuel (sub IntKind.i64 x0 1) y2)))) ∧ (((igt x0 1) = false) → (bDec.l0 R w fuel (sub IntKind.i64 x0 1) (Go.Blk.qx (Go.Blk.qe funsub (Go.Blk.qt 3 x1)) (lsub w (nadd 0 (nmul (nat (sub IntKind.i64 x0 1)) 16)) 16))))))))))) ∧ (((ige x0 1) = false) → (R (AV.agg [(Seg.ints IntKind.u8 16 x1)]) [(2, Blk.own 28 [(Seg.ints IntKind.u8 176 w)]), (4, Blk.own 22 [(Seg.ints IntKind.u8 16 x1)]), (5, Blk.own 25 [(Seg.ints IntKind.u8 16 x1)])])))) := by kernel_rfl
theorem bDec.l0_zero (R : AV → Mem → Prop) (w : List Int) (x0 : Int) (x1 : List Int) : bDec.l0 R w 0 x0 x1 = False := by kernel_rfl

theorem bDec_vc (R : AV → Mem → Prop) (fuel : Nat) (w : List Int) (b : List Int) : callsx Try.prog gamB2 [] Try.f13 (fuel + 1) [.agg [.ints .u8 176 w], .agg [.ints .u8 16 b]] [] R = (((InB 10 11) ∧ ((Fits 176 176) ∧ (((Go.Blk.BL 16 b) ∧ (Go.Blk.BL 16 (lsub w 160 16))) ∧ (bDec.l0 R w fuel 10 (Go.Blk.qx b (lsub w 160 16))))))) := by kernel_rfl

theorem bRound_vc (R : AV → Mem → Prop) (fuel : Nat) (w : List Int) (i : Int) : callsx Try.prog gam0 [] Try.f16 (fuel + 1) [.agg [.ints .u8 176 w], .one (.int .i64 i)] [] R = (((((ilt i 0) = false) → ((((igt i 10) = true) → (R (AV.agg [(Seg.ints IntKind.u8 16 (lzeros 16))]) [(2, Blk.own 28 [(Seg.ints IntKind.u8 176 w)]), (4, Blk.own 22 [(Seg.ints IntKind.u8 16 (lzeros 16))])])) ∧ (((igt i 10) = false) → ((InB i 11) ∧ ((Fits (nadd (nadd 0 (nmul (nat i) 16)) 16) 176) ∧ (R (AV.agg [(Seg.ints IntKind.u8 16 (lsub w (nadd 0 (nmul (nat i) 16)) 16))]) [(2, Blk.own 28 [(Seg.ints IntKind.u8 176 w)]), (4, Blk.own 22 [(Seg.ints IntKind.u8 16 (lsub w (nadd 0 (nmul (nat i) 16)) 16))])])))))) ∧ (((ilt i 0) = true) → (R (AV.agg [(Seg.ints IntKind.u8 16 (lzeros 16))]) [(2, Blk.own 28 [(Seg.ints IntKind.u8 176 w)]), (4, Blk.own 22 [(Seg.ints IntKind.u8 16 (lzeros 16))])])))) := by kernel_rfl

def rWith.l1 (R : AV → Mem → Prop) (x0 : Int) (w : List Int) (x1 : List Int) (fuel : Nat) (x2 : Int) (x3 : List Int) : Prop := run Try.prog gamB3 [] (resh Try.prog [] Try.f15.results.toList R) fuel [.code (cAt (bodyOf Try.f15) [1, 1, 0, 1, 0, 0, 1, 0, 0, 1, 0, 1, 0, 0]), .inLoop (cAt (bodyOf Try.f15) [1, 1, 0, 1, 0, 0, 1, 0, 0, 1, 0, 1, 0, 0]), .inBlock 2, .code (cAt (bodyOf Try.f15) [1, 1, 0, 1, 0, 0, 1, 0, 0, 1, 1]), .inBlock 1, .code (cAt (bodyOf Try.f15) [1, 1, 0, 1, 0, 0, 1, 1]), .inLoop (cAt (bodyOf Try.f15) [1, 1, 0, 1, 0, 0]), .inBlock 0, .code (cAt (bodyOf Try.f15) [1, 1, 1])] [AV.undef, AV.undef, (AV.one (AC.ptr 2 0 0)), (AV.one (AC.ptr 3 0 0)), (AV.one (AC.ptr 4 0 0)), (AV.one (AC.int IntKind.i64 x0)), (AV.one (AC.ptr 6 0 0)), (AV.one (AC.int IntKind.i64 x2)), AV.undef, AV.undef, AV.undef, (AV.one (AC.int IntKind.i64 x0)), (AV.one (AC.lit true)), AV.undef, AV.undef, AV.undef, AV.undef, AV.undef, AV.undef, AV.undef, AV.undef, AV.undef, AV.undef, AV.undef, AV.undef, AV.undef, AV.undef, AV.undef, AV.undef, AV.undef, AV.undef, AV.undef, AV.undef, AV.undef, AV.undef, AV.undef, AV.undef, AV.undef, AV.undef, (AV.tup [])] [(2, Blk.own 33 [(Seg.ints IntKind.u8 176 w)]), (3, Blk.own 22 [(Seg.ints IntKind.u8 16 x1)]), (4, Blk.own 22 [(Seg.ints IntKind.u8 16 (lzeros 16))]), (6, Blk.own 22 [(Seg.ints IntKind.u8 16 x3)])]

def rWith.l0 (R : AV → Mem → Prop) (w : List Int) (fuel : Nat) (x0 : Int) (x1 : List Int) : Prop := run Try.prog gamB3 [] (resh Try.prog [] Try.f15.results.toList R) fuel [.code (cAt (bodyOf Try.f15) [1, 1, 0, 1, 0, 0]), .inLoop (cAt (bodyOf Try.f15) [1, 1, 0, 1, 0, 0]), .inBlock 0, .code (cAt (bodyOf Try.f15) [1, 1, 1])] [AV.undef, AV.undef, (AV.one (AC.ptr 2 0 0)), (AV.one (AC.ptr 3 0 0)), (AV.one (AC.ptr 4 0 0)), (AV.one (AC.int IntKind.i64 x0)), AV.undef, AV.undef, AV.undef, AV.undef, AV.undef, AV.undef, AV.undef, AV.undef, AV.undef, AV.undef, AV.undef, AV.undef, AV.undef, AV.undef, AV.undef, AV.undef, AV.undef, AV.undef, AV.undef, AV.undef, AV.undef, AV.undef, AV.undef, AV.undef, AV.undef, AV.undef, AV.undef, AV.undef, AV.undef, AV.undef, AV.undef, AV.undef, AV.undef, (AV.tup [])] [(2, Blk.own 33 [(Seg.ints IntKind.u8 176 w)]), (3, Blk.own 22 [(Seg.ints IntKind.u8 16 x1)]), (4, Blk.own 22 [(Seg.ints IntKind.u8 16 (lzeros 16))])]

theorem rWith.l1_succ (R : AV → Mem → Prop) (x0 : Int) (w : List Int) (x1 : List Int) (fuel : Nat) (x2 : Int) (x3 : List Int) : rWith.l1 R x0 w x1 (fuel + 1) x2 x3 = (((((ilt x2 16) = true) → ((NeZ 4) ∧ ((NeZ 16) ∧ ((InB (rem (add IntKind.i64 x2 (mul IntKind.i64 4 (rem x2 4))) 16) 16) ∧ ((Low (nadd 0 (nat (rem (add IntKind.i64 x2 (mul IntKind.i64 4 (rem x2 4))) 16))) 16) ∧ ((InB (lget x1 (nadd 0 (nat (rem (add IntKind.i64 x2 (mul IntKind.i64 4 (rem x2 4))) 16)))) 256) ∧ ((InB x2 16) ∧ ((Low (nadd 0 (nat x2)) 16) ∧ (let y4 : Int := (sget boxC (nat (lget x1 (nadd 0 (nat (rem (add IntKind.i64 x2 (mul IntKind.i64 4 (rem x2 4))) 16)))))); (let y5 : List Int := (lset x3 (nadd 0 (nat x2)) (sget boxC (nat (lget x1 (nadd 0 (nat (rem (add IntKind.i64 x2 (mul IntKind.i64 4 (rem x2 4))) 16))))))); (rWith.l1 R x0 w x1 fuel (add IntKind.i64 x2 1) y5))))))))))) ∧ (((ilt x2 16) = false) → ((((ilt x0 10) = true) → ((Go.Blk.BL 16 x3) ∧ ((((Go.Blk.BL 16 (Go.Blk.qc [2, 3, 1, 1] x3)) ∧ (Go.Blk.BL 176 w)) ∧ (InB x0 11)) ∧ (rWith.l0 R w fuel (add IntKind.i64 x0 1) (Go.Blk.qx (Go.Blk.qc [2, 3, 1, 1] x3) (Go.Blk.rk w (nat x0))))))) ∧ (((ilt x0 10) = false) → ((((Go.Blk.BL 16 x3) ∧ (Go.Blk.BL 176 w)) ∧ (InB x0 11)) ∧ (rWith.l0 R w fuel (add IntKind.i64 x0 1) (Go.Blk.qx x3 (Go.Blk.rk w (nat x0)))))))))) := by kernel_rfl
theorem rWith.l1_zero (R : AV → Mem → Prop) (x0 : Int) (w : List Int) (x1 : List Int) (x2 : Int) (x3 : List Int) : rWith.l1 R x0 w x1 0 x2 x3 = False := by kernel_rfl

theorem rWith.l0_succ (R : AV → Mem → Prop) (w : List Int) (fuel : Nat) (x0 : Int) (x1 : List Int) : rWith.l0 R w (fuel + 1) x0 x1 = (((((ile x0 10) = true) → (rWith.l1 R x0 w x1 fuel 0 (lzeros 16))) ∧ (((ile x0 10) = false) → (R (AV.agg [(Seg.ints IntKind.u8 16 x1)]) [(2, Blk.own 33 [(Seg.ints IntKind.u8 176 w)]), (3, Blk.own 22 [(Seg.ints IntKind.u8 16 x1)]), (4, Blk.own 22 [(Seg.ints IntKind.u8 16 x1)])])))) := by kernel_rfl
theorem rWith.l0_zero (R : AV → Mem → Prop) (w : List Int) (x0 : Int) (x1 : List Int) : rWith.l0 R w 0 x0 x1 = False := by kernel_rfl

theorem rWith_vc (R : AV → Mem → Prop) (fuel : Nat) (w : List Int) (b : List Int) : callsx Try.prog gamB3 [] Try.f15 (fuel + 1) [.agg [.ints .u8 176 w], .agg [.ints .u8 16 b]] [] R = (((((Go.Blk.BL 16 b) ∧ (Go.Blk.BL 176 w)) ∧ (InB 0 11)) ∧ (rWith.l0 R w fuel 1 (Go.Blk.qx b (Go.Blk.rk w 0))))) := by kernel_rfl

theorem rEnc_vc (R : AV → Mem → Prop) (fuel : Nat) (k : List Int) (b : List Int) : callsx Try.prog gamB4 [] Try.f12 (fuel + 1) [.agg [.ints .u8 16 k], .agg [.ints .u8 16 b]] [] R = (((Go.Blk.BL 16 k) ∧ (((Go.Blk.BL 176 (Go.Blk.ks k)) ∧ (Go.Blk.BL 16 b)) ∧ (R (AV.agg [(Seg.ints IntKind.u8 16 (Go.Blk.enc (Go.Blk.ks k) b))]) [(2, Blk.own 22 [(Seg.ints IntKind.u8 16 k)]), (3, Blk.own 22 [(Seg.ints IntKind.u8 16 b)]), (4, Blk.own 22 [(Seg.ints IntKind.u8 16 (Go.Blk.enc (Go.Blk.ks k) b))]), (5, Blk.own 33 [(Seg.ints IntKind.u8 176 (Go.Blk.ks k))])])))) := by kernel_rfl

def rDec.l1 (R : AV → Mem → Prop) (x0 : Int) (x1 : List Int) (k : List Int) (fuel : Nat) (x2 : Int) (x3 : List Int) : Prop := run Try.prog gamB3 [] (resh Try.prog [] Try.f14.results.toList R) fuel [.code (cAt (bodyOf Try.f14) [1, 1, 1, 1, 0, 1, 0, 0, 1, 0, 0, 1, 0, 1, 0, 0]), .inLoop (cAt (bodyOf Try.f14) [1, 1, 1, 1, 0, 1, 0, 0, 1, 0, 0, 1, 0, 1, 0, 0]), .inBlock 2, .code (cAt (bodyOf Try.f14) [1, 1, 1, 1, 0, 1, 0, 0, 1, 0, 0, 1, 1]), .inBlock 1, .code (cAt (bodyOf Try.f14) [1, 1, 1, 1, 0, 1, 0, 0, 1, 1]), .inLoop (cAt (bodyOf Try.f14) [1, 1, 1, 1, 0, 1, 0, 0]), .inBlock 0, .code (cAt (bodyOf Try.f14) [1, 1, 1, 1, 1])] [AV.undef, AV.undef, AV.undef, (AV.one (AC.ptr 3 0 0)), (AV.one (AC.ptr 4 0 0)), (AV.one (AC.ptr 5 0 0)), (AV.one (AC.ptr 6 0 0)), (AV.one (AC.int IntKind.i64 x0)), (AV.one (AC.ptr 8 0 0)), (AV.one (AC.int IntKind.i64 x2)), AV.undef, AV.undef, AV.undef, AV.undef, AV.undef, AV.undef, (AV.one (AC.int IntKind.i64 x0)), (AV.one (AC.lit true)), AV.undef, AV.undef, AV.undef, AV.undef, AV.undef, AV.undef, AV.undef, AV.undef, AV.undef, AV.undef, AV.undef, AV.undef, AV.undef, AV.undef, AV.undef, AV.undef, AV.undef, AV.undef, AV.undef, AV.undef, AV.undef, AV.undef, AV.undef, AV.undef, AV.undef, AV.undef, AV.undef, AV.undef, AV.undef, AV.undef, AV.undef, (AV.tup [])] [(3, Blk.own 22 [(Seg.ints IntKind.u8 16 x1)]), (4, Blk.own 22 [(Seg.ints IntKind.u8 16 (lzeros 16))]), (5, Blk.own 33 [(Seg.ints IntKind.u8 176 (Go.Blk.ks k))]), (6, Blk.own 60 [(Seg.ints IntKind.u8 256 (tab 256 (fun i => funsub ↑i)))]), (8, Blk.own 22 [(Seg.ints IntKind.u8 16 x3)])]

def rDec.l0 (R : AV → Mem → Prop) (k : List Int) (fuel : Nat) (x0 : Int) (x1 : List Int) : Prop := run Try.prog gamB3 [] (resh Try.prog [] Try.f14.results.toList R) fuel [.code (cAt (bodyOf Try.f14) [1, 1, 1, 1, 0, 1, 0, 0]), .inLoop (cAt (bodyOf Try.f14) [1, 1, 1, 1, 0, 1, 0, 0]), .inBlock 0, .code (cAt (bodyOf Try.f14) [1, 1, 1, 1, 1])] [AV.undef, AV.undef, AV.undef, (AV.one (AC.ptr 3 0 0)), (AV.one (AC.ptr 4 0 0)), (AV.one (AC.ptr 5 0 0)), (AV.one (AC.ptr 6 0 0)), (AV.one (AC.int IntKind.i64 x0)), AV.undef, AV.undef, AV.undef, AV.undef, AV.undef, AV.undef, AV.undef, AV.undef, AV.undef, AV.undef, AV.undef, AV.undef, AV.undef, AV.undef, AV.undef, AV.undef, AV.undef, AV.undef, AV.undef, AV.undef, AV.undef, AV.undef, AV.undef, AV.undef, AV.undef, AV.undef, AV.undef, AV.undef, AV.undef, AV.undef, AV.undef, AV.undef, AV.undef, AV.undef, AV.undef, AV.undef, AV.undef, AV.undef, AV.undef, AV.undef, AV.undef, (AV.tup [])] [(3, Blk.own 22 [(Seg.ints IntKind.u8 16 x1)]), (4, Blk.own 22 [(Seg.ints IntKind.u8 16 (lzeros 16))]), (5, Blk.own 33 [(Seg.ints IntKind.u8 176 (Go.Blk.ks k))]), (6, Blk.own 60 [(Seg.ints IntKind.u8 256 (tab 256 (fun i => funsub ↑i)))])]

theorem rDec.l1_succ (R : AV → Mem → Prop) (x0 : Int) (x1 : List Int) (k : List Int) (fuel : Nat) (x2 : Int) (x3 : List Int) : rDec.l1 R x0 x1 k (fuel + 1) x2 x3 = (((((ilt x2 16) = true) → ((NeZ 4) ∧ ((NeZ 16) ∧ ((InB x2 16) ∧ ((Low (nadd 0 (nat x2)) 16) ∧ ((InB (lget x1 (nadd 0 (nat x2))) 256) ∧ ((Low (nadd 0 (nat (lget x1 (nadd 0 (nat x2))))) 256) ∧ ((InB (rem (add IntKind.i64 x2 (mul IntKind.i64 4 (rem x2 4))) 16) 16) ∧ ((Low (nadd 0 (nat (rem (add IntKind.i64 x2 (mul IntKind.i64 4 (rem x2 4))) 16))) 16) ∧ (let y4 : List Int := (lset x3 (nadd 0 (nat (rem (add IntKind.i64 x2 (mul IntKind.i64 4 (rem x2 4))) 16))) (lget (tab 256 (fun i => funsub ↑i)) (nadd 0 (nat (lget x1 (nadd 0 (nat x2))))))); (rDec.l1 R x0 x1 k fuel (add IntKind.i64 x2 1) y4))))))))))) ∧ (((ilt x2 16) = false) → ((((Go.Blk.BL 16 x3) ∧ (Go.Blk.BL 176 (Go.Blk.ks k))) ∧ (InB (sub IntKind.i64 x0 1) 11)) ∧ ((((igt x0 1) = true) → ((Go.Blk.BL 16 (Go.Blk.qx x3 (Go.Blk.rk (Go.Blk.ks k) (nat (sub IntKind.i64 x0 1))))) ∧ ((Go.Blk.BL 16 (Go.Blk.qc [2, 3, 1, 1] (Go.Blk.qx x3 (Go.Blk.rk (Go.Blk.ks k) (nat (sub IntKind.i64 x0 1)))))) ∧ ((Go.Blk.BL 16 (Go.Blk.qc [2, 3, 1, 1] (Go.Blk.qc [2, 3, 1, 1] (Go.Blk.qx x3 (Go.Blk.rk (Go.Blk.ks k) (nat (sub IntKind.i64 x0 1))))))) ∧ (let y5 : List Int := (Go.Blk.qc [2, 3, 1, 1] (Go.Blk.qc [2, 3, 1, 1] (Go.Blk.qc [2, 3, 1, 1] (Go.Blk.qx x3 (Go.Blk.rk (Go.Blk.ks k) (nat (sub IntKind.i64 x0 1))))))); (rDec.l0 R k fuel (sub IntKind.i64 x0 1) y5)))))) ∧ (((igt x0 1) = false) → (rDec.l0 R k fuel (sub IntKind.i64 x0 1) (Go.Blk.qx x3 (Go.Blk.rk (Go.Blk.ks k) (nat (sub IntKind.i64 x0 1))))))))))) := by kernel_rfl
theorem rDec.l1_zero (R : AV → Mem → Prop) (x0 : Int) (x1 : List Int) (k : List Int) (x2 : Int) (x3 : List Int) : rDec.l1 R x0 x1 k 0 x2 x3 = False := by kernel_rfl

theorem rDec.l0_succ (R : AV → Mem → Prop) (k : List Int) (fuel : Nat) (x0 : Int) (x1 : List Int) : rDec.l0 R k (fuel + 1) x0 x1 = (((((ige x0 1) = true) → (rDec.l1 R x0 x1 k fuel 0 (lzeros 16))) ∧ (((ige x0 1) = false) → (R (AV.agg [(Seg.ints IntKind.u8 16 x1)]) [(3, Blk.own 22 [(Seg.ints IntKind.u8 16 x1)]), (4, Blk.own 22 [(Seg.ints IntKind.u8 16 x1)]), (5, Blk.own 33 [(Seg.ints IntKind.u8 176 (Go.Blk.ks k))]), (6, Blk.own 60 [(Seg.ints IntKind.u8 256 (tab 256 (fun i => funsub ↑i)))])])))) := by kernel_rfl
theorem rDec.l0_zero (R : AV → Mem → Prop) (k : List Int) (x0 : Int) (x1 : List Int) : rDec.l0 R k 0 x0 x1 = False := by kernel_rfl

theorem rDec_vc (R : AV → Mem → Prop) (fuel : Nat) (k : List Int) (b : List Int) : callsx Try.prog gamB3 [] Try.f14 (fuel + 1) [.agg [.ints .u8 16 k], .agg [.ints .u8 16 b]] [] R = (((Go.Blk.BL 16 k) ∧ ((((Go.Blk.BL 16 b) ∧ (Go.Blk.BL 176 (Go.Blk.ks k))) ∧ (InB 10 11)) ∧ (rDec.l0 R k fuel 10 (Go.Blk.qx b (Go.Blk.rk (Go.Blk.ks k) 10)))))) := by kernel_rfl

def rRound.l0 (R : AV → Mem → Prop) (i : Int) (k : List Int) (fuel : Nat) (x0 : Int) (x1 : List Int) : Prop := run Try.prog gamB3 [] (resh Try.prog [] Try.f17.results.toList R) fuel [.code (cAt (bodyOf Try.f17) [1, 1, 1, 1, 0, 1, 0, 0]), .inLoop (cAt (bodyOf Try.f17) [1, 1, 1, 1, 0, 1, 0, 0]), .inBlock 0, .code (cAt (bodyOf Try.f17) [1, 1, 1, 1, 1])] [AV.undef, (AV.one (AC.int IntKind.i64 i)), AV.undef, AV.undef, (AV.one (AC.ptr 4 0 0)), (AV.one (AC.ptr 5 0 0)), (AV.one (AC.ptr 6 0 0)), (AV.one (AC.int IntKind.i64 x0)), AV.undef, AV.undef, AV.undef, AV.undef, AV.undef, AV.undef, AV.undef, AV.undef, AV.undef, AV.undef, AV.undef, AV.undef, AV.undef, AV.undef, AV.undef, AV.undef, AV.undef, AV.undef, AV.undef, AV.undef, AV.undef, (AV.tup [])] [(4, Blk.own 22 [(Seg.ints IntKind.u8 16 (lzeros 16))]), (5, Blk.own 22 [(Seg.ints IntKind.u8 16 x1)]), (6, Blk.own 33 [(Seg.ints IntKind.u8 176 (Go.Blk.ks k))])]

theorem rRound.l0_succ (R : AV → Mem → Prop) (i : Int) (k : List Int) (fuel : Nat) (x0 : Int) (x1 : List Int) : rRound.l0 R i k (fuel + 1) x0 x1 = (((((ilt x0 16) = true) → ((InB (add IntKind.i64 (mul IntKind.i64 16 i) x0) 176) ∧ ((Low (nadd 0 (nat (add IntKind.i64 (mul IntKind.i64 16 i) x0))) 176) ∧ ((InB x0 16) ∧ ((Low (nadd 0 (nat x0)) 16) ∧ (let y2 : List Int := (lset x1 (nadd 0 (nat x0)) (lget (Go.Blk.ks k) (nadd 0 (nat (add IntKind.i64 (mul IntKind.i64 16 i) x0))))); (rRound.l0 R i k fuel (add IntKind.i64 x0 1) y2))))))) ∧ (((ilt x0 16) = false) → (R (AV.agg [(Seg.ints IntKind.u8 16 x1)]) [(4, Blk.own 22 [(Seg.ints IntKind.u8 16 x1)]), (5, Blk.own 22 [(Seg.ints IntKind.u8 16 x1)]), (6, Blk.own 33 [(Seg.ints IntKind.u8 176 (Go.Blk.ks k))])])))) := by kernel_rfl
theorem rRound.l0_zero (R : AV → Mem → Prop) (i : Int) (k : List Int) (x0 : Int) (x1 : List Int) : rRound.l0 R i k 0 x0 x1 = False := by kernel_rfl

theorem rRound_vc (R : AV → Mem → Prop) (fuel : Nat) (k : List Int) (i : Int) : callsx Try.prog gamB3 [] Try.f17 (fuel + 1) [.agg [.ints .u8 16 k], .one (.int .i64 i)] [] R = (((((ilt i 0) = false) → ((((igt i 10) = true) → (R (AV.agg [(Seg.ints IntKind.u8 16 (lzeros 16))]) [(2, Blk.own 22 [(Seg.ints IntKind.u8 16 k)]), (4, Blk.own 22 [(Seg.ints IntKind.u8 16 (lzeros 16))]), (5, Blk.own 22 [(Seg.ints IntKind.u8 16 (lzeros 16))])])) ∧ (((igt i 10) = false) → ((Go.Blk.BL 16 k) ∧ (rRound.l0 R i k fuel 0 (lzeros 16)))))) ∧ (((ilt i 0) = true) → (R (AV.agg [(Seg.ints IntKind.u8 16 (lzeros 16))]) [(2, Blk.own 22 [(Seg.ints IntKind.u8 16 k)]), (4, Blk.own 22 [(Seg.ints IntKind.u8 16 (lzeros 16))]), (5, Blk.own 22 [(Seg.ints IntKind.u8 16 (lzeros 16))])])))) := by kernel_rfl

def bMask.l2 (R : AV → Mem → Prop) (x3 : Int) (x5 : List Int) (k : List Int) (x4 : List Int) (x2 : List Int) (p : List Int) (fuel : Nat) (x6 : Int) (x7 : List Int) : Prop := run Try.prog gamB4 [] (resh Try.prog [] Try.f18.results.toList R) fuel [.code (cAt (bodyOf Try.f18) [1, 1, 1, 1, 1, 1, 0, 1, 0, 0, 1, 0, 0, 1, 0, 1, 0, 0]), .inLoop (cAt (bodyOf Try.f18) [1, 1, 1, 1, 1, 1, 0, 1, 0, 0, 1, 0, 0, 1, 0, 1, 0, 0]), .inBlock 4, .code (cAt (bodyOf Try.f18) [1, 1, 1, 1, 1, 1, 0, 1, 0, 0, 1, 0, 0, 1, 1]), .inBlock 3, .code (cAt (bodyOf Try.f18) [1, 1, 1, 1, 1, 1, 0, 1, 0, 0, 1, 1]), .inLoop (cAt (bodyOf Try.f18) [1, 1, 1, 1, 1, 1, 0, 1, 0, 0]), .inBlock 2, .code (cAt (bodyOf Try.f18) [1, 1, 1, 1, 1, 1, 1])] [AV.undef, AV.undef, AV.undef, AV.undef, (AV.one (AC.ptr 4 0 0)), AV.undef, AV.undef, (AV.one (AC.ptr 7 0 0)), (AV.one (AC.vec 19)), (AV.one (AC.clo 38 10 0 0)), AV.undef, AV.undef, (AV.one (AC.int IntKind.i64 x3)), (AV.one (AC.ptr 13 0 0)), (AV.one (AC.int IntKind.i64 x6)), AV.undef, AV.undef, AV.undef, AV.undef, AV.undef, AV.undef, AV.undef, AV.undef, AV.undef, AV.undef, AV.undef, AV.undef, AV.undef, AV.undef, AV.undef, AV.undef, AV.undef, AV.undef, AV.undef, AV.undef, AV.undef, (AV.one (AC.int IntKind.i64 x3)), (AV.one (AC.vec 19)), (AV.one (AC.int IntKind.i64 (ofNat (llen x5)))), (AV.one (AC.lit true)), AV.undef, AV.undef, (AV.agg [(Seg.ints IntKind.u8 176 (Go.Blk.ks k))]), (AV.agg [(Seg.ints IntKind.u8 16 x4)]), (AV.one (AC.clo 38 10 0 0)), (AV.agg [(Seg.ints IntKind.u8 16 (Go.Blk.enc (Go.Blk.ks k) x4))]), (AV.one (AC.int IntKind.i64 x3)), AV.undef, AV.undef, AV.undef, AV.undef, AV.undef, AV.undef, AV.undef, AV.undef, AV.undef, AV.undef, AV.undef, AV.undef, AV.undef, AV.undef, AV.undef, AV.undef, AV.undef, AV.undef, AV.undef, AV.undef, AV.undef, AV.undef, (AV.tup [])] [(4, Blk.own 22 [(Seg.ints IntKind.u8 16 x4)]), (7, Blk.own 28 [(Seg.ints IntKind.u8 176 (Go.Blk.ks k))]), (10, Blk.own 60 [(Seg.ints IntKind.u8 256 x2)]), (13, Blk.own 22 [(Seg.ints IntKind.u8 16 (Go.Blk.enc (Go.Blk.ks k) x4))]), (19, Blk.vec [(Col.ints IntKind.u8 x7)]), (200002, Blk.rview [(Col.ints IntKind.u8 p)])]

def bMask.l1 (R : AV → Mem → Prop) (k : List Int) (x2 : List Int) (p : List Int) (fuel : Nat) (x3 : Int) (x4 : List Int) (x5 : List Int) : Prop := run Try.prog gamB4 [] (resh Try.prog [] Try.f18.results.toList R) fuel [.code (cAt (bodyOf Try.f18) [1, 1, 1, 1, 1, 1, 0, 1, 0, 0]), .inLoop (cAt (bodyOf Try.f18) [1, 1, 1, 1, 1, 1, 0, 1, 0, 0]), .inBlock 2, .code (cAt (bodyOf Try.f18) [1, 1, 1, 1, 1, 1, 1])] [AV.undef, AV.undef, AV.undef, AV.undef, (AV.one (AC.ptr 4 0 0)), AV.undef, AV.undef, (AV.one (AC.ptr 7 0 0)), (AV.one (AC.vec 19)), (AV.one (AC.clo 38 10 0 0)), AV.undef, AV.undef, (AV.one (AC.int IntKind.i64 x3)), AV.undef, AV.undef, AV.undef, AV.undef, AV.undef, AV.undef, AV.undef, AV.undef, AV.undef, AV.undef, AV.undef, AV.undef, AV.undef, AV.undef, AV.undef, AV.undef, AV.undef, AV.undef, AV.undef, AV.undef, AV.undef, AV.undef, AV.undef, AV.undef, AV.undef, AV.undef, AV.undef, AV.undef, AV.undef, AV.undef, AV.undef, AV.undef, AV.undef, AV.undef, AV.undef, AV.undef, AV.undef, AV.undef, AV.undef, AV.undef, AV.undef, AV.undef, AV.undef, AV.undef, AV.undef, AV.undef, AV.undef, AV.undef, AV.undef, AV.undef, AV.undef, AV.undef, AV.undef, AV.undef, AV.undef, AV.undef, (AV.tup [])] [(4, Blk.own 22 [(Seg.ints IntKind.u8 16 x4)]), (7, Blk.own 28 [(Seg.ints IntKind.u8 176 (Go.Blk.ks k))]), (10, Blk.own 60 [(Seg.ints IntKind.u8 256 x2)]), (19, Blk.vec [(Col.ints IntKind.u8 x5)]), (200002, Blk.rview [(Col.ints IntKind.u8 p)])]

def bMask.l0 (R : AV → Mem → Prop) (s : List Int) (k : List Int) (y0 : List Int) (p : List Int) (fuel : Nat) (x1 : Int) (x2 : List Int) : Prop := run Try.prog gamB4 [] (resh Try.prog [] Try.f18.results.toList R) fuel [.code (cAt (bodyOf Try.f18) [1, 1, 1, 1, 1, 0, 1, 0, 1, 0, 1, 0, 0]), .inLoop (cAt (bodyOf Try.f18) [1, 1, 1, 1, 1, 0, 1, 0, 1, 0, 1, 0, 0]), .inBlock 0, .code (cAt (bodyOf Try.f18) [1, 1, 1, 1, 1, 0, 1, 0, 1, 1]), .code (cAt (bodyOf Try.f18) [1, 1, 1, 1, 1, 1])] [AV.undef, AV.undef, AV.undef, AV.undef, (AV.one (AC.ptr 4 0 0)), AV.undef, AV.undef, (AV.one (AC.ptr 7 0 0)), (AV.one (AC.vec 19)), (AV.one (AC.con (Value.func (Fn.func 25) (List.toArray []) (List.toArray [])))), (AV.one (AC.ptr 10 0 0)), AV.undef, (AV.tup []), (AV.tup []), (AV.tup []), AV.undef, AV.undef, AV.undef, AV.undef, AV.undef, AV.undef, AV.undef, AV.undef, AV.undef, AV.undef, AV.undef, (AV.one (AC.int IntKind.i64 x1)), AV.undef, AV.undef, AV.undef, AV.undef, AV.undef, AV.undef, AV.undef, AV.undef, (AV.tup []), (AV.tup []), (AV.tup []), (AV.tup []), (AV.tup []), (AV.tup []), (AV.tup []), (AV.tup []), (AV.tup []), (AV.tup []), (AV.tup []), (AV.tup []), (AV.tup []), (AV.tup []), (AV.tup []), (AV.tup []), (AV.tup []), (AV.tup []), (AV.tup []), (AV.tup []), (AV.tup []), (AV.tup []), (AV.tup []), (AV.tup []), (AV.tup []), (AV.tup []), (AV.tup []), (AV.tup []), (AV.tup []), (AV.tup []), (AV.tup []), (AV.tup []), (AV.tup []), (AV.tup []), (AV.tup [])] [(4, Blk.own 22 [(Seg.ints IntKind.u8 16 s)]), (7, Blk.own 28 [(Seg.ints IntKind.u8 176 (Go.Blk.ks k))]), (10, Blk.own 60 [(Seg.ints IntKind.u8 256 x2)]), (19, Blk.vec [(Col.ints IntKind.u8 y0)]), (200002, Blk.rview [(Col.ints IntKind.u8 p)])]

def bMask.l4 (R : AV → Mem → Prop) (x10 : Int) (x12 : List Int) (k : List Int) (x11 : List Int) (p : List Int) (fuel : Nat) (x13 : Int) (x14 : List Int) : Prop := run Try.prog gamB4 [] (resh Try.prog [] Try.f18.results.toList R) fuel [.code (cAt (bodyOf Try.f18) [1, 1, 1, 1, 1, 1, 0, 1, 0, 0, 1, 0, 0, 1, 0, 1, 0, 0]), .inLoop (cAt (bodyOf Try.f18) [1, 1, 1, 1, 1, 1, 0, 1, 0, 0, 1, 0, 0, 1, 0, 1, 0, 0]), .inBlock 4, .code (cAt (bodyOf Try.f18) [1, 1, 1, 1, 1, 1, 0, 1, 0, 0, 1, 0, 0, 1, 1]), .inBlock 3, .code (cAt (bodyOf Try.f18) [1, 1, 1, 1, 1, 1, 0, 1, 0, 0, 1, 1]), .inLoop (cAt (bodyOf Try.f18) [1, 1, 1, 1, 1, 1, 0, 1, 0, 0]), .inBlock 2, .code (cAt (bodyOf Try.f18) [1, 1, 1, 1, 1, 1, 1])] [AV.undef, AV.undef, AV.undef, AV.undef, (AV.one (AC.ptr 4 0 0)), AV.undef, AV.undef, (AV.one (AC.ptr 7 0 0)), (AV.one (AC.vec 19)), (AV.one (AC.con (Value.func (Fn.func 25) (List.toArray []) (List.toArray [])))), AV.undef, AV.undef, (AV.one (AC.int IntKind.i64 x10)), (AV.one (AC.ptr 13 0 0)), (AV.one (AC.int IntKind.i64 x13)), AV.undef, AV.undef, AV.undef, AV.undef, AV.undef, AV.undef, AV.undef, AV.undef, AV.undef, AV.undef, AV.undef, AV.undef, AV.undef, AV.undef, AV.undef, AV.undef, AV.undef, AV.undef, AV.undef, AV.undef, AV.undef, (AV.one (AC.int IntKind.i64 x10)), (AV.one (AC.vec 19)), (AV.one (AC.int IntKind.i64 (ofNat (llen x12)))), (AV.one (AC.lit true)), AV.undef, AV.undef, (AV.agg [(Seg.ints IntKind.u8 176 (Go.Blk.ks k))]), (AV.agg [(Seg.ints IntKind.u8 16 x11)]), (AV.one (AC.con (Value.func (Fn.func 25) (List.toArray []) (List.toArray [])))), (AV.agg [(Seg.ints IntKind.u8 16 (Go.Blk.enc (Go.Blk.ks k) x11))]), (AV.one (AC.int IntKind.i64 x10)), AV.undef, AV.undef, AV.undef, AV.undef, AV.undef, AV.undef, AV.undef, AV.undef, AV.undef, AV.undef, AV.undef, AV.undef, AV.undef, AV.undef, AV.undef, AV.undef, AV.undef, AV.undef, AV.undef, AV.undef, AV.undef, AV.undef, (AV.tup [])] [(4, Blk.own 22 [(Seg.ints IntKind.u8 16 x11)]), (7, Blk.own 28 [(Seg.ints IntKind.u8 176 (Go.Blk.ks k))]), (13, Blk.own 22 [(Seg.ints IntKind.u8 16 (Go.Blk.enc (Go.Blk.ks k) x11))]), (19, Blk.vec [(Col.ints IntKind.u8 x14)]), (200002, Blk.rview [(Col.ints IntKind.u8 p)])]

def bMask.l3 (R : AV → Mem → Prop) (k : List Int) (p : List Int) (fuel : Nat) (x10 : Int) (x11 : List Int) (x12 : List Int) : Prop := run Try.prog gamB4 [] (resh Try.prog [] Try.f18.results.toList R) fuel [.code (cAt (bodyOf Try.f18) [1, 1, 1, 1, 1, 1, 0, 1, 0, 0]), .inLoop (cAt (bodyOf Try.f18) [1, 1, 1, 1, 1, 1, 0, 1, 0, 0]), .inBlock 2, .code (cAt (bodyOf Try.f18) [1, 1, 1, 1, 1, 1, 1])] [AV.undef, AV.undef, AV.undef, AV.undef, (AV.one (AC.ptr 4 0 0)), AV.undef, AV.undef, (AV.one (AC.ptr 7 0 0)), (AV.one (AC.vec 19)), (AV.one (AC.con (Value.func (Fn.func 25) (List.toArray []) (List.toArray [])))), AV.undef, AV.undef, (AV.one (AC.int IntKind.i64 x10)), AV.undef, AV.undef, AV.undef, AV.undef, AV.undef, AV.undef, AV.undef, AV.undef, AV.undef, AV.undef, AV.undef, AV.undef, AV.undef, AV.undef, AV.undef, AV.undef, AV.undef, AV.undef, AV.undef, AV.undef, AV.undef, AV.undef, AV.undef, AV.undef, AV.undef, AV.undef, AV.undef, AV.undef, AV.undef, AV.undef, AV.undef, AV.undef, AV.undef, AV.undef, AV.undef, AV.undef, AV.undef, AV.undef, AV.undef, AV.undef, AV.undef, AV.undef, AV.undef, AV.undef, AV.undef, AV.undef, AV.undef, AV.undef, AV.undef, AV.undef, AV.undef, AV.undef, AV.undef, AV.undef, AV.undef, AV.undef, (AV.tup [])] [(4, Blk.own 22 [(Seg.ints IntKind.u8 16 x11)]), (7, Blk.own 28 [(Seg.ints IntKind.u8 176 (Go.Blk.ks k))]), (19, Blk.vec [(Col.ints IntKind.u8 x12)]), (200002, Blk.rview [(Col.ints IntKind.u8 p)])]

theorem bMask.l2_succ (R : AV → Mem → Prop) (x3 : Int) (x5 : List Int) (k : List Int) (x4 : List Int) (x2 : List Int) (p : List Int) (fuel : Nat) (x6 : Int) (x7 : List Int) : bMask.l2 R x3 x5 k x4 x2 p (fuel + 1) x6 x7 = (((((ilt x6 (imin (add IntKind.i64 x3 16) (ofNat (llen x7)))) = true) → ((InB x6 (llen x7)) ∧ ((InB (sub IntKind.i64 x6 x3) 16) ∧ ((Low (nadd 0 (nat (sub IntKind.i64 x6 x3))) 16) ∧ ((InB x6 (llen x7)) ∧ (let y8 : Int := (bxor IntKind.u8 (lget x7 (nat x6)) (lget (Go.Blk.enc (Go.Blk.ks k) x4) (nadd 0 (nat (sub IntKind.i64 x6 x3))))); (let y9 : List Int := (lset x7 (nat x6) (bxor IntKind.u8 (lget x7 (nat x6)) (lget (Go.Blk.enc (Go.Blk.ks k) x4) (nadd 0 (nat (sub IntKind.i64 x6 x3)))))); (bMask.l2 R x3 x5 k x4 x2 p fuel (add IntKind.i64 x6 1) y9)))))))) ∧ (((ilt x6 (imin (add IntKind.i64 x3 16) (ofNat (llen x7)))) = false) → ((Go.Blk.BL 16 x4) ∧ (bMask.l1 R k x2 p fuel (add IntKind.i64 x3 16) (Go.Blk.up x4) x7))))) := by kernel_rfl
theorem bMask.l2_zero (R : AV → Mem → Prop) (x3 : Int) (x5 : List Int) (k : List Int) (x4 : List Int) (x2 : List Int) (p : List Int) (x6 : Int) (x7 : List Int) : bMask.l2 R x3 x5 k x4 x2 p 0 x6 x7 = False := by kernel_rfl

theorem bMask.l1_succ (R : AV → Mem → Prop) (k : List Int) (x2 : List Int) (p : List Int) (fuel : Nat) (x3 : Int) (x4 : List Int) (x5 : List Int) : bMask.l1 R k x2 p (fuel + 1) x3 x4 x5 = (((((ilt x3 (ofNat (llen x5))) = true) → ((Tbl x2) ∧ (((Go.Blk.BL 176 (Go.Blk.ks k)) ∧ (Go.Blk.BL 16 x4)) ∧ (bMask.l2 R x3 x5 k x4 x2 p fuel x3 x5)))) ∧ (((ilt x3 (ofNat (llen x5))) = false) → (R (AV.one (AC.vec 19)) [(4, Blk.own 22 [(Seg.ints IntKind.u8 16 x4)]), (7, Blk.own 28 [(Seg.ints IntKind.u8 176 (Go.Blk.ks k))]), (10, Blk.own 60 [(Seg.ints IntKind.u8 256 x2)]), (19, Blk.vec [(Col.ints IntKind.u8 x5)]), (200002, Blk.rview [(Col.ints IntKind.u8 p)])])))) := by kernel_rfl
theorem bMask.l1_zero (R : AV → Mem → Prop) (k : List Int) (x2 : List Int) (p : List Int) (x3 : Int) (x4 : List Int) (x5 : List Int) : bMask.l1 R k x2 p 0 x3 x4 x5 = False := by kernel_rfl

theorem bMask.l0_succ (R : AV → Mem → Prop) (s : List Int) (k : List Int) (y0 : List Int) (p : List Int) (fuel : Nat) (x1 : Int) (x2 : List Int) : bMask.l0 R s k y0 p (fuel + 1) x1 x2 = (((((ilt x1 256) = true) → ((Byte (conv IntKind.u8 x1)) ∧ ((InB x1 256) ∧ ((Low (nadd 0 (nat x1)) 256) ∧ (bMask.l0 R s k y0 p fuel (add IntKind.i64 x1 1) (lset x2 (nadd 0 (nat x1)) (fsub (conv IntKind.u8 x1)))))))) ∧ (((ilt x1 256) = false) → (bMask.l1 R k x2 p fuel 0 s y0)))) := by kernel_rfl
theorem bMask.l0_zero (R : AV → Mem → Prop) (s : List Int) (k : List Int) (y0 : List Int) (p : List Int) (x1 : Int) (x2 : List Int) : bMask.l0 R s k y0 p 0 x1 x2 = False := by kernel_rfl

theorem bMask.l4_succ (R : AV → Mem → Prop) (x10 : Int) (x12 : List Int) (k : List Int) (x11 : List Int) (p : List Int) (fuel : Nat) (x13 : Int) (x14 : List Int) : bMask.l4 R x10 x12 k x11 p (fuel + 1) x13 x14 = (((((ilt x13 (imin (add IntKind.i64 x10 16) (ofNat (llen x14)))) = true) → ((InB x13 (llen x14)) ∧ ((InB (sub IntKind.i64 x13 x10) 16) ∧ ((Low (nadd 0 (nat (sub IntKind.i64 x13 x10))) 16) ∧ ((InB x13 (llen x14)) ∧ (let y15 : Int := (bxor IntKind.u8 (lget x14 (nat x13)) (lget (Go.Blk.enc (Go.Blk.ks k) x11) (nadd 0 (nat (sub IntKind.i64 x13 x10))))); (let y16 : List Int := (lset x14 (nat x13) (bxor IntKind.u8 (lget x14 (nat x13)) (lget (Go.Blk.enc (Go.Blk.ks k) x11) (nadd 0 (nat (sub IntKind.i64 x13 x10)))))); (bMask.l4 R x10 x12 k x11 p fuel (add IntKind.i64 x13 1) y16)))))))) ∧ (((ilt x13 (imin (add IntKind.i64 x10 16) (ofNat (llen x14)))) = false) → ((Go.Blk.BL 16 x11) ∧ (bMask.l3 R k p fuel (add IntKind.i64 x10 16) (Go.Blk.up x11) x14))))) := by kernel_rfl
theorem bMask.l4_zero (R : AV → Mem → Prop) (x10 : Int) (x12 : List Int) (k : List Int) (x11 : List Int) (p : List Int) (x13 : Int) (x14 : List Int) : bMask.l4 R x10 x12 k x11 p 0 x13 x14 = False := by kernel_rfl

theorem bMask.l3_succ (R : AV → Mem → Prop) (k : List Int) (p : List Int) (fuel : Nat) (x10 : Int) (x11 : List Int) (x12 : List Int) : bMask.l3 R k p (fuel + 1) x10 x11 x12 = (((((ilt x10 (ofNat (llen x12))) = true) → (((Go.Blk.BL 176 (Go.Blk.ks k)) ∧ (Go.Blk.BL 16 x11)) ∧ (bMask.l4 R x10 x12 k x11 p fuel x10 x12))) ∧ (((ilt x10 (ofNat (llen x12))) = false) → (R (AV.one (AC.vec 19)) [(4, Blk.own 22 [(Seg.ints IntKind.u8 16 x11)]), (7, Blk.own 28 [(Seg.ints IntKind.u8 176 (Go.Blk.ks k))]), (19, Blk.vec [(Col.ints IntKind.u8 x12)]), (200002, Blk.rview [(Col.ints IntKind.u8 p)])])))) := by kernel_rfl
theorem bMask.l3_zero (R : AV → Mem → Prop) (k : List Int) (p : List Int) (x10 : Int) (x11 : List Int) (x12 : List Int) : bMask.l3 R k p 0 x10 x11 x12 = False := by kernel_rfl

theorem bMask_vc (R : AV → Mem → Prop) (fuel : Nat) (k : List Int) (s : List Int) (p : List Int) : callsx Try.prog gamB4 [] Try.f18 (fuel + 1) [.agg [.ints .u8 16 k], .agg [.ints .u8 16 s], .one (.vec 200002)] [(200002, .rview [.ints .u8 p])] R = (((Go.Blk.BL 16 k) ∧ ((Mk (ofNat (llen p)) (ofNat (llen p)) 1) ∧ (let y0 : List Int := (lput (lzeros (nat (ofNat (llen p)))) 0 (lsub p 0 (nmin (llen p) (llen (lzeros (nat (ofNat (llen p)))))))); ((((igt (ofNat (llen p)) 32) = true) → (bMask.l0 R s k y0 p fuel 0 (lzeros 256))) ∧ (((igt (ofNat (llen p)) 32) = false) → (bMask.l3 R k p fuel 0 s y0))))))) := by kernel_rfl

theorem bStream_vc (R : AV → Mem → Prop) (fuel : Nat) (k : List Int) (s : List Int) (n : Int) : callsx Try.prog gamB6 [] Try.f20 (fuel + 1) [.agg [.ints .u8 16 k], .agg [.ints .u8 16 s], .one (.int .i64 n)] [] R = (((((ilt n 0) = false) → ((((igt n 65536) = true) → (R (AV.one (AC.con (Value.slice (Option.none) 0 0))) [(3, Blk.own 22 [(Seg.ints IntKind.u8 16 k)]), (4, Blk.own 22 [(Seg.ints IntKind.u8 16 s)])])) ∧ (((igt n 65536) = false) → ((Mk n n 1) ∧ ((((Go.Blk.BL 16 k) ∧ (Go.Blk.BL 16 s)) ∧ ((Short (lzeros (nat n))) ∧ (Bs (lzeros (nat n))))) ∧ (R (AV.one (AC.vec 17)) [(3, Blk.own 22 [(Seg.ints IntKind.u8 16 k)]), (4, Blk.own 22 [(Seg.ints IntKind.u8 16 s)]), (16, Blk.vec [(Col.ints IntKind.u8 (lzeros (nat n)))]), (17, Blk.vec [(Col.ints IntKind.u8 (Go.Blk.mask (Go.Blk.ks k) s (lzeros (nat n))))])])))))) ∧ (((ilt n 0) = true) → (R (AV.one (AC.con (Value.slice (Option.none) 0 0))) [(3, Blk.own 22 [(Seg.ints IntKind.u8 16 k)]), (4, Blk.own 22 [(Seg.ints IntKind.u8 16 s)])])))) := by kernel_rfl

theorem rStream_vc (R : AV → Mem → Prop) (fuel : Nat) (k : List Int) (s : List Int) (n : Int) : callsx Try.prog gamB6 [] Try.f21 (fuel + 1) [.agg [.ints .u8 16 k], .agg [.ints .u8 16 s], .one (.int .i64 n)] [] R = (((((ilt n 0) = false) → ((((igt n 65536) = true) → (R (AV.one (AC.con (Value.slice (Option.none) 0 0))) [(3, Blk.own 22 [(Seg.ints IntKind.u8 16 k)]), (4, Blk.own 22 [(Seg.ints IntKind.u8 16 s)])])) ∧ (((igt n 65536) = false) → ((Mk n n 1) ∧ ((((Go.Blk.BL 16 k) ∧ (Go.Blk.BL 16 s)) ∧ ((Short (lzeros (nat n))) ∧ (Bs (lzeros (nat n))))) ∧ (R (AV.one (AC.vec 17)) [(3, Blk.own 22 [(Seg.ints IntKind.u8 16 k)]), (4, Blk.own 22 [(Seg.ints IntKind.u8 16 s)]), (16, Blk.vec [(Col.ints IntKind.u8 (lzeros (nat n)))]), (17, Blk.vec [(Col.ints IntKind.u8 (Go.Blk.mask (Go.Blk.ks k) s (lzeros (nat n))))])])))))) ∧ (((ilt n 0) = true) → (R (AV.one (AC.con (Value.slice (Option.none) 0 0))) [(3, Blk.own 22 [(Seg.ints IntKind.u8 16 k)]), (4, Blk.own 22 [(Seg.ints IntKind.u8 16 s)])])))) := by kernel_rfl

end Go.Proofs.Ytkecbjohbihfmaa.G

/- Encryption and decryption, by program and document. -/
set_option linter.unusedVariables false
set_option linter.unusedSimpArgs false
namespace Go.Blk
open Go.Sx Go.Fld
theorem qx_bl {b k : List Int} (hb : BL 16 b) (hk : BL 16 k) : BL 16 (qx b k) := BL.tab fun i _ => byte_xor (hb.get i) (hk.get i)
theorem qe_sub {b : List Int} : BL 16 (qe fsub b) := BL.tab fun i _ => byte_sub
theorem qe_unsub {b : List Int} : BL 16 (qe funsub b) := BL.tab fun i _ => byte_unsub
theorem qt_bl {n : Nat} {b : List Int} (hb : BL 16 b) : BL 16 (qt n b) := BL.tab fun i _ => hb.get _
theorem lsub_bl {w : List Int} {n : Nat} (hw : BL n w) {o z : Nat} (h : o + z ≤ n) : BL z (lsub w o z) := ⟨lsub_len _ _ _ (by rw [hw.len]; exact h), fun x hx => hw.all x (List.mem_of_mem_drop (List.mem_of_mem_take hx))⟩
theorem rk_bl {w : List Int} (hw : BL 176 w) {i : Nat} (hi : i < 11) : BL 16 (rk w i) := lsub_bl hw (by omega)
theorem mixN_byte {c f : List Int} (hf : ∀ x ∈ natL f, x < 256) : ∀ x ∈ fmix c f, Byte x := by
  have hg : ∀ j, (natL f).getD j 0 < 256 := fun j => by
    rw [List.getD_eq_getElem?_getD]
    cases hq : (natL f)[j]? with
    | none => simp
    | some x => exact hf x (List.mem_of_getElem? hq)
  have ml_lt : ∀ (d r i s : Nat), s < 256 → ml (natL c) (natL f) r d i s < 256 := by
    intro d
    induction d with
    | zero => intro r i s hs; exact hs
    | succ d ih => intro r i s hs; exact ih r (i + 1) _ (xor_lt hs (gm_lt (hg _)))
  have m1 : ∀ r, mix1 (natL c) (natL f) r < 256 := fun r => ml_lt 4 r 0 0 (by decide)
  intro x hx
  obtain ⟨n, hn, rfl⟩ := List.mem_map.1 hx
  simp only [mixN, List.mem_cons, List.not_mem_nil, or_false] at hn
  rcases hn with rfl | rfl | rfl | rfl <;> exact Byte.of (m1 _)
theorem fmix_bl {c f : List Int} (hf : ∀ x ∈ natL f, x < 256) : BL 4 (fmix c f) := ⟨rfl, mixN_byte hf⟩
theorem qc_bl {f b : List Int} (hf : ∀ x ∈ natL f, x < 256) : BL 16 (qc f b) := BL.tab fun i _ => (fmix_bl hf).get _
theorem there : ∀ x ∈ natL [2, 3, 1, 1], x < 256 := by decide
theorem back_ : ∀ x ∈ natL [14, 11, 13, 9], x < 256 := by decide
end Go.Blk
namespace Go.Proofs.Ytkecbjohbihfmaa.G
open Go Go.Sx Go.Fld Go.Blk
set_option linter.unusedSimpArgs false
set_option linter.unusedVariables false

theorem encN_bl {w : List Int} (hw : BL 176 w) : ∀ (n i : Nat) {x : List Int}, n + i = 11 → BL 16 x → BL 16 (encN w n i x)
  | 0, _, _, _, h => h
  | n + 1, i, x, hn, h => by
    refine encN_bl hw n (i + 1) (by omega) (qx_bl ?_ (rk_bl hw (by omega)))
    split
    · exact qc_bl there
    · exact qt_bl qe_sub
theorem enc_bl {w b : List Int} (hw : BL 176 w) (hb : BL 16 b) : BL 16 (enc w b) := encN_bl hw 10 1 rfl (qx_bl hb (rk_bl hw (by decide)))
theorem decN_bl {w : List Int} (hw : BL 176 w) : ∀ (n : Nat) {x : List Int}, n ≤ 10 → BL 16 x → BL 16 (decN w n x)
  | 0, _, _, h => h
  | n + 1, x, hn, h => by
    refine decN_bl hw n (by omega) ?_
    show BL 16 (if 1 < n + 1 then _ else _)
    split
    · exact qc_bl back_
    · exact qx_bl qe_unsub (rk_bl hw (by omega))
theorem dec_bl {w b : List Int} (hw : BL 176 w) (hb : BL 16 b) : BL 16 (dec w b) := decN_bl hw 10 (by decide) (qx_bl hb (rk_bl hw (by decide)))

theorem rk_nat (w : List Int) (i : Nat) : lsub w (nadd 0 (nmul (nat (i : Int)) 16)) 16 = rk w i := by
  simp only [nadd_def, nmul_def, nat_cast, rk]; congr 1; omega

theorem encS_run {R : AV → Mem → Prop} {w r : List Int} (hw : BL 176 w) (h : ∀ σ, R (.agg [.ints .u8 16 r]) σ) : ∀ (n i : Nat) (x : List Int), n + i = 11 → 1 ≤ i → BL 16 x → encN w n i x = r → encS.l0 R w (n + 1) (i : Int) x
  | 0, i, x, hn, h1, hx, e => by
    rw [encS.l0_succ]
    refine ⟨fun q => ?_, fun _ => ?_⟩
    · rw [ile_true] at q; omega
    · rw [show x = r from e]; exact h _
  | n + 1, i, x, hn, h1, hx, e => by
    rw [encS.l0_succ]
    have hk := rk_bl hw (i := i) (by omega)
    have hI : InB (i : Int) 11 := ⟨by omega, by omega⟩
    have hF : Fits (nadd (nadd 0 (nmul (nat (i : Int)) 16)) 16) 176 := ⟨by simp only [nadd_def, nmul_def, nat_cast]; omega⟩
    rw [rk_nat, add1_i64 (by omega)]
    refine ⟨fun _ => ⟨hx, ⟨qe_sub, by decide, by decide⟩, fun q => ⟨qt_bl qe_sub, hI, hF, ⟨qc_bl there, hk⟩, ?_⟩, fun q => ⟨hI, hF, ⟨qt_bl qe_sub, hk⟩, ?_⟩⟩, fun q => ?_⟩
    · rw [ilt_true] at q
      exact encS_run hw h n (i + 1) _ (by omega) (by omega) (qx_bl (qc_bl there) hk) (by rw [← e]; show _ = encN w n (i + 1) (qx (if i < 10 then _ else _) _); rw [if_pos (by omega)])
    · rw [ilt_false] at q
      exact encS_run hw h n (i + 1) _ (by omega) (by omega) (qx_bl (qt_bl qe_sub) hk) (by rw [← e]; show _ = encN w n (i + 1) (qx (if i < 10 then _ else _) _); rw [if_neg (by omega)])
    · rw [ile_false] at q; omega

theorem encT_run {R : AV → Mem → Prop} {w r t : List Int} (ht : Tbl t) (hw : BL 176 w) (h : ∀ σ, R (.agg [.ints .u8 16 r]) σ) : ∀ (n i : Nat) (x : List Int), n + i = 11 → 1 ≤ i → BL 16 x → encN w n i x = r → encT.l0 R w t (n + 1) (i : Int) x
  | 0, i, x, hn, h1, hx, e => by
    rw [encT.l0_succ]
    refine ⟨fun q => ?_, fun _ => ?_⟩
    · rw [ile_true] at q; omega
    · rw [show x = r from e]; exact h _
  | n + 1, i, x, hn, h1, hx, e => by
    rw [encT.l0_succ]
    have hk := rk_bl hw (i := i) (by omega)
    have hI : InB (i : Int) 11 := ⟨by omega, by omega⟩
    have hF : Fits (nadd (nadd 0 (nmul (nat (i : Int)) 16)) 16) 176 := ⟨by simp only [nadd_def, nmul_def, nat_cast]; omega⟩
    rw [rk_nat, add1_i64 (by omega)]
    refine ⟨fun _ => ⟨ht, hx, ⟨qe_sub, by decide, by decide⟩, fun q => ⟨qt_bl qe_sub, hI, hF, ⟨qc_bl there, hk⟩, ?_⟩, fun q => ⟨hI, hF, ⟨qt_bl qe_sub, hk⟩, ?_⟩⟩, fun q => ?_⟩
    · rw [ilt_true] at q
      exact encT_run ht hw h n (i + 1) _ (by omega) (by omega) (qx_bl (qc_bl there) hk) (by rw [← e]; show _ = encN w n (i + 1) (qx (if i < 10 then _ else _) _); rw [if_pos (by omega)])
    · rw [ilt_false] at q
      exact encT_run ht hw h n (i + 1) _ (by omega) (by omega) (qx_bl (qt_bl qe_sub) hk) (by rw [← e]; show _ = encN w n (i + 1) (qx (if i < 10 then _ else _) _); rw [if_neg (by omega)])
    · rw [ile_false] at q; omega

theorem good_encrypted : Sx.Good Try.prog 27 encryptedS := by
  refine Sx.Good.reads (D := []) mixed gamB2_good Try.func27 (by kernel_rfl) rfl fun d args σ K h => ?_
  simp only [encryptedS] at h
  split at h <;> try exact h.elim
  rename_i w b x
  unfold fnS at h
  have h0 : ∀ {w b : List Int}, BL 176 w → BL 16 b → BL 16 (rk w 0) := fun hw _ => rk_bl hw (by decide)
  split at h
  · rename_i g hg
    obtain rfl := conFn_eq hg
    split at h <;> try exact h.elim
    rename_i hq
    obtain rfl := beq_nat hq
    obtain ⟨⟨hw, hb⟩, hK⟩ := h
    refine ⟨_, [], .plain (plain_ints _ _ _) (.plain (plain_ints _ _ _) (.plain (plain_con _) (.nil _))), by simp, 11 + 1, ?_⟩
    rw [encS_vc]
    exact ⟨⟨by decide, by decide⟩, ⟨by decide⟩, ⟨hb, h0 hw hb⟩, encS_run hw (fun σ' => res_arr rfl hK) 10 1 _ rfl (by decide) (qx_bl hb (h0 hw hb)) rfl⟩
  · split at h <;> try exact h.elim
    rename_i n hn
    obtain rfl := isTold_eq hn
    split at h <;> try exact h.elim
    rename_i bk hbk
    split at h <;> try exact h.elim
    rename_i t ht
    obtain ⟨hT, ⟨hw, hb⟩, hK⟩ := h
    refine ⟨[.agg [.ints .u8 176 w], .agg [.ints .u8 16 b], .one (.clo 38 200002 0 0)], [(200002, .view [.ints .u8 256 t])], .plain (plain_ints _ _ _) (.plain (plain_ints _ _ _) (ht ▸ .clo hbk (by rw [ht]; intro m; rfl) (.nil _))), by simp, 11 + 1, ?_⟩
    rw [encT_vc]
    exact ⟨⟨by decide, by decide⟩, ⟨by decide⟩, ⟨hb, h0 hw hb⟩, encT_run hT hw (fun σ' => res_arr rfl hK) 10 1 _ rfl (by decide) (qx_bl hb (h0 hw hb)) rfl⟩

theorem qt1_at {b : List Int} (j : Nat) (hj : j < 16) : lget (qt 1 (qe fsub b)) j = fsub (lget b ((j + 4 * (j % 4)) % 16)) := by
  rw [qt, tab_lget _ hj, qe, tab_lget _ (by omega)]
  congr 2; omega

theorem rWith_run {R : AV → Mem → Prop} {w r : List Int} (hw : BL 176 w) (h : ∀ σ, R (.agg [.ints .u8 16 r]) σ) : ∀ (n i : Nat) (x : List Int), n + i = 11 → 1 ≤ i → BL 16 x → encN w n i x = r → rWith.l0 R w (18 * n + 1) (i : Int) x
  | 0, i, x, hn, h1, hx, e => by
    rw [rWith.l0_succ]
    refine ⟨fun q => ?_, fun _ => ?_⟩
    · rw [ile_true] at q; omega
    · rw [show x = r from e]; exact h _
  | n + 1, i, x, hn, h1, hx, e => by
    rw [rWith.l0_succ]
    have hk := rk_bl hw (i := i) (by omega)
    have hI : InB (i : Int) 11 := ⟨by omega, by omega⟩
    refine ⟨fun _ => ?_, fun q => ?_⟩
    · have key := loop_n (fun f j s => rWith.l1 R (i : Int) w x f j s) 16 (fun j => upto 16 j (lget (qt 1 (qe fsub x))) fun _ => 0) 1 (18 * n + 1 + 1)
        (fun f j hj hf => by
          rw [rWith.l1_succ]
          refine ⟨fun _ => ?_, fun q => ?_⟩
          · have e1 : rem (j : Int) 4 = ((j % 4 : Nat) : Int) := remN (b := 4)
            have e2 : mul .i64 4 ((j % 4 : Nat) : Int) = ((4 * (j % 4) : Nat) : Int) := mulN_i64 (a := 4) (by omega)
            have e3 : add .i64 (j : Int) ((4 * (j % 4) : Nat) : Int) = ((j + 4 * (j % 4) : Nat) : Int) := addN_i64 (by omega)
            have e4 : rem ((j + 4 * (j % 4) : Nat) : Int) 16 = (((j + 4 * (j % 4)) % 16 : Nat) : Int) := remN (b := 16)
            obtain ⟨m, hm, em⟩ := (hx.get ((j + 4 * (j % 4)) % 16)).nat
            have e5 : sget boxC m = lget (qt 1 (qe fsub x)) j := by rw [qt1_at j hj, em, box_at m hm]
            simp only [e1, e2, e3, e4, nat_cast, nadd_def, Nat.zero_add, em, e5, InB_iff, Low_iff, NeZ_iff]
            refine ⟨by decide, by decide, by omega, by omega, by omega, by omega, hj, ?_⟩
            rw [add1_i64 (by omega), upto_lset rfl]
            exact hf
          · rw [ilt_false] at q; omega)
        (by
          rw [rWith.l1_succ]
          refine ⟨fun q => ?_, fun _ => ?_⟩
          · rw [ilt_true] at q; omega
          · have ey : upto 16 16 (lget (qt 1 (qe fsub x))) (fun _ => 0) = qt 1 (qe fsub x) := by rw [upto_done]; exact (eq_tab (tab_len _ _)).symm
            simp only [ey, add1_i64 (show i < 9223372036854775807 by omega), nat_cast]
            refine ⟨fun q => ⟨qt_bl qe_sub, ⟨⟨qc_bl there, hw⟩, hI⟩, ?_⟩, fun q => ⟨⟨⟨qt_bl qe_sub, hw⟩, hI⟩, ?_⟩⟩
            · rw [ilt_true] at q
              exact rWith_run hw h n (i + 1) _ (by omega) (by omega) (qx_bl (qc_bl there) hk) (by rw [← e]; show _ = encN w n (i + 1) (qx (if i < 10 then _ else _) _); rw [if_pos (by omega)])
            · rw [ilt_false] at q
              exact rWith_run hw h n (i + 1) _ (by omega) (by omega) (qx_bl (qt_bl qe_sub) hk) (by rw [← e]; show _ = encN w n (i + 1) (qx (if i < 10 then _ else _) _); rw [if_neg (by omega)])) 0 (Nat.zero_le _)
      rw [upto_zero, ← lzeros_tab] at key
      exact key
    · rw [ile_false] at q; omega

theorem good_rwith : Sx.Good Try.prog 15 encS := by
  refine Sx.Good.pure (D := []) mixed gamB3_good Try.func15 (by kernel_rfl) rfl fun d args σ K h => ?_
  simp only [Sx.encS] at h
  split at h <;> try exact h.elim
  rename_i w b
  obtain ⟨⟨hw, hb⟩, hK⟩ := h
  refine ⟨by simp [plain_ints], _, plain_ints _ _ _, hK, 181 + 1, ?_⟩
  rw [rWith_vc]
  exact ⟨⟨⟨hb, hw⟩, ⟨by decide, by decide⟩⟩, rWith_run hw (fun σ' => rfl) 10 1 _ rfl (by decide) (qx_bl hb (rk_bl hw (by decide))) rfl⟩

theorem gamB4_good : GoodG Try.prog gamB4 :=
  (gamB3_good.ext good_encrypted ⟨_, Try.func27, by decide, by kernel_rfl⟩).ext good_rwith ⟨_, Try.func15, by decide, by kernel_rfl⟩

theorem good_enc : Sx.Good Try.prog 11 Sx.encS := by
  refine Sx.Good.pure (D := []) mixed gamB4_good Try.func11 (by kernel_rfl) rfl fun d args σ K h => ?_
  simp only [Sx.encS] at h
  split at h <;> try exact h.elim
  rename_i w b
  obtain ⟨hc, hK⟩ := h
  refine ⟨by simp [plain_ints], _, plain_ints _ _ _, hK, 0 + 1, ?_⟩
  rw [bEnc_vc]
  exact ⟨hc, rfl⟩

theorem bDec_run {R : AV → Mem → Prop} {w r : List Int} (hw : BL 176 w) (h : ∀ σ, R (.agg [.ints .u8 16 r]) σ) : ∀ (n : Nat) (x : List Int), n ≤ 10 → BL 16 x → decN w n x = r → bDec.l0 R w (n + 1) (n : Int) x
  | 0, x, hn, hx, e => by
    rw [bDec.l0_succ]
    refine ⟨fun q => ?_, fun _ => ?_⟩
    · rw [ige_true] at q; omega
    · rw [show x = r from e]; exact h _
  | n + 1, x, hn, hx, e => by
    rw [bDec.l0_succ]
    have hk := rk_bl hw (i := n) (by omega)
    have e1 : sub .i64 ((n + 1 : Nat) : Int) 1 = (n : Int) := by rw [sub_i64 (by omega) (by omega)]; omega
    rw [e1, rk_nat]
    have hF : Fits (nadd (nadd 0 (nmul (nat (n : Int)) 16)) 16) 176 := ⟨by simp only [nadd_def, nmul_def, nat_cast]; omega⟩
    have hy := qx_bl (b := qe funsub (qt 3 x)) (k := rk w n) qe_unsub hk
    refine ⟨fun _ => ⟨⟨by omega, by omega⟩, hF, ⟨hx, ⟨by decide, by decide⟩⟩, qt_bl hx, ⟨qe_unsub, hk⟩, fun q => ⟨hy, ?_⟩, fun q => ?_⟩, fun q => ?_⟩
    · rw [igt_true] at q
      exact bDec_run hw h n _ (by omega) (qc_bl back_) (by rw [← e]; show _ = decN w n (if 1 < n + 1 then _ else _); rw [if_pos (by omega)])
    · rw [igt_false] at q
      exact bDec_run hw h n _ (by omega) hy (by rw [← e]; show _ = decN w n (if 1 < n + 1 then _ else _); rw [if_neg (by omega)])
    · rw [ige_false] at q; omega

theorem good_dec : Sx.Good Try.prog 13 Sx.decS := by
  refine Sx.Good.pure (D := []) mixed gamB2_good Try.func13 (by kernel_rfl) rfl fun d args σ K h => ?_
  simp only [Sx.decS] at h
  split at h <;> try exact h.elim
  rename_i w b
  obtain ⟨⟨hw, hb⟩, hK⟩ := h
  refine ⟨by simp [plain_ints], _, plain_ints _ _ _, hK, 11 + 1, ?_⟩
  rw [bDec_vc]
  have hk := rk_bl hw (i := 10) (by decide)
  exact ⟨⟨by decide, by decide⟩, ⟨by decide⟩, ⟨hb, hk⟩, bDec_run hw (fun σ' => rfl) 10 _ (by decide) (qx_bl hb hk) rfl⟩
end Go.Proofs.Ytkecbjohbihfmaa.G

/- The block cipher's outer functions, by program and document. -/
namespace Go.Fld
/-- mixed three times -/
def m444 (f : List Nat) (r a b c d : Nat) : Nat := m4 f r (m44 f f 0 a b c d) (m44 f f 1 a b c d) (m44 f f 2 a b c d) (m44 f f 3 a b c d)
theorem m444_add (f : List Nat) (r a b c d a' b' c' d' : Nat) : m444 f r (a ^^^ a') (b ^^^ b') (c ^^^ c') (d ^^^ d') = m444 f r a b c d ^^^ m444 f r a' b' c' d' := by
  simp only [m444, m44_add, m4_add]
theorem bits3 : ∀ i, i < 8 → ∀ r, r < 4 →
    (m444 [2, 3, 1, 1] r (2 ^ i) 0 0 0 = m4 [14, 11, 13, 9] r (2 ^ i) 0 0 0) ∧ (m444 [2, 3, 1, 1] r 0 (2 ^ i) 0 0 = m4 [14, 11, 13, 9] r 0 (2 ^ i) 0 0) ∧
    (m444 [2, 3, 1, 1] r 0 0 (2 ^ i) 0 = m4 [14, 11, 13, 9] r 0 0 (2 ^ i) 0) ∧ (m444 [2, 3, 1, 1] r 0 0 0 (2 ^ i) = m4 [14, 11, 13, 9] r 0 0 0 (2 ^ i)) := by decide +kernel
theorem three {a b c d : Nat} (hl : L4 a b c d) : ∀ r, r < 4 → m444 [2, 3, 1, 1] r a b c d = m4 [14, 11, 13, 9] r a b c d := by
  obtain ⟨ha, hb, hc, hd⟩ := hl
  intro r hr
  have split3 : ∀ (F : Nat → Nat → Nat → Nat → Nat), (∀ a b c d a' b' c' d', F (a ^^^ a') (b ^^^ b') (c ^^^ c') (d ^^^ d') = F a b c d ^^^ F a' b' c' d') → F a b c d = ((F a 0 0 0 ^^^ F 0 b 0 0) ^^^ F 0 0 c 0) ^^^ F 0 0 0 d := fun F h => by
    rw [← h, ← h, ← h]; simp
  rw [split3 (m444 [2, 3, 1, 1] r) (m444_add _ r), split3 (m4 [14, 11, 13, 9] r) (m4_add _ r),
    lin_ext (f := fun x => m444 [2, 3, 1, 1] r x 0 0 0) (g := fun x => m4 [14, 11, 13, 9] r x 0 0 0) (fun x y _ _ => by have := m444_add [2, 3, 1, 1] r x 0 0 0 y 0 0 0; simpa using this) (fun x y _ _ => by have := m4_add [14, 11, 13, 9] r x 0 0 0 y 0 0 0; simpa using this) (fun i hi => (bits3 i hi r hr).1) a ha,
    lin_ext (f := fun x => m444 [2, 3, 1, 1] r 0 x 0 0) (g := fun x => m4 [14, 11, 13, 9] r 0 x 0 0) (fun x y _ _ => by have := m444_add [2, 3, 1, 1] r 0 x 0 0 0 y 0 0; simpa using this) (fun x y _ _ => by have := m4_add [14, 11, 13, 9] r 0 x 0 0 0 y 0 0; simpa using this) (fun i hi => (bits3 i hi r hr).2.1) b hb,
    lin_ext (f := fun x => m444 [2, 3, 1, 1] r 0 0 x 0) (g := fun x => m4 [14, 11, 13, 9] r 0 0 x 0) (fun x y _ _ => by have := m444_add [2, 3, 1, 1] r 0 0 x 0 0 0 y 0; simpa using this) (fun x y _ _ => by have := m4_add [14, 11, 13, 9] r 0 0 x 0 0 0 y 0; simpa using this) (fun i hi => (bits3 i hi r hr).2.2.1) c hc,
    lin_ext (f := fun x => m444 [2, 3, 1, 1] r 0 0 0 x) (g := fun x => m4 [14, 11, 13, 9] r 0 0 0 x) (fun x y _ _ => by have := m444_add [2, 3, 1, 1] r 0 0 0 x 0 0 0 y; simpa using this) (fun x y _ _ => by have := m4_add [14, 11, 13, 9] r 0 0 0 x 0 0 0 y; simpa using this) (fun i hi => (bits3 i hi r hr).2.2.2) d hd]
theorem mix3 {a b c d : Nat} (hl : L4 a b c d) : mixN (mixN (mixN [a, b, c, d] [2, 3, 1, 1]) [2, 3, 1, 1]) [2, 3, 1, 1] = mixN [a, b, c, d] [14, 11, 13, 9] := by
  rw [mixN_eq, mixN_eq, mixN_eq, mixN_eq]
  have h := three hl
  simp only [m444, m44] at h
  rw [h 0 (by decide), h 1 (by decide), h 2 (by decide), h 3 (by decide)]
end Go.Fld
namespace Go.Blk
open Go.Sx Go.Fld
set_option linter.unusedVariables false
theorem natL_intL (l : List Nat) : natL (intL l) = l := by
  simp only [natL, intL, List.map_map]
  conv => rhs; rw [← List.map_id l]
  exact List.map_congr_left fun x _ => rfl
theorem col_nat {b : List Int} (hb : BL 4 b) : ∃ x y z w : Nat, L4 x y z w ∧ natL b = [x, y, z, w] ∧ b = intL [x, y, z, w] := by
  obtain ⟨x, hx, ex⟩ := (hb.get 0).nat
  obtain ⟨y, hy, ey⟩ := (hb.get 1).nat
  obtain ⟨z, hz, ez⟩ := (hb.get 2).nat
  obtain ⟨w, hw, ew⟩ := (hb.get 3).nat
  have e : b = intL [x, y, z, w] := by
    rw [hb.eq]
    simp only [Sx.tab, List.range_succ, List.range_zero, List.nil_append, List.map_cons, List.map_nil, List.cons_append, ex, ey, ez, ew]; rfl
  exact ⟨x, y, z, w, ⟨hx, hy, hz, hw⟩, by rw [e, natL_intL], e⟩
theorem qc_sub {f b : List Int} (k : Nat) (hk : k < 4) : lsub (qc f b) (4 * k) 4 = fmix (lsub b (4 * k) 4) f := by
  rw [qc, tab_lsub _ (by omega), eq_tab (show (fmix (lsub b (4 * k) 4) f).length = 4 from rfl)]
  exact tab_ext fun j hj => by rw [show (4 * k + j) / 4 * 4 = 4 * k by omega, show (4 * k + j) % 4 = j by omega]
/-- column by column -/
theorem qc_ext {f : List Int} {b c : List Int} (h : ∀ k, k < 4 → fmix (lsub b (4 * k) 4) f = lsub c (4 * k) 4) (hc : c.length = 16) : qc f b = c := by
  rw [eq_tab hc]
  refine tab_ext fun j hj => ?_
  rw [show j / 4 * 4 = 4 * (j / 4) by omega, h (j / 4) (by omega), lsub_tabbed hc (by omega), tab_lget _ (by omega)]
  congr 1; omega
theorem natL2 : natL [2, 3, 1, 1] = [2, 3, 1, 1] := rfl
theorem natL14 : natL [14, 11, 13, 9] = [14, 11, 13, 9] := rfl
theorem qc3 {b : List Int} (hb : BL 16 b) : qc [2, 3, 1, 1] (qc [2, 3, 1, 1] (qc [2, 3, 1, 1] b)) = qc [14, 11, 13, 9] b := by
  refine qc_ext (fun k hk => ?_) (tab_len _ _)
  rw [qc_sub k hk, qc_sub k hk, qc_sub k hk]
  obtain ⟨x, y, z, w, hl, hn, _⟩ := col_nat (lsub_bl hb (o := 4 * k) (z := 4) (by omega))
  simp only [fmix, natL_intL, hn, natL2, natL14, mix3 hl]
theorem qc_back {b : List Int} (hb : BL 16 b) : qc [14, 11, 13, 9] (qc [2, 3, 1, 1] b) = b := by
  refine qc_ext (fun k hk => ?_) hb.len
  rw [qc_sub k hk]
  obtain ⟨x, y, z, w, hl, hn, he⟩ := col_nat (lsub_bl hb (o := 4 * k) (z := 4) (by omega))
  simp only [fmix, natL_intL, hn, natL2, natL14]
  rw [back back_bits hl, ← he]
theorem qc_back' {b : List Int} (hb : BL 16 b) : qc [2, 3, 1, 1] (qc [14, 11, 13, 9] b) = b := by
  refine qc_ext (fun k hk => ?_) hb.len
  rw [qc_sub k hk]
  obtain ⟨x, y, z, w, hl, hn, he⟩ := col_nat (lsub_bl hb (o := 4 * k) (z := 4) (by omega))
  simp only [fmix, natL_intL, hn, natL2, natL14]
  rw [back back_bits' hl, ← he]
end Go.Blk
namespace Go.Proofs.Ytkecbjohbihfmaa.G
open Go Go.Sx Go.Fld Go.Blk
set_option linter.unusedSimpArgs false
set_option linter.unusedVariables false

theorem good_renc : Sx.Good Try.prog 12 kencS := by
  refine Sx.Good.pure (D := []) mixed gamB4_good Try.func12 (by kernel_rfl) rfl fun d args σ K h => ?_
  simp only [kencS] at h
  split at h <;> try exact h.elim
  rename_i k b
  obtain ⟨⟨hk, hb⟩, hK⟩ := h
  refine ⟨by simp [plain_ints], _, plain_ints _ _ _, hK, 0 + 1, ?_⟩
  rw [rEnc_vc]
  exact ⟨hk, ⟨ks_bl hk, hb⟩, rfl⟩

/-- rows turned back and every byte -/
theorem qt3_at {x : List Int} {j : Nat} (hj : j < 16) : lget (qe funsub (qt 3 x)) ((j + 4 * (j % 4)) % 16) = funsub (lget x j) := by
  rw [qe, tab_lget _ (by omega), qt, tab_lget _ (by omega)]
  congr 2; omega

theorem rDec_run {R : AV → Mem → Prop} {k r : List Int} (hk : BL 16 k) (h : ∀ σ, R (.agg [.ints .u8 16 r]) σ) : ∀ (n : Nat) (x : List Int), n ≤ 10 → BL 16 x → decN (ks k) n x = r → rDec.l0 R k (18 * n + 1) (n : Int) x
  | 0, x, hn, hx, e => by
    rw [rDec.l0_succ]
    refine ⟨fun q => ?_, fun _ => ?_⟩
    · rw [ige_true] at q; omega
    · rw [show x = r from e]; exact h _
  | n + 1, x, hn, hx, e => by
    rw [rDec.l0_succ]
    have hw := ks_bl hk
    have hrk := rk_bl hw (i := n) (by omega)
    have e1 : sub .i64 ((n + 1 : Nat) : Int) 1 = (n : Int) := by rw [sub_i64 (by omega) (by omega)]; omega
    have hy := qx_bl (b := qe funsub (qt 3 x)) (k := rk (ks k) n) qe_unsub hrk
    refine ⟨fun _ => ?_, fun q => ?_⟩
    · have key := loop_n (fun f j s => rDec.l1 R ((n + 1 : Nat) : Int) x k f j s) 16 (fun j => tab 16 fun m => if (m + 12 * (m % 4)) % 16 < j then lget (qe funsub (qt 3 x)) m else 0) 1 (18 * n + 1 + 1)
        (fun f j hj hf => by
          rw [rDec.l1_succ]
          refine ⟨fun _ => ?_, fun q => ?_⟩
          · have a1 : rem (j : Int) 4 = ((j % 4 : Nat) : Int) := remN (b := 4)
            have a2 : mul .i64 4 ((j % 4 : Nat) : Int) = ((4 * (j % 4) : Nat) : Int) := mulN_i64 (a := 4) (by omega)
            have a3 : add .i64 (j : Int) ((4 * (j % 4) : Nat) : Int) = ((j + 4 * (j % 4) : Nat) : Int) := addN_i64 (by omega)
            have a4 : rem ((j + 4 * (j % 4) : Nat) : Int) 16 = (((j + 4 * (j % 4)) % 16 : Nat) : Int) := remN (b := 16)
            obtain ⟨m, hm, em⟩ := (hx.get j).nat
            simp only [a1, a2, a3, a4, nat_cast, nadd_def, Nat.zero_add, em, InB_iff, Low_iff, NeZ_iff]
            refine ⟨by decide, by decide, by omega, hj, by omega, hm, by omega, by omega, ?_⟩
            rw [tab_lget _ hm, tab_lset, add1_i64 (by omega)]
            have ev : (tab 16 fun q => if q = (j + 4 * (j % 4)) % 16 then funsub (m : Int) else if (q + 12 * (q % 4)) % 16 < j then lget (qe funsub (qt 3 x)) q else 0) = tab 16 fun m => if (m + 12 * (m % 4)) % 16 < j + 1 then lget (qe funsub (qt 3 x)) m else 0 := by
              refine tab_ext fun q hq => ?_
              by_cases c : q = (j + 4 * (j % 4)) % 16
              · rw [if_pos c, if_pos (by omega), c, qt3_at hj, em]
              · have : (q + 12 * (q % 4)) % 16 ≠ j := by omega
                rw [if_neg c]
                by_cases c2 : (q + 12 * (q % 4)) % 16 < j
                · rw [if_pos c2, if_pos (by omega)]
                · rw [if_neg c2, if_neg (by omega)]
            rw [ev]; exact hf
          · rw [ilt_false] at q; omega)
        (by
          rw [rDec.l1_succ]
          refine ⟨fun q => ?_, fun _ => ?_⟩
          · rw [ilt_true] at q; omega
          · have ey : (tab 16 fun m => if (m + 12 * (m % 4)) % 16 < 16 then lget (qe funsub (qt 3 x)) m else 0) = qe funsub (qt 3 x) := by
              rw [eq_tab (show (qe funsub (qt 3 x)).length = 16 from tab_len _ _)]
              refine tab_ext fun m hm => ?_
              rw [if_pos (by omega), ← eq_tab (show (qe funsub (qt 3 x)).length = 16 from tab_len _ _)]
            simp only [ey, e1, nat_cast]
            refine ⟨⟨⟨qe_unsub, hw⟩, ⟨by omega, by omega⟩⟩, fun q => ⟨hy, qc_bl there, qc_bl there, ?_⟩, fun q => ?_⟩
            · rw [igt_true] at q
              rw [qc3 hy]
              exact rDec_run hk h n _ (by omega) (qc_bl back_) (by rw [← e]; show _ = decN (ks k) n (if 1 < n + 1 then _ else _); rw [if_pos (by omega)])
            · rw [igt_false] at q
              exact rDec_run hk h n _ (by omega) hy (by rw [← e]; show _ = decN (ks k) n (if 1 < n + 1 then _ else _); rw [if_neg (by omega)])) 0 (Nat.zero_le _)
      have e0 : (tab 16 fun m => if (m + 12 * (m % 4)) % 16 < 0 then lget (qe funsub (qt 3 x)) m else 0) = lzeros 16 := by
        rw [lzeros_tab]; exact tab_ext fun m hm => by simp
      rw [e0] at key
      exact key
    · rw [ige_false] at q; omega

theorem good_rdec : Sx.Good Try.prog 14 kdecS := by
  refine Sx.Good.pure (D := []) mixed gamB3_good Try.func14 (by kernel_rfl) rfl fun d args σ K h => ?_
  simp only [kdecS] at h
  split at h <;> try exact h.elim
  rename_i k b
  obtain ⟨⟨hk, hb⟩, hK⟩ := h
  refine ⟨by simp [plain_ints], _, plain_ints _ _ _, hK, 181 + 1, ?_⟩
  rw [rDec_vc]
  exact ⟨hk, ⟨⟨hb, ks_bl hk⟩, ⟨by decide, by decide⟩⟩, rDec_run hk (fun σ' => rfl) 10 _ (by decide) (qx_bl hb (rk_bl (ks_bl hk) (by decide))) rfl⟩

theorem good_round : Sx.Good Try.prog 16 roundS := by
  refine Sx.Good.pure (D := []) mixed (good0 _) Try.func16 (by kernel_rfl) rfl fun d args σ K h => ?_
  simp only [roundS] at h
  split at h <;> try exact h.elim
  rename_i w i
  obtain ⟨hw, hK⟩ := h
  refine ⟨by simp [plain_ints, plain_int], _, plain_ints _ _ _, hK, 0 + 1, ?_⟩
  rw [bRound_vc]
  refine ⟨fun q => ⟨fun q2 => ?_, fun q2 => ?_⟩, fun q => ?_⟩
  · rw [igt_true] at q2; rw [rkI, if_pos (by omega)]
  · rw [igt_false] at q2; rw [ilt_false] at q
    obtain ⟨n, rfl⟩ := Int.eq_ofNat_of_zero_le q
    refine ⟨⟨by omega, by omega⟩, ⟨by simp only [nadd_def, nmul_def, nat_cast]; omega⟩, ?_⟩
    rw [rk_nat, rkI, if_neg (by omega)]; rfl
  · rw [ilt_true] at q; rw [rkI, if_pos (by omega)]

theorem good_rround : Sx.Good Try.prog 17 kroundS := by
  refine Sx.Good.pure (D := []) mixed gamB3_good Try.func17 (by kernel_rfl) rfl fun d args σ K h => ?_
  simp only [kroundS] at h
  split at h <;> try exact h.elim
  rename_i k i
  obtain ⟨hk, hK⟩ := h
  refine ⟨by simp [plain_ints, plain_int], _, plain_ints _ _ _, hK, (1 + 1 * 16) + 1, ?_⟩
  rw [rRound_vc]
  refine ⟨fun q => ⟨fun q2 => ?_, fun q2 => ⟨hk, ?_⟩⟩, fun q => ?_⟩
  · rw [igt_true] at q2; rw [rkI, if_pos (by omega)]
  · rw [igt_false] at q2; rw [ilt_false] at q
    obtain ⟨n, rfl⟩ := Int.eq_ofNat_of_zero_le q
    have key := loop_n (fun f j s => rRound.l0 (fun av' _ => av' = .agg [.ints .u8 16 (rkI (ks k) (n : Int))]) (n : Int) k f j s) 16 (fun j => upto 16 j (fun m => lget (ks k) (16 * n + m)) fun _ => 0) 1 1
      (fun f j hj hf => by
        rw [rRound.l0_succ]
        refine ⟨fun _ => ?_, fun q => ?_⟩
        · have a1 : mul .i64 16 (n : Int) = ((16 * n : Nat) : Int) := mulN_i64 (a := 16) (by omega)
          have a2 : add .i64 ((16 * n : Nat) : Int) (j : Int) = ((16 * n + j : Nat) : Int) := addN_i64 (by omega)
          simp only [a1, a2, nat_cast, nadd_def, Nat.zero_add, InB_iff, Low_iff]
          refine ⟨by omega, by omega, by omega, hj, ?_⟩
          rw [upto_lset rfl, add1_i64 (by omega)]
          exact hf
        · rw [ilt_false] at q; omega)
      (by
        rw [rRound.l0_succ]
        refine ⟨fun q => ?_, fun _ => ?_⟩
        · rw [ilt_true] at q; omega
        · rw [upto_done, rkI, if_neg (by omega), rk, lsub_tabbed (ks_bl hk).len (by show 16 * n + 16 ≤ 176; omega)]; rfl) 0 (Nat.zero_le _)
    rw [upto_zero, ← lzeros_tab] at key
    exact key
  · rw [ilt_true] at q; rw [rkI, if_pos (by omega)]

theorem gamB5_good : GoodG Try.prog gamB5 :=
  (((((gamB4_good.ext good_enc ⟨_, Try.func11, by decide, by kernel_rfl⟩).ext good_dec ⟨_, Try.func13, by decide, by kernel_rfl⟩).ext good_round ⟨_, Try.func16, by decide, by kernel_rfl⟩).ext good_renc ⟨_, Try.func12, by decide, by kernel_rfl⟩).ext good_rdec ⟨_, Try.func14, by decide, by kernel_rfl⟩).ext good_rround ⟨_, Try.func17, by decide, by kernel_rfl⟩
end Go.Proofs.Ytkecbjohbihfmaa.G

/- The verification conditions of functions, printed by a program of this session out of their codes. -/
namespace Go.Proofs.Ytkecbjohbihfmaa.G
open Go Go.Sx Go.Fld Go.Blk
set_option linter.unusedVariables false
set_option maxRecDepth 100000

def rMask.l0 (R : AV → Mem → Prop) (k : List Int) (p : List Int) (fuel : Nat) (x0 : Int) (x1 : List Int) (x2 : List Int) (x3 : List Int) : Prop := run Try.prog gamB4 [⟨8, [.ints .u8], true, false⟩] (resh Try.prog [⟨8, [.ints .u8], true, false⟩] Try.f19.results.toList R) fuel [.code (cAt (bodyOf Try.f19) [1, 1, 1, 1, 0, 1, 0, 0]), .inLoop (cAt (bodyOf Try.f19) [1, 1, 1, 1, 0, 1, 0, 0]), .inBlock 0, .code (cAt (bodyOf Try.f19) [1, 1, 1, 1, 1])] [AV.undef, AV.undef, (AV.one (AC.vec 200002)), AV.undef, (AV.one (AC.ptr 4 0 0)), AV.undef, AV.undef, (AV.one (AC.ptr 7 0 0)), (AV.one (AC.vec 100008)), (AV.one (AC.ptr 9 0 0)), (AV.one (AC.int IntKind.i64 x0)), AV.undef, AV.undef, AV.undef, AV.undef, AV.undef, AV.undef, AV.undef, AV.undef, AV.undef, AV.undef, AV.undef, AV.undef, AV.undef, AV.undef, AV.undef, AV.undef, AV.undef, AV.undef, AV.undef, AV.undef, AV.undef, AV.undef, AV.undef, AV.undef, AV.undef, AV.undef, AV.undef, AV.undef, AV.undef, AV.undef, AV.undef, (AV.tup [])] [(4, Blk.own 22 [(Seg.ints IntKind.u8 16 x1)]), (7, Blk.own 33 [(Seg.ints IntKind.u8 176 (Go.Blk.ks k))]), (9, Blk.own 22 [(Seg.ints IntKind.u8 16 x2)]), (100008, Blk.vec [(Col.ints IntKind.u8 x3)]), (200002, Blk.rview [(Col.ints IntKind.u8 p)])]

theorem rMask.l0_succ (R : AV → Mem → Prop) (k : List Int) (p : List Int) (fuel : Nat) (x0 : Int) (x1 : List Int) (x2 : List Int) (x3 : List Int) : rMask.l0 R k p (fuel + 1) x0 x1 x2 x3 = (((((ilt x0 (ofNat (llen p))) = true) → ((NeZ 16) ∧ ((((ieq (rem x0 16) 0) = true) → (((Go.Blk.BL 176 (Go.Blk.ks k)) ∧ (Go.Blk.BL 16 x1)) ∧ ((Go.Blk.BL 16 x1) ∧ ((InB x0 (llen p)) ∧ ((NeZ 16) ∧ ((InB (rem x0 16) 16) ∧ (((Low (nadd 0 (nat (rem x0 16))) 16) ∧ ((Room (nadd (llen x3) (llen [(bxor IntKind.u8 (lget p (nat x0)) (lget (Go.Blk.enc (Go.Blk.ks k) x1) (nadd 0 (nat (rem x0 16)))))])) 1) ∧ (let y4 : List Int := (lcat x3 [(bxor IntKind.u8 (lget p (nat x0)) (lget (Go.Blk.enc (Go.Blk.ks k) x1) (nadd 0 (nat (rem x0 16)))))]); (rMask.l0 R k p fuel (add IntKind.i64 x0 1) (Go.Blk.up x1) (Go.Blk.enc (Go.Blk.ks k) x1) y4)))) ∧ ((Low (nadd 0 (nat (rem x0 16))) 16) ∧ ((Room (nadd (llen x3) (llen [(bxor IntKind.u8 (lget p (nat x0)) (lget (Go.Blk.enc (Go.Blk.ks k) x1) (nadd 0 (nat (rem x0 16)))))])) 1) ∧ (let y4 : List Int := (lcat x3 [(bxor IntKind.u8 (lget p (nat x0)) (lget (Go.Blk.enc (Go.Blk.ks k) x1) (nadd 0 (nat (rem x0 16)))))]); (rMask.l0 R k p fuel (add IntKind.i64 x0 1) (Go.Blk.up x1) (Go.Blk.enc (Go.Blk.ks k) x1) y4))))))))))) ∧ (((ieq (rem x0 16) 0) = false) → ((InB x0 (llen p)) ∧ ((NeZ 16) ∧ ((InB (rem x0 16) 16) ∧ (((Low (nadd 0 (nat (rem x0 16))) 16) ∧ ((Room (nadd (llen x3) (llen [(bxor IntKind.u8 (lget p (nat x0)) (lget x2 (nadd 0 (nat (rem x0 16)))))])) 1) ∧ (rMask.l0 R k p fuel (add IntKind.i64 x0 1) x1 x2 (lcat x3 [(bxor IntKind.u8 (lget p (nat x0)) (lget x2 (nadd 0 (nat (rem x0 16)))))])))) ∧ ((Low (nadd 0 (nat (rem x0 16))) 16) ∧ ((Room (nadd (llen x3) (llen [(bxor IntKind.u8 (lget p (nat x0)) (lget x2 (nadd 0 (nat (rem x0 16)))))])) 1) ∧ (rMask.l0 R k p fuel (add IntKind.i64 x0 1) x1 x2 (lcat x3 [(bxor IntKind.u8 (lget p (nat x0)) (lget x2 (nadd 0 (nat (rem x0 16)))))])))))))))))) ∧ (((ilt x0 (ofNat (llen p))) = false) → (R (AV.one (AC.vec 100008)) [(4, Blk.own 22 [(Seg.ints IntKind.u8 16 x1)]), (7, Blk.own 33 [(Seg.ints IntKind.u8 176 (Go.Blk.ks k))]), (9, Blk.own 22 [(Seg.ints IntKind.u8 16 x2)]), (100008, Blk.vec [(Col.ints IntKind.u8 x3)]), (200002, Blk.rview [(Col.ints IntKind.u8 p)])])))) := by kernel_rfl
theorem rMask.l0_zero (R : AV → Mem → Prop) (k : List Int) (p : List Int) (x0 : Int) (x1 : List Int) (x2 : List Int) (x3 : List Int) : rMask.l0 R k p 0 x0 x1 x2 x3 = False := by kernel_rfl

theorem rMask_vc (R : AV → Mem → Prop) (fuel : Nat) (k : List Int) (s : List Int) (p : List Int) : callsx Try.prog gamB4 [⟨8, [.ints .u8], true, false⟩] Try.f19 (fuel + 1) [.agg [.ints .u8 16 k], .agg [.ints .u8 16 s], .one (.vec 200002)] [(200002, .rview [.ints .u8 p])] R = (((Go.Blk.BL 16 k) ∧ ((Mk 0 (ofNat (llen p)) 1) ∧ (rMask.l0 R k p fuel 0 s (lzeros 16) (lzeros 0))))) := by kernel_rfl

end Go.Proofs.Ytkecbjohbihfmaa.G

/- The key stream, by program and document. -/
namespace Go.Blk
open Go.Sx Go.Fld
set_option linter.unusedVariables false
set_option linter.unusedSimpArgs false
theorem BL.set {n : Nat} {l : List Int} (h : BL n l) (i : Nat) {v : Int} (hv : Byte v) : BL n (lset l i v) := ⟨by simp [lset, h.len], fun x hx => by
  rcases List.mem_or_eq_of_mem_set hx with hx | rfl
  · exact h.all x hx
  · exact hv⟩
theorem byte_inc {a : Int} (ha : Byte a) : Byte (add .u8 a 1) := by rw [add_u8]; exact ⟨by omega, by omega⟩
theorem upN_bl : ∀ (i : Nat) {b : List Int}, BL 16 b → BL 16 (upN i b)
  | 0, b, h => h
  | i + 1, b, h => by
    unfold upN
    split
    · exact upN_bl i (h.set i (byte_inc (h.get i)))
    · exact h.set i (byte_inc (h.get i))
theorem up_bl {b : List Int} (h : BL 16 b) : BL 16 (up b) := upN_bl 16 h
theorem ups_bl {b : List Int} (h : BL 16 b) : ∀ n, BL 16 (ups b n)
  | 0 => h
  | n + 1 => up_bl (ups_bl h n)
theorem mask_len (w s p : List Int) : (mask w s p).length = p.length := tab_len _ _
theorem BL.bs {n : Nat} {l : List Int} (h : BL n l) : Bs l := ⟨fun x hx => ⟨(h.all x hx).lo, (h.all x hx).hi⟩⟩
theorem bs_bl {l : List Int} (h : Bs l) : BL l.length l := ⟨rfl, fun x hx => ⟨(h.all x hx).1, (h.all x hx).2⟩⟩
end Go.Blk
namespace Go.Proofs.Ytkecbjohbihfmaa.G
open Go Go.Sx Go.Fld Go.Blk
set_option linter.unusedSimpArgs false
set_option linter.unusedVariables false

theorem strB_byte {w s : List Int} (hw : BL 176 w) (hs : BL 16 s) (i : Nat) : Byte (strB w s i) := (enc_bl hw (ups_bl hs _)).get _
theorem mask_bs {w s p : List Int} (hw : BL 176 w) (hs : BL 16 s) (hp : Bs p) : Bs (mask w s p) := (BL.tab fun i hi => byte_xor ((bs_bl hp).get i) (strB_byte hw hs i)).bs

theorem imin_nat (a b : Nat) : imin (a : Int) (b : Int) = ((min a b : Nat) : Int) := by
  unfold imin
  split
  · omega
  · omega

section
variable {R : AV → Mem → Prop} {k s p : List Int}
/-- one block's bytes laid over, by the table -/
theorem mask_l2 (hk : BL 16 k) (hs : BL 16 s) {m : Nat} (hm : 16 * m < p.length) (hp : p.length ≤ 140737488355328) {g : Nat} {t y : List Int} (h : bMask.l1 R k t p g ((16 * (m + 1) : Nat) : Int) (ups s (m + 1)) (upto p.length (16 * (m + 1)) (fun i => bxor .u8 (lget p i) (strB (ks k) s i)) (lget p))) :
    ∃ g', bMask.l2 R ((16 * m : Nat) : Int) y k (ups s m) t p g' ((16 * m : Nat) : Int) (upto p.length (16 * m) (fun i => bxor .u8 (lget p i) (strB (ks k) s i)) (lget p)) := by
  have e1 : add .i64 ((16 * m : Nat) : Int) 16 = ((16 * (m + 1) : Nat) : Int) := by rw [add_i64 (by omega) (by omega)]; omega
  refine loop_exfrom (fun f i x => bMask.l2 R ((16 * m : Nat) : Int) y k (ups s m) t p f i x) (16 * m) (min (16 * (m + 1)) p.length) (fun i => upto p.length i (fun i => bxor .u8 (lget p i) (strB (ks k) s i)) (lget p)) (fun g i hl hi hg => ⟨g + 1, ?_⟩) ⟨g + 1, ?_⟩ (16 * m) (Nat.le_refl _) (by omega)
  · rw [bMask.l2_succ]
    have e2 : sub .i64 (i : Int) ((16 * m : Nat) : Int) = ((i - 16 * m : Nat) : Int) := subN_i64 (by omega) (by omega)
    refine ⟨fun _ => ?_, fun q => ?_⟩
    · have e3 : lget (enc (ks k) (ups s m)) (i - 16 * m) = strB (ks k) s i := by rw [strB, show i / 16 = m by omega, show i % 16 = i - 16 * m by omega]
      simp only [e2, nat_cast, nadd_def, Nat.zero_add, llen_def, upto_len, InB_iff, Low_iff, e3]
      rw [upto_hi (Nat.le_refl _) (by omega), upto_lset rfl, add1_i64 (by omega)]
      exact ⟨by omega, by omega, by omega, by omega, hg⟩
    · rw [e1, ofNat_def, llen_def, upto_len, imin_nat, ilt_false] at q; omega
  · rw [bMask.l2_succ]
    refine ⟨fun q => ?_, fun _ => ⟨ups_bl hs m, ?_⟩⟩
    · rw [e1, ofNat_def, llen_def, upto_len, imin_nat, ilt_true] at q; omega
    · rw [e1]
      have e4 : upto p.length (min (16 * (m + 1)) p.length) (fun i => bxor .u8 (lget p i) (strB (ks k) s i)) (lget p) = upto p.length (16 * (m + 1)) (fun i => bxor .u8 (lget p i) (strB (ks k) s i)) (lget p) := by
        refine tab_ext fun j hj => ?_
        by_cases q : j < 16 * (m + 1)
        · rw [if_pos q, if_pos (by omega)]
        · rw [if_neg q, if_neg (by omega)]
      rw [e4]; exact h
/-- the same, by the field -/
theorem mask_l4 (hk : BL 16 k) (hs : BL 16 s) {m : Nat} (hm : 16 * m < p.length) (hp : p.length ≤ 140737488355328) {g : Nat} {y : List Int} (h : bMask.l3 R k p g ((16 * (m + 1) : Nat) : Int) (ups s (m + 1)) (upto p.length (16 * (m + 1)) (fun i => bxor .u8 (lget p i) (strB (ks k) s i)) (lget p))) :
    ∃ g', bMask.l4 R ((16 * m : Nat) : Int) y k (ups s m) p g' ((16 * m : Nat) : Int) (upto p.length (16 * m) (fun i => bxor .u8 (lget p i) (strB (ks k) s i)) (lget p)) := by
  have e1 : add .i64 ((16 * m : Nat) : Int) 16 = ((16 * (m + 1) : Nat) : Int) := by rw [add_i64 (by omega) (by omega)]; omega
  refine loop_exfrom (fun f i x => bMask.l4 R ((16 * m : Nat) : Int) y k (ups s m) p f i x) (16 * m) (min (16 * (m + 1)) p.length) (fun i => upto p.length i (fun i => bxor .u8 (lget p i) (strB (ks k) s i)) (lget p)) (fun g i hl hi hg => ⟨g + 1, ?_⟩) ⟨g + 1, ?_⟩ (16 * m) (Nat.le_refl _) (by omega)
  · rw [bMask.l4_succ]
    have e2 : sub .i64 (i : Int) ((16 * m : Nat) : Int) = ((i - 16 * m : Nat) : Int) := subN_i64 (by omega) (by omega)
    refine ⟨fun _ => ?_, fun q => ?_⟩
    · have e3 : lget (enc (ks k) (ups s m)) (i - 16 * m) = strB (ks k) s i := by rw [strB, show i / 16 = m by omega, show i % 16 = i - 16 * m by omega]
      simp only [e2, nat_cast, nadd_def, Nat.zero_add, llen_def, upto_len, InB_iff, Low_iff, e3]
      rw [upto_hi (Nat.le_refl _) (by omega), upto_lset rfl, add1_i64 (by omega)]
      exact ⟨by omega, by omega, by omega, by omega, hg⟩
    · rw [e1, ofNat_def, llen_def, upto_len, imin_nat, ilt_false] at q; omega
  · rw [bMask.l4_succ]
    refine ⟨fun q => ?_, fun _ => ⟨ups_bl hs m, ?_⟩⟩
    · rw [e1, ofNat_def, llen_def, upto_len, imin_nat, ilt_true] at q; omega
    · rw [e1]
      have e4 : upto p.length (min (16 * (m + 1)) p.length) (fun i => bxor .u8 (lget p i) (strB (ks k) s i)) (lget p) = upto p.length (16 * (m + 1)) (fun i => bxor .u8 (lget p i) (strB (ks k) s i)) (lget p) := by
        refine tab_ext fun j hj => ?_
        by_cases q : j < 16 * (m + 1)
        · rw [if_pos q, if_pos (by omega)]
        · rw [if_neg q, if_neg (by omega)]
      rw [e4]; exact h

theorem mask_end {n m : Nat} (h : n ≤ m) {F G : Nat → Int} : upto n m F G = tab n F := tab_ext fun j hj => by rw [if_pos (by omega)]

theorem mask_l1 (hk : BL 16 k) (hs : BL 16 s) (hp : p.length ≤ 140737488355328) {t : List Int} (ht : Tbl t) (h : ∀ x σ, R (.one (.vec 19)) [(4, Blk.own 22 [(Seg.ints IntKind.u8 16 x)]), (7, Blk.own 28 [(Seg.ints IntKind.u8 176 (ks k))]), (10, Blk.own 60 [(Seg.ints IntKind.u8 256 t)]), (19, Blk.vec [(Col.ints IntKind.u8 (mask (ks k) s p))]), σ]) :
    ∃ g, bMask.l1 R k t p g 0 s p := by
  have key := loop_exby 16 (fun f i (x : List Int × List Int) => bMask.l1 R k t p f i x.1 x.2) ((p.length + 15) / 16) (fun m => (ups s m, upto p.length (16 * m) (fun i => bxor .u8 (lget p i) (strB (ks k) s i)) (lget p)))
    (fun g m hm hg => by
      obtain ⟨g', hg'⟩ := mask_l2 (y := upto p.length (16 * m) (fun i => bxor .u8 (lget p i) (strB (ks k) s i)) (lget p)) hk hs (by omega) hp hg
      refine ⟨g' + 1, ?_⟩
      rw [bMask.l1_succ]
      refine ⟨fun _ => ⟨ht, ⟨ks_bl hk, ups_bl hs m⟩, hg'⟩, fun q => ?_⟩
      rw [ofNat_def, llen_def, upto_len, ilt_false] at q; omega)
    ⟨1, by
      show bMask.l1 R k t p (0 + 1) _ _ _
      rw [bMask.l1_succ]
      refine ⟨fun q => ?_, fun _ => ?_⟩
      · rw [ofNat_def, llen_def, upto_len, ilt_true] at q; omega
      · rw [mask_end (by omega)]; exact h _ _⟩ 0 (Nat.zero_le _)
  simpa [ups, upto_zero, ← eq_tab (l := p) rfl] using key

theorem mask_l3 (hk : BL 16 k) (hs : BL 16 s) (hp : p.length ≤ 140737488355328) (h : ∀ x σ, R (.one (.vec 19)) [(4, Blk.own 22 [(Seg.ints IntKind.u8 16 x)]), (7, Blk.own 28 [(Seg.ints IntKind.u8 176 (ks k))]), (19, Blk.vec [(Col.ints IntKind.u8 (mask (ks k) s p))]), σ]) :
    ∃ g, bMask.l3 R k p g 0 s p := by
  have key := loop_exby 16 (fun f i (x : List Int × List Int) => bMask.l3 R k p f i x.1 x.2) ((p.length + 15) / 16) (fun m => (ups s m, upto p.length (16 * m) (fun i => bxor .u8 (lget p i) (strB (ks k) s i)) (lget p)))
    (fun g m hm hg => by
      obtain ⟨g', hg'⟩ := mask_l4 (y := upto p.length (16 * m) (fun i => bxor .u8 (lget p i) (strB (ks k) s i)) (lget p)) hk hs (by omega) hp hg
      refine ⟨g' + 1, ?_⟩
      rw [bMask.l3_succ]
      refine ⟨fun _ => ⟨⟨ks_bl hk, ups_bl hs m⟩, hg'⟩, fun q => ?_⟩
      rw [ofNat_def, llen_def, upto_len, ilt_false] at q; omega)
    ⟨1, by
      show bMask.l3 R k p (0 + 1) _ _ _
      rw [bMask.l3_succ]
      refine ⟨fun q => ?_, fun _ => ?_⟩
      · rw [ofNat_def, llen_def, upto_len, ilt_true] at q; omega
      · rw [mask_end (by omega)]; exact h _ _⟩ 0 (Nat.zero_le _)
  simpa [ups, upto_zero, ← eq_tab (l := p) rfl] using key

theorem mask_l0 (hk : BL 16 k) {g : Nat} {y0 : List Int} (h : bMask.l1 R k (tab 256 fun i => fsub (i : Int)) p g 0 s y0) : ∃ g', bMask.l0 R s k y0 p g' 0 (lzeros 256) := by
  have key := loop_ex (fun f i x => bMask.l0 R s k y0 p f i x) 256 (fun i => upto 256 i (fun i => fsub (i : Int)) fun _ => 0)
    (fun g i hi hg => ⟨g + 1, by
      rw [bMask.l0_succ]
      have e1 : conv .u8 (i : Int) = (i : Int) := by rw [conv_u8]; omega
      refine ⟨fun _ => ?_, fun q => ?_⟩
      · simp only [e1, nat_cast, nadd_def, Nat.zero_add, InB_iff, Low_iff]
        rw [upto_lset rfl, add1_i64 (by omega)]
        exact ⟨Byte.of hi, by omega, hi, hg⟩
      · rw [ilt_false] at q; omega⟩)
    ⟨g + 1, by
      rw [bMask.l0_succ]
      refine ⟨fun q => ?_, fun _ => ?_⟩
      · rw [ilt_true] at q; omega
      · rw [upto_done]; exact h⟩ 0 (Nat.zero_le _)
  rw [upto_zero, ← lzeros_tab] at key
  exact key
end

theorem good_mask : Sx.Good Try.prog 18 maskS := by
  refine Sx.Good.reads (D := []) mixed gamB4_good Try.func18 (by kernel_rfl) rfl fun d args σ K h => ?_
  simp only [maskS] at h
  split at h <;> try exact h.elim
  rename_i k s x
  obtain ⟨p, ⟨⟨⟨hk, hs⟩, hsh, hp⟩, hK⟩, hr⟩ := rdb_row h
  have hle := hsh.le
  refine ⟨[.agg [.ints .u8 16 k], .agg [.ints .u8 16 s], .one (.vec 200002)], [(200002, .rview [.ints .u8 p])], .plain (plain_ints _ _ _) (.plain (plain_ints _ _ _) (.row [.ints .u8] _ hr (by decide) (.nil _))), by simp, ?_⟩
  have hy : lput (lzeros (nat (ofNat (llen p)))) 0 (lsub p 0 (nmin (llen p) (llen (lzeros (nat (ofNat (llen p))))))) = p := by
    simp only [ofNat_def, nat_cast, llen_def, lzeros, List.length_replicate, nmin_def, Nat.min_self, lsub_all, lput, List.take_zero, List.nil_append, Nat.zero_add]
    rw [List.drop_of_length_le (by simp), List.append_nil]
  have hM : Mk (ofNat (llen p)) (ofNat (llen p)) 1 := by rw [Mk_iff, ofNat_def, llen_def]; omega
  by_cases q : 32 < p.length
  · obtain ⟨g, hg⟩ := mask_l1 (R := Res d maskS.news σ K) hk hs hle (t := tab 256 fun i => fsub (i : Int)) ⟨tab_len _ _, fun i hi => tab_lget _ hi⟩ fun x σ' => res_vec rfl rfl hK
    obtain ⟨g', hg'⟩ := mask_l0 (s := s) hk hg
    refine ⟨g' + 1, ?_⟩
    rw [bMask_vc]
    refine ⟨hk, hM, ?_⟩
    show _ ∧ _
    rw [hy]
    refine ⟨fun _ => hg', fun q2 => ?_⟩
    rw [igt_false, ofNat_def, llen_def] at q2; omega
  · obtain ⟨g, hg⟩ := mask_l3 (R := Res d maskS.news σ K) hk hs hle fun x σ' => res_vec rfl rfl hK
    refine ⟨g + 1, ?_⟩
    rw [bMask_vc]
    refine ⟨hk, hM, ?_⟩
    show _ ∧ _
    rw [hy]
    refine ⟨fun q2 => ?_, fun _ => hg⟩
    rw [igt_true, ofNat_def, llen_def] at q2; omega
end Go.Proofs.Ytkecbjohbihfmaa.G

/- The document's key stream; streams. -/
namespace Go.Proofs.Ytkecbjohbihfmaa.G
open Go Go.Sx Go.Fld Go.Blk
set_option linter.unusedSimpArgs false
set_option linter.unusedVariables false

theorem good_rmask : Sx.Good Try.prog 19 maskS := by
  refine Sx.Good.reads (D := [⟨8, [.ints .u8], true, false⟩]) mixed gamB4_good Try.func19 (by kernel_rfl) rfl fun d args σ K h => ?_
  simp only [maskS] at h
  split at h <;> try exact h.elim
  rename_i k s x
  obtain ⟨p, ⟨⟨⟨hk, hs⟩, hsh, hp⟩, hK⟩, hr⟩ := rdb_row h
  have hle := hsh.le
  have hw := ks_bl hk
  refine ⟨[.agg [.ints .u8 16 k], .agg [.ints .u8 16 s], .one (.vec 200002)], [(200002, .rview [.ints .u8 p])], .plain (plain_ints _ _ _) (.plain (plain_ints _ _ _) (.row [.ints .u8] _ hr (by decide) (.nil _))), by simp, ?_⟩
  have key := loop_ex (fun f i (x : List Int × List Int × List Int) => rMask.l0 (Res d maskS.news σ K) k p f i x.1 x.2.1 x.2.2) p.length
    (fun i => (ups s ((i + 15) / 16), if i = 0 then lzeros 16 else enc (ks k) (ups s ((i - 1) / 16)), tab i fun i => bxor .u8 (lget p i) (strB (ks k) s i)))
    (fun g i hi hg => ⟨g + 1, by
      rw [rMask.l0_succ]
      have e1 : rem (i : Int) 16 = ((i % 16 : Nat) : Int) := remN (b := 16)
      have hroom : ∀ v : Int, Room (nadd (llen (tab i fun i => bxor .u8 (lget p i) (strB (ks k) s i))) (llen [v])) 1 := fun v => room1 (by rw [tab_llen, nadd_def, llen_def]; simp; omega)
      have hI : InB (i : Int) (llen p) := ⟨by omega, by rw [llen_def]; omega⟩
      have hI2 : InB ((i % 16 : Nat) : Int) 16 := ⟨by omega, by omega⟩
      have hL : Low (i % 16) 16 := ⟨by omega⟩
      have hN : NeZ 16 := ⟨by decide⟩
      refine ⟨fun _ => ?_, fun q => ?_⟩
      · rw [e1]
        simp only [nat_cast, nadd_def, Nat.zero_add, add1_i64 (show i < 9223372036854775807 by omega)]
        refine ⟨hN, fun q => ?_, fun q => ?_⟩
        · rw [ieq_true] at q
          have e2 : lget (enc (ks k) (ups s ((i + 15) / 16))) (i % 16) = strB (ks k) s i := by rw [strB, show (i + 15) / 16 = i / 16 by omega]
          have fin : rMask.l0 (Res d maskS.news σ K) k p g ((i + 1 : Nat) : Int) (up (ups s ((i + 15) / 16))) (enc (ks k) (ups s ((i + 15) / 16))) (lcat (tab i fun i => bxor .u8 (lget p i) (strB (ks k) s i)) [bxor .u8 (lget p i) (lget (enc (ks k) (ups s ((i + 15) / 16))) (i % 16))]) := by
            rw [e2]
            have h1 : up (ups s ((i + 15) / 16)) = ups s ((i + 1 + 15) / 16) := by rw [show (i + 1 + 15) / 16 = (i + 15) / 16 + 1 by omega]; rfl
            rw [h1, lcat_def, ← tab_succ i (fun i => bxor .u8 (lget p i) (strB (ks k) s i)), show (i + 15) / 16 = (i + 1 - 1) / 16 by omega]
            rw [if_neg (by omega)] at hg
            exact hg
          have hb := ups_bl hs ((i + 15) / 16)
          exact ⟨⟨hw, hb⟩, hb, hI, hN, hI2, ⟨hL, hroom _, fin⟩, hL, hroom _, fin⟩
        · rw [ieq_false] at q
          have q0 : ¬ i = 0 := fun e => q (by rw [e]; rfl)
          rw [if_neg q0]
          have e2 : lget (enc (ks k) (ups s ((i - 1) / 16))) (i % 16) = strB (ks k) s i := by rw [strB, show (i - 1) / 16 = i / 16 by omega]
          have fin : rMask.l0 (Res d maskS.news σ K) k p g ((i + 1 : Nat) : Int) (ups s ((i + 15) / 16)) (enc (ks k) (ups s ((i - 1) / 16))) (lcat (tab i fun i => bxor .u8 (lget p i) (strB (ks k) s i)) [bxor .u8 (lget p i) (lget (enc (ks k) (ups s ((i - 1) / 16))) (i % 16))]) := by
            rw [e2, lcat_def, ← tab_succ i (fun i => bxor .u8 (lget p i) (strB (ks k) s i)), show (i + 15) / 16 = (i + 1 + 15) / 16 by omega, show (i - 1) / 16 = (i + 1 - 1) / 16 by omega]
            rw [if_neg (by omega)] at hg
            exact hg
          exact ⟨hI, hN, hI2, ⟨hL, hroom _, fin⟩, hL, hroom _, fin⟩
      · rw [ofNat_def, llen_def, ilt_false] at q; omega⟩)
    ⟨1, by
      show rMask.l0 _ k p (0 + 1) _ _ _ _
      rw [rMask.l0_succ]
      refine ⟨fun q => ?_, fun _ => ?_⟩
      · rw [ofNat_def, llen_def, ilt_true] at q; omega
      · exact res_vec rfl rfl hK⟩ 0 (Nat.zero_le _)
  obtain ⟨g, hg⟩ := key
  refine ⟨g + 1, ?_⟩
  rw [rMask_vc]
  exact ⟨hk, by rw [Mk_iff, ofNat_def, llen_def]; omega, hg⟩

theorem gamB6_good : GoodG Try.prog gamB6 :=
  (gamB5_good.ext good_mask ⟨_, Try.func18, by decide, by kernel_rfl⟩).ext good_rmask ⟨_, Try.func19, by decide, by kernel_rfl⟩

theorem zeros_bs (n : Nat) : Bs (lzeros n) := Bs.zeros n

theorem good_stream : Sx.Good Try.prog 20 streamS := by
  refine Sx.Good.reads (D := []) mixed gamB6_good Try.func20 (by kernel_rfl) rfl fun d args σ K h => ?_
  simp only [streamS] at h
  split at h <;> try exact h.elim
  rename_i k s n
  obtain ⟨⟨hk, hs⟩, hK⟩ := h
  refine ⟨_, [], .plain (plain_ints _ _ _) (.plain (plain_ints _ _ _) (.plain (plain_int _ _) (.nil _))), by simp, 0 + 1, ?_⟩
  rw [bStream_vc]
  refine ⟨fun q => ⟨fun q2 => res_nil ?_ hK, fun q2 => ?_⟩, fun q => res_nil ?_ hK⟩
  · rw [igt_true] at q2; rw [strmI, if_pos (by omega)]
  · rw [igt_false] at q2; rw [ilt_false] at q
    refine ⟨by rw [Mk_iff]; omega, ⟨⟨hk, hs⟩, ⟨by simp [lzeros, nat]; omega⟩, zeros_bs _⟩, res_vec rfl ?_ hK⟩
    rw [strmI, if_neg (by omega)]; rfl
  · rw [ilt_true] at q; rw [strmI, if_pos (by omega)]

theorem good_rstream : Sx.Good Try.prog 21 streamS := by
  refine Sx.Good.reads (D := []) mixed gamB6_good Try.func21 (by kernel_rfl) rfl fun d args σ K h => ?_
  simp only [streamS] at h
  split at h <;> try exact h.elim
  rename_i k s n
  obtain ⟨⟨hk, hs⟩, hK⟩ := h
  refine ⟨_, [], .plain (plain_ints _ _ _) (.plain (plain_ints _ _ _) (.plain (plain_int _ _) (.nil _))), by simp, 0 + 1, ?_⟩
  rw [rStream_vc]
  refine ⟨fun q => ⟨fun q2 => res_nil ?_ hK, fun q2 => ?_⟩, fun q => res_nil ?_ hK⟩
  · rw [igt_true] at q2; rw [strmI, if_pos (by omega)]
  · rw [igt_false] at q2; rw [ilt_false] at q
    refine ⟨by rw [Mk_iff]; omega, ⟨⟨hk, hs⟩, ⟨by simp [lzeros, nat]; omega⟩, zeros_bs _⟩, res_vec rfl ?_ hK⟩
    rw [strmI, if_neg (by omega)]; rfl
  · rw [ilt_true] at q; rw [strmI, if_pos (by omega)]

theorem gamB7_good : GoodG Try.prog gamB7 :=
  (gamB6_good.ext good_stream ⟨_, Try.func20, by decide, by kernel_rfl⟩).ext good_rstream ⟨_, Try.func21, by decide, by kernel_rfl⟩
end Go.Proofs.Ytkecbjohbihfmaa.G

/- What is known of the functions that the statements on the block cipher use. -/
namespace Go.Blk
/-- the bytes 0, step, 2 step, .. -/
def cnt (s : Int) : List Int := Sx.tab 16 fun i => (i : Int) * s % 256
/-- the number in these bytes -/
def val (b : List Int) : Nat → Nat
  | 0 => 0
  | n + 1 => val b n * 256 + (Sx.lget b n).toNat
/-- the bytes of a number -/
def byt (v : Nat) : List Int := Sx.tab 16 fun i => ((v / 256 ^ (15 - i) % 256 : Nat) : Int)
def upI (b : List Int) (n : Int) : List Int := byt (val b 16 + n.toNat)
end Go.Blk
namespace Go.Sx
open Go.Fld Go.Blk
def countS : Spec := ⟨0, false, fun _ args σ K => match args with
  | [.one (.int .u8 s)] => Byte s ∧ K (.agg [.ints .u8 16 (cnt s)]) σ
  | _ => False⟩
def yesS : Spec := ⟨0, false, fun _ args σ K => match args with
  | [] => K (.one (.lit true)) σ
  | _ => False⟩
def upS : Spec := ⟨0, false, fun _ args σ K => match args with
  | [.agg [.ints .u8 16 b], .one (.int .i64 n)] => (BL 16 b ∧ InB n 65536) ∧ K (.agg [.ints .u8 16 (upI b n)]) σ
  | _ => False⟩
def gamB8 : Gam := ext (ext gamB7 24 countS) 23 upS
def gamB9 : Gam := ext gamB8 9 yesS
end Go.Sx

/- There and back: plain mathematics of the block cipher. -/
namespace Go.Blk
open Go.Sx Go.Fld
set_option linter.unusedVariables false
set_option linter.unusedSimpArgs false

theorem xor_back {a k : Int} (ha : Byte a) (hk : Byte k) : bxor .u8 (bxor .u8 a k) k = a := by
  obtain ⟨x, hx, rfl⟩ := ha.nat
  obtain ⟨y, hy, rfl⟩ := hk.nat
  rw [bxor_u8 hx hy, bxor_u8 (xor_lt hx hy) hy, Nat.xor_assoc, Nat.xor_self, Nat.xor_zero]
theorem qx_back {b k : List Int} (hb : BL 16 b) (hk : BL 16 k) : qx (qx b k) k = b := by
  conv => rhs; rw [hb.eq]
  refine tab_ext fun j hj => ?_
  rw [qx, tab_lget _ hj, xor_back (hb.get j) (hk.get j)]
theorem qt31 {b : List Int} (hb : BL 16 b) : qt 3 (qt 1 b) = b := by
  conv => rhs; rw [hb.eq]
  refine tab_ext fun j hj => ?_
  rw [qt, tab_lget _ (by omega)]
  congr 1; omega
theorem qt13 {b : List Int} (hb : BL 16 b) : qt 1 (qt 3 b) = b := by
  conv => rhs; rw [hb.eq]
  refine tab_ext fun j hj => ?_
  rw [qt, tab_lget _ (by omega)]
  congr 1; omega
theorem qe_qt (f : Int → Int) (n : Nat) (b : List Int) : qe f (qt n b) = qt n (qe f b) := by
  refine tab_ext fun j hj => ?_
  rw [qt, tab_lget _ hj, qe, tab_lget _ (by omega)]
theorem qe_us {b : List Int} (hb : BL 16 b) : qe funsub (qe fsub b) = b := by
  conv => rhs; rw [hb.eq]
  refine tab_ext fun j hj => ?_
  rw [qe, tab_lget _ hj]
  obtain ⟨x, hx, e⟩ := (hb.get j).nat
  rw [e]
  show ((gu (gs x) : Nat) : Int) = _
  rw [gu_gs x hx]
theorem qe_su {b : List Int} (hb : BL 16 b) : qe fsub (qe funsub b) = b := by
  conv => rhs; rw [hb.eq]
  refine tab_ext fun j hj => ?_
  rw [qe, tab_lget _ hj]
  obtain ⟨x, hx, e⟩ := (hb.get j).nat
  rw [e]
  show ((gs (gu x) : Nat) : Int) = _
  rw [gs_gu x hx]
theorem sr_back {b : List Int} (hb : BL 16 b) : qe funsub (qt 3 (qt 1 (qe fsub b))) = b := by rw [qt31 qe_sub, qe_us hb]
theorem sr_there {b : List Int} (hb : BL 16 b) : qt 1 (qe fsub (qe funsub (qt 3 b))) = b := by rw [qe_su (qt_bl hb), qt13 hb]

/-- one round -/
def rnd (w : List Int) (i : Nat) (x : List Int) : List Int := qx (if i < 10 then qc [2, 3, 1, 1] (qt 1 (qe fsub x)) else qt 1 (qe fsub x)) (rk w i)
theorem encN_snoc (w : List Int) : ∀ (n i : Nat) (x : List Int), encN w (n + 1) i x = rnd w (n + i) (encN w n i x)
  | 0, i, x => by rw [Nat.zero_add i]; rfl
  | n + 1, i, x => by
    show encN w (n + 1) (i + 1) _ = _
    rw [encN_snoc w n (i + 1), show n + (i + 1) = n + 1 + i by omega]; rfl
end Go.Blk
namespace Go.Proofs.Ytkecbjohbihfmaa.G
open Go Go.Sx Go.Fld Go.Blk
set_option linter.unusedSimpArgs false
set_option linter.unusedVariables false

theorem enc_decN {w : List Int} (hw : BL 176 w) : ∀ (n : Nat) {x : List Int}, n + 1 ≤ 10 → BL 16 x → encN w (n + 1) 1 (qx (decN w (n + 1) x) (rk w 0)) = qx (if n + 1 < 10 then qc [2, 3, 1, 1] x else x) (rk w (n + 1))
  | 0, x, hn, hx => by
    have h0 := rk_bl hw (i := 0) (by decide)
    show encN w 1 1 (qx (qx (qe funsub (qt 3 x)) (rk w 0)) (rk w 0)) = _
    rw [qx_back qe_unsub h0]
    show rnd w 1 (qe funsub (qt 3 x)) = _
    rw [rnd, sr_there hx]
  | n + 1, x, hn, hx => by
    have hk := rk_bl hw (i := n + 1) (by omega)
    have hy := qx_bl (b := qe funsub (qt 3 x)) (k := rk w (n + 1)) qe_unsub hk
    have e : decN w (n + 1 + 1) x = decN w (n + 1) (qc [14, 11, 13, 9] (qx (qe funsub (qt 3 x)) (rk w (n + 1)))) := by
      show decN w (n + 1) (if 1 < n + 1 + 1 then _ else _) = _
      rw [if_pos (by omega)]
    rw [e, encN_snoc, enc_decN hw n (by omega) (qc_bl back_), if_pos (by omega), qc_back' hy, qx_back qe_unsub hk, rnd, sr_there hx]
theorem enc_dec {w b : List Int} (hw : BL 176 w) (hb : BL 16 b) : enc w (dec w b) = b := by
  have hk := rk_bl hw (i := 10) (by decide)
  have := enc_decN hw 9 (by decide) (qx_bl hb hk)
  rw [if_neg (by decide), qx_back hb hk] at this
  exact this

theorem dec_encN {w : List Int} (hw : BL 176 w) {b : List Int} (hb : BL 16 b) : ∀ (n : Nat), n ≤ 9 → decN w (n + 1) (qt 1 (qe fsub (encN w n 1 (qx b (rk w 0))))) = b
  | 0, _ => by
    have h0 := rk_bl hw (i := 0) (by decide)
    show qx (qe funsub (qt 3 (qt 1 (qe fsub (qx b (rk w 0)))))) (rk w 0) = b
    rw [sr_back (qx_bl hb h0), qx_back hb h0]
  | n + 1, hn => by
    have hk := rk_bl hw (i := n + 1) (by omega)
    have he := encN_bl hw (n + 1) 1 (x := qx b (rk w 0))
    have h0 := rk_bl hw (i := 0) (by decide)
    have hx : BL 16 (encN w n 1 (qx b (rk w 0))) := by
      have : ∀ (m i : Nat) {x : List Int}, m + i ≤ 11 → BL 16 x → BL 16 (encN w m i x) := by
        intro m
        induction m with
        | zero => intro i x _ h; exact h
        | succ m ih =>
          intro i x hm h
          refine ih (i + 1) (by omega) (qx_bl ?_ (rk_bl hw (by omega)))
          split
          · exact qc_bl there
          · exact qt_bl qe_sub
      exact this n 1 (by omega) (qx_bl hb h0)
    rw [encN_snoc]
    have hr : BL 16 (rnd w (n + 1) (encN w n 1 (qx b (rk w 0)))) := by
      refine qx_bl ?_ hk
      split
      · exact qc_bl there
      · exact qt_bl qe_sub
    show decN w (n + 1) (if 1 < n + 1 + 1 then qc [14, 11, 13, 9] (qx (qe funsub (qt 3 (qt 1 (qe fsub (rnd w (n + 1) (encN w n 1 (qx b (rk w 0)))))))) (rk w (n + 1))) else _) = b
    rw [if_pos (by omega), sr_back hr, rnd, if_pos (by omega), qx_back (qc_bl there) hk, qc_back (qt_bl qe_sub)]
    exact dec_encN hw hb n (by omega)
theorem dec_enc {w b : List Int} (hw : BL 176 w) (hb : BL 16 b) : dec w (enc w b) = b := by
  have hk := rk_bl hw (i := 10) (by decide)
  have h := dec_encN hw hb 9 (by decide)
  have e : enc w b = qx (qt 1 (qe fsub (encN w 9 1 (qx b (rk w 0))))) (rk w 10) := by
    show encN w 10 1 _ = _
    rw [encN_snoc, rnd, if_neg (by decide)]
  rw [e, dec, qx_back (qt_bl qe_sub) hk]
  exact h

theorem mask_mask {w s p : List Int} (hw : BL 176 w) (hs : BL 16 s) (hp : Bs p) : mask w s (mask w s p) = p := by
  conv => rhs; rw [eq_tab (l := p) rfl]
  unfold mask
  rw [tab_len]
  refine tab_ext fun i hi => ?_
  rw [tab_lget _ hi, xor_back ((bs_bl hp).get i) (strB_byte hw hs i)]

theorem leq_self (a : List Int) : leq a a = true := by simp [leq]
theorem cnt_bl (s : Int) : BL 16 (cnt s) := BL.tab fun i hi => ⟨by omega, by omega⟩
theorem zeros_bl (n : Nat) : BL n (lzeros n) := by rw [lzeros_tab]; exact BL.tab fun i _ => ⟨by decide, by decide⟩

end Go.Proofs.Ytkecbjohbihfmaa.G
namespace Go.Blk
open Go.Sx Go.Fld
/-- are these the round keys? -/
def okK (key K : List Int) : Bool := K.length == 176 && (List.range 16).all (fun p => lget K p == lget key p) &&
  (List.range 44).all fun i => decide (i < 4) || (List.range 4).all fun j => lget K (4 * i + j) == bxor .u8 (lget K (4 * (i - 4) + j)) (kt i (fun j => lget K (4 * (i - 1) + j)) j)
theorem okK_eq {key K : List Int} (h : okK key K = true) : ks key = K := by
  simp only [okK, Bool.and_eq_true, beq_iff_eq, List.all_eq_true, List.mem_range, Bool.or_eq_true, decide_eq_true_eq] at h
  obtain ⟨⟨h1, h2⟩, h3⟩ := h
  have key' : ∀ i, i < 44 → ∀ j, j < 4 → kw key i j = lget K (4 * i + j) := by
    intro i
    induction i using Nat.strongRecOn with
    | _ i ih =>
      intro hi j hj
      by_cases q : i < 4
      · rw [kw_lo _ _ q, h2 _ (by omega)]
      · rcases h3 i hi with q2 | q2
        · omega
        · rw [kw_hi _ (by omega) hj, q2 j hj, ih (i - 4) (by omega) (by omega) j hj, kt_congr (fun a ha => ih (i - 1) (by omega) (by omega) a ha) hj]
  rw [eq_tab h1]
  refine tab_ext fun p hp => ?_
  rw [key' _ (by omega) _ (by omega), show 4 * (p / 4) + p % 4 = p by omega]
def aliveK : List Int := [0, 1, 2, 3, 4, 5, 6, 7, 8, 9, 10, 11, 12, 13, 14, 15, 214, 170, 116, 253, 210, 175, 114, 250, 218, 166, 120, 241, 214, 171, 118, 254, 182, 146, 207, 11, 100, 61, 189, 241, 190, 155, 197, 0, 104, 48, 179, 254, 182, 255, 116, 78, 210, 194, 201, 191, 108, 89, 12, 191, 4, 105, 191, 65, 71, 247, 247, 188, 149, 53, 62, 3, 249, 108, 50, 188, 253, 5, 141, 253, 60, 170, 163, 232, 169, 159, 157, 235, 80, 243, 175, 87, 173, 246, 34, 170, 94, 57, 15, 125, 247, 166, 146, 150, 167, 85, 61, 193, 10, 163, 31, 107, 20, 249, 112, 26, 227, 95, 226, 140, 68, 10, 223, 77, 78, 169, 192, 38, 71, 67, 135, 53, 164, 28, 101, 185, 224, 22, 186, 244, 174, 191, 122, 210, 84, 153, 50, 209, 240, 133, 87, 104, 16, 147, 237, 156, 190, 44, 151, 78, 19, 17, 29, 127, 227, 148, 74, 23, 243, 7, 167, 139, 77, 43, 48, 197]
def aliveS0 : List Int := [0, 16, 32, 48, 64, 80, 96, 112, 128, 144, 160, 176, 192, 208, 224, 240]
def aliveS1 : List Int := [137, 216, 16, 232, 133, 90, 206, 104, 45, 24, 67, 216, 203, 18, 143, 228]
def aliveS2 : List Int := [73, 21, 89, 143, 85, 229, 215, 160, 218, 202, 148, 250, 31, 10, 99, 247]
def aliveS3 : List Int := [250, 99, 106, 40, 37, 179, 57, 201, 64, 102, 138, 49, 87, 36, 77, 23]
def aliveS4 : List Int := [36, 114, 64, 35, 105, 102, 179, 250, 110, 210, 117, 50, 136, 66, 91, 108]
def aliveS5 : List Int := [200, 22, 119, 188, 155, 122, 201, 59, 37, 2, 121, 146, 176, 38, 25, 150]
def aliveS6 : List Int := [198, 47, 225, 9, 247, 94, 237, 195, 204, 121, 57, 93, 132, 249, 207, 93]
def aliveS7 : List Int := [209, 135, 108, 15, 121, 196, 48, 10, 180, 85, 148, 173, 214, 111, 244, 31]
def aliveS8 : List Int := [253, 227, 186, 210, 5, 229, 208, 215, 53, 71, 150, 78, 241, 254, 55, 241]
def aliveS9 : List Int := [189, 110, 124, 61, 242, 181, 119, 158, 11, 97, 33, 110, 139, 16, 182, 137]
def aliveS10 : List Int := [105, 196, 224, 216, 106, 123, 4, 48, 216, 205, 183, 128, 112, 180, 197, 90]
theorem alive_keys : okK (cnt 1) aliveK = true := by decide +kernel
theorem alive_s0 : qx (cnt 17) (rk aliveK 0) = aliveS0 := by decide +kernel
theorem alive_s1 : rnd aliveK 1 aliveS0 = aliveS1 := by decide +kernel
theorem alive_s2 : rnd aliveK 2 aliveS1 = aliveS2 := by decide +kernel
theorem alive_s3 : rnd aliveK 3 aliveS2 = aliveS3 := by decide +kernel
theorem alive_s4 : rnd aliveK 4 aliveS3 = aliveS4 := by decide +kernel
theorem alive_s5 : rnd aliveK 5 aliveS4 = aliveS5 := by decide +kernel
theorem alive_s6 : rnd aliveK 6 aliveS5 = aliveS6 := by decide +kernel
theorem alive_s7 : rnd aliveK 7 aliveS6 = aliveS7 := by decide +kernel
theorem alive_s8 : rnd aliveK 8 aliveS7 = aliveS8 := by decide +kernel
theorem alive_s9 : rnd aliveK 9 aliveS8 = aliveS9 := by decide +kernel
theorem alive_s10 : rnd aliveK 10 aliveS9 = aliveS10 := by decide +kernel
theorem alive_enc : enc (ks (cnt 1)) (cnt 17) = aliveS10 := by
  rw [okK_eq alive_keys, enc, alive_s0]
  show rnd aliveK 10 (rnd aliveK 9 (rnd aliveK 8 (rnd aliveK 7 (rnd aliveK 6 (rnd aliveK 5 (rnd aliveK 4 (rnd aliveK 3 (rnd aliveK 2 (rnd aliveK 1 aliveS0))))))))) = _
  rw [alive_s1, alive_s2, alive_s3, alive_s4, alive_s5, alive_s6, alive_s7, alive_s8, alive_s9, alive_s10]
end Go.Blk
