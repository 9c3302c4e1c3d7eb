/- Laws over arguments that lie in memory: they are read, and nothing of them is written. -/
import Derived.Test.YtgkklobamebnjaaSx17
import Derived.Test.YtgkklobamebnjaaSxN
import Derived.Test.YtgkklobamebnjaaSxR
import Derived.SizedLaws
namespace Go.Sx
open Go Go.ChangeShapes Go.WideShapes Go.ChangeAt Go.RowKit
set_option linter.unusedSimpArgs false
set_option linter.unusedVariables false

/-- the arguments of a law: plain values, and lists that are seen under names of their own -/
inductive LawArgs (w : World) : Nat → List AV → List Value → Mem → Prop
  | nil (j : Nat) : LawArgs w j [] [] []
  | plain {j : Nat} {x : AV} {v : Value} {xs : List AV} {vs : List Value} {τ : Mem} : (∀ ρ, SRep ρ x v) → LawArgs w (j + 1) xs vs τ → LawArgs w j (x :: xs) (v :: vs) τ
  | row {j : Nat} {v : Value} {xs : List AV} {vs : List Value} {τ : Mem} (L : Loc) (cs : List Col) : VRep w L cs → v = .slice L.a L.len L.cap → LawArgs w (j + 1) xs vs τ → LawArgs w j (.one (.vec (200000 + j)) :: xs) (v :: vs) ((200000 + j, .rview cs) :: τ)

theorem lawArgs_views {w : World} {τ : Mem} : ∀ {j : Nat} {xs : List AV} {vs : List Value}, LawArgs w j xs vs τ → ∀ ρ n b k, Mem.find τ n = some b → ¬ Out ρ n b k := by
  intro j xs vs h
  induction h with
  | nil j => intro ρ n b k hn; simp [Mem.find] at hn
  | plain _ _ ih => exact ih
  | row L cs _ _ _ ih =>
    intro ρ n b k hn
    simp only [Mem.find] at hn
    split at hn
    · cases hn; exact fun q => q
    · exact ih ρ n b k hn

theorem lawArgs_sound {w : World} {τ : Mem} : ∀ {j : Nat} {xs : List AV} {vs : List Value}, LawArgs w j xs vs τ →
    xs.length = vs.length ∧ ∃ Ls : Nat → Loc, ∀ ρ : Rho, (∀ i, j ≤ i → i < j + xs.length → ρ (200000 + i) = Ls i) → (∀ (i : Nat) y v, xs[i]? = some y → vs[i]? = some v → SRep ρ y v) ∧ MemRep ρ τ w := by
  intro j xs vs h
  induction h with
  | nil j => exact ⟨rfl, fun _ => loc0, fun ρ _ => ⟨fun i y v hy => by simp at hy, fun n b hb => by simp [Mem.find] at hb⟩⟩
  | @plain j x v xs vs τ hp _ ih =>
    obtain ⟨h1, Ls, h2⟩ := ih
    refine ⟨by simpa using h1, Ls, fun ρ hc => ?_⟩
    obtain ⟨g1, g2⟩ := h2 ρ (fun i hi hlt => hc i (by omega) (by simp only [List.length_cons]; omega))
    refine ⟨fun i y u hy hu => ?_, g2⟩
    cases i with
    | zero => simp at hy hu; subst hy hu; exact hp ρ
    | succ i => exact g1 i y u (by simpa using hy) (by simpa using hu)
  | @row j v xs vs τ L cs hV hv _ ih =>
    obtain ⟨h1, Ls, h2⟩ := ih
    refine ⟨by simpa using h1, fun i => if i = j then L else Ls i, fun ρ hc => ?_⟩
    have hj : ρ (200000 + j) = L := by rw [hc j (Nat.le_refl _) (by simp)]; simp
    obtain ⟨g1, g2⟩ := h2 ρ (fun i hi hlt => by rw [hc i (by omega) (by simp only [List.length_cons]; omega)]; show (if i = j then _ else Ls i) = Ls i; rw [if_neg (by omega)])
    refine ⟨fun i y u hy hu => ?_, fun n b hb => ?_⟩
    · cases i with
      | zero =>
        simp at hy hu
        subst hy hu
        show v = _
        rw [hj]; exact hv
      | succ i => exact g1 i y u (by simpa using hy) (by simpa using hu)
    · simp only [Mem.find] at hb
      split at hb
      · rename_i e; subst e; cases hb
        show VRep w (ρ (200000 + j)) cs
        rw [hj]; exact hV
      · exact g2 n b hb

theorem loc_of {w : World} {k : IntKind} {a : Option Addr} {len cap : Nat} {zs : List Int} (h : IsRow k w a len cap zs) : ∃ L : Loc, VRep w L [.ints k (zs.take len)] ∧ Value.slice a len cap = .slice L.a L.len L.cap := by
  rcases h with ⟨rfl, rfl, rfl, rfl⟩ | ⟨x, rfl, hl, hm, hz, hc, hw⟩
  · exact ⟨loc0, VRep.ofInts rfl (Nat.le_refl _) (fun q => absurd rfl q) (fun j x hj => by simp at hj), rfl⟩
  · have hcell : ∀ (j : Nat) y, (zs.take len)[j]? = some y → w.cell? (x.add j) = some (.int k y) := fun j y hj => by
      have hlt : j < len := by have := (List.getElem?_eq_some_iff.1 hj).1; simp at this; omega
      rw [hc j (by omega)]
      rw [List.getElem?_take_of_lt hlt] at hj
      simp [List.getD, hj]
    have hsp : 0 < len → x.spot = none := fun hp => by
      have h0 := hc 0 (by omega)
      cases hs : x.spot with
      | none => rfl
      | some q =>
        exfalso
        have : (x.add 0).spot.isSome = true := by cases x; simp only at hs; subst hs; rfl
        simp only [World.cell?, this] at h0
        split at h0 <;> simp at h0
    refine ⟨⟨x.block, x.off, some x, len, cap, fun _ _ => ⟨none, 0, 0⟩⟩, VRep.ofInts (by simp; omega) hl (fun q => ?_) (fun j y hj => ?_), rfl⟩
    · have := hsp (Nat.pos_of_ne_zero q)
      cases x
      simp only at this; subst this; rfl
    · have hlt : j < len := by have := (List.getElem?_eq_some_iff.1 hj).1; simp at this; omega
      have := hsp (by omega)
      have e : (Loc.at ⟨x.block, x.off, some x, len, cap, fun _ _ => ⟨none, 0, 0⟩⟩ j) = x.add j := by
        cases x; simp only at this; subst this; simp [Loc.at, Addr.add]
      rw [e]; exact hcell j y hj

theorem LawArgs.ints {w : World} {k : IntKind} {a : Option Addr} {len cap j : Nat} {zs : List Int} {xs : List AV} {vs : List Value} {τ : Mem} (h : IsRow k w a len cap zs) (t : LawArgs w (j + 1) xs vs τ) :
    LawArgs w j (.one (.vec (200000 + j)) :: xs) (.slice a len cap :: vs) ((200000 + j, .rview [.ints k (zs.take len)]) :: τ) := by
  obtain ⟨L, h1, h2⟩ := loc_of h
  exact .row L _ h1 h2 t

theorem IsRow.take_len {w : World} {k : IntKind} {a : Option Addr} {len cap : Nat} {zs : List Int} (h : IsRow k w a len cap zs) : (zs.take len).length = len ∧ len ≤ zs.length := by
  rcases h with ⟨rfl, rfl, rfl, rfl⟩ | ⟨x, rfl, hl, hm, hz, hc, hw⟩
  · exact ⟨rfl, Nat.le_refl _⟩
  · exact ⟨by simp; omega, by omega⟩

theorem IsRow.bytes {w : World} {a : Option Addr} {len cap : Nat} {zs : List Int} (h : IsRow .u8 w a len cap zs) : ∀ x ∈ zs.take len, 0 ≤ x ∧ x < 256 := by
  rcases h with ⟨rfl, rfl, rfl, rfl⟩ | ⟨x, rfl, hl, hm, hz, hc, hw⟩
  · intro x hx; simp at hx
  · intro x hx
    obtain ⟨h1, h2⟩ := bounds_u8 (hw x (List.mem_of_mem_take hx))
    exact ⟨h1, by omega⟩

section
variable {H : Type} {enc : TypeId × Value → H} {P : Program} {w : World}
/-- a slice of integers that came in, with its size -/
theorem open_row_sized {t e : TypeId} {k : IntKind} {a : Option Addr} {len cap : Nat} {d : DataW H} {ps : List MemPlace} (ht : P.underlying t = some (.slice e)) (he : P.underlying e = some (.int k)) (hc : P.cellsOf e = 1)
    (h : DataW.Trod enc P w 0 (fun _ => true) true t (.slice a len cap) d ps) {ts : List TypeId} {ds : List (DataW H)} (hsz : (DataW.weightsEach P ts ds).all (· ≤ reachBytes) = true) {j : Nat} (htj : ts[j]? = some t) (hdj : ds[j]? = some d) :
    ∃ zs, IsRow k w a len cap zs ∧ zs.length * P.bytesOf e ≤ reachBytes := by
  obtain ⟨fuel, hf⟩ := h
  rcases open_ints ht he hc hf with ⟨hcs, _⟩ | ⟨x, l, c, zs, hcs, _, hl, hm, hz, hd, hcell, hwz⟩
  · simp [Value.cells] at hcs
    obtain ⟨rfl, rfl, rfl⟩ := hcs
    exact ⟨[], .inl ⟨rfl, rfl, rfl, rfl⟩, by simp⟩
  · simp [Value.cells] at hcs
    obtain ⟨rfl, rfl, rfl⟩ := hcs
    simp only [Prod.mk.injEq] at hd
    obtain ⟨rfl, _⟩ := hd
    refine ⟨zs, .inr ⟨_, rfl, hl, hm, by simpa using hz, hcell, hwz⟩, ?_⟩
    have := sized_slice hsz htj hdj ht
    simp only [lits, List.length_map, List.length_take, List.length_drop] at this
    have hz' : zs.length = cap := by simpa using hz
    rw [show min len zs.length + (zs.length - len) = zs.length by omega] at this
    exact this
end

section
variable {P : Program} {Γ : Gam} {D : Hints}
/-- a law over plain values and lists -/
theorem law_mem (hm : P.follows .mixedOrders = true) (hΓ : GoodG P Γ) {f : FuncId} {fn : Func} (hf : P.funcs[f]? = some fn) (hb : fn.body.isSome = true) {n : Nat} {args : List AV} {vals : Array Value} {w : World} {τ : Mem} (ha : LawArgs w 0 args vals.toList τ) (hlen : args.length ≤ 1000)
    (h0 : Has (callsx P Γ D fn n args τ fun av _ => av = .one (.bool true) ∨ av = .one (.lit true))) :
    Calls P f vals w fun e w' => e = .returned (.bool true) ∧ Go.RowKit.Below w.heap.size w w' := by
  have h := h0.out
  obtain ⟨hl, Ls, hs⟩ := lawArgs_sound ha
  generalize hρ0 : rhoC (fun n => ⟨n - 1000000, 0, none, 0, 0, fun _ _ => ⟨none, 0, 0⟩⟩) Ls = ρ
  have hρ : ∀ i, 0 ≤ i → i < 0 + args.length → ρ (200000 + i) = Ls i := fun i _ hi => by rw [← hρ0]; exact rhoC_arg (by omega)
  obtain ⟨g1, g2⟩ := hs ρ hρ
  have hno := lawArgs_views ha ρ
  have hg : Glob ρ := fun g => by
    have e : ρ (gname g) = ⟨gname g - 1000000, 0, none, 0, 0, fun _ _ => ⟨none, 0, 0⟩⟩ := by rw [← hρ0]; exact rhoC_glob
    rw [e]; simp [gname]
  refine (callsx_sound hm hΓ hf hb h (ρ := ρ) (ex := fun _ => False) hg (by simpa using hl) (fun j x v h1 h2 => g1 j x v h1 (by rw [Array.getElem?_toList]; exact h2)) g2 ⟨fun n m b c k hn _ _ hO => absurd hO (hno n b k hn), fun n b k hn hO => absurd hO (hno n b k hn)⟩ (fun n b k hn hO => absurd hO (hno n b k hn))).mono ?_
  rintro e w' ⟨v, av, σ', ρ', rfl, hav, hsr, _, _, _, _, hk⟩
  have : v = .bool true := by rcases hav with rfl | rfl <;> exact hsr
  subst this
  exact ⟨rfl, hk.below⟩
end
end Go.Sx
