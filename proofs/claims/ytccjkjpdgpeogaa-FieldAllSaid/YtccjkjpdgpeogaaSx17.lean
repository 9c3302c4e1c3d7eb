/- Arguments of a law: opening what came in, and handing it to the walk. -/
import Derived.Test.YtccjkjpdgpeogaaSx16
import Derived.OpenShut
import Derived.WideShapes
import Derived.Below
import Derived.WalkKit
import Derived.ProofKit
import Derived.ChangeOld
import Derived.ChangeSlices
namespace Go.Sx
open Go Go.ChangeShapes Go.WideShapes Go.ChangeAt Go.RowKit
set_option linter.unusedSimpArgs false
set_option linter.unusedVariables false

section
variable {H : Type} {enc : TypeId × Value → H} {P : Program} {w : World} {base : Nat} {sp : Nat → Bool} {held : Bool}

/-- the arguments, one by one -/
inductive Args (ρ : Rho) : List AV → List Value → Prop
  | nil : Args ρ [] []
  | cons {x v l m} : SRep ρ x v → Args ρ l m → Args ρ (x :: l) (v :: m)

theorem Args.at {ρ : Rho} {l : List AV} {m : List Value} (h : Args ρ l m) : ∀ (j : Nat) x v, l[j]? = some x → m[j]? = some v → SRep ρ x v := by
  induction h with
  | nil => intro j x v h1; simp at h1
  | cons h t ih =>
    intro j x v h1 h2
    cases j with
    | zero => simp only [List.getElem?_cons_zero, Option.some.injEq] at h1 h2; subst h1; subst h2; exact h
    | succ j => exact ih j x v (by simpa using h1) (by simpa using h2)

theorem Args.arr {ρ : Rho} {l : List AV} {vals : Array Value} (h : Args ρ l vals.toList) (j : Nat) (x : AV) (v : Value) (h1 : l[j]? = some x) (h2 : vals[j]? = some v) : SRep ρ x v :=
  h.at j x v h1 (by simpa using h2)

theorem srep_int (ρ : Rho) (k : IntKind) (n : Int) : SRep ρ (.one (.int k n)) (.int k n) := rfl
theorem srep_bool (ρ : Rho) (b : Bool) : SRep ρ (.one (.bool b)) (.bool b) := rfl

theorem srep_arr (ρ : Rho) (k : IntKind) (n : Nat) (l : List Int) (h : l.length = n) : SRep ρ (.agg [.ints k n l]) (.agg (l.map (Value.int k)).toArray) := by
  refine ⟨⟨h, trivial⟩, l.map (Value.int k), rfl, by simp [flat, Seg.flat], fun j a v h1 h2 => ?_⟩
  simp only [flat, Seg.flat, List.append_nil, List.getElem?_map, Option.map_eq_some_iff] at h1 h2
  obtain ⟨z, hz, rfl⟩ := h1
  obtain ⟨z', hz', rfl⟩ := h2
  rw [hz] at hz'; cases hz'
  rfl

/-- what the walk is told of a slice of integers that came in -/
def IsRow (k : IntKind) (w : World) (a : Option Addr) (len cap : Nat) (zs : List Int) : Prop :=
  (a = none ∧ len = 0 ∧ cap = 0 ∧ zs = []) ∨
  ∃ x, a = some x ∧ len ≤ cap ∧ cap ≤ maxLen ∧ zs.length = cap ∧ (∀ i, i < zs.length → w.cell? (x.add i) = some (.int k (zs.getD i 0))) ∧ ∀ n ∈ zs, (Lit.int k n).wf = true

theorem open_row {t e : TypeId} {k : IntKind} {a : Option Addr} {len cap : Nat} {d : DataW H} {ps : List MemPlace} (ht : P.underlying t = some (.slice e)) (he : P.underlying e = some (.int k)) (hc : P.cellsOf e = 1)
    (h : DataW.Trod enc P w 0 (fun _ => true) true t (.slice a len cap) d ps) : ∃ zs, IsRow k w a len cap zs := by
  obtain ⟨fuel, hf⟩ := h
  rcases open_ints ht he hc hf with ⟨hcs, _⟩ | ⟨x, l, c, zs, hcs, _, hl, hm, hz, _, hcell, hwz⟩
  · simp [Value.cells] at hcs
    obtain ⟨rfl, rfl, rfl⟩ := hcs
    exact ⟨[], .inl ⟨rfl, rfl, rfl, rfl⟩⟩
  · simp [Value.cells] at hcs
    obtain ⟨rfl, rfl, rfl⟩ := hcs
    exact ⟨zs, .inr ⟨_, rfl, hl, hm, by simpa using hz, hcell, hwz⟩⟩

theorem open_array {t e : TypeId} {k : IntKind} {n : Nat} {r : Reach} {b0 : Nat} {v : Value} {d : DataW H} {ps : List MemPlace} (ht : P.underlying t = some (.array n e)) (he : P.underlying e = some (.int k)) (hc : P.cellsOf e = 1) (hn : P.cellsOf t = n)
    (hv : Value.okWide P w r b0 t v) (h : DataW.Trod enc P w base sp held t v d ps) : ∃ zs : List Int, v = .agg (zs.map (Value.int k)).toArray ∧ zs.length = n ∧ ∀ z ∈ zs, (Lit.int k z).wf = true := by
  have hv' : ∃ xs : Array Value, v = .agg xs := by
    simp only [Value.okWide, ht] at hv
    obtain ⟨cs, h1, _⟩ := hv
    exact ⟨cs, h1⟩
  obtain ⟨xs, rfl⟩ := hv'
  obtain ⟨fuel, hf⟩ := h
  obtain ⟨ys, m, rfl, _, hl, hn', hr⟩ := DataW.trod_array ht hf
  simp only [Value.cells, hc, Nat.mul_one] at hl hr
  have hx : ∀ i, i < n → ∃ z, xs[i]? = some (.int k z) ∧ (Lit.int k z).wf = true := by
    intro i hi
    have h1 := hr i hi
    obtain ⟨y, hy⟩ : ∃ y, ys[i]? = some y := ⟨_, List.getElem?_eq_getElem (by omega)⟩
    rw [hy] at h1
    obtain ⟨z, hz, _, hw⟩ := DataW.trod_int he h1
    refine ⟨z, ?_, hw⟩
    have hlen : i < xs.toList.length := by omega
    rw [List.drop_eq_getElem_cons hlen] at hz
    simp at hz
    rw [Array.getElem?_eq_getElem (by simpa using hlen), hz]
  have hsz : xs.size = n := by rw [hn] at hl; simpa using hl
  refine ⟨xs.toList.map fun | .int _ z => z | _ => 0, ?_, by simp [hsz], ?_⟩
  · congr 1
    apply Array.ext
    · simp
    · intro i h1 h2
      obtain ⟨z, hz, _⟩ := hx i (by omega)
      rw [Array.getElem?_eq_getElem h1] at hz
      cases hz' : xs[i] <;> rw [hz'] at hz <;> cases hz
      simp [hz']
  · intro z hz
    simp only [List.mem_map] at hz
    obtain ⟨v, hv, rfl⟩ := hz
    obtain ⟨i, hi, rfl⟩ := List.getElem_of_mem hv
    obtain ⟨z, hz, hw⟩ := hx i (by simpa [hsz] using hi)
    have : xs.toList[i] = .int k z := by
      rw [Array.getElem?_eq_getElem (by simpa using hi)] at hz
      simpa using hz
    rw [this]
    exact hw

theorem nat_u8 {z : Int} (h : (Lit.int .u8 z).wf = true) : ∃ a : Nat, z = a ∧ a < 256 := by
  obtain ⟨h1, h2⟩ := bounds_u8 h
  exact ⟨z.toNat, by omega, by omega⟩
end
end Go.Sx
