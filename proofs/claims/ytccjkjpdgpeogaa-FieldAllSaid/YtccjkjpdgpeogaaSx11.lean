/- Calls. -/
import Derived.Test.YtccjkjpdgpeogaaSxI
namespace Go.Sx
open Go
set_option linter.unusedSimpArgs false
set_option linter.unusedVariables false

/-! ### what is known of a function -/
def OwnAt (ρ : Rho) (σ : Mem) (k : Nat) : Prop := ∃ n b, Mem.find σ n = some b ∧ Out ρ n b k

structure Good (P : Program) (f : FuncId) (s : Spec) : Prop where
  calls : ∀ d args σ (K : AV → Mem → Prop), s.sem d args σ K → ∀ (ρ : Rho) (w : World) (vals : Array Value), Glob ρ → MemRep ρ σ w → Sep ρ σ → args.length = vals.size →
    (∀ (j : Nat) x v, args[j]? = some x → vals[j]? = some v → SRep ρ x v) → (∀ k, k < s.news → d + 10000 * k < 200000 ∧ memRefs (d + 10000 * k) σ = false) →
    Calls P f vals w fun e w' => ∃ v av σ' ρ', e = .returned v ∧ K av σ' ∧ SRep ρ' av v ∧ MemRep ρ' σ' w' ∧ Sep ρ' σ' ∧ (∀ n, (∀ k, k < s.news → n ≠ d + 10000 * k) → ρ' n = ρ n) ∧
      (∀ n b k, Mem.find σ' n = some b → Out ρ' n b k → OwnAt ρ σ k ∨ w.heap.size ≤ k) ∧ Keeps (OwnAt ρ σ) w w' ∧ (s.mods = false → Keeps (fun _ => False) w w' ∧ ∀ m b, Mem.find σ m = some b → Mem.find σ' m = some b)

def GoodG (P : Program) (Γ : Gam) : Prop := ∀ f s, Γ f = some s → Good P f s ∧ ∃ fn, P.funcs[f]? = some fn ∧ fn.name ≠ "runtime.NumGoroutine" ∧ fn.body.isSome = true

theorem freshAll_sound {d : Nat} {fr : Fr} {σ : Mem} : ∀ {m : Nat}, freshAll d fr σ m = true → ∀ k, k < m → freshB (d + 10000 * k) fr σ = true
  | 0, _, k, h => by omega
  | m + 1, h, k, hk => by
    simp only [freshAll, Bool.and_eq_true] at h
    by_cases e : k = m
    · subst e; exact h.1
    · exact freshAll_sound h.2 k (by omega)

section
variable {P : Program} {Γ : Gam} {E : Env} {ρ : Rho} {fr : Fr} {σ : Mem} {a : Act} {w : World}

theorem callx_sound {f : FuncId} {dst : Option Tmp} {args : List AV} {vals : Array Value} {K : AV → Mem → Prop} (h : callx Γ f dst args fr σ K) (hΓ : GoodG P Γ) (hR : Rep E ρ fr σ a w) (hl : args.length = vals.size)
    (hv : ∀ (j : Nat) x v, args[j]? = some x → vals[j]? = some v → SRep ρ x v) :
    ∃ s d, Γ f = some s ∧ (s.news ≠ 0 → dst = some d) ∧ Calls P f vals w fun e w' => ∃ v av σ' ρ', e = .returned v ∧ K av σ' ∧ SRep ρ' av v ∧ Rep E ρ' fr σ' a w' ∧ w.heap.size ≤ w'.heap.size ∧ (∀ n, (∀ k, k < s.news → n ≠ d + 10000 * k) → ρ' n = ρ n) ∧ (s.mods = false → Keeps (fun _ => False) w w' ∧ ∀ m b, Mem.find σ m = some b → Mem.find σ' m = some b) := by
  have fin : ∀ {s : Spec} {d : Nat}, Γ f = some s → (∀ k, k < s.news → freshB (d + 10000 * k) fr σ = true) → s.sem d args σ K →
      Calls P f vals w fun e w' => ∃ v av σ' ρ', e = .returned v ∧ K av σ' ∧ SRep ρ' av v ∧ Rep E ρ' fr σ' a w' ∧ w.heap.size ≤ w'.heap.size ∧ (∀ n, (∀ k, k < s.news → n ≠ d + 10000 * k) → ρ' n = ρ n) ∧ (s.mods = false → Keeps (fun _ => False) w w' ∧ ∀ m b, Mem.find σ m = some b → Mem.find σ' m = some b) := by
    intro s d hs hfr hsem
    have unp : ∀ k, k < s.news → d + 10000 * k < 200000 ∧ frRefs (d + 10000 * k) fr = false ∧ memRefs (d + 10000 * k) σ = false := fun k hk => freshB_parts (hfr k hk)
    refine ((hΓ f s hs).1.calls d args σ K hsem ρ w vals hR.glob hR.mem hR.sep hl hv (fun k hk => ⟨(unp k hk).1, (unp k hk).2.2⟩)).mono ?_
    rintro e w' ⟨v, av, σ', ρ', rfl, hK, hav, hm, hs', hρ, hown, hk1, hk2⟩
    refine ⟨v, av, σ', ρ', rfl, hK, hav, ⟨?_, hR.df, hm, hs', fun n hn => ?_, fun n b k hn hO => ?_, ?_⟩, hk1.size, hρ, hk2⟩
    · refine hR.fr.agree fun n hn => hρ n fun k hk e => ?_
      subst e
      rw [(unp k hk).2.1] at hn; cases hn
    · rw [hρ n fun k hk e => by have := (unp k hk).1; omega]
      exact hR.fix n hn
    · rcases hown n b k hn hO with ⟨m, c, hm2, e⟩ | hge
      · exact hR.own m c k hm2 e
      · left; have := hR.keep.size; omega
    · refine hR.keep.trans hk1 fun i hi ⟨m, c, hm2, e⟩ => ?_
      rcases hR.own m c i hm2 e with q | q
      · omega
      · exact q
  unfold callx at h
  split at h <;> try exact h.elim
  rename_i s hs
  split at h
  · rename_i d
    split at h <;> try exact h.elim
    rename_i hf
    exact ⟨s, d, hs, fun _ => rfl, fin hs (freshAll_sound hf) h⟩
  · split at h <;> try exact h.elim
    rename_i hn
    exact ⟨s, 0, hs, fun q => absurd hn q, fin hs (fun k hk => by omega) h⟩
end
end Go.Sx
