/- Calls; one operation of a region, in whatever place. -/
import Derived.Test.YtccjkjpdgpeogaaSx10
namespace Go.Sx
open Go
set_option linter.unusedSimpArgs false
set_option linter.unusedVariables false

/-! ### other addresses for names that nobody uses -/
section
variable {ρ ρ' : Rho}

theorem CRep.agree {a : AC} {v : Value} (hr : ∀ n, a.refs n = true → ρ' n = ρ n) (h : CRep ρ a v) : CRep ρ' a v := by
  cases a <;> simp only [CRep, AC.refs, beq_iff_eq] at hr h ⊢ <;> first | exact h | (rename_i n _ _; have e := hr n rfl; simpa [at_, e] using h) | (rename_i n _ _ _ _; have e := hr n rfl; simpa [at_, e] using h)

theorem FRep.agree {l : List AC} {c : List Value} (hr : ∀ n, l.any (AC.refs n) = true → ρ' n = ρ n) (h : FRep ρ l c) : FRep ρ' l c :=
  ⟨h.1, fun j a v ha hv => (h.2 j a v ha hv).agree fun n hn => hr n (List.any_eq_true.2 ⟨a, List.mem_of_getElem? ha, hn⟩)⟩

theorem flat_refs' {d : Nat} {s : List Seg} (h : (flat s).any (AC.refs d) = true) : segsRefs d s = true := by
  cases hq : segsRefs d s with
  | true => rfl
  | false => rw [flat_refs hq] at h; cases h

theorem SRep.agree {x : AV} {v : Value} (hr : ∀ n, x.refs n = true → ρ' n = ρ n) (h : SRep ρ x v) : SRep ρ' x v := by
  cases x with
  | one a => exact CRep.agree hr h
  | agg s =>
    obtain ⟨ho, cs, e, hf⟩ := h
    exact ⟨ho, cs, e, hf.agree fun n hn => hr n (flat_refs' hn)⟩
  | tup vs =>
    obtain ⟨us, e, hl, hall⟩ := h
    refine ⟨us, e, hl, fun j t u ht hu => ?_⟩
    have := hall j t u ht hu
    have hm : ∀ n, t.refs n = true → ρ' n = ρ n := fun n hn => hr n (List.any_eq_true.2 ⟨t, List.mem_of_getElem? ht, hn⟩)
    cases t with
    | c a => exact CRep.agree hm this
    | g s => obtain ⟨ho, cs, e, hf⟩ := this; exact ⟨ho, cs, e, hf.agree fun n hn => hm n (flat_refs' hn)⟩
  | undef => trivial

theorem FrRep.agree {fr : Fr} {tmps : Array Value} (hr : ∀ n, frRefs n fr = true → ρ' n = ρ n) (h : FrRep ρ fr tmps) : FrRep ρ' fr tmps := by
  refine ⟨h.1, fun t v hv => (h.2 t v hv).agree fun n hn => hr n ?_⟩
  have ht : t < fr.length := by rw [h.1]; exact (Array.getElem?_eq_some_iff.1 hv).1
  exact List.any_eq_true.2 ⟨_, Fr.get_mem ht, hn⟩
end

/-! ### what is known of a function -/
def OwnAt (ρ : Rho) (σ : Mem) (k : Nat) : Prop := ∃ n T s, Mem.find σ n = some (.own T s) ∧ (ρ n).1 = k

structure Good (P : Program) (f : FuncId) (s : Spec) : Prop where
  calls : ∀ d args σ (K : AV → Mem → Prop), s.sem d args σ K → ∀ (ρ : Rho) (w : World) (vals : Array Value), Glob ρ → MemRep ρ σ w → Sep ρ σ → args.length = vals.size →
    (∀ (j : Nat) x v, args[j]? = some x → vals[j]? = some v → SRep ρ x v) → (∀ k, k < s.news → d + 10000 * k < 200000 ∧ memRefs (d + 10000 * k) σ = false) →
    Calls P f vals w fun e w' => ∃ v av σ' ρ', e = .returned v ∧ K av σ' ∧ SRep ρ' av v ∧ MemRep ρ' σ' w' ∧ Sep ρ' σ' ∧ (∀ n, (∀ k, k < s.news → n ≠ d + 10000 * k) → ρ' n = ρ n) ∧
      (∀ n T s, Mem.find σ' n = some (.own T s) → OwnAt ρ σ (ρ' n).1 ∨ w.heap.size ≤ (ρ' n).1) ∧ Keeps (OwnAt ρ σ) w w' ∧ (s.mods = false → Keeps (fun _ => False) w w' ∧ ∀ m b, Mem.find σ m = some b → Mem.find σ' m = some b)

def GoodG (P : Program) (Γ : Gam) : Prop := ∀ f s, Γ f = some s → Good P f s ∧ ∃ fn, P.funcs[f]? = some fn ∧ fn.name ≠ "runtime.NumGoroutine" ∧ fn.body.isSome = true

theorem freshAll_sound {d : Nat} {fr : Fr} {σ : Mem} : ∀ {m : Nat}, freshAll d fr σ m = true → ∀ k, k < m → freshB (d + 10000 * k) fr σ = true
  | 0, _, k, h => by omega
  | m + 1, h, k, hk => by
    simp only [freshAll, Bool.and_eq_true] at h
    by_cases e : k = m
    · subst e; exact h.1
    · exact freshAll_sound h.2 k (by omega)

section
variable {P : Program} {Γ : Gam} {E : Env} {ρ : Rho} {fr : Fr} {σ : Mem} {a : Act} {w : World}

theorem callx_sound {f : FuncId} {dst : Option Tmp} {args : List AV} {vals : Array Value} {K : AV → Mem → Prop} (h : callx Γ f dst args fr σ K) (hΓ : GoodG P Γ) (hR : Rep E ρ fr σ a w) (hl : args.length = vals.size)
    (hv : ∀ (j : Nat) x v, args[j]? = some x → vals[j]? = some v → SRep ρ x v) :
    ∃ s d, Γ f = some s ∧ (s.news ≠ 0 → dst = some d) ∧ Calls P f vals w fun e w' => ∃ v av σ' ρ', e = .returned v ∧ K av σ' ∧ SRep ρ' av v ∧ Rep E ρ' fr σ' a w' ∧ w.heap.size ≤ w'.heap.size ∧ (∀ n, (∀ k, k < s.news → n ≠ d + 10000 * k) → ρ' n = ρ n) ∧ (s.mods = false → Keeps (fun _ => False) w w' ∧ ∀ m b, Mem.find σ m = some b → Mem.find σ' m = some b) := by
  have fin : ∀ {s : Spec} {d : Nat}, Γ f = some s → (∀ k, k < s.news → freshB (d + 10000 * k) fr σ = true) → s.sem d args σ K →
      Calls P f vals w fun e w' => ∃ v av σ' ρ', e = .returned v ∧ K av σ' ∧ SRep ρ' av v ∧ Rep E ρ' fr σ' a w' ∧ w.heap.size ≤ w'.heap.size ∧ (∀ n, (∀ k, k < s.news → n ≠ d + 10000 * k) → ρ' n = ρ n) ∧ (s.mods = false → Keeps (fun _ => False) w w' ∧ ∀ m b, Mem.find σ m = some b → Mem.find σ' m = some b) := by
    intro s d hs hfr hsem
    have unp : ∀ k, k < s.news → d + 10000 * k < 200000 ∧ frRefs (d + 10000 * k) fr = false ∧ memRefs (d + 10000 * k) σ = false := fun k hk => by
      have := hfr k hk
      simp only [freshB, Bool.and_eq_true, Bool.not_eq_true', decide_eq_true_eq] at this
      exact ⟨this.1.1, this.1.2, this.2⟩
    refine ((hΓ f s hs).1.calls d args σ K hsem ρ w vals hR.glob hR.mem hR.sep hl hv (fun k hk => ⟨(unp k hk).1, (unp k hk).2.2⟩)).mono ?_
    rintro e w' ⟨v, av, σ', ρ', rfl, hK, hav, hm, hs', hρ, hown, hk1, hk2⟩
    refine ⟨v, av, σ', ρ', rfl, hK, hav, ⟨?_, hR.df, hm, hs', fun n hn => ?_, fun n T s1 hn => ?_, ?_⟩, hk1.size, hρ, hk2⟩
    · refine hR.fr.agree fun n hn => hρ n fun k hk e => ?_
      subst e
      rw [(unp k hk).2.1] at hn; cases hn
    · rw [hρ n fun k hk e => by have := (unp k hk).1; omega]
      exact hR.fix n hn
    · rcases hown n T s1 hn with ⟨m, T2, s2, hm2, e⟩ | hge
      · rw [← e]; exact hR.own m T2 s2 hm2
      · left; have := hR.keep.size; omega
    · refine hR.keep.trans hk1 fun i hi ⟨m, T2, s2, hm2, e⟩ => ?_
      rcases hR.own m T2 s2 hm2 with q | q
      · omega
      · rw [← e]; exact q
  unfold callx at h
  split at h <;> try exact h.elim
  rename_i s hs
  split at h
  · rename_i d
    split at h <;> try exact h.elim
    rename_i hf
    exact ⟨s, d, hs, fun _ => rfl, fin hs (freshAll_sound hf) h⟩
  · split at h <;> try exact h.elim
    rename_i hn
    exact ⟨s, 0, hs, fun q => absurd hn q, fin hs (fun k hk => by omega) h⟩
end
end Go.Sx
