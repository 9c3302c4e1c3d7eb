/- From the symbolic walk to calls and to what is known of functions. -/
import Derived.Test.YtccjkjpdgpeogaaSx15
namespace Go.Sx
open Go
set_option linter.unusedSimpArgs false
set_option linter.unusedVariables false
section
variable {P : Program} {Γ : Gam} {D : Hints}

theorem start_sound {ρ : Rho} {n : Nat} {args : List AV} {vals : Array Value} (hl : args.length = vals.size) (hv : ∀ (j : Nat) x v, args[j]? = some x → vals[j]? = some v → SRep ρ x v) :
    FrRep ρ (startFr n args) (vals ++ Array.replicate (n - vals.size) undef) := by
  refine ⟨by simp [startFr, hl], fun t v ht => ?_⟩
  rw [Fr.get_eq]
  by_cases h : t < vals.size
  · rw [Array.getElem?_append_left h] at ht
    have h' : t < args.length := by omega
    simp only [startFr]
    rw [List.getElem?_append_left h', List.getElem?_eq_getElem h']
    exact hv t _ v (List.getElem?_eq_getElem h') ht
  · rw [Array.getElem?_append_right (by omega)] at ht
    simp only [startFr]
    rw [List.getElem?_append_right (by omega)]
    rw [Array.getElem?_replicate] at ht
    split at ht
    · rename_i hq
      cases ht
      rw [List.getElem?_replicate, if_pos (by omega)]
      exact SRep.undef ρ
    · cases ht

theorem callsx_sound (hm : P.follows .mixedOrders = true) (hΓ : GoodG P Γ) {f : FuncId} {fn : Func} (hf : P.funcs[f]? = some fn) (hb : fn.body.isSome = true) {n : Nat} {args : List AV} {σ : Mem} {R : AV → Mem → Prop} (h : callsx P Γ D fn n args σ R)
    {ρ : Rho} {w : World} {vals : Array Value} {ex : Nat → Prop} (hg : Glob ρ) (hl : args.length = vals.size) (hv : ∀ (j : Nat) x v, args[j]? = some x → vals[j]? = some v → SRep ρ x v) (hmem : MemRep ρ σ w) (hsep : Sep ρ σ)
    (hown : ∀ n b k, Mem.find σ n = some b → Out ρ n b k → w.heap.size ≤ k ∨ ex k) :
    Calls P f vals w fun e w' => ∃ v av σ' ρ', e = .returned v ∧ R av σ' ∧ SRep ρ' av v ∧ MemRep ρ' σ' w' ∧ Sep ρ' σ' ∧ (∀ n, 200000 ≤ n → ρ' n = ρ n) ∧ (∀ n b k, Mem.find σ' n = some b → Out ρ' n b k → w.heap.size ≤ k ∨ ex k) ∧ Keeps ex w w' := by
  intro cs
  let E : Env := ⟨w, ρ, ex, hg⟩
  let b : Frame := { (default : Frame) with fn := f, kind := .normal }
  cases hbody : fn.body with
  | none => rw [hbody] at hb; cases hb
  | some c =>
    have hbc : bodyOf fn = c := by simp [bodyOf, hbody]
    let a : Act := { tmps := vals ++ Array.replicate (fn.ntmps - vals.size) undef, defers := [] }
    have henter : Frame.enter P f vals .normal = b.at a [.code c] := by
      simp [Frame.enter, Frame.at, hf, hbody, b, a]
    have hR : Rep E ρ (startFr fn.ntmps args) σ a w := ⟨start_sound hl hv, rfl, hmem, hsep, fun _ _ => rfl, hown, Keeps.refl _ _⟩
    unfold callsx at h
    rw [hbc] at h
    obtain ⟨e, a', w', he, ⟨ρ', fr', σ', hR', hres⟩, harr⟩ := run_sound hm hΓ n _ ρ _ σ a w h hR b cs
    rw [← henter] at harr
    obtain ⟨v, av, ρ2, fr2, σ2, hrun, hav, hRR, hR2⟩ := resh_sound hres hR'
    have post : ∃ v' av σ' ρ', (Ending.returned v) = .returned v' ∧ R av σ' ∧ SRep ρ' av v' ∧ MemRep ρ' σ' w' ∧ Sep ρ' σ' ∧ (∀ n, 200000 ≤ n → ρ' n = ρ n) ∧ (∀ n b k, Mem.find σ' n = some b → Out ρ' n b k → w.heap.size ≤ k ∨ ex k) ∧ Keeps ex w w' :=
      ⟨v, av, σ2, ρ2, rfl, hRR, hav, hR2.mem, hR2.sep, hR2.fix, hR2.own, hR2.keep⟩
    rcases he with rfl | rfl
    · exact ⟨.returned v, w', _, post, Steps.trans harr (.one step_end), rfl, rfl, hR'.df, rfl, fn, hf, hrun⟩
    · obtain ⟨todo, hs⟩ := harr
      exact ⟨.returned v, w', _, post, hs, rfl, rfl, hR'.df, rfl, fn, hf, hrun⟩

/-- no part of it is an address -/
def plainAV (x : AV) : Prop := ∀ n, x.refs n = false

theorem sep_nil (ρ : Rho) : Sep ρ [] := ⟨fun n m b c k hn => by simp [Mem.find] at hn, fun n b k hn => by simp [Mem.find] at hn⟩

/-- a function of plain values, up to how a truth value is written -/
theorem Good.pure2 (hm : P.follows .mixedOrders = true) (hΓ : GoodG P Γ) {f : FuncId} {fn : Func} (hf : P.funcs[f]? = some fn) (hb : fn.body.isSome = true) {s : Spec} (hs : s.mods = false)
    (hsem : ∀ d args σ (K : AV → Mem → Prop), s.sem d args σ K → (∀ x ∈ args, plainAV x) ∧ ∃ av, plainAV av ∧ K av σ ∧ ∃ n, callsx P Γ D fn n args [] fun av' _ => ∀ ρ v, SRep ρ av' v → SRep ρ av v) : Good P f s := by
  refine ⟨fun d args σ K h ρ w vals hg hmem hsep hl hv hnew => ?_⟩
  obtain ⟨hpl, av, hav, hK, n, hc⟩ := hsem d args σ K h
  refine (callsx_sound hm hΓ hf hb hc (ex := fun _ => False) hg hl hv (fun n b hb => by simp [Mem.find] at hb) (sep_nil ρ) (fun n b k hn => by simp [Mem.find] at hn)).mono ?_
  rintro e w' ⟨v, av', σ', ρ', rfl, hsame', hsr, _, _, _, _, hk⟩
  have hsame : ∀ i, i < w.heap.size → w'.heap[i]? = w.heap[i]? := fun i hi => hk.block i hi (fun q => q)
  refine ⟨v, av, σ, ρ, rfl, hK, (hsame' _ _ hsr).agree (fun n hn => by rw [hav n] at hn; cases hn), hmem.keeps (fun n b k hb hk => hsame _ (in_range (hmem n b hb) hk)), hsep, fun _ _ => rfl, fun n b k hn hO => Or.inl ⟨n, b, hn, hO⟩, ?_, fun _ => ⟨hk, fun _ _ q => q⟩⟩
  exact ⟨hk.os, hk.tape, hk.output, hk.size, fun k hk' _ => hsame k hk'⟩

/-- a function of plain values -/
theorem Good.pure (hm : P.follows .mixedOrders = true) (hΓ : GoodG P Γ) {f : FuncId} {fn : Func} (hf : P.funcs[f]? = some fn) (hb : fn.body.isSome = true) {s : Spec} (hs : s.mods = false)
    (hsem : ∀ d args σ (K : AV → Mem → Prop), s.sem d args σ K → (∀ x ∈ args, plainAV x) ∧ ∃ av, plainAV av ∧ K av σ ∧ ∃ n, callsx P Γ D fn n args [] fun av' _ => av' = av) : Good P f s := by
  refine ⟨fun d args σ K h ρ w vals hg hmem hsep hl hv hnew => ?_⟩
  obtain ⟨hpl, av, hav, hK, n, hc⟩ := hsem d args σ K h
  refine (callsx_sound hm hΓ hf hb hc (ex := fun _ => False) hg hl hv (fun n b hb => by simp [Mem.find] at hb) (sep_nil ρ) (fun n b k hn => by simp [Mem.find] at hn)).mono ?_
  rintro e w' ⟨v, av', σ', ρ', rfl, rfl, hsr, _, _, _, _, hk⟩
  have hsame : ∀ i, i < w.heap.size → w'.heap[i]? = w.heap[i]? := fun i hi => hk.block i hi (fun q => q)
  refine ⟨v, av', σ, ρ, rfl, hK, hsr.agree (fun n hn => by rw [hav n] at hn; cases hn), hmem.keeps (fun n b k hb hk => hsame _ (in_range (hmem n b hb) hk)), hsep, fun _ _ => rfl, fun n b k hn hO => Or.inl ⟨n, b, hn, hO⟩, ?_, fun _ => ⟨hk, fun _ _ q => q⟩⟩
  exact ⟨hk.os, hk.tape, hk.output, hk.size, fun k hk' _ => hsame k hk'⟩

theorem plain_int (k : IntKind) (n : Int) : plainAV (.one (.int k n)) := fun _ => rfl
theorem plain_ints (k : IntKind) (n : Nat) (l : List Int) : plainAV (.agg [.ints k n l]) := fun _ => rfl
theorem plain_bool (b : Bool) : plainAV (.one (.bool b)) := fun _ => rfl

/-- a law over plain values -/
theorem law_pure (hm : P.follows .mixedOrders = true) (hΓ : GoodG P Γ) {f : FuncId} {fn : Func} (hf : P.funcs[f]? = some fn) (hb : fn.body.isSome = true) {n : Nat} {args : List AV} {vals : Array Value} {w : World} (hl : args.length = vals.size)
    (hv : ∀ ρ, ∀ (j : Nat) x v, args[j]? = some x → vals[j]? = some v → SRep ρ x v) (h0 : Has (callsx P Γ D fn n args [] fun av _ => av = .one (.bool true) ∨ av = .one (.lit true))) :
    Calls P f vals w fun e w' => e = .returned (.bool true) ∧ Go.RowKit.Below w.heap.size w w' := by
  have h := h0.out
  let ρ : Rho := fun n => ⟨n - 1000000, 0, none, 0, 0, fun _ _ => ⟨none, 0, 0⟩⟩
  refine (callsx_sound hm hΓ hf hb h (ρ := ρ) (ex := fun _ => False) (fun g => by simp [ρ, gname]) hl (hv ρ) (fun n b hb => by simp [Mem.find] at hb) (sep_nil ρ) (fun n b k hn => by simp [Mem.find] at hn)).mono ?_
  rintro e w' ⟨v, av, σ', ρ', rfl, hav, hsr, _, _, _, _, hk⟩
  have : v = .bool true := by rcases hav with rfl | rfl <;> exact hsr
  subst this
  exact ⟨rfl, hk.below⟩
end
end Go.Sx
