/- The walk of a function's code is sound: what 'callsx' says of a call, the call does. -/
import Derived.Test.YtccjkjpdgpeogaaSx14
namespace Go.Sx
open Go
set_option linter.unusedSimpArgs false
set_option linter.unusedVariables false
section
variable {P : Program} {Γ : Gam} {E : Env}

theorem scrub_sound {ρ : Rho} {tmps : Array Value} : ∀ (l : List Nat) {fr : Fr}, FrRep ρ fr tmps → FrRep ρ (scrubFr l fr) tmps
  | [], fr, h => h
  | t :: l, fr, h => by
    simp only [scrubFr, List.foldr_cons]
    exact (scrub_sound l h).same fun _ _ => trivial

theorem find_filter (f : Nat → Bool) : ∀ {σ : Mem} {n : Nat} {b : Blk}, Mem.find (σ.filter fun p => f p.1) n = some b → Mem.find σ n = some b
  | [], n, b, h => by simp [Mem.find] at h
  | (m, x) :: r, n, b, h => by
    simp only [Mem.find]
    cases hf : f m with
    | true =>
      rw [List.filter_cons_of_pos (by simpa using hf)] at h
      simp only [Mem.find] at h
      split at h
      · rename_i e; rw [if_pos e]; exact h
      · rename_i e; rw [if_neg e]; exact find_filter f h
    | false =>
      rw [List.filter_cons_of_neg (by simp [hf])] at h
      by_cases e : m = n
      · subst e
        exfalso
        have none : ∀ {r : Mem}, Mem.find (r.filter fun p => f p.1) m = none := by
          intro r
          induction r with
          | nil => rfl
          | cons y r ih =>
            cases hy : f y.1 with
            | true =>
              rw [List.filter_cons_of_pos (by simpa using hy)]
              obtain ⟨q, z⟩ := y
              simp only [Mem.find]
              rw [if_neg (fun e => by subst e; rw [hf] at hy; cases hy)]
              exact ih
            | false => rw [List.filter_cons_of_neg (by simp [hy])]; exact ih
        rw [none] at h; cases h
      · rw [if_neg e]; exact find_filter f h

theorem Rep.less {ρ : Rho} {fr fr' : Fr} {σ σ' : Mem} {a : Act} {w : World} (h : Rep E ρ fr σ a w) (hf : FrRep ρ fr' a.tmps) (hσ : ∀ n b, Mem.find σ' n = some b → Mem.find σ n = some b) : Rep E ρ fr' σ' a w :=
  ⟨hf, h.df, fun n b hb => h.mem n b (hσ n b hb), fun n m T s b hn hm => h.sep n m T s b (hσ _ _ hn) (hσ _ _ hm), h.fix, fun n T s hn => h.own n T s (hσ _ _ hn), h.keep⟩

theorem head_sound {ρ : Rho} {fr : Fr} {σ : Mem} {a : Act} {w : World} {c : Code} {k : List Item} (h : Rep E ρ fr σ a w) : Rep E ρ (headFr c k fr) (headMem c k fr σ) a w := by
  refine h.less (scrub_sound _ (scrub_sound _ h.fr)) fun n b hb => ?_
  exact find_filter (σ := σ) (fun m => !(((σ.map fun p : Nat × Blk => p.1).filter fun n => Nat.blt n 200000).contains m) || frRefs m (headFr c k fr) || σ.any (fun q => segsRefs m q.2.segs)) hb

/-- the machine goes on with these items to the function's end -/
def Goes (P : Program) (E : Env) (R : Fr → Mem → Prop) (stk : List Item) (a : Act) (w : World) : Prop :=
  ∀ (b : Frame) (cs : List Frame), ∃ e a' w', (e = .normal ∨ e = .ret) ∧ (∃ ρ fr σ, Rep E ρ fr σ a' w' ∧ R fr σ) ∧ Arrives P (lone (b.at a stk) cs w) b [] cs e a' w'

theorem Goes.step {R : Fr → Mem → Prop} {stk stk' : List Item} {a : Act} {w : World} (hs : ∀ (b : Frame) (cs : List Frame), Steps P (lone (b.at a stk) cs w) (lone (b.at a stk') cs w)) (h : Goes P E R stk' a w) : Goes P E R stk a w := by
  intro b cs
  obtain ⟨e, a', w', h1, h2, h3⟩ := h b cs
  exact ⟨e, a', w', h1, h2, .of_steps (hs b cs) h3⟩

theorem Goes.wp {R : Fr → Mem → Prop} {c : Code} {k : List Item} {a : Act} {w : World} (h : c.wp P (fun e a' w' => match e with | .normal => Goes P E R k a' w' | _ => False) a w) : Goes P E R (.code c :: k) a w := by
  intro b cs
  obtain ⟨e, a1, w1, hq, harr⟩ := h b k cs
  cases e with
  | normal =>
    obtain ⟨e, a', w', h1, h2, h3⟩ := hq b cs
    exact ⟨e, a', w', h1, h2, .of_steps harr h3⟩
  | _ => exact hq.elim

theorem itemx_sound {R : Fr → Mem → Prop} {lp ih : List Item → Fr → Mem → Prop} (hm : P.follows .mixedOrders = true) (hΓ : GoodG P Γ) (hih : ∀ stk ρ fr σ a w, ih stk fr σ → Rep E ρ fr σ a w → Goes P E R stk a w)
    (hlp : ∀ stk ρ fr σ a w, lp stk fr σ → Rep E ρ fr σ a w → Goes P E R stk a w) (stk : List Item) (ρ : Rho) (fr : Fr) (σ : Mem) (a : Act) (w : World) (h : itemx P Γ R lp ih stk fr σ) (hR : Rep E ρ fr σ a w) : Goes P E R stk a w := by
  unfold itemx at h
  split at h
  · exact fun b cs => ⟨.normal, a, w, Or.inl rfl, ⟨ρ, fr, σ, hR, h⟩, Steps.refl _ _⟩
  · rename_i c k
    split at h
    · exact (hih _ _ _ _ _ _ h hR).step fun b cs => .one step_skip
    · rename_i id ops
      refine Goes.wp (wp_region ?_)
      rw [List.range_eq_range', ← Array.length_toList]
      exact opsx_sound hΓ (fun ρ fr σ a w hR hK => hih _ _ _ _ _ _ hK hR) ops.toList 0 ρ fr σ a w (by simp) h hR
    · rename_i id ops
      split at h <;> try exact h.elim
      rename_i hsel
      refine Goes.wp (wp_region_any hm ?_)
      have hR' : Rep E ρ fr σ a { w with drawn := w.drawn + 1 } := ⟨hR.fr, hR.df, hR.mem.keeps (fun _ _ _ _ _ => rfl), hR.sep, hR.fix, hR.own, ⟨hR.keep.os, hR.keep.tape, hR.keep.output, hR.keep.size, hR.keep.block⟩⟩
      exact any_of_M _ _ _ _ (drawx_sound (Q := fun e a' w' => match e with | .normal => Goes P E R k a' w' | _ => False) hΓ hsel (fun c a w q => q) (fun ρ fr σ a w hR hK => hih _ _ _ _ _ _ hK hR) hR'.mem ops.size ρ _ fr σ a _ h hR' (fun _ _ _ => rfl) (Nat.le_refl _) (fun _ _ q _ => ⟨fun _ => rfl, q⟩))
    · exact (hih _ _ _ _ _ _ h hR).step fun b cs => .one step_seq
    · rename_i t x y
      split at h
      · rename_i hc
        exact (hih _ _ _ _ _ _ h hR).step fun b cs => .one (by have := step_cond (P := P) (b := b) (k := k) (cs := cs) (w := w) (x := x) (y := y) (eval_bool (b := true) hR (Or.inr hc)); simpa using this)
      · rename_i hc
        exact (hih _ _ _ _ _ _ h hR).step fun b cs => .one (by have := step_cond (P := P) (b := b) (k := k) (cs := cs) (w := w) (x := x) (y := y) (eval_bool (b := false) hR (Or.inr hc)); simpa using this)
      · rename_i q hc
        split at h <;> try exact h.elim
        rename_i s
        have hs := hR.frame (set_lit hR.fr hc)
        cases q with
        | true => exact (hih _ _ _ _ _ _ (h.1 rfl) hs).step fun b cs => .one (by have := step_cond (P := P) (b := b) (k := k) (cs := cs) (w := w) (x := x) (y := y) (eval_bool (b := true) hR (Or.inl hc)); simpa using this)
        | false => exact (hih _ _ _ _ _ _ (h.2 rfl) hs).step fun b cs => .one (by have := step_cond (P := P) (b := b) (k := k) (cs := cs) (w := w) (x := x) (y := y) (eval_bool (b := false) hR (Or.inl hc)); simpa using this)
      · exact h.elim
    · exact (hih _ _ _ _ _ _ h hR).step fun b cs => .one step_block
    · exact (hlp _ _ _ _ _ _ h (head_sound hR)).step fun b cs => .one step_loop
    · split at h <;> try exact h.elim
      rename_i k' hk
      exact (hih _ _ _ _ _ _ h hR).step fun b cs => .one (step_exit hk)
    · exact fun b cs => ⟨.ret, a, w, Or.inr rfl, ⟨ρ, fr, σ, hR, h⟩, _, .one step_ret⟩
    · exact h.elim
  · exact (hih _ _ _ _ _ _ h hR).step fun b cs => .one step_inBlock
  · exact (hlp _ _ _ _ _ _ h (head_sound hR)).step fun b cs => .one step_inLoop
  · exact h.elim

theorem runM_sound {R : Fr → Mem → Prop} {lp : List Item → Fr → Mem → Prop} (hm : P.follows .mixedOrders = true) (hΓ : GoodG P Γ) (hlp : ∀ stk ρ fr σ a w, lp stk fr σ → Rep E ρ fr σ a w → Goes P E R stk a w) :
    ∀ (m : Nat) stk ρ fr σ a w, runM P Γ R lp m stk fr σ → Rep E ρ fr σ a w → Goes P E R stk a w
  | 0, _, _, _, _, _, _, h, _ => by rw [runM_zero] at h; exact h.elim
  | m + 1, stk, ρ, fr, σ, a, w, h, hR => by
    rw [runM_succ] at h
    exact itemx_sound hm hΓ (fun stk ρ fr σ a w q r => runM_sound hm hΓ hlp m stk ρ fr σ a w q r) hlp stk ρ fr σ a w h hR

theorem run_sound {R : Fr → Mem → Prop} (hm : P.follows .mixedOrders = true) (hΓ : GoodG P Γ) : ∀ (n : Nat) stk ρ fr σ a w, run P Γ R n stk fr σ → Rep E ρ fr σ a w → Goes P E R stk a w
  | 0, _, _, _, _, _, _, h, _ => by rw [run_zero] at h; exact h.elim
  | n + 1, stk, ρ, fr, σ, a, w, h, hR => by
    rw [run_succ] at h
    exact runM_sound hm hΓ (fun stk ρ fr σ a w q r => run_sound hm hΓ n stk ρ fr σ a w q r) 4000 stk ρ fr σ a w h hR

/-! ### results -/
def resV (tmps : Array Value) : ResultVar → Sem Value
  | .tmp t => pure (tmps.getD t undef)
  | .cell a t => do loadVar t (← asAddr (tmps.getD a undef))

theorem resOne_sound {ρ : Rho} {fr : Fr} {σ : Mem} {a : Act} {w : World} {r : ResultVar} {K : TV → Prop} (h : resOne P fr σ r K) (hR : Rep E ρ fr σ a w) :
    ∃ v t, (resV a.tmps r).run P w = .ok v w ∧ TRep ρ t v ∧ K t := by
  have slot : ∀ (t : Nat) {x : AV}, fr.get t = x → x ≠ .undef → SRep ρ x (a.tmps.getD t undef) := by
    intro t x hx hne
    have hlt : t < fr.length := by
      rcases Nat.lt_or_ge t fr.length with q | q
      · exact q
      · rw [Fr.get_out fr t q] at hx; exact absurd hx.symm hne
    have hlt' : t < a.tmps.size := by rw [← hR.fr.1]; exact hlt
    have := hR.fr.2 t a.tmps[t] (Array.getElem?_eq_getElem hlt')
    rw [hx] at this
    simpa [hlt'] using this
  unfold resOne at h
  split at h
  · rename_i t
    split at h
    · rename_i x hx; exact ⟨_, .c x, rfl, slot t hx (by simp), h⟩
    · rename_i s hx; exact ⟨_, .g s, rfl, slot t hx (by simp), h⟩
    · exact h.elim
  · rename_i t T
    split at h <;> try exact h.elim
    rename_i n b i hx
    have hv : a.tmps.getD t undef = .pointer (some (at_ ρ n (b + i))) := slot t hx (by simp)
    obtain ⟨v, av, h1, h2, h3, _⟩ := loadx_sound h hR.mem
    have hrun : (resV a.tmps (.cell t T)).run P w = .ok v w := by
      show (do let x ← asAddr (a.tmps.getD t undef); loadVar T x : Sem Value).run P w = .ok v w
      rw [hv]
      simp [asAddr, h1 w rfl]
    split at h3
    · rename_i x; exact ⟨v, .c x, hrun, h2, h3⟩
    · rename_i s; exact ⟨v, .g s, hrun, h2, h3⟩
    · exact h3.elim

theorem resAll_sound {ρ : Rho} {fr : Fr} {σ : Mem} {a : Act} {w : World} (hR : Rep E ρ fr σ a w) : ∀ {rs : List ResultVar} {K : List TV → Prop}, resAll P fr σ rs K →
    ∃ vs ts, (rs.mapM (resV a.tmps)).run P w = .ok vs w ∧ vs.length = rs.length ∧ ts.length = vs.length ∧ (∀ (j : Nat) t v, ts[j]? = some t → vs[j]? = some v → TRep ρ t v) ∧ K ts
  | [], K, h => ⟨[], [], by simp, rfl, rfl, fun j t v hj => by simp at hj, h⟩
  | r :: rs, K, h => by
    simp only [resAll] at h
    obtain ⟨v, t, h1, h2, h3⟩ := resOne_sound h hR
    obtain ⟨vs, ts, g1, g2, g3, g4, g5⟩ := resAll_sound hR h3
    refine ⟨v :: vs, t :: ts, by simp [List.mapM_cons, h1, g1], by simp [g2], by simp [g3], fun j t' v' ht hv => ?_, g5⟩
    cases j with
    | zero => simp at ht hv; subst ht hv; exact h2
    | succ j => simp at ht hv; exact g4 j t' v' ht hv

theorem TRep.av {ρ : Rho} {t : TV} {v : Value} (h : TRep ρ t v) : SRep ρ t.av v := by cases t <;> exact h

theorem resx_sound {ρ : Rho} {fr : Fr} {σ : Mem} {a : Act} {w : World} {fn : Func} {R : AV → Mem → Prop} (h : resx P fn.results.toList R fr σ) (hR : Rep E ρ fr σ a w) :
    ∃ v av, (results fn a.tmps).run P w = .ok v w ∧ SRep ρ av v ∧ R av σ := by
  unfold resx at h
  obtain ⟨vs, ts, h1, h2, h3, h4, h5⟩ := resAll_sound hR h
  have hrun : (fn.results.mapM (resV a.tmps)).run P w = .ok vs.toArray w := by
    rw [Array.mapM_eq_mapM_toList]
    simp [h1]
  have hres : (results fn a.tmps).run P w = .ok (if h : vs.toArray.size = 1 then vs.toArray[0] else .tuple vs.toArray) w := by
    have e : results fn a.tmps = (do let vs ← fn.results.mapM (resV a.tmps); pure (if h : vs.size = 1 then vs[0] else .tuple vs)) := by
      unfold results
      congr 1
    rw [e]
    simp [hrun]
  split at h5
  · rename_i t
    obtain ⟨v, rfl⟩ : ∃ v, vs = [v] := by
      match vs, h3 with
      | [v], _ => exact ⟨v, rfl⟩
    exact ⟨v, t.av, by rw [hres]; simp, (h4 0 t v rfl rfl).av, h5⟩
  · rename_i ts' hne
    have hlen : vs.length ≠ 1 := by
      intro e
      rw [e] at h3
      have : ∀ {l : List TV}, l.length = 1 → ∃ t, l = [t] := by
        intro l hl
        match l, hl with
        | [t], _ => exact ⟨t, rfl⟩
      obtain ⟨t, ht⟩ := this h3
      exact hne t ht
    exact ⟨.tuple vs.toArray, .tup ts, by rw [hres]; simp [hlen], ⟨vs, rfl, h3, h4⟩, h5⟩
end
end Go.Sx
