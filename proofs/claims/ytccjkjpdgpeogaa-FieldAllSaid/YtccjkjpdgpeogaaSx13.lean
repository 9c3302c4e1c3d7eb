/- Regions: in the text's order, and in whatever order their edges allow. -/
import Derived.Test.YtccjkjpdgpeogaaSx12
namespace Go.Sx
open Go
set_option linter.unusedSimpArgs false
set_option linter.unusedVariables false
section
variable {P : Program} {Γ : Gam} {E : Env} {ρ : Rho} {fr : Fr} {σ : Mem} {a : Act} {w : World}

theorem Rep.frame {fr' : Fr} (h : Rep E ρ fr σ a w) (hf : FrRep ρ fr' a.tmps) : Rep E ρ fr' σ a w := ⟨hf, h.df, h.mem, h.sep, h.fix, h.own, h.keep⟩

theorem Rep.put {dst : Option Tmp} {x : AV} {v : Value} (h : Rep E ρ fr σ a w) (hx : SRep ρ x v) : Rep E ρ (fr.put dst x) σ (a.put dst v) w :=
  ⟨h.fr.put hx, by cases dst <;> exact h.df, h.mem, h.sep, h.fix, h.own, h.keep⟩

theorem SRep.undef (ρ : Rho) : SRep ρ (.tup []) undef := ⟨[], rfl, rfl, fun j t u hj => by simp at hj⟩

/-- the slot of a bool that is known -/
theorem slot_bool {b : Bool} {t : Nat} (h : FrRep ρ fr a.tmps) (ht : fr.get t = .one (.bool b) ∨ fr.get t = .one (.lit b)) : a.tmps[t]? = some (.bool b) := by
  have hlt : t < fr.length := by
    rcases Nat.lt_or_ge t fr.length with q | q
    · exact q
    · rw [Fr.get_out fr t q] at ht; rcases ht with ht | ht <;> cases ht
  have hlt' : t < a.tmps.size := by rw [← h.1]; exact hlt
  have := h.2 t a.tmps[t] (Array.getElem?_eq_getElem hlt')
  rw [Array.getElem?_eq_getElem hlt']
  rcases ht with ht | ht <;> rw [ht] at this <;> exact congrArg some this

theorem set_lit {b : Bool} {t : Nat} (h : FrRep ρ fr a.tmps) (ht : fr.get t = .one (.bool b)) : FrRep ρ (Fr.set fr t (.one (.lit b))) a.tmps :=
  h.same fun v hv => by rw [slot_bool h (Or.inl ht)] at hv; cases hv; rfl

theorem eval_bool {b : Bool} {c : Operand} (hR : Rep E ρ fr σ a w) (h : ev fr c = .one (.bool b) ∨ ev fr c = .one (.lit b)) : a.eval c = .bool b := by
  have := ev_sound hR.glob hR.fr c
  rcases h with h | h <;> rw [h] at this <;> exact this

/-- the worlds in which a block that was there at the region's beginning is as it was -/
def Held (σ0 : Mem) (ρ0 : Rho) (w0 : World) (m : Nat) (w : World) : Prop := ∀ b, Mem.find σ0 m = some b → ∀ k, Foot ρ0 m b k → w.heap[k]? = w0.heap[k]?

/-- one operation that leaves the memory alone: it yields its value, in every world that holds what it reads -/
theorem exec_det {o : Oper} {K : Fr → Mem → Prop} (h : execx P Γ o fr σ K) (he : isEff P o.op = false) (hR : Rep E ρ fr σ a w) :
    ∃ v fr', Rep E ρ fr' σ (a.put o.dst v) w ∧ K fr' σ ∧
      ((∀ w' : World, (execOp a.eval o).run P w' = .ok (.value v) w') ∨
       (∃ T x n b, o.op = .load T x ∧ addrName (ev fr x) = some n ∧ Mem.find σ n = some b ∧ ∀ w' : World, (∀ k, Foot ρ n b k → w'.heap[k]? = w.heap[k]?) → (execOp a.eval o).run P w' = .ok (.value v) w')) := by
  unfold execx at h
  split at h
  · rename_i c x y hop
    unfold pickx at h
    have pk : ∀ {b : Bool} {fr1 : Fr} {x1 : AV}, a.eval c = .bool b → FrRep ρ fr1 a.tmps → SRep ρ x1 (if b then a.eval x else a.eval y) → K (fr1.put o.dst x1) σ →
        ∃ v fr', Rep E ρ fr' σ (a.put o.dst v) w ∧ K fr' σ ∧ ((∀ w' : World, (execOp a.eval o).run P w' = .ok (.value v) w') ∨ (∃ T x n b, o.op = .load T x ∧ addrName (ev fr x) = some n ∧ Mem.find σ n = some b ∧ ∀ w' : World, (∀ k, Foot ρ n b k → w'.heap[k]? = w.heap[k]?) → (execOp a.eval o).run P w' = .ok (.value v) w')) := by
      intro b fr1 x1 hb hf hx hK
      refine ⟨_, _, (hR.frame hf).put hx, hK, Or.inl fun w' => ?_⟩
      simp [execOp, hop, hb, asBool]
    have Ev := fun x => ev_sound hR.glob hR.fr x
    split at h <;> try exact h.elim
    · rename_i hc; exact pk (b := true) (eval_bool hR (Or.inr hc)) hR.fr (Ev x) h
    · rename_i hc; exact pk (b := false) (eval_bool hR (Or.inr hc)) hR.fr (Ev y) h
    · rename_i t hc
      split at h <;> try exact h.elim
      rename_i s
      have hs := set_lit hR.fr hc
      cases t with
      | true => exact pk (b := true) (eval_bool hR (Or.inl hc)) hs (Ev x) (h.1 rfl)
      | false => exact pk (b := false) (eval_bool hR (Or.inl hc)) hs (Ev y) (h.2 rfl)
  · rw [he] at h
    simp only at h
    by_cases hld : ∀ T x, o.op ≠ .load T x
    · obtain ⟨v, av, h1, h2, h3⟩ := pure_sound h hld hR.mem hR.fr hR.glob
      exact ⟨v, _, hR.put h2, h3, Or.inl h1⟩
    · simp only [Classical.not_forall, Classical.not_not] at hld
      obtain ⟨T, x, ho⟩ := hld
      obtain ⟨v, av, n, b, h1, h2, h3, h4, h5⟩ := load_sound h ho hR.mem hR.fr hR.glob
      exact ⟨v, _, hR.put h4, h5, Or.inr ⟨T, x, n, b, ho, h1, h2, h3⟩⟩

theorem det_facts {o : Oper} (he : isEff P o.op = false) : modOp Γ o.op = false := by
  cases hop : o.op <;> rw [hop] at he <;> first
    | rfl
    | (rename_i s d x
       show Nat.beq s d = false
       cases hq : Nat.beq s d with
       | false => rfl
       | true => exfalso; simp [isEff, hq] at he; done)
    | (exfalso; simp [isEff] at he; done)
    | (rename_i c; obtain ⟨callee, args, tys⟩ := c; cases callee <;> first
        | rfl
        | (exfalso; simp [isEff] at he; done)
        | (rename_i b; cases b <;> first | rfl | (exfalso; simp [isEff] at he; done)))

/-- one operation, carried out -/
theorem exec_sound {o : Oper} {K : Fr → Mem → Prop} {next : Act → World → Prop} {Q : Exit → Act → World → Prop} (h : execx P Γ o fr σ K) (hΓ : GoodG P Γ) (hR : Rep E ρ fr σ a w)
    (hn : ∀ v fr' σ' ρ' w', K fr' σ' → Rep E ρ' fr' σ' (a.put o.dst v) w' → w.heap.size ≤ w'.heap.size → (∀ n, n ∉ newNames Γ fr o.op o.dst → ρ' n = ρ n) → (∃ fr1, fr1 = fr ∧ Leaves Γ ρ fr1 o.op σ σ' w w') → next (a.put o.dst v) w') : o.wp P a w next Q := by
  cases he : isEff P o.op with
  | false =>
    obtain ⟨v, fr', h1, h2, h3⟩ := exec_det h he hR
    have hrun : (execOp a.eval o).run P w = .ok (.value v) w := by
      rcases h3 with h3 | ⟨T, x, n, b, _, _, _, h3⟩
      · exact h3 w
      · exact h3 w (fun _ _ => rfl)
    unfold Oper.wp
    rw [hrun]
    exact hn v fr' σ ρ w h2 h1 (Nat.le_refl _) (fun _ _ => rfl) ⟨fr, rfl, fun _ => ⟨Keeps.refl _ _, fun _ _ q => q⟩, fun _ _ _ _ _ q => by rw [q] at he; cases he⟩
  | true =>
    unfold execx at h
    split at h
    · rename_i hop; rw [hop] at he; cases he
    · rw [he] at h
      exact effx_sound h hΓ hR fun v av σ' ρ' w' hK hav hR' hsz hρ hk => hn v _ σ' ρ' w' hK (hR'.put hav) hsz hρ ⟨fr, rfl, hk⟩

theorem yielded_slot {ops : Array Oper} {j t : Nat} {b : Bool} (hd : (ops.toList[j]?).bind (·.dst) = some t) (ht : a.tmps[t]? = some (.bool b)) : yielded ops a.tmps j = some b := by
  unfold yielded
  simp only [Array.getElem?_toList] at hd
  rw [hd]
  simp [ht]

/-- the guard of an operation, read -/
theorem step_cases {ops : Array Oper} {o : Oper} {K : Fr → Mem → Prop} (h : stepx P Γ ops.toList o fr σ K) (hR : Rep E ρ fr σ a w) :
    (Region.wanted o (yielded ops a.tmps) = true ∧ ∃ fr1, Rep E ρ fr1 σ a w ∧ execx P Γ o fr1 σ K ∧ (fr1 = fr ∨ ∃ t b, fr.get t = .one (.bool b) ∧ fr1 = fr.set t (.one (.lit b)))) ∨
    (Region.wanted o (yielded ops a.tmps) = false ∧ ∃ fr', Rep E ρ fr' σ (a.put o.dst undef) w ∧ K fr' σ) := by
  unfold stepx at h
  split at h
  · rename_i hg
    exact Or.inl ⟨by simp [Region.wanted, hg], fr, hR, h, Or.inl rfl⟩
  · rename_i j want hg
    split at h <;> try exact h.elim
    rename_i t hd
    have wt : ∀ {b : Bool}, a.tmps[t]? = some (.bool b) → Region.wanted o (yielded ops a.tmps) = (b == want) := fun hb => by
      simp [Region.wanted, hg, yielded_slot hd hb]
    split at h
    · rename_i b hb
      have hs := slot_bool hR.fr (Or.inr hb)
      split at h
      · rename_i hq; exact Or.inl ⟨by rw [wt hs]; exact hq, fr, hR, h, Or.inl rfl⟩
      · rename_i hq; exact Or.inr ⟨by rw [wt hs]; exact hq, _, hR.put (SRep.undef ρ), h⟩
    · rename_i b hb
      have hs := slot_bool hR.fr (Or.inl hb)
      have hl := hR.frame (set_lit hR.fr hb)
      by_cases hq : b = want
      · subst hq
        exact Or.inl ⟨by rw [wt hs]; simp, _, hl, h.1 rfl, Or.inr ⟨t, _, hb, rfl⟩⟩
      · have hq' : b = !want := by cases b <;> cases want <;> simp_all
        subst hq'
        exact Or.inr ⟨by rw [wt hs]; cases want <;> rfl, _, hl.put (SRep.undef ρ), h.2 rfl⟩
    · rename_i ht
      have hw : Region.wanted o (yielded ops a.tmps) = false := by
        have hy : yielded ops a.tmps j = none := by
          unfold yielded
          simp only [Array.getElem?_toList] at hd
          rw [hd]
          simp only [Option.bind_some]
          cases hq : a.tmps[t]? with
          | none => rfl
          | some v =>
            have := hR.fr.2 t v hq
            rw [ht] at this
            obtain ⟨us, rfl, _, _⟩ := this
            rfl
        simp [Region.wanted, hg, hy]
      exact Or.inr ⟨hw, _, hR.put (SRep.undef ρ), h⟩
    · exact h.elim
end
end Go.Sx
