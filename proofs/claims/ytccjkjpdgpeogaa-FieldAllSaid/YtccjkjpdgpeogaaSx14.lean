/- Regions: in the text's order, and in whatever order their edges allow. -/
import Derived.Test.YtccjkjpdgpeogaaSx13
namespace Go.Sx
open Go
set_option linter.unusedSimpArgs false
set_option linter.unusedVariables false
section
variable {P : Program} {Γ : Gam} {E : Env}

theorem opsx_sound {ops : Array Oper} {K : Fr → Mem → Prop} {Q : Exit → Act → World → Prop} (hΓ : GoodG P Γ) (hQ : ∀ ρ fr σ a w, Rep E ρ fr σ a w → K fr σ → Q .normal a w) :
    ∀ (l : List Oper) (k : Nat) (ρ : Rho) (fr : Fr) (σ : Mem) (a : Act) (w : World), (∀ j, l[j]? = ops[k + j]?) → opsx P Γ ops.toList K l fr σ → Rep E ρ fr σ a w → wpOps P ops Q (List.range' k l.length) a w
  | [], k, ρ, fr, σ, a, w, _, h, hR => by
    simp only [List.length_nil, List.range'_zero, wpOps]
    exact hQ ρ fr σ a w hR h
  | o :: l, k, ρ, fr, σ, a, w, hl, h, hR => by
    have h0 : ops[k]? = some o := by simpa using (hl 0).symm
    have hl' : ∀ j, l[j]? = ops[k + 1 + j]? := fun j => by have := hl (j + 1); simpa [Nat.add_assoc, Nat.add_comm 1 j] using this
    simp only [List.length_cons, List.range'_succ, wpOps, h0]
    simp only [opsx] at h
    rcases step_cases h hR with ⟨hw, fr1, hR1, hx, _⟩ | ⟨hw, fr', hR', hK⟩
    · rw [if_pos hw]
      exact Or.inl (exec_sound hx hΓ hR1 fun v fr' σ' ρ' w' hK hR' _ _ _ => opsx_sound hΓ hQ l (k + 1) ρ' fr' σ' _ w' hl' hK hR')
    · rw [if_neg (by rw [hw]; simp)]
      exact opsx_sound hΓ hQ l (k + 1) ρ fr' σ _ w hl' hK hR'

/-- whatever order is picked; behind an operation that only adds to memory, what held still holds -/
def AnyM (P : Program) (ops : Array Oper) (Q : Exit → Act → World → Prop) (S : Nat → World → Prop) (mod : Nat → Nat → Bool) : Nat → Array Bool → Act → World → Prop
  | 0, listed, a, w => Region.ready .any ops listed = [] ∧ Q .normal a w
  | n + 1, listed, a, w => (Region.ready .any ops listed = [] → Q .normal a w) ∧
    ∀ i ∈ Region.ready .any ops listed, wpOp P ops Q i (fun a' w' => (∀ m, mod i m = false → (∀ j, mod j m = true → listed.getD j true = false) → S m w → S m w') ∧ AnyM P ops Q S mod n (listed.setIfInBounds i true) a' w') a w

theorem any_of_M {ops : Array Oper} {Q : Exit → Act → World → Prop} {S : Nat → World → Prop} {mod : Nat → Nat → Bool} : ∀ (n : Nat) (listed : Array Bool) (a : Act) (w : World), AnyM P ops Q S mod n listed a w → wpAny P .any ops Q n listed a w
  | 0, _, _, _, h => h
  | n + 1, _, _, _, h => ⟨h.1, fun i hi => wpOp_mono (fun a' w' q => any_of_M n _ a' w' q.2) (h.2 i hi)⟩

/-- an operation that yields the same in every world that counts may come first -/
theorem anyM_first {ops : Array Oper} {Q : Exit → Act → World → Prop} {S : Nat → World → Prop} {mod : Nat → Nat → Bool} {rd : Bool} {mm : Nat} {i : Nat} {oi : Oper} {v : Value} (hi : ops[i]? = some oi) (hsel : Region.noSelect ops = true) (hQ : ∀ c a w, ¬ Q (.panic c) a w)
    : ∀ (n : Nat) (listed : Array Bool) (a : Act) (w : World), Region.free .any ops listed i = true → (rd = true → ∀ j, j ≠ i → mod j mm = true → listed.getD j true = false → ∃ oj, ops[j]? = some oj ∧ dependsOn oj i = true) → (∀ m, mod i m = false) → (rd = true → ∀ j, mod j mm = true → listed.getD j true = false) →
      i ∈ Region.ready .any ops listed → YieldsIf P ops (fun w => rd = true → S mm w) oi v a → (rd = true → S mm w) → AnyM P ops Q S mod n (listed.setIfInBounds i true) (a.put oi.dst v) w → AnyM P ops Q S mod (n + 1) listed a w := by
  intro n
  induction n with
  | zero =>
    intro listed a w _ _ _ _ hr hy hS H
    refine ⟨fun h => (by rw [h] at hr; cases hr), fun j hj => ?_⟩
    by_cases hji : j = i
    · subst hji; exact hy.wpOp hi hS ⟨fun _ _ _ q => q, H⟩
    · have := ready_mono hj hji
      rw [H.1] at this
      cases this
  | succ n ih =>
    intro listed a w hfree hdep hmi hunl hr hy hS H
    refine ⟨fun h => (by rw [h] at hr; cases hr), fun j hj => ?_⟩
    by_cases hji : j = i
    · subst hji; exact hy.wpOp hi hS ⟨fun _ _ _ q => q, H⟩
    · have h1 := H.2 j (ready_mono hj hji)
      obtain ⟨hjun, oj, hoj, hall⟩ := mem_ready.1 hj
      have hiun := (mem_ready.1 hr).1
      have hlast : ∀ e ∈ oj.after, Region.binds .any e = true → e.on ≠ i := fun e he hb heq => by
        have q := hall e he hb
        rw [heq] at q
        rcases Nat.lt_or_ge i listed.size with h' | h'
        · simp [h'] at hiun q; rw [hiun] at q; cases q
        · simp [Array.getElem?_eq_none h'] at q
      have hap := Region.free_spec hi hfree j oj hoj hji hjun hlast
      have h2 := wpOp_putIf hoj hap (fun cs b => Region.noSelect_spec hsel i oi cs b hi) (fun cs b => Region.noSelect_spec hsel j oj cs b hoj) (fun c a w q => absurd q (hQ c _ w)) hy h1
      have hmj : rd = true → mod j mm = false := fun q => by
        cases hm : mod j mm with
        | false => rfl
        | true =>
          obtain ⟨oj', ho', hd⟩ := hdep q j hji hm hjun
          rw [hoj] at ho'; cases ho'
          unfold dependsOn at hd
          obtain ⟨e, he, hb⟩ := Array.any_eq_true'.1 hd
          simp only [Bool.and_eq_true, beq_iff_eq] at hb
          exact absurd hb.2 (hlast e he hb.1)
      have setI : ∀ m, (∀ k, mod k m = true → listed.getD k true = false) → ∀ k, mod k m = true → (listed.setIfInBounds i true).getD k true = false := fun m q k hk => by
        by_cases hik : i = k
        · subst hik; rw [hmi m] at hk; cases hk
        · rw [getD_set_ne true hik]; exact q k hk
      refine wpOp_mono (fun a' w' h3 => ?_) h2
      obtain ⟨hy', hSS, hA⟩ := h3
      have hS' : rd = true → S mm w' := fun q => hSS mm (hmj q) (setI mm (hunl q)) (hS q)
      refine ⟨fun m h1 h2 => hSS m h1 (setI m h2), ih (listed.setIfInBounds j true) a' w' ?_ ?_ hmi (fun q k hk => ?_) (ready_mono hr (Ne.symm hji)) hy' hS' ?_⟩
      · unfold Region.free at hfree ⊢
        simp only [hi, List.all_eq_true, List.mem_range] at hfree ⊢
        intro k hk
        have := hfree k hk
        by_cases hjk : j = k
        · subst hjk
          have hlt : j < listed.size := by
            rcases Nat.lt_or_ge j listed.size with h' | h'
            · exact h'
            · simp [Array.getElem?_eq_none h'] at hjun
          simp [hlt]
        · rw [getD_set_ne true hjk]; exact this
      · intro q k hki hm hun
        refine hdep q k hki hm ?_
        by_cases hjk : j = k
        · subst hjk; exact hjun
        · rw [getD_set_ne true hjk] at hun; exact hun
      · by_cases hjk : j = k
        · subst hjk; rw [hmj q] at hk; cases hk
        · rw [getD_set_ne true hjk]; exact hunl q k hk
      · rw [Array.setIfInBounds_comm _ _ hji]
        exact hA

theorem allOf_mem {f : Nat → Prop} : ∀ {l : List Nat}, allOf f l → ∀ i ∈ l, f i
  | [], _, i, hi => by cases hi
  | [j], h, i, hi => by simp at hi; subst hi; exact h
  | j :: k :: l, h, i, hi => by
    rcases List.mem_cons.1 hi with e | hi
    · subst e; exact h.1
    · exact allOf_mem h.2 i hi

theorem newNames_set {fr : Fr} {t : Nat} {b : Bool} {op : Op} {dst : Option Tmp} (ht : fr.get t = .one (.bool b)) : newNames Γ (fr.set t (.one (.lit b))) op dst = newNames Γ fr op dst := by
  cases dst with
  | none => rfl
  | some d =>
    cases op <;> try rfl
    rename_i c
    obtain ⟨callee, args, tys⟩ := c
    cases callee <;> try rfl
    rotate_left
    · rename_i bi; cases bi <;> rfl
    rename_i f
    cases f <;> try rfl
    rename_i u
    simp only [newNames, ev, Fr.get_set]
    by_cases hu : t = u ∧ t < fr.length
    · rw [if_pos hu]
      obtain ⟨rfl, _⟩ := hu
      rw [ht]
    · rw [if_neg hu]

theorem addr_lit {fr fr1 : Fr} {x : Operand} {n : Nat} (h : fr1 = fr ∨ ∃ t b, fr.get t = .one (.bool b) ∧ fr1 = fr.set t (.one (.lit b))) (hev : addrName (ev fr1 x) = some n) : ev fr x = ev fr1 x := by
  rcases h with rfl | ⟨t, b, ht, rfl⟩
  · rfl
  · cases x with
    | tmp u =>
      simp only [ev, Fr.get_set] at hev ⊢
      split at hev
      · cases hev
      · rename_i hc; rw [if_neg hc]
    | const _ => rfl
    | global _ => rfl
    | func _ => rfl

theorem store_addr {fr : Fr} {σ : Mem} {o : Oper} {K : Fr → Mem → Prop} {T : TypeId} {x y : Operand} (h : execx P Γ o fr σ K) (hop : o.op = .store T x y) : ∃ n, addrName (ev fr x) = some n ∧ ((∃ b i, ev fr x = .one (.ptr n b i)) ∨ ∃ z i b j, ev fr x = .one (.vptr n z i b j)) := by
  unfold execx at h
  rw [hop] at h
  simp only [isEff, effx] at h
  split at h <;> try exact h.elim
  · rename_i n base idx hx
    exact ⟨n, by rw [hx]; rfl, Or.inl ⟨_, _, hx⟩⟩
  · rename_i n z i b j hx
    exact ⟨n, by rw [hx]; rfl, Or.inr ⟨_, _, _, _, hx⟩⟩

theorem drawx_sound {ops : Array Oper} {rts : List (Option Nat)} {K : Fr → Mem → Prop} {Q : Exit → Act → World → Prop} {σ0 : Mem} {ρ0 : Rho} {w0 : World} (hΓ : GoodG P Γ) (hsel : Region.noSelect ops = true) (hQp : ∀ c a w, ¬ Q (.panic c) a w) (hQ : ∀ ρ fr σ a w, Rep E ρ fr σ a w → K fr σ → Q .normal a w) (h0 : MemRep ρ0 σ0 w0) :
    ∀ (n : Nat) (ρ : Rho) (listed : Array Bool) (fr : Fr) (σ : Mem) (a : Act) (w : World), drawx P Γ ops rts σ0 K n listed fr σ → Rep E ρ fr σ a w → (∀ m b, Mem.find σ0 m = some b → ρ m = ρ0 m) → w0.heap.size ≤ w.heap.size →
      (∀ m b, Mem.find σ0 m = some b → (∀ j, modAt Γ ops rts j m = true → listed.getD j true = false) → (∀ k, Foot ρ0 m b k → w.heap[k]? = w0.heap[k]?) ∧ Mem.find σ m = some b) →
      AnyM P ops Q (Held σ0 ρ0 w0) (fun j m => modAt Γ ops rts j m) n listed a w
  | 0, ρ, listed, fr, σ, a, w, h, hR, _, _, _ => by
    simp only [drawx] at h
    split at h
    · rename_i hr; exact ⟨hr, hQ ρ fr σ a w hR h⟩
    · exact h.elim
  | n + 1, ρ, listed, fr, σ, a, w, h, hR, hρ, hsz, hH => by
    simp only [drawx] at h
    split at h
    · rename_i hr
      exact ⟨fun _ => hQ ρ fr σ a w hR h, fun i hi => by rw [hr] at hi; cases hi⟩
    · rename_i rs hr
      split at h
      · rename_i i hfind
        split at h <;> try exact h.elim
        rename_i o ho
        have htake := List.find?_some hfind
        have hmem : i ∈ Region.ready .any ops listed := List.mem_of_find?_eq_some hfind
        simp only [takeable, ho, Bool.and_eq_true, Bool.not_eq_true'] at htake
        obtain ⟨⟨he, hfree⟩, hld⟩ := htake
        have hmo := det_facts (Γ := Γ) he
        have hmi : ∀ m, modAt Γ ops rts i m = false := fun m => by simp [modAt, ho, hmo]
        have next : ∀ {fr' : Fr} {v : Value}, Rep E ρ fr' σ (a.put o.dst v) w → drawx P Γ ops rts σ0 K n (listed.setIfInBounds i true) fr' σ → AnyM P ops Q (Held σ0 ρ0 w0) (fun j m => modAt Γ ops rts j m) n (listed.setIfInBounds i true) (a.put o.dst v) w := by
          intro fr' v hR' hK
          refine drawx_sound hΓ hsel hQp hQ h0 n ρ _ fr' σ _ w hK hR' hρ hsz fun m b hb hun => hH m b hb fun j hm => ?_
          have := hun j hm
          by_cases hji : i = j
          · subst hji; rw [hmi m] at hm; cases hm
          · rw [getD_set_ne true hji] at this; exact this
        rcases step_cases h hR with ⟨hw, fr1, hR1, hx, hfr1⟩ | ⟨hw, fr', hR', hK⟩
        · obtain ⟨v, fr', h1, h2, h3⟩ := exec_det hx he hR1
          rcases h3 with h3 | ⟨T, x, m, b, hop, hev, hb, h3⟩
          · exact anyM_first (rd := false) (mm := 0) ho hsel hQp n listed a w hfree (fun q => by cases q) hmi (fun q => by cases q) hmem (Or.inl ⟨hw, fun w' _ => h3 w'⟩) (fun q => by cases q) (next h1 h2)
          · have hev0 : addrName (ev fr x) = some m := by rw [addr_lit hfr1 hev]; exact hev
            rw [hop] at hld
            simp only [hev0, Bool.and_eq_true, List.all_eq_true, List.mem_range] at hld
            obtain ⟨hl1, hl2⟩ := hld
            obtain ⟨b0, hb0⟩ := Option.isSome_iff_exists.1 hl1
            have hun : ∀ j, modAt Γ ops rts j m = true → ∃ oj, ops[j]? = some oj ∧ listed.getD j true = false ∧ dependsOn oj i = true := fun j hm => by
              cases hoj : ops[j]? with
              | none => simp [modAt, hoj] at hm
              | some oj =>
                have hlt : j < ops.size := (Array.getElem?_eq_some_iff.1 hoj).1
                have := hl2 j hlt
                rw [hoj] at this
                simp only [hm, Bool.not_true, Bool.false_or, Bool.and_eq_true, Bool.not_eq_true'] at this
                exact ⟨oj, rfl, this⟩
            obtain ⟨hheld, hbb⟩ := hH m b0 hb0 fun j hm => by obtain ⟨_, _, q, _⟩ := hun j hm; exact q
            rw [hb] at hbb
            cases hbb
            refine anyM_first (rd := true) (mm := m) ho hsel hQp n listed a w hfree (fun _ j hji hm hu => ?_) hmi (fun _ j hm => by obtain ⟨_, _, q, _⟩ := hun j hm; exact q) hmem (Or.inl ⟨hw, fun w' hS => h3 w' fun k hk => ?_⟩) (fun _ b' hb' k hk => ?_) (next h1 h2)
            · obtain ⟨oj, q1, _, q3⟩ := hun j hm
              exact ⟨oj, q1, q3⟩
            · have hk0 : Foot ρ0 m b k := (Foot.agree (hρ m b hb0)).1 hk
              rw [hS rfl b hb0 k hk0, hheld k hk0]
            · rw [hb0] at hb'; cases hb'
              exact hheld k hk
        · exact anyM_first (rd := false) (mm := 0) ho hsel hQp n listed a w hfree (fun q => by cases q) hmi (fun q => by cases q) hmem (Or.inr ⟨hw, rfl⟩) (fun q => by cases q) (next hR' hK)
      · have h := allOf_mem h
        refine ⟨fun q => (hr q).elim, fun i hi => ?_⟩
        have h := h i hi
        cases ho : ops[i]? with
        | none => rw [ho] at h; exact h.elim
        | some o =>
          rw [ho] at h
          simp only at h
          split at h <;> try exact h.elim
          rename_i hnew0
          rw [Bool.and_eq_true] at hnew0
          obtain ⟨hroot, hnew⟩ := hnew0
          have hnew' : ∀ m b, Mem.find σ0 m = some b → m ∉ newNames Γ fr o.op o.dst := fun m b hb hm => by
            have := List.all_eq_true.1 hnew m hm
            rw [hb] at this; cases this
          unfold wpOp
          simp only [ho]
          have next : ∀ {ρ' : Rho} {fr' : Fr} {σ' : Mem} {v : Value} {w' : World}, Rep E ρ' fr' σ' (a.put o.dst v) w' → drawx P Γ ops rts σ0 K n (listed.setIfInBounds i true) fr' σ' → (∀ m, m ∉ newNames Γ fr o.op o.dst → ρ' m = ρ m) →
              w.heap.size ≤ w'.heap.size → (∀ m b, Mem.find σ0 m = some b → modAt Γ ops rts i m = false → Mem.find σ m = some b → (∀ k, Foot ρ0 m b k → w'.heap[k]? = w.heap[k]?) ∧ Mem.find σ' m = some b) →
              ((∀ m, modAt Γ ops rts i m = false → (∀ j, modAt Γ ops rts j m = true → listed.getD j true = false) → Held σ0 ρ0 w0 m w → Held σ0 ρ0 w0 m w') ∧ AnyM P ops Q (Held σ0 ρ0 w0) (fun j m => modAt Γ ops rts j m) n (listed.setIfInBounds i true) (a.put o.dst v) w') := by
            intro ρ' fr' σ' v w' hR' hK hρ' hsz' hk
            refine ⟨fun m hm hun q b hb k hne => by rw [(hk m b hb hm (hH m b hb hun).2).1 k hne]; exact q b hb k hne, drawx_sound hΓ hsel hQp hQ h0 n ρ' _ fr' σ' _ w' hK hR' (fun m b hb => by rw [hρ' m (hnew' m b hb)]; exact hρ m b hb) (by omega) fun m b hb hun => ?_⟩
            have hm : modAt Γ ops rts i m = false := by
              cases hq : modAt Γ ops rts i m with
              | false => rfl
              | true =>
                have := hun i hq
                have hiun := (mem_ready.1 hi).1
                have hlt : i < listed.size := by
                  rcases Nat.lt_or_ge i listed.size with h' | h'
                  · exact h'
                  · simp [Array.getElem?_eq_none h'] at hiun
                simp [hlt] at this
            obtain ⟨g1, g2⟩ := hH m b hb fun j hmj => by
              have := hun j hmj
              by_cases hji : i = j
              · subst hji; exact (mem_ready.1 hi).1
              · rw [getD_set_ne true hji] at this; exact this
            obtain ⟨k1, k2⟩ := hk m b hb hm g2
            exact ⟨fun k hne => (k1 k hne).trans (g1 k hne), k2⟩
          rcases step_cases h hR with ⟨hw, fr1, hR1, hx, hfr1⟩ | ⟨hw, fr', hR', hK⟩
          · rw [if_pos hw]
            have hnn : newNames Γ fr1 o.op o.dst = newNames Γ fr o.op o.dst := by
              rcases hfr1 with rfl | ⟨t, b, ht, rfl⟩
              · rfl
              · exact newNames_set ht
            refine Or.inl (exec_sound hx hΓ hR1 fun v fr' σ' ρ' w' hK hR' hsz' hρ' hk => next hR' hK (fun m hm => hρ' m (by rw [hnn]; exact hm)) hsz' fun m b hb hm hfind => ?_)
            obtain ⟨_, rfl, hk1, hk2⟩ := hk
            by_cases hmo : modOp Γ o.op = false
            · obtain ⟨q1, q2⟩ := hk1 hmo
              exact ⟨fun k hne => q1.block _ (by have := in_range (h0 m b hb) hne; omega) (fun q => q), q2 m b hfind⟩
            · -- a store into another block
              simp only [modAt, ho, Bool.and_eq_false_iff] at hm
              rcases hm with hm | hm
              · exact absurd hm hmo
              · split at hm <;> try (cases hm; done)
                rename_i T x y hop
                split at hm <;> try (cases hm; done)
                rename_i r hrt
                have hrm : r ≠ m := by simpa using hm
                rw [hrt, hop] at hroot
                obtain ⟨nn, hev, hform⟩ := store_addr hx hop
                have hev0 := addr_lit hfr1 hev
                have hrn : nn = r := by
                  rcases hform with ⟨q1, q2, q3⟩ | ⟨q1, q2, q3, q4, q5⟩
                  · simp only [rootOk, hev0, q3, beq_iff_eq] at hroot; exact hroot
                  · simp only [rootOk, hev0, q5, beq_iff_eq] at hroot; exact hroot
                subst hrn
                obtain ⟨q1, q2⟩ := hk2 T x y nn m hop hev hrm b hfind
                exact ⟨fun k hk => q1 k ((Foot.agree (hρ m b hb)).2 hk), q2⟩
          · rw [if_neg (by rw [hw]; simp)]
            exact next hR' hK (fun _ _ => rfl) (Nat.le_refl _) (fun m b hb hm q => ⟨fun _ _ => rfl, q⟩)
end
end Go.Sx
