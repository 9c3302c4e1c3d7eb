/- The walk of a function's code is sound: what 'callsx' says of a call, the call does. -/
import Derived.Test.YtccjkjpdgpeogaaSx14
namespace Go.Sx
open Go
set_option linter.unusedSimpArgs false
set_option linter.unusedVariables false
section
variable {P : Program} {Γ : Gam} {E : Env}

theorem Fr.get_eq : ∀ (fr : Fr) (t : Nat), Fr.get fr t = (fr[t]?).getD .undef
  | [], t => by simp [Fr.get]
  | x :: r, 0 => by simp [Fr.get]
  | x :: r, t + 1 => by simp [Fr.get, Fr.get_eq r t]

theorem scrub_sound {ρ : Rho} {tmps : Array Value} : ∀ (l : List Nat) {fr : Fr}, FrRep ρ fr tmps → FrRep ρ (scrubFr l fr) tmps
  | [], fr, h => h
  | t :: l, fr, h => by
    simp only [scrubFr, List.foldr_cons]
    exact (scrub_sound l h).same fun _ _ => trivial

theorem find_filter (f : Nat → Bool) : ∀ {σ : Mem} {n : Nat} {b : Blk}, Mem.find (σ.filter fun p => f p.1) n = some b → Mem.find σ n = some b
  | [], n, b, h => by simp [Mem.find] at h
  | (m, x) :: r, n, b, h => by
    simp only [Mem.find]
    cases hf : f m with
    | true =>
      rw [List.filter_cons_of_pos (by simpa using hf)] at h
      simp only [Mem.find] at h
      split at h
      · rename_i e; rw [if_pos e]; exact h
      · rename_i e; rw [if_neg e]; exact find_filter f h
    | false =>
      rw [List.filter_cons_of_neg (by simp [hf])] at h
      by_cases e : m = n
      · subst e
        exfalso
        have none : ∀ {r : Mem}, Mem.find (r.filter fun p => f p.1) m = none := by
          intro r
          induction r with
          | nil => rfl
          | cons y r ih =>
            cases hy : f y.1 with
            | true =>
              rw [List.filter_cons_of_pos (by simpa using hy)]
              obtain ⟨q, z⟩ := y
              simp only [Mem.find]
              rw [if_neg (fun e => by subst e; rw [hf] at hy; cases hy)]
              exact ih
            | false => rw [List.filter_cons_of_neg (by simp [hy])]; exact ih
        rw [none] at h; cases h
      · rw [if_neg e]; exact find_filter f h

theorem head0_sound {ρ : Rho} {fr : Fr} {σ : Mem} {a : Act} {w : World} {c : Code} {k : List Item} (h : Rep E ρ fr σ a w) : Rep E ρ (headFr c k fr) (headMem c k fr σ) a w := by
  refine h.less (scrub_sound _ (scrub_sound _ h.fr)) fun n b hb => ?_
  exact find_filter (σ := σ) (fun m => !(((σ.map fun p : Nat × Blk => p.1).filter fun n => Nat.blt n 200000).contains m) || frRefs m (headFr c k fr) || σ.any (fun q => segsRefs m q.2.segs)) hb

theorem rdw_takex {σ σ1 : Mem} {ks : List Kd} {x : AV} {cs : List Col} (h : rdw σ ks x = some (cs, σ1)) : takex σ ks x fun c s => c = cs ∧ s = σ1 := by
  unfold rdw at h
  unfold takex
  split at h <;> first
    | (cases h; done)
    | (simp only; split at h <;> first
        | (cases h; done)
        | (rename_i hq; rw [hq]; simp only; first
            | (simp only [Option.some.injEq, Prod.mk.injEq] at h; exact h)
            | (split at h <;> first | (cases h; done) | (rename_i hz; rw [hz]; simp only [Option.some.injEq, Prod.mk.injEq] at h; exact h))))
    | (simp only [Option.some.injEq, Prod.mk.injEq] at h; exact h)

theorem rdo_reads {ρ : Rho} {σ σ1 : Mem} {w : World} {ks : List Kd} {x : AV} {cs : List Col} {v : Value} (h : rdo σ ks x = some (cs, σ1)) (hks : 0 < width ks) (hm : MemRep ρ σ w) (hs : Sep ρ σ) (hx : SRep ρ x v) :
    ∃ L, Reads ρ σ w v cs L ∧ (∀ m b, Mem.find σ1 m = some b → Mem.find σ m = some b) ∧ ∀ k, FootL L cs k → Clean ρ σ1 k := by
  have fin : ∀ {L : Loc} {cs : List Col} {σ1 : Mem}, Reads ρ σ w v cs L → (∀ m b, Mem.find σ1 m = some b → Mem.find σ m = some b) → (L.len ≠ 0 → Clean ρ σ1 L.1) → ∃ L, Reads ρ σ w v cs L ∧ (∀ m b, Mem.find σ1 m = some b → Mem.find σ m = some b) ∧ ∀ k, FootL L cs k → Clean ρ σ1 k :=
    fun {L cs σ1} hr hl hc => ⟨L, hr, hl, fun k hk => by
      rcases hk with ⟨q, rfl⟩ | hk
      · exact hc q
      · exact (hr.clean k hk).less hl⟩
  have foot : ∀ {n : Nat} {cs : List Col} {b : Blk}, Mem.find σ n = some b → Mem.cols σ n = some cs → (ρ n).len ≠ 0 → Foot ρ n b (ρ n).1 := fun {n cs b} hb hcs q => by
    obtain ⟨_, b', hb', _, hf⟩ := cols_sound hm hcs
    rw [hb] at hb'; cases hb'
    exact hf _ (Or.inl ⟨q, rfl⟩)
  have idl : ∀ m b, Mem.find σ m = some b → Mem.find σ m = some b := fun _ _ q => q
  unfold rdo at h
  split at h
  · rename_i n
    split at h <;> try (cases h; done)
    · rename_i cs' hn
      simp only [Option.some.injEq, Prod.mk.injEq] at h
      obtain ⟨rfl, rfl⟩ := h
      have hcs : Mem.cols σ n = some cs' := by simp [Mem.cols, hn]
      exact fin (reads_vec hm hs hcs hx) (erase_less n) (fun q => clean_erase hs hn (foot hn hcs q))
    · rename_i cs' hn
      simp only [Option.some.injEq, Prod.mk.injEq] at h
      obtain ⟨rfl, rfl⟩ := h
      have hcs : Mem.cols σ n = some cs' := by simp [Mem.cols, hn]
      exact fin (reads_vec hm hs hcs hx) idl (fun q => clean_view hs hn (foot hn hcs q) (fun k q => q))
  · rename_i n z i len
    have hle := hx
    obtain ⟨_, _, _, _, hle, _⟩ := hle
    split at h <;> try (cases h; done)
    · rename_i cs' hn
      split at h <;> try (cases h; done)
      rename_i hz
      simp only [Option.some.injEq, Prod.mk.injEq] at h
      obtain ⟨rfl, rfl⟩ := h
      have hcs : Mem.cols σ n = some cs' := by simp [Mem.cols, hn]
      obtain ⟨A, cap, hr, _⟩ := reads_vsl hm hs hcs (beq_nat hz) hx
      exact fin hr (erase_less n) (fun q => clean_erase hs hn (foot hn hcs (by have : len ≠ 0 := q; omega)))
    · rename_i cs' hn
      split at h <;> try (cases h; done)
      rename_i hz
      simp only [Option.some.injEq, Prod.mk.injEq] at h
      obtain ⟨rfl, rfl⟩ := h
      have hcs : Mem.cols σ n = some cs' := by simp [Mem.cols, hn]
      obtain ⟨A, cap, hr, _⟩ := reads_vsl hm hs hcs (beq_nat hz) hx
      exact fin hr idl (fun q => clean_view hs hn (foot hn hcs (by have : len ≠ 0 := q; omega)) (fun k q => q))
  · rename_i n c i
    split at h <;> try (cases h; done)
    rename_i k ll hr
    simp only [Option.some.injEq, Prod.mk.injEq] at h
    obtain ⟨rfl, rfl⟩ := h
    obtain ⟨l, e, σ1, hsh, hl, hσ⟩ := sharex_sound (K := fun l s => l = llget ll i ∧ s = σ) (k := k) (x := .el n c i) (by simp [sharex, rdx, hr, oneInts]) hm hs hx
    subst hl hσ
    obtain ⟨g1, g2, g3, g4, g5⟩ := Elt.rep hsh.rep
    refine fin ⟨by rw [g2, g3, g4]; exact hsh.val, g1, fun k hk => absurd hk not_inner_ints, fun q => ?_⟩ idl (fun q => ?_)
    · obtain ⟨cs0, hc, hlen, hV, b, hb, hbb, hf⟩ := rows_sound hm hr
      obtain ⟨rfl, hi⟩ := hx
      obtain ⟨hne, a', ha', hab⟩ := g5 _ (Or.inl ⟨q, rfl⟩)
      have hin : Clean ρ σ1 e.loc.1 := by rw [hab]; exact (hsh.clean hne a' ha').1
      have hv := hsh.val
      simp only [Value.slice.injEq] at hv
      have hfo : Foot ρ n b e.loc.1 := hf _ (Or.inr ⟨c, k, ll, i, _, a', hc, llget_some (by omega), hne, by rw [hv.1]; exact ha', hab⟩)
      exact ⟨n, b, hb, hfo, fun m c' hm' _ => hin m c' hm'⟩
    · obtain ⟨hne, a', ha', hab⟩ := g5 _ (Or.inl ⟨q, rfl⟩)
      rw [hab]; exact (hsh.clean hne a' ha').1
  · rename_i n c i o len
    split at h <;> try (cases h; done)
    rename_i k ll hr
    simp only [Option.some.injEq, Prod.mk.injEq] at h
    obtain ⟨rfl, rfl⟩ := h
    obtain ⟨l, e, σ1, hsh, hl, hσ⟩ := sharex_sound (K := fun l s => l = lsub (llget ll i) o len ∧ s = σ) (k := k) (x := .esl n c i o len) (by simp [sharex, rdx, hr, oneInts]) hm hs hx
    subst hl hσ
    obtain ⟨g1, g2, g3, g4, g5⟩ := Elt.rep hsh.rep
    obtain ⟨cs', L', hrd, hcs'⟩ := rdx_sound (K := fun c => c = [Col.ints k (lsub (llget ll i) o len)]) (ks := [.ints k]) (x := .one (.esl n c i o len)) (by simp [rdx, hr]) Nat.one_pos hm hs hx
    refine fin ⟨by rw [g2, g3, g4]; exact hsh.val, g1, fun k hk => absurd hk not_inner_ints, fun q => ?_⟩ idl (fun q => ?_)
    · obtain ⟨hne, a', ha', hab⟩ := g5 _ (Or.inl ⟨q, rfl⟩)
      have hin : Clean ρ σ1 e.loc.1 := by rw [hab]; exact (hsh.clean hne a' ha').1
      have hv := hsh.val
      rw [hrd.val] at hv
      simp only [Value.slice.injEq] at hv
      have hl0 : L'.len ≠ 0 := by rw [hv.2.1, ← g3]; exact q
      obtain ⟨n', b', hb', hfo, _⟩ := hrd.root hl0
      have hL1 : L'.1 = e.loc.1 := by
        have h1 := hrd.rep.adr hl0
        have h2 := g1.adr q
        rw [g2, ← hv.1, h1] at h2
        simp only [Option.some.injEq, Loc.at, Addr.mk.injEq] at h2
        exact h2.1
      rw [hL1] at hfo
      exact ⟨n', b', hb', hfo, fun m c' hm' _ => hin m c' hm'⟩
    · obtain ⟨hne, a', ha', hab⟩ := g5 _ (Or.inl ⟨q, rfl⟩)
      rw [hab]; exact (hsh.clean hne a' ha').1
  · rename_i n base idx len cap
    split at h <;> try (cases h; done)
    rename_i T s hn
    split at h <;> try (cases h; done)
    rename_i k N l hf
    split at h <;> try (cases h; done)
    rename_i hle
    simp only [Option.some.injEq, Prod.mk.injEq] at h
    obtain ⟨rfl, rfl⟩ := h
    obtain ⟨L, hr, h2⟩ := reads_sl hm hs (b := .own T s) hn hf (Nat.le_of_ble_eq_true hle) hx
    refine fin hr (erase_less n) (fun q => clean_erase hs hn ?_)
    have := hr.rep.cap
    exact (h2 (by omega)).2.1
  · simp only [Option.some.injEq, Prod.mk.injEq] at h
    obtain ⟨rfl, rfl⟩ := h
    obtain ⟨rfl, _⟩ := hx
    obtain ⟨g1, g2⟩ := nil_rep (w := w) hks
    exact fin (L := loc0) ⟨rfl, g1, fun k hk => absurd (Or.inr hk) (g2 k), fun q => absurd rfl q⟩ idl (fun q => absurd rfl q)
  · cases h

theorem hintOne0_sound {ρ : Rho} {fr : Fr} {σ : Mem} {a : Act} {w : World} {hn : Hint} (h : Rep E ρ fr σ a w) : ∃ ρ', Rep E ρ' (hintOne0 hn fr σ).1 (hintOne0 hn fr σ).2 a w := by
  unfold hintOne0
  -- a new name for the slot's list
  have fin : ∀ {cs : List Col} {σ1 : Mem} {L : Loc} {b : Blk}, (∀ v, a.tmps[hn.slot]? = some v → v = .slice L.a L.len L.cap) → (∀ m b, Mem.find σ1 m = some b → Mem.find σ m = some b) → freshB (nameOf hn) (fr.set hn.slot .undef) σ1 = true →
      BlkRep (upd ρ (nameOf hn) L) w (nameOf hn) b → (∀ k, Out (upd ρ (nameOf hn) L) (nameOf hn) b k → (E.w0.heap.size ≤ k ∨ E.ex k) ∧ (∀ m c, Mem.find σ1 m = some c → ¬ Foot ρ m c k) ∧ ¬ Inn (upd ρ (nameOf hn) L) (nameOf hn) b k) → (∀ k, Foot (upd ρ (nameOf hn) L) (nameOf hn) b k → Clean ρ σ1 k) →
      Rep E (upd ρ (nameOf hn) L) (fr.set hn.slot (.one (.vec (nameOf hn)))) (Mem.ins (nameOf hn) b σ1) a w := by
    intro cs σ1 L b hval hless hfr hb ho hf
    have h1 : Rep E ρ (fr.set hn.slot .undef) σ1 a w := h.less (h.fr.same fun _ _ => trivial) hless
    have h2 := (add_sound h1 hfr h.keep (fun _ _ _ _ _ => rfl) hb ho hf).find_eq (find_ins (freshB_parts hfr).2.2)
    refine h2.less ?_ fun _ _ q => q
    have hfs := h2.fr.same (s := hn.slot) (x := .one (.vec (nameOf hn))) fun v hv => by
      show v = _
      rw [upd_eq]; exact hval v hv
    refine ⟨by rw [Fr.length_set]; exact h.fr.1, fun t v ht => ?_⟩
    have := hfs.2 t v ht
    rw [Fr.get_set] at this ⊢
    rw [Fr.length_set] at this
    by_cases hq : hn.slot = t ∧ hn.slot < fr.length
    · rw [if_pos hq] at this ⊢; exact this
    · rw [if_neg hq] at this ⊢
      rw [Fr.get_set, if_neg hq] at this
      exact this
  have slotv : ∀ {v}, a.tmps[hn.slot]? = some v → SRep ρ (fr.get hn.slot) v := fun hv => h.fr.2 _ _ hv
  have bare : a.tmps[hn.slot]? = none → fr.get hn.slot = .undef := fun hq => Fr.get_out fr _ (by rw [h.fr.1]; simpa using hq)
  split
  · exact ⟨ρ, h⟩
  · rename_i cs σ1 hrd
    split
    · rename_i hc
      simp only [Bool.and_eq_true] at hc
      obtain ⟨⟨hw, hkd⟩, hfr⟩ := hc
      have hw : 0 < width hn.ks := by simpa using hw
      cases hq : a.tmps[hn.slot]? with
      | none =>
        exfalso
        rw [bare hq] at hrd
        cases ho : hn.own <;> rw [ho] at hrd <;> simp [rdw, rdo] at hrd
      | some v =>
        have hx := slotv hq
        cases ho : hn.own with
        | true =>
          rw [ho] at hrd
          simp only at hrd ⊢
          obtain ⟨cs', L, σ', hT, hcs, hσ⟩ := takex_sound (rdw_takex hrd) hw h.mem h.sep hx
          subst hcs hσ
          refine ⟨_, fin (L := L) (cs := cs') (fun u hu => by rw [hq] at hu; cases hu; exact hT.reads.val) hT.less hfr ⟨by rw [upd_eq]; exact hT.reads.rep, by rw [upd_eq]; exact hT.write⟩ (fun k hk => ?_) (fun k hk => ?_)⟩
          · simp only [Out, upd_eq] at hk
            obtain ⟨hc, rfl⟩ := hk
            obtain ⟨n, b, hn', hO, hg⟩ := hT.gone hc
            refine ⟨h.own n b _ hn' hO, fun m c hm hF => h.sep.1 n m b c _ hn' (hT.less m c hm) (fun e => by subst e; rw [hg] at hm; cases hm) hO hF, fun hI => ?_⟩
            simp only [Inn, upd_eq] at hI
            exact hT.reads.clean _ hI n b hn' hO
          · simp only [Foot, upd_eq] at hk
            rcases hk with ⟨hc, rfl⟩ | hk
            · obtain ⟨n, b, hn', hO, hg⟩ := hT.gone hc
              exact fun m c hm hO' => h.sep.1 n m b c _ hn' (hT.less m c hm) (fun e => by subst e; rw [hg] at hm; cases hm) hO hO'.foot
            · exact (hT.reads.clean k hk).less hT.less
        | false =>
          rw [ho] at hrd
          simp only at hrd ⊢
          obtain ⟨L, hr, hl, hc⟩ := rdo_reads hrd hw h.mem h.sep hx
          exact ⟨_, fin (L := L) (cs := cs) (fun u hu => by rw [hq] at hu; cases hu; exact hr.val) hl hfr (by show VRep w (upd ρ _ L _) cs; rw [upd_eq]; exact hr.rep) (fun k hk => hk.elim) (fun k hk => by simp only [Foot, upd_eq] at hk; exact hc k hk)⟩
    · exact ⟨ρ, h⟩

theorem hintOne_sound {ρ : Rho} {fr : Fr} {σ : Mem} {a : Act} {w : World} {hn : Hint} (h : Rep E ρ fr σ a w) : ∃ ρ', Rep E ρ' (hintOne hn fr σ).1 (hintOne hn fr σ).2 a w := by
  unfold hintOne
  split
  · rename_i b _ hg
    refine ⟨ρ, h.less (h.fr.same fun v hv => ?_) fun _ _ q => q⟩
    have := h.fr.2 _ _ hv
    rw [hg] at this
    exact this
  · exact hintOne0_sound h

theorem hintAll_sound {a : Act} {w : World} : ∀ {D : Hints} {ρ : Rho} {fr : Fr} {σ : Mem}, Rep E ρ fr σ a w → ∃ ρ', Rep E ρ' (hintAll D fr σ).1 (hintAll D fr σ).2 a w
  | [], ρ, fr, σ, h => ⟨ρ, h⟩
  | x :: r, ρ, fr, σ, h => by
    obtain ⟨ρ1, h1⟩ := hintOne_sound (hn := x) h
    simp only [hintAll]
    generalize hintOne x fr σ = p at h1 ⊢
    obtain ⟨fr', σ'⟩ := p
    exact hintAll_sound h1

theorem fresher_sound {ρ : Rho} {σ : Mem} {fr : Fr} {tmps : Array Value} (h : FrRep ρ fr tmps) : FrRep ρ (fresher σ fr) tmps := by
  refine ⟨by simp [fresher, h.1], fun t v hv => ?_⟩
  have := h.2 t v hv
  rw [Fr.get_eq] at this ⊢
  simp only [fresher, List.getElem?_map]
  cases hq : fr[t]? with
  | none => simp [SRep]
  | some x =>
    rw [hq] at this
    simp only [Option.map_some, Option.getD_some] at this ⊢
    split
    · trivial
    · exact this

theorem head_sound {D : Hints} {ρ : Rho} {fr : Fr} {σ : Mem} {a : Act} {w : World} {c : Code} {k : List Item} (h : Rep E ρ fr σ a w) : ∃ ρ', Rep E ρ' (headSt D c k fr σ).1 (headSt D c k fr σ).2 a w := by
  obtain ⟨ρ1, h1⟩ := hintAll_sound (D := D.filter fun h => !h.ret) (head0_sound (c := c) (k := k) h)
  unfold headSt
  generalize hintAll (D.filter fun h => !h.ret) (headFr c k fr) (headMem c k fr σ) = p at h1 ⊢
  obtain ⟨fr', σ'⟩ := p
  refine ⟨ρ1, h1.less (fresher_sound h1.fr) fun n b hb => ?_⟩
  exact find_filter (σ := σ') (fun m => !(((σ'.map fun p : Nat × Blk => p.1).filter fun n => Nat.blt n 200000).contains m) || frRefs m (fresher σ' fr') || σ'.any (fun q => segsRefs m q.2.segs)) hb

theorem join_sound {D : Hints} {ρ : Rho} {fr : Fr} {σ : Mem} {a : Act} {w : World} {c : Code} {k : List Item} (h : Rep E ρ fr σ a w) : Rep E ρ (joinFr D c k fr) (joinMem D c k fr σ) a w := by
  unfold joinMem
  cases hj : joins D with
  | false =>
    have e : joinFr D c k fr = fr := by unfold joinFr; rw [hj]
    rw [e]; exact h
  | true =>
    refine h.less (by unfold joinFr; rw [hj]; exact scrub_sound _ h.fr) fun n b hb => ?_
    exact find_filter (σ := σ) (fun m => !(((σ.map fun p : Nat × Blk => p.1).filter fun n => Nat.blt n 200000).contains m) || frRefs m (joinFr D c k fr) || σ.any (fun q => segsRefs m q.2.segs)) hb

/-- the machine goes on with these items to the function's end -/
def Goes (P : Program) (E : Env) (R : Fr → Mem → Prop) (stk : List Item) (a : Act) (w : World) : Prop :=
  ∀ (b : Frame) (cs : List Frame), ∃ e a' w', (e = .normal ∨ e = .ret) ∧ (∃ ρ fr σ, Rep E ρ fr σ a' w' ∧ R fr σ) ∧ Arrives P (lone (b.at a stk) cs w) b [] cs e a' w'

theorem Goes.step {R : Fr → Mem → Prop} {stk stk' : List Item} {a : Act} {w : World} (hs : ∀ (b : Frame) (cs : List Frame), Steps P (lone (b.at a stk) cs w) (lone (b.at a stk') cs w)) (h : Goes P E R stk' a w) : Goes P E R stk a w := by
  intro b cs
  obtain ⟨e, a', w', h1, h2, h3⟩ := h b cs
  exact ⟨e, a', w', h1, h2, .of_steps (hs b cs) h3⟩

theorem Goes.wp {R : Fr → Mem → Prop} {c : Code} {k : List Item} {a : Act} {w : World} (h : c.wp P (fun e a' w' => match e with | .normal => Goes P E R k a' w' | _ => False) a w) : Goes P E R (.code c :: k) a w := by
  intro b cs
  obtain ⟨e, a1, w1, hq, harr⟩ := h b k cs
  cases e with
  | normal =>
    obtain ⟨e, a', w', h1, h2, h3⟩ := hq b cs
    exact ⟨e, a', w', h1, h2, .of_steps harr h3⟩
  | _ => exact hq.elim

theorem itemx_sound {D : Hints} {R : Fr → Mem → Prop} {lp ih : List Item → Fr → Mem → Prop} (hm : P.follows .mixedOrders = true) (hΓ : GoodG P Γ) (hih : ∀ stk ρ fr σ a w, ih stk fr σ → Rep E ρ fr σ a w → Goes P E R stk a w)
    (hlp : ∀ stk ρ fr σ a w, lp stk fr σ → Rep E ρ fr σ a w → Goes P E R stk a w) (stk : List Item) (ρ : Rho) (fr : Fr) (σ : Mem) (a : Act) (w : World) (h : itemx P Γ D R lp ih stk fr σ) (hR : Rep E ρ fr σ a w) : Goes P E R stk a w := by
  unfold itemx at h
  split at h
  · exact fun b cs => ⟨.normal, a, w, Or.inl rfl, ⟨ρ, fr, σ, hR, h⟩, Steps.refl _ _⟩
  · rename_i c k
    split at h
    · exact (hih _ _ _ _ _ _ h hR).step fun b cs => .one step_skip
    · rename_i id ops
      refine Goes.wp (wp_region ?_)
      rw [List.range_eq_range', ← Array.length_toList]
      exact opsx_sound hΓ (fun ρ fr σ a w hR hK => hih _ _ _ _ _ _ hK hR) ops.toList 0 ρ fr σ a w (by simp) h hR
    · rename_i id ops
      split at h <;> try exact h.elim
      rename_i hsel
      refine Goes.wp (wp_region_any hm ?_)
      have hR' : Rep E ρ fr σ a { w with drawn := w.drawn + 1 } := ⟨hR.fr, hR.df, hR.mem.keeps (fun _ _ _ _ _ => rfl), hR.sep, hR.fix, hR.own, ⟨hR.keep.os, hR.keep.tape, hR.keep.output, hR.keep.size, hR.keep.block⟩⟩
      exact any_of_M _ _ _ _ (drawx_sound (Q := fun e a' w' => match e with | .normal => Goes P E R k a' w' | _ => False) hΓ hsel (fun c a w q => q) (fun ρ fr σ a w hR hK => hih _ _ _ _ _ _ hK hR) hR'.mem ops.size ρ _ fr σ a _ h hR' (fun _ _ _ => rfl) (Nat.le_refl _) (fun _ _ q _ => ⟨fun _ _ => rfl, q⟩))
    · exact (hih _ _ _ _ _ _ h hR).step fun b cs => .one step_seq
    · rename_i t x y
      split at h
      · rename_i hc
        exact (hih _ _ _ _ _ _ h (join_sound hR)).step fun b cs => .one (by have := step_cond (P := P) (b := b) (k := k) (cs := cs) (w := w) (x := x) (y := y) (eval_bool (b := true) hR (Or.inr hc)); simpa using this)
      · rename_i hc
        exact (hih _ _ _ _ _ _ h (join_sound hR)).step fun b cs => .one (by have := step_cond (P := P) (b := b) (k := k) (cs := cs) (w := w) (x := x) (y := y) (eval_bool (b := false) hR (Or.inr hc)); simpa using this)
      · rename_i q hc
        split at h <;> try exact h.elim
        rename_i s
        have hs := hR.frame (set_lit hR.fr hc)
        cases q with
        | true => exact (hih _ _ _ _ _ _ (h.1 rfl) (join_sound hs)).step fun b cs => .one (by have := step_cond (P := P) (b := b) (k := k) (cs := cs) (w := w) (x := x) (y := y) (eval_bool (b := true) hR (Or.inl hc)); simpa using this)
        | false => exact (hih _ _ _ _ _ _ (h.2 rfl) (join_sound hs)).step fun b cs => .one (by have := step_cond (P := P) (b := b) (k := k) (cs := cs) (w := w) (x := x) (y := y) (eval_bool (b := false) hR (Or.inl hc)); simpa using this)
      · exact h.elim
    · exact (hih _ _ _ _ _ _ h hR).step fun b cs => .one step_block
    · obtain ⟨ρ1, hR1⟩ := head_sound (D := D) (c := _) (k := _) hR
      exact (hlp _ _ _ _ _ _ h hR1).step fun b cs => .one step_loop
    · split at h <;> try exact h.elim
      rename_i k' hk
      exact (hih _ _ _ _ _ _ h hR).step fun b cs => .one (step_exit hk)
    · exact fun b cs => ⟨.ret, a, w, Or.inr rfl, ⟨ρ, fr, σ, hR, h⟩, _, .one step_ret⟩
    · exact h.elim
  · exact (hih _ _ _ _ _ _ h hR).step fun b cs => .one step_inBlock
  · obtain ⟨ρ1, hR1⟩ := head_sound (D := D) (c := _) (k := _) hR
    exact (hlp _ _ _ _ _ _ h hR1).step fun b cs => .one step_inLoop
  · exact h.elim

theorem runM_sound {D : Hints} {R : Fr → Mem → Prop} {lp : List Item → Fr → Mem → Prop} (hm : P.follows .mixedOrders = true) (hΓ : GoodG P Γ) (hlp : ∀ stk ρ fr σ a w, lp stk fr σ → Rep E ρ fr σ a w → Goes P E R stk a w) :
    ∀ (m : Nat) stk ρ fr σ a w, runM P Γ D R lp m stk fr σ → Rep E ρ fr σ a w → Goes P E R stk a w
  | 0, _, _, _, _, _, _, h, _ => by rw [runM_zero] at h; exact h.elim
  | m + 1, stk, ρ, fr, σ, a, w, h, hR => by
    rw [runM_succ] at h
    exact itemx_sound hm hΓ (fun stk ρ fr σ a w q r => runM_sound hm hΓ hlp m stk ρ fr σ a w q r) hlp stk ρ fr σ a w h hR

theorem run_sound {D : Hints} {R : Fr → Mem → Prop} (hm : P.follows .mixedOrders = true) (hΓ : GoodG P Γ) : ∀ (n : Nat) stk ρ fr σ a w, run P Γ D R n stk fr σ → Rep E ρ fr σ a w → Goes P E R stk a w
  | 0, _, _, _, _, _, _, h, _ => by rw [run_zero] at h; exact h.elim
  | n + 1, stk, ρ, fr, σ, a, w, h, hR => by
    rw [run_succ] at h
    exact runM_sound hm hΓ (fun stk ρ fr σ a w q r => run_sound hm hΓ n stk ρ fr σ a w q r) 4000 stk ρ fr σ a w h hR

/-! ### results -/
def resV (tmps : Array Value) : ResultVar → Sem Value
  | .tmp t => pure (tmps.getD t undef)
  | .cell a t => do loadVar t (← asAddr (tmps.getD a undef))

theorem resOne_sound {ρ : Rho} {fr : Fr} {σ : Mem} {a : Act} {w : World} {r : ResultVar} {K : TV → Prop} (h : resOne P fr σ r K) (hR : Rep E ρ fr σ a w) :
    ∃ v t, (resV a.tmps r).run P w = .ok v w ∧ TRep ρ t v ∧ K t := by
  have slot : ∀ (t : Nat) {x : AV}, fr.get t = x → x ≠ .undef → SRep ρ x (a.tmps.getD t undef) := by
    intro t x hx hne
    have hlt : t < fr.length := by
      rcases Nat.lt_or_ge t fr.length with q | q
      · exact q
      · rw [Fr.get_out fr t q] at hx; exact absurd hx.symm hne
    have hlt' : t < a.tmps.size := by rw [← hR.fr.1]; exact hlt
    have := hR.fr.2 t a.tmps[t] (Array.getElem?_eq_getElem hlt')
    rw [hx] at this
    simpa [hlt'] using this
  unfold resOne at h
  split at h
  · rename_i t
    split at h
    · rename_i x hx; exact ⟨_, .c x, rfl, slot t hx (by simp), h⟩
    · rename_i s hx; exact ⟨_, .g s, rfl, slot t hx (by simp), h⟩
    · exact h.elim
  · rename_i t T
    split at h <;> try exact h.elim
    rename_i n b i hx
    have hv : a.tmps.getD t undef = .pointer (some (at_ ρ n (b + i))) := slot t hx (by simp)
    obtain ⟨v, av, bk, _, h1, h2, h3⟩ := loadx_sound h hR.mem
    have hrun : (resV a.tmps (.cell t T)).run P w = .ok v w := by
      show (do let x ← asAddr (a.tmps.getD t undef); loadVar T x : Sem Value).run P w = .ok v w
      rw [hv]
      simp [asAddr, h1 w (fun _ _ => rfl)]
    split at h3
    · rename_i x; exact ⟨v, .c x, hrun, h2, h3⟩
    · rename_i s; exact ⟨v, .g s, hrun, h2, h3⟩
    · exact h3.elim

theorem resAll_sound {ρ : Rho} {fr : Fr} {σ : Mem} {a : Act} {w : World} (hR : Rep E ρ fr σ a w) : ∀ {rs : List ResultVar} {K : List TV → Prop}, resAll P fr σ rs K →
    ∃ vs ts, (rs.mapM (resV a.tmps)).run P w = .ok vs w ∧ vs.length = rs.length ∧ ts.length = vs.length ∧ (∀ (j : Nat) t v, ts[j]? = some t → vs[j]? = some v → TRep ρ t v) ∧ K ts
  | [], K, h => ⟨[], [], by simp, rfl, rfl, fun j t v hj => by simp at hj, h⟩
  | r :: rs, K, h => by
    simp only [resAll] at h
    obtain ⟨v, t, h1, h2, h3⟩ := resOne_sound h hR
    obtain ⟨vs, ts, g1, g2, g3, g4, g5⟩ := resAll_sound hR h3
    refine ⟨v :: vs, t :: ts, by simp [List.mapM_cons, h1, g1], by simp [g2], by simp [g3], fun j t' v' ht hv => ?_, g5⟩
    cases j with
    | zero => simp at ht hv; subst ht hv; exact h2
    | succ j => simp at ht hv; exact g4 j t' v' ht hv

theorem TRep.av {ρ : Rho} {t : TV} {v : Value} (h : TRep ρ t v) : SRep ρ t.av v := by cases t <;> exact h

theorem resx_sound {ρ : Rho} {fr : Fr} {σ : Mem} {a : Act} {w : World} {fn : Func} {R : AV → Mem → Prop} (h : resx P fn.results.toList R fr σ) (hR : Rep E ρ fr σ a w) :
    ∃ v av, (results fn a.tmps).run P w = .ok v w ∧ SRep ρ av v ∧ R av σ := by
  unfold resx at h
  obtain ⟨vs, ts, h1, h2, h3, h4, h5⟩ := resAll_sound hR h
  have hrun : (fn.results.mapM (resV a.tmps)).run P w = .ok vs.toArray w := by
    rw [Array.mapM_eq_mapM_toList]
    simp [h1]
  have hres : (results fn a.tmps).run P w = .ok (if h : vs.toArray.size = 1 then vs.toArray[0] else .tuple vs.toArray) w := by
    have e : results fn a.tmps = (do let vs ← fn.results.mapM (resV a.tmps); pure (if h : vs.size = 1 then vs[0] else .tuple vs)) := by
      unfold results
      congr 1
    rw [e]
    simp [hrun]
  split at h5
  · rename_i t
    obtain ⟨v, rfl⟩ : ∃ v, vs = [v] := by
      match vs, h3 with
      | [v], _ => exact ⟨v, rfl⟩
    exact ⟨v, t.av, by rw [hres]; simp, (h4 0 t v rfl rfl).av, h5⟩
  · rename_i ts' hne
    have hlen : vs.length ≠ 1 := by
      intro e
      rw [e] at h3
      have : ∀ {l : List TV}, l.length = 1 → ∃ t, l = [t] := by
        intro l hl
        match l, hl with
        | [t], _ => exact ⟨t, rfl⟩
      obtain ⟨t, ht⟩ := this h3
      exact hne t ht
    exact ⟨.tuple vs.toArray, .tup ts, by rw [hres]; simp [hlen], ⟨vs, rfl, h3, h4⟩, h5⟩

theorem resh_sound {D : Hints} {ρ : Rho} {fr : Fr} {σ : Mem} {a : Act} {w : World} {fn : Func} {R : AV → Mem → Prop} (h : resh P D fn.results.toList R fr σ) (hR : Rep E ρ fr σ a w) :
    ∃ v av ρ' fr' σ', (results fn a.tmps).run P w = .ok v w ∧ SRep ρ' av v ∧ R av σ' ∧ Rep E ρ' fr' σ' a w := by
  unfold resh at h
  obtain ⟨ρ1, h1⟩ := hintAll_sound (D := D.filter fun h => h.ret) hR
  generalize hintAll (D.filter fun h => h.ret) fr σ = p at h1 h
  obtain ⟨fr', σ'⟩ := p
  obtain ⟨v, av, g1, g2, g3⟩ := resx_sound h h1
  exact ⟨v, av, ρ1, fr', σ', g1, g2, g3, h1⟩
end
end Go.Sx
