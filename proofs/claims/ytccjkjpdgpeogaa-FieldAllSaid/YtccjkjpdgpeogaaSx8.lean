/- All operations that leave the memory alone. -/
import Derived.Test.YtccjkjpdgpeogaaSx7
namespace Go.Sx
open Go
set_option linter.unusedSimpArgs false
set_option linter.unusedVariables false
section
variable {P : Program} {ρ : Rho} {σ : Mem} {w0 : World} {K : AV → Prop}

theorem fill_agg {place : Nat → Option (Nat × Nat)} {s : List Seg} {z : Value} {parts : List (Nat × AV)} {ps : List (Nat × Value)} (h : fillx s place parts fun s' => K (.agg s')) (ho : segsOk s) (hf : FRep ρ (flat s) z.cells.toList)
    (hl : parts.length = ps.length) (hps : ∀ (j : Nat) p q, parts[j]? = some p → ps[j]? = some q → p.1 = q.1 ∧ SRep ρ p.2 q.2) : ∃ s' cells', Instr.fill place z.cells ps = some cells' ∧ K (.agg s') ∧ SRep ρ (.agg s') (.agg cells') := by
  obtain ⟨s', cells', e1, e2, e3, e4⟩ := fillx_sound h ho hf hl hps
  exact ⟨s', cells', e1, e2, e3, cells'.toList, by simp, e4⟩

theorem buildx_sound {t : TypeId} {parts : List (Nat × AV)} {ps : Array (Nat × Value)} (h : buildx P t parts K) (hl : parts.length = ps.toList.length)
    (hps : ∀ (j : Nat) p q, parts[j]? = some p → ps.toList[j]? = some q → p.1 = q.1 ∧ SRep ρ p.2 q.2) : ∃ v av, (∀ w : World, (Instr.build t ps).run P w = .ok v w) ∧ SRep ρ av v ∧ K av := by
  unfold buildx at h
  split at h <;> try exact h.elim
  rename_i s hs
  obtain ⟨ho, it, z, hit, hz, hf⟩ := zeroSegs_sound hs
  split at h
  · rename_i n e hu
    split at h <;> try exact h.elim
    rename_i ze hze
    obtain ⟨s', cells', e1, e2, e3⟩ := fill_agg h ho (hf ρ) hl hps
    refine ⟨_, .agg s', fun w => run_build w t ps cells' ?_, e3, e2⟩
    unfold sizeB at hze
    cases hie : P.info? e with
    | none => rw [hie] at hze; cases hze
    | some ie =>
      rw [hie] at hze
      simp only [Option.map_some, Option.some.injEq] at hze
      subst hze
      simp only [Program.built, hit, hu, hz, hie]
      exact e1
  · rename_i fs hu
    split at h <;> try exact h.elim
    rename_i places hp
    obtain ⟨s', cells', e1, e2, e3⟩ := fill_agg h ho (hf ρ) hl hps
    refine ⟨_, .agg s', fun w => run_build w t ps cells' ?_, e3, e2⟩
    have hp' : fs.toList.mapM (fun f => (P.info? f.type).map fun i => (f.offset, i.size)) = some places := by
      rw [← hp]; congr 1; funext f; simp [sizeB, Option.map_map, Function.comp_def]
    simp only [Program.built, hit, hu, hz, hp']
    simpa using e1
  · exact h.elim

theorem fieldx_sound {t : TypeId} {x : AV} {f : Nat} {v1 : Value} (h : fieldx P t x f K) (hx : SRep ρ x v1) : ∃ v av, (∀ w : World, (Instr.field t v1 f).run P w = .ok v w) ∧ SRep ρ av v ∧ K av := by
  unfold fieldx at h
  split at h <;> try exact h.elim
  rename_i s
  obtain ⟨ho, cs, rfl, hf⟩ := hx
  split at h <;> try exact h.elim
  rename_i fs hu
  split at h <;> try exact h.elim
  rename_i fd hfd
  split at h <;> try exact h.elim
  rename_i base idx hl
  have hsum : base + idx = fd.offset := by have := locate_sum hl; omega
  split at h
  · rename_i z hag hz
    obtain ⟨k, l, hll, hfl, hK⟩ := partx_sound h ho
    have hp := part_agg (P := P) (e := fd.type) (cs := cs) (i := fd.offset) hag hz
    have e : (cs.drop fd.offset).take z = l.map (Value.int k) := by
      apply List.ext_getElem?
      intro j
      rw [List.getElem?_take]
      by_cases hj : j < z
      · rw [if_pos hj, List.getElem?_drop]
        have h1 := hfl j hj
        rw [hsum] at h1
        have hlt : fd.offset + j < cs.length := by rw [← hf.1]; exact (List.getElem?_eq_some_iff.1 h1).1
        have h2 := hf.2 _ _ _ h1 (List.getElem?_eq_getElem hlt)
        rw [List.getElem?_eq_getElem hlt, show cs[fd.offset + j] = _ from h2]
        simp [show j < l.length by omega, List.getD]
      · rw [if_neg hj, List.getElem?_eq_none (by simp only [List.length_map]; omega)]
    rw [e] at hp
    exact ⟨_, .agg [.ints k z l], by simp [Instr.field, run_underlying hu, hfd, asAgg, hp], ⟨⟨hll, trivial⟩, _, rfl, ints_FRep ρ k z l⟩, hK⟩
  · rename_i z hag hz
    obtain ⟨a, ⟨v, hv, hr⟩, hK⟩ := onex_sound h ho (C := fun a j => ∃ v, cs[j]? = some v ∧ CRep ρ a v) (fun j a hj => by
      have hlt : j < cs.length := by rw [← hf.1]; exact (List.getElem?_eq_some_iff.1 hj).1
      exact ⟨_, List.getElem?_eq_getElem hlt, hf.2 _ _ _ hj (List.getElem?_eq_getElem hlt)⟩)
    rw [hsum] at hv
    exact ok1 (a := a) (by simp [Instr.field, run_underlying hu, hfd, asAgg, part_one hag hv]) hr hK
  · exact h.elim

theorem minmax_sound {lo : Bool} {x y : AV} {v1 v2 : Value} (h : minmax lo x y K) (hx : SRep ρ x v1) (hy : SRep ρ y v2) (ty : TypeId) (tys : Array TypeId) :
    ∃ v av, (∀ w : World, ((if lo then Builtin.min_ tys ty #[v1, v2] else Builtin.max_ tys ty #[v1, v2])).run P w = .ok v w) ∧ SRep ρ av v ∧ K av := by
  unfold minmax at h
  split at h <;> try exact h.elim
  rename_i k a k' b
  cases (show v1 = _ from hx); cases (show v2 = _ from hy)
  split at h <;> try exact h.elim
  cases lo with
  | true => exact okI (by simp [Builtin.min_, Builtin.min2, imin]) h
  | false => exact okI (by simp [Builtin.max_, Builtin.max2, imax]) h

theorem funcx_sound {f : Fn} {first : List Operand} {capt : List AV} {cv : List Value} (h : funcx f first capt K) (hl : capt.length = cv.length) (hc : ∀ (j : Nat) x v, capt[j]? = some x → cv[j]? = some v → SRep ρ x v) :
    first = [] ∧ ∃ av, SRep ρ av (.func f #[] cv.toArray) ∧ K av := by
  unfold funcx at h
  split at h <;> try exact h.elim
  · simp at hl
    have : cv = [] := by cases cv <;> simp_all
    subst this
    exact ⟨rfl, .one (.con (.func (.func _) #[] #[])), ⟨rfl, rfl⟩, h⟩
  · rename_i g n b i
    match cv, hl with
    | [v], _ =>
      have := hc 0 _ v rfl rfl
      have e : v = _ := this
      subst e
      exact ⟨rfl, .one (.clo g n b i), rfl, h⟩

/-- an operation that does not look at memory -/
theorem pure_sound {o : Oper} {fr : Fr} {a : Act} (h : detx P o.op fr σ K) (hld : ∀ T x, o.op ≠ .load T x) (hm : MemRep ρ σ w0) (hfr : FrRep ρ fr a.tmps) (hg : Glob ρ) :
    ∃ v av, (∀ w : World, (execOp a.eval o).run P w = .ok (.value v) w) ∧ SRep ρ av v ∧ K av := by
  have E := fun x => ev_sound hg hfr x
  have lift : ∀ {m : Sem Value}, execOp a.eval o = (do pure (.value (← m))) → (∃ v av, (∀ w : World, m.run P w = .ok v w) ∧ SRep ρ av v ∧ K av) → ∃ v av, (∀ w : World, (execOp a.eval o).run P w = .ok (.value v) w) ∧ SRep ρ av v ∧ K av := by
    intro m hm ⟨v, av, h1, h2, h3⟩
    exact ⟨v, av, by rw [hm]; simp [h1], h2, h3⟩
  unfold detx at h
  split at h
  · rename_i x ho; exact ⟨_, _, by simp [execOp, ho], E x, h⟩
  · rename_i x ho; exact ⟨_, _, by simp [execOp, ho], E x, h⟩
  · rename_i T x ho; exact absurd ho (hld T x)
  · rename_i x ho; exact nilx_sound ho h (E x)
  · rename_i op t x y yt ho
    exact lift (by simp [execOp, ho]) (binx_sound (X := x) (Y := y) h (E x) (E y))
  · rename_i op t x ho
    exact lift (by simp [execOp, ho]) (unx_sound h (E x))
  · rename_i s d x ho
    exact lift (by simp [execOp, ho]) (convx_sound h (E x))
  · rename_i t x ho
    exact lift (by simp [execOp, ho]) (arrx_sound h hm (E x))
  · rename_i t x lo hi mx ho
    refine lift (by simp [execOp, ho]) (slicez_sound (vl := lo.map a.eval) (vh := hi.map a.eval) (vm := mx.map a.eval) h hm (E x) ?_ ?_ ?_ ?_ ?_ ?_)
    · intro y hy; cases lo <;> simp at hy; subst hy; exact ⟨_, rfl, E _⟩
    · intro hy; cases lo <;> simp at hy; rfl
    · intro y hy; cases hi <;> simp at hy; subst hy; exact ⟨_, rfl, E _⟩
    · intro hy; cases hi <;> simp at hy; rfl
    · intro y hy; cases mx <;> simp at hy; subst hy; exact ⟨_, rfl, E _⟩
    · intro hy; cases mx <;> simp at hy; rfl
  · rename_i f first capt ho
    obtain ⟨h1, av, h2, h3⟩ := funcx_sound (ρ := ρ) (cv := capt.toList.map a.eval) h (by simp) (by
      intro j x v h1 h2
      simp only [List.getElem?_map, Option.map_eq_some_iff] at h1 h2
      obtain ⟨p, hp, rfl⟩ := h1
      obtain ⟨q, hq, rfl⟩ := h2
      rw [hp] at hq; cases hq
      exact E p)
    have e1 : first = #[] := by rw [← Array.toArray_toList (xs := first), h1]
    have e2 : (capt.toList.map a.eval).toArray = capt.map a.eval := by simp [← Array.toList_map]
    rw [e2] at h2
    exact ⟨_, av, by subst e1; simp [execOp, ho, Instr.makeFunc], h2, h3⟩
  · rename_i t x f ho
    exact lift (by simp [execOp, ho]) (fieldAddrx_sound h (E x))
  · rename_i t x f ho
    exact lift (by simp [execOp, ho]) (fieldx_sound h (E x))
  · rename_i t x i ho
    exact lift (by simp [execOp, ho]) (indexAddrx_sound h hm (E x) (E i))
  · rename_i t x i ho
    exact lift (by simp [execOp, ho]) (indexx_sound h (E x) (E i))
  · rename_i x i ho
    exact lift (by simp [execOp, ho]) (extractx_sound h (E x))
  · rename_i t ps ho
    refine lift (by simp [execOp, ho]) (buildx_sound (ps := ps.map fun (i, x) => (i, a.eval x)) h (by simp) ?_)
    intro j p q h1 h2
    simp only [List.getElem?_map, Option.map_eq_some_iff, Array.toList_map] at h1 h2
    obtain ⟨p', e1, rfl⟩ := h1
    obtain ⟨q', e2, rfl⟩ := h2
    rw [e1] at e2; cases e2
    exact ⟨rfl, E _⟩
  · rename_i args argTypes ho
    split at h <;> try exact h.elim
    rename_i x t hx ht
    have ea : args = #[x] := by rw [← Array.toArray_toList (xs := args), hx]
    have et : argTypes = #[t] := by rw [← Array.toArray_toList (xs := argTypes), ht]
    subst ea et
    obtain ⟨v, av, h1, h2, h3⟩ := lenx_sound h hm (E x) o.type
    exact ⟨v, av, by simp [execOp, ho, resolve, invoke, builtin, h1], h2, h3⟩
  · rename_i args argTypes ho
    split at h <;> try exact h.elim
    rename_i x y hxy
    have ea : args = #[x, y] := by rw [← Array.toArray_toList (xs := args), hxy]
    subst ea
    obtain ⟨v, av, h1, h2, h3⟩ := minmax_sound (P := P) h (E x) (E y) o.type argTypes
    exact ⟨v, av, fun w => by have := h1 w; simp only [if_true] at this; simp [execOp, ho, resolve, invoke, builtin, this], h2, h3⟩
  · rename_i args argTypes ho
    split at h <;> try exact h.elim
    rename_i x y hxy
    have ea : args = #[x, y] := by rw [← Array.toArray_toList (xs := args), hxy]
    subst ea
    obtain ⟨v, av, h1, h2, h3⟩ := minmax_sound (P := P) h (E x) (E y) o.type argTypes
    exact ⟨v, av, fun w => by have := h1 w; simp only [Bool.false_eq_true, if_false] at this; simp [execOp, ho, resolve, invoke, builtin, this], h2, h3⟩
  · exact h.elim

/-- a load -/
theorem load_sound {o : Oper} {fr : Fr} {a : Act} {T : TypeId} {x : Operand} (h : detx P o.op fr σ K) (ho : o.op = .load T x) (hm : MemRep ρ σ w0) (hfr : FrRep ρ fr a.tmps) (hg : Glob ρ) :
    ∃ v av n bk, addrName (ev fr x) = some n ∧ Mem.find σ n = some bk ∧ (∀ w' : World, (∀ k, Foot ρ n bk k → w'.heap[k]? = w0.heap[k]?) → (execOp a.eval o).run P w' = .ok (.value v) w') ∧ SRep ρ av v ∧ K av := by
  have E := ev_sound hg hfr x
  rw [ho] at h
  simp only [detx] at h
  split at h <;> try exact h.elim
  · rename_i n base idx hx
    rw [hx] at E
    have hv : a.eval x = .pointer (some (at_ ρ n (base + idx))) := E
    obtain ⟨v, av, bk, h1, h2, h3, h4⟩ := loadx_sound h hm
    exact ⟨v, av, n, bk, by rw [hx]; rfl, h1, fun w' hw => by simp [execOp, ho, Instr.loadAt, hv, Instr.sureAddr, h2 w' hw], h3, h4⟩
  · rename_i n z i b j hx
    rw [hx] at E
    obtain ⟨v, av, bk, h1, h2, h3, h4⟩ := loadV_sound h hm E
    exact ⟨v, av, n, bk, by rw [hx]; rfl, h1, fun w' hw => by simp [execOp, ho, h2 w' hw], h3, h4⟩
  · rename_i n c i o' hx
    rw [hx] at E
    obtain ⟨v, av, bk, h1, h2, h3, h4⟩ := loadE_sound h hm E
    exact ⟨v, av, n, bk, by rw [hx]; rfl, h1, fun w' hw => by simp [execOp, ho, h2 w' hw], h3, h4⟩

theorem detx_sound {w : World} {o : Oper} {fr : Fr} {a : Act} (h : detx P o.op fr σ K) (hfr : FrRep ρ fr a.tmps) (hm : MemRep ρ σ w) (hg : Glob ρ) :
    ∃ v av, (execOp a.eval o).run P w = .ok (.value v) w ∧ SRep ρ av v ∧ K av := by
  by_cases hld : ∀ T x, o.op ≠ .load T x
  · obtain ⟨v, av, h1, h2, h3⟩ := pure_sound h hld hm hfr hg
    exact ⟨v, av, h1 w, h2, h3⟩
  · simp only [Classical.not_forall, Classical.not_not] at hld
    obtain ⟨T, x, ho⟩ := hld
    obtain ⟨v, av, n, bk, _, _, h1, h2, h3⟩ := load_sound h ho hm hfr hg
    exact ⟨v, av, h1 w (fun _ _ => rfl), h2, h3⟩
end
end Go.Sx
