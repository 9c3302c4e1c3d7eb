/- One operation of a region. -/
import Derived.Test.YtccjkjpdgpeogaaSx11
namespace Go.Sx
open Go
set_option linter.unusedSimpArgs false
set_option linter.unusedVariables false
section
variable {P : Program} {Γ : Gam} {E : Env} {ρ : Rho} {fr : Fr} {σ : Mem} {a : Act} {w : World}

theorem segs_refs {x : AV} {s : List Seg} (h : x.segs = some s) (d : Nat) (hx : x.refs d = false) : segsRefs d s = false := by
  cases x <;> simp only [AV.segs, Option.some.injEq] at h <;> try (cases h; done)
  · subst h; simpa [segsRefs, Seg.refs, AV.refs] using hx
  · subst h; exact hx

theorem ev_refs {d : Nat} {x : Operand} (hf : frRefs d fr = false) (hd : d < 200000) : (ev fr x).refs d = false := by
  cases x with
  | tmp t =>
    simp only [ev]
    by_cases ht : t < fr.length
    · simp only [frRefs, List.any_eq_false] at hf
      simpa using hf _ (Fr.get_mem ht)
    · rw [Fr.get_out fr t (Nat.le_of_not_lt ht)]; rfl
  | const v =>
    simp only [ev]
    have h1 : ∀ c, (AC.ofConst c).refs d = false := by intro c; cases c <;> rfl
    cases v <;> simp only [AV.ofConst] <;> first
      | exact h1 _
      | rfl
      | (split
         · simp only [AV.refs, segsRefs, List.any_cons, Seg.refs, List.any_nil, Bool.or_false, cellsOf, List.any_map, List.any_eq_false]
           intro c _; simpa using h1 c
         · rfl)
  | global g => simp only [ev, AV.refs, AC.refs, gname, beq_eq_false_iff_ne]; omega
  | func f => rfl

theorem zero_refs {t : TypeId} {s : List Seg} (h : zeroSegs P t = some s) (d : Nat) : segsRefs d s = false := by
  obtain ⟨_, _, z, _, _, hf⟩ := zeroSegs_sound h
  unfold zeroSegs at h
  split at h <;> try (cases h; done)
  split at h <;> try (cases h; done)
  rename_i hb
  simp only [Option.some.injEq] at h
  subst h
  simp only [Bool.and_eq_true] at hb
  have key : ∀ {l : List AC} {c : List Value}, flatIs l c = true → l.any (AC.refs d) = false := by
    intro l
    induction l with
    | nil => intro c _; rfl
    | cons x l ih =>
      intro c h
      cases c with
      | nil => simp [flatIs] at h
      | cons v c =>
        simp only [flatIs, Bool.and_eq_true] at h
        simp only [List.any_cons, ih h.2, Bool.or_false]
        cases x <;> first | rfl | (exfalso; cases v <;> simp [acIs] at h)
  have h2 := key hb.2
  have flatRefs : ∀ {s : List Seg}, (flat s).any (AC.refs d) = false → segsRefs d s = false := by
    intro s
    induction s with
    | nil => intro _; rfl
    | cons x r ih =>
      intro h
      simp only [flat, List.any_append, Bool.or_eq_false_iff] at h
      simp only [segsRefs, List.any_cons, Bool.or_eq_false_iff]
      refine ⟨?_, ih h.2⟩
      cases x <;> first | rfl | exact h.1
  exact flatRefs h2

theorem find_ins {d : Nat} {b : Blk} : ∀ {σ : Mem}, memRefs d σ = false → ∀ n, Mem.find (Mem.ins d b σ) n = Mem.find ((d, b) :: σ) n
  | [], _, n => rfl
  | (m, x) :: r, h, n => by
    have hm : m ≠ d := by
      intro e
      simp [memRefs, e] at h
    have hr : memRefs d r = false := by
      simp only [memRefs, List.any_cons, Bool.or_eq_false_iff] at h ⊢
      exact h.2
    simp only [Mem.ins]
    split
    · have ih := find_ins (b := b) hr n
      simp only [Mem.find] at ih ⊢
      rw [ih]
      by_cases e1 : m = n
      · rw [if_pos e1, if_neg (fun e => hm (e1.trans e.symm)), if_pos e1]
      · rw [if_neg e1, if_neg e1]
    · rfl

theorem Rep.find_eq {σ' : Mem} (h : Rep E ρ fr σ a w) (hf : ∀ n, Mem.find σ' n = Mem.find σ n) : Rep E ρ fr σ' a w :=
  ⟨h.fr, h.df, fun n b hb => h.mem n b (by rw [← hf]; exact hb), fun n m T s b h1 h2 => h.sep n m T s b (by rw [← hf]; exact h1) (by rw [← hf]; exact h2), h.fix, fun n T s hn => h.own n T s (by rw [← hf]; exact hn), h.keep⟩

theorem newx_sound {o : Oper} {T : TypeId} {s : List Seg} {c : List Value} {K : AV → Mem → Prop} (h : newx o.dst fr σ (.own T s) fun n σ' => K (.one (.ptr n 0 0)) σ') (hR : Rep E ρ fr σ a w) (ho : segsOk s) (hs : ∀ d, d < 200000 → frRefs d fr = false → segsRefs d s = false) (hf : FRep ρ (flat s) c) :
    ∃ d σ' ρ', o.dst = some d ∧ K (.one (.ptr d 0 0)) σ' ∧ SRep ρ' (.one (.ptr d 0 0)) (.pointer (some ⟨w.heap.size, 0, none⟩)) ∧ Rep E ρ' fr σ' a (World.with w (.cells c.toArray T)) ∧ (∀ n, n ≠ d → ρ' n = ρ n) ∧ ∀ m b, Mem.find σ m = some b → Mem.find σ' m = some b := by
  unfold newx at h
  split at h <;> try exact h.elim
  rename_i d hd
  split at h <;> try exact h.elim
  rename_i hfr
  have hfr' := hfr
  simp only [freshB, Bool.and_eq_true, Bool.not_eq_true', decide_eq_true_eq] at hfr'
  exact ⟨d, _, _, hd, h, by simp [SRep, CRep, at_, upd], (new_sound hR hfr ho (hs d hfr'.1.1 hfr'.1.2) hf).find_eq (find_ins hfr'.2), fun n hn => by simp [upd, hn], fun m b hm => by
    have := (memRefs_out hfr'.2 hm).1
    rw [find_ins hfr'.2]
    simp only [Mem.find]; rw [if_neg (Ne.symm this)]; exact hm⟩

theorem with_keeps (o : Obj) : Keeps (fun _ => False) w (World.with w o) := ⟨rfl, rfl, rfl, by rw [with_size]; omega, fun k hk _ => with_old hk⟩

theorem run_newVar (T : TypeId) (v : Value) : (newVar T v).run P w = .ok ⟨w.heap.size, 0, none⟩ (World.with w (.cells v.cells T)) := by
  simp [newVar, newRow, newObj, Sem.run, World.with, pure, Bind.bind, Sem.bind]

/-- what an operation leaves of the blocks -/
def Leaves (Γ : Gam) (ρ : Rho) (fr : Fr) (op : Op) (σ σ' : Mem) (w w' : World) : Prop :=
  (modOp Γ op = false → Keeps (fun _ => False) w w' ∧ ∀ m b, Mem.find σ m = some b → Mem.find σ' m = some b) ∧
  ∀ T x y n base idx m, op = .store T x y → ev fr x = .one (.ptr n base idx) → n ≠ m → ∀ b, Mem.find σ m = some b → (((∃ T s, b = .own T s) ∨ flat b.segs ≠ []) → w'.heap[(ρ m).1]? = w.heap[(ρ m).1]?) ∧ Mem.find σ' m = some b

theorem effx_sound {o : Oper} {K : AV → Mem → Prop} {next : Act → World → Prop} {Q : Exit → Act → World → Prop} (h : effx P Γ o.op o.dst fr σ K) (hΓ : GoodG P Γ) (hR : Rep E ρ fr σ a w)
    (hn : ∀ v av σ' ρ' w', K av σ' → SRep ρ' av v → Rep E ρ' fr σ' a w' → w.heap.size ≤ w'.heap.size → (∀ n, n ∉ newNames Γ fr o.op o.dst → ρ' n = ρ n) → Leaves Γ ρ fr o.op σ σ' w w' → next (a.put o.dst v) w') : o.wp P a w next Q := by
  have Ev := fun x => ev_sound hR.glob hR.fr x
  unfold Oper.wp
  unfold effx at h
  split at h
  · rename_i T hop
    split at h <;> try exact h.elim
    rename_i s hs
    obtain ⟨ho, i, z, hi, hz, hf⟩ := zeroSegs_sound hs
    obtain ⟨d, σ', ρ', e1, e2, e3, e4, e5, e6⟩ := newx_sound (c := z.cells.toList) h hR ho (fun d _ _ => zero_refs hs d) (hf ρ)
    have hrun : (execOp a.eval o).run P w = .ok (.value (.pointer (some ⟨w.heap.size, 0, none⟩))) (World.with w (.cells z.cells T)) := by
      simp [execOp, hop, Instr.alloc, zeroValue, typeInfo, hi, hz, run_newVar]
    rw [hrun]
    simp only [Oper.upon]
    refine hn _ _ σ' ρ' _ e2 e3 (by simpa using e4) (by rw [with_size]; omega) (fun n hn' => e5 n ?_) ⟨fun _ => ⟨with_keeps _, e6⟩, fun _ _ _ _ _ _ _ q => by rw [hop] at q; cases q⟩
    simp only [newNames, hop, e1, List.mem_singleton] at hn'
    exact hn'
  · rename_i T x hop
    split at h <;> try exact h.elim
    rename_i s hs
    obtain ⟨ho, hf⟩ := AV.segs_sound hs (Ev x)
    obtain ⟨d, σ', ρ', e1, e2, e3, e4, e5, e6⟩ := newx_sound (c := (a.eval x).cells.toList) h hR ho (fun d hd hfr => segs_refs hs d (ev_refs hfr hd)) hf
    have hrun : (execOp a.eval o).run P w = .ok (.value (.pointer (some ⟨w.heap.size, 0, none⟩))) (World.with w (.cells (a.eval x).cells T)) := by
      simp [execOp, hop, Instr.box, run_newVar]
    rw [hrun]
    simp only [Oper.upon]
    refine hn _ _ σ' ρ' _ e2 e3 (by simpa using e4) (by rw [with_size]; omega) (fun n hn' => e5 n ?_) ⟨fun _ => ⟨with_keeps _, e6⟩, fun _ _ _ _ _ _ _ q => by rw [hop] at q; cases q⟩
    simp only [newNames, hop, e1, List.mem_singleton] at hn'
    exact hn'
  · rename_i T x y hop
    split at h <;> try exact h.elim
    rename_i n base idx hx
    have hv : a.eval x = .pointer (some (at_ ρ n (base + idx))) := by have := Ev x; rw [hx] at this; exact this
    obtain ⟨w', σ', e1, e0, e2, e3, e4, e5, T0, s0, e6⟩ := storex_sound h hR (Ev y)
    have hrun : (execOp a.eval o).run P w = .ok .skip w' := by
      simp [execOp, hop, Instr.storeAt, hv, Instr.sureAddr, e1]
    rw [hrun]
    simp only [Oper.upon]
    exact hn _ (.tup []) σ' ρ w' e3 ⟨[], rfl, rfl, fun j t u hj => by simp at hj⟩ e2 (by omega) (fun _ _ => rfl) ⟨fun hm => by simp [modOp, hop] at hm, fun T' x' y' n' base' idx' m q1 q2 q3 b hb => by
      rw [hop] at q1; cases q1
      rw [hx] at q2; cases q2
      exact ⟨fun hq => e4 _ (fun e => hR.sep n m T0 s0 b e6 hb q3 hq e.symm), by rw [e5 m (Ne.symm q3)]; exact hb⟩⟩
  · rename_i f args argTypes hop
    have hargs : ∀ (j : Nat) x v, (args.toList.map (ev fr))[j]? = some x → (args.map a.eval)[j]? = some v → SRep ρ x v := by
      intro j x v h1 h2
      simp only [List.getElem?_map, Option.map_eq_some_iff, Array.getElem?_toList, Array.getElem?_map] at h1 h2
      obtain ⟨p, hp, rfl⟩ := h1
      obtain ⟨q, hq, rfl⟩ := h2
      rw [hp] at hq; cases hq
      exact Ev p
    split at h <;> try exact h.elim
    · rename_i g first capt hf
      split at h <;> try exact h.elim
      rename_i h1 h2
      have hv : a.eval f = .func (.func g) #[] #[] := by
        have := Ev f; rw [hf] at this; obtain ⟨e, _⟩ := this
        rw [e, ← Array.toArray_toList (xs := first), ← Array.toArray_toList (xs := capt), h1, h2]
      obtain ⟨s, d, hs, hd, hc⟩ := callx_sound (vals := args.map a.eval) h hΓ hR (by simp) hargs
      obtain ⟨_, fn, hfn, hname, hbody⟩ := hΓ g s hs
      have hrun : (execOp a.eval o).run P w = .ok (.enter g (args.map a.eval)) w := by
        cases hb : fn.body with
        | none => rw [hb] at hbody; cases hbody
        | some b => simp [execOp, hop, resolve, hv, Deferred.ofValue, invoke, callFunc, hfn, hname, hb]
      rw [hrun]
      simp only [Oper.upon]
      refine hc.mono ?_
      rintro e w' ⟨v, av, σ', ρ', rfl, hK, hav, hR', hsz, hρ, hk⟩
      refine hn v av σ' ρ' w' hK hav hR' hsz (fun n hn' => hρ n fun k hk' e => ?_) ⟨fun hm => hk ?_, fun _ _ _ _ _ _ _ q => by rw [hop] at q; cases q⟩
      · have hd' := hd (by omega)
        apply hn'
        simp only [newNames, hop, hd', hf, hs, List.mem_map, List.mem_range]
        exact ⟨k, hk', e.symm⟩
      · simp only [modOp, hop] at hm
        cases f <;> simp only [ev] at hf
        case func g' =>
          simp only [AV.one.injEq, AC.con.injEq, Value.func.injEq, Fn.func.injEq] at hf
          obtain ⟨rfl, _⟩ := hf
          simpa [hs] using hm
        all_goals (simp at hm)
    · rename_i g n b i hf
      have hv : a.eval f = .func (.func g) #[] #[.pointer (some (at_ ρ n (b + i)))] := by have := Ev f; rw [hf] at this; exact this
      obtain ⟨s, d, hs, hd, hc⟩ := callx_sound (vals := (args.map a.eval) ++ #[.pointer (some (at_ ρ n (b + i)))]) h hΓ hR (by simp) (by
        intro j x v h1 h2
        by_cases hj : j < args.size
        · rw [List.getElem?_append_left (by simpa using hj)] at h1
          rw [Array.getElem?_append_left (by simpa using hj)] at h2
          exact hargs j x v h1 h2
        · rw [List.getElem?_append_right (by simpa using hj)] at h1
          rw [Array.getElem?_append_right (by simpa using hj)] at h2
          simp only [List.length_map, Array.length_toList, Array.size_map] at h1 h2
          by_cases he : j - args.size = 0
          · rw [he] at h1 h2
            simp at h1 h2
            subst h1 h2; rfl
          · obtain ⟨q, hq⟩ : ∃ q, j - args.size = q + 1 := ⟨j - args.size - 1, by omega⟩
            rw [hq] at h1; simp at h1)
      obtain ⟨_, fn, hfn, hname, hbody⟩ := hΓ g s hs
      have hrun : (execOp a.eval o).run P w = .ok (.enter g ((args.map a.eval) ++ #[.pointer (some (at_ ρ n (b + i)))])) w := by
        cases hb : fn.body with
        | none => rw [hb] at hbody; cases hbody
        | some b => simp [execOp, hop, resolve, hv, Deferred.ofValue, invoke, callFunc, hfn, hname, hb]
      rw [hrun]
      simp only [Oper.upon]
      refine hc.mono ?_
      rintro e w' ⟨v, av, σ', ρ', rfl, hK, hav, hR', hsz, hρ, hk⟩
      refine hn v av σ' ρ' w' hK hav hR' hsz (fun n hn' => hρ n fun k hk' e => ?_) ⟨fun hm => hk ?_, fun _ _ _ _ _ _ _ q => by rw [hop] at q; cases q⟩
      · have hd' := hd (by omega)
        apply hn'
        simp only [newNames, hop, hd', hf, hs, List.mem_map, List.mem_range]
        exact ⟨k, hk', e.symm⟩
      · simp only [modOp, hop] at hm
        cases f <;> simp only [ev] at hf <;> simp at hm hf
  · exact h.elim
end
end Go.Sx
