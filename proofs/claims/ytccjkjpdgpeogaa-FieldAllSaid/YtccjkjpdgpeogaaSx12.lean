/- One operation of a region. -/
import Derived.Test.YtccjkjpdgpeogaaSx11
namespace Go.Sx
open Go
set_option linter.unusedSimpArgs false
set_option linter.unusedVariables false
section
variable {P : Program} {Γ : Gam} {E : Env} {ρ : Rho} {fr : Fr} {σ : Mem} {a : Act} {w : World}

theorem segs_refs {x : AV} {s : List Seg} (h : x.segs = some s) (d : Nat) (hx : x.refs d = false) : segsRefs d s = false := by
  cases x <;> simp only [AV.segs, Option.some.injEq] at h <;> try (cases h; done)
  · subst h; simpa [segsRefs, Seg.refs, AV.refs] using hx
  · subst h; exact hx

theorem ev_refs {d : Nat} {x : Operand} (hf : frRefs d fr = false) (hd : d < 200000) : (ev fr x).refs d = false := by
  cases x with
  | tmp t =>
    simp only [ev]
    by_cases ht : t < fr.length
    · simp only [frRefs, List.any_eq_false] at hf
      simpa using hf _ (Fr.get_mem ht)
    · rw [Fr.get_out fr t (Nat.le_of_not_lt ht)]; rfl
  | const v =>
    simp only [ev]
    have h1 : ∀ c, (AC.ofConst c).refs d = false := by intro c; cases c <;> rfl
    cases v <;> simp only [AV.ofConst] <;> first
      | exact h1 _
      | rfl
      | (split
         · simp only [AV.refs, segsRefs, List.any_cons, Seg.refs, List.any_nil, Bool.or_false, cellsOf, List.any_map, List.any_eq_false]
           intro c _; simpa using h1 c
         · rfl)
  | global g => simp only [ev, AV.refs, AC.refs, gname, beq_eq_false_iff_ne]; omega
  | func f => rfl

theorem zero_refs {t : TypeId} {s : List Seg} (h : zeroSegs P t = some s) (d : Nat) : segsRefs d s = false := by
  obtain ⟨_, _, z, _, _, hf⟩ := zeroSegs_sound h
  unfold zeroSegs at h
  split at h <;> try (cases h; done)
  split at h <;> try (cases h; done)
  rename_i hb
  simp only [Option.some.injEq] at h
  subst h
  simp only [Bool.and_eq_true] at hb
  have key : ∀ {l : List AC} {c : List Value}, flatIs l c = true → l.any (AC.refs d) = false := by
    intro l
    induction l with
    | nil => intro c _; rfl
    | cons x l ih =>
      intro c h
      cases c with
      | nil => simp [flatIs] at h
      | cons v c =>
        simp only [flatIs, Bool.and_eq_true] at h
        simp only [List.any_cons, ih h.2, Bool.or_false]
        cases x <;> first | rfl | (exfalso; cases v <;> simp [acIs] at h)
  have h2 := key hb.2
  have flatRefs : ∀ {s : List Seg}, (flat s).any (AC.refs d) = false → segsRefs d s = false := by
    intro s
    induction s with
    | nil => intro _; rfl
    | cons x r ih =>
      intro h
      simp only [flat, List.any_append, Bool.or_eq_false_iff] at h
      simp only [segsRefs, List.any_cons, Bool.or_eq_false_iff]
      refine ⟨?_, ih h.2⟩
      cases x <;> first | rfl | exact h.1
  exact flatRefs h2

theorem newx_sound {o : Oper} {T : TypeId} {s : List Seg} {c : List Value} {K : AV → Mem → Prop} (h : newx o.dst fr σ (.own T s) fun n σ' => K (.one (.ptr n 0 0)) σ') (hR : Rep E ρ fr σ a w) (ho : segsOk s) (hs : ∀ d, d < 200000 → frRefs d fr = false → segsRefs d s = false) (hf : FRep ρ (flat s) c) :
    ∃ d σ' ρ', o.dst = some d ∧ K (.one (.ptr d 0 0)) σ' ∧ SRep ρ' (.one (.ptr d 0 0)) (.pointer (some ⟨w.heap.size, 0, none⟩)) ∧ Rep E ρ' fr σ' a (World.with w (.cells c.toArray T)) ∧ (∀ n, n ≠ d → ρ' n = ρ n) ∧ ∀ m b, Mem.find σ m = some b → Mem.find σ' m = some b := by
  unfold newx at h
  split at h <;> try exact h.elim
  rename_i d hd
  split at h <;> try exact h.elim
  rename_i hfr
  obtain ⟨h1, h2, h3⟩ := freshB_parts hfr
  exact ⟨d, _, _, hd, h, by simp [SRep, CRep, at_, upd_eq, newLoc], (new_sound hR hfr ho (hs d h1 h2) hf).find_eq (find_ins h3), fun n hn => upd_ne hn, ins_old hfr⟩

theorem newx_open {dst : Option Tmp} {b : Blk} {K : Nat → Mem → Prop} (h : newx dst fr σ b K) : ∃ d, dst = some d ∧ freshB d fr σ = true ∧ K d (Mem.ins d b σ) := by
  unfold newx at h
  split at h <;> try exact h.elim
  rename_i d
  split at h <;> try exact h.elim
  rename_i hfr
  exact ⟨d, rfl, hfr, h⟩

theorem with_keeps (o : Obj) : Keeps (fun _ => False) w (World.with w o) := ⟨rfl, rfl, rfl, by rw [with_size]; omega, fun k hk _ => with_old hk⟩

theorem run_newVar (T : TypeId) (v : Value) : (newVar T v).run P w = .ok ⟨w.heap.size, 0, none⟩ (World.with w (.cells v.cells T)) := by
  simp [newVar, newRow, newObj, Sem.run, World.with, pure, Bind.bind, Sem.bind]

/-- what an operation leaves of the blocks -/
def Leaves (Γ : Gam) (ρ : Rho) (fr : Fr) (op : Op) (σ σ' : Mem) (w w' : World) : Prop :=
  (modOp Γ op = false → Keeps (fun _ => False) w w' ∧ ∀ m b, Mem.find σ m = some b → Mem.find σ' m = some b) ∧
  ∀ T x y n m, op = .store T x y → addrName (ev fr x) = some n → n ≠ m → ∀ b, Mem.find σ m = some b → (∀ k, Foot ρ m b k → w'.heap[k]? = w.heap[k]?) ∧ Mem.find σ' m = some b

theorem Leaves.of {op : Op} {σ' : Mem} {w' : World} (h : modOp Γ op = false → Keeps (fun _ => False) w w' ∧ ∀ m b, Mem.find σ m = some b → Mem.find σ' m = some b) (hs : ∀ T x y, op ≠ .store T x y) : Leaves Γ ρ fr op σ σ' w w' :=
  ⟨h, fun T x y n m q => absurd q (hs T x y)⟩

theorem effx_sound {o : Oper} {K : AV → Mem → Prop} {next : Act → World → Prop} {Q : Exit → Act → World → Prop} (h : effx P Γ o.op o.dst fr σ K) (hΓ : GoodG P Γ) (hR : Rep E ρ fr σ a w)
    (hn : ∀ v av σ' ρ' w', K av σ' → SRep ρ' av v → Rep E ρ' fr σ' a w' → w.heap.size ≤ w'.heap.size → (∀ n, n ∉ newNames Γ fr o.op o.dst → ρ' n = ρ n) → Leaves Γ ρ fr o.op σ σ' w w' → next (a.put o.dst v) w') : o.wp P a w next Q := by
  have Ev := fun x => ev_sound hR.glob hR.fr x
  unfold Oper.wp
  unfold effx at h
  split at h
  · rename_i T hop
    split at h <;> try exact h.elim
    rename_i s hs
    obtain ⟨ho, i, z, hi, hz, hf⟩ := zeroSegs_sound hs
    obtain ⟨d, σ', ρ', e1, e2, e3, e4, e5, e6⟩ := newx_sound (c := z.cells.toList) h hR ho (fun d _ _ => zero_refs hs d) (hf ρ)
    have hrun : (execOp a.eval o).run P w = .ok (.value (.pointer (some ⟨w.heap.size, 0, none⟩))) (World.with w (.cells z.cells T)) := by
      simp [execOp, hop, Instr.alloc, zeroValue, typeInfo, hi, hz, run_newVar]
    rw [hrun]
    simp only [Oper.upon]
    refine hn _ _ σ' ρ' _ e2 e3 (by simpa using e4) (by rw [with_size]; omega) (fun n hn' => e5 n ?_) (.of (fun _ => ⟨with_keeps _, e6⟩) fun _ _ _ q => by rw [hop] at q; cases q)
    simp only [newNames, hop, e1, List.mem_singleton] at hn'
    exact hn'
  · rename_i T x hop
    split at h <;> try exact h.elim
    rename_i s hs
    obtain ⟨ho, hf⟩ := AV.segs_sound hs (Ev x)
    obtain ⟨d, σ', ρ', e1, e2, e3, e4, e5, e6⟩ := newx_sound (c := (a.eval x).cells.toList) h hR ho (fun d hd hfr => segs_refs hs d (ev_refs hfr hd)) hf
    have hrun : (execOp a.eval o).run P w = .ok (.value (.pointer (some ⟨w.heap.size, 0, none⟩))) (World.with w (.cells (a.eval x).cells T)) := by
      simp [execOp, hop, Instr.box, run_newVar]
    rw [hrun]
    simp only [Oper.upon]
    refine hn _ _ σ' ρ' _ e2 e3 (by simpa using e4) (by rw [with_size]; omega) (fun n hn' => e5 n ?_) (.of (fun _ => ⟨with_keeps _, e6⟩) fun _ _ _ q => by rw [hop] at q; cases q)
    simp only [newNames, hop, e1, List.mem_singleton] at hn'
    exact hn'
  · rename_i T x y hop
    have E1 := Ev x
    split at h <;> try exact h.elim
    · rename_i n base idx hx
      rw [hx] at E1
      have hv : a.eval x = .pointer (some (at_ ρ n (base + idx))) := E1
      obtain ⟨w', σ', bk, e1, e0, e2, e3, e4, e5, e6, e7⟩ := storex_sound h hR (Ev y)
      have hrun : (execOp a.eval o).run P w = .ok .skip w' := by
        simp [execOp, hop, Instr.storeAt, hv, Instr.sureAddr, e1]
      rw [hrun]
      simp only [Oper.upon]
      exact hn _ (.tup []) σ' ρ w' e3 ⟨[], rfl, rfl, fun j t u hj => by simp at hj⟩ e2 (by omega) (fun _ _ => rfl) ⟨fun hm => by simp [modOp, hop] at hm, fun T' x' y' n' m q1 q2 q3 b hb => by
        rw [hop] at q1; cases q1
        rw [hx] at q2; cases q2
        exact ⟨fun k hk => e4 k (fun e => by subst e; exact hR.sep.1 n m bk b _ e6 hb q3 e7 hk), by rw [e5 m (Ne.symm q3)]; exact hb⟩⟩
    · rename_i n z i b0 j hx
      rw [hx] at E1
      obtain ⟨A, w', σ', bk, hv, e1, e0, e2, e3, e4, e5, e6, e7⟩ := storeV_sound h hR (Ev y) E1
      have hrun : (execOp a.eval o).run P w = .ok .skip w' := by
        simp [execOp, hop, Instr.storeAt, hv, Instr.sureAddr, e1]
      rw [hrun]
      simp only [Oper.upon]
      exact hn _ (.tup []) σ' ρ w' e3 ⟨[], rfl, rfl, fun j t u hj => by simp at hj⟩ e2 (by omega) (fun _ _ => rfl) ⟨fun hm => by simp [modOp, hop] at hm, fun T' x' y' n' m q1 q2 q3 b hb => by
        rw [hop] at q1; cases q1
        rw [hx] at q2; cases q2
        exact ⟨fun k hk => e4 k (fun e => by subst e; exact hR.sep.1 n m bk b _ e6 hb q3 e7 hk), by rw [e5 m (Ne.symm q3)]; exact hb⟩⟩
  · rename_i t l c hop
    split at h <;> try exact h.elim
    rename_i e hu
    split at h <;> try exact h.elim
    rename_i ks bytes kl A kc B hk hl hc
    obtain ⟨hmk, h⟩ := h
    obtain ⟨d, hd, hfr, hK⟩ := newx_open h
    have vl : a.eval l = .int kl A := by have := Ev l; rw [hl] at this; exact this
    have vc : a.eval c = .int kc B := by have := Ev c; rw [hc] at this; exact this
    obtain ⟨w', L, e1, e2, e3, e4⟩ := make_sound (kl := kl) (kc := kc) hR hu hk hmk hfr
    have hrun : (execOp a.eval o).run P w = .ok (.value (.slice L.a L.len L.cap)) w' := by
      simp [execOp, hop, vl, vc, e1]
    rw [hrun]
    simp only [Oper.upon]
    refine hn _ _ _ _ w' hK (by simp [SRep, CRep, upd_eq]) e4 e2 (fun n hn' => upd_ne ?_) (.of (fun _ => ⟨e3, ins_old hfr⟩) fun _ _ _ q => by rw [hop] at q; cases q)
    simp only [newNames, hop, hd, List.mem_singleton] at hn'
    exact hn'
  · rename_i t len parts hop
    split at h <;> try exact h.elim
    rename_i e hu
    split at h <;> try exact h.elim
    rename_i ks bytes hk
    split at h <;> try exact h.elim
    rename_i hle
    obtain ⟨cs, σ1, h, hR1, hlit⟩ := literal_sound (d := o.dst.getD 0) (ps := parts.map fun (i, x) => (i, a.eval x)) hR hu hk (Nat.le_of_ble_eq_true hle) h (by simp) (by
      intro j p q h1 h2
      simp only [List.getElem?_map, Option.map_eq_some_iff, Array.toList_map] at h1 h2
      obtain ⟨p', e1, rfl⟩ := h1
      obtain ⟨q', e2, rfl⟩ := h2
      rw [e1] at e2; cases e2
      exact ⟨rfl, Ev _⟩)
    obtain ⟨d, hd, hfr, hK⟩ := newx_open h
    obtain ⟨v, w', L, e1, rfl, e2, e4⟩ := hlit (by rw [hd]; exact hfr)
    have hrun : (execOp a.eval o).run P w = .ok (.value (.slice L.a L.len L.cap)) w' := by
      simp [execOp, hop, e1]
    rw [hrun]
    simp only [Oper.upon]
    rw [hd] at e4
    refine hn _ _ _ _ w' hK (by simp [SRep, CRep, upd_eq]) e4 e2 (fun n hn' => upd_ne ?_) (.of (fun q => by simp [modOp, hop] at q) fun _ _ _ q => by rw [hop] at q; cases q)
    simp only [newNames, hop, hd, List.mem_singleton] at hn'
    exact hn'
  · rename_i s d x hop
    have E1 := Ev x
    unfold textx at h
    split at h
    · rename_i b hx
      rw [hx] at E1
      have hv : a.eval x = .string b := E1
      split at h <;> try exact h.elim
      · rename_i h1 h2
        have hrun : (execOp a.eval o).run P w = .ok (.value (.string b)) w := by
          have g1 := strT_sound h1
          have g2 := strT_sound h2
          simp [execOp, hop, hv, convert, run_underlying g1, run_underlying g2]
        rw [hrun]
        simp only [Oper.upon]
        exact hn _ (.one (.str b)) σ ρ w h rfl hR (Nat.le_refl _) (fun _ _ => rfl) (.of (fun _ => ⟨Keeps.refl _ _, fun _ _ q => q⟩) fun _ _ _ q => by rw [hop] at q; cases q)
      · rename_i h1 h2 h3
        obtain ⟨e, g2, g3, _⟩ := bytesT_sound h3
        obtain ⟨dn, hd, hfr, hK⟩ := newx_open h
        obtain ⟨v, w', L, e1, rfl, e2, e3, e4⟩ := text_bytes (P := P) (b := b) hR (strT_sound h1) g2 g3 hfr
        have hrun : (execOp a.eval o).run P w = .ok (.value (.slice L.a L.len L.cap)) w' := by
          simp [execOp, hop, hv, e1]
        rw [hrun]
        simp only [Oper.upon]
        refine hn _ _ _ _ w' hK (by simp [SRep, CRep, upd_eq]) e4 e2 (fun n hn' => upd_ne ?_) (.of (fun _ => ⟨e3, ins_old hfr⟩) fun _ _ _ q => by rw [hop] at q; cases q)
        simp only [newNames, hop, hd, List.mem_singleton] at hn'
        exact hn'
    · rename_i k n hx
      rw [hx] at E1
      obtain ⟨v, av, e1, e2, e3⟩ := convx_sound h E1
      have hrun : (execOp a.eval o).run P w = .ok (.value v) w := by
        simp [execOp, hop, e1]
      rw [hrun]
      simp only [Oper.upon]
      exact hn _ av σ ρ w e3 e2 hR (Nat.le_refl _) (fun _ _ => rfl) (.of (fun _ => ⟨Keeps.refl _ _, fun _ _ q => q⟩) fun _ _ _ q => by rw [hop] at q; cases q)
    · split at h
      · rename_i hsd
        have hsd : s = d := beq_nat hsd
        subst hsd
        split at h <;> try exact h.elim
        rename_i n hx
        rw [hx] at E1
        split at h <;> try exact h.elim
        rename_i l h1 hf
        obtain ⟨hin, hK⟩ := h
        obtain ⟨e, g2, g3, _⟩ := bytesT_sound h1
        have hv : a.eval x = .slice (ρ n).a (ρ n).len (ρ n).cap := E1
        obtain ⟨w', e1, e2, e3⟩ := mark_sound (P := P) hR hf (by have := hin.hi; simp only [llen] at this; omega) g2 g3
        have hrun : (execOp a.eval o).run P w = .ok (.value (.slice (ρ n).a (ρ n).len (ρ n).cap)) w' := by
          simp [execOp, hop, hv, e1]
        rw [hrun]
        simp only [Oper.upon]
        exact hn _ (.one (.vec n)) _ ρ w' hK rfl e3 (Nat.le_of_eq e2.symm) (fun _ _ => rfl) (.of (fun q => by simp [modOp, hop] at q) fun _ _ _ q => by rw [hop] at q; cases q)
      · split at h <;> try exact h.elim
        rename_i h1 h2
        obtain ⟨cs, L, hr, h⟩ := rdx_sound h Nat.one_pos hR.mem hR.sep E1
        split at h <;> try exact h.elim
        rename_i l
        obtain ⟨e, g2, g3, _⟩ := bytesT_sound h1
        have hrun : (execOp a.eval o).run P w = .ok (.value (.string (bytesOf l))) w := by
          simp [execOp, hop, bytes_text (P := P) hr g2 g3 (strT_sound h2)]
        rw [hrun]
        simp only [Oper.upon]
        exact hn _ (.one (.str (bytesOf l))) σ ρ w h rfl hR (Nat.le_refl _) (fun _ _ => rfl) (.of (fun _ => ⟨Keeps.refl _ _, fun _ _ q => q⟩) fun _ _ _ q => by rw [hop] at q; cases q)
  · rename_i args argTypes hop
    split at h <;> try exact h.elim
    rename_i x y tx ty hx ht
    have ea : args = #[x, y] := by rw [← Array.toArray_toList (xs := args), hx]
    have et : argTypes = #[tx, ty] := by rw [← Array.toArray_toList (xs := argTypes), ht]
    subst ea et
    unfold appendx at h
    split at h <;> try exact h.elim
    rename_i e hu
    split at h <;> try exact h.elim
    rename_i ks bytes hk
    split at h <;> try exact h.elim
    rename_i hseq
    obtain ⟨_, _, _, _, _, _, hwid, _⟩ := elemKinds_sound hk
    obtain ⟨cy, Ly, hG, h⟩ := rdy_sound (P := P) (w := w) h hwid hR.mem hR.sep (Ev y) (seq_kind hseq)
    obtain ⟨cx, Lx, σ1, hT, h⟩ := takex_sound h hwid hR.mem hR.sep (Ev x)
    split at h <;> try exact h.elim
    rename_i hkd
    rw [Bool.and_eq_true] at hkd
    obtain ⟨hroom, h⟩ := h
    obtain ⟨d, hd, hfr, hK⟩ := newx_open h
    obtain ⟨v, w', L, e1, rfl, e2, e4⟩ := append_sound (ot := o.type) hR hu hk hT hG (kdsEq_eq hkd.1) (kdsEq_eq hkd.2) hroom hfr
    have hrun : (execOp a.eval o).run P w = .ok (.value (.slice L.a L.len L.cap)) w' := by
      simp [execOp, hop, resolve, invoke, builtin, e1]
    rw [hrun]
    simp only [Oper.upon]
    refine hn _ _ _ _ w' hK (by simp [SRep, CRep, upd_eq]) e4 e2 (fun n hn' => upd_ne ?_) (.of (fun q => by simp [modOp, hop] at q) fun _ _ _ q => by rw [hop] at q; cases q)
    simp only [newNames, hop, hd, List.mem_singleton] at hn'
    exact hn'
  · rename_i args argTypes hop
    split at h <;> try exact h.elim
    rename_i x y tx ty hx ht
    have ea : args = #[x, y] := by rw [← Array.toArray_toList (xs := args), hx]
    have et : argTypes = #[tx, ty] := by rw [← Array.toArray_toList (xs := argTypes), ht]
    subst ea et
    split at h <;> try exact h.elim
    rename_i hseq
    obtain ⟨m, w', σ', e1, e2, e3, hK⟩ := copyx_sound (ot := o.type) h hR (Ev x) (Ev y) (seq_kind hseq)
    have hrun : (execOp a.eval o).run P w = .ok (.value (.int .i64 m)) w' := by
      simp [execOp, hop, resolve, invoke, builtin, e1]
    rw [hrun]
    simp only [Oper.upon]
    exact hn _ (.one (.int .i64 m)) σ' ρ w' hK rfl e3 e2 (fun _ _ => rfl) (.of (fun q => by simp [modOp, hop] at q) fun _ _ _ q => by rw [hop] at q; cases q)
  · rename_i f args argTypes hop
    have hargs : ∀ (j : Nat) x v, (args.toList.map (ev fr))[j]? = some x → (args.map a.eval)[j]? = some v → SRep ρ x v := by
      intro j x v h1 h2
      simp only [List.getElem?_map, Option.map_eq_some_iff, Array.getElem?_toList, Array.getElem?_map] at h1 h2
      obtain ⟨p, hp, rfl⟩ := h1
      obtain ⟨q, hq, rfl⟩ := h2
      rw [hp] at hq; cases hq
      exact Ev p
    split at h <;> try exact h.elim
    · rename_i g first capt hf
      split at h <;> try exact h.elim
      rename_i h1 h2
      have hv : a.eval f = .func (.func g) #[] #[] := by
        have := Ev f; rw [hf] at this; obtain ⟨e, _⟩ := this
        rw [e, ← Array.toArray_toList (xs := first), ← Array.toArray_toList (xs := capt), h1, h2]
      obtain ⟨s, d, hs, hd, hc⟩ := callx_sound (vals := args.map a.eval) h hΓ hR (by simp) hargs
      obtain ⟨_, fn, hfn, hname, hbody⟩ := hΓ g s hs
      have hrun : (execOp a.eval o).run P w = .ok (.enter g (args.map a.eval)) w := by
        cases hb : fn.body with
        | none => rw [hb] at hbody; cases hbody
        | some b => simp [execOp, hop, resolve, hv, Deferred.ofValue, invoke, callFunc, hfn, hname, hb]
      rw [hrun]
      simp only [Oper.upon]
      refine hc.mono ?_
      rintro e w' ⟨v, av, σ', ρ', rfl, hK, hav, hR', hsz, hρ, hk⟩
      refine hn v av σ' ρ' w' hK hav hR' hsz (fun n hn' => hρ n fun k hk' e => ?_) (.of (fun hm => hk ?_) fun _ _ _ q => by rw [hop] at q; cases q)
      · have hd' := hd (by omega)
        apply hn'
        simp only [newNames, hop, hd', hf, hs, List.mem_map, List.mem_range]
        exact ⟨k, hk', e.symm⟩
      · simp only [modOp, hop] at hm
        cases f <;> simp only [ev] at hf
        case func g' =>
          simp only [AV.one.injEq, AC.con.injEq, Value.func.injEq, Fn.func.injEq] at hf
          obtain ⟨rfl, _⟩ := hf
          simpa [hs] using hm
        all_goals (simp at hm)
    · rename_i g n b i hf
      have hv : a.eval f = .func (.func g) #[] #[.pointer (some (at_ ρ n (b + i)))] := by have := Ev f; rw [hf] at this; exact this
      obtain ⟨s, d, hs, hd, hc⟩ := callx_sound (vals := (args.map a.eval) ++ #[.pointer (some (at_ ρ n (b + i)))]) h hΓ hR (by simp) (by
        intro j x v h1 h2
        by_cases hj : j < args.size
        · rw [List.getElem?_append_left (by simpa using hj)] at h1
          rw [Array.getElem?_append_left (by simpa using hj)] at h2
          exact hargs j x v h1 h2
        · rw [List.getElem?_append_right (by simpa using hj)] at h1
          rw [Array.getElem?_append_right (by simpa using hj)] at h2
          simp only [List.length_map, Array.length_toList, Array.size_map] at h1 h2
          by_cases he : j - args.size = 0
          · rw [he] at h1 h2
            simp at h1 h2
            subst h1 h2; rfl
          · obtain ⟨q, hq⟩ : ∃ q, j - args.size = q + 1 := ⟨j - args.size - 1, by omega⟩
            rw [hq] at h1; simp at h1)
      obtain ⟨_, fn, hfn, hname, hbody⟩ := hΓ g s hs
      have hrun : (execOp a.eval o).run P w = .ok (.enter g ((args.map a.eval) ++ #[.pointer (some (at_ ρ n (b + i)))])) w := by
        cases hb : fn.body with
        | none => rw [hb] at hbody; cases hbody
        | some b => simp [execOp, hop, resolve, hv, Deferred.ofValue, invoke, callFunc, hfn, hname, hb]
      rw [hrun]
      simp only [Oper.upon]
      refine hc.mono ?_
      rintro e w' ⟨v, av, σ', ρ', rfl, hK, hav, hR', hsz, hρ, hk⟩
      refine hn v av σ' ρ' w' hK hav hR' hsz (fun n hn' => hρ n fun k hk' e => ?_) (.of (fun hm => hk ?_) fun _ _ _ q => by rw [hop] at q; cases q)
      · have hd' := hd (by omega)
        apply hn'
        simp only [newNames, hop, hd', hf, hs, List.mem_map, List.mem_range]
        exact ⟨k, hk', e.symm⟩
      · simp only [modOp, hop] at hm
        cases f <;> simp only [ev] at hf <;> simp at hm hf
  · exact h.elim
end
end Go.Sx
