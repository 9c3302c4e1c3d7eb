/- Operations that leave the memory alone come to what the symbolic walk says. -/
import Derived.Test.YtccjkjpdgpeogaaSxV
namespace Go.Sx
open Go
set_option linter.unusedSimpArgs false
set_option linter.unusedVariables false

theorem loadx_sound {P : Program} {ρ : Rho} {σ : Mem} {w : World} {T : TypeId} {n base idx : Nat} {K : AV → Prop} (h : loadx P σ T n base idx K) (hm : MemRep ρ σ w) :
    ∃ v av b, Mem.find σ n = some b ∧ (∀ w' : World, (∀ k, Foot ρ n b k → w'.heap[k]? = w.heap[k]?) → (loadVar T (at_ ρ n (base + idx))).run P w' = .ok v w') ∧ SRep ρ av v ∧ K av := by
  unfold loadx at h
  split at h
  · exact h.elim
  rename_i b hb
  have hB := hm n b hb
  obtain ⟨ho, hcells⟩ := hB.cells
  have there : ∀ {w' : World} {i : Nat}, w'.heap[(ρ n).1]? = w.heap[(ρ n).1]? → w'.cell? (at_ ρ n i) = w.cell? (at_ ρ n i) := fun hw => cell_block hw
  have foot : flat b.segs ≠ [] → Foot ρ n b (ρ n).1 := fun hne => by
    cases b with
    | own T s => rfl
    | view s => exact ⟨hne, rfl⟩
    | vec cs => exact absurd rfl hne
    | rview cs => exact absurd rfl hne
  split at h
  · rename_i z hag hsz
    have part : ∀ {K : AV → Prop}, partx b.segs (z + 1) base idx K → ∃ v av b, Mem.find σ n = some b ∧ (∀ w' : World, (∀ k, Foot ρ n b k → w'.heap[k]? = w.heap[k]?) → (loadVar T (at_ ρ n (base + idx))).run P w' = .ok v w') ∧ SRep ρ av v ∧ K av := by
      intro K h
      obtain ⟨k, l, hl, hfl, hK⟩ := partx_sound h ho
      have hne : flat b.segs ≠ [] := fun e => by have q := hfl 0 (by omega); rw [e] at q; simp at q
      refine ⟨.agg (l.map (Value.int k)).toArray, .agg [.ints k (z + 1) l], b, hb, fun w' hw0 => ?_, ⟨⟨hl, trivial⟩, l.map (Value.int k), rfl, ints_FRep ρ k (z + 1) l⟩, hK⟩
      have hw := hw0 _ (foot hne)
      have hrun := run_loadCells (P := P) w' (at_ ρ n (base + idx)) (z + 1) (fun j => .int k (l.getD j 0)) (fun j hj => by
        obtain ⟨v, hv, hr⟩ := hcells _ _ (hfl j hj)
        rw [at_add, there hw, hv, show v = _ from hr])
      have e : ((List.range (z + 1)).map fun j => Value.int k (l.getD j 0)) = l.map (Value.int k) := by
        apply List.ext_getElem?
        intro j
        by_cases hj : j < z + 1
        · have : j < l.length := by omega
          simp [hj, this, List.getD]
        · have : ¬ j < l.length := by omega
          simp [hj, List.getElem?_eq_none (Nat.le_of_not_lt this)]
      rw [e] at hrun
      simp [loadVar, run_isAggB hag, run_sizeB hsz, hrun]
    cases b with
    | own T' s =>
      simp only at h
      split at h
      · split at h
        · split at h
          · rename_i hT _ _ hlen
            subst hT
            obtain ⟨hso, hz, c, fz, hh, hf, _⟩ := hB
            refine ⟨.agg c.toArray, .agg s, _, hb, fun w' hw0 => ?_, ⟨hso, c, rfl, hf⟩, h⟩
            have hw := hw0 _ rfl
            have hrun := run_loadCells_list (P := P) w' (at_ ρ n 0) c (fun j v hv => by
              rw [at_add, there hw]; simp [World.cell?, at_, hz, hh, hv])
            have hcl : c.length = z + 1 := by rw [← hf.1, flat_length hso]; exact hlen
            rw [hcl] at hrun
            simp [loadVar, run_isAggB hag, run_sizeB hsz, hrun]
          · exact h.elim
        · exact h.elim
      · exact part h
    | view s => exact part h
    | vec cs => exact h.elim
    | rview cs => exact h.elim
  · rename_i z hag hsz
    obtain ⟨a, ⟨⟨v, hv, hr⟩, hne⟩, hK⟩ := onex_sound h ho (C := fun a j => (∃ v, w.cell? (at_ ρ n j) = some v ∧ CRep ρ a v) ∧ (flat b.segs)[j]? = some a) (fun j a hj => ⟨hcells j a hj, hj⟩)
    exact ⟨v, .one a, b, hb, fun w' hw => by simp [loadVar, run_isAggB hag, there (hw _ (foot fun e => by rw [e] at hne; simp at hne)), hv], hr, hK⟩
  · exact h.elim

theorem okI {P : Program} {ρ : Rho} {m : Sem Value} {k : IntKind} {n : Int} {K : AV → Prop} (hr : ∀ w : World, m.run P w = .ok (.int k n) w) (h : K (.one (.int k n))) :
    ∃ v av, (∀ w : World, m.run P w = .ok v w) ∧ SRep ρ av v ∧ K av := ⟨_, .one (.int k n), hr, rfl, h⟩
theorem okB {P : Program} {ρ : Rho} {m : Sem Value} {b : Bool} {K : AV → Prop} (hr : ∀ w : World, m.run P w = .ok (.bool b) w) (h : K (.one (.bool b))) :
    ∃ v av, (∀ w : World, m.run P w = .ok v w) ∧ SRep ρ av v ∧ K av := ⟨_, .one (.bool b), hr, rfl, h⟩

theorem intBin_sound {P : Program} {ρ : Rho} {op : BinOp} {t : TypeId} {k : IntKind} {a b : Int} {K : AV → Prop} (h : intBin op k a b K) (h1 : op ≠ .shl) (h2 : op ≠ .shr) :
    ∃ v av, (∀ w : World, (binOp op t (.int k a) (.int k b)).run P w = .ok v w) ∧ SRep ρ av v ∧ K av := by
  cases op <;> simp only [intBin] at h
  case add => exact okI (by simp [binOp, Op.intArith, add]) h
  case sub => exact okI (by simp [binOp, Op.intArith, sub]) h
  case mul => exact okI (by simp [binOp, Op.intArith, mul]) h
  case quo => exact okI (by simp [binOp, Op.intDiv, h.1.ne, quo]) h.2
  case rem => exact okI (by simp [binOp, Op.intDiv, h.1.ne, rem]) h.2
  case and => exact okI (by simp [binOp, Op.intBits, band, bits]) h
  case or => exact okI (by simp [binOp, Op.intBits, bor, bits]) h
  case xor => exact okI (by simp [binOp, Op.intBits, bxor, bits]) h
  case andNot => exact okI (by simp [binOp, Op.intBits, bclr, bits]) h
  case eql => exact okB (by simp [binOp, Op.intCmp, ieq]) h
  case neq => exact okB (by simp [binOp, Op.intCmp, ine]) h
  case lss => exact okB (by simp [binOp, Op.intCmp, ilt]) h
  case leq => exact okB (by simp [binOp, Op.intCmp, ile]) h
  case gtr => exact okB (by simp [binOp, Op.intCmp, igt]) h
  case geq => exact okB (by simp [binOp, Op.intCmp, ige]) h
  all_goals exact h.elim

theorem run_eqItems_ints {P : Program} {e : TypeId} {k : IntKind} (he : P.underlying e = some (.int k)) (kk : IntKind) (l1 l2 : List Int) (d : Nat) (w : World) :
    ∀ is : List Nat, (∀ i ∈ is, i < l1.length ∧ i < l2.length) →
      (Op.eqItems (d + 1) e 1 (l1.map (Value.int kk)).toArray (l2.map (Value.int kk)).toArray is).run P w = .ok (is.all fun i => l1.getD i 0 == l2.getD i 0) w
  | [], _ => by simp [Op.eqItems]
  | i :: is, h => by
    have h0 := h i (by simp)
    have hag : (isAgg e).run P w = .ok false w := by unfold isAgg; rw [Sem.run_bind, run_underlying he w]; simp
    have hp : ∀ l : List Int, i < l.length → (part e (l.map (Value.int kk)).toArray (i * 1)).run P w = .ok (.int kk (l.getD i 0)) w := by
      intro l hl
      simp [part, hag, hl, List.getD]
    have hq := run_equalIn_int w d e kk k (l1.getD i 0) (l2.getD i 0) he
    have ih := run_eqItems_ints he kk l1 l2 d w is (fun j hj => h j (by simp [hj]))
    simp only [Op.eqItems, Sem.run_bind, hp l1 h0.1, hp l2 h0.2, hq, Result.andThen_ok]
    rw [List.all_cons]
    generalize (l1.getD i 0 == l2.getD i 0) = q
    cases q <;> simp [ih]

theorem all_eq (l1 l2 : List Int) (n : Nat) (h1 : l1.length = n) (h2 : l2.length = n) : ((List.range n).all fun i => l1.getD i 0 == l2.getD i 0) = leq l1 l2 := by
  rw [Bool.eq_iff_iff]
  simp only [leq, List.all_eq_true, List.mem_range, beq_iff_eq]
  constructor
  · intro h
    apply List.ext_getElem (by omega)
    intro i hi hj
    have := h i (by omega)
    simpa [List.getD, hi, hj] using this
  · intro h i _; rw [h]

theorem run_eq_ints {P : Program} {t : TypeId} {k kk : IntKind} {n : Nat} {l1 l2 : List Int} (h : intArr P t = some (k, n)) (h1 : l1.length = n) (h2 : l2.length = n) :
    P.eqGuardType P.depth t = false ∧ ∀ w : World, (Op.equalIn 10000 t (.agg (l1.map (Value.int kk)).toArray) (.agg (l2.map (Value.int kk)).toArray)).run P w = .ok (leq l1 l2) w := by
  unfold intArr at h
  split at h
  · rename_i n' e hu
    split at h
    · rename_i k' he
      split at h
      · rename_i hs
        split at h
        · rename_i hg
          refine ⟨hg, fun w => ?_⟩
          simp only [Option.some.injEq, Prod.mk.injEq] at h
          obtain ⟨rfl, rfl⟩ := h
          unfold sizeB at hs
          cases hi : P.info? e with
          | none => rw [hi] at hs; cases hs
          | some i =>
            rw [hi] at hs
            simp only [Option.map_some, Option.some.injEq] at hs
            have hc : P.cellsOf e = 1 := by simp [Program.cellsOf, hi, hs]
            rw [run_equalIn_array w 9999 _ _ hu hi, hc, run_eqItems_ints he kk l1 l2 9998 w _ (fun i hi => by simp at hi; omega), all_eq l1 l2 n' h1 h2]
        · cases h
      · cases h
    · cases h
  · cases h

theorem srep_ints {ρ : Rho} {k : IntKind} {n : Nat} {l : List Int} {v : Value} (h : SRep ρ (.agg [.ints k n l]) v) : l.length = n ∧ v = .agg (l.map (Value.int k)).toArray := by
  obtain ⟨ho, cs, rfl, hf⟩ := h
  refine ⟨ho.1, ?_⟩
  congr 2
  apply List.ext_getElem?
  intro j
  have hlen := hf.1
  simp only [flat, Seg.flat, List.append_nil, List.length_map] at hlen
  by_cases hj : j < l.length
  · have hc : j < cs.length := by omega
    have := hf.2 j (.int k l[j]) cs[j] (by simp [flat, Seg.flat, hj]) (List.getElem?_eq_getElem hc)
    simp only [CRep] at this
    simp [hj, hc, this]
  · simp [hj, List.getElem?_eq_none (show cs.length ≤ j by omega)]

theorem srep_bools {ρ : Rho} {n : Nat} {l : List Bool} {v : Value} (h : SRep ρ (.agg [.bools n l]) v) : l.length = n ∧ v = .agg (l.map Value.bool).toArray := by
  obtain ⟨ho, cs, rfl, hf⟩ := h
  refine ⟨ho.1, ?_⟩
  congr 2
  apply List.ext_getElem?
  intro j
  have hlen := hf.1
  simp only [flat, Seg.flat, List.append_nil, List.length_map] at hlen
  by_cases hj : j < l.length
  · have hc : j < cs.length := by omega
    have := hf.2 j (.bool l[j]) cs[j] (by simp [flat, Seg.flat, hj]) (List.getElem?_eq_getElem hc)
    simp only [CRep] at this
    simp [hj, hc, this]
  · simp [hj, List.getElem?_eq_none (show cs.length ≤ j by omega)]

theorem boolx_sound {P : Program} {ρ : Rho} {op : BinOp} {t : TypeId} {X Y : Operand} {a b : Bool} {K : AV → Prop} (h : boolx P op t a b K) :
    ∃ v av, (∀ w : World, (do eqGuard op t X Y (.bool a) (.bool b); binOp op t (.bool a) (.bool b)).run P w = .ok v w) ∧ SRep ρ av v ∧ K av := by
  have guard : ∀ w : World, (eqGuard op t X Y (.bool a) (.bool b)).run P w = .ok () w := by intro w; cases op <;> simp [eqGuard]
  simp only [Sem.run_bind, guard, Result.andThen_ok]
  unfold boolx at h
  split at h <;> try exact h.elim
  rename_i hu
  have he : ∀ w : World, (Op.equalIn 10000 t (.bool a) (.bool b)).run P w = .ok (a == b) w := fun w => run_equalIn_bool' w 9999 t a b hu
  split at h
  · exact okB (by intro w; simp only [binOp, Op.equal, Op.maxDepth, Sem.run_bind, he, Result.andThen_ok, Sem.run_pure, beq2]) h
  · exact okB (by intro w; simp only [binOp, Op.equal, Op.maxDepth, Sem.run_bind, he, Result.andThen_ok, Sem.run_pure, beq2, bnot]) h
  · exact h.elim

theorem nilcmp_sound {P : Program} {ρ : Rho} {op : BinOp} {t : TypeId} {X Y : Operand} {a b : Option Addr} {same : Bool} {K : AV → Prop} (h : nilcmp P op t same K) (hs : (a = none ∨ b = none) ∧ same = (a.isNone && b.isNone)) :
    ∃ v av, (∀ w : World, (do eqGuard op t X Y (.pointer a) (.pointer b); binOp op t (.pointer a) (.pointer b)).run P w = .ok v w) ∧ SRep ρ av v ∧ K av := by
  have guard : ∀ w : World, (eqGuard op t X Y (.pointer a) (.pointer b)).run P w = .ok () w := by intro w; cases op <;> simp [eqGuard]
  unfold nilcmp at h
  split at h <;> try exact h.elim
  rename_i e hu
  have hd : ∀ (d : Nat) (w : World), (Op.equalIn (d + 1) t (.pointer a) (.pointer b)).run P w = .ok same w := by
    intro d w
    rw [hs.2]
    rcases hs.1 with rfl | rfl
    · cases b <;> simp [Op.equalIn, run_underlying hu]
    · cases a <;> simp [Op.equalIn, run_underlying hu]
  have he : ∀ w : World, (Op.equalIn 10000 t (.pointer a) (.pointer b)).run P w = .ok same w := fun w => hd 9999 w
  split at h
  · exact ⟨.bool same, .one (.lit same), by intro w; simp only [Sem.run_bind, guard, Result.andThen_ok, binOp, Op.equal, Op.maxDepth, he, Sem.run_pure], rfl, h⟩
  · exact ⟨.bool !same, .one (.lit !same), by intro w; simp only [Sem.run_bind, guard, Result.andThen_ok, binOp, Op.equal, Op.maxDepth, he, Sem.run_pure], rfl, h⟩
  · exact h.elim

theorem binx_sound {P : Program} {ρ : Rho} {op : BinOp} {t : TypeId} {X Y : Operand} {x y : AV} {v1 v2 : Value} {K : AV → Prop} (h : binx P op t x y K) (hx : SRep ρ x v1) (hy : SRep ρ y v2) :
    ∃ v av, (∀ w : World, (do eqGuard op t X Y v1 v2; binOp op t v1 v2).run P w = .ok v w) ∧ SRep ρ av v ∧ K av := by
  unfold binx at h
  split at h
  · cases (show v1 = _ from hx); cases (show v2 = _ from hy.1); exact nilcmp_sound h ⟨Or.inr rfl, rfl⟩
  · cases (show v1 = _ from hx.1); cases (show v2 = _ from hy); exact nilcmp_sound h ⟨Or.inl rfl, rfl⟩
  · cases (show v1 = _ from hx.1); cases (show v2 = _ from hy.1); exact nilcmp_sound h ⟨Or.inl rfl, rfl⟩
  · rename_i k a k' b
    cases (show v1 = _ from hx)
    cases (show v2 = _ from hy)
    have guard : ∀ w : World, (eqGuard op t X Y (.int k a) (.int k' b)).run P w = .ok () w := by intro w; cases op <;> simp [eqGuard]
    simp only [Sem.run_bind, guard, Result.andThen_ok]
    split at h
    · refine okI ?_ h.2
      have := h.1.le
      simp [binOp, Op.shift, shl, show ¬ b < 0 by omega]
    · refine okI ?_ h.2
      have := h.1.le
      simp [binOp, Op.shift, shr, show ¬ b < 0 by omega]
    · rename_i h1 h2
      split at h
      · rename_i hk; subst hk
        exact intBin_sound h (fun e => h1 e) (fun e => h2 e)
      · exact h.elim
  · rename_i a b
    cases (show v1 = _ from hx)
    cases (show v2 = _ from hy)
    have guard : ∀ w : World, (eqGuard op t X Y (.string a) (.string b)).run P w = .ok () w := by intro w; cases op <;> simp [eqGuard]
    simp only [Sem.run_bind, guard, Result.andThen_ok]
    split at h
    · exact okB (by simp [binOp, Op.stringOp, seq2]) h
    · exact okB (by simp [binOp, Op.stringOp, seq2, bnot]) h
    · exact h.elim
  · cases (show v1 = _ from hx); cases (show v2 = _ from hy); exact boolx_sound h
  · cases (show v1 = _ from hx); cases (show v2 = _ from hy); exact boolx_sound h
  · cases (show v1 = _ from hx); cases (show v2 = _ from hy); exact boolx_sound h
  · cases (show v1 = _ from hx); cases (show v2 = _ from hy); exact boolx_sound h
  · rename_i k n a k' n' b
    obtain ⟨hl1, rfl⟩ := srep_ints hx
    obtain ⟨hl2, rfl⟩ := srep_ints hy
    split at h
    · rename_i kk m hi
      split at h <;> try exact h.elim
      split at h <;> try exact h.elim
      split at h <;> try exact h.elim
      split at h <;> try exact h.elim
      rename_i e1 e2 e3 e4
      subst e1 e2 e3
      obtain ⟨hg, hr⟩ := run_eq_ints (kk := kk) (l1 := a) (l2 := b) hi hl1 (by omega)
      have guard : ∀ w : World, (eqGuard op t X Y (.agg (a.map (Value.int kk)).toArray) (.agg (b.map (Value.int kk)).toArray)).run P w = .ok () w := fun w => run_eqGuard_agg w op t X Y _ _ hg
      simp only [Sem.run_bind, guard, Result.andThen_ok]
      split at h
      · exact okB (by intro w; rw [run_eql_struct, hr]; simp) h
      · exact okB (by intro w; rw [run_neq_struct, hr]; simp [bnot]) h
      · exact h.elim
    · exact h.elim
  · exact h.elim
end Go.Sx
