/- Operations that make or change memory. -/
import Derived.Test.YtccjkjpdgpeogaaSx8
namespace Go.Sx
open Go
set_option linter.unusedSimpArgs false
set_option linter.unusedVariables false

/-- own blocks lie apart from all others that hold something -/
def Sep (ρ : Rho) (σ : Mem) : Prop := ∀ n m T s b, Mem.find σ n = some (.own T s) → Mem.find σ m = some b → n ≠ m → ((∃ T' s', b = .own T' s') ∨ flat b.segs ≠ []) → (ρ n).1 ≠ (ρ m).1

/-- blocks that are not the walk's own are as they were -/
structure Keeps (ex : Nat → Prop) (w0 w : World) : Prop where
  os : w.os = w0.os
  tape : w.tape = w0.tape
  output : w.output = w0.output
  size : w0.heap.size ≤ w.heap.size
  block : ∀ k, k < w0.heap.size → ¬ ex k → w.heap[k]? = w0.heap[k]?

theorem Keeps.refl (ex : Nat → Prop) (w : World) : Keeps ex w w := ⟨rfl, rfl, rfl, Nat.le_refl _, fun _ _ _ => rfl⟩

theorem Keeps.trans {ex ex' : Nat → Prop} {a b c : World} (h : Keeps ex a b) (k : Keeps ex' b c) (he : ∀ i, i < a.heap.size → ex' i → ex i) : Keeps ex a c :=
  ⟨k.os.trans h.os, k.tape.trans h.tape, k.output.trans h.output, Nat.le_trans h.size k.size, fun i hi hx => (k.block i (Nat.lt_of_lt_of_le hi h.size) (fun q => hx (he i hi q))).trans (h.block i hi hx)⟩

theorem Keeps.below {w0 w : World} (h : Keeps (fun _ => False) w0 w) : Go.RowKit.Below w0.heap.size w0 w := ⟨h.os, h.tape, h.output, h.size, fun k hk => h.block k hk (fun q => q)⟩

structure Env where
  w0 : World
  ρ0 : Rho
  ex : Nat → Prop
  glob : Glob ρ0

structure Rep (E : Env) (ρ : Rho) (fr : Fr) (σ : Mem) (a : Act) (w : World) : Prop where
  fr : FrRep ρ fr a.tmps
  df : a.defers = []
  mem : MemRep ρ σ w
  sep : Sep ρ σ
  fix : ∀ n, 200000 ≤ n → ρ n = E.ρ0 n
  own : ∀ n T s, Mem.find σ n = some (.own T s) → E.w0.heap.size ≤ (ρ n).1 ∨ E.ex (ρ n).1
  keep : Keeps E.ex E.w0 w

theorem Rep.glob {E : Env} {ρ : Rho} {fr : Fr} {σ : Mem} {a : Act} {w : World} (h : Rep E ρ fr σ a w) : Glob ρ := fun g => (h.fix _ (by simp only [gname]; omega)).trans (E.glob g)

/-! ### another address for a name that nobody uses -/
def upd (ρ : Rho) (d : Nat) (p : Nat × Nat) : Rho := fun n => if n = d then p else ρ n

section
variable {ρ : Rho} {d : Nat} {p : Nat × Nat}

theorem at_upd {n i : Nat} (h : n ≠ d) : at_ (upd ρ d p) n i = at_ ρ n i := by simp [at_, upd, h]

theorem CRep.upd {a : AC} {v : Value} (hr : a.refs d = false) (h : CRep ρ a v) : CRep (upd ρ d p) a v := by
  cases a <;> simp only [CRep, AC.refs, beq_eq_false_iff_ne] at hr h ⊢ <;> first | exact h | (rw [at_upd hr]; exact h)

theorem FRep.upd {l : List AC} {c : List Value} (hr : l.any (AC.refs d) = false) (h : FRep ρ l c) : FRep (upd ρ d p) l c :=
  ⟨h.1, fun j a v ha hv => (h.2 j a v ha hv).upd (by
    rw [List.any_eq_false] at hr
    simpa using hr a (List.mem_of_getElem? ha))⟩

theorem flat_refs : ∀ {s : List Seg}, segsRefs d s = false → (flat s).any (AC.refs d) = false
  | [], _ => rfl
  | x :: r, h => by
    simp only [segsRefs, List.any_cons, Bool.or_eq_false_iff] at h
    have h2 := flat_refs (s := r) h.2
    simp only [flat, List.any_append, h2, Bool.or_false]
    cases x <;> simp_all [Seg.flat, Seg.refs, AC.refs]

theorem SRep.upd {x : AV} {v : Value} (hr : x.refs d = false) (h : SRep ρ x v) : SRep (upd ρ d p) x v := by
  cases x with
  | one a => exact CRep.upd hr h
  | agg s =>
    obtain ⟨ho, cs, e, hf⟩ := h
    exact ⟨ho, cs, e, hf.upd (flat_refs hr)⟩
  | tup vs =>
    obtain ⟨us, e, hl, hall⟩ := h
    refine ⟨us, e, hl, fun j t u ht hu => ?_⟩
    have := hall j t u ht hu
    simp only [AV.refs, List.any_eq_false] at hr
    have hr := hr t (List.mem_of_getElem? ht)
    simp only [Bool.not_eq_true] at hr
    cases t with
    | c a => exact CRep.upd hr this
    | g s => obtain ⟨ho, cs, e, hf⟩ := this; exact ⟨ho, cs, e, hf.upd (flat_refs hr)⟩
  | undef => trivial

theorem Fr.get_mem : ∀ {fr : Fr} {t : Nat}, t < fr.length → Fr.get fr t ∈ fr
  | [], _, h => by simp at h
  | x :: r, 0, _ => by simp [Fr.get]
  | x :: r, t + 1, h => by simp only [Fr.get]; exact List.mem_cons_of_mem _ (Fr.get_mem (by simpa using h))

theorem FrRep.upd {fr : Fr} {tmps : Array Value} (hr : frRefs d fr = false) (h : FrRep ρ fr tmps) : FrRep (upd ρ d p) fr tmps := by
  refine ⟨h.1, fun t v hv => (h.2 t v hv).upd ?_⟩
  have ht : t < fr.length := by rw [h.1]; exact (Array.getElem?_eq_some_iff.1 hv).1
  simp only [frRefs, List.any_eq_false] at hr
  simpa using hr _ (Fr.get_mem ht)

theorem BlkRep.upd {w : World} {n : Nat} {b : Blk} (hn : n ≠ d) (hr : segsRefs d b.segs = false) (h : BlkRep ρ w n b) : BlkRep (upd ρ d p) w n b := by
  cases b with
  | own T s =>
    obtain ⟨ho, hz, c, fz, hh, hf, hfz⟩ := h
    exact ⟨ho, by simp [Sx.upd, hn, hz], c, fz, by simpa [Sx.upd, hn] using hh, hf.upd (flat_refs hr), hfz⟩
  | view s =>
    refine ⟨h.1, fun j a ha => ?_⟩
    obtain ⟨v, hv, hc⟩ := h.2 j a ha
    refine ⟨v, by rw [at_upd hn]; exact hv, hc.upd ?_⟩
    have := flat_refs hr
    rw [List.any_eq_false] at this
    simpa using this a (List.mem_of_getElem? ha)
end

theorem find_mem : ∀ {σ : Mem} {n : Nat} {b : Blk}, Mem.find σ n = some b → (n, b) ∈ σ
  | [], _, _, h => by simp [Mem.find] at h
  | (m, x) :: r, n, b, h => by
    simp only [Mem.find] at h
    split at h
    · rename_i e; subst e; cases h; simp
    · exact List.mem_cons_of_mem _ (find_mem h)

theorem memRefs_out {d : Nat} {σ : Mem} (h : memRefs d σ = false) {n : Nat} {b : Blk} (hf : Mem.find σ n = some b) : n ≠ d ∧ segsRefs d b.segs = false := by
  simp only [memRefs, List.any_eq_false] at h
  have := h _ (find_mem hf)
  simpa using this

/-! ### a new block -/
def World.with (w : World) (o : Obj) : World := { w with heap := w.heap.push o }

theorem with_old {w : World} {o : Obj} {k : Nat} (h : k < w.heap.size) : (World.with w o).heap[k]? = w.heap[k]? := by
  show (w.heap.push o)[k]? = _
  rw [Array.getElem?_push, if_neg (by omega)]

theorem with_new {w : World} {o : Obj} : (World.with w o).heap[w.heap.size]? = some o := by
  show (w.heap.push o)[w.heap.size]? = _
  simp

theorem with_size {w : World} {o : Obj} : (World.with w o).heap.size = w.heap.size + 1 := by
  show (w.heap.push o).size = _
  simp

theorem block_lt {w : World} {k : Nat} {o : Obj} (h : w.heap[k]? = some o) : k < w.heap.size := (Array.getElem?_eq_some_iff.1 h).1

theorem cell_lt {w : World} {a : Addr} {v : Value} (h : w.cell? a = some v) : a.block < w.heap.size := by
  unfold World.cell? at h
  split at h
  · rename_i hb; exact block_lt hb
  · cases h

/-- what is known of memory stays where the blocks stay -/
theorem MemRep.keeps {ρ : Rho} {σ : Mem} {w w' : World} (h : MemRep ρ σ w) (hk : ∀ n b, Mem.find σ n = some b → ((∃ T s, b = .own T s) ∨ flat b.segs ≠ []) → (ρ n).1 < w.heap.size → w'.heap[(ρ n).1]? = w.heap[(ρ n).1]?) : MemRep ρ σ w' := by
  intro n b hb
  have hB := h n b hb
  cases b with
  | own T s =>
    obtain ⟨ho, hz, c, fz, hh, hf, hfz⟩ := hB
    exact ⟨ho, hz, c, fz, by rw [hk n _ hb (Or.inl ⟨T, s, rfl⟩) (block_lt hh)]; exact hh, hf, hfz⟩
  | view s =>
    refine ⟨hB.1, fun j a ha => ?_⟩
    obtain ⟨v, hv, hc⟩ := hB.2 j a ha
    have hne : flat (Blk.view s).segs ≠ [] := by
      intro e; simp only [Blk.segs] at e; rw [e] at ha; simp at ha
    refine ⟨v, ?_, hc⟩
    rw [← hv]
    exact cell_block (hk n _ hb (Or.inr hne) (cell_lt hv))

theorem new_sound {E : Env} {ρ : Rho} {fr : Fr} {σ : Mem} {a : Act} {w : World} (h : Rep E ρ fr σ a w) {d : Nat} {T : TypeId} {s : List Seg} {c : List Value} (hd : freshB d fr σ = true) (ho : segsOk s) (hs : segsRefs d s = false) (hf : FRep ρ (flat s) c) :
    Rep E (upd ρ d (w.heap.size, 0)) fr ((d, .own T s) :: σ) a (World.with w (.cells c.toArray T)) := by
  simp only [freshB, Bool.and_eq_true, Bool.not_eq_true', decide_eq_true_eq] at hd
  obtain ⟨⟨hd1, hd2⟩, hd3⟩ := hd
  have hsize : E.w0.heap.size ≤ w.heap.size := h.keep.size
  have old : ∀ n b, Mem.find σ n = some b → ((∃ T s, b = .own T s) ∨ flat b.segs ≠ []) → (ρ n).1 < w.heap.size := by
    intro n b hb hne
    have hB := h.mem n b hb
    cases b with
    | own T s => obtain ⟨_, _, c, fz, hh, _⟩ := hB; exact block_lt hh
    | view s =>
      rcases hne with ⟨T, s', e⟩ | hne
      · cases e
      · simp only [Blk.segs] at hne
        obtain ⟨v, hv, _⟩ := hB.2 0 ((flat s)[0]'(by cases hq : flat s with | nil => exact absurd hq hne | cons => simp)) (by simp)
        exact cell_lt hv
  refine ⟨h.fr.upd hd2, h.df, ?_, ?_, fun n hn => by rw [← h.fix n hn]; simp [upd, show n ≠ d by omega], ?_, ?_⟩
  · intro n b hb
    simp only [Mem.find] at hb
    split at hb
    · rename_i e; subst e
      simp only [Option.some.injEq] at hb
      subst hb
      refine ⟨ho, by simp [upd], c, (0, 0), by simp [upd, with_new], hf.upd (flat_refs hs), fun j _ => by simp⟩
    · obtain ⟨hne, hrf⟩ := memRefs_out hd3 hb
      exact BlkRep.upd hne hrf ((MemRep.keeps h.mem fun n b hb hq hl => with_old hl) n b hb)
  · intro n m T' s' b hn hm hnm hq
    simp only [Mem.find] at hn hm
    split at hn
    · rename_i e; subst e
      split at hm
      · rename_i e; exact absurd e hnm
      · have hne := (memRefs_out hd3 hm).1
        have := old m b hm hq
        simp [upd, hne]; omega
    · have hne := (memRefs_out hd3 hn).1
      split at hm
      · rename_i e; subst e
        have := old n _ hn (Or.inl ⟨_, _, rfl⟩)
        simp [upd, hne]; omega
      · have hme := (memRefs_out hd3 hm).1
        simp only [upd, hne, hme, if_false]
        exact h.sep n m T' s' b hn hm hnm hq
  · intro n T' s' hn
    simp only [Mem.find] at hn
    split at hn
    · rename_i e; subst e; left; simpa [upd] using hsize
    · have hne := (memRefs_out hd3 hn).1
      simp only [upd, hne, if_false]
      exact h.own n T' s' hn
  · exact ⟨h.keep.os, h.keep.tape, h.keep.output, by rw [with_size]; omega, fun k hk hx => by rw [with_old (by omega)]; exact h.keep.block k hk hx⟩
end Go.Sx
