/- Operations that make or change memory. -/
import Derived.Test.YtccjkjpdgpeogaaSx8
namespace Go.Sx
open Go
set_option linter.unusedSimpArgs false
set_option linter.unusedVariables false

/-- blocks that are not the walk's own are as they were -/
structure Keeps (ex : Nat → Prop) (w0 w : World) : Prop where
  os : w.os = w0.os
  tape : w.tape = w0.tape
  output : w.output = w0.output
  size : w0.heap.size ≤ w.heap.size
  block : ∀ k, k < w0.heap.size → ¬ ex k → w.heap[k]? = w0.heap[k]?

theorem Keeps.refl (ex : Nat → Prop) (w : World) : Keeps ex w w := ⟨rfl, rfl, rfl, Nat.le_refl _, fun _ _ _ => rfl⟩

theorem Keeps.trans {ex ex' : Nat → Prop} {a b c : World} (h : Keeps ex a b) (k : Keeps ex' b c) (he : ∀ i, i < a.heap.size → ex' i → ex i) : Keeps ex a c :=
  ⟨k.os.trans h.os, k.tape.trans h.tape, k.output.trans h.output, Nat.le_trans h.size k.size, fun i hi hx => (k.block i (Nat.lt_of_lt_of_le hi h.size) (fun q => hx (he i hi q))).trans (h.block i hi hx)⟩

theorem Keeps.below {w0 w : World} (h : Keeps (fun _ => False) w0 w) : Go.RowKit.Below w0.heap.size w0 w := ⟨h.os, h.tape, h.output, h.size, fun k hk => h.block k hk (fun q => q)⟩

structure Env where
  w0 : World
  ρ0 : Rho
  ex : Nat → Prop
  glob : Glob ρ0

structure Rep (E : Env) (ρ : Rho) (fr : Fr) (σ : Mem) (a : Act) (w : World) : Prop where
  fr : FrRep ρ fr a.tmps
  df : a.defers = []
  mem : MemRep ρ σ w
  sep : Sep ρ σ
  fix : ∀ n, 200000 ≤ n → ρ n = E.ρ0 n
  own : ∀ n b k, Mem.find σ n = some b → Out ρ n b k → E.w0.heap.size ≤ k ∨ E.ex k
  keep : Keeps E.ex E.w0 w

theorem Rep.glob {E : Env} {ρ : Rho} {fr : Fr} {σ : Mem} {a : Act} {w : World} (h : Rep E ρ fr σ a w) : Glob ρ := fun g => by
  rw [h.fix _ (by simp only [gname]; omega)]; exact E.glob g

/-! ### other addresses for names that nobody uses -/
section
variable {ρ ρ' : Rho}

theorem CRep.agree {a : AC} {v : Value} (hr : ∀ n, a.refs n = true → ρ' n = ρ n) (h : CRep ρ a v) : CRep ρ' a v := by
  cases a with
  | ptr n b i => have e := hr n (by simp [AC.refs]); simp only [CRep, at_, e] at h ⊢; exact h
  | sl n b i l c => have e := hr n (by simp [AC.refs]); simp only [CRep, at_, e] at h ⊢; exact h
  | clo f n b i => have e := hr n (by simp [AC.refs]); simp only [CRep, at_, e] at h ⊢; exact h
  | vec n => have e := hr n (by simp [AC.refs]); simp only [CRep, at_, e] at h ⊢; exact h
  | vsl n z i l => have e := hr n (by simp [AC.refs]); simp only [CRep, at_, e] at h ⊢; exact h
  | vptr n z i b j => have e := hr n (by simp [AC.refs]); simp only [CRep, at_, e] at h ⊢; exact h
  | el n c i => have e := hr n (by simp [AC.refs]); simp only [CRep, at_, e] at h ⊢; exact h
  | esl n c i o l => have e := hr n (by simp [AC.refs]); simp only [CRep, at_, e] at h ⊢; exact h
  | eptr n c i o => have e := hr n (by simp [AC.refs]); simp only [CRep, at_, e] at h ⊢; exact h
  | int k n => exact h
  | lit b => exact h
  | bool b => exact h
  | str s => exact h
  | con v => exact h
  | any => exact h

theorem FRep.agree {l : List AC} {c : List Value} (hr : ∀ n, l.any (AC.refs n) = true → ρ' n = ρ n) (h : FRep ρ l c) : FRep ρ' l c :=
  ⟨h.1, fun j a v ha hv => (h.2 j a v ha hv).agree fun n hn => hr n (List.any_eq_true.2 ⟨a, List.mem_of_getElem? ha, hn⟩)⟩

theorem flat_refs {d : Nat} : ∀ {s : List Seg}, segsRefs d s = false → (flat s).any (AC.refs d) = false
  | [], _ => rfl
  | x :: r, h => by
    simp only [segsRefs, List.any_cons, Bool.or_eq_false_iff] at h
    have h2 := flat_refs (s := r) h.2
    simp only [flat, List.any_append, h2, Bool.or_false]
    cases x <;> simp_all [Seg.flat, Seg.refs, AC.refs]

theorem flat_refs' {d : Nat} {s : List Seg} (h : (flat s).any (AC.refs d) = true) : segsRefs d s = true := by
  cases hq : segsRefs d s with
  | true => rfl
  | false => rw [flat_refs hq] at h; cases h

theorem SRep.agree {x : AV} {v : Value} (hr : ∀ n, x.refs n = true → ρ' n = ρ n) (h : SRep ρ x v) : SRep ρ' x v := by
  cases x with
  | one a => exact CRep.agree hr h
  | agg s =>
    obtain ⟨ho, cs, e, hf⟩ := h
    exact ⟨ho, cs, e, hf.agree fun n hn => hr n (flat_refs' hn)⟩
  | tup vs =>
    obtain ⟨us, e, hl, hall⟩ := h
    refine ⟨us, e, hl, fun j t u ht hu => ?_⟩
    have := hall j t u ht hu
    have hm : ∀ n, t.refs n = true → ρ' n = ρ n := fun n hn => hr n (List.any_eq_true.2 ⟨t, List.mem_of_getElem? ht, hn⟩)
    cases t with
    | c a => exact CRep.agree hm this
    | g s => obtain ⟨ho, cs, e, hf⟩ := this; exact ⟨ho, cs, e, hf.agree fun n hn => hm n (flat_refs' hn)⟩
  | undef => trivial

theorem Fr.get_mem : ∀ {fr : Fr} {t : Nat}, t < fr.length → Fr.get fr t ∈ fr
  | [], _, h => by simp at h
  | x :: r, 0, _ => by simp [Fr.get]
  | x :: r, t + 1, h => by simp only [Fr.get]; exact List.mem_cons_of_mem _ (Fr.get_mem (by simpa using h))

theorem FrRep.agree {fr : Fr} {tmps : Array Value} (hr : ∀ n, frRefs n fr = true → ρ' n = ρ n) (h : FrRep ρ fr tmps) : FrRep ρ' fr tmps := by
  refine ⟨h.1, fun t v hv => (h.2 t v hv).agree fun n hn => hr n ?_⟩
  have ht : t < fr.length := by rw [h.1]; exact (Array.getElem?_eq_some_iff.1 hv).1
  exact List.any_eq_true.2 ⟨_, Fr.get_mem ht, hn⟩

theorem BlkRep.agree {w : World} {n : Nat} {b : Blk} (hn : ρ' n = ρ n) (hr : ∀ m, segsRefs m b.segs = true → ρ' m = ρ m) (h : BlkRep ρ w n b) : BlkRep ρ' w n b := by
  cases b with
  | own T s =>
    obtain ⟨ho, hz, c, fz, hh, hf, hfz⟩ := h
    exact ⟨ho, by rw [hn]; exact hz, c, fz, by rw [hn]; exact hh, hf.agree fun m hm => hr m (flat_refs' hm), hfz⟩
  | view s =>
    refine ⟨h.1, fun j a ha => ?_⟩
    obtain ⟨v, hv, hc⟩ := h.2 j a ha
    refine ⟨v, by simp only [at_, hn]; exact hv, hc.agree fun m hm => hr m (flat_refs' (List.any_eq_true.2 ⟨a, List.mem_of_getElem? ha, hm⟩))⟩
  | vec cs => simp only [BlkRep, hn] at h ⊢; exact h
  | rview cs => simp only [BlkRep, hn] at h ⊢; exact h

theorem Foot.agree {n k : Nat} {b : Blk} (hn : ρ' n = ρ n) : Foot ρ' n b k ↔ Foot ρ n b k := by
  cases b <;> simp only [Foot, hn]
theorem Out.agree {n k : Nat} {b : Blk} (hn : ρ' n = ρ n) : Out ρ' n b k ↔ Out ρ n b k := by
  cases b <;> simp only [Out, hn]
theorem Inn.agree {n k : Nat} {b : Blk} (hn : ρ' n = ρ n) : Inn ρ' n b k ↔ Inn ρ n b k := by
  cases b <;> simp only [Inn, hn]
end

def upd (ρ : Rho) (d : Nat) (p : Loc) : Rho := fun n => if n = d then p else ρ n
theorem upd_eq (ρ : Rho) (d : Nat) (p : Loc) : upd ρ d p d = p := by simp [upd]
theorem upd_ne {ρ : Rho} {d n : Nat} {p : Loc} (h : n ≠ d) : upd ρ d p n = ρ n := by simp [upd, h]

section
variable {ρ : Rho} {d : Nat} {p : Loc}

theorem ne_of_refs {f : Nat → Bool} (hr : f d = false) : ∀ n, f n = true → upd ρ d p n = ρ n := fun n hn => upd_ne fun e => by subst e; rw [hr] at hn; cases hn

theorem SRep.upd {x : AV} {v : Value} (hr : x.refs d = false) (h : SRep ρ x v) : SRep (upd ρ d p) x v := h.agree (ne_of_refs (f := fun n => x.refs n) hr)
theorem FRep.upd {l : List AC} {c : List Value} (hr : l.any (AC.refs d) = false) (h : FRep ρ l c) : FRep (upd ρ d p) l c := h.agree (ne_of_refs (f := fun n => l.any (AC.refs n)) hr)
theorem FrRep.upd {fr : Fr} {tmps : Array Value} (hr : frRefs d fr = false) (h : FrRep ρ fr tmps) : FrRep (upd ρ d p) fr tmps := h.agree (ne_of_refs (f := fun n => frRefs n fr) hr)
theorem BlkRep.upd {w : World} {n : Nat} {b : Blk} (hn : n ≠ d) (hr : segsRefs d b.segs = false) (h : BlkRep ρ w n b) : BlkRep (upd ρ d p) w n b := h.agree (upd_ne hn) (ne_of_refs (f := fun m => segsRefs m b.segs) hr)
end

theorem find_mem : ∀ {σ : Mem} {n : Nat} {b : Blk}, Mem.find σ n = some b → (n, b) ∈ σ
  | [], _, _, h => by simp [Mem.find] at h
  | (m, x) :: r, n, b, h => by
    simp only [Mem.find] at h
    split at h
    · rename_i e; subst e; cases h; simp
    · exact List.mem_cons_of_mem _ (find_mem h)

theorem memRefs_out {d : Nat} {σ : Mem} (h : memRefs d σ = false) {n : Nat} {b : Blk} (hf : Mem.find σ n = some b) : n ≠ d ∧ segsRefs d b.segs = false := by
  simp only [memRefs, List.any_eq_false] at h
  have := h _ (find_mem hf)
  simpa using this

theorem block_lt {w : World} {k : Nat} {o : Obj} (h : w.heap[k]? = some o) : k < w.heap.size := (Array.getElem?_eq_some_iff.1 h).1

theorem cell_lt {w : World} {a : Addr} {v : Value} (h : w.cell? a = some v) : a.block < w.heap.size := by
  unfold World.cell? at h
  split at h
  · rename_i hb; exact block_lt hb
  · cases h

theorem inner_lt {w : World} {L : Loc} {cs : List Col} {k : Nat} (h : VRep w L cs) (hk : Inner L cs k) : k < w.heap.size := by
  obtain ⟨c, kk, ll, i, l, a, h1, h2, h3, h4, rfl⟩ := hk
  obtain ⟨_, _, _, h5⟩ := h.inner c kk ll h1 i l h2
  obtain ⟨x, hx⟩ : ∃ x, l[0]? = some x := by cases l with | nil => exact absurd rfl h3 | cons x _ => exact ⟨x, rfl⟩
  have := cell_lt (h5 0 x hx a h4)
  simpa [Addr.add] using this

theorem footL_lt {w : World} {L : Loc} {cs : List Col} {k : Nat} (h : VRep w L cs) (hk : FootL L cs k) : k < w.heap.size := by
  rcases hk with ⟨h1, rfl⟩ | hk
  · exact cell_lt (h.cells 0 (by omega) 0 h.wid)
  · exact inner_lt h hk

theorem in_range {ρ : Rho} {w : World} {n k : Nat} {b : Blk} (h : BlkRep ρ w n b) (hk : Foot ρ n b k) : k < w.heap.size := by
  cases b with
  | own T s => obtain ⟨_, _, c, fz, hh, _⟩ := h; cases hk; exact block_lt hh
  | view s =>
    obtain ⟨hne, rfl⟩ := hk
    obtain ⟨v, hv, _⟩ := h.2 0 ((flat s)[0]'(by cases hq : flat s with | nil => exact absurd hq hne | cons => simp)) (by simp)
    exact cell_lt hv
  | vec cs =>
    rcases hk with ⟨h1, rfl⟩ | hk
    · obtain ⟨_, c, T, fz, hh, _⟩ := h.2 h1; exact block_lt hh
    · exact inner_lt h.1 hk
  | rview cs => exact footL_lt h hk

/-- what is known of a block stays where the blocks stay on which it rests -/
theorem BlkRep.keeps {ρ : Rho} {w w' : World} {n : Nat} {b : Blk} (h : BlkRep ρ w n b) (hk : ∀ k, Foot ρ n b k → w'.heap[k]? = w.heap[k]?) : BlkRep ρ w' n b := by
  cases b with
  | own T s =>
    obtain ⟨ho, hz, c, fz, hh, hf, hfz⟩ := h
    exact ⟨ho, hz, c, fz, by rw [hk _ rfl]; exact hh, hf, hfz⟩
  | view s =>
    refine ⟨h.1, fun j a ha => ?_⟩
    obtain ⟨v, hv, hc⟩ := h.2 j a ha
    refine ⟨v, ?_, hc⟩
    rw [← hv]
    exact cell_block (hk _ ⟨fun e => by rw [e] at ha; simp at ha, rfl⟩)
  | vec cs =>
    refine ⟨h.1.keeps fun k hq => hk k ?_, fun h0 => ?_⟩
    · rcases hq with ⟨h1, h2⟩ | hq
      · exact Or.inl ⟨by have := h.1.cap; omega, h2⟩
      · exact Or.inr hq
    · obtain ⟨h1, c, T, fz, h2, h3⟩ := h.2 h0
      exact ⟨h1, c, T, fz, by rw [hk _ (Or.inl ⟨h0, rfl⟩)]; exact h2, h3⟩
  | rview cs => exact VRep.keeps h hk

theorem MemRep.keeps {ρ : Rho} {σ : Mem} {w w' : World} (h : MemRep ρ σ w) (hk : ∀ n b k, Mem.find σ n = some b → Foot ρ n b k → w'.heap[k]? = w.heap[k]?) : MemRep ρ σ w' :=
  fun n b hb => (h n b hb).keeps fun k hf => hk n b k hb hf

theorem Out.foot {ρ : Rho} {n k : Nat} {b : Blk} (h : Out ρ n b k) : Foot ρ n b k := by
  cases b <;> simp only [Out] at h <;> first | exact h.elim | exact h | exact Or.inl h

/-! ### a new name -/
theorem add_sound {E : Env} {ρ : Rho} {fr : Fr} {σ : Mem} {a : Act} {w w' : World} {d : Nat} {L : Loc} {b : Blk} (h : Rep E ρ fr σ a w) (hd : freshB d fr σ = true) (hkeep : Keeps E.ex E.w0 w')
    (hsame : ∀ m c k, Mem.find σ m = some c → Foot ρ m c k → w'.heap[k]? = w.heap[k]?) (hb : BlkRep (upd ρ d L) w' d b)
    (ho : ∀ k, Out (upd ρ d L) d b k → (E.w0.heap.size ≤ k ∨ E.ex k) ∧ (∀ m c, Mem.find σ m = some c → ¬ Foot ρ m c k) ∧ ¬ Inn (upd ρ d L) d b k) (hf : ∀ k, Foot (upd ρ d L) d b k → Clean ρ σ k) :
    Rep E (upd ρ d L) fr ((d, b) :: σ) a w' := by
  simp only [freshB, Bool.and_eq_true, Bool.not_eq_true', decide_eq_true_eq] at hd
  obtain ⟨⟨hd1, hd2⟩, hd3⟩ := hd
  have un : ∀ {n b'}, Mem.find ((d, b) :: σ) n = some b' → (n = d ∧ b' = b) ∨ (n ≠ d ∧ Mem.find σ n = some b' ∧ segsRefs d b'.segs = false) := by
    intro n b' hn
    simp only [Mem.find] at hn
    split at hn
    · rename_i e; cases hn; exact Or.inl ⟨e.symm, rfl⟩
    · obtain ⟨h1, h2⟩ := memRefs_out hd3 hn; exact Or.inr ⟨h1, hn, h2⟩
  refine ⟨h.fr.upd hd2, h.df, ?_, ⟨?_, ?_⟩, fun n hn => by rw [← h.fix n hn]; exact upd_ne (by omega), ?_, hkeep⟩
  · intro n b' hn
    rcases un hn with ⟨rfl, rfl⟩ | ⟨h1, h2, h3⟩
    · exact hb
    · exact BlkRep.upd h1 h3 ((h.mem n b' h2).keeps fun k hk => hsame n b' k h2 hk)
  · intro n m b1 c1 k hn hm hnm hO hF
    rcases un hn with ⟨rfl, rfl⟩ | ⟨h1, h2, h3⟩
    · rcases un hm with ⟨rfl, rfl⟩ | ⟨g1, g2, g3⟩
      · exact hnm rfl
      · exact (ho k hO).2.1 m c1 g2 ((Foot.agree (upd_ne g1)).1 hF)
    · rcases un hm with ⟨rfl, rfl⟩ | ⟨g1, g2, g3⟩
      · exact hf k hF n b1 h2 ((Out.agree (upd_ne h1)).1 hO)
      · exact h.sep.1 n m b1 c1 k h2 g2 hnm ((Out.agree (upd_ne h1)).1 hO) ((Foot.agree (upd_ne g1)).1 hF)
  · intro n b1 k hn hO
    rcases un hn with ⟨rfl, rfl⟩ | ⟨h1, h2, h3⟩
    · exact (ho k hO).2.2
    · exact fun hI => h.sep.2 n b1 k h2 ((Out.agree (upd_ne h1)).1 hO) ((Inn.agree (upd_ne h1)).1 hI)
  · intro n b1 k hn hO
    rcases un hn with ⟨rfl, rfl⟩ | ⟨h1, h2, h3⟩
    · exact (ho k hO).1
    · exact h.own n b1 k h2 ((Out.agree (upd_ne h1)).1 hO)

/-! ### a new block -/
def World.with (w : World) (o : Obj) : World := { w with heap := w.heap.push o }

theorem with_old {w : World} {o : Obj} {k : Nat} (h : k < w.heap.size) : (World.with w o).heap[k]? = w.heap[k]? := by
  show (w.heap.push o)[k]? = _
  rw [Array.getElem?_push, if_neg (by omega)]

theorem with_new {w : World} {o : Obj} : (World.with w o).heap[w.heap.size]? = some o := by
  show (w.heap.push o)[w.heap.size]? = _
  simp

theorem with_size {w : World} {o : Obj} : (World.with w o).heap.size = w.heap.size + 1 := by
  show (w.heap.push o).size = _
  simp

def newLoc (b : Nat) : Loc := ⟨b, 0, none, 0, 0, fun _ _ => ⟨none, 0, 0⟩⟩

theorem new_sound {E : Env} {ρ : Rho} {fr : Fr} {σ : Mem} {a : Act} {w : World} (h : Rep E ρ fr σ a w) {d : Nat} {T : TypeId} {s : List Seg} {c : List Value} (hd : freshB d fr σ = true) (ho : segsOk s) (hs : segsRefs d s = false) (hf : FRep ρ (flat s) c) :
    Rep E (upd ρ d (newLoc w.heap.size)) fr ((d, .own T s) :: σ) a (World.with w (.cells c.toArray T)) := by
  have hlt : ∀ {m c k}, Mem.find σ m = some c → Foot ρ m c k → k < w.heap.size := fun hm hk => in_range (h.mem _ _ hm) hk
  refine add_sound h hd ⟨h.keep.os, h.keep.tape, h.keep.output, by rw [with_size]; have := h.keep.size; omega, fun k hk hx => by rw [with_old (by have := h.keep.size; omega)]; exact h.keep.block k hk hx⟩ (fun m c k hm hk => with_old (hlt hm hk))
    ⟨ho, by rw [upd_eq]; rfl, c, (0, 0), by rw [upd_eq]; exact with_new, hf.upd (flat_refs hs), fun j _ => by simp⟩ (fun k hk => ?_) (fun k hk m c hm hO => ?_)
  · have e : k = w.heap.size := by have : k = (upd ρ d (newLoc w.heap.size) d).1 := hk; rw [upd_eq] at this; exact this
    subst e
    exact ⟨Or.inl h.keep.size, fun m c hm hk => by have := hlt hm hk; omega, fun q => q⟩
  · have e : k = w.heap.size := by have : k = (upd ρ d (newLoc w.heap.size) d).1 := hk; rw [upd_eq] at this; exact this
    subst e
    have := hlt hm hO.foot
    omega

/-! ### a block given up -/
theorem find_erase : ∀ {σ : Mem} {n m : Nat}, Mem.find (σ.erase n) m = if m = n then none else Mem.find σ m
  | [], n, m => by simp [Mem.erase, Mem.find]
  | (q, x) :: r, n, m => by
    have ih := find_erase (σ := r) (n := n) (m := m)
    unfold Mem.erase at ih ⊢
    by_cases hq : q = n
    · subst hq
      rw [List.filter_cons_of_neg (by simp)]
      rw [ih]
      simp only [Mem.find]
      by_cases hm : m = q
      · subst hm; simp
      · rw [if_neg hm, if_neg hm, if_neg (Ne.symm hm)]
    · rw [List.filter_cons_of_pos (by simp [hq])]
      simp only [Mem.find]
      rw [ih]
      by_cases hm : q = m
      · subst hm; simp [hq]
      · rw [if_neg hm, if_neg hm]

theorem Rep.less {E : Env} {ρ : Rho} {fr fr' : Fr} {σ σ' : Mem} {a : Act} {w : World} (h : Rep E ρ fr σ a w) (hf : FrRep ρ fr' a.tmps) (hσ : ∀ n b, Mem.find σ' n = some b → Mem.find σ n = some b) : Rep E ρ fr' σ' a w :=
  ⟨hf, h.df, fun n b hb => h.mem n b (hσ n b hb), ⟨fun n m b c k hn hm => h.sep.1 n m b c k (hσ _ _ hn) (hσ _ _ hm), fun n b k hn => h.sep.2 n b k (hσ _ _ hn)⟩, h.fix, fun n b k hn => h.own n b k (hσ _ _ hn), h.keep⟩

theorem Rep.erase {E : Env} {ρ : Rho} {fr : Fr} {σ : Mem} {a : Act} {w : World} (h : Rep E ρ fr σ a w) (n : Nat) : Rep E ρ fr (σ.erase n) a w :=
  h.less h.fr fun m b hb => by rw [find_erase] at hb; split at hb <;> first | exact hb | cases hb
end Go.Sx
