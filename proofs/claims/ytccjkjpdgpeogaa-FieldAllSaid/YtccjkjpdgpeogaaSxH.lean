/- Literals of lists. -/
import Derived.Test.YtccjkjpdgpeogaaSxG
namespace Go.Sx
open Go
set_option linter.unusedSimpArgs false
set_option linter.unusedVariables false
section
variable {P : Program} {E : Env} {ρ : Rho} {fr : Fr} {σ : Mem} {a : Act} {w : World}

theorem ints_elt {L : Loc} {k : IntKind} {l : List Int} (h : VRep w L [.ints k l]) : EltRep w ⟨L.a, L.len, L.cap⟩ k l := by
  have hl : l.length = L.len := h.ok (.ints k l) (by simp)
  have e1 : cwidth [Col.ints k l] = 1 := rfl
  refine ⟨hl.symm, h.cap, fun hne => ⟨_, h.adr (fun q => hne (by cases l <;> simp_all))⟩, fun j x hx A hA => ?_⟩
  have hlt := (List.getElem?_eq_some_iff.1 hx).1
  have had := h.adr (by omega)
  have hA' : L.a = some A := hA
  rw [had] at hA'
  cases hA'
  rw [Loc.at_add, Nat.zero_add]
  have := h.cells j (by omega) 0 (by rw [e1]; omega)
  rw [e1, Nat.mul_one, Nat.add_zero] at this
  rw [this]
  simp [rowVal, Col.kd, Kd.width, colVal, lget, List.getD, hx]

/-- a slice that is laid into a list -/
structure Shares (ρ : Rho) (σ : Mem) (w : World) (v : Value) (k : IntKind) (l : List Int) (e : Elt) (σ1 : Mem) : Prop where
  val : v = .slice e.a e.len e.cap
  rep : EltRep w e k l
  clean : l ≠ [] → ∀ x, e.a = some x → Clean ρ σ1 x.block ∧ x.block < w.heap.size
  less : ∀ m b, Mem.find σ1 m = some b → Mem.find σ m = some b

theorem Reads.shares {v : Value} {k : IntKind} {l : List Int} {L : Loc} {σ1 : Mem} (h : Reads ρ σ w v [.ints k l] L) (hc : L.len ≠ 0 → Clean ρ σ1 L.1) (hl : ∀ m b, Mem.find σ1 m = some b → Mem.find σ m = some b) : Shares ρ σ w v k l ⟨L.a, L.len, L.cap⟩ σ1 := by
  have hlen : l.length = L.len := h.rep.ok (.ints k l) (by simp)
  refine ⟨h.val, ints_elt h.rep, fun hne x hx => ?_, hl⟩
  have h0 : L.len ≠ 0 := fun q => hne (by cases l <;> simp_all)
  have had := h.rep.adr h0
  have hx' : L.a = some x := hx
  rw [had] at hx'
  cases hx'
  exact ⟨hc h0, footL_lt h.rep (Or.inl ⟨h0, rfl⟩)⟩

theorem clean_erase (hs : Sep ρ σ) {n k : Nat} {b : Blk} (hn : Mem.find σ n = some b) (hf : Foot ρ n b k) : Clean ρ (σ.erase n) k := by
  intro m c hm hO
  rw [find_erase] at hm
  split at hm
  · cases hm
  · rename_i hne
    exact hs.1 m n c b k hm hn hne hO hf

theorem clean_view (hs : Sep ρ σ) {n k : Nat} {b : Blk} (hn : Mem.find σ n = some b) (hf : Foot ρ n b k) (hv : ∀ k, ¬ Out ρ n b k) : Clean ρ σ k := by
  intro m c hm hO
  by_cases e : m = n
  · subst e; rw [hn] at hm; cases hm; exact hv k hO
  · exact hs.1 m n c b k hm hn e hO hf

theorem sharex_sound {k : IntKind} {x : AC} {v : Value} {K : List Int → Mem → Prop} (h : sharex σ k x K) (hm : MemRep ρ σ w) (hs : Sep ρ σ) (hx : CRep ρ x v) : ∃ l e σ1, Shares ρ σ w v k l e σ1 ∧ K l σ1 := by
  have one : ∀ {cs : List Col} {σ' : Mem}, oneInts k (fun l => K l σ') cs → ∃ l, cs = [.ints k l] ∧ K l σ' := by
    intro cs σ' h'
    unfold oneInts at h'
    split at h' <;> try exact h'.elim
    split at h' <;> try exact h'.elim
    rename_i hk
    subst hk
    exact ⟨_, rfl, h'⟩
  have id_less : ∀ m b, Mem.find σ m = some b → Mem.find σ m = some b := fun _ _ q => q
  cases x with
  | vec n =>
    simp only [sharex, rdx] at h
    have foot : ∀ {cs b}, Mem.find σ n = some b → Mem.cols σ n = some cs → (ρ n).len ≠ 0 → Foot ρ n b (ρ n).1 := fun {cs b} hb hcs q => by
      obtain ⟨_, b', hb', _, hf⟩ := cols_sound hm hcs
      rw [hb] at hb'; cases hb'
      exact hf _ (Or.inl ⟨q, rfl⟩)
    cases hn : Mem.find σ n with
    | none => simp [hn, Mem.cols] at h
    | some b =>
      cases b with
      | vec cs =>
        have hcs : Mem.cols σ n = some cs := by simp [Mem.cols, hn]
        simp only [hn, hcs] at h
        obtain ⟨l, rfl, hK⟩ := one h
        exact ⟨l, _, _, (reads_vec hm hs hcs hx).shares (fun q => clean_erase hs hn (foot hn hcs q)) (erase_less n), hK⟩
      | rview cs =>
        have hcs : Mem.cols σ n = some cs := by simp [Mem.cols, hn]
        simp only [hn, hcs] at h
        obtain ⟨l, rfl, hK⟩ := one h
        exact ⟨l, _, _, (reads_vec hm hs hcs hx).shares (fun q => clean_view hs hn (foot hn hcs q) (fun k q => q)) id_less, hK⟩
      | own T s => simp [hn, Mem.cols] at h
      | view s => simp [hn, Mem.cols] at h
  | vsl n z i len =>
    simp only [sharex, rdx] at h
    have foot : ∀ {cs b}, Mem.find σ n = some b → Mem.cols σ n = some cs → (ρ n).len ≠ 0 → Foot ρ n b (ρ n).1 := fun {cs b} hb hcs q => by
      obtain ⟨_, b', hb', _, hf⟩ := cols_sound hm hcs
      rw [hb] at hb'; cases hb'
      exact hf _ (Or.inl ⟨q, rfl⟩)
    have hi := hx
    obtain ⟨_, _, _, _, hle, _⟩ := hi
    cases hn : Mem.find σ n with
    | none => simp [hn, Mem.cols] at h
    | some b =>
      cases b with
      | vec cs =>
        have hcs : Mem.cols σ n = some cs := by simp [Mem.cols, hn]
        simp only [hn, hcs] at h
        split at h <;> try exact h.elim
        rename_i hz
        obtain ⟨l, hl, hK⟩ := one h
        obtain ⟨A, cap, hr, _⟩ := reads_vsl hm hs hcs (beq_nat hz) hx
        rw [hl] at hr
        exact ⟨l, _, _, hr.shares (fun q => clean_erase hs hn (foot hn hcs (by have : len ≠ 0 := q; omega))) (erase_less n), hK⟩
      | rview cs =>
        have hcs : Mem.cols σ n = some cs := by simp [Mem.cols, hn]
        simp only [hn, hcs] at h
        split at h <;> try exact h.elim
        rename_i hz
        obtain ⟨l, hl, hK⟩ := one h
        obtain ⟨A, cap, hr, _⟩ := reads_vsl hm hs hcs (beq_nat hz) hx
        rw [hl] at hr
        exact ⟨l, _, _, hr.shares (fun q => clean_view hs hn (foot hn hcs (by have : len ≠ 0 := q; omega)) (fun k q => q)) id_less, hK⟩
      | own T s => simp [hn, Mem.cols] at h
      | view s => simp [hn, Mem.cols] at h
  | sl n base idx len cap =>
    simp only [sharex, rdx] at h
    cases hn : Mem.find σ n with
    | none => simp [hn] at h
    | some b =>
      simp only [hn] at h
      have seg : ∀ {σ' : Mem}, (match findSeg b.segs base with | some (.ints k' N l) => Fits (nadd idx len) N ∧ oneInts k (fun l => K l σ') [Col.ints k' (lsub l idx len)] | _ => False) →
          ∃ N l, findSeg b.segs base = some (.ints k N l) ∧ idx + len ≤ N ∧ K (lsub l idx len) σ' := by
        intro σ' h
        split at h <;> try exact h.elim
        rename_i k' N l hf
        obtain ⟨h1, h2⟩ := h
        obtain ⟨l', hl', hK⟩ := one h2
        simp only [List.cons.injEq, Col.ints.injEq, and_true] at hl'
        obtain ⟨rfl, rfl⟩ := hl'
        exact ⟨N, l, hf, h1.le, hK⟩
      have foot : ∀ {L : Loc} {l : List Int} {N}, findSeg b.segs base = some (.ints k N l) → idx + len ≤ N → (L.cap ≠ 0 → L.cap = cap ∧ L.1 = (ρ n).1 ∧ L.2 = (ρ n).2 + (base + idx) ∧ L.a = some (L.at 0)) → Reads ρ σ w v [.ints k (lsub l idx len)] L → L.len ≠ 0 → Foot ρ n b L.1 := by
        intro L l N hf hle h2 hr q
        have hc := hr.rep.cap
        rw [(h2 (by omega)).2.1]
        have hl : (lsub l idx len).length = L.len := hr.rep.ok (.ints k _) (by simp)
        have hne : flat b.segs ≠ [] := fun e => by
          have h1 := findSeg_len hf
          have h3 := flat_length (hm n b hn).cells.1
          rw [e] at h3
          simp only [Seg.len] at h1
          simp at h3
          have : N = 0 := by omega
          have : len = 0 := by omega
          subst this
          simp [lsub] at hl
          exact q hl.symm
        cases b with
        | own T s => rfl
        | view s => exact ⟨hne, rfl⟩
        | vec cs => exact absurd rfl hne
        | rview cs => exact absurd rfl hne
      cases b with
      | own T s =>
        simp only at h
        obtain ⟨N, l, hf, hle, hK⟩ := seg h
        obtain ⟨L, hr, h2⟩ := reads_sl hm hs hn hf hle hx
        exact ⟨_, _, _, hr.shares (fun q => clean_erase hs hn (foot hf hle h2 hr q)) (erase_less n), hK⟩
      | view s =>
        simp only at h
        obtain ⟨N, l, hf, hle, hK⟩ := seg h
        obtain ⟨L, hr, h2⟩ := reads_sl hm hs hn hf hle hx
        exact ⟨_, _, _, hr.shares (fun q => clean_view hs hn (foot hf hle h2 hr q) (fun k q => q)) id_less, hK⟩
      | vec cs => simp [Blk.segs, findSeg] at h
      | rview cs => simp [Blk.segs, findSeg] at h
  | el n c i =>
    have h' : rdx σ [.ints k] (.one (.el n c i)) (oneInts k fun l => K l σ) := h
    simp only [rdx] at h'
    split at h' <;> try exact h'.elim
    rename_i k' ll hr
    obtain ⟨l, hl, hK⟩ := one h'
    cases hl
    obtain ⟨cs, hc, hlen, hV, b, hb, hbb, hf⟩ := rows_sound hm hr
    obtain ⟨rfl, hi⟩ := hx
    have he := hV.inner c k ll hc i _ (llget_some (by omega))
    refine ⟨_, _, σ, ⟨rfl, he, fun hne x hx => ?_, id_less⟩, hK⟩
    have hin : Inner (ρ n) cs x.block := ⟨c, k, ll, i, _, x, hc, llget_some (by omega), hne, hx, rfl⟩
    refine ⟨hs.inn hb ?_, inner_lt hV hin⟩
    rcases hbb with rfl | rfl <;> exact hin
  | esl n c i o len =>
    have h' : rdx σ [.ints k] (.one (.esl n c i o len)) (oneInts k fun l => K l σ) := h
    have h0 := h'
    simp only [rdx] at h'
    split at h' <;> try exact h'.elim
    rename_i k' ll hr
    obtain ⟨l, hl, hK⟩ := one h'
    cases hl
    obtain ⟨cs, hc, hlen, hV, b, hb, hbb, hf⟩ := rows_sound hm hr
    obtain ⟨A, cap, rfl, g1, g2, g3, g4, g5⟩ := hx
    have he := hV.inner c k ll hc i _ (llget_some (by omega))
    obtain ⟨q1, q2, q3, q4⟩ := he
    have hls := lsub_len (llget ll i) o len (by omega)
    refine ⟨_, ⟨A, len, cap⟩, σ, ⟨rfl, ⟨hls.symm, g1, fun hne => ?_, fun j x hx B hB => ?_⟩, fun hne x hx => ?_, id_less⟩, hK⟩
    · have h1 : len ≠ 0 := fun q => hne (by subst q; cases hq : lsub (llget ll i) o 0 <;> simp_all)
      rcases g4 with g4 | rfl
      · omega
      · obtain ⟨a', ha'⟩ := g5 (by omega)
        exact ⟨_, by rw [ha']; rfl⟩
    · rw [lsub_get] at hx
      split at hx
      · rename_i hj
        rcases g4 with g4 | rfl
        · omega
        · simp only [Option.map_eq_some_iff] at hB
          obtain ⟨a', ha', rfl⟩ := hB
          rw [addr_add_add]
          exact q4 _ x hx a' ha'
      · cases hx
    · have h1 : len ≠ 0 := fun q => hne (by subst q; cases hq : lsub (llget ll i) o 0 <;> simp_all)
      rcases g4 with g4 | rfl
      · omega
      · simp only [Option.map_eq_some_iff] at hx
        obtain ⟨a', ha', rfl⟩ := hx
        have hbk : (a'.add o).block = a'.block := by unfold Addr.add; split <;> rfl
        rw [hbk]
        have hin : Inner (ρ n) cs a'.block := ⟨c, k, ll, i, _, a', hc, llget_some (by omega), fun e => by rw [e] at q1; simp at q1; omega, ha', rfl⟩
        refine ⟨hs.inn hb ?_, inner_lt hV hin⟩
        rcases hbb with rfl | rfl <;> exact hin
  | con c =>
    have h' : rdx σ [.ints k] (.one (.con c)) (oneInts k fun l => K l σ) := h
    unfold rdx at h'
    split at h' <;> try exact h'.elim
    all_goals (try (rename_i q; cases q; done))
    rename_i q
    cases q
    obtain ⟨l, hl, hK⟩ := one h'
    simp only [List.map_cons, List.map_nil, Kd.nil, List.cons.injEq, Col.ints.injEq, true_and, and_true] at hl
    subst hl
    obtain ⟨rfl, _⟩ := hx
    exact ⟨[], ⟨none, 0, 0⟩, σ, ⟨rfl, ⟨rfl, Nat.le_refl _, fun q => absurd rfl q, fun j x hx => by simp at hx⟩, fun q => absurd rfl q, id_less⟩, hK⟩
  | int k n => simp [sharex, rdx] at h
  | lit b => simp [sharex, rdx] at h
  | bool b => simp [sharex, rdx] at h
  | str s => simp [sharex, rdx] at h
  | ptr n b i => simp [sharex, rdx] at h
  | clo f n b i => simp [sharex, rdx] at h
  | vptr n z i b j => simp [sharex, rdx] at h
  | eptr n c i o => simp [sharex, rdx] at h
  | any => simp [sharex, rdx] at h

/-! ### records -/
def FldRep (ρ : Rho) : List Fld → List Value → Prop
  | [], vs => vs = []
  | .a x :: r, vs => ∃ v s, vs = v :: s ∧ CRep ρ x v ∧ FldRep ρ r s
  | .g k m l :: r, vs => l.length = m ∧ ∃ s, vs = l.map (Value.int k) ++ s ∧ FldRep ρ r s

theorem FldRep.cells : ∀ {cs : List AC} {r : List Fld} {vs us : List Value}, FRep ρ cs vs → FldRep ρ r us → FldRep ρ (cs.map Fld.a ++ r) (vs ++ us)
  | [], r, vs, us, h, hr => by
    have : vs = [] := by have := h.1; cases vs <;> simp_all
    subst this; exact hr
  | c :: cs, r, vs, us, h, hr => by
    cases vs with
    | nil => have := h.1; simp at this
    | cons v vs =>
      refine ⟨v, vs ++ us, rfl, h.2 0 c v rfl rfl, FldRep.cells ⟨by simpa using h.1, fun j x u hx hu => h.2 (j + 1) x u (by simpa using hx) (by simpa using hu)⟩ hr⟩

theorem FRep.split {l1 l2 : List AC} {vs : List Value} (h : FRep ρ (l1 ++ l2) vs) : ∃ v1 v2, vs = v1 ++ v2 ∧ FRep ρ l1 v1 ∧ FRep ρ l2 v2 := by
  have hl := h.1
  simp at hl
  refine ⟨vs.take l1.length, vs.drop l1.length, by simp, ⟨by simp; omega, fun j x u hx hu => ?_⟩, ⟨by simp; omega, fun j x u hx hu => ?_⟩⟩
  · have hj := (List.getElem?_eq_some_iff.1 hx).1
    rw [List.getElem?_take, if_pos hj] at hu
    exact h.2 j x u (by rw [List.getElem?_append_left hj]; exact hx) hu
  · rw [List.getElem?_drop] at hu
    exact h.2 (l1.length + j) x u (by rw [List.getElem?_append_right (by omega)]; simpa using hx) hu

theorem flds_rep : ∀ {s : List Seg} {fl : List Fld} {vs : List Value}, fldsOf s = some fl → segsOk s → FRep ρ (flat s) vs → FldRep ρ fl vs
  | [], fl, vs, h, _, hf => by
    simp only [fldsOf, Option.some.injEq] at h
    subst h
    have := hf.1
    cases vs <;> simp_all [flat, FldRep]
  | .cells cs :: r, fl, vs, h, ho, hf => by
    simp only [fldsOf, Option.map_eq_some_iff] at h
    obtain ⟨fr, hr, rfl⟩ := h
    obtain ⟨v1, v2, rfl, h1, h2⟩ := hf.split
    exact FldRep.cells h1 (flds_rep hr ho.2 h2)
  | .ints k n l :: r, fl, vs, h, ho, hf => by
    simp only [fldsOf, Option.map_eq_some_iff] at h
    obtain ⟨fr, hr, rfl⟩ := h
    obtain ⟨v1, v2, rfl, h1, h2⟩ := hf.split
    refine ⟨ho.1, v2, ?_, flds_rep hr ho.2 h2⟩
    congr 1
    apply List.ext_getElem?
    intro j
    have hlen := h1.1
    simp only [Seg.flat, List.length_map] at hlen
    by_cases hj : j < l.length
    · have hv : j < v1.length := by omega
      have := h1.2 j (.int k l[j]) v1[j] (by simp [Seg.flat, hj]) (List.getElem?_eq_getElem hv)
      have e : v1[j] = .int k l[j] := this
      simp [hj, hv, e]
    · simp [List.getElem?_eq_none (show v1.length ≤ j by omega), List.getElem?_eq_none (show (l.map (Value.int k)).length ≤ j by simp; omega)]
  | .bools _ _ :: _, fl, vs, h, _, _ => by simp [fldsOf] at h

/-- one record, out of a value's parts; 'c': the number of its first column -/
structure Recs (ρ : Rho) (σ : Mem) (w : World) (vs : List Value) (ks : List Kd) (cs : List Col) (c : Nat) (L : Loc) (σ1 : Mem) : Prop where
  len : L.len = 1
  kds : kdsOf cs = ks
  ok : ∀ x ∈ cs, x.ok 1
  vlen : vs.length = width ks
  cells : ∀ t, t < width ks → vs[t]? = some (rowVal L cs c 0 t)
  inner : ∀ j k ll, cs[j]? = some (Col.rows k ll) → ∀ i l, ll[i]? = some l → EltRep w (L.el (c + j) i) k l ∧ (l ≠ [] → ∀ x, (L.el (c + j) i).a = some x → Clean ρ σ1 x.block ∧ x.block < w.heap.size)
  less : ∀ m b, Mem.find σ1 m = some b → Mem.find σ m = some b

theorem Clean.less {σ σ1 : Mem} {k : Nat} (h : Clean ρ σ k) (hl : ∀ m b, Mem.find σ1 m = some b → Mem.find σ m = some b) : Clean ρ σ1 k := fun m b hb => h m b (hl m b hb)

theorem Rep.sub {σ1 : Mem} (hm : MemRep ρ σ w) (hs : Sep ρ σ) (hl : ∀ m b, Mem.find σ1 m = some b → Mem.find σ m = some b) : MemRep ρ σ1 w ∧ Sep ρ σ1 :=
  ⟨fun n b hb => hm n b (hl n b hb), fun n m b c k hn hm => hs.1 n m b c k (hl _ _ hn) (hl _ _ hm), fun n b k hn => hs.2 n b k (hl _ _ hn)⟩

def Loc.more (L : Loc) (c : Nat) (e : Elt) : Loc := { L with el := fun c' i => if c' = c then e else L.el c' i }

theorem rowVal_more {L : Loc} {c : Nat} {e : Elt} : ∀ {cs : List Col} {c' i t : Nat}, c < c' → rowVal (L.more c e) cs c' i t = rowVal L cs c' i t
  | [], _, _, _, _ => rfl
  | x :: r, c', i, t, h => by
    simp only [rowVal]
    split
    · cases x <;> simp only [colVal]
      have hne : ¬ c' = c := by omega
      simp [Loc.more, hne]
    · exact rowVal_more (by omega)

theorem rowVal_succ1 {L : Loc} {x : Col} {r : List Col} {c i t : Nat} (h : x.kd.width = 1) : rowVal L (x :: r) c i (t + 1) = rowVal L r (c + 1) i t := by
  simp only [rowVal]
  rw [if_neg (by omega), h]
  rfl

theorem recx_sound : ∀ {ks : List Kd} {fl : List Fld} {σ : Mem} {vs : List Value} {c : Nat} {K : List Col → Mem → Prop}, recx σ ks fl K → FldRep ρ fl vs → MemRep ρ σ w → Sep ρ σ → ∃ cs L σ1, Recs ρ σ w vs ks cs c L σ1 ∧ K cs σ1
  | [], [], σ, vs, c, K, h, hf, hm, hs => by
    have : vs = [] := hf
    subst this
    exact ⟨[], ⟨0, 0, none, 1, 0, fun _ _ => ⟨none, 0, 0⟩⟩, σ, ⟨rfl, rfl, fun x hx => by simp at hx, rfl, fun t ht => absurd ht (Nat.not_lt_zero _), fun j k ll hc => by simp at hc, fun _ _ q => q⟩, h⟩
  | .ints k :: ks, .a x :: fl, σ, vs, c, K, h, hf, hm, hs => by
    cases x with
    | int k' v =>
        simp only [recx] at h
        split at h <;> try exact h.elim
        rename_i hk
        subst hk
        obtain ⟨u, us, rfl, hu, hf⟩ := hf
        obtain ⟨cs, L, σ1, hr, hK⟩ := recx_sound (c := c + 1) h hf hm hs
        have hu' : u = .int k' v := hu
        subst hu'
        refine ⟨_, L, σ1, ⟨hr.len, by simp only [kdsOf, List.map_cons, Col.kd]; rw [← hr.kds]; rfl, fun x hx => ?_, by simp only [List.length_cons, hr.vlen, width, Kd.width]; omega, fun t ht => ?_, fun j k ll hc i l hl => ?_, hr.less⟩, hK⟩
        · rcases List.mem_cons.1 hx with rfl | hx
          · rfl
          · exact hr.ok x hx
        · have hw : width (.ints k' :: ks) = 1 + width ks := rfl
          cases t with
          | zero => simp [rowVal, Col.kd, Kd.width, colVal, lget]
          | succ t => rw [rowVal_succ1 rfl]; simp only [List.getElem?_cons_succ]; exact hr.cells t (by omega)
        · cases j with
          | zero => simp at hc
          | succ j => have := hr.inner j k ll (by simpa using hc) i l hl; rw [show c + (j + 1) = c + 1 + j by omega]; exact this
    | _ => simp [recx] at h
  | .bools :: ks, .a x :: fl, σ, vs, c, K, h, hf, hm, hs => by
    cases x with
    | bool v =>
        simp only [recx] at h
        obtain ⟨u, us, rfl, hu, hf⟩ := hf
        obtain ⟨cs, L, σ1, hr, hK⟩ := recx_sound (c := c + 1) h hf hm hs
        have hu' : u = .bool v := hu
        subst hu'
        refine ⟨_, L, σ1, ⟨hr.len, by simp only [kdsOf, List.map_cons, Col.kd]; rw [← hr.kds]; rfl, fun x hx => ?_, by simp only [List.length_cons, hr.vlen, width, Kd.width]; omega, fun t ht => ?_, fun j k ll hc i l hl => ?_, hr.less⟩, hK⟩
        · rcases List.mem_cons.1 hx with rfl | hx
          · rfl
          · exact hr.ok x hx
        · have hw : width (.bools :: ks) = 1 + width ks := rfl
          cases t with
          | zero => simp [rowVal, Col.kd, Kd.width, colVal, lgetb]
          | succ t => rw [rowVal_succ1 rfl]; simp only [List.getElem?_cons_succ]; exact hr.cells t (by omega)
        · cases j with
          | zero => simp at hc
          | succ j => have := hr.inner j k ll (by simpa using hc) i l hl; rw [show c + (j + 1) = c + 1 + j by omega]; exact this
    | lit v =>
        simp only [recx] at h
        obtain ⟨u, us, rfl, hu, hf⟩ := hf
        obtain ⟨cs, L, σ1, hr, hK⟩ := recx_sound (c := c + 1) h hf hm hs
        have hu' : u = .bool v := hu
        subst hu'
        refine ⟨_, L, σ1, ⟨hr.len, by simp only [kdsOf, List.map_cons, Col.kd]; rw [← hr.kds]; rfl, fun x hx => ?_, by simp only [List.length_cons, hr.vlen, width, Kd.width]; omega, fun t ht => ?_, fun j k ll hc i l hl => ?_, hr.less⟩, hK⟩
        · rcases List.mem_cons.1 hx with rfl | hx
          · rfl
          · exact hr.ok x hx
        · have hw : width (.bools :: ks) = 1 + width ks := rfl
          cases t with
          | zero => simp [rowVal, Col.kd, Kd.width, colVal, lgetb]
          | succ t => rw [rowVal_succ1 rfl]; simp only [List.getElem?_cons_succ]; exact hr.cells t (by omega)
        · cases j with
          | zero => simp at hc
          | succ j => have := hr.inner j k ll (by simpa using hc) i l hl; rw [show c + (j + 1) = c + 1 + j by omega]; exact this
    | _ => simp [recx] at h
  | .arrs k m :: ks, .g k' m' l :: fl, σ, vs, c, K, h, hf, hm, hs => by
    simp only [recx] at h
    split at h <;> try exact h.elim
    rename_i hk
    split at h <;> try exact h.elim
    rename_i hm'
    subst hk hm'
    obtain ⟨hl, us, rfl, hf⟩ := hf
    obtain ⟨cs, L, σ1, hr, hK⟩ := recx_sound (c := c + 1) h hf hm hs
    refine ⟨_, L, σ1, ⟨hr.len, by simp only [kdsOf, List.map_cons, Col.kd]; rw [← hr.kds]; rfl, fun x hx => ?_, by simp [hr.vlen, hl, width, Kd.width], fun t ht => ?_, fun j k ll hc i l hl => ?_, hr.less⟩, hK⟩
    · rcases List.mem_cons.1 hx with rfl | hx
      · exact ⟨rfl, fun y hy => by simp at hy; subst hy; exact hl⟩
      · exact hr.ok x hx
    · have hw : width (.arrs k' m' :: ks) = m' + width ks := rfl
      have hkw : (Col.arrs k' m' [l]).kd.width = m' := rfl
      simp only [rowVal]
      rw [hkw]
      by_cases hlt : t < m'
      · rw [if_pos hlt, List.getElem?_append_left (by simp; omega)]
        simp [colVal, llget, lget, List.getD, show t < l.length by omega]
      · rw [if_neg hlt, List.getElem?_append_right (by simp; omega)]
        simp only [List.length_map, hl]
        exact hr.cells (t - m') (by omega)
    · cases j with
      | zero => simp at hc
      | succ j => have := hr.inner j k ll (by simpa using hc) i l hl; rw [show c + (j + 1) = c + 1 + j by omega]; exact this
  | .rows k :: ks, .a x :: fl, σ, vs, c, K, h, hf, hm, hs => by
    simp only [recx] at h
    obtain ⟨u, us, rfl, hu, hf⟩ := hf
    obtain ⟨l, e, σ1, hsh, h⟩ := sharex_sound h hm hs hu
    obtain ⟨hm1, hs1⟩ := Rep.sub hm hs hsh.less
    obtain ⟨cs, L, σ2, hr, hK⟩ := recx_sound (c := c + 1) h hf hm1 hs1
    refine ⟨_, L.more c e, σ2, ⟨hr.len, by simp only [kdsOf, List.map_cons, Col.kd]; rw [← hr.kds]; rfl, fun x hx => ?_, by simp only [List.length_cons, hr.vlen, width, Kd.width]; omega, fun t ht => ?_, fun j k ll hc i l' hl => ?_, fun m b hb => hsh.less m b (hr.less m b hb)⟩, hK⟩
    · rcases List.mem_cons.1 hx with rfl | hx
      · rfl
      · exact hr.ok x hx
    · have hw : width (.rows k :: ks) = 1 + width ks := rfl
      cases t with
      | zero => simp [rowVal, Col.kd, Kd.width, colVal, Loc.more, hsh.val]
      | succ t => rw [rowVal_succ1 rfl, rowVal_more (by omega)]; simp only [List.getElem?_cons_succ]; exact hr.cells t (by omega)
    · cases j with
      | zero =>
        simp only [List.getElem?_cons_zero, Option.some.injEq, Col.rows.injEq] at hc
        obtain ⟨rfl, rfl⟩ := hc
        cases i with
        | zero =>
          simp at hl
          subst hl
          simp only [Loc.more, Nat.add_zero, if_true]
          exact ⟨hsh.rep, fun hne x hx => ⟨(hsh.clean hne x hx).1.less hr.less, (hsh.clean hne x hx).2⟩⟩
        | succ i => simp at hl
      | succ j =>
        have := hr.inner j k ll (by simpa using hc) i l' hl
        rw [show c + (j + 1) = c + 1 + j by omega]
        have hne : ¬ c + 1 + j = c := by omega
        simp only [Loc.more, if_neg hne]
        exact this
  | [], _ :: _, _, _, _, _, h, _, _, _ => by simp [recx] at h
  | .ints _ :: _, [], _, _, _, _, h, _, _, _ => by simp [recx] at h
  | .bools :: _, [], _, _, _, _, h, _, _, _ => by simp [recx] at h
  | .arrs _ _ :: _, [], _, _, _, _, h, _, _, _ => by simp [recx] at h
  | .rows _ :: _, [], _, _, _, _, h, _, _, _ => by simp [recx] at h
  | .ints _ :: _, .g _ _ _ :: _, _, _, _, _, h, _, _, _ => by simp [recx] at h
  | .bools :: _, .g _ _ _ :: _, _, _, _, _, h, _, _, _ => by simp [recx] at h
  | .rows _ :: _, .g _ _ _ :: _, _, _, _, _, h, _, _, _ => by simp [recx] at h
  | .arrs _ _ :: _, .a _ :: _, _, _, _, _, h, _, _, _ => by simp [recx] at h
end
end Go.Sx
