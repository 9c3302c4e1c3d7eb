import Derived.Test.YtmgbaimcjkhieaaDoorMacKeepsB
import Derived.MapKept
import Derived.WideKeyRuns
import Derived.Test.YtmgbaimcjkhieaaDoorProg
set_option linter.unusedSimpArgs false
set_option linter.unusedVariables false
namespace Go.Sx
open Go
section
variable {P : Program} {E : Env} {ρ : Rho} {fr : Fr} {σ : Mem} {a : Act} {w : World}
structure Elsewhere (ρ ρ' : Rho) (n : Nat) : Prop where
 ne : ∀ m, m ≠ n → ρ' m = ρ m
 b : (ρ' n).b = (ρ n).b
 o : (ρ' n).o = (ρ n).o
 a : (ρ' n).a = (ρ n).a
 len : (ρ' n).len = (ρ n).len
 cap : (ρ' n).cap = (ρ n).cap
 low : n < 200000
theorem Elsewhere.ext {ρ' : Rho} {n : Nat} (h : Elsewhere ρ ρ' n) {x : AC} {v : Value} (hx : x.elOf n = false) (hv : CRep ρ x v) : CRep ρ' x v := by
  have hz : ∀ m i, at_ ρ' m i = at_ ρ m i := fun m i => by
    by_cases e : m = n
    · subst e; simp only [at_, h.b, h.o]
    · simp only [at_, h.ne m e]
  have fl : ∀ m, (ρ' m).a = (ρ m).a ∧ (ρ' m).len = (ρ m).len ∧ (ρ' m).cap = (ρ m).cap ∧ ∀ i, (ρ' m).at i = (ρ m).at i := fun m => by
    by_cases e : m = n
    · subst e; exact ⟨h.a, h.len, h.cap, fun i => by simp only [Loc.at, h.b, h.o]⟩
    · rw [h.ne m e]; exact ⟨rfl, rfl, rfl, fun _ => rfl⟩
  have hp : ∀ k, ρ' (hname k) = ρ (hname k) := fun k => h.ne _ (by have := isHeap_le (isHeap_hname k); have := h.low; omega)
  cases x with
  | ptr m b i => simp only [CRep, hz] at hv ⊢; exact hv
  | sl m b i l c => simp only [CRep, hz] at hv ⊢; exact hv
  | clo f m b i => simp only [CRep, hz] at hv ⊢; exact hv
  | vec m => simp only [CRep, (fl m).1, (fl m).2.1, (fl m).2.2.1] at hv ⊢; exact hv
  | vsl m z i l => simp only [CRep, (fl m).1, (fl m).2.1, (fl m).2.2.1, (fl m).2.2.2] at hv ⊢; exact hv
  | vcl m z i l => simp only [CRep, (fl m).1, (fl m).2.1, (fl m).2.2.1, (fl m).2.2.2] at hv ⊢; exact hv
  | vptr m z i b j => simp only [CRep, hz, (fl m).2.1] at hv ⊢; exact hv
  | el m c i => have e : m ≠ n := by simpa [AC.elOf] using hx
                simp only [CRep, h.ne m e] at hv ⊢; exact hv
  | esl m c i o l => have e : m ≠ n := by simpa [AC.elOf] using hx
                     simp only [CRep, h.ne m e] at hv ⊢; exact hv
  | eptr m c i o => have e : m ≠ n := by simpa [AC.elOf] using hx
                    simp only [CRep, h.ne m e] at hv ⊢; exact hv
  | hs k j off l => simp only [CRep, hp] at hv ⊢; exact hv
  | hp k j i => simp only [CRep, hp] at hv ⊢; exact hv
  | map m =>
    have e1 : (ρ' m).1 = (ρ m).1 := by
      by_cases e : m = n
      · subst e; exact h.b
      · rw [h.ne m e]
    simp only [CRep, e1] at hv ⊢; exact hv
  | int k n => exact hv
  | lit b => exact hv
  | bool b => exact hv
  | str s => exact hv
  | con v => exact hv
  | any => exact hv
theorem flat_elOf {d : Nat} : ∀ {s : List Seg}, s.any (Seg.elOf d) = false → ∀ x ∈ flat s, x.elOf d = false
 | [], _, x, hx => by simp [flat] at hx
 | g :: r, h, x, hx => by
  simp only [List.any_cons, Bool.or_eq_false_iff] at h
  simp only [flat, List.mem_append] at hx
  rcases hx with hx | hx
  ·cases g with
   | cells cs =>
    have h1 := h.1
    simp only [Seg.elOf, List.any_eq_false] at h1
    simpa using h1 x hx
   | ints k n l => simp only [Seg.flat, List.mem_map] at hx; obtain ⟨y, _, rfl⟩ := hx; rfl
   | bools n l => simp only [Seg.flat, List.mem_map] at hx; obtain ⟨y, _, rfl⟩ := hx; rfl
  ·exact flat_elOf h.2 x hx
theorem Elsewhere.frep {ρ' : Rho} {n : Nat} (h : Elsewhere ρ ρ' n) {s : List Seg} {c : List Value} (hs : s.any (Seg.elOf n) = false) (hf : FRep ρ (flat s) c) : FRep ρ' (flat s) c :=
 ⟨hf.1, fun j x v hx hv => h.ext (flat_elOf hs x (List.mem_of_getElem? hx)) (hf.2 j x v hx hv)⟩
theorem Elsewhere.srep {ρ' : Rho} {n : Nat} (h : Elsewhere ρ ρ' n) {x : AV} {v : Value} (hx : x.elOf n = false) (hv : SRep ρ x v) : SRep ρ' x v := by
 cases x with
 | one a => exact h.ext hx hv
 | agg s =>
  obtain ⟨ho, cs, e, hf⟩ := hv
  exact ⟨ho, cs, e, h.frep hx hf⟩
 | tup vs =>
  obtain ⟨us, e, hl, hall⟩ := hv
  refine ⟨us, e, hl, fun j t u ht hu => ?_⟩
  have h1 := hall j t u ht hu
  have h2 : t.elOf n = false := by
   simp only [AV.elOf, List.any_eq_false] at hx
   simpa using hx t (List.mem_of_getElem? ht)
  cases t with
  | c a => exact h.ext h2 h1
  | g s => obtain ⟨ho, cs, e, hf⟩ := h1; exact ⟨ho, cs, e, h.frep h2 hf⟩
 | undef => trivial
theorem Elsewhere.lnk {ρ' : Rho} {n : Nat} (h : Elsewhere ρ ρ' n) {L : Loc} {cs : List Col} (hl : Lnk ρ L cs) : Lnk ρ' L cs := fun c k l hc i d hd => h.ext rfl (hl c k l hc i d hd)
theorem rowVal_gt {L L' : Loc} {c : Nat} (h : ∀ c' i, c' ≠ c → L'.el c' i = L.el c' i) : ∀ {cs : List Col} {c0 i t : Nat}, c < c0 → rowVal L' cs c0 i t = rowVal L cs c0 i t
 | [], _, _, _, _ => rfl
 | x :: r, c0, i, t, hc => by
  simp only [rowVal]
  split
  ·cases x <;> simp [colVal, h c0 i (by omega)]
  ·exact rowVal_gt h (by omega)
theorem rowVal_chg {L L' : Loc} : ∀ {cs : List Col} {b c0 c : Nat} {col : Col}, colAt cs b c0 = some (c, col) → (∀ c' i, c' ≠ c → L'.el c' i = L.el c' i) → ∀ i t, ¬ (b ≤ t ∧ t < b + col.kd.width) → rowVal L' cs c0 i t = rowVal L cs c0 i t
 | [], _, _, _, _, h, _ => by simp [colAt] at h
 | x :: r, 0, c0, c, col, h, he => fun i t ht => by
  simp only [colAt, Option.some.injEq, Prod.mk.injEq] at h
  obtain ⟨rfl, rfl⟩ := h
  simp only [rowVal]
  rw [if_neg (by omega), if_neg (by omega)]
  exact rowVal_gt he (by omega)
 | x :: r, b + 1, c0, c, col, h, he => fun i t ht => by
  simp only [colAt] at h
  split at h
  ·rename_i hle
   have hle' : x.kd.width ≤ b + 1 := Nat.le_of_ble_eq_true hle
   have h1 := (colAt_sound (L := L) h).1
   simp only [rowVal]
   split
   ·cases x <;> simp [colVal, he c0 i (by omega)]
   ·rename_i hx
    exact rowVal_chg h he i (t - x.kd.width) (by omega)
  ·cases h
theorem storeS_sound {T : TypeId} {n z i b j : Nat} {x : AV} {v v1 : Value} {K : Mem → Prop} (h : storeS P σ fr T n z i b j x K) (hR : Rep E ρ fr σ a w) (hx : SRep ρ x v) (hp : SRep ρ (.one (.vptr n z i b j)) v1) :
  ∃ A w' σ' bk ρ', v1 = .pointer (some A) ∧ (storeVar T A v).run P w = .ok () w' ∧ w'.heap.size = w.heap.size ∧ Rep E ρ' fr σ' a w' ∧ K σ' ∧ (∀ k, k ≠ (ρ n).1 → w'.heap[k]? = w.heap[k]?) ∧ (∀ m, m ≠ n → Mem.find σ' m = Mem.find σ m) ∧ Mem.find σ n = some bk ∧ Out ρ n bk (ρ n).1 ∧ (∀ m, m ≠ n → ρ' m = ρ m) := by
 obtain ⟨rfl, hi⟩ := hp
 unfold storeS at h
 split at h <;> try exact h.elim
 rename_i cs hn
 split at h <;> try exact h.elim
 rename_i hg
 simp only [Bool.and_eq_true, Bool.not_eq_true'] at hg
 obtain ⟨⟨⟨hz, hlt⟩, hfe⟩, hme⟩ := hg
 have hlt : n < 200000 := Nat.lt_of_lt_of_le (Nat.lt_succ_self _) (Nat.le_of_ble_eq_true hlt)
 have hz' : z = cwidth cs := beq_nat hz
 subst hz'
 split at h <;> try exact h.elim
 rename_i hag hsz
 split at h <;> try exact h.elim
 rename_i c k l k' q o m hc
 split at h <;> try exact h.elim
 split at h <;> try exact h.elim
 rename_i hk
 subst hk
 obtain ⟨A, cap, rfl, hrest⟩ := hx
 have hcr : CRep ρ (.hs k' q o m) (.slice A m cap) := ⟨A, cap, rfl, hrest⟩
 obtain ⟨hV, hW, hLn⟩ := hR.mem n _ hn
 have hcap : (ρ n).cap ≠ 0 := by have := hV.cap; omega
 obtain ⟨_, q2, q3, q4⟩ := colAt_sound (L := ρ n) hc
 have q2 : cs[c]? = some (.hss k' l) := by simpa using q2
 have hclt : c < cs.length := (List.getElem?_eq_some_iff.1 q2).1
 have hl : l.length = (ρ n).len := hV.ok _ (List.mem_of_getElem? q2)
 obtain ⟨ha, C, T0, fz, hh, hcz, hfz⟩ := hW hcap
 have w1 : (Col.hss k' l).kd.width = 1 := rfl
 have hbw : b + 1 ≤ cwidth cs := by have := q3; rw [w1] at this; exact this
 have hfit : i * cwidth cs + b + 1 ≤ (ρ n).len * cwidth cs := by
  have : (i + 1) * cwidth cs ≤ (ρ n).len * cwidth cs := Nat.mul_le_mul_right _ hi
  rw [Nat.add_mul, Nat.one_mul] at this; omega
 have hle : (ρ n).len * cwidth cs ≤ (ρ n).cap * cwidth cs := Nat.mul_le_mul_right _ hV.cap
 obtain ⟨w', cur', e1, e2, e3, e4, e5, e6, e7, e8, e9⟩ := store_cells P (g := (ρ n).1) (o := (ρ n).2 + (i * cwidth cs + b)) [.slice A m cap] 0 C.toList w hh (by simpa using hfz) (by simp; omega) (by simp [Value.oneCell'])
 let L' : Loc := { ρ n with el := fun c' i' => if c' = c ∧ i' = i then ⟨A, m, cap⟩ else (ρ n).el c' i' }
 let ρ' := upd ρ n L'
 have hL' : ρ' n = L' := upd_eq _ _ _
 have hel : ∀ c' i', c' ≠ c → L'.el c' i' = (ρ n).el c' i' := fun c' i' hne => by
  show (if c' = c ∧ i' = i then _ else _) = _
  rw [if_neg (fun q => hne q.1)]
 have hE : Elsewhere ρ ρ' n := ⟨fun m hm => upd_ne hm, by rw [hL'], by rw [hL'], by rw [hL'], by rw [hL'], by rw [hL'], hlt⟩
 let col' : Col := .hss k' (hset l i ⟨q, o, m⟩)
 let cs' := setCol cs c col'
 have hkd : kdsOf cs' = kdsOf cs := setCol_kds q2 rfl
 have hwd : cwidth cs' = cwidth cs := by simp [cwidth, hkd]
 have getc : ∀ c', cs'[c']? = if c' = c then some col' else cs[c']? := fun c' => setCol_get c' hclt
 have inn : ∀ k, Inner L' cs' k → Inner (ρ n) cs k := by
  rintro k0 ⟨c', kk, ll, i', l', A', g1, g2, g3, g4, g5⟩
  rw [getc] at g1
  split at g1
  ·simp [col'] at g1
  ·rename_i hne
   rw [hel c' i' hne] at g4
   exact ⟨c', kk, ll, i', l', A', g1, g2, g3, g4, g5⟩
 have hinn : ∀ k, Inner (ρ n) cs k → w'.heap[k]? = w.heap[k]? := fun k hk => e3 k fun e => hR.sep.2 n _ (ρ n).1 hn ⟨hcap, rfl⟩ (by rw [← e]; exact hk)
 have hB : BlkRep ρ' w' n (.vec cs') := by
  refine ⟨?_, ?_, ?_⟩
  ·rw [hL']
   refine ⟨fun e => by rw [e] at hwd; have := hV.wid; rw [← hwd] at this; exact absurd this (by decide), by rw [hwd]; exact hV.wid, fun y hy => ?_, hV.cap, hV.adr, fun i' hi' t ht => ?_, fun c' kk ll hcc i' l' hl' => ?_⟩
   ·rcases setCol_mem hclt hy with rfl | hy
    ·show (hset l i _).length = _
     simpa [hset] using hl
    ·exact hV.ok y hy
   ·rw [hwd] at ht ⊢
    have hlt2 : i' * cwidth cs + t < (ρ n).len * cwidth cs := cell_lt_len hi' ht
    have h9 := e9 ((ρ n).2 + (i' * cwidth cs + t))
    have old := hV.cells i' hi' t ht
    simp only [World.cell?, Loc.at, hh, Option.isSome_none, Bool.false_eq_true, if_false] at old
    show w'.cell? ⟨(ρ n).1, (ρ n).2 + (i' * cwidth cs + t), none⟩ = _
    simp only [World.cell?, e2, Option.isSome_none, Bool.false_eq_true, if_false]
    rw [List.getElem?_toArray, h9]
    have hs := rowVal_set (L := L') (col' := col') hc rfl i' t
    rw [Nat.sub_zero] at hs
    rw [hs, w1]
    have hr := flat_rng (z := cwidth cs) (i := i) (i' := i') (t := t) (b := b) (m := 1) ht hbw
    by_cases hb : b ≤ t ∧ t < b + 1
    ·rw [if_pos hb]
     obtain rfl : t = b := by omega
     rw [Nat.sub_self]
     by_cases hii : i' = i
     ·subst hii
      rw [if_pos (by simp)]
      show _ = some (Value.slice (L'.el c i').a (L'.el c i').len (L'.el c i').cap)
      have : L'.el c i' = ⟨A, m, cap⟩ := if_pos ⟨rfl, rfl⟩
      rw [this]
      simp
     ·rw [if_neg (fun q => by have := hr.1 (by simp at q; omega); exact hii this.1)]
      show _ = some (Value.slice (L'.el c i').a (L'.el c i').len (L'.el c i').cap)
      have : L'.el c i' = (ρ n).el c i' := if_neg (fun q => hii q.2)
      rw [this]
      have o4 := q4 i' 0 (by rw [w1]; omega)
      rw [Nat.add_zero] at o4
      rw [o4] at old
      simpa [colVal] using old
    ·rw [if_neg hb, if_neg (fun q => hb (by have := hr.1 (by simp at q; omega); omega))]
     rw [rowVal_chg hc hel i' t (by rw [w1]; exact hb)]
     simpa using old
   ·rw [getc] at hcc
    split at hcc
    ·simp [col'] at hcc
    ·rename_i hne
     rw [hel c' i' hne]
     obtain ⟨p1, p2, p3, p4⟩ := hV.inner c' kk ll hcc i' l' hl'
     refine ⟨p1, p2, p3, fun j x hx A' hA' => ?_⟩
     have hb : (A'.add j).block = A'.block := by unfold Addr.add; split <;> rfl
     have := hinn A'.block ⟨c', kk, ll, i', l', A', hcc, hl', fun e => by subst e; simp at hx, hA', rfl⟩
     exact (cell_same (a := A'.add j) (by rw [hb]; exact this)).trans (p4 j x hx A' hA')
  ·rw [hL', hwd]
   exact fun _ => ⟨ha, cur'.toArray, T0, fz, e2, by simp [e8]; omega, by simpa [e8] using hfz⟩
  ·rw [hL']
   intro c' kk ll hcc i' d hd
   rw [getc] at hcc
   split at hcc
   ·rename_i e
    subst e
    simp only [col', Option.some.injEq, Col.hss.injEq] at hcc
    obtain ⟨rfl, rfl⟩ := hcc
    rw [hset, List.getElem?_set] at hd
    by_cases hii : i = i'
    ·subst hii
     rw [if_pos rfl, if_pos (by omega)] at hd
     cases hd
     have : L'.el c' i = ⟨A, m, cap⟩ := if_pos ⟨rfl, rfl⟩
     rw [this]
     exact hE.ext rfl hcr
    ·rw [if_neg hii] at hd
     have : L'.el c' i' = (ρ n).el c' i' := if_neg (fun q => hii q.2.symm)
     rw [this]
     exact hE.ext rfl (hLn c' k' l q2 i' d hd)
   ·rename_i hne
    rw [hel c' i' hne]
    exact hE.ext rfl (hLn c' kk ll hcc i' d hd)
 have un : ∀ {m c}, Mem.find (σ.put n (.vec cs')) m = some c → (m = n ∧ c = .vec cs') ∨ (m ≠ n ∧ Mem.find σ m = some c) := by
  intro m c hm
  rw [find_put] at hm
  split at hm
  ·rename_i e; rw [hn] at hm; simp only [Option.map_some, Option.some.injEq] at hm; exact Or.inl ⟨e, hm.symm⟩
  ·rename_i e; exact Or.inr ⟨e, hm⟩
 have hne : ∀ m, m ≠ n → ρ' m = ρ m := fun m hm => upd_ne hm
 have outn : ∀ k, Out ρ' n (.vec cs') k → Out ρ n (.vec cs) k := fun k hk => by
  simp only [Out, hL'] at hk ⊢; exact hk
 have footn : ∀ k, Foot ρ' n (.vec cs') k → Foot ρ n (.vec cs) k := fun k hk => by
  simp only [Foot, hL'] at hk ⊢
  rcases hk with hk | hk
  ·exact Or.inl hk
  ·exact Or.inr (inn k hk)
 have memEl' : ∀ {m d}, Mem.find σ m = some d → d.segs.any (Seg.elOf n) = false := fun {m d} hm => by
  simp only [memEl, List.any_eq_false] at hme
  simpa using hme _ (find_mem hm)
 have hRep : Rep E ρ' fr (σ.put n (.vec cs')) a w' := by
  refine ⟨⟨hR.fr.1, fun t u hu => ?_⟩, hR.df, fun m c hm => ?_, ⟨fun m q c d x hm hq hmq hO hF => ?_, fun m c x hm hO hI => ?_⟩, fun m hm hh => by rw [hne m (by omega)]; exact hR.fix m hm hh, fun m hm => by rw [hne m (by have := isHeap_le hm; omega)]; exact hR.ext m hm, fun m c x hm hO => ?_, ?_⟩
  ·refine hE.srep ?_ (hR.fr.2 t u hu)
   have ht : t < fr.length := by rw [hR.fr.1]; exact (Array.getElem?_eq_some_iff.1 hu).1
   simp only [frEl, List.any_eq_false] at hfe
   simpa using hfe _ (Fr.get_mem ht)
  ·rcases un hm with ⟨rfl, rfl⟩ | ⟨hmn, hm'⟩
   ·exact hB
   ·have h1 := (hR.mem m c hm').keeps fun x hx => e3 x fun e => by subst e; exact hR.sep.1 n m _ c _ hn hm' (Ne.symm hmn) ⟨hcap, rfl⟩ hx
    cases c with
    | own T s =>
     obtain ⟨ho, hz, c, fz, hh, hf, hfz⟩ := h1
     exact ⟨ho, by rw [hne m hmn]; exact hz, c, fz, by rw [hne m hmn]; exact hh, hE.frep (memEl' hm') hf, hfz⟩
    | view s =>
     refine ⟨h1.1, fun j x hj => ?_⟩
     obtain ⟨u, hu, hcu⟩ := h1.2 j x hj
     exact ⟨u, by simp only [at_, hne m hmn]; exact hu, hE.ext (flat_elOf (memEl' hm') x (List.mem_of_getElem? hj)) hcu⟩
    | vec ds => exact ⟨by rw [hne m hmn]; exact h1.1, by rw [hne m hmn]; exact h1.2.1, by rw [hne m hmn]; exact hE.lnk h1.2.2⟩
    | rview ds => exact ⟨by rw [hne m hmn]; exact h1.1, by rw [hne m hmn]; exact hE.lnk h1.2⟩
    | heap kk os => exact ⟨h1.1, by rw [hne m hmn]; exact h1.2⟩
    | map kk ms =>
     obtain ⟨es, clock, q1, q2⟩ := h1
     exact ⟨es, clock, by rw [hne m hmn]; exact q1, q2.mono fun hv => hE.ext rfl hv⟩
  ·rcases un hm with ⟨rfl, rfl⟩ | ⟨hmn, hm'⟩
   ·rcases un hq with ⟨rfl, _⟩ | ⟨hqn, hq'⟩
    ·exact hmq rfl
    ·exact hR.sep.1 m q _ d x hn hq' hmq (outn x hO) ((Foot.agree (hne q hqn)).1 hF)
   ·rcases un hq with ⟨rfl, rfl⟩ | ⟨hqn, hq'⟩
    ·exact hR.sep.1 m q c _ x hm' hn hmq ((Out.agree (hne m hmn)).1 hO) (footn x hF)
    ·exact hR.sep.1 m q c d x hm' hq' hmq ((Out.agree (hne m hmn)).1 hO) ((Foot.agree (hne q hqn)).1 hF)
  ·rcases un hm with ⟨rfl, rfl⟩ | ⟨hmn, hm'⟩
   ·refine hR.sep.2 m _ x hn (outn x hO) ?_
    simp only [Inn, hL'] at hI
    exact inn x hI
   ·exact hR.sep.2 m c x hm' ((Out.agree (hne m hmn)).1 hO) ((Inn.agree (hne m hmn)).1 hI)
  ·rcases un hm with ⟨rfl, rfl⟩ | ⟨hmn, hm'⟩
   ·exact hR.own m _ x hn (outn x hO)
   ·exact hR.own m c x hm' ((Out.agree (hne m hmn)).1 hO)
  ·refine ⟨e5.trans hR.keep.os, e6.trans hR.keep.tape, e7.trans hR.keep.output, by rw [e4]; exact hR.keep.size, fun k hk hx => ?_⟩
   rw [← hR.keep.block k hk hx]
   refine e3 k fun e => ?_
   subst e
   rcases hR.own n _ _ hn ⟨hcap, rfl⟩ with q | q
   ·omega
   ·exact hx q
 have eaddr : at_ ρ n (i * cwidth cs + b + 0) = ⟨(ρ n).1, (ρ n).2 + (i * cwidth cs + b), none⟩ := by simp [at_]
 exact ⟨_, w', _, _, ρ', rfl, storeVar_run hsz rfl (by rw [eaddr]; exact e1), e4, hRep, h, e3, fun m hm => by rw [find_put, if_neg hm], hn, ⟨hcap, rfl⟩, hne⟩
end
def mat {α : Type} : List (List Int × α) → List Int → Option Nat
 | [], _ => none
 | p :: r, x => match leq x p.1 with
  | true => some 0
  | false => (mat r x).map (· + 1)
theorem leq_eq {a b : List Int} : leq a b = true ↔ a = b := by simp [leq]
theorem mat_miss {α : Type} {x : List Int} : ∀ {l : List (List Int × α)}, mat l x = none → mhas l x = false ∧ (∀ d, mget d l x = d) ∧ (∀ v, mput l x v = l ++ [(x, v)]) ∧ mdel l x = l
 | [], _ => ⟨rfl, fun _ => rfl, fun _ => rfl, rfl⟩
 | p :: r, h => by
  simp only [mat] at h
  cases hq : leq x p.1 with
  | true => rw [hq] at h; cases h
  | false =>
   rw [hq] at h
   simp only [Option.map_eq_none_iff] at h
   obtain ⟨h1, h2, h3, h4⟩ := mat_miss h
   simp only [mhas, mget, mput, mdel, hq]
   exact ⟨h1, h2, fun v => by rw [h3 v]; rfl, by rw [h4]⟩
theorem mat_hit {α : Type} {x : List Int} : ∀ {l : List (List Int × α)} {i : Nat}, mat l x = some i → ∃ p, l[i]? = some p ∧ p.1 = x ∧ mhas l x = true ∧ (∀ d, mget d l x = p.2) ∧ (∀ v, mput l x v = l.set i (p.1, v)) ∧ mdel l x = l.eraseIdx i
 | [], _, h => by simp [mat] at h
 | p :: r, i, h => by
  simp only [mat] at h
  cases hq : leq x p.1 with
  | true =>
   rw [hq] at h
   simp only [Option.some.injEq] at h
   subst h
   simp only [mhas, mget, mput, mdel, hq]
   exact ⟨p, rfl, (leq_eq.1 hq).symm, trivial, fun _ => rfl, fun _ => rfl, rfl⟩
  | false =>
   rw [hq] at h
   simp only [Option.map_eq_some_iff] at h
   obtain ⟨j, hj, rfl⟩ := h
   obtain ⟨p', h1, h2, h3, h4, h5, h6⟩ := mat_hit hj
   simp only [mhas, mget, mput, mdel, hq]
   exact ⟨p', by simpa using h1, h2, h3, h4, fun v => by rw [h5 v]; simp, by rw [h6]; simp⟩
section
variable {P : Program}
theorem KeyV.inj {kk : KK} {l : List Int} {u v : Value} (h : KeyV kk l u) (g : KeyV kk l v) : u = v := by
 cases kk with
 | int k => obtain ⟨n, e1, e2⟩ := h; obtain ⟨m, f1, f2⟩ := g; rw [e1] at f1; cases f1; rw [e2, f2]
 | arr k m => rw [h.2, g.2]
theorem keyx_sound {kk : KK} {x : AV} {key : List Int} {ρ : Rho} {v : Value} (h : keyx kk x = some key) (hx : SRep ρ x v) : KeyV kk key v := by
 unfold keyx at h
 split at h
 ·split at h <;> cases h
  rename_i e
  subst e
  exact ⟨_, rfl, hx⟩
 ·split at h <;> try (cases h; done)
  rename_i e
  split at h <;> cases h
  rename_i e2
  subst e e2
  exact srep_ints hx
 ·cases h
theorem run_check_arr {n : Nat} {kt e : TypeId} {k kk : IntKind} {l : List Int} (hu : P.underlying kt = some (.array n e)) (he : P.underlying e = some (.int k)) (hs : sizeB P e = some 1) (hl : l.length = n) (em : Bool) (w : World) :
  (Instr.checkKey em 10000 kt (.agg (l.map (Value.int kk)).toArray)).run P w = .ok () w := by
 obtain ⟨i, hi⟩ := info_of_underlying he
 have hag : (isAgg e).run P w = .ok false w := by unfold isAgg; rw [Sem.run_bind, run_underlying he w]; simp
 have hsz : (sizeOf e).run P w = .ok 1 w := run_sizeB hs w
 rw [show (10000 : Nat) = 9999 + 1 from rfl, Instr.checkKey]
 simp only [Sem.run_bind, run_underlying hu, Result.andThen_ok]
 simp only [Std.Legacy.Range.forIn_eq_forIn_range', Std.Legacy.Range.size, Nat.sub_zero, Nat.add_one_sub_one, Nat.div_one]
 have each : ∀ j ∈ List.range' 0 n, j < l.length := fun j hj => by simp at hj; omega
 generalize List.range' 0 n = is at each
 induction is with
 | nil => simp
 | cons j is ih =>
  have hj := each j (by simp)
  have hp : (part e (l.map (Value.int kk)).toArray (j * 1)).run P w = .ok (.int kk (l.getD j 0)) w := by
   simp [part, hag, hj, List.getD]
  have hc : (Instr.checkKey em 9999 e (.int kk (l.getD j 0))).run P w = .ok () w := by
   rw [show (9999 : Nat) = 9998 + 1 from rfl, Instr.checkKey]
   simp only [Sem.run_bind, run_underlying he, Result.andThen_ok, Sem.run_pure]
  simp only [List.forIn_cons, Sem.run_bind, hsz, Result.andThen_ok, hp, hc, Sem.run_pure]
  exact ih (fun y hy => each y (by simp [hy]))
theorem run_check {kk : KK} {kt : TypeId} {key : List Int} {v : Value} (hk : keyKind P kt = some kk) (hv : KeyV kk key v) (em : Bool) (w : World) : (Instr.checkKey em 10000 kt v).run P w = .ok () w := by
 unfold keyKind at hk
 split at hk
 ·rename_i k hu
  cases hk
  obtain ⟨n, _, rfl⟩ := hv
  exact MapKept.run_checkKey hu (by trivial) em 9999
 ·rename_i n e hu
  split at hk <;> cases hk
  rename_i k m hi
  obtain ⟨h1, rfl⟩ := hv
  unfold intArr at hi
  rw [hu] at hi
  simp only at hi
  split at hi <;> try (cases hi; done)
  rename_i k' he
  split at hi <;> try (cases hi; done)
  rename_i hs
  split at hi <;> cases hi
  exact run_check_arr hu he hs h1 em w
 ·cases hk
theorem find_int {k : IntKind} {a : Int} {α : Type} {vv : α → Value → Prop} : ∀ {l : List (List Int × α)} {es : List MapEntry} (i : Nat), EntL (.int k) vv l es →
  Instr.findNow (.int k) (.int k a) es i = some ((mat l [a]).bind fun j => (es[j]?).map fun e => (i + j, e.val))
 | [], es, i, h => by
  have := h.len
  cases es with
  | nil => rfl
  | cons e r => simp at this
 | p :: l, es, i, h => by
  have hl := h.len
  cases es with
  | nil => simp at hl
  | cons e r =>
   obtain ⟨⟨n, e1, e2⟩, _⟩ := h.at_ 0 p e rfl rfl
   have hr : EntL (.int k) vv l r := ⟨by simpa using hl, fun j p' e' hp he => h.at_ (j + 1) p' e' (by simpa using hp) (by simpa using he)⟩
   have ih := find_int (a := a) (i + 1) hr
   have hq : leq [a] p.1 = (a == n) := by rw [e1]; by_cases q : a = n <;> simp [leq, q]
   simp only [Instr.findNow, e2, Instr.sameNow, if_true, mat, hq]
   cases hb : (a == n) with
   | true => simp
   | false =>
    simp only [ih, Option.some.injEq]
    cases mat l [a] with
    | none => rfl
    | some j => simp only [Option.bind_some, Option.map_some, List.getElem?_cons_succ]; congr 1; funext x; congr 1; omega
theorem find_arr {kt : TypeId} {k : IntKind} {m : Nat} {x : List Int} (hi : intArr P kt = some (k, m)) (hx : x.length = m) {α : Type} {vv : α → Value → Prop} (w : World) : ∀ {l : List (List Int × α)} {es : List MapEntry} (i : Nat), EntL (.arr k m) vv l es →
  (Instr.findAsking kt (.agg (x.map (Value.int k)).toArray) es i).run P w = .ok ((mat l x).bind fun j => (es[j]?).map fun e => (i + j, e.val)) w
 | [], es, i, h => by
  have := h.len
  cases es with
  | nil => rfl
  | cons e r => simp at this
 | p :: l, es, i, h => by
  have hl := h.len
  cases es with
  | nil => simp at hl
  | cons e r =>
   obtain ⟨⟨e1, e2⟩, _⟩ := h.at_ 0 p e rfl rfl
   have hr : EntL (.arr k m) vv l r := ⟨by simpa using hl, fun j p' e' hp he => h.at_ (j + 1) p' e' (by simpa using hp) (by simpa using he)⟩
   have ih := find_arr hi hx w (i + 1) hr
   have hq := (run_eq_ints (kk := k) hi hx e1).2 w
   simp only [Instr.findAsking, Op.equal, Op.maxDepth, e2, Sem.run_bind, hq, Result.andThen_ok, mat]
   cases hb : leq x p.1 with
   | true => simp
   | false =>
    simp only [ih, Bool.false_eq_true, if_false]
    cases mat l x with
    | none => rfl
    | some j => simp only [Option.bind_some, Option.map_some, List.getElem?_cons_succ]; congr 2; funext x; congr 1; omega
theorem run_find {kk : KK} {kt : TypeId} {key : List Int} {v : Value} (hk : keyKind P kt = some kk) (hv : KeyV kk key v) {α : Type} {vv : α → Value → Prop} {l : List (List Int × α)} {es : List MapEntry} (h : EntL kk vv l es) (w : World) :
  (Instr.findKey kt v es).run P w = .ok ((mat l key).bind fun j => (es[j]?).map fun e => (j, e.val)) w := by
 unfold keyKind at hk
 split at hk
 ·rename_i k hu
  cases hk
  obtain ⟨n, rfl, rfl⟩ := hv
  have := find_int (a := n) 0 h
  simp only [Nat.zero_add] at this
  exact MapKept.run_findKey hu this
 ·rename_i n e hu
  split at hk <;> cases hk
  rename_i k m hi
  obtain ⟨h1, rfl⟩ := hv
  rw [run_findKey_eq (P := P) (w := w) (k := kt) (by simp [hu])]
  have := find_arr hi h1 w 0 h
  simp only [Nat.zero_add] at this
  exact this
 ·cases hk
theorem same_ints (k : IntKind) (n : Nat) (l : List Int) : Instr.sameBits (n + 2) (.agg (l.map (Value.int k)).toArray) (.agg (l.map (Value.int k)).toArray) = true := by
 simp only [Instr.sameBits, BEq.rfl, Bool.true_and, List.all_eq_true]
 intro p hp
 obtain ⟨i, hi⟩ := List.mem_iff_getElem?.1 hp
 simp only [List.getElem?_zip_eq_some, List.getElem?_map, Option.map_eq_some_iff] at hi
 obtain ⟨⟨a, ha, e1⟩, b, hb, e2⟩ := hi
 rw [ha] at hb
 cases hb
 rw [← e1, ← e2]
 simp [Instr.sameBits]
theorem run_stays {kk : KK} {key : List Int} {u v : Value} (hu : KeyV kk key u) (hv : KeyV kk key v) (w : World) : (Instr.keyThatStays u v).run P w = .ok v w := by
 have e := hu.inj hv
 subst e
 unfold Instr.keyThatStays
 have : Instr.sameBits 10000 u u = true := by
  cases kk with
  | int k => obtain ⟨n, _, rfl⟩ := hu; simp [Instr.sameBits]
  | arr k m => obtain ⟨_, rfl⟩ := hu; exact same_ints k 9998 key
 rw [this]; rfl
theorem look_gen {kk : KK} {t kt e : TypeId} {key : List Int} {v z : Value} {r : Nat} {es : Array MapEntry} {clock : Nat} {w : World} {α : Type} {vv : α → Value → Prop} {l : List (List Int × α)} {d : α} (ht : P.underlying t = some (.map kt e)) (hk : keyKind P kt = some kk) (hv : KeyV kk key v)
  (hb : w.heap[r]? = some (.map es clock)) (h : EntL kk vv l es.toList) (hz : (zeroValue e).run P w = .ok z w) (hd : vv d z) (ok : Bool) :
  ∃ val, vv (mget d l key) val ∧ (Instr.lookup t (.map (some r)) v ok).run P w = .ok (if ok then .tuple #[val, .bool (mhas l key)] else val) w := by
 have hf := run_find hk hv h w
 have hc := run_check hk hv es.isEmpty w
 cases hm : mat l key with
 | none =>
  obtain ⟨h1, h2, _, _⟩ := mat_miss hm
  rw [hm] at hf
  refine ⟨z, by rw [h2]; exact hd, ?_⟩
  simp only [Instr.lookup, Sem.run_bind, run_underlying ht, Result.andThen_ok, MapKept.run_getObj_map hb, Sem.run_pure, hc, hf, Option.bind_none, hz, h1]
 | some i =>
  obtain ⟨p, h1, h2, h3, h4, _, _⟩ := mat_hit hm
  have hlt : i < es.toList.length := by rw [← h.len]; exact (List.getElem?_eq_some_iff.1 h1).1
  have he : es.toList[i]? = some es.toList[i] := List.getElem?_eq_getElem hlt
  rw [hm] at hf
  simp only [Option.bind_some, he, Option.map_some] at hf
  refine ⟨es.toList[i].val, by rw [h4]; exact (h.at_ i p _ h1 he).2, ?_⟩
  simp only [Instr.lookup, Sem.run_bind, run_underlying ht, Result.andThen_ok, MapKept.run_getObj_map hb, Sem.run_pure, hc, hf, h3]
theorem update_gen {kk : KK} {t kt e : TypeId} {key : List Int} {v u : Value} {r : Nat} {es : Array MapEntry} {clock : Nat} {w : World} {α : Type} {vv : α → Value → Prop} {l : List (List Int × α)} {x : α} (ht : P.underlying t = some (.map kt e)) (hk : keyKind P kt = some kk) (hv : KeyV kk key v)
  (hb : w.heap[r]? = some (.map es clock)) (h : EntL kk vv l es.toList) (hx : vv x u) :
  ∃ es' clock', (Instr.mapUpdate t (.map (some r)) v u).run P w = .ok () { w with heap := w.heap.setIfInBounds r (.map es' clock') } ∧ EntL kk vv (mput l key x) es'.toList := by
 have hf := run_find hk hv h w
 have hc := run_check hk hv false w
 cases hm : mat l key with
 | none =>
  obtain ⟨_, _, h3, _⟩ := mat_miss hm
  rw [hm] at hf
  refine ⟨es.push { key := v, val := u, born := clock }, clock + 1, ?_, ?_⟩
  ·simp only [Instr.mapUpdate, Sem.run_bind, run_underlying ht, Result.andThen_ok, MapKept.run_getObj_map hb, Sem.run_pure, hc, hf, Option.bind_none, MapKept.run_setObj_map _ hb]
  ·rw [h3, Array.toList_push]
   refine ⟨by simp [h.len], fun i p e' hp he => ?_⟩
   rcases Nat.lt_or_ge i l.length with hi | hi
   ·rw [List.getElem?_append_left hi] at hp
    rw [List.getElem?_append_left (by rw [← h.len]; exact hi)] at he
    exact h.at_ i p e' hp he
   ·rw [List.getElem?_append_right hi] at hp
    rw [List.getElem?_append_right (by rw [← h.len]; exact hi), ← h.len] at he
    have hi0 : i - l.length = 0 := by
     have := (List.getElem?_eq_some_iff.1 hp).1; simp at this; omega
    rw [hi0] at hp he
    simp at hp he
    subst hp he
    exact ⟨hv, hx⟩
 | some i =>
  obtain ⟨p, h1, h2, _, _, h5, _⟩ := mat_hit hm
  have hlt : i < es.toList.length := by rw [← h.len]; exact (List.getElem?_eq_some_iff.1 h1).1
  have he : es.toList[i]? = some es.toList[i] := List.getElem?_eq_getElem hlt
  obtain ⟨g1, g2⟩ := h.at_ i p _ h1 he
  rw [h2] at g1
  rw [hm] at hf
  simp only [Option.bind_some, he, Option.map_some] at hf
  have hea : es[i]? = some es.toList[i] := by rw [← Array.getElem?_toList]; exact he
  refine ⟨es.modify i fun e => { e with key := v, val := u }, clock, ?_, ?_⟩
  ·simp only [Instr.mapUpdate, Sem.run_bind, run_underlying ht, Result.andThen_ok, MapKept.run_getObj_map hb, Sem.run_pure, hc, hf, hea, Option.map_some, Option.getD_some, run_stays g1 hv w, MapKept.run_setObj_map _ hb]
  ·rw [h5, Array.toList_modify]
   refine ⟨by simp [h.len], fun j q e' hp he' => ?_⟩
   rw [List.getElem?_set] at hp
   rw [List.getElem?_modify] at he'
   by_cases hij : i = j
   ·subst hij
    rw [if_pos rfl, if_pos (by rw [h.len]; exact hlt)] at hp
    cases hp
    simp only [he, if_true] at he'
    cases he'
    exact ⟨by rw [h2]; exact hv, hx⟩
   ·rw [if_neg hij] at hp
    simp only [hij, if_false, Option.map_id'] at he'
    refine h.at_ j q e' hp ?_
    cases hq : es.toList[j]? with
    | none => rw [hq] at he'; simp at he'
    | some y => rw [hq] at he'; simpa using he'
theorem delete_gen {kk : KK} {t t2 kt e ot : TypeId} {key : List Int} {v : Value} {r : Nat} {es : Array MapEntry} {clock : Nat} {w : World} {α : Type} {vv : α → Value → Prop} {l : List (List Int × α)} (ht : P.underlying t = some (.map kt e)) (hk : keyKind P kt = some kk) (hv : KeyV kk key v)
  (hb : w.heap[r]? = some (.map es clock)) (h : EntL kk vv l es.toList) :
  ∃ es', (Builtin.delete_ #[t, t2] ot #[.map (some r), v]).run P w = .ok (.tuple #[]) { w with heap := w.heap.setIfInBounds r (.map es' clock) } ∧ EntL kk vv (mdel l key) es'.toList := by
 have hf := run_find hk hv h w
 have hc := run_check hk hv es.isEmpty w
 cases hm : mat l key with
 | none =>
  obtain ⟨_, _, _, h4⟩ := mat_miss hm
  rw [hm] at hf
  refine ⟨es, ?_, by rw [h4]; exact h⟩
  simp [Builtin.delete_, run_underlying ht, Result.andThen, MapKept.run_getObj_map hb, hc, hf, MapKept.run_setObj_map _ hb]
 | some i =>
  obtain ⟨p, h1, h2, _, _, _, h6⟩ := mat_hit hm
  have hlt : i < es.toList.length := by rw [← h.len]; exact (List.getElem?_eq_some_iff.1 h1).1
  have he : es.toList[i]? = some es.toList[i] := List.getElem?_eq_getElem hlt
  rw [hm] at hf
  simp only [Option.bind_some, he, Option.map_some] at hf
  refine ⟨es.eraseIdxIfInBounds i, ?_, ?_⟩
  ·simp [Builtin.delete_, run_underlying ht, Result.andThen, MapKept.run_getObj_map hb, hc, hf, MapKept.run_setObj_map _ hb]
  ·rw [h6, Array.toList_eraseIdxIfInBounds]
   refine ⟨by rw [List.length_eraseIdx, List.length_eraseIdx, h.len], fun j q e' hp he' => ?_⟩
   rw [List.getElem?_eraseIdx] at hp he'
   split at hp
   ·rename_i hj; rw [if_pos hj] at he'; exact h.at_ _ q e' hp he'
   ·rename_i hj; rw [if_neg hj] at he'; exact h.at_ _ q e' hp he'
section
variable {E : Env} {ρ : Rho} {fr : Fr} {σ : Mem} {a : Act} {w : World}
theorem mapAt_sound {t : TypeId} {x : AV} {v : Value} {K : Nat → KK → MVs → Prop} (h : mapAt P σ t x K) (hm : MemRep ρ σ w) (hx : SRep ρ x v) :
  ∃ n kk m kt e es clock m0, Mem.find σ n = some (.map kk m) ∧ v = .map (some (ρ n).1) ∧ P.underlying t = some (.map kt e) ∧ keyKind P kt = some kk ∧ mapNil P σ e = some m0 ∧ MVs.like m0 m = true ∧
   w.heap[(ρ n).1]? = some (.map es clock) ∧ MRep ρ kk m es.toList ∧ K n kk m := by
 unfold mapAt at h
 split at h <;> try exact h.elim
 rename_i n
 split at h <;> try exact h.elim
 rename_i kk m kt e hf hu
 split at h <;> try exact h.elim
 rename_i kk' m0 hk h0
 split at h <;> try exact h.elim
 rename_i hq
 rw [Bool.and_eq_true] at hq
 obtain ⟨hb, hl⟩ := hq
 have : kk = kk' := by
  cases kk <;> cases kk' <;> simp [KK.beq] at hb
  ·rw [hb]
  ·rw [hb.1, hb.2]
 subst this
 obtain ⟨es, clock, q1, q2⟩ := hm n _ hf
 exact ⟨n, kk, m, kt, e, es, clock, m0, hf, hx, hu, hk, h0, hl, q1, q2, h⟩
theorem mapNil_zero {e : TypeId} {m0 m : MVs} (h : mapNil P σ e = some m0) (hl : MVs.like m0 m = true) (hm : MemRep ρ σ w) :
  ∃ z, (zeroValue e).run P w = .ok z w ∧ match m with
   | .ints k _ => z = .int k 0
   | .strs _ => z = .string ByteArray.empty
   | .hss k _ => CRep ρ (.hs k 0 0 0) z := by
 unfold mapNil at h
 split at h
 ·cases h
 ·rename_i z hz
  cases hi : P.info? e with
  | none => rw [hi] at hz; cases hz
  | some i =>
   rw [hi] at hz
   simp only [Option.bind_some] at hz
   have hrun : (zeroValue e).run P w = .ok z w := by simp [zeroValue, typeInfo, hi, hz]
   refine ⟨z, hrun, ?_⟩
   split at h
   ·split at h <;> cases h
    rename_i k _ hc
    cases m <;> simp [MVs.like] at hl
    subst hl
    cases z <;> simp [acIs] at hc
    obtain ⟨rfl, rfl⟩ := hc
    rfl
   ·split at h <;> cases h
    rename_i hc
    cases m <;> simp [MVs.like] at hl
    cases z <;> simp [acIs] at hc
    subst hc
    rfl
   ·split at h <;> try (cases h; done)
    rename_i hc he
    split at h <;> cases h
    have hz0 : z = .slice none 0 0 := (acIs_sound ρ hc).1
    subst hz0
    cases m <;> simp [MVs.like] at hl
    subst hl
    obtain ⟨_, hH⟩ := hm _ _ (heap_find ‹Mem.heap σ _ = some _›)
    have hn := hH.pos
    rw [← hH.n] at hn
    exact ⟨none, 0, rfl, Nat.le_refl _, by omega, hn, Or.inl rfl, by rw [hH.zero], fun q => absurd hH.zero q⟩
   ·cases h
theorem mapNil_nil {e : TypeId} {m : MVs} (h : mapNil P σ e = some m) (ρ : Rho) (kk : KK) : MRep ρ kk m [] := by
 have nl : ∀ {α : Type} {vv : α → Value → Prop}, EntL kk vv [] [] := ⟨rfl, fun i p e hp => by simp at hp⟩
 unfold mapNil at h
 split at h
 ·cases h
 ·split at h
  ·split at h <;> cases h; exact nl
  ·split at h <;> cases h; exact nl
  ·split at h <;> try (cases h; done)
   split at h <;> cases h; exact nl
  ·cases h
theorem set_block {r k : Nat} {o : Obj} (h : k ≠ r) : (w.heap.setIfInBounds r o)[k]? = w.heap[k]? := by
 rw [Array.getElem?_setIfInBounds, if_neg (Ne.symm h)]
theorem map_change (hR : Rep E ρ fr σ a w) {n : Nat} {kk : KK} {m m' : MVs} {es es' : Array MapEntry} {clock clock' : Nat} (hf : Mem.find σ n = some (.map kk m)) (hb : w.heap[(ρ n).1]? = some (.map es clock)) (h : MRep ρ kk m' es'.toList) :
  Rep E ρ fr (σ.put n (.map kk m')) a { w with heap := w.heap.setIfInBounds (ρ n).1 (.map es' clock') } := by
 have hlt := block_lt hb
 refine change_sound hR hf (g := (ρ n).1) rfl (fun k hk => set_block hk) (by simp) rfl rfl rfl ⟨es', clock', ?_, h⟩ (fun _ q => q) (fun _ q => q) (fun _ q => q)
 show (w.heap.setIfInBounds _ _)[_]? = _
 rw [Array.getElem?_setIfInBounds, if_pos rfl, if_pos hlt]
theorem map_new (hR : Rep E ρ fr σ a w) {d : Nat} {kk : KK} {m : MVs} (hd : freshB d fr σ = true) (h : ∀ ρ, MRep ρ kk m []) :
  Rep E (upd ρ d (newLoc w.heap.size)) fr ((d, .map kk m) :: σ) a (World.with w (.map #[] 0)) := by
 have hlt : ∀ {m c k}, Mem.find σ m = some c → Foot ρ m c k → k < w.heap.size := fun hm hk => in_range (hR.mem _ _ hm) hk
 have e1 : ∀ k, k = (upd ρ d (newLoc w.heap.size) d).1 → k = w.heap.size := fun k hk => by rw [upd_eq] at hk; exact hk
 refine add_sound hR hd ⟨hR.keep.os, hR.keep.tape, hR.keep.output, by rw [with_size]; have := hR.keep.size; omega, fun k hk hx => by rw [with_old (by have := hR.keep.size; omega)]; exact hR.keep.block k hk hx⟩ (fun m c k hm hk => with_old (hlt hm hk))
  ⟨#[], 0, by rw [upd_eq]; exact with_new, h _⟩ (fun k hk => ?_) (fun k hk m c hm hO => ?_)
 ·have := e1 k hk
  subst this
  exact ⟨Or.inl hR.keep.size, fun m c hm hk => by have := hlt hm hk; omega, fun q => q⟩
 ·have := e1 k hk
  subst this
  have := hlt hm hO.foot
  omega
end
end
def OwnAt (ρ : Rho) (σ : Mem) (k : Nat) : Prop := ∃ n b, Mem.find σ n = some b ∧ Out ρ n b k
structure Good (P : Program) (f : FuncId) (s : Spec) : Prop where
 calls : ∀ d args σ (K : AV → Mem → Prop), s.sem d args σ K → ∀ (ρ : Rho) (w : World) (vals : Array Value), Glob ρ → MemRep ρ σ w → Sep ρ σ → args.length = vals.size →
  (∀ (j : Nat) x v, args[j]? = some x → vals[j]? = some v → SRep ρ x v) → (∀ k, k < s.news → d + 10000 * k < 200000 ∧ memRefs (d + 10000 * k) σ = false) →
  Calls P f vals w fun e w' => ∃ v av σ' ρ', e = .returned v ∧ K av σ' ∧ SRep ρ' av v ∧ MemRep ρ' σ' w' ∧ Sep ρ' σ' ∧ (∀ n, isHeap n = false → (∀ k, k < s.news → n ≠ d + 10000 * k) → ρ' n = ρ n) ∧ (∀ n, isHeap n = true → HExt (ρ n) (ρ' n)) ∧
   (∀ n b k, Mem.find σ' n = some b → Out ρ' n b k → OwnAt ρ σ k ∨ w.heap.size ≤ k) ∧ Keeps (OwnAt ρ σ) w w' ∧ (s.mods = false → Keeps (fun _ => False) w w' ∧ (∀ m b, Mem.find σ m = some b → Mem.find σ' m = some b) ∧ ∀ n, isHeap n = true → ρ' n = ρ n)
def GoodG (P : Program) (Γ : Gam) : Prop := ∀ f s, Γ f = some s → Good P f s ∧ ∃ fn, P.funcs[f]? = some fn ∧ fn.name ≠ "runtime.NumGoroutine" ∧ fn.body.isSome = true
theorem freshAll_sound {d : Nat} {fr : Fr} {σ : Mem} : ∀ {m : Nat}, freshAll d fr σ m = true → ∀ k, k < m → freshB (d + 10000 * k) fr σ = true
 | 0, _, k, h => by omega
 | m + 1, h, k, hk => by
  simp only [freshAll, Bool.and_eq_true] at h
  by_cases e : k = m
  ·subst e; exact h.1
  ·exact freshAll_sound h.2 k (by omega)
section
variable {P : Program} {Γ : Gam} {E : Env} {ρ : Rho} {fr : Fr} {σ : Mem} {a : Act} {w : World}
theorem callx_sound {f : FuncId} {dst : Option Tmp} {args : List AV} {vals : Array Value} {K : AV → Mem → Prop} (h : callx Γ f dst args fr σ K) (hΓ : GoodG P Γ) (hR : Rep E ρ fr σ a w) (hl : args.length = vals.size)
  (hv : ∀ (j : Nat) x v, args[j]? = some x → vals[j]? = some v → SRep ρ x v) :
  ∃ s d, Γ f = some s ∧ (s.news ≠ 0 → dst = some d) ∧ Calls P f vals w fun e w' => ∃ v av σ' ρ', e = .returned v ∧ K av σ' ∧ SRep ρ' av v ∧ Rep E ρ' fr σ' a w' ∧ w.heap.size ≤ w'.heap.size ∧ (∀ n, isHeap n = false → (∀ k, k < s.news → n ≠ d + 10000 * k) → ρ' n = ρ n) ∧ (s.mods = false → Keeps (fun _ => False) w w' ∧ (∀ m b, Mem.find σ m = some b → Mem.find σ' m = some b) ∧ ∀ n, isHeap n = true → ρ' n = ρ n) := by
 have fin : ∀ {s : Spec} {d : Nat}, Γ f = some s → (∀ k, k < s.news → freshB (d + 10000 * k) fr σ = true) → s.sem d args σ K →
   Calls P f vals w fun e w' => ∃ v av σ' ρ', e = .returned v ∧ K av σ' ∧ SRep ρ' av v ∧ Rep E ρ' fr σ' a w' ∧ w.heap.size ≤ w'.heap.size ∧ (∀ n, isHeap n = false → (∀ k, k < s.news → n ≠ d + 10000 * k) → ρ' n = ρ n) ∧ (s.mods = false → Keeps (fun _ => False) w w' ∧ (∀ m b, Mem.find σ m = some b → Mem.find σ' m = some b) ∧ ∀ n, isHeap n = true → ρ' n = ρ n) := by
  intro s d hs hfr hsem
  have unp : ∀ k, k < s.news → d + 10000 * k < 200000 ∧ frRefs (d + 10000 * k) fr = false ∧ memRefs (d + 10000 * k) σ = false := fun k hk => freshB_parts (hfr k hk)
  refine ((hΓ f s hs).1.calls d args σ K hsem ρ w vals hR.glob hR.mem hR.sep hl hv (fun k hk => ⟨(unp k hk).1, (unp k hk).2.2⟩)).mono ?_
  rintro e w' ⟨v, av, σ', ρ', rfl, hK, hav, hm, hs', hρ, hext, hown, hk1, hk2⟩
  refine ⟨v, av, σ', ρ', rfl, hK, hav, ⟨?_, hR.df, hm, hs', fun n hn hh => ?_, fun n hn => (hR.ext n hn).trans (hext n hn), fun n b k hn hO => ?_, ?_⟩, hk1.size, hρ, hk2⟩
  ·refine hR.fr.agree fun n hn => ?_
   cases hh : isHeap n with
   | true => exact hext n hh
   | false =>
   refine .of_eq (hρ n hh fun k hk e => ?_)
   subst e
   rw [(unp k hk).2.1] at hn; cases hn
  ·rw [hρ n hh fun k hk e => by have := (unp k hk).1; omega]
   exact hR.fix n hn hh
  ·rcases hown n b k hn hO with ⟨m, c, hm2, e⟩ | hge
   ·exact hR.own m c k hm2 e
   ·left; have := hR.keep.size; omega
  ·refine hR.keep.trans hk1 fun i hi ⟨m, c, hm2, e⟩ => ?_
   rcases hR.own m c i hm2 e with q | q
   ·omega
   ·exact q
 unfold callx at h
 split at h <;> try exact h.elim
 rename_i s hs
 split at h
 ·rename_i d
  split at h <;> try exact h.elim
  rename_i hf
  exact ⟨s, d, hs, fun _ => rfl, fin hs (freshAll_sound hf) h⟩
 ·split at h <;> try exact h.elim
  rename_i hn
  exact ⟨s, 0, hs, fun q => absurd hn q, fin hs (fun k hk => by omega) h⟩
end
section
variable {P : Program} {Γ : Gam} {E : Env} {ρ : Rho} {fr : Fr} {σ : Mem} {a : Act} {w : World}
theorem segs_refs {x : AV} {s : List Seg} (h : x.segs = some s) (d : Nat) (hx : x.refs d = false) : segsRefs d s = false := by
 cases x <;> simp only [AV.segs, Option.some.injEq] at h <;> try (cases h; done)
 ·subst h; simpa [segsRefs, Seg.refs, AV.refs] using hx
 ·subst h; exact hx
theorem ev_refs {d : Nat} {x : Operand} (hf : frRefs d fr = false) (hd : d < 200000) : (ev fr x).refs d = false := by
  cases x with
  | tmp t =>
    simp only [ev]
    by_cases ht : t < fr.length
    · simp only [frRefs, List.any_eq_false] at hf
      simpa using hf _ (Fr.get_mem ht)
    · rw [Fr.get_out fr t (Nat.le_of_not_lt ht)]; rfl
  | const v =>
    simp only [ev]
    have h1 : ∀ c, (AC.ofConst c).refs d = false := by intro c; cases c <;> rfl
    cases v <;> simp only [AV.ofConst] <;> first
      | exact h1 _
      | rfl
      | (split
         · simp only [AV.refs, segsRefs, List.any_cons, Seg.refs, List.any_nil, Bool.or_false, cellsOf, List.any_map, List.any_eq_false]
           intro c _; simpa using h1 c
         · rfl)
  | global g => simp only [ev, AV.refs, AC.refs, gname, beq_eq_false_iff_ne]; omega
  | func f => rfl
theorem zero_refs {t : TypeId} {s : List Seg} (h : zeroSegs P t = some s) (d : Nat) : segsRefs d s = false := by
 obtain ⟨_, _, z, _, _, hf⟩ := zeroSegs_sound h
 unfold zeroSegs at h
 split at h <;> try (cases h; done)
 split at h <;> try (cases h; done)
 rename_i hb
 simp only [Option.some.injEq] at h
 subst h
 simp only [Bool.and_eq_true] at hb
 have key : ∀ {l : List AC} {c : List Value}, flatIs l c = true → l.any (AC.refs d) = false := by
  intro l
  induction l with
  | nil => intro c _; rfl
  | cons x l ih =>
   intro c h
   cases c with
   | nil => simp [flatIs] at h
   | cons v c =>
    simp only [flatIs, Bool.and_eq_true] at h
    simp only [List.any_cons, ih h.2, Bool.or_false]
    cases x <;> first | rfl | (exfalso; cases v <;> simp [acIs] at h)
 have h2 := key hb.2
 have flatRefs : ∀ {s : List Seg}, (flat s).any (AC.refs d) = false → segsRefs d s = false := by
  intro s
  induction s with
  | nil => intro _; rfl
  | cons x r ih =>
   intro h
   simp only [flat, List.any_append, Bool.or_eq_false_iff] at h
   simp only [segsRefs, List.any_cons, Bool.or_eq_false_iff]
   refine ⟨?_, ih h.2⟩
   cases x <;> first | rfl | exact h.1
 exact flatRefs h2
theorem newx_sound {o : Oper} {T : TypeId} {s : List Seg} {c : List Value} {K : AV → Mem → Prop} (h : newx o.dst fr σ (.own T s) fun n σ' => K (.one (.ptr n 0 0)) σ') (hR : Rep E ρ fr σ a w) (ho : segsOk s) (hs : ∀ d, d < 200000 → frRefs d fr = false → segsRefs d s = false) (hf : FRep ρ (flat s) c) :
  ∃ d σ' ρ', o.dst = some d ∧ K (.one (.ptr d 0 0)) σ' ∧ SRep ρ' (.one (.ptr d 0 0)) (.pointer (some ⟨w.heap.size, 0, none⟩)) ∧ Rep E ρ' fr σ' a (World.with w (.cells c.toArray T)) ∧ (∀ n, n ≠ d → ρ' n = ρ n) ∧ (∀ m b, Mem.find σ m = some b → Mem.find σ' m = some b) ∧ isHeap d = false := by
 unfold newx at h
 split at h <;> try exact h.elim
 rename_i d hd
 split at h <;> try exact h.elim
 rename_i hfr
 obtain ⟨h1, h2, h3⟩ := freshB_parts hfr
 exact ⟨d, _, _, hd, h, by simp [SRep, CRep, at_, upd_eq, newLoc], (new_sound hR hfr ho (hs d h1 h2) hf).find_eq (find_ins h3), fun n hn => upd_ne hn, ins_old hfr, isHeap_no (Or.inl (by omega))⟩
theorem newx_open {dst : Option Tmp} {b : Blk} {K : Nat → Mem → Prop} (h : newx dst fr σ b K) : ∃ d, dst = some d ∧ freshB d fr σ = true ∧ K d (Mem.ins d b σ) := by
 unfold newx at h
 split at h <;> try exact h.elim
 rename_i d
 split at h <;> try exact h.elim
 rename_i hfr
 exact ⟨d, rfl, hfr, h⟩
theorem with_keeps (o : Obj) : Keeps (fun _ => False) w (World.with w o) := ⟨rfl, rfl, rfl, by rw [with_size]; omega, fun k hk _ => with_old hk⟩
theorem run_newVar (T : TypeId) (v : Value) : (newVar T v).run P w = .ok ⟨w.heap.size, 0, none⟩ (World.with w (.cells v.cells T)) := by
 simp [newVar, newRow, newObj, Sem.run, World.with, pure, Bind.bind, Sem.bind]
def Leaves (Γ : Gam) (ρ ρ' : Rho) (fr : Fr) (op : Op) (σ σ' : Mem) (w w' : World) : Prop :=
 (modOp Γ op = false → Keeps (fun _ => False) w w' ∧ (∀ m b, Mem.find σ m = some b → Mem.find σ' m = some b) ∧ ∀ n, isHeap n = true → ρ' n = ρ n) ∧
 ∀ T x y n m, op = .store T x y → addrName (ev fr x) = some n → n ≠ m → ρ' m = ρ m ∧ ∀ b, Mem.find σ m = some b → (∀ k, Foot ρ m b k → w'.heap[k]? = w.heap[k]?) ∧ Mem.find σ' m = some b
theorem Leaves.of {ρ' : Rho} {op : Op} {σ' : Mem} {w' : World} (h : modOp Γ op = false → Keeps (fun _ => False) w w' ∧ (∀ m b, Mem.find σ m = some b → Mem.find σ' m = some b) ∧ ∀ n, isHeap n = true → ρ' n = ρ n) (hs : ∀ T x y, op ≠ .store T x y) : Leaves Γ ρ ρ' fr op σ σ' w w' :=
 ⟨h, fun T x y n m q => absurd q (hs T x y)⟩
theorem mapx_sound {o : Oper} {K : AV → Mem → Prop} {next : Act → World → Prop} {Q : Exit → Act → World → Prop} (h : mapx P o.op o.dst fr σ K) (hR : Rep E ρ fr σ a w)
  (hn : ∀ v av σ' ρ' w', K av σ' → SRep ρ' av v → Rep E ρ' fr σ' a w' → w.heap.size ≤ w'.heap.size → (modOp Γ o.op = false → ∀ n, isHeap n = false → n ∉ newNames Γ fr o.op o.dst → ρ' n = ρ n) → Leaves Γ ρ ρ' fr o.op σ σ' w w' → next (a.put o.dst v) w') : o.wp P a w next Q := by
 have Ev := fun x => ev_sound hR.glob hR.fr x
 have made : ∀ {t : TypeId} {r : Option Operand}, o.op = .makeMap t r → makeMapx P t o.dst fr σ K → (execOp a.eval o).run P w = .ok (.value (.map (some w.heap.size))) (World.with w (.map #[] 0)) → o.wp P a w next Q := by
  intro t r hop h hrun
  unfold Oper.wp
  unfold makeMapx at h
  split at h <;> try exact h.elim
  split at h <;> try exact h.elim
  rename_i kk m hk h0
  obtain ⟨d, hd, hfr, hK⟩ := newx_open h
  have hR' := (map_new (kk := kk) hR hfr (fun ρ => mapNil_nil h0 ρ kk)).find_eq (find_ins (freshB_parts hfr).2.2)
  rw [hrun]
  simp only [Oper.upon]
  refine hn _ _ _ _ _ hK (by simp [SRep, CRep, upd_eq, newLoc]) hR' (by rw [with_size]; omega) (fun _ n _ hn' => upd_ne ?_) (.of (fun _ => ⟨with_keeps _, ins_old hfr, fun n hh => upd_ne (by have := isHeap_le hh; have := (freshB_parts hfr).1; omega)⟩) fun _ _ _ q => by rw [hop] at q; cases q)
  simp only [newNames, hop, hd, List.mem_singleton] at hn'
  exact hn'
 unfold mapx at h
 split at h
 ·rename_i t hop
  exact made hop h (by simp [execOp, hop, Instr.makeMap, newObj, Sem.run, World.with])
 ·rename_i t r hop
  split at h <;> try exact h.elim
  rename_i k n hr
  have vr : a.eval r = .int k n := by have := Ev r; rw [hr] at this; exact this
  have hm := h
  unfold makeMapx at hm
  split at hm <;> try exact hm.elim
  rename_i kt e hu
  exact made hop h (by simp [execOp, hop, vr, Instr.makeMap, run_underlying hu, asInt, asIntOf, newObj, Sem.run, World.with, Result.andThen])
 ·rename_i t x i ok hop
  obtain ⟨n, kk, m, kt, e, es, clock, m0, hf, hv, hu, hk, h0, hl, hb, hM, h⟩ := mapAt_sound h hR.mem (Ev x)
  split at h <;> try exact h.elim
  rename_i key hkey
  have hkv := keyx_sound hkey (Ev i)
  obtain ⟨z, hz, hzz⟩ := mapNil_zero (P := P) h0 hl hR.mem
  have key : ∃ val, CRep ρ (m.get key) val ∧ (Instr.lookup t (.map (some (ρ n).1)) (a.eval i) ok).run P w = .ok (if ok then .tuple #[val, .bool (m.has key)] else val) w := by
   cases m with
   | ints k l => exact look_gen (d := (0 : Int)) hu hk hkv hb hM hz hzz ok
   | strs l => exact look_gen (d := ByteArray.empty) hu hk hkv hb hM hz hzz ok
   | hss k l => exact look_gen (d := hs0) hu hk hkv hb hM hz hzz ok
  obtain ⟨val, hval, hrun0⟩ := key
  have hrun : (execOp a.eval o).run P w = .ok (.value (if ok then .tuple #[val, .bool (m.has key)] else val)) w := by
   simp [execOp, hop, hv, hrun0]
  unfold Oper.wp
  rw [hrun]
  simp only [Oper.upon]
  have leaves : Leaves Γ ρ ρ fr o.op σ σ w w := .of (fun _ => ⟨Keeps.refl _ _, fun _ _ q => q, fun _ _ => rfl⟩) fun _ _ _ q => by rw [hop] at q; cases q
  cases ok with
  | true =>
   refine hn _ _ σ ρ w h ⟨[val, .bool (m.has key)], rfl, rfl, fun j u v' hj hv' => ?_⟩ hR (Nat.le_refl _) (fun _ _ _ _ => rfl) leaves
   match j with
   | 0 => simp at hj hv'; subst hj hv'; exact hval
   | 1 => simp at hj hv'; subst hj hv'; exact rfl
   | j + 2 => simp at hj
  | false => exact hn _ _ σ ρ w h hval hR (Nat.le_refl _) (fun _ _ _ _ => rfl) leaves
 ·rename_i t x i v hop
  obtain ⟨n, kk, m, kt, e, es, clock, m0, hf, hv, hu, hk, h0, hl, hb, hM, h⟩ := mapAt_sound h hR.mem (Ev x)
  split at h <;> try exact h.elim
  rename_i key hkey
  have hkv := keyx_sound hkey (Ev i)
  split at h <;> try exact h.elim
  rename_i m' hput
  have E2 := Ev v
  have key : ∃ es' clock', (Instr.mapUpdate t (.map (some (ρ n).1)) (a.eval i) (a.eval v)).run P w = .ok () { w with heap := w.heap.setIfInBounds (ρ n).1 (.map es' clock') } ∧ MRep ρ kk m' es'.toList := by
   cases m with
   | ints k l =>
    simp only [MVs.put] at hput
    split at hput <;> try (cases hput; done)
    rename_i k' x' hx'
    split at hput <;> cases hput
    rename_i ek
    subst ek
    rw [hx'] at E2
    exact update_gen hu hk hkv hb hM E2
   | strs l =>
    simp only [MVs.put] at hput
    split at hput <;> cases hput
    rename_i x' hx'
    rw [hx'] at E2
    exact update_gen hu hk hkv hb hM E2
   | hss k l =>
    simp only [MVs.put] at hput
    split at hput <;> try (cases hput; done)
    rename_i k' j o' n' hx'
    split at hput <;> cases hput
    rename_i ek
    subst ek
    rw [hx'] at E2
    exact update_gen (x := (⟨j, o', n'⟩ : HS)) hu hk hkv hb hM E2
  obtain ⟨es', clock', hrun0, hM'⟩ := key
  have hrun : (execOp a.eval o).run P w = .ok .skip { w with heap := w.heap.setIfInBounds (ρ n).1 (.map es' clock') } := by
   simp [execOp, hop, hv, hrun0]
  unfold Oper.wp
  rw [hrun]
  simp only [Oper.upon]
  exact hn _ (.tup []) _ ρ _ h ⟨[], rfl, rfl, fun j t u hj => by simp at hj⟩ (map_change hR hf hb hM') (by simp) (fun _ _ _ _ => rfl) (.of (fun q => by simp [modOp, hop] at q) fun _ _ _ q => by rw [hop] at q; cases q)
 ·rename_i args argTypes hop
  split at h <;> try exact h.elim
  rename_i x i t t2 hx ht
  have ea : args = #[x, i] := by rw [← Array.toArray_toList (xs := args), hx]
  have et : argTypes = #[t, t2] := by rw [← Array.toArray_toList (xs := argTypes), ht]
  subst ea et
  obtain ⟨n, kk, m, kt, e, es, clock, m0, hf, hv, hu, hk, h0, hl, hb, hM, h⟩ := mapAt_sound h hR.mem (Ev x)
  split at h <;> try exact h.elim
  rename_i key hkey
  have hkv := keyx_sound hkey (Ev i)
  have key : ∃ es', (Builtin.delete_ #[t, t2] o.type #[.map (some (ρ n).1), a.eval i]).run P w = .ok (.tuple #[]) { w with heap := w.heap.setIfInBounds (ρ n).1 (.map es' clock) } ∧ MRep ρ kk (m.del key) es'.toList := by
   cases m with
   | ints k l => exact delete_gen hu hk hkv hb hM
   | strs l => exact delete_gen hu hk hkv hb hM
   | hss k l => exact delete_gen hu hk hkv hb hM
  obtain ⟨es', hrun0, hM'⟩ := key
  have hrun : (execOp a.eval o).run P w = .ok (.value (.tuple #[])) { w with heap := w.heap.setIfInBounds (ρ n).1 (.map es' clock) } := by
   simp [execOp, hop, resolve, invoke, builtin, hv, hrun0]
  unfold Oper.wp
  rw [hrun]
  simp only [Oper.upon]
  exact hn _ (.tup []) _ ρ _ h ⟨[], rfl, rfl, fun j t u hj => by simp at hj⟩ (map_change hR hf hb hM') (by simp) (fun _ _ _ _ => rfl) (.of (fun q => by simp [modOp, hop] at q) fun _ _ _ q => by rw [hop] at q; cases q)
 ·rename_i args argTypes hop
  split at h <;> try exact h.elim
  rename_i x t hx ht
  have ea : args = #[x] := by rw [← Array.toArray_toList (xs := args), hx]
  have et : argTypes = #[t] := by rw [← Array.toArray_toList (xs := argTypes), ht]
  subst ea et
  obtain ⟨n, kk, m, kt, e, es, clock, m0, hf, hv, hu, hk, h0, hl, hb, hM, h⟩ := mapAt_sound h hR.mem (Ev x)
  have hlen : m.len = es.size := by
   cases m with
   | ints k l => exact hM.len
   | strs l => exact hM.len
   | hss k l => exact hM.len
  have hrun : (execOp a.eval o).run P w = .ok (.value (.int .i64 (ofNat m.len))) w := by
   simp [execOp, hop, resolve, invoke, builtin, hv, Builtin.len_, run_underlying hu, Result.andThen, MapKept.run_getObj_map hb, goInt, hlen, ofNat]
  unfold Oper.wp
  rw [hrun]
  simp only [Oper.upon]
  exact hn _ (.one (.int .i64 (ofNat m.len))) σ ρ w h rfl hR (Nat.le_refl _) (fun _ _ _ _ => rfl) (.of (fun _ => ⟨Keeps.refl _ _, fun _ _ q => q, fun _ _ => rfl⟩) fun _ _ _ q => by rw [hop] at q; cases q)
 ·exact h.elim
theorem effx_sound {o : Oper} {K : AV → Mem → Prop} {next : Act → World → Prop} {Q : Exit → Act → World → Prop} (h : effx P Γ o.op o.dst fr σ K) (hΓ : GoodG P Γ) (hR : Rep E ρ fr σ a w)
    (hn : ∀ v av σ' ρ' w', K av σ' → SRep ρ' av v → Rep E ρ' fr σ' a w' → w.heap.size ≤ w'.heap.size → (modOp Γ o.op = false → ∀ n, isHeap n = false → n ∉ newNames Γ fr o.op o.dst → ρ' n = ρ n) → Leaves Γ ρ ρ' fr o.op σ σ' w w' → next (a.put o.dst v) w') : o.wp P a w next Q := by
  have Ev := fun x => ev_sound hR.glob hR.fr x
  unfold Oper.wp
  unfold effx at h
  split at h
  · rename_i T hop
    split at h <;> try exact h.elim
    rename_i s hs
    obtain ⟨ho, i, z, hi, hz, hf⟩ := zeroSegs_sound hs
    obtain ⟨d, σ', ρ', e1, e2, e3, e4, e5, e6, e7⟩ := newx_sound (c := z.cells.toList) h hR ho (fun d _ _ => zero_refs hs d) (hf ρ)
    have hrun : (execOp a.eval o).run P w = .ok (.value (.pointer (some ⟨w.heap.size, 0, none⟩))) (World.with w (.cells z.cells T)) := by
      simp [execOp, hop, Instr.alloc, zeroValue, typeInfo, hi, hz, run_newVar]
    rw [hrun]
    simp only [Oper.upon]
    refine hn _ _ σ' ρ' _ e2 e3 (by simpa using e4) (by rw [with_size]; omega) (fun _ n _ hn' => e5 n ?_) (.of (fun _ => ⟨with_keeps _, e6, fun n hh => e5 n (fun q => by subst q; rw [hh] at e7; cases e7)⟩) fun _ _ _ q => by rw [hop] at q; cases q)
    simp only [newNames, hop, e1, List.mem_singleton] at hn'
    exact hn'
  · rename_i T x hop
    split at h <;> try exact h.elim
    rename_i s hs
    obtain ⟨ho, hf⟩ := AV.segs_sound hs (Ev x)
    obtain ⟨d, σ', ρ', e1, e2, e3, e4, e5, e6, e7⟩ := newx_sound (c := (a.eval x).cells.toList) h hR ho (fun d hd hfr => segs_refs hs d (ev_refs hfr hd)) hf
    have hrun : (execOp a.eval o).run P w = .ok (.value (.pointer (some ⟨w.heap.size, 0, none⟩))) (World.with w (.cells (a.eval x).cells T)) := by
      simp [execOp, hop, Instr.box, run_newVar]
    rw [hrun]
    simp only [Oper.upon]
    refine hn _ _ σ' ρ' _ e2 e3 (by simpa using e4) (by rw [with_size]; omega) (fun _ n _ hn' => e5 n ?_) (.of (fun _ => ⟨with_keeps _, e6, fun n hh => e5 n (fun q => by subst q; rw [hh] at e7; cases e7)⟩) fun _ _ _ q => by rw [hop] at q; cases q)
    simp only [newNames, hop, e1, List.mem_singleton] at hn'
    exact hn'
  · rename_i T x y hop
    have E1 := Ev x
    split at h <;> try exact h.elim
    · rename_i n base idx hx
      rw [hx] at E1
      have hv : a.eval x = .pointer (some (at_ ρ n (base + idx))) := E1
      obtain ⟨w', σ', bk, e1, e0, e2, e3, e4, e5, e6, e7⟩ := storex_sound h hR (Ev y)
      have hrun : (execOp a.eval o).run P w = .ok .skip w' := by
        simp [execOp, hop, Instr.storeAt, hv, Instr.sureAddr, e1]
      rw [hrun]
      simp only [Oper.upon]
      exact hn _ (.tup []) σ' ρ w' e3 ⟨[], rfl, rfl, fun j t u hj => by simp at hj⟩ e2 (by omega) (fun _ _ _ _ => rfl) ⟨fun hm => by simp [modOp, hop] at hm, fun T' x' y' n' m q1 q2 q3 => ⟨rfl, fun b hb => by
        rw [hop] at q1; cases q1
        rw [hx] at q2; cases q2
        exact ⟨fun k hk => e4 k (fun e => by subst e; exact hR.sep.1 n m bk b _ e6 hb q3 e7 hk), by rw [e5 m (Ne.symm q3)]; exact hb⟩⟩⟩
    · rename_i n z i b0 j hx
      rw [hx] at E1
      split at h
      · obtain ⟨A, w', σ', bk, ρ2, hv, e1, e0, e2, e3, e4, e5, e6, e7, e8⟩ := storeS_sound h hR (Ev y) E1
        have hrun : (execOp a.eval o).run P w = .ok .skip w' := by
          simp [execOp, hop, Instr.storeAt, hv, Instr.sureAddr, e1]
        rw [hrun]
        simp only [Oper.upon]
        exact hn _ (.tup []) σ' ρ2 w' e3 ⟨[], rfl, rfl, fun j t u hj => by simp at hj⟩ e2 (by omega) (fun hm => by simp [modOp, hop] at hm) ⟨fun hm => by simp [modOp, hop] at hm, fun T' x' y' n' m q1 q2 q3 => ⟨e8 m (by rw [hop] at q1; cases q1; rw [hx] at q2; cases q2; exact Ne.symm q3), fun b hb => by
          rw [hop] at q1; cases q1
          rw [hx] at q2; cases q2
          exact ⟨fun k hk => e4 k (fun e => by subst e; exact hR.sep.1 n m bk b _ e6 hb q3 e7 hk), by rw [e5 m (Ne.symm q3)]; exact hb⟩⟩⟩
      · obtain ⟨A, w', σ', bk, hv, e1, e0, e2, e3, e4, e5, e6, e7⟩ := storeV_sound h hR (Ev y) E1
        have hrun : (execOp a.eval o).run P w = .ok .skip w' := by
          simp [execOp, hop, Instr.storeAt, hv, Instr.sureAddr, e1]
        rw [hrun]
        simp only [Oper.upon]
        exact hn _ (.tup []) σ' ρ w' e3 ⟨[], rfl, rfl, fun j t u hj => by simp at hj⟩ e2 (by omega) (fun _ _ _ _ => rfl) ⟨fun hm => by simp [modOp, hop] at hm, fun T' x' y' n' m q1 q2 q3 => ⟨rfl, fun b hb => by
          rw [hop] at q1; cases q1
          rw [hx] at q2; cases q2
          exact ⟨fun k hk => e4 k (fun e => by subst e; exact hR.sep.1 n m bk b _ e6 hb q3 e7 hk), by rw [e5 m (Ne.symm q3)]; exact hb⟩⟩⟩
    · rename_i k0 j0 i0 hx
      rw [hx] at E1
      obtain ⟨A, w', σ', bk, g, hv, e1, e0, e2, e3, e4, e5, e6, e7⟩ := storeH_sound h hR (Ev y) E1
      have hrun : (execOp a.eval o).run P w = .ok .skip w' := by
        simp [execOp, hop, Instr.storeAt, hv, Instr.sureAddr, e1]
      rw [hrun]
      simp only [Oper.upon]
      exact hn _ (.tup []) σ' ρ w' e3 ⟨[], rfl, rfl, fun j t u hj => by simp at hj⟩ e2 (by omega) (fun _ _ _ _ => rfl) ⟨fun hm => by simp [modOp, hop] at hm, fun T' x' y' n' m q1 q2 q3 => ⟨rfl, fun b hb => by
        rw [hop] at q1; cases q1
        rw [hx] at q2; cases q2
        exact ⟨fun k hk => e4 k (fun e => by subst e; exact hR.sep.1 (hname k0) m bk b _ e6 hb q3 e7 hk), by rw [e5 m (Ne.symm q3)]; exact hb⟩⟩⟩
  · rename_i t l c hop
    split at h <;> try exact h.elim
    rename_i e hu
    split at h <;> try exact h.elim
    rename_i ks bytes kl A kc B hk hl hc
    obtain ⟨hmk, h⟩ := h
    obtain ⟨d, hd, hfr, hK⟩ := newx_open h
    have vl : a.eval l = .int kl A := by have := Ev l; rw [hl] at this; exact this
    have vc : a.eval c = .int kc B := by have := Ev c; rw [hc] at this; exact this
    obtain ⟨w', L, e1, e2, e3, e4⟩ := make_sound (kl := kl) (kc := kc) hR hu hk hmk hfr
    have hrun : (execOp a.eval o).run P w = .ok (.value (.slice L.a L.len L.cap)) w' := by
      simp [execOp, hop, vl, vc, e1]
    rw [hrun]
    simp only [Oper.upon]
    refine hn _ _ _ _ w' hK (by simp [SRep, CRep, upd_eq]) e4 e2 (fun _ n _ hn' => upd_ne ?_) (.of (fun _ => ⟨e3, ins_old hfr, fun n hh => upd_ne (by have := isHeap_le hh; have := (freshB_parts hfr).1; omega)⟩) fun _ _ _ q => by rw [hop] at q; cases q)
    simp only [newNames, hop, hd, List.mem_singleton] at hn'
    exact hn'
  · rename_i t len parts hop
    split at h <;> try exact h.elim
    rename_i e hu
    split at h <;> try exact h.elim
    rename_i ks bytes hk
    split at h <;> try exact h.elim
    rename_i hle
    obtain ⟨cs, σ1, h, hR1, hlit⟩ := literal_sound (d := o.dst.getD 0) (ps := parts.map fun (i, x) => (i, a.eval x)) hR hu hk (Nat.le_of_ble_eq_true hle) h (by simp) (by
      intro j p q h1 h2
      simp only [List.getElem?_map, Option.map_eq_some_iff, Array.toList_map] at h1 h2
      obtain ⟨p', e1, rfl⟩ := h1
      obtain ⟨q', e2, rfl⟩ := h2
      rw [e1] at e2; cases e2
      exact ⟨rfl, Ev _⟩)
    obtain ⟨d, hd, hfr, hK⟩ := newx_open h
    obtain ⟨v, w', L, e1, rfl, e2, e4⟩ := hlit (by rw [hd]; exact hfr)
    have hrun : (execOp a.eval o).run P w = .ok (.value (.slice L.a L.len L.cap)) w' := by
      simp [execOp, hop, e1]
    rw [hrun]
    simp only [Oper.upon]
    rw [hd] at e4
    refine hn _ _ _ _ w' hK (by simp [SRep, CRep, upd_eq]) e4 e2 (fun _ n _ hn' => upd_ne ?_) (.of (fun q => by simp [modOp, hop] at q) fun _ _ _ q => by rw [hop] at q; cases q)
    simp only [newNames, hop, hd, List.mem_singleton] at hn'
    exact hn'
  · rename_i s d x hop
    have E1 := Ev x
    unfold textx at h
    split at h
    · rename_i b hx
      rw [hx] at E1
      have hv : a.eval x = .string b := E1
      split at h <;> try exact h.elim
      · rename_i h1 h2
        have hrun : (execOp a.eval o).run P w = .ok (.value (.string b)) w := by
          have g1 := strT_sound h1
          have g2 := strT_sound h2
          simp [execOp, hop, hv, convert, run_underlying g1, run_underlying g2]
        rw [hrun]
        simp only [Oper.upon]
        exact hn _ (.one (.str b)) σ ρ w h rfl hR (Nat.le_refl _) (fun _ _ _ _ => rfl) (.of (fun _ => ⟨Keeps.refl _ _, fun _ _ q => q, fun _ _ => rfl⟩) fun _ _ _ q => by rw [hop] at q; cases q)
      · rename_i h1 h2 h3
        obtain ⟨e, g2, g3, _⟩ := bytesT_sound h3
        obtain ⟨dn, hd, hfr, hK⟩ := newx_open h
        obtain ⟨v, w', L, e1, rfl, e2, e3, e4⟩ := text_bytes (P := P) (b := b) hR (strT_sound h1) g2 g3 hfr
        have hrun : (execOp a.eval o).run P w = .ok (.value (.slice L.a L.len L.cap)) w' := by
          simp [execOp, hop, hv, e1]
        rw [hrun]
        simp only [Oper.upon]
        refine hn _ _ _ _ w' hK (by simp [SRep, CRep, upd_eq]) e4 e2 (fun _ n _ hn' => upd_ne ?_) (.of (fun _ => ⟨e3, ins_old hfr, fun n hh => upd_ne (by have := isHeap_le hh; have := (freshB_parts hfr).1; omega)⟩) fun _ _ _ q => by rw [hop] at q; cases q)
        simp only [newNames, hop, hd, List.mem_singleton] at hn'
        exact hn'
    · rename_i k n hx
      rw [hx] at E1
      obtain ⟨v, av, e1, e2, e3⟩ := convx_sound h E1
      have hrun : (execOp a.eval o).run P w = .ok (.value v) w := by
        simp [execOp, hop, e1]
      rw [hrun]
      simp only [Oper.upon]
      exact hn _ av σ ρ w e3 e2 hR (Nat.le_refl _) (fun _ _ _ _ => rfl) (.of (fun _ => ⟨Keeps.refl _ _, fun _ _ q => q, fun _ _ => rfl⟩) fun _ _ _ q => by rw [hop] at q; cases q)
    · split at h
      · rename_i hsd
        have hsd : s = d := beq_nat hsd
        subst hsd
        split at h <;> try exact h.elim
        rename_i n hx
        rw [hx] at E1
        split at h <;> try exact h.elim
        rename_i l h1 hf
        obtain ⟨hin, hK⟩ := h
        obtain ⟨e, g2, g3, _⟩ := bytesT_sound h1
        have hv : a.eval x = .slice (ρ n).a (ρ n).len (ρ n).cap := E1
        obtain ⟨w', e1, e2, e3⟩ := mark_sound (P := P) hR hf (by have := hin.hi; simp only [llen] at this; omega) g2 g3
        have hrun : (execOp a.eval o).run P w = .ok (.value (.slice (ρ n).a (ρ n).len (ρ n).cap)) w' := by
          simp [execOp, hop, hv, e1]
        rw [hrun]
        simp only [Oper.upon]
        exact hn _ (.one (.vec n)) _ ρ w' hK rfl e3 (Nat.le_of_eq e2.symm) (fun _ _ _ _ => rfl) (.of (fun q => by simp [modOp, hop] at q) fun _ _ _ q => by rw [hop] at q; cases q)
      · split at h <;> try exact h.elim
        rename_i h1 h2
        obtain ⟨cs, L, hr, h⟩ := rdx_sound h Nat.one_pos hR.mem hR.sep E1
        split at h <;> try exact h.elim
        rename_i l
        obtain ⟨e, g2, g3, _⟩ := bytesT_sound h1
        have hrun : (execOp a.eval o).run P w = .ok (.value (.string (bytesOf l))) w := by
          simp [execOp, hop, bytes_text (P := P) hr g2 g3 (strT_sound h2)]
        rw [hrun]
        simp only [Oper.upon]
        exact hn _ (.one (.str (bytesOf l))) σ ρ w h rfl hR (Nat.le_refl _) (fun _ _ _ _ => rfl) (.of (fun _ => ⟨Keeps.refl _ _, fun _ _ q => q, fun _ _ => rfl⟩) fun _ _ _ q => by rw [hop] at q; cases q)
  · rename_i args argTypes hop
    split at h <;> try exact h.elim
    rename_i x y tx ty hx ht
    have ea : args = #[x, y] := by rw [← Array.toArray_toList (xs := args), hx]
    have et : argTypes = #[tx, ty] := by rw [← Array.toArray_toList (xs := argTypes), ht]
    subst ea et
    unfold appendx at h
    split at h <;> try exact h.elim
    rename_i e hu
    split at h <;> try exact h.elim
    rename_i ks bytes hk
    split at h <;> try exact h.elim
    rename_i hseq
    obtain ⟨_, _, _, _, _, _, hwid, _⟩ := elemKinds_sound hk
    split at h
    · rename_i k j0 off len hxe
      have key : ∃ os, Mem.heap σ k = some os ∧ ks = [.ints k] ∧ rdy σ ks (ev fr y) (fun cy => match cy with
            | [.ints k' src] => if k' = k then Room (nadd len (llen src)) bytes ∧ ∀ os' j' off', AppR os j0 off len src os' j' off' → K (.one (.hs k j' off' (nadd len (llen src)))) (σ.put (hname k) (.heap k os')) else False
            | _ => False) := by
        split at h <;> try exact h.elim
        split at h <;> try exact h.elim
        rename_i q
        subst q
        exact ⟨_, by assumption, rfl, h⟩
      clear h
      obtain ⟨os, ho, hks, h⟩ := key
      subst hks
      obtain ⟨cy, Ly, hG, h⟩ := rdy_sound (P := P) (w := w) h hwid hR.mem hR.sep (Ev y) (seq_kind hseq)
      split at h <;> try exact h.elim
      rename_i k' src
      split at h <;> try exact h.elim
      rename_i hk'
      subst hk'
      obtain ⟨hroom, hall⟩ := h
      have E1 := Ev x
      rw [hxe] at E1
      obtain ⟨v, w', os', j', off', ρ', e1, e2, e3, e4, e5, e6⟩ := happend_sound (ot := o.type) hR hu hk ho E1 hG hroom
      have hrun : (execOp a.eval o).run P w = .ok (.value v) w' := by
        simp [execOp, hop, resolve, invoke, builtin, e1]
      rw [hrun]
      simp only [Oper.upon]
      exact hn _ (.one _) _ ρ' w' (hall _ _ _ e2) e6 e4 e3 (fun _ n hh _ => e5 n hh) (.of (fun q => by simp [modOp, hop] at q) fun _ _ _ q => by rw [hop] at q; cases q)
    · obtain ⟨cy, Ly, hG, h⟩ := rdy_sound (P := P) (w := w) h hwid hR.mem hR.sep (Ev y) (seq_kind hseq)
      obtain ⟨cx, Lx, σ1, hT, h⟩ := takex_sound h hwid hR.mem hR.sep (Ev x)
      split at h <;> try exact h.elim
      rename_i hkd
      rw [Bool.and_eq_true, Bool.and_eq_true] at hkd
      obtain ⟨⟨hk1, hk2⟩, hk3⟩ := hkd
      have hk1 := kdsEq_eq hk1
      have hk2 := kdsEq_eq hk2
      have hne : ∀ {cs : List Col}, kdsOf cs = ks → cs ≠ [] := fun q e => by rw [e] at q; subst q; exact absurd hwid (by decide)
      obtain ⟨hroom, h⟩ := h
      obtain ⟨d, hd, hfr, hK⟩ := newx_open h
      have cl : ∀ {cs : List Col}, clen (cs.map (Col.asH σ)) = clen cs := fun {cs} => by
        cases cs with
        | nil => rfl
        | cons c r =>
          cases c with
          | rows k l => cases l with
            | nil => simp only [List.map_cons, Col.asH]; split <;> rfl
            | cons _ _ => rfl
          | _ => rfl
      obtain ⟨v, w', L, e1, rfl, e2, e4⟩ := append_sound (ot := o.type) hR hu hk (hT.asH (σ' := σ)) (hG.asH (σ' := σ)) (by rw [asH_kds]; exact hk1) (by rw [asH_kds]; exact hk2) hk3 (by rw [cl, cl]; exact hroom) hfr
      have hrun : (execOp a.eval o).run P w = .ok (.value (.slice L.a L.len L.cap)) w' := by
        simp [execOp, hop, resolve, invoke, builtin, e1]
      rw [hrun]
      simp only [Oper.upon]
      refine hn _ _ _ _ w' hK (by simp [SRep, CRep, upd_eq]) e4 e2 (fun _ n _ hn' => upd_ne ?_) (.of (fun q => by simp [modOp, hop] at q) fun _ _ _ q => by rw [hop] at q; cases q)
      simp only [newNames, hop, hd, List.mem_singleton] at hn'
      exact hn'
  · rename_i args argTypes hop
    split at h <;> try exact h.elim
    rename_i x y tx ty hx ht
    have ea : args = #[x, y] := by rw [← Array.toArray_toList (xs := args), hx]
    have et : argTypes = #[tx, ty] := by rw [← Array.toArray_toList (xs := argTypes), ht]
    subst ea et
    split at h <;> try exact h.elim
    rename_i hseq
    obtain ⟨m, w', σ', e1, e2, e3, hK⟩ := copyx_sound (ot := o.type) h hR (Ev x) (Ev y) (seq_kind hseq)
    have hrun : (execOp a.eval o).run P w = .ok (.value (.int .i64 m)) w' := by
      simp [execOp, hop, resolve, invoke, builtin, e1]
    rw [hrun]
    simp only [Oper.upon]
    exact hn _ (.one (.int .i64 m)) σ' ρ w' hK rfl e3 e2 (fun _ _ _ _ => rfl) (.of (fun q => by simp [modOp, hop] at q) fun _ _ _ q => by rw [hop] at q; cases q)
  · rename_i f args argTypes hop
    have hargs : ∀ (j : Nat) x v, (args.toList.map (ev fr))[j]? = some x → (args.map a.eval)[j]? = some v → SRep ρ x v := by
      intro j x v h1 h2
      simp only [List.getElem?_map, Option.map_eq_some_iff, Array.getElem?_toList, Array.getElem?_map] at h1 h2
      obtain ⟨p, hp, rfl⟩ := h1
      obtain ⟨q, hq, rfl⟩ := h2
      rw [hp] at hq; cases hq
      exact Ev p
    split at h <;> try exact h.elim
    · rename_i g first capt hf
      split at h <;> try exact h.elim
      rename_i h1 h2
      have hv : a.eval f = .func (.func g) #[] #[] := by
        have := Ev f; rw [hf] at this; obtain ⟨e, _⟩ := this
        rw [e, ← Array.toArray_toList (xs := first), ← Array.toArray_toList (xs := capt), h1, h2]
      obtain ⟨s, d, hs, hd, hc⟩ := callx_sound (vals := args.map a.eval) h hΓ hR (by simp) hargs
      obtain ⟨_, fn, hfn, hname, hbody⟩ := hΓ g s hs
      have hrun : (execOp a.eval o).run P w = .ok (.enter g (args.map a.eval)) w := by
        cases hb : fn.body with
        | none => rw [hb] at hbody; cases hbody
        | some b => simp [execOp, hop, resolve, hv, Deferred.ofValue, invoke, callFunc, hfn, hname, hb]
      rw [hrun]
      simp only [Oper.upon]
      refine hc.mono ?_
      rintro e w' ⟨v, av, σ', ρ', rfl, hK, hav, hR', hsz, hρ, hk⟩
      refine hn v av σ' ρ' w' hK hav hR' hsz (fun _ n hh hn' => hρ n hh fun k hk' e => ?_) (.of (fun hm => hk ?_) fun _ _ _ q => by rw [hop] at q; cases q)
      · have hd' := hd (by omega)
        apply hn'
        simp only [newNames, hop, hd', hf, hs, List.mem_map, List.mem_range]
        exact ⟨k, hk', e.symm⟩
      · simp only [modOp, hop] at hm
        cases f <;> simp only [ev] at hf
        case func g' =>
          simp only [AV.one.injEq, AC.con.injEq, Value.func.injEq, Fn.func.injEq] at hf
          obtain ⟨rfl, _⟩ := hf
          simpa [hs] using hm
        all_goals (simp at hm)
    · rename_i g n b i hf
      have hv : a.eval f = .func (.func g) #[] #[.pointer (some (at_ ρ n (b + i)))] := by have := Ev f; rw [hf] at this; exact this
      obtain ⟨s, d, hs, hd, hc⟩ := callx_sound (vals := (args.map a.eval) ++ #[.pointer (some (at_ ρ n (b + i)))]) h hΓ hR (by simp) (by
        intro j x v h1 h2
        by_cases hj : j < args.size
        · rw [List.getElem?_append_left (by simpa using hj)] at h1
          rw [Array.getElem?_append_left (by simpa using hj)] at h2
          exact hargs j x v h1 h2
        · rw [List.getElem?_append_right (by simpa using hj)] at h1
          rw [Array.getElem?_append_right (by simpa using hj)] at h2
          simp only [List.length_map, Array.length_toList, Array.size_map] at h1 h2
          by_cases he : j - args.size = 0
          · rw [he] at h1 h2
            simp at h1 h2
            subst h1 h2; rfl
          · obtain ⟨q, hq⟩ : ∃ q, j - args.size = q + 1 := ⟨j - args.size - 1, by omega⟩
            rw [hq] at h1; simp at h1)
      obtain ⟨_, fn, hfn, hname, hbody⟩ := hΓ g s hs
      have hrun : (execOp a.eval o).run P w = .ok (.enter g ((args.map a.eval) ++ #[.pointer (some (at_ ρ n (b + i)))])) w := by
        cases hb : fn.body with
        | none => rw [hb] at hbody; cases hbody
        | some b => simp [execOp, hop, resolve, hv, Deferred.ofValue, invoke, callFunc, hfn, hname, hb]
      rw [hrun]
      simp only [Oper.upon]
      refine hc.mono ?_
      rintro e w' ⟨v, av, σ', ρ', rfl, hK, hav, hR', hsz, hρ, hk⟩
      refine hn v av σ' ρ' w' hK hav hR' hsz (fun _ n hh hn' => hρ n hh fun k hk' e => ?_) (.of (fun hm => hk ?_) fun _ _ _ q => by rw [hop] at q; cases q)
      · have hd' := hd (by omega)
        apply hn'
        simp only [newNames, hop, hd', hf, hs, List.mem_map, List.mem_range]
        exact ⟨k, hk', e.symm⟩
      · simp only [modOp, hop] at hm
        cases f <;> simp only [ev] at hf <;> simp at hm hf
  · exact mapx_sound h hR hn
end
section
variable {P : Program} {Γ : Gam} {E : Env} {ρ : Rho} {fr : Fr} {σ : Mem} {a : Act} {w : World}
theorem Rep.frame {fr' : Fr} (h : Rep E ρ fr σ a w) (hf : FrRep ρ fr' a.tmps) : Rep E ρ fr' σ a w := ⟨hf, h.df, h.mem, h.sep, h.fix, h.ext, h.own, h.keep⟩
theorem Rep.put {dst : Option Tmp} {x : AV} {v : Value} (h : Rep E ρ fr σ a w) (hx : SRep ρ x v) : Rep E ρ (fr.put dst x) σ (a.put dst v) w :=
 ⟨h.fr.put hx, by cases dst <;> exact h.df, h.mem, h.sep, h.fix, h.ext, h.own, h.keep⟩
theorem SRep.undef (ρ : Rho) : SRep ρ (.tup []) undef := ⟨[], rfl, rfl, fun j t u hj => by simp at hj⟩
theorem slot_bool {b : Bool} {t : Nat} (h : FrRep ρ fr a.tmps) (ht : fr.get t = .one (.bool b) ∨ fr.get t = .one (.lit b)) : a.tmps[t]? = some (.bool b) := by
 have hlt : t < fr.length := by
  rcases Nat.lt_or_ge t fr.length with q | q
  ·exact q
  ·rw [Fr.get_out fr t q] at ht; rcases ht with ht | ht <;> cases ht
 have hlt' : t < a.tmps.size := by rw [← h.1]; exact hlt
 have := h.2 t a.tmps[t] (Array.getElem?_eq_getElem hlt')
 rw [Array.getElem?_eq_getElem hlt']
 rcases ht with ht | ht <;> rw [ht] at this <;> exact congrArg some this
theorem set_lit {b : Bool} {t : Nat} (h : FrRep ρ fr a.tmps) (ht : fr.get t = .one (.bool b)) : FrRep ρ (Fr.set fr t (.one (.lit b))) a.tmps :=
 h.same fun v hv => by rw [slot_bool h (Or.inl ht)] at hv; cases hv; rfl
theorem eval_bool {b : Bool} {c : Operand} (hR : Rep E ρ fr σ a w) (h : ev fr c = .one (.bool b) ∨ ev fr c = .one (.lit b)) : a.eval c = .bool b := by
 have := ev_sound hR.glob hR.fr c
 rcases h with h | h <;> rw [h] at this <;> exact this
def Held (σ0 : Mem) (ρ0 : Rho) (w0 : World) (m : Nat) (w : World) : Prop := ∀ b, Mem.find σ0 m = some b → ∀ k, Foot ρ0 m b k → w.heap[k]? = w0.heap[k]?
theorem exec_det {o : Oper} {K : Fr → Mem → Prop} (h : execx P Γ o fr σ K) (he : isEff P o.op = false) (hR : Rep E ρ fr σ a w) :
    ∃ v fr', Rep E ρ fr' σ (a.put o.dst v) w ∧ K fr' σ ∧
      ((∀ w' : World, (execOp a.eval o).run P w' = .ok (.value v) w') ∨
       (∃ T x n b, o.op = .load T x ∧ addrName (ev fr x) = some n ∧ Mem.find σ n = some b ∧ ∀ w' : World, (∀ k, Foot ρ n b k → w'.heap[k]? = w.heap[k]?) → (execOp a.eval o).run P w' = .ok (.value v) w')) := by
  unfold execx at h
  rw [thawOp_id P (fun t l p q => by rw [q] at he; simp [isEff] at he)] at h
  simp only at h
  split at h
  · rename_i c x y hop
    unfold pickx at h
    have pk : ∀ {b : Bool} {fr1 : Fr} {x1 : AV}, a.eval c = .bool b → FrRep ρ fr1 a.tmps → SRep ρ x1 (if b then a.eval x else a.eval y) → K (fr1.put o.dst x1) σ →
        ∃ v fr', Rep E ρ fr' σ (a.put o.dst v) w ∧ K fr' σ ∧ ((∀ w' : World, (execOp a.eval o).run P w' = .ok (.value v) w') ∨ (∃ T x n b, o.op = .load T x ∧ addrName (ev fr x) = some n ∧ Mem.find σ n = some b ∧ ∀ w' : World, (∀ k, Foot ρ n b k → w'.heap[k]? = w.heap[k]?) → (execOp a.eval o).run P w' = .ok (.value v) w')) := by
      intro b fr1 x1 hb hf hx hK
      refine ⟨_, _, (hR.frame hf).put hx, hK, Or.inl fun w' => ?_⟩
      simp [execOp, hop, hb, asBool]
    have Ev := fun x => ev_sound hR.glob hR.fr x
    split at h <;> try exact h.elim
    · rename_i hc; exact pk (b := true) (eval_bool hR (Or.inr hc)) hR.fr (Ev x) h
    · rename_i hc; exact pk (b := false) (eval_bool hR (Or.inr hc)) hR.fr (Ev y) h
    · rename_i t hc
      split at h <;> try exact h.elim
      rename_i s
      have hs := set_lit hR.fr hc
      cases t with
      | true => exact pk (b := true) (eval_bool hR (Or.inl hc)) hs (Ev x) (h.1 rfl)
      | false => exact pk (b := false) (eval_bool hR (Or.inl hc)) hs (Ev y) (h.2 rfl)
  · rw [he] at h
    simp only at h
    by_cases hld : ∀ T x, o.op ≠ .load T x
    · obtain ⟨v, av, h1, h2, h3⟩ := pure_sound h hld hR.mem hR.fr hR.glob
      exact ⟨v, _, hR.put h2, h3, Or.inl h1⟩
    · simp only [Classical.not_forall, Classical.not_not] at hld
      obtain ⟨T, x, ho⟩ := hld
      obtain ⟨v, av, n, b, h1, h2, h3, h4, h5⟩ := load_sound h ho hR.mem hR.fr hR.glob
      exact ⟨v, _, hR.put h4, h5, Or.inr ⟨T, x, n, b, ho, h1, h2, h3⟩⟩
theorem det_facts {o : Oper} (he : isEff P o.op = false) : modOp Γ o.op = false := by
  cases hop : o.op <;> rw [hop] at he <;> first
    | rfl
    | (rename_i s d x
       show Nat.beq s d = false
       cases hq : Nat.beq s d with
       | false => rfl
       | true => exfalso; simp [isEff, hq] at he; done)
    | (exfalso; simp [isEff] at he; done)
    | (rename_i c; obtain ⟨callee, args, tys⟩ := c; cases callee <;> first
        | rfl
        | (exfalso; simp [isEff] at he; done)
        | (rename_i b; cases b <;> first | rfl | (exfalso; simp [isEff] at he; done)))
theorem exec_sound {o : Oper} {K : Fr → Mem → Prop} {next : Act → World → Prop} {Q : Exit → Act → World → Prop} (h : execx P Γ o fr σ K) (hΓ : GoodG P Γ) (hR : Rep E ρ fr σ a w)
  (hn : ∀ v fr' σ' ρ' w', K fr' σ' → Rep E ρ' fr' σ' (a.put o.dst v) w' → w.heap.size ≤ w'.heap.size → (modOp Γ o.op = false → ∀ n, isHeap n = false → n ∉ newNames Γ fr o.op o.dst → ρ' n = ρ n) → (∃ fr1, fr1 = fr ∧ Leaves Γ ρ ρ' fr1 o.op σ σ' w w') → next (a.put o.dst v) w') : o.wp P a w next Q := by
 cases he : isEff P o.op with
 | false =>
  obtain ⟨v, fr', h1, h2, h3⟩ := exec_det h he hR
  have hrun : (execOp a.eval o).run P w = .ok (.value v) w := by
   rcases h3 with h3 | ⟨T, x, n, b, _, _, _, h3⟩
   ·exact h3 w
   ·exact h3 w (fun _ _ => rfl)
  unfold Oper.wp
  rw [hrun]
  exact hn v fr' σ ρ w h2 h1 (Nat.le_refl _) (fun _ _ _ _ => rfl) ⟨fr, rfl, fun _ => ⟨Keeps.refl _ _, fun _ _ q => q, fun _ _ => rfl⟩, fun _ _ _ _ _ q => by rw [q] at he; cases he⟩
 | true =>
  by_cases hb : ∀ t l p, o.op ≠ .buildSlice t l p
  ·unfold execx at h
   rw [thawOp_id P hb] at h
   simp only at h
   split at h
   ·rename_i hop; rw [hop] at he; cases he
   ·rw [he] at h
    exact effx_sound h hΓ hR fun v av σ' ρ' w' hK hav hR' hsz hρ hk => hn v _ σ' ρ' w' hK (hR'.put hav) hsz hρ ⟨fr, rfl, hk⟩
  ·simp only [Classical.not_forall, Classical.not_not] at hb
   obtain ⟨t, l, p, hb⟩ := hb
   obtain ⟨ρ1, hR1, hρ1⟩ := thawOp_sound P o.op hR
   unfold execx at h
   simp only at h
   split at h
   ·rename_i hop; rw [hop] at he; cases he
   ·rw [he] at h
    exact effx_sound h hΓ hR1 fun v av σ' ρ' w' hK hav hR' hsz hρ hk => hn v _ σ' ρ' w' hK (hR'.put hav) hsz (fun q => (by rw [hb] at q; cases q)) ⟨fr, rfl, fun q => (by rw [hb] at q; cases q), fun T x y n m q => (by rw [hb] at q; cases q)⟩
theorem yielded_slot {ops : Array Oper} {j t : Nat} {b : Bool} (hd : (ops.toList[j]?).bind (·.dst) = some t) (ht : a.tmps[t]? = some (.bool b)) : yielded ops a.tmps j = some b := by
 unfold yielded
 simp only [Array.getElem?_toList] at hd
 rw [hd]
 simp [ht]
theorem step_cases {ops : Array Oper} {o : Oper} {K : Fr → Mem → Prop} (h : stepx P Γ ops.toList o fr σ K) (hR : Rep E ρ fr σ a w) :
  (Region.wanted o (yielded ops a.tmps) = true ∧ ∃ fr1, Rep E ρ fr1 σ a w ∧ execx P Γ o fr1 σ K ∧ (fr1 = fr ∨ ∃ t b, fr.get t = .one (.bool b) ∧ fr1 = fr.set t (.one (.lit b)))) ∨
  (Region.wanted o (yielded ops a.tmps) = false ∧ ∃ fr', Rep E ρ fr' σ (a.put o.dst undef) w ∧ K fr' σ) := by
 unfold stepx at h
 split at h
 ·rename_i hg
  exact Or.inl ⟨by simp [Region.wanted, hg], fr, hR, h, Or.inl rfl⟩
 ·rename_i j want hg
  split at h <;> try exact h.elim
  rename_i t hd
  have wt : ∀ {b : Bool}, a.tmps[t]? = some (.bool b) → Region.wanted o (yielded ops a.tmps) = (b == want) := fun hb => by
   simp [Region.wanted, hg, yielded_slot hd hb]
  split at h
  ·rename_i b hb
   have hs := slot_bool hR.fr (Or.inr hb)
   split at h
   ·rename_i hq; exact Or.inl ⟨by rw [wt hs]; exact hq, fr, hR, h, Or.inl rfl⟩
   ·rename_i hq; exact Or.inr ⟨by rw [wt hs]; exact hq, _, hR.put (SRep.undef ρ), h⟩
  ·rename_i b hb
   have hs := slot_bool hR.fr (Or.inl hb)
   have hl := hR.frame (set_lit hR.fr hb)
   by_cases hq : b = want
   ·subst hq
    exact Or.inl ⟨by rw [wt hs]; simp, _, hl, h.1 rfl, Or.inr ⟨t, _, hb, rfl⟩⟩
   ·have hq' : b = !want := by cases b <;> cases want <;> simp_all
    subst hq'
    exact Or.inr ⟨by rw [wt hs]; cases want <;> rfl, _, hl.put (SRep.undef ρ), h.2 rfl⟩
  ·rename_i ht
   have hw : Region.wanted o (yielded ops a.tmps) = false := by
    have hy : yielded ops a.tmps j = none := by
     unfold yielded
     simp only [Array.getElem?_toList] at hd
     rw [hd]
     simp only [Option.bind_some]
     cases hq : a.tmps[t]? with
     | none => rfl
     | some v =>
      have := hR.fr.2 t v hq
      rw [ht] at this
      obtain ⟨us, rfl, _, _⟩ := this
      rfl
    simp [Region.wanted, hg, hy]
   exact Or.inr ⟨hw, _, hR.put (SRep.undef ρ), h⟩
  ·exact h.elim
end
section
variable {P : Program} {Γ : Gam} {E : Env}
theorem opsx_sound {ops : Array Oper} {K : Fr → Mem → Prop} {Q : Exit → Act → World → Prop} (hΓ : GoodG P Γ) (hQ : ∀ ρ fr σ a w, Rep E ρ fr σ a w → K fr σ → Q .normal a w) :
  ∀ (l : List Oper) (k : Nat) (ρ : Rho) (fr : Fr) (σ : Mem) (a : Act) (w : World), (∀ j, l[j]? = ops[k + j]?) → opsx P Γ ops.toList K l fr σ → Rep E ρ fr σ a w → wpOps P ops Q (List.range' k l.length) a w
 | [], k, ρ, fr, σ, a, w, _, h, hR => by
  simp only [List.length_nil, List.range'_zero, wpOps]
  exact hQ ρ fr σ a w hR h
 | o :: l, k, ρ, fr, σ, a, w, hl, h, hR => by
  have h0 : ops[k]? = some o := by simpa using (hl 0).symm
  have hl' : ∀ j, l[j]? = ops[k + 1 + j]? := fun j => by have := hl (j + 1); simpa [Nat.add_assoc, Nat.add_comm 1 j] using this
  simp only [List.length_cons, List.range'_succ, wpOps, h0]
  simp only [opsx] at h
  rcases step_cases h hR with ⟨hw, fr1, hR1, hx, _⟩ | ⟨hw, fr', hR', hK⟩
  ·rw [if_pos hw]
   exact Or.inl (exec_sound hx hΓ hR1 fun v fr' σ' ρ' w' hK hR' _ _ _ => opsx_sound hΓ hQ l (k + 1) ρ' fr' σ' _ w' hl' hK hR')
  ·rw [if_neg (by rw [hw]; simp)]
   exact opsx_sound hΓ hQ l (k + 1) ρ fr' σ _ w hl' hK hR'
def AnyM (P : Program) (ops : Array Oper) (Q : Exit → Act → World → Prop) (S : Nat → World → Prop) (mod : Nat → Nat → Bool) : Nat → Array Bool → Act → World → Prop
 | 0, listed, a, w => Region.ready .any ops listed = [] ∧ Q .normal a w
 | n + 1, listed, a, w => (Region.ready .any ops listed = [] → Q .normal a w) ∧
  ∀ i ∈ Region.ready .any ops listed, wpOp P ops Q i (fun a' w' => (∀ m, mod i m = false → (∀ j, mod j m = true → listed.getD j true = false) → S m w → S m w') ∧ AnyM P ops Q S mod n (listed.setIfInBounds i true) a' w') a w
theorem any_of_M {ops : Array Oper} {Q : Exit → Act → World → Prop} {S : Nat → World → Prop} {mod : Nat → Nat → Bool} : ∀ (n : Nat) (listed : Array Bool) (a : Act) (w : World), AnyM P ops Q S mod n listed a w → wpAny P .any ops Q n listed a w
 | 0, _, _, _, h => h
 | n + 1, _, _, _, h => ⟨h.1, fun i hi => wpOp_mono (fun a' w' q => any_of_M n _ a' w' q.2) (h.2 i hi)⟩
theorem anyM_first {ops : Array Oper} {Q : Exit → Act → World → Prop} {S : Nat → World → Prop} {mod : Nat → Nat → Bool} {rd : Bool} {mm : Nat} {i : Nat} {oi : Oper} {v : Value} (hi : ops[i]? = some oi) (hsel : Region.noSelect ops = true) (hQ : ∀ c a w, ¬ Q (.panic c) a w)
  : ∀ (n : Nat) (listed : Array Bool) (a : Act) (w : World), Region.free .any ops listed i = true → (rd = true → ∀ j, j ≠ i → mod j mm = true → listed.getD j true = false → ∃ oj, ops[j]? = some oj ∧ dependsOn oj i = true) → (∀ m, mod i m = false) → (rd = true → ∀ j, mod j mm = true → listed.getD j true = false) →
   i ∈ Region.ready .any ops listed → YieldsIf P ops (fun w => rd = true → S mm w) oi v a → (rd = true → S mm w) → AnyM P ops Q S mod n (listed.setIfInBounds i true) (a.put oi.dst v) w → AnyM P ops Q S mod (n + 1) listed a w := by
 intro n
 induction n with
 | zero =>
  intro listed a w _ _ _ _ hr hy hS H
  refine ⟨fun h => (by rw [h] at hr; cases hr), fun j hj => ?_⟩
  by_cases hji : j = i
  ·subst hji; exact hy.wpOp hi hS ⟨fun _ _ _ q => q, H⟩
  ·have := ready_mono hj hji
   rw [H.1] at this
   cases this
 | succ n ih =>
  intro listed a w hfree hdep hmi hunl hr hy hS H
  refine ⟨fun h => (by rw [h] at hr; cases hr), fun j hj => ?_⟩
  by_cases hji : j = i
  ·subst hji; exact hy.wpOp hi hS ⟨fun _ _ _ q => q, H⟩
  ·have h1 := H.2 j (ready_mono hj hji)
   obtain ⟨hjun, oj, hoj, hall⟩ := mem_ready.1 hj
   have hiun := (mem_ready.1 hr).1
   have hlast : ∀ e ∈ oj.after, Region.binds .any e = true → e.on ≠ i := fun e he hb heq => by
    have q := hall e he hb
    rw [heq] at q
    rcases Nat.lt_or_ge i listed.size with h' | h'
    ·simp [h'] at hiun q; rw [hiun] at q; cases q
    ·simp [Array.getElem?_eq_none h'] at q
   have hap := Region.free_spec hi hfree j oj hoj hji hjun hlast
   have h2 := wpOp_putIf hoj hap (fun cs b => Region.noSelect_spec hsel i oi cs b hi) (fun cs b => Region.noSelect_spec hsel j oj cs b hoj) (fun c a w q => absurd q (hQ c _ w)) hy h1
   have hmj : rd = true → mod j mm = false := fun q => by
    cases hm : mod j mm with
    | false => rfl
    | true =>
     obtain ⟨oj', ho', hd⟩ := hdep q j hji hm hjun
     rw [hoj] at ho'; cases ho'
     unfold dependsOn at hd
     obtain ⟨e, he, hb⟩ := Array.any_eq_true'.1 hd
     simp only [Bool.and_eq_true, beq_iff_eq] at hb
     exact absurd hb.2 (hlast e he hb.1)
   have setI : ∀ m, (∀ k, mod k m = true → listed.getD k true = false) → ∀ k, mod k m = true → (listed.setIfInBounds i true).getD k true = false := fun m q k hk => by
    by_cases hik : i = k
    ·subst hik; rw [hmi m] at hk; cases hk
    ·rw [getD_set_ne true hik]; exact q k hk
   refine wpOp_mono (fun a' w' h3 => ?_) h2
   obtain ⟨hy', hSS, hA⟩ := h3
   have hS' : rd = true → S mm w' := fun q => hSS mm (hmj q) (setI mm (hunl q)) (hS q)
   refine ⟨fun m h1 h2 => hSS m h1 (setI m h2), ih (listed.setIfInBounds j true) a' w' ?_ ?_ hmi (fun q k hk => ?_) (ready_mono hr (Ne.symm hji)) hy' hS' ?_⟩
   ·unfold Region.free at hfree ⊢
    simp only [hi, List.all_eq_true, List.mem_range] at hfree ⊢
    intro k hk
    have := hfree k hk
    by_cases hjk : j = k
    ·subst hjk
     have hlt : j < listed.size := by
      rcases Nat.lt_or_ge j listed.size with h' | h'
      ·exact h'
      ·simp [Array.getElem?_eq_none h'] at hjun
     simp [hlt]
    ·rw [getD_set_ne true hjk]; exact this
   ·intro q k hki hm hun
    refine hdep q k hki hm ?_
    by_cases hjk : j = k
    ·subst hjk; exact hjun
    ·rw [getD_set_ne true hjk] at hun; exact hun
   ·by_cases hjk : j = k
    ·subst hjk; rw [hmj q] at hk; cases hk
    ·rw [getD_set_ne true hjk]; exact hunl q k hk
   ·rw [Array.setIfInBounds_comm _ _ hji]
    exact hA
theorem allOf_mem {f : Nat → Prop} : ∀ {l : List Nat}, allOf f l → ∀ i ∈ l, f i
 | [], _, i, hi => by cases hi
 | [j], h, i, hi => by simp at hi; subst hi; exact h
 | j :: k :: l, h, i, hi => by
  rcases List.mem_cons.1 hi with e | hi
  ·subst e; exact h.1
  ·exact allOf_mem h.2 i hi
theorem newNames_set {fr : Fr} {t : Nat} {b : Bool} {op : Op} {dst : Option Tmp} (ht : fr.get t = .one (.bool b)) : newNames Γ (fr.set t (.one (.lit b))) op dst = newNames Γ fr op dst := by
 cases dst with
 | none => rfl
 | some d =>
  cases op <;> try rfl
  rename_i c
  obtain ⟨callee, args, tys⟩ := c
  cases callee <;> try rfl
  rotate_left
  ·rename_i bi; cases bi <;> rfl
  rename_i f
  cases f <;> try rfl
  rename_i u
  simp only [newNames, ev, Fr.get_set]
  by_cases hu : t = u ∧ t < fr.length
  ·rw [if_pos hu]
   obtain ⟨rfl, _⟩ := hu
   rw [ht]
  ·rw [if_neg hu]
theorem addr_lit {fr fr1 : Fr} {x : Operand} {n : Nat} (h : fr1 = fr ∨ ∃ t b, fr.get t = .one (.bool b) ∧ fr1 = fr.set t (.one (.lit b))) (hev : addrName (ev fr1 x) = some n) : ev fr x = ev fr1 x := by
 rcases h with rfl | ⟨t, b, ht, rfl⟩
 ·rfl
 ·cases x with
  | tmp u =>
   simp only [ev, Fr.get_set] at hev ⊢
   split at hev
   ·cases hev
   ·rename_i hc; rw [if_neg hc]
  | const _ => rfl
  | global _ => rfl
  | func _ => rfl
theorem store_addr {fr : Fr} {σ : Mem} {o : Oper} {K : Fr → Mem → Prop} {T : TypeId} {x y : Operand} (h : execx P Γ o fr σ K) (hop : o.op = .store T x y) : ∃ n, addrName (ev fr x) = some n ∧ ((∃ b i, ev fr x = .one (.ptr n b i)) ∨ (∃ z i b j, ev fr x = .one (.vptr n z i b j)) ∨ ∃ k j i, n = hname k ∧ ev fr x = .one (.hp k j i)) := by
 unfold execx at h
 rw [hop] at h
 simp only [thawOp, isEff, effx] at h
 split at h <;> try exact h.elim
 ·rename_i n base idx hx
  exact ⟨n, by rw [hx]; rfl, Or.inl ⟨_, _, hx⟩⟩
 ·rename_i n z i b j hx
  exact ⟨n, by rw [hx]; rfl, Or.inr (Or.inl ⟨_, _, _, _, hx⟩)⟩
 ·rename_i k j i hx
  exact ⟨hname k, by rw [hx]; rfl, Or.inr (Or.inr ⟨_, _, _, rfl, hx⟩)⟩
theorem drawx_sound {ops : Array Oper} {rts : List (Option Nat)} {K : Fr → Mem → Prop} {Q : Exit → Act → World → Prop} {σ0 : Mem} {ρ0 : Rho} {w0 : World} (hΓ : GoodG P Γ) (hsel : Region.noSelect ops = true) (hQp : ∀ c a w, ¬ Q (.panic c) a w) (hQ : ∀ ρ fr σ a w, Rep E ρ fr σ a w → K fr σ → Q .normal a w) (h0 : MemRep ρ0 σ0 w0) :
  ∀ (n : Nat) (ρ : Rho) (listed : Array Bool) (fr : Fr) (σ : Mem) (a : Act) (w : World), drawx P Γ ops rts σ0 K n listed fr σ → Rep E ρ fr σ a w → w0.heap.size ≤ w.heap.size →
   (∀ m b, Mem.find σ0 m = some b → (∀ j, modAt Γ ops rts j m = true → listed.getD j true = false) → (∀ k, Foot ρ0 m b k → w.heap[k]? = w0.heap[k]?) ∧ Mem.find σ m = some b ∧ ρ m = ρ0 m) →
   AnyM P ops Q (Held σ0 ρ0 w0) (fun j m => modAt Γ ops rts j m) n listed a w
 | 0, ρ, listed, fr, σ, a, w, h, hR, _, _ => by
  simp only [drawx] at h
  split at h
  ·rename_i hr; exact ⟨hr, hQ ρ fr σ a w hR h⟩
  ·exact h.elim
 | n + 1, ρ, listed, fr, σ, a, w, h, hR, hsz, hH => by
  simp only [drawx] at h
  split at h
  ·rename_i hr
   exact ⟨fun _ => hQ ρ fr σ a w hR h, fun i hi => by rw [hr] at hi; cases hi⟩
  ·rename_i rs hr
   split at h
   ·rename_i i hfind
    split at h <;> try exact h.elim
    rename_i o ho
    have htake := List.find?_some hfind
    have hmem : i ∈ Region.ready .any ops listed := List.mem_of_find?_eq_some hfind
    simp only [takeable, ho, Bool.and_eq_true, Bool.not_eq_true'] at htake
    obtain ⟨⟨he, hfree⟩, hld⟩ := htake
    have hmo := det_facts (Γ := Γ) he
    have hmi : ∀ m, modAt Γ ops rts i m = false := fun m => by simp [modAt, ho, hmo]
    have next : ∀ {fr' : Fr} {v : Value}, Rep E ρ fr' σ (a.put o.dst v) w → drawx P Γ ops rts σ0 K n (listed.setIfInBounds i true) fr' σ → AnyM P ops Q (Held σ0 ρ0 w0) (fun j m => modAt Γ ops rts j m) n (listed.setIfInBounds i true) (a.put o.dst v) w := by
     intro fr' v hR' hK
     refine drawx_sound hΓ hsel hQp hQ h0 n ρ _ fr' σ _ w hK hR' hsz fun m b hb hun => hH m b hb fun j hm => ?_
     have := hun j hm
     by_cases hji : i = j
     ·subst hji; rw [hmi m] at hm; cases hm
     ·rw [getD_set_ne true hji] at this; exact this
    rcases step_cases h hR with ⟨hw, fr1, hR1, hx, hfr1⟩ | ⟨hw, fr', hR', hK⟩
    ·obtain ⟨v, fr', h1, h2, h3⟩ := exec_det hx he hR1
     rcases h3 with h3 | ⟨T, x, m, b, hop, hev, hb, h3⟩
     ·exact anyM_first (rd := false) (mm := 0) ho hsel hQp n listed a w hfree (fun q => by cases q) hmi (fun q => by cases q) hmem (Or.inl ⟨hw, fun w' _ => h3 w'⟩) (fun q => by cases q) (next h1 h2)
     ·have hev0 : addrName (ev fr x) = some m := by rw [addr_lit hfr1 hev]; exact hev
      rw [hop] at hld
      simp only [hev0, Bool.and_eq_true, List.all_eq_true, List.mem_range] at hld
      obtain ⟨hl1, hl2⟩ := hld
      obtain ⟨b0, hb0⟩ := Option.isSome_iff_exists.1 hl1
      have hun : ∀ j, modAt Γ ops rts j m = true → ∃ oj, ops[j]? = some oj ∧ listed.getD j true = false ∧ dependsOn oj i = true := fun j hm => by
       cases hoj : ops[j]? with
       | none => simp [modAt, hoj] at hm
       | some oj =>
        have hlt : j < ops.size := (Array.getElem?_eq_some_iff.1 hoj).1
        have := hl2 j hlt
        rw [hoj] at this
        simp only [hm, Bool.not_true, Bool.false_or, Bool.and_eq_true, Bool.not_eq_true'] at this
        exact ⟨oj, rfl, this⟩
      obtain ⟨hheld, hbb, hρm⟩ := hH m b0 hb0 fun j hm => by obtain ⟨_, _, q, _⟩ := hun j hm; exact q
      rw [hb] at hbb
      cases hbb
      refine anyM_first (rd := true) (mm := m) ho hsel hQp n listed a w hfree (fun _ j hji hm hu => ?_) hmi (fun _ j hm => by obtain ⟨_, _, q, _⟩ := hun j hm; exact q) hmem (Or.inl ⟨hw, fun w' hS => h3 w' fun k hk => ?_⟩) (fun _ b' hb' k hk => ?_) (next h1 h2)
      ·obtain ⟨oj, q1, _, q3⟩ := hun j hm
       exact ⟨oj, q1, q3⟩
      ·have hk0 : Foot ρ0 m b k := (Foot.agree hρm).1 hk
       rw [hS rfl b hb0 k hk0, hheld k hk0]
      ·rw [hb0] at hb'; cases hb'
       exact hheld k hk
    ·exact anyM_first (rd := false) (mm := 0) ho hsel hQp n listed a w hfree (fun q => by cases q) hmi (fun q => by cases q) hmem (Or.inr ⟨hw, rfl⟩) (fun q => by cases q) (next hR' hK)
   ·have h := allOf_mem h
    refine ⟨fun q => (hr q).elim, fun i hi => ?_⟩
    have h := h i hi
    cases ho : ops[i]? with
    | none => rw [ho] at h; exact h.elim
    | some o =>
     rw [ho] at h
     simp only at h
     split at h <;> try exact h.elim
     rename_i hnew0
     rw [Bool.and_eq_true] at hnew0
     obtain ⟨hroot, hnew⟩ := hnew0
     have hnew' : ∀ m b, Mem.find σ0 m = some b → m ∉ newNames Γ fr o.op o.dst := fun m b hb hm => by
      have := List.all_eq_true.1 hnew m hm
      rw [hb] at this; cases this
     unfold wpOp
     simp only [ho]
     have next : ∀ {ρ' : Rho} {fr' : Fr} {σ' : Mem} {v : Value} {w' : World}, Rep E ρ' fr' σ' (a.put o.dst v) w' → drawx P Γ ops rts σ0 K n (listed.setIfInBounds i true) fr' σ' → (modOp Γ o.op = false → ∀ m, isHeap m = false → m ∉ newNames Γ fr o.op o.dst → ρ' m = ρ m) →
       w.heap.size ≤ w'.heap.size → (∀ m b, Mem.find σ0 m = some b → modAt Γ ops rts i m = false → Mem.find σ m = some b → ρ m = ρ0 m → (∀ k, Foot ρ0 m b k → w'.heap[k]? = w.heap[k]?) ∧ Mem.find σ' m = some b ∧ ρ' m = ρ m) →
       ((∀ m, modAt Γ ops rts i m = false → (∀ j, modAt Γ ops rts j m = true → listed.getD j true = false) → Held σ0 ρ0 w0 m w → Held σ0 ρ0 w0 m w') ∧ AnyM P ops Q (Held σ0 ρ0 w0) (fun j m => modAt Γ ops rts j m) n (listed.setIfInBounds i true) (a.put o.dst v) w') := by
      intro ρ' fr' σ' v w' hR' hK hρ' hsz' hk
      refine ⟨fun m hm hun q b hb k hne => by rw [(hk m b hb hm (hH m b hb hun).2.1 (hH m b hb hun).2.2).1 k hne]; exact q b hb k hne, drawx_sound hΓ hsel hQp hQ h0 n ρ' _ fr' σ' _ w' hK hR' (by omega) fun m b hb hun => ?_⟩
      have hm : modAt Γ ops rts i m = false := by
       cases hq : modAt Γ ops rts i m with
       | false => rfl
       | true =>
        have := hun i hq
        have hiun := (mem_ready.1 hi).1
        have hlt : i < listed.size := by
         rcases Nat.lt_or_ge i listed.size with h' | h'
         ·exact h'
         ·simp [Array.getElem?_eq_none h'] at hiun
        simp [hlt] at this
      obtain ⟨g1, g2, g3⟩ := hH m b hb fun j hmj => by
       have := hun j hmj
       by_cases hji : i = j
       ·subst hji; exact (mem_ready.1 hi).1
       ·rw [getD_set_ne true hji] at this; exact this
      obtain ⟨k1, k2, k3⟩ := hk m b hb hm g2 g3
      exact ⟨fun k hne => (k1 k hne).trans (g1 k hne), k2, k3.trans g3⟩
     rcases step_cases h hR with ⟨hw, fr1, hR1, hx, hfr1⟩ | ⟨hw, fr', hR', hK⟩
     ·rw [if_pos hw]
      have hnn : newNames Γ fr1 o.op o.dst = newNames Γ fr o.op o.dst := by
       rcases hfr1 with rfl | ⟨t, b, ht, rfl⟩
       ·rfl
       ·exact newNames_set ht
      refine Or.inl (exec_sound hx hΓ hR1 fun v fr' σ' ρ' w' hK hR' hsz' hρ' hk => next hR' hK (fun q m hh hm => hρ' q m hh (by rw [hnn]; exact hm)) hsz' fun m b hb hm hfind hρm => ?_)
      obtain ⟨_, rfl, hk1, hk2⟩ := hk
      by_cases hmo : modOp Γ o.op = false
      ·obtain ⟨q1, q2, q3⟩ := hk1 hmo
       refine ⟨fun k hne => q1.block _ (by have := in_range (h0 m b hb) hne; omega) (fun q => q), q2 m b hfind, ?_⟩
       cases hh : isHeap m with
       | true => exact q3 m hh
       | false => exact hρ' hmo m hh (by rw [hnn]; exact hnew' m b hb)
      ·
       simp only [modAt, ho, Bool.and_eq_false_iff] at hm
       rcases hm with hm | hm
       ·exact absurd hm hmo
       ·split at hm <;> try (cases hm; done)
        rename_i T x y hop
        split at hm <;> try (cases hm; done)
        rename_i r hrt
        have hrm : r ≠ m := by simpa using hm
        rw [hrt, hop] at hroot
        obtain ⟨nn, hev, hform⟩ := store_addr hx hop
        have hev0 := addr_lit hfr1 hev
        have hrn : nn = r := by
         rcases hform with ⟨q1, q2, q3⟩ | ⟨q1, q2, q3, q4, q5⟩ | ⟨q1, q2, q3, q4, q5⟩
         ·simp only [rootOk, hev0, q3, beq_iff_eq] at hroot; exact hroot
         ·simp only [rootOk, hev0, q5, beq_iff_eq] at hroot; exact hroot
         ·simp only [rootOk, hev0, q5, beq_iff_eq] at hroot; rw [q4]; exact hroot
        subst hrn
        obtain ⟨q0, q1⟩ := hk2 T x y nn m hop hev hrm
        obtain ⟨q1, q2⟩ := q1 b hfind
        exact ⟨fun k hk => q1 k ((Foot.agree hρm).2 hk), q2, q0⟩
     ·rw [if_neg (by rw [hw]; simp)]
      exact next hR' hK (fun _ _ _ _ => rfl) (Nat.le_refl _) (fun m b hb hm q _ => ⟨fun _ _ => rfl, q, rfl⟩)
end
section
variable {P : Program} {Γ : Gam} {E : Env}
theorem Fr.get_eq : ∀ (fr : Fr) (t : Nat), Fr.get fr t = (fr[t]?).getD .undef
 | [], t => by simp [Fr.get]
 | x :: r, 0 => by simp [Fr.get]
 | x :: r, t + 1 => by simp [Fr.get, Fr.get_eq r t]
theorem scrub_sound {ρ : Rho} {tmps : Array Value} : ∀ (l : List Nat) {fr : Fr}, FrRep ρ fr tmps → FrRep ρ (scrubFr l fr) tmps
 | [], fr, h => h
 | t :: l, fr, h => by
  simp only [scrubFr, List.foldr_cons]
  exact (scrub_sound l h).same fun _ _ => trivial
theorem find_filter (f : Nat → Bool) : ∀ {σ : Mem} {n : Nat} {b : Blk}, Mem.find (σ.filter fun p => f p.1) n = some b → Mem.find σ n = some b
 | [], n, b, h => by simp [Mem.find] at h
 | (m, x) :: r, n, b, h => by
  simp only [Mem.find]
  cases hf : f m with
  | true =>
   rw [List.filter_cons_of_pos (by simpa using hf)] at h
   simp only [Mem.find] at h
   split at h
   ·rename_i e; rw [if_pos e]; exact h
   ·rename_i e; rw [if_neg e]; exact find_filter f h
  | false =>
   rw [List.filter_cons_of_neg (by simp [hf])] at h
   by_cases e : m = n
   ·subst e
    exfalso
    have none : ∀ {r : Mem}, Mem.find (r.filter fun p => f p.1) m = none := by
     intro r
     induction r with
     | nil => rfl
     | cons y r ih =>
      cases hy : f y.1 with
      | true =>
       rw [List.filter_cons_of_pos (by simpa using hy)]
       obtain ⟨q, z⟩ := y
       simp only [Mem.find]
       rw [if_neg (fun e => by subst e; rw [hf] at hy; cases hy)]
       exact ih
      | false => rw [List.filter_cons_of_neg (by simp [hy])]; exact ih
    rw [none] at h; cases h
   ·rw [if_neg e]; exact find_filter f h
theorem head0_sound {D : Hints} {ρ : Rho} {fr : Fr} {σ : Mem} {a : Act} {w : World} {c : Code} {k : List Item} (h : Rep E ρ fr σ a w) : Rep E ρ (headFrD D c k fr) (headMemD D c k fr σ) a w := by
 refine h.less ?_ fun n b hb => ?_
 ·unfold headFrD
  split
  ·exact scrub_sound _ h.fr
  ·exact scrub_sound _ (scrub_sound _ h.fr)
 ·exact find_filter (σ := σ) (fun m => !(((σ.map fun p : Nat × Blk => p.1).filter fun n => Nat.blt n 200000).contains m) || frRefs m (headFrD D c k fr) || σ.any (fun q => segsRefs m q.2.segs)) hb
theorem rdw_takex {σ σ1 : Mem} {ks : List Kd} {x : AV} {cs : List Col} (h : rdw σ ks x = some (cs, σ1)) : takex σ ks x fun c s => c = cs ∧ s = σ1 := by
 have fin : ∀ {a c : List Col} {b d : Mem}, some (a, b) = some (c, d) → a = c ∧ b = d := fun q => by cases q; exact ⟨rfl, rfl⟩
 unfold rdw at h
 split at h
 ·rename_i n
  show (match Mem.find σ n with | some (.vec cs) => _ | _ => False)
  split at h
  ·rename_i hq; rw [hq]; exact fin h
  ·cases h
 ·rename_i n z i len
  show (match Mem.find σ n with | some (.vec cs) => _ | _ => False)
  split at h
  ·rename_i hq
   rw [hq]
   split at h
   ·rename_i hz; show (match Nat.beq z _ with | true => _ | false => False); rw [hz]; exact fin h
   ·cases h
  ·cases h
 ·rename_i n z i len
  show (match Mem.find σ n with | some (.vec cs) => _ | _ => False)
  split at h
  ·rename_i hq
   rw [hq]
   split at h
   ·rename_i hz; show (match Nat.beq z _ with | true => _ | false => False); rw [hz]; exact fin h
   ·cases h
  ·cases h
 ·rename_i n base idx len cap
  show (match Mem.find σ n with | some (.own _ s) => _ | _ => False)
  split at h
  ·rename_i hq
   rw [hq]
   split at h
   ·rename_i hf
    show (match findSeg _ base with | some (.ints k N l) => _ | _ => False)
    rw [hf]
    split at h
    ·rename_i hz; exact ⟨⟨Nat.le_of_ble_eq_true hz⟩, fin h⟩
    ·cases h
   ·cases h
  ·cases h
 ·exact fin h
 ·cases h
theorem rdo_reads {ρ : Rho} {σ σ1 : Mem} {w : World} {ks : List Kd} {x : AV} {cs : List Col} {v : Value} (h : rdo σ ks x = some (cs, σ1)) (hks : 0 < width ks) (hm : MemRep ρ σ w) (hs : Sep ρ σ) (hx : SRep ρ x v) :
  ∃ L, Reads ρ σ w v cs L ∧ (∀ m b, Mem.find σ1 m = some b → Mem.find σ m = some b) ∧ ∀ k, FootL L cs k → Clean ρ σ1 k := by
 have fin : ∀ {L : Loc} {cs : List Col} {σ1 : Mem}, Reads ρ σ w v cs L → (∀ m b, Mem.find σ1 m = some b → Mem.find σ m = some b) → (L.len ≠ 0 → Clean ρ σ1 L.1) → ∃ L, Reads ρ σ w v cs L ∧ (∀ m b, Mem.find σ1 m = some b → Mem.find σ m = some b) ∧ ∀ k, FootL L cs k → Clean ρ σ1 k :=
  fun {L cs σ1} hr hl hc => ⟨L, hr, hl, fun k hk => by
   rcases hk with ⟨q, rfl⟩ | hk
   ·exact hc q
   ·exact (hr.clean k hk).less hl⟩
 have foot : ∀ {n : Nat} {cs : List Col} {b : Blk}, Mem.find σ n = some b → Mem.cols σ n = some cs → (ρ n).len ≠ 0 → Foot ρ n b (ρ n).1 := fun {n cs b} hb hcs q => by
  obtain ⟨_, b', hb', _, hf⟩ := cols_sound hm hcs
  rw [hb] at hb'; cases hb'
  exact hf _ (Or.inl ⟨q, rfl⟩)
 have idl : ∀ m b, Mem.find σ m = some b → Mem.find σ m = some b := fun _ _ q => q
 unfold rdo at h
 split at h
 ·rename_i n
  split at h <;> try (cases h; done)
  ·rename_i cs' hn
   simp only [Option.some.injEq, Prod.mk.injEq] at h
   obtain ⟨rfl, rfl⟩ := h
   have hcs : Mem.cols σ n = some cs' := by simp [Mem.cols, hn]
   exact fin (reads_vec hm hs hcs hx) (erase_less n) (fun q => clean_erase hs hn (foot hn hcs q))
  ·rename_i cs' hn
   simp only [Option.some.injEq, Prod.mk.injEq] at h
   obtain ⟨rfl, rfl⟩ := h
   have hcs : Mem.cols σ n = some cs' := by simp [Mem.cols, hn]
   exact fin (reads_vec hm hs hcs hx) idl (fun q => clean_view hs hn (foot hn hcs q) (fun k q => q))
 ·rename_i n z i len
  have hle := hx
  obtain ⟨_, _, _, _, hle, _⟩ := hle
  split at h <;> try (cases h; done)
  ·rename_i cs' hn
   split at h <;> try (cases h; done)
   rename_i hz
   simp only [Option.some.injEq, Prod.mk.injEq] at h
   obtain ⟨rfl, rfl⟩ := h
   have hcs : Mem.cols σ n = some cs' := by simp [Mem.cols, hn]
   obtain ⟨A, cap, hr, _⟩ := reads_vsl hm hs hcs (beq_nat hz) (vsl_vcl hx)
   exact fin hr (erase_less n) (fun q => clean_erase hs hn (foot hn hcs (by have : len ≠ 0 := q; omega)))
  ·rename_i cs' hn
   split at h <;> try (cases h; done)
   rename_i hz
   simp only [Option.some.injEq, Prod.mk.injEq] at h
   obtain ⟨rfl, rfl⟩ := h
   have hcs : Mem.cols σ n = some cs' := by simp [Mem.cols, hn]
   obtain ⟨A, cap, hr, _⟩ := reads_vsl hm hs hcs (beq_nat hz) (vsl_vcl hx)
   exact fin hr idl (fun q => clean_view hs hn (foot hn hcs (by have : len ≠ 0 := q; omega)) (fun k q => q))
 ·rename_i n z i len
  have hle := hx
  obtain ⟨_, _, _, _, hle, _⟩ := hle
  split at h <;> try (cases h; done)
  ·rename_i cs' hn
   split at h <;> try (cases h; done)
   rename_i hz
   simp only [Option.some.injEq, Prod.mk.injEq] at h
   obtain ⟨rfl, rfl⟩ := h
   have hcs : Mem.cols σ n = some cs' := by simp [Mem.cols, hn]
   obtain ⟨A, cap, hr, _⟩ := reads_vsl hm hs hcs (beq_nat hz) hx
   exact fin hr (erase_less n) (fun q => clean_erase hs hn (foot hn hcs (by have : len ≠ 0 := q; omega)))
  ·rename_i cs' hn
   split at h <;> try (cases h; done)
   rename_i hz
   simp only [Option.some.injEq, Prod.mk.injEq] at h
   obtain ⟨rfl, rfl⟩ := h
   have hcs : Mem.cols σ n = some cs' := by simp [Mem.cols, hn]
   obtain ⟨A, cap, hr, _⟩ := reads_vsl hm hs hcs (beq_nat hz) hx
   exact fin hr idl (fun q => clean_view hs hn (foot hn hcs (by have : len ≠ 0 := q; omega)) (fun k q => q))
 ·rename_i n c i
  split at h <;> try (cases h; done)
  rename_i k ll hr
  simp only [Option.some.injEq, Prod.mk.injEq] at h
  obtain ⟨rfl, rfl⟩ := h
  obtain ⟨l, e, σ1, hsh, hl, hσ⟩ := sharex_sound (K := fun l s => l = llget ll i ∧ s = σ) (k := k) (x := .el n c i) (by simp [sharex, rdx, hr, oneInts]) hm hs hx
  subst hl hσ
  obtain ⟨g1, g2, g3, g4, g5⟩ := Elt.rep hsh.rep
  refine fin ⟨by rw [g2, g3, g4]; exact hsh.val, g1, fun k hk => absurd hk not_inner_ints, lnk_ints, fun q => ?_⟩ idl (fun q => ?_)
  ·obtain ⟨cs0, hc, hlen, hV, b, hb, hbb, hf⟩ := rows_sound hm hr
   obtain ⟨rfl, hi⟩ := hx
   obtain ⟨hne, a', ha', hab⟩ := g5 _ (Or.inl ⟨q, rfl⟩)
   have hin : Clean ρ σ1 e.loc.1 := by rw [hab]; exact (hsh.clean hne a' ha').1
   have hv := hsh.val
   simp only [Value.slice.injEq] at hv
   have hfo : Foot ρ n b e.loc.1 := hf _ (Or.inr ⟨c, k, ll, i, _, a', hc, llget_some (by omega), hne, by rw [hv.1]; exact ha', hab⟩)
   exact ⟨n, b, hb, hfo, fun m c' hm' _ => hin m c' hm'⟩
  ·obtain ⟨hne, a', ha', hab⟩ := g5 _ (Or.inl ⟨q, rfl⟩)
   rw [hab]; exact (hsh.clean hne a' ha').1
 ·rename_i n c i o len
  split at h <;> try (cases h; done)
  rename_i k ll hr
  simp only [Option.some.injEq, Prod.mk.injEq] at h
  obtain ⟨rfl, rfl⟩ := h
  obtain ⟨l, e, σ1, hsh, hl, hσ⟩ := sharex_sound (K := fun l s => l = lsub (llget ll i) o len ∧ s = σ) (k := k) (x := .esl n c i o len) (by simp [sharex, rdx, hr, oneInts]) hm hs hx
  subst hl hσ
  obtain ⟨g1, g2, g3, g4, g5⟩ := Elt.rep hsh.rep
  obtain ⟨cs', L', hrd, hcs'⟩ := rdx_sound (K := fun c => c = [Col.ints k (lsub (llget ll i) o len)]) (ks := [.ints k]) (x := .one (.esl n c i o len)) (by simp [rdx, hr]) Nat.one_pos hm hs hx
  refine fin ⟨by rw [g2, g3, g4]; exact hsh.val, g1, fun k hk => absurd hk not_inner_ints, lnk_ints, fun q => ?_⟩ idl (fun q => ?_)
  ·obtain ⟨hne, a', ha', hab⟩ := g5 _ (Or.inl ⟨q, rfl⟩)
   have hin : Clean ρ σ1 e.loc.1 := by rw [hab]; exact (hsh.clean hne a' ha').1
   have hv := hsh.val
   rw [hrd.val] at hv
   simp only [Value.slice.injEq] at hv
   have hl0 : L'.len ≠ 0 := by rw [hv.2.1, ← g3]; exact q
   obtain ⟨n', b', hb', hfo, _⟩ := hrd.root hl0
   have hL1 : L'.1 = e.loc.1 := by
    have h1 := hrd.rep.adr hl0
    have h2 := g1.adr q
    rw [g2, ← hv.1, h1] at h2
    simp only [Option.some.injEq, Loc.at, Addr.mk.injEq] at h2
    exact h2.1
   rw [hL1] at hfo
   exact ⟨n', b', hb', hfo, fun m c' hm' _ => hin m c' hm'⟩
  ·obtain ⟨hne, a', ha', hab⟩ := g5 _ (Or.inl ⟨q, rfl⟩)
   rw [hab]; exact (hsh.clean hne a' ha').1
 ·rename_i n base idx len cap
  split at h <;> try (cases h; done)
  rename_i T s hn
  split at h <;> try (cases h; done)
  rename_i k N l hf
  split at h <;> try (cases h; done)
  rename_i hle
  simp only [Option.some.injEq, Prod.mk.injEq] at h
  obtain ⟨rfl, rfl⟩ := h
  obtain ⟨L, hr, h2⟩ := reads_sl hm hs (b := .own T s) hn hf (Nat.le_of_ble_eq_true hle) hx
  refine fin hr (erase_less n) (fun q => clean_erase hs hn ?_)
  have := hr.rep.cap
  exact (h2 (by omega)).2.1
 ·simp only [Option.some.injEq, Prod.mk.injEq] at h
  obtain ⟨rfl, rfl⟩ := h
  obtain ⟨rfl, _⟩ := hx
  obtain ⟨g1, g2⟩ := nil_rep (w := w) hks
  exact fin (L := loc0) ⟨rfl, g1, fun k hk => absurd (Or.inr hk) (g2 k), nil_lnk, fun q => absurd rfl q⟩ idl (fun q => absurd rfl q)
 ·cases h
theorem rdoN_reads {ρ : Rho} {σ σ1 : Mem} {w : World} {ks : List Kd} {x : AV} {cs : List Col} {v : Value} {name : Nat} (h : rdoN name σ ks x = some (cs, σ1)) (hks : 0 < width ks) (hm : MemRep ρ σ w) (hs : Sep ρ σ) (hx : SRep ρ x v) :
  ∃ L, Reads ρ σ w v cs L ∧ (∀ m b, Mem.find σ1 m = some b → Mem.find σ m = some b) ∧ ∀ k, FootL L cs k → Clean ρ σ1 k := by
 unfold rdoN at h
 split at h
 ·rename_i cs' σ' hr
  simp only [Option.some.injEq, Prod.mk.injEq] at h
  obtain ⟨rfl, rfl⟩ := h
  obtain ⟨L, h1, h2, h3⟩ := rdo_reads hr hks hm hs hx
  exact ⟨L, h1, fun m b q => h2 m b (erase_less name m b q), fun k hk => (h3 k hk).less (erase_less name)⟩
 ·cases h
theorem hintOne0_sound {ρ : Rho} {fr : Fr} {σ : Mem} {a : Act} {w : World} {hn : Hint} (h : Rep E ρ fr σ a w) : ∃ ρ', Rep E ρ' (hintOne0 hn fr σ).1 (hintOne0 hn fr σ).2 a w := by
 unfold hintOne0
 have fin : ∀ {cs : List Col} {σ1 : Mem} {L : Loc} {b : Blk}, (∀ v, a.tmps[hn.slot]? = some v → v = .slice L.a L.len L.cap) → (∀ m b, Mem.find σ1 m = some b → Mem.find σ m = some b) → freshB (nameOf hn) (fr.set hn.slot .undef) σ1 = true →
   BlkRep (upd ρ (nameOf hn) L) w (nameOf hn) b → (∀ k, Out (upd ρ (nameOf hn) L) (nameOf hn) b k → (E.w0.heap.size ≤ k ∨ E.ex k) ∧ (∀ m c, Mem.find σ1 m = some c → ¬ Foot ρ m c k) ∧ ¬ Inn (upd ρ (nameOf hn) L) (nameOf hn) b k) → (∀ k, Foot (upd ρ (nameOf hn) L) (nameOf hn) b k → Clean ρ σ1 k) →
   Rep E (upd ρ (nameOf hn) L) (fr.set hn.slot (.one (.vec (nameOf hn)))) (Mem.ins (nameOf hn) b σ1) a w := by
  intro cs σ1 L b hval hless hfr hb ho hf
  have h1 : Rep E ρ (fr.set hn.slot .undef) σ1 a w := h.less (h.fr.same fun _ _ => trivial) hless
  have h2 := (add_sound h1 hfr h.keep (fun _ _ _ _ _ => rfl) hb ho hf).find_eq (find_ins (freshB_parts hfr).2.2)
  refine h2.less ?_ fun _ _ q => q
  have hfs := h2.fr.same (s := hn.slot) (x := .one (.vec (nameOf hn))) fun v hv => by
   show v = _
   rw [upd_eq]; exact hval v hv
  refine ⟨by rw [Fr.length_set]; exact h.fr.1, fun t v ht => ?_⟩
  have := hfs.2 t v ht
  rw [Fr.get_set] at this ⊢
  rw [Fr.length_set] at this
  by_cases hq : hn.slot = t ∧ hn.slot < fr.length
  ·rw [if_pos hq] at this ⊢; exact this
  ·rw [if_neg hq] at this ⊢
   rw [Fr.get_set, if_neg hq] at this
   exact this
 have slotv : ∀ {v}, a.tmps[hn.slot]? = some v → SRep ρ (fr.get hn.slot) v := fun hv => h.fr.2 _ _ hv
 have bare : a.tmps[hn.slot]? = none → fr.get hn.slot = .undef := fun hq => Fr.get_out fr _ (by rw [h.fr.1]; simpa using hq)
 split
 ·exact ⟨ρ, h⟩
 ·rename_i cs σ1 hrd
  split
  ·rename_i hc
   simp only [Bool.and_eq_true] at hc
   obtain ⟨⟨hw, hkd⟩, hfr⟩ := hc
   have hw : 0 < width hn.ks := by simpa using hw
   cases hq : a.tmps[hn.slot]? with
   | none =>
    exfalso
    rw [bare hq] at hrd
    cases ho : hn.own <;> rw [ho] at hrd <;> simp [rdw, rdo, rdoN] at hrd
   | some v =>
    have hx := slotv hq
    cases ho : hn.own with
    | true =>
     rw [ho] at hrd
     simp only at hrd ⊢
     obtain ⟨cs', L, σ', hT, hcs, hσ⟩ := takex_sound (rdw_takex hrd) hw h.mem h.sep hx
     subst hcs hσ
     have hT := hT.asH (σ' := σ)
     refine ⟨_, fin (L := L) (cs := cs'.map (Col.asH σ)) (fun u hu => by rw [hq] at hu; cases hu; exact hT.reads.val) hT.less hfr ⟨by rw [upd_eq]; exact hT.reads.rep, by rw [upd_eq]; exact hT.write, by rw [upd_eq]; exact hT.reads.lnk.agree (ne_of_refs (f := fun m => (cs'.map (Col.asH σ)).any (Col.refs m)) (refs_no (freshB_parts hfr).1))⟩ (fun k hk => ?_) (fun k hk => ?_)⟩
     ·simp only [Out, upd_eq] at hk
      obtain ⟨hc, rfl⟩ := hk
      obtain ⟨n, b, hn', hO, hg⟩ := hT.gone hc
      refine ⟨h.own n b _ hn' hO, fun m c hm hF => h.sep.1 n m b c _ hn' (hT.less m c hm) (fun e => by subst e; rw [hg] at hm; cases hm) hO hF, fun hI => ?_⟩
      simp only [Inn, upd_eq] at hI
      exact hT.reads.clean _ hI n b hn' hO
     ·simp only [Foot, upd_eq] at hk
      rcases hk with ⟨hc, rfl⟩ | hk
      ·obtain ⟨n, b, hn', hO, hg⟩ := hT.gone hc
       exact fun m c hm hO' => h.sep.1 n m b c _ hn' (hT.less m c hm) (fun e => by subst e; rw [hg] at hm; cases hm) hO hO'.foot
      ·exact (hT.reads.clean k hk).less hT.less
    | false =>
     rw [ho] at hrd
     simp only at hrd ⊢
     obtain ⟨L, hr, hl, hc⟩ := rdoN_reads hrd hw h.mem h.sep hx
     exact ⟨_, fin (L := L) (cs := cs) (fun u hu => by rw [hq] at hu; cases hu; exact hr.val) hl hfr ⟨by rw [upd_eq]; exact hr.rep, by rw [upd_eq]; exact hr.lnk.agree (ne_of_refs (f := fun m => cs.any (Col.refs m)) (refs_no (freshB_parts hfr).1))⟩ (fun k hk => hk.elim) (fun k hk => by simp only [Foot, upd_eq] at hk; exact hc k hk)⟩
  ·exact ⟨ρ, h⟩
theorem hintOne_sound {ρ : Rho} {fr : Fr} {σ : Mem} {a : Act} {w : World} {hn : Hint} (h : Rep E ρ fr σ a w) : ∃ ρ', Rep E ρ' (hintOne hn fr σ).1 (hintOne hn fr σ).2 a w := by
 unfold hintOne
 split
 ·rename_i b _ hg
  refine ⟨ρ, h.less (h.fr.same fun v hv => ?_) fun _ _ q => q⟩
  have := h.fr.2 _ _ hv
  rw [hg] at this
  exact this
 ·exact hintOne0_sound h
theorem hintAll_sound {a : Act} {w : World} : ∀ {D : Hints} {ρ : Rho} {fr : Fr} {σ : Mem}, Rep E ρ fr σ a w → ∃ ρ', Rep E ρ' (hintAll D fr σ).1 (hintAll D fr σ).2 a w
 | [], ρ, fr, σ, h => ⟨ρ, h⟩
 | x :: r, ρ, fr, σ, h => by
  obtain ⟨ρ1, h1⟩ := hintOne_sound (hn := x) h
  simp only [hintAll]
  generalize hintOne x fr σ = p at h1 ⊢
  obtain ⟨fr', σ'⟩ := p
  exact hintAll_sound h1
theorem fresher_sound {ρ : Rho} {σ : Mem} {fr : Fr} {tmps : Array Value} (h : FrRep ρ fr tmps) : FrRep ρ (fresher σ fr) tmps := by
 refine ⟨by simp [fresher, h.1], fun t v hv => ?_⟩
 have := h.2 t v hv
 rw [Fr.get_eq] at this ⊢
 simp only [fresher, List.getElem?_map]
 cases hq : fr[t]? with
 | none => simp [SRep]
 | some x =>
  rw [hq] at this
  simp only [Option.map_some, Option.getD_some] at this ⊢
  split
  ·trivial
  ·exact this
theorem head_sound {D : Hints} {ρ : Rho} {fr : Fr} {σ : Mem} {a : Act} {w : World} {c : Code} {k : List Item} (h : Rep E ρ fr σ a w) : ∃ ρ', Rep E ρ' (headSt D c k fr σ).1 (headSt D c k fr σ).2 a w := by
 have h0 := head0_sound (D := D) (c := c) (k := k) h
 obtain ⟨ρ1, h1⟩ := hintAll_sound (D := D.filter fun h => !h.ret) (h0.less (fresher_sound (σ := headMemD D c k fr σ) h0.fr) fun _ _ q => q)
 unfold headSt
 generalize hintAll (D.filter fun h => !h.ret) (fresher (headMemD D c k fr σ) (headFrD D c k fr)) (headMemD D c k fr σ) = p at h1 ⊢
 obtain ⟨fr', σ'⟩ := p
 refine ⟨ρ1, h1.less (fresher_sound h1.fr) fun n b hb => ?_⟩
 exact find_filter (σ := σ') (fun m => !(((σ'.map fun p : Nat × Blk => p.1).filter fun n => Nat.blt n 200000).contains m) || frRefs m (fresher σ' fr') || σ'.any (fun q => segsRefs m q.2.segs)) hb
theorem join_sound {D : Hints} {ρ : Rho} {fr : Fr} {σ : Mem} {a : Act} {w : World} {c : Code} {k : List Item} (h : Rep E ρ fr σ a w) : Rep E ρ (joinFr D c k fr) (joinMem D c k fr σ) a w := by
 unfold joinMem
 cases hj : joins D with
 | false =>
  have e : joinFr D c k fr = fr := by unfold joinFr; rw [hj]
  rw [e]; exact h
 | true =>
  refine h.less (by unfold joinFr; rw [hj]; exact scrub_sound _ h.fr) fun n b hb => ?_
  exact find_filter (σ := σ) (fun m => !(((σ.map fun p : Nat × Blk => p.1).filter fun n => Nat.blt n 200000).contains m) || frRefs m (joinFr D c k fr) || σ.any (fun q => segsRefs m q.2.segs)) hb
def Goes (P : Program) (E : Env) (R : Fr → Mem → Prop) (stk : List Item) (a : Act) (w : World) : Prop :=
 ∀ (b : Frame) (cs : List Frame), ∃ e a' w', (e = .normal ∨ e = .ret) ∧ (∃ ρ fr σ, Rep E ρ fr σ a' w' ∧ R fr σ) ∧ Arrives P (lone (b.at a stk) cs w) b [] cs e a' w'
theorem Goes.step {R : Fr → Mem → Prop} {stk stk' : List Item} {a : Act} {w : World} (hs : ∀ (b : Frame) (cs : List Frame), Steps P (lone (b.at a stk) cs w) (lone (b.at a stk') cs w)) (h : Goes P E R stk' a w) : Goes P E R stk a w := by
 intro b cs
 obtain ⟨e, a', w', h1, h2, h3⟩ := h b cs
 exact ⟨e, a', w', h1, h2, .of_steps (hs b cs) h3⟩
theorem Goes.wp {R : Fr → Mem → Prop} {c : Code} {k : List Item} {a : Act} {w : World} (h : c.wp P (fun e a' w' => match e with | .normal => Goes P E R k a' w' | _ => False) a w) : Goes P E R (.code c :: k) a w := by
 intro b cs
 obtain ⟨e, a1, w1, hq, harr⟩ := h b k cs
 cases e with
 | normal =>
  obtain ⟨e, a', w', h1, h2, h3⟩ := hq b cs
  exact ⟨e, a', w', h1, h2, .of_steps harr h3⟩
 | _ => exact hq.elim
theorem itemx_sound {D : Hints} {R : Fr → Mem → Prop} {lp ih : List Item → Fr → Mem → Prop} (hm : P.follows .mixedOrders = true) (hΓ : GoodG P Γ) (hih : ∀ stk ρ fr σ a w, ih stk fr σ → Rep E ρ fr σ a w → Goes P E R stk a w)
  (hlp : ∀ stk ρ fr σ a w, lp stk fr σ → Rep E ρ fr σ a w → Goes P E R stk a w) (stk : List Item) (ρ : Rho) (fr : Fr) (σ : Mem) (a : Act) (w : World) (h : itemx P Γ D R lp ih stk fr σ) (hR : Rep E ρ fr σ a w) : Goes P E R stk a w := by
 unfold itemx at h
 split at h
 ·exact fun b cs => ⟨.normal, a, w, Or.inl rfl, ⟨ρ, fr, σ, hR, h⟩, Steps.refl _ _⟩
 ·rename_i c k
  split at h
  ·exact (hih _ _ _ _ _ _ h hR).step fun b cs => .one step_skip
  ·rename_i id ops
   refine Goes.wp (wp_region ?_)
   rw [List.range_eq_range', ← Array.length_toList]
   exact opsx_sound hΓ (fun ρ fr σ a w hR hK => hih _ _ _ _ _ _ hK hR) ops.toList 0 ρ fr σ a w (by simp) h hR
  ·rename_i id ops
   split at h <;> try exact h.elim
   rename_i hsel
   refine Goes.wp (wp_region_any hm ?_)
   have hR' : Rep E ρ fr σ a { w with drawn := w.drawn + 1 } := ⟨hR.fr, hR.df, hR.mem.keeps (fun _ _ _ _ _ => rfl), hR.sep, hR.fix, hR.ext, hR.own, ⟨hR.keep.os, hR.keep.tape, hR.keep.output, hR.keep.size, hR.keep.block⟩⟩
   exact any_of_M _ _ _ _ (drawx_sound (Q := fun e a' w' => match e with | .normal => Goes P E R k a' w' | _ => False) hΓ hsel (fun c a w q => q) (fun ρ fr σ a w hR hK => hih _ _ _ _ _ _ hK hR) hR'.mem ops.size ρ _ fr σ a _ h hR' (Nat.le_refl _) (fun _ _ q _ => ⟨fun _ _ => rfl, q, rfl⟩))
  ·exact (hih _ _ _ _ _ _ h hR).step fun b cs => .one step_seq
  ·rename_i t x y
   split at h
   ·rename_i hc
    exact (hih _ _ _ _ _ _ h (join_sound hR)).step fun b cs => .one (by have := step_cond (P := P) (b := b) (k := k) (cs := cs) (w := w) (x := x) (y := y) (eval_bool (b := true) hR (Or.inr hc)); simpa using this)
   ·rename_i hc
    exact (hih _ _ _ _ _ _ h (join_sound hR)).step fun b cs => .one (by have := step_cond (P := P) (b := b) (k := k) (cs := cs) (w := w) (x := x) (y := y) (eval_bool (b := false) hR (Or.inr hc)); simpa using this)
   ·rename_i q hc
    split at h <;> try exact h.elim
    rename_i s
    have hs := hR.frame (set_lit hR.fr hc)
    cases q with
    | true => exact (hih _ _ _ _ _ _ (h.1 rfl) (join_sound hs)).step fun b cs => .one (by have := step_cond (P := P) (b := b) (k := k) (cs := cs) (w := w) (x := x) (y := y) (eval_bool (b := true) hR (Or.inl hc)); simpa using this)
    | false => exact (hih _ _ _ _ _ _ (h.2 rfl) (join_sound hs)).step fun b cs => .one (by have := step_cond (P := P) (b := b) (k := k) (cs := cs) (w := w) (x := x) (y := y) (eval_bool (b := false) hR (Or.inl hc)); simpa using this)
   ·exact h.elim
  ·exact (hih _ _ _ _ _ _ h hR).step fun b cs => .one step_block
  ·obtain ⟨ρ1, hR1⟩ := head_sound (D := D) (c := _) (k := _) hR
   exact (hlp _ _ _ _ _ _ h hR1).step fun b cs => .one step_loop
  ·split at h <;> try exact h.elim
   rename_i k' hk
   exact (hih _ _ _ _ _ _ h hR).step fun b cs => .one (step_exit hk)
  ·exact fun b cs => ⟨.ret, a, w, Or.inr rfl, ⟨ρ, fr, σ, hR, h⟩, _, .one step_ret⟩
  ·exact h.elim
 ·exact (hih _ _ _ _ _ _ h hR).step fun b cs => .one step_inBlock
 ·obtain ⟨ρ1, hR1⟩ := head_sound (D := D) (c := _) (k := _) hR
  exact (hlp _ _ _ _ _ _ h hR1).step fun b cs => .one step_inLoop
 ·exact h.elim
theorem runM_sound {D : Hints} {R : Fr → Mem → Prop} {lp : List Item → Fr → Mem → Prop} (hm : P.follows .mixedOrders = true) (hΓ : GoodG P Γ) (hlp : ∀ stk ρ fr σ a w, lp stk fr σ → Rep E ρ fr σ a w → Goes P E R stk a w) :
  ∀ (m : Nat) stk ρ fr σ a w, runM P Γ D R lp m stk fr σ → Rep E ρ fr σ a w → Goes P E R stk a w
 | 0, _, _, _, _, _, _, h, _ => by rw [runM_zero] at h; exact h.elim
 | m + 1, stk, ρ, fr, σ, a, w, h, hR => by
  rw [runM_succ] at h
  exact itemx_sound hm hΓ (fun stk ρ fr σ a w q r => runM_sound hm hΓ hlp m stk ρ fr σ a w q r) hlp stk ρ fr σ a w h hR
theorem run_sound {D : Hints} {R : Fr → Mem → Prop} (hm : P.follows .mixedOrders = true) (hΓ : GoodG P Γ) : ∀ (n : Nat) stk ρ fr σ a w, run P Γ D R n stk fr σ → Rep E ρ fr σ a w → Goes P E R stk a w
 | 0, _, _, _, _, _, _, h, _ => by rw [run_zero] at h; exact h.elim
 | n + 1, stk, ρ, fr, σ, a, w, h, hR => by
  rw [run_succ] at h
  exact runM_sound hm hΓ (fun stk ρ fr σ a w q r => run_sound hm hΓ n stk ρ fr σ a w q r) 4000 stk ρ fr σ a w h hR
def resV (tmps : Array Value) : ResultVar → Sem Value
 | .tmp t => pure (tmps.getD t undef)
 | .cell a t => do loadVar t (← asAddr (tmps.getD a undef))
theorem resOne_sound {ρ : Rho} {fr : Fr} {σ : Mem} {a : Act} {w : World} {r : ResultVar} {K : TV → Prop} (h : resOne P fr σ r K) (hR : Rep E ρ fr σ a w) :
  ∃ v t, (resV a.tmps r).run P w = .ok v w ∧ TRep ρ t v ∧ K t := by
 have slot : ∀ (t : Nat) {x : AV}, fr.get t = x → x ≠ .undef → SRep ρ x (a.tmps.getD t undef) := by
  intro t x hx hne
  have hlt : t < fr.length := by
   rcases Nat.lt_or_ge t fr.length with q | q
   ·exact q
   ·rw [Fr.get_out fr t q] at hx; exact absurd hx.symm hne
  have hlt' : t < a.tmps.size := by rw [← hR.fr.1]; exact hlt
  have := hR.fr.2 t a.tmps[t] (Array.getElem?_eq_getElem hlt')
  rw [hx] at this
  simpa [hlt'] using this
 unfold resOne at h
 split at h
 ·rename_i t
  split at h
  ·rename_i x hx; exact ⟨_, .c x, rfl, slot t hx (by simp), h⟩
  ·rename_i s hx; exact ⟨_, .g s, rfl, slot t hx (by simp), h⟩
  ·exact h.elim
 ·rename_i t T
  split at h <;> try exact h.elim
  rename_i n b i hx
  have hv : a.tmps.getD t undef = .pointer (some (at_ ρ n (b + i))) := slot t hx (by simp)
  obtain ⟨v, av, bk, _, h1, h2, h3⟩ := loadx_sound h hR.mem
  have hrun : (resV a.tmps (.cell t T)).run P w = .ok v w := by
   show (do let x ← asAddr (a.tmps.getD t undef); loadVar T x : Sem Value).run P w = .ok v w
   rw [hv]
   simp [asAddr, h1 w (fun _ _ => rfl)]
  split at h3
  ·rename_i x; exact ⟨v, .c x, hrun, h2, h3⟩
  ·rename_i s; exact ⟨v, .g s, hrun, h2, h3⟩
  ·exact h3.elim
theorem resAll_sound {ρ : Rho} {fr : Fr} {σ : Mem} {a : Act} {w : World} (hR : Rep E ρ fr σ a w) : ∀ {rs : List ResultVar} {K : List TV → Prop}, resAll P fr σ rs K →
  ∃ vs ts, (rs.mapM (resV a.tmps)).run P w = .ok vs w ∧ vs.length = rs.length ∧ ts.length = vs.length ∧ (∀ (j : Nat) t v, ts[j]? = some t → vs[j]? = some v → TRep ρ t v) ∧ K ts
 | [], K, h => ⟨[], [], by simp, rfl, rfl, fun j t v hj => by simp at hj, h⟩
 | r :: rs, K, h => by
  simp only [resAll] at h
  obtain ⟨v, t, h1, h2, h3⟩ := resOne_sound h hR
  obtain ⟨vs, ts, g1, g2, g3, g4, g5⟩ := resAll_sound hR h3
  refine ⟨v :: vs, t :: ts, by simp [List.mapM_cons, h1, g1], by simp [g2], by simp [g3], fun j t' v' ht hv => ?_, g5⟩
  cases j with
  | zero => simp at ht hv; subst ht hv; exact h2
  | succ j => simp at ht hv; exact g4 j t' v' ht hv
theorem TRep.av {ρ : Rho} {t : TV} {v : Value} (h : TRep ρ t v) : SRep ρ t.av v := by cases t <;> exact h
theorem resx_sound {ρ : Rho} {fr : Fr} {σ : Mem} {a : Act} {w : World} {fn : Func} {R : AV → Mem → Prop} (h : resx P fn.results.toList R fr σ) (hR : Rep E ρ fr σ a w) :
  ∃ v av, (results fn a.tmps).run P w = .ok v w ∧ SRep ρ av v ∧ R av σ := by
 unfold resx at h
 obtain ⟨vs, ts, h1, h2, h3, h4, h5⟩ := resAll_sound hR h
 have hrun : (fn.results.mapM (resV a.tmps)).run P w = .ok vs.toArray w := by
  rw [Array.mapM_eq_mapM_toList]
  simp [h1]
 have hres : (results fn a.tmps).run P w = .ok (if h : vs.toArray.size = 1 then vs.toArray[0] else .tuple vs.toArray) w := by
  have e : results fn a.tmps = (do let vs ← fn.results.mapM (resV a.tmps); pure (if h : vs.size = 1 then vs[0] else .tuple vs)) := by
   unfold results
   congr 1
  rw [e]
  simp [hrun]
 split at h5
 ·rename_i t
  obtain ⟨v, rfl⟩ : ∃ v, vs = [v] := by
   match vs, h3 with
   | [v], _ => exact ⟨v, rfl⟩
  exact ⟨v, t.av, by rw [hres]; simp, (h4 0 t v rfl rfl).av, h5⟩
 ·rename_i ts' hne
  have hlen : vs.length ≠ 1 := by
   intro e
   rw [e] at h3
   have : ∀ {l : List TV}, l.length = 1 → ∃ t, l = [t] := by
    intro l hl
    match l, hl with
    | [t], _ => exact ⟨t, rfl⟩
   obtain ⟨t, ht⟩ := this h3
   exact hne t ht
  exact ⟨.tuple vs.toArray, .tup ts, by rw [hres]; simp [hlen], ⟨vs, rfl, h3, h4⟩, h5⟩
theorem resh_sound {D : Hints} {ρ : Rho} {fr : Fr} {σ : Mem} {a : Act} {w : World} {fn : Func} {R : AV → Mem → Prop} (h : resh P D fn.results.toList R fr σ) (hR : Rep E ρ fr σ a w) :
  ∃ v av ρ' fr' σ', (results fn a.tmps).run P w = .ok v w ∧ SRep ρ' av v ∧ R av σ' ∧ Rep E ρ' fr' σ' a w := by
 unfold resh at h
 obtain ⟨ρ1, h1⟩ := hintAll_sound (D := D.filter fun h => h.ret) hR
 generalize hintAll (D.filter fun h => h.ret) fr σ = p at h1 h
 obtain ⟨fr', σ'⟩ := p
 obtain ⟨v, av, g1, g2, g3⟩ := resx_sound h h1
 exact ⟨v, av, ρ1, fr', σ', g1, g2, g3, h1⟩
end
section
variable {P : Program} {Γ : Gam} {D : Hints}
theorem start_sound {ρ : Rho} {n : Nat} {args : List AV} {vals : Array Value} (hl : args.length = vals.size) (hv : ∀ (j : Nat) x v, args[j]? = some x → vals[j]? = some v → SRep ρ x v) :
  FrRep ρ (startFr n args) (vals ++ Array.replicate (n - vals.size) undef) := by
 refine ⟨by simp [startFr, hl], fun t v ht => ?_⟩
 rw [Fr.get_eq]
 by_cases h : t < vals.size
 ·rw [Array.getElem?_append_left h] at ht
  have h' : t < args.length := by omega
  simp only [startFr]
  rw [List.getElem?_append_left h', List.getElem?_eq_getElem h']
  exact hv t _ v (List.getElem?_eq_getElem h') ht
 ·rw [Array.getElem?_append_right (by omega)] at ht
  simp only [startFr]
  rw [List.getElem?_append_right (by omega)]
  rw [Array.getElem?_replicate] at ht
  split at ht
  ·rename_i hq
   cases ht
   rw [List.getElem?_replicate, if_pos (by omega)]
   exact SRep.undef ρ
  ·cases ht
theorem callsx_sound (hm : P.follows .mixedOrders = true) (hΓ : GoodG P Γ) {f : FuncId} {fn : Func} (hf : P.funcs[f]? = some fn) (hb : fn.body.isSome = true) {n : Nat} {args : List AV} {σ : Mem} {R : AV → Mem → Prop} (h : callsx P Γ D fn n args σ R)
  {ρ : Rho} {w : World} {vals : Array Value} {ex : Nat → Prop} (hg : Glob ρ) (hl : args.length = vals.size) (hv : ∀ (j : Nat) x v, args[j]? = some x → vals[j]? = some v → SRep ρ x v) (hmem : MemRep ρ σ w) (hsep : Sep ρ σ)
  (hown : ∀ n b k, Mem.find σ n = some b → Out ρ n b k → w.heap.size ≤ k ∨ ex k) :
  Calls P f vals w fun e w' => ∃ v av σ' ρ', e = .returned v ∧ R av σ' ∧ SRep ρ' av v ∧ MemRep ρ' σ' w' ∧ Sep ρ' σ' ∧ (∀ n, 200000 ≤ n → isHeap n = false → ρ' n = ρ n) ∧ (∀ n, isHeap n = true → HExt (ρ n) (ρ' n)) ∧ (∀ n b k, Mem.find σ' n = some b → Out ρ' n b k → w.heap.size ≤ k ∨ ex k) ∧ Keeps ex w w' := by
 intro cs
 let E : Env := ⟨w, ρ, ex, hg⟩
 let b : Frame := { (default : Frame) with fn := f, kind := .normal }
 cases hbody : fn.body with
 | none => rw [hbody] at hb; cases hb
 | some c =>
  have hbc : bodyOf fn = c := by simp [bodyOf, hbody]
  let a : Act := { tmps := vals ++ Array.replicate (fn.ntmps - vals.size) undef, defers := [] }
  have henter : Frame.enter P f vals .normal = b.at a [.code c] := by
   simp [Frame.enter, Frame.at, hf, hbody, b, a]
  have hR : Rep E ρ (startFr fn.ntmps args) σ a w := ⟨start_sound hl hv, rfl, hmem, hsep, fun _ _ _ => rfl, fun _ _ => .refl _, hown, Keeps.refl _ _⟩
  unfold callsx at h
  rw [hbc] at h
  obtain ⟨e, a', w', he, ⟨ρ', fr', σ', hR', hres⟩, harr⟩ := run_sound hm hΓ n _ ρ _ σ a w h hR b cs
  rw [← henter] at harr
  obtain ⟨v, av, ρ2, fr2, σ2, hrun, hav, hRR, hR2⟩ := resh_sound hres hR'
  have post : ∃ v' av σ' ρ', (Ending.returned v) = .returned v' ∧ R av σ' ∧ SRep ρ' av v' ∧ MemRep ρ' σ' w' ∧ Sep ρ' σ' ∧ (∀ n, 200000 ≤ n → isHeap n = false → ρ' n = ρ n) ∧ (∀ n, isHeap n = true → HExt (ρ n) (ρ' n)) ∧ (∀ n b k, Mem.find σ' n = some b → Out ρ' n b k → w.heap.size ≤ k ∨ ex k) ∧ Keeps ex w w' :=
   ⟨v, av, σ2, ρ2, rfl, hRR, hav, hR2.mem, hR2.sep, hR2.fix, hR2.ext, hR2.own, hR2.keep⟩
  rcases he with rfl | rfl
  ·exact ⟨.returned v, w', _, post, Steps.trans harr (.one step_end), rfl, rfl, hR'.df, rfl, fn, hf, hrun⟩
  ·obtain ⟨todo, hs⟩ := harr
   exact ⟨.returned v, w', _, post, hs, rfl, rfl, hR'.df, rfl, fn, hf, hrun⟩
def plainAV (x : AV) : Prop := ∀ n, x.refs n = false
theorem sep_nil (ρ : Rho) : Sep ρ [] := ⟨fun n m b c k hn => by simp [Mem.find] at hn, fun n b k hn => by simp [Mem.find] at hn⟩
theorem Good.pure (hm : P.follows .mixedOrders = true) (hΓ : GoodG P Γ) {f : FuncId} {fn : Func} (hf : P.funcs[f]? = some fn) (hb : fn.body.isSome = true) {s : Spec} (hs : s.mods = false)
  (hsem : ∀ d args σ (K : AV → Mem → Prop), s.sem d args σ K → (∀ x ∈ args, plainAV x) ∧ ∃ av, plainAV av ∧ K av σ ∧ ∃ n, callsx P Γ D fn n args [] fun av' _ => av' = av) : Good P f s := by
 refine ⟨fun d args σ K h ρ w vals hg hmem hsep hl hv hnew => ?_⟩
 obtain ⟨hpl, av, hav, hK, n, hc⟩ := hsem d args σ K h
 refine (callsx_sound hm hΓ hf hb hc (ex := fun _ => False) hg hl hv (fun n b hb => by simp [Mem.find] at hb) (sep_nil ρ) (fun n b k hn => by simp [Mem.find] at hn)).mono ?_
 rintro e w' ⟨v, av', σ', ρ', rfl, rfl, hsr, _, _, _, _, _, hk⟩
 have hsame : ∀ i, i < w.heap.size → w'.heap[i]? = w.heap[i]? := fun i hi => hk.block i hi (fun q => q)
 refine ⟨v, av', σ, ρ, rfl, hK, hsr.agree (fun n hn => by rw [hav n] at hn; cases hn), hmem.keeps (fun n b k hb hk => hsame _ (in_range (hmem n b hb) hk)), hsep, fun _ _ _ => rfl, fun _ _ => .refl _, fun n b k hn hO => Or.inl ⟨n, b, hn, hO⟩, ?_, fun _ => ⟨hk, fun _ _ q => q, fun _ _ => rfl⟩⟩
 exact ⟨hk.os, hk.tape, hk.output, hk.size, fun k hk' _ => hsame k hk'⟩
theorem plain_int (k : IntKind) (n : Int) : plainAV (.one (.int k n)) := fun _ => rfl
theorem plain_ints (k : IntKind) (n : Nat) (l : List Int) : plainAV (.agg [.ints k n l]) := fun _ => rfl
end
theorem ilt_true {a b : Int} : ilt a b = true ↔ a < b := by simp [ilt]
theorem ilt_false {a b : Int} : ilt a b = false ↔ b ≤ a := by simp [ilt]
theorem igt_true {a b : Int} : igt a b = true ↔ b < a := by simp [igt]
theorem igt_false {a b : Int} : igt a b = false ↔ a ≤ b := by simp [igt]
theorem ige_true {a b : Int} : ige a b = true ↔ b ≤ a := by simp [ige]
theorem ige_false {a b : Int} : ige a b = false ↔ a < b := by simp [ige]
theorem ieq_true {a b : Int} : ieq a b = true ↔ a = b := by simp [ieq]
theorem ieq_false {a b : Int} : ieq a b = false ↔ a ≠ b := by simp [ieq]
theorem ine_true {a b : Int} : ine a b = true ↔ a ≠ b := by simp [ine]
theorem ine_false {a b : Int} : ine a b = false ↔ a = b := by simp [ine]
theorem leq_true {a b : List Int} : leq a b = true ↔ a = b := by simp [leq]
theorem leq_false {a b : List Int} : leq a b = false ↔ a ≠ b := by simp [leq]
theorem add_i64 {a b : Int} (h1 : -9223372036854775808 ≤ a + b) (h2 : a + b < 9223372036854775808) : add .i64 a b = a + b := by
 unfold add; rw [IntKind.wrap_i64]; omega
theorem sub_i64 {a b : Int} (h1 : -9223372036854775808 ≤ a - b) (h2 : a - b < 9223372036854775808) : sub .i64 a b = a - b := by
 unfold sub; rw [IntKind.wrap_i64]; omega
theorem mul_i64 {a b : Int} (h1 : -9223372036854775808 ≤ a * b) (h2 : a * b < 9223372036854775808) : mul .i64 a b = a * b := by
 unfold mul; rw [IntKind.wrap_i64]; omega
theorem conv_i64 {a : Int} (h1 : -9223372036854775808 ≤ a) (h2 : a < 9223372036854775808) : conv .i64 a = a := by
 unfold conv; rw [IntKind.wrap_i64]; omega
theorem conv_u8 (a : Int) : conv .u8 a = a % 256 := by unfold conv; rw [IntKind.wrap_u8]
theorem conv_u32 (a : Int) : conv .u32 a = a % 4294967296 := by unfold conv; rw [IntKind.wrap_u32]
theorem conv_u64 (a : Int) : conv .u64 a = a % 18446744073709551616 := by unfold conv; rw [IntKind.wrap_u64]
theorem add_u32 (a b : Int) : add .u32 a b = (a + b) % 4294967296 := by unfold add; rw [IntKind.wrap_u32]
theorem add_u64 (a b : Int) : add .u64 a b = (a + b) % 18446744073709551616 := by unfold add; rw [IntKind.wrap_u64]
theorem bxor_u8 {a b : Nat} (ha : a < 256) (hb : b < 256) : bxor .u8 (a : Int) (b : Int) = ((a ^^^ b : Nat) : Int) := u8_xor_nat a b ha hb
theorem bor_u8 {a b : Nat} (ha : a < 256) (hb : b < 256) : bor .u8 (a : Int) (b : Int) = ((a ||| b : Nat) : Int) := u8_or_nat a b ha hb
def ext (Γ : Gam) (f : FuncId) (s : Spec) : Gam := fun g => if g = f then some s else Γ g
def gam0 : Gam := fun _ => none
theorem good0 (P : Program) : GoodG P gam0 := fun f s h => by cases h
theorem GoodG.ext {P : Program} {Γ : Gam} (h : GoodG P Γ) {f : FuncId} {s : Spec} (hf : Good P f s) (hn : ∃ fn, P.funcs[f]? = some fn ∧ fn.name ≠ "runtime.NumGoroutine" ∧ fn.body.isSome = true) : GoodG P (ext Γ f s) := by
 intro g t hg
 unfold Sx.ext at hg
 split at hg
 ·rename_i e; subst e; cases hg; exact ⟨hf, hn⟩
 ·exact h g t hg
def unH (σ : Mem) : Col → Option Col
 | .hss k l => match Mem.heap σ k with
  | some os => some (.rows k (hcons os l))
  | none => none
 | c => some c
def unHs (σ : Mem) : List Col → Option (List Col)
 | [] => some []
 | c :: r => match unH σ c with
  | some x => match unHs σ r with
   | some s => some (x :: s)
   | none => none
  | none => none
theorem unH_kd {σ : Mem} {c x : Col} (h : unH σ c = some x) : x.kd = c.kd := by
 cases c <;> simp only [unH] at h <;> first | (cases h; rfl) | skip
 split at h
 ·cases h; rfl
 ·cases h
theorem unHs_open {σ : Mem} {c : Col} {r y : List Col} (h : unHs σ (c :: r) = some y) : ∃ x s, unH σ c = some x ∧ unHs σ r = some s ∧ y = x :: s := by
 simp only [unHs] at h
 split at h
 ·rename_i x hx
  split at h
  ·rename_i s hs; cases h; exact ⟨x, s, hx, hs, rfl⟩
  ·cases h
 ·cases h
theorem unHs_get {σ : Mem} : ∀ {cs cs' : List Col}, unHs σ cs = some cs' → kdsOf cs' = kdsOf cs ∧ ∀ (c : Nat) x, cs'[c]? = some x → ∃ y, cs[c]? = some y ∧ unH σ y = some x
 | [], cs', h => by cases h; exact ⟨rfl, fun c x q => by simp at q⟩
 | c :: r, cs', h => by
  obtain ⟨x, s, h1, h2, rfl⟩ := unHs_open h
  obtain ⟨g1, g2⟩ := unHs_get h2
  refine ⟨by simp only [kdsOf, List.map_cons] at g1 ⊢; rw [g1, unH_kd h1], fun i y hy => ?_⟩
  cases i with
  | zero => simp at hy; subst hy; exact ⟨c, rfl, h1⟩
  | succ i => exact g2 i y (by simpa using hy)
theorem unH_row {σ : Mem} {L : Loc} {c x : Col} (h : unH σ c = some x) (n i j : Nat) : colVal L n x i j = colVal L n c i j := by
 cases c <;> simp only [unH] at h <;> first | (cases h; rfl) | skip
 split at h
 ·cases h; rfl
 ·cases h
theorem unHs_row {σ : Mem} {L : Loc} : ∀ {cs cs' : List Col}, unHs σ cs = some cs' → ∀ c i t, rowVal L cs' c i t = rowVal L cs c i t
 | [], cs', h, c, i, t => by cases h; rfl
 | c :: r, cs', h, n, i, t => by
  obtain ⟨x, s, h1, h2, rfl⟩ := unHs_open h
  simp only [rowVal, unH_kd h1, unH_row h1, unHs_row h2]
theorem elt_of_ints {w : World} {L : Loc} {k : IntKind} {l : List Int} {e : Elt} (hV : VRep w L [.ints k l]) (ha : e.a = L.a) (hl : e.len = L.len) (hc : e.cap = L.cap) : EltRep w e k l := by
 have hlen : l.length = L.len := hV.ok (.ints k l) (by simp)
 refine ⟨by omega, by have := hV.cap; omega, fun hne => ?_, fun j x hj a haa => ?_⟩
 ·have hL : L.len ≠ 0 := fun q => hne (List.eq_nil_of_length_eq_zero (by omega))
  exact ⟨L.at 0, by rw [ha]; exact hV.adr hL⟩
 ·have hj' : j < l.length := (List.getElem?_eq_some_iff.1 hj).1
  have := hV.cells j (by omega) 0 (by show 0 < 1; omega)
  have e1 : cwidth [Col.ints k l] = 1 := rfl
  rw [e1, Nat.mul_one, Nat.add_zero] at this
  rw [ha, hV.adr (by omega)] at haa
  cases haa
  rw [Loc.at_add, Nat.zero_add, this]
  simp [rowVal, Col.kd, Kd.width, colVal, lget, List.getD, hj]
theorem unHs_rep {ρ : Rho} {σ : Mem} {w : World} {L : Loc} {cs cs' : List Col} (hm : MemRep ρ σ w) (hs : Sep ρ σ) (h : unHs σ cs = some cs') (hV : VRep w L cs) (hL : Lnk ρ L cs) : VRep w L cs' ∧ ∀ ρ', Lnk ρ' L cs' := by
 obtain ⟨g1, g2⟩ := unHs_get h
 have hw : cwidth cs' = cwidth cs := by simp only [cwidth, g1]
 refine ⟨⟨fun q => ?_, by rw [hw]; exact hV.wid, fun col hcol => ?_, hV.cap, hV.adr, fun i hi t ht => ?_, fun c k ll hc i l hl => ?_⟩, fun ρ' => lnk_no fun c k l hc => ?_⟩
 ·subst q
  have := hV.ne
  cases cs with
  | nil => exact this rfl
  | cons c r => simp [kdsOf] at g1
 ·obtain ⟨c, hc⟩ := List.mem_iff_getElem?.1 hcol
  obtain ⟨y, hy, hu⟩ := g2 c col hc
  have := hV.ok y (List.mem_of_getElem? hy)
  cases y <;> simp only [unH] at hu <;> first | (cases hu; exact this) | skip
  split at hu
  ·cases hu; simpa [Col.ok, hcons] using this
  ·cases hu
 ·rw [hw] at ht ⊢
  rw [unHs_row h]; exact hV.cells i hi t ht
 ·obtain ⟨y, hy, hu⟩ := g2 c _ hc
  cases y <;> simp only [unH] at hu <;> first | (cases hu; exact hV.inner c k ll hy i l hl) | (cases hu) | skip
  rename_i k' ds
  split at hu
  ·rename_i os ho
   cases hu
   simp only [hcons, List.getElem?_map, Option.map_eq_some_iff] at hl
   obtain ⟨d, hd, rfl⟩ := hl
   obtain ⟨L', hR, _⟩ := reads_hs hm hs ho (hL c k ds hy i d hd)
   have e := hR.val
   simp only [Value.slice.injEq] at e
   exact elt_of_ints hR.rep e.1 e.2.1 e.2.2
  ·cases hu
 ·obtain ⟨y, hy, hu⟩ := g2 c _ hc
  cases y <;> simp only [unH] at hu <;> first | (cases hu) | skip
  split at hu <;> cases hu
inductive CanonF (σ : Mem) (j : Nat) : Nat → List Seg → List Seg → Mem → Prop
 | nil (f : Nat) : CanonF σ j f [] [] []
 | plain {f : Nat} {g : Seg} {s t : List Seg} {τ : Mem} : (∀ m, g.refs m = false) → CanonF σ j f s t τ → CanonF σ j f (g :: s) (g :: t) τ
 | row {f : Nat} {a : AC} {s t : List Seg} {τ : Mem} (ks : List Kd) (cs : List Col) : f < 100 → rdx σ ks (.one a) (fun c => c = cs) → 0 < width ks → CanonF σ j (f + 1) s t τ → CanonF σ j f (.cells [a] :: s) (.cells [.vec (200000 + (j + 1000 * f))] :: t) ((200000 + (j + 1000 * f), .rview cs) :: τ)
 | rowH {f : Nat} {a : AC} {s t : List Seg} {τ : Mem} (ks : List Kd) (cs : List Col) : f < 100 → rdx σ ks (.one a) (fun c => unHs σ c = some cs) → 0 < width ks → CanonF σ j (f + 1) s t τ → CanonF σ j f (.cells [a] :: s) (.cells [.vec (200000 + (j + 1000 * f))] :: t) ((200000 + (j + 1000 * f), .rview cs) :: τ)
inductive Canon (σ : Mem) : Nat → List AV → List AV → Mem → Prop
 | nil (j : Nat) : Canon σ j [] [] []
 | plain {j : Nat} {x : AV} {xs ys : List AV} {τ : Mem} : plainAV x → Canon σ (j + 1) xs ys τ → Canon σ j (x :: xs) (x :: ys) τ
 | row {j : Nat} {x : AV} {xs ys : List AV} {τ : Mem} (ks : List Kd) (cs : List Col) : rdx σ ks x (fun c => c = cs) → 0 < width ks → Canon σ (j + 1) xs ys τ → Canon σ j (x :: xs) (.one (.vec (200000 + j)) :: ys) ((200000 + j, .rview cs) :: τ)
 | rowH {j : Nat} {x : AV} {xs ys : List AV} {τ : Mem} (ks : List Kd) (cs : List Col) : rdx σ ks x (fun c => unHs σ c = some cs) → 0 < width ks → Canon σ (j + 1) xs ys τ → Canon σ j (x :: xs) (.one (.vec (200000 + j)) :: ys) ((200000 + j, .rview cs) :: τ)
 | aggrow {j : Nat} {a : AC} {s : List Seg} {xs ys : List AV} {τ : Mem} (ks : List Kd) (cs : List Col) : rdx σ ks (.one a) (fun c => c = cs) → 0 < width ks → (∀ m, segsRefs m s = false) → Canon σ (j + 1) xs ys τ → Canon σ j (.agg (.cells [a] :: s) :: xs) (.agg (.cells [.vec (200000 + j)] :: s) :: ys) ((200000 + j, .rview cs) :: τ)
 | clo {j g n : Nat} {b : Blk} {xs ys : List AV} {τ : Mem} : Mem.find σ n = some b → (∀ m, segsRefs m b.segs = false) → Canon σ (j + 1) xs ys τ → Canon σ j (.one (.clo g n 0 0) :: xs) (.one (.clo g (200000 + j) 0 0) :: ys) ((200000 + j, .view b.segs) :: τ)
 | ptr {j n : Nat} {b : Blk} {xs ys : List AV} {τ : Mem} : Mem.find σ n = some b → (∀ m, segsRefs m b.segs = false) → Canon σ (j + 1) xs ys τ → Canon σ j (.one (.ptr n 0 0) :: xs) (.one (.ptr (200000 + j) 0 0) :: ys) ((200000 + j, .view b.segs) :: τ)
 | aggs {j : Nat} {s t : List Seg} {xs ys : List AV} {τ τ' : Mem} : CanonF σ j 0 s t τ' → Canon σ (j + 1) xs ys τ → Canon σ j (.agg s :: xs) (.agg t :: ys) (τ' ++ τ)
 | glob {j g : Nat} {b : Blk} {xs ys : List AV} {τ : Mem} : Mem.find σ (gname g) = some b → (∀ m, segsRefs m b.segs = false) → Canon σ j xs ys τ → Canon σ j xs ys ((gname g, .view b.segs) :: τ)
theorem find_app {τ' τ : Mem} {n : Nat} {b : Blk} (h : Mem.find (τ' ++ τ) n = some b) : Mem.find τ' n = some b ∨ Mem.find τ n = some b := by
 induction τ' with
 | nil => exact Or.inr h
 | cons x r ih =>
  obtain ⟨m, y⟩ := x
  simp only [List.cons_append, Mem.find] at h ⊢
  split at h
  ·rename_i e; rw [if_pos e]; exact Or.inl h
  ·rename_i e; rw [if_neg e]; exact ih h
theorem canonF_views {σ τ : Mem} {j : Nat} : ∀ {f : Nat} {s t : List Seg}, CanonF σ j f s t τ → ∀ ρ n b k, Mem.find τ n = some b → ¬ Out ρ n b k := by
 intro f s t h
 induction h with
 | nil f => intro ρ n b k hn; simp [Mem.find] at hn
 | plain _ _ ih => exact ih
 | row ks cs _ _ _ _ ih =>
  intro ρ n b k hn
  simp only [Mem.find] at hn
  split at hn
  ·cases hn; exact fun q => q
  ·exact ih ρ n b k hn
 | rowH ks cs _ _ _ _ ih =>
  intro ρ n b k hn
  simp only [Mem.find] at hn
  split at hn
  ·cases hn; exact fun q => q
  ·exact ih ρ n b k hn
theorem canon_views {σ τ : Mem} : ∀ {j : Nat} {xs ys : List AV}, Canon σ j xs ys τ → ∀ ρ n b k, Mem.find τ n = some b → ¬ Out ρ n b k := by
 intro j xs ys h
 induction h with
 | nil j => intro ρ n b k hn; simp [Mem.find] at hn
 | plain _ _ ih => exact ih
 | row ks cs _ _ _ ih =>
  intro ρ n b k hn
  simp only [Mem.find] at hn
  split at hn
  ·cases hn; exact fun q => q
  ·exact ih ρ n b k hn
 | rowH ks cs _ _ _ ih =>
  intro ρ n b k hn
  simp only [Mem.find] at hn
  split at hn
  ·cases hn; exact fun q => q
  ·exact ih ρ n b k hn
 | aggrow ks cs _ _ _ _ ih =>
  intro ρ n b k hn
  simp only [Mem.find] at hn
  split at hn
  ·cases hn; exact fun q => q
  ·exact ih ρ n b k hn
 | clo _ _ _ ih =>
  intro ρ n b k hn
  simp only [Mem.find] at hn
  split at hn
  ·cases hn; exact fun q => q
  ·exact ih ρ n b k hn
 | ptr _ _ _ ih =>
  intro ρ n b k hn
  simp only [Mem.find] at hn
  split at hn
  ·cases hn; exact fun q => q
  ·exact ih ρ n b k hn
 | aggs hF _ ih =>
  intro ρ n b k hn
  rcases find_app hn with q | q
  ·exact canonF_views hF ρ n b k q
  ·exact ih ρ n b k q
 | glob _ _ _ ih =>
  intro ρ n b k hn
  simp only [Mem.find] at hn
  split at hn
  ·cases hn; exact fun q => q
  ·exact ih ρ n b k hn
theorem plainAV.any {x : AV} (h : plainAV x) {ρ ρ' : Rho} {v : Value} (hv : SRep ρ x v) : SRep ρ' x v := hv.agree fun n hn => by rw [h n] at hn; cases hn
theorem Lnk.heaps {ρ ρc : Rho} {L : Loc} {cs : List Col} (h : Lnk ρ L cs) (hc : ∀ n, isHeap n = true → ρc n = ρ n) : Lnk ρc L cs := h.agree fun m hm => .of_eq (hc m (by
  obtain ⟨x, _, hx⟩ := List.any_eq_true.1 hm
  cases x with
  | hss k l => have : hname k = m := by simpa [Col.refs] using hx
               subst this; exact isHeap_hname k
  | _ => simp [Col.refs] at hx))
theorem canonF_sound {σ τ : Mem} {ρ : Rho} {w : World} (hm : MemRep ρ σ w) (hs : Sep ρ σ) {j : Nat} : ∀ {f : Nat} {s t : List Seg}, CanonF σ j f s t τ → ∀ (vals : List Value), segsOk s → FRep ρ (flat s) vals →
  ∃ Ls : Nat → Loc, ∀ ρc : Rho, (∀ i, f ≤ i → i < 100 → ρc (200000 + (j + 1000 * i)) = Ls i) → (∀ n, isHeap n = true → ρc n = ρ n) → segsOk t ∧ FRep ρc (flat t) vals ∧ MemRep ρc τ w := by
 intro f s t h
 induction h with
 | nil f => intro vals _ hF; exact ⟨fun _ => loc0, fun ρc _ _ => ⟨trivial, ⟨hF.1, fun i a v ha => by simp [flat] at ha⟩, fun n b hb => by simp [Mem.find] at hb⟩⟩
 | @plain f g s t τ hp _ ih =>
  intro vals hok hF
  obtain ⟨v1, v2, rfl, hl⟩ : ∃ v1 v2, vals = v1 ++ v2 ∧ g.flat.length = v1.length := by
   have e := hF.1
   simp only [flat, List.length_append] at e
   exact ⟨vals.take g.flat.length, vals.drop g.flat.length, (List.take_append_drop _ _).symm, by rw [List.length_take]; omega⟩
  obtain ⟨Ls, h2⟩ := ih v2 hok.2 ⟨by have := hF.1; simp only [flat, List.length_append] at this; omega, fun i a v ha hv => hF.2 (g.flat.length + i) a v (by simp only [flat]; rw [List.getElem?_append_right (by omega), Nat.add_sub_cancel_left]; exact ha) (by rw [List.getElem?_append_right (by omega), hl, Nat.add_sub_cancel_left]; exact hv)⟩
  refine ⟨Ls, fun ρc hc hch => ?_⟩
  obtain ⟨g1, g2, g3⟩ := h2 ρc hc hch
  refine ⟨⟨hok.1, g1⟩, ⟨by simp only [flat, List.length_append]; have := g2.1; omega, fun i a v ha hv => ?_⟩, g3⟩
  simp only [flat] at ha
  by_cases hi : i < g.flat.length
  ·rw [List.getElem?_append_left hi] at ha
   rw [List.getElem?_append_left (by omega)] at hv
   refine (hF.2 i a v (by simp only [flat]; rw [List.getElem?_append_left hi]; exact ha) (by rw [List.getElem?_append_left (by omega)]; exact hv)).agree fun m hm' => ?_
   have hr := hp m
   have : a ∈ g.flat := List.mem_of_getElem? ha
   cases g with
   | cells cs =>
    have : cs.any (AC.refs m) = true := List.any_eq_true.2 ⟨a, this, hm'⟩
    simp only [Seg.refs] at hr
    rw [hr] at this; cases this
   | ints k n l =>
    simp only [Seg.flat, List.mem_map] at this
    obtain ⟨x, _, rfl⟩ := this
    cases hm'
   | bools n l =>
    simp only [Seg.flat, List.mem_map] at this
    obtain ⟨x, _, rfl⟩ := this
    cases hm'
  ·rw [List.getElem?_append_right (by omega)] at ha
   rw [List.getElem?_append_right (by omega), ← hl] at hv
   exact g2.2 _ a v ha hv
 | @row f a s t τ ks cs hf hr hk _ ih =>
  intro vals hok hF
  have hfl : flat (.cells [a] :: s) = a :: flat s := rfl
  rw [hfl] at hF
  obtain ⟨c0, rest, rfl⟩ : ∃ c0 rest, vals = c0 :: rest := by
   cases vals with
   | nil => have := hF.1; simp at this
   | cons c0 rest => exact ⟨c0, rest, rfl⟩
  obtain ⟨cs', L, hR, rfl⟩ := rdx_sound hr hk hm hs (x := .one a) (hF.2 0 a c0 rfl rfl)
  obtain ⟨Ls, h2⟩ := ih rest hok.2 ⟨by have := hF.1; simpa using this, fun i b v hb hv => hF.2 (i + 1) b v (by simpa using hb) (by simpa using hv)⟩
  refine ⟨fun i => if i = f then L else Ls i, fun ρc hc hch => ?_⟩
  have hj : ρc (200000 + (j + 1000 * f)) = L := by rw [hc f (Nat.le_refl _) hf]; simp
  obtain ⟨g1, g2, g3⟩ := h2 ρc (fun i hi h100 => by rw [hc i (by omega) h100]; show (if i = f then _ else Ls i) = Ls i; rw [if_neg (by omega)]) hch
  refine ⟨⟨trivial, g1⟩, ⟨by have := hF.1; have := g2.1; simp [flat, Seg.flat] at *; omega, fun i b v hb hv => ?_⟩, fun m b hb => ?_⟩
  ·cases i with
   | zero =>
    simp [flat, Seg.flat] at hb hv
    subst hb hv
    show c0 = _
    rw [hj]; exact hR.val
   | succ i => exact g2.2 i b v (by simpa [flat, Seg.flat] using hb) (by simpa using hv)
  ·simp only [Mem.find] at hb
   split at hb
   ·rename_i e; subst e; cases hb
    exact ⟨by rw [hj]; exact hR.rep, by rw [hj]; exact hR.lnk.heaps hch⟩
   ·exact g3 m b hb
 | @rowH f a s t τ ks cs hf hr hk _ ih =>
  intro vals hok hF
  have hfl : flat (.cells [a] :: s) = a :: flat s := rfl
  rw [hfl] at hF
  obtain ⟨c0, rest, rfl⟩ : ∃ c0 rest, vals = c0 :: rest := by
   cases vals with
   | nil => have := hF.1; simp at this
   | cons c0 rest => exact ⟨c0, rest, rfl⟩
  obtain ⟨cs', L, hR, hu⟩ := rdx_sound hr hk hm hs (x := .one a) (hF.2 0 a c0 rfl rfl)
  obtain ⟨u1, u2⟩ := unHs_rep hm hs hu hR.rep hR.lnk
  obtain ⟨Ls, h2⟩ := ih rest hok.2 ⟨by have := hF.1; simpa using this, fun i b v hb hv => hF.2 (i + 1) b v (by simpa using hb) (by simpa using hv)⟩
  refine ⟨fun i => if i = f then L else Ls i, fun ρc hc hch => ?_⟩
  have hj : ρc (200000 + (j + 1000 * f)) = L := by rw [hc f (Nat.le_refl _) hf]; simp
  obtain ⟨g1, g2, g3⟩ := h2 ρc (fun i hi h100 => by rw [hc i (by omega) h100]; show (if i = f then _ else Ls i) = Ls i; rw [if_neg (by omega)]) hch
  refine ⟨⟨trivial, g1⟩, ⟨by have := hF.1; have := g2.1; simp [flat, Seg.flat] at *; omega, fun i b v hb hv => ?_⟩, fun m b hb => ?_⟩
  ·cases i with
   | zero =>
    simp [flat, Seg.flat] at hb hv
    subst hb hv
    show c0 = _
    rw [hj]; exact hR.val
   | succ i => exact g2.2 i b v (by simpa [flat, Seg.flat] using hb) (by simpa using hv)
  ·simp only [Mem.find] at hb
   split at hb
   ·rename_i e; subst e; cases hb
    exact ⟨by rw [hj]; exact u1, by rw [hj]; exact u2 _⟩
   ·exact g3 m b hb
theorem canon_sound {σ τ : Mem} {ρ : Rho} {w : World} (hm : MemRep ρ σ w) (hs : Sep ρ σ) : ∀ {j : Nat} {xs ys : List AV}, Canon σ j xs ys τ → ∀ (vals : List Value), xs.length = vals.length → (∀ (i : Nat) x v, xs[i]? = some x → vals[i]? = some v → SRep ρ x v) →
  ys.length = vals.length ∧ ∃ Ls : Nat → Nat → Loc, ∀ ρc : Rho, (∀ i f, j ≤ i → i < j + xs.length → f < 100 → ρc (200000 + (i + 1000 * f)) = Ls i f) → (∀ g, ρc (gname g) = ρ (gname g)) → (∀ n, isHeap n = true → ρc n = ρ n) → (∀ (i : Nat) y v, ys[i]? = some y → vals[i]? = some v → SRep ρc y v) ∧ MemRep ρc τ w := by
 intro j xs ys h
 induction h with
 | nil j => intro vals hl _; exact ⟨hl, fun _ _ => loc0, fun ρc _ _ _ => ⟨fun i y v hy => by simp at hy, fun n b hb => by simp [Mem.find] at hb⟩⟩
 | @plain j x xs ys τ hp _ ih =>
  intro vals hl hv
  cases vals with
  | nil => simp at hl
  | cons v vals =>
   obtain ⟨h1, Ls, h2⟩ := ih vals (by simpa using hl) (fun i x u hx hu => hv (i + 1) x u (by simpa using hx) (by simpa using hu))
   refine ⟨by simpa using h1, Ls, fun ρc hc hcg hch => ?_⟩
   obtain ⟨g1, g2⟩ := h2 ρc (fun i f hi hlt hf => hc i f (by omega) (by simp only [List.length_cons]; omega) hf) hcg hch
   refine ⟨fun i y u hy hu => ?_, g2⟩
   cases i with
   | zero => simp at hy hu; subst hy hu; exact hp.any (hv 0 x v rfl rfl)
   | succ i => exact g1 i y u (by simpa using hy) (by simpa using hu)
 | @row j x xs ys τ ks cs hr hk _ ih =>
  intro vals hl hv
  cases vals with
  | nil => simp at hl
  | cons v vals =>
   obtain ⟨h1, Ls, h2⟩ := ih vals (by simpa using hl) (fun i x u hx hu => hv (i + 1) x u (by simpa using hx) (by simpa using hu))
   obtain ⟨cs', L, hR, rfl⟩ := rdx_sound hr hk hm hs (hv 0 x v rfl rfl)
   refine ⟨by simpa using h1, fun i f => if i = j then L else Ls i f, fun ρc hc hcg hch => ?_⟩
   have hj : ρc (200000 + j) = L := by have q := hc j 0 (Nat.le_refl _) (by simp) (by decide); simpa using q
   obtain ⟨g1, g2⟩ := h2 ρc (fun i f hi hlt hf => by rw [hc i f (by omega) (by simp only [List.length_cons]; omega) hf]; show (if i = j then _ else Ls i f) = Ls i f; rw [if_neg (by omega)]) hcg hch
   refine ⟨fun i y u hy hu => ?_, fun n b hb => ?_⟩
   ·cases i with
    | zero =>
     simp at hy hu
     subst hy hu
     show v = _
     rw [hj]; exact hR.val
    | succ i => exact g1 i y u (by simpa using hy) (by simpa using hu)
   ·simp only [Mem.find] at hb
    split at hb
    ·rename_i e; subst e; cases hb
     exact ⟨by rw [hj]; exact hR.rep, by rw [hj]; exact hR.lnk.heaps hch⟩
    ·exact g2 n b hb
 | @rowH j x xs ys τ ks cs hr hk _ ih =>
  intro vals hl hv
  cases vals with
  | nil => simp at hl
  | cons v vals =>
   obtain ⟨h1, Ls, h2⟩ := ih vals (by simpa using hl) (fun i x u hx hu => hv (i + 1) x u (by simpa using hx) (by simpa using hu))
   obtain ⟨cs', L, hR, hu⟩ := rdx_sound hr hk hm hs (hv 0 x v rfl rfl)
   obtain ⟨u1, u2⟩ := unHs_rep hm hs hu hR.rep hR.lnk
   refine ⟨by simpa using h1, fun i f => if i = j then L else Ls i f, fun ρc hc hcg hch => ?_⟩
   have hj : ρc (200000 + j) = L := by have q := hc j 0 (Nat.le_refl _) (by simp) (by decide); simpa using q
   obtain ⟨g1, g2⟩ := h2 ρc (fun i f hi hlt hf => by rw [hc i f (by omega) (by simp only [List.length_cons]; omega) hf]; show (if i = j then _ else Ls i f) = Ls i f; rw [if_neg (by omega)]) hcg hch
   refine ⟨fun i y u hy hu => ?_, fun n b hb => ?_⟩
   ·cases i with
    | zero =>
     simp at hy hu
     subst hy hu
     show v = _
     rw [hj]; exact hR.val
    | succ i => exact g1 i y u (by simpa using hy) (by simpa using hu)
   ·simp only [Mem.find] at hb
    split at hb
    ·rename_i e; subst e; cases hb
     exact ⟨by rw [hj]; exact u1, by rw [hj]; exact u2 _⟩
    ·exact g2 n b hb
 | @aggrow j a s xs ys τ ks cs hr hk hp _ ih =>
  intro vals hl hv
  cases vals with
  | nil => simp at hl
  | cons v vals =>
   obtain ⟨h1, Ls, h2⟩ := ih vals (by simpa using hl) (fun i x u hx hu => hv (i + 1) x u (by simpa using hx) (by simpa using hu))
   obtain ⟨hok, cells, rfl, hF⟩ := hv 0 _ v rfl rfl
   have hfl : flat (.cells [a] :: s) = a :: flat s := rfl
   rw [hfl] at hF
   obtain ⟨c0, rest, rfl⟩ : ∃ c0 rest, cells = c0 :: rest := by
    cases cells with
    | nil => have := hF.1; simp at this
    | cons c0 rest => exact ⟨c0, rest, rfl⟩
   obtain ⟨cs', L, hR, rfl⟩ := rdx_sound hr hk hm hs (x := .one a) (hF.2 0 a c0 rfl rfl)
   refine ⟨by simpa using h1, fun i f => if i = j then L else Ls i f, fun ρc hc hcg hch => ?_⟩
   have hj : ρc (200000 + j) = L := by have q := hc j 0 (Nat.le_refl _) (by simp) (by decide); simpa using q
   obtain ⟨g1, g2⟩ := h2 ρc (fun i f hi hlt hf => by rw [hc i f (by omega) (by simp only [List.length_cons]; omega) hf]; show (if i = j then _ else Ls i f) = Ls i f; rw [if_neg (by omega)]) hcg hch
   refine ⟨fun i y u hy hu => ?_, fun n b hb => ?_⟩
   ·cases i with
    | zero =>
     simp at hy hu
     subst hy hu
     refine ⟨⟨trivial, hok.2⟩, c0 :: rest, rfl, ?_⟩
     have hfl2 : flat (.cells [.vec (200000 + j)] :: s) = .vec (200000 + j) :: flat s := rfl
     rw [hfl2]
     refine ⟨by have := hF.1; simpa using this, fun i b u hb hu => ?_⟩
     cases i with
     | zero =>
      simp at hb hu
      subst hb hu
      show c0 = _
      rw [hj]; exact hR.val
     | succ i =>
      have hb : (flat s)[i]? = some b := by simpa using hb
      refine (hF.2 (i + 1) b u (by simpa using hb) hu).agree fun m hm' => ?_
      have := flat_refs' (List.any_eq_true.2 ⟨b, List.mem_of_getElem? hb, hm'⟩)
      rw [hp m] at this; cases this
    | succ i => exact g1 i y u (by simpa using hy) (by simpa using hu)
   ·simp only [Mem.find] at hb
    split at hb
    ·rename_i e; subst e; cases hb
     exact ⟨by rw [hj]; exact hR.rep, by rw [hj]; exact hR.lnk.heaps hch⟩
    ·exact g2 n b hb
 | @clo j g n b xs ys τ hn hp _ ih =>
  intro vals hl hv
  cases vals with
  | nil => simp at hl
  | cons v vals =>
   obtain ⟨h1, Ls, h2⟩ := ih vals (by simpa using hl) (fun i x u hx hu => hv (i + 1) x u (by simpa using hx) (by simpa using hu))
   have hx : v = .func (.func g) #[] #[.pointer (some (at_ ρ n (0 + 0)))] := hv 0 _ v rfl rfl
   refine ⟨by simpa using h1, fun i f => if i = j then ρ n else Ls i f, fun ρc hc hcg hch => ?_⟩
   have hj : ρc (200000 + j) = ρ n := by have q := hc j 0 (Nat.le_refl _) (by simp) (by decide); simpa using q
   obtain ⟨g1, g2⟩ := h2 ρc (fun i f hi hlt hf => by rw [hc i f (by omega) (by simp only [List.length_cons]; omega) hf]; show (if i = j then _ else Ls i f) = Ls i f; rw [if_neg (by omega)]) hcg hch
   refine ⟨fun i y u hy hu => ?_, fun m b' hb => ?_⟩
   ·cases i with
    | zero =>
     simp at hy hu
     subst hy hu
     show v = _
     rw [hx]; simp only [at_, hj]
    | succ i => exact g1 i y u (by simpa using hy) (by simpa using hu)
   ·simp only [Mem.find] at hb
    split at hb
    ·rename_i e; subst e; cases hb
     obtain ⟨q1, q2⟩ := (hm n b hn).cells
     refine ⟨q1, fun i a ha => ?_⟩
     obtain ⟨u, hu1, hu2⟩ := q2 i a ha
     refine ⟨u, by simp only [at_, hj]; exact hu1, hu2.agree fun m hm' => ?_⟩
     have := flat_refs' (List.any_eq_true.2 ⟨a, List.mem_of_getElem? ha, hm'⟩)
     rw [hp m] at this; cases this
    ·exact g2 m b' hb
 | @ptr j n b xs ys τ hn hp _ ih =>
  intro vals hl hv
  cases vals with
  | nil => simp at hl
  | cons v vals =>
   obtain ⟨h1, Ls, h2⟩ := ih vals (by simpa using hl) (fun i x u hx hu => hv (i + 1) x u (by simpa using hx) (by simpa using hu))
   have hx : v = .pointer (some (at_ ρ n (0 + 0))) := hv 0 _ v rfl rfl
   refine ⟨by simpa using h1, fun i f => if i = j then ρ n else Ls i f, fun ρc hc hcg hch => ?_⟩
   have hj : ρc (200000 + j) = ρ n := by have q := hc j 0 (Nat.le_refl _) (by simp) (by decide); simpa using q
   obtain ⟨g1, g2⟩ := h2 ρc (fun i f hi hlt hf => by rw [hc i f (by omega) (by simp only [List.length_cons]; omega) hf]; show (if i = j then _ else Ls i f) = Ls i f; rw [if_neg (by omega)]) hcg hch
   refine ⟨fun i y u hy hu => ?_, fun m b' hb => ?_⟩
   ·cases i with
    | zero =>
     simp at hy hu
     subst hy hu
     show v = _
     rw [hx]; simp only [at_, hj]
    | succ i => exact g1 i y u (by simpa using hy) (by simpa using hu)
   ·simp only [Mem.find] at hb
    split at hb
    ·rename_i e; subst e; cases hb
     obtain ⟨q1, q2⟩ := (hm n b hn).cells
     refine ⟨q1, fun i a ha => ?_⟩
     obtain ⟨u, hu1, hu2⟩ := q2 i a ha
     refine ⟨u, by simp only [at_, hj]; exact hu1, hu2.agree fun m hm' => ?_⟩
     have := flat_refs' (List.any_eq_true.2 ⟨a, List.mem_of_getElem? ha, hm'⟩)
     rw [hp m] at this; cases this
    ·exact g2 m b' hb
 | @aggs j s t xs ys τ τ' hF _ ih =>
  intro vals hl hv
  cases vals with
  | nil => simp at hl
  | cons v vals =>
   obtain ⟨h1, Ls, h2⟩ := ih vals (by simpa using hl) (fun i x u hx hu => hv (i + 1) x u (by simpa using hx) (by simpa using hu))
   obtain ⟨hok, cells, rfl, hFR⟩ := hv 0 _ v rfl rfl
   obtain ⟨Ms, h3⟩ := canonF_sound hm hs hF cells hok hFR
   refine ⟨by simpa using h1, fun i f => if i = j then Ms f else Ls i f, fun ρc hc hcg hch => ?_⟩
   obtain ⟨g1, g2⟩ := h2 ρc (fun i f hi hlt hf => by rw [hc i f (by omega) (by simp only [List.length_cons]; omega) hf]; show (if i = j then _ else Ls i f) = Ls i f; rw [if_neg (by omega)]) hcg hch
   obtain ⟨k1, k2, k3⟩ := h3 ρc (fun f _ hf => by rw [hc j f (Nat.le_refl _) (by simp) hf]; simp) hch
   refine ⟨fun i y u hy hu => ?_, fun n b hb => ?_⟩
   ·cases i with
    | zero =>
     simp at hy hu
     subst hy hu
     exact ⟨k1, cells, rfl, k2⟩
    | succ i => exact g1 i y u (by simpa using hy) (by simpa using hu)
   ·rcases find_app hb with q | q
    ·exact k3 n b q
    ·exact g2 n b q
 | @glob j g b xs ys τ hn hp _ ih =>
  intro vals hl hv
  obtain ⟨h1, Ls, h2⟩ := ih vals hl hv
  refine ⟨h1, Ls, fun ρc hc hcg hch => ?_⟩
  obtain ⟨g1, g2⟩ := h2 ρc hc hcg hch
  refine ⟨g1, fun m b' hb => ?_⟩
  simp only [Mem.find] at hb
  split at hb
  ·rename_i e; subst e; cases hb
   obtain ⟨q1, q2⟩ := (hm (gname g) b hn).cells
   refine ⟨q1, fun i a ha => ?_⟩
   obtain ⟨u, hu1, hu2⟩ := q2 i a ha
   refine ⟨u, by simp only [at_, hcg]; exact hu1, hu2.agree fun m hm' => ?_⟩
   have := flat_refs' (List.any_eq_true.2 ⟨a, List.mem_of_getElem? ha, hm'⟩)
   rw [hp m] at this; cases this
  ·exact g2 m b' hb
inductive Item where
 | vec (m : Nat) (cs : List Col)
 | nil (ks : List Kd)
def Item.cols : Item → List Col
 | .vec _ cs => cs
 | .nil ks => ks.map Kd.nil
def Item.ac : Item → AC
 | .vec m _ => .vec m
 | .nil _ => .con (.slice none 0 0)
def Item.name : Item → Option Nat
 | .vec m _ => some m
 | .nil _ => none
def noRows : List Col → Bool
 | [] => true
 | .rows _ _ :: _ => false
 | .hss _ _ :: _ => false
 | _ :: r => noRows r
def Item.ok (σ : Mem) : Item → Prop
 | .vec m cs => Mem.find σ m = some (.vec cs) ∧ noRows cs = true
 | .nil ks => 0 < width ks ∧ noRows (ks.map Kd.nil) = true
def ResC (its : List Item) (d : Nat) (a b : AC) : Prop :=
 ((∀ n, a.refs n = false) ∧ (∀ n, b.refs n = false) ∧ ∀ ρ v, CRep ρ a v → CRep ρ b v) ∨ ∃ k it, its[k]? = some it ∧ a = it.ac ∧ b = .vec (d + 10000 * k)
def ResCs (its : List Item) (d : Nat) : List AC → List AC → Prop
 | [], [] => True
 | a :: r, b :: s => ResC its d a b ∧ ResCs its d r s
 | _, _ => False
def ResS (its : List Item) (d : Nat) : List Seg → List Seg → Prop
 | [], [] => True
 | .ints k n l :: r, .ints k' n' l' :: s => (k = k' ∧ n = n' ∧ l = l') ∧ ResS its d r s
 | .bools n l :: r, .bools n' l' :: s => (n = n' ∧ l = l') ∧ ResS its d r s
 | .cells c :: r, .cells c' :: s => ResCs its d c c' ∧ ResS its d r s
 | _, _ => False
def ResT (its : List Item) (d : Nat) : List TV → List TV → Prop
 | [], [] => True
 | .c a :: r, .c b :: s => ResC its d a b ∧ ResT its d r s
 | .g x :: r, .g y :: s => ResS its d x y ∧ ResT its d r s
 | _, _ => False
def ResV (its : List Item) (d : Nat) : AV → AV → Prop
 | .one a, .one b => ResC its d a b
 | .agg s, .agg t => ResS its d s t
 | .tup v, .tup u => ResT its d v u
 | _, _ => False
def insAll (d : Nat) : Nat → List Item → Mem → Mem
 | _, [], σ => σ
 | k, it :: r, σ => insAll d (k + 1) r (Mem.ins (d + 10000 * k) (.vec it.cols) σ)
def Res (d news : Nat) (σ : Mem) (K : AV → Mem → Prop) (av : AV) (σ' : Mem) : Prop :=
 ∃ its av', its.length ≤ news ∧ (∀ it ∈ its, it.ok σ') ∧ (its.map Item.name).Pairwise (fun a b => a = none ∨ a ≠ b) ∧ ResV its d av av' ∧ K av' (insAll d 0 its σ)
theorem noRows_inner {cs : List Col} (h : noRows cs = true) : ∀ (c : Nat) k ll, cs[c]? ≠ some (Col.rows k ll) := by
 induction cs with
 | nil => intro c k ll q; simp at q
 | cons x r ih =>
  intro c k ll q
  cases c with
  | zero => simp at q; subst q; simp [noRows] at h
  | succ c => exact ih (by cases x <;> simp_all [noRows]) c k ll (by simpa using q)
theorem noRows_lnk {ρ : Rho} {L : Loc} {cs : List Col} (h : noRows cs = true) : Lnk ρ L cs := lnk_no fun c k ll q => by
 induction cs generalizing c with
 | nil => simp at q
 | cons x r ih =>
  cases c with
  | zero => simp at q; subst q; simp [noRows] at h
  | succ c => exact ih (by cases x <;> simp_all [noRows]) c (by simpa using q)
theorem noRows_no {L : Loc} {cs : List Col} (h : noRows cs = true) (k : Nat) : ¬ Inner L cs k := by
 rintro ⟨c, kk, ll, i, l, a, hc, _⟩
 exact noRows_inner h c kk ll hc
section
variable {P : Program} {Γ : Gam} {D : Hints}
structure ItemAt (ρ : Rho) (σ : Mem) (n0 : Nat) (w : World) (it : Item) (L : Loc) : Prop where
 rep : VRep w L it.cols
 write : Writable w L (cwidth it.cols)
 flat : noRows it.cols = true
 val : ∀ v, CRep ρ it.ac v → v = .slice L.a L.len L.cap
 own : L.cap ≠ 0 → n0 ≤ L.1 ∧ ∃ m b, it.name = some m ∧ Mem.find σ m = some b ∧ Out ρ m b L.1
theorem item_at {ρ : Rho} {σ : Mem} {n0 : Nat} {w : World} {it : Item} (hm : MemRep ρ σ w) (hs : Sep ρ σ) (ho : ∀ n b k, Mem.find σ n = some b → Out ρ n b k → n0 ≤ k) (hok : it.ok σ) : ∃ L, ItemAt ρ σ n0 w it L := by
 cases it with
 | vec m cs =>
  obtain ⟨h1, h2⟩ := hok
  obtain ⟨g1, g2, _⟩ := hm m _ h1
  exact ⟨ρ m, g1, g2, h2, fun u hu => hu, fun q => ⟨ho m _ _ h1 ⟨q, rfl⟩, m, _, rfl, h1, q, rfl⟩⟩
 | nil ks =>
  obtain ⟨h1, h2⟩ := hok
  obtain ⟨g1, g2⟩ := nil_rep (w := w) h1
  exact ⟨loc0, g1, fun q => absurd rfl q, h2, fun u hu => hu.1, fun q => absurd rfl q⟩
theorem insAll_sound {E : Env} {a : Act} {w : World} {ρi : Rho} {σi : Mem} {n0 d : Nat} (Ls : Nat → Loc) : ∀ {its : List Item} {k : Nat} {ρ : Rho} {σ : Mem}, Rep E ρ [] σ a w → (∀ i it, its[i]? = some it → ItemAt ρi σi n0 w it (Ls (k + i))) → Sep ρi σi → E.w0.heap.size ≤ n0 →
  (its.map Item.name).Pairwise (fun a b => a = none ∨ a ≠ b) → (∀ i, i < its.length → freshB (d + 10000 * (k + i)) [] σ = true) → (∀ m b q, Mem.find σ m = some b → Foot ρ m b q → ∀ (i : Nat) it, its[i]? = some it → (Ls (k + i)).cap ≠ 0 → q ≠ (Ls (k + i)).1) →
  ∃ ρ', Rep E ρ' [] (insAll d k its σ) a w ∧ (∀ n, (∀ i, i < its.length → n ≠ d + 10000 * (k + i)) → ρ' n = ρ n) ∧ (∀ i, i < its.length → ρ' (d + 10000 * (k + i)) = Ls (k + i)) ∧ ∀ m b, Mem.find σ m = some b → Mem.find (insAll d k its σ) m = some b
 | [], k, ρ, σ, h, _, _, _, _, _, _ => ⟨ρ, h, fun _ _ => rfl, fun i hi => absurd hi (Nat.not_lt_zero _), fun _ _ q => q⟩
 | it :: its, k, ρ, σ, h, hat, hs, hn0, hpw, hfr, hdis => by
  have h0 := hat 0 it rfl
  rw [Nat.add_zero] at h0
  have hd := hfr 0 (by simp)
  rw [Nat.add_zero] at hd
  have hdis0 := fun m b q hb hf => hdis m b q hb hf 0 it rfl
  have step := (add_sound (L := Ls k) (b := .vec it.cols) h hd h.keep (fun _ _ _ _ _ => rfl) ⟨by rw [upd_eq]; exact h0.rep, by rw [upd_eq]; exact h0.write, noRows_lnk h0.flat⟩ (fun q hq => by
   simp only [Out, upd_eq] at hq
   obtain ⟨hc, rfl⟩ := hq
   exact ⟨Or.inl (Nat.le_trans hn0 (h0.own hc).1), fun m c hm hF => hdis0 m c _ hm hF (by rw [Nat.add_zero]; exact hc) (by rw [Nat.add_zero]), fun hI => by simp only [Inn, upd_eq] at hI; exact noRows_no h0.flat _ hI⟩) (fun q hq => by
   simp only [Foot, upd_eq] at hq
   rcases hq with ⟨hc, rfl⟩ | hq
   ·exact fun m c hm hO => hdis0 m c _ hm hO.foot (by rw [Nat.add_zero]; exact hc) (by rw [Nat.add_zero])
   ·exact absurd hq (noRows_no h0.flat _))).find_eq (find_ins (freshB_parts hd).2.2)
  obtain ⟨q1, q2⟩ := List.pairwise_cons.1 hpw
  obtain ⟨d1, _, d3⟩ := freshB_parts hd
  obtain ⟨ρ', r1, r2, r3, r4⟩ := insAll_sound (ρi := ρi) (σi := σi) (n0 := n0) (d := d) Ls (its := its) (k := k + 1) step (fun i it' hi => by have := hat (i + 1) it' (by simpa using hi); rw [show k + 1 + i = k + (i + 1) by omega]; exact this) hs hn0 q2 (fun i hi => by
   have := hfr (i + 1) (by simp only [List.length_cons]; omega)
   obtain ⟨f1, f2, f3⟩ := freshB_parts this
   rw [show k + 1 + i = k + (i + 1) by omega]
   simp only [freshB, f2, Bool.and_eq_true, decide_eq_true_eq, Bool.not_eq_true', and_true]
   refine ⟨f1, ?_⟩
   have e : ∀ (σ : Mem) (dd : Nat) (b : Blk) (x : Nat), memRefs x (Mem.ins dd b σ) = (dd == x || b.refs x || memRefs x σ) := by
    intro σ dd b x
    induction σ with
    | nil => simp [Mem.ins, memRefs]
    | cons p r ih =>
     obtain ⟨m, y⟩ := p
     simp only [Mem.ins]
     split
     ·simp only [memRefs, List.any_cons] at ih ⊢
      rw [ih]
      cases (m == x || y.refs x) <;> cases (dd == x || b.refs x) <;> simp
     ·simp [memRefs]
   rw [e, f3]
   simp only [Blk.refs, refs_no f1, Bool.or_false, beq_eq_false_iff_ne]
   omega) (fun m b q hb hf i it' hi hc => by
   rw [show k + 1 + i = k + (i + 1) by omega] at hc ⊢
   rw [find_ins d3] at hb
   simp only [Mem.find] at hb
   split at hb
   ·rename_i e
    cases hb
    subst e
    simp only [Foot, upd_eq] at hf
    rcases hf with ⟨hc0, rfl⟩ | hf
    ·intro eq
     have hi' := hat (i + 1) it' (by simpa using hi)
     obtain ⟨_, m1, b1, n1, f1, o1⟩ := h0.own hc0
     obtain ⟨_, m2, b2, n2, f2, o2⟩ := hi'.own hc
     have hne : m1 ≠ m2 := fun e => by
      have := q1 it'.name (List.mem_map.2 ⟨it', List.mem_of_getElem? hi, rfl⟩)
      rw [n1, n2, e] at this
      rcases this with q | q
      ·cases q
      ·exact q rfl
     rw [← eq] at o2
     exact hs.1 m1 m2 b1 b2 _ f1 f2 hne o1 o2.foot
    ·exact absurd hf (noRows_no h0.flat _)
   ·rename_i hne
    have hf' : Foot ρ m b q := (Foot.agree (upd_ne (fun e => hne e.symm))).1 hf
    exact hdis m b q hb hf' (i + 1) it' (by simpa using hi) hc)
  refine ⟨ρ', r1, fun n hn => ?_, fun i hi => ?_, fun m b hb => r4 m b (ins_old hd m b hb)⟩
  ·rw [r2 n (fun i hi => by have := hn (i + 1) (by simp only [List.length_cons]; omega); rw [show k + 1 + i = k + (i + 1) by omega]; exact this)]
   exact upd_ne (by have := hn 0 (by simp); rw [Nat.add_zero] at this; exact this)
  ·cases i with
   | zero =>
    rw [Nat.add_zero, r2 _ (fun i hi => by omega)]
    exact upd_eq _ _ _
   | succ i =>
    have := r3 i (by simp only [List.length_cons] at hi; omega)
    rw [show k + 1 + i = k + (i + 1) by omega] at this
    exact this
theorem resC_sound {its : List Item} {d : Nat} {ρ ρ' : Rho} {a b : AC} {v : Value} (h : ResC its d a b) (hL : ∀ i it, its[i]? = some it → ∀ v, CRep ρ it.ac v → CRep ρ' (.vec (d + 10000 * i)) v) (hv : CRep ρ a v) : CRep ρ' b v := by
 rcases h with ⟨h1, h2, h3⟩ | ⟨k, it, h1, rfl, rfl⟩
 ·exact (h3 ρ v hv).agree fun n hn => by rw [h2 n] at hn; cases hn
 ·exact hL k it h1 v hv
theorem resCs_sound {its : List Item} {d : Nat} {ρ ρ' : Rho} (hL : ∀ i it, its[i]? = some it → ∀ v, CRep ρ it.ac v → CRep ρ' (.vec (d + 10000 * i)) v) : ∀ {l m : List AC}, ResCs its d l m → l.length = m.length ∧ ∀ (j : Nat) a b v, l[j]? = some a → m[j]? = some b → CRep ρ a v → CRep ρ' b v
 | [], [], _ => ⟨rfl, fun j a b v h => by simp at h⟩
 | a :: l, b :: m, h => by
  obtain ⟨g1, g2⟩ := resCs_sound hL h.2
  refine ⟨by simp [g1], fun j x y v hx hy hv => ?_⟩
  cases j with
  | zero => simp at hx hy; subst hx hy; exact resC_sound h.1 hL hv
  | succ j => exact g2 j x y v (by simpa using hx) (by simpa using hy) hv
 | [], _ :: _, h => h.elim
 | _ :: _, [], h => h.elim
theorem resS_sound {its : List Item} {d : Nat} {ρ ρ' : Rho} (hL : ∀ i it, its[i]? = some it → ∀ v, CRep ρ it.ac v → CRep ρ' (.vec (d + 10000 * i)) v) : ∀ {s t : List Seg}, ResS its d s t → segsOk s → segsOk t ∧ (flat s).length = (flat t).length ∧ ∀ (j : Nat) a b v, (flat s)[j]? = some a → (flat t)[j]? = some b → CRep ρ a v → CRep ρ' b v
 | [], [], _, _ => ⟨trivial, rfl, fun j a b v h => by simp [flat] at h⟩
 | .ints k n l :: r, .ints k' n' l' :: s, h, ho => by
  obtain ⟨⟨rfl, rfl, rfl⟩, h⟩ := h
  obtain ⟨g1, g2, g3⟩ := resS_sound hL h ho.2
  refine ⟨⟨ho.1, g1⟩, by simp [flat, g2], fun j a b v ha hb hv => ?_⟩
  simp only [flat] at ha hb
  rw [List.getElem?_append] at ha hb
  split at ha
  ·rename_i hj; rw [if_pos hj] at hb; rw [ha] at hb; cases hb
   simp only [Seg.flat, List.getElem?_map, Option.map_eq_some_iff] at ha
   obtain ⟨x, _, rfl⟩ := ha; exact hv
  ·rename_i hj; rw [if_neg hj] at hb; exact g3 _ a b v ha hb hv
 | .bools n l :: r, .bools n' l' :: s, h, ho => by
  obtain ⟨⟨rfl, rfl⟩, h⟩ := h
  obtain ⟨g1, g2, g3⟩ := resS_sound hL h ho.2
  refine ⟨⟨ho.1, g1⟩, by simp [flat, g2], fun j a b v ha hb hv => ?_⟩
  simp only [flat] at ha hb
  rw [List.getElem?_append] at ha hb
  split at ha
  ·rename_i hj; rw [if_pos hj] at hb; rw [ha] at hb; cases hb
   simp only [Seg.flat, List.getElem?_map, Option.map_eq_some_iff] at ha
   obtain ⟨x, _, rfl⟩ := ha; exact hv
  ·rename_i hj; rw [if_neg hj] at hb; exact g3 _ a b v ha hb hv
 | .cells c :: r, .cells c' :: s, h, ho => by
  obtain ⟨hc, h⟩ := h
  obtain ⟨c1, c2⟩ := resCs_sound hL hc
  obtain ⟨g1, g2, g3⟩ := resS_sound hL h ho.2
  refine ⟨⟨trivial, g1⟩, by simp [flat, Seg.flat, g2, c1], fun j a b v ha hb hv => ?_⟩
  simp only [flat, Seg.flat] at ha hb
  rw [List.getElem?_append] at ha hb
  split at ha
  ·rename_i hj; rw [if_pos (by omega)] at hb; exact c2 j a b v ha hb hv
  ·rename_i hj; rw [if_neg (by omega), ← c1] at hb; exact g3 _ a b v ha hb hv
 | [], _ :: _, h, _ => h.elim
 | .ints _ _ _ :: _, [], h, _ => h.elim
 | .bools _ _ :: _, [], h, _ => h.elim
 | .cells _ :: _, [], h, _ => h.elim
 | .ints _ _ _ :: _, .bools _ _ :: _, h, _ => h.elim
 | .ints _ _ _ :: _, .cells _ :: _, h, _ => h.elim
 | .bools _ _ :: _, .ints _ _ _ :: _, h, _ => h.elim
 | .bools _ _ :: _, .cells _ :: _, h, _ => h.elim
 | .cells _ :: _, .ints _ _ _ :: _, h, _ => h.elim
 | .cells _ :: _, .bools _ _ :: _, h, _ => h.elim
theorem resAgg_sound {its : List Item} {d : Nat} {ρ ρ' : Rho} (hL : ∀ i it, its[i]? = some it → ∀ v, CRep ρ it.ac v → CRep ρ' (.vec (d + 10000 * i)) v) {s t : List Seg} {v : Value} (h : ResS its d s t) (hv : SRep ρ (.agg s) v) : SRep ρ' (.agg t) v := by
 obtain ⟨ho, cs, rfl, hf⟩ := hv
 obtain ⟨g1, g2, g3⟩ := resS_sound hL h ho
 refine ⟨g1, cs, rfl, by rw [← g2]; exact hf.1, fun j b u hb hu => ?_⟩
 have hj : j < (flat s).length := by rw [g2]; exact (List.getElem?_eq_some_iff.1 hb).1
 exact g3 j _ b u (List.getElem?_eq_getElem hj) hb (hf.2 j _ u (List.getElem?_eq_getElem hj) hu)
theorem resT_sound {its : List Item} {d : Nat} {ρ ρ' : Rho} (hL : ∀ i it, its[i]? = some it → ∀ v, CRep ρ it.ac v → CRep ρ' (.vec (d + 10000 * i)) v) : ∀ {l m : List TV}, ResT its d l m → l.length = m.length ∧ ∀ (j : Nat) a b v, l[j]? = some a → m[j]? = some b → TRep ρ a v → TRep ρ' b v
 | [], [], _ => ⟨rfl, fun j a b v h => by simp at h⟩
 | .c a :: l, .c b :: m, h => by
  obtain ⟨g1, g2⟩ := resT_sound hL h.2
  refine ⟨by simp [g1], fun j x y v hx hy hv => ?_⟩
  cases j with
  | zero => simp at hx hy; subst hx hy; exact resC_sound h.1 hL hv
  | succ j => exact g2 j x y v (by simpa using hx) (by simpa using hy) hv
 | .g a :: l, .g b :: m, h => by
  obtain ⟨g1, g2⟩ := resT_sound hL h.2
  refine ⟨by simp [g1], fun j x y v hx hy hv => ?_⟩
  cases j with
  | zero => simp at hx hy; subst hx hy; exact resAgg_sound hL h.1 hv
  | succ j => exact g2 j x y v (by simpa using hx) (by simpa using hy) hv
 | [], _ :: _, h => h.elim
 | .c _ :: _, [], h => h.elim
 | .g _ :: _, [], h => h.elim
 | .c _ :: _, .g _ :: _, h => h.elim
 | .g _ :: _, .c _ :: _, h => h.elim
theorem resV_sound {its : List Item} {d : Nat} {ρ ρ' : Rho} (hL : ∀ i it, its[i]? = some it → ∀ v, CRep ρ it.ac v → CRep ρ' (.vec (d + 10000 * i)) v) {x y : AV} {v : Value} (h : ResV its d x y) (hv : SRep ρ x v) : SRep ρ' y v := by
 cases x <;> cases y <;> simp only [ResV] at h
 ·exact resC_sound h hL hv
 ·exact resAgg_sound hL h hv
 ·obtain ⟨us, rfl, hl, hall⟩ := hv
  obtain ⟨g1, g2⟩ := resT_sound hL h
  refine ⟨us, rfl, by omega, fun j b u hb hu => ?_⟩
  rename_i l m
  have hj : j < l.length := by rw [g1]; exact (List.getElem?_eq_some_iff.1 hb).1
  exact g2 j _ b u (List.getElem?_eq_getElem hj) hb (hall j _ u (List.getElem?_eq_getElem hj) hu)
def rhoC (ρ : Rho) (Ls : Nat → Loc) : Rho := fun n => if n < 200000 then loc0 else if n < 900000 then Ls (n - 200000) else ρ n
theorem rhoC_arg {ρ : Rho} {Ls : Nat → Loc} {i : Nat} (hi : i < 700000) : rhoC ρ Ls (200000 + i) = Ls i := by
 unfold rhoC
 split
 ·omega
 ·split
  ·have e : 200000 + i - 200000 = i := by omega
   rw [e]
  ·omega
theorem rhoC_glob {ρ : Rho} {Ls : Nat → Loc} {g : Nat} : rhoC ρ Ls (gname g) = ρ (gname g) := by
 have e1 : ¬ gname g < 200000 := by simp only [gname]; omega
 have e2 : ¬ gname g < 900000 := by simp only [gname]; omega
 unfold rhoC
 rw [if_neg e1, if_neg e2]
theorem rhoC_heap {ρ : Rho} {Ls : Nat → Loc} {n : Nat} (h : isHeap n = true) : rhoC ρ Ls n = ρ n := by
 have := isHeap_le h
 unfold rhoC
 rw [if_neg (by omega), if_neg (by omega)]
theorem Good.reads (hm : P.follows .mixedOrders = true) (hΓ : GoodG P Γ) {f : FuncId} {fn : Func} (hf : P.funcs[f]? = some fn) (hb : fn.body.isSome = true) {s : Spec} (hs : s.mods = false)
  (hsem : ∀ d args σ (K : AV → Mem → Prop), s.sem d args σ K → ∃ cargs τ, Canon σ 0 args cargs τ ∧ args.length ≤ 1000 ∧ ∃ n, callsx P Γ D fn n cargs τ (Res d s.news σ K)) : Good P f s := by
 refine ⟨fun d args σ K h ρ w vals hg hmem hsep hl hv hnew => ?_⟩
 obtain ⟨cargs, τ, hcan, hlen, n, hc⟩ := hsem d args σ K h
 obtain ⟨h1, Ls, h2⟩ := canon_sound hmem hsep hcan vals.toList (by simpa using hl) (fun i x v hx hu => hv i x v hx (by simpa using hu))
 generalize hρ0 : rhoC ρ (fun n => Ls (n % 1000) (n / 1000)) = ρc
 have hρc : ∀ i f, 0 ≤ i → i < 0 + args.length → f < 100 → ρc (200000 + (i + 1000 * f)) = Ls i f := fun i f _ hi hf => by
  rw [← hρ0, rhoC_arg (by omega)]
  show Ls ((i + 1000 * f) % 1000) ((i + 1000 * f) / 1000) = Ls i f
  rw [show (i + 1000 * f) % 1000 = i by omega, show (i + 1000 * f) / 1000 = f by omega]
 have hgg : ∀ g, ρc (gname g) = ρ (gname g) := fun g => by rw [← hρ0]; exact rhoC_glob
 obtain ⟨g1, g2⟩ := h2 ρc hρc hgg (fun n hn => by rw [← hρ0]; exact rhoC_heap hn)
 have hgc : Glob ρc := fun g => by rw [hgg]; exact hg g
 have hno := canon_views hcan ρc
 have hsepc : Sep ρc τ := ⟨fun n m b c k hn _ _ hO => absurd hO (hno n b k hn), fun n b k hn hO => absurd hO (hno n b k hn)⟩
 refine (callsx_sound hm hΓ hf hb hc (ex := fun _ => False) hgc (by simpa using h1) (fun i y v hy hu => g1 i y v hy (by simpa using hu)) g2 hsepc (fun n b k hn hO => absurd hO (hno n b k hn))).mono ?_
 rintro e w' ⟨v, av', σ'', ρ'', rfl, ⟨its, av, hlen', hok, hpw, hres, hK⟩, hsr, hmem'', hsep'', _, _, hown'', hk⟩
 have hsame : ∀ i, i < w.heap.size → w'.heap[i]? = w.heap[i]? := fun i hi => hk.block i hi (fun q => q)
 have hk' : Keeps (OwnAt ρ σ) w w' := ⟨hk.os, hk.tape, hk.output, hk.size, fun k hk' _ => hsame k hk'⟩
 let E : Env := ⟨w, ρ, OwnAt ρ σ, hg⟩
 let a : Act := { tmps := #[], defers := [] }
 have hR : Rep E ρ [] σ a w' := ⟨⟨rfl, fun t v ht => by simp [a] at ht⟩, rfl, hmem.keeps (fun n b k hb hk => hsame _ (in_range (hmem n b hb) hk)), hsep, fun _ _ _ => rfl, fun _ _ => .refl _, fun n b k hn hO => Or.inr ⟨n, b, hn, hO⟩, hk'⟩
 have hat : ∀ it ∈ its, ∃ L, ItemAt ρ'' σ'' w.heap.size w' it L := fun it hi => item_at hmem'' hsep'' (fun n b k hn hO => by rcases hown'' n b k hn hO with q | q; exact q; exact q.elim) (hok it hi)
 let Ms : Nat → Loc := fun i => if hi : i < its.length then Classical.choose (hat its[i] (List.getElem_mem hi)) else loc0
 have hMs : ∀ i it, its[i]? = some it → ItemAt ρ'' σ'' w.heap.size w' it (Ms i) := fun i it hi => by
  obtain ⟨hlt, rfl⟩ := List.getElem?_eq_some_iff.1 hi
  show ItemAt ρ'' σ'' w.heap.size w' its[i] (if hi : i < its.length then Classical.choose (hat its[i] (List.getElem_mem hi)) else loc0)
  rw [dif_pos hlt]
  exact Classical.choose_spec (hat its[i] (List.getElem_mem hlt))
 obtain ⟨ρ', r1, r2, r3, r4⟩ := insAll_sound (d := d) (k := 0) Ms hR (fun i it hi => by rw [Nat.zero_add]; exact hMs i it hi) hsep'' (Nat.le_refl _) hpw (fun i hi => by
  obtain ⟨q1, q2⟩ := hnew i (by omega)
  rw [Nat.zero_add]
  simp only [freshB, q2, frRefs, List.any_nil, Bool.not_false, Bool.and_true, decide_eq_true_eq]
  exact q1) (fun m b q hb hf i it hi hc => by
  rw [Nat.zero_add] at hc ⊢
  have := in_range (hmem m b hb) hf
  have := ((hMs i it hi).own hc).1
  omega)
 have heq : ∀ n, isHeap n = true → ρ' n = ρ n := fun n hn => r2 n fun i hi => by
  have := isHeap_le hn
  have := (hnew i (by omega)).1
  omega
 refine ⟨v, av, _, ρ', rfl, hK, resV_sound (fun i it hi u hu => ?_) hres hsr, r1.mem, r1.sep, fun n _ hn => r2 n fun i hi => by rw [Nat.zero_add]; exact hn i (by omega), fun n hn => .of_eq (heq n hn), fun n b k hn hO => ?_, hk', fun _ => ⟨hk, r4, heq⟩⟩
 ·show u = _
  have hlt := (List.getElem?_eq_some_iff.1 hi).1
  have e := r3 i hlt
  rw [Nat.zero_add] at e
  rw [e]
  exact (hMs i it hi).val u hu
 ·rcases r1.own n b k hn hO with q | q
  ·exact Or.inr q
  ·exact Or.inl q
end
structure Bs (l : List Int) : Prop where
 all : ∀ x ∈ l, 0 ≤ x ∧ x < 256
theorem Bs.nil : Bs [] := ⟨fun x h => by cases h⟩
theorem Bs.cons {a : Int} {l : List Int} (h0 : 0 ≤ a) (h1 : a < 256) (h : Bs l) : Bs (a :: l) := ⟨fun x hx => by
 rcases List.mem_cons.1 hx with rfl | hx
 ·exact ⟨h0, h1⟩
 ·exact h.all x hx⟩
theorem Bs.app {a b : List Int} (h : Bs a) (g : Bs b) : Bs (a ++ b) := ⟨fun x hx => by
 rcases List.mem_append.1 hx with hx | hx
 ·exact h.all x hx
 ·exact g.all x hx⟩
theorem Bs.take {l : List Int} (h : Bs l) (n : Nat) : Bs (l.take n) := ⟨fun x hx => h.all x (List.mem_of_mem_take hx)⟩
theorem Bs.drop {l : List Int} (h : Bs l) (n : Nat) : Bs (l.drop n) := ⟨fun x hx => h.all x (List.mem_of_mem_drop hx)⟩
theorem Bs.zeros (n : Nat) : Bs (List.replicate n 0) := ⟨fun x hx => by rw [List.eq_of_mem_replicate hx]; decide⟩
theorem Bs.get {l : List Int} (h : Bs l) (i : Nat) : 0 ≤ l.getD i 0 ∧ l.getD i 0 < 256 := by
 rw [List.getD_eq_getElem?_getD]
 cases hq : l[i]? with
 | none => simp
 | some x => exact h.all x (List.mem_of_getElem? hq)
theorem Bs.set {l : List Int} (h : Bs l) (i : Nat) {v : Int} (h0 : 0 ≤ v) (h1 : v < 256) : Bs (l.set i v) := ⟨fun x hx => by
 rcases List.mem_or_eq_of_mem_set hx with hx | rfl
 ·exact h.all x hx
 ·exact ⟨h0, h1⟩⟩
def rdb (σ : Mem) (x : AV) (K : List Int → Prop) : Prop := rdx σ [.ints .u8] x (oneInts .u8 K)
theorem rdx_det {σ : Mem} {ks : List Kd} {x : AV} {K : List Col → Prop} (h : rdx σ ks x K) : ∃ cs, K cs ∧ rdx σ ks x (fun c => c = cs) := by
 unfold rdx at h
 split at h
 ·split at h <;> try exact h.elim
  rename_i hq
  exact ⟨_, h, by simp [rdx, hq]⟩
 ·split at h <;> try exact h.elim
  rename_i hq
  split at h <;> try exact h.elim
  rename_i hz
  exact ⟨_, h, by simp [rdx, hq, hz]⟩
 ·split at h <;> try exact h.elim
  rename_i hq
  split at h <;> try exact h.elim
  rename_i hz
  exact ⟨_, h, by simp [rdx, hq, hz]⟩
 ·split at h <;> try exact h.elim
  rename_i hq
  exact ⟨_, h, by simp [rdx, hq]⟩
 ·split at h <;> try exact h.elim
  rename_i hq
  exact ⟨_, h, by simp [rdx, hq]⟩
 ·split at h <;> try exact h.elim
  rename_i hq
  split at h <;> try exact h.elim
  rename_i hf
  exact ⟨_, h.2, by simp only [rdx, hq, hf, and_true]; exact h.1⟩
 ·exact ⟨_, h, by simp [rdx]⟩
 ·split at h <;> try exact h.elim
  rename_i hq
  exact ⟨_, h, by simp [rdx, hq]⟩
 ·exact h.elim
theorem rdb_row {σ : Mem} {x : AV} {K : List Int → Prop} (h : rdb σ x K) : ∃ l, K l ∧ rdx σ [.ints .u8] x (fun c => c = [.ints .u8 l]) := by
 obtain ⟨cs, h1, h2⟩ := rdx_det h
 unfold oneInts at h1
 split at h1 <;> try exact h1.elim
 split at h1 <;> try exact h1.elim
 rename_i hk
 subst hk
 exact ⟨_, h1, h2⟩
theorem pairwise_one {a : Option Nat} : [a].Pairwise (fun a b => a = none ∨ a ≠ b) := by simp
theorem pairwise_nil : ([] : List (Option Nat)).Pairwise (fun a b => a = none ∨ a ≠ b) := .nil
theorem bytes_eq {a b : List Int} (ha : Bs a) (hb : Bs b) (h : bytesOf a = bytesOf b) : a = b := by
 have h2 : a.map (fun n => UInt8.ofNat n.toNat) = b.map (fun n => UInt8.ofNat n.toNat) := by
  have := congrArg (fun s => s.data.toList) h
  simpa [bytesOf] using this
 have key : ∀ {a : List Int}, Bs a → (a.map (fun n => UInt8.ofNat n.toNat)).map (fun b => (b.toNat : Int)) = a := by
  intro a ha
  rw [List.map_map]
  conv => rhs; rw [← List.map_id a]
  refine List.map_congr_left fun x hx => ?_
  obtain ⟨h0, h1⟩ := ha.all x hx
  simp only [Function.comp, UInt8.toNat_ofNat', id]
  omega
 rw [← key ha, ← key hb, h2]
theorem seq2_self {a b : List Int} (h : a = b) : seq2 (bytesOf a) (bytesOf b) = true := by subst h; simp [seq2]
theorem seq2_true {a b : ByteArray} : seq2 a b = true ↔ a = b := by
 have e : ∀ s : ByteArray, s.toList = s.data.toList := fun s => ByteArray.toList_eq s
 simp only [seq2, e, beq_iff_eq]
 constructor
 ·intro h; cases a; cases b; simp only at h; congr; exact Array.toList_inj.1 h
 ·intro h; rw [h]
inductive PlainT : List TV → List TV → Prop
 | nil : PlainT [] []
 | int {k : IntKind} {a b : Int} {r s : List TV} : a = b → PlainT r s → PlainT (.c (.int k a) :: r) (.c (.int k b) :: s)
 | lit {a b : Bool} {r s : List TV} : a = b → PlainT r s → PlainT (.c (.lit a) :: r) (.c (.bool b) :: s)
 | bool {a b : Bool} {r s : List TV} : a = b → PlainT r s → PlainT (.c (.bool a) :: r) (.c (.bool b) :: s)
 | arr {k : IntKind} {n : Nat} {a b : List Int} {r s : List TV} : a = b → PlainT r s → PlainT (.g [.ints k n a] :: r) (.g [.ints k n b] :: s)
theorem PlainT.res {its : List Item} {d : Nat} : ∀ {r s : List TV}, PlainT r s → ResT its d r s := by
 intro r s h
 induction h with
 | nil => trivial
 | int e _ ih => subst e; exact ⟨Or.inl ⟨fun _ => rfl, fun _ => rfl, fun _ _ h => h⟩, ih⟩
 | lit e _ ih => subst e; exact ⟨Or.inl ⟨fun _ => rfl, fun _ => rfl, fun _ _ h => h⟩, ih⟩
 | bool e _ ih => subst e; exact ⟨Or.inl ⟨fun _ => rfl, fun _ => rfl, fun _ _ h => h⟩, ih⟩
 | arr e _ ih => subst e; exact ⟨⟨⟨rfl, rfl, rfl⟩, trivial⟩, ih⟩
section
variable {d : Nat} {σ σ' : Mem} {K : AV → Mem → Prop}
theorem res_plain {av av' : AV} (h : ResV [] d av av') (hK : K av' σ) : Res d 0 σ K av σ' :=
 ⟨[], av', Nat.le_refl _, fun it h => by simp at h, pairwise_nil, h, hK⟩
theorem res_bool {a b : Bool} (e : a = b) (hK : K (.one (.bool b)) σ) : Res d 0 σ K (.one (.bool a)) σ' := by
 subst e; exact res_plain (av' := .one (.bool a)) (Or.inl ⟨fun _ => rfl, fun _ => rfl, fun _ _ h => h⟩) hK
theorem res_lit {a b : Bool} (e : a = b) (hK : K (.one (.bool b)) σ) : Res d 0 σ K (.one (.lit a)) σ' := by
 subst e; exact res_plain (av' := .one (.bool a)) (Or.inl ⟨fun _ => rfl, fun _ => rfl, fun _ _ h => h⟩) hK
theorem res_arr {k : IntKind} {n : Nat} {a b : List Int} (e : a = b) (hK : K (.agg [.ints k n b]) σ) : Res d 0 σ K (.agg [.ints k n a]) σ' := by
 subst e; exact res_plain (av' := .agg [.ints k n a]) ⟨⟨rfl, rfl, rfl⟩, trivial⟩ hK
theorem res_vec {m : Nat} {k : IntKind} {l l' : List Int} (hf : Mem.find σ' m = some (.vec [.ints k l])) (e : l = l') (hK : K (.one (.vec d)) (Mem.ins d (.vec [.ints k l']) σ)) : Res d 1 σ K (.one (.vec m)) σ' := by
 subst e
 exact ⟨[.vec m [.ints k l]], .one (.vec d), Nat.le_refl _, fun it h => by simp at h; subst h; exact ⟨hf, rfl⟩, pairwise_one, Or.inr ⟨0, _, rfl, rfl, rfl⟩, hK⟩
theorem res_tvec {m : Nat} {k : IntKind} {l l' : List Int} {r s : List TV} (hf : Mem.find σ' m = some (.vec [.ints k l])) (hr : PlainT r s) (e : l = l') (hK : K (.tup (.c (.vec d) :: s)) (Mem.ins d (.vec [.ints k l']) σ)) : Res d 1 σ K (.tup (.c (.vec m) :: r)) σ' := by
 subst e
 exact ⟨[.vec m [.ints k l]], .tup (.c (.vec d) :: s), Nat.le_refl _, fun it h => by simp at h; subst h; exact ⟨hf, rfl⟩, pairwise_one, ⟨Or.inr ⟨0, _, rfl, rfl, rfl⟩, hr.res⟩, hK⟩
end
theorem room1 {n : Nat} (h : n ≤ 140737488421888) : Room n 1 := ⟨by omega⟩
theorem lsub_drop {α : Type} (l : List α) (i : Nat) : lsub l i (l.length - i) = l.drop i := by simp [lsub, List.take_of_length_le]
theorem lsub_take {α : Type} (l : List α) (n : Nat) : lsub l 0 n = l.take n := by simp [lsub]
def tab {α : Type} (n : Nat) (g : Nat → α) : List α := (List.range n).map g
theorem tab_len {α : Type} (n : Nat) (g : Nat → α) : (tab n g).length = n := by simp [tab]
theorem tab_get? {α : Type} (n : Nat) (g : Nat → α) (i : Nat) : (tab n g)[i]? = if i < n then some (g i) else none := by
 simp only [tab, List.getElem?_map, List.getElem?_range]
 by_cases h : i < n
 ·simp [h, List.getElem?_range]
 ·simp [h]
theorem tab_ext {α : Type} {n : Nat} {g h : Nat → α} (e : ∀ i, i < n → g i = h i) : tab n g = tab n h := by
 refine List.map_congr_left fun i hi => e i (by simpa using hi)
theorem list_ext {α : Type} {a b : List α} (hl : a.length = b.length) (h : ∀ i, i < a.length → a[i]? = b[i]?) : a = b := by
 refine List.ext_getElem? fun i => ?_
 by_cases hi : i < a.length
 ·exact h i hi
 ·rw [List.getElem?_eq_none (by omega), List.getElem?_eq_none (by omega)]
theorem tab_lget {n i : Nat} (g : Nat → Int) (h : i < n) : lget (tab n g) i = g i := by
 simp [lget, List.getD, tab_get?, h]
theorem tab_set {α : Type} (n i : Nat) (g : Nat → α) (v : α) : (tab n g).set i v = tab n (fun j => if j = i then v else g j) := by
 refine list_ext (by simp [tab_len]) fun j hj => ?_
 simp only [List.length_set, tab_len] at hj
 rw [List.getElem?_set, tab_get?, tab_get?, tab_len]
 by_cases e : i = j
 ·subst e; simp [hj]
 ·simp [e, hj, Ne.symm e]
theorem tab_lset (n i : Nat) (g : Nat → Int) (v : Int) : lset (tab n g) i v = tab n (fun j => if j = i then v else g j) := tab_set n i g v
theorem lzeros_tab (n : Nat) : lzeros n = tab n (fun _ => 0) := by simp [lzeros, tab, List.map_const']
theorem eq_tab {l : List Int} {n : Nat} (h : l.length = n) : l = tab n (lget l) := by
 subst h
 refine list_ext (by simp [tab_len]) fun j hj => ?_
 rw [tab_get?, if_pos hj]
 simp [lget, List.getD, hj]
theorem tab_succ {α : Type} (n : Nat) (g : Nat → α) : tab (n + 1) g = tab n g ++ [g n] := by simp [tab, List.range_succ]
theorem tab_zero {α : Type} (g : Nat → α) : tab 0 g = [] := rfl
theorem tab_step {α : Type} {n i : Nat} {F G : Nat → α} {v : α} (hv : v = F i) : tab n (fun j => if j = i then v else if j < i then F j else G j) = tab n (fun j => if j < i + 1 then F j else G j) := by
 subst hv
 refine tab_ext fun j hj => ?_
 by_cases e : j = i
 ·subst e; simp
 ·by_cases q : j < i
  ·simp [e, q, show j < i + 1 by omega]
  ·simp [e, q, show ¬ j < i + 1 by omega]
theorem tab_done {α : Type} {n : Nat} {F G : Nat → α} : tab n (fun j => if j < n then F j else G j) = tab n F := tab_ext fun j hj => by simp [hj]
theorem tab_start {α : Type} {n : Nat} {F G : Nat → α} : tab n (fun j => if j < 0 then F j else G j) = tab n G := tab_ext fun j hj => by simp
def upto {α : Type} (n i : Nat) (F G : Nat → α) : List α := tab n fun j => if j < i then F j else G j
theorem upto_zero {α : Type} {n : Nat} {F G : Nat → α} : upto n 0 F G = tab n G := tab_start
theorem upto_done {α : Type} {n : Nat} {F G : Nat → α} : upto n n F G = tab n F := tab_done
theorem upto_len {α : Type} {n i : Nat} {F G : Nat → α} : (upto n i F G).length = n := tab_len _ _
theorem upto_lo {n i j : Nat} {F G : Nat → Int} (h : j < i) (hi : i ≤ n) : lget (upto n i F G) j = F j := by rw [upto, tab_lget _ (by omega), if_pos h]
theorem upto_hi {n i j : Nat} {F G : Nat → Int} (h : i ≤ j) (hj : j < n) : lget (upto n i F G) j = G j := by rw [upto, tab_lget _ hj, if_neg (by omega)]
theorem upto_lset {n i : Nat} {F G : Nat → Int} {v : Int} (hv : v = F i) : lset (upto n i F G) i v = upto n (i + 1) F G := by rw [upto, tab_lset, tab_step hv]; rfl
theorem InB_iff {i : Int} {n : Nat} : InB i n ↔ 0 ≤ i ∧ i < n := ⟨fun h => ⟨h.lo, h.hi⟩, fun h => ⟨h.1, h.2⟩⟩
theorem Low_iff {a b : Nat} : Low a b ↔ a < b := ⟨fun h => h.lt, fun h => ⟨h⟩⟩
theorem Fits_iff {a b : Nat} : Fits a b ↔ a ≤ b := ⟨fun h => h.le, fun h => ⟨h⟩⟩
theorem NonNeg_iff {i : Int} : NonNeg i ↔ 0 ≤ i := ⟨fun h => h.le, fun h => ⟨h⟩⟩
theorem NeZ_iff {i : Int} : NeZ i ↔ i ≠ 0 := ⟨fun h => h.ne, fun h => ⟨h⟩⟩
theorem Mk_iff {a b : Int} {z : Nat} : Mk a b z ↔ 0 ≤ a ∧ a ≤ b ∧ b * z ≤ 281474976710656 ∧ b ≤ 9223372036854775807 := ⟨fun h => ⟨h.lo, h.le, h.hi, h.c63⟩, fun h => ⟨h.1, h.2.1, h.2.2.1, h.2.2.2⟩⟩
theorem nat_cast (n : Nat) : nat (n : Int) = n := rfl
theorem nadd_def (a b : Nat) : nadd a b = a + b := rfl
theorem nsub_def (a b : Nat) : nsub a b = a - b := rfl
theorem nmin_def (a b : Nat) : nmin a b = min a b := rfl
theorem ofNat_def (a : Nat) : ofNat a = (a : Int) := rfl
theorem llen_def {α : Type} (l : List α) : llen l = l.length := rfl
theorem lcat_def {α : Type} (a b : List α) : lcat a b = a ++ b := rfl
theorem add1_i64 {a : Nat} (h : a < 9223372036854775807) : add .i64 (a : Int) 1 = ((a + 1 : Nat) : Int) := by
 rw [add_i64 (by omega) (by omega)]; omega
theorem addN_i64 {a b : Nat} (h : a + b < 9223372036854775808) : add .i64 (a : Int) (b : Int) = ((a + b : Nat) : Int) := by
 rw [add_i64 (by omega) (by omega)]; omega
theorem mulN_i64 {a b : Nat} (h : a * b < 9223372036854775808) : mul .i64 (a : Int) (b : Int) = ((a * b : Nat) : Int) := by
 rw [mul_i64 (by have := Int.natCast_nonneg (a * b); rw [Int.natCast_mul] at this; omega) (by rw [← Int.natCast_mul]; omega)]; simp
theorem subN_i64 {a b : Nat} (h : b ≤ a) (ha : a < 9223372036854775808) : sub .i64 (a : Int) (b : Int) = ((a - b : Nat) : Int) := by
 rw [sub_i64 (by omega) (by omega)]; omega
theorem remN {a b : Nat} : rem (a : Int) (b : Int) = ((a % b : Nat) : Int) := by
 simp only [rem]; exact Int.ofNat_tmod a b
theorem quoN_i64 {a b : Nat} (h : a < 9223372036854775808) : quo .i64 (a : Int) (b : Int) = ((a / b : Nat) : Int) := by
 have e : (a : Int).tdiv (b : Int) = ((a / b : Nat) : Int) := Int.ofNat_tdiv a b
 have h2 : a / b ≤ a := Nat.div_le_self a b
 unfold quo
 rw [e]
 generalize a / b = q at h2
 exact conv_i64 (by omega) (by omega)
theorem loop_up {S : Type} (L : Nat → Int → S → Prop) (n : Nat) (st : Nat → S) (hs : ∀ f i, i < n → L f ((i + 1 : Nat) : Int) (st (i + 1)) → L (f + 1) (i : Int) (st i)) (he : ∀ f, L (f + 1) (n : Int) (st n)) :
  ∀ i, i ≤ n → ∀ m, L (n - i + 1 + m) (i : Int) (st i) := by
 intro i hi m
 induction hk : n - i generalizing i with
 | zero =>
  obtain rfl : i = n := by omega
  rw [show 0 + 1 + m = m + 1 by omega]; exact he m
 | succ k ih =>
  rw [show k + 1 + 1 + m = (k + 1 + m) + 1 by omega]
  exact hs _ i (by omega) (ih (i + 1) (by omega) (by omega))
theorem loop_n {S : Type} (L : Nat → Int → S → Prop) (n : Nat) (st : Nat → S) (c f0 : Nat) (hs : ∀ g i, i < n → L g ((i + 1 : Nat) : Int) (st (i + 1)) → L (g + c) (i : Int) (st i)) (he : L f0 (n : Int) (st n)) :
  ∀ i, i ≤ n → L (f0 + c * (n - i)) (i : Int) (st i) := by
 intro i hi
 induction hk : n - i generalizing i with
 | zero =>
  obtain rfl : i = n := by omega
  exact he
 | succ k ih =>
  rw [Nat.mul_succ, ← Nat.add_assoc]
  exact hs _ i (by omega) (ih (i + 1) (by omega) (by omega))
theorem loop_from {S : Type} (L : Nat → Int → S → Prop) (lo n : Nat) (st : Nat → S) (c f0 : Nat) (hs : ∀ g i, lo ≤ i → i < n → L g ((i + 1 : Nat) : Int) (st (i + 1)) → L (g + c) (i : Int) (st i)) (he : L f0 (n : Int) (st n)) :
  ∀ i, lo ≤ i → i ≤ n → L (f0 + c * (n - i)) (i : Int) (st i) := by
 intro i hl hi
 induction hk : n - i generalizing i with
 | zero =>
  obtain rfl : i = n := by omega
  exact he
 | succ k ih =>
  rw [Nat.mul_succ, ← Nat.add_assoc]
  exact hs _ i hl (by omega) (ih (i + 1) (by omega) (by omega) (by omega))
theorem loop_ex {S : Type} (L : Nat → Int → S → Prop) (n : Nat) (st : Nat → S) (hs : ∀ g i, i < n → L g ((i + 1 : Nat) : Int) (st (i + 1)) → ∃ g', L g' (i : Int) (st i)) (he : ∃ g, L g (n : Int) (st n)) :
  ∀ i, i ≤ n → ∃ g, L g (i : Int) (st i) := by
 intro i hi
 induction hk : n - i generalizing i with
 | zero =>
  obtain rfl : i = n := by omega
  exact he
 | succ k ih =>
  obtain ⟨g, hg⟩ := ih (i + 1) (by omega) (by omega)
  exact hs g i (by omega) hg
theorem loop_exfrom {S : Type} (L : Nat → Int → S → Prop) (lo n : Nat) (st : Nat → S) (hs : ∀ g i, lo ≤ i → i < n → L g ((i + 1 : Nat) : Int) (st (i + 1)) → ∃ g', L g' (i : Int) (st i)) (he : ∃ g, L g (n : Int) (st n)) :
  ∀ i, lo ≤ i → i ≤ n → ∃ g, L g (i : Int) (st i) := by
 intro i hl hi
 induction hk : n - i generalizing i with
 | zero =>
  obtain rfl : i = n := by omega
  exact he
 | succ k ih =>
  obtain ⟨g, hg⟩ := ih (i + 1) (by omega) (by omega) (by omega)
  exact hs g i hl (by omega) hg
theorem loop_exby {S : Type} (k : Nat) (L : Nat → Int → S → Prop) (n : Nat) (st : Nat → S) (hs : ∀ g i, i < n → L g ((k * (i + 1) : Nat) : Int) (st (i + 1)) → ∃ g', L g' ((k * i : Nat) : Int) (st i)) (he : ∃ g, L g ((k * n : Nat) : Int) (st n)) :
  ∀ i, i ≤ n → ∃ g, L g ((k * i : Nat) : Int) (st i) := fun i hi =>
 loop_ex (fun f (i : Int) s => L f ((k * i.toNat : Nat) : Int) s) n st (fun f i hi h => hs f i hi h) he i hi
end Go.Sx
namespace Go.Hsh
open Go Go.Sx
def rootsL : List Int := [1116352408, 1899447441, 3049323471, 3921009573, 961987163, 1508970993, 2453635748, 2870763221, 3624381080, 310598401, 607225278, 1426881987, 1925078388, 2162078206, 2614888103, 3248222580, 3835390401, 4022224774, 264347078, 604807628, 770255983, 1249150122, 1555081692, 1996064986, 2554220882, 2821834349, 2952996808, 3210313671, 3336571891, 3584528711, 113926993, 338241895, 666307205, 773529912, 1294757372, 1396182291, 1695183700, 1986661051, 2177026350, 2456956037, 2730485921, 2820302411, 3259730800, 3345764771, 3516065817, 3600352804, 4094571909, 275423344, 430227734, 506948616, 659060556, 883997877, 958139571, 1322822218, 1537002063, 1747873779, 1955562222, 2024104815, 2227730452, 2361852424, 2428436474, 2756734187, 3204031479, 3329325298]
def firstL : List Int := [1779033703, 3144134277, 1013904242, 2773480762, 1359893119, 2600822924, 528734635, 1541459225]
def rot (x n : Int) : Int := bor .u32 (shl .u32 x (32 - n)) (shr .u32 x n)
def ld (b : List Int) (t : Nat) : Int :=
 bor .u32 (bor .u32 (bor .u32 (shl .u32 (conv .u32 (lget b (4 * t))) 24) (shl .u32 (conv .u32 (lget b (4 * t + 1))) 16)) (shl .u32 (conv .u32 (lget b (4 * t + 2))) 8)) (conv .u32 (lget b (4 * t + 3)))
def sg0 (x : Int) : Int := bxor .u32 (bxor .u32 (rot x 7) (rot x 18)) (shr .u32 x 3)
def sg1 (y : Int) : Int := bxor .u32 (bxor .u32 (rot y 17) (rot y 19)) (shr .u32 y 10)
def wsN (b : List Int) : Nat → Nat → Int
 | 0, _ => 0
 | n + 1, i => if i < n then wsN b n i else if n < 16 then ld b n else
   add .u32 (add .u32 (add .u32 (sg1 (wsN b n (n - 2))) (wsN b n (n - 7))) (sg0 (wsN b n (n - 15)))) (wsN b n (n - 16))
def ws (b : List Int) (i : Nat) : Int := wsN b (i + 1) i
def s1 (e : Int) : Int := bxor .u32 (bxor .u32 (rot e 6) (rot e 11)) (rot e 25)
def s0 (a : Int) : Int := bxor .u32 (bxor .u32 (rot a 2) (rot a 13)) (rot a 22)
def ch (e f g : Int) : Int := bxor .u32 (band .u32 e f) (band .u32 (bxor .u32 4294967295 e) g)
def mj (a b c : Int) : Int := bxor .u32 (bxor .u32 (band .u32 a b) (band .u32 a c)) (band .u32 b c)
def t1 (k w : Int) (v : List Int) : Int := add .u32 (add .u32 (add .u32 (add .u32 (lget v 7) (s1 (lget v 4))) (ch (lget v 4) (lget v 5) (lget v 6))) k) w
def t2 (v : List Int) : Int := add .u32 (s0 (lget v 0)) (mj (lget v 0) (lget v 1) (lget v 2))
def rd (k w : Int) (v : List Int) : List Int := [add .u32 (t1 k w v) (t2 v), lget v 0, lget v 1, lget v 2, add .u32 (lget v 3) (t1 k w v), lget v 4, lget v 5, lget v 6]
def rds (b s : List Int) : Nat → List Int
 | 0 => s
 | n + 1 => rd (lget rootsL n) (ws b n) (rds b s n)
def blk (s b : List Int) : List Int := tab 8 fun i => add .u32 (lget s i) (lget (rds b s 64) i)
theorem wsN_stable (b : List Int) : ∀ (n m i : Nat), i < n → n ≤ m → wsN b m i = wsN b n i := by
 intro n m i hi hm
 induction m with
 | zero => omega
 | succ m ih =>
  by_cases h : n = m + 1
  ·rw [h]
  ·rw [← ih (by omega)]
   show (if i < m then wsN b m i else _) = _
   rw [if_pos (by omega)]
theorem wsN_ws (b : List Int) (n i : Nat) (h : i < n) : wsN b n i = ws b i := wsN_stable b (i + 1) n i (by omega) (by omega)
theorem ws_lo (b : List Int) {i : Nat} (h : i < 16) : ws b i = ld b i := by
 unfold ws wsN; rw [if_neg (by omega), if_pos h]
theorem ws_hi (b : List Int) {i : Nat} (h : 16 ≤ i) : ws b i = add .u32 (add .u32 (add .u32 (sg1 (ws b (i - 2))) (ws b (i - 7))) (sg0 (ws b (i - 15)))) (ws b (i - 16)) := by
 conv => lhs; unfold ws wsN
 rw [if_neg (by omega), if_neg (by omega), wsN_ws b i (i - 2) (by omega), wsN_ws b i (i - 7) (by omega), wsN_ws b i (i - 15) (by omega), wsN_ws b i (i - 16) (by omega)]
def nfill (n : Nat) : Nat := (119 - n % 64) % 64
def bitsN (n : Nat) (i : Nat) : Int := conv .u8 (shr .u64 (mul .u64 (conv .u64 (n : Int)) 8) ((56 - 8 * i : Nat) : Int))
abbrev bitsB (m : List Int) (i : Nat) : Int := bitsN m.length i
def fillOf (m : List Int) : List Int := m ++ [128] ++ List.replicate (nfill m.length) 0 ++ tab 8 (fun i => bitsB m i)
structure Sm (l : List Int) : Prop where
 le : l.length ≤ 200000000000000
structure Len8 (s : List Int) : Prop where
 e : s.length = 8
structure WOk (m k s : List Int) (p : Int) : Prop where
 hm : Bs m
 hk : k = rootsL
 hs : s.length = 8
 hp : 0 ≤ p
 le : p.toNat + 64 ≤ m.length
 lt : m.length < 4611686018427387904
end Go.Hsh
namespace Go.Sx
open Go.Hsh
def hasRoots (σ : Mem) : Prop := match Mem.find σ (gname 0) with
 | some (.view [.ints .u32 64 l]) => l = rootsL
 | _ => False
def rotS : Spec := ⟨0, false, fun _ args σ K => match args with
 | [.one (.int .u32 x), .one (.int .i64 k)] => (-32 < k ∧ k < 0) ∧ K (.one (.int .u32 (rot x (-k)))) σ
 | _ => False⟩
def hturnedS : Spec := ⟨0, false, fun _ args σ K => match args with
 | [.one (.int .u32 x), .one (.int .i64 n)] => (0 < n ∧ n < 32) ∧ K (.one (.int .u32 (rot x n))) σ
 | _ => False⟩
def firstS : Spec := ⟨0, false, fun _ args σ K => match args with
 | [] => K (.agg [.ints .u32 8 firstL]) σ
 | _ => False⟩
def thirdsS : Spec := ⟨0, false, fun _ args σ K => match args with
 | [] => K (.agg [.ints .u32 64 rootsL]) σ
 | _ => False⟩
def blockS : Spec := ⟨0, false, fun _ args σ K => match args with
 | [.agg [.ints .u32 8 s], .agg [.ints .u8 64 b]] => (hasRoots σ ∧ Len8 s) ∧ K (.agg [.ints .u32 8 (blk s b)]) σ
 | _ => False⟩
def workedS : Spec := ⟨0, false, fun _ args σ K => match args with
 | [.agg [.ints .u32 8 s], .agg [.ints .u32 64 k], x, .one (.int .i64 p)] => rdb σ x fun m => WOk m k s p ∧ K (.agg [.ints .u32 8 (blk s (lsub m (nat p) 64))]) σ
 | _ => False⟩
def paddedS : Spec := ⟨1, false, fun d args σ K => match args with
 | [x] => rdb σ x fun m => Sm m ∧ K (.one (.vec d)) (Mem.ins d (.vec [.ints .u8 (fillOf m)]) σ)
 | _ => False⟩
def gamH1 : Gam := ext (ext gam0 35 rotS) 36 hturnedS
end Go.Sx
namespace Go.Hsh
open Go Go.Sx
theorem ofInt_u32 (a : Nat) (h : a < 4294967296) : (BitVec.ofInt 32 (a : Int)).toNat = a := by
 rw [BitVec.toNat_ofInt]; omega
theorem bor_u32 {a b : Nat} (ha : a < 4294967296) (hb : b < 4294967296) : bor .u32 (a : Int) (b : Int) = ((a ||| b : Nat) : Int) := by
 have hx : a ||| b < 2 ^ 32 := Nat.or_lt_two_pow (by omega) (by omega)
 show IntKind.u32.wrap ((BitVec.ofInt 32 (a : Int) ||| BitVec.ofInt 32 (b : Int)).toNat : Int) = _
 rw [BitVec.toNat_or, ofInt_u32 a (by omega), ofInt_u32 b (by omega), IntKind.wrap_u32]
 omega
theorem shl_u32 {a n : Nat} (hn : n ≤ 32) (h : a * 2 ^ n < 4294967296) : shl .u32 (a : Int) (n : Int) = ((a * 2 ^ n : Nat) : Int) := by
 unfold shl
 have : min (n : Int).toNat IntKind.u32.bits = n := by show min ((n : Int).toNat) 32 = n; omega
 rw [this]
 have e : (a : Int) * 2 ^ n = ((a * 2 ^ n : Nat) : Int) := by simp
 rw [e, IntKind.wrap_u32]
 omega
theorem or_add {a b n : Nat} (h : b < 2 ^ n) : a * 2 ^ n ||| b = a * 2 ^ n + b := by
 rw [← Nat.shiftLeft_eq, Nat.shiftLeft_add_eq_or_of_lt h]
def word (a b c d : Nat) : Nat := ((a * 256 + b) * 256 + c) * 256 + d
theorem horner {a c : Nat} (ha : a < 16777216) (hc : c < 256) : bor .u32 (shl .u32 (a : Int) 8) (c : Int) = ((a * 256 + c : Nat) : Int) := by
 have e := shl_u32 (a := a) (n := 8) (by omega) (by omega)
 rw [show ((8 : Nat) : Int) = 8 from rfl] at e
 rw [e, bor_u32 (by omega) (by omega), show a * 2 ^ 8 ||| c = a * 2 ^ 8 + c from or_add (by omega)]
theorem ld_word {a b c d : Nat} (ha : a < 256) (hb : b < 256) (hc : c < 256) (hd : d < 256) :
  bor .u32 (bor .u32 (bor .u32 (shl .u32 (a : Int) 24) (shl .u32 (b : Int) 16)) (shl .u32 (c : Int) 8)) (d : Int) = ((word a b c d : Nat) : Int) := by
 have e1 := shl_u32 (a := a) (n := 24) (by omega) (by omega)
 have e2 := shl_u32 (a := b) (n := 16) (by omega) (by omega)
 have e3 := shl_u32 (a := c) (n := 8) (by omega) (by omega)
 rw [show ((24 : Nat) : Int) = 24 from rfl] at e1
 rw [show ((16 : Nat) : Int) = 16 from rfl] at e2
 rw [show ((8 : Nat) : Int) = 8 from rfl] at e3
 rw [e1, e2, e3, bor_u32 (by omega) (by omega), or_add (a := a) (n := 24) (b := b * 2 ^ 16) (by omega),
  bor_u32 (by omega) (by omega), show a * 2 ^ 24 + b * 2 ^ 16 = (a * 65536 + b * 256) * 2 ^ 8 by omega, show ((a * 65536 + b * 256) * 2 ^ 8 : Nat) = (a * 256 + b) * 2 ^ 16 by omega,
  or_add (a := a * 256 + b) (n := 16) (b := c * 2 ^ 8) (by omega), bor_u32 (by omega) (by omega),
  show (a * 256 + b) * 2 ^ 16 + c * 2 ^ 8 = ((a * 256 + b) * 256 + c) * 2 ^ 8 by omega, or_add (n := 8) (by omega)]
 rfl
theorem blk_len (s b : List Int) : (blk s b).length = 8 := tab_len _ _
abbrev HS := List Int × List Int × Nat
def addB (h : HS) (c : Int) : HS := (if (h.2.2 + 1) % 64 = 0 then blk h.1 (lset h.2.1 (h.2.2 % 64) c) else h.1, lset h.2.1 (h.2.2 % 64) c, h.2.2 + 1)
def addL (h : HS) (l : List Int) : HS := l.foldl addB h
def readied (h : HS) : HS := if h.2.2 < 64 then (firstL, h.2) else h
def addH (h : HS) (l : List Int) : HS := addL (readied h) l
def stA (l : List Int) : HS := addL (firstL, lzeros 64, 0) l
def hZ : HS := (lzeros 8, lzeros 64, 0)
def fillN (n : Nat) : List Int := 128 :: (List.replicate (nfill n) 0 ++ tab 8 (fun i => bitsN n i))
def digest (W : List Int) : List Int := tab 32 fun i => conv .u8 (shr .u32 (lget W (i / 4)) ((24 - 8 * (i % 4) : Nat) : Int))
def sumH (h : HS) : List Int := digest (addH h (fillN h.2.2)).1
def sha (l : List Int) : List Int := digest (stA (fillOf l)).1
theorem addL_app (h : HS) (a b : List Int) : addL h (a ++ b) = addL (addL h a) b := List.foldl_append
theorem stA_app (a b : List Int) : stA (a ++ b) = addL (stA a) b := addL_app _ _ _
theorem addL_n (h : HS) (l : List Int) : (addL h l).2.2 = h.2.2 + l.length := by
 induction l generalizing h with
 | nil => rfl
 | cons a l ih => show (addL (addB h a) l).2.2 = _; rw [ih]; simp only [addB, List.length_cons]; omega
theorem addL_T (h : HS) (l : List Int) : (addL h l).2.1.length = h.2.1.length := by
 induction l generalizing h with
 | nil => rfl
 | cons a l ih => show (addL (addB h a) l).2.1.length = _; rw [ih]; exact List.length_set
theorem addL_W (h : HS) (l : List Int) (hw : h.1.length = 8) : (addL h l).1.length = 8 := by
 induction l generalizing h with
 | nil => exact hw
 | cons a l ih =>
  show (addL (addB h a) l).1.length = _
  refine ih _ ?_
  simp only [addB]; split
  ·exact blk_len _ _
  ·exact hw
theorem stA_n (l : List Int) : (stA l).2.2 = l.length := by unfold stA; rw [addL_n]; show 0 + _ = _; omega
theorem stA_T (l : List Int) : (stA l).2.1.length = 64 := by unfold stA; rw [addL_T]; rfl
theorem stA_W (l : List Int) : (stA l).1.length = 8 := addL_W _ _ rfl
theorem lset_len (l : List Int) (i : Nat) (v : Int) : (lset l i v).length = l.length := List.length_set
theorem lput_length {l v : List Int} {i : Nat} (h : i + v.length ≤ l.length) : (lput l i v).length = l.length := by
 unfold lput; simp only [List.length_append, List.length_take, List.length_drop]; omega
theorem lput_one {l : List Int} {i : Nat} {x : Int} (h : i < l.length) : lput l i [x] = lset l i x := by
 unfold lput lset
 rw [List.set_eq_take_append_cons_drop, if_pos h]; simp
theorem lput_cons {l c : List Int} {i : Nat} {x : Int} (h : i + 1 + c.length ≤ l.length) : lput (lset l i x) (i + 1) c = lput l i (x :: c) := by
 unfold lput lset
 rw [List.take_add_one, List.take_set_of_le (Nat.le_refl i), List.getElem?_set_self (by omega), List.drop_set_of_lt (by omega)]
 simp only [Option.toList_some, List.length_cons, List.append_assoc, List.cons_append, List.nil_append]
 rw [show i + 1 + c.length = i + (c.length + 1) by omega]
theorem addL_chunk : ∀ (c : List Int) (W T : List Int) (n : Nat), T.length = 64 → n % 64 + c.length ≤ 64 → c ≠ [] →
  addL (W, T, n) c = (if (n + c.length) % 64 = 0 then blk W (lput T (n % 64) c) else W, lput T (n % 64) c, n + c.length)
 | [], _, _, _, _, _, h => absurd rfl h
 | [x], W, T, n, hT, hc, _ => by
  show addB (W, T, n) x = _
  simp only [addB, List.length_singleton]
  rw [lput_one (by omega)]
 | x :: y :: c, W, T, n, hT, hc, _ => by
  show addL (addB (W, T, n) x) (y :: c) = _
  simp only [List.length_cons] at hc
  have e : (n + 1) % 64 = n % 64 + 1 := by omega
  have e1 : addB (W, T, n) x = (W, lset T (n % 64) x, n + 1) := by
   simp only [addB]; rw [if_neg (by omega)]
  rw [e1, addL_chunk (y :: c) W (lset T (n % 64) x) (n + 1) (by rw [lset_len]; exact hT) (by simp only [List.length_cons]; omega) (by simp), e, lput_cons (by simp only [List.length_cons]; omega)]
  have e2 : n + 1 + (y :: c).length = n + (x :: y :: c).length := by simp only [List.length_cons]; omega
  simp only [e2]
theorem lput_full {T c : List Int} (h : c.length = T.length) : lput T 0 c = c := by
 unfold lput; rw [List.drop_of_length_le (by omega)]; simp
theorem stA_block {a c : List Int} (ha : a.length % 64 = 0) (hc : c.length = 64) : (stA (a ++ c)).1 = blk (stA a).1 c := by
 have hn := stA_n a
 have hT := stA_T a
 rw [stA_app]
 obtain ⟨W, T, n, hs⟩ : ∃ W T n, stA a = (W, T, n) := ⟨_, _, _, rfl⟩
 rw [hs] at hn hT
 simp only at hn hT
 subst hn
 rw [hs, addL_chunk c W T a.length hT (by omega) (by intro e; simp [e] at hc), if_pos (by omega), ha, lput_full (by omega)]
theorem addL_few : ∀ (l : List Int) (h : HS), h.2.2 + l.length < 64 → (addL h l).1 = h.1
 | [], _, _ => rfl
 | c :: l, h, hl => by
  show (addL (addB h c) l).1 = _
  simp only [List.length_cons] at hl
  rw [addL_few l (addB h c) (by simp only [addB]; omega)]
  simp only [addB]; rw [if_neg (by omega)]
theorem stA_few {l : List Int} (h : l.length < 64) : (stA l).1 = firstL := addL_few _ _ (by show 0 + l.length < 64; omega)
theorem readied_stA (l : List Int) : readied (stA l) = stA l := by
 unfold readied
 rw [stA_n]
 split
 ·rename_i h
  have := stA_few h
  rw [← this]
 ·rfl
theorem addH_stA (a b : List Int) : addH (stA a) b = stA (a ++ b) := by unfold addH; rw [readied_stA, stA_app]
theorem addH_zero (b : List Int) : addH hZ b = stA b := by
 unfold addH readied stA
 rw [if_pos (by decide)]; rfl
theorem fillOf_eq (l : List Int) : fillOf l = l ++ fillN l.length := by
 unfold fillOf fillN
 simp only [List.append_assoc, List.cons_append, List.nil_append]
theorem sumH_stA (l : List Int) : sumH (stA l) = sha l := by
 unfold sumH sha; rw [addH_stA, stA_n, fillOf_eq]
theorem fillOf_len (l : List Int) : (fillOf l).length % 64 = 0 := by
 unfold fillOf nfill; simp only [List.length_append, List.length_replicate, List.length_singleton, tab_len]; omega
theorem sha_len (l : List Int) : (sha l).length = 32 := tab_len _ _
theorem conv_u8_byte (x : Int) : 0 ≤ conv .u8 x ∧ conv .u8 x < 256 := by rw [conv_u8]; omega
theorem digest_bytes (W : List Int) : Bs (digest W) := ⟨fun x hx => by
 unfold digest tab at hx
 obtain ⟨i, _, rfl⟩ := List.mem_map.mp hx
 exact conv_u8_byte _⟩
theorem sha_bytes (l : List Int) : Bs (sha l) := digest_bytes _
theorem bits_bytes (n : Nat) : Bs (tab 8 fun i => bitsN n i) := ⟨fun x hx => by
 unfold tab at hx
 obtain ⟨i, _, rfl⟩ := List.mem_map.mp hx
 exact conv_u8_byte _⟩
theorem fillN_bytes (n : Nat) : Bs (fillN n) := .cons (by decide) (by decide) ((Bs.zeros _).app (bits_bytes n))
theorem fillOf_bytes {l : List Int} (h : Bs l) : Bs (fillOf l) := by rw [fillOf_eq]; exact h.app (fillN_bytes _)
def blks (m : List Int) : Nat → List Int
 | 0 => firstL
 | n + 1 => blk (blks m n) (lsub m (64 * n) 64)
theorem blks_stA {m : List Int} : ∀ n, 64 * n ≤ m.length → blks m n = (stA (m.take (64 * n))).1
 | 0, _ => rfl
 | n + 1, h => by
  have e : m.take (64 * (n + 1)) = m.take (64 * n) ++ lsub m (64 * n) 64 := by
   unfold lsub; rw [show 64 * (n + 1) = 64 * n + 64 by omega, List.take_add]
  rw [e, stA_block (by rw [List.length_take]; omega) (by unfold lsub; rw [List.length_take, List.length_drop]; omega), ← blks_stA n (by omega)]
  rfl
theorem blks_all {m : List Int} (h : m.length % 64 = 0) : blks m (m.length / 64) = (stA m).1 := by
 rw [blks_stA _ (by omega), List.take_of_length_le (by omega)]
theorem blks_len (m : List Int) : ∀ n, (blks m n).length = 8
 | 0 => rfl
 | _ + 1 => blk_len _ _
end Go.Hsh
namespace Go.Sx
open Go.Hsh
abbrev hAV (h : Go.Hsh.HS) : AV := .agg [.ints .u32 8 h.1, .ints .u8 64 h.2.1, .cells [.int .u64 (h.2.2 : Int)]]
structure HOk (W T : List Int) (n : Int) (more : Nat) : Prop where
 w : W.length = 8
 t : T.length = 64
 lo : 0 ≤ n
 hi : n.toNat + more ≤ 1125899906842624
end Go.Sx
namespace Go.Hsh
open Go Go.Sx
theorem hid {α : Type} (x : α) : ∃ y, y = x := ⟨x, rfl⟩
noncomputable def hide {α : Type} (x : α) : α := Classical.choose (hid x)
theorem hide_eq {α : Type} (x : α) : hide x = x := Classical.choose_spec (hid x)
noncomputable def addW : List Int → List Int → Int → List Int → List Int := hide fun W T n p => (addH (W, T, nat n) p).1
noncomputable def addT : List Int → List Int → Int → List Int → List Int := hide fun W T n p => (addH (W, T, nat n) p).2.1
noncomputable def addN : List Int → List Int → Int → List Int → Int := hide fun W T n p => ((addH (W, T, nat n) p).2.2 : Int)
noncomputable def sumL : List Int → List Int → Int → List Int := hide fun W T n => sumH (W, T, nat n)
noncomputable def shaL : List Int → List Int := hide sha
theorem addW_eq (W T : List Int) (n : Int) (p : List Int) : addW W T n p = (addH (W, T, nat n) p).1 := by unfold addW; rw [hide_eq]
theorem addT_eq (W T : List Int) (n : Int) (p : List Int) : addT W T n p = (addH (W, T, nat n) p).2.1 := by unfold addT; rw [hide_eq]
theorem addN_eq (W T : List Int) (n : Int) (p : List Int) : addN W T n p = ((addH (W, T, nat n) p).2.2 : Int) := by unfold addN; rw [hide_eq]
theorem sumL_eq (W T : List Int) (n : Int) : sumL W T n = sumH (W, T, nat n) := by unfold sumL; rw [hide_eq]
theorem shaL_eq (p : List Int) : shaL p = sha p := by unfold shaL; rw [hide_eq]
end Go.Hsh
namespace Go.Sx
open Go.Hsh
def newHS : Spec := ⟨0, false, fun _ args σ K => match args with
 | [] => K (hAV hZ) σ
 | _ => False⟩
noncomputable def addHS : Spec := ⟨0, false, fun _ args σ K => match args with
 | [.agg [.ints .u32 8 W, .ints .u8 64 T, .cells [.int .u64 n]], x] => rdb σ x fun p => (hasRoots σ ∧ HOk W T n p.length) ∧ K (.agg [.ints .u32 8 (addW W T n p), .ints .u8 64 (addT W T n p), .cells [.int .u64 (addN W T n p)]]) σ
 | _ => False⟩
noncomputable def sumHS : Spec := ⟨0, false, fun _ args σ K => match args with
 | [.agg [.ints .u32 8 W, .ints .u8 64 T, .cells [.int .u64 n]]] => (hasRoots σ ∧ HOk W T n 200) ∧ K (.agg [.ints .u8 32 (sumL W T n)]) σ
 | _ => False⟩
noncomputable def shaS : Spec := ⟨0, false, fun _ args σ K => match args with
 | [x] => rdb σ x fun p => (hasRoots σ ∧ Sm p) ∧ K (.agg [.ints .u8 32 (shaL p)]) σ
 | _ => False⟩
noncomputable def rshaS : Spec := ⟨0, false, fun _ args σ K => match args with
 | [x] => rdb σ x fun p => (Sm p ∧ Bs p) ∧ K (.agg [.ints .u8 32 (shaL p)]) σ
 | _ => False⟩
def yesR : Spec := ⟨0, false, fun _ args σ K => match args with
 | [] => hasRoots σ ∧ K (.one (.lit true)) σ
 | _ => False⟩
def gamH2 : Gam := ext (ext (ext (ext (ext (ext gamH1 31 blockS) 30 firstS) 24 newHS) 32 thirdsS) 34 workedS) 33 paddedS
noncomputable def gamH3 : Gam := ext gamH2 25 addHS
noncomputable def gamH4 : Gam := ext gamH3 26 sumHS
noncomputable def gamH5 : Gam := ext (ext gamH4 10 shaS) 28 rshaS
end Go.Sx
