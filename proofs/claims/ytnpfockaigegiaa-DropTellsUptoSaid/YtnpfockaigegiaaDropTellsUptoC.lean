import Derived.Test.YtnpfockaigegiaaDropTellsUptoB
import Derived.MapKept
import Derived.WideKeyRuns
import Derived.OpenShut
import Derived.WideShapes
import Derived.Below
import Derived.WalkKit
import Derived.ProofKit
import Derived.ChangeOld
import Derived.ChangeSlices
import Derived.SizedLaws
set_option linter.unusedSimpArgs false
set_option linter.unusedVariables false
namespace Go.Sx
open Go
section
variable {P : Program} {E : Env} {ρ : Rho} {fr : Fr} {σ : Mem} {a : Act} {w : World}
structure Elsewhere (ρ ρ' : Rho) (n : Nat) : Prop where
 ne : ∀ m, m ≠ n → ρ' m = ρ m
 b : (ρ' n).b = (ρ n).b
 o : (ρ' n).o = (ρ n).o
 a : (ρ' n).a = (ρ n).a
 len : (ρ' n).len = (ρ n).len
 cap : (ρ' n).cap = (ρ n).cap
 low : n < 200000
theorem Elsewhere.ext {ρ' : Rho} {n : Nat} (h : Elsewhere ρ ρ' n) {x : AC} {v : Value} (hx : x.elOf n = false) (hv : CRep ρ x v) : CRep ρ' x v := by
  have hz : ∀ m i, at_ ρ' m i = at_ ρ m i := fun m i => by
    by_cases e : m = n
    · subst e; simp only [at_, h.b, h.o]
    · simp only [at_, h.ne m e]
  have fl : ∀ m, (ρ' m).a = (ρ m).a ∧ (ρ' m).len = (ρ m).len ∧ (ρ' m).cap = (ρ m).cap ∧ ∀ i, (ρ' m).at i = (ρ m).at i := fun m => by
    by_cases e : m = n
    · subst e; exact ⟨h.a, h.len, h.cap, fun i => by simp only [Loc.at, h.b, h.o]⟩
    · rw [h.ne m e]; exact ⟨rfl, rfl, rfl, fun _ => rfl⟩
  have hp : ∀ k, ρ' (hname k) = ρ (hname k) := fun k => h.ne _ (by have := isHeap_le (isHeap_hname k); have := h.low; omega)
  cases x with
  | ptr m b i => simp only [CRep, hz] at hv ⊢; exact hv
  | sl m b i l c => simp only [CRep, hz] at hv ⊢; exact hv
  | clo f m b i => simp only [CRep, hz] at hv ⊢; exact hv
  | vec m => simp only [CRep, (fl m).1, (fl m).2.1, (fl m).2.2.1] at hv ⊢; exact hv
  | vsl m z i l => simp only [CRep, (fl m).1, (fl m).2.1, (fl m).2.2.1, (fl m).2.2.2] at hv ⊢; exact hv
  | vcl m z i l => simp only [CRep, (fl m).1, (fl m).2.1, (fl m).2.2.1, (fl m).2.2.2] at hv ⊢; exact hv
  | vptr m z i b j => simp only [CRep, hz, (fl m).2.1] at hv ⊢; exact hv
  | el m c i => have e : m ≠ n := by simpa [AC.elOf] using hx
                simp only [CRep, h.ne m e] at hv ⊢; exact hv
  | esl m c i o l => have e : m ≠ n := by simpa [AC.elOf] using hx
                     simp only [CRep, h.ne m e] at hv ⊢; exact hv
  | eptr m c i o => have e : m ≠ n := by simpa [AC.elOf] using hx
                    simp only [CRep, h.ne m e] at hv ⊢; exact hv
  | hs k j off l => simp only [CRep, hp] at hv ⊢; exact hv
  | hp k j i => simp only [CRep, hp] at hv ⊢; exact hv
  | map m =>
    have e1 : (ρ' m).1 = (ρ m).1 := by
      by_cases e : m = n
      · subst e; exact h.b
      · rw [h.ne m e]
    simp only [CRep, e1] at hv ⊢; exact hv
  | int k n => exact hv
  | lit b => exact hv
  | bool b => exact hv
  | str s => exact hv
  | con v => exact hv
  | any => exact hv
theorem flat_elOf {d : Nat} : ∀ {s : List Seg}, s.any (Seg.elOf d) = false → ∀ x ∈ flat s, x.elOf d = false
 | [], _, x, hx => by simp [flat] at hx
 | g :: r, h, x, hx => by
  simp only [List.any_cons, Bool.or_eq_false_iff] at h
  simp only [flat, List.mem_append] at hx
  rcases hx with hx | hx
  ·cases g with
   | cells cs =>
    have h1 := h.1
    simp only [Seg.elOf, List.any_eq_false] at h1
    simpa using h1 x hx
   | ints k n l => simp only [Seg.flat, List.mem_map] at hx; obtain ⟨y, _, rfl⟩ := hx; rfl
   | bools n l => simp only [Seg.flat, List.mem_map] at hx; obtain ⟨y, _, rfl⟩ := hx; rfl
  ·exact flat_elOf h.2 x hx
theorem Elsewhere.frep {ρ' : Rho} {n : Nat} (h : Elsewhere ρ ρ' n) {s : List Seg} {c : List Value} (hs : s.any (Seg.elOf n) = false) (hf : FRep ρ (flat s) c) : FRep ρ' (flat s) c :=
 ⟨hf.1, fun j x v hx hv => h.ext (flat_elOf hs x (List.mem_of_getElem? hx)) (hf.2 j x v hx hv)⟩
theorem Elsewhere.srep {ρ' : Rho} {n : Nat} (h : Elsewhere ρ ρ' n) {x : AV} {v : Value} (hx : x.elOf n = false) (hv : SRep ρ x v) : SRep ρ' x v := by
 cases x with
 | one a => exact h.ext hx hv
 | agg s =>
  obtain ⟨ho, cs, e, hf⟩ := hv
  exact ⟨ho, cs, e, h.frep hx hf⟩
 | tup vs =>
  obtain ⟨us, e, hl, hall⟩ := hv
  refine ⟨us, e, hl, fun j t u ht hu => ?_⟩
  have h1 := hall j t u ht hu
  have h2 : t.elOf n = false := by
   simp only [AV.elOf, List.any_eq_false] at hx
   simpa using hx t (List.mem_of_getElem? ht)
  cases t with
  | c a => exact h.ext h2 h1
  | g s => obtain ⟨ho, cs, e, hf⟩ := h1; exact ⟨ho, cs, e, h.frep h2 hf⟩
 | undef => trivial
theorem Elsewhere.lnk {ρ' : Rho} {n : Nat} (h : Elsewhere ρ ρ' n) {L : Loc} {cs : List Col} (hl : Lnk ρ L cs) : Lnk ρ' L cs := fun c k l hc i d hd => h.ext rfl (hl c k l hc i d hd)
theorem rowVal_gt {L L' : Loc} {c : Nat} (h : ∀ c' i, c' ≠ c → L'.el c' i = L.el c' i) : ∀ {cs : List Col} {c0 i t : Nat}, c < c0 → rowVal L' cs c0 i t = rowVal L cs c0 i t
 | [], _, _, _, _ => rfl
 | x :: r, c0, i, t, hc => by
  simp only [rowVal]
  split
  ·cases x <;> simp [colVal, h c0 i (by omega)]
  ·exact rowVal_gt h (by omega)
theorem rowVal_chg {L L' : Loc} : ∀ {cs : List Col} {b c0 c : Nat} {col : Col}, colAt cs b c0 = some (c, col) → (∀ c' i, c' ≠ c → L'.el c' i = L.el c' i) → ∀ i t, ¬ (b ≤ t ∧ t < b + col.kd.width) → rowVal L' cs c0 i t = rowVal L cs c0 i t
 | [], _, _, _, _, h, _ => by simp [colAt] at h
 | x :: r, 0, c0, c, col, h, he => fun i t ht => by
  simp only [colAt, Option.some.injEq, Prod.mk.injEq] at h
  obtain ⟨rfl, rfl⟩ := h
  simp only [rowVal]
  rw [if_neg (by omega), if_neg (by omega)]
  exact rowVal_gt he (by omega)
 | x :: r, b + 1, c0, c, col, h, he => fun i t ht => by
  simp only [colAt] at h
  split at h
  ·rename_i hle
   have hle' : x.kd.width ≤ b + 1 := Nat.le_of_ble_eq_true hle
   have h1 := (colAt_sound (L := L) h).1
   simp only [rowVal]
   split
   ·cases x <;> simp [colVal, he c0 i (by omega)]
   ·rename_i hx
    exact rowVal_chg h he i (t - x.kd.width) (by omega)
  ·cases h
theorem storeS_sound {T : TypeId} {n z i b j : Nat} {x : AV} {v v1 : Value} {K : Mem → Prop} (h : storeS P σ fr T n z i b j x K) (hR : Rep E ρ fr σ a w) (hx : SRep ρ x v) (hp : SRep ρ (.one (.vptr n z i b j)) v1) :
  ∃ A w' σ' bk ρ', v1 = .pointer (some A) ∧ (storeVar T A v).run P w = .ok () w' ∧ w'.heap.size = w.heap.size ∧ Rep E ρ' fr σ' a w' ∧ K σ' ∧ (∀ k, k ≠ (ρ n).1 → w'.heap[k]? = w.heap[k]?) ∧ (∀ m, m ≠ n → Mem.find σ' m = Mem.find σ m) ∧ Mem.find σ n = some bk ∧ Out ρ n bk (ρ n).1 ∧ (∀ m, m ≠ n → ρ' m = ρ m) := by
 obtain ⟨rfl, hi⟩ := hp
 unfold storeS at h
 split at h <;> try exact h.elim
 rename_i cs hn
 split at h <;> try exact h.elim
 rename_i hg
 simp only [Bool.and_eq_true, Bool.not_eq_true'] at hg
 obtain ⟨⟨⟨hz, hlt⟩, hfe⟩, hme⟩ := hg
 have hlt : n < 200000 := Nat.lt_of_lt_of_le (Nat.lt_succ_self _) (Nat.le_of_ble_eq_true hlt)
 have hz' : z = cwidth cs := beq_nat hz
 subst hz'
 split at h <;> try exact h.elim
 rename_i hag hsz
 split at h <;> try exact h.elim
 rename_i c k l k' q o m hc
 split at h <;> try exact h.elim
 split at h <;> try exact h.elim
 rename_i hk
 subst hk
 obtain ⟨A, cap, rfl, hrest⟩ := hx
 have hcr : CRep ρ (.hs k' q o m) (.slice A m cap) := ⟨A, cap, rfl, hrest⟩
 obtain ⟨hV, hW, hLn⟩ := hR.mem n _ hn
 have hcap : (ρ n).cap ≠ 0 := by have := hV.cap; omega
 obtain ⟨_, q2, q3, q4⟩ := colAt_sound (L := ρ n) hc
 have q2 : cs[c]? = some (.hss k' l) := by simpa using q2
 have hclt : c < cs.length := (List.getElem?_eq_some_iff.1 q2).1
 have hl : l.length = (ρ n).len := hV.ok _ (List.mem_of_getElem? q2)
 obtain ⟨ha, C, T0, fz, hh, hcz, hfz⟩ := hW hcap
 have w1 : (Col.hss k' l).kd.width = 1 := rfl
 have hbw : b + 1 ≤ cwidth cs := by have := q3; rw [w1] at this; exact this
 have hfit : i * cwidth cs + b + 1 ≤ (ρ n).len * cwidth cs := by
  have : (i + 1) * cwidth cs ≤ (ρ n).len * cwidth cs := Nat.mul_le_mul_right _ hi
  rw [Nat.add_mul, Nat.one_mul] at this; omega
 have hle : (ρ n).len * cwidth cs ≤ (ρ n).cap * cwidth cs := Nat.mul_le_mul_right _ hV.cap
 obtain ⟨w', cur', e1, e2, e3, e4, e5, e6, e7, e8, e9⟩ := store_cells P (g := (ρ n).1) (o := (ρ n).2 + (i * cwidth cs + b)) [.slice A m cap] 0 C.toList w hh (by simpa using hfz) (by simp; omega) (by simp [Value.oneCell'])
 let L' : Loc := { ρ n with el := fun c' i' => if c' = c ∧ i' = i then ⟨A, m, cap⟩ else (ρ n).el c' i' }
 let ρ' := upd ρ n L'
 have hL' : ρ' n = L' := upd_eq _ _ _
 have hel : ∀ c' i', c' ≠ c → L'.el c' i' = (ρ n).el c' i' := fun c' i' hne => by
  show (if c' = c ∧ i' = i then _ else _) = _
  rw [if_neg (fun q => hne q.1)]
 have hE : Elsewhere ρ ρ' n := ⟨fun m hm => upd_ne hm, by rw [hL'], by rw [hL'], by rw [hL'], by rw [hL'], by rw [hL'], hlt⟩
 let col' : Col := .hss k' (hset l i ⟨q, o, m⟩)
 let cs' := setCol cs c col'
 have hkd : kdsOf cs' = kdsOf cs := setCol_kds q2 rfl
 have hwd : cwidth cs' = cwidth cs := by simp [cwidth, hkd]
 have getc : ∀ c', cs'[c']? = if c' = c then some col' else cs[c']? := fun c' => setCol_get c' hclt
 have inn : ∀ k, Inner L' cs' k → Inner (ρ n) cs k := by
  rintro k0 ⟨c', kk, ll, i', l', A', g1, g2, g3, g4, g5⟩
  rw [getc] at g1
  split at g1
  ·simp [col'] at g1
  ·rename_i hne
   rw [hel c' i' hne] at g4
   exact ⟨c', kk, ll, i', l', A', g1, g2, g3, g4, g5⟩
 have hinn : ∀ k, Inner (ρ n) cs k → w'.heap[k]? = w.heap[k]? := fun k hk => e3 k fun e => hR.sep.2 n _ (ρ n).1 hn ⟨hcap, rfl⟩ (by rw [← e]; exact hk)
 have hB : BlkRep ρ' w' n (.vec cs') := by
  refine ⟨?_, ?_, ?_⟩
  ·rw [hL']
   refine ⟨fun e => by rw [e] at hwd; have := hV.wid; rw [← hwd] at this; exact absurd this (by decide), by rw [hwd]; exact hV.wid, fun y hy => ?_, hV.cap, hV.adr, fun i' hi' t ht => ?_, fun c' kk ll hcc i' l' hl' => ?_⟩
   ·rcases setCol_mem hclt hy with rfl | hy
    ·show (hset l i _).length = _
     simpa [hset] using hl
    ·exact hV.ok y hy
   ·rw [hwd] at ht ⊢
    have hlt2 : i' * cwidth cs + t < (ρ n).len * cwidth cs := cell_lt_len hi' ht
    have h9 := e9 ((ρ n).2 + (i' * cwidth cs + t))
    have old := hV.cells i' hi' t ht
    simp only [World.cell?, Loc.at, hh, Option.isSome_none, Bool.false_eq_true, if_false] at old
    show w'.cell? ⟨(ρ n).1, (ρ n).2 + (i' * cwidth cs + t), none⟩ = _
    simp only [World.cell?, e2, Option.isSome_none, Bool.false_eq_true, if_false]
    rw [List.getElem?_toArray, h9]
    have hs := rowVal_set (L := L') (col' := col') hc rfl i' t
    rw [Nat.sub_zero] at hs
    rw [hs, w1]
    have hr := flat_rng (z := cwidth cs) (i := i) (i' := i') (t := t) (b := b) (m := 1) ht hbw
    by_cases hb : b ≤ t ∧ t < b + 1
    ·rw [if_pos hb]
     obtain rfl : t = b := by omega
     rw [Nat.sub_self]
     by_cases hii : i' = i
     ·subst hii
      rw [if_pos (by simp)]
      show _ = some (Value.slice (L'.el c i').a (L'.el c i').len (L'.el c i').cap)
      have : L'.el c i' = ⟨A, m, cap⟩ := if_pos ⟨rfl, rfl⟩
      rw [this]
      simp
     ·rw [if_neg (fun q => by have := hr.1 (by simp at q; omega); exact hii this.1)]
      show _ = some (Value.slice (L'.el c i').a (L'.el c i').len (L'.el c i').cap)
      have : L'.el c i' = (ρ n).el c i' := if_neg (fun q => hii q.2)
      rw [this]
      have o4 := q4 i' 0 (by rw [w1]; omega)
      rw [Nat.add_zero] at o4
      rw [o4] at old
      simpa [colVal] using old
    ·rw [if_neg hb, if_neg (fun q => hb (by have := hr.1 (by simp at q; omega); omega))]
     rw [rowVal_chg hc hel i' t (by rw [w1]; exact hb)]
     simpa using old
   ·rw [getc] at hcc
    split at hcc
    ·simp [col'] at hcc
    ·rename_i hne
     rw [hel c' i' hne]
     obtain ⟨p1, p2, p3, p4⟩ := hV.inner c' kk ll hcc i' l' hl'
     refine ⟨p1, p2, p3, fun j x hx A' hA' => ?_⟩
     have hb : (A'.add j).block = A'.block := by unfold Addr.add; split <;> rfl
     have := hinn A'.block ⟨c', kk, ll, i', l', A', hcc, hl', fun e => by subst e; simp at hx, hA', rfl⟩
     exact (cell_same (a := A'.add j) (by rw [hb]; exact this)).trans (p4 j x hx A' hA')
  ·rw [hL', hwd]
   exact fun _ => ⟨ha, cur'.toArray, T0, fz, e2, by simp [e8]; omega, by simpa [e8] using hfz⟩
  ·rw [hL']
   intro c' kk ll hcc i' d hd
   rw [getc] at hcc
   split at hcc
   ·rename_i e
    subst e
    simp only [col', Option.some.injEq, Col.hss.injEq] at hcc
    obtain ⟨rfl, rfl⟩ := hcc
    rw [hset, List.getElem?_set] at hd
    by_cases hii : i = i'
    ·subst hii
     rw [if_pos rfl, if_pos (by omega)] at hd
     cases hd
     have : L'.el c' i = ⟨A, m, cap⟩ := if_pos ⟨rfl, rfl⟩
     rw [this]
     exact hE.ext rfl hcr
    ·rw [if_neg hii] at hd
     have : L'.el c' i' = (ρ n).el c' i' := if_neg (fun q => hii q.2.symm)
     rw [this]
     exact hE.ext rfl (hLn c' k' l q2 i' d hd)
   ·rename_i hne
    rw [hel c' i' hne]
    exact hE.ext rfl (hLn c' kk ll hcc i' d hd)
 have un : ∀ {m c}, Mem.find (σ.put n (.vec cs')) m = some c → (m = n ∧ c = .vec cs') ∨ (m ≠ n ∧ Mem.find σ m = some c) := by
  intro m c hm
  rw [find_put] at hm
  split at hm
  ·rename_i e; rw [hn] at hm; simp only [Option.map_some, Option.some.injEq] at hm; exact Or.inl ⟨e, hm.symm⟩
  ·rename_i e; exact Or.inr ⟨e, hm⟩
 have hne : ∀ m, m ≠ n → ρ' m = ρ m := fun m hm => upd_ne hm
 have outn : ∀ k, Out ρ' n (.vec cs') k → Out ρ n (.vec cs) k := fun k hk => by
  simp only [Out, hL'] at hk ⊢; exact hk
 have footn : ∀ k, Foot ρ' n (.vec cs') k → Foot ρ n (.vec cs) k := fun k hk => by
  simp only [Foot, hL'] at hk ⊢
  rcases hk with hk | hk
  ·exact Or.inl hk
  ·exact Or.inr (inn k hk)
 have memEl' : ∀ {m d}, Mem.find σ m = some d → d.segs.any (Seg.elOf n) = false := fun {m d} hm => by
  simp only [memEl, List.any_eq_false] at hme
  simpa using hme _ (find_mem hm)
 have hRep : Rep E ρ' fr (σ.put n (.vec cs')) a w' := by
  refine ⟨⟨hR.fr.1, fun t u hu => ?_⟩, hR.df, fun m c hm => ?_, ⟨fun m q c d x hm hq hmq hO hF => ?_, fun m c x hm hO hI => ?_⟩, fun m hm hh => by rw [hne m (by omega)]; exact hR.fix m hm hh, fun m hm => by rw [hne m (by have := isHeap_le hm; omega)]; exact hR.ext m hm, fun m c x hm hO => ?_, ?_⟩
  ·refine hE.srep ?_ (hR.fr.2 t u hu)
   have ht : t < fr.length := by rw [hR.fr.1]; exact (Array.getElem?_eq_some_iff.1 hu).1
   simp only [frEl, List.any_eq_false] at hfe
   simpa using hfe _ (Fr.get_mem ht)
  ·rcases un hm with ⟨rfl, rfl⟩ | ⟨hmn, hm'⟩
   ·exact hB
   ·have h1 := (hR.mem m c hm').keeps fun x hx => e3 x fun e => by subst e; exact hR.sep.1 n m _ c _ hn hm' (Ne.symm hmn) ⟨hcap, rfl⟩ hx
    cases c with
    | own T s =>
     obtain ⟨ho, hz, c, fz, hh, hf, hfz⟩ := h1
     exact ⟨ho, by rw [hne m hmn]; exact hz, c, fz, by rw [hne m hmn]; exact hh, hE.frep (memEl' hm') hf, hfz⟩
    | view s =>
     refine ⟨h1.1, fun j x hj => ?_⟩
     obtain ⟨u, hu, hcu⟩ := h1.2 j x hj
     exact ⟨u, by simp only [at_, hne m hmn]; exact hu, hE.ext (flat_elOf (memEl' hm') x (List.mem_of_getElem? hj)) hcu⟩
    | vec ds => exact ⟨by rw [hne m hmn]; exact h1.1, by rw [hne m hmn]; exact h1.2.1, by rw [hne m hmn]; exact hE.lnk h1.2.2⟩
    | rview ds => exact ⟨by rw [hne m hmn]; exact h1.1, by rw [hne m hmn]; exact hE.lnk h1.2⟩
    | heap kk os => exact ⟨h1.1, by rw [hne m hmn]; exact h1.2⟩
    | map kk ms =>
     obtain ⟨es, clock, q1, q2⟩ := h1
     exact ⟨es, clock, by rw [hne m hmn]; exact q1, q2.1.mono fun hv => hE.ext rfl hv, q2.2⟩
  ·rcases un hm with ⟨rfl, rfl⟩ | ⟨hmn, hm'⟩
   ·rcases un hq with ⟨rfl, _⟩ | ⟨hqn, hq'⟩
    ·exact hmq rfl
    ·exact hR.sep.1 m q _ d x hn hq' hmq (outn x hO) ((Foot.agree (hne q hqn)).1 hF)
   ·rcases un hq with ⟨rfl, rfl⟩ | ⟨hqn, hq'⟩
    ·exact hR.sep.1 m q c _ x hm' hn hmq ((Out.agree (hne m hmn)).1 hO) (footn x hF)
    ·exact hR.sep.1 m q c d x hm' hq' hmq ((Out.agree (hne m hmn)).1 hO) ((Foot.agree (hne q hqn)).1 hF)
  ·rcases un hm with ⟨rfl, rfl⟩ | ⟨hmn, hm'⟩
   ·refine hR.sep.2 m _ x hn (outn x hO) ?_
    simp only [Inn, hL'] at hI
    exact inn x hI
   ·exact hR.sep.2 m c x hm' ((Out.agree (hne m hmn)).1 hO) ((Inn.agree (hne m hmn)).1 hI)
  ·rcases un hm with ⟨rfl, rfl⟩ | ⟨hmn, hm'⟩
   ·exact hR.own m _ x hn (outn x hO)
   ·exact hR.own m c x hm' ((Out.agree (hne m hmn)).1 hO)
  ·refine ⟨e5.trans hR.keep.os, e6.trans hR.keep.tape, e7.trans hR.keep.output, by rw [e4]; exact hR.keep.size, fun k hk hx => ?_⟩
   rw [← hR.keep.block k hk hx]
   refine e3 k fun e => ?_
   subst e
   rcases hR.own n _ _ hn ⟨hcap, rfl⟩ with q | q
   ·omega
   ·exact hx q
 have eaddr : at_ ρ n (i * cwidth cs + b + 0) = ⟨(ρ n).1, (ρ n).2 + (i * cwidth cs + b), none⟩ := by simp [at_]
 exact ⟨_, w', _, _, ρ', rfl, storeVar_run hsz rfl (by rw [eaddr]; exact e1), e4, hRep, h, e3, fun m hm => by rw [find_put, if_neg hm], hn, ⟨hcap, rfl⟩, hne⟩
end
def mat {α : Type} : List (List Int × α) → List Int → Option Nat
 | [], _ => none
 | p :: r, x => match leq x p.1 with
  | true => some 0
  | false => (mat r x).map (· + 1)
theorem leq_eq {a b : List Int} : leq a b = true ↔ a = b := by simp [leq]
theorem mat_miss {α : Type} {x : List Int} : ∀ {l : List (List Int × α)}, mat l x = none → mhas l x = false ∧ (∀ d, mget d l x = d) ∧ (∀ v, mput l x v = l ++ [(x, v)]) ∧ mdel l x = l
 | [], _ => ⟨rfl, fun _ => rfl, fun _ => rfl, rfl⟩
 | p :: r, h => by
  simp only [mat] at h
  cases hq : leq x p.1 with
  | true => rw [hq] at h; cases h
  | false =>
   rw [hq] at h
   simp only [Option.map_eq_none_iff] at h
   obtain ⟨h1, h2, h3, h4⟩ := mat_miss h
   simp only [mhas, mget, mput, mdel, hq]
   exact ⟨h1, h2, fun v => by rw [h3 v]; rfl, by rw [h4]⟩
theorem mat_hit {α : Type} {x : List Int} : ∀ {l : List (List Int × α)} {i : Nat}, mat l x = some i → ∃ p, l[i]? = some p ∧ p.1 = x ∧ mhas l x = true ∧ (∀ d, mget d l x = p.2) ∧ (∀ v, mput l x v = l.set i (p.1, v)) ∧ mdel l x = l.eraseIdx i
 | [], _, h => by simp [mat] at h
 | p :: r, i, h => by
  simp only [mat] at h
  cases hq : leq x p.1 with
  | true =>
   rw [hq] at h
   simp only [Option.some.injEq] at h
   subst h
   simp only [mhas, mget, mput, mdel, hq]
   exact ⟨p, rfl, (leq_eq.1 hq).symm, trivial, fun _ => rfl, fun _ => rfl, rfl⟩
  | false =>
   rw [hq] at h
   simp only [Option.map_eq_some_iff] at h
   obtain ⟨j, hj, rfl⟩ := h
   obtain ⟨p', h1, h2, h3, h4, h5, h6⟩ := mat_hit hj
   simp only [mhas, mget, mput, mdel, hq]
   exact ⟨p', by simpa using h1, h2, h3, h4, fun v => by rw [h5 v]; simp, by rw [h6]; simp⟩
section
variable {P : Program}
theorem KeyV.inj {kk : KK} {l : List Int} {u v : Value} (h : KeyV kk l u) (g : KeyV kk l v) : u = v := by
 cases kk with
 | int k => obtain ⟨n, e1, e2⟩ := h; obtain ⟨m, f1, f2⟩ := g; rw [e1] at f1; cases f1; rw [e2, f2]
 | arr k m => rw [h.2, g.2]
theorem keyx_sound {kk : KK} {x : AV} {key : List Int} {ρ : Rho} {v : Value} (h : keyx kk x = some key) (hx : SRep ρ x v) : KeyV kk key v := by
 unfold keyx at h
 split at h
 ·split at h <;> cases h
  rename_i e
  subst e
  exact ⟨_, rfl, hx⟩
 ·split at h <;> try (cases h; done)
  rename_i e
  split at h <;> cases h
  rename_i e2
  subst e e2
  exact srep_ints hx
 ·cases h
theorem run_check_arr {n : Nat} {kt e : TypeId} {k kk : IntKind} {l : List Int} (hu : P.underlying kt = some (.array n e)) (he : P.underlying e = some (.int k)) (hs : sizeB P e = some 1) (hl : l.length = n) (em : Bool) (w : World) :
  (Instr.checkKey em 10000 kt (.agg (l.map (Value.int kk)).toArray)).run P w = .ok () w := by
 obtain ⟨i, hi⟩ := info_of_underlying he
 have hag : (isAgg e).run P w = .ok false w := by unfold isAgg; rw [Sem.run_bind, run_underlying he w]; simp
 have hsz : (sizeOf e).run P w = .ok 1 w := run_sizeB hs w
 rw [show (10000 : Nat) = 9999 + 1 from rfl, Instr.checkKey]
 simp only [Sem.run_bind, run_underlying hu, Result.andThen_ok]
 simp only [Std.Legacy.Range.forIn_eq_forIn_range', Std.Legacy.Range.size, Nat.sub_zero, Nat.add_one_sub_one, Nat.div_one]
 have each : ∀ j ∈ List.range' 0 n, j < l.length := fun j hj => by simp at hj; omega
 generalize List.range' 0 n = is at each
 induction is with
 | nil => simp
 | cons j is ih =>
  have hj := each j (by simp)
  have hp : (part e (l.map (Value.int kk)).toArray (j * 1)).run P w = .ok (.int kk (l.getD j 0)) w := by
   simp [part, hag, hj, List.getD]
  have hc : (Instr.checkKey em 9999 e (.int kk (l.getD j 0))).run P w = .ok () w := by
   rw [show (9999 : Nat) = 9998 + 1 from rfl, Instr.checkKey]
   simp only [Sem.run_bind, run_underlying he, Result.andThen_ok, Sem.run_pure]
  simp only [List.forIn_cons, Sem.run_bind, hsz, Result.andThen_ok, hp, hc, Sem.run_pure]
  exact ih (fun y hy => each y (by simp [hy]))
theorem run_check {kk : KK} {kt : TypeId} {key : List Int} {v : Value} (hk : keyKind P kt = some kk) (hv : KeyV kk key v) (em : Bool) (w : World) : (Instr.checkKey em 10000 kt v).run P w = .ok () w := by
 unfold keyKind at hk
 split at hk
 ·rename_i k hu
  cases hk
  obtain ⟨n, _, rfl⟩ := hv
  exact MapKept.run_checkKey hu (by trivial) em 9999
 ·rename_i n e hu
  split at hk <;> cases hk
  rename_i k m hi
  obtain ⟨h1, rfl⟩ := hv
  unfold intArr at hi
  rw [hu] at hi
  simp only at hi
  split at hi <;> try (cases hi; done)
  rename_i k' he
  split at hi <;> try (cases hi; done)
  rename_i hs
  split at hi <;> cases hi
  exact run_check_arr hu he hs h1 em w
 ·cases hk
theorem find_int {k : IntKind} {a : Int} {α : Type} {vv : α → Value → Prop} : ∀ {l : List (List Int × α)} {es : List MapEntry} (i : Nat), EntL (.int k) vv l es →
  Instr.findNow (.int k) (.int k a) es i = some ((mat l [a]).bind fun j => (es[j]?).map fun e => (i + j, e.val))
 | [], es, i, h => by
  have := h.len
  cases es with
  | nil => rfl
  | cons e r => simp at this
 | p :: l, es, i, h => by
  have hl := h.len
  cases es with
  | nil => simp at hl
  | cons e r =>
   obtain ⟨⟨n, e1, e2⟩, _⟩ := h.at_ 0 p e rfl rfl
   have hr : EntL (.int k) vv l r := ⟨by simpa using hl, fun j p' e' hp he => h.at_ (j + 1) p' e' (by simpa using hp) (by simpa using he)⟩
   have ih := find_int (a := a) (i + 1) hr
   have hq : leq [a] p.1 = (a == n) := by rw [e1]; by_cases q : a = n <;> simp [leq, q]
   simp only [Instr.findNow, e2, Instr.sameNow, if_true, mat, hq]
   cases hb : (a == n) with
   | true => simp
   | false =>
    simp only [ih, Option.some.injEq]
    cases mat l [a] with
    | none => rfl
    | some j => simp only [Option.bind_some, Option.map_some, List.getElem?_cons_succ]; congr 1; funext x; congr 1; omega
theorem find_arr {kt : TypeId} {k : IntKind} {m : Nat} {x : List Int} (hi : intArr P kt = some (k, m)) (hx : x.length = m) {α : Type} {vv : α → Value → Prop} (w : World) : ∀ {l : List (List Int × α)} {es : List MapEntry} (i : Nat), EntL (.arr k m) vv l es →
  (Instr.findAsking kt (.agg (x.map (Value.int k)).toArray) es i).run P w = .ok ((mat l x).bind fun j => (es[j]?).map fun e => (i + j, e.val)) w
 | [], es, i, h => by
  have := h.len
  cases es with
  | nil => rfl
  | cons e r => simp at this
 | p :: l, es, i, h => by
  have hl := h.len
  cases es with
  | nil => simp at hl
  | cons e r =>
   obtain ⟨⟨e1, e2⟩, _⟩ := h.at_ 0 p e rfl rfl
   have hr : EntL (.arr k m) vv l r := ⟨by simpa using hl, fun j p' e' hp he => h.at_ (j + 1) p' e' (by simpa using hp) (by simpa using he)⟩
   have ih := find_arr hi hx w (i + 1) hr
   have hq := (run_eq_ints (kk := k) hi hx e1).2 w
   simp only [Instr.findAsking, Op.equal, Op.maxDepth, e2, Sem.run_bind, hq, Result.andThen_ok, mat]
   cases hb : leq x p.1 with
   | true => simp
   | false =>
    simp only [ih, Bool.false_eq_true, if_false]
    cases mat l x with
    | none => rfl
    | some j => simp only [Option.bind_some, Option.map_some, List.getElem?_cons_succ]; congr 2; funext x; congr 1; omega
theorem run_find {kk : KK} {kt : TypeId} {key : List Int} {v : Value} (hk : keyKind P kt = some kk) (hv : KeyV kk key v) {α : Type} {vv : α → Value → Prop} {l : List (List Int × α)} {es : List MapEntry} (h : EntL kk vv l es) (w : World) :
  (Instr.findKey kt v es).run P w = .ok ((mat l key).bind fun j => (es[j]?).map fun e => (j, e.val)) w := by
 unfold keyKind at hk
 split at hk
 ·rename_i k hu
  cases hk
  obtain ⟨n, rfl, rfl⟩ := hv
  have := find_int (a := n) 0 h
  simp only [Nat.zero_add] at this
  exact MapKept.run_findKey hu this
 ·rename_i n e hu
  split at hk <;> cases hk
  rename_i k m hi
  obtain ⟨h1, rfl⟩ := hv
  rw [run_findKey_eq (P := P) (w := w) (k := kt) (by simp [hu])]
  have := find_arr hi h1 w 0 h
  simp only [Nat.zero_add] at this
  exact this
 ·cases hk
theorem same_ints (k : IntKind) (n : Nat) (l : List Int) : Instr.sameBits (n + 2) (.agg (l.map (Value.int k)).toArray) (.agg (l.map (Value.int k)).toArray) = true := by
 simp only [Instr.sameBits, BEq.rfl, Bool.true_and, List.all_eq_true]
 intro p hp
 obtain ⟨i, hi⟩ := List.mem_iff_getElem?.1 hp
 simp only [List.getElem?_zip_eq_some, List.getElem?_map, Option.map_eq_some_iff] at hi
 obtain ⟨⟨a, ha, e1⟩, b, hb, e2⟩ := hi
 rw [ha] at hb
 cases hb
 rw [← e1, ← e2]
 simp [Instr.sameBits]
theorem run_stays {kk : KK} {key : List Int} {u v : Value} (hu : KeyV kk key u) (hv : KeyV kk key v) (w : World) : (Instr.keyThatStays u v).run P w = .ok v w := by
 have e := hu.inj hv
 subst e
 unfold Instr.keyThatStays
 have : Instr.sameBits 10000 u u = true := by
  cases kk with
  | int k => obtain ⟨n, _, rfl⟩ := hu; simp [Instr.sameBits]
  | arr k m => obtain ⟨_, rfl⟩ := hu; exact same_ints k 9998 key
 rw [this]; rfl
theorem look_gen {kk : KK} {t kt e : TypeId} {key : List Int} {v z : Value} {r : Nat} {es : Array MapEntry} {clock : Nat} {w : World} {α : Type} {vv : α → Value → Prop} {l : List (List Int × α)} {d : α} (ht : P.underlying t = some (.map kt e)) (hk : keyKind P kt = some kk) (hv : KeyV kk key v)
  (hb : w.heap[r]? = some (.map es clock)) (h : EntL kk vv l es.toList) (hz : (zeroValue e).run P w = .ok z w) (hd : vv d z) (ok : Bool) :
  ∃ val, vv (mget d l key) val ∧ (Instr.lookup t (.map (some r)) v ok).run P w = .ok (if ok then .tuple #[val, .bool (mhas l key)] else val) w := by
 have hf := run_find hk hv h w
 have hc := run_check hk hv es.isEmpty w
 cases hm : mat l key with
 | none =>
  obtain ⟨h1, h2, _, _⟩ := mat_miss hm
  rw [hm] at hf
  refine ⟨z, by rw [h2]; exact hd, ?_⟩
  simp only [Instr.lookup, Sem.run_bind, run_underlying ht, Result.andThen_ok, MapKept.run_getObj_map hb, Sem.run_pure, hc, hf, Option.bind_none, hz, h1]
 | some i =>
  obtain ⟨p, h1, h2, h3, h4, _, _⟩ := mat_hit hm
  have hlt : i < es.toList.length := by rw [← h.len]; exact (List.getElem?_eq_some_iff.1 h1).1
  have he : es.toList[i]? = some es.toList[i] := List.getElem?_eq_getElem hlt
  rw [hm] at hf
  simp only [Option.bind_some, he, Option.map_some] at hf
  refine ⟨es.toList[i].val, by rw [h4]; exact (h.at_ i p _ h1 he).2, ?_⟩
  simp only [Instr.lookup, Sem.run_bind, run_underlying ht, Result.andThen_ok, MapKept.run_getObj_map hb, Sem.run_pure, hc, hf, h3]
theorem dense_push {k : IntKind} {q : List (List Int × HS)} {es : Array MapEntry} {clock : Nat} {e : MapEntry} (h : Dense (.hss k q) es.toList clock) (he : e.born = clock) : Dense (.hss k q) (es.push e).toList (clock + 1) := by
 obtain ⟨h1, h2⟩ := h
 rw [Array.toList_push]
 refine ⟨by simp [h1], fun i x hx => ?_⟩
 rcases Nat.lt_or_ge i es.toList.length with hi | hi
 ·rw [List.getElem?_append_left hi] at hx; exact h2 i x hx
 ·rw [List.getElem?_append_right hi] at hx
  have hlt := (List.getElem?_eq_some_iff.1 hx).1
  simp only [List.length_cons, List.length_nil] at hlt
  have hi0 : i - es.toList.length = 0 := by omega
  rw [hi0] at hx
  simp at hx
  subst hx
  rw [he, h1]; omega
theorem dense_modify {k : IntKind} {q : List (List Int × HS)} {es : Array MapEntry} {clock i : Nat} {f : MapEntry → MapEntry} (hf : ∀ e, (f e).born = e.born) (h : Dense (.hss k q) es.toList clock) : Dense (.hss k q) (es.modify i f).toList clock := by
 obtain ⟨h1, h2⟩ := h
 rw [Array.toList_modify]
 refine ⟨by simp [h1], fun j x hx => ?_⟩
 rw [List.getElem?_modify] at hx
 cases hq : es.toList[j]? with
 | none => rw [hq] at hx; simp at hx
 | some y =>
  rw [hq] at hx
  simp only [Option.map_eq_map, Option.map_some, Option.some.injEq] at hx
  split at hx
  ·rw [← hx, hf]; exact h2 j y hq
  ·rw [← hx]; exact h2 j y hq
theorem mat_mix {α : Type} {x : List Int} : ∀ {l : List (List Int × α)}, mix l x = (mat l x).getD l.length
 | [] => rfl
 | p :: r => by
  simp only [mix, mat]
  cases leq x p.1 with
  | true => rfl
  | false =>
   simp only [mat_mix (l := r)]
   cases mat r x <;> simp
theorem mseti_set {α : Type} (v : α) : ∀ (l : List (List Int × α)) (i : Nat), mseti l i v = l.modify i (fun p => (p.1, v))
 | [], i => by simp [mseti]
 | p :: r, 0 => by simp [mseti]
 | p :: r, i + 1 => by simp [mseti, mseti_set v r i]
theorem entry_gen {kk : KK} {t kt e : TypeId} {key : List Int} {v z : Value} {r : Nat} {es : Array MapEntry} {clock : Nat} {w : World} {k : IntKind} {vv : HS → Value → Prop} {l : List (List Int × HS)} (ht : P.underlying t = some (.map kt e)) (hk : keyKind P kt = some kk) (hv : KeyV kk key v)
  (hb : w.heap[r]? = some (.map es clock)) (h : EntL kk vv l es.toList) (hD : Dense (.hss k l) es.toList clock) (hz : (zeroValue e).run P w = .ok z w) (hd : vv hs0 z) :
  ∃ es' clock' val, (Instr.mapEntry t (.map (some r)) v).run P w = .ok (.tuple #[val, .int .i64 (ofNat (mix l key))]) { w with heap := w.heap.setIfInBounds r (.map es' clock') } ∧ vv (mget hs0 l key) val ∧ EntL kk vv (ment hs0 l key) es'.toList ∧ Dense (.hss k (ment hs0 l key)) es'.toList clock' := by
 have hf := run_find hk hv h w
 have hc := run_check hk hv false w
 cases hm : mat l key with
 | none =>
  obtain ⟨m1, m2, _, _⟩ := mat_miss hm
  rw [hm] at hf
  have hmix : mix l key = l.length := by rw [mat_mix, hm]; rfl
  refine ⟨es.push { key := v, val := z, born := clock }, clock + 1, z, ?_, by rw [m2]; exact hd, ?_, dense_push hD rfl⟩
  ·have e1 : (mix l key : Nat) = clock := by rw [hmix, h.len, hD.1]
   simp only [Instr.mapEntry, Sem.run_bind, run_underlying ht, Result.andThen_ok, MapKept.run_getObj_map hb, Sem.run_pure, hc, hf, Option.bind_none, hz, MapKept.run_setObj_map _ hb, goInt, ofNat, e1]
  ·rw [ment, m1, Array.toList_push]
   refine ⟨by simp [h.len], fun i p e' hp he => ?_⟩
   rcases Nat.lt_or_ge i l.length with hi | hi
   ·rw [List.getElem?_append_left hi] at hp
    rw [List.getElem?_append_left (by rw [← h.len]; exact hi)] at he
    exact h.at_ i p e' hp he
   ·rw [List.getElem?_append_right hi] at hp
    rw [List.getElem?_append_right (by rw [← h.len]; exact hi), ← h.len] at he
    have hi0 : i - l.length = 0 := by
     have := (List.getElem?_eq_some_iff.1 hp).1; simp at this; omega
    rw [hi0] at hp he
    simp at hp he
    subst hp he
    exact ⟨hv, hd⟩
 | some i =>
  obtain ⟨p, h1, h2, h3, h4, _, _⟩ := mat_hit hm
  have hlt : i < es.toList.length := by rw [← h.len]; exact (List.getElem?_eq_some_iff.1 h1).1
  have he : es.toList[i]? = some es.toList[i] := List.getElem?_eq_getElem hlt
  obtain ⟨g1, g2⟩ := h.at_ i p _ h1 he
  rw [h2] at g1
  rw [hm] at hf
  simp only [Option.bind_some, he, Option.map_some] at hf
  have hea : es[i]? = some es.toList[i] := by rw [← Array.getElem?_toList]; exact he
  have hmix : mix l key = i := by rw [mat_mix, hm]; rfl
  have hborn : es.toList[i].born = i := hD.2 i _ he
  refine ⟨es.modify i fun e => { e with key := v }, clock, es.toList[i].val, ?_, by rw [h4]; exact g2, ?_, ?_⟩
  ·simp only [Instr.mapEntry, Sem.run_bind, run_underlying ht, Result.andThen_ok, MapKept.run_getObj_map hb, Sem.run_pure, hc, hf, hea, Option.map_some, Option.getD_some, run_stays g1 hv w, MapKept.run_setObj_map _ hb, goInt, ofNat, hmix, hborn]
  ·rw [ment, h3, Array.toList_modify]
   refine ⟨by simp [h.len], fun j q e' hp he' => ?_⟩
   rw [List.getElem?_modify] at he'
   cases hq : es.toList[j]? with
   | none => rw [hq] at he'; simp at he'
   | some y =>
    obtain ⟨k1, k2⟩ := h.at_ j q y hp hq
    rw [hq] at he'
    simp only [Option.map_eq_map, Option.map_some, Option.some.injEq] at he'
    split at he'
    ·rename_i e
     subst e
     rw [h1] at hp; cases hp
     rw [← he']
     exact ⟨by show KeyV kk p.1 v; rw [h2]; exact hv, k2⟩
    ·rw [← he']; exact ⟨k1, k2⟩
  ·rw [ment, h3]
   exact dense_modify (fun _ => rfl) hD
theorem store_gen {t : TypeId} {kk : KK} {u : Value} {r : Nat} {es : Array MapEntry} {clock : Nat} {w : World} {k : IntKind} {vv : HS → Value → Prop} {l : List (List Int × HS)} {x : HS} {s : Int} (hb : w.heap[r]? = some (.map es clock)) (h : EntL kk vv l es.toList) (hD : Dense (.hss k l) es.toList clock) (hx : vv x u) (hs : InB s (mlen l)) :
  ∃ es', (Instr.entryStore t (.map (some r)) (.int .i64 s) u).run P w = .ok () { w with heap := w.heap.setIfInBounds r (.map es' clock) } ∧ EntL kk vv (mseti l (nat s) x) es'.toList ∧ Dense (.hss k (mseti l (nat s) x)) es'.toList clock := by
 obtain ⟨i, rfl⟩ := Int.eq_ofNat_of_zero_le hs.lo
 have hil : i < l.length := by have := hs.hi; simp only [mlen] at this; omega
 have hlt : i < es.size := by have := h.len; simp only [Array.length_toList] at this; omega
 have hborn : ∀ j (hj : j < es.size), es[j].born = j := fun j hj => hD.2 j es[j] (by rw [Array.getElem?_toList]; exact Array.getElem?_eq_getElem hj)
 have hfi : es.findIdx? (fun e => (e.born : Int) == (i : Int)) = some i := by
  rw [Array.findIdx?_eq_some_iff_getElem]
  refine ⟨hlt, by simp [hborn i hlt], fun j hj => ?_⟩
  have := hborn j (by omega)
  simp [this]; omega
 refine ⟨es.modify i fun e => { e with val := u }, ?_, ?_, ?_⟩
 ·simp only [Instr.entryStore, Sem.run_bind, Result.andThen_ok, MapKept.run_getObj_map hb, asInt, asIntOf, Sem.run_pure, hfi, MapKept.run_setObj_map _ hb]
 ·show EntL kk vv (mseti l i x) _
  rw [mseti_set, Array.toList_modify]
  refine ⟨by simp [h.len], fun j q e' hp he' => ?_⟩
  rw [List.getElem?_modify] at hp he'
  cases hq : es.toList[j]? with
  | none => rw [hq] at he'; simp at he'
  | some y =>
   cases hq2 : l[j]? with
   | none => rw [hq2] at hp; simp at hp
   | some p =>
    obtain ⟨k1, k2⟩ := h.at_ j p y hq2 hq
    rw [hq] at he'
    rw [hq2] at hp
    simp only [Option.map_eq_map, Option.map_some, Option.some.injEq] at he' hp
    split at he'
    ·rename_i e
     rw [if_pos e] at hp
     rw [← he', ← hp]
     exact ⟨k1, hx⟩
    ·rename_i e
     rw [if_neg e] at hp
     rw [← he', ← hp]; exact ⟨k1, k2⟩
 ·exact dense_modify (fun _ => rfl) hD
theorem update_gen {kk : KK} {t kt e : TypeId} {key : List Int} {v u : Value} {r : Nat} {es : Array MapEntry} {clock : Nat} {w : World} {α : Type} {vv : α → Value → Prop} {l : List (List Int × α)} {x : α} (ht : P.underlying t = some (.map kt e)) (hk : keyKind P kt = some kk) (hv : KeyV kk key v)
  (hb : w.heap[r]? = some (.map es clock)) (h : EntL kk vv l es.toList) (hx : vv x u) :
  ∃ es' clock', (Instr.mapUpdate t (.map (some r)) v u).run P w = .ok () { w with heap := w.heap.setIfInBounds r (.map es' clock') } ∧ EntL kk vv (mput l key x) es'.toList ∧ ∀ k q, Dense (.hss k q) es.toList clock → Dense (.hss k q) es'.toList clock' := by
 have hf := run_find hk hv h w
 have hc := run_check hk hv false w
 cases hm : mat l key with
 | none =>
  obtain ⟨_, _, h3, _⟩ := mat_miss hm
  rw [hm] at hf
  refine ⟨es.push { key := v, val := u, born := clock }, clock + 1, ?_, ?_, fun k q h => dense_push h rfl⟩
  ·simp only [Instr.mapUpdate, Sem.run_bind, run_underlying ht, Result.andThen_ok, MapKept.run_getObj_map hb, Sem.run_pure, hc, hf, Option.bind_none, MapKept.run_setObj_map _ hb]
  ·rw [h3, Array.toList_push]
   refine ⟨by simp [h.len], fun i p e' hp he => ?_⟩
   rcases Nat.lt_or_ge i l.length with hi | hi
   ·rw [List.getElem?_append_left hi] at hp
    rw [List.getElem?_append_left (by rw [← h.len]; exact hi)] at he
    exact h.at_ i p e' hp he
   ·rw [List.getElem?_append_right hi] at hp
    rw [List.getElem?_append_right (by rw [← h.len]; exact hi), ← h.len] at he
    have hi0 : i - l.length = 0 := by
     have := (List.getElem?_eq_some_iff.1 hp).1; simp at this; omega
    rw [hi0] at hp he
    simp at hp he
    subst hp he
    exact ⟨hv, hx⟩
 | some i =>
  obtain ⟨p, h1, h2, _, _, h5, _⟩ := mat_hit hm
  have hlt : i < es.toList.length := by rw [← h.len]; exact (List.getElem?_eq_some_iff.1 h1).1
  have he : es.toList[i]? = some es.toList[i] := List.getElem?_eq_getElem hlt
  obtain ⟨g1, g2⟩ := h.at_ i p _ h1 he
  rw [h2] at g1
  rw [hm] at hf
  simp only [Option.bind_some, he, Option.map_some] at hf
  have hea : es[i]? = some es.toList[i] := by rw [← Array.getElem?_toList]; exact he
  refine ⟨es.modify i fun e => { e with key := v, val := u }, clock, ?_, ?_, fun k q h => dense_modify (fun _ => rfl) h⟩
  ·simp only [Instr.mapUpdate, Sem.run_bind, run_underlying ht, Result.andThen_ok, MapKept.run_getObj_map hb, Sem.run_pure, hc, hf, hea, Option.map_some, Option.getD_some, run_stays g1 hv w, MapKept.run_setObj_map _ hb]
  ·rw [h5, Array.toList_modify]
   refine ⟨by simp [h.len], fun j q e' hp he' => ?_⟩
   rw [List.getElem?_set] at hp
   rw [List.getElem?_modify] at he'
   by_cases hij : i = j
   ·subst hij
    rw [if_pos rfl, if_pos (by rw [h.len]; exact hlt)] at hp
    cases hp
    simp only [he, if_true] at he'
    cases he'
    exact ⟨by rw [h2]; exact hv, hx⟩
   ·rw [if_neg hij] at hp
    simp only [hij, if_false, Option.map_id'] at he'
    refine h.at_ j q e' hp ?_
    cases hq : es.toList[j]? with
    | none => rw [hq] at he'; simp at he'
    | some y => rw [hq] at he'; simpa using he'
theorem delete_gen {kk : KK} {t t2 kt e ot : TypeId} {key : List Int} {v : Value} {r : Nat} {es : Array MapEntry} {clock : Nat} {w : World} {α : Type} {vv : α → Value → Prop} {l : List (List Int × α)} (ht : P.underlying t = some (.map kt e)) (hk : keyKind P kt = some kk) (hv : KeyV kk key v)
  (hb : w.heap[r]? = some (.map es clock)) (h : EntL kk vv l es.toList) :
  ∃ es', (Builtin.delete_ #[t, t2] ot #[.map (some r), v]).run P w = .ok (.tuple #[]) { w with heap := w.heap.setIfInBounds r (.map es' clock) } ∧ EntL kk vv (mdel l key) es'.toList := by
 have hf := run_find hk hv h w
 have hc := run_check hk hv es.isEmpty w
 cases hm : mat l key with
 | none =>
  obtain ⟨_, _, _, h4⟩ := mat_miss hm
  rw [hm] at hf
  refine ⟨es, ?_, by rw [h4]; exact h⟩
  simp [Builtin.delete_, run_underlying ht, Result.andThen, MapKept.run_getObj_map hb, hc, hf, MapKept.run_setObj_map _ hb]
 | some i =>
  obtain ⟨p, h1, h2, _, _, _, h6⟩ := mat_hit hm
  have hlt : i < es.toList.length := by rw [← h.len]; exact (List.getElem?_eq_some_iff.1 h1).1
  have he : es.toList[i]? = some es.toList[i] := List.getElem?_eq_getElem hlt
  rw [hm] at hf
  simp only [Option.bind_some, he, Option.map_some] at hf
  refine ⟨es.eraseIdxIfInBounds i, ?_, ?_⟩
  ·simp [Builtin.delete_, run_underlying ht, Result.andThen, MapKept.run_getObj_map hb, hc, hf, MapKept.run_setObj_map _ hb]
  ·rw [h6, Array.toList_eraseIdxIfInBounds]
   refine ⟨by rw [List.length_eraseIdx, List.length_eraseIdx, h.len], fun j q e' hp he' => ?_⟩
   rw [List.getElem?_eraseIdx] at hp he'
   split at hp
   ·rename_i hj; rw [if_pos hj] at he'; exact h.at_ _ q e' hp he'
   ·rename_i hj; rw [if_neg hj] at he'; exact h.at_ _ q e' hp he'
section
variable {E : Env} {ρ : Rho} {fr : Fr} {σ : Mem} {a : Act} {w : World}
theorem mapAt_sound {t : TypeId} {x : AV} {v : Value} {K : Nat → KK → MVs → Prop} (h : mapAt P σ t x K) (hm : MemRep ρ σ w) (hx : SRep ρ x v) :
  ∃ n kk m kt e es clock m0, Mem.find σ n = some (.map kk m) ∧ v = .map (some (ρ n).1) ∧ P.underlying t = some (.map kt e) ∧ keyKind P kt = some kk ∧ mapNil P σ e = some m0 ∧ MVs.like m0 m = true ∧
   w.heap[(ρ n).1]? = some (.map es clock) ∧ MRep ρ kk m es.toList ∧ Dense m es.toList clock ∧ K n kk m := by
 unfold mapAt at h
 split at h <;> try exact h.elim
 rename_i n
 split at h <;> try exact h.elim
 rename_i kk m kt e hf hu
 split at h <;> try exact h.elim
 rename_i kk' m0 hk h0
 split at h <;> try exact h.elim
 rename_i hq
 rw [Bool.and_eq_true] at hq
 obtain ⟨hb, hl⟩ := hq
 have : kk = kk' := by
  cases kk <;> cases kk' <;> simp [KK.beq] at hb
  ·rw [hb]
  ·rw [hb.1, hb.2]
 subst this
 obtain ⟨es, clock, q1, q2⟩ := hm n _ hf
 exact ⟨n, kk, m, kt, e, es, clock, m0, hf, hx, hu, hk, h0, hl, q1, q2.1, q2.2, h⟩
theorem mapNil_zero {e : TypeId} {m0 m : MVs} (h : mapNil P σ e = some m0) (hl : MVs.like m0 m = true) (hm : MemRep ρ σ w) :
  ∃ z, (zeroValue e).run P w = .ok z w ∧ match m with
   | .ints k _ => z = .int k 0
   | .strs _ => z = .string ByteArray.empty
   | .hss k _ => CRep ρ (.hs k 0 0 0) z := by
 unfold mapNil at h
 split at h
 ·cases h
 ·rename_i z hz
  cases hi : P.info? e with
  | none => rw [hi] at hz; cases hz
  | some i =>
   rw [hi] at hz
   simp only [Option.bind_some] at hz
   have hrun : (zeroValue e).run P w = .ok z w := by simp [zeroValue, typeInfo, hi, hz]
   refine ⟨z, hrun, ?_⟩
   split at h
   ·split at h <;> cases h
    rename_i k _ hc
    cases m <;> simp [MVs.like] at hl
    subst hl
    cases z <;> simp [acIs] at hc
    obtain ⟨rfl, rfl⟩ := hc
    rfl
   ·split at h <;> cases h
    rename_i hc
    cases m <;> simp [MVs.like] at hl
    cases z <;> simp [acIs] at hc
    subst hc
    rfl
   ·split at h <;> try (cases h; done)
    rename_i hc he
    split at h <;> cases h
    have hz0 : z = .slice none 0 0 := (acIs_sound ρ hc).1
    subst hz0
    cases m <;> simp [MVs.like] at hl
    subst hl
    obtain ⟨_, hH⟩ := hm _ _ (heap_find ‹Mem.heap σ _ = some _›)
    have hn := hH.pos
    rw [← hH.n] at hn
    exact ⟨none, 0, rfl, Nat.le_refl _, by omega, hn, Or.inl rfl, by rw [hH.zero], fun q => absurd hH.zero q⟩
   ·cases h
theorem mapNil_nil {e : TypeId} {m : MVs} (h : mapNil P σ e = some m) (ρ : Rho) (kk : KK) : MRep ρ kk m [] := by
 have nl : ∀ {α : Type} {vv : α → Value → Prop}, EntL kk vv [] [] := ⟨rfl, fun i p e hp => by simp at hp⟩
 unfold mapNil at h
 split at h
 ·cases h
 ·split at h
  ·split at h <;> cases h; exact nl
  ·split at h <;> cases h; exact nl
  ·split at h <;> try (cases h; done)
   split at h <;> cases h; exact nl
  ·cases h
theorem dense_nil (m : MVs) : Dense m [] 0 := by
 cases m <;> first | trivial | exact ⟨rfl, fun i e h => by simp at h⟩
theorem set_block {r k : Nat} {o : Obj} (h : k ≠ r) : (w.heap.setIfInBounds r o)[k]? = w.heap[k]? := by
 rw [Array.getElem?_setIfInBounds, if_neg (Ne.symm h)]
theorem map_change (hR : Rep E ρ fr σ a w) {n : Nat} {kk : KK} {m m' : MVs} {es es' : Array MapEntry} {clock clock' : Nat} (hf : Mem.find σ n = some (.map kk m)) (hb : w.heap[(ρ n).1]? = some (.map es clock)) (h : MRep ρ kk m' es'.toList) (hd : Dense m' es'.toList clock') :
  Rep E ρ fr (σ.put n (.map kk m')) a { w with heap := w.heap.setIfInBounds (ρ n).1 (.map es' clock') } := by
 have hlt := block_lt hb
 refine change_sound hR hf (g := (ρ n).1) rfl (fun k hk => set_block hk) (by simp) rfl rfl rfl ⟨es', clock', ?_, h, hd⟩ (fun _ q => q) (fun _ q => q) (fun _ q => q)
 show (w.heap.setIfInBounds _ _)[_]? = _
 rw [Array.getElem?_setIfInBounds, if_pos rfl, if_pos hlt]
theorem map_new (hR : Rep E ρ fr σ a w) {d : Nat} {kk : KK} {m : MVs} (hd : freshB d fr σ = true) (h : ∀ ρ, MRep ρ kk m []) (hz : Dense m [] 0) :
  Rep E (upd ρ d (newLoc w.heap.size)) fr ((d, .map kk m) :: σ) a (World.with w (.map #[] 0)) := by
 have hlt : ∀ {m c k}, Mem.find σ m = some c → Foot ρ m c k → k < w.heap.size := fun hm hk => in_range (hR.mem _ _ hm) hk
 have e1 : ∀ k, k = (upd ρ d (newLoc w.heap.size) d).1 → k = w.heap.size := fun k hk => by rw [upd_eq] at hk; exact hk
 refine add_sound hR hd ⟨hR.keep.os, hR.keep.tape, hR.keep.output, by rw [with_size]; have := hR.keep.size; omega, fun k hk hx => by rw [with_old (by have := hR.keep.size; omega)]; exact hR.keep.block k hk hx⟩ (fun m c k hm hk => with_old (hlt hm hk))
  ⟨#[], 0, by rw [upd_eq]; exact with_new, h _, hz⟩ (fun k hk => ?_) (fun k hk m c hm hO => ?_)
 ·have := e1 k hk
  subst this
  exact ⟨Or.inl hR.keep.size, fun m c hm hk => by have := hlt hm hk; omega, fun q => q⟩
 ·have := e1 k hk
  subst this
  have := hlt hm hO.foot
  omega
end
end
def OwnAt (ρ : Rho) (σ : Mem) (k : Nat) : Prop := ∃ n b, Mem.find σ n = some b ∧ Out ρ n b k
structure Good (P : Program) (f : FuncId) (s : Spec) : Prop where
 calls : ∀ d args σ (K : AV → Mem → Prop), s.sem d args σ K → ∀ (ρ : Rho) (w : World) (vals : Array Value), Glob ρ → MemRep ρ σ w → Sep ρ σ → args.length = vals.size →
  (∀ (j : Nat) x v, args[j]? = some x → vals[j]? = some v → SRep ρ x v) → (∀ k, k < s.news → d + 10000 * k < 200000 ∧ memRefs (d + 10000 * k) σ = false) →
  Calls P f vals w fun e w' => ∃ v av σ' ρ', e = .returned v ∧ K av σ' ∧ SRep ρ' av v ∧ MemRep ρ' σ' w' ∧ Sep ρ' σ' ∧ (∀ n, isHeap n = false → (∀ k, k < s.news → n ≠ d + 10000 * k) → ρ' n = ρ n) ∧ (∀ n, isHeap n = true → HExt (ρ n) (ρ' n)) ∧
   (∀ n b k, Mem.find σ' n = some b → Out ρ' n b k → OwnAt ρ σ k ∨ w.heap.size ≤ k) ∧ Keeps (OwnAt ρ σ) w w' ∧ (s.mods = false → Keeps (fun _ => False) w w' ∧ (∀ m b, Mem.find σ m = some b → Mem.find σ' m = some b) ∧ ∀ n, isHeap n = true → ρ' n = ρ n)
def GoodG (P : Program) (Γ : Gam) : Prop := ∀ f s, Γ f = some s → Good P f s ∧ ∃ fn, P.funcs[f]? = some fn ∧ fn.name ≠ "runtime.NumGoroutine" ∧ fn.body.isSome = true
theorem freshAll_sound {d : Nat} {fr : Fr} {σ : Mem} : ∀ {m : Nat}, freshAll d fr σ m = true → ∀ k, k < m → freshB (d + 10000 * k) fr σ = true
 | 0, _, k, h => by omega
 | m + 1, h, k, hk => by
  simp only [freshAll, Bool.and_eq_true] at h
  by_cases e : k = m
  ·subst e; exact h.1
  ·exact freshAll_sound h.2 k (by omega)
section
variable {P : Program} {Γ : Gam} {E : Env} {ρ : Rho} {fr : Fr} {σ : Mem} {a : Act} {w : World}
theorem callx_sound {f : FuncId} {dst : Option Tmp} {args : List AV} {vals : Array Value} {K : AV → Mem → Prop} (h : callx Γ f dst args fr σ K) (hΓ : GoodG P Γ) (hR : Rep E ρ fr σ a w) (hl : args.length = vals.size)
  (hv : ∀ (j : Nat) x v, args[j]? = some x → vals[j]? = some v → SRep ρ x v) :
  ∃ s d, Γ f = some s ∧ (s.news ≠ 0 → dst = some d) ∧ Calls P f vals w fun e w' => ∃ v av σ' ρ', e = .returned v ∧ K av σ' ∧ SRep ρ' av v ∧ Rep E ρ' fr σ' a w' ∧ w.heap.size ≤ w'.heap.size ∧ (∀ n, isHeap n = false → (∀ k, k < s.news → n ≠ d + 10000 * k) → ρ' n = ρ n) ∧ (s.mods = false → Keeps (fun _ => False) w w' ∧ (∀ m b, Mem.find σ m = some b → Mem.find σ' m = some b) ∧ ∀ n, isHeap n = true → ρ' n = ρ n) := by
 have fin : ∀ {s : Spec} {d : Nat}, Γ f = some s → (∀ k, k < s.news → freshB (d + 10000 * k) fr σ = true) → s.sem d args σ K →
   Calls P f vals w fun e w' => ∃ v av σ' ρ', e = .returned v ∧ K av σ' ∧ SRep ρ' av v ∧ Rep E ρ' fr σ' a w' ∧ w.heap.size ≤ w'.heap.size ∧ (∀ n, isHeap n = false → (∀ k, k < s.news → n ≠ d + 10000 * k) → ρ' n = ρ n) ∧ (s.mods = false → Keeps (fun _ => False) w w' ∧ (∀ m b, Mem.find σ m = some b → Mem.find σ' m = some b) ∧ ∀ n, isHeap n = true → ρ' n = ρ n) := by
  intro s d hs hfr hsem
  have unp : ∀ k, k < s.news → d + 10000 * k < 200000 ∧ frRefs (d + 10000 * k) fr = false ∧ memRefs (d + 10000 * k) σ = false := fun k hk => freshB_parts (hfr k hk)
  refine ((hΓ f s hs).1.calls d args σ K hsem ρ w vals hR.glob hR.mem hR.sep hl hv (fun k hk => ⟨(unp k hk).1, (unp k hk).2.2⟩)).mono ?_
  rintro e w' ⟨v, av, σ', ρ', rfl, hK, hav, hm, hs', hρ, hext, hown, hk1, hk2⟩
  refine ⟨v, av, σ', ρ', rfl, hK, hav, ⟨?_, hR.df, hm, hs', fun n hn hh => ?_, fun n hn => (hR.ext n hn).trans (hext n hn), fun n b k hn hO => ?_, ?_⟩, hk1.size, hρ, hk2⟩
  ·refine hR.fr.agree fun n hn => ?_
   cases hh : isHeap n with
   | true => exact hext n hh
   | false =>
   refine .of_eq (hρ n hh fun k hk e => ?_)
   subst e
   rw [(unp k hk).2.1] at hn; cases hn
  ·rw [hρ n hh fun k hk e => by have := (unp k hk).1; omega]
   exact hR.fix n hn hh
  ·rcases hown n b k hn hO with ⟨m, c, hm2, e⟩ | hge
   ·exact hR.own m c k hm2 e
   ·left; have := hR.keep.size; omega
  ·refine hR.keep.trans hk1 fun i hi ⟨m, c, hm2, e⟩ => ?_
   rcases hR.own m c i hm2 e with q | q
   ·omega
   ·exact q
 unfold callx at h
 split at h <;> try exact h.elim
 rename_i s hs
 split at h
 ·rename_i d
  split at h <;> try exact h.elim
  rename_i hf
  exact ⟨s, d, hs, fun _ => rfl, fin hs (freshAll_sound hf) h⟩
 ·split at h <;> try exact h.elim
  rename_i hn
  exact ⟨s, 0, hs, fun q => absurd hn q, fin hs (fun k hk => by omega) h⟩
end
section
variable {P : Program} {Γ : Gam} {E : Env} {ρ : Rho} {fr : Fr} {σ : Mem} {a : Act} {w : World}
theorem segs_refs {x : AV} {s : List Seg} (h : x.segs = some s) (d : Nat) (hx : x.refs d = false) : segsRefs d s = false := by
 cases x <;> simp only [AV.segs, Option.some.injEq] at h <;> try (cases h; done)
 ·subst h; simpa [segsRefs, Seg.refs, AV.refs] using hx
 ·subst h; exact hx
theorem ev_refs {d : Nat} {x : Operand} (hf : frRefs d fr = false) (hd : d < 200000) : (ev fr x).refs d = false := by
  cases x with
  | tmp t =>
    simp only [ev]
    by_cases ht : t < fr.length
    · simp only [frRefs, List.any_eq_false] at hf
      simpa using hf _ (Fr.get_mem ht)
    · rw [Fr.get_out fr t (Nat.le_of_not_lt ht)]; rfl
  | const v =>
    simp only [ev]
    have h1 : ∀ c, (AC.ofConst c).refs d = false := by intro c; cases c <;> rfl
    cases v <;> simp only [AV.ofConst] <;> first
      | exact h1 _
      | rfl
      | (split
         · simp only [AV.refs, segsRefs, List.any_cons, Seg.refs, List.any_nil, Bool.or_false, cellsOf, List.any_map, List.any_eq_false]
           intro c _; simpa using h1 c
         · rfl)
  | global g => simp only [ev, AV.refs, AC.refs, gname, beq_eq_false_iff_ne]; omega
  | func f => rfl
theorem zero_refs {t : TypeId} {s : List Seg} (h : zeroSegs P t = some s) (d : Nat) : segsRefs d s = false := by
 obtain ⟨_, _, z, _, _, hf⟩ := zeroSegs_sound h
 unfold zeroSegs at h
 split at h <;> try (cases h; done)
 split at h <;> try (cases h; done)
 rename_i hb
 simp only [Option.some.injEq] at h
 subst h
 simp only [Bool.and_eq_true] at hb
 have key : ∀ {l : List AC} {c : List Value}, flatIs l c = true → l.any (AC.refs d) = false := by
  intro l
  induction l with
  | nil => intro c _; rfl
  | cons x l ih =>
   intro c h
   cases c with
   | nil => simp [flatIs] at h
   | cons v c =>
    simp only [flatIs, Bool.and_eq_true] at h
    simp only [List.any_cons, ih h.2, Bool.or_false]
    cases x <;> first | rfl | (exfalso; cases v <;> simp [acIs] at h)
 have h2 := key hb.2
 have flatRefs : ∀ {s : List Seg}, (flat s).any (AC.refs d) = false → segsRefs d s = false := by
  intro s
  induction s with
  | nil => intro _; rfl
  | cons x r ih =>
   intro h
   simp only [flat, List.any_append, Bool.or_eq_false_iff] at h
   simp only [segsRefs, List.any_cons, Bool.or_eq_false_iff]
   refine ⟨?_, ih h.2⟩
   cases x <;> first | rfl | exact h.1
 exact flatRefs h2
theorem newx_sound {o : Oper} {T : TypeId} {s : List Seg} {c : List Value} {K : AV → Mem → Prop} (h : newx o.dst fr σ (.own T s) fun n σ' => K (.one (.ptr n 0 0)) σ') (hR : Rep E ρ fr σ a w) (ho : segsOk s) (hs : ∀ d, d < 200000 → frRefs d fr = false → segsRefs d s = false) (hf : FRep ρ (flat s) c) :
  ∃ d σ' ρ', o.dst = some d ∧ K (.one (.ptr d 0 0)) σ' ∧ SRep ρ' (.one (.ptr d 0 0)) (.pointer (some ⟨w.heap.size, 0, none⟩)) ∧ Rep E ρ' fr σ' a (World.with w (.cells c.toArray T)) ∧ (∀ n, n ≠ d → ρ' n = ρ n) ∧ (∀ m b, Mem.find σ m = some b → Mem.find σ' m = some b) ∧ isHeap d = false := by
 unfold newx at h
 split at h <;> try exact h.elim
 rename_i d hd
 split at h <;> try exact h.elim
 rename_i hfr
 obtain ⟨h1, h2, h3⟩ := freshB_parts hfr
 exact ⟨d, _, _, hd, h, by simp [SRep, CRep, at_, upd_eq, newLoc], (new_sound hR hfr ho (hs d h1 h2) hf).find_eq (find_ins h3), fun n hn => upd_ne hn, ins_old hfr, isHeap_no (Or.inl (by omega))⟩
theorem newx_open {dst : Option Tmp} {b : Blk} {K : Nat → Mem → Prop} (h : newx dst fr σ b K) : ∃ d, dst = some d ∧ freshB d fr σ = true ∧ K d (Mem.ins d b σ) := by
 unfold newx at h
 split at h <;> try exact h.elim
 rename_i d
 split at h <;> try exact h.elim
 rename_i hfr
 exact ⟨d, rfl, hfr, h⟩
theorem with_keeps (o : Obj) : Keeps (fun _ => False) w (World.with w o) := ⟨rfl, rfl, rfl, by rw [with_size]; omega, fun k hk _ => with_old hk⟩
theorem run_newVar (T : TypeId) (v : Value) : (newVar T v).run P w = .ok ⟨w.heap.size, 0, none⟩ (World.with w (.cells v.cells T)) := by
 simp [newVar, newRow, newObj, Sem.run, World.with, pure, Bind.bind, Sem.bind]
def Leaves (Γ : Gam) (ρ ρ' : Rho) (fr : Fr) (op : Op) (σ σ' : Mem) (w w' : World) : Prop :=
 (modOp Γ op = false → Keeps (fun _ => False) w w' ∧ (∀ m b, Mem.find σ m = some b → Mem.find σ' m = some b) ∧ ∀ n, isHeap n = true → ρ' n = ρ n) ∧
 ∀ T x y n m, op = .store T x y → addrName (ev fr x) = some n → n ≠ m → ρ' m = ρ m ∧ ∀ b, Mem.find σ m = some b → (∀ k, Foot ρ m b k → w'.heap[k]? = w.heap[k]?) ∧ Mem.find σ' m = some b
theorem Leaves.of {ρ' : Rho} {op : Op} {σ' : Mem} {w' : World} (h : modOp Γ op = false → Keeps (fun _ => False) w w' ∧ (∀ m b, Mem.find σ m = some b → Mem.find σ' m = some b) ∧ ∀ n, isHeap n = true → ρ' n = ρ n) (hs : ∀ T x y, op ≠ .store T x y) : Leaves Γ ρ ρ' fr op σ σ' w w' :=
 ⟨h, fun T x y n m q => absurd q (hs T x y)⟩
theorem mapx_sound {o : Oper} {K : AV → Mem → Prop} {next : Act → World → Prop} {Q : Exit → Act → World → Prop} (h : mapx P o.op o.dst fr σ K) (hR : Rep E ρ fr σ a w)
  (hn : ∀ v av σ' ρ' w', K av σ' → SRep ρ' av v → Rep E ρ' fr σ' a w' → w.heap.size ≤ w'.heap.size → (modOp Γ o.op = false → ∀ n, isHeap n = false → n ∉ newNames Γ fr o.op o.dst → ρ' n = ρ n) → Leaves Γ ρ ρ' fr o.op σ σ' w w' → next (a.put o.dst v) w') : o.wp P a w next Q := by
 have Ev := fun x => ev_sound hR.glob hR.fr x
 have made : ∀ {t : TypeId} {r : Option Operand}, o.op = .makeMap t r → makeMapx P t o.dst fr σ K → (execOp a.eval o).run P w = .ok (.value (.map (some w.heap.size))) (World.with w (.map #[] 0)) → o.wp P a w next Q := by
  intro t r hop h hrun
  unfold Oper.wp
  unfold makeMapx at h
  split at h <;> try exact h.elim
  split at h <;> try exact h.elim
  rename_i kk m hk h0
  obtain ⟨d, hd, hfr, hK⟩ := newx_open h
  have hR' := (map_new (kk := kk) hR hfr (fun ρ => mapNil_nil h0 ρ kk) (dense_nil _)).find_eq (find_ins (freshB_parts hfr).2.2)
  rw [hrun]
  simp only [Oper.upon]
  refine hn _ _ _ _ _ hK (by simp [SRep, CRep, upd_eq, newLoc]) hR' (by rw [with_size]; omega) (fun _ n _ hn' => upd_ne ?_) (.of (fun _ => ⟨with_keeps _, ins_old hfr, fun n hh => upd_ne (by have := isHeap_le hh; have := (freshB_parts hfr).1; omega)⟩) fun _ _ _ q => by rw [hop] at q; cases q)
  simp only [newNames, hop, hd, List.mem_singleton] at hn'
  exact hn'
 unfold mapx at h
 split at h
 ·rename_i t hop
  exact made hop h (by simp [execOp, hop, Instr.makeMap, newObj, Sem.run, World.with])
 ·rename_i t r hop
  split at h <;> try exact h.elim
  rename_i k n hr
  have vr : a.eval r = .int k n := by have := Ev r; rw [hr] at this; exact this
  have hm := h
  unfold makeMapx at hm
  split at hm <;> try exact hm.elim
  rename_i kt e hu
  exact made hop h (by simp [execOp, hop, vr, Instr.makeMap, run_underlying hu, asInt, asIntOf, newObj, Sem.run, World.with, Result.andThen])
 ·rename_i t x i ok hop
  obtain ⟨n, kk, m, kt, e, es, clock, m0, hf, hv, hu, hk, h0, hl, hb, hM, hD, h⟩ := mapAt_sound h hR.mem (Ev x)
  split at h <;> try exact h.elim
  rename_i key hkey
  have hkv := keyx_sound hkey (Ev i)
  obtain ⟨z, hz, hzz⟩ := mapNil_zero (P := P) h0 hl hR.mem
  have key : ∃ val, CRep ρ (m.get key) val ∧ (Instr.lookup t (.map (some (ρ n).1)) (a.eval i) ok).run P w = .ok (if ok then .tuple #[val, .bool (m.has key)] else val) w := by
   cases m with
   | ints k l => exact look_gen (d := (0 : Int)) hu hk hkv hb hM hz hzz ok
   | strs l => exact look_gen (d := ByteArray.empty) hu hk hkv hb hM hz hzz ok
   | hss k l => exact look_gen (d := hs0) hu hk hkv hb hM hz hzz ok
  obtain ⟨val, hval, hrun0⟩ := key
  have hrun : (execOp a.eval o).run P w = .ok (.value (if ok then .tuple #[val, .bool (m.has key)] else val)) w := by
   simp [execOp, hop, hv, hrun0]
  unfold Oper.wp
  rw [hrun]
  simp only [Oper.upon]
  have leaves : Leaves Γ ρ ρ fr o.op σ σ w w := .of (fun _ => ⟨Keeps.refl _ _, fun _ _ q => q, fun _ _ => rfl⟩) fun _ _ _ q => by rw [hop] at q; cases q
  cases ok with
  | true =>
   refine hn _ _ σ ρ w h ⟨[val, .bool (m.has key)], rfl, rfl, fun j u v' hj hv' => ?_⟩ hR (Nat.le_refl _) (fun _ _ _ _ => rfl) leaves
   match j with
   | 0 => simp at hj hv'; subst hj hv'; exact hval
   | 1 => simp at hj hv'; subst hj hv'; exact rfl
   | j + 2 => simp at hj
  | false => exact hn _ _ σ ρ w h hval hR (Nat.le_refl _) (fun _ _ _ _ => rfl) leaves
 ·rename_i t x i v hop
  obtain ⟨n, kk, m, kt, e, es, clock, m0, hf, hv, hu, hk, h0, hl, hb, hM, hD, h⟩ := mapAt_sound h hR.mem (Ev x)
  split at h <;> try exact h.elim
  rename_i key hkey
  have hkv := keyx_sound hkey (Ev i)
  split at h <;> try exact h.elim
  rename_i m' hput
  have E2 := Ev v
  have key : ∃ es' clock', (Instr.mapUpdate t (.map (some (ρ n).1)) (a.eval i) (a.eval v)).run P w = .ok () { w with heap := w.heap.setIfInBounds (ρ n).1 (.map es' clock') } ∧ MRep ρ kk m' es'.toList ∧ Dense m' es'.toList clock' := by
   cases m with
   | ints k l =>
    simp only [MVs.put] at hput
    split at hput <;> try (cases hput; done)
    rename_i k' x' hx'
    split at hput <;> cases hput
    rename_i ek
    subst ek
    rw [hx'] at E2
    obtain ⟨es', c', g1, g2, _⟩ := update_gen hu hk hkv hb hM E2
    exact ⟨es', c', g1, g2, trivial⟩
   | strs l =>
    simp only [MVs.put] at hput
    split at hput <;> cases hput
    rename_i x' hx'
    rw [hx'] at E2
    obtain ⟨es', c', g1, g2, _⟩ := update_gen hu hk hkv hb hM E2
    exact ⟨es', c', g1, g2, trivial⟩
   | hss k l =>
    simp only [MVs.put] at hput
    split at hput <;> try (cases hput; done)
    rename_i k' j o' n' hx'
    split at hput <;> cases hput
    rename_i ek
    subst ek
    rw [hx'] at E2
    obtain ⟨es', c', g1, g2, g3⟩ := update_gen (x := (⟨j, o', n'⟩ : HS)) hu hk hkv hb hM E2
    exact ⟨es', c', g1, g2, g3 _ _ hD⟩
  obtain ⟨es', clock', hrun0, hM', hD'⟩ := key
  have hrun : (execOp a.eval o).run P w = .ok .skip { w with heap := w.heap.setIfInBounds (ρ n).1 (.map es' clock') } := by
   simp [execOp, hop, hv, hrun0]
  unfold Oper.wp
  rw [hrun]
  simp only [Oper.upon]
  exact hn _ (.tup []) _ ρ _ h ⟨[], rfl, rfl, fun j t u hj => by simp at hj⟩ (map_change hR hf hb hM' hD') (by simp) (fun _ _ _ _ => rfl) (.of (fun q => by simp [modOp, hop] at q) fun _ _ _ q => by rw [hop] at q; cases q)
 ·rename_i t x i hop
  obtain ⟨n, kk, m, kt, e, es, clock, m0, hf, hv, hu, hk, h0, hl, hb, hM, hD, h⟩ := mapAt_sound h hR.mem (Ev x)
  split at h <;> try exact h.elim
  rename_i key k l hkey
  have hkv := keyx_sound hkey (Ev i)
  obtain ⟨z, hz, hzz⟩ := mapNil_zero (P := P) h0 hl hR.mem
  obtain ⟨es', clock', val, hrun0, hval, hM', hD'⟩ := entry_gen hu hk hkv hb hM hD hz hzz
  have hrun : (execOp a.eval o).run P w = .ok (.value (.tuple #[val, .int .i64 (ofNat (mix l key))])) { w with heap := w.heap.setIfInBounds (ρ n).1 (.map es' clock') } := by
   simp [execOp, hop, hv, hrun0]
  unfold Oper.wp
  rw [hrun]
  simp only [Oper.upon]
  refine hn _ _ _ ρ _ h ⟨[val, .int .i64 (ofNat (mix l key))], rfl, rfl, fun j u v' hj hv' => ?_⟩ (map_change hR hf hb hM' hD') (by simp) (fun _ _ _ _ => rfl) (.of (fun q => by simp [modOp, hop] at q) fun _ _ _ q => by rw [hop] at q; cases q)
  match j with
  | 0 => simp at hj hv'; subst hj hv'; exact hval
  | 1 => simp at hj hv'; subst hj hv'; exact rfl
  | j + 2 => simp at hj
 ·rename_i t x s v hop
  have E1 := Ev x
  have E2 := Ev s
  have E3 := Ev v
  split at h <;> try exact h.elim
  rename_i n s' k' j o' c hx hs hv
  rw [hx] at E1; rw [hs] at E2; rw [hv] at E3
  split at h <;> try exact h.elim
  rename_i kk k l hf
  split at h <;> try exact h.elim
  rename_i ek
  subst ek
  obtain ⟨hin, h⟩ := h
  obtain ⟨es, clock, hb, hM, hD⟩ := hR.mem _ _ hf
  obtain ⟨es', hrun0, hM', hD'⟩ := store_gen (P := P) (t := t) (x := (⟨j, o', c⟩ : HS)) hb hM hD E3 hin
  have v1 : a.eval x = .map (some (ρ n).1) := E1
  have v2 : a.eval s = .int .i64 s' := E2
  have hrun : (execOp a.eval o).run P w = .ok .skip { w with heap := w.heap.setIfInBounds (ρ n).1 (.map es' clock) } := by
   simp [execOp, hop, v1, v2, hrun0]
  unfold Oper.wp
  rw [hrun]
  simp only [Oper.upon]
  exact hn _ (.tup []) _ ρ _ h ⟨[], rfl, rfl, fun j t u hj => by simp at hj⟩ (map_change hR hf hb hM' hD') (by simp) (fun _ _ _ _ => rfl) (.of (fun q => by simp [modOp, hop] at q) fun _ _ _ q => by rw [hop] at q; cases q)
 ·rename_i args argTypes hop
  split at h <;> try exact h.elim
  rename_i x i t t2 hx ht
  have ea : args = #[x, i] := by rw [← Array.toArray_toList (xs := args), hx]
  have et : argTypes = #[t, t2] := by rw [← Array.toArray_toList (xs := argTypes), ht]
  subst ea et
  obtain ⟨n, kk, m, kt, e, es, clock, m0, hf, hv, hu, hk, h0, hl, hb, hM, hD, h⟩ := mapAt_sound h hR.mem (Ev x)
  split at h <;> try exact h.elim
  rename_i key hkey
  have hkv := keyx_sound hkey (Ev i)
  split at h <;> try exact h.elim
  rename_i hnh
  have key : ∃ es', (Builtin.delete_ #[t, t2] o.type #[.map (some (ρ n).1), a.eval i]).run P w = .ok (.tuple #[]) { w with heap := w.heap.setIfInBounds (ρ n).1 (.map es' clock) } ∧ MRep ρ kk (m.del key) es'.toList ∧ Dense (m.del key) es'.toList clock := by
   cases m with
   | ints k l => obtain ⟨es', g1, g2⟩ := delete_gen (t2 := t2) (ot := o.type) hu hk hkv hb hM; exact ⟨es', g1, g2, trivial⟩
   | strs l => obtain ⟨es', g1, g2⟩ := delete_gen (t2 := t2) (ot := o.type) hu hk hkv hb hM; exact ⟨es', g1, g2, trivial⟩
   | hss k l => exact absurd rfl (hnh k l)
  obtain ⟨es', hrun0, hM', hD'⟩ := key
  have hrun : (execOp a.eval o).run P w = .ok (.value (.tuple #[])) { w with heap := w.heap.setIfInBounds (ρ n).1 (.map es' clock) } := by
   simp [execOp, hop, resolve, invoke, builtin, hv, hrun0]
  unfold Oper.wp
  rw [hrun]
  simp only [Oper.upon]
  exact hn _ (.tup []) _ ρ _ h ⟨[], rfl, rfl, fun j t u hj => by simp at hj⟩ (map_change hR hf hb hM' hD') (by simp) (fun _ _ _ _ => rfl) (.of (fun q => by simp [modOp, hop] at q) fun _ _ _ q => by rw [hop] at q; cases q)
 ·rename_i args argTypes hop
  split at h <;> try exact h.elim
  rename_i x t hx ht
  have ea : args = #[x] := by rw [← Array.toArray_toList (xs := args), hx]
  have et : argTypes = #[t] := by rw [← Array.toArray_toList (xs := argTypes), ht]
  subst ea et
  obtain ⟨n, kk, m, kt, e, es, clock, m0, hf, hv, hu, hk, h0, hl, hb, hM, hD, h⟩ := mapAt_sound h hR.mem (Ev x)
  have hlen : m.len = es.size := by
   cases m with
   | ints k l => exact hM.len
   | strs l => exact hM.len
   | hss k l => exact hM.len
  have hrun : (execOp a.eval o).run P w = .ok (.value (.int .i64 (ofNat m.len))) w := by
   simp [execOp, hop, resolve, invoke, builtin, hv, Builtin.len_, run_underlying hu, Result.andThen, MapKept.run_getObj_map hb, goInt, hlen, ofNat]
  unfold Oper.wp
  rw [hrun]
  simp only [Oper.upon]
  exact hn _ (.one (.int .i64 (ofNat m.len))) σ ρ w h rfl hR (Nat.le_refl _) (fun _ _ _ _ => rfl) (.of (fun _ => ⟨Keeps.refl _ _, fun _ _ q => q, fun _ _ => rfl⟩) fun _ _ _ q => by rw [hop] at q; cases q)
 ·exact h.elim
theorem effx_sound {o : Oper} {K : AV → Mem → Prop} {next : Act → World → Prop} {Q : Exit → Act → World → Prop} (h : effx P Γ o.op o.dst fr σ K) (hΓ : GoodG P Γ) (hR : Rep E ρ fr σ a w)
    (hn : ∀ v av σ' ρ' w', K av σ' → SRep ρ' av v → Rep E ρ' fr σ' a w' → w.heap.size ≤ w'.heap.size → (modOp Γ o.op = false → ∀ n, isHeap n = false → n ∉ newNames Γ fr o.op o.dst → ρ' n = ρ n) → Leaves Γ ρ ρ' fr o.op σ σ' w w' → next (a.put o.dst v) w') : o.wp P a w next Q := by
  have Ev := fun x => ev_sound hR.glob hR.fr x
  unfold Oper.wp
  unfold effx at h
  split at h
  · rename_i T hop
    split at h <;> try exact h.elim
    rename_i s hs
    obtain ⟨ho, i, z, hi, hz, hf⟩ := zeroSegs_sound hs
    obtain ⟨d, σ', ρ', e1, e2, e3, e4, e5, e6, e7⟩ := newx_sound (c := z.cells.toList) h hR ho (fun d _ _ => zero_refs hs d) (hf ρ)
    have hrun : (execOp a.eval o).run P w = .ok (.value (.pointer (some ⟨w.heap.size, 0, none⟩))) (World.with w (.cells z.cells T)) := by
      simp [execOp, hop, Instr.alloc, zeroValue, typeInfo, hi, hz, run_newVar]
    rw [hrun]
    simp only [Oper.upon]
    refine hn _ _ σ' ρ' _ e2 e3 (by simpa using e4) (by rw [with_size]; omega) (fun _ n _ hn' => e5 n ?_) (.of (fun _ => ⟨with_keeps _, e6, fun n hh => e5 n (fun q => by subst q; rw [hh] at e7; cases e7)⟩) fun _ _ _ q => by rw [hop] at q; cases q)
    simp only [newNames, hop, e1, List.mem_singleton] at hn'
    exact hn'
  · rename_i T x hop
    split at h <;> try exact h.elim
    rename_i s hs
    obtain ⟨ho, hf⟩ := AV.segs_sound hs (Ev x)
    obtain ⟨d, σ', ρ', e1, e2, e3, e4, e5, e6, e7⟩ := newx_sound (c := (a.eval x).cells.toList) h hR ho (fun d hd hfr => segs_refs hs d (ev_refs hfr hd)) hf
    have hrun : (execOp a.eval o).run P w = .ok (.value (.pointer (some ⟨w.heap.size, 0, none⟩))) (World.with w (.cells (a.eval x).cells T)) := by
      simp [execOp, hop, Instr.box, run_newVar]
    rw [hrun]
    simp only [Oper.upon]
    refine hn _ _ σ' ρ' _ e2 e3 (by simpa using e4) (by rw [with_size]; omega) (fun _ n _ hn' => e5 n ?_) (.of (fun _ => ⟨with_keeps _, e6, fun n hh => e5 n (fun q => by subst q; rw [hh] at e7; cases e7)⟩) fun _ _ _ q => by rw [hop] at q; cases q)
    simp only [newNames, hop, e1, List.mem_singleton] at hn'
    exact hn'
  · rename_i T x y hop
    have E1 := Ev x
    split at h <;> try exact h.elim
    · rename_i n base idx hx
      rw [hx] at E1
      have hv : a.eval x = .pointer (some (at_ ρ n (base + idx))) := E1
      obtain ⟨w', σ', bk, e1, e0, e2, e3, e4, e5, e6, e7⟩ := storex_sound h hR (Ev y)
      have hrun : (execOp a.eval o).run P w = .ok .skip w' := by
        simp [execOp, hop, Instr.storeAt, hv, Instr.sureAddr, e1]
      rw [hrun]
      simp only [Oper.upon]
      exact hn _ (.tup []) σ' ρ w' e3 ⟨[], rfl, rfl, fun j t u hj => by simp at hj⟩ e2 (by omega) (fun _ _ _ _ => rfl) ⟨fun hm => by simp [modOp, hop] at hm, fun T' x' y' n' m q1 q2 q3 => ⟨rfl, fun b hb => by
        rw [hop] at q1; cases q1
        rw [hx] at q2; cases q2
        exact ⟨fun k hk => e4 k (fun e => by subst e; exact hR.sep.1 n m bk b _ e6 hb q3 e7 hk), by rw [e5 m (Ne.symm q3)]; exact hb⟩⟩⟩
    · rename_i n z i b0 j hx
      rw [hx] at E1
      split at h
      · obtain ⟨A, w', σ', bk, ρ2, hv, e1, e0, e2, e3, e4, e5, e6, e7, e8⟩ := storeS_sound h hR (Ev y) E1
        have hrun : (execOp a.eval o).run P w = .ok .skip w' := by
          simp [execOp, hop, Instr.storeAt, hv, Instr.sureAddr, e1]
        rw [hrun]
        simp only [Oper.upon]
        exact hn _ (.tup []) σ' ρ2 w' e3 ⟨[], rfl, rfl, fun j t u hj => by simp at hj⟩ e2 (by omega) (fun hm => by simp [modOp, hop] at hm) ⟨fun hm => by simp [modOp, hop] at hm, fun T' x' y' n' m q1 q2 q3 => ⟨e8 m (by rw [hop] at q1; cases q1; rw [hx] at q2; cases q2; exact Ne.symm q3), fun b hb => by
          rw [hop] at q1; cases q1
          rw [hx] at q2; cases q2
          exact ⟨fun k hk => e4 k (fun e => by subst e; exact hR.sep.1 n m bk b _ e6 hb q3 e7 hk), by rw [e5 m (Ne.symm q3)]; exact hb⟩⟩⟩
      · obtain ⟨A, w', σ', bk, hv, e1, e0, e2, e3, e4, e5, e6, e7⟩ := storeV_sound h hR (Ev y) E1
        have hrun : (execOp a.eval o).run P w = .ok .skip w' := by
          simp [execOp, hop, Instr.storeAt, hv, Instr.sureAddr, e1]
        rw [hrun]
        simp only [Oper.upon]
        exact hn _ (.tup []) σ' ρ w' e3 ⟨[], rfl, rfl, fun j t u hj => by simp at hj⟩ e2 (by omega) (fun _ _ _ _ => rfl) ⟨fun hm => by simp [modOp, hop] at hm, fun T' x' y' n' m q1 q2 q3 => ⟨rfl, fun b hb => by
          rw [hop] at q1; cases q1
          rw [hx] at q2; cases q2
          exact ⟨fun k hk => e4 k (fun e => by subst e; exact hR.sep.1 n m bk b _ e6 hb q3 e7 hk), by rw [e5 m (Ne.symm q3)]; exact hb⟩⟩⟩
    · rename_i k0 j0 i0 hx
      rw [hx] at E1
      obtain ⟨A, w', σ', bk, g, hv, e1, e0, e2, e3, e4, e5, e6, e7⟩ := storeH_sound h hR (Ev y) E1
      have hrun : (execOp a.eval o).run P w = .ok .skip w' := by
        simp [execOp, hop, Instr.storeAt, hv, Instr.sureAddr, e1]
      rw [hrun]
      simp only [Oper.upon]
      exact hn _ (.tup []) σ' ρ w' e3 ⟨[], rfl, rfl, fun j t u hj => by simp at hj⟩ e2 (by omega) (fun _ _ _ _ => rfl) ⟨fun hm => by simp [modOp, hop] at hm, fun T' x' y' n' m q1 q2 q3 => ⟨rfl, fun b hb => by
        rw [hop] at q1; cases q1
        rw [hx] at q2; cases q2
        exact ⟨fun k hk => e4 k (fun e => by subst e; exact hR.sep.1 (hname k0) m bk b _ e6 hb q3 e7 hk), by rw [e5 m (Ne.symm q3)]; exact hb⟩⟩⟩
  · rename_i t l c hop
    split at h <;> try exact h.elim
    rename_i e hu
    split at h <;> try exact h.elim
    rename_i ks bytes kl A kc B hk hl hc
    obtain ⟨hmk, h⟩ := h
    obtain ⟨d, hd, hfr, hK⟩ := newx_open h
    have vl : a.eval l = .int kl A := by have := Ev l; rw [hl] at this; exact this
    have vc : a.eval c = .int kc B := by have := Ev c; rw [hc] at this; exact this
    obtain ⟨w', L, e1, e2, e3, e4⟩ := make_sound (kl := kl) (kc := kc) hR hu hk hmk hfr
    have hrun : (execOp a.eval o).run P w = .ok (.value (.slice L.a L.len L.cap)) w' := by
      simp [execOp, hop, vl, vc, e1]
    rw [hrun]
    simp only [Oper.upon]
    refine hn _ _ _ _ w' hK (by simp [SRep, CRep, upd_eq]) e4 e2 (fun _ n _ hn' => upd_ne ?_) (.of (fun _ => ⟨e3, ins_old hfr, fun n hh => upd_ne (by have := isHeap_le hh; have := (freshB_parts hfr).1; omega)⟩) fun _ _ _ q => by rw [hop] at q; cases q)
    simp only [newNames, hop, hd, List.mem_singleton] at hn'
    exact hn'
  · rename_i t len parts hop
    split at h <;> try exact h.elim
    rename_i e hu
    split at h <;> try exact h.elim
    rename_i ks bytes hk
    split at h <;> try exact h.elim
    rename_i hle
    obtain ⟨cs, σ1, h, hR1, hlit⟩ := literal_sound (d := o.dst.getD 0) (ps := parts.map fun (i, x) => (i, a.eval x)) hR hu hk (Nat.le_of_ble_eq_true hle) h (by simp) (by
      intro j p q h1 h2
      simp only [List.getElem?_map, Option.map_eq_some_iff, Array.toList_map] at h1 h2
      obtain ⟨p', e1, rfl⟩ := h1
      obtain ⟨q', e2, rfl⟩ := h2
      rw [e1] at e2; cases e2
      exact ⟨rfl, Ev _⟩)
    obtain ⟨d, hd, hfr, hK⟩ := newx_open h
    obtain ⟨v, w', L, e1, rfl, e2, e4⟩ := hlit (by rw [hd]; exact hfr)
    have hrun : (execOp a.eval o).run P w = .ok (.value (.slice L.a L.len L.cap)) w' := by
      simp [execOp, hop, e1]
    rw [hrun]
    simp only [Oper.upon]
    rw [hd] at e4
    refine hn _ _ _ _ w' hK (by simp [SRep, CRep, upd_eq]) e4 e2 (fun _ n _ hn' => upd_ne ?_) (.of (fun q => by simp [modOp, hop] at q) fun _ _ _ q => by rw [hop] at q; cases q)
    simp only [newNames, hop, hd, List.mem_singleton] at hn'
    exact hn'
  · rename_i s d x hop
    have E1 := Ev x
    unfold textx at h
    split at h
    · rename_i b hx
      rw [hx] at E1
      have hv : a.eval x = .string b := E1
      split at h <;> try exact h.elim
      · rename_i h1 h2
        have hrun : (execOp a.eval o).run P w = .ok (.value (.string b)) w := by
          have g1 := strT_sound h1
          have g2 := strT_sound h2
          simp [execOp, hop, hv, convert, run_underlying g1, run_underlying g2]
        rw [hrun]
        simp only [Oper.upon]
        exact hn _ (.one (.str b)) σ ρ w h rfl hR (Nat.le_refl _) (fun _ _ _ _ => rfl) (.of (fun _ => ⟨Keeps.refl _ _, fun _ _ q => q, fun _ _ => rfl⟩) fun _ _ _ q => by rw [hop] at q; cases q)
      · rename_i h1 h2 h3
        obtain ⟨e, g2, g3, _⟩ := bytesT_sound h3
        obtain ⟨dn, hd, hfr, hK⟩ := newx_open h
        obtain ⟨v, w', L, e1, rfl, e2, e3, e4⟩ := text_bytes (P := P) (b := b) hR (strT_sound h1) g2 g3 hfr
        have hrun : (execOp a.eval o).run P w = .ok (.value (.slice L.a L.len L.cap)) w' := by
          simp [execOp, hop, hv, e1]
        rw [hrun]
        simp only [Oper.upon]
        refine hn _ _ _ _ w' hK (by simp [SRep, CRep, upd_eq]) e4 e2 (fun _ n _ hn' => upd_ne ?_) (.of (fun _ => ⟨e3, ins_old hfr, fun n hh => upd_ne (by have := isHeap_le hh; have := (freshB_parts hfr).1; omega)⟩) fun _ _ _ q => by rw [hop] at q; cases q)
        simp only [newNames, hop, hd, List.mem_singleton] at hn'
        exact hn'
    · rename_i k n hx
      rw [hx] at E1
      obtain ⟨v, av, e1, e2, e3⟩ := convx_sound h E1
      have hrun : (execOp a.eval o).run P w = .ok (.value v) w := by
        simp [execOp, hop, e1]
      rw [hrun]
      simp only [Oper.upon]
      exact hn _ av σ ρ w e3 e2 hR (Nat.le_refl _) (fun _ _ _ _ => rfl) (.of (fun _ => ⟨Keeps.refl _ _, fun _ _ q => q, fun _ _ => rfl⟩) fun _ _ _ q => by rw [hop] at q; cases q)
    · split at h
      · rename_i hsd
        have hsd : s = d := beq_nat hsd
        subst hsd
        split at h <;> try exact h.elim
        rename_i n hx
        rw [hx] at E1
        split at h <;> try exact h.elim
        rename_i l h1 hf
        obtain ⟨hin, hK⟩ := h
        obtain ⟨e, g2, g3, _⟩ := bytesT_sound h1
        have hv : a.eval x = .slice (ρ n).a (ρ n).len (ρ n).cap := E1
        obtain ⟨w', e1, e2, e3⟩ := mark_sound (P := P) hR hf (by have := hin.hi; simp only [llen] at this; omega) g2 g3
        have hrun : (execOp a.eval o).run P w = .ok (.value (.slice (ρ n).a (ρ n).len (ρ n).cap)) w' := by
          simp [execOp, hop, hv, e1]
        rw [hrun]
        simp only [Oper.upon]
        exact hn _ (.one (.vec n)) _ ρ w' hK rfl e3 (Nat.le_of_eq e2.symm) (fun _ _ _ _ => rfl) (.of (fun q => by simp [modOp, hop] at q) fun _ _ _ q => by rw [hop] at q; cases q)
      · split at h <;> try exact h.elim
        rename_i h1 h2
        obtain ⟨cs, L, hr, h⟩ := rdx_sound h Nat.one_pos hR.mem hR.sep E1
        split at h <;> try exact h.elim
        rename_i l
        obtain ⟨e, g2, g3, _⟩ := bytesT_sound h1
        have hrun : (execOp a.eval o).run P w = .ok (.value (.string (bytesOf l))) w := by
          simp [execOp, hop, bytes_text (P := P) hr g2 g3 (strT_sound h2)]
        rw [hrun]
        simp only [Oper.upon]
        exact hn _ (.one (.str (bytesOf l))) σ ρ w h rfl hR (Nat.le_refl _) (fun _ _ _ _ => rfl) (.of (fun _ => ⟨Keeps.refl _ _, fun _ _ q => q, fun _ _ => rfl⟩) fun _ _ _ q => by rw [hop] at q; cases q)
  · rename_i args argTypes hop
    split at h <;> try exact h.elim
    rename_i x y tx ty hx ht
    have ea : args = #[x, y] := by rw [← Array.toArray_toList (xs := args), hx]
    have et : argTypes = #[tx, ty] := by rw [← Array.toArray_toList (xs := argTypes), ht]
    subst ea et
    unfold appendx at h
    split at h <;> try exact h.elim
    rename_i e hu
    split at h <;> try exact h.elim
    rename_i ks bytes hk
    split at h <;> try exact h.elim
    rename_i hseq
    obtain ⟨_, _, _, _, _, _, hwid, _⟩ := elemKinds_sound hk
    split at h
    · rename_i k j0 off len hxe
      have key : ∃ os, Mem.heap σ k = some os ∧ ks = [.ints k] ∧ rdy σ ks (ev fr y) (fun cy => match cy with
            | [.ints k' src] => if k' = k then Room (nadd len (llen src)) bytes ∧ ∀ os' j' off', AppR os j0 off len src os' j' off' → K (.one (.hs k j' off' (nadd len (llen src)))) (σ.put (hname k) (.heap k os')) else False
            | _ => False) := by
        split at h <;> try exact h.elim
        split at h <;> try exact h.elim
        rename_i q
        subst q
        exact ⟨_, by assumption, rfl, h⟩
      clear h
      obtain ⟨os, ho, hks, h⟩ := key
      subst hks
      obtain ⟨cy, Ly, hG, h⟩ := rdy_sound (P := P) (w := w) h hwid hR.mem hR.sep (Ev y) (seq_kind hseq)
      split at h <;> try exact h.elim
      rename_i k' src
      split at h <;> try exact h.elim
      rename_i hk'
      subst hk'
      obtain ⟨hroom, hall⟩ := h
      have E1 := Ev x
      rw [hxe] at E1
      obtain ⟨v, w', os', j', off', ρ', e1, e2, e3, e4, e5, e6⟩ := happend_sound (ot := o.type) hR hu hk ho E1 hG hroom
      have hrun : (execOp a.eval o).run P w = .ok (.value v) w' := by
        simp [execOp, hop, resolve, invoke, builtin, e1]
      rw [hrun]
      simp only [Oper.upon]
      exact hn _ (.one _) _ ρ' w' (hall _ _ _ e2) e6 e4 e3 (fun _ n hh _ => e5 n hh) (.of (fun q => by simp [modOp, hop] at q) fun _ _ _ q => by rw [hop] at q; cases q)
    · obtain ⟨cy, Ly, hG, h⟩ := rdy_sound (P := P) (w := w) h hwid hR.mem hR.sep (Ev y) (seq_kind hseq)
      obtain ⟨cx, Lx, σ1, hT, h⟩ := takex_sound h hwid hR.mem hR.sep (Ev x)
      split at h <;> try exact h.elim
      rename_i hkd
      rw [Bool.and_eq_true, Bool.and_eq_true] at hkd
      obtain ⟨⟨hk1, hk2⟩, hk3⟩ := hkd
      have hk1 := kdsEq_eq hk1
      have hk2 := kdsEq_eq hk2
      have hne : ∀ {cs : List Col}, kdsOf cs = ks → cs ≠ [] := fun q e => by rw [e] at q; subst q; exact absurd hwid (by decide)
      obtain ⟨hroom, h⟩ := h
      obtain ⟨d, hd, hfr, hK⟩ := newx_open h
      have cl : ∀ {cs : List Col}, clen (cs.map (Col.asH σ)) = clen cs := fun {cs} => by
        cases cs with
        | nil => rfl
        | cons c r =>
          cases c with
          | rows k l => cases l with
            | nil => simp only [List.map_cons, Col.asH]; split <;> rfl
            | cons _ _ => simp only [List.map_cons, Col.asH]; split <;> rfl
          | _ => rfl
      obtain ⟨v, w', L, e1, rfl, e2, e4⟩ := append_sound (ot := o.type) hR hu hk (hT.asH (σ' := σ)) (hG.asH (σ' := σ)) (by rw [asH_kds]; exact hk1) (by rw [asH_kds]; exact hk2) hk3 (by rw [cl, cl]; exact hroom) hfr
      have hrun : (execOp a.eval o).run P w = .ok (.value (.slice L.a L.len L.cap)) w' := by
        simp [execOp, hop, resolve, invoke, builtin, e1]
      rw [hrun]
      simp only [Oper.upon]
      refine hn _ _ _ _ w' hK (by simp [SRep, CRep, upd_eq]) e4 e2 (fun _ n _ hn' => upd_ne ?_) (.of (fun q => by simp [modOp, hop] at q) fun _ _ _ q => by rw [hop] at q; cases q)
      simp only [newNames, hop, hd, List.mem_singleton] at hn'
      exact hn'
  · rename_i args argTypes hop
    split at h <;> try exact h.elim
    rename_i x y tx ty hx ht
    have ea : args = #[x, y] := by rw [← Array.toArray_toList (xs := args), hx]
    have et : argTypes = #[tx, ty] := by rw [← Array.toArray_toList (xs := argTypes), ht]
    subst ea et
    split at h <;> try exact h.elim
    rename_i hseq
    obtain ⟨m, w', σ', e1, e2, e3, hK⟩ := copyx_sound (ot := o.type) h hR (Ev x) (Ev y) (seq_kind hseq)
    have hrun : (execOp a.eval o).run P w = .ok (.value (.int .i64 m)) w' := by
      simp [execOp, hop, resolve, invoke, builtin, e1]
    rw [hrun]
    simp only [Oper.upon]
    exact hn _ (.one (.int .i64 m)) σ' ρ w' hK rfl e3 e2 (fun _ _ _ _ => rfl) (.of (fun q => by simp [modOp, hop] at q) fun _ _ _ q => by rw [hop] at q; cases q)
  · rename_i f args argTypes hop
    have hargs : ∀ (j : Nat) x v, (args.toList.map (ev fr))[j]? = some x → (args.map a.eval)[j]? = some v → SRep ρ x v := by
      intro j x v h1 h2
      simp only [List.getElem?_map, Option.map_eq_some_iff, Array.getElem?_toList, Array.getElem?_map] at h1 h2
      obtain ⟨p, hp, rfl⟩ := h1
      obtain ⟨q, hq, rfl⟩ := h2
      rw [hp] at hq; cases hq
      exact Ev p
    split at h <;> try exact h.elim
    · rename_i g first capt hf
      split at h <;> try exact h.elim
      rename_i h1 h2
      have hv : a.eval f = .func (.func g) #[] #[] := by
        have := Ev f; rw [hf] at this; obtain ⟨e, _⟩ := this
        rw [e, ← Array.toArray_toList (xs := first), ← Array.toArray_toList (xs := capt), h1, h2]
      obtain ⟨s, d, hs, hd, hc⟩ := callx_sound (vals := args.map a.eval) h hΓ hR (by simp) hargs
      obtain ⟨_, fn, hfn, hname, hbody⟩ := hΓ g s hs
      have hrun : (execOp a.eval o).run P w = .ok (.enter g (args.map a.eval)) w := by
        cases hb : fn.body with
        | none => rw [hb] at hbody; cases hbody
        | some b => simp [execOp, hop, resolve, hv, Deferred.ofValue, invoke, callFunc, hfn, hname, hb]
      rw [hrun]
      simp only [Oper.upon]
      refine hc.mono ?_
      rintro e w' ⟨v, av, σ', ρ', rfl, hK, hav, hR', hsz, hρ, hk⟩
      refine hn v av σ' ρ' w' hK hav hR' hsz (fun _ n hh hn' => hρ n hh fun k hk' e => ?_) (.of (fun hm => hk ?_) fun _ _ _ q => by rw [hop] at q; cases q)
      · have hd' := hd (by omega)
        apply hn'
        simp only [newNames, hop, hd', hf, hs, List.mem_map, List.mem_range]
        exact ⟨k, hk', e.symm⟩
      · simp only [modOp, hop] at hm
        cases f <;> simp only [ev] at hf
        case func g' =>
          simp only [AV.one.injEq, AC.con.injEq, Value.func.injEq, Fn.func.injEq] at hf
          obtain ⟨rfl, _⟩ := hf
          simpa [hs] using hm
        all_goals (simp at hm)
    · rename_i g n b i hf
      have hv : a.eval f = .func (.func g) #[] #[.pointer (some (at_ ρ n (b + i)))] := by have := Ev f; rw [hf] at this; exact this
      obtain ⟨s, d, hs, hd, hc⟩ := callx_sound (vals := (args.map a.eval) ++ #[.pointer (some (at_ ρ n (b + i)))]) h hΓ hR (by simp) (by
        intro j x v h1 h2
        by_cases hj : j < args.size
        · rw [List.getElem?_append_left (by simpa using hj)] at h1
          rw [Array.getElem?_append_left (by simpa using hj)] at h2
          exact hargs j x v h1 h2
        · rw [List.getElem?_append_right (by simpa using hj)] at h1
          rw [Array.getElem?_append_right (by simpa using hj)] at h2
          simp only [List.length_map, Array.length_toList, Array.size_map] at h1 h2
          by_cases he : j - args.size = 0
          · rw [he] at h1 h2
            simp at h1 h2
            subst h1 h2; rfl
          · obtain ⟨q, hq⟩ : ∃ q, j - args.size = q + 1 := ⟨j - args.size - 1, by omega⟩
            rw [hq] at h1; simp at h1)
      obtain ⟨_, fn, hfn, hname, hbody⟩ := hΓ g s hs
      have hrun : (execOp a.eval o).run P w = .ok (.enter g ((args.map a.eval) ++ #[.pointer (some (at_ ρ n (b + i)))])) w := by
        cases hb : fn.body with
        | none => rw [hb] at hbody; cases hbody
        | some b => simp [execOp, hop, resolve, hv, Deferred.ofValue, invoke, callFunc, hfn, hname, hb]
      rw [hrun]
      simp only [Oper.upon]
      refine hc.mono ?_
      rintro e w' ⟨v, av, σ', ρ', rfl, hK, hav, hR', hsz, hρ, hk⟩
      refine hn v av σ' ρ' w' hK hav hR' hsz (fun _ n hh hn' => hρ n hh fun k hk' e => ?_) (.of (fun hm => hk ?_) fun _ _ _ q => by rw [hop] at q; cases q)
      · have hd' := hd (by omega)
        apply hn'
        simp only [newNames, hop, hd', hf, hs, List.mem_map, List.mem_range]
        exact ⟨k, hk', e.symm⟩
      · simp only [modOp, hop] at hm
        cases f <;> simp only [ev] at hf <;> simp at hm hf
  · exact mapx_sound h hR hn
end
section
variable {P : Program} {Γ : Gam} {E : Env} {ρ : Rho} {fr : Fr} {σ : Mem} {a : Act} {w : World}
theorem Rep.frame {fr' : Fr} (h : Rep E ρ fr σ a w) (hf : FrRep ρ fr' a.tmps) : Rep E ρ fr' σ a w := ⟨hf, h.df, h.mem, h.sep, h.fix, h.ext, h.own, h.keep⟩
theorem Rep.put {dst : Option Tmp} {x : AV} {v : Value} (h : Rep E ρ fr σ a w) (hx : SRep ρ x v) : Rep E ρ (fr.put dst x) σ (a.put dst v) w :=
 ⟨h.fr.put hx, by cases dst <;> exact h.df, h.mem, h.sep, h.fix, h.ext, h.own, h.keep⟩
theorem SRep.undef (ρ : Rho) : SRep ρ (.tup []) undef := ⟨[], rfl, rfl, fun j t u hj => by simp at hj⟩
theorem slot_bool {b : Bool} {t : Nat} (h : FrRep ρ fr a.tmps) (ht : fr.get t = .one (.bool b) ∨ fr.get t = .one (.lit b)) : a.tmps[t]? = some (.bool b) := by
 have hlt : t < fr.length := by
  rcases Nat.lt_or_ge t fr.length with q | q
  ·exact q
  ·rw [Fr.get_out fr t q] at ht; rcases ht with ht | ht <;> cases ht
 have hlt' : t < a.tmps.size := by rw [← h.1]; exact hlt
 have := h.2 t a.tmps[t] (Array.getElem?_eq_getElem hlt')
 rw [Array.getElem?_eq_getElem hlt']
 rcases ht with ht | ht <;> rw [ht] at this <;> exact congrArg some this
theorem set_lit {b : Bool} {t : Nat} (h : FrRep ρ fr a.tmps) (ht : fr.get t = .one (.bool b)) : FrRep ρ (Fr.set fr t (.one (.lit b))) a.tmps :=
 h.same fun v hv => by rw [slot_bool h (Or.inl ht)] at hv; cases hv; rfl
theorem eval_bool {b : Bool} {c : Operand} (hR : Rep E ρ fr σ a w) (h : ev fr c = .one (.bool b) ∨ ev fr c = .one (.lit b)) : a.eval c = .bool b := by
 have := ev_sound hR.glob hR.fr c
 rcases h with h | h <;> rw [h] at this <;> exact this
def Held (σ0 : Mem) (ρ0 : Rho) (w0 : World) (m : Nat) (w : World) : Prop := ∀ b, Mem.find σ0 m = some b → ∀ k, Foot ρ0 m b k → w.heap[k]? = w0.heap[k]?
theorem exec_det {o : Oper} {K : Fr → Mem → Prop} (h : execx P Γ o fr σ K) (he : isEff P o.op = false) (hR : Rep E ρ fr σ a w) :
    ∃ v fr', Rep E ρ fr' σ (a.put o.dst v) w ∧ K fr' σ ∧
      ((∀ w' : World, (execOp a.eval o).run P w' = .ok (.value v) w') ∨
       (∃ T x n b, o.op = .load T x ∧ addrName (ev fr x) = some n ∧ Mem.find σ n = some b ∧ ∀ w' : World, (∀ k, Foot ρ n b k → w'.heap[k]? = w.heap[k]?) → (execOp a.eval o).run P w' = .ok (.value v) w')) := by
  unfold execx at h
  rw [thawOp_id P (fun t l p q => by rw [q] at he; simp [isEff] at he)] at h
  simp only at h
  split at h
  · rename_i c x y hop
    unfold pickx at h
    have pk : ∀ {b : Bool} {fr1 : Fr} {x1 : AV}, a.eval c = .bool b → FrRep ρ fr1 a.tmps → SRep ρ x1 (if b then a.eval x else a.eval y) → K (fr1.put o.dst x1) σ →
        ∃ v fr', Rep E ρ fr' σ (a.put o.dst v) w ∧ K fr' σ ∧ ((∀ w' : World, (execOp a.eval o).run P w' = .ok (.value v) w') ∨ (∃ T x n b, o.op = .load T x ∧ addrName (ev fr x) = some n ∧ Mem.find σ n = some b ∧ ∀ w' : World, (∀ k, Foot ρ n b k → w'.heap[k]? = w.heap[k]?) → (execOp a.eval o).run P w' = .ok (.value v) w')) := by
      intro b fr1 x1 hb hf hx hK
      refine ⟨_, _, (hR.frame hf).put hx, hK, Or.inl fun w' => ?_⟩
      simp [execOp, hop, hb, asBool]
    have Ev := fun x => ev_sound hR.glob hR.fr x
    split at h <;> try exact h.elim
    · rename_i hc; exact pk (b := true) (eval_bool hR (Or.inr hc)) hR.fr (Ev x) h
    · rename_i hc; exact pk (b := false) (eval_bool hR (Or.inr hc)) hR.fr (Ev y) h
    · rename_i t hc
      split at h <;> try exact h.elim
      rename_i s
      have hs := set_lit hR.fr hc
      cases t with
      | true => exact pk (b := true) (eval_bool hR (Or.inl hc)) hs (Ev x) (h.1 rfl)
      | false => exact pk (b := false) (eval_bool hR (Or.inl hc)) hs (Ev y) (h.2 rfl)
  · rw [he] at h
    simp only at h
    by_cases hld : ∀ T x, o.op ≠ .load T x
    · obtain ⟨v, av, h1, h2, h3⟩ := pure_sound h hld hR.mem hR.fr hR.glob
      exact ⟨v, _, hR.put h2, h3, Or.inl h1⟩
    · simp only [Classical.not_forall, Classical.not_not] at hld
      obtain ⟨T, x, ho⟩ := hld
      obtain ⟨v, av, n, b, h1, h2, h3, h4, h5⟩ := load_sound h ho hR.mem hR.fr hR.glob
      exact ⟨v, _, hR.put h4, h5, Or.inr ⟨T, x, n, b, ho, h1, h2, h3⟩⟩
theorem det_facts {o : Oper} (he : isEff P o.op = false) : modOp Γ o.op = false := by
  cases hop : o.op <;> rw [hop] at he <;> first
    | rfl
    | (rename_i s d x
       show Nat.beq s d = false
       cases hq : Nat.beq s d with
       | false => rfl
       | true => exfalso; simp [isEff, hq] at he; done)
    | (exfalso; simp [isEff] at he; done)
    | (rename_i c; obtain ⟨callee, args, tys⟩ := c; cases callee <;> first
        | rfl
        | (exfalso; simp [isEff] at he; done)
        | (rename_i b; cases b <;> first | rfl | (exfalso; simp [isEff] at he; done)))
theorem exec_sound {o : Oper} {K : Fr → Mem → Prop} {next : Act → World → Prop} {Q : Exit → Act → World → Prop} (h : execx P Γ o fr σ K) (hΓ : GoodG P Γ) (hR : Rep E ρ fr σ a w)
  (hn : ∀ v fr' σ' ρ' w', K fr' σ' → Rep E ρ' fr' σ' (a.put o.dst v) w' → w.heap.size ≤ w'.heap.size → (modOp Γ o.op = false → ∀ n, isHeap n = false → n ∉ newNames Γ fr o.op o.dst → ρ' n = ρ n) → (∃ fr1, fr1 = fr ∧ Leaves Γ ρ ρ' fr1 o.op σ σ' w w') → next (a.put o.dst v) w') : o.wp P a w next Q := by
 cases he : isEff P o.op with
 | false =>
  obtain ⟨v, fr', h1, h2, h3⟩ := exec_det h he hR
  have hrun : (execOp a.eval o).run P w = .ok (.value v) w := by
   rcases h3 with h3 | ⟨T, x, n, b, _, _, _, h3⟩
   ·exact h3 w
   ·exact h3 w (fun _ _ => rfl)
  unfold Oper.wp
  rw [hrun]
  exact hn v fr' σ ρ w h2 h1 (Nat.le_refl _) (fun _ _ _ _ => rfl) ⟨fr, rfl, fun _ => ⟨Keeps.refl _ _, fun _ _ q => q, fun _ _ => rfl⟩, fun _ _ _ _ _ q => by rw [q] at he; cases he⟩
 | true =>
  by_cases hb : ∀ t l p, o.op ≠ .buildSlice t l p
  ·unfold execx at h
   rw [thawOp_id P hb] at h
   simp only at h
   split at h
   ·rename_i hop; rw [hop] at he; cases he
   ·rw [he] at h
    exact effx_sound h hΓ hR fun v av σ' ρ' w' hK hav hR' hsz hρ hk => hn v _ σ' ρ' w' hK (hR'.put hav) hsz hρ ⟨fr, rfl, hk⟩
  ·simp only [Classical.not_forall, Classical.not_not] at hb
   obtain ⟨t, l, p, hb⟩ := hb
   obtain ⟨ρ1, hR1, hρ1⟩ := thawOp_sound P o.op hR
   unfold execx at h
   simp only at h
   split at h
   ·rename_i hop; rw [hop] at he; cases he
   ·rw [he] at h
    exact effx_sound h hΓ hR1 fun v av σ' ρ' w' hK hav hR' hsz hρ hk => hn v _ σ' ρ' w' hK (hR'.put hav) hsz (fun q => (by rw [hb] at q; cases q)) ⟨fr, rfl, fun q => (by rw [hb] at q; cases q), fun T x y n m q => (by rw [hb] at q; cases q)⟩
theorem yielded_slot {ops : Array Oper} {j t : Nat} {b : Bool} (hd : (ops.toList[j]?).bind (·.dst) = some t) (ht : a.tmps[t]? = some (.bool b)) : yielded ops a.tmps j = some b := by
 unfold yielded
 simp only [Array.getElem?_toList] at hd
 rw [hd]
 simp [ht]
theorem step_cases {ops : Array Oper} {o : Oper} {K : Fr → Mem → Prop} (h : stepx P Γ ops.toList o fr σ K) (hR : Rep E ρ fr σ a w) :
  (Region.wanted o (yielded ops a.tmps) = true ∧ ∃ fr1, Rep E ρ fr1 σ a w ∧ execx P Γ o fr1 σ K ∧ (fr1 = fr ∨ ∃ t b, fr.get t = .one (.bool b) ∧ fr1 = fr.set t (.one (.lit b)))) ∨
  (Region.wanted o (yielded ops a.tmps) = false ∧ ∃ fr', Rep E ρ fr' σ (a.put o.dst undef) w ∧ K fr' σ) := by
 unfold stepx at h
 split at h
 ·rename_i hg
  exact Or.inl ⟨by simp [Region.wanted, hg], fr, hR, h, Or.inl rfl⟩
 ·rename_i j want hg
  split at h <;> try exact h.elim
  rename_i t hd
  have wt : ∀ {b : Bool}, a.tmps[t]? = some (.bool b) → Region.wanted o (yielded ops a.tmps) = (b == want) := fun hb => by
   simp [Region.wanted, hg, yielded_slot hd hb]
  split at h
  ·rename_i b hb
   have hs := slot_bool hR.fr (Or.inr hb)
   split at h
   ·rename_i hq; exact Or.inl ⟨by rw [wt hs]; exact hq, fr, hR, h, Or.inl rfl⟩
   ·rename_i hq; exact Or.inr ⟨by rw [wt hs]; exact hq, _, hR.put (SRep.undef ρ), h⟩
  ·rename_i b hb
   have hs := slot_bool hR.fr (Or.inl hb)
   have hl := hR.frame (set_lit hR.fr hb)
   by_cases hq : b = want
   ·subst hq
    exact Or.inl ⟨by rw [wt hs]; simp, _, hl, h.1 rfl, Or.inr ⟨t, _, hb, rfl⟩⟩
   ·have hq' : b = !want := by cases b <;> cases want <;> simp_all
    subst hq'
    exact Or.inr ⟨by rw [wt hs]; cases want <;> rfl, _, hl.put (SRep.undef ρ), h.2 rfl⟩
  ·rename_i ht
   have hw : Region.wanted o (yielded ops a.tmps) = false := by
    have hy : yielded ops a.tmps j = none := by
     unfold yielded
     simp only [Array.getElem?_toList] at hd
     rw [hd]
     simp only [Option.bind_some]
     cases hq : a.tmps[t]? with
     | none => rfl
     | some v =>
      have := hR.fr.2 t v hq
      rw [ht] at this
      obtain ⟨us, rfl, _, _⟩ := this
      rfl
    simp [Region.wanted, hg, hy]
   exact Or.inr ⟨hw, _, hR.put (SRep.undef ρ), h⟩
  ·exact h.elim
end
section
variable {P : Program} {Γ : Gam} {E : Env}
theorem opsx_sound {ops : Array Oper} {K : Fr → Mem → Prop} {Q : Exit → Act → World → Prop} (hΓ : GoodG P Γ) (hQ : ∀ ρ fr σ a w, Rep E ρ fr σ a w → K fr σ → Q .normal a w) :
  ∀ (l : List Oper) (k : Nat) (ρ : Rho) (fr : Fr) (σ : Mem) (a : Act) (w : World), (∀ j, l[j]? = ops[k + j]?) → opsx P Γ ops.toList K l fr σ → Rep E ρ fr σ a w → wpOps P ops Q (List.range' k l.length) a w
 | [], k, ρ, fr, σ, a, w, _, h, hR => by
  simp only [List.length_nil, List.range'_zero, wpOps]
  exact hQ ρ fr σ a w hR h
 | o :: l, k, ρ, fr, σ, a, w, hl, h, hR => by
  have h0 : ops[k]? = some o := by simpa using (hl 0).symm
  have hl' : ∀ j, l[j]? = ops[k + 1 + j]? := fun j => by have := hl (j + 1); simpa [Nat.add_assoc, Nat.add_comm 1 j] using this
  simp only [List.length_cons, List.range'_succ, wpOps, h0]
  simp only [opsx] at h
  rcases step_cases h hR with ⟨hw, fr1, hR1, hx, _⟩ | ⟨hw, fr', hR', hK⟩
  ·rw [if_pos hw]
   exact Or.inl (exec_sound hx hΓ hR1 fun v fr' σ' ρ' w' hK hR' _ _ _ => opsx_sound hΓ hQ l (k + 1) ρ' fr' σ' _ w' hl' hK hR')
  ·rw [if_neg (by rw [hw]; simp)]
   exact opsx_sound hΓ hQ l (k + 1) ρ fr' σ _ w hl' hK hR'
def AnyM (P : Program) (ops : Array Oper) (Q : Exit → Act → World → Prop) (S : Nat → World → Prop) (mod : Nat → Nat → Bool) : Nat → Array Bool → Act → World → Prop
 | 0, listed, a, w => Region.ready .any ops listed = [] ∧ Q .normal a w
 | n + 1, listed, a, w => (Region.ready .any ops listed = [] → Q .normal a w) ∧
  ∀ i ∈ Region.ready .any ops listed, wpOp P ops Q i (fun a' w' => (∀ m, mod i m = false → (∀ j, mod j m = true → listed.getD j true = false) → S m w → S m w') ∧ AnyM P ops Q S mod n (listed.setIfInBounds i true) a' w') a w
theorem any_of_M {ops : Array Oper} {Q : Exit → Act → World → Prop} {S : Nat → World → Prop} {mod : Nat → Nat → Bool} : ∀ (n : Nat) (listed : Array Bool) (a : Act) (w : World), AnyM P ops Q S mod n listed a w → wpAny P .any ops Q n listed a w
 | 0, _, _, _, h => h
 | n + 1, _, _, _, h => ⟨h.1, fun i hi => wpOp_mono (fun a' w' q => any_of_M n _ a' w' q.2) (h.2 i hi)⟩
theorem anyM_first {ops : Array Oper} {Q : Exit → Act → World → Prop} {S : Nat → World → Prop} {mod : Nat → Nat → Bool} {rd : Bool} {mm : Nat} {i : Nat} {oi : Oper} {v : Value} (hi : ops[i]? = some oi) (hsel : Region.noSelect ops = true) (hQ : ∀ c a w, ¬ Q (.panic c) a w)
  : ∀ (n : Nat) (listed : Array Bool) (a : Act) (w : World), Region.free .any ops listed i = true → (rd = true → ∀ j, j ≠ i → mod j mm = true → listed.getD j true = false → ∃ oj, ops[j]? = some oj ∧ dependsOn oj i = true) → (∀ m, mod i m = false) → (rd = true → ∀ j, mod j mm = true → listed.getD j true = false) →
   i ∈ Region.ready .any ops listed → YieldsIf P ops (fun w => rd = true → S mm w) oi v a → (rd = true → S mm w) → AnyM P ops Q S mod n (listed.setIfInBounds i true) (a.put oi.dst v) w → AnyM P ops Q S mod (n + 1) listed a w := by
 intro n
 induction n with
 | zero =>
  intro listed a w _ _ _ _ hr hy hS H
  refine ⟨fun h => (by rw [h] at hr; cases hr), fun j hj => ?_⟩
  by_cases hji : j = i
  ·subst hji; exact hy.wpOp hi hS ⟨fun _ _ _ q => q, H⟩
  ·have := ready_mono hj hji
   rw [H.1] at this
   cases this
 | succ n ih =>
  intro listed a w hfree hdep hmi hunl hr hy hS H
  refine ⟨fun h => (by rw [h] at hr; cases hr), fun j hj => ?_⟩
  by_cases hji : j = i
  ·subst hji; exact hy.wpOp hi hS ⟨fun _ _ _ q => q, H⟩
  ·have h1 := H.2 j (ready_mono hj hji)
   obtain ⟨hjun, oj, hoj, hall⟩ := mem_ready.1 hj
   have hiun := (mem_ready.1 hr).1
   have hlast : ∀ e ∈ oj.after, Region.binds .any e = true → e.on ≠ i := fun e he hb heq => by
    have q := hall e he hb
    rw [heq] at q
    rcases Nat.lt_or_ge i listed.size with h' | h'
    ·simp [h'] at hiun q; rw [hiun] at q; cases q
    ·simp [Array.getElem?_eq_none h'] at q
   have hap := Region.free_spec hi hfree j oj hoj hji hjun hlast
   have h2 := wpOp_putIf hoj hap (fun cs b => Region.noSelect_spec hsel i oi cs b hi) (fun cs b => Region.noSelect_spec hsel j oj cs b hoj) (fun c a w q => absurd q (hQ c _ w)) hy h1
   have hmj : rd = true → mod j mm = false := fun q => by
    cases hm : mod j mm with
    | false => rfl
    | true =>
     obtain ⟨oj', ho', hd⟩ := hdep q j hji hm hjun
     rw [hoj] at ho'; cases ho'
     unfold dependsOn at hd
     obtain ⟨e, he, hb⟩ := Array.any_eq_true'.1 hd
     simp only [Bool.and_eq_true, beq_iff_eq] at hb
     exact absurd hb.2 (hlast e he hb.1)
   have setI : ∀ m, (∀ k, mod k m = true → listed.getD k true = false) → ∀ k, mod k m = true → (listed.setIfInBounds i true).getD k true = false := fun m q k hk => by
    by_cases hik : i = k
    ·subst hik; rw [hmi m] at hk; cases hk
    ·rw [getD_set_ne true hik]; exact q k hk
   refine wpOp_mono (fun a' w' h3 => ?_) h2
   obtain ⟨hy', hSS, hA⟩ := h3
   have hS' : rd = true → S mm w' := fun q => hSS mm (hmj q) (setI mm (hunl q)) (hS q)
   refine ⟨fun m h1 h2 => hSS m h1 (setI m h2), ih (listed.setIfInBounds j true) a' w' ?_ ?_ hmi (fun q k hk => ?_) (ready_mono hr (Ne.symm hji)) hy' hS' ?_⟩
   ·unfold Region.free at hfree ⊢
    simp only [hi, List.all_eq_true, List.mem_range] at hfree ⊢
    intro k hk
    have := hfree k hk
    by_cases hjk : j = k
    ·subst hjk
     have hlt : j < listed.size := by
      rcases Nat.lt_or_ge j listed.size with h' | h'
      ·exact h'
      ·simp [Array.getElem?_eq_none h'] at hjun
     simp [hlt]
    ·rw [getD_set_ne true hjk]; exact this
   ·intro q k hki hm hun
    refine hdep q k hki hm ?_
    by_cases hjk : j = k
    ·subst hjk; exact hjun
    ·rw [getD_set_ne true hjk] at hun; exact hun
   ·by_cases hjk : j = k
    ·subst hjk; rw [hmj q] at hk; cases hk
    ·rw [getD_set_ne true hjk]; exact hunl q k hk
   ·rw [Array.setIfInBounds_comm _ _ hji]
    exact hA
theorem allOf_mem {f : Nat → Prop} : ∀ {l : List Nat}, allOf f l → ∀ i ∈ l, f i
 | [], _, i, hi => by cases hi
 | [j], h, i, hi => by simp at hi; subst hi; exact h
 | j :: k :: l, h, i, hi => by
  rcases List.mem_cons.1 hi with e | hi
  ·subst e; exact h.1
  ·exact allOf_mem h.2 i hi
theorem newNames_set {fr : Fr} {t : Nat} {b : Bool} {op : Op} {dst : Option Tmp} (ht : fr.get t = .one (.bool b)) : newNames Γ (fr.set t (.one (.lit b))) op dst = newNames Γ fr op dst := by
 cases dst with
 | none => rfl
 | some d =>
  cases op <;> try rfl
  rename_i c
  obtain ⟨callee, args, tys⟩ := c
  cases callee <;> try rfl
  rotate_left
  ·rename_i bi; cases bi <;> rfl
  rename_i f
  cases f <;> try rfl
  rename_i u
  simp only [newNames, ev, Fr.get_set]
  by_cases hu : t = u ∧ t < fr.length
  ·rw [if_pos hu]
   obtain ⟨rfl, _⟩ := hu
   rw [ht]
  ·rw [if_neg hu]
theorem addr_lit {fr fr1 : Fr} {x : Operand} {n : Nat} (h : fr1 = fr ∨ ∃ t b, fr.get t = .one (.bool b) ∧ fr1 = fr.set t (.one (.lit b))) (hev : addrName (ev fr1 x) = some n) : ev fr x = ev fr1 x := by
 rcases h with rfl | ⟨t, b, ht, rfl⟩
 ·rfl
 ·cases x with
  | tmp u =>
   simp only [ev, Fr.get_set] at hev ⊢
   split at hev
   ·cases hev
   ·rename_i hc; rw [if_neg hc]
  | const _ => rfl
  | global _ => rfl
  | func _ => rfl
theorem store_addr {fr : Fr} {σ : Mem} {o : Oper} {K : Fr → Mem → Prop} {T : TypeId} {x y : Operand} (h : execx P Γ o fr σ K) (hop : o.op = .store T x y) : ∃ n, addrName (ev fr x) = some n ∧ ((∃ b i, ev fr x = .one (.ptr n b i)) ∨ (∃ z i b j, ev fr x = .one (.vptr n z i b j)) ∨ ∃ k j i, n = hname k ∧ ev fr x = .one (.hp k j i)) := by
 unfold execx at h
 rw [hop] at h
 simp only [thawOp, isEff, effx] at h
 split at h <;> try exact h.elim
 ·rename_i n base idx hx
  exact ⟨n, by rw [hx]; rfl, Or.inl ⟨_, _, hx⟩⟩
 ·rename_i n z i b j hx
  exact ⟨n, by rw [hx]; rfl, Or.inr (Or.inl ⟨_, _, _, _, hx⟩)⟩
 ·rename_i k j i hx
  exact ⟨hname k, by rw [hx]; rfl, Or.inr (Or.inr ⟨_, _, _, rfl, hx⟩)⟩
theorem drawx_sound {ops : Array Oper} {rts : List (Option Nat)} {K : Fr → Mem → Prop} {Q : Exit → Act → World → Prop} {σ0 : Mem} {ρ0 : Rho} {w0 : World} (hΓ : GoodG P Γ) (hsel : Region.noSelect ops = true) (hQp : ∀ c a w, ¬ Q (.panic c) a w) (hQ : ∀ ρ fr σ a w, Rep E ρ fr σ a w → K fr σ → Q .normal a w) (h0 : MemRep ρ0 σ0 w0) :
  ∀ (n : Nat) (ρ : Rho) (listed : Array Bool) (fr : Fr) (σ : Mem) (a : Act) (w : World), drawx P Γ ops rts σ0 K n listed fr σ → Rep E ρ fr σ a w → w0.heap.size ≤ w.heap.size →
   (∀ m b, Mem.find σ0 m = some b → (∀ j, modAt Γ ops rts j m = true → listed.getD j true = false) → (∀ k, Foot ρ0 m b k → w.heap[k]? = w0.heap[k]?) ∧ Mem.find σ m = some b ∧ ρ m = ρ0 m) →
   AnyM P ops Q (Held σ0 ρ0 w0) (fun j m => modAt Γ ops rts j m) n listed a w
 | 0, ρ, listed, fr, σ, a, w, h, hR, _, _ => by
  simp only [drawx] at h
  split at h
  ·rename_i hr; exact ⟨hr, hQ ρ fr σ a w hR h⟩
  ·exact h.elim
 | n + 1, ρ, listed, fr, σ, a, w, h, hR, hsz, hH => by
  simp only [drawx] at h
  split at h
  ·rename_i hr
   exact ⟨fun _ => hQ ρ fr σ a w hR h, fun i hi => by rw [hr] at hi; cases hi⟩
  ·rename_i rs hr
   split at h
   ·rename_i i hfind
    split at h <;> try exact h.elim
    rename_i o ho
    have htake := List.find?_some hfind
    have hmem : i ∈ Region.ready .any ops listed := List.mem_of_find?_eq_some hfind
    simp only [takeable, ho, Bool.and_eq_true, Bool.not_eq_true'] at htake
    obtain ⟨⟨he, hfree⟩, hld⟩ := htake
    have hmo := det_facts (Γ := Γ) he
    have hmi : ∀ m, modAt Γ ops rts i m = false := fun m => by simp [modAt, ho, hmo]
    have next : ∀ {fr' : Fr} {v : Value}, Rep E ρ fr' σ (a.put o.dst v) w → drawx P Γ ops rts σ0 K n (listed.setIfInBounds i true) fr' σ → AnyM P ops Q (Held σ0 ρ0 w0) (fun j m => modAt Γ ops rts j m) n (listed.setIfInBounds i true) (a.put o.dst v) w := by
     intro fr' v hR' hK
     refine drawx_sound hΓ hsel hQp hQ h0 n ρ _ fr' σ _ w hK hR' hsz fun m b hb hun => hH m b hb fun j hm => ?_
     have := hun j hm
     by_cases hji : i = j
     ·subst hji; rw [hmi m] at hm; cases hm
     ·rw [getD_set_ne true hji] at this; exact this
    rcases step_cases h hR with ⟨hw, fr1, hR1, hx, hfr1⟩ | ⟨hw, fr', hR', hK⟩
    ·obtain ⟨v, fr', h1, h2, h3⟩ := exec_det hx he hR1
     rcases h3 with h3 | ⟨T, x, m, b, hop, hev, hb, h3⟩
     ·exact anyM_first (rd := false) (mm := 0) ho hsel hQp n listed a w hfree (fun q => by cases q) hmi (fun q => by cases q) hmem (Or.inl ⟨hw, fun w' _ => h3 w'⟩) (fun q => by cases q) (next h1 h2)
     ·have hev0 : addrName (ev fr x) = some m := by rw [addr_lit hfr1 hev]; exact hev
      rw [hop] at hld
      simp only [hev0, Bool.and_eq_true, List.all_eq_true, List.mem_range] at hld
      obtain ⟨hl1, hl2⟩ := hld
      obtain ⟨b0, hb0⟩ := Option.isSome_iff_exists.1 hl1
      have hun : ∀ j, modAt Γ ops rts j m = true → ∃ oj, ops[j]? = some oj ∧ listed.getD j true = false ∧ dependsOn oj i = true := fun j hm => by
       cases hoj : ops[j]? with
       | none => simp [modAt, hoj] at hm
       | some oj =>
        have hlt : j < ops.size := (Array.getElem?_eq_some_iff.1 hoj).1
        have := hl2 j hlt
        rw [hoj] at this
        simp only [hm, Bool.not_true, Bool.false_or, Bool.and_eq_true, Bool.not_eq_true'] at this
        exact ⟨oj, rfl, this⟩
      obtain ⟨hheld, hbb, hρm⟩ := hH m b0 hb0 fun j hm => by obtain ⟨_, _, q, _⟩ := hun j hm; exact q
      rw [hb] at hbb
      cases hbb
      refine anyM_first (rd := true) (mm := m) ho hsel hQp n listed a w hfree (fun _ j hji hm hu => ?_) hmi (fun _ j hm => by obtain ⟨_, _, q, _⟩ := hun j hm; exact q) hmem (Or.inl ⟨hw, fun w' hS => h3 w' fun k hk => ?_⟩) (fun _ b' hb' k hk => ?_) (next h1 h2)
      ·obtain ⟨oj, q1, _, q3⟩ := hun j hm
       exact ⟨oj, q1, q3⟩
      ·have hk0 : Foot ρ0 m b k := (Foot.agree hρm).1 hk
       rw [hS rfl b hb0 k hk0, hheld k hk0]
      ·rw [hb0] at hb'; cases hb'
       exact hheld k hk
    ·exact anyM_first (rd := false) (mm := 0) ho hsel hQp n listed a w hfree (fun q => by cases q) hmi (fun q => by cases q) hmem (Or.inr ⟨hw, rfl⟩) (fun q => by cases q) (next hR' hK)
   ·have h := allOf_mem h
    refine ⟨fun q => (hr q).elim, fun i hi => ?_⟩
    have h := h i hi
    cases ho : ops[i]? with
    | none => rw [ho] at h; exact h.elim
    | some o =>
     rw [ho] at h
     simp only at h
     split at h <;> try exact h.elim
     rename_i hnew0
     rw [Bool.and_eq_true] at hnew0
     obtain ⟨hroot, hnew⟩ := hnew0
     have hnew' : ∀ m b, Mem.find σ0 m = some b → m ∉ newNames Γ fr o.op o.dst := fun m b hb hm => by
      have := List.all_eq_true.1 hnew m hm
      rw [hb] at this; cases this
     unfold wpOp
     simp only [ho]
     have next : ∀ {ρ' : Rho} {fr' : Fr} {σ' : Mem} {v : Value} {w' : World}, Rep E ρ' fr' σ' (a.put o.dst v) w' → drawx P Γ ops rts σ0 K n (listed.setIfInBounds i true) fr' σ' → (modOp Γ o.op = false → ∀ m, isHeap m = false → m ∉ newNames Γ fr o.op o.dst → ρ' m = ρ m) →
       w.heap.size ≤ w'.heap.size → (∀ m b, Mem.find σ0 m = some b → modAt Γ ops rts i m = false → Mem.find σ m = some b → ρ m = ρ0 m → (∀ k, Foot ρ0 m b k → w'.heap[k]? = w.heap[k]?) ∧ Mem.find σ' m = some b ∧ ρ' m = ρ m) →
       ((∀ m, modAt Γ ops rts i m = false → (∀ j, modAt Γ ops rts j m = true → listed.getD j true = false) → Held σ0 ρ0 w0 m w → Held σ0 ρ0 w0 m w') ∧ AnyM P ops Q (Held σ0 ρ0 w0) (fun j m => modAt Γ ops rts j m) n (listed.setIfInBounds i true) (a.put o.dst v) w') := by
      intro ρ' fr' σ' v w' hR' hK hρ' hsz' hk
      refine ⟨fun m hm hun q b hb k hne => by rw [(hk m b hb hm (hH m b hb hun).2.1 (hH m b hb hun).2.2).1 k hne]; exact q b hb k hne, drawx_sound hΓ hsel hQp hQ h0 n ρ' _ fr' σ' _ w' hK hR' (by omega) fun m b hb hun => ?_⟩
      have hm : modAt Γ ops rts i m = false := by
       cases hq : modAt Γ ops rts i m with
       | false => rfl
       | true =>
        have := hun i hq
        have hiun := (mem_ready.1 hi).1
        have hlt : i < listed.size := by
         rcases Nat.lt_or_ge i listed.size with h' | h'
         ·exact h'
         ·simp [Array.getElem?_eq_none h'] at hiun
        simp [hlt] at this
      obtain ⟨g1, g2, g3⟩ := hH m b hb fun j hmj => by
       have := hun j hmj
       by_cases hji : i = j
       ·subst hji; exact (mem_ready.1 hi).1
       ·rw [getD_set_ne true hji] at this; exact this
      obtain ⟨k1, k2, k3⟩ := hk m b hb hm g2 g3
      exact ⟨fun k hne => (k1 k hne).trans (g1 k hne), k2, k3.trans g3⟩
     rcases step_cases h hR with ⟨hw, fr1, hR1, hx, hfr1⟩ | ⟨hw, fr', hR', hK⟩
     ·rw [if_pos hw]
      have hnn : newNames Γ fr1 o.op o.dst = newNames Γ fr o.op o.dst := by
       rcases hfr1 with rfl | ⟨t, b, ht, rfl⟩
       ·rfl
       ·exact newNames_set ht
      refine Or.inl (exec_sound hx hΓ hR1 fun v fr' σ' ρ' w' hK hR' hsz' hρ' hk => next hR' hK (fun q m hh hm => hρ' q m hh (by rw [hnn]; exact hm)) hsz' fun m b hb hm hfind hρm => ?_)
      obtain ⟨_, rfl, hk1, hk2⟩ := hk
      by_cases hmo : modOp Γ o.op = false
      ·obtain ⟨q1, q2, q3⟩ := hk1 hmo
       refine ⟨fun k hne => q1.block _ (by have := in_range (h0 m b hb) hne; omega) (fun q => q), q2 m b hfind, ?_⟩
       cases hh : isHeap m with
       | true => exact q3 m hh
       | false => exact hρ' hmo m hh (by rw [hnn]; exact hnew' m b hb)
      ·
       simp only [modAt, ho, Bool.and_eq_false_iff] at hm
       rcases hm with hm | hm
       ·exact absurd hm hmo
       ·split at hm <;> try (cases hm; done)
        rename_i T x y hop
        split at hm <;> try (cases hm; done)
        rename_i r hrt
        have hrm : r ≠ m := by simpa using hm
        rw [hrt, hop] at hroot
        obtain ⟨nn, hev, hform⟩ := store_addr hx hop
        have hev0 := addr_lit hfr1 hev
        have hrn : nn = r := by
         rcases hform with ⟨q1, q2, q3⟩ | ⟨q1, q2, q3, q4, q5⟩ | ⟨q1, q2, q3, q4, q5⟩
         ·simp only [rootOk, hev0, q3, beq_iff_eq] at hroot; exact hroot
         ·simp only [rootOk, hev0, q5, beq_iff_eq] at hroot; exact hroot
         ·simp only [rootOk, hev0, q5, beq_iff_eq] at hroot; rw [q4]; exact hroot
        subst hrn
        obtain ⟨q0, q1⟩ := hk2 T x y nn m hop hev hrm
        obtain ⟨q1, q2⟩ := q1 b hfind
        exact ⟨fun k hk => q1 k ((Foot.agree hρm).2 hk), q2, q0⟩
     ·rw [if_neg (by rw [hw]; simp)]
      exact next hR' hK (fun _ _ _ _ => rfl) (Nat.le_refl _) (fun m b hb hm q _ => ⟨fun _ _ => rfl, q, rfl⟩)
end
section
variable {P : Program} {Γ : Gam} {E : Env}
theorem Fr.get_eq : ∀ (fr : Fr) (t : Nat), Fr.get fr t = (fr[t]?).getD .undef
 | [], t => by simp [Fr.get]
 | x :: r, 0 => by simp [Fr.get]
 | x :: r, t + 1 => by simp [Fr.get, Fr.get_eq r t]
theorem scrub_sound {ρ : Rho} {tmps : Array Value} : ∀ (l : List Nat) {fr : Fr}, FrRep ρ fr tmps → FrRep ρ (scrubFr l fr) tmps
 | [], fr, h => h
 | t :: l, fr, h => by
  simp only [scrubFr, List.foldr_cons]
  exact (scrub_sound l h).same fun _ _ => trivial
theorem find_filter (f : Nat → Bool) : ∀ {σ : Mem} {n : Nat} {b : Blk}, Mem.find (σ.filter fun p => f p.1) n = some b → Mem.find σ n = some b
 | [], n, b, h => by simp [Mem.find] at h
 | (m, x) :: r, n, b, h => by
  simp only [Mem.find]
  cases hf : f m with
  | true =>
   rw [List.filter_cons_of_pos (by simpa using hf)] at h
   simp only [Mem.find] at h
   split at h
   ·rename_i e; rw [if_pos e]; exact h
   ·rename_i e; rw [if_neg e]; exact find_filter f h
  | false =>
   rw [List.filter_cons_of_neg (by simp [hf])] at h
   by_cases e : m = n
   ·subst e
    exfalso
    have none : ∀ {r : Mem}, Mem.find (r.filter fun p => f p.1) m = none := by
     intro r
     induction r with
     | nil => rfl
     | cons y r ih =>
      cases hy : f y.1 with
      | true =>
       rw [List.filter_cons_of_pos (by simpa using hy)]
       obtain ⟨q, z⟩ := y
       simp only [Mem.find]
       rw [if_neg (fun e => by subst e; rw [hf] at hy; cases hy)]
       exact ih
      | false => rw [List.filter_cons_of_neg (by simp [hy])]; exact ih
    rw [none] at h; cases h
   ·rw [if_neg e]; exact find_filter f h
theorem head0_sound {D : Hints} {ρ : Rho} {fr : Fr} {σ : Mem} {a : Act} {w : World} {c : Code} {k : List Item} (h : Rep E ρ fr σ a w) : Rep E ρ (headFrD D c k fr) (headMemD D c k fr σ) a w := by
 refine h.less ?_ fun n b hb => ?_
 ·unfold headFrD
  split
  ·exact scrub_sound _ h.fr
  ·exact scrub_sound _ (scrub_sound _ h.fr)
 ·exact find_filter (σ := σ) (fun m => !(((σ.map fun p : Nat × Blk => p.1).filter fun n => Nat.blt n 200000).contains m) || frRefs m (headFrD D c k fr) || σ.any (fun q => segsRefs m q.2.segs)) hb
theorem rdw_takex {σ σ1 : Mem} {ks : List Kd} {x : AV} {cs : List Col} (h : rdw σ ks x = some (cs, σ1)) : takex σ ks x fun c s => c = cs ∧ s = σ1 := by
 have fin : ∀ {a c : List Col} {b d : Mem}, some (a, b) = some (c, d) → a = c ∧ b = d := fun q => by cases q; exact ⟨rfl, rfl⟩
 unfold rdw at h
 split at h
 ·rename_i n
  show (match Mem.find σ n with | some (.vec cs) => _ | _ => False)
  split at h
  ·rename_i hq; rw [hq]; exact fin h
  ·cases h
 ·rename_i n z i len
  show (match Mem.find σ n with | some (.vec cs) => _ | _ => False)
  split at h
  ·rename_i hq
   rw [hq]
   split at h
   ·rename_i hz; show (match Nat.beq z _ with | true => _ | false => False); rw [hz]; exact fin h
   ·cases h
  ·cases h
 ·rename_i n z i len
  show (match Mem.find σ n with | some (.vec cs) => _ | _ => False)
  split at h
  ·rename_i hq
   rw [hq]
   split at h
   ·rename_i hz; show (match Nat.beq z _ with | true => _ | false => False); rw [hz]; exact fin h
   ·cases h
  ·cases h
 ·rename_i n base idx len cap
  show (match Mem.find σ n with | some (.own _ s) => _ | _ => False)
  split at h
  ·rename_i hq
   rw [hq]
   split at h
   ·rename_i hf
    show (match findSeg _ base with | some (.ints k N l) => _ | _ => False)
    rw [hf]
    split at h
    ·rename_i hz; exact ⟨⟨Nat.le_of_ble_eq_true hz⟩, fin h⟩
    ·cases h
   ·cases h
  ·cases h
 ·exact fin h
 ·cases h
theorem rdo_reads {ρ : Rho} {σ σ1 : Mem} {w : World} {ks : List Kd} {x : AV} {cs : List Col} {v : Value} (h : rdo σ ks x = some (cs, σ1)) (hks : 0 < width ks) (hm : MemRep ρ σ w) (hs : Sep ρ σ) (hx : SRep ρ x v) :
  ∃ L, Reads ρ σ w v cs L ∧ (∀ m b, Mem.find σ1 m = some b → Mem.find σ m = some b) ∧ ∀ k, FootL L cs k → Clean ρ σ1 k := by
 have fin : ∀ {L : Loc} {cs : List Col} {σ1 : Mem}, Reads ρ σ w v cs L → (∀ m b, Mem.find σ1 m = some b → Mem.find σ m = some b) → (L.len ≠ 0 → Clean ρ σ1 L.1) → ∃ L, Reads ρ σ w v cs L ∧ (∀ m b, Mem.find σ1 m = some b → Mem.find σ m = some b) ∧ ∀ k, FootL L cs k → Clean ρ σ1 k :=
  fun {L cs σ1} hr hl hc => ⟨L, hr, hl, fun k hk => by
   rcases hk with ⟨q, rfl⟩ | hk
   ·exact hc q
   ·exact (hr.clean k hk).less hl⟩
 have foot : ∀ {n : Nat} {cs : List Col} {b : Blk}, Mem.find σ n = some b → Mem.cols σ n = some cs → (ρ n).len ≠ 0 → Foot ρ n b (ρ n).1 := fun {n cs b} hb hcs q => by
  obtain ⟨_, b', hb', _, hf⟩ := cols_sound hm hcs
  rw [hb] at hb'; cases hb'
  exact hf _ (Or.inl ⟨q, rfl⟩)
 have idl : ∀ m b, Mem.find σ m = some b → Mem.find σ m = some b := fun _ _ q => q
 unfold rdo at h
 split at h
 ·rename_i n
  split at h <;> try (cases h; done)
  ·rename_i cs' hn
   simp only [Option.some.injEq, Prod.mk.injEq] at h
   obtain ⟨rfl, rfl⟩ := h
   have hcs : Mem.cols σ n = some cs' := by simp [Mem.cols, hn]
   exact fin (reads_vec hm hs hcs hx) (erase_less n) (fun q => clean_erase hs hn (foot hn hcs q))
  ·rename_i cs' hn
   simp only [Option.some.injEq, Prod.mk.injEq] at h
   obtain ⟨rfl, rfl⟩ := h
   have hcs : Mem.cols σ n = some cs' := by simp [Mem.cols, hn]
   exact fin (reads_vec hm hs hcs hx) idl (fun q => clean_view hs hn (foot hn hcs q) (fun k q => q))
 ·rename_i n z i len
  have hle := hx
  obtain ⟨_, _, _, _, hle, _⟩ := hle
  split at h <;> try (cases h; done)
  ·rename_i cs' hn
   split at h <;> try (cases h; done)
   rename_i hz
   simp only [Option.some.injEq, Prod.mk.injEq] at h
   obtain ⟨rfl, rfl⟩ := h
   have hcs : Mem.cols σ n = some cs' := by simp [Mem.cols, hn]
   obtain ⟨A, cap, hr, _⟩ := reads_vsl hm hs hcs (beq_nat hz) (vsl_vcl hx)
   exact fin hr (erase_less n) (fun q => clean_erase hs hn (foot hn hcs (by have : len ≠ 0 := q; omega)))
  ·rename_i cs' hn
   split at h <;> try (cases h; done)
   rename_i hz
   simp only [Option.some.injEq, Prod.mk.injEq] at h
   obtain ⟨rfl, rfl⟩ := h
   have hcs : Mem.cols σ n = some cs' := by simp [Mem.cols, hn]
   obtain ⟨A, cap, hr, _⟩ := reads_vsl hm hs hcs (beq_nat hz) (vsl_vcl hx)
   exact fin hr idl (fun q => clean_view hs hn (foot hn hcs (by have : len ≠ 0 := q; omega)) (fun k q => q))
 ·rename_i n z i len
  have hle := hx
  obtain ⟨_, _, _, _, hle, _⟩ := hle
  split at h <;> try (cases h; done)
  ·rename_i cs' hn
   split at h <;> try (cases h; done)
   rename_i hz
   simp only [Option.some.injEq, Prod.mk.injEq] at h
   obtain ⟨rfl, rfl⟩ := h
   have hcs : Mem.cols σ n = some cs' := by simp [Mem.cols, hn]
   obtain ⟨A, cap, hr, _⟩ := reads_vsl hm hs hcs (beq_nat hz) hx
   exact fin hr (erase_less n) (fun q => clean_erase hs hn (foot hn hcs (by have : len ≠ 0 := q; omega)))
  ·rename_i cs' hn
   split at h <;> try (cases h; done)
   rename_i hz
   simp only [Option.some.injEq, Prod.mk.injEq] at h
   obtain ⟨rfl, rfl⟩ := h
   have hcs : Mem.cols σ n = some cs' := by simp [Mem.cols, hn]
   obtain ⟨A, cap, hr, _⟩ := reads_vsl hm hs hcs (beq_nat hz) hx
   exact fin hr idl (fun q => clean_view hs hn (foot hn hcs (by have : len ≠ 0 := q; omega)) (fun k q => q))
 ·rename_i n c i
  split at h <;> try (cases h; done)
  rename_i k ll hr
  simp only [Option.some.injEq, Prod.mk.injEq] at h
  obtain ⟨rfl, rfl⟩ := h
  obtain ⟨l, e, σ1, hsh, hl, hσ⟩ := sharex_sound (K := fun l s => l = llget ll i ∧ s = σ) (k := k) (x := .el n c i) (by simp [sharex, rdx, hr, oneInts]) hm hs hx
  subst hl hσ
  obtain ⟨g1, g2, g3, g4, g5⟩ := Elt.rep hsh.rep
  refine fin ⟨by rw [g2, g3, g4]; exact hsh.val, g1, fun k hk => absurd hk not_inner_ints, lnk_ints, fun q => ?_⟩ idl (fun q => ?_)
  ·obtain ⟨cs0, hc, hlen, hV, b, hb, hbb, hf⟩ := rows_sound hm hr
   obtain ⟨rfl, hi⟩ := hx
   obtain ⟨hne, a', ha', hab⟩ := g5 _ (Or.inl ⟨q, rfl⟩)
   have hin : Clean ρ σ1 e.loc.1 := by rw [hab]; exact (hsh.clean hne a' ha').1
   have hv := hsh.val
   simp only [Value.slice.injEq] at hv
   have hfo : Foot ρ n b e.loc.1 := hf _ (Or.inr ⟨c, k, ll, i, _, a', hc, llget_some (by omega), hne, by rw [hv.1]; exact ha', hab⟩)
   exact ⟨n, b, hb, hfo, fun m c' hm' _ => hin m c' hm'⟩
  ·obtain ⟨hne, a', ha', hab⟩ := g5 _ (Or.inl ⟨q, rfl⟩)
   rw [hab]; exact (hsh.clean hne a' ha').1
 ·rename_i n c i o len
  split at h <;> try (cases h; done)
  rename_i k ll hr
  simp only [Option.some.injEq, Prod.mk.injEq] at h
  obtain ⟨rfl, rfl⟩ := h
  obtain ⟨l, e, σ1, hsh, hl, hσ⟩ := sharex_sound (K := fun l s => l = lsub (llget ll i) o len ∧ s = σ) (k := k) (x := .esl n c i o len) (by simp [sharex, rdx, hr, oneInts]) hm hs hx
  subst hl hσ
  obtain ⟨g1, g2, g3, g4, g5⟩ := Elt.rep hsh.rep
  obtain ⟨cs', L', hrd, hcs'⟩ := rdx_sound (K := fun c => c = [Col.ints k (lsub (llget ll i) o len)]) (ks := [.ints k]) (x := .one (.esl n c i o len)) (by simp [rdx, hr]) Nat.one_pos hm hs hx
  refine fin ⟨by rw [g2, g3, g4]; exact hsh.val, g1, fun k hk => absurd hk not_inner_ints, lnk_ints, fun q => ?_⟩ idl (fun q => ?_)
  ·obtain ⟨hne, a', ha', hab⟩ := g5 _ (Or.inl ⟨q, rfl⟩)
   have hin : Clean ρ σ1 e.loc.1 := by rw [hab]; exact (hsh.clean hne a' ha').1
   have hv := hsh.val
   rw [hrd.val] at hv
   simp only [Value.slice.injEq] at hv
   have hl0 : L'.len ≠ 0 := by rw [hv.2.1, ← g3]; exact q
   obtain ⟨n', b', hb', hfo, _⟩ := hrd.root hl0
   have hL1 : L'.1 = e.loc.1 := by
    have h1 := hrd.rep.adr hl0
    have h2 := g1.adr q
    rw [g2, ← hv.1, h1] at h2
    simp only [Option.some.injEq, Loc.at, Addr.mk.injEq] at h2
    exact h2.1
   rw [hL1] at hfo
   exact ⟨n', b', hb', hfo, fun m c' hm' _ => hin m c' hm'⟩
  ·obtain ⟨hne, a', ha', hab⟩ := g5 _ (Or.inl ⟨q, rfl⟩)
   rw [hab]; exact (hsh.clean hne a' ha').1
 ·rename_i n base idx len cap
  split at h <;> try (cases h; done)
  rename_i T s hn
  split at h <;> try (cases h; done)
  rename_i k N l hf
  split at h <;> try (cases h; done)
  rename_i hle
  simp only [Option.some.injEq, Prod.mk.injEq] at h
  obtain ⟨rfl, rfl⟩ := h
  obtain ⟨L, hr, h2⟩ := reads_sl hm hs (b := .own T s) hn hf (Nat.le_of_ble_eq_true hle) hx
  refine fin hr (erase_less n) (fun q => clean_erase hs hn ?_)
  have := hr.rep.cap
  exact (h2 (by omega)).2.1
 ·simp only [Option.some.injEq, Prod.mk.injEq] at h
  obtain ⟨rfl, rfl⟩ := h
  obtain ⟨rfl, _⟩ := hx
  obtain ⟨g1, g2⟩ := nil_rep (w := w) hks
  exact fin (L := loc0) ⟨rfl, g1, fun k hk => absurd (Or.inr hk) (g2 k), nil_lnk, fun q => absurd rfl q⟩ idl (fun q => absurd rfl q)
 ·cases h
theorem rdoN_reads {ρ : Rho} {σ σ1 : Mem} {w : World} {ks : List Kd} {x : AV} {cs : List Col} {v : Value} {name : Nat} (h : rdoN name σ ks x = some (cs, σ1)) (hks : 0 < width ks) (hm : MemRep ρ σ w) (hs : Sep ρ σ) (hx : SRep ρ x v) :
  ∃ L, Reads ρ σ w v cs L ∧ (∀ m b, Mem.find σ1 m = some b → Mem.find σ m = some b) ∧ ∀ k, FootL L cs k → Clean ρ σ1 k := by
 unfold rdoN at h
 split at h
 ·rename_i cs' σ' hr
  simp only [Option.some.injEq, Prod.mk.injEq] at h
  obtain ⟨rfl, rfl⟩ := h
  obtain ⟨L, h1, h2, h3⟩ := rdo_reads hr hks hm hs hx
  exact ⟨L, h1, fun m b q => h2 m b (erase_less name m b q), fun k hk => (h3 k hk).less (erase_less name)⟩
 ·cases h
theorem hintOne0_sound {ρ : Rho} {fr : Fr} {σ : Mem} {a : Act} {w : World} {hn : Hint} (h : Rep E ρ fr σ a w) : ∃ ρ', Rep E ρ' (hintOne0 hn fr σ).1 (hintOne0 hn fr σ).2 a w := by
 unfold hintOne0
 have fin : ∀ {cs : List Col} {σ1 : Mem} {L : Loc} {b : Blk}, (∀ v, a.tmps[hn.slot]? = some v → v = .slice L.a L.len L.cap) → (∀ m b, Mem.find σ1 m = some b → Mem.find σ m = some b) → freshB (nameOf hn) (fr.set hn.slot .undef) σ1 = true →
   BlkRep (upd ρ (nameOf hn) L) w (nameOf hn) b → (∀ k, Out (upd ρ (nameOf hn) L) (nameOf hn) b k → (E.w0.heap.size ≤ k ∨ E.ex k) ∧ (∀ m c, Mem.find σ1 m = some c → ¬ Foot ρ m c k) ∧ ¬ Inn (upd ρ (nameOf hn) L) (nameOf hn) b k) → (∀ k, Foot (upd ρ (nameOf hn) L) (nameOf hn) b k → Clean ρ σ1 k) →
   Rep E (upd ρ (nameOf hn) L) (fr.set hn.slot (.one (.vec (nameOf hn)))) (Mem.ins (nameOf hn) b σ1) a w := by
  intro cs σ1 L b hval hless hfr hb ho hf
  have h1 : Rep E ρ (fr.set hn.slot .undef) σ1 a w := h.less (h.fr.same fun _ _ => trivial) hless
  have h2 := (add_sound h1 hfr h.keep (fun _ _ _ _ _ => rfl) hb ho hf).find_eq (find_ins (freshB_parts hfr).2.2)
  refine h2.less ?_ fun _ _ q => q
  have hfs := h2.fr.same (s := hn.slot) (x := .one (.vec (nameOf hn))) fun v hv => by
   show v = _
   rw [upd_eq]; exact hval v hv
  refine ⟨by rw [Fr.length_set]; exact h.fr.1, fun t v ht => ?_⟩
  have := hfs.2 t v ht
  rw [Fr.get_set] at this ⊢
  rw [Fr.length_set] at this
  by_cases hq : hn.slot = t ∧ hn.slot < fr.length
  ·rw [if_pos hq] at this ⊢; exact this
  ·rw [if_neg hq] at this ⊢
   rw [Fr.get_set, if_neg hq] at this
   exact this
 have slotv : ∀ {v}, a.tmps[hn.slot]? = some v → SRep ρ (fr.get hn.slot) v := fun hv => h.fr.2 _ _ hv
 have bare : a.tmps[hn.slot]? = none → fr.get hn.slot = .undef := fun hq => Fr.get_out fr _ (by rw [h.fr.1]; simpa using hq)
 split
 ·exact ⟨ρ, h⟩
 ·rename_i cs σ1 hrd
  split
  ·rename_i hc
   simp only [Bool.and_eq_true] at hc
   obtain ⟨⟨hw, hkd⟩, hfr⟩ := hc
   have hw : 0 < width hn.ks := by simpa using hw
   cases hq : a.tmps[hn.slot]? with
   | none =>
    exfalso
    rw [bare hq] at hrd
    cases ho : hn.own <;> rw [ho] at hrd <;> simp [rdw, rdo, rdoN] at hrd
   | some v =>
    have hx := slotv hq
    cases ho : hn.own with
    | true =>
     rw [ho] at hrd
     simp only at hrd ⊢
     obtain ⟨cs', L, σ', hT, hcs, hσ⟩ := takex_sound (rdw_takex hrd) hw h.mem h.sep hx
     subst hcs hσ
     have hT := hT.asH (σ' := σ)
     refine ⟨_, fin (L := L) (cs := cs'.map (Col.asH σ)) (fun u hu => by rw [hq] at hu; cases hu; exact hT.reads.val) hT.less hfr ⟨by rw [upd_eq]; exact hT.reads.rep, by rw [upd_eq]; exact hT.write, by rw [upd_eq]; exact hT.reads.lnk.agree (ne_of_refs (f := fun m => (cs'.map (Col.asH σ)).any (Col.refs m)) (refs_no (freshB_parts hfr).1))⟩ (fun k hk => ?_) (fun k hk => ?_)⟩
     ·simp only [Out, upd_eq] at hk
      obtain ⟨hc, rfl⟩ := hk
      obtain ⟨n, b, hn', hO, hg⟩ := hT.gone hc
      refine ⟨h.own n b _ hn' hO, fun m c hm hF => h.sep.1 n m b c _ hn' (hT.less m c hm) (fun e => by subst e; rw [hg] at hm; cases hm) hO hF, fun hI => ?_⟩
      simp only [Inn, upd_eq] at hI
      exact hT.reads.clean _ hI n b hn' hO
     ·simp only [Foot, upd_eq] at hk
      rcases hk with ⟨hc, rfl⟩ | hk
      ·obtain ⟨n, b, hn', hO, hg⟩ := hT.gone hc
       exact fun m c hm hO' => h.sep.1 n m b c _ hn' (hT.less m c hm) (fun e => by subst e; rw [hg] at hm; cases hm) hO hO'.foot
      ·exact (hT.reads.clean k hk).less hT.less
    | false =>
     rw [ho] at hrd
     simp only at hrd ⊢
     obtain ⟨L, hr, hl, hc⟩ := rdoN_reads hrd hw h.mem h.sep hx
     exact ⟨_, fin (L := L) (cs := cs) (fun u hu => by rw [hq] at hu; cases hu; exact hr.val) hl hfr ⟨by rw [upd_eq]; exact hr.rep, by rw [upd_eq]; exact hr.lnk.agree (ne_of_refs (f := fun m => cs.any (Col.refs m)) (refs_no (freshB_parts hfr).1))⟩ (fun k hk => hk.elim) (fun k hk => by simp only [Foot, upd_eq] at hk; exact hc k hk)⟩
  ·exact ⟨ρ, h⟩
theorem hintOne_sound {ρ : Rho} {fr : Fr} {σ : Mem} {a : Act} {w : World} {hn : Hint} (h : Rep E ρ fr σ a w) : ∃ ρ', Rep E ρ' (hintOne hn fr σ).1 (hintOne hn fr σ).2 a w := by
 unfold hintOne
 split
 ·rename_i b _ hg
  refine ⟨ρ, h.less (h.fr.same fun v hv => ?_) fun _ _ q => q⟩
  have := h.fr.2 _ _ hv
  rw [hg] at this
  exact this
 ·exact hintOne0_sound h
theorem hintAll_sound {a : Act} {w : World} : ∀ {D : Hints} {ρ : Rho} {fr : Fr} {σ : Mem}, Rep E ρ fr σ a w → ∃ ρ', Rep E ρ' (hintAll D fr σ).1 (hintAll D fr σ).2 a w
 | [], ρ, fr, σ, h => ⟨ρ, h⟩
 | x :: r, ρ, fr, σ, h => by
  obtain ⟨ρ1, h1⟩ := hintOne_sound (hn := x) h
  simp only [hintAll]
  generalize hintOne x fr σ = p at h1 ⊢
  obtain ⟨fr', σ'⟩ := p
  exact hintAll_sound h1
theorem fresher_sound {ρ : Rho} {σ : Mem} {fr : Fr} {tmps : Array Value} (h : FrRep ρ fr tmps) : FrRep ρ (fresher σ fr) tmps := by
 refine ⟨by simp [fresher, h.1], fun t v hv => ?_⟩
 have := h.2 t v hv
 rw [Fr.get_eq] at this ⊢
 simp only [fresher, List.getElem?_map]
 cases hq : fr[t]? with
 | none => simp [SRep]
 | some x =>
  rw [hq] at this
  simp only [Option.map_some, Option.getD_some] at this ⊢
  split
  ·trivial
  ·exact this
theorem head_sound {D : Hints} {ρ : Rho} {fr : Fr} {σ : Mem} {a : Act} {w : World} {c : Code} {k : List Item} (h : Rep E ρ fr σ a w) : ∃ ρ', Rep E ρ' (headSt D c k fr σ).1 (headSt D c k fr σ).2 a w := by
 have h0 := head0_sound (D := D) (c := c) (k := k) h
 obtain ⟨ρ1, h1⟩ := hintAll_sound (D := D.filter fun h => !h.ret) (h0.less (fresher_sound (σ := headMemD D c k fr σ) h0.fr) fun _ _ q => q)
 unfold headSt
 generalize hintAll (D.filter fun h => !h.ret) (fresher (headMemD D c k fr σ) (headFrD D c k fr)) (headMemD D c k fr σ) = p at h1 ⊢
 obtain ⟨fr', σ'⟩ := p
 refine ⟨ρ1, h1.less (fresher_sound h1.fr) fun n b hb => ?_⟩
 exact find_filter (σ := σ') (fun m => !(((σ'.map fun p : Nat × Blk => p.1).filter fun n => Nat.blt n 200000).contains m) || frRefs m (fresher σ' fr') || σ'.any (fun q => segsRefs m q.2.segs)) hb
theorem join_sound {D : Hints} {ρ : Rho} {fr : Fr} {σ : Mem} {a : Act} {w : World} {c : Code} {k : List Item} (h : Rep E ρ fr σ a w) : Rep E ρ (joinFr D c k fr) (joinMem D c k fr σ) a w := by
 unfold joinMem
 cases hj : joins D with
 | false =>
  have e : joinFr D c k fr = fr := by unfold joinFr; rw [hj]
  rw [e]; exact h
 | true =>
  refine h.less (by unfold joinFr; rw [hj]; exact scrub_sound _ h.fr) fun n b hb => ?_
  exact find_filter (σ := σ) (fun m => !(((σ.map fun p : Nat × Blk => p.1).filter fun n => Nat.blt n 200000).contains m) || frRefs m (joinFr D c k fr) || σ.any (fun q => segsRefs m q.2.segs)) hb
def Goes (P : Program) (E : Env) (R : Fr → Mem → Prop) (stk : List Item) (a : Act) (w : World) : Prop :=
 ∀ (b : Frame) (cs : List Frame), ∃ e a' w', (e = .normal ∨ e = .ret) ∧ (∃ ρ fr σ, Rep E ρ fr σ a' w' ∧ R fr σ) ∧ Arrives P (lone (b.at a stk) cs w) b [] cs e a' w'
theorem Goes.step {R : Fr → Mem → Prop} {stk stk' : List Item} {a : Act} {w : World} (hs : ∀ (b : Frame) (cs : List Frame), Steps P (lone (b.at a stk) cs w) (lone (b.at a stk') cs w)) (h : Goes P E R stk' a w) : Goes P E R stk a w := by
 intro b cs
 obtain ⟨e, a', w', h1, h2, h3⟩ := h b cs
 exact ⟨e, a', w', h1, h2, .of_steps (hs b cs) h3⟩
theorem Goes.wp {R : Fr → Mem → Prop} {c : Code} {k : List Item} {a : Act} {w : World} (h : c.wp P (fun e a' w' => match e with | .normal => Goes P E R k a' w' | _ => False) a w) : Goes P E R (.code c :: k) a w := by
 intro b cs
 obtain ⟨e, a1, w1, hq, harr⟩ := h b k cs
 cases e with
 | normal =>
  obtain ⟨e, a', w', h1, h2, h3⟩ := hq b cs
  exact ⟨e, a', w', h1, h2, .of_steps harr h3⟩
 | _ => exact hq.elim
theorem itemx_sound {D : Hints} {R : Fr → Mem → Prop} {lp ih : List Item → Fr → Mem → Prop} (hm : P.follows .mixedOrders = true) (hΓ : GoodG P Γ) (hih : ∀ stk ρ fr σ a w, ih stk fr σ → Rep E ρ fr σ a w → Goes P E R stk a w)
  (hlp : ∀ stk ρ fr σ a w, lp stk fr σ → Rep E ρ fr σ a w → Goes P E R stk a w) (stk : List Item) (ρ : Rho) (fr : Fr) (σ : Mem) (a : Act) (w : World) (h : itemx P Γ D R lp ih stk fr σ) (hR : Rep E ρ fr σ a w) : Goes P E R stk a w := by
 unfold itemx at h
 split at h
 ·exact fun b cs => ⟨.normal, a, w, Or.inl rfl, ⟨ρ, fr, σ, hR, h⟩, Steps.refl _ _⟩
 ·rename_i c k
  split at h
  ·exact (hih _ _ _ _ _ _ h hR).step fun b cs => .one step_skip
  ·rename_i id ops
   refine Goes.wp (wp_region ?_)
   rw [List.range_eq_range', ← Array.length_toList]
   exact opsx_sound hΓ (fun ρ fr σ a w hR hK => hih _ _ _ _ _ _ hK hR) ops.toList 0 ρ fr σ a w (by simp) h hR
  ·rename_i id ops
   split at h <;> try exact h.elim
   rename_i hsel
   refine Goes.wp (wp_region_any hm ?_)
   have hR' : Rep E ρ fr σ a { w with drawn := w.drawn + 1 } := ⟨hR.fr, hR.df, hR.mem.keeps (fun _ _ _ _ _ => rfl), hR.sep, hR.fix, hR.ext, hR.own, ⟨hR.keep.os, hR.keep.tape, hR.keep.output, hR.keep.size, hR.keep.block⟩⟩
   exact any_of_M _ _ _ _ (drawx_sound (Q := fun e a' w' => match e with | .normal => Goes P E R k a' w' | _ => False) hΓ hsel (fun c a w q => q) (fun ρ fr σ a w hR hK => hih _ _ _ _ _ _ hK hR) hR'.mem ops.size ρ _ fr σ a _ h hR' (Nat.le_refl _) (fun _ _ q _ => ⟨fun _ _ => rfl, q, rfl⟩))
  ·exact (hih _ _ _ _ _ _ h hR).step fun b cs => .one step_seq
  ·rename_i t x y
   split at h
   ·rename_i hc
    exact (hih _ _ _ _ _ _ h (join_sound hR)).step fun b cs => .one (by have := step_cond (P := P) (b := b) (k := k) (cs := cs) (w := w) (x := x) (y := y) (eval_bool (b := true) hR (Or.inr hc)); simpa using this)
   ·rename_i hc
    exact (hih _ _ _ _ _ _ h (join_sound hR)).step fun b cs => .one (by have := step_cond (P := P) (b := b) (k := k) (cs := cs) (w := w) (x := x) (y := y) (eval_bool (b := false) hR (Or.inr hc)); simpa using this)
   ·rename_i q hc
    split at h <;> try exact h.elim
    rename_i s
    have hs := hR.frame (set_lit hR.fr hc)
    cases q with
    | true => exact (hih _ _ _ _ _ _ (h.1 rfl) (join_sound hs)).step fun b cs => .one (by have := step_cond (P := P) (b := b) (k := k) (cs := cs) (w := w) (x := x) (y := y) (eval_bool (b := true) hR (Or.inl hc)); simpa using this)
    | false => exact (hih _ _ _ _ _ _ (h.2 rfl) (join_sound hs)).step fun b cs => .one (by have := step_cond (P := P) (b := b) (k := k) (cs := cs) (w := w) (x := x) (y := y) (eval_bool (b := false) hR (Or.inl hc)); simpa using this)
   ·exact h.elim
  ·exact (hih _ _ _ _ _ _ h hR).step fun b cs => .one step_block
  ·obtain ⟨ρ1, hR1⟩ := head_sound (D := D) (c := _) (k := _) hR
   exact (hlp _ _ _ _ _ _ h hR1).step fun b cs => .one step_loop
  ·split at h <;> try exact h.elim
   rename_i k' hk
   exact (hih _ _ _ _ _ _ h hR).step fun b cs => .one (step_exit hk)
  ·exact fun b cs => ⟨.ret, a, w, Or.inr rfl, ⟨ρ, fr, σ, hR, h⟩, _, .one step_ret⟩
  ·exact h.elim
 ·exact (hih _ _ _ _ _ _ h hR).step fun b cs => .one step_inBlock
 ·obtain ⟨ρ1, hR1⟩ := head_sound (D := D) (c := _) (k := _) hR
  exact (hlp _ _ _ _ _ _ h hR1).step fun b cs => .one step_inLoop
 ·exact h.elim
theorem runM_sound {D : Hints} {R : Fr → Mem → Prop} {lp : List Item → Fr → Mem → Prop} (hm : P.follows .mixedOrders = true) (hΓ : GoodG P Γ) (hlp : ∀ stk ρ fr σ a w, lp stk fr σ → Rep E ρ fr σ a w → Goes P E R stk a w) :
  ∀ (m : Nat) stk ρ fr σ a w, runM P Γ D R lp m stk fr σ → Rep E ρ fr σ a w → Goes P E R stk a w
 | 0, _, _, _, _, _, _, h, _ => by rw [runM_zero] at h; exact h.elim
 | m + 1, stk, ρ, fr, σ, a, w, h, hR => by
  rw [runM_succ] at h
  exact itemx_sound hm hΓ (fun stk ρ fr σ a w q r => runM_sound hm hΓ hlp m stk ρ fr σ a w q r) hlp stk ρ fr σ a w h hR
theorem run_sound {D : Hints} {R : Fr → Mem → Prop} (hm : P.follows .mixedOrders = true) (hΓ : GoodG P Γ) : ∀ (n : Nat) stk ρ fr σ a w, run P Γ D R n stk fr σ → Rep E ρ fr σ a w → Goes P E R stk a w
 | 0, _, _, _, _, _, _, h, _ => by rw [run_zero] at h; exact h.elim
 | n + 1, stk, ρ, fr, σ, a, w, h, hR => by
  rw [run_succ] at h
  exact runM_sound hm hΓ (fun stk ρ fr σ a w q r => run_sound hm hΓ n stk ρ fr σ a w q r) 4000 stk ρ fr σ a w h hR
def resV (tmps : Array Value) : ResultVar → Sem Value
 | .tmp t => pure (tmps.getD t undef)
 | .cell a t => do loadVar t (← asAddr (tmps.getD a undef))
theorem resOne_sound {ρ : Rho} {fr : Fr} {σ : Mem} {a : Act} {w : World} {r : ResultVar} {K : TV → Prop} (h : resOne P fr σ r K) (hR : Rep E ρ fr σ a w) :
  ∃ v t, (resV a.tmps r).run P w = .ok v w ∧ TRep ρ t v ∧ K t := by
 have slot : ∀ (t : Nat) {x : AV}, fr.get t = x → x ≠ .undef → SRep ρ x (a.tmps.getD t undef) := by
  intro t x hx hne
  have hlt : t < fr.length := by
   rcases Nat.lt_or_ge t fr.length with q | q
   ·exact q
   ·rw [Fr.get_out fr t q] at hx; exact absurd hx.symm hne
  have hlt' : t < a.tmps.size := by rw [← hR.fr.1]; exact hlt
  have := hR.fr.2 t a.tmps[t] (Array.getElem?_eq_getElem hlt')
  rw [hx] at this
  simpa [hlt'] using this
 unfold resOne at h
 split at h
 ·rename_i t
  split at h
  ·rename_i x hx; exact ⟨_, .c x, rfl, slot t hx (by simp), h⟩
  ·rename_i s hx; exact ⟨_, .g s, rfl, slot t hx (by simp), h⟩
  ·exact h.elim
 ·rename_i t T
  split at h <;> try exact h.elim
  rename_i n b i hx
  have hv : a.tmps.getD t undef = .pointer (some (at_ ρ n (b + i))) := slot t hx (by simp)
  obtain ⟨v, av, bk, _, h1, h2, h3⟩ := loadx_sound h hR.mem
  have hrun : (resV a.tmps (.cell t T)).run P w = .ok v w := by
   show (do let x ← asAddr (a.tmps.getD t undef); loadVar T x : Sem Value).run P w = .ok v w
   rw [hv]
   simp [asAddr, h1 w (fun _ _ => rfl)]
  split at h3
  ·rename_i x; exact ⟨v, .c x, hrun, h2, h3⟩
  ·rename_i s; exact ⟨v, .g s, hrun, h2, h3⟩
  ·exact h3.elim
theorem resAll_sound {ρ : Rho} {fr : Fr} {σ : Mem} {a : Act} {w : World} (hR : Rep E ρ fr σ a w) : ∀ {rs : List ResultVar} {K : List TV → Prop}, resAll P fr σ rs K →
  ∃ vs ts, (rs.mapM (resV a.tmps)).run P w = .ok vs w ∧ vs.length = rs.length ∧ ts.length = vs.length ∧ (∀ (j : Nat) t v, ts[j]? = some t → vs[j]? = some v → TRep ρ t v) ∧ K ts
 | [], K, h => ⟨[], [], by simp, rfl, rfl, fun j t v hj => by simp at hj, h⟩
 | r :: rs, K, h => by
  simp only [resAll] at h
  obtain ⟨v, t, h1, h2, h3⟩ := resOne_sound h hR
  obtain ⟨vs, ts, g1, g2, g3, g4, g5⟩ := resAll_sound hR h3
  refine ⟨v :: vs, t :: ts, by simp [List.mapM_cons, h1, g1], by simp [g2], by simp [g3], fun j t' v' ht hv => ?_, g5⟩
  cases j with
  | zero => simp at ht hv; subst ht hv; exact h2
  | succ j => simp at ht hv; exact g4 j t' v' ht hv
theorem TRep.av {ρ : Rho} {t : TV} {v : Value} (h : TRep ρ t v) : SRep ρ t.av v := by cases t <;> exact h
theorem resx_sound {ρ : Rho} {fr : Fr} {σ : Mem} {a : Act} {w : World} {fn : Func} {R : AV → Mem → Prop} (h : resx P fn.results.toList R fr σ) (hR : Rep E ρ fr σ a w) :
  ∃ v av, (results fn a.tmps).run P w = .ok v w ∧ SRep ρ av v ∧ R av σ := by
 unfold resx at h
 obtain ⟨vs, ts, h1, h2, h3, h4, h5⟩ := resAll_sound hR h
 have hrun : (fn.results.mapM (resV a.tmps)).run P w = .ok vs.toArray w := by
  rw [Array.mapM_eq_mapM_toList]
  simp [h1]
 have hres : (results fn a.tmps).run P w = .ok (if h : vs.toArray.size = 1 then vs.toArray[0] else .tuple vs.toArray) w := by
  have e : results fn a.tmps = (do let vs ← fn.results.mapM (resV a.tmps); pure (if h : vs.size = 1 then vs[0] else .tuple vs)) := by
   unfold results
   congr 1
  rw [e]
  simp [hrun]
 split at h5
 ·rename_i t
  obtain ⟨v, rfl⟩ : ∃ v, vs = [v] := by
   match vs, h3 with
   | [v], _ => exact ⟨v, rfl⟩
  exact ⟨v, t.av, by rw [hres]; simp, (h4 0 t v rfl rfl).av, h5⟩
 ·rename_i ts' hne
  have hlen : vs.length ≠ 1 := by
   intro e
   rw [e] at h3
   have : ∀ {l : List TV}, l.length = 1 → ∃ t, l = [t] := by
    intro l hl
    match l, hl with
    | [t], _ => exact ⟨t, rfl⟩
   obtain ⟨t, ht⟩ := this h3
   exact hne t ht
  exact ⟨.tuple vs.toArray, .tup ts, by rw [hres]; simp [hlen], ⟨vs, rfl, h3, h4⟩, h5⟩
theorem resh_sound {D : Hints} {ρ : Rho} {fr : Fr} {σ : Mem} {a : Act} {w : World} {fn : Func} {R : AV → Mem → Prop} (h : resh P D fn.results.toList R fr σ) (hR : Rep E ρ fr σ a w) :
  ∃ v av ρ' fr' σ', (results fn a.tmps).run P w = .ok v w ∧ SRep ρ' av v ∧ R av σ' ∧ Rep E ρ' fr' σ' a w := by
 unfold resh at h
 obtain ⟨ρ1, h1⟩ := hintAll_sound (D := D.filter fun h => h.ret) hR
 generalize hintAll (D.filter fun h => h.ret) fr σ = p at h1 h
 obtain ⟨fr', σ'⟩ := p
 obtain ⟨v, av, g1, g2, g3⟩ := resx_sound h h1
 exact ⟨v, av, ρ1, fr', σ', g1, g2, g3, h1⟩
end
section
variable {P : Program} {Γ : Gam} {D : Hints}
theorem start_sound {ρ : Rho} {n : Nat} {args : List AV} {vals : Array Value} (hl : args.length = vals.size) (hv : ∀ (j : Nat) x v, args[j]? = some x → vals[j]? = some v → SRep ρ x v) :
  FrRep ρ (startFr n args) (vals ++ Array.replicate (n - vals.size) undef) := by
 refine ⟨by simp [startFr, hl], fun t v ht => ?_⟩
 rw [Fr.get_eq]
 by_cases h : t < vals.size
 ·rw [Array.getElem?_append_left h] at ht
  have h' : t < args.length := by omega
  simp only [startFr]
  rw [List.getElem?_append_left h', List.getElem?_eq_getElem h']
  exact hv t _ v (List.getElem?_eq_getElem h') ht
 ·rw [Array.getElem?_append_right (by omega)] at ht
  simp only [startFr]
  rw [List.getElem?_append_right (by omega)]
  rw [Array.getElem?_replicate] at ht
  split at ht
  ·rename_i hq
   cases ht
   rw [List.getElem?_replicate, if_pos (by omega)]
   exact SRep.undef ρ
  ·cases ht
theorem callsx_sound (hm : P.follows .mixedOrders = true) (hΓ : GoodG P Γ) {f : FuncId} {fn : Func} (hf : P.funcs[f]? = some fn) (hb : fn.body.isSome = true) {n : Nat} {args : List AV} {σ : Mem} {R : AV → Mem → Prop} (h : callsx P Γ D fn n args σ R)
  {ρ : Rho} {w : World} {vals : Array Value} {ex : Nat → Prop} (hg : Glob ρ) (hl : args.length = vals.size) (hv : ∀ (j : Nat) x v, args[j]? = some x → vals[j]? = some v → SRep ρ x v) (hmem : MemRep ρ σ w) (hsep : Sep ρ σ)
  (hown : ∀ n b k, Mem.find σ n = some b → Out ρ n b k → w.heap.size ≤ k ∨ ex k) :
  Calls P f vals w fun e w' => ∃ v av σ' ρ', e = .returned v ∧ R av σ' ∧ SRep ρ' av v ∧ MemRep ρ' σ' w' ∧ Sep ρ' σ' ∧ (∀ n, 200000 ≤ n → isHeap n = false → ρ' n = ρ n) ∧ (∀ n, isHeap n = true → HExt (ρ n) (ρ' n)) ∧ (∀ n b k, Mem.find σ' n = some b → Out ρ' n b k → w.heap.size ≤ k ∨ ex k) ∧ Keeps ex w w' := by
 intro cs
 let E : Env := ⟨w, ρ, ex, hg⟩
 let b : Frame := { (default : Frame) with fn := f, kind := .normal }
 cases hbody : fn.body with
 | none => rw [hbody] at hb; cases hb
 | some c =>
  have hbc : bodyOf fn = c := by simp [bodyOf, hbody]
  let a : Act := { tmps := vals ++ Array.replicate (fn.ntmps - vals.size) undef, defers := [] }
  have henter : Frame.enter P f vals .normal = b.at a [.code c] := by
   simp [Frame.enter, Frame.at, hf, hbody, b, a]
  have hR : Rep E ρ (startFr fn.ntmps args) σ a w := ⟨start_sound hl hv, rfl, hmem, hsep, fun _ _ _ => rfl, fun _ _ => .refl _, hown, Keeps.refl _ _⟩
  unfold callsx at h
  rw [hbc] at h
  obtain ⟨e, a', w', he, ⟨ρ', fr', σ', hR', hres⟩, harr⟩ := run_sound hm hΓ n _ ρ _ σ a w h hR b cs
  rw [← henter] at harr
  obtain ⟨v, av, ρ2, fr2, σ2, hrun, hav, hRR, hR2⟩ := resh_sound hres hR'
  have post : ∃ v' av σ' ρ', (Ending.returned v) = .returned v' ∧ R av σ' ∧ SRep ρ' av v' ∧ MemRep ρ' σ' w' ∧ Sep ρ' σ' ∧ (∀ n, 200000 ≤ n → isHeap n = false → ρ' n = ρ n) ∧ (∀ n, isHeap n = true → HExt (ρ n) (ρ' n)) ∧ (∀ n b k, Mem.find σ' n = some b → Out ρ' n b k → w.heap.size ≤ k ∨ ex k) ∧ Keeps ex w w' :=
   ⟨v, av, σ2, ρ2, rfl, hRR, hav, hR2.mem, hR2.sep, hR2.fix, hR2.ext, hR2.own, hR2.keep⟩
  rcases he with rfl | rfl
  ·exact ⟨.returned v, w', _, post, Steps.trans harr (.one step_end), rfl, rfl, hR'.df, rfl, fn, hf, hrun⟩
  ·obtain ⟨todo, hs⟩ := harr
   exact ⟨.returned v, w', _, post, hs, rfl, rfl, hR'.df, rfl, fn, hf, hrun⟩
def plainAV (x : AV) : Prop := ∀ n, x.refs n = false
theorem sep_nil (ρ : Rho) : Sep ρ [] := ⟨fun n m b c k hn => by simp [Mem.find] at hn, fun n b k hn => by simp [Mem.find] at hn⟩
theorem Good.pure2 (hm : P.follows .mixedOrders = true) (hΓ : GoodG P Γ) {f : FuncId} {fn : Func} (hf : P.funcs[f]? = some fn) (hb : fn.body.isSome = true) {s : Spec} (hs : s.mods = false)
  (hsem : ∀ d args σ (K : AV → Mem → Prop), s.sem d args σ K → (∀ x ∈ args, plainAV x) ∧ ∃ av, plainAV av ∧ K av σ ∧ ∃ n, callsx P Γ D fn n args [] fun av' _ => ∀ ρ v, SRep ρ av' v → SRep ρ av v) : Good P f s := by
 refine ⟨fun d args σ K h ρ w vals hg hmem hsep hl hv hnew => ?_⟩
 obtain ⟨hpl, av, hav, hK, n, hc⟩ := hsem d args σ K h
 refine (callsx_sound hm hΓ hf hb hc (ex := fun _ => False) hg hl hv (fun n b hb => by simp [Mem.find] at hb) (sep_nil ρ) (fun n b k hn => by simp [Mem.find] at hn)).mono ?_
 rintro e w' ⟨v, av', σ', ρ', rfl, hsame', hsr, _, _, _, _, _, hk⟩
 have hsame : ∀ i, i < w.heap.size → w'.heap[i]? = w.heap[i]? := fun i hi => hk.block i hi (fun q => q)
 refine ⟨v, av, σ, ρ, rfl, hK, (hsame' _ _ hsr).agree (fun n hn => by rw [hav n] at hn; cases hn), hmem.keeps (fun n b k hb hk => hsame _ (in_range (hmem n b hb) hk)), hsep, fun _ _ _ => rfl, fun _ _ => .refl _, fun n b k hn hO => Or.inl ⟨n, b, hn, hO⟩, ?_, fun _ => ⟨hk, fun _ _ q => q, fun _ _ => rfl⟩⟩
 exact ⟨hk.os, hk.tape, hk.output, hk.size, fun k hk' _ => hsame k hk'⟩
theorem Good.pure (hm : P.follows .mixedOrders = true) (hΓ : GoodG P Γ) {f : FuncId} {fn : Func} (hf : P.funcs[f]? = some fn) (hb : fn.body.isSome = true) {s : Spec} (hs : s.mods = false)
  (hsem : ∀ d args σ (K : AV → Mem → Prop), s.sem d args σ K → (∀ x ∈ args, plainAV x) ∧ ∃ av, plainAV av ∧ K av σ ∧ ∃ n, callsx P Γ D fn n args [] fun av' _ => av' = av) : Good P f s := by
 refine ⟨fun d args σ K h ρ w vals hg hmem hsep hl hv hnew => ?_⟩
 obtain ⟨hpl, av, hav, hK, n, hc⟩ := hsem d args σ K h
 refine (callsx_sound hm hΓ hf hb hc (ex := fun _ => False) hg hl hv (fun n b hb => by simp [Mem.find] at hb) (sep_nil ρ) (fun n b k hn => by simp [Mem.find] at hn)).mono ?_
 rintro e w' ⟨v, av', σ', ρ', rfl, rfl, hsr, _, _, _, _, _, hk⟩
 have hsame : ∀ i, i < w.heap.size → w'.heap[i]? = w.heap[i]? := fun i hi => hk.block i hi (fun q => q)
 refine ⟨v, av', σ, ρ, rfl, hK, hsr.agree (fun n hn => by rw [hav n] at hn; cases hn), hmem.keeps (fun n b k hb hk => hsame _ (in_range (hmem n b hb) hk)), hsep, fun _ _ _ => rfl, fun _ _ => .refl _, fun n b k hn hO => Or.inl ⟨n, b, hn, hO⟩, ?_, fun _ => ⟨hk, fun _ _ q => q, fun _ _ => rfl⟩⟩
 exact ⟨hk.os, hk.tape, hk.output, hk.size, fun k hk' _ => hsame k hk'⟩
theorem plain_int (k : IntKind) (n : Int) : plainAV (.one (.int k n)) := fun _ => rfl
theorem plain_ints (k : IntKind) (n : Nat) (l : List Int) : plainAV (.agg [.ints k n l]) := fun _ => rfl
end
end Go.Sx
namespace Go.Sx
open Go Go.ChangeShapes Go.WideShapes Go.ChangeAt Go.RowKit
section
variable {H : Type} {enc : TypeId × Value → H} {P : Program} {w : World} {base : Nat} {sp : Nat → Bool} {held : Bool}
inductive Args (ρ : Rho) : List AV → List Value → Prop
 | nil : Args ρ [] []
 | cons {x v l m} : SRep ρ x v → Args ρ l m → Args ρ (x :: l) (v :: m)
theorem Args.at {ρ : Rho} {l : List AV} {m : List Value} (h : Args ρ l m) : ∀ (j : Nat) x v, l[j]? = some x → m[j]? = some v → SRep ρ x v := by
 induction h with
 | nil => intro j x v h1; simp at h1
 | cons h t ih =>
  intro j x v h1 h2
  cases j with
  | zero => simp only [List.getElem?_cons_zero, Option.some.injEq] at h1 h2; subst h1; subst h2; exact h
  | succ j => exact ih j x v (by simpa using h1) (by simpa using h2)
theorem Args.arr {ρ : Rho} {l : List AV} {vals : Array Value} (h : Args ρ l vals.toList) (j : Nat) (x : AV) (v : Value) (h1 : l[j]? = some x) (h2 : vals[j]? = some v) : SRep ρ x v :=
 h.at j x v h1 (by simpa using h2)
theorem srep_arr (ρ : Rho) (k : IntKind) (n : Nat) (l : List Int) (h : l.length = n) : SRep ρ (.agg [.ints k n l]) (.agg (l.map (Value.int k)).toArray) := by
 refine ⟨⟨h, trivial⟩, l.map (Value.int k), rfl, by simp [flat, Seg.flat], fun j a v h1 h2 => ?_⟩
 simp only [flat, Seg.flat, List.append_nil, List.getElem?_map, Option.map_eq_some_iff] at h1 h2
 obtain ⟨z, hz, rfl⟩ := h1
 obtain ⟨z', hz', rfl⟩ := h2
 rw [hz] at hz'; cases hz'
 rfl
def IsRow (k : IntKind) (w : World) (a : Option Addr) (len cap : Nat) (zs : List Int) : Prop :=
 (a = none ∧ len = 0 ∧ cap = 0 ∧ zs = []) ∨
 ∃ x, a = some x ∧ len ≤ cap ∧ cap ≤ maxLen ∧ zs.length = cap ∧ (∀ i, i < zs.length → w.cell? (x.add i) = some (.int k (zs.getD i 0))) ∧ ∀ n ∈ zs, (Lit.int k n).wf = true
theorem open_array {t e : TypeId} {k : IntKind} {n : Nat} {r : Reach} {b0 : Nat} {v : Value} {d : DataW H} {ps : List MemPlace} (ht : P.underlying t = some (.array n e)) (he : P.underlying e = some (.int k)) (hc : P.cellsOf e = 1) (hn : P.cellsOf t = n)
  (hv : Value.okWide P w r b0 t v) (h : DataW.Trod enc P w base sp held t v d ps) : ∃ zs : List Int, v = .agg (zs.map (Value.int k)).toArray ∧ zs.length = n ∧ ∀ z ∈ zs, (Lit.int k z).wf = true := by
 have hv' : ∃ xs : Array Value, v = .agg xs := by
  simp only [Value.okWide, ht] at hv
  obtain ⟨cs, h1, _⟩ := hv
  exact ⟨cs, h1⟩
 obtain ⟨xs, rfl⟩ := hv'
 obtain ⟨fuel, hf⟩ := h
 obtain ⟨ys, m, rfl, _, hl, hn', hr⟩ := DataW.trod_array ht hf
 simp only [Value.cells, hc, Nat.mul_one] at hl hr
 have hx : ∀ i, i < n → ∃ z, xs[i]? = some (.int k z) ∧ (Lit.int k z).wf = true := by
  intro i hi
  have h1 := hr i hi
  obtain ⟨y, hy⟩ : ∃ y, ys[i]? = some y := ⟨_, List.getElem?_eq_getElem (by omega)⟩
  rw [hy] at h1
  obtain ⟨z, hz, _, hw⟩ := DataW.trod_int he h1
  refine ⟨z, ?_, hw⟩
  have hlen : i < xs.toList.length := by omega
  rw [List.drop_eq_getElem_cons hlen] at hz
  simp at hz
  rw [Array.getElem?_eq_getElem (by simpa using hlen), hz]
 have hsz : xs.size = n := by rw [hn] at hl; simpa using hl
 refine ⟨xs.toList.map fun | .int _ z => z | _ => 0, ?_, by simp [hsz], ?_⟩
 ·congr 1
  apply Array.ext
  ·simp
  ·intro i h1 h2
   obtain ⟨z, hz, _⟩ := hx i (by omega)
   rw [Array.getElem?_eq_getElem h1] at hz
   cases hz' : xs[i] <;> rw [hz'] at hz <;> cases hz
   simp [hz']
 ·intro z hz
  simp only [List.mem_map] at hz
  obtain ⟨v, hv, rfl⟩ := hz
  obtain ⟨i, hi, rfl⟩ := List.getElem_of_mem hv
  obtain ⟨z, hz, hw⟩ := hx i (by simpa [hsz] using hi)
  have : xs.toList[i] = .int k z := by
   rw [Array.getElem?_eq_getElem (by simpa using hi)] at hz
   simpa using hz
  rw [this]
  exact hw
end
end Go.Sx
namespace Go.Sx
open Go
theorem ilt_true {a b : Int} : ilt a b = true ↔ a < b := by simp [ilt]
theorem ilt_false {a b : Int} : ilt a b = false ↔ b ≤ a := by simp [ilt]
theorem igt_true {a b : Int} : igt a b = true ↔ b < a := by simp [igt]
theorem igt_false {a b : Int} : igt a b = false ↔ a ≤ b := by simp [igt]
theorem ige_true {a b : Int} : ige a b = true ↔ b ≤ a := by simp [ige]
theorem ieq_true {a b : Int} : ieq a b = true ↔ a = b := by simp [ieq]
theorem ieq_false {a b : Int} : ieq a b = false ↔ a ≠ b := by simp [ieq]
theorem ine_true {a b : Int} : ine a b = true ↔ a ≠ b := by simp [ine]
theorem ine_false {a b : Int} : ine a b = false ↔ a = b := by simp [ine]
theorem leq_true {a b : List Int} : leq a b = true ↔ a = b := by simp [leq]
theorem add_i64 {a b : Int} (h1 : -9223372036854775808 ≤ a + b) (h2 : a + b < 9223372036854775808) : add .i64 a b = a + b := by
 unfold add; rw [IntKind.wrap_i64]; omega
theorem sub_i64 {a b : Int} (h1 : -9223372036854775808 ≤ a - b) (h2 : a - b < 9223372036854775808) : sub .i64 a b = a - b := by
 unfold sub; rw [IntKind.wrap_i64]; omega
theorem conv_i64 {a : Int} (h1 : -9223372036854775808 ≤ a) (h2 : a < 9223372036854775808) : conv .i64 a = a := by
 unfold conv; rw [IntKind.wrap_i64]; omega
def ext (Γ : Gam) (f : FuncId) (s : Spec) : Gam := fun g => if g = f then some s else Γ g
def gam0 : Gam := fun _ => none
theorem good0 (P : Program) : GoodG P gam0 := fun f s h => by cases h
theorem GoodG.ext {P : Program} {Γ : Gam} (h : GoodG P Γ) {f : FuncId} {s : Spec} (hf : Good P f s) (hn : ∃ fn, P.funcs[f]? = some fn ∧ fn.name ≠ "runtime.NumGoroutine" ∧ fn.body.isSome = true) : GoodG P (ext Γ f s) := by
 intro g t hg
 unfold Sx.ext at hg
 split at hg
 ·rename_i e; subst e; cases hg; exact ⟨hf, hn⟩
 ·exact h g t hg
def unH (σ : Mem) : Col → Option Col
 | .hss k l => match Mem.heap σ k with
  | some os => some (.rows k (hcons os l))
  | none => none
 | c => some c
def unHs (σ : Mem) : List Col → Option (List Col)
 | [] => some []
 | c :: r => match unH σ c with
  | some x => match unHs σ r with
   | some s => some (x :: s)
   | none => none
  | none => none
theorem unH_kd {σ : Mem} {c x : Col} (h : unH σ c = some x) : x.kd = c.kd := by
 cases c <;> simp only [unH] at h <;> first | (cases h; rfl) | skip
 split at h
 ·cases h; rfl
 ·cases h
theorem unHs_open {σ : Mem} {c : Col} {r y : List Col} (h : unHs σ (c :: r) = some y) : ∃ x s, unH σ c = some x ∧ unHs σ r = some s ∧ y = x :: s := by
 simp only [unHs] at h
 split at h
 ·rename_i x hx
  split at h
  ·rename_i s hs; cases h; exact ⟨x, s, hx, hs, rfl⟩
  ·cases h
 ·cases h
theorem unHs_get {σ : Mem} : ∀ {cs cs' : List Col}, unHs σ cs = some cs' → kdsOf cs' = kdsOf cs ∧ ∀ (c : Nat) x, cs'[c]? = some x → ∃ y, cs[c]? = some y ∧ unH σ y = some x
 | [], cs', h => by cases h; exact ⟨rfl, fun c x q => by simp at q⟩
 | c :: r, cs', h => by
  obtain ⟨x, s, h1, h2, rfl⟩ := unHs_open h
  obtain ⟨g1, g2⟩ := unHs_get h2
  refine ⟨by simp only [kdsOf, List.map_cons] at g1 ⊢; rw [g1, unH_kd h1], fun i y hy => ?_⟩
  cases i with
  | zero => simp at hy; subst hy; exact ⟨c, rfl, h1⟩
  | succ i => exact g2 i y (by simpa using hy)
theorem unH_row {σ : Mem} {L : Loc} {c x : Col} (h : unH σ c = some x) (n i j : Nat) : colVal L n x i j = colVal L n c i j := by
 cases c <;> simp only [unH] at h <;> first | (cases h; rfl) | skip
 split at h
 ·cases h; rfl
 ·cases h
theorem unHs_row {σ : Mem} {L : Loc} : ∀ {cs cs' : List Col}, unHs σ cs = some cs' → ∀ c i t, rowVal L cs' c i t = rowVal L cs c i t
 | [], cs', h, c, i, t => by cases h; rfl
 | c :: r, cs', h, n, i, t => by
  obtain ⟨x, s, h1, h2, rfl⟩ := unHs_open h
  simp only [rowVal, unH_kd h1, unH_row h1, unHs_row h2]
theorem elt_of_ints {w : World} {L : Loc} {k : IntKind} {l : List Int} {e : Elt} (hV : VRep w L [.ints k l]) (ha : e.a = L.a) (hl : e.len = L.len) (hc : e.cap = L.cap) : EltRep w e k l := by
 have hlen : l.length = L.len := hV.ok (.ints k l) (by simp)
 refine ⟨by omega, by have := hV.cap; omega, fun hne => ?_, fun j x hj a haa => ?_⟩
 ·have hL : L.len ≠ 0 := fun q => hne (List.eq_nil_of_length_eq_zero (by omega))
  exact ⟨L.at 0, by rw [ha]; exact hV.adr hL⟩
 ·have hj' : j < l.length := (List.getElem?_eq_some_iff.1 hj).1
  have := hV.cells j (by omega) 0 (by show 0 < 1; omega)
  have e1 : cwidth [Col.ints k l] = 1 := rfl
  rw [e1, Nat.mul_one, Nat.add_zero] at this
  rw [ha, hV.adr (by omega)] at haa
  cases haa
  rw [Loc.at_add, Nat.zero_add, this]
  simp [rowVal, Col.kd, Kd.width, colVal, lget, List.getD, hj]
theorem unHs_rep {ρ : Rho} {σ : Mem} {w : World} {L : Loc} {cs cs' : List Col} (hm : MemRep ρ σ w) (hs : Sep ρ σ) (h : unHs σ cs = some cs') (hV : VRep w L cs) (hL : Lnk ρ L cs) : VRep w L cs' ∧ ∀ ρ', Lnk ρ' L cs' := by
 obtain ⟨g1, g2⟩ := unHs_get h
 have hw : cwidth cs' = cwidth cs := by simp only [cwidth, g1]
 refine ⟨⟨fun q => ?_, by rw [hw]; exact hV.wid, fun col hcol => ?_, hV.cap, hV.adr, fun i hi t ht => ?_, fun c k ll hc i l hl => ?_⟩, fun ρ' => lnk_no fun c k l hc => ?_⟩
 ·subst q
  have := hV.ne
  cases cs with
  | nil => exact this rfl
  | cons c r => simp [kdsOf] at g1
 ·obtain ⟨c, hc⟩ := List.mem_iff_getElem?.1 hcol
  obtain ⟨y, hy, hu⟩ := g2 c col hc
  have := hV.ok y (List.mem_of_getElem? hy)
  cases y <;> simp only [unH] at hu <;> first | (cases hu; exact this) | skip
  split at hu
  ·cases hu; simpa [Col.ok, hcons] using this
  ·cases hu
 ·rw [hw] at ht ⊢
  rw [unHs_row h]; exact hV.cells i hi t ht
 ·obtain ⟨y, hy, hu⟩ := g2 c _ hc
  cases y <;> simp only [unH] at hu <;> first | (cases hu; exact hV.inner c k ll hy i l hl) | (cases hu) | skip
  rename_i k' ds
  split at hu
  ·rename_i os ho
   cases hu
   simp only [hcons, List.getElem?_map, Option.map_eq_some_iff] at hl
   obtain ⟨d, hd, rfl⟩ := hl
   obtain ⟨L', hR, _⟩ := reads_hs hm hs ho (hL c k ds hy i d hd)
   have e := hR.val
   simp only [Value.slice.injEq] at e
   exact elt_of_ints hR.rep e.1 e.2.1 e.2.2
  ·cases hu
 ·obtain ⟨y, hy, hu⟩ := g2 c _ hc
  cases y <;> simp only [unH] at hu <;> first | (cases hu) | skip
  split at hu <;> cases hu
inductive CanonF (σ : Mem) (j : Nat) : Nat → List Seg → List Seg → Mem → Prop
 | nil (f : Nat) : CanonF σ j f [] [] []
 | plain {f : Nat} {g : Seg} {s t : List Seg} {τ : Mem} : (∀ m, g.refs m = false) → CanonF σ j f s t τ → CanonF σ j f (g :: s) (g :: t) τ
 | row {f : Nat} {a : AC} {s t : List Seg} {τ : Mem} (ks : List Kd) (cs : List Col) : f < 100 → rdx σ ks (.one a) (fun c => c = cs) → 0 < width ks → CanonF σ j (f + 1) s t τ → CanonF σ j f (.cells [a] :: s) (.cells [.vec (200000 + (j + 1000 * f))] :: t) ((200000 + (j + 1000 * f), .rview cs) :: τ)
 | rowH {f : Nat} {a : AC} {s t : List Seg} {τ : Mem} (ks : List Kd) (cs : List Col) : f < 100 → rdx σ ks (.one a) (fun c => unHs σ c = some cs) → 0 < width ks → CanonF σ j (f + 1) s t τ → CanonF σ j f (.cells [a] :: s) (.cells [.vec (200000 + (j + 1000 * f))] :: t) ((200000 + (j + 1000 * f), .rview cs) :: τ)
inductive Canon (σ : Mem) : Nat → List AV → List AV → Mem → Prop
 | nil (j : Nat) : Canon σ j [] [] []
 | plain {j : Nat} {x : AV} {xs ys : List AV} {τ : Mem} : plainAV x → Canon σ (j + 1) xs ys τ → Canon σ j (x :: xs) (x :: ys) τ
 | row {j : Nat} {x : AV} {xs ys : List AV} {τ : Mem} (ks : List Kd) (cs : List Col) : rdx σ ks x (fun c => c = cs) → 0 < width ks → Canon σ (j + 1) xs ys τ → Canon σ j (x :: xs) (.one (.vec (200000 + j)) :: ys) ((200000 + j, .rview cs) :: τ)
 | rowH {j : Nat} {x : AV} {xs ys : List AV} {τ : Mem} (ks : List Kd) (cs : List Col) : rdx σ ks x (fun c => unHs σ c = some cs) → 0 < width ks → Canon σ (j + 1) xs ys τ → Canon σ j (x :: xs) (.one (.vec (200000 + j)) :: ys) ((200000 + j, .rview cs) :: τ)
 | aggrow {j : Nat} {a : AC} {s : List Seg} {xs ys : List AV} {τ : Mem} (ks : List Kd) (cs : List Col) : rdx σ ks (.one a) (fun c => c = cs) → 0 < width ks → (∀ m, segsRefs m s = false) → Canon σ (j + 1) xs ys τ → Canon σ j (.agg (.cells [a] :: s) :: xs) (.agg (.cells [.vec (200000 + j)] :: s) :: ys) ((200000 + j, .rview cs) :: τ)
 | clo {j g n : Nat} {b : Blk} {xs ys : List AV} {τ : Mem} : Mem.find σ n = some b → (∀ m, segsRefs m b.segs = false) → Canon σ (j + 1) xs ys τ → Canon σ j (.one (.clo g n 0 0) :: xs) (.one (.clo g (200000 + j) 0 0) :: ys) ((200000 + j, .view b.segs) :: τ)
 | ptr {j n : Nat} {b : Blk} {xs ys : List AV} {τ : Mem} : Mem.find σ n = some b → (∀ m, segsRefs m b.segs = false) → Canon σ (j + 1) xs ys τ → Canon σ j (.one (.ptr n 0 0) :: xs) (.one (.ptr (200000 + j) 0 0) :: ys) ((200000 + j, .view b.segs) :: τ)
 | aggs {j : Nat} {s t : List Seg} {xs ys : List AV} {τ τ' : Mem} : CanonF σ j 0 s t τ' → Canon σ (j + 1) xs ys τ → Canon σ j (.agg s :: xs) (.agg t :: ys) (τ' ++ τ)
 | glob {j g : Nat} {b : Blk} {xs ys : List AV} {τ : Mem} : Mem.find σ (gname g) = some b → (∀ m, segsRefs m b.segs = false) → Canon σ j xs ys τ → Canon σ j xs ys ((gname g, .view b.segs) :: τ)
theorem find_app {τ' τ : Mem} {n : Nat} {b : Blk} (h : Mem.find (τ' ++ τ) n = some b) : Mem.find τ' n = some b ∨ Mem.find τ n = some b := by
 induction τ' with
 | nil => exact Or.inr h
 | cons x r ih =>
  obtain ⟨m, y⟩ := x
  simp only [List.cons_append, Mem.find] at h ⊢
  split at h
  ·rename_i e; rw [if_pos e]; exact Or.inl h
  ·rename_i e; rw [if_neg e]; exact ih h
theorem canonF_views {σ τ : Mem} {j : Nat} : ∀ {f : Nat} {s t : List Seg}, CanonF σ j f s t τ → ∀ ρ n b k, Mem.find τ n = some b → ¬ Out ρ n b k := by
 intro f s t h
 induction h with
 | nil f => intro ρ n b k hn; simp [Mem.find] at hn
 | plain _ _ ih => exact ih
 | row ks cs _ _ _ _ ih =>
  intro ρ n b k hn
  simp only [Mem.find] at hn
  split at hn
  ·cases hn; exact fun q => q
  ·exact ih ρ n b k hn
 | rowH ks cs _ _ _ _ ih =>
  intro ρ n b k hn
  simp only [Mem.find] at hn
  split at hn
  ·cases hn; exact fun q => q
  ·exact ih ρ n b k hn
theorem canon_views {σ τ : Mem} : ∀ {j : Nat} {xs ys : List AV}, Canon σ j xs ys τ → ∀ ρ n b k, Mem.find τ n = some b → ¬ Out ρ n b k := by
 intro j xs ys h
 induction h with
 | nil j => intro ρ n b k hn; simp [Mem.find] at hn
 | plain _ _ ih => exact ih
 | row ks cs _ _ _ ih =>
  intro ρ n b k hn
  simp only [Mem.find] at hn
  split at hn
  ·cases hn; exact fun q => q
  ·exact ih ρ n b k hn
 | rowH ks cs _ _ _ ih =>
  intro ρ n b k hn
  simp only [Mem.find] at hn
  split at hn
  ·cases hn; exact fun q => q
  ·exact ih ρ n b k hn
 | aggrow ks cs _ _ _ _ ih =>
  intro ρ n b k hn
  simp only [Mem.find] at hn
  split at hn
  ·cases hn; exact fun q => q
  ·exact ih ρ n b k hn
 | clo _ _ _ ih =>
  intro ρ n b k hn
  simp only [Mem.find] at hn
  split at hn
  ·cases hn; exact fun q => q
  ·exact ih ρ n b k hn
 | ptr _ _ _ ih =>
  intro ρ n b k hn
  simp only [Mem.find] at hn
  split at hn
  ·cases hn; exact fun q => q
  ·exact ih ρ n b k hn
 | aggs hF _ ih =>
  intro ρ n b k hn
  rcases find_app hn with q | q
  ·exact canonF_views hF ρ n b k q
  ·exact ih ρ n b k q
 | glob _ _ _ ih =>
  intro ρ n b k hn
  simp only [Mem.find] at hn
  split at hn
  ·cases hn; exact fun q => q
  ·exact ih ρ n b k hn
theorem plainAV.any {x : AV} (h : plainAV x) {ρ ρ' : Rho} {v : Value} (hv : SRep ρ x v) : SRep ρ' x v := hv.agree fun n hn => by rw [h n] at hn; cases hn
theorem Lnk.heaps {ρ ρc : Rho} {L : Loc} {cs : List Col} (h : Lnk ρ L cs) (hc : ∀ n, isHeap n = true → ρc n = ρ n) : Lnk ρc L cs := h.agree fun m hm => .of_eq (hc m (by
  obtain ⟨x, _, hx⟩ := List.any_eq_true.1 hm
  cases x with
  | hss k l => have : hname k = m := by simpa [Col.refs] using hx
               subst this; exact isHeap_hname k
  | _ => simp [Col.refs] at hx))
theorem canonF_sound {σ τ : Mem} {ρ : Rho} {w : World} (hm : MemRep ρ σ w) (hs : Sep ρ σ) {j : Nat} : ∀ {f : Nat} {s t : List Seg}, CanonF σ j f s t τ → ∀ (vals : List Value), segsOk s → FRep ρ (flat s) vals →
  ∃ Ls : Nat → Loc, ∀ ρc : Rho, (∀ i, f ≤ i → i < 100 → ρc (200000 + (j + 1000 * i)) = Ls i) → (∀ n, isHeap n = true → ρc n = ρ n) → segsOk t ∧ FRep ρc (flat t) vals ∧ MemRep ρc τ w := by
 intro f s t h
 induction h with
 | nil f => intro vals _ hF; exact ⟨fun _ => loc0, fun ρc _ _ => ⟨trivial, ⟨hF.1, fun i a v ha => by simp [flat] at ha⟩, fun n b hb => by simp [Mem.find] at hb⟩⟩
 | @plain f g s t τ hp _ ih =>
  intro vals hok hF
  obtain ⟨v1, v2, rfl, hl⟩ : ∃ v1 v2, vals = v1 ++ v2 ∧ g.flat.length = v1.length := by
   have e := hF.1
   simp only [flat, List.length_append] at e
   exact ⟨vals.take g.flat.length, vals.drop g.flat.length, (List.take_append_drop _ _).symm, by rw [List.length_take]; omega⟩
  obtain ⟨Ls, h2⟩ := ih v2 hok.2 ⟨by have := hF.1; simp only [flat, List.length_append] at this; omega, fun i a v ha hv => hF.2 (g.flat.length + i) a v (by simp only [flat]; rw [List.getElem?_append_right (by omega), Nat.add_sub_cancel_left]; exact ha) (by rw [List.getElem?_append_right (by omega), hl, Nat.add_sub_cancel_left]; exact hv)⟩
  refine ⟨Ls, fun ρc hc hch => ?_⟩
  obtain ⟨g1, g2, g3⟩ := h2 ρc hc hch
  refine ⟨⟨hok.1, g1⟩, ⟨by simp only [flat, List.length_append]; have := g2.1; omega, fun i a v ha hv => ?_⟩, g3⟩
  simp only [flat] at ha
  by_cases hi : i < g.flat.length
  ·rw [List.getElem?_append_left hi] at ha
   rw [List.getElem?_append_left (by omega)] at hv
   refine (hF.2 i a v (by simp only [flat]; rw [List.getElem?_append_left hi]; exact ha) (by rw [List.getElem?_append_left (by omega)]; exact hv)).agree fun m hm' => ?_
   have hr := hp m
   have : a ∈ g.flat := List.mem_of_getElem? ha
   cases g with
   | cells cs =>
    have : cs.any (AC.refs m) = true := List.any_eq_true.2 ⟨a, this, hm'⟩
    simp only [Seg.refs] at hr
    rw [hr] at this; cases this
   | ints k n l =>
    simp only [Seg.flat, List.mem_map] at this
    obtain ⟨x, _, rfl⟩ := this
    cases hm'
   | bools n l =>
    simp only [Seg.flat, List.mem_map] at this
    obtain ⟨x, _, rfl⟩ := this
    cases hm'
  ·rw [List.getElem?_append_right (by omega)] at ha
   rw [List.getElem?_append_right (by omega), ← hl] at hv
   exact g2.2 _ a v ha hv
 | @row f a s t τ ks cs hf hr hk _ ih =>
  intro vals hok hF
  have hfl : flat (.cells [a] :: s) = a :: flat s := rfl
  rw [hfl] at hF
  obtain ⟨c0, rest, rfl⟩ : ∃ c0 rest, vals = c0 :: rest := by
   cases vals with
   | nil => have := hF.1; simp at this
   | cons c0 rest => exact ⟨c0, rest, rfl⟩
  obtain ⟨cs', L, hR, rfl⟩ := rdx_sound hr hk hm hs (x := .one a) (hF.2 0 a c0 rfl rfl)
  obtain ⟨Ls, h2⟩ := ih rest hok.2 ⟨by have := hF.1; simpa using this, fun i b v hb hv => hF.2 (i + 1) b v (by simpa using hb) (by simpa using hv)⟩
  refine ⟨fun i => if i = f then L else Ls i, fun ρc hc hch => ?_⟩
  have hj : ρc (200000 + (j + 1000 * f)) = L := by rw [hc f (Nat.le_refl _) hf]; simp
  obtain ⟨g1, g2, g3⟩ := h2 ρc (fun i hi h100 => by rw [hc i (by omega) h100]; show (if i = f then _ else Ls i) = Ls i; rw [if_neg (by omega)]) hch
  refine ⟨⟨trivial, g1⟩, ⟨by have := hF.1; have := g2.1; simp [flat, Seg.flat] at *; omega, fun i b v hb hv => ?_⟩, fun m b hb => ?_⟩
  ·cases i with
   | zero =>
    simp [flat, Seg.flat] at hb hv
    subst hb hv
    show c0 = _
    rw [hj]; exact hR.val
   | succ i => exact g2.2 i b v (by simpa [flat, Seg.flat] using hb) (by simpa using hv)
  ·simp only [Mem.find] at hb
   split at hb
   ·rename_i e; subst e; cases hb
    exact ⟨by rw [hj]; exact hR.rep, by rw [hj]; exact hR.lnk.heaps hch⟩
   ·exact g3 m b hb
 | @rowH f a s t τ ks cs hf hr hk _ ih =>
  intro vals hok hF
  have hfl : flat (.cells [a] :: s) = a :: flat s := rfl
  rw [hfl] at hF
  obtain ⟨c0, rest, rfl⟩ : ∃ c0 rest, vals = c0 :: rest := by
   cases vals with
   | nil => have := hF.1; simp at this
   | cons c0 rest => exact ⟨c0, rest, rfl⟩
  obtain ⟨cs', L, hR, hu⟩ := rdx_sound hr hk hm hs (x := .one a) (hF.2 0 a c0 rfl rfl)
  obtain ⟨u1, u2⟩ := unHs_rep hm hs hu hR.rep hR.lnk
  obtain ⟨Ls, h2⟩ := ih rest hok.2 ⟨by have := hF.1; simpa using this, fun i b v hb hv => hF.2 (i + 1) b v (by simpa using hb) (by simpa using hv)⟩
  refine ⟨fun i => if i = f then L else Ls i, fun ρc hc hch => ?_⟩
  have hj : ρc (200000 + (j + 1000 * f)) = L := by rw [hc f (Nat.le_refl _) hf]; simp
  obtain ⟨g1, g2, g3⟩ := h2 ρc (fun i hi h100 => by rw [hc i (by omega) h100]; show (if i = f then _ else Ls i) = Ls i; rw [if_neg (by omega)]) hch
  refine ⟨⟨trivial, g1⟩, ⟨by have := hF.1; have := g2.1; simp [flat, Seg.flat] at *; omega, fun i b v hb hv => ?_⟩, fun m b hb => ?_⟩
  ·cases i with
   | zero =>
    simp [flat, Seg.flat] at hb hv
    subst hb hv
    show c0 = _
    rw [hj]; exact hR.val
   | succ i => exact g2.2 i b v (by simpa [flat, Seg.flat] using hb) (by simpa using hv)
  ·simp only [Mem.find] at hb
   split at hb
   ·rename_i e; subst e; cases hb
    exact ⟨by rw [hj]; exact u1, by rw [hj]; exact u2 _⟩
   ·exact g3 m b hb
theorem canon_sound {σ τ : Mem} {ρ : Rho} {w : World} (hm : MemRep ρ σ w) (hs : Sep ρ σ) : ∀ {j : Nat} {xs ys : List AV}, Canon σ j xs ys τ → ∀ (vals : List Value), xs.length = vals.length → (∀ (i : Nat) x v, xs[i]? = some x → vals[i]? = some v → SRep ρ x v) →
  ys.length = vals.length ∧ ∃ Ls : Nat → Nat → Loc, ∀ ρc : Rho, (∀ i f, j ≤ i → i < j + xs.length → f < 100 → ρc (200000 + (i + 1000 * f)) = Ls i f) → (∀ g, ρc (gname g) = ρ (gname g)) → (∀ n, isHeap n = true → ρc n = ρ n) → (∀ (i : Nat) y v, ys[i]? = some y → vals[i]? = some v → SRep ρc y v) ∧ MemRep ρc τ w := by
 intro j xs ys h
 induction h with
 | nil j => intro vals hl _; exact ⟨hl, fun _ _ => loc0, fun ρc _ _ _ => ⟨fun i y v hy => by simp at hy, fun n b hb => by simp [Mem.find] at hb⟩⟩
 | @plain j x xs ys τ hp _ ih =>
  intro vals hl hv
  cases vals with
  | nil => simp at hl
  | cons v vals =>
   obtain ⟨h1, Ls, h2⟩ := ih vals (by simpa using hl) (fun i x u hx hu => hv (i + 1) x u (by simpa using hx) (by simpa using hu))
   refine ⟨by simpa using h1, Ls, fun ρc hc hcg hch => ?_⟩
   obtain ⟨g1, g2⟩ := h2 ρc (fun i f hi hlt hf => hc i f (by omega) (by simp only [List.length_cons]; omega) hf) hcg hch
   refine ⟨fun i y u hy hu => ?_, g2⟩
   cases i with
   | zero => simp at hy hu; subst hy hu; exact hp.any (hv 0 x v rfl rfl)
   | succ i => exact g1 i y u (by simpa using hy) (by simpa using hu)
 | @row j x xs ys τ ks cs hr hk _ ih =>
  intro vals hl hv
  cases vals with
  | nil => simp at hl
  | cons v vals =>
   obtain ⟨h1, Ls, h2⟩ := ih vals (by simpa using hl) (fun i x u hx hu => hv (i + 1) x u (by simpa using hx) (by simpa using hu))
   obtain ⟨cs', L, hR, rfl⟩ := rdx_sound hr hk hm hs (hv 0 x v rfl rfl)
   refine ⟨by simpa using h1, fun i f => if i = j then L else Ls i f, fun ρc hc hcg hch => ?_⟩
   have hj : ρc (200000 + j) = L := by have q := hc j 0 (Nat.le_refl _) (by simp) (by decide); simpa using q
   obtain ⟨g1, g2⟩ := h2 ρc (fun i f hi hlt hf => by rw [hc i f (by omega) (by simp only [List.length_cons]; omega) hf]; show (if i = j then _ else Ls i f) = Ls i f; rw [if_neg (by omega)]) hcg hch
   refine ⟨fun i y u hy hu => ?_, fun n b hb => ?_⟩
   ·cases i with
    | zero =>
     simp at hy hu
     subst hy hu
     show v = _
     rw [hj]; exact hR.val
    | succ i => exact g1 i y u (by simpa using hy) (by simpa using hu)
   ·simp only [Mem.find] at hb
    split at hb
    ·rename_i e; subst e; cases hb
     exact ⟨by rw [hj]; exact hR.rep, by rw [hj]; exact hR.lnk.heaps hch⟩
    ·exact g2 n b hb
 | @rowH j x xs ys τ ks cs hr hk _ ih =>
  intro vals hl hv
  cases vals with
  | nil => simp at hl
  | cons v vals =>
   obtain ⟨h1, Ls, h2⟩ := ih vals (by simpa using hl) (fun i x u hx hu => hv (i + 1) x u (by simpa using hx) (by simpa using hu))
   obtain ⟨cs', L, hR, hu⟩ := rdx_sound hr hk hm hs (hv 0 x v rfl rfl)
   obtain ⟨u1, u2⟩ := unHs_rep hm hs hu hR.rep hR.lnk
   refine ⟨by simpa using h1, fun i f => if i = j then L else Ls i f, fun ρc hc hcg hch => ?_⟩
   have hj : ρc (200000 + j) = L := by have q := hc j 0 (Nat.le_refl _) (by simp) (by decide); simpa using q
   obtain ⟨g1, g2⟩ := h2 ρc (fun i f hi hlt hf => by rw [hc i f (by omega) (by simp only [List.length_cons]; omega) hf]; show (if i = j then _ else Ls i f) = Ls i f; rw [if_neg (by omega)]) hcg hch
   refine ⟨fun i y u hy hu => ?_, fun n b hb => ?_⟩
   ·cases i with
    | zero =>
     simp at hy hu
     subst hy hu
     show v = _
     rw [hj]; exact hR.val
    | succ i => exact g1 i y u (by simpa using hy) (by simpa using hu)
   ·simp only [Mem.find] at hb
    split at hb
    ·rename_i e; subst e; cases hb
     exact ⟨by rw [hj]; exact u1, by rw [hj]; exact u2 _⟩
    ·exact g2 n b hb
 | @aggrow j a s xs ys τ ks cs hr hk hp _ ih =>
  intro vals hl hv
  cases vals with
  | nil => simp at hl
  | cons v vals =>
   obtain ⟨h1, Ls, h2⟩ := ih vals (by simpa using hl) (fun i x u hx hu => hv (i + 1) x u (by simpa using hx) (by simpa using hu))
   obtain ⟨hok, cells, rfl, hF⟩ := hv 0 _ v rfl rfl
   have hfl : flat (.cells [a] :: s) = a :: flat s := rfl
   rw [hfl] at hF
   obtain ⟨c0, rest, rfl⟩ : ∃ c0 rest, cells = c0 :: rest := by
    cases cells with
    | nil => have := hF.1; simp at this
    | cons c0 rest => exact ⟨c0, rest, rfl⟩
   obtain ⟨cs', L, hR, rfl⟩ := rdx_sound hr hk hm hs (x := .one a) (hF.2 0 a c0 rfl rfl)
   refine ⟨by simpa using h1, fun i f => if i = j then L else Ls i f, fun ρc hc hcg hch => ?_⟩
   have hj : ρc (200000 + j) = L := by have q := hc j 0 (Nat.le_refl _) (by simp) (by decide); simpa using q
   obtain ⟨g1, g2⟩ := h2 ρc (fun i f hi hlt hf => by rw [hc i f (by omega) (by simp only [List.length_cons]; omega) hf]; show (if i = j then _ else Ls i f) = Ls i f; rw [if_neg (by omega)]) hcg hch
   refine ⟨fun i y u hy hu => ?_, fun n b hb => ?_⟩
   ·cases i with
    | zero =>
     simp at hy hu
     subst hy hu
     refine ⟨⟨trivial, hok.2⟩, c0 :: rest, rfl, ?_⟩
     have hfl2 : flat (.cells [.vec (200000 + j)] :: s) = .vec (200000 + j) :: flat s := rfl
     rw [hfl2]
     refine ⟨by have := hF.1; simpa using this, fun i b u hb hu => ?_⟩
     cases i with
     | zero =>
      simp at hb hu
      subst hb hu
      show c0 = _
      rw [hj]; exact hR.val
     | succ i =>
      have hb : (flat s)[i]? = some b := by simpa using hb
      refine (hF.2 (i + 1) b u (by simpa using hb) hu).agree fun m hm' => ?_
      have := flat_refs' (List.any_eq_true.2 ⟨b, List.mem_of_getElem? hb, hm'⟩)
      rw [hp m] at this; cases this
    | succ i => exact g1 i y u (by simpa using hy) (by simpa using hu)
   ·simp only [Mem.find] at hb
    split at hb
    ·rename_i e; subst e; cases hb
     exact ⟨by rw [hj]; exact hR.rep, by rw [hj]; exact hR.lnk.heaps hch⟩
    ·exact g2 n b hb
 | @clo j g n b xs ys τ hn hp _ ih =>
  intro vals hl hv
  cases vals with
  | nil => simp at hl
  | cons v vals =>
   obtain ⟨h1, Ls, h2⟩ := ih vals (by simpa using hl) (fun i x u hx hu => hv (i + 1) x u (by simpa using hx) (by simpa using hu))
   have hx : v = .func (.func g) #[] #[.pointer (some (at_ ρ n (0 + 0)))] := hv 0 _ v rfl rfl
   refine ⟨by simpa using h1, fun i f => if i = j then ρ n else Ls i f, fun ρc hc hcg hch => ?_⟩
   have hj : ρc (200000 + j) = ρ n := by have q := hc j 0 (Nat.le_refl _) (by simp) (by decide); simpa using q
   obtain ⟨g1, g2⟩ := h2 ρc (fun i f hi hlt hf => by rw [hc i f (by omega) (by simp only [List.length_cons]; omega) hf]; show (if i = j then _ else Ls i f) = Ls i f; rw [if_neg (by omega)]) hcg hch
   refine ⟨fun i y u hy hu => ?_, fun m b' hb => ?_⟩
   ·cases i with
    | zero =>
     simp at hy hu
     subst hy hu
     show v = _
     rw [hx]; simp only [at_, hj]
    | succ i => exact g1 i y u (by simpa using hy) (by simpa using hu)
   ·simp only [Mem.find] at hb
    split at hb
    ·rename_i e; subst e; cases hb
     obtain ⟨q1, q2⟩ := (hm n b hn).cells
     refine ⟨q1, fun i a ha => ?_⟩
     obtain ⟨u, hu1, hu2⟩ := q2 i a ha
     refine ⟨u, by simp only [at_, hj]; exact hu1, hu2.agree fun m hm' => ?_⟩
     have := flat_refs' (List.any_eq_true.2 ⟨a, List.mem_of_getElem? ha, hm'⟩)
     rw [hp m] at this; cases this
    ·exact g2 m b' hb
 | @ptr j n b xs ys τ hn hp _ ih =>
  intro vals hl hv
  cases vals with
  | nil => simp at hl
  | cons v vals =>
   obtain ⟨h1, Ls, h2⟩ := ih vals (by simpa using hl) (fun i x u hx hu => hv (i + 1) x u (by simpa using hx) (by simpa using hu))
   have hx : v = .pointer (some (at_ ρ n (0 + 0))) := hv 0 _ v rfl rfl
   refine ⟨by simpa using h1, fun i f => if i = j then ρ n else Ls i f, fun ρc hc hcg hch => ?_⟩
   have hj : ρc (200000 + j) = ρ n := by have q := hc j 0 (Nat.le_refl _) (by simp) (by decide); simpa using q
   obtain ⟨g1, g2⟩ := h2 ρc (fun i f hi hlt hf => by rw [hc i f (by omega) (by simp only [List.length_cons]; omega) hf]; show (if i = j then _ else Ls i f) = Ls i f; rw [if_neg (by omega)]) hcg hch
   refine ⟨fun i y u hy hu => ?_, fun m b' hb => ?_⟩
   ·cases i with
    | zero =>
     simp at hy hu
     subst hy hu
     show v = _
     rw [hx]; simp only [at_, hj]
    | succ i => exact g1 i y u (by simpa using hy) (by simpa using hu)
   ·simp only [Mem.find] at hb
    split at hb
    ·rename_i e; subst e; cases hb
     obtain ⟨q1, q2⟩ := (hm n b hn).cells
     refine ⟨q1, fun i a ha => ?_⟩
     obtain ⟨u, hu1, hu2⟩ := q2 i a ha
     refine ⟨u, by simp only [at_, hj]; exact hu1, hu2.agree fun m hm' => ?_⟩
     have := flat_refs' (List.any_eq_true.2 ⟨a, List.mem_of_getElem? ha, hm'⟩)
     rw [hp m] at this; cases this
    ·exact g2 m b' hb
 | @aggs j s t xs ys τ τ' hF _ ih =>
  intro vals hl hv
  cases vals with
  | nil => simp at hl
  | cons v vals =>
   obtain ⟨h1, Ls, h2⟩ := ih vals (by simpa using hl) (fun i x u hx hu => hv (i + 1) x u (by simpa using hx) (by simpa using hu))
   obtain ⟨hok, cells, rfl, hFR⟩ := hv 0 _ v rfl rfl
   obtain ⟨Ms, h3⟩ := canonF_sound hm hs hF cells hok hFR
   refine ⟨by simpa using h1, fun i f => if i = j then Ms f else Ls i f, fun ρc hc hcg hch => ?_⟩
   obtain ⟨g1, g2⟩ := h2 ρc (fun i f hi hlt hf => by rw [hc i f (by omega) (by simp only [List.length_cons]; omega) hf]; show (if i = j then _ else Ls i f) = Ls i f; rw [if_neg (by omega)]) hcg hch
   obtain ⟨k1, k2, k3⟩ := h3 ρc (fun f _ hf => by rw [hc j f (Nat.le_refl _) (by simp) hf]; simp) hch
   refine ⟨fun i y u hy hu => ?_, fun n b hb => ?_⟩
   ·cases i with
    | zero =>
     simp at hy hu
     subst hy hu
     exact ⟨k1, cells, rfl, k2⟩
    | succ i => exact g1 i y u (by simpa using hy) (by simpa using hu)
   ·rcases find_app hb with q | q
    ·exact k3 n b q
    ·exact g2 n b q
 | @glob j g b xs ys τ hn hp _ ih =>
  intro vals hl hv
  obtain ⟨h1, Ls, h2⟩ := ih vals hl hv
  refine ⟨h1, Ls, fun ρc hc hcg hch => ?_⟩
  obtain ⟨g1, g2⟩ := h2 ρc hc hcg hch
  refine ⟨g1, fun m b' hb => ?_⟩
  simp only [Mem.find] at hb
  split at hb
  ·rename_i e; subst e; cases hb
   obtain ⟨q1, q2⟩ := (hm (gname g) b hn).cells
   refine ⟨q1, fun i a ha => ?_⟩
   obtain ⟨u, hu1, hu2⟩ := q2 i a ha
   refine ⟨u, by simp only [at_, hcg]; exact hu1, hu2.agree fun m hm' => ?_⟩
   have := flat_refs' (List.any_eq_true.2 ⟨a, List.mem_of_getElem? ha, hm'⟩)
   rw [hp m] at this; cases this
  ·exact g2 m b' hb
inductive Item where
 | vec (m : Nat) (cs : List Col)
 | nil (ks : List Kd)
def Item.cols : Item → List Col
 | .vec _ cs => cs
 | .nil ks => ks.map Kd.nil
def Item.ac : Item → AC
 | .vec m _ => .vec m
 | .nil _ => .con (.slice none 0 0)
def Item.name : Item → Option Nat
 | .vec m _ => some m
 | .nil _ => none
def noRows : List Col → Bool
 | [] => true
 | .rows _ _ :: _ => false
 | .hss _ _ :: _ => false
 | _ :: r => noRows r
def Item.ok (σ : Mem) : Item → Prop
 | .vec m cs => Mem.find σ m = some (.vec cs) ∧ noRows cs = true
 | .nil ks => 0 < width ks ∧ noRows (ks.map Kd.nil) = true
def ResC (its : List Item) (d : Nat) (a b : AC) : Prop :=
 ((∀ n, a.refs n = false) ∧ (∀ n, b.refs n = false) ∧ ∀ ρ v, CRep ρ a v → CRep ρ b v) ∨ ∃ k it, its[k]? = some it ∧ a = it.ac ∧ b = .vec (d + 10000 * k)
def ResCs (its : List Item) (d : Nat) : List AC → List AC → Prop
 | [], [] => True
 | a :: r, b :: s => ResC its d a b ∧ ResCs its d r s
 | _, _ => False
def ResS (its : List Item) (d : Nat) : List Seg → List Seg → Prop
 | [], [] => True
 | .ints k n l :: r, .ints k' n' l' :: s => (k = k' ∧ n = n' ∧ l = l') ∧ ResS its d r s
 | .bools n l :: r, .bools n' l' :: s => (n = n' ∧ l = l') ∧ ResS its d r s
 | .cells c :: r, .cells c' :: s => ResCs its d c c' ∧ ResS its d r s
 | _, _ => False
def ResT (its : List Item) (d : Nat) : List TV → List TV → Prop
 | [], [] => True
 | .c a :: r, .c b :: s => ResC its d a b ∧ ResT its d r s
 | .g x :: r, .g y :: s => ResS its d x y ∧ ResT its d r s
 | _, _ => False
def ResV (its : List Item) (d : Nat) : AV → AV → Prop
 | .one a, .one b => ResC its d a b
 | .agg s, .agg t => ResS its d s t
 | .tup v, .tup u => ResT its d v u
 | _, _ => False
def insAll (d : Nat) : Nat → List Item → Mem → Mem
 | _, [], σ => σ
 | k, it :: r, σ => insAll d (k + 1) r (Mem.ins (d + 10000 * k) (.vec it.cols) σ)
def Res (d news : Nat) (σ : Mem) (K : AV → Mem → Prop) (av : AV) (σ' : Mem) : Prop :=
 ∃ its av', its.length ≤ news ∧ (∀ it ∈ its, it.ok σ') ∧ (its.map Item.name).Pairwise (fun a b => a = none ∨ a ≠ b) ∧ ResV its d av av' ∧ K av' (insAll d 0 its σ)
theorem noRows_inner {cs : List Col} (h : noRows cs = true) : ∀ (c : Nat) k ll, cs[c]? ≠ some (Col.rows k ll) := by
 induction cs with
 | nil => intro c k ll q; simp at q
 | cons x r ih =>
  intro c k ll q
  cases c with
  | zero => simp at q; subst q; simp [noRows] at h
  | succ c => exact ih (by cases x <;> simp_all [noRows]) c k ll (by simpa using q)
theorem noRows_lnk {ρ : Rho} {L : Loc} {cs : List Col} (h : noRows cs = true) : Lnk ρ L cs := lnk_no fun c k ll q => by
 induction cs generalizing c with
 | nil => simp at q
 | cons x r ih =>
  cases c with
  | zero => simp at q; subst q; simp [noRows] at h
  | succ c => exact ih (by cases x <;> simp_all [noRows]) c (by simpa using q)
theorem noRows_no {L : Loc} {cs : List Col} (h : noRows cs = true) (k : Nat) : ¬ Inner L cs k := by
 rintro ⟨c, kk, ll, i, l, a, hc, _⟩
 exact noRows_inner h c kk ll hc
section
variable {P : Program} {Γ : Gam} {D : Hints}
structure ItemAt (ρ : Rho) (σ : Mem) (n0 : Nat) (w : World) (it : Item) (L : Loc) : Prop where
 rep : VRep w L it.cols
 write : Writable w L (cwidth it.cols)
 flat : noRows it.cols = true
 val : ∀ v, CRep ρ it.ac v → v = .slice L.a L.len L.cap
 own : L.cap ≠ 0 → n0 ≤ L.1 ∧ ∃ m b, it.name = some m ∧ Mem.find σ m = some b ∧ Out ρ m b L.1
theorem item_at {ρ : Rho} {σ : Mem} {n0 : Nat} {w : World} {it : Item} (hm : MemRep ρ σ w) (hs : Sep ρ σ) (ho : ∀ n b k, Mem.find σ n = some b → Out ρ n b k → n0 ≤ k) (hok : it.ok σ) : ∃ L, ItemAt ρ σ n0 w it L := by
 cases it with
 | vec m cs =>
  obtain ⟨h1, h2⟩ := hok
  obtain ⟨g1, g2, _⟩ := hm m _ h1
  exact ⟨ρ m, g1, g2, h2, fun u hu => hu, fun q => ⟨ho m _ _ h1 ⟨q, rfl⟩, m, _, rfl, h1, q, rfl⟩⟩
 | nil ks =>
  obtain ⟨h1, h2⟩ := hok
  obtain ⟨g1, g2⟩ := nil_rep (w := w) h1
  exact ⟨loc0, g1, fun q => absurd rfl q, h2, fun u hu => hu.1, fun q => absurd rfl q⟩
theorem insAll_sound {E : Env} {a : Act} {w : World} {ρi : Rho} {σi : Mem} {n0 d : Nat} (Ls : Nat → Loc) : ∀ {its : List Item} {k : Nat} {ρ : Rho} {σ : Mem}, Rep E ρ [] σ a w → (∀ i it, its[i]? = some it → ItemAt ρi σi n0 w it (Ls (k + i))) → Sep ρi σi → E.w0.heap.size ≤ n0 →
  (its.map Item.name).Pairwise (fun a b => a = none ∨ a ≠ b) → (∀ i, i < its.length → freshB (d + 10000 * (k + i)) [] σ = true) → (∀ m b q, Mem.find σ m = some b → Foot ρ m b q → ∀ (i : Nat) it, its[i]? = some it → (Ls (k + i)).cap ≠ 0 → q ≠ (Ls (k + i)).1) →
  ∃ ρ', Rep E ρ' [] (insAll d k its σ) a w ∧ (∀ n, (∀ i, i < its.length → n ≠ d + 10000 * (k + i)) → ρ' n = ρ n) ∧ (∀ i, i < its.length → ρ' (d + 10000 * (k + i)) = Ls (k + i)) ∧ ∀ m b, Mem.find σ m = some b → Mem.find (insAll d k its σ) m = some b
 | [], k, ρ, σ, h, _, _, _, _, _, _ => ⟨ρ, h, fun _ _ => rfl, fun i hi => absurd hi (Nat.not_lt_zero _), fun _ _ q => q⟩
 | it :: its, k, ρ, σ, h, hat, hs, hn0, hpw, hfr, hdis => by
  have h0 := hat 0 it rfl
  rw [Nat.add_zero] at h0
  have hd := hfr 0 (by simp)
  rw [Nat.add_zero] at hd
  have hdis0 := fun m b q hb hf => hdis m b q hb hf 0 it rfl
  have step := (add_sound (L := Ls k) (b := .vec it.cols) h hd h.keep (fun _ _ _ _ _ => rfl) ⟨by rw [upd_eq]; exact h0.rep, by rw [upd_eq]; exact h0.write, noRows_lnk h0.flat⟩ (fun q hq => by
   simp only [Out, upd_eq] at hq
   obtain ⟨hc, rfl⟩ := hq
   exact ⟨Or.inl (Nat.le_trans hn0 (h0.own hc).1), fun m c hm hF => hdis0 m c _ hm hF (by rw [Nat.add_zero]; exact hc) (by rw [Nat.add_zero]), fun hI => by simp only [Inn, upd_eq] at hI; exact noRows_no h0.flat _ hI⟩) (fun q hq => by
   simp only [Foot, upd_eq] at hq
   rcases hq with ⟨hc, rfl⟩ | hq
   ·exact fun m c hm hO => hdis0 m c _ hm hO.foot (by rw [Nat.add_zero]; exact hc) (by rw [Nat.add_zero])
   ·exact absurd hq (noRows_no h0.flat _))).find_eq (find_ins (freshB_parts hd).2.2)
  obtain ⟨q1, q2⟩ := List.pairwise_cons.1 hpw
  obtain ⟨d1, _, d3⟩ := freshB_parts hd
  obtain ⟨ρ', r1, r2, r3, r4⟩ := insAll_sound (ρi := ρi) (σi := σi) (n0 := n0) (d := d) Ls (its := its) (k := k + 1) step (fun i it' hi => by have := hat (i + 1) it' (by simpa using hi); rw [show k + 1 + i = k + (i + 1) by omega]; exact this) hs hn0 q2 (fun i hi => by
   have := hfr (i + 1) (by simp only [List.length_cons]; omega)
   obtain ⟨f1, f2, f3⟩ := freshB_parts this
   rw [show k + 1 + i = k + (i + 1) by omega]
   simp only [freshB, f2, Bool.and_eq_true, decide_eq_true_eq, Bool.not_eq_true', and_true]
   refine ⟨f1, ?_⟩
   have e : ∀ (σ : Mem) (dd : Nat) (b : Blk) (x : Nat), memRefs x (Mem.ins dd b σ) = (dd == x || b.refs x || memRefs x σ) := by
    intro σ dd b x
    induction σ with
    | nil => simp [Mem.ins, memRefs]
    | cons p r ih =>
     obtain ⟨m, y⟩ := p
     simp only [Mem.ins]
     split
     ·simp only [memRefs, List.any_cons] at ih ⊢
      rw [ih]
      cases (m == x || y.refs x) <;> cases (dd == x || b.refs x) <;> simp
     ·simp [memRefs]
   rw [e, f3]
   simp only [Blk.refs, refs_no f1, Bool.or_false, beq_eq_false_iff_ne]
   omega) (fun m b q hb hf i it' hi hc => by
   rw [show k + 1 + i = k + (i + 1) by omega] at hc ⊢
   rw [find_ins d3] at hb
   simp only [Mem.find] at hb
   split at hb
   ·rename_i e
    cases hb
    subst e
    simp only [Foot, upd_eq] at hf
    rcases hf with ⟨hc0, rfl⟩ | hf
    ·intro eq
     have hi' := hat (i + 1) it' (by simpa using hi)
     obtain ⟨_, m1, b1, n1, f1, o1⟩ := h0.own hc0
     obtain ⟨_, m2, b2, n2, f2, o2⟩ := hi'.own hc
     have hne : m1 ≠ m2 := fun e => by
      have := q1 it'.name (List.mem_map.2 ⟨it', List.mem_of_getElem? hi, rfl⟩)
      rw [n1, n2, e] at this
      rcases this with q | q
      ·cases q
      ·exact q rfl
     rw [← eq] at o2
     exact hs.1 m1 m2 b1 b2 _ f1 f2 hne o1 o2.foot
    ·exact absurd hf (noRows_no h0.flat _)
   ·rename_i hne
    have hf' : Foot ρ m b q := (Foot.agree (upd_ne (fun e => hne e.symm))).1 hf
    exact hdis m b q hb hf' (i + 1) it' (by simpa using hi) hc)
  refine ⟨ρ', r1, fun n hn => ?_, fun i hi => ?_, fun m b hb => r4 m b (ins_old hd m b hb)⟩
  ·rw [r2 n (fun i hi => by have := hn (i + 1) (by simp only [List.length_cons]; omega); rw [show k + 1 + i = k + (i + 1) by omega]; exact this)]
   exact upd_ne (by have := hn 0 (by simp); rw [Nat.add_zero] at this; exact this)
  ·cases i with
   | zero =>
    rw [Nat.add_zero, r2 _ (fun i hi => by omega)]
    exact upd_eq _ _ _
   | succ i =>
    have := r3 i (by simp only [List.length_cons] at hi; omega)
    rw [show k + 1 + i = k + (i + 1) by omega] at this
    exact this
theorem resC_sound {its : List Item} {d : Nat} {ρ ρ' : Rho} {a b : AC} {v : Value} (h : ResC its d a b) (hL : ∀ i it, its[i]? = some it → ∀ v, CRep ρ it.ac v → CRep ρ' (.vec (d + 10000 * i)) v) (hv : CRep ρ a v) : CRep ρ' b v := by
 rcases h with ⟨h1, h2, h3⟩ | ⟨k, it, h1, rfl, rfl⟩
 ·exact (h3 ρ v hv).agree fun n hn => by rw [h2 n] at hn; cases hn
 ·exact hL k it h1 v hv
theorem resCs_sound {its : List Item} {d : Nat} {ρ ρ' : Rho} (hL : ∀ i it, its[i]? = some it → ∀ v, CRep ρ it.ac v → CRep ρ' (.vec (d + 10000 * i)) v) : ∀ {l m : List AC}, ResCs its d l m → l.length = m.length ∧ ∀ (j : Nat) a b v, l[j]? = some a → m[j]? = some b → CRep ρ a v → CRep ρ' b v
 | [], [], _ => ⟨rfl, fun j a b v h => by simp at h⟩
 | a :: l, b :: m, h => by
  obtain ⟨g1, g2⟩ := resCs_sound hL h.2
  refine ⟨by simp [g1], fun j x y v hx hy hv => ?_⟩
  cases j with
  | zero => simp at hx hy; subst hx hy; exact resC_sound h.1 hL hv
  | succ j => exact g2 j x y v (by simpa using hx) (by simpa using hy) hv
 | [], _ :: _, h => h.elim
 | _ :: _, [], h => h.elim
theorem resS_sound {its : List Item} {d : Nat} {ρ ρ' : Rho} (hL : ∀ i it, its[i]? = some it → ∀ v, CRep ρ it.ac v → CRep ρ' (.vec (d + 10000 * i)) v) : ∀ {s t : List Seg}, ResS its d s t → segsOk s → segsOk t ∧ (flat s).length = (flat t).length ∧ ∀ (j : Nat) a b v, (flat s)[j]? = some a → (flat t)[j]? = some b → CRep ρ a v → CRep ρ' b v
 | [], [], _, _ => ⟨trivial, rfl, fun j a b v h => by simp [flat] at h⟩
 | .ints k n l :: r, .ints k' n' l' :: s, h, ho => by
  obtain ⟨⟨rfl, rfl, rfl⟩, h⟩ := h
  obtain ⟨g1, g2, g3⟩ := resS_sound hL h ho.2
  refine ⟨⟨ho.1, g1⟩, by simp [flat, g2], fun j a b v ha hb hv => ?_⟩
  simp only [flat] at ha hb
  rw [List.getElem?_append] at ha hb
  split at ha
  ·rename_i hj; rw [if_pos hj] at hb; rw [ha] at hb; cases hb
   simp only [Seg.flat, List.getElem?_map, Option.map_eq_some_iff] at ha
   obtain ⟨x, _, rfl⟩ := ha; exact hv
  ·rename_i hj; rw [if_neg hj] at hb; exact g3 _ a b v ha hb hv
 | .bools n l :: r, .bools n' l' :: s, h, ho => by
  obtain ⟨⟨rfl, rfl⟩, h⟩ := h
  obtain ⟨g1, g2, g3⟩ := resS_sound hL h ho.2
  refine ⟨⟨ho.1, g1⟩, by simp [flat, g2], fun j a b v ha hb hv => ?_⟩
  simp only [flat] at ha hb
  rw [List.getElem?_append] at ha hb
  split at ha
  ·rename_i hj; rw [if_pos hj] at hb; rw [ha] at hb; cases hb
   simp only [Seg.flat, List.getElem?_map, Option.map_eq_some_iff] at ha
   obtain ⟨x, _, rfl⟩ := ha; exact hv
  ·rename_i hj; rw [if_neg hj] at hb; exact g3 _ a b v ha hb hv
 | .cells c :: r, .cells c' :: s, h, ho => by
  obtain ⟨hc, h⟩ := h
  obtain ⟨c1, c2⟩ := resCs_sound hL hc
  obtain ⟨g1, g2, g3⟩ := resS_sound hL h ho.2
  refine ⟨⟨trivial, g1⟩, by simp [flat, Seg.flat, g2, c1], fun j a b v ha hb hv => ?_⟩
  simp only [flat, Seg.flat] at ha hb
  rw [List.getElem?_append] at ha hb
  split at ha
  ·rename_i hj; rw [if_pos (by omega)] at hb; exact c2 j a b v ha hb hv
  ·rename_i hj; rw [if_neg (by omega), ← c1] at hb; exact g3 _ a b v ha hb hv
 | [], _ :: _, h, _ => h.elim
 | .ints _ _ _ :: _, [], h, _ => h.elim
 | .bools _ _ :: _, [], h, _ => h.elim
 | .cells _ :: _, [], h, _ => h.elim
 | .ints _ _ _ :: _, .bools _ _ :: _, h, _ => h.elim
 | .ints _ _ _ :: _, .cells _ :: _, h, _ => h.elim
 | .bools _ _ :: _, .ints _ _ _ :: _, h, _ => h.elim
 | .bools _ _ :: _, .cells _ :: _, h, _ => h.elim
 | .cells _ :: _, .ints _ _ _ :: _, h, _ => h.elim
 | .cells _ :: _, .bools _ _ :: _, h, _ => h.elim
theorem resAgg_sound {its : List Item} {d : Nat} {ρ ρ' : Rho} (hL : ∀ i it, its[i]? = some it → ∀ v, CRep ρ it.ac v → CRep ρ' (.vec (d + 10000 * i)) v) {s t : List Seg} {v : Value} (h : ResS its d s t) (hv : SRep ρ (.agg s) v) : SRep ρ' (.agg t) v := by
 obtain ⟨ho, cs, rfl, hf⟩ := hv
 obtain ⟨g1, g2, g3⟩ := resS_sound hL h ho
 refine ⟨g1, cs, rfl, by rw [← g2]; exact hf.1, fun j b u hb hu => ?_⟩
 have hj : j < (flat s).length := by rw [g2]; exact (List.getElem?_eq_some_iff.1 hb).1
 exact g3 j _ b u (List.getElem?_eq_getElem hj) hb (hf.2 j _ u (List.getElem?_eq_getElem hj) hu)
theorem resT_sound {its : List Item} {d : Nat} {ρ ρ' : Rho} (hL : ∀ i it, its[i]? = some it → ∀ v, CRep ρ it.ac v → CRep ρ' (.vec (d + 10000 * i)) v) : ∀ {l m : List TV}, ResT its d l m → l.length = m.length ∧ ∀ (j : Nat) a b v, l[j]? = some a → m[j]? = some b → TRep ρ a v → TRep ρ' b v
 | [], [], _ => ⟨rfl, fun j a b v h => by simp at h⟩
 | .c a :: l, .c b :: m, h => by
  obtain ⟨g1, g2⟩ := resT_sound hL h.2
  refine ⟨by simp [g1], fun j x y v hx hy hv => ?_⟩
  cases j with
  | zero => simp at hx hy; subst hx hy; exact resC_sound h.1 hL hv
  | succ j => exact g2 j x y v (by simpa using hx) (by simpa using hy) hv
 | .g a :: l, .g b :: m, h => by
  obtain ⟨g1, g2⟩ := resT_sound hL h.2
  refine ⟨by simp [g1], fun j x y v hx hy hv => ?_⟩
  cases j with
  | zero => simp at hx hy; subst hx hy; exact resAgg_sound hL h.1 hv
  | succ j => exact g2 j x y v (by simpa using hx) (by simpa using hy) hv
 | [], _ :: _, h => h.elim
 | .c _ :: _, [], h => h.elim
 | .g _ :: _, [], h => h.elim
 | .c _ :: _, .g _ :: _, h => h.elim
 | .g _ :: _, .c _ :: _, h => h.elim
theorem resV_sound {its : List Item} {d : Nat} {ρ ρ' : Rho} (hL : ∀ i it, its[i]? = some it → ∀ v, CRep ρ it.ac v → CRep ρ' (.vec (d + 10000 * i)) v) {x y : AV} {v : Value} (h : ResV its d x y) (hv : SRep ρ x v) : SRep ρ' y v := by
 cases x <;> cases y <;> simp only [ResV] at h
 ·exact resC_sound h hL hv
 ·exact resAgg_sound hL h hv
 ·obtain ⟨us, rfl, hl, hall⟩ := hv
  obtain ⟨g1, g2⟩ := resT_sound hL h
  refine ⟨us, rfl, by omega, fun j b u hb hu => ?_⟩
  rename_i l m
  have hj : j < l.length := by rw [g1]; exact (List.getElem?_eq_some_iff.1 hb).1
  exact g2 j _ b u (List.getElem?_eq_getElem hj) hb (hall j _ u (List.getElem?_eq_getElem hj) hu)
def rhoC (ρ : Rho) (Ls : Nat → Loc) : Rho := fun n => if n < 200000 then loc0 else if n < 900000 then Ls (n - 200000) else ρ n
theorem rhoC_arg {ρ : Rho} {Ls : Nat → Loc} {i : Nat} (hi : i < 700000) : rhoC ρ Ls (200000 + i) = Ls i := by
 unfold rhoC
 split
 ·omega
 ·split
  ·have e : 200000 + i - 200000 = i := by omega
   rw [e]
  ·omega
theorem rhoC_glob {ρ : Rho} {Ls : Nat → Loc} {g : Nat} : rhoC ρ Ls (gname g) = ρ (gname g) := by
 have e1 : ¬ gname g < 200000 := by simp only [gname]; omega
 have e2 : ¬ gname g < 900000 := by simp only [gname]; omega
 unfold rhoC
 rw [if_neg e1, if_neg e2]
theorem rhoC_heap {ρ : Rho} {Ls : Nat → Loc} {n : Nat} (h : isHeap n = true) : rhoC ρ Ls n = ρ n := by
 have := isHeap_le h
 unfold rhoC
 rw [if_neg (by omega), if_neg (by omega)]
theorem Good.reads (hm : P.follows .mixedOrders = true) (hΓ : GoodG P Γ) {f : FuncId} {fn : Func} (hf : P.funcs[f]? = some fn) (hb : fn.body.isSome = true) {s : Spec} (hs : s.mods = false)
  (hsem : ∀ d args σ (K : AV → Mem → Prop), s.sem d args σ K → ∃ cargs τ, Canon σ 0 args cargs τ ∧ args.length ≤ 1000 ∧ ∃ n, callsx P Γ D fn n cargs τ (Res d s.news σ K)) : Good P f s := by
 refine ⟨fun d args σ K h ρ w vals hg hmem hsep hl hv hnew => ?_⟩
 obtain ⟨cargs, τ, hcan, hlen, n, hc⟩ := hsem d args σ K h
 obtain ⟨h1, Ls, h2⟩ := canon_sound hmem hsep hcan vals.toList (by simpa using hl) (fun i x v hx hu => hv i x v hx (by simpa using hu))
 generalize hρ0 : rhoC ρ (fun n => Ls (n % 1000) (n / 1000)) = ρc
 have hρc : ∀ i f, 0 ≤ i → i < 0 + args.length → f < 100 → ρc (200000 + (i + 1000 * f)) = Ls i f := fun i f _ hi hf => by
  rw [← hρ0, rhoC_arg (by omega)]
  show Ls ((i + 1000 * f) % 1000) ((i + 1000 * f) / 1000) = Ls i f
  rw [show (i + 1000 * f) % 1000 = i by omega, show (i + 1000 * f) / 1000 = f by omega]
 have hgg : ∀ g, ρc (gname g) = ρ (gname g) := fun g => by rw [← hρ0]; exact rhoC_glob
 obtain ⟨g1, g2⟩ := h2 ρc hρc hgg (fun n hn => by rw [← hρ0]; exact rhoC_heap hn)
 have hgc : Glob ρc := fun g => by rw [hgg]; exact hg g
 have hno := canon_views hcan ρc
 have hsepc : Sep ρc τ := ⟨fun n m b c k hn _ _ hO => absurd hO (hno n b k hn), fun n b k hn hO => absurd hO (hno n b k hn)⟩
 refine (callsx_sound hm hΓ hf hb hc (ex := fun _ => False) hgc (by simpa using h1) (fun i y v hy hu => g1 i y v hy (by simpa using hu)) g2 hsepc (fun n b k hn hO => absurd hO (hno n b k hn))).mono ?_
 rintro e w' ⟨v, av', σ'', ρ'', rfl, ⟨its, av, hlen', hok, hpw, hres, hK⟩, hsr, hmem'', hsep'', _, _, hown'', hk⟩
 have hsame : ∀ i, i < w.heap.size → w'.heap[i]? = w.heap[i]? := fun i hi => hk.block i hi (fun q => q)
 have hk' : Keeps (OwnAt ρ σ) w w' := ⟨hk.os, hk.tape, hk.output, hk.size, fun k hk' _ => hsame k hk'⟩
 let E : Env := ⟨w, ρ, OwnAt ρ σ, hg⟩
 let a : Act := { tmps := #[], defers := [] }
 have hR : Rep E ρ [] σ a w' := ⟨⟨rfl, fun t v ht => by simp [a] at ht⟩, rfl, hmem.keeps (fun n b k hb hk => hsame _ (in_range (hmem n b hb) hk)), hsep, fun _ _ _ => rfl, fun _ _ => .refl _, fun n b k hn hO => Or.inr ⟨n, b, hn, hO⟩, hk'⟩
 have hat : ∀ it ∈ its, ∃ L, ItemAt ρ'' σ'' w.heap.size w' it L := fun it hi => item_at hmem'' hsep'' (fun n b k hn hO => by rcases hown'' n b k hn hO with q | q; exact q; exact q.elim) (hok it hi)
 let Ms : Nat → Loc := fun i => if hi : i < its.length then Classical.choose (hat its[i] (List.getElem_mem hi)) else loc0
 have hMs : ∀ i it, its[i]? = some it → ItemAt ρ'' σ'' w.heap.size w' it (Ms i) := fun i it hi => by
  obtain ⟨hlt, rfl⟩ := List.getElem?_eq_some_iff.1 hi
  show ItemAt ρ'' σ'' w.heap.size w' its[i] (if hi : i < its.length then Classical.choose (hat its[i] (List.getElem_mem hi)) else loc0)
  rw [dif_pos hlt]
  exact Classical.choose_spec (hat its[i] (List.getElem_mem hlt))
 obtain ⟨ρ', r1, r2, r3, r4⟩ := insAll_sound (d := d) (k := 0) Ms hR (fun i it hi => by rw [Nat.zero_add]; exact hMs i it hi) hsep'' (Nat.le_refl _) hpw (fun i hi => by
  obtain ⟨q1, q2⟩ := hnew i (by omega)
  rw [Nat.zero_add]
  simp only [freshB, q2, frRefs, List.any_nil, Bool.not_false, Bool.and_true, decide_eq_true_eq]
  exact q1) (fun m b q hb hf i it hi hc => by
  rw [Nat.zero_add] at hc ⊢
  have := in_range (hmem m b hb) hf
  have := ((hMs i it hi).own hc).1
  omega)
 have heq : ∀ n, isHeap n = true → ρ' n = ρ n := fun n hn => r2 n fun i hi => by
  have := isHeap_le hn
  have := (hnew i (by omega)).1
  omega
 refine ⟨v, av, _, ρ', rfl, hK, resV_sound (fun i it hi u hu => ?_) hres hsr, r1.mem, r1.sep, fun n _ hn => r2 n fun i hi => by rw [Nat.zero_add]; exact hn i (by omega), fun n hn => .of_eq (heq n hn), fun n b k hn hO => ?_, hk', fun _ => ⟨hk, r4, heq⟩⟩
 ·show u = _
  have hlt := (List.getElem?_eq_some_iff.1 hi).1
  have e := r3 i hlt
  rw [Nat.zero_add] at e
  rw [e]
  exact (hMs i it hi).val u hu
 ·rcases r1.own n b k hn hO with q | q
  ·exact Or.inr q
  ·exact Or.inl q
end
end Go.Sx
namespace Go.Sx
open Go Go.ChangeShapes Go.WideShapes Go.ChangeAt Go.RowKit
inductive AggArgs (w : World) : Nat → List Seg → List Value → Mem → Nat → Prop
 | nil (j : Nat) : AggArgs w j [] [] [] j
 | one {j j' : Nat} {a : AC} {v : Value} {s : List Seg} {cs : List Value} {τ : Mem} : (∀ ρ, CRep ρ a v) → AggArgs w j s cs τ j' → AggArgs w j (.cells [a] :: s) (v :: cs) τ j'
 | arr {j j' m : Nat} {k : IntKind} {l : List Int} {s : List Seg} {cs : List Value} {τ : Mem} : l.length = m → AggArgs w j s cs τ j' → AggArgs w j (.ints k m l :: s) (l.map (Value.int k) ++ cs) τ j'
 | row {j j' : Nat} {v : Value} {s : List Seg} {cs : List Value} {τ : Mem} (L : Loc) (cols : List Col) (hj : j < 1000) : VRep w L cols → v = .slice L.a L.len L.cap → AggArgs w (j + 1) s cs τ j' → (hH : noHss cols = true := by rfl) → AggArgs w j (.cells [.vec (200000 + j)] :: s) (v :: cs) ((200000 + j, .rview cols) :: τ) j'
inductive LawArgs (w : World) : Nat → List AV → List Value → Mem → Prop
 | nil (j : Nat) : LawArgs w j [] [] []
 | plain {j : Nat} {x : AV} {v : Value} {xs : List AV} {vs : List Value} {τ : Mem} : (∀ ρ, SRep ρ x v) → LawArgs w (j + 1) xs vs τ → LawArgs w j (x :: xs) (v :: vs) τ
 | row {j : Nat} {v : Value} {xs : List AV} {vs : List Value} {τ : Mem} (L : Loc) (cs : List Col) (hj : j < 1000) : VRep w L cs → v = .slice L.a L.len L.cap → LawArgs w (j + 1) xs vs τ → (hH : noHss cs = true := by rfl) → LawArgs w j (.one (.vec (200000 + j)) :: xs) (v :: vs) ((200000 + j, .rview cs) :: τ)
 | agg {j j' : Nat} {s : List Seg} {cs : List Value} {xs : List AV} {vs : List Value} {τ τ' : Mem} : AggArgs w j s cs τ' j' → LawArgs w j' xs vs τ → LawArgs w j (.agg s :: xs) (.agg cs.toArray :: vs) (τ' ++ τ)
 | heap {j : Nat} {k : IntKind} {xs : List AV} {vs : List Value} {τ : Mem} : LawArgs w j xs vs τ → LawArgs w j xs vs ((hname k, .heap k [[]]) :: τ)
 | glob {j g : Nat} {s : List Seg} {xs : List AV} {vs : List Value} {τ : Mem} : (∀ ρ, Glob ρ → segsOk s ∧ CellsAt ρ w (gname g) (flat s)) → LawArgs w j xs vs τ → LawArgs w j xs vs ((gname g, .view s) :: τ)
theorem find_append {τ' τ : Mem} {n : Nat} {b : Blk} (h : Mem.find (τ' ++ τ) n = some b) : Mem.find τ' n = some b ∨ Mem.find τ n = some b := by
 induction τ' with
 | nil => exact Or.inr h
 | cons x r ih =>
  obtain ⟨m, y⟩ := x
  simp only [List.cons_append, Mem.find] at h ⊢
  split at h
  ·rename_i e; rw [if_pos e]; exact Or.inl h
  ·rename_i e; rw [if_neg e]; exact ih h
theorem aggArgs_views {w : World} {τ : Mem} : ∀ {j j' : Nat} {s : List Seg} {cs : List Value}, AggArgs w j s cs τ j' → ∀ ρ n b k, Mem.find τ n = some b → ¬ Out ρ n b k := by
 intro j j' s cs h
 induction h with
 | nil j => intro ρ n b k hn; simp [Mem.find] at hn
 | one _ _ ih => exact ih
 | arr _ _ ih => exact ih
 | row L cols _ _ _ _ _ ih =>
  intro ρ n b k hn
  simp only [Mem.find] at hn
  split at hn
  ·cases hn; exact fun q => q
  ·exact ih ρ n b k hn
def heap0 : Loc := ⟨0, 0, none, 0, 0, fun c _ => ⟨none, c, 0⟩⟩
theorem heap0_rep (w : World) (k : IntKind) : HeapRep w heap0 k [[]] :=
 ⟨rfl, rfl, by decide, rfl, fun j l hl => by
  cases j with
  | zero =>
   simp at hl; subst hl
   exact ⟨VRep.ofInts rfl (Nat.le_refl _) (fun q => absurd rfl q) (fun j x hj => by simp at hj), fun q => absurd rfl q⟩
  | succ j => simp at hl, fun i j hi hj hij => by simp at hi hj; omega⟩
theorem lawArgs_views {w : World} {τ : Mem} : ∀ {j : Nat} {xs : List AV} {vs : List Value}, LawArgs w j xs vs τ → ∀ ρ, (∀ n, isHeap n = true → ρ n = heap0) → ∀ n b k, Mem.find τ n = some b → ¬ Out ρ n b k := by
 intro j xs vs h
 induction h with
 | nil j => intro ρ _ n b k hn; simp [Mem.find] at hn
 | plain _ _ ih => exact ih
 | row L cs _ _ _ _ _ ih =>
  intro ρ hp n b k hn
  simp only [Mem.find] at hn
  split at hn
  ·cases hn; exact fun q => q
  ·exact ih ρ hp n b k hn
 | agg ha _ ih =>
  intro ρ hp n b k hn
  rcases find_append hn with q | q
  ·exact aggArgs_views ha ρ n b k q
  ·exact ih ρ hp n b k q
 | @heap j k xs vs τ _ ih =>
  intro ρ hp n b q hn
  simp only [Mem.find] at hn
  split at hn
  ·rename_i e
   subst e
   cases hn
   rintro ⟨i, h1, h2, _⟩
   rw [hp _ (isHeap_hname k)] at h1 h2
   exact h2 rfl
  ·exact ih ρ hp n b q hn
 | glob _ _ ih =>
  intro ρ hp n b k hn
  simp only [Mem.find] at hn
  split at hn
  ·cases hn; exact fun q => q
  ·exact ih ρ hp n b k hn
theorem FRep.cons {ρ : Rho} {a : AC} {v : Value} {l : List AC} {c : List Value} (h : CRep ρ a v) (t : FRep ρ l c) : FRep ρ (a :: l) (v :: c) := by
 refine ⟨by simp [t.1], fun j x u hx hu => ?_⟩
 cases j with
 | zero => simp at hx hu; subst hx hu; exact h
 | succ j => exact t.2 j x u (by simpa using hx) (by simpa using hu)
theorem FRep.arr {ρ : Rho} {k : IntKind} {l : List AC} {c : List Value} : ∀ (a : List Int), FRep ρ l c → FRep ρ (a.map (.int k) ++ l) (a.map (Value.int k) ++ c)
 | [], h => h
 | x :: a, h => FRep.cons rfl (FRep.arr a h)
theorem aggArgs_sound {w : World} {τ : Mem} : ∀ {j j' : Nat} {s : List Seg} {cs : List Value}, AggArgs w j s cs τ j' →
  j ≤ j' ∧ ∃ Ls : Nat → Loc, ∀ ρ : Rho, (∀ i, j ≤ i → i < j' → i < 1000 → ρ (200000 + i) = Ls i) → segsOk s ∧ FRep ρ (flat s) cs ∧ MemRep ρ τ w := by
 intro j j' s cs h
 induction h with
 | nil j => exact ⟨Nat.le_refl _, fun _ => loc0, fun ρ _ => ⟨trivial, ⟨rfl, fun i y v hy => by simp [flat] at hy⟩, fun n b hb => by simp [Mem.find] at hb⟩⟩
 | one hp _ ih =>
  obtain ⟨h1, Ls, h2⟩ := ih
  refine ⟨h1, Ls, fun ρ hc => ?_⟩
  obtain ⟨g1, g2, g3⟩ := h2 ρ hc
  exact ⟨⟨trivial, g1⟩, FRep.cons (hp ρ) g2, g3⟩
 | arr hl _ ih =>
  obtain ⟨h1, Ls, h2⟩ := ih
  refine ⟨h1, Ls, fun ρ hc => ?_⟩
  obtain ⟨g1, g2, g3⟩ := h2 ρ hc
  exact ⟨⟨hl, g1⟩, FRep.arr _ g2, g3⟩
 | @row j j' v s cs τ L cols hj hV hv _ hH ih =>
  obtain ⟨h1, Ls, h2⟩ := ih
  refine ⟨by omega, fun i => if i = j then L else Ls i, fun ρ hc => ?_⟩
  have hj' : ρ (200000 + j) = L := by rw [hc j (Nat.le_refl _) (by omega) hj]; simp
  obtain ⟨g1, g2, g3⟩ := h2 ρ (fun i hi hlt h1000 => by rw [hc i (by omega) hlt h1000]; show (if i = j then _ else Ls i) = Ls i; rw [if_neg (by omega)])
  refine ⟨⟨trivial, g1⟩, FRep.cons (show v = _ by rw [hj']; exact hv) g2, fun n b hb => ?_⟩
  simp only [Mem.find] at hb
  split at hb
  ·rename_i e; subst e; cases hb
   exact ⟨by rw [hj']; exact hV, noHss_lnk hH⟩
  ·exact g3 n b hb
theorem lawArgs_sound {w : World} {τ : Mem} : ∀ {j : Nat} {xs : List AV} {vs : List Value}, LawArgs w j xs vs τ →
  xs.length = vs.length ∧ ∃ Ls : Nat → Loc, ∀ ρ : Rho, Glob ρ → (∀ n, isHeap n = true → ρ n = heap0) → (∀ i, j ≤ i → i < 1000 → ρ (200000 + i) = Ls i) → (∀ (i : Nat) y v, xs[i]? = some y → vs[i]? = some v → SRep ρ y v) ∧ MemRep ρ τ w := by
 intro j xs vs h
 induction h with
 | nil j => exact ⟨rfl, fun _ => loc0, fun ρ _ _ _ => ⟨fun i y v hy => by simp at hy, fun n b hb => by simp [Mem.find] at hb⟩⟩
 | @plain j x v xs vs τ hp _ ih =>
  obtain ⟨h1, Ls, h2⟩ := ih
  refine ⟨by simpa using h1, Ls, fun ρ hg hp0 hc => ?_⟩
  obtain ⟨g1, g2⟩ := h2 ρ hg hp0 (fun i hi hlt => hc i (by omega) hlt)
  refine ⟨fun i y u hy hu => ?_, g2⟩
  cases i with
  | zero => simp at hy hu; subst hy hu; exact hp ρ
  | succ i => exact g1 i y u (by simpa using hy) (by simpa using hu)
 | @row j v xs vs τ L cs hj hV hv _ hH ih =>
  obtain ⟨h1, Ls, h2⟩ := ih
  refine ⟨by simpa using h1, fun i => if i = j then L else Ls i, fun ρ hg hp0 hc => ?_⟩
  have hj : ρ (200000 + j) = L := by rw [hc j (Nat.le_refl _) hj]; simp
  obtain ⟨g1, g2⟩ := h2 ρ hg hp0 (fun i hi hlt => by rw [hc i (by omega) hlt]; show (if i = j then _ else Ls i) = Ls i; rw [if_neg (by omega)])
  refine ⟨fun i y u hy hu => ?_, fun n b hb => ?_⟩
  ·cases i with
   | zero =>
    simp at hy hu
    subst hy hu
    show v = _
    rw [hj]; exact hv
   | succ i => exact g1 i y u (by simpa using hy) (by simpa using hu)
  ·simp only [Mem.find] at hb
   split at hb
   ·rename_i e; subst e; cases hb
    exact ⟨by rw [hj]; exact hV, noHss_lnk hH⟩
   ·exact g2 n b hb
 | @agg j j' s cs xs vs τ τ' ha _ ih =>
  obtain ⟨h1, Ls, h2⟩ := ih
  obtain ⟨a1, La, a2⟩ := aggArgs_sound ha
  refine ⟨by simpa using h1, fun i => if i < j' then La i else Ls i, fun ρ hg hp0 hc => ?_⟩
  obtain ⟨g1, g2⟩ := h2 ρ hg hp0 (fun i hi hlt => by rw [hc i (by omega) hlt]; show (if i < j' then _ else Ls i) = Ls i; rw [if_neg (by omega)])
  obtain ⟨b1, b2, b3⟩ := a2 ρ (fun i hi hlt h1000 => by rw [hc i hi h1000]; show (if i < j' then La i else _) = La i; rw [if_pos hlt])
  refine ⟨fun i y u hy hu => ?_, fun n b hb => ?_⟩
  ·cases i with
   | zero =>
    simp at hy hu
    subst hy hu
    exact ⟨b1, cs, rfl, b2⟩
   | succ i => exact g1 i y u (by simpa using hy) (by simpa using hu)
  ·rcases find_append hb with q | q
   ·exact b3 n b q
   ·exact g2 n b q
 | @heap j k xs vs τ _ ih =>
  obtain ⟨h1, Ls, h2⟩ := ih
  refine ⟨h1, Ls, fun ρ hg hp0 hc => ?_⟩
  obtain ⟨g1, g2⟩ := h2 ρ hg hp0 hc
  refine ⟨g1, fun n b hb => ?_⟩
  simp only [Mem.find] at hb
  split at hb
  ·rename_i e; subst e; cases hb
   exact ⟨isHeap_hname k, by rw [hp0 _ (isHeap_hname k)]; exact heap0_rep w k⟩
  ·exact g2 n b hb
 | @glob j g s xs vs τ hp _ ih =>
  obtain ⟨h1, Ls, h2⟩ := ih
  refine ⟨h1, Ls, fun ρ hg hp0 hc => ?_⟩
  obtain ⟨g1, g2⟩ := h2 ρ hg hp0 hc
  refine ⟨g1, fun n b hb => ?_⟩
  simp only [Mem.find] at hb
  split at hb
  ·rename_i e; subst e; cases hb
   exact hp ρ hg
  ·exact g2 n b hb
theorem loc_of {w : World} {k : IntKind} {a : Option Addr} {len cap : Nat} {zs : List Int} (h : IsRow k w a len cap zs) : ∃ L : Loc, VRep w L [.ints k (zs.take len)] ∧ Value.slice a len cap = .slice L.a L.len L.cap := by
 rcases h with ⟨rfl, rfl, rfl, rfl⟩ | ⟨x, rfl, hl, hm, hz, hc, hw⟩
 ·exact ⟨loc0, VRep.ofInts rfl (Nat.le_refl _) (fun q => absurd rfl q) (fun j x hj => by simp at hj), rfl⟩
 ·have hcell : ∀ (j : Nat) y, (zs.take len)[j]? = some y → w.cell? (x.add j) = some (.int k y) := fun j y hj => by
   have hlt : j < len := by have := (List.getElem?_eq_some_iff.1 hj).1; simp at this; omega
   rw [hc j (by omega)]
   rw [List.getElem?_take_of_lt hlt] at hj
   simp [List.getD, hj]
  have hsp : 0 < len → x.spot = none := fun hp => by
   have h0 := hc 0 (by omega)
   cases hs : x.spot with
   | none => rfl
   | some q =>
    exfalso
    have : (x.add 0).spot.isSome = true := by cases x; simp only at hs; subst hs; rfl
    simp only [World.cell?, this] at h0
    split at h0 <;> simp at h0
  refine ⟨⟨x.block, x.off, some x, len, cap, fun _ _ => ⟨none, 0, 0⟩⟩, VRep.ofInts (by simp; omega) hl (fun q => ?_) (fun j y hj => ?_), rfl⟩
  ·have := hsp (Nat.pos_of_ne_zero q)
   cases x
   simp only at this; subst this; rfl
  ·have hlt : j < len := by have := (List.getElem?_eq_some_iff.1 hj).1; simp at this; omega
   have := hsp (by omega)
   have e : (Loc.at ⟨x.block, x.off, some x, len, cap, fun _ _ => ⟨none, 0, 0⟩⟩ j) = x.add j := by
    cases x; simp only at this; subst this; simp [Loc.at, Addr.add]
   rw [e]; exact hcell j y hj
theorem LawArgs.ints {w : World} {k : IntKind} {a : Option Addr} {len cap j : Nat} {zs : List Int} {xs : List AV} {vs : List Value} {τ : Mem} (h : IsRow k w a len cap zs) (t : LawArgs w (j + 1) xs vs τ) (hj : j < 1000 := by decide) :
  LawArgs w j (.one (.vec (200000 + j)) :: xs) (.slice a len cap :: vs) ((200000 + j, .rview [.ints k (zs.take len)]) :: τ) := by
 obtain ⟨L, h1, h2⟩ := loc_of h
 exact .row L _ hj h1 h2 t
theorem AggArgs.ints {w : World} {k : IntKind} {a : Option Addr} {len cap j j' : Nat} {zs : List Int} {s : List Seg} {cs : List Value} {τ : Mem} (h : IsRow k w a len cap zs) (t : AggArgs w (j + 1) s cs τ j') (hj : j < 1000 := by decide) :
  AggArgs w j (.cells [.vec (200000 + j)] :: s) (.slice a len cap :: cs) ((200000 + j, .rview [.ints k (zs.take len)]) :: τ) j' := by
 obtain ⟨L, h1, h2⟩ := loc_of h
 exact .row L _ hj h1 h2 t
theorem IsRow.bytes {w : World} {a : Option Addr} {len cap : Nat} {zs : List Int} (h : IsRow .u8 w a len cap zs) : ∀ x ∈ zs.take len, 0 ≤ x ∧ x < 256 := by
 rcases h with ⟨rfl, rfl, rfl, rfl⟩ | ⟨x, rfl, hl, hm, hz, hc, hw⟩
 ·intro x hx; simp at hx
 ·intro x hx
  obtain ⟨h1, h2⟩ := bounds_u8 (hw x (List.mem_of_mem_take hx))
  exact ⟨h1, by omega⟩
section
variable {H : Type} {enc : TypeId × Value → H} {P : Program} {w : World}
theorem open_row_sized {t e : TypeId} {k : IntKind} {a : Option Addr} {len cap : Nat} {d : DataW H} {ps : List MemPlace} (ht : P.underlying t = some (.slice e)) (he : P.underlying e = some (.int k)) (hc : P.cellsOf e = 1)
  (h : DataW.Trod enc P w 0 (fun _ => true) true t (.slice a len cap) d ps) {ts : List TypeId} {ds : List (DataW H)} (hsz : (DataW.weightsEach P ts ds).all (· ≤ reachBytes) = true) {j : Nat} (htj : ts[j]? = some t) (hdj : ds[j]? = some d) :
  ∃ zs, IsRow k w a len cap zs ∧ zs.length * P.bytesOf e ≤ reachBytes := by
 obtain ⟨fuel, hf⟩ := h
 rcases open_ints ht he hc hf with ⟨hcs, _⟩ | ⟨x, l, c, zs, hcs, _, hl, hm, hz, hd, hcell, hwz⟩
 ·simp [Value.cells] at hcs
  obtain ⟨rfl, rfl, rfl⟩ := hcs
  exact ⟨[], .inl ⟨rfl, rfl, rfl, rfl⟩, by simp⟩
 ·simp [Value.cells] at hcs
  obtain ⟨rfl, rfl, rfl⟩ := hcs
  simp only [Prod.mk.injEq] at hd
  obtain ⟨rfl, _⟩ := hd
  refine ⟨zs, .inr ⟨_, rfl, hl, hm, by simpa using hz, hcell, hwz⟩, ?_⟩
  have := sized_slice hsz htj hdj ht
  simp only [lits, List.length_map, List.length_take, List.length_drop] at this
  have hz' : zs.length = cap := by simpa using hz
  rw [show min len zs.length + (zs.length - len) = zs.length by omega] at this
  exact this
end
section
variable {P : Program} {Γ : Gam} {D : Hints}
theorem law_mem (hm : P.follows .mixedOrders = true) (hΓ : GoodG P Γ) {f : FuncId} {fn : Func} (hf : P.funcs[f]? = some fn) (hb : fn.body.isSome = true) {n : Nat} {args : List AV} {vals : Array Value} {w : World} {τ : Mem} (ha : LawArgs w 0 args vals.toList τ) (hlen : args.length ≤ 1000)
  (h0 : Has (callsx P Γ D fn n args τ fun av _ => av = .one (.bool true) ∨ av = .one (.lit true))) :
  Calls P f vals w fun e w' => e = .returned (.bool true) ∧ Go.RowKit.Below w.heap.size w w' := by
 have h := h0.out
 obtain ⟨hl, Ls, hs⟩ := lawArgs_sound ha
 generalize hρ0 : rhoC (fun n => if n < 1000000 then heap0 else ⟨n - 1000000, 0, none, 0, 0, fun _ _ => ⟨none, 0, 0⟩⟩) Ls = ρ
 have hρ : ∀ i, 0 ≤ i → i < 1000 → ρ (200000 + i) = Ls i := fun i _ hi => by rw [← hρ0]; exact rhoC_arg (by omega)
 have hg : Glob ρ := fun g => by
  have e : ρ (gname g) = ⟨gname g - 1000000, 0, none, 0, 0, fun _ _ => ⟨none, 0, 0⟩⟩ := by rw [← hρ0, rhoC_glob, if_neg (by simp only [gname]; omega)]
  rw [e]; simp [gname]
 have hh : ∀ n, isHeap n = true → ρ n = heap0 := fun n hn => by rw [← hρ0, rhoC_heap hn, if_pos (isHeap_le hn).2]
 obtain ⟨g1, g2⟩ := hs ρ hg hh hρ
 have hno := lawArgs_views ha ρ hh
 refine (callsx_sound hm hΓ hf hb h (ρ := ρ) (ex := fun _ => False) hg (by simpa using hl) (fun j x v h1 h2 => g1 j x v h1 (by rw [Array.getElem?_toList]; exact h2)) g2 ⟨fun n m b c k hn _ _ hO => absurd hO (hno n b k hn), fun n b k hn hO => absurd hO (hno n b k hn)⟩ (fun n b k hn hO => absurd hO (hno n b k hn))).mono ?_
 rintro e w' ⟨v, av, σ', ρ', rfl, hav, hsr, _, _, _, _, _, hk⟩
 have : v = .bool true := by rcases hav with rfl | rfl <;> exact hsr
 subst this
 exact ⟨rfl, hk.below⟩
end
end Go.Sx
namespace Go.Sx
open Go
inductive CanonH (σ : Mem) : Nat → List AV → List AV → Mem → Prop
 | nil (j : Nat) : CanonH σ j [] [] []
 | same {j : Nat} {x : AV} {xs ys : List AV} {τ : Mem} : (∀ m, x.refs m = true → isHeap m = true) → CanonH σ (j + 1) xs ys τ → CanonH σ j (x :: xs) (x :: ys) τ
 | row {j n : Nat} {xs ys : List AV} {τ : Mem} (cs : List Col) : Mem.cols σ n = some cs → CanonH σ (j + 1) xs ys τ → CanonH σ j (.one (.vec n) :: xs) (.one (.vec (200000 + j)) :: ys) ((200000 + j, .rview cs) :: τ)
 | glob {j g : Nat} {b : Blk} {xs ys : List AV} {τ : Mem} : Mem.find σ (gname g) = some b → (∀ m, segsRefs m b.segs = false) → CanonH σ j xs ys τ → CanonH σ j xs ys ((gname g, .view b.segs) :: τ)
def notHeap : Blk → Bool
 | .heap _ _ => false
 | _ => true
theorem canonH_sound {σ τ : Mem} {ρ : Rho} {w : World} (hm : MemRep ρ σ w) (hs : Sep ρ σ) : ∀ {j : Nat} {xs ys : List AV}, CanonH σ j xs ys τ → ∀ (vals : List Value), j + xs.length ≤ 1000 → xs.length = vals.length → (∀ (i : Nat) x v, xs[i]? = some x → vals[i]? = some v → SRep ρ x v) →
  ys.length = vals.length ∧ ∃ Ls : Nat → Loc, ∀ ρc : Rho, (∀ i, j ≤ i → i < j + xs.length → ρc (200000 + i) = Ls i) → (∀ g, ρc (gname g) = ρ (gname g)) → (∀ n, isHeap n = true → ρc n = ρ n) →
   (∀ (i : Nat) y v, ys[i]? = some y → vals[i]? = some v → SRep ρc y v) ∧ MemRep ρc τ w ∧ ∀ n b, Mem.find τ n = some b → isHeap n = false ∧ (∀ k, ¬ Out ρc n b k) ∧ ∀ k, Foot ρc n b k → ∃ m c, Mem.find σ m = some c ∧ notHeap c = true ∧ Foot ρ m c k := by
 intro j xs ys h
 induction h with
 | nil j => intro vals _ hl _; exact ⟨hl, fun _ => loc0, fun ρc _ _ _ => ⟨fun i y v hy => by simp at hy, fun n b hb => by simp [Mem.find] at hb, fun n b hb => by simp [Mem.find] at hb⟩⟩
 | @same j x xs ys τ hp _ ih =>
  intro vals hj hl hv
  cases vals with
  | nil => simp at hl
  | cons v vals =>
   obtain ⟨h1, Ls, h2⟩ := ih vals (by simp only [List.length_cons] at hj; omega) (by simpa using hl) (fun i x u hx hu => hv (i + 1) x u (by simpa using hx) (by simpa using hu))
   refine ⟨by simpa using h1, Ls, fun ρc hc hcg hch => ?_⟩
   obtain ⟨g1, g2⟩ := h2 ρc (fun i hi hlt => hc i (by omega) (by simp only [List.length_cons]; omega)) hcg hch
   refine ⟨fun i y u hy hu => ?_, g2⟩
   cases i with
   | zero => simp at hy hu; subst hy hu; exact (hv 0 x v rfl rfl).agree fun n hn => .of_eq (hch n (hp n hn))
   | succ i => exact g1 i y u (by simpa using hy) (by simpa using hu)
 | @row j n xs ys τ cs hcs _ ih =>
  intro vals hjl hl hv
  cases vals with
  | nil => simp at hl
  | cons v vals =>
   simp only [List.length_cons] at hjl
   obtain ⟨h1, Ls, h2⟩ := ih vals (by omega) (by simpa using hl) (fun i x u hx hu => hv (i + 1) x u (by simpa using hx) (by simpa using hu))
   have hR := reads_vec hm hs hcs (hv 0 _ v rfl rfl)
   obtain ⟨_, b0, hb0, hbb, hf⟩ := cols_sound hm hcs
   refine ⟨by simpa using h1, fun i => if i = j then ρ n else Ls i, fun ρc hc hcg hch => ?_⟩
   have hj : ρc (200000 + j) = ρ n := by have q := hc j (Nat.le_refl _) (by simp); simpa using q
   obtain ⟨g1, g2, g3⟩ := h2 ρc (fun i hi hlt => by rw [hc i (by omega) (by simp only [List.length_cons]; omega)]; show (if i = j then _ else Ls i) = Ls i; rw [if_neg (by omega)]) hcg hch
   refine ⟨fun i y u hy hu => ?_, fun m b hb => ?_, fun m b hb => ?_⟩
   ·cases i with
    | zero =>
     simp at hy hu
     subst hy hu
     show v = _
     rw [hj]; exact hR.val
    | succ i => exact g1 i y u (by simpa using hy) (by simpa using hu)
   ·simp only [Mem.find] at hb
    split at hb
    ·rename_i e; subst e; cases hb
     exact ⟨by rw [hj]; exact hR.rep, by rw [hj]; exact hR.lnk.heaps hch⟩
    ·exact g2 m b hb
   ·simp only [Mem.find] at hb
    split at hb
    ·rename_i e; subst e; cases hb
     refine ⟨isHeap_no (Or.inl (by omega)), fun k q => q, fun k hk => ⟨n, b0, hb0, by rcases hbb with rfl | rfl <;> rfl, hf k ?_⟩⟩
     have hk : FootL (ρc (200000 + j)) cs k := hk
     rw [hj] at hk; exact hk
    ·exact g3 m b hb
 | @glob j g b xs ys τ hn hp _ ih =>
  intro vals hj hl hv
  obtain ⟨h1, Ls, h2⟩ := ih vals hj hl hv
  refine ⟨h1, Ls, fun ρc hc hcg hch => ?_⟩
  obtain ⟨g1, g2, g3⟩ := h2 ρc hc hcg hch
  refine ⟨g1, fun m b' hb => ?_, fun m b' hb => ?_⟩
  ·simp only [Mem.find] at hb
   split at hb
   ·rename_i e; subst e; cases hb
    obtain ⟨q1, q2⟩ := (hm (gname g) b hn).cells
    refine ⟨q1, fun i a ha => ?_⟩
    obtain ⟨u, hu1, hu2⟩ := q2 i a ha
    refine ⟨u, by simp only [at_, hcg]; exact hu1, hu2.agree fun m hm' => ?_⟩
    have := flat_refs' (List.any_eq_true.2 ⟨a, List.mem_of_getElem? ha, hm'⟩)
    rw [hp m] at this; cases this
   ·exact g2 m b' hb
  ·simp only [Mem.find] at hb
   split at hb
   ·rename_i e; subst e; cases hb
    refine ⟨isHeap_gname g, fun k q => q, fun k hk => ⟨gname g, b, hn, ?_, ?_⟩⟩
    ·obtain ⟨hne, _⟩ := hk
     cases b <;> first | rfl | exact absurd rfl hne
    ·obtain ⟨hne, rfl⟩ := hk
     rw [hcg]
     cases b with
     | own T s => exact rfl
     | view s => exact ⟨hne, rfl⟩
     | vec cs => exact absurd rfl hne
     | rview cs => exact absurd rfl hne
     | heap q os => exact absurd rfl hne
     | map kk m => exact absurd rfl hne
   ·exact g3 m b' hb
section
variable {P : Program} {Γ : Gam} {D : Hints}
theorem Good.heap (hm : P.follows .mixedOrders = true) (hΓ : GoodG P Γ) {f : FuncId} {fn : Func} (hf : P.funcs[f]? = some fn) (hb : fn.body.isSome = true) {s : Spec} (hs : s.mods = true)
  (hsem : ∀ d args σ (K : AV → Mem → Prop), s.sem d args σ K → ∃ k os cargs τ τ', Mem.heap σ k = some os ∧ CanonH σ 0 args cargs τ ∧ args.length ≤ 1000 ∧ (∀ n, Mem.find τ' n = Mem.find ((hname k, .heap k os) :: τ) n) ∧ ∃ n, callsx P Γ D fn n cargs τ' fun av σ' => ∃ os' av', Mem.heap σ' k = some os' ∧ (∀ m, av'.refs m = true → m = hname k) ∧ (∀ ρ v, SRep ρ av v → SRep ρ av' v) ∧ K av' (σ.put (hname k) (.heap k os'))) : Good P f s := by
 refine ⟨fun d args σ K h ρ w vals hg hmem hsep hl hv hnew => ?_⟩
 obtain ⟨k, os, cargs, τ, τ', ho, hcan, hlen, hτ, n, hc⟩ := hsem d args σ K h
 obtain ⟨h1, Ls, h2⟩ := canonH_sound hmem hsep hcan vals.toList (by omega) (by simpa using hl) (fun i x v hx hu => hv i x v hx (by simpa using hu))
 generalize hρ0 : rhoC ρ Ls = ρc
 have hρc : ∀ i, 0 ≤ i → i < 0 + args.length → ρc (200000 + i) = Ls i := fun i _ hi => by rw [← hρ0, rhoC_arg (by omega)]
 have hgg : ∀ g, ρc (gname g) = ρ (gname g) := fun g => by rw [← hρ0]; exact rhoC_glob
 have hhh : ∀ n, isHeap n = true → ρc n = ρ n := fun n hn => by rw [← hρ0]; exact rhoC_heap hn
 obtain ⟨g1, g2, g3⟩ := h2 ρc hρc hgg hhh
 have hgc : Glob ρc := fun g => by rw [hgg]; exact hg g
 have hfd := heap_find ho
 have hhp := isHeap_hname k
 have hρk := hhh _ hhp
 obtain ⟨_, hH⟩ := hmem _ _ hfd
 have unf : ∀ {m b}, Mem.find τ' m = some b → (m = hname k ∧ b = .heap k os) ∨ (m ≠ hname k ∧ Mem.find τ m = some b) := by
  intro m b hb
  rw [hτ] at hb
  simp only [Mem.find] at hb
  split at hb
  ·rename_i e; cases hb; exact Or.inl ⟨e.symm, rfl⟩
  ·rename_i e; exact Or.inr ⟨Ne.symm e, hb⟩
 have hmemc : MemRep ρc τ' w := fun m b hb => by
  rcases unf hb with ⟨rfl, rfl⟩ | ⟨_, hb⟩
  ·exact ⟨hhp, by rw [hρk]; exact hH⟩
  ·exact g2 m b hb
 have hout : ∀ q, Out ρc (hname k) (.heap k os) q → HFoot (ρ (hname k)) q := fun q hq => by simpa only [Out, hρk] using hq
 have hsepc : Sep ρc τ' := by
  refine ⟨fun m m' b c q hb hc hne hO hF => ?_, fun m b q hb hO hI => ?_⟩
  ·rcases unf hb with ⟨rfl, rfl⟩ | ⟨_, hb⟩
   ·rcases unf hc with ⟨rfl, rfl⟩ | ⟨_, hc⟩
    ·exact hne rfl
    ·obtain ⟨m0, c0, h0, h0h, h0f⟩ := (g3 m' c hc).2.2 q hF
     exact hsep.1 _ m0 _ c0 q hfd h0 (fun e => by subst e; rw [hfd] at h0; cases h0; cases h0h) (hout q hO) h0f
   ·exact (g3 m b hb).2.1 q hO
  ·rcases unf hb with ⟨rfl, rfl⟩ | ⟨_, hb⟩
   ·exact hI
   ·exact (g3 m b hb).2.1 q hO
 refine (callsx_sound hm hΓ hf hb hc (ex := fun q => HFoot (ρ (hname k)) q) hgc (by simpa using h1) (fun i y v hy hu => g1 i y v hy (by simpa using hu)) hmemc hsepc (fun m b q hn hO => by
  rcases unf hn with ⟨rfl, rfl⟩ | ⟨_, hb⟩
  ·exact Or.inr (hout q hO)
  ·exact absurd hO ((g3 m b hb).2.1 q))).mono ?_
 rintro e w' ⟨v, av, σ'', ρ'', rfl, ⟨os', av', ho', hrefs, hav, hK⟩, hsr, hmem'', hsep'', hfix, hext, hown, hk⟩
 have hfd' := heap_find ho'
 obtain ⟨_, hH'⟩ := hmem'' _ _ hfd'
 let E : Env := ⟨w, ρ, OwnAt ρ σ, hg⟩
 let a : Act := { tmps := #[], defers := [] }
 have hk' : Keeps (OwnAt ρ σ) w w' := ⟨hk.os, hk.tape, hk.output, hk.size, fun q hq hx => hk.block q hq fun hF => hx ⟨hname k, _, hfd, hF⟩⟩
 have hR : Rep E ρ [] σ a w := ⟨⟨rfl, fun t v ht => by simp [a] at ht⟩, rfl, hmem, hsep, fun _ _ _ => rfl, fun _ _ => .refl _, fun n b q hn hO => Or.inr ⟨n, b, hn, hO⟩, Keeps.refl _ _⟩
 have hx : HExt (ρ (hname k)) (ρ'' (hname k)) := by have := hext _ hhp; rw [hρk] at this; exact this
 have grown := heap_grow (L' := ρ'' (hname k)) hR hhp hfd hx hH' hk' (fun m c q hm hmh hF => hk.block q (in_range (hmem m c hm) hF) fun hq => hsep.1 _ m _ c q hfd hm (Ne.symm hmh) hq hF) (fun q hq => by
  rcases hown _ _ q hfd' hq with h | h
  ·exact Or.inr ⟨Or.inl h, fun m c hm _ hF => by have := in_range (hmem m c hm) hF; omega⟩
  ·exact Or.inl h)
 refine ⟨v, av', _, _, rfl, hK, (hav _ _ hsr).agree fun m hm => ?_, grown.mem, grown.sep, fun m hm _ => upd_ne fun q => (by subst q; rw [hhp] at hm; cases hm), fun m _ => ext_upd hx m, fun m b q hm hO => ?_, hk', fun q => by rw [hs] at q; cases q⟩
 ·have e := hrefs m hm
  subst e; rw [upd_eq]; exact .refl _
 ·rcases grown.own m b q hm hO with h | h
  ·exact Or.inr h
  ·exact Or.inl h
end
structure Bs (l : List Int) : Prop where
 all : ∀ x ∈ l, 0 ≤ x ∧ x < 256
theorem Bs.nil : Bs [] := ⟨fun x h => by cases h⟩
theorem Bs.cons {a : Int} {l : List Int} (h0 : 0 ≤ a) (h1 : a < 256) (h : Bs l) : Bs (a :: l) := ⟨fun x hx => by
 rcases List.mem_cons.1 hx with rfl | hx
 ·exact ⟨h0, h1⟩
 ·exact h.all x hx⟩
theorem Bs.app {a b : List Int} (h : Bs a) (g : Bs b) : Bs (a ++ b) := ⟨fun x hx => by
 rcases List.mem_append.1 hx with hx | hx
 ·exact h.all x hx
 ·exact g.all x hx⟩
theorem Bs.take {l : List Int} (h : Bs l) (n : Nat) : Bs (l.take n) := ⟨fun x hx => h.all x (List.mem_of_mem_take hx)⟩
theorem Bs.drop {l : List Int} (h : Bs l) (n : Nat) : Bs (l.drop n) := ⟨fun x hx => h.all x (List.mem_of_mem_drop hx)⟩
theorem Bs.get {l : List Int} (h : Bs l) (i : Nat) : 0 ≤ l.getD i 0 ∧ l.getD i 0 < 256 := by
 rw [List.getD_eq_getElem?_getD]
 cases hq : l[i]? with
 | none => simp
 | some x => exact h.all x (List.mem_of_getElem? hq)
theorem Bs.set {l : List Int} (h : Bs l) (i : Nat) {v : Int} (h0 : 0 ≤ v) (h1 : v < 256) : Bs (l.set i v) := ⟨fun x hx => by
 rcases List.mem_or_eq_of_mem_set hx with hx | rfl
 ·exact h.all x hx
 ·exact ⟨h0, h1⟩⟩
def rdb (σ : Mem) (x : AV) (K : List Int → Prop) : Prop := rdx σ [.ints .u8] x (oneInts .u8 K)
theorem rdx_det {σ : Mem} {ks : List Kd} {x : AV} {K : List Col → Prop} (h : rdx σ ks x K) : ∃ cs, K cs ∧ rdx σ ks x (fun c => c = cs) := by
 unfold rdx at h
 split at h
 ·split at h <;> try exact h.elim
  rename_i hq
  exact ⟨_, h, by simp [rdx, hq]⟩
 ·split at h <;> try exact h.elim
  rename_i hq
  split at h <;> try exact h.elim
  rename_i hz
  exact ⟨_, h, by simp [rdx, hq, hz]⟩
 ·split at h <;> try exact h.elim
  rename_i hq
  split at h <;> try exact h.elim
  rename_i hz
  exact ⟨_, h, by simp [rdx, hq, hz]⟩
 ·split at h <;> try exact h.elim
  rename_i hq
  exact ⟨_, h, by simp [rdx, hq]⟩
 ·split at h <;> try exact h.elim
  rename_i hq
  exact ⟨_, h, by simp [rdx, hq]⟩
 ·split at h <;> try exact h.elim
  rename_i hq
  split at h <;> try exact h.elim
  rename_i hf
  exact ⟨_, h.2, by simp only [rdx, hq, hf, and_true]; exact h.1⟩
 ·exact ⟨_, h, by simp [rdx]⟩
 ·split at h <;> try exact h.elim
  rename_i hq
  exact ⟨_, h, by simp [rdx, hq]⟩
 ·exact h.elim
theorem rdb_row {σ : Mem} {x : AV} {K : List Int → Prop} (h : rdb σ x K) : ∃ l, K l ∧ rdx σ [.ints .u8] x (fun c => c = [.ints .u8 l]) := by
 obtain ⟨cs, h1, h2⟩ := rdx_det h
 unfold oneInts at h1
 split at h1 <;> try exact h1.elim
 split at h1 <;> try exact h1.elim
 rename_i hk
 subst hk
 exact ⟨_, h1, h2⟩
theorem pairwise_one {a : Option Nat} : [a].Pairwise (fun a b => a = none ∨ a ≠ b) := by simp
theorem pairwise_nil : ([] : List (Option Nat)).Pairwise (fun a b => a = none ∨ a ≠ b) := .nil
theorem bytes_eq {a b : List Int} (ha : Bs a) (hb : Bs b) (h : bytesOf a = bytesOf b) : a = b := by
 have h2 : a.map (fun n => UInt8.ofNat n.toNat) = b.map (fun n => UInt8.ofNat n.toNat) := by
  have := congrArg (fun s => s.data.toList) h
  simpa [bytesOf] using this
 have key : ∀ {a : List Int}, Bs a → (a.map (fun n => UInt8.ofNat n.toNat)).map (fun b => (b.toNat : Int)) = a := by
  intro a ha
  rw [List.map_map]
  conv => rhs; rw [← List.map_id a]
  refine List.map_congr_left fun x hx => ?_
  obtain ⟨h0, h1⟩ := ha.all x hx
  simp only [Function.comp, UInt8.toNat_ofNat', id]
  omega
 rw [← key ha, ← key hb, h2]
theorem seq2_true {a b : ByteArray} : seq2 a b = true ↔ a = b := by
 have e : ∀ s : ByteArray, s.toList = s.data.toList := fun s => ByteArray.toList_eq s
 simp only [seq2, e, beq_iff_eq]
 constructor
 ·intro h; cases a; cases b; simp only at h; congr; exact Array.toList_inj.1 h
 ·intro h; rw [h]
inductive PlainT : List TV → List TV → Prop
 | nil : PlainT [] []
 | int {k : IntKind} {a b : Int} {r s : List TV} : a = b → PlainT r s → PlainT (.c (.int k a) :: r) (.c (.int k b) :: s)
 | lit {a b : Bool} {r s : List TV} : a = b → PlainT r s → PlainT (.c (.lit a) :: r) (.c (.bool b) :: s)
 | bool {a b : Bool} {r s : List TV} : a = b → PlainT r s → PlainT (.c (.bool a) :: r) (.c (.bool b) :: s)
 | arr {k : IntKind} {n : Nat} {a b : List Int} {r s : List TV} : a = b → PlainT r s → PlainT (.g [.ints k n a] :: r) (.g [.ints k n b] :: s)
theorem PlainT.res {its : List Item} {d : Nat} : ∀ {r s : List TV}, PlainT r s → ResT its d r s := by
 intro r s h
 induction h with
 | nil => trivial
 | int e _ ih => subst e; exact ⟨Or.inl ⟨fun _ => rfl, fun _ => rfl, fun _ _ h => h⟩, ih⟩
 | lit e _ ih => subst e; exact ⟨Or.inl ⟨fun _ => rfl, fun _ => rfl, fun _ _ h => h⟩, ih⟩
 | bool e _ ih => subst e; exact ⟨Or.inl ⟨fun _ => rfl, fun _ => rfl, fun _ _ h => h⟩, ih⟩
 | arr e _ ih => subst e; exact ⟨⟨⟨rfl, rfl, rfl⟩, trivial⟩, ih⟩
section
variable {d : Nat} {σ σ' : Mem} {K : AV → Mem → Prop}
theorem res_plain {av av' : AV} (h : ResV [] d av av') (hK : K av' σ) : Res d 0 σ K av σ' :=
 ⟨[], av', Nat.le_refl _, fun it h => by simp at h, pairwise_nil, h, hK⟩
theorem res_bool {a b : Bool} (e : a = b) (hK : K (.one (.bool b)) σ) : Res d 0 σ K (.one (.bool a)) σ' := by
 subst e; exact res_plain (av' := .one (.bool a)) (Or.inl ⟨fun _ => rfl, fun _ => rfl, fun _ _ h => h⟩) hK
theorem res_lit {a b : Bool} (e : a = b) (hK : K (.one (.bool b)) σ) : Res d 0 σ K (.one (.lit a)) σ' := by
 subst e; exact res_plain (av' := .one (.bool a)) (Or.inl ⟨fun _ => rfl, fun _ => rfl, fun _ _ h => h⟩) hK
theorem res_tvec {m : Nat} {k : IntKind} {l l' : List Int} {r s : List TV} (hf : Mem.find σ' m = some (.vec [.ints k l])) (hr : PlainT r s) (e : l = l') (hK : K (.tup (.c (.vec d) :: s)) (Mem.ins d (.vec [.ints k l']) σ)) : Res d 1 σ K (.tup (.c (.vec m) :: r)) σ' := by
 subst e
 exact ⟨[.vec m [.ints k l]], .tup (.c (.vec d) :: s), Nat.le_refl _, fun it h => by simp at h; subst h; exact ⟨hf, rfl⟩, pairwise_one, ⟨Or.inr ⟨0, _, rfl, rfl, rfl⟩, hr.res⟩, hK⟩
theorem res_tnil {k : IntKind} {l' : List Int} {r s : List TV} (hr : PlainT r s) (e : l' = []) (hK : K (.tup (.c (.vec d) :: s)) (Mem.ins d (.vec [.ints k l']) σ)) : Res d 1 σ K (.tup (.c (.con (.slice none 0 0)) :: r)) σ' := by
 subst e
 exact ⟨[.nil [.ints k]], .tup (.c (.vec d) :: s), Nat.le_refl _, fun it h => by simp at h; subst h; exact ⟨Nat.one_pos, rfl⟩, pairwise_one, ⟨Or.inr ⟨0, _, rfl, rfl, rfl⟩, hr.res⟩, hK⟩
end
theorem room1 {n : Nat} (h : n ≤ 140737488421888) : Room n 1 := ⟨by omega⟩
theorem lsub_drop {α : Type} (l : List α) (i : Nat) : lsub l i (l.length - i) = l.drop i := by simp [lsub, List.take_of_length_le]
end Go.Sx
