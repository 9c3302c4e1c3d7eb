import Derived.Test.YtnpfockaigegiaaDropBackC
import Derived.Test.YtnpfockaigegiaaProg
set_option linter.unusedSimpArgs false
set_option linter.unusedVariables false
namespace Go.Sx
open Go
def AC.ren (π : Nat → Nat) : AC → AC
 | .ptr n b i => .ptr (π n) b i
 | .sl n b i l c => .sl (π n) b i l c
 | .clo f n b i => .clo f (π n) b i
 | .vec n => .vec (π n)
 | .vsl n z i l => .vsl (π n) z i l
 | .vcl n z i l => .vcl (π n) z i l
 | .vptr n z i b j => .vptr (π n) z i b j
 | .el n c i => .el (π n) c i
 | .esl n c i o l => .esl (π n) c i o l
 | .eptr n c i o => .eptr (π n) c i o
 | .map n => .map (π n)
 | a => a
def Seg.ren (π : Nat → Nat) : Seg → Seg
 | .cells cs => .cells (cs.map (AC.ren π))
 | s => s
def TV.ren (π : Nat → Nat) : TV → TV
 | .c a => .c (a.ren π)
 | .g s => .g (s.map (Seg.ren π))
def AV.ren (π : Nat → Nat) : AV → AV
 | .one a => .one (a.ren π)
 | .agg s => .agg (s.map (Seg.ren π))
 | .tup vs => .tup (vs.map (TV.ren π))
 | .undef => .undef
def Blk.ren (π : Nat → Nat) : Blk → Blk
 | .own T s => .own T (s.map (Seg.ren π))
 | .view s => .view (s.map (Seg.ren π))
 | b => b
structure HPi (π : Nat → Nat) : Prop where
 heap : ∀ n, isHeap n = true → π n = n
 not : ∀ n, isHeap n = false → isHeap (π n) = false
section
variable {π : Nat → Nat} {ρ : Rho} {w : World}
theorem CRep.ren (hp : HPi π) {a : AC} {v : Value} : CRep (fun n => ρ (π n)) a v ↔ CRep ρ (a.ren π) v := by
 cases a with
 | hs k j o l => have := hp.heap _ (isHeap_hname k); simp only [CRep, AC.ren, this]
 | hp k j i => have := hp.heap _ (isHeap_hname k); simp only [CRep, AC.ren, this]
 | _ => exact Iff.rfl
theorem flat_ren : ∀ (s : List Seg), flat (s.map (Seg.ren π)) = (flat s).map (AC.ren π)
 | [] => rfl
 | x :: r => by
  simp only [List.map_cons, flat, List.map_append, flat_ren r]
  congr 1
  cases x <;> simp [Seg.ren, Seg.flat, AC.ren]
theorem segsOk_ren : ∀ {s : List Seg}, segsOk (s.map (Seg.ren π)) ↔ segsOk s
 | [] => Iff.rfl
 | x :: r => by
  simp only [List.map_cons, segsOk, segsOk_ren (s := r)]
  cases x <;> exact Iff.rfl
theorem FRep.ren (hp : HPi π) {l : List AC} {c : List Value} : FRep (fun n => ρ (π n)) l c ↔ FRep ρ (l.map (AC.ren π)) c := by
 constructor
 ·intro h
  refine ⟨by simpa using h.1, fun j a v ha hv => ?_⟩
  simp only [List.getElem?_map, Option.map_eq_some_iff] at ha
  obtain ⟨b, hb, rfl⟩ := ha
  exact (CRep.ren hp).1 (h.2 j b v hb hv)
 ·intro h
  exact ⟨by simpa using h.1, fun j a v ha hv => (CRep.ren hp).2 (h.2 j (a.ren π) v (by simp [ha]) hv)⟩
theorem SRep.ren (hp : HPi π) {x : AV} {v : Value} : SRep (fun n => ρ (π n)) x v ↔ SRep ρ (x.ren π) v := by
 have gs : ∀ {s : List Seg} {v : Value}, (segsOk s ∧ ∃ cs : List Value, v = .agg cs.toArray ∧ FRep (fun n => ρ (π n)) (flat s) cs) ↔ (segsOk (s.map (Seg.ren π)) ∧ ∃ cs : List Value, v = .agg cs.toArray ∧ FRep ρ (flat (s.map (Seg.ren π))) cs) := by
  intro s v
  rw [segsOk_ren, flat_ren]
  exact and_congr Iff.rfl (exists_congr fun cs => and_congr Iff.rfl (FRep.ren hp))
 cases x with
 | one a => exact CRep.ren hp
 | agg s => exact gs
 | undef => exact Iff.rfl
 | tup vs =>
  have tv : ∀ {t : TV} {u : Value}, TRep (fun n => ρ (π n)) t u ↔ TRep ρ (t.ren π) u := by
   intro t u
   cases t with
   | c a => exact CRep.ren hp
   | g s => exact gs
  constructor
  ·rintro ⟨us, e, hl, h⟩
   refine ⟨us, e, by simpa using hl, fun j t u ht hu => ?_⟩
   simp only [List.getElem?_map, Option.map_eq_some_iff] at ht
   obtain ⟨t', ht', rfl⟩ := ht
   exact tv.1 (h j t' u ht' hu)
  ·rintro ⟨us, e, hl, h⟩
   exact ⟨us, e, by simpa using hl, fun j t u ht hu => tv.2 (h j (t.ren π) u (by simp [ht]) hu)⟩
theorem BlkRep.ren (hp : HPi π) {n : Nat} {b : Blk} : BlkRep (fun n => ρ (π n)) w n b ↔ BlkRep ρ w (π n) (b.ren π) := by
 have lk : ∀ {L : Loc} {cs : List Col}, Lnk (fun n => ρ (π n)) L cs ↔ Lnk ρ L cs := by
  intro L cs
  constructor
  ·exact fun h c k l hc i d hd => (CRep.ren hp).1 (h c k l hc i d hd)
  ·exact fun h c k l hc i d hd => (CRep.ren hp).2 (h c k l hc i d hd)
 cases b with
 | own T s =>
  simp only [BlkRep, Blk.ren, segsOk_ren, flat_ren]
  refine and_congr Iff.rfl (and_congr Iff.rfl (exists_congr fun c => exists_congr fun fz => and_congr Iff.rfl (and_congr (FRep.ren hp) Iff.rfl)))
 | view s =>
  simp only [BlkRep, Blk.ren, segsOk_ren, flat_ren]
  refine and_congr Iff.rfl ?_
  constructor
  ·intro h j a ha
   simp only [List.getElem?_map, Option.map_eq_some_iff] at ha
   obtain ⟨b, hb, rfl⟩ := ha
   obtain ⟨v, h1, h2⟩ := h j b hb
   exact ⟨v, h1, (CRep.ren hp).1 h2⟩
  ·intro h j a ha
   obtain ⟨v, h1, h2⟩ := h j (a.ren π) (by simp [ha])
   exact ⟨v, h1, (CRep.ren hp).2 h2⟩
 | vec cs => simp only [BlkRep, Blk.ren]; exact and_congr Iff.rfl (and_congr Iff.rfl lk)
 | rview cs => simp only [BlkRep, Blk.ren]; exact and_congr Iff.rfl lk
 | heap k os =>
  simp only [BlkRep, Blk.ren]
  refine and_congr ?_ Iff.rfl
  cases hh : isHeap n with
  | true => rw [hp.heap n hh, hh]
  | false => rw [hp.not n hh]
 | map kk m =>
  simp only [BlkRep, Blk.ren]
  refine exists_congr fun es => exists_congr fun clock => and_congr Iff.rfl (and_congr ?_ Iff.rfl)
  cases m with
  | ints k l => exact Iff.rfl
  | strs l => exact Iff.rfl
  | hss k l =>
   constructor
   ·exact fun h => ⟨h.len, fun i p e hp' he => ⟨(h.at_ i p e hp' he).1, (CRep.ren hp).1 (h.at_ i p e hp' he).2⟩⟩
   ·exact fun h => ⟨h.len, fun i p e hp' he => ⟨(h.at_ i p e hp' he).1, (CRep.ren hp).2 (h.at_ i p e hp' he).2⟩⟩
theorem Foot.ren {n k : Nat} {b : Blk} : Foot (fun n => ρ (π n)) n b k ↔ Foot ρ (π n) (b.ren π) k := by
 cases b with
 | view s =>
  simp only [Foot, Blk.ren, flat_ren]
  exact and_congr (not_congr (by simp)) Iff.rfl
 | _ => exact Iff.rfl
theorem Out.ren {n k : Nat} {b : Blk} : Out (fun n => ρ (π n)) n b k ↔ Out ρ (π n) (b.ren π) k := by
 cases b <;> exact Iff.rfl
theorem Inn.ren {n k : Nat} {b : Blk} : Inn (fun n => ρ (π n)) n b k ↔ Inn ρ (π n) (b.ren π) k := by
 cases b <;> exact Iff.rfl
end
inductive Under : Blk → Blk → Prop
 | same (b : Blk) : Under b b
 | rview (cs : List Col) : Under (.vec cs) (.rview cs)
 | view (T : TypeId) (s : List Seg) : Under (.own T s) (.view s)
theorem Under.rep {ρ : Rho} {w : World} {n : Nat} {c b : Blk} (h : Under c b) (hc : BlkRep ρ w n c) : BlkRep ρ w n b := by
 cases h with
 | same => exact hc
 | rview cs => exact ⟨hc.1, hc.2.2⟩
 | view T s => exact hc.cells
theorem Under.foot {ρ : Rho} {w : World} {n k : Nat} {c b : Blk} (h : Under c b) (hc : BlkRep ρ w n c) (hf : Foot ρ n b k) : Foot ρ n c k := by
 cases h with
 | same => exact hf
 | rview cs =>
  rcases hf with ⟨h1, h2⟩ | hf
  ·exact Or.inl ⟨by have := hc.1.cap; omega, h2⟩
  ·exact Or.inr hf
 | view T s => exact hf.2
theorem Under.out {ρ : Rho} {n k : Nat} {c b : Blk} (h : Under c b) (hf : Out ρ n b k) : Out ρ n c k := by
 cases h with
 | same => exact hf
 | rview cs => exact hf.elim
 | view T s => exact hf.elim
theorem Under.inn {ρ : Rho} {n k : Nat} {c b : Blk} (h : Under c b) (hf : Inn ρ n b k) : Inn ρ n c k := by
 cases h with
 | same => exact hf
 | rview cs => exact hf
 | view T s => exact hf.elim
def roB : Blk → Bool
 | .view _ => true
 | .rview _ => true
 | _ => false
structure Enter (π : Nat → Nat) (σ τ : Mem) : Prop where
 pi : HPi π
 glob : ∀ g, π (gname g) = gname g
 inj : ∀ n m b c, Mem.find τ n = some b → Mem.find τ m = some c → π n = π m → n = m
 sub : ∀ n b, Mem.find τ n = some b → 200000 ≤ n ∧ ∃ c, Mem.find σ (π n) = some c ∧ Under c (b.ren π)
 heap : ∀ n b, Mem.find τ n = some b → isHeap n = true → roB b = false
def soleB : Blk → Bool
 | .own _ _ => true
 | .map _ _ => true
 | .heap _ _ => true
 | .vec cs => cs.all fun c => match c with | .rows _ _ => false | _ => true
 | _ => false
theorem sole_inner {ρ : Rho} {L : Loc} {cs : List Col} (h : soleB (.vec cs) = true) (k : Nat) : ¬ Inner L cs k := by
 rintro ⟨c, kk, ll, i, l, a, hc, _⟩
 have := List.all_eq_true.1 h _ (List.mem_of_getElem? hc)
 simp at this
theorem sole_out {ρ : Rho} {n k : Nat} {b : Blk} (h : soleB b = true) (hf : Foot ρ n b k) : Out ρ n b k := by
 cases b with
 | own T s => exact hf
 | map kk m => exact hf
 | heap q os => exact hf
 | vec cs =>
  rcases hf with hf | hf
  ·exact hf
  ·exact absurd hf (sole_inner (ρ := ρ) h k)
 | view s => simp [soleB] at h
 | rview cs => simp [soleB] at h
theorem sole_inn {ρ : Rho} {n k : Nat} {b : Blk} (h : soleB b = true) : ¬ Inn ρ n b k := by
 intro hf
 cases b <;> simp only [Inn] at hf
 ·exact absurd hf (sole_inner (ρ := ρ) h k)
 ·simp [soleB] at h
def renew (π : Nat → Nat) (d : Nat) : Nat → List Nat → Nat → Nat
 | _, [], n => π n
 | i, m :: r, n => if n = m then d + 10000 * i else renew π d (i + 1) r n
def backn (d : Nat) : Nat → List Nat → Nat → Option Nat
 | _, [], _ => none
 | i, n :: r, m => if m = d + 10000 * i then some n else backn d (i + 1) r m
theorem renew_not {π : Nat → Nat} {d n : Nat} : ∀ {ns : List Nat} {i : Nat}, n ∉ ns → renew π d i ns n = π n
 | [], _, _ => rfl
 | m :: r, i, h => by
  simp only [List.mem_cons, not_or] at h
  simp only [renew, if_neg h.1]
  exact renew_not h.2
theorem renew_mem {π : Nat → Nat} {d n : Nat} : ∀ {ns : List Nat} {i : Nat}, n ∈ ns → ∃ j, i ≤ j ∧ j < i + ns.length ∧ renew π d i ns n = d + 10000 * j ∧ backn d i ns (d + 10000 * j) = some n
 | m :: r, i, h => by
  by_cases e : n = m
  ·subst e
   exact ⟨i, Nat.le_refl _, by simp, by simp [renew], by simp [backn]⟩
  ·have hr : n ∈ r := by
    rcases List.mem_cons.1 h with q | q
    ·exact absurd q e
    ·exact q
   obtain ⟨j, h1, h2, h3, h4⟩ := renew_mem (π := π) (d := d) (i := i + 1) hr
   refine ⟨j, by omega, by simp only [List.length_cons]; omega, by simp only [renew, if_neg e]; exact h3, ?_⟩
   simp only [backn]
   rw [if_neg (by omega)]; exact h4
theorem backn_none {d m : Nat} : ∀ {ns : List Nat} {i : Nat}, (∀ j, i ≤ j → j < i + ns.length → m ≠ d + 10000 * j) → backn d i ns m = none
 | [], _, _ => rfl
 | n :: r, i, h => by
  simp only [backn]
  rw [if_neg (h i (Nat.le_refl _) (by simp))]
  exact backn_none fun j h1 h2 => h j (by omega) (by simp only [List.length_cons]; omega)
def Known (π : Nat → Nat) (τ : Mem) (ns : List Nat) (n : Nat) : Prop :=
 n ∈ ns ∨ (isHeap n = true ∧ (Mem.find τ n).isSome = true) ∨ (isHeap n = false ∧ 200000 ≤ n ∧ ((Mem.find τ n).isSome = true ∨ π n = n))
def Leave (π : Nat → Nat) (d news : Nat) (σ τ : Mem) (K : AV → Mem → Prop) (av : AV) (σ2 : Mem) : Prop :=
 ∃ ns av0 σ', ns.length ≤ news ∧ (∀ n ∈ ns, n < 200000) ∧ (∀ n, av.refs n = true → Known π τ ns n) ∧
  (∀ m b', Mem.find σ' m = some b' →
   (∃ n b, Mem.find σ2 n = some b ∧ Known π τ ns n ∧ soleB b = true ∧ (∀ r, b.refs r = true → Known π τ ns r) ∧ m = renew π d 0 ns n ∧ b' = b.ren (renew π d 0 ns)) ∨
   (Mem.find σ m = some b' ∧ ∀ n c, Mem.find τ n = some c → π n = m → roB c = true)) ∧
  (∀ ρ v, SRep ρ (av.ren (renew π d 0 ns)) v → SRep ρ av0 v) ∧ K av0 σ'
section
variable {P : Program} {Γ : Gam} {D : Hints}
theorem Good.inl (hm : P.follows .mixedOrders = true) (hΓ : GoodG P Γ) {f : FuncId} {fn : Func} (hf : P.funcs[f]? = some fn) (hb : fn.body.isSome = true) {s : Spec} (hs : s.mods = true)
  (hsem : ∀ d args σ (K : AV → Mem → Prop), s.sem d args σ K → (∀ k, k < s.news → d + 10000 * k < 200000 ∧ memRefs (d + 10000 * k) σ = false) → ∃ π cargs τ, Enter π σ τ ∧ args = cargs.map (AV.ren π) ∧ ∃ n, callsx P Γ D fn n cargs τ (Leave π d s.news σ τ K)) : Good P f s := by
 refine ⟨fun d args σ K h ρ w vals hg hmem hsep hl hv hnew => ?_⟩
 obtain ⟨π, cargs, τ, hE, rfl, n, hc⟩ := hsem d args σ K h hnew
 have hp := hE.pi
 let ρc : Rho := fun n => ρ (π n)
 have hsub : ∀ {n b}, Mem.find τ n = some b → ∃ c, Mem.find σ (π n) = some c ∧ Under c (b.ren π) := fun h => (hE.sub _ _ h).2
 have hmemc : MemRep ρc τ w := fun n b hb => by
  obtain ⟨c, h1, h2⟩ := hsub hb
  exact (BlkRep.ren hp).2 (h2.rep (hmem _ _ h1))
 have outc : ∀ {n b k}, Mem.find τ n = some b → Out ρc n b k → ∃ c, Mem.find σ (π n) = some c ∧ Out ρ (π n) c k := fun hb hO => by
  obtain ⟨c, h1, h2⟩ := hsub hb
  exact ⟨c, h1, h2.out (Out.ren.1 hO)⟩
 have hsepc : Sep ρc τ := by
  refine ⟨fun n m b c k hn hm' hne hO hF => ?_, fun n b k hn hO hI => ?_⟩
  ·obtain ⟨b1, h1, h2⟩ := outc hn hO
   obtain ⟨c1, g1, g2⟩ := hsub hm'
   exact hsep.1 _ _ b1 c1 k h1 g1 (fun e => hne (hE.inj n m b c hn hm' e)) h2 (g2.foot (hmem _ _ g1) (Foot.ren.1 hF))
  ·obtain ⟨b1, h1, h2⟩ := hsub hn
   exact hsep.2 _ b1 k h1 (h2.out (Out.ren.1 hO)) (h2.inn (Inn.ren.1 hI))
 have hgc : Glob ρc := fun g => by show (ρ (π (gname g))).1 = g ∧ (ρ (π (gname g))).2 = 0; rw [hE.glob]; exact hg g
 refine (callsx_sound hm hΓ hf hb hc (ρ := ρc) (ex := fun k => ∃ n b, Mem.find τ n = some b ∧ Out ρc n b k) hgc (by simpa using hl) (fun j x v hx hu => (SRep.ren hp).2 (hv j (x.ren π) v (by simp [hx]) hu)) hmemc hsepc (fun n b k hn hO => Or.inr ⟨n, b, hn, hO⟩)).mono ?_
 rintro e w' ⟨v, av, σ2, ρ2, rfl, ⟨ns, av0, σ', hlen, hlow, hav, hσ, hup, hK⟩, hsr, hmem2, hsep2, hfix, hext, hown, hk⟩
 have hnn : ∀ j, j < ns.length → d + 10000 * j < 200000 ∧ memRefs (d + 10000 * j) σ = false := fun j hj => hnew j (by omega)
 generalize hρ' : (fun m => match backn d 0 ns m with
  | some n => ρ2 n
  | none => match isHeap m && (Mem.find τ m).isSome with
   | true => ρ2 m
   | false => ρ m : Rho) = ρ'
 have ρold : ∀ m, (∀ j, j < ns.length → m ≠ d + 10000 * j) → (isHeap m = false ∨ (Mem.find τ m).isSome = false) → ρ' m = ρ m := fun m h1 h2 => by
  rw [← hρ']
  simp only [backn_none (ns := ns) (i := 0) fun j _ hj => h1 j (by omega)]
  rcases h2 with h2 | h2 <;> simp [h2]
 have ρheap : ∀ m, isHeap m = true → (Mem.find τ m).isSome = true → ρ' m = ρ2 m := fun m h1 h2 => by
  rw [← hρ']
  have : backn d 0 ns m = none := backn_none (ns := ns) (i := 0) fun j _ hj => by
   have := isHeap_le h1
   have := (hnn j (by omega)).1
   omega
  simp [this, h1, h2]
 have σname : ∀ {m b}, Mem.find σ m = some b → ∀ j, j < ns.length → m ≠ d + 10000 * j := fun hb j hj => (memRefs_out (hnn j hj).2 hb).1
 have known : ∀ n, Known π τ ns n → ρ' (renew π d 0 ns n) = ρ2 n := by
  intro n hn
  by_cases hmn : n ∈ ns
  ·obtain ⟨j, _, h2, h3, h4⟩ := renew_mem (π := π) (d := d) (i := 0) hmn
   rw [h3, ← hρ']; simp [h4]
  ·rw [renew_not hmn]
   rcases hn with hn | ⟨h1, h2⟩ | ⟨h1, h2, h3⟩
   ·exact absurd hn hmn
   ·rw [hp.heap n h1]; exact ρheap n h1 h2
   ·rw [hfix n h2 h1]
    show ρ' (π n) = ρ (π n)
    refine ρold _ (fun j hj e => ?_) (Or.inl (hp.not n h1))
    rcases h3 with h3 | h3
    ·obtain ⟨b, hb⟩ := Option.isSome_iff_exists.1 h3
     obtain ⟨c, hc, _⟩ := hsub hb
     exact σname hc j hj e
    ·have := (hnn j hj).1
     omega
 have hpn : HPi (renew π d 0 ns) := by
  refine ⟨fun n hn => ?_, fun n hn => ?_⟩
  ·rw [renew_not fun q => by have := hlow n q; have := isHeap_le hn; omega]; exact hp.heap n hn
  ·by_cases hmn : n ∈ ns
   ·obtain ⟨j, _, h2, h3, _⟩ := renew_mem (π := π) (d := d) (i := 0) hmn
    rw [h3]
    have := (hnn j (by omega)).1
    exact isHeap_no (Or.inl (by omega))
   ·rw [renew_not hmn]; exact hp.not n hn
 have hext' : ∀ n, isHeap n = true → HExt (ρ n) (ρ' n) := fun n hn => by
  cases hq : (Mem.find τ n).isSome with
  | true =>
   rw [ρheap n hn hq]
   have := hext n hn
   have e : ρc n = ρ n := by show ρ (π n) = ρ n; rw [hp.heap n hn]
   rw [e] at this; exact this
  | false => rw [ρold n (fun j hj e => by have := isHeap_le hn; have := (hnn j hj).1; omega) (Or.inr hq)]; exact .refl _
 have hin : ∀ m b k, Mem.find σ m = some b → Foot ρ m b k → k < w.heap.size := fun m b k hb hk => in_range (hmem m b hb) hk
 have apart : ∀ {m b' k}, Mem.find σ m = some b' → (∀ n c, Mem.find τ n = some c → π n = m → roB c = true) → Foot ρ m b' k → ¬ ∃ n b, Mem.find τ n = some b ∧ Out ρc n b k := by
  rintro m b' k hm' hro hF ⟨n, b, hn, hO⟩
  obtain ⟨c, h1, h2⟩ := outc hn hO
  by_cases e : π n = m
  ·have := hro n b hn e
   cases b <;> simp [roB] at this <;> exact hO
  ·exact hsep.1 _ _ c b' k h1 hm' e h2 hF
 have old : ∀ {m b'}, Mem.find σ m = some b' → (∀ n c, Mem.find τ n = some c → π n = m → roB c = true) → ρ' m = ρ m ∧ BlkRep ρ' w' m b' := by
  intro m b' hm' hro
  have e : ρ' m = ρ m := by
   refine ρold m (σname hm') ?_
   cases hh : isHeap m with
   | false => exact Or.inl rfl
   | true =>
    right
    cases hq : Mem.find τ m with
    | none => rfl
    | some c =>
     have h1 := hro m c hq (hp.heap m hh)
     rw [hE.heap m c hq hh] at h1; cases h1
  refine ⟨e, ((hmem m b' hm').keeps fun k hk' => hk.block k (hin m b' k hm' hk') (apart hm' hro hk')).agree e fun r hr => ?_⟩
  cases hh : isHeap r with
  | true => exact hext' r hh
  | false =>
   refine .of_eq (ρold r (fun j hj e => ?_) (Or.inl hh))
   have := (memRefs_out (hnn j hj).2 hm').2
   rw [← e, hr] at this; cases this
 have new : ∀ {n b}, Mem.find σ2 n = some b → Known π τ ns n → (∀ r, b.refs r = true → Known π τ ns r) → BlkRep (fun n => ρ' (renew π d 0 ns n)) w' n b := fun hb hn hr =>
  (hmem2 _ _ hb).agree (known _ hn) fun r hr' => .of_eq (known r (hr r hr'))
 have hnO : ∀ {n b k}, Known π τ ns n → (Out (fun n => ρ' (renew π d 0 ns n)) n b k ↔ Out ρ2 n b k) := fun hn => Out.agree (known _ hn)
 have hnF : ∀ {n b k}, Known π τ ns n → (Foot (fun n => ρ' (renew π d 0 ns n)) n b k ↔ Foot ρ2 n b k) := fun hn => Foot.agree (known _ hn)
 refine ⟨v, av0, σ', ρ', rfl, hK, hup _ _ ((SRep.ren hpn).1 (hsr.agree fun r hr => .of_eq (known r (hav r hr)))), fun m b' hm' => ?_, ⟨fun m m' b' c' k hm' hm2 hne hO hF => ?_, fun m b' k hm' hO hI => ?_⟩, fun n hh hn => ?_, hext', fun m b' k hm' hO => ?_, ?_, fun q => by rw [hs] at q; cases q⟩
 ·rcases hσ m b' hm' with ⟨n, b, h1, h2, h3, h4, rfl, rfl⟩ | ⟨h1, h2⟩
  ·exact (BlkRep.ren hpn).1 (new h1 h2 h4)
  ·exact (old h1 h2).2
 ·rcases hσ m b' hm' with ⟨n, b, h1, h2, h3, h4, rfl, rfl⟩ | ⟨h1, h2⟩
  ·have hO2 := (hnO h2).1 (Out.ren.2 hO)
   rcases hσ m' c' hm2 with ⟨n', c, g1, g2, g3, g4, rfl, rfl⟩ | ⟨g1, g2⟩
   ·exact hsep2.1 n n' b c k h1 g1 (fun e => hne (by rw [e])) hO2 ((hnF g2).1 (Foot.ren.2 hF))
   ·have hF' : Foot ρ m' c' k := (Foot.agree (old g1 g2).1).1 hF
    rcases hown n b k h1 hO2 with q | q
    ·have := hin _ _ _ g1 hF'; omega
    ·exact apart g1 g2 hF' q
  ·have hO' : Out ρ m b' k := (Out.agree (old h1 h2).1).1 hO
   rcases hσ m' c' hm2 with ⟨n', c, g1, g2, g3, g4, rfl, rfl⟩ | ⟨g1, g2⟩
   ·have hF2 := sole_out g3 ((hnF g2).1 (Foot.ren.2 hF))
    rcases hown n' c k g1 hF2 with q | q
    ·have := hin _ _ _ h1 hO'.foot; omega
    ·exact apart h1 h2 hO'.foot q
   ·exact hsep.1 m m' b' c' k h1 g1 hne hO' ((Foot.agree (old g1 g2).1).1 hF)
 ·rcases hσ m b' hm' with ⟨n, b, h1, h2, h3, h4, rfl, rfl⟩ | ⟨h1, h2⟩
  ·exact sole_inn (ρ := fun n => ρ' (renew π d 0 ns n)) h3 (Inn.ren.2 hI)
  ·exact hsep.2 m b' k h1 ((Out.agree (old h1 h2).1).1 hO) ((Inn.agree (old h1 h2).1).1 hI)
 ·exact ρold n (fun j hj => hn j (by omega)) (Or.inl hh)
 ·rcases hσ m b' hm' with ⟨n, b, h1, h2, h3, h4, rfl, rfl⟩ | ⟨h1, h2⟩
  ·rcases hown n b k h1 ((hnO h2).1 (Out.ren.2 hO)) with q | ⟨n0, b0, q1, q2⟩
   ·exact Or.inr q
   ·obtain ⟨c, g1, g2⟩ := outc q1 q2
    exact Or.inl ⟨_, c, g1, g2⟩
  ·exact Or.inl ⟨m, b', h1, (Out.agree (old h1 h2).1).1 hO⟩
 ·exact ⟨hk.os, hk.tape, hk.output, hk.size, fun k hk' hx => hk.block k hk' fun ⟨n0, b0, q1, q2⟩ => by
   obtain ⟨c, g1, g2⟩ := outc q1 q2
   exact hx ⟨_, c, g1, g2⟩⟩
end
structure Bs (l : List Int) : Prop where
 all : ∀ x ∈ l, 0 ≤ x ∧ x < 256
theorem Bs.nil : Bs [] := ⟨fun x h => by cases h⟩
theorem Bs.cons {a : Int} {l : List Int} (h0 : 0 ≤ a) (h1 : a < 256) (h : Bs l) : Bs (a :: l) := ⟨fun x hx => by
 rcases List.mem_cons.1 hx with rfl | hx
 ·exact ⟨h0, h1⟩
 ·exact h.all x hx⟩
theorem Bs.app {a b : List Int} (h : Bs a) (g : Bs b) : Bs (a ++ b) := ⟨fun x hx => by
 rcases List.mem_append.1 hx with hx | hx
 ·exact h.all x hx
 ·exact g.all x hx⟩
theorem Bs.take {l : List Int} (h : Bs l) (n : Nat) : Bs (l.take n) := ⟨fun x hx => h.all x (List.mem_of_mem_take hx)⟩
theorem Bs.drop {l : List Int} (h : Bs l) (n : Nat) : Bs (l.drop n) := ⟨fun x hx => h.all x (List.mem_of_mem_drop hx)⟩
theorem Bs.get {l : List Int} (h : Bs l) (i : Nat) : 0 ≤ l.getD i 0 ∧ l.getD i 0 < 256 := by
 rw [List.getD_eq_getElem?_getD]
 cases hq : l[i]? with
 | none => simp
 | some x => exact h.all x (List.mem_of_getElem? hq)
theorem Bs.set {l : List Int} (h : Bs l) (i : Nat) {v : Int} (h0 : 0 ≤ v) (h1 : v < 256) : Bs (l.set i v) := ⟨fun x hx => by
 rcases List.mem_or_eq_of_mem_set hx with hx | rfl
 ·exact h.all x hx
 ·exact ⟨h0, h1⟩⟩
def rdb (σ : Mem) (x : AV) (K : List Int → Prop) : Prop := rdx σ [.ints .u8] x (oneInts .u8 K)
theorem rdx_det {σ : Mem} {ks : List Kd} {x : AV} {K : List Col → Prop} (h : rdx σ ks x K) : ∃ cs, K cs ∧ rdx σ ks x (fun c => c = cs) := by
 unfold rdx at h
 split at h
 ·split at h <;> try exact h.elim
  rename_i hq
  exact ⟨_, h, by simp [rdx, hq]⟩
 ·split at h <;> try exact h.elim
  rename_i hq
  split at h <;> try exact h.elim
  rename_i hz
  exact ⟨_, h, by simp [rdx, hq, hz]⟩
 ·split at h <;> try exact h.elim
  rename_i hq
  split at h <;> try exact h.elim
  rename_i hz
  exact ⟨_, h, by simp [rdx, hq, hz]⟩
 ·split at h <;> try exact h.elim
  rename_i hq
  exact ⟨_, h, by simp [rdx, hq]⟩
 ·split at h <;> try exact h.elim
  rename_i hq
  exact ⟨_, h, by simp [rdx, hq]⟩
 ·split at h <;> try exact h.elim
  rename_i hq
  split at h <;> try exact h.elim
  rename_i hf
  exact ⟨_, h.2, by simp only [rdx, hq, hf, and_true]; exact h.1⟩
 ·exact ⟨_, h, by simp [rdx]⟩
 ·split at h <;> try exact h.elim
  rename_i hq
  exact ⟨_, h, by simp [rdx, hq]⟩
 ·exact h.elim
theorem rdb_row {σ : Mem} {x : AV} {K : List Int → Prop} (h : rdb σ x K) : ∃ l, K l ∧ rdx σ [.ints .u8] x (fun c => c = [.ints .u8 l]) := by
 obtain ⟨cs, h1, h2⟩ := rdx_det h
 unfold oneInts at h1
 split at h1 <;> try exact h1.elim
 split at h1 <;> try exact h1.elim
 rename_i hk
 subst hk
 exact ⟨_, h1, h2⟩
theorem pairwise_one {a : Option Nat} : [a].Pairwise (fun a b => a = none ∨ a ≠ b) := by simp
theorem pairwise_nil : ([] : List (Option Nat)).Pairwise (fun a b => a = none ∨ a ≠ b) := .nil
theorem bytes_eq {a b : List Int} (ha : Bs a) (hb : Bs b) (h : bytesOf a = bytesOf b) : a = b := by
 have h2 : a.map (fun n => UInt8.ofNat n.toNat) = b.map (fun n => UInt8.ofNat n.toNat) := by
  have := congrArg (fun s => s.data.toList) h
  simpa [bytesOf] using this
 have key : ∀ {a : List Int}, Bs a → (a.map (fun n => UInt8.ofNat n.toNat)).map (fun b => (b.toNat : Int)) = a := by
  intro a ha
  rw [List.map_map]
  conv => rhs; rw [← List.map_id a]
  refine List.map_congr_left fun x hx => ?_
  obtain ⟨h0, h1⟩ := ha.all x hx
  simp only [Function.comp, UInt8.toNat_ofNat', id]
  omega
 rw [← key ha, ← key hb, h2]
theorem seq2_true {a b : ByteArray} : seq2 a b = true ↔ a = b := by
 have e : ∀ s : ByteArray, s.toList = s.data.toList := fun s => ByteArray.toList_eq s
 simp only [seq2, e, beq_iff_eq]
 constructor
 ·intro h; cases a; cases b; simp only at h; congr; exact Array.toList_inj.1 h
 ·intro h; rw [h]
inductive PlainT : List TV → List TV → Prop
 | nil : PlainT [] []
 | int {k : IntKind} {a b : Int} {r s : List TV} : a = b → PlainT r s → PlainT (.c (.int k a) :: r) (.c (.int k b) :: s)
 | lit {a b : Bool} {r s : List TV} : a = b → PlainT r s → PlainT (.c (.lit a) :: r) (.c (.bool b) :: s)
 | bool {a b : Bool} {r s : List TV} : a = b → PlainT r s → PlainT (.c (.bool a) :: r) (.c (.bool b) :: s)
 | arr {k : IntKind} {n : Nat} {a b : List Int} {r s : List TV} : a = b → PlainT r s → PlainT (.g [.ints k n a] :: r) (.g [.ints k n b] :: s)
theorem PlainT.res {its : List Item} {d : Nat} : ∀ {r s : List TV}, PlainT r s → ResT its d r s := by
 intro r s h
 induction h with
 | nil => trivial
 | int e _ ih => subst e; exact ⟨Or.inl ⟨fun _ => rfl, fun _ => rfl, fun _ _ h => h⟩, ih⟩
 | lit e _ ih => subst e; exact ⟨Or.inl ⟨fun _ => rfl, fun _ => rfl, fun _ _ h => h⟩, ih⟩
 | bool e _ ih => subst e; exact ⟨Or.inl ⟨fun _ => rfl, fun _ => rfl, fun _ _ h => h⟩, ih⟩
 | arr e _ ih => subst e; exact ⟨⟨⟨rfl, rfl, rfl⟩, trivial⟩, ih⟩
section
variable {d : Nat} {σ σ' : Mem} {K : AV → Mem → Prop}
theorem res_plain {av av' : AV} (h : ResV [] d av av') (hK : K av' σ) : Res d 0 σ K av σ' :=
 ⟨[], av', Nat.le_refl _, fun it h => by simp at h, pairwise_nil, h, hK⟩
theorem res_bool {a b : Bool} (e : a = b) (hK : K (.one (.bool b)) σ) : Res d 0 σ K (.one (.bool a)) σ' := by
 subst e; exact res_plain (av' := .one (.bool a)) (Or.inl ⟨fun _ => rfl, fun _ => rfl, fun _ _ h => h⟩) hK
theorem res_lit {a b : Bool} (e : a = b) (hK : K (.one (.bool b)) σ) : Res d 0 σ K (.one (.lit a)) σ' := by
 subst e; exact res_plain (av' := .one (.bool a)) (Or.inl ⟨fun _ => rfl, fun _ => rfl, fun _ _ h => h⟩) hK
theorem res_tvec {m : Nat} {k : IntKind} {l l' : List Int} {r s : List TV} (hf : Mem.find σ' m = some (.vec [.ints k l])) (hr : PlainT r s) (e : l = l') (hK : K (.tup (.c (.vec d) :: s)) (Mem.ins d (.vec [.ints k l']) σ)) : Res d 1 σ K (.tup (.c (.vec m) :: r)) σ' := by
 subst e
 exact ⟨[.vec m [.ints k l]], .tup (.c (.vec d) :: s), Nat.le_refl _, fun it h => by simp at h; subst h; exact ⟨hf, rfl⟩, pairwise_one, ⟨Or.inr ⟨0, _, rfl, rfl, rfl⟩, hr.res⟩, hK⟩
theorem res_tnil {k : IntKind} {l' : List Int} {r s : List TV} (hr : PlainT r s) (e : l' = []) (hK : K (.tup (.c (.vec d) :: s)) (Mem.ins d (.vec [.ints k l']) σ)) : Res d 1 σ K (.tup (.c (.con (.slice none 0 0)) :: r)) σ' := by
 subst e
 exact ⟨[.nil [.ints k]], .tup (.c (.vec d) :: s), Nat.le_refl _, fun it h => by simp at h; subst h; exact ⟨Nat.one_pos, rfl⟩, pairwise_one, ⟨Or.inr ⟨0, _, rfl, rfl, rfl⟩, hr.res⟩, hK⟩
end
theorem room1 {n : Nat} (h : n ≤ 140737488421888) : Room n 1 := ⟨by omega⟩
theorem lsub_drop {α : Type} (l : List α) (i : Nat) : lsub l i (l.length - i) = l.drop i := by simp [lsub, List.take_of_length_le]
def hshift (n : Nat) (d : HS) : HS := if d.j = 0 then d else ⟨d.j - 1 + n, d.off, d.len⟩
def Col.shift (k : IntKind) (n : Nat) : Col → Col
 | .hss k' l => if k' = k then .hss k (l.map (hshift n)) else .hss k' l
 | c => c
def Item.shift (k : IntKind) (n : Nat) : Item → List Col
 | .vec _ cs => cs.map (Col.shift k n)
 | .nil ks => (ks.map Kd.nil).map fun c => match c with
  | .rows k' [] => if k' = k then .hss k [] else c
  | c => c
section
variable {P : Program} {Γ : Gam} {D : Hints}
end
def hfrom : Nat → List (List Int) → List HS
 | _, [] => []
 | n, c :: r => ⟨n, 0, c.length⟩ :: hfrom (n + 1) r
theorem hfrom_app (n : Nat) (L : List (List Int)) (y : List Int) : hfrom n (L ++ [y]) = hfrom n L ++ [⟨n + L.length, 0, y.length⟩] := by
 induction L generalizing n with
 | nil => rfl
 | cons c r ih => simp only [List.cons_append, hfrom, ih, List.length_cons]; congr 4; omega
theorem hfrom_len (n : Nat) (L : List (List Int)) : (hfrom n L).length = L.length := by
 induction L generalizing n with
 | nil => rfl
 | cons c r ih => simp only [hfrom, List.length_cons, ih]
theorem hcons_from (os L : List (List Int)) : hcons (os ++ L) (hfrom os.length L) = L := by
 induction L generalizing os with
 | nil => rfl
 | cons c r ih =>
  have e := ih (os ++ [c])
  simp only [List.append_assoc, List.cons_append, List.nil_append, List.length_append, List.length_cons, List.length_nil] at e
  simp only [hcons, hfrom, List.map_cons] at e ⊢
  rw [e]
  congr 1
  simp [hcon, llget, lsub]
def oneRows (k : IntKind) (K : List (List Int) → Prop) (cs : List Col) : Prop :=
 match cs with
 | [.rows k' l] => if k' = k then K l else False
 | _ => False
def rdr (σ : Mem) (x : AV) (K : List (List Int) → Prop) : Prop := rdx σ [.rows .u8] x fun cs => match unHs σ cs with
 | some c => oneRows .u8 K c
 | none => False
theorem rdx_det2 {σ : Mem} {ks : List Kd} {x : AV} {K : List Col → Prop} (h : rdx σ ks x K) : ∃ cs, K cs ∧ ∀ K' : List Col → Prop, K' cs → rdx σ ks x K' := by
 unfold rdx at h
 split at h
 ·split at h <;> try exact h.elim
  rename_i hq
  exact ⟨_, h, fun K' k => by simpa [rdx, hq] using k⟩
 ·split at h <;> try exact h.elim
  rename_i hq
  split at h <;> try exact h.elim
  rename_i hz
  exact ⟨_, h, fun K' k => by simpa [rdx, hq, hz] using k⟩
 ·split at h <;> try exact h.elim
  rename_i hq
  split at h <;> try exact h.elim
  rename_i hz
  exact ⟨_, h, fun K' k => by simpa [rdx, hq, hz] using k⟩
 ·split at h <;> try exact h.elim
  rename_i hq
  exact ⟨_, h, fun K' k => by simpa [rdx, hq] using k⟩
 ·split at h <;> try exact h.elim
  rename_i hq
  exact ⟨_, h, fun K' k => by simpa [rdx, hq] using k⟩
 ·split at h <;> try exact h.elim
  rename_i hq
  split at h <;> try exact h.elim
  rename_i hf
  exact ⟨_, h.2, fun K' k => by simp only [rdx, hq, hf]; exact ⟨h.1, k⟩⟩
 ·exact ⟨_, h, fun K' k => by simpa [rdx] using k⟩
 ·split at h <;> try exact h.elim
  rename_i hq
  exact ⟨_, h, fun K' k => by simpa [rdx, hq] using k⟩
 ·exact h.elim
theorem rdr_row {σ : Mem} {x : AV} {K : List (List Int) → Prop} (h : rdr σ x K) : ∃ l, K l ∧ rdx σ [.rows .u8] x (fun c => unHs σ c = some [.rows .u8 l]) := by
 obtain ⟨cs, h1, h2⟩ := rdx_det2 h
 split at h1 <;> try exact h1.elim
 rename_i c hc
 unfold oneRows at h1
 split at h1 <;> try exact h1.elim
 split at h1 <;> try exact h1.elim
 rename_i hk
 subst hk
 exact ⟨_, h1, h2 _ hc⟩
section
variable {P : Program} {Γ : Gam} {D : Hints}
def KnownR (π : Nat → Nat) (τ : Mem) (n : Nat) : Prop := isHeap n = false ∧ 200000 ≤ n ∧ ((Mem.find τ n).isSome = true ∨ π n = n)
theorem Good.inlr (hm : P.follows .mixedOrders = true) (hΓ : GoodG P Γ) {f : FuncId} {fn : Func} (hf : P.funcs[f]? = some fn) (hb : fn.body.isSome = true) {s : Spec} (hs : s.mods = false)
  (hsem : ∀ d args σ (K : AV → Mem → Prop), s.sem d args σ K → ∃ π cargs τ, Enter π σ τ ∧ (∀ n b, Mem.find τ n = some b → roB b = true) ∧ args = cargs.map (AV.ren π) ∧ ∃ n, callsx P Γ D fn n cargs τ fun av _ => ∃ av0, (∀ n, av.refs n = true → KnownR π τ n) ∧ (∀ ρ v, SRep ρ (av.ren π) v → SRep ρ av0 v) ∧ K av0 σ) : Good P f s := by
 refine ⟨fun d args σ K h ρ w vals hg hmem hsep hl hv hnew => ?_⟩
 obtain ⟨π, cargs, τ, hE, hro, rfl, n, hc⟩ := hsem d args σ K h
 have hp := hE.pi
 let ρc : Rho := fun n => ρ (π n)
 have hmemc : MemRep ρc τ w := fun n b hb => by
  obtain ⟨_, c, h1, h2⟩ := hE.sub n b hb
  exact (BlkRep.ren hp).2 (h2.rep (hmem _ _ h1))
 have hno : ∀ n b k, Mem.find τ n = some b → ¬ Out ρc n b k := fun n b k hb hO => by
  have := hro n b hb
  cases b <;> simp [roB] at this <;> exact hO
 have hsepc : Sep ρc τ := ⟨fun n m b c k hn _ _ hO => absurd hO (hno n b k hn), fun n b k hn hO => absurd hO (hno n b k hn)⟩
 have hgc : Glob ρc := fun g => by show (ρ (π (gname g))).1 = g ∧ (ρ (π (gname g))).2 = 0; rw [hE.glob]; exact hg g
 refine (callsx_sound hm hΓ hf hb hc (ρ := ρc) (ex := fun _ => False) hgc (by simpa using hl) (fun j x v hx hu => (SRep.ren hp).2 (hv j (x.ren π) v (by simp [hx]) hu)) hmemc hsepc (fun n b k hn hO => absurd hO (hno n b k hn))).mono ?_
 rintro e w' ⟨v, av, σ2, ρ2, rfl, ⟨av0, hav, hup, hK⟩, hsr, hmem2, hsep2, hfix, hext, hown, hk⟩
 have hsame : ∀ i, i < w.heap.size → w'.heap[i]? = w.heap[i]? := fun i hi => hk.block i hi (fun q => q)
 refine ⟨v, av0, σ, ρ, rfl, hK, hup _ _ ((SRep.ren hp).1 (hsr.agree fun r hr => ?_)), hmem.keeps (fun n b k hb hk => hsame _ (in_range (hmem n b hb) hk)), hsep, fun _ _ _ => rfl, fun _ _ => .refl _, fun n b k hn hO => Or.inl ⟨n, b, hn, hO⟩, ⟨hk.os, hk.tape, hk.output, hk.size, fun k hk' _ => hsame k hk'⟩, fun _ => ⟨hk, fun _ _ q => q, fun _ _ => rfl⟩⟩
 obtain ⟨h1, h2, _⟩ := hav r hr
 exact .of_eq (hfix r h2 h1).symm
def ResR (d : Nat) (σ : Mem) (k : IntKind) (K : AV → Mem → Prop) (av : AV) (σ' : Mem) : Prop :=
 ∃ m ds os', av = .one (.vec m) ∧ Mem.find σ' m = some (.vec [.hss k ds]) ∧ Mem.heap σ' k = some os' ∧ K (.one (.vec d)) (Mem.ins d (.rview [.rows k (hcons os' ds)]) σ)
theorem Good.privR (hm : P.follows .mixedOrders = true) (hΓ : GoodG P Γ) {f : FuncId} {fn : Func} (hf : P.funcs[f]? = some fn) (hb : fn.body.isSome = true) {s : Spec} (hs : s.mods = false) (hnw : s.news = 1)
  (hsem : ∀ d args σ (K : AV → Mem → Prop), s.sem d args σ K → ∃ k k2 cargs τ τ', Canon σ 0 args cargs τ ∧ memRefs (hname k) τ = false ∧ memRefs (hname k2) τ = false ∧ (∀ x ∈ cargs, x.refs (hname k) = false) ∧ (∀ x ∈ cargs, x.refs (hname k2) = false) ∧ args.length ≤ 1000 ∧
   (∀ n, Mem.find τ' n = Mem.find ((hname k, .heap k [[]]) :: (hname k2, .heap k2 [[]]) :: τ) n) ∧ ∃ n, callsx P Γ D fn n cargs τ' (ResR d σ k K)) : Good P f s := by
 refine ⟨fun d args σ K h ρ w vals hg hmem hsep hl hv hnew => ?_⟩
 obtain ⟨k, k2, cargs, τ, τ', hcan, hτr, hτr2, hcr, hcr2, hlen, hτ, n, hc⟩ := hsem d args σ K h
 obtain ⟨h1, Ls, h2⟩ := canon_sound hmem hsep hcan vals.toList (by simpa using hl) (fun i x v hx hu => hv i x v hx (by simpa using hu))
 generalize hρ0 : rhoC ρ (fun n => Ls (n % 1000) (n / 1000)) = ρ0
 have hρc : ∀ i f, 0 ≤ i → i < 0 + args.length → f < 100 → ρ0 (200000 + (i + 1000 * f)) = Ls i f := fun i f _ hi hf => by
  rw [← hρ0, rhoC_arg (by omega)]
  show Ls ((i + 1000 * f) % 1000) ((i + 1000 * f) / 1000) = Ls i f
  rw [show (i + 1000 * f) % 1000 = i by omega, show (i + 1000 * f) / 1000 = f by omega]
 have hgg : ∀ g, ρ0 (gname g) = ρ (gname g) := fun g => by rw [← hρ0]; exact rhoC_glob
 obtain ⟨g1, g2⟩ := h2 ρ0 hρc hgg (fun n hn => by rw [← hρ0]; exact rhoC_heap hn)
 have hhp := isHeap_hname k
 have hhp2 := isHeap_hname k2
 have hble := isHeap_le hhp
 have hble2 := isHeap_le hhp2
 generalize hρ1 : (fun n => if n = hname k ∨ n = hname k2 then heap0 else ρ0 n : Rho) = ρc
 have hck : ∀ n, n = hname k ∨ n = hname k2 → ρc n = heap0 := fun n hn => by rw [← hρ1]; exact if_pos hn
 have hcn : ∀ n, n ≠ hname k → n ≠ hname k2 → ρc n = ρ0 n := fun n h1 h2 => by rw [← hρ1]; exact if_neg (by rintro (q | q); exact h1 q; exact h2 q)
 have hgc : Glob ρc := fun g => by rw [hcn _ (by simp only [gname]; omega) (by simp only [gname]; omega), hgg]; exact hg g
 have unf : ∀ {m b}, Mem.find τ' m = some b → (m = hname k ∧ b = .heap k [[]]) ∨ (m = hname k2 ∧ b = .heap k2 [[]]) ∨ (m ≠ hname k ∧ m ≠ hname k2 ∧ Mem.find τ m = some b) := by
  intro m b hb
  rw [hτ] at hb
  simp only [Mem.find] at hb
  split at hb
  ·rename_i e; cases hb; exact Or.inl ⟨e.symm, rfl⟩
  ·rename_i e
   split at hb
   ·rename_i e2; cases hb; exact Or.inr (Or.inl ⟨e2.symm, rfl⟩)
   ·rename_i e2; exact Or.inr (Or.inr ⟨Ne.symm e, Ne.symm e2, hb⟩)
 have hno := canon_views hcan ρc
 have hz : ∀ q, ¬ HFoot heap0 q := by
  rintro q ⟨j, h1, h2, _⟩
  exact h2 rfl
 have hout : ∀ m b q, Mem.find τ' m = some b → ¬ Out ρc m b q := by
  intro m b q hb hO
  rcases unf hb with ⟨rfl, rfl⟩ | ⟨rfl, rfl⟩ | ⟨_, _, hb⟩
  ·have hO : HFoot (ρc (hname k)) q := hO
   rw [hck _ (Or.inl rfl)] at hO; exact hz q hO
  ·have hO : HFoot (ρc (hname k2)) q := hO
   rw [hck _ (Or.inr rfl)] at hO; exact hz q hO
  ·exact hno m b q hb hO
 have hmemc : MemRep ρc τ' w := by
  intro m b hb
  rcases unf hb with ⟨rfl, rfl⟩ | ⟨rfl, rfl⟩ | ⟨hne, hne2, hb⟩
  ·exact ⟨hhp, by rw [hck _ (Or.inl rfl)]; exact heap0_rep w k⟩
  ·exact ⟨hhp2, by rw [hck _ (Or.inr rfl)]; exact heap0_rep w k2⟩
  ·refine (g2 m b hb).agree (hcn m hne hne2) fun x hx => .of_eq (hcn x (fun e => ?_) (fun e => ?_))
   ·subst e
    have := (memRefs_out hτr hb).2
    rw [this] at hx; cases hx
   ·subst e
    have := (memRefs_out hτr2 hb).2
    rw [this] at hx; cases hx
 have hsepc : Sep ρc τ' := ⟨fun n m b c k hn _ _ hO => absurd hO (hout n b k hn), fun n b k hn hO => absurd hO (hout n b k hn)⟩
 refine (callsx_sound hm hΓ hf hb hc (ex := fun _ => False) hgc (by simpa using h1) (fun i y v hy hu => (g1 i y v hy (by simpa using hu)).agree fun x hx => .of_eq (hcn x (fun e => by
  subst e
  rw [hcr y (List.mem_of_getElem? hy)] at hx; cases hx) (fun e => by
  subst e
  rw [hcr2 y (List.mem_of_getElem? hy)] at hx; cases hx))) hmemc hsepc (fun n b k hn hO => absurd hO (hout n b k hn))).mono ?_
 rintro e w' ⟨v, av', σ'', ρ'', rfl, ⟨m, ds, os', rfl, hfm, hos', hK⟩, hsr, hmem'', hsep'', _, _, hown'', hk⟩
 have hsame : ∀ i, i < w.heap.size → w'.heap[i]? = w.heap[i]? := fun i hi => hk.block i hi (fun q => q)
 have hk' : Keeps (OwnAt ρ σ) w w' := ⟨hk.os, hk.tape, hk.output, hk.size, fun k hk' _ => hsame k hk'⟩
 let E : Env := ⟨w, ρ, OwnAt ρ σ, hg⟩
 let a : Act := { tmps := #[], defers := [] }
 have hmem' : MemRep ρ σ w' := hmem.keeps (fun n b k hb hk => hsame _ (in_range (hmem n b hb) hk))
 have hR : Rep E ρ [] σ a w' := ⟨⟨rfl, fun t v ht => by simp [a] at ht⟩, rfl, hmem', hsep, fun _ _ _ => rfl, fun _ _ => .refl _, fun n b k hn hO => Or.inr ⟨n, b, hn, hO⟩, hk'⟩
 have hfd'' := heap_find hos'
 obtain ⟨p1, p2, p3⟩ := hmem'' m _ hfm
 have hun : unHs σ'' [.hss k ds] = some [.rows k (hcons os' ds)] := by simp only [unHs, unH, hos']
 obtain ⟨u1, u2⟩ := unHs_rep hmem'' hsep'' hun p1 p3
 have hnew' : ∀ m b q, Mem.find σ'' m = some b → Out ρ'' m b q → w.heap.size ≤ q := fun m b q hm hO => by
  rcases hown'' m b q hm hO with q | q
  ·exact q
  ·exact q.elim
 have hfoot : ∀ q, FootL (ρ'' m) [.rows k (hcons os' ds)] q → w.heap.size ≤ q := by
  intro q hq
  rcases hq with ⟨q1, rfl⟩ | ⟨c, kk, ll, i, l, ad, hc1, hc2, hc3, hc4, rfl⟩
  ·exact hnew' m _ _ hfm ⟨by have := p1.cap; omega, rfl⟩
  ·cases c with
   | succ c => simp at hc1
   | zero =>
    simp at hc1
    obtain ⟨rfl, rfl⟩ := hc1
    simp only [hcons, List.getElem?_map, Option.map_eq_some_iff] at hc2
    obtain ⟨d0, hd0, rfl⟩ := hc2
    obtain ⟨A, cap, e1, e2, e3, e4, e5, e6, e7⟩ := p3 0 k ds rfl i d0 hd0
    simp only [Value.slice.injEq] at e1
    obtain ⟨a1, a2, a3⟩ := e1
    have hlen : d0.len ≠ 0 := fun q => hc3 (by simp [hcon, lsub, q])
    have hA : A = ((ρ'' (hname k)).el 0 d0.j).a.map (·.add d0.off) := by
     rcases e5 with q | q
     ·omega
     ·exact q
    rw [hc4, hA] at a1
    cases hb0 : ((ρ'' (hname k)).el 0 d0.j).a with
    | none => rw [hb0] at a1; cases a1
    | some b0 =>
     rw [hb0] at a1
     simp only [Option.map_some, Option.some.injEq] at a1
     have hcap : ((ρ'' (hname k)).el 0 d0.j).cap ≠ 0 := by omega
     refine hnew' (hname k) _ _ hfd'' ⟨d0.j, e4, hcap, ?_⟩
     rw [a1]
     simp only [Elt.loc, hb0]
     simp only [Addr.add]
     split <;> rfl
 obtain ⟨n1, n2⟩ := hnew 0 (by omega)
 rw [Nat.mul_zero, Nat.add_zero] at n1 n2
 have hfr : freshB d [] σ = true := by simp [freshB, frRefs, n1, n2]
 have hlt : ∀ m c q, Mem.find σ m = some c → Foot ρ m c q → q < w.heap.size := fun m c q hm hF => in_range (hmem m c hm) hF
 have add := (add_sound (d := d) (L := ρ'' m) (b := .rview [.rows k (hcons os' ds)]) hR hfr hk' (fun _ _ _ _ _ => rfl) ⟨by rw [upd_eq]; exact u1, by rw [upd_eq]; exact u2 _⟩ (fun q hq => hq.elim) (fun q hq m' c hm' hO => by
  have hq : FootL (upd ρ d (ρ'' m) d) [.rows k (hcons os' ds)] q := hq
  rw [upd_eq] at hq
  have := hfoot q hq
  have := hlt m' c q hm' hO.foot
  omega)).find_eq (find_ins n2)
 refine ⟨v, _, _, _, rfl, hK, ?_, add.mem, add.sep, fun n hh hn => upd_ne (by have := hn 0 (by omega); rw [Nat.mul_zero, Nat.add_zero] at this; exact this), fun n hn => .of_eq (upd_ne (by have := isHeap_le hn; omega)), fun n b q hn hO => ?_, hk', fun _ => ⟨hk, ins_old hfr, fun n hn => upd_ne (by have := isHeap_le hn; omega)⟩⟩
 ·show v = _
  rw [upd_eq]; exact hsr
 ·rcases add.own n b q hn hO with h | h
  ·exact Or.inr h
  ·exact Or.inl h
end
def tab {α : Type} (n : Nat) (g : Nat → α) : List α := (List.range n).map g
theorem tab_len {α : Type} (n : Nat) (g : Nat → α) : (tab n g).length = n := by simp [tab]
theorem tab_get? {α : Type} (n : Nat) (g : Nat → α) (i : Nat) : (tab n g)[i]? = if i < n then some (g i) else none := by
 simp only [tab, List.getElem?_map, List.getElem?_range]
 by_cases h : i < n
 ·simp [h, List.getElem?_range]
 ·simp [h]
theorem tab_llget {n i : Nat} (g : Nat → List Int) (h : i < n) : llget (tab n g) i = g i := by
 simp [llget, List.getD, tab_get?, h]
theorem tab_succ {α : Type} (n : Nat) (g : Nat → α) : tab (n + 1) g = tab n g ++ [g n] := by simp [tab, List.range_succ]
theorem nat_cast (n : Nat) : nat (n : Int) = n := rfl
theorem ofNat_def (a : Nat) : ofNat a = (a : Int) := rfl
theorem llen_def {α : Type} (l : List α) : llen l = l.length := rfl
theorem add1_i64 {a : Nat} (h : a < 9223372036854775807) : add .i64 (a : Int) 1 = ((a + 1 : Nat) : Int) := by
 rw [add_i64 (by omega) (by omega)]; omega
theorem addN_i64 {a b : Nat} (h : a + b < 9223372036854775808) : add .i64 (a : Int) (b : Int) = ((a + b : Nat) : Int) := by
 rw [add_i64 (by omega) (by omega)]; omega
theorem loop_up {S : Type} (L : Nat → Int → S → Prop) (n : Nat) (st : Nat → S) (hs : ∀ f i, i < n → L f ((i + 1 : Nat) : Int) (st (i + 1)) → L (f + 1) (i : Int) (st i)) (he : ∀ f, L (f + 1) (n : Int) (st n)) :
  ∀ i, i ≤ n → ∀ m, L (n - i + 1 + m) (i : Int) (st i) := by
 intro i hi m
 induction hk : n - i generalizing i with
 | zero =>
  obtain rfl : i = n := by omega
  rw [show 0 + 1 + m = m + 1 by omega]; exact he m
 | succ k ih =>
  rw [show k + 1 + 1 + m = (k + 1 + m) + 1 by omega]
  exact hs _ i (by omega) (ih (i + 1) (by omega) (by omega))
theorem loop_n {S : Type} (L : Nat → Int → S → Prop) (n : Nat) (st : Nat → S) (c f0 : Nat) (hs : ∀ g i, i < n → L g ((i + 1 : Nat) : Int) (st (i + 1)) → L (g + c) (i : Int) (st i)) (he : L f0 (n : Int) (st n)) :
  ∀ i, i ≤ n → L (f0 + c * (n - i)) (i : Int) (st i) := by
 intro i hi
 induction hk : n - i generalizing i with
 | zero =>
  obtain rfl : i = n := by omega
  exact he
 | succ k ih =>
  rw [Nat.mul_succ, ← Nat.add_assoc]
  exact hs _ i (by omega) (ih (i + 1) (by omega) (by omega))
theorem loop_ex {S : Type} (L : Nat → Int → S → Prop) (n : Nat) (st : Nat → S) (hs : ∀ g i, i < n → L g ((i + 1 : Nat) : Int) (st (i + 1)) → ∃ g', L g' (i : Int) (st i)) (he : ∃ g, L g (n : Int) (st n)) :
  ∀ i, i ≤ n → ∃ g, L g (i : Int) (st i) := by
 intro i hi
 induction hk : n - i generalizing i with
 | zero =>
  obtain rfl : i = n := by omega
  exact he
 | succ k ih =>
  obtain ⟨g, hg⟩ := ih (i + 1) (by omega) (by omega)
  exact hs g i (by omega) hg
def rtB (l : List Int) : Bool := Nat.ble 8 (llen l) && Nat.ble (llen l) 48
def partedS : Spec := ⟨0, false, fun _ args σ K => match args with
 | [.one (.el n 0 i)] => match Mem.find σ n, isHeap n with
  | some (.rview [.rows .u8 ll]), false => (rtB (llget ll i) = true → K (.tup [.g [.ints .u8 8 (lsub (llget ll i) 0 8)], .c (.esl n 0 i 8 (nsub (llen (llget ll i)) 8)), .c (.lit true)]) σ) ∧
    (rtB (llget ll i) = false → K (.tup [.g [.ints .u8 8 (lzeros 8)], .c (.con (.slice none 0 0)), .c (.lit false)]) σ)
  | _, _ => False
 | _ => False⟩
def gamD1 : Gam := ext gam0 24 partedS
inductive CanonH (σ : Mem) : Nat → List AV → List AV → Mem → Prop
 | nil (j : Nat) : CanonH σ j [] [] []
 | same {j : Nat} {x : AV} {xs ys : List AV} {τ : Mem} : (∀ m, x.refs m = true → isHeap m = true) → CanonH σ (j + 1) xs ys τ → CanonH σ j (x :: xs) (x :: ys) τ
 | row {j n : Nat} {xs ys : List AV} {τ : Mem} (cs : List Col) : Mem.cols σ n = some cs → CanonH σ (j + 1) xs ys τ → CanonH σ j (.one (.vec n) :: xs) (.one (.vec (200000 + j)) :: ys) ((200000 + j, .rview cs) :: τ)
 | glob {j g : Nat} {b : Blk} {xs ys : List AV} {τ : Mem} : Mem.find σ (gname g) = some b → (∀ m, segsRefs m b.segs = false) → CanonH σ j xs ys τ → CanonH σ j xs ys ((gname g, .view b.segs) :: τ)
def notHeap : Blk → Bool
 | .heap _ _ => false
 | _ => true
theorem canonH_sound {σ τ : Mem} {ρ : Rho} {w : World} (hm : MemRep ρ σ w) (hs : Sep ρ σ) : ∀ {j : Nat} {xs ys : List AV}, CanonH σ j xs ys τ → ∀ (vals : List Value), j + xs.length ≤ 1000 → xs.length = vals.length → (∀ (i : Nat) x v, xs[i]? = some x → vals[i]? = some v → SRep ρ x v) →
  ys.length = vals.length ∧ ∃ Ls : Nat → Loc, ∀ ρc : Rho, (∀ i, j ≤ i → i < j + xs.length → ρc (200000 + i) = Ls i) → (∀ g, ρc (gname g) = ρ (gname g)) → (∀ n, isHeap n = true → ρc n = ρ n) →
   (∀ (i : Nat) y v, ys[i]? = some y → vals[i]? = some v → SRep ρc y v) ∧ MemRep ρc τ w ∧ ∀ n b, Mem.find τ n = some b → isHeap n = false ∧ (∀ k, ¬ Out ρc n b k) ∧ ∀ k, Foot ρc n b k → ∃ m c, Mem.find σ m = some c ∧ notHeap c = true ∧ Foot ρ m c k := by
 intro j xs ys h
 induction h with
 | nil j => intro vals _ hl _; exact ⟨hl, fun _ => loc0, fun ρc _ _ _ => ⟨fun i y v hy => by simp at hy, fun n b hb => by simp [Mem.find] at hb, fun n b hb => by simp [Mem.find] at hb⟩⟩
 | @same j x xs ys τ hp _ ih =>
  intro vals hj hl hv
  cases vals with
  | nil => simp at hl
  | cons v vals =>
   obtain ⟨h1, Ls, h2⟩ := ih vals (by simp only [List.length_cons] at hj; omega) (by simpa using hl) (fun i x u hx hu => hv (i + 1) x u (by simpa using hx) (by simpa using hu))
   refine ⟨by simpa using h1, Ls, fun ρc hc hcg hch => ?_⟩
   obtain ⟨g1, g2⟩ := h2 ρc (fun i hi hlt => hc i (by omega) (by simp only [List.length_cons]; omega)) hcg hch
   refine ⟨fun i y u hy hu => ?_, g2⟩
   cases i with
   | zero => simp at hy hu; subst hy hu; exact (hv 0 x v rfl rfl).agree fun n hn => .of_eq (hch n (hp n hn))
   | succ i => exact g1 i y u (by simpa using hy) (by simpa using hu)
 | @row j n xs ys τ cs hcs _ ih =>
  intro vals hjl hl hv
  cases vals with
  | nil => simp at hl
  | cons v vals =>
   simp only [List.length_cons] at hjl
   obtain ⟨h1, Ls, h2⟩ := ih vals (by omega) (by simpa using hl) (fun i x u hx hu => hv (i + 1) x u (by simpa using hx) (by simpa using hu))
   have hR := reads_vec hm hs hcs (hv 0 _ v rfl rfl)
   obtain ⟨_, b0, hb0, hbb, hf⟩ := cols_sound hm hcs
   refine ⟨by simpa using h1, fun i => if i = j then ρ n else Ls i, fun ρc hc hcg hch => ?_⟩
   have hj : ρc (200000 + j) = ρ n := by have q := hc j (Nat.le_refl _) (by simp); simpa using q
   obtain ⟨g1, g2, g3⟩ := h2 ρc (fun i hi hlt => by rw [hc i (by omega) (by simp only [List.length_cons]; omega)]; show (if i = j then _ else Ls i) = Ls i; rw [if_neg (by omega)]) hcg hch
   refine ⟨fun i y u hy hu => ?_, fun m b hb => ?_, fun m b hb => ?_⟩
   ·cases i with
    | zero =>
     simp at hy hu
     subst hy hu
     show v = _
     rw [hj]; exact hR.val
    | succ i => exact g1 i y u (by simpa using hy) (by simpa using hu)
   ·simp only [Mem.find] at hb
    split at hb
    ·rename_i e; subst e; cases hb
     exact ⟨by rw [hj]; exact hR.rep, by rw [hj]; exact hR.lnk.heaps hch⟩
    ·exact g2 m b hb
   ·simp only [Mem.find] at hb
    split at hb
    ·rename_i e; subst e; cases hb
     refine ⟨isHeap_no (Or.inl (by omega)), fun k q => q, fun k hk => ⟨n, b0, hb0, by rcases hbb with rfl | rfl <;> rfl, hf k ?_⟩⟩
     have hk : FootL (ρc (200000 + j)) cs k := hk
     rw [hj] at hk; exact hk
    ·exact g3 m b hb
 | @glob j g b xs ys τ hn hp _ ih =>
  intro vals hj hl hv
  obtain ⟨h1, Ls, h2⟩ := ih vals hj hl hv
  refine ⟨h1, Ls, fun ρc hc hcg hch => ?_⟩
  obtain ⟨g1, g2, g3⟩ := h2 ρc hc hcg hch
  refine ⟨g1, fun m b' hb => ?_, fun m b' hb => ?_⟩
  ·simp only [Mem.find] at hb
   split at hb
   ·rename_i e; subst e; cases hb
    obtain ⟨q1, q2⟩ := (hm (gname g) b hn).cells
    refine ⟨q1, fun i a ha => ?_⟩
    obtain ⟨u, hu1, hu2⟩ := q2 i a ha
    refine ⟨u, by simp only [at_, hcg]; exact hu1, hu2.agree fun m hm' => ?_⟩
    have := flat_refs' (List.any_eq_true.2 ⟨a, List.mem_of_getElem? ha, hm'⟩)
    rw [hp m] at this; cases this
   ·exact g2 m b' hb
  ·simp only [Mem.find] at hb
   split at hb
   ·rename_i e; subst e; cases hb
    refine ⟨isHeap_gname g, fun k q => q, fun k hk => ⟨gname g, b, hn, ?_, ?_⟩⟩
    ·obtain ⟨hne, _⟩ := hk
     cases b <;> first | rfl | exact absurd rfl hne
    ·obtain ⟨hne, rfl⟩ := hk
     rw [hcg]
     cases b with
     | own T s => exact rfl
     | view s => exact ⟨hne, rfl⟩
     | vec cs => exact absurd rfl hne
     | rview cs => exact absurd rfl hne
     | heap q os => exact absurd rfl hne
     | map kk m => exact absurd rfl hne
   ·exact g3 m b' hb
section
variable {P : Program} {Γ : Gam} {D : Hints}
theorem Good.heap (hm : P.follows .mixedOrders = true) (hΓ : GoodG P Γ) {f : FuncId} {fn : Func} (hf : P.funcs[f]? = some fn) (hb : fn.body.isSome = true) {s : Spec} (hs : s.mods = true)
  (hsem : ∀ d args σ (K : AV → Mem → Prop), s.sem d args σ K → ∃ k os cargs τ τ', Mem.heap σ k = some os ∧ CanonH σ 0 args cargs τ ∧ args.length ≤ 1000 ∧ (∀ n, Mem.find τ' n = Mem.find ((hname k, .heap k os) :: τ) n) ∧ ∃ n, callsx P Γ D fn n cargs τ' fun av σ' => ∃ os' av', Mem.heap σ' k = some os' ∧ (∀ m, av'.refs m = true → m = hname k) ∧ (∀ ρ v, SRep ρ av v → SRep ρ av' v) ∧ K av' (σ.put (hname k) (.heap k os'))) : Good P f s := by
 refine ⟨fun d args σ K h ρ w vals hg hmem hsep hl hv hnew => ?_⟩
 obtain ⟨k, os, cargs, τ, τ', ho, hcan, hlen, hτ, n, hc⟩ := hsem d args σ K h
 obtain ⟨h1, Ls, h2⟩ := canonH_sound hmem hsep hcan vals.toList (by omega) (by simpa using hl) (fun i x v hx hu => hv i x v hx (by simpa using hu))
 generalize hρ0 : rhoC ρ Ls = ρc
 have hρc : ∀ i, 0 ≤ i → i < 0 + args.length → ρc (200000 + i) = Ls i := fun i _ hi => by rw [← hρ0, rhoC_arg (by omega)]
 have hgg : ∀ g, ρc (gname g) = ρ (gname g) := fun g => by rw [← hρ0]; exact rhoC_glob
 have hhh : ∀ n, isHeap n = true → ρc n = ρ n := fun n hn => by rw [← hρ0]; exact rhoC_heap hn
 obtain ⟨g1, g2, g3⟩ := h2 ρc hρc hgg hhh
 have hgc : Glob ρc := fun g => by rw [hgg]; exact hg g
 have hfd := heap_find ho
 have hhp := isHeap_hname k
 have hρk := hhh _ hhp
 obtain ⟨_, hH⟩ := hmem _ _ hfd
 have unf : ∀ {m b}, Mem.find τ' m = some b → (m = hname k ∧ b = .heap k os) ∨ (m ≠ hname k ∧ Mem.find τ m = some b) := by
  intro m b hb
  rw [hτ] at hb
  simp only [Mem.find] at hb
  split at hb
  ·rename_i e; cases hb; exact Or.inl ⟨e.symm, rfl⟩
  ·rename_i e; exact Or.inr ⟨Ne.symm e, hb⟩
 have hmemc : MemRep ρc τ' w := fun m b hb => by
  rcases unf hb with ⟨rfl, rfl⟩ | ⟨_, hb⟩
  ·exact ⟨hhp, by rw [hρk]; exact hH⟩
  ·exact g2 m b hb
 have hout : ∀ q, Out ρc (hname k) (.heap k os) q → HFoot (ρ (hname k)) q := fun q hq => by simpa only [Out, hρk] using hq
 have hsepc : Sep ρc τ' := by
  refine ⟨fun m m' b c q hb hc hne hO hF => ?_, fun m b q hb hO hI => ?_⟩
  ·rcases unf hb with ⟨rfl, rfl⟩ | ⟨_, hb⟩
   ·rcases unf hc with ⟨rfl, rfl⟩ | ⟨_, hc⟩
    ·exact hne rfl
    ·obtain ⟨m0, c0, h0, h0h, h0f⟩ := (g3 m' c hc).2.2 q hF
     exact hsep.1 _ m0 _ c0 q hfd h0 (fun e => by subst e; rw [hfd] at h0; cases h0; cases h0h) (hout q hO) h0f
   ·exact (g3 m b hb).2.1 q hO
  ·rcases unf hb with ⟨rfl, rfl⟩ | ⟨_, hb⟩
   ·exact hI
   ·exact (g3 m b hb).2.1 q hO
 refine (callsx_sound hm hΓ hf hb hc (ex := fun q => HFoot (ρ (hname k)) q) hgc (by simpa using h1) (fun i y v hy hu => g1 i y v hy (by simpa using hu)) hmemc hsepc (fun m b q hn hO => by
  rcases unf hn with ⟨rfl, rfl⟩ | ⟨_, hb⟩
  ·exact Or.inr (hout q hO)
  ·exact absurd hO ((g3 m b hb).2.1 q))).mono ?_
 rintro e w' ⟨v, av, σ'', ρ'', rfl, ⟨os', av', ho', hrefs, hav, hK⟩, hsr, hmem'', hsep'', hfix, hext, hown, hk⟩
 have hfd' := heap_find ho'
 obtain ⟨_, hH'⟩ := hmem'' _ _ hfd'
 let E : Env := ⟨w, ρ, OwnAt ρ σ, hg⟩
 let a : Act := { tmps := #[], defers := [] }
 have hk' : Keeps (OwnAt ρ σ) w w' := ⟨hk.os, hk.tape, hk.output, hk.size, fun q hq hx => hk.block q hq fun hF => hx ⟨hname k, _, hfd, hF⟩⟩
 have hR : Rep E ρ [] σ a w := ⟨⟨rfl, fun t v ht => by simp [a] at ht⟩, rfl, hmem, hsep, fun _ _ _ => rfl, fun _ _ => .refl _, fun n b q hn hO => Or.inr ⟨n, b, hn, hO⟩, Keeps.refl _ _⟩
 have hx : HExt (ρ (hname k)) (ρ'' (hname k)) := by have := hext _ hhp; rw [hρk] at this; exact this
 have grown := heap_grow (L' := ρ'' (hname k)) hR hhp hfd hx hH' hk' (fun m c q hm hmh hF => hk.block q (in_range (hmem m c hm) hF) fun hq => hsep.1 _ m _ c q hfd hm (Ne.symm hmh) hq hF) (fun q hq => by
  rcases hown _ _ q hfd' hq with h | h
  ·exact Or.inr ⟨Or.inl h, fun m c hm _ hF => by have := in_range (hmem m c hm) hF; omega⟩
  ·exact Or.inl h)
 refine ⟨v, av', _, _, rfl, hK, (hav _ _ hsr).agree fun m hm => ?_, grown.mem, grown.sep, fun m hm _ => upd_ne fun q => (by subst q; rw [hhp] at hm; cases hm), fun m _ => ext_upd hx m, fun m b q hm hO => ?_, hk', fun q => by rw [hs] at q; cases q⟩
 ·have e := hrefs m hm
  subst e; rw [upd_eq]; exact .refl _
 ·rcases grown.own m b q hm hO with h | h
  ·exact Or.inr h
  ·exact Or.inl h
end
def tot (c : Nat → Nat) : Nat → Nat → Nat
 | _, 0 => 0
 | i, m + 1 => c i + tot c (i + 1) m
theorem loop_inv {S : Type} (L : Nat → Int → S → Prop) (n : Nat) (Inv : Nat → S → Prop) (c : Nat → Nat) (f0 : Nat) (hs : ∀ g i s, i < n → Inv i s → (∀ s', Inv (i + 1) s' → L g ((i + 1 : Nat) : Int) s') → L (g + c i) (i : Int) s) (he : ∀ s, Inv n s → L f0 (n : Int) s) :
  ∀ m i s, i + m = n → Inv i s → L (f0 + tot c i m) (i : Int) s
 | 0, i, s, h, hi => by
  obtain rfl : i = n := by omega
  exact he s hi
 | m + 1, i, s, h, hi => by
  have := hs (f0 + tot c (i + 1) m) i s (by omega) hi fun s' h' => loop_inv L n Inv c f0 hs he m (i + 1) s' (by omega) h'
  rw [show f0 + tot c i (m + 1) = f0 + tot c (i + 1) m + c i by simp only [tot]; omega]
  exact this
theorem loop_inv_ex {S : Type} (L : Nat → Int → S → Prop) (n : Nat) (Inv : Nat → S → Prop) (c : Nat → Nat) (f0 : Nat) (hs : ∀ g i s, i < n → Inv i s → (∀ s', Inv (i + 1) s' → L g ((i + 1 : Nat) : Int) s') → L (g + c i) (i : Int) s) (he : ∀ s, Inv n s → L f0 (n : Int) s) :
  ∃ F, ∀ s, Inv 0 s → L F 0 s := ⟨f0 + tot c 0 n, fun s h => loop_inv L n Inv c f0 hs he n 0 s (by omega) h⟩
theorem mget_put {α : Type} {x y : List Int} {v : α} (d : α) : ∀ {l : List (List Int × α)}, mget d (mput l x v) y = if y = x then v else mget d l y
 | [] => by
  simp only [mput, mget]
  by_cases h : y = x
  ·rw [leq_eq.2 h, if_pos h]
  ·cases q : leq y x with
   | true => exact absurd (leq_eq.1 q) h
   | false => rw [if_neg h]
 | p :: r => by
  simp only [mput]
  cases hq : leq x p.1 with
  | true =>
   have hx := leq_eq.1 hq
   simp only [mget]
   cases q : leq y p.1 with
   | true => rw [if_pos ((leq_eq.1 q).trans hx.symm)]
   | false =>
    have : y ≠ x := fun e => by rw [e, hq] at q; cases q
    rw [if_neg this]
  | false =>
   have ih := mget_put (x := x) (y := y) (v := v) d (l := r)
   simp only [mget]
   cases q : leq y p.1 with
   | true =>
    have : y ≠ x := fun e => by rw [← e, q] at hq; cases hq
    simp only [if_neg this]
   | false => exact ih
theorem mhas_put {α : Type} {x y : List Int} {v : α} : ∀ {l : List (List Int × α)}, mhas (mput l x v) y = true ↔ (mhas l y = true ∨ y = x)
 | [] => by
  simp only [mput, mhas]
  cases q : leq y x with
  | true => simp [leq_eq.1 q]
  | false =>
   have : y ≠ x := fun e => by rw [leq_eq.2 e] at q; cases q
   simp [this]
 | p :: r => by
  simp only [mput]
  cases hq : leq x p.1 with
  | true =>
   have hx := leq_eq.1 hq
   simp only [mhas]
   cases q : leq y p.1 with
   | true => simp
   | false =>
    have : y ≠ x := fun e => by rw [e, hq] at q; cases q
    simp [this]
  | false =>
   simp only [mhas]
   cases q : leq y p.1 with
   | true => simp
   | false => simp only [mhas_put (l := r)]
theorem ment_put {α : Type} {d v : α} {x : List Int} : ∀ {l : List (List Int × α)}, mseti (ment d l x) (mix l x) v = mput l x v
 | [] => by simp [ment, mhas, mix, mseti, mput]
 | p :: r => by
  have ih := ment_put (d := d) (v := v) (x := x) (l := r)
  simp only [ment, mhas, mix, mput]
  cases hq : leq x p.1 with
  | true => simp [mseti]
  | false =>
   simp only
   unfold ment at ih
   cases h : mhas r x with
   | true => rw [h] at ih; simp only [mseti]; rw [ih]
   | false => rw [h] at ih; simp only [List.cons_append, mseti]; rw [ih]
theorem mix_lt {α : Type} {d : α} {x : List Int} : ∀ {l : List (List Int × α)}, mix l x < (ment d l x).length
 | [] => by simp [ment, mhas, mix]
 | p :: r => by
  have ih := mix_lt (d := d) (x := x) (l := r)
  simp only [ment, mhas, mix]
  cases hq : leq x p.1 with
  | true => simp
  | false =>
   simp only
   unfold ment at ih
   cases h : mhas r x with
   | true => rw [h] at ih; simp only [List.length_cons] at ih ⊢; omega
   | false => rw [h] at ih; simp only [List.length_append, List.length_cons, List.length_nil] at ih ⊢; omega
theorem mget_no {α : Type} {d : α} {x : List Int} {l : List (List Int × α)} (h : mhas l x = false) : mget d l x = d := by
 have : mat l x = none := by
  cases hq : mat l x with
  | none => rfl
  | some i => obtain ⟨_, _, _, g, _⟩ := mat_hit hq; rw [h] at g; cases g
 exact (mat_miss this).2.1 d
def nmL (p : List Int) : List Int := lsub p 0 8
def atD (ll : List (List Int)) (x : List Int) (k : Nat) : Bool := rtB (llget ll k) && leq (nmL (llget ll k)) x
def idxL (ll : List (List Int)) (x : List Int) (t : Nat) : List Int := ((List.range t).filter (atD ll x)).map fun k : Nat => (k : Int)
theorem idx_succ {ll : List (List Int)} {x : List Int} {t : Nat} : idxL ll x (t + 1) = if atD ll x t = true then idxL ll x t ++ [(t : Int)] else idxL ll x t := by
 unfold idxL
 rw [List.range_succ, List.filter_append, List.map_append]
 cases h : atD ll x t with
 | true => simp [h]
 | false => simp [h]
theorem idx_mem {ll : List (List Int)} {x : List Int} {t : Nat} {v : Int} : v ∈ idxL ll x t ↔ ∃ k : Nat, v = (k : Int) ∧ k < t ∧ atD ll x k = true := by
 unfold idxL
 rw [List.mem_map]
 constructor
 ·rintro ⟨k, hk, rfl⟩
  rw [List.mem_filter, List.mem_range] at hk
  exact ⟨k, rfl, hk.1, hk.2⟩
 ·rintro ⟨k, rfl, h1, h2⟩
  exact ⟨k, List.mem_filter.2 ⟨List.mem_range.2 h1, h2⟩, rfl⟩
def exch1 (ll : List (List Int)) (i : Nat) : List Int :=
 if rtB (llget ll i) = true then
  (if (idxL ll (nmL (llget ll i)) ll.length).length = 1 then [0]
  else if (idxL ll (nmL (llget ll i)) ll.length).length = 2 then
   1 :: lsub (llget ll (nat (lget (idxL ll (nmL (llget ll i)) ll.length) 0 + lget (idxL ll (nmL (llget ll i)) ll.length) 1 - (i : Int)))) 8 (nsub (llen (llget ll (nat (lget (idxL ll (nmL (llget ll i)) ll.length) 0 + lget (idxL ll (nmL (llget ll i)) ll.length) 1 - (i : Int))))) 8)
  else [2])
 else [3]
def exchL (ll : List (List Int)) : List (List Int) := tab ll.length (exch1 ll)
structure DI (ll : List (List Int)) (t : Nat) (mp : List (List Int × HS)) (os : List (List Int)) : Prop where
 z : 0 < os.length
 has : ∀ x, mhas mp x = true ↔ idxL ll x t ≠ []
 ent : ∀ x, mhas mp x = true → (mget hs0 mp x).j ≠ 0 ∧ (mget hs0 mp x).j < os.length ∧ (mget hs0 mp x).off + (mget hs0 mp x).len ≤ (llget os (mget hs0 mp x).j).length ∧ lsub (llget os (mget hs0 mp x).j) (mget hs0 mp x).off (mget hs0 mp x).len = idxL ll x t
 ne : ∀ x y, mhas mp x = true → mhas mp y = true → x ≠ y → (mget hs0 mp x).j ≠ (mget hs0 mp y).j
theorem DI.start (ll : List (List Int)) : DI ll 0 [] [[]] :=
 ⟨by simp, fun x => by simp [mhas, idxL], fun x h => by simp [mhas] at h, fun x y h => by simp [mhas] at h⟩
theorem DI.len {ll : List (List Int)} {t : Nat} {mp : List (List Int × HS)} {os : List (List Int)} (h : DI ll t mp os) (x : List Int) : (mget hs0 mp x).len = (idxL ll x t).length := by
 cases q : mhas mp x with
 | true =>
  obtain ⟨_, _, g3, g4⟩ := h.ent x q
  rw [← g4, lsub_len _ _ _ g3]
 | false =>
  rw [mget_no q]
  have : idxL ll x t = [] := Classical.byContradiction fun e => by rw [(h.has x).2 e] at q; cases q
  rw [this]; rfl
theorem DI.get {ll : List (List Int)} {t : Nat} {mp : List (List Int × HS)} {os : List (List Int)} (h : DI ll t mp os) {x : List Int} {k : Nat} (hk : k < (idxL ll x t).length) : lget (llget os (mget hs0 mp x).j) ((mget hs0 mp x).off + k) = lget (idxL ll x t) k := by
 have hx : mhas mp x = true := (h.has x).2 fun e => by rw [e] at hk; simp at hk
 obtain ⟨_, _, g3, g4⟩ := h.ent x hx
 have hl := h.len x
 rw [← g4]
 unfold lget
 rw [getD_lsub _ _ _ _ _ (by omega)]
theorem DI.skip {ll : List (List Int)} {t : Nat} {mp : List (List Int × HS)} {os : List (List Int)} (h : DI ll t mp os) (hr : rtB (llget ll t) = false) : DI ll (t + 1) mp os := by
 have e : ∀ x, idxL ll x (t + 1) = idxL ll x t := fun x => by rw [idx_succ, if_neg]; simp [atD, hr]
 exact ⟨h.z, fun x => by rw [e]; exact h.has x, fun x hx => by rw [e]; exact h.ent x hx, h.ne⟩
theorem lput_end {l : List Int} {off len : Nat} {v : Int} (h : off + len ≤ l.length) : lsub (lput l (off + len) [v]) off (len + 1) = lsub l off len ++ [v] := by
 unfold lput lsub
 apply List.ext_getElem?
 intro j
 simp only [List.length_cons, List.length_nil, Nat.zero_add, List.getElem?_take, List.getElem?_drop, List.getElem?_append, List.length_append, List.length_take, List.length_drop, Nat.min_eq_left h]
 by_cases h1 : j < len
 ·rw [if_pos (by omega), if_pos (by omega), if_pos (by omega), if_pos (by omega), if_pos (by omega), if_pos (by omega)]
 ·by_cases h2 : j = len
  ·subst h2
   rw [if_pos (by omega), if_pos (by omega), if_neg (by omega), if_neg (by omega)]
   rw [show off + j - (off + j) = 0 by omega, show j - min j (l.length - off) = 0 by omega]
  ·rw [if_neg (by omega), if_neg (by omega)]
   rw [List.getElem?_eq_none (by simp; omega)]
theorem DI.step {ll : List (List Int)} {t : Nat} {mp : List (List Int × HS)} {os os' : List (List Int)} {j' off' : Nat} (h : DI ll t mp os) (hr : rtB (llget ll t) = true)
  (hA : AppR os (mget hs0 mp (nmL (llget ll t))).j (mget hs0 mp (nmL (llget ll t))).off (mget hs0 mp (nmL (llget ll t))).len [(t : Int)] os' j' off') :
  DI ll (t + 1) (mput mp (nmL (llget ll t)) ⟨j', off', (mget hs0 mp (nmL (llget ll t))).len + 1⟩) os' := by
 generalize hx : nmL (llget ll t) = x at hA ⊢
 have hat : ∀ y, atD ll y t = true ↔ y = x := fun y => by
  simp only [atD, hr, Bool.true_and, leq_eq, hx]
  exact eq_comm
 have e1 : idxL ll x (t + 1) = idxL ll x t ++ [(t : Int)] := by rw [idx_succ, if_pos ((hat x).2 rfl)]
 have e2 : ∀ y, y ≠ x → idxL ll y (t + 1) = idxL ll y t := fun y hy => by rw [idx_succ, if_neg fun q => hy ((hat y).1 q)]
 have hhas : ∀ y, mhas (mput mp x ⟨j', off', (mget hs0 mp x).len + 1⟩) y = true ↔ idxL ll y (t + 1) ≠ [] := fun y => by
  rw [mhas_put]
  by_cases q : y = x
  ·subst q; rw [e1]; simp
  ·rw [e2 y q, h.has y]; simp [q]
 cases hA with
 | here hj =>
  have hj := hj (by simp)
  have hm : mhas mp x = true := by
   cases q : mhas mp x with
   | true => rfl
   | false => rw [mget_no q] at hj; exact absurd rfl hj
  obtain ⟨g1, g2, g3, g4⟩ := h.ent x hm
  have other : ∀ y, y ≠ x → mhas mp y = true → llget (llset os (mget hs0 mp x).j (lput (llget os (mget hs0 mp x).j) ((mget hs0 mp x).off + (mget hs0 mp x).len) [(t : Int)])) (mget hs0 mp y).j = llget os (mget hs0 mp y).j := fun y hy hmy => by
   rw [llset_get _ _ _ _ g2, if_neg (h.ne y x hmy hm hy)]
  refine ⟨by simpa [llset] using h.z, hhas, fun y hy => ?_, fun y z hy hz hyz => ?_⟩
  ·rw [mget_put]
   by_cases q : y = x
   ·subst q
    rw [if_pos rfl]
    refine ⟨g1, by simpa [llset] using g2, ?_, ?_⟩
    ·show _ + (_ + 1) ≤ (llget _ _).length
     rw [llset_get _ _ _ _ g2, if_pos rfl]
     simp only [lput, List.length_append, List.length_take, List.length_drop, List.length_cons, List.length_nil]
     omega
    ·show lsub (llget _ _) _ _ = _
     rw [llset_get _ _ _ _ g2, if_pos rfl, lput_end g3, g4, e1]
   ·rw [if_neg q]
    have hmy : mhas mp y = true := by
     rcases mhas_put.1 hy with k | k
     ·exact k
     ·exact absurd k q
    obtain ⟨k1, k2, k3, k4⟩ := h.ent y hmy
    rw [other y q hmy, e2 y q]
    exact ⟨k1, by simpa [llset] using k2, k3, k4⟩
  ·rw [mget_put, mget_put]
   have old : ∀ y, mhas (mput mp x ⟨(mget hs0 mp x).j, (mget hs0 mp x).off, (mget hs0 mp x).len + 1⟩) y = true → mhas mp y = true := fun y hy => by
    rcases mhas_put.1 hy with k | k
    ·exact k
    ·rw [k]; exact hm
   by_cases q : y = x
   ·subst q
    rw [if_pos rfl, if_neg (Ne.symm hyz)]
    exact h.ne y z hm (old z hz) hyz
   ·rw [if_neg q]
    by_cases q2 : z = x
    ·subst q2
     rw [if_pos rfl]
     exact h.ne y z (old y hy) hm hyz
    ·rw [if_neg q2]; exact h.ne y z (old y hy) (old z hz) hyz
 | new =>
  have hlen := h.len x
  have hcon : lsub (llget os (mget hs0 mp x).j) (mget hs0 mp x).off (mget hs0 mp x).len = idxL ll x t := by
   cases q : mhas mp x with
   | true => exact (h.ent x q).2.2.2
   | false =>
    have : idxL ll x t = [] := Classical.byContradiction fun e => by rw [(h.has x).2 e] at q; cases q
    rw [this, mget_no q]; simp [lsub, hs0]
  have old : ∀ y, y ≠ x → mhas (mput mp x ⟨os.length, 0, (mget hs0 mp x).len + 1⟩) y = true → mhas mp y = true := fun y hyx hy => by
   rcases mhas_put.1 hy with k | k
   ·exact k
   ·exact absurd k hyx
  have gold : ∀ j, j < os.length → llget (os ++ [lsub (llget os (mget hs0 mp x).j) (mget hs0 mp x).off (mget hs0 mp x).len ++ [(t : Int)]]) j = llget os j := fun j hj => by
   simp only [llget, List.getD]; rw [List.getElem?_append_left hj]
  have gnew : llget (os ++ [lsub (llget os (mget hs0 mp x).j) (mget hs0 mp x).off (mget hs0 mp x).len ++ [(t : Int)]]) os.length = idxL ll x (t + 1) := by
   rw [hcon, ← e1]
   simp only [llget, List.getD]; rw [List.getElem?_append_right (Nat.le_refl _), Nat.sub_self]; rfl
  have hz := h.z
  refine ⟨by simp, hhas, fun y hy => ?_, fun y z hy hz' hyz => ?_⟩
  ·rw [mget_put]
   by_cases q : y = x
   ·subst q
    rw [if_pos rfl]
    refine ⟨by show os.length ≠ 0; omega, by simp, ?_, ?_⟩
    ·show 0 + (_ + 1) ≤ (llget _ os.length).length
     rw [gnew, e1]; simp; omega
    ·show lsub (llget _ os.length) 0 _ = _
     rw [gnew, hlen, e1, lsub, List.drop_zero, List.take_of_length_le (by simp)]
   ·rw [if_neg q]
    obtain ⟨k1, k2, k3, k4⟩ := h.ent y (old y q hy)
    rw [gold _ k2, e2 y q]
    exact ⟨k1, by simp; omega, k3, k4⟩
  ·rw [mget_put, mget_put]
   by_cases q : y = x
   ·subst q
    rw [if_pos rfl, if_neg (Ne.symm hyz)]
    have := (h.ent z (old z (Ne.symm hyz) hz')).2.1
    show os.length ≠ _
    omega
   ·rw [if_neg q]
    by_cases q2 : z = x
    ·subst q2
     rw [if_pos rfl]
     have := (h.ent y (old y q hy)).2.1
     show _ ≠ os.length
     omega
    ·rw [if_neg q2]; exact h.ne y z (old y q hy) (old z q2 hz') hyz
end Go.Sx
namespace Go.Proofs.Ytnpfockaigegiaa.G
open Go Go.Sx Go.Sx
set_option maxRecDepth 100000
theorem parted_vc (R : AV → Mem → Prop) (fuel : Nat) (ll : List (List Int)) (i : Nat) : callsx Try.prog gam0 [] Try.f24 (fuel + 1) [.one (.el 200000 0 i)] [(200000, .rview [.rows .u8 ll])] R = (((((ilt (ofNat (llen (llget ll i))) 8) = false) → ((((igt (ofNat (llen (llget ll i))) 48) = true) → (R (AV.tup [(TV.g [(Seg.ints IntKind.u8 8 (lzeros 8))]), (TV.c (AC.con (Value.slice (Option.none) 0 0))), (TV.c (AC.lit false))]) [(2, Blk.own 35 [(Seg.ints IntKind.u8 8 (lzeros 8))]), (200000, Blk.rview [(Col.rows IntKind.u8 ll)])])) ∧ (((igt (ofNat (llen (llget ll i))) 48) = false) → ((Fits 8 (llen (llget ll i))) ∧ ((Fits 8 (llen (llget ll i))) ∧ (((NonNeg 8) ∧ (Fits 8 (llen (llget ll i)))) ∧ (R (AV.tup [(TV.g [(Seg.ints IntKind.u8 8 (lsub (llget ll i) 0 8))]), (TV.c (AC.esl 200000 0 i 8 (nsub (llen (llget ll i)) 8))), (TV.c (AC.lit true))]) [(2, Blk.own 35 [(Seg.ints IntKind.u8 8 (lsub (llget ll i) 0 8))]), (200000, Blk.rview [(Col.rows IntKind.u8 ll)])]))))))) ∧ (((ilt (ofNat (llen (llget ll i))) 8) = true) → (R (AV.tup [(TV.g [(Seg.ints IntKind.u8 8 (lzeros 8))]), (TV.c (AC.con (Value.slice (Option.none) 0 0))), (TV.c (AC.lit false))]) [(2, Blk.own 35 [(Seg.ints IntKind.u8 8 (lzeros 8))]), (200000, Blk.rview [(Col.rows IntKind.u8 ll)])])))) := by kernel_rfl
end Go.Proofs.Ytnpfockaigegiaa.G
