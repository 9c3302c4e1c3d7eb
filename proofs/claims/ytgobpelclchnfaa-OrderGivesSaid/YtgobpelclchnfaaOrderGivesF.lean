import Derived.Test.YtgobpelclchnfaaOrderGivesE
set_option linter.unusedSimpArgs false
set_option linter.unusedVariables false
namespace Go.Sx
open Go
inductive CanonH (σ : Mem) : Nat → List AV → List AV → Mem → Prop
 | nil (j : Nat) : CanonH σ j [] [] []
 | same {j : Nat} {x : AV} {xs ys : List AV} {τ : Mem} : (∀ m, x.refs m = true → isHeap m = true) → CanonH σ (j + 1) xs ys τ → CanonH σ j (x :: xs) (x :: ys) τ
 | row {j n : Nat} {xs ys : List AV} {τ : Mem} (cs : List Col) : Mem.cols σ n = some cs → CanonH σ (j + 1) xs ys τ → CanonH σ j (.one (.vec n) :: xs) (.one (.vec (200000 + j)) :: ys) ((200000 + j, .rview cs) :: τ)
 | glob {j g : Nat} {b : Blk} {xs ys : List AV} {τ : Mem} : Mem.find σ (gname g) = some b → (∀ m, segsRefs m b.segs = false) → CanonH σ j xs ys τ → CanonH σ j xs ys ((gname g, .view b.segs) :: τ)
def notHeap : Blk → Bool
 | .heap _ _ => false
 | _ => true
theorem canonH_sound {σ τ : Mem} {ρ : Rho} {w : World} (hm : MemRep ρ σ w) (hs : Sep ρ σ) : ∀ {j : Nat} {xs ys : List AV}, CanonH σ j xs ys τ → ∀ (vals : List Value), j + xs.length ≤ 1000 → xs.length = vals.length → (∀ (i : Nat) x v, xs[i]? = some x → vals[i]? = some v → SRep ρ x v) →
  ys.length = vals.length ∧ ∃ Ls : Nat → Loc, ∀ ρc : Rho, (∀ i, j ≤ i → i < j + xs.length → ρc (200000 + i) = Ls i) → (∀ g, ρc (gname g) = ρ (gname g)) → (∀ n, isHeap n = true → ρc n = ρ n) →
   (∀ (i : Nat) y v, ys[i]? = some y → vals[i]? = some v → SRep ρc y v) ∧ MemRep ρc τ w ∧ ∀ n b, Mem.find τ n = some b → isHeap n = false ∧ (∀ k, ¬ Out ρc n b k) ∧ ∀ k, Foot ρc n b k → ∃ m c, Mem.find σ m = some c ∧ notHeap c = true ∧ Foot ρ m c k := by
 intro j xs ys h
 induction h with
 | nil j => intro vals _ hl _; exact ⟨hl, fun _ => loc0, fun ρc _ _ _ => ⟨fun i y v hy => by simp at hy, fun n b hb => by simp [Mem.find] at hb, fun n b hb => by simp [Mem.find] at hb⟩⟩
 | @same j x xs ys τ hp _ ih =>
  intro vals hj hl hv
  cases vals with
  | nil => simp at hl
  | cons v vals =>
   obtain ⟨h1, Ls, h2⟩ := ih vals (by simp only [List.length_cons] at hj; omega) (by simpa using hl) (fun i x u hx hu => hv (i + 1) x u (by simpa using hx) (by simpa using hu))
   refine ⟨by simpa using h1, Ls, fun ρc hc hcg hch => ?_⟩
   obtain ⟨g1, g2⟩ := h2 ρc (fun i hi hlt => hc i (by omega) (by simp only [List.length_cons]; omega)) hcg hch
   refine ⟨fun i y u hy hu => ?_, g2⟩
   cases i with
   | zero => simp at hy hu; subst hy hu; exact (hv 0 x v rfl rfl).agree fun n hn => .of_eq (hch n (hp n hn))
   | succ i => exact g1 i y u (by simpa using hy) (by simpa using hu)
 | @row j n xs ys τ cs hcs _ ih =>
  intro vals hjl hl hv
  cases vals with
  | nil => simp at hl
  | cons v vals =>
   simp only [List.length_cons] at hjl
   obtain ⟨h1, Ls, h2⟩ := ih vals (by omega) (by simpa using hl) (fun i x u hx hu => hv (i + 1) x u (by simpa using hx) (by simpa using hu))
   have hR := reads_vec hm hs hcs (hv 0 _ v rfl rfl)
   obtain ⟨_, b0, hb0, hbb, hf⟩ := cols_sound hm hcs
   refine ⟨by simpa using h1, fun i => if i = j then ρ n else Ls i, fun ρc hc hcg hch => ?_⟩
   have hj : ρc (200000 + j) = ρ n := by have q := hc j (Nat.le_refl _) (by simp); simpa using q
   obtain ⟨g1, g2, g3⟩ := h2 ρc (fun i hi hlt => by rw [hc i (by omega) (by simp only [List.length_cons]; omega)]; show (if i = j then _ else Ls i) = Ls i; rw [if_neg (by omega)]) hcg hch
   refine ⟨fun i y u hy hu => ?_, fun m b hb => ?_, fun m b hb => ?_⟩
   ·cases i with
    | zero =>
     simp at hy hu
     subst hy hu
     show v = _
     rw [hj]; exact hR.val
    | succ i => exact g1 i y u (by simpa using hy) (by simpa using hu)
   ·simp only [Mem.find] at hb
    split at hb
    ·rename_i e; subst e; cases hb
     exact ⟨by rw [hj]; exact hR.rep, by rw [hj]; exact hR.lnk.heaps hch⟩
    ·exact g2 m b hb
   ·simp only [Mem.find] at hb
    split at hb
    ·rename_i e; subst e; cases hb
     refine ⟨isHeap_no (Or.inl (by omega)), fun k q => q, fun k hk => ⟨n, b0, hb0, by rcases hbb with rfl | rfl <;> rfl, hf k ?_⟩⟩
     have hk : FootL (ρc (200000 + j)) cs k := hk
     rw [hj] at hk; exact hk
    ·exact g3 m b hb
 | @glob j g b xs ys τ hn hp _ ih =>
  intro vals hj hl hv
  obtain ⟨h1, Ls, h2⟩ := ih vals hj hl hv
  refine ⟨h1, Ls, fun ρc hc hcg hch => ?_⟩
  obtain ⟨g1, g2, g3⟩ := h2 ρc hc hcg hch
  refine ⟨g1, fun m b' hb => ?_, fun m b' hb => ?_⟩
  ·simp only [Mem.find] at hb
   split at hb
   ·rename_i e; subst e; cases hb
    obtain ⟨q1, q2⟩ := (hm (gname g) b hn).cells
    refine ⟨q1, fun i a ha => ?_⟩
    obtain ⟨u, hu1, hu2⟩ := q2 i a ha
    refine ⟨u, by simp only [at_, hcg]; exact hu1, hu2.agree fun m hm' => ?_⟩
    have := flat_refs' (List.any_eq_true.2 ⟨a, List.mem_of_getElem? ha, hm'⟩)
    rw [hp m] at this; cases this
   ·exact g2 m b' hb
  ·simp only [Mem.find] at hb
   split at hb
   ·rename_i e; subst e; cases hb
    refine ⟨isHeap_gname g, fun k q => q, fun k hk => ⟨gname g, b, hn, ?_, ?_⟩⟩
    ·obtain ⟨hne, _⟩ := hk
     cases b <;> first | rfl | exact absurd rfl hne
    ·obtain ⟨hne, rfl⟩ := hk
     rw [hcg]
     cases b with
     | own T s => exact rfl
     | view s => exact ⟨hne, rfl⟩
     | vec cs => exact absurd rfl hne
     | rview cs => exact absurd rfl hne
     | heap q os => exact absurd rfl hne
     | map kk m => exact absurd rfl hne
   ·exact g3 m b' hb
section
variable {P : Program} {Γ : Gam} {D : Hints}
theorem Good.heap (hm : P.follows .mixedOrders = true) (hΓ : GoodG P Γ) {f : FuncId} {fn : Func} (hf : P.funcs[f]? = some fn) (hb : fn.body.isSome = true) {s : Spec} (hs : s.mods = true)
  (hsem : ∀ d args σ (K : AV → Mem → Prop), s.sem d args σ K → ∃ k os cargs τ τ', Mem.heap σ k = some os ∧ CanonH σ 0 args cargs τ ∧ args.length ≤ 1000 ∧ (∀ n, Mem.find τ' n = Mem.find ((hname k, .heap k os) :: τ) n) ∧ ∃ n, callsx P Γ D fn n cargs τ' fun av σ' => ∃ os' av', Mem.heap σ' k = some os' ∧ (∀ m, av'.refs m = true → m = hname k) ∧ (∀ ρ v, SRep ρ av v → SRep ρ av' v) ∧ K av' (σ.put (hname k) (.heap k os'))) : Good P f s := by
 refine ⟨fun d args σ K h ρ w vals hg hmem hsep hl hv hnew => ?_⟩
 obtain ⟨k, os, cargs, τ, τ', ho, hcan, hlen, hτ, n, hc⟩ := hsem d args σ K h
 obtain ⟨h1, Ls, h2⟩ := canonH_sound hmem hsep hcan vals.toList (by omega) (by simpa using hl) (fun i x v hx hu => hv i x v hx (by simpa using hu))
 generalize hρ0 : rhoC ρ Ls = ρc
 have hρc : ∀ i, 0 ≤ i → i < 0 + args.length → ρc (200000 + i) = Ls i := fun i _ hi => by rw [← hρ0, rhoC_arg (by omega)]
 have hgg : ∀ g, ρc (gname g) = ρ (gname g) := fun g => by rw [← hρ0]; exact rhoC_glob
 have hhh : ∀ n, isHeap n = true → ρc n = ρ n := fun n hn => by rw [← hρ0]; exact rhoC_heap hn
 obtain ⟨g1, g2, g3⟩ := h2 ρc hρc hgg hhh
 have hgc : Glob ρc := fun g => by rw [hgg]; exact hg g
 have hfd := heap_find ho
 have hhp := isHeap_hname k
 have hρk := hhh _ hhp
 obtain ⟨_, hH⟩ := hmem _ _ hfd
 have unf : ∀ {m b}, Mem.find τ' m = some b → (m = hname k ∧ b = .heap k os) ∨ (m ≠ hname k ∧ Mem.find τ m = some b) := by
  intro m b hb
  rw [hτ] at hb
  simp only [Mem.find] at hb
  split at hb
  ·rename_i e; cases hb; exact Or.inl ⟨e.symm, rfl⟩
  ·rename_i e; exact Or.inr ⟨Ne.symm e, hb⟩
 have hmemc : MemRep ρc τ' w := fun m b hb => by
  rcases unf hb with ⟨rfl, rfl⟩ | ⟨_, hb⟩
  ·exact ⟨hhp, by rw [hρk]; exact hH⟩
  ·exact g2 m b hb
 have hout : ∀ q, Out ρc (hname k) (.heap k os) q → HFoot (ρ (hname k)) q := fun q hq => by simpa only [Out, hρk] using hq
 have hsepc : Sep ρc τ' := by
  refine ⟨fun m m' b c q hb hc hne hO hF => ?_, fun m b q hb hO hI => ?_⟩
  ·rcases unf hb with ⟨rfl, rfl⟩ | ⟨_, hb⟩
   ·rcases unf hc with ⟨rfl, rfl⟩ | ⟨_, hc⟩
    ·exact hne rfl
    ·obtain ⟨m0, c0, h0, h0h, h0f⟩ := (g3 m' c hc).2.2 q hF
     exact hsep.1 _ m0 _ c0 q hfd h0 (fun e => by subst e; rw [hfd] at h0; cases h0; cases h0h) (hout q hO) h0f
   ·exact (g3 m b hb).2.1 q hO
  ·rcases unf hb with ⟨rfl, rfl⟩ | ⟨_, hb⟩
   ·exact hI
   ·exact (g3 m b hb).2.1 q hO
 refine (callsx_sound hm hΓ hf hb hc (ex := fun q => HFoot (ρ (hname k)) q) hgc (by simpa using h1) (fun i y v hy hu => g1 i y v hy (by simpa using hu)) hmemc hsepc (fun m b q hn hO => by
  rcases unf hn with ⟨rfl, rfl⟩ | ⟨_, hb⟩
  ·exact Or.inr (hout q hO)
  ·exact absurd hO ((g3 m b hb).2.1 q))).mono ?_
 rintro e w' ⟨v, av, σ'', ρ'', rfl, ⟨os', av', ho', hrefs, hav, hK⟩, hsr, hmem'', hsep'', hfix, hext, hown, hk⟩
 have hfd' := heap_find ho'
 obtain ⟨_, hH'⟩ := hmem'' _ _ hfd'
 let E : Env := ⟨w, ρ, OwnAt ρ σ, hg⟩
 let a : Act := { tmps := #[], defers := [] }
 have hk' : Keeps (OwnAt ρ σ) w w' := ⟨hk.os, hk.tape, hk.output, hk.size, fun q hq hx => hk.block q hq fun hF => hx ⟨hname k, _, hfd, hF⟩⟩
 have hR : Rep E ρ [] σ a w := ⟨⟨rfl, fun t v ht => by simp [a] at ht⟩, rfl, hmem, hsep, fun _ _ _ => rfl, fun _ _ => .refl _, fun n b q hn hO => Or.inr ⟨n, b, hn, hO⟩, Keeps.refl _ _⟩
 have hx : HExt (ρ (hname k)) (ρ'' (hname k)) := by have := hext _ hhp; rw [hρk] at this; exact this
 have grown := heap_grow (L' := ρ'' (hname k)) hR hhp hfd hx hH' hk' (fun m c q hm hmh hF => hk.block q (in_range (hmem m c hm) hF) fun hq => hsep.1 _ m _ c q hfd hm (Ne.symm hmh) hq hF) (fun q hq => by
  rcases hown _ _ q hfd' hq with h | h
  ·exact Or.inr ⟨Or.inl h, fun m c hm _ hF => by have := in_range (hmem m c hm) hF; omega⟩
  ·exact Or.inl h)
 refine ⟨v, av', _, _, rfl, hK, (hav _ _ hsr).agree fun m hm => ?_, grown.mem, grown.sep, fun m hm _ => upd_ne fun q => (by subst q; rw [hhp] at hm; cases hm), fun m _ => ext_upd hx m, fun m b q hm hO => ?_, hk', fun q => by rw [hs] at q; cases q⟩
 ·have e := hrefs m hm
  subst e; rw [upd_eq]; exact .refl _
 ·rcases grown.own m b q hm hO with h | h
  ·exact Or.inr h
  ·exact Or.inl h
end
theorem mhas_iff {α : Type} {x : List Int} : ∀ {l : List (List Int × α)}, mhas l x = true ↔ x ∈ l.map (·.1)
 | [] => by simp [mhas]
 | p :: r => by
  simp only [mhas, List.map_cons, List.mem_cons]
  cases hq : leq x p.1 with
  | true => simp [leq_eq.1 hq]
  | false =>
   have : x ≠ p.1 := fun e => by rw [leq_eq.2 e] at hq; cases hq
   simp [mhas_iff (l := r), this]
theorem mdel_keys {α : Type} {x : List Int} : ∀ {l : List (List Int × α)}, (mdel l x).map (·.1) = (l.map (·.1)).erase x
 | [] => by simp [mdel]
 | p :: r => by
  simp only [mdel, List.map_cons, List.erase_cons]
  cases hq : leq x p.1 with
  | true => simp [leq_eq.1 hq]
  | false =>
   have : ¬ p.1 = x := fun e => by rw [leq_eq.2 e.symm] at hq; cases hq
   simp [mdel_keys (l := r), this]
theorem mdel_get {α : Type} {x y : List Int} (d : α) (h : y ≠ x) : ∀ {l : List (List Int × α)}, mget d (mdel l x) y = mget d l y
 | [] => rfl
 | p :: r => by
  simp only [mdel]
  cases hq : leq x p.1 with
  | true =>
   have : leq y p.1 = false := by
    cases q : leq y p.1 with
    | false => rfl
    | true => exact absurd ((leq_eq.1 q).trans (leq_eq.1 hq).symm) h
   simp [mget, this]
  | false => simp only [mget, mdel_get d h (l := r)]
theorem mget_app {α : Type} {x y : List Int} {v : α} (d : α) : ∀ {l : List (List Int × α)}, mhas l x = false → mget d (l ++ [(x, v)]) y = if y = x then v else mget d l y
 | [], _ => by
  simp only [List.nil_append, mget]
  by_cases h : y = x
  ·rw [leq_eq.2 h, if_pos h]
  ·cases q : leq y x with
   | true => exact absurd (leq_eq.1 q) h
   | false => rw [if_neg h]
 | p :: r, hx => by
  simp only [mhas] at hx
  cases hq : leq x p.1 with
  | true => rw [hq] at hx; cases hx
  | false =>
   rw [hq] at hx
   simp only [List.cons_append, mget, mget_app d (l := r) hx]
   cases q : leq y p.1 with
   | true =>
    have : y ≠ x := fun e => by rw [← e, q] at hq; cases hq
    simp [this]
   | false => rfl
theorem mput_new {α : Type} {x : List Int} {v : α} {l : List (List Int × α)} (h : mhas l x = false) : mput l x v = l ++ [(x, v)] := by
 have : mat l x = none := by
  cases hq : mat l x with
  | none => rfl
  | some i => obtain ⟨_, _, _, g, _⟩ := mat_hit hq; rw [h] at g; cases g
 exact (mat_miss this).2.2.1 v
theorem mdel_no {α : Type} {x : List Int} {l : List (List Int × α)} (h : mhas l x = false) : mdel l x = l := by
 have : mat l x = none := by
  cases hq : mat l x with
  | none => rfl
  | some i => obtain ⟨_, _, _, g, _⟩ := mat_hit hq; rw [h] at g; cases g
 exact (mat_miss this).2.2.2
structure GvI (N n g : Nat) (mp : List (List Int × Int)) (left : List Int) : Prop where
 ln : left.length = N - n
 nN : n ≤ N
 nd : left.Nodup
 rg : ∀ x ∈ left, ∃ k : Nat, x = (k : Int) ∧ g ≤ k ∧ k < N
 has : ∀ k : Nat, mhas mp [(k : Int)] = true ↔ (g ≤ k ∧ k < N ∧ (k : Int) ∉ left)
 val : ∀ k : Nat, mhas mp [(k : Int)] = true → mget 0 mp [(k : Int)] = -(k : Int)
 len : mp.length + g = n
 key : (mp.map (·.1)).Nodup
theorem GvI.start {N : Nat} : GvI N 0 0 [] (tab N fun k => (k : Int)) := by
 refine ⟨by simp [tab], Nat.zero_le _, ?_, fun x hx => ?_, fun k => ?_, fun k h => (by simp [mhas] at h), rfl, List.nodup_nil⟩
 ·unfold tab; exact List.pairwise_map.2 (List.nodup_range.imp fun h e => h (by omega))
 ·obtain ⟨k, hk, rfl⟩ := List.mem_map.1 hx
  exact ⟨k, rfl, Nat.zero_le _, List.mem_range.1 hk⟩
 ·simp only [mhas, Bool.false_eq_true, false_iff]
  rintro ⟨_, h1, h2⟩
  exact h2 (List.mem_map.2 ⟨k, List.mem_range.2 h1, rfl⟩)
theorem GvI.give {N n g : Nat} {mp : List (List Int × Int)} {left : List Int} (h : GvI N n g mp left) (hg : mhas mp [(g : Int)] = true) : GvI N n (g + 1) (mdel mp [(g : Int)]) left := by
 obtain ⟨h1, h2, h3⟩ := (h.has g).1 hg
 have hm := mhas_iff.1 hg
 have hl : (mdel mp [(g : Int)]).length + 1 = mp.length := by
  have e : ((mdel mp [(g : Int)]).map (·.1)).length = ((mp.map (·.1)).erase [(g : Int)]).length := by rw [mdel_keys]
  rw [List.length_map, List.length_erase_of_mem hm, List.length_map] at e
  have : 0 < mp.length := by
   have := List.length_pos_of_mem hm
   simpa using this
  omega
 have hh : ∀ k : Nat, mhas (mdel mp [(g : Int)]) [(k : Int)] = true ↔ (mhas mp [(k : Int)] = true ∧ k ≠ g) := fun k => by
  rw [mhas_iff, mdel_keys, h.key.mem_erase_iff, ← mhas_iff]
  constructor
  ·rintro ⟨a, b⟩; exact ⟨b, fun e => a (by rw [e])⟩
  ·rintro ⟨a, b⟩; exact ⟨fun e => b (by simp at e; omega), a⟩
 refine ⟨h.ln, h.nN, h.nd, fun x hx => ?_, fun k => ?_, fun k hk => ?_, by have := h.len; omega, by rw [mdel_keys]; exact h.key.erase _⟩
 ·obtain ⟨k, rfl, q1, q2⟩ := h.rg x hx
  refine ⟨k, rfl, ?_, q2⟩
  have : k ≠ g := fun e => by subst e; exact h3 hx
  omega
 ·rw [hh, h.has]
  constructor
  ·rintro ⟨⟨a, b, c⟩, d⟩; exact ⟨by omega, b, c⟩
  ·rintro ⟨a, b, c⟩; exact ⟨⟨by omega, b, c⟩, by omega⟩
 ·obtain ⟨a, b⟩ := (hh k).1 hk
  rw [mdel_get 0 (fun e => b (by simp at e; omega))]
  exact h.val k a
theorem GvI.put {N n g p : Nat} {mp : List (List Int × Int)} {left : List Int} (h : GvI N n g mp left) (hp : p < left.length) :
  ∃ k : Nat, lget left p = (k : Int) ∧ k < N ∧ bufE mp (g : Int) (k : Int) = 0 ∧ mhas mp [(k : Int)] = false ∧ GvI N (n + 1) g (mp ++ [([(k : Int)], -(k : Int))]) (left.eraseIdx p) := by
 have hmem : lget left p ∈ left := by
  have := lget_some hp
  exact List.mem_of_getElem? this
 obtain ⟨k, hk, h1, h2⟩ := h.rg _ hmem
 have hno : mhas mp [(k : Int)] = false := by
  cases q : mhas mp [(k : Int)] with
  | false => rfl
  | true => exact absurd (hk ▸ hmem) ((h.has k).1 q).2.2
 have hl := h.ln
 have he : ∀ x, x ∈ left.eraseIdx p ↔ (x ∈ left ∧ x ≠ (k : Int)) := fun x => by
  have hkp : left[p] = (k : Int) := by
   have := lget_some hp
   rw [List.getElem?_eq_getElem hp] at this
   rw [← hk]; exact Option.some.inj this
  rw [List.mem_eraseIdx_iff_getElem]
  have inj := List.pairwise_iff_getElem.1 h.nd
  constructor
  ·rintro ⟨i, hi, hne, rfl⟩
   refine ⟨List.getElem_mem hi, fun e => ?_⟩
   rw [← hkp] at e
   rcases Nat.lt_or_gt_of_ne hne with q | q
   ·exact inj i p hi hp q e
   ·exact inj p i hp hi q e.symm
  ·rintro ⟨hx, hne⟩
   obtain ⟨i, hi, rfl⟩ := List.mem_iff_getElem.1 hx
   exact ⟨i, hi, fun e => hne (by subst e; exact hkp), rfl⟩
 refine ⟨k, hk, h2, ?_, hno, ?_, by omega, ?_, fun x hx => ?_, fun j => ?_, fun j hj => ?_, by rw [List.length_append]; have := h.len; simp; omega, ?_⟩
 ·unfold bufE; rw [if_neg (by omega), if_neg (by rw [hno]; simp), if_neg (by omega)]
 ·rw [List.length_eraseIdx, if_pos hp]; omega
 ·exact h.nd.sublist (List.eraseIdx_sublist _ _)
 ·exact h.rg x ((he x).1 hx).1
 ·rw [mhas_iff, List.map_append, List.mem_append, ← mhas_iff, h.has j, he]
  simp only [List.map_cons, List.map_nil, List.mem_singleton, List.cons.injEq, and_true]
  constructor
  ·rintro (⟨a, b, c⟩ | e)
   ·exact ⟨a, b, fun q => c q.1⟩
   ·have : j = k := by exact_mod_cast e
    subst this
    exact ⟨h1, h2, fun q => q.2 rfl⟩
  ·rintro ⟨a, b, c⟩
   by_cases e : (j : Int) = (k : Int)
   ·exact Or.inr e
   ·exact Or.inl ⟨a, b, fun q => c ⟨q, e⟩⟩
 ·rw [mget_app 0 hno]
  by_cases e : [(j : Int)] = [(k : Int)]
  ·rw [if_pos e]; simp at e; omega
  ·rw [if_neg e]
   refine h.val j ?_
   rw [mhas_iff, List.map_append, List.mem_append, ← mhas_iff] at hj
   rcases hj with hj | hj
   ·exact hj
   ·simp at hj; exact absurd (by simpa using hj) e
 ·rw [List.map_append]
  refine List.nodup_append.2 ⟨h.key, by simp, fun a ha b hb => ?_⟩
  simp at hb
  subst hb
  intro e
  subst e
  rw [← mhas_iff, hno] at ha; cases ha
end Go.Sx
namespace Go.Proofs.Ytgobpelclchnfaa.G
open Go Go.Sx
set_option maxRecDepth 20000
set_option maxHeartbeats 1000000
theorem good_bplace : Sx.Good Try.prog 13 bplaceS := by
 refine Sx.Good.pure (D := []) mixed (good0 _) Try.func13 (by kernel_rfl) rfl fun d args σ K h => ?_
 simp only [bplaceS] at h
 split at h <;> try exact h.elim
 rename_i i n
 obtain ⟨⟨hi, hn⟩, hK⟩ := h
 obtain ⟨h1, h2⟩ := hi
 have hn := hn.lt
 refine ⟨by simp [plain_int], _, plain_int _ _, hK, 0 + 1, ?_⟩
 rw [bplace_vc]
 refine ⟨fun q => ?_, fun q => ?_⟩
 ·rw [ilt_true] at q
  refine ⟨⟨by omega⟩, ?_⟩
  rw [add_i64 (by omega) (by omega), sub_i64 (by omega) (by omega)]
  unfold placeI; rw [if_pos q]
  congr 3; omega
 ·rw [ilt_false] at q
  refine ⟨⟨by omega⟩, ?_⟩
  unfold placeI; rw [if_neg (by omega)]
theorem o1_good : GoodG Try.prog gamO1 := (((((good0 _).ext good_new ⟨_, Try.func12, by decide, by kernel_rfl⟩).ext good_put ⟨_, Try.func15, by decide, by kernel_rfl⟩).ext good_next ⟨_, Try.func16, by decide, by kernel_rfl⟩).ext good_at ⟨_, Try.func17, by decide, by kernel_rfl⟩).ext good_held ⟨_, Try.func18, by decide, by kernel_rfl⟩
theorem o2_good : GoodG Try.prog gamO2 := ((o1_good.ext good_snew ⟨_, Try.func19, by decide, by kernel_rfl⟩).ext good_sput ⟨_, Try.func20, by decide, by kernel_rfl⟩).ext good_snext ⟨_, Try.func21, by decide, by kernel_rfl⟩
structure BuOk (p : Prop) : Prop where
 out : p
theorem bu_tt {A B : Prop} (h : A) : (true = true → A) ∧ (true = false → B) := ⟨fun _ => h, fun q => (by cases q)⟩
theorem bu_ff {A B : Prop} (h : B) : (false = true → A) ∧ (false = false → B) := ⟨fun q => (by cases q), fun _ => h⟩
theorem bu_fl {A B : Prop} (h : A) : (false = false → A) ∧ (false = true → B) := ⟨fun _ => h, fun q => (by cases q)⟩
theorem good_bawake : Sx.Good Try.prog 11 byesS := by
 refine Sx.Good.pure2 (D := []) mixed o2_good Try.func11 (by kernel_rfl) rfl fun d args σ K h => ?_
 simp only [byesS] at h
 split at h <;> try exact h.elim
 refine ⟨by simp, _, fun n => rfl, h, 0 + 1, ?_⟩
 rw [bawake_vc]
 have a1 : IntKind.i64.wrap 1 = 1 := by decide +kernel
 simp [bufE, bufP, bufN, mput, mdel, mget, mhas, leq, ine, seq2, bnot, ieq, add, band2, a1]
 exact fun ρ v h => h
theorem gv_last {N n g : Nat} {mp : List (List Int × Int)} {left l x6 : List Int} {x5 : List (List Int × Int)} {x4 y8 x12 : Int} {y9 : Bool} (hN : l.length = N) (hn : N ≤ 1024) (h : GvI N (n + 1) g mp left) (hg : mhas mp [(g : Int)] = false)
  {F : Nat} (nx : lgives.l1 okR l F (g : Int) ((n + 1 : Nat) : Int) (g : Int) mp left) :
  (∃ F, lgives.l3 okR (g : Int) (n : Int) l x6 mp (g : Int) x5 x4 y8 y9 x12 left F 0) ∧ ∃ F, lgives.l4 okR (g : Int) (n : Int) l x6 mp (g : Int) x5 x4 y8 y9 x12 left F 0 := by
 have hl := h.ln
 have hlow : ∀ i, i < left.length → ilt (lget left i) (g : Int) = false := fun i hi => by
  have hm : lget left i ∈ left := List.mem_of_getElem? (lget_some hi)
  obtain ⟨k, e, h1, _⟩ := h.rg _ hm
  rw [ilt_false, e]; omega
 have bn : bufN mp (g : Int) = (g : Int) := bufN_no hg
 have bd : mdel mp [(g : Int)] = mp := mdel_no hg
 have a1 : add .i64 (n : Int) 1 = ((n + 1 : Nat) : Int) := add1_i64 (by have := h.nN; omega)
 have e0 : ilt ((left.length : Nat) : Int) (ofNat (llen left)) = false := by rw [ilt_false, ofNat_def, llen_def]; omega
 have e1 : ∀ i, i < left.length → ilt (i : Int) (ofNat (llen left)) = true := fun i hi => by rw [ilt_true, ofNat_def, llen_def]; omega
 have ib : ∀ i, i < left.length → InB (i : Int) (llen left) := fun i hi => ⟨by omega, by rw [llen_def]; omega⟩
 have ai : ∀ i, i < left.length → add .i64 (i : Int) 1 = ((i + 1 : Nat) : Int) := fun i hi => add1_i64 (by omega)
 refine ⟨?_, ?_⟩
 ·refine loop_ex (fun f i (_ : Unit) => lgives.l3 okR (g : Int) (n : Int) l x6 mp (g : Int) x5 x4 y8 y9 x12 left f i) left.length (fun _ => ()) (fun f i hi hx => ⟨f + 1, ?_⟩) ⟨F + 1, ?_⟩ 0 (Nat.zero_le _)
  ·show lgives.l3 okR (g : Int) (n : Int) l x6 mp (g : Int) x5 x4 y8 y9 x12 left (f + 1) (i : Int)
   rw [lgives.l3_succ, lgives.k11_eq okR _ _ _ _ _ _ _ _ _ _ _ _ _ f 3993, e1 i hi, lgives.k9_eq okR _ _ _ _ _ _ _ _ _ _ _ _ _ f 3989, lgives.k8_eq okR _ _ _ _ _ _ _ _ _ _ _ _ _ f 3985, nat_cast, hlow i hi, lgives.k7_eq okR _ _ _ _ _ _ _ _ _ _ _ _ _ f 3885, ai i hi]
   exact bu_tt ⟨ib i hi, bu_ff hx⟩
  ·show lgives.l3 okR (g : Int) (n : Int) l x6 mp (g : Int) x5 x4 y8 y9 x12 left (F + 1) ((left.length : Nat) : Int)
   rw [lgives.l3_succ, lgives.k11_eq okR _ _ _ _ _ _ _ _ _ _ _ _ _ F 3993, e0, lgives.k10_eq okR _ _ _ _ _ _ _ _ _ _ _ _ _ F 3893, bn, bd, a1]
   exact bu_ff nx
 ·refine loop_ex (fun f i (_ : Unit) => lgives.l4 okR (g : Int) (n : Int) l x6 mp (g : Int) x5 x4 y8 y9 x12 left f i) left.length (fun _ => ()) (fun f i hi hx => ⟨f + 1, ?_⟩) ⟨F + 1, ?_⟩ 0 (Nat.zero_le _)
  ·show lgives.l4 okR (g : Int) (n : Int) l x6 mp (g : Int) x5 x4 y8 y9 x12 left (f + 1) (i : Int)
   rw [lgives.l4_succ, lgives.k19_eq okR _ _ _ _ _ _ _ _ _ _ _ _ _ f 3993, e1 i hi, lgives.k17_eq okR _ _ _ _ _ _ _ _ _ _ _ _ _ f 3989, lgives.k16_eq okR _ _ _ _ _ _ _ _ _ _ _ _ _ f 3985, nat_cast, hlow i hi, lgives.k15_eq okR _ _ _ _ _ _ _ _ _ _ _ _ _ f 3885, ai i hi]
   exact bu_tt ⟨ib i hi, bu_ff hx⟩
  ·show lgives.l4 okR (g : Int) (n : Int) l x6 mp (g : Int) x5 x4 y8 y9 x12 left (F + 1) ((left.length : Nat) : Int)
   rw [lgives.l4_succ, lgives.k19_eq okR _ _ _ _ _ _ _ _ _ _ _ _ _ F 3993, e0, lgives.k18_eq okR _ _ _ _ _ _ _ _ _ _ _ _ _ F 3893, bn, bd, a1]
   exact bu_ff nx
theorem gv_inner {N n : Nat} {left l x6 : List Int} {x5 : List (List Int × Int)} {x4 y8 : Int} {y9 : Bool} (hN : l.length = N) (hn : N ≤ 1024)
  (nx : ∀ g mp, GvI N (n + 1) g mp left → mhas mp [(g : Int)] = false → ∃ F, lgives.l1 okR l F (g : Int) ((n + 1 : Nat) : Int) (g : Int) mp left) :
  ∀ (r g c : Nat) (mp : List (List Int × Int)), N + 1 - g = r → c ≤ g → g ≤ N → GvI N (n + 1) g mp left → ∃ F, lgives.l2 okR (n : Int) l x6 x5 x4 y8 y9 left F (g : Int) (c : Int) (g : Int) mp
 | 0, g, c, mp, hr, hc, hgN, h => by omega
 | r + 1, g, c, mp, hr, hc, hgN, h => by
  have aN : add .i64 (ofNat (llen l)) 1 = ((N + 1 : Nat) : Int) := by rw [ofNat_def, llen_def, hN]; exact add1_i64 (by omega)
  have g1 : ilt (c : Int) (add .i64 (ofNat (llen l)) 1) = true := by rw [aN, ilt_true]; omega
  have ag : add .i64 (g : Int) 1 = ((g + 1 : Nat) : Int) := add1_i64 (by omega)
  have ac : add .i64 (c : Int) 1 = ((c + 1 : Nat) : Int) := add1_i64 (by omega)
  have a1 : add .i64 (n : Int) 1 = ((n + 1 : Nat) : Int) := add1_i64 (by have := h.nN; omega)
  have sg : sub .i64 0 (g : Int) = -(g : Int) := by
   have e : sub .i64 0 (g : Int) = 0 - (g : Int) := sub_i64 (by omega) (by omega)
   rw [e]; omega
  cases hg : mhas mp [(g : Int)] with
  | true =>
   obtain ⟨q1, q2, _⟩ := (h.has g).1 hg
   obtain ⟨F, hF⟩ := gv_inner (x6 := x6) (x5 := x5) (x4 := x4) (y8 := y8) (y9 := y9) hN hn nx r (g + 1) (c + 1) _ (by omega) (by omega) (by omega) (h.give hg)
   have hv := h.val g hg
   have e1 : ine (mget 0 mp [(g : Int)]) (sub .i64 0 (g : Int)) = false := by rw [ine_false, hv, sg]
   refine ⟨F + 1, ?_⟩
   rw [lgives.l2_succ, lgives.k48_eq okR _ _ _ _ _ _ _ _ _ _ _ _ F 3996, g1, lgives.k28_eq okR _ _ _ _ _ _ _ _ _ _ _ _ F 3988, lgives.k27_eq okR _ _ _ _ _ _ _ _ _ _ _ _ F 3983, hg, lgives.k26_eq okR _ _ _ _ _ _ _ _ _ _ _ _ F 3978, e1, lgives.k25_eq okR _ _ _ _ _ _ _ _ _ _ _ _ F 3878, bufN_yes hg, ag, ac]
   exact bu_tt (bu_ff (bu_ff hF))
  | false =>
   obtain ⟨F, hF⟩ := nx g mp h hg
   obtain ⟨⟨F3, h3⟩, F4, h4⟩ := gv_last (x6 := x6) (x5 := x5) (x4 := x4) (y8 := y8) (y9 := y9) (x12 := (c : Int)) hN hn h hg hF
   have hlen := h.len
   have e1 : ine (bufN mp (g : Int)) (g : Int) = false := by rw [ine_false, bufN_no hg]
   have e2 : ine (ofNat (mlen (mdel mp [(g : Int)]))) (sub .i64 (add .i64 (n : Int) 1) (g : Int)) = false := by
    have hnN := h.nN
    have e : sub .i64 ((n + 1 : Nat) : Int) (g : Int) = ((n + 1 : Nat) : Int) - (g : Int) := sub_i64 (by omega) (by omega)
    rw [ine_false, mdel_no hg, a1, e, ofNat_def]
    show ((mp.length : Nat) : Int) = _
    omega
   have e3 : igt (g : Int) (add .i64 (n : Int) 1) = false := by rw [igt_false, a1]; omega
   cases q : ilt (g : Int) (ofNat (llen l)) with
   | true =>
    refine ⟨F3 + 1, ?_⟩
    rw [lgives.l2_succ, lgives.k48_eq okR _ _ _ _ _ _ _ _ _ _ _ _ F3 3996, g1, lgives.k28_eq okR _ _ _ _ _ _ _ _ _ _ _ _ F3 3988, lgives.k27_eq okR _ _ _ _ _ _ _ _ _ _ _ _ F3 3983, hg, lgives.k23_eq okR _ _ _ _ _ _ _ _ _ _ _ _ F3 3979, e1, e2, q, lgives.k13_eq okR _ _ _ _ _ _ _ _ _ _ _ _ F3 3979, e3, lgives.k12_eq okR _ _ _ _ _ _ _ _ _ _ _ _ F3 3879]
    exact bu_tt (bu_tt (bu_fl (bu_fl (bu_tt (bu_ff h3)))))
   | false =>
    refine ⟨F4 + 1, ?_⟩
    rw [lgives.l2_succ, lgives.k48_eq okR _ _ _ _ _ _ _ _ _ _ _ _ F4 3996, g1, lgives.k28_eq okR _ _ _ _ _ _ _ _ _ _ _ _ F4 3988, lgives.k27_eq okR _ _ _ _ _ _ _ _ _ _ _ _ F4 3983, hg, lgives.k23_eq okR _ _ _ _ _ _ _ _ _ _ _ _ F4 3979, e1, e2, q, lgives.k20_eq okR _ _ _ _ _ _ _ _ _ _ _ _ F4 3879]
    exact bu_tt (bu_tt (bu_fl (bu_fl (bu_ff h4))))
theorem lcat_erase {l : List Int} {p : Nat} (h : p < l.length) : lcat (lsub l 0 p) (lsub l (p + 1) (nsub (llen l) (p + 1))) = l.eraseIdx p := by
 rw [lcat_def, lsub, List.drop_zero, List.eraseIdx_eq_take_drop_succ]
 congr 1
 rw [lsub, nsub, llen_def, ← List.length_drop, List.take_length]
theorem gv_round {N : Nat} {l : List Int} (hN : l.length = N) (hn : N ≤ 1024) (hi : ∀ x ∈ l, -9223372036854775808 ≤ x ∧ x < 9223372036854775808) :
  ∀ (r n g : Nat) (mp : List (List Int × Int)) (left : List Int), N - n = r → GvI N n g mp left → mhas mp [(g : Int)] = false → ∃ F, lgives.l1 okR l F (g : Int) (n : Int) (g : Int) mp left
 | 0, n, g, mp, left, hr, h, hg => by
  have hnN := h.nN
  have hln := h.ln
  have hlen := h.len
  have hnil : left = [] := List.length_eq_zero_iff.1 (by omega)
  have hgN : g = N := by
   by_cases q : g < N
   ·have := (h.has g).2 ⟨Nat.le_refl _, q, by rw [hnil]; simp⟩
    rw [hg] at this; cases this
   ·omega
  have e1 : ilt (n : Int) (ofNat (llen l)) = false := by rw [ilt_false, ofNat_def, llen_def]; omega
  have e2 : ieq (g : Int) (ofNat (llen l)) = true := by rw [ieq_true, ofNat_def, llen_def]; omega
  refine ⟨0 + 1, ?_⟩
  rw [lgives.l1_succ, lgives.k60_eq okR _ _ _ _ _ _ 0 3996, e1, lgives.k59_eq okR _ _ _ _ _ _ 0 3993, e2, lgives.k57_eq okR _ _ _ _ _ _ 0 3893]
  refine bu_ff (bu_tt (okR_bool ?_))
  rw [ieq_true, ofNat_def]
  show ((mp.length : Nat) : Int) = 0
  omega
 | r + 1, n, g, mp, left, hr, h, hg => by
  have hln := h.ln
  obtain ⟨p, hp, hplt⟩ := place_fit (i := lget l n) (n := ofNat (llen left)) (by rw [ofNat_def, llen_def]; omega)
  have hpl : p < left.length := by rw [ofNat_def, llen_def] at hplt; omega
  obtain ⟨k, hk, hkN, hE, hno, h'⟩ := h.put hpl
  have sk : sub .i64 0 (k : Int) = -(k : Int) := by
   have e : sub .i64 0 (k : Int) = 0 - (k : Int) := sub_i64 (by omega) (by omega)
   rw [e]; omega
  have bP : bufP mp (g : Int) (k : Int) (-(k : Int)) = mp ++ [([(k : Int)], -(k : Int))] := by rw [bufP_ok hE, mput_new hno]
  have hh : mhas (mp ++ [([(k : Int)], -(k : Int))]) [(k : Int)] = true := by rw [mhas_iff]; simp
  have bE2 : bufE (mp ++ [([(k : Int)], -(k : Int))]) (g : Int) (k : Int) = 200 := bufE_has (by omega) hh
  have bP2 : bufP (mp ++ [([(k : Int)], -(k : Int))]) (g : Int) (k : Int) 5 = mp ++ [([(k : Int)], -(k : Int))] := bufP_no (by rw [bE2]; decide)
  obtain ⟨F, hF⟩ := gv_inner (x6 := left) (x5 := mp) (x4 := (g : Int)) (y8 := 200) (y9 := false) hN hn (fun g' mp' hI hm => gv_round hN hn hi r (n + 1) g' mp' _ (by omega) hI hm) (N + 1 - g) g 0 _ rfl (Nat.zero_le _) (by
   have := h'.len; have := h'.nN
   obtain ⟨k0, _, q1, q2⟩ := h.rg _ (List.mem_of_getElem? (lget_some hpl))
   omega) h'
  have e1 : ilt (n : Int) (ofNat (llen l)) = true := by rw [ilt_true, ofNat_def, llen_def]; omega
  have i1 : InB (n : Int) (llen l) := ⟨by omega, by rw [llen_def]; omega⟩
  have hx := hi (lget l n) (List.mem_of_getElem? (lget_some (by omega)))
  have i2 : I64 (lget l n) := ⟨hx.1, hx.2⟩
  have i3 : Pos (ofNat (llen left)) := ⟨by rw [ofNat_def, llen_def]; omega⟩
  have i4 : InB (p : Int) (llen left) := ⟨by omega, by rw [llen_def]; omega⟩
  have ap : add .i64 (p : Int) 1 = ((p + 1 : Nat) : Int) := add1_i64 (by omega)
  have i5 : NonNeg (p : Int) := ⟨by omega⟩
  have i6 : Fits p (llen left) := ⟨by rw [llen_def]; omega⟩
  have i7 : NonNeg ((p + 1 : Nat) : Int) := ⟨by omega⟩
  have i8 : Fits (p + 1) (llen left) := ⟨by rw [llen_def]; omega⟩
  have rm : Room (nadd (llen (lsub left 0 p)) (llen (lsub left (p + 1) (nsub (llen left) (p + 1))))) 8 := ⟨by
   have l1 : (lsub left 0 p).length ≤ 1024 := by unfold lsub; simp; omega
   have l2 : (lsub left (p + 1) (nsub (llen left) (p + 1))).length ≤ 1024 := by unfold lsub; simp; omega
   show (5 * ((lsub left 0 p).length + (lsub left (p + 1) (nsub (llen left) (p + 1))).length) + 4096) * 8 ≤ _
   omega⟩
  have n2 : ine (200 : Int) 200 = false := by decide
  have n0 : ine (0 : Int) 0 = false := by decide
  have k49 : BuOk (lgives.k49 okR (g : Int) (n : Int) l left mp (g : Int) 200 false (left.eraseIdx p) (mp ++ [([(k : Int)], -(k : Int))]) F 3977) := ⟨by
   rw [lgives.k49_eq okR _ _ _ _ _ _ _ _ _ _ F 3877]; exact hF⟩
  have k50 : BuOk (lgives.k50 okR (g : Int) (n : Int) l left mp (g : Int) (left.eraseIdx p) F 3982) := ⟨by
   rw [lgives.k50_eq okR _ _ _ _ _ _ _ F 3977]
   simp only [nat_cast, hp, hk, sk, bP, bE2, bP2, n2]
   exact ⟨fun q => (by cases q), fun _ => k49.out⟩⟩
  refine ⟨F + 1, ?_⟩
  rw [lgives.l1_succ, lgives.k60_eq okR _ _ _ _ _ _ F 3996, e1, lgives.k56_eq okR _ _ _ _ _ _ F 3991, lgives.k55_eq okR _ _ _ _ _ _ F 3989, lgives.k54_eq okR _ _ _ _ _ _ F 3987, lgives.k53_eq okR _ _ _ _ _ _ F 3985, lgives.k52_eq okR _ _ _ _ _ _ F 3979]
  simp only [nat_cast, hp, hk, hE, ap, n0, lcat_erase hpl]
  exact ⟨fun _ => ⟨i1, ⟨i2, i3⟩, i4, ⟨i5, i6⟩, ⟨i7, i8⟩, rm, fun _ => k50.out, fun q => (by cases q)⟩, fun q => (by cases q)⟩
theorem o3_good : GoodG Try.prog gamO3 := (o2_good.ext good_bawake ⟨_, Try.func11, by decide, by kernel_rfl⟩).ext good_bplace ⟨_, Try.func13, by decide, by kernel_rfl⟩
theorem orderGives_plain {l : List Int} (hi : ∀ x ∈ l, -9223372036854775808 ≤ x ∧ x < 9223372036854775808) (hl : l.length ≤ 20000000000000) :
  ∃ f, Has (callsx Try.prog gamO3 [⟨3, [.ints .i64], true, false⟩, ⟨777777, [], true, false⟩] Try.f6 f [.one (.vec 200000)] [(200000, .rview [.ints .i64 l])] fun av _ => av = .one (.bool true) ∨ av = .one (.lit true)) := by
 by_cases q : l.length ≤ 1024
 ·have e0 : igt (ofNat (llen l)) 1024 = false := by rw [igt_false, ofNat_def, llen_def]; omega
  have mk : Mk (ofNat (llen l)) (ofNat (llen l)) 8 := by rw [ofNat_def, llen_def]; exact ⟨by omega, by omega, by omega, by omega⟩
  obtain ⟨F1, h1⟩ := gv_round (N := l.length) rfl q hi l.length 0 0 [] _ (by omega) GvI.start (by rfl)
  obtain ⟨F, hF⟩ := loop_ex (fun f i (x : List Int) => lgives.l0 okR l f i x) l.length (fun i => upto l.length i (fun j => (j : Int)) (fun _ => 0)) (fun f i hi' hx => ⟨f + 1, by
   have e1 : ilt (i : Int) (ofNat (llen (lzeros (nat (ofNat (llen l)))))) = true := by rw [ilt_true, ofNat_def, nat, ofNat_def, llen_def, llen_def]; simp [lzeros]; omega
   have ib : InB (i : Int) (llen (upto l.length i (fun j => (j : Int)) (fun _ => 0))) := ⟨by omega, by rw [llen_def, upto_len]; omega⟩
   rw [lgives.l0_succ, lgives.k64_eq okR _ _ _ f 3996, e1, lgives.k3_eq okR _ _ _ f 3991, lgives.k2_eq okR _ _ _ f 3988, lgives.k1_eq okR _ _ _ f 3888, add1_i64 (by omega), nat_cast, upto_lset (F := fun j => (j : Int)) rfl]
   exact bu_tt ⟨ib, hx⟩⟩) ⟨F1 + 1, by
   have e1 : ilt (l.length : Int) (ofNat (llen (lzeros (nat (ofNat (llen l)))))) = false := by rw [ilt_false, ofNat_def, nat, ofNat_def, llen_def, llen_def]; simp [lzeros]
   rw [lgives.l0_succ, lgives.k64_eq okR _ _ _ F1 3996, e1, lgives.k63_eq okR _ _ _ F1 3989, lgives.k62_eq okR _ _ F1 3983, lgives.k61_eq okR _ _ F1 3883, upto_done]
   exact bu_ff h1⟩ 0 (Nat.zero_le _)
  have hz : lzeros (nat (ofNat (llen l))) = upto l.length 0 (fun j => (j : Int)) (fun _ => 0) := by rw [upto_zero, lzeros_tab]; rfl
  refine ⟨F + 1, ⟨?_⟩⟩
  show callsx Try.prog gamO3 _ _ (F + 1) _ _ okR
  rw [lgives_vc, lgives.k69_eq okR l F 3995, lgives.k68_eq okR l F 3990, lgives.k67_eq okR l F 3987, e0, lgives.k66_eq okR l F 3983, lgives.k65_eq okR l F 3883, hz]
  exact bu_ff ⟨mk, hF⟩
 ·have e0 : igt (ofNat (llen l)) 1024 = true := by rw [igt_true, ofNat_def, llen_def]; omega
  refine ⟨0 + 1, ⟨?_⟩⟩
  show callsx Try.prog gamO3 _ _ (0 + 1) _ _ okR
  rw [lgives_vc, lgives.k69_eq okR l 0 3995, lgives.k68_eq okR l 0 3990, lgives.k67_eq okR l 0 3987, e0, lgives.k0_eq okR l 0 3887]
  exact bu_tt okR_lit
end Go.Proofs.Ytgobpelclchnfaa.G
namespace Go.Sx
open Go Go.ChangeShapes Go.WideShapes Go.ChangeAt Go.RowKit
inductive KF where
 | ks (l : List Kd)
 | recs (l : List Kd) (bytes : Nat)
def KF.width : KF → Nat
 | .ks l => Sx.width l
 | .recs _ _ => 1
structure RecsIn (w : World) (l : List Kd) (bytes : Nat) (A : Option Addr) (len cap : Nat) (L : Loc) (cols : List Col) : Prop where
 rep : VRep w L cols
 val : Value.slice A len cap = .slice L.a L.len L.cap
 kds : kdsOf cols = l
 wf : ∀ col ∈ cols, col.wf
 size : L.len * bytes ≤ reachBytes
def KF.at (w : World) (k : KF) (cs : List Value) (o : Nat) : Prop :=
 match k with
 | .ks l => KdsAt w l cs o
 | .recs l b => ∃ A len cap L cols, cs[o]? = some (.slice A len cap) ∧ RecsIn w l b A len cap L cols
def KFsAt (w : World) : List KF → List Value → Nat → Prop
 | [], _, _ => True
 | k :: r, cs, o => k.at w cs o ∧ KFsAt w r cs (o + k.width)
section
variable {H : Type} {enc : TypeId × Value → H} {P : Program} {w : World}
theorem KFsAt.recs {l : List Kd} {b : Nat} {r : List KF} {cs : List Value} {o : Nat} (h : KFsAt w (.recs l b :: r) cs o) : ∃ A len cap L cols, RecsIn w l b A len cap L cols ∧ cs.drop o = .slice A len cap :: cs.drop (o + 1) ∧ KFsAt w r cs (o + 1) := by
 obtain ⟨⟨A, len, cap, L, cols, h1, h2⟩, h4⟩ := h
 obtain ⟨hl, he⟩ := (List.getElem?_eq_some_iff.1 h1)
 exact ⟨A, len, cap, L, cols, h2, by rw [List.drop_eq_getElem_cons hl, he], h4⟩
theorem KFsAt.rows {q : IntKind} {r : List KF} {cs : List Value} {o : Nat} (h : KFsAt w (.ks [.rows q] :: r) cs o) : ∃ A L C Z, IsRow q w A L C Z ∧ Z.length ≤ reachBytes ∧ cs.drop o = .slice A L C :: cs.drop (o + 1) ∧ KFsAt w r cs (o + 1) := by
 obtain ⟨A, L, C, Z, h1, h2, h3, _⟩ := KdsAt.rows h.1
 exact ⟨A, L, C, Z, h1, h2, h3, h.2⟩
theorem KFsAt.ints {q : IntKind} {r : List KF} {cs : List Value} {o : Nat} (h : KFsAt w (.ks [.ints q] :: r) cs o) : ∃ n, (Lit.int q n).wf = true ∧ cs.drop o = .int q n :: cs.drop (o + 1) ∧ KFsAt w r cs (o + 1) := by
 obtain ⟨n, h1, h2, _⟩ := KdsAt.ints h.1
 exact ⟨n, h1, h2, h.2⟩
theorem KFsAt.bools {r : List KF} {cs : List Value} {o : Nat} (h : KFsAt w (.ks [.bools] :: r) cs o) : ∃ b, cs.drop o = .bool b :: cs.drop (o + 1) ∧ KFsAt w r cs (o + 1) := by
 obtain ⟨b, h1, _⟩ := KdsAt.bools h.1
 exact ⟨b, h1, h.2⟩
theorem KFsAt.arrs {q : IntKind} {m : Nat} {r : List KF} {cs : List Value} {o : Nat} (h : KFsAt w (.ks [.arrs q m] :: r) cs o) (hl : o + m ≤ cs.length) : ∃ l : List Int, l.length = m ∧ (∀ x ∈ l, (Lit.int q x).wf = true) ∧ cs.drop o = l.map (Value.int q) ++ cs.drop (o + m) ∧ KFsAt w r cs (o + m) := by
 obtain ⟨l, h1, h2, h3, _⟩ := KdsAt.arrs h.1 hl
 have e : (KF.ks [.arrs q m]).width = m := by simp [KF.width, Sx.width, Kd.width]
 have := h.2
 rw [e] at this
 exact ⟨l, h1, h2, h3, this⟩
theorem AggArgs.recs {j j' : Nat} {l : List Kd} {b : Nat} {A : Option Addr} {len cap : Nat} {L : Loc} {cols : List Col} {s : List Seg} {cs : List Value} {τ : Mem} (h : RecsIn w l b A len cap L cols) (t : AggArgs w (j + 1) s cs τ j') (hj : j < 1000 := by decide) :
  AggArgs w j (.cells [.vec (200000 + j)] :: s) (.slice A len cap :: cs) ((200000 + j, .rview cols) :: τ) j' := .row L cols hj h.rep h.val t (wf_noHss h.wf)
end
end Go.Sx
