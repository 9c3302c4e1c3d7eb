/- Functions that read lists and give plain values and new lists. -/
import Derived.Test.YtgkklobamebnjaaSx16
namespace Go.Sx
open Go
set_option linter.unusedSimpArgs false
set_option linter.unusedVariables false

/-- the arguments of a call, as its function sees them: lists are read under names of their own -/
inductive Canon (σ : Mem) : Nat → List AV → List AV → Mem → Prop
  | nil (j : Nat) : Canon σ j [] [] []
  | plain {j : Nat} {x : AV} {xs ys : List AV} {τ : Mem} : plainAV x → Canon σ (j + 1) xs ys τ → Canon σ j (x :: xs) (x :: ys) τ
  | row {j : Nat} {x : AV} {xs ys : List AV} {τ : Mem} (ks : List Kd) (cs : List Col) : rdx σ ks x (fun c => c = cs) → 0 < width ks → Canon σ (j + 1) xs ys τ → Canon σ j (x :: xs) (.one (.vec (200000 + j)) :: ys) ((200000 + j, .rview cs) :: τ)
  | clo {j g n : Nat} {b : Blk} {xs ys : List AV} {τ : Mem} : Mem.find σ n = some b → (∀ m, segsRefs m b.segs = false) → Canon σ (j + 1) xs ys τ → Canon σ j (.one (.clo g n 0 0) :: xs) (.one (.clo g (200000 + j) 0 0) :: ys) ((200000 + j, .view b.segs) :: τ)

theorem canon_views {σ τ : Mem} : ∀ {j : Nat} {xs ys : List AV}, Canon σ j xs ys τ → ∀ ρ n b k, Mem.find τ n = some b → ¬ Out ρ n b k := by
  intro j xs ys h
  induction h with
  | nil j => intro ρ n b k hn; simp [Mem.find] at hn
  | plain _ _ ih => exact ih
  | row ks cs _ _ _ ih =>
    intro ρ n b k hn
    simp only [Mem.find] at hn
    split at hn
    · cases hn; exact fun q => q
    · exact ih ρ n b k hn
  | clo _ _ _ ih =>
    intro ρ n b k hn
    simp only [Mem.find] at hn
    split at hn
    · cases hn; exact fun q => q
    · exact ih ρ n b k hn

theorem plainAV.any {x : AV} (h : plainAV x) {ρ ρ' : Rho} {v : Value} (hv : SRep ρ x v) : SRep ρ' x v := hv.agree fun n hn => by rw [h n] at hn; cases hn

theorem canon_sound {σ τ : Mem} {ρ : Rho} {w : World} (hm : MemRep ρ σ w) (hs : Sep ρ σ) : ∀ {j : Nat} {xs ys : List AV}, Canon σ j xs ys τ → ∀ (vals : List Value), xs.length = vals.length → (∀ (i : Nat) x v, xs[i]? = some x → vals[i]? = some v → SRep ρ x v) →
    ys.length = vals.length ∧ ∃ Ls : Nat → Loc, ∀ ρc : Rho, (∀ i, j ≤ i → i < j + xs.length → ρc (200000 + i) = Ls i) → (∀ (i : Nat) y v, ys[i]? = some y → vals[i]? = some v → SRep ρc y v) ∧ MemRep ρc τ w := by
  intro j xs ys h
  induction h with
  | nil j => intro vals hl _; exact ⟨hl, fun _ => loc0, fun ρc _ => ⟨fun i y v hy => by simp at hy, fun n b hb => by simp [Mem.find] at hb⟩⟩
  | @plain j x xs ys τ hp _ ih =>
    intro vals hl hv
    cases vals with
    | nil => simp at hl
    | cons v vals =>
      obtain ⟨h1, Ls, h2⟩ := ih vals (by simpa using hl) (fun i x u hx hu => hv (i + 1) x u (by simpa using hx) (by simpa using hu))
      refine ⟨by simpa using h1, Ls, fun ρc hc => ?_⟩
      obtain ⟨g1, g2⟩ := h2 ρc (fun i hi hlt => hc i (by omega) (by simp only [List.length_cons]; omega))
      refine ⟨fun i y u hy hu => ?_, g2⟩
      cases i with
      | zero => simp at hy hu; subst hy hu; exact hp.any (hv 0 x v rfl rfl)
      | succ i => exact g1 i y u (by simpa using hy) (by simpa using hu)
  | @row j x xs ys τ ks cs hr hk _ ih =>
    intro vals hl hv
    cases vals with
    | nil => simp at hl
    | cons v vals =>
      obtain ⟨h1, Ls, h2⟩ := ih vals (by simpa using hl) (fun i x u hx hu => hv (i + 1) x u (by simpa using hx) (by simpa using hu))
      obtain ⟨cs', L, hR, rfl⟩ := rdx_sound hr hk hm hs (hv 0 x v rfl rfl)
      refine ⟨by simpa using h1, fun i => if i = j then L else Ls i, fun ρc hc => ?_⟩
      have hj : ρc (200000 + j) = L := by rw [hc j (Nat.le_refl _) (by simp)]; simp
      obtain ⟨g1, g2⟩ := h2 ρc (fun i hi hlt => by rw [hc i (by omega) (by simp only [List.length_cons]; omega)]; show (if i = j then _ else Ls i) = Ls i; rw [if_neg (by omega)])
      refine ⟨fun i y u hy hu => ?_, fun n b hb => ?_⟩
      · cases i with
        | zero =>
          simp at hy hu
          subst hy hu
          show v = _
          rw [hj]; exact hR.val
        | succ i => exact g1 i y u (by simpa using hy) (by simpa using hu)
      · simp only [Mem.find] at hb
        split at hb
        · rename_i e; subst e; cases hb
          show VRep w (ρc (200000 + j)) cs'
          rw [hj]; exact hR.rep
        · exact g2 n b hb
  | @clo j g n b xs ys τ hn hp _ ih =>
    intro vals hl hv
    cases vals with
    | nil => simp at hl
    | cons v vals =>
      obtain ⟨h1, Ls, h2⟩ := ih vals (by simpa using hl) (fun i x u hx hu => hv (i + 1) x u (by simpa using hx) (by simpa using hu))
      have hx : v = .func (.func g) #[] #[.pointer (some (at_ ρ n (0 + 0)))] := hv 0 _ v rfl rfl
      refine ⟨by simpa using h1, fun i => if i = j then ρ n else Ls i, fun ρc hc => ?_⟩
      have hj : ρc (200000 + j) = ρ n := by rw [hc j (Nat.le_refl _) (by simp)]; simp
      obtain ⟨g1, g2⟩ := h2 ρc (fun i hi hlt => by rw [hc i (by omega) (by simp only [List.length_cons]; omega)]; show (if i = j then _ else Ls i) = Ls i; rw [if_neg (by omega)])
      refine ⟨fun i y u hy hu => ?_, fun m b' hb => ?_⟩
      · cases i with
        | zero =>
          simp at hy hu
          subst hy hu
          show v = _
          rw [hx]; simp only [at_, hj]
        | succ i => exact g1 i y u (by simpa using hy) (by simpa using hu)
      · simp only [Mem.find] at hb
        split at hb
        · rename_i e; subst e; cases hb
          obtain ⟨q1, q2⟩ := (hm n b hn).cells
          refine ⟨q1, fun i a ha => ?_⟩
          obtain ⟨u, hu1, hu2⟩ := q2 i a ha
          refine ⟨u, by simp only [at_, hj]; exact hu1, hu2.agree fun m hm' => ?_⟩
          have := flat_refs' (List.any_eq_true.2 ⟨a, List.mem_of_getElem? ha, hm'⟩)
          rw [hp m] at this; cases this
        · exact g2 m b' hb

/-! ### results -/
inductive Item where
  | vec (m : Nat) (cs : List Col)
  | nil (ks : List Kd)

def Item.cols : Item → List Col
  | .vec _ cs => cs
  | .nil ks => ks.map Kd.nil

def Item.ac : Item → AC
  | .vec m _ => .vec m
  | .nil _ => .con (.slice none 0 0)

def Item.name : Item → Option Nat
  | .vec m _ => some m
  | .nil _ => none

def noRows : List Col → Bool
  | [] => true
  | .rows _ _ :: _ => false
  | _ :: r => noRows r

def Item.ok (σ : Mem) : Item → Prop
  | .vec m cs => Mem.find σ m = some (.vec cs) ∧ noRows cs = true
  | .nil ks => 0 < width ks ∧ noRows (ks.map Kd.nil) = true

def ResC (its : List Item) (d : Nat) (a b : AC) : Prop :=
  ((∀ n, a.refs n = false) ∧ (∀ n, b.refs n = false) ∧ ∀ ρ v, CRep ρ a v → CRep ρ b v) ∨ ∃ k it, its[k]? = some it ∧ a = it.ac ∧ b = .vec (d + 10000 * k)

def ResCs (its : List Item) (d : Nat) : List AC → List AC → Prop
  | [], [] => True
  | a :: r, b :: s => ResC its d a b ∧ ResCs its d r s
  | _, _ => False

def ResS (its : List Item) (d : Nat) : List Seg → List Seg → Prop
  | [], [] => True
  | .ints k n l :: r, .ints k' n' l' :: s => (k = k' ∧ n = n' ∧ l = l') ∧ ResS its d r s
  | .bools n l :: r, .bools n' l' :: s => (n = n' ∧ l = l') ∧ ResS its d r s
  | .cells c :: r, .cells c' :: s => ResCs its d c c' ∧ ResS its d r s
  | _, _ => False

def ResT (its : List Item) (d : Nat) : List TV → List TV → Prop
  | [], [] => True
  | .c a :: r, .c b :: s => ResC its d a b ∧ ResT its d r s
  | .g x :: r, .g y :: s => ResS its d x y ∧ ResT its d r s
  | _, _ => False

def ResV (its : List Item) (d : Nat) : AV → AV → Prop
  | .one a, .one b => ResC its d a b
  | .agg s, .agg t => ResS its d s t
  | .tup v, .tup u => ResT its d v u
  | _, _ => False

def insAll (d : Nat) : Nat → List Item → Mem → Mem
  | _, [], σ => σ
  | k, it :: r, σ => insAll d (k + 1) r (Mem.ins (d + 10000 * k) (.vec it.cols) σ)

/-- what a call is known to give: plain values and new lists, named by the slot -/
def Res (d news : Nat) (σ : Mem) (K : AV → Mem → Prop) (av : AV) (σ' : Mem) : Prop :=
  ∃ its av', its.length ≤ news ∧ (∀ it ∈ its, it.ok σ') ∧ (its.map Item.name).Pairwise (fun a b => a = none ∨ a ≠ b) ∧ ResV its d av av' ∧ K av' (insAll d 0 its σ)

theorem noRows_inner {cs : List Col} (h : noRows cs = true) : ∀ (c : Nat) k ll, cs[c]? ≠ some (Col.rows k ll) := by
  induction cs with
  | nil => intro c k ll q; simp at q
  | cons x r ih =>
    intro c k ll q
    cases c with
    | zero => simp at q; subst q; simp [noRows] at h
    | succ c => exact ih (by cases x <;> simp_all [noRows]) c k ll (by simpa using q)

theorem noRows_no {L : Loc} {cs : List Col} (h : noRows cs = true) (k : Nat) : ¬ Inner L cs k := by
  rintro ⟨c, kk, ll, i, l, a, hc, _⟩
  exact noRows_inner h c kk ll hc

theorem noRows_sub {cs : List Col} (h : noRows cs = true) (i len : Nat) : noRows (cs.map (Col.sub i len)) = true := by
  induction cs with
  | nil => rfl
  | cons x r ih => cases x <;> simp_all [noRows, Col.sub]

section
variable {P : Program} {Γ : Gam} {D : Hints}

/-- a list of a result, where it lies -/
structure ItemAt (ρ : Rho) (σ : Mem) (n0 : Nat) (w : World) (it : Item) (L : Loc) : Prop where
  rep : VRep w L it.cols
  write : Writable w L (cwidth it.cols)
  flat : noRows it.cols = true
  val : ∀ v, CRep ρ it.ac v → v = .slice L.a L.len L.cap
  own : L.cap ≠ 0 → n0 ≤ L.1 ∧ ∃ m b, it.name = some m ∧ Mem.find σ m = some b ∧ Out ρ m b L.1

theorem item_at {ρ : Rho} {σ : Mem} {n0 : Nat} {w : World} {it : Item} (hm : MemRep ρ σ w) (hs : Sep ρ σ) (ho : ∀ n b k, Mem.find σ n = some b → Out ρ n b k → n0 ≤ k) (hok : it.ok σ) : ∃ L, ItemAt ρ σ n0 w it L := by
  cases it with
  | vec m cs =>
    obtain ⟨h1, h2⟩ := hok
    obtain ⟨g1, g2⟩ := hm m _ h1
    exact ⟨ρ m, g1, g2, h2, fun u hu => hu, fun q => ⟨ho m _ _ h1 ⟨q, rfl⟩, m, _, rfl, h1, q, rfl⟩⟩
  | nil ks =>
    obtain ⟨h1, h2⟩ := hok
    obtain ⟨g1, g2⟩ := nil_rep (w := w) h1
    exact ⟨loc0, g1, fun q => absurd rfl q, h2, fun u hu => hu.1, fun q => absurd rfl q⟩

theorem insAll_sound {E : Env} {a : Act} {w : World} {ρi : Rho} {σi : Mem} {n0 d : Nat} (Ls : Nat → Loc) : ∀ {its : List Item} {k : Nat} {ρ : Rho} {σ : Mem}, Rep E ρ [] σ a w → (∀ i it, its[i]? = some it → ItemAt ρi σi n0 w it (Ls (k + i))) → Sep ρi σi → E.w0.heap.size ≤ n0 →
    (its.map Item.name).Pairwise (fun a b => a = none ∨ a ≠ b) → (∀ i, i < its.length → freshB (d + 10000 * (k + i)) [] σ = true) → (∀ m b q, Mem.find σ m = some b → Foot ρ m b q → ∀ (i : Nat) it, its[i]? = some it → (Ls (k + i)).cap ≠ 0 → q ≠ (Ls (k + i)).1) →
    ∃ ρ', Rep E ρ' [] (insAll d k its σ) a w ∧ (∀ n, (∀ i, i < its.length → n ≠ d + 10000 * (k + i)) → ρ' n = ρ n) ∧ (∀ i, i < its.length → ρ' (d + 10000 * (k + i)) = Ls (k + i)) ∧ ∀ m b, Mem.find σ m = some b → Mem.find (insAll d k its σ) m = some b
  | [], k, ρ, σ, h, _, _, _, _, _, _ => ⟨ρ, h, fun _ _ => rfl, fun i hi => absurd hi (Nat.not_lt_zero _), fun _ _ q => q⟩
  | it :: its, k, ρ, σ, h, hat, hs, hn0, hpw, hfr, hdis => by
    have h0 := hat 0 it rfl
    rw [Nat.add_zero] at h0
    have hd := hfr 0 (by simp)
    rw [Nat.add_zero] at hd
    have hdis0 := fun m b q hb hf => hdis m b q hb hf 0 it rfl
    have step := (add_sound (L := Ls k) (b := .vec it.cols) h hd h.keep (fun _ _ _ _ _ => rfl) ⟨by rw [upd_eq]; exact h0.rep, by rw [upd_eq]; exact h0.write⟩ (fun q hq => by
      simp only [Out, upd_eq] at hq
      obtain ⟨hc, rfl⟩ := hq
      exact ⟨Or.inl (Nat.le_trans hn0 (h0.own hc).1), fun m c hm hF => hdis0 m c _ hm hF (by rw [Nat.add_zero]; exact hc) (by rw [Nat.add_zero]), fun hI => by simp only [Inn, upd_eq] at hI; exact noRows_no h0.flat _ hI⟩) (fun q hq => by
      simp only [Foot, upd_eq] at hq
      rcases hq with ⟨hc, rfl⟩ | hq
      · exact fun m c hm hO => hdis0 m c _ hm hO.foot (by rw [Nat.add_zero]; exact hc) (by rw [Nat.add_zero])
      · exact absurd hq (noRows_no h0.flat _))).find_eq (find_ins (freshB_parts hd).2.2)
    obtain ⟨q1, q2⟩ := List.pairwise_cons.1 hpw
    obtain ⟨d1, _, d3⟩ := freshB_parts hd
    obtain ⟨ρ', r1, r2, r3, r4⟩ := insAll_sound (ρi := ρi) (σi := σi) (n0 := n0) (d := d) Ls (its := its) (k := k + 1) step (fun i it' hi => by have := hat (i + 1) it' (by simpa using hi); rw [show k + 1 + i = k + (i + 1) by omega]; exact this) hs hn0 q2 (fun i hi => by
      have := hfr (i + 1) (by simp only [List.length_cons]; omega)
      obtain ⟨f1, f2, f3⟩ := freshB_parts this
      rw [show k + 1 + i = k + (i + 1) by omega]
      simp only [freshB, f2, Bool.and_eq_true, decide_eq_true_eq, Bool.not_eq_true', and_true]
      refine ⟨f1, ?_⟩
      have e : ∀ (σ : Mem) (dd : Nat) (b : Blk) (x : Nat), memRefs x (Mem.ins dd b σ) = (dd == x || segsRefs x b.segs || memRefs x σ) := by
        intro σ dd b x
        induction σ with
        | nil => simp [Mem.ins, memRefs]
        | cons p r ih =>
          obtain ⟨m, y⟩ := p
          simp only [Mem.ins]
          split
          · simp only [memRefs, List.any_cons] at ih ⊢
            rw [ih]
            cases (m == x || segsRefs x y.segs) <;> cases (dd == x || segsRefs x b.segs) <;> simp
          · simp [memRefs]
      rw [e, f3]
      simp [Blk.segs, segsRefs]
      omega) (fun m b q hb hf i it' hi hc => by
      rw [show k + 1 + i = k + (i + 1) by omega] at hc ⊢
      rw [find_ins d3] at hb
      simp only [Mem.find] at hb
      split at hb
      · rename_i e
        cases hb
        subst e
        simp only [Foot, upd_eq] at hf
        rcases hf with ⟨hc0, rfl⟩ | hf
        · intro eq
          have hi' := hat (i + 1) it' (by simpa using hi)
          obtain ⟨_, m1, b1, n1, f1, o1⟩ := h0.own hc0
          obtain ⟨_, m2, b2, n2, f2, o2⟩ := hi'.own hc
          have hne : m1 ≠ m2 := fun e => by
            have := q1 it'.name (List.mem_map.2 ⟨it', List.mem_of_getElem? hi, rfl⟩)
            rw [n1, n2, e] at this
            rcases this with q | q
            · cases q
            · exact q rfl
          rw [← eq] at o2
          exact hs.1 m1 m2 b1 b2 _ f1 f2 hne o1 o2.foot
        · exact absurd hf (noRows_no h0.flat _)
      · rename_i hne
        have hf' : Foot ρ m b q := (Foot.agree (upd_ne (fun e => hne e.symm))).1 hf
        exact hdis m b q hb hf' (i + 1) it' (by simpa using hi) hc)
    refine ⟨ρ', r1, fun n hn => ?_, fun i hi => ?_, fun m b hb => r4 m b (ins_old hd m b hb)⟩
    · rw [r2 n (fun i hi => by have := hn (i + 1) (by simp only [List.length_cons]; omega); rw [show k + 1 + i = k + (i + 1) by omega]; exact this)]
      exact upd_ne (by have := hn 0 (by simp); rw [Nat.add_zero] at this; exact this)
    · cases i with
      | zero =>
        rw [Nat.add_zero, r2 _ (fun i hi => by omega)]
        exact upd_eq _ _ _
      | succ i =>
        have := r3 i (by simp only [List.length_cons] at hi; omega)
        rw [show k + 1 + i = k + (i + 1) by omega] at this
        exact this

theorem resC_sound {its : List Item} {d : Nat} {ρ ρ' : Rho} {a b : AC} {v : Value} (h : ResC its d a b) (hL : ∀ i it, its[i]? = some it → ∀ v, CRep ρ it.ac v → CRep ρ' (.vec (d + 10000 * i)) v) (hv : CRep ρ a v) : CRep ρ' b v := by
  rcases h with ⟨h1, h2, h3⟩ | ⟨k, it, h1, rfl, rfl⟩
  · exact (h3 ρ v hv).agree fun n hn => by rw [h2 n] at hn; cases hn
  · exact hL k it h1 v hv

theorem resCs_sound {its : List Item} {d : Nat} {ρ ρ' : Rho} (hL : ∀ i it, its[i]? = some it → ∀ v, CRep ρ it.ac v → CRep ρ' (.vec (d + 10000 * i)) v) : ∀ {l m : List AC}, ResCs its d l m → l.length = m.length ∧ ∀ (j : Nat) a b v, l[j]? = some a → m[j]? = some b → CRep ρ a v → CRep ρ' b v
  | [], [], _ => ⟨rfl, fun j a b v h => by simp at h⟩
  | a :: l, b :: m, h => by
    obtain ⟨g1, g2⟩ := resCs_sound hL h.2
    refine ⟨by simp [g1], fun j x y v hx hy hv => ?_⟩
    cases j with
    | zero => simp at hx hy; subst hx hy; exact resC_sound h.1 hL hv
    | succ j => exact g2 j x y v (by simpa using hx) (by simpa using hy) hv
  | [], _ :: _, h => h.elim
  | _ :: _, [], h => h.elim

theorem resS_sound {its : List Item} {d : Nat} {ρ ρ' : Rho} (hL : ∀ i it, its[i]? = some it → ∀ v, CRep ρ it.ac v → CRep ρ' (.vec (d + 10000 * i)) v) : ∀ {s t : List Seg}, ResS its d s t → segsOk s → segsOk t ∧ (flat s).length = (flat t).length ∧ ∀ (j : Nat) a b v, (flat s)[j]? = some a → (flat t)[j]? = some b → CRep ρ a v → CRep ρ' b v
  | [], [], _, _ => ⟨trivial, rfl, fun j a b v h => by simp [flat] at h⟩
  | .ints k n l :: r, .ints k' n' l' :: s, h, ho => by
    obtain ⟨⟨rfl, rfl, rfl⟩, h⟩ := h
    obtain ⟨g1, g2, g3⟩ := resS_sound hL h ho.2
    refine ⟨⟨ho.1, g1⟩, by simp [flat, g2], fun j a b v ha hb hv => ?_⟩
    simp only [flat] at ha hb
    rw [List.getElem?_append] at ha hb
    split at ha
    · rename_i hj; rw [if_pos hj] at hb; rw [ha] at hb; cases hb
      simp only [Seg.flat, List.getElem?_map, Option.map_eq_some_iff] at ha
      obtain ⟨x, _, rfl⟩ := ha; exact hv
    · rename_i hj; rw [if_neg hj] at hb; exact g3 _ a b v ha hb hv
  | .bools n l :: r, .bools n' l' :: s, h, ho => by
    obtain ⟨⟨rfl, rfl⟩, h⟩ := h
    obtain ⟨g1, g2, g3⟩ := resS_sound hL h ho.2
    refine ⟨⟨ho.1, g1⟩, by simp [flat, g2], fun j a b v ha hb hv => ?_⟩
    simp only [flat] at ha hb
    rw [List.getElem?_append] at ha hb
    split at ha
    · rename_i hj; rw [if_pos hj] at hb; rw [ha] at hb; cases hb
      simp only [Seg.flat, List.getElem?_map, Option.map_eq_some_iff] at ha
      obtain ⟨x, _, rfl⟩ := ha; exact hv
    · rename_i hj; rw [if_neg hj] at hb; exact g3 _ a b v ha hb hv
  | .cells c :: r, .cells c' :: s, h, ho => by
    obtain ⟨hc, h⟩ := h
    obtain ⟨c1, c2⟩ := resCs_sound hL hc
    obtain ⟨g1, g2, g3⟩ := resS_sound hL h ho.2
    refine ⟨⟨trivial, g1⟩, by simp [flat, Seg.flat, g2, c1], fun j a b v ha hb hv => ?_⟩
    simp only [flat, Seg.flat] at ha hb
    rw [List.getElem?_append] at ha hb
    split at ha
    · rename_i hj; rw [if_pos (by omega)] at hb; exact c2 j a b v ha hb hv
    · rename_i hj; rw [if_neg (by omega), ← c1] at hb; exact g3 _ a b v ha hb hv
  | [], _ :: _, h, _ => h.elim
  | .ints _ _ _ :: _, [], h, _ => h.elim
  | .bools _ _ :: _, [], h, _ => h.elim
  | .cells _ :: _, [], h, _ => h.elim
  | .ints _ _ _ :: _, .bools _ _ :: _, h, _ => h.elim
  | .ints _ _ _ :: _, .cells _ :: _, h, _ => h.elim
  | .bools _ _ :: _, .ints _ _ _ :: _, h, _ => h.elim
  | .bools _ _ :: _, .cells _ :: _, h, _ => h.elim
  | .cells _ :: _, .ints _ _ _ :: _, h, _ => h.elim
  | .cells _ :: _, .bools _ _ :: _, h, _ => h.elim

theorem resAgg_sound {its : List Item} {d : Nat} {ρ ρ' : Rho} (hL : ∀ i it, its[i]? = some it → ∀ v, CRep ρ it.ac v → CRep ρ' (.vec (d + 10000 * i)) v) {s t : List Seg} {v : Value} (h : ResS its d s t) (hv : SRep ρ (.agg s) v) : SRep ρ' (.agg t) v := by
  obtain ⟨ho, cs, rfl, hf⟩ := hv
  obtain ⟨g1, g2, g3⟩ := resS_sound hL h ho
  refine ⟨g1, cs, rfl, by rw [← g2]; exact hf.1, fun j b u hb hu => ?_⟩
  have hj : j < (flat s).length := by rw [g2]; exact (List.getElem?_eq_some_iff.1 hb).1
  exact g3 j _ b u (List.getElem?_eq_getElem hj) hb (hf.2 j _ u (List.getElem?_eq_getElem hj) hu)

theorem resT_sound {its : List Item} {d : Nat} {ρ ρ' : Rho} (hL : ∀ i it, its[i]? = some it → ∀ v, CRep ρ it.ac v → CRep ρ' (.vec (d + 10000 * i)) v) : ∀ {l m : List TV}, ResT its d l m → l.length = m.length ∧ ∀ (j : Nat) a b v, l[j]? = some a → m[j]? = some b → TRep ρ a v → TRep ρ' b v
  | [], [], _ => ⟨rfl, fun j a b v h => by simp at h⟩
  | .c a :: l, .c b :: m, h => by
    obtain ⟨g1, g2⟩ := resT_sound hL h.2
    refine ⟨by simp [g1], fun j x y v hx hy hv => ?_⟩
    cases j with
    | zero => simp at hx hy; subst hx hy; exact resC_sound h.1 hL hv
    | succ j => exact g2 j x y v (by simpa using hx) (by simpa using hy) hv
  | .g a :: l, .g b :: m, h => by
    obtain ⟨g1, g2⟩ := resT_sound hL h.2
    refine ⟨by simp [g1], fun j x y v hx hy hv => ?_⟩
    cases j with
    | zero => simp at hx hy; subst hx hy; exact resAgg_sound hL h.1 hv
    | succ j => exact g2 j x y v (by simpa using hx) (by simpa using hy) hv
  | [], _ :: _, h => h.elim
  | .c _ :: _, [], h => h.elim
  | .g _ :: _, [], h => h.elim
  | .c _ :: _, .g _ :: _, h => h.elim
  | .g _ :: _, .c _ :: _, h => h.elim

theorem resV_sound {its : List Item} {d : Nat} {ρ ρ' : Rho} (hL : ∀ i it, its[i]? = some it → ∀ v, CRep ρ it.ac v → CRep ρ' (.vec (d + 10000 * i)) v) {x y : AV} {v : Value} (h : ResV its d x y) (hv : SRep ρ x v) : SRep ρ' y v := by
  cases x <;> cases y <;> simp only [ResV] at h
  · exact resC_sound h hL hv
  · exact resAgg_sound hL h hv
  · obtain ⟨us, rfl, hl, hall⟩ := hv
    obtain ⟨g1, g2⟩ := resT_sound hL h
    refine ⟨us, rfl, by omega, fun j b u hb hu => ?_⟩
    rename_i l m
    have hj : j < l.length := by rw [g1]; exact (List.getElem?_eq_some_iff.1 hb).1
    exact g2 j _ b u (List.getElem?_eq_getElem hj) hb (hall j _ u (List.getElem?_eq_getElem hj) hu)

def rhoC (ρ : Rho) (Ls : Nat → Loc) : Rho := fun n => if n < 200000 then loc0 else if n < 1000000 then Ls (n - 200000) else ρ n
theorem rhoC_arg {ρ : Rho} {Ls : Nat → Loc} {i : Nat} (hi : i < 800000) : rhoC ρ Ls (200000 + i) = Ls i := by
  unfold rhoC
  split
  · omega
  · split
    · have e : 200000 + i - 200000 = i := by omega
      rw [e]
    · omega
theorem rhoC_glob {ρ : Rho} {Ls : Nat → Loc} {g : Nat} : rhoC ρ Ls (gname g) = ρ (gname g) := by
  have e1 : ¬ gname g < 200000 := by simp only [gname]; omega
  have e2 : ¬ gname g < 1000000 := by simp only [gname]; omega
  unfold rhoC
  rw [if_neg e1, if_neg e2]

/-- a function that reads lists and gives plain values and new lists -/
theorem Good.reads (hm : P.follows .mixedOrders = true) (hΓ : GoodG P Γ) {f : FuncId} {fn : Func} (hf : P.funcs[f]? = some fn) (hb : fn.body.isSome = true) {s : Spec} (hs : s.mods = false)
    (hsem : ∀ d args σ (K : AV → Mem → Prop), s.sem d args σ K → ∃ cargs τ, Canon σ 0 args cargs τ ∧ args.length ≤ 1000 ∧ ∃ n, callsx P Γ D fn n cargs τ (Res d s.news σ K)) : Good P f s := by
  refine ⟨fun d args σ K h ρ w vals hg hmem hsep hl hv hnew => ?_⟩
  obtain ⟨cargs, τ, hcan, hlen, n, hc⟩ := hsem d args σ K h
  obtain ⟨h1, Ls, h2⟩ := canon_sound hmem hsep hcan vals.toList (by simpa using hl) (fun i x v hx hu => hv i x v hx (by simpa using hu))
  generalize hρ0 : rhoC ρ Ls = ρc
  have hρc : ∀ i, 0 ≤ i → i < 0 + args.length → ρc (200000 + i) = Ls i := fun i _ hi => by rw [← hρ0]; exact rhoC_arg (by omega)
  obtain ⟨g1, g2⟩ := h2 ρc hρc
  have hgc : Glob ρc := fun g => by
    have e : ρc (gname g) = ρ (gname g) := by rw [← hρ0]; exact rhoC_glob
    rw [e]; exact hg g
  have hno := canon_views hcan ρc
  have hsepc : Sep ρc τ := ⟨fun n m b c k hn _ _ hO => absurd hO (hno n b k hn), fun n b k hn hO => absurd hO (hno n b k hn)⟩
  refine (callsx_sound hm hΓ hf hb hc (ex := fun _ => False) hgc (by simpa using h1) (fun i y v hy hu => g1 i y v hy (by simpa using hu)) g2 hsepc (fun n b k hn hO => absurd hO (hno n b k hn))).mono ?_
  rintro e w' ⟨v, av', σ'', ρ'', rfl, ⟨its, av, hlen', hok, hpw, hres, hK⟩, hsr, hmem'', hsep'', _, hown'', hk⟩
  have hsame : ∀ i, i < w.heap.size → w'.heap[i]? = w.heap[i]? := fun i hi => hk.block i hi (fun q => q)
  have hk' : Keeps (OwnAt ρ σ) w w' := ⟨hk.os, hk.tape, hk.output, hk.size, fun k hk' _ => hsame k hk'⟩
  let E : Env := ⟨w, ρ, OwnAt ρ σ, hg⟩
  let a : Act := { tmps := #[], defers := [] }
  have hR : Rep E ρ [] σ a w' := ⟨⟨rfl, fun t v ht => by simp [a] at ht⟩, rfl, hmem.keeps (fun n b k hb hk => hsame _ (in_range (hmem n b hb) hk)), hsep, fun _ _ => rfl, fun n b k hn hO => Or.inr ⟨n, b, hn, hO⟩, hk'⟩
  have hat : ∀ it ∈ its, ∃ L, ItemAt ρ'' σ'' w.heap.size w' it L := fun it hi => item_at hmem'' hsep'' (fun n b k hn hO => by rcases hown'' n b k hn hO with q | q; exact q; exact q.elim) (hok it hi)
  let Ms : Nat → Loc := fun i => if hi : i < its.length then Classical.choose (hat its[i] (List.getElem_mem hi)) else loc0
  have hMs : ∀ i it, its[i]? = some it → ItemAt ρ'' σ'' w.heap.size w' it (Ms i) := fun i it hi => by
    obtain ⟨hlt, rfl⟩ := List.getElem?_eq_some_iff.1 hi
    show ItemAt ρ'' σ'' w.heap.size w' its[i] (if hi : i < its.length then Classical.choose (hat its[i] (List.getElem_mem hi)) else loc0)
    rw [dif_pos hlt]
    exact Classical.choose_spec (hat its[i] (List.getElem_mem hlt))
  obtain ⟨ρ', r1, r2, r3, r4⟩ := insAll_sound (d := d) (k := 0) Ms hR (fun i it hi => by rw [Nat.zero_add]; exact hMs i it hi) hsep'' (Nat.le_refl _) hpw (fun i hi => by
    obtain ⟨q1, q2⟩ := hnew i (by omega)
    rw [Nat.zero_add]
    simp only [freshB, q2, frRefs, List.any_nil, Bool.not_false, Bool.and_true, decide_eq_true_eq]
    exact q1) (fun m b q hb hf i it hi hc => by
    rw [Nat.zero_add] at hc ⊢
    have := in_range (hmem m b hb) hf
    have := ((hMs i it hi).own hc).1
    omega)
  refine ⟨v, av, _, ρ', rfl, hK, resV_sound (fun i it hi u hu => ?_) hres hsr, r1.mem, r1.sep, fun n hn => r2 n fun i hi => by rw [Nat.zero_add]; exact hn i (by omega), fun n b k hn hO => ?_, hk', fun _ => ⟨hk, r4⟩⟩
  · show u = _
    have hlt := (List.getElem?_eq_some_iff.1 hi).1
    have e := r3 i hlt
    rw [Nat.zero_add] at e
    rw [e]
    exact (hMs i it hi).val u hu
  · rcases r1.own n b k hn hO with q | q
    · exact Or.inr q
    · exact Or.inl q
end
end Go.Sx
