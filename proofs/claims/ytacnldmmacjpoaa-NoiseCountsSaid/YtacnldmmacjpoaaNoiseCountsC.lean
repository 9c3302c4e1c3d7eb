/- Own texts of this proof, laid one behind the other: SxR, ByteM, ResM, TabM, CellM, NzB, NzB2, NzG3, NzG2, NzG, Sx17, Sx18, NzP, BitsM, NzP2, NzP3, SxO. -/
import Derived.Test.YtacnldmmacjpoaaNoiseCountsB
import Derived.Test.YtacnldmmacjpoaaProg
import Derived.OpenShut
import Derived.WideShapes
import Derived.Below
import Derived.WalkKit
import Derived.ProofKit
import Derived.ChangeOld
import Derived.ChangeSlices
import Derived.SizedLaws
import Derived.Deep.Slices

/- Functions that read lists and give plain values and new lists. -/
namespace Go.Sx
open Go
set_option linter.unusedSimpArgs false
set_option linter.unusedVariables false

/-- the arguments of a call, as its function sees them: lists are read under names of their own -/
inductive Canon (σ : Mem) : Nat → List AV → List AV → Mem → Prop
  | nil (j : Nat) : Canon σ j [] [] []
  | plain {j : Nat} {x : AV} {xs ys : List AV} {τ : Mem} : plainAV x → Canon σ (j + 1) xs ys τ → Canon σ j (x :: xs) (x :: ys) τ
  | row {j : Nat} {x : AV} {xs ys : List AV} {τ : Mem} (ks : List Kd) (cs : List Col) : rdx σ ks x (fun c => c = cs) → 0 < width ks → Canon σ (j + 1) xs ys τ → Canon σ j (x :: xs) (.one (.vec (200000 + j)) :: ys) ((200000 + j, .rview cs) :: τ)
  | clo {j g n : Nat} {b : Blk} {xs ys : List AV} {τ : Mem} : Mem.find σ n = some b → (∀ m, segsRefs m b.segs = false) → Canon σ (j + 1) xs ys τ → Canon σ j (.one (.clo g n 0 0) :: xs) (.one (.clo g (200000 + j) 0 0) :: ys) ((200000 + j, .view b.segs) :: τ)
  | ptr {j n : Nat} {b : Blk} {xs ys : List AV} {τ : Mem} : Mem.find σ n = some b → (∀ m, segsRefs m b.segs = false) → Canon σ (j + 1) xs ys τ → Canon σ j (.one (.ptr n 0 0) :: xs) (.one (.ptr (200000 + j) 0 0) :: ys) ((200000 + j, .view b.segs) :: τ)
  | glob {j g : Nat} {b : Blk} {xs ys : List AV} {τ : Mem} : Mem.find σ (gname g) = some b → (∀ m, segsRefs m b.segs = false) → Canon σ j xs ys τ → Canon σ j xs ys ((gname g, .view b.segs) :: τ)

theorem canon_views {σ τ : Mem} : ∀ {j : Nat} {xs ys : List AV}, Canon σ j xs ys τ → ∀ ρ n b k, Mem.find τ n = some b → ¬ Out ρ n b k := by
  intro j xs ys h
  induction h with
  | nil j => intro ρ n b k hn; simp [Mem.find] at hn
  | plain _ _ ih => exact ih
  | row ks cs _ _ _ ih =>
    intro ρ n b k hn
    simp only [Mem.find] at hn
    split at hn
    · cases hn; exact fun q => q
    · exact ih ρ n b k hn
  | clo _ _ _ ih =>
    intro ρ n b k hn
    simp only [Mem.find] at hn
    split at hn
    · cases hn; exact fun q => q
    · exact ih ρ n b k hn
  | ptr _ _ _ ih =>
    intro ρ n b k hn
    simp only [Mem.find] at hn
    split at hn
    · cases hn; exact fun q => q
    · exact ih ρ n b k hn
  | glob _ _ _ ih =>
    intro ρ n b k hn
    simp only [Mem.find] at hn
    split at hn
    · cases hn; exact fun q => q
    · exact ih ρ n b k hn

theorem plainAV.any {x : AV} (h : plainAV x) {ρ ρ' : Rho} {v : Value} (hv : SRep ρ x v) : SRep ρ' x v := hv.agree fun n hn => by rw [h n] at hn; cases hn

theorem canon_sound {σ τ : Mem} {ρ : Rho} {w : World} (hm : MemRep ρ σ w) (hs : Sep ρ σ) : ∀ {j : Nat} {xs ys : List AV}, Canon σ j xs ys τ → ∀ (vals : List Value), xs.length = vals.length → (∀ (i : Nat) x v, xs[i]? = some x → vals[i]? = some v → SRep ρ x v) →
    ys.length = vals.length ∧ ∃ Ls : Nat → Loc, ∀ ρc : Rho, (∀ i, j ≤ i → i < j + xs.length → ρc (200000 + i) = Ls i) → (∀ g, ρc (gname g) = ρ (gname g)) → (∀ (i : Nat) y v, ys[i]? = some y → vals[i]? = some v → SRep ρc y v) ∧ MemRep ρc τ w := by
  intro j xs ys h
  induction h with
  | nil j => intro vals hl _; exact ⟨hl, fun _ => loc0, fun ρc _ _ => ⟨fun i y v hy => by simp at hy, fun n b hb => by simp [Mem.find] at hb⟩⟩
  | @plain j x xs ys τ hp _ ih =>
    intro vals hl hv
    cases vals with
    | nil => simp at hl
    | cons v vals =>
      obtain ⟨h1, Ls, h2⟩ := ih vals (by simpa using hl) (fun i x u hx hu => hv (i + 1) x u (by simpa using hx) (by simpa using hu))
      refine ⟨by simpa using h1, Ls, fun ρc hc hcg => ?_⟩
      obtain ⟨g1, g2⟩ := h2 ρc (fun i hi hlt => hc i (by omega) (by simp only [List.length_cons]; omega)) hcg
      refine ⟨fun i y u hy hu => ?_, g2⟩
      cases i with
      | zero => simp at hy hu; subst hy hu; exact hp.any (hv 0 x v rfl rfl)
      | succ i => exact g1 i y u (by simpa using hy) (by simpa using hu)
  | @row j x xs ys τ ks cs hr hk _ ih =>
    intro vals hl hv
    cases vals with
    | nil => simp at hl
    | cons v vals =>
      obtain ⟨h1, Ls, h2⟩ := ih vals (by simpa using hl) (fun i x u hx hu => hv (i + 1) x u (by simpa using hx) (by simpa using hu))
      obtain ⟨cs', L, hR, rfl⟩ := rdx_sound hr hk hm hs (hv 0 x v rfl rfl)
      refine ⟨by simpa using h1, fun i => if i = j then L else Ls i, fun ρc hc hcg => ?_⟩
      have hj : ρc (200000 + j) = L := by rw [hc j (Nat.le_refl _) (by simp)]; simp
      obtain ⟨g1, g2⟩ := h2 ρc (fun i hi hlt => by rw [hc i (by omega) (by simp only [List.length_cons]; omega)]; show (if i = j then _ else Ls i) = Ls i; rw [if_neg (by omega)]) hcg
      refine ⟨fun i y u hy hu => ?_, fun n b hb => ?_⟩
      · cases i with
        | zero =>
          simp at hy hu
          subst hy hu
          show v = _
          rw [hj]; exact hR.val
        | succ i => exact g1 i y u (by simpa using hy) (by simpa using hu)
      · simp only [Mem.find] at hb
        split at hb
        · rename_i e; subst e; cases hb
          show VRep w (ρc (200000 + j)) cs'
          rw [hj]; exact hR.rep
        · exact g2 n b hb
  | @clo j g n b xs ys τ hn hp _ ih =>
    intro vals hl hv
    cases vals with
    | nil => simp at hl
    | cons v vals =>
      obtain ⟨h1, Ls, h2⟩ := ih vals (by simpa using hl) (fun i x u hx hu => hv (i + 1) x u (by simpa using hx) (by simpa using hu))
      have hx : v = .func (.func g) #[] #[.pointer (some (at_ ρ n (0 + 0)))] := hv 0 _ v rfl rfl
      refine ⟨by simpa using h1, fun i => if i = j then ρ n else Ls i, fun ρc hc hcg => ?_⟩
      have hj : ρc (200000 + j) = ρ n := by rw [hc j (Nat.le_refl _) (by simp)]; simp
      obtain ⟨g1, g2⟩ := h2 ρc (fun i hi hlt => by rw [hc i (by omega) (by simp only [List.length_cons]; omega)]; show (if i = j then _ else Ls i) = Ls i; rw [if_neg (by omega)]) hcg
      refine ⟨fun i y u hy hu => ?_, fun m b' hb => ?_⟩
      · cases i with
        | zero =>
          simp at hy hu
          subst hy hu
          show v = _
          rw [hx]; simp only [at_, hj]
        | succ i => exact g1 i y u (by simpa using hy) (by simpa using hu)
      · simp only [Mem.find] at hb
        split at hb
        · rename_i e; subst e; cases hb
          obtain ⟨q1, q2⟩ := (hm n b hn).cells
          refine ⟨q1, fun i a ha => ?_⟩
          obtain ⟨u, hu1, hu2⟩ := q2 i a ha
          refine ⟨u, by simp only [at_, hj]; exact hu1, hu2.agree fun m hm' => ?_⟩
          have := flat_refs' (List.any_eq_true.2 ⟨a, List.mem_of_getElem? ha, hm'⟩)
          rw [hp m] at this; cases this
        · exact g2 m b' hb
  | @ptr j n b xs ys τ hn hp _ ih =>
    intro vals hl hv
    cases vals with
    | nil => simp at hl
    | cons v vals =>
      obtain ⟨h1, Ls, h2⟩ := ih vals (by simpa using hl) (fun i x u hx hu => hv (i + 1) x u (by simpa using hx) (by simpa using hu))
      have hx : v = .pointer (some (at_ ρ n (0 + 0))) := hv 0 _ v rfl rfl
      refine ⟨by simpa using h1, fun i => if i = j then ρ n else Ls i, fun ρc hc hcg => ?_⟩
      have hj : ρc (200000 + j) = ρ n := by rw [hc j (Nat.le_refl _) (by simp)]; simp
      obtain ⟨g1, g2⟩ := h2 ρc (fun i hi hlt => by rw [hc i (by omega) (by simp only [List.length_cons]; omega)]; show (if i = j then _ else Ls i) = Ls i; rw [if_neg (by omega)]) hcg
      refine ⟨fun i y u hy hu => ?_, fun m b' hb => ?_⟩
      · cases i with
        | zero =>
          simp at hy hu
          subst hy hu
          show v = _
          rw [hx]; simp only [at_, hj]
        | succ i => exact g1 i y u (by simpa using hy) (by simpa using hu)
      · simp only [Mem.find] at hb
        split at hb
        · rename_i e; subst e; cases hb
          obtain ⟨q1, q2⟩ := (hm n b hn).cells
          refine ⟨q1, fun i a ha => ?_⟩
          obtain ⟨u, hu1, hu2⟩ := q2 i a ha
          refine ⟨u, by simp only [at_, hj]; exact hu1, hu2.agree fun m hm' => ?_⟩
          have := flat_refs' (List.any_eq_true.2 ⟨a, List.mem_of_getElem? ha, hm'⟩)
          rw [hp m] at this; cases this
        · exact g2 m b' hb
  | @glob j g b xs ys τ hn hp _ ih =>
    intro vals hl hv
    obtain ⟨h1, Ls, h2⟩ := ih vals hl hv
    refine ⟨h1, Ls, fun ρc hc hcg => ?_⟩
    obtain ⟨g1, g2⟩ := h2 ρc hc hcg
    refine ⟨g1, fun m b' hb => ?_⟩
    simp only [Mem.find] at hb
    split at hb
    · rename_i e; subst e; cases hb
      obtain ⟨q1, q2⟩ := (hm (gname g) b hn).cells
      refine ⟨q1, fun i a ha => ?_⟩
      obtain ⟨u, hu1, hu2⟩ := q2 i a ha
      refine ⟨u, by simp only [at_, hcg]; exact hu1, hu2.agree fun m hm' => ?_⟩
      have := flat_refs' (List.any_eq_true.2 ⟨a, List.mem_of_getElem? ha, hm'⟩)
      rw [hp m] at this; cases this
    · exact g2 m b' hb

/-! ### results -/
inductive Item where
  | vec (m : Nat) (cs : List Col)
  | nil (ks : List Kd)

def Item.cols : Item → List Col
  | .vec _ cs => cs
  | .nil ks => ks.map Kd.nil

def Item.ac : Item → AC
  | .vec m _ => .vec m
  | .nil _ => .con (.slice none 0 0)

def Item.name : Item → Option Nat
  | .vec m _ => some m
  | .nil _ => none

def noRows : List Col → Bool
  | [] => true
  | .rows _ _ :: _ => false
  | _ :: r => noRows r

def Item.ok (σ : Mem) : Item → Prop
  | .vec m cs => Mem.find σ m = some (.vec cs) ∧ noRows cs = true
  | .nil ks => 0 < width ks ∧ noRows (ks.map Kd.nil) = true

def ResC (its : List Item) (d : Nat) (a b : AC) : Prop :=
  ((∀ n, a.refs n = false) ∧ (∀ n, b.refs n = false) ∧ ∀ ρ v, CRep ρ a v → CRep ρ b v) ∨ ∃ k it, its[k]? = some it ∧ a = it.ac ∧ b = .vec (d + 10000 * k)

def ResCs (its : List Item) (d : Nat) : List AC → List AC → Prop
  | [], [] => True
  | a :: r, b :: s => ResC its d a b ∧ ResCs its d r s
  | _, _ => False

def ResS (its : List Item) (d : Nat) : List Seg → List Seg → Prop
  | [], [] => True
  | .ints k n l :: r, .ints k' n' l' :: s => (k = k' ∧ n = n' ∧ l = l') ∧ ResS its d r s
  | .bools n l :: r, .bools n' l' :: s => (n = n' ∧ l = l') ∧ ResS its d r s
  | .cells c :: r, .cells c' :: s => ResCs its d c c' ∧ ResS its d r s
  | _, _ => False

def ResT (its : List Item) (d : Nat) : List TV → List TV → Prop
  | [], [] => True
  | .c a :: r, .c b :: s => ResC its d a b ∧ ResT its d r s
  | .g x :: r, .g y :: s => ResS its d x y ∧ ResT its d r s
  | _, _ => False

def ResV (its : List Item) (d : Nat) : AV → AV → Prop
  | .one a, .one b => ResC its d a b
  | .agg s, .agg t => ResS its d s t
  | .tup v, .tup u => ResT its d v u
  | _, _ => False

def insAll (d : Nat) : Nat → List Item → Mem → Mem
  | _, [], σ => σ
  | k, it :: r, σ => insAll d (k + 1) r (Mem.ins (d + 10000 * k) (.vec it.cols) σ)

/-- what a call is known to give: plain values and new lists, named by the slot -/
def Res (d news : Nat) (σ : Mem) (K : AV → Mem → Prop) (av : AV) (σ' : Mem) : Prop :=
  ∃ its av', its.length ≤ news ∧ (∀ it ∈ its, it.ok σ') ∧ (its.map Item.name).Pairwise (fun a b => a = none ∨ a ≠ b) ∧ ResV its d av av' ∧ K av' (insAll d 0 its σ)

theorem noRows_inner {cs : List Col} (h : noRows cs = true) : ∀ (c : Nat) k ll, cs[c]? ≠ some (Col.rows k ll) := by
  induction cs with
  | nil => intro c k ll q; simp at q
  | cons x r ih =>
    intro c k ll q
    cases c with
    | zero => simp at q; subst q; simp [noRows] at h
    | succ c => exact ih (by cases x <;> simp_all [noRows]) c k ll (by simpa using q)

theorem noRows_no {L : Loc} {cs : List Col} (h : noRows cs = true) (k : Nat) : ¬ Inner L cs k := by
  rintro ⟨c, kk, ll, i, l, a, hc, _⟩
  exact noRows_inner h c kk ll hc

theorem noRows_sub {cs : List Col} (h : noRows cs = true) (i len : Nat) : noRows (cs.map (Col.sub i len)) = true := by
  induction cs with
  | nil => rfl
  | cons x r ih => cases x <;> simp_all [noRows, Col.sub]

section
variable {P : Program} {Γ : Gam} {D : Hints}

/-- a list of a result, where it lies -/
structure ItemAt (ρ : Rho) (σ : Mem) (n0 : Nat) (w : World) (it : Item) (L : Loc) : Prop where
  rep : VRep w L it.cols
  write : Writable w L (cwidth it.cols)
  flat : noRows it.cols = true
  val : ∀ v, CRep ρ it.ac v → v = .slice L.a L.len L.cap
  own : L.cap ≠ 0 → n0 ≤ L.1 ∧ ∃ m b, it.name = some m ∧ Mem.find σ m = some b ∧ Out ρ m b L.1

theorem item_at {ρ : Rho} {σ : Mem} {n0 : Nat} {w : World} {it : Item} (hm : MemRep ρ σ w) (hs : Sep ρ σ) (ho : ∀ n b k, Mem.find σ n = some b → Out ρ n b k → n0 ≤ k) (hok : it.ok σ) : ∃ L, ItemAt ρ σ n0 w it L := by
  cases it with
  | vec m cs =>
    obtain ⟨h1, h2⟩ := hok
    obtain ⟨g1, g2⟩ := hm m _ h1
    exact ⟨ρ m, g1, g2, h2, fun u hu => hu, fun q => ⟨ho m _ _ h1 ⟨q, rfl⟩, m, _, rfl, h1, q, rfl⟩⟩
  | nil ks =>
    obtain ⟨h1, h2⟩ := hok
    obtain ⟨g1, g2⟩ := nil_rep (w := w) h1
    exact ⟨loc0, g1, fun q => absurd rfl q, h2, fun u hu => hu.1, fun q => absurd rfl q⟩

theorem insAll_sound {E : Env} {a : Act} {w : World} {ρi : Rho} {σi : Mem} {n0 d : Nat} (Ls : Nat → Loc) : ∀ {its : List Item} {k : Nat} {ρ : Rho} {σ : Mem}, Rep E ρ [] σ a w → (∀ i it, its[i]? = some it → ItemAt ρi σi n0 w it (Ls (k + i))) → Sep ρi σi → E.w0.heap.size ≤ n0 →
    (its.map Item.name).Pairwise (fun a b => a = none ∨ a ≠ b) → (∀ i, i < its.length → freshB (d + 10000 * (k + i)) [] σ = true) → (∀ m b q, Mem.find σ m = some b → Foot ρ m b q → ∀ (i : Nat) it, its[i]? = some it → (Ls (k + i)).cap ≠ 0 → q ≠ (Ls (k + i)).1) →
    ∃ ρ', Rep E ρ' [] (insAll d k its σ) a w ∧ (∀ n, (∀ i, i < its.length → n ≠ d + 10000 * (k + i)) → ρ' n = ρ n) ∧ (∀ i, i < its.length → ρ' (d + 10000 * (k + i)) = Ls (k + i)) ∧ ∀ m b, Mem.find σ m = some b → Mem.find (insAll d k its σ) m = some b
  | [], k, ρ, σ, h, _, _, _, _, _, _ => ⟨ρ, h, fun _ _ => rfl, fun i hi => absurd hi (Nat.not_lt_zero _), fun _ _ q => q⟩
  | it :: its, k, ρ, σ, h, hat, hs, hn0, hpw, hfr, hdis => by
    have h0 := hat 0 it rfl
    rw [Nat.add_zero] at h0
    have hd := hfr 0 (by simp)
    rw [Nat.add_zero] at hd
    have hdis0 := fun m b q hb hf => hdis m b q hb hf 0 it rfl
    have step := (add_sound (L := Ls k) (b := .vec it.cols) h hd h.keep (fun _ _ _ _ _ => rfl) ⟨by rw [upd_eq]; exact h0.rep, by rw [upd_eq]; exact h0.write⟩ (fun q hq => by
      simp only [Out, upd_eq] at hq
      obtain ⟨hc, rfl⟩ := hq
      exact ⟨Or.inl (Nat.le_trans hn0 (h0.own hc).1), fun m c hm hF => hdis0 m c _ hm hF (by rw [Nat.add_zero]; exact hc) (by rw [Nat.add_zero]), fun hI => by simp only [Inn, upd_eq] at hI; exact noRows_no h0.flat _ hI⟩) (fun q hq => by
      simp only [Foot, upd_eq] at hq
      rcases hq with ⟨hc, rfl⟩ | hq
      · exact fun m c hm hO => hdis0 m c _ hm hO.foot (by rw [Nat.add_zero]; exact hc) (by rw [Nat.add_zero])
      · exact absurd hq (noRows_no h0.flat _))).find_eq (find_ins (freshB_parts hd).2.2)
    obtain ⟨q1, q2⟩ := List.pairwise_cons.1 hpw
    obtain ⟨d1, _, d3⟩ := freshB_parts hd
    obtain ⟨ρ', r1, r2, r3, r4⟩ := insAll_sound (ρi := ρi) (σi := σi) (n0 := n0) (d := d) Ls (its := its) (k := k + 1) step (fun i it' hi => by have := hat (i + 1) it' (by simpa using hi); rw [show k + 1 + i = k + (i + 1) by omega]; exact this) hs hn0 q2 (fun i hi => by
      have := hfr (i + 1) (by simp only [List.length_cons]; omega)
      obtain ⟨f1, f2, f3⟩ := freshB_parts this
      rw [show k + 1 + i = k + (i + 1) by omega]
      simp only [freshB, f2, Bool.and_eq_true, decide_eq_true_eq, Bool.not_eq_true', and_true]
      refine ⟨f1, ?_⟩
      have e : ∀ (σ : Mem) (dd : Nat) (b : Blk) (x : Nat), memRefs x (Mem.ins dd b σ) = (dd == x || segsRefs x b.segs || memRefs x σ) := by
        intro σ dd b x
        induction σ with
        | nil => simp [Mem.ins, memRefs]
        | cons p r ih =>
          obtain ⟨m, y⟩ := p
          simp only [Mem.ins]
          split
          · simp only [memRefs, List.any_cons] at ih ⊢
            rw [ih]
            cases (m == x || segsRefs x y.segs) <;> cases (dd == x || segsRefs x b.segs) <;> simp
          · simp [memRefs]
      rw [e, f3]
      simp [Blk.segs, segsRefs]
      omega) (fun m b q hb hf i it' hi hc => by
      rw [show k + 1 + i = k + (i + 1) by omega] at hc ⊢
      rw [find_ins d3] at hb
      simp only [Mem.find] at hb
      split at hb
      · rename_i e
        cases hb
        subst e
        simp only [Foot, upd_eq] at hf
        rcases hf with ⟨hc0, rfl⟩ | hf
        · intro eq
          have hi' := hat (i + 1) it' (by simpa using hi)
          obtain ⟨_, m1, b1, n1, f1, o1⟩ := h0.own hc0
          obtain ⟨_, m2, b2, n2, f2, o2⟩ := hi'.own hc
          have hne : m1 ≠ m2 := fun e => by
            have := q1 it'.name (List.mem_map.2 ⟨it', List.mem_of_getElem? hi, rfl⟩)
            rw [n1, n2, e] at this
            rcases this with q | q
            · cases q
            · exact q rfl
          rw [← eq] at o2
          exact hs.1 m1 m2 b1 b2 _ f1 f2 hne o1 o2.foot
        · exact absurd hf (noRows_no h0.flat _)
      · rename_i hne
        have hf' : Foot ρ m b q := (Foot.agree (upd_ne (fun e => hne e.symm))).1 hf
        exact hdis m b q hb hf' (i + 1) it' (by simpa using hi) hc)
    refine ⟨ρ', r1, fun n hn => ?_, fun i hi => ?_, fun m b hb => r4 m b (ins_old hd m b hb)⟩
    · rw [r2 n (fun i hi => by have := hn (i + 1) (by simp only [List.length_cons]; omega); rw [show k + 1 + i = k + (i + 1) by omega]; exact this)]
      exact upd_ne (by have := hn 0 (by simp); rw [Nat.add_zero] at this; exact this)
    · cases i with
      | zero =>
        rw [Nat.add_zero, r2 _ (fun i hi => by omega)]
        exact upd_eq _ _ _
      | succ i =>
        have := r3 i (by simp only [List.length_cons] at hi; omega)
        rw [show k + 1 + i = k + (i + 1) by omega] at this
        exact this

theorem resC_sound {its : List Item} {d : Nat} {ρ ρ' : Rho} {a b : AC} {v : Value} (h : ResC its d a b) (hL : ∀ i it, its[i]? = some it → ∀ v, CRep ρ it.ac v → CRep ρ' (.vec (d + 10000 * i)) v) (hv : CRep ρ a v) : CRep ρ' b v := by
  rcases h with ⟨h1, h2, h3⟩ | ⟨k, it, h1, rfl, rfl⟩
  · exact (h3 ρ v hv).agree fun n hn => by rw [h2 n] at hn; cases hn
  · exact hL k it h1 v hv

theorem resCs_sound {its : List Item} {d : Nat} {ρ ρ' : Rho} (hL : ∀ i it, its[i]? = some it → ∀ v, CRep ρ it.ac v → CRep ρ' (.vec (d + 10000 * i)) v) : ∀ {l m : List AC}, ResCs its d l m → l.length = m.length ∧ ∀ (j : Nat) a b v, l[j]? = some a → m[j]? = some b → CRep ρ a v → CRep ρ' b v
  | [], [], _ => ⟨rfl, fun j a b v h => by simp at h⟩
  | a :: l, b :: m, h => by
    obtain ⟨g1, g2⟩ := resCs_sound hL h.2
    refine ⟨by simp [g1], fun j x y v hx hy hv => ?_⟩
    cases j with
    | zero => simp at hx hy; subst hx hy; exact resC_sound h.1 hL hv
    | succ j => exact g2 j x y v (by simpa using hx) (by simpa using hy) hv
  | [], _ :: _, h => h.elim
  | _ :: _, [], h => h.elim

theorem resS_sound {its : List Item} {d : Nat} {ρ ρ' : Rho} (hL : ∀ i it, its[i]? = some it → ∀ v, CRep ρ it.ac v → CRep ρ' (.vec (d + 10000 * i)) v) : ∀ {s t : List Seg}, ResS its d s t → segsOk s → segsOk t ∧ (flat s).length = (flat t).length ∧ ∀ (j : Nat) a b v, (flat s)[j]? = some a → (flat t)[j]? = some b → CRep ρ a v → CRep ρ' b v
  | [], [], _, _ => ⟨trivial, rfl, fun j a b v h => by simp [flat] at h⟩
  | .ints k n l :: r, .ints k' n' l' :: s, h, ho => by
    obtain ⟨⟨rfl, rfl, rfl⟩, h⟩ := h
    obtain ⟨g1, g2, g3⟩ := resS_sound hL h ho.2
    refine ⟨⟨ho.1, g1⟩, by simp [flat, g2], fun j a b v ha hb hv => ?_⟩
    simp only [flat] at ha hb
    rw [List.getElem?_append] at ha hb
    split at ha
    · rename_i hj; rw [if_pos hj] at hb; rw [ha] at hb; cases hb
      simp only [Seg.flat, List.getElem?_map, Option.map_eq_some_iff] at ha
      obtain ⟨x, _, rfl⟩ := ha; exact hv
    · rename_i hj; rw [if_neg hj] at hb; exact g3 _ a b v ha hb hv
  | .bools n l :: r, .bools n' l' :: s, h, ho => by
    obtain ⟨⟨rfl, rfl⟩, h⟩ := h
    obtain ⟨g1, g2, g3⟩ := resS_sound hL h ho.2
    refine ⟨⟨ho.1, g1⟩, by simp [flat, g2], fun j a b v ha hb hv => ?_⟩
    simp only [flat] at ha hb
    rw [List.getElem?_append] at ha hb
    split at ha
    · rename_i hj; rw [if_pos hj] at hb; rw [ha] at hb; cases hb
      simp only [Seg.flat, List.getElem?_map, Option.map_eq_some_iff] at ha
      obtain ⟨x, _, rfl⟩ := ha; exact hv
    · rename_i hj; rw [if_neg hj] at hb; exact g3 _ a b v ha hb hv
  | .cells c :: r, .cells c' :: s, h, ho => by
    obtain ⟨hc, h⟩ := h
    obtain ⟨c1, c2⟩ := resCs_sound hL hc
    obtain ⟨g1, g2, g3⟩ := resS_sound hL h ho.2
    refine ⟨⟨trivial, g1⟩, by simp [flat, Seg.flat, g2, c1], fun j a b v ha hb hv => ?_⟩
    simp only [flat, Seg.flat] at ha hb
    rw [List.getElem?_append] at ha hb
    split at ha
    · rename_i hj; rw [if_pos (by omega)] at hb; exact c2 j a b v ha hb hv
    · rename_i hj; rw [if_neg (by omega), ← c1] at hb; exact g3 _ a b v ha hb hv
  | [], _ :: _, h, _ => h.elim
  | .ints _ _ _ :: _, [], h, _ => h.elim
  | .bools _ _ :: _, [], h, _ => h.elim
  | .cells _ :: _, [], h, _ => h.elim
  | .ints _ _ _ :: _, .bools _ _ :: _, h, _ => h.elim
  | .ints _ _ _ :: _, .cells _ :: _, h, _ => h.elim
  | .bools _ _ :: _, .ints _ _ _ :: _, h, _ => h.elim
  | .bools _ _ :: _, .cells _ :: _, h, _ => h.elim
  | .cells _ :: _, .ints _ _ _ :: _, h, _ => h.elim
  | .cells _ :: _, .bools _ _ :: _, h, _ => h.elim

theorem resAgg_sound {its : List Item} {d : Nat} {ρ ρ' : Rho} (hL : ∀ i it, its[i]? = some it → ∀ v, CRep ρ it.ac v → CRep ρ' (.vec (d + 10000 * i)) v) {s t : List Seg} {v : Value} (h : ResS its d s t) (hv : SRep ρ (.agg s) v) : SRep ρ' (.agg t) v := by
  obtain ⟨ho, cs, rfl, hf⟩ := hv
  obtain ⟨g1, g2, g3⟩ := resS_sound hL h ho
  refine ⟨g1, cs, rfl, by rw [← g2]; exact hf.1, fun j b u hb hu => ?_⟩
  have hj : j < (flat s).length := by rw [g2]; exact (List.getElem?_eq_some_iff.1 hb).1
  exact g3 j _ b u (List.getElem?_eq_getElem hj) hb (hf.2 j _ u (List.getElem?_eq_getElem hj) hu)

theorem resT_sound {its : List Item} {d : Nat} {ρ ρ' : Rho} (hL : ∀ i it, its[i]? = some it → ∀ v, CRep ρ it.ac v → CRep ρ' (.vec (d + 10000 * i)) v) : ∀ {l m : List TV}, ResT its d l m → l.length = m.length ∧ ∀ (j : Nat) a b v, l[j]? = some a → m[j]? = some b → TRep ρ a v → TRep ρ' b v
  | [], [], _ => ⟨rfl, fun j a b v h => by simp at h⟩
  | .c a :: l, .c b :: m, h => by
    obtain ⟨g1, g2⟩ := resT_sound hL h.2
    refine ⟨by simp [g1], fun j x y v hx hy hv => ?_⟩
    cases j with
    | zero => simp at hx hy; subst hx hy; exact resC_sound h.1 hL hv
    | succ j => exact g2 j x y v (by simpa using hx) (by simpa using hy) hv
  | .g a :: l, .g b :: m, h => by
    obtain ⟨g1, g2⟩ := resT_sound hL h.2
    refine ⟨by simp [g1], fun j x y v hx hy hv => ?_⟩
    cases j with
    | zero => simp at hx hy; subst hx hy; exact resAgg_sound hL h.1 hv
    | succ j => exact g2 j x y v (by simpa using hx) (by simpa using hy) hv
  | [], _ :: _, h => h.elim
  | .c _ :: _, [], h => h.elim
  | .g _ :: _, [], h => h.elim
  | .c _ :: _, .g _ :: _, h => h.elim
  | .g _ :: _, .c _ :: _, h => h.elim

theorem resV_sound {its : List Item} {d : Nat} {ρ ρ' : Rho} (hL : ∀ i it, its[i]? = some it → ∀ v, CRep ρ it.ac v → CRep ρ' (.vec (d + 10000 * i)) v) {x y : AV} {v : Value} (h : ResV its d x y) (hv : SRep ρ x v) : SRep ρ' y v := by
  cases x <;> cases y <;> simp only [ResV] at h
  · exact resC_sound h hL hv
  · exact resAgg_sound hL h hv
  · obtain ⟨us, rfl, hl, hall⟩ := hv
    obtain ⟨g1, g2⟩ := resT_sound hL h
    refine ⟨us, rfl, by omega, fun j b u hb hu => ?_⟩
    rename_i l m
    have hj : j < l.length := by rw [g1]; exact (List.getElem?_eq_some_iff.1 hb).1
    exact g2 j _ b u (List.getElem?_eq_getElem hj) hb (hall j _ u (List.getElem?_eq_getElem hj) hu)

def rhoC (ρ : Rho) (Ls : Nat → Loc) : Rho := fun n => if n < 200000 then loc0 else if n < 1000000 then Ls (n - 200000) else ρ n
theorem rhoC_arg {ρ : Rho} {Ls : Nat → Loc} {i : Nat} (hi : i < 800000) : rhoC ρ Ls (200000 + i) = Ls i := by
  unfold rhoC
  split
  · omega
  · split
    · have e : 200000 + i - 200000 = i := by omega
      rw [e]
    · omega
theorem rhoC_glob {ρ : Rho} {Ls : Nat → Loc} {g : Nat} : rhoC ρ Ls (gname g) = ρ (gname g) := by
  have e1 : ¬ gname g < 200000 := by simp only [gname]; omega
  have e2 : ¬ gname g < 1000000 := by simp only [gname]; omega
  unfold rhoC
  rw [if_neg e1, if_neg e2]

/-- a function that reads lists and gives plain values and new lists -/
theorem Good.reads (hm : P.follows .mixedOrders = true) (hΓ : GoodG P Γ) {f : FuncId} {fn : Func} (hf : P.funcs[f]? = some fn) (hb : fn.body.isSome = true) {s : Spec} (hs : s.mods = false)
    (hsem : ∀ d args σ (K : AV → Mem → Prop), s.sem d args σ K → ∃ cargs τ, Canon σ 0 args cargs τ ∧ args.length ≤ 1000 ∧ ∃ n, callsx P Γ D fn n cargs τ (Res d s.news σ K)) : Good P f s := by
  refine ⟨fun d args σ K h ρ w vals hg hmem hsep hl hv hnew => ?_⟩
  obtain ⟨cargs, τ, hcan, hlen, n, hc⟩ := hsem d args σ K h
  obtain ⟨h1, Ls, h2⟩ := canon_sound hmem hsep hcan vals.toList (by simpa using hl) (fun i x v hx hu => hv i x v hx (by simpa using hu))
  generalize hρ0 : rhoC ρ Ls = ρc
  have hρc : ∀ i, 0 ≤ i → i < 0 + args.length → ρc (200000 + i) = Ls i := fun i _ hi => by rw [← hρ0]; exact rhoC_arg (by omega)
  have hgg : ∀ g, ρc (gname g) = ρ (gname g) := fun g => by rw [← hρ0]; exact rhoC_glob
  obtain ⟨g1, g2⟩ := h2 ρc hρc hgg
  have hgc : Glob ρc := fun g => by rw [hgg]; exact hg g
  have hno := canon_views hcan ρc
  have hsepc : Sep ρc τ := ⟨fun n m b c k hn _ _ hO => absurd hO (hno n b k hn), fun n b k hn hO => absurd hO (hno n b k hn)⟩
  refine (callsx_sound hm hΓ hf hb hc (ex := fun _ => False) hgc (by simpa using h1) (fun i y v hy hu => g1 i y v hy (by simpa using hu)) g2 hsepc (fun n b k hn hO => absurd hO (hno n b k hn))).mono ?_
  rintro e w' ⟨v, av', σ'', ρ'', rfl, ⟨its, av, hlen', hok, hpw, hres, hK⟩, hsr, hmem'', hsep'', _, hown'', hk⟩
  have hsame : ∀ i, i < w.heap.size → w'.heap[i]? = w.heap[i]? := fun i hi => hk.block i hi (fun q => q)
  have hk' : Keeps (OwnAt ρ σ) w w' := ⟨hk.os, hk.tape, hk.output, hk.size, fun k hk' _ => hsame k hk'⟩
  let E : Env := ⟨w, ρ, OwnAt ρ σ, hg⟩
  let a : Act := { tmps := #[], defers := [] }
  have hR : Rep E ρ [] σ a w' := ⟨⟨rfl, fun t v ht => by simp [a] at ht⟩, rfl, hmem.keeps (fun n b k hb hk => hsame _ (in_range (hmem n b hb) hk)), hsep, fun _ _ => rfl, fun n b k hn hO => Or.inr ⟨n, b, hn, hO⟩, hk'⟩
  have hat : ∀ it ∈ its, ∃ L, ItemAt ρ'' σ'' w.heap.size w' it L := fun it hi => item_at hmem'' hsep'' (fun n b k hn hO => by rcases hown'' n b k hn hO with q | q; exact q; exact q.elim) (hok it hi)
  let Ms : Nat → Loc := fun i => if hi : i < its.length then Classical.choose (hat its[i] (List.getElem_mem hi)) else loc0
  have hMs : ∀ i it, its[i]? = some it → ItemAt ρ'' σ'' w.heap.size w' it (Ms i) := fun i it hi => by
    obtain ⟨hlt, rfl⟩ := List.getElem?_eq_some_iff.1 hi
    show ItemAt ρ'' σ'' w.heap.size w' its[i] (if hi : i < its.length then Classical.choose (hat its[i] (List.getElem_mem hi)) else loc0)
    rw [dif_pos hlt]
    exact Classical.choose_spec (hat its[i] (List.getElem_mem hlt))
  obtain ⟨ρ', r1, r2, r3, r4⟩ := insAll_sound (d := d) (k := 0) Ms hR (fun i it hi => by rw [Nat.zero_add]; exact hMs i it hi) hsep'' (Nat.le_refl _) hpw (fun i hi => by
    obtain ⟨q1, q2⟩ := hnew i (by omega)
    rw [Nat.zero_add]
    simp only [freshB, q2, frRefs, List.any_nil, Bool.not_false, Bool.and_true, decide_eq_true_eq]
    exact q1) (fun m b q hb hf i it hi hc => by
    rw [Nat.zero_add] at hc ⊢
    have := in_range (hmem m b hb) hf
    have := ((hMs i it hi).own hc).1
    omega)
  refine ⟨v, av, _, ρ', rfl, hK, resV_sound (fun i it hi u hu => ?_) hres hsr, r1.mem, r1.sep, fun n hn => r2 n fun i hi => by rw [Nat.zero_add]; exact hn i (by omega), fun n b k hn hO => ?_, hk', fun _ => ⟨hk, r4⟩⟩
  · show u = _
    have hlt := (List.getElem?_eq_some_iff.1 hi).1
    have e := r3 i hlt
    rw [Nat.zero_add] at e
    rw [e]
    exact (hMs i it hi).val u hu
  · rcases r1.own n b k hn hO with q | q
    · exact Or.inr q
    · exact Or.inl q
end
end Go.Sx

/- Bytes: plain facts on lists of them. -/
namespace Go.Sx
open Go
set_option linter.unusedSimpArgs false

structure Bs (l : List Int) : Prop where
  all : ∀ x ∈ l, 0 ≤ x ∧ x < 256

theorem Bs.nil : Bs [] := ⟨fun x h => by cases h⟩
theorem Bs.cons {a : Int} {l : List Int} (h0 : 0 ≤ a) (h1 : a < 256) (h : Bs l) : Bs (a :: l) := ⟨fun x hx => by
  rcases List.mem_cons.1 hx with rfl | hx
  · exact ⟨h0, h1⟩
  · exact h.all x hx⟩
theorem Bs.app {a b : List Int} (h : Bs a) (g : Bs b) : Bs (a ++ b) := ⟨fun x hx => by
  rcases List.mem_append.1 hx with hx | hx
  · exact h.all x hx
  · exact g.all x hx⟩
theorem Bs.take {l : List Int} (h : Bs l) (n : Nat) : Bs (l.take n) := ⟨fun x hx => h.all x (List.mem_of_mem_take hx)⟩
theorem Bs.drop {l : List Int} (h : Bs l) (n : Nat) : Bs (l.drop n) := ⟨fun x hx => h.all x (List.mem_of_mem_drop hx)⟩
theorem Bs.zeros (n : Nat) : Bs (List.replicate n 0) := ⟨fun x hx => by rw [List.eq_of_mem_replicate hx]; decide⟩
theorem Bs.get {l : List Int} (h : Bs l) (i : Nat) : 0 ≤ l.getD i 0 ∧ l.getD i 0 < 256 := by
  rw [List.getD_eq_getElem?_getD]
  cases hq : l[i]? with
  | none => simp
  | some x => exact h.all x (List.mem_of_getElem? hq)
theorem Bs.set {l : List Int} (h : Bs l) (i : Nat) {v : Int} (h0 : 0 ≤ v) (h1 : v < 256) : Bs (l.set i v) := ⟨fun x hx => by
  rcases List.mem_or_eq_of_mem_set hx with hx | rfl
  · exact h.all x hx
  · exact ⟨h0, h1⟩⟩

/-- what a slice of bytes reads -/
def rdb (σ : Mem) (x : AV) (K : List Int → Prop) : Prop := rdx σ [.ints .u8] x (oneInts .u8 K)

theorem rdx_det {σ : Mem} {ks : List Kd} {x : AV} {K : List Col → Prop} (h : rdx σ ks x K) : ∃ cs, K cs ∧ rdx σ ks x (fun c => c = cs) := by
  unfold rdx at h
  split at h
  · split at h <;> try exact h.elim
    rename_i hq
    exact ⟨_, h, by simp [rdx, hq]⟩
  · split at h <;> try exact h.elim
    rename_i hq
    split at h <;> try exact h.elim
    rename_i hz
    exact ⟨_, h, by simp [rdx, hq, hz]⟩
  · split at h <;> try exact h.elim
    rename_i hq
    exact ⟨_, h, by simp [rdx, hq]⟩
  · split at h <;> try exact h.elim
    rename_i hq
    exact ⟨_, h, by simp [rdx, hq]⟩
  · split at h <;> try exact h.elim
    rename_i hq
    split at h <;> try exact h.elim
    rename_i hf
    exact ⟨_, h.2, by simp only [rdx, hq, hf, and_true]; exact h.1⟩
  · exact ⟨_, h, by simp [rdx]⟩
  · exact h.elim

theorem rdb_row {σ : Mem} {x : AV} {K : List Int → Prop} (h : rdb σ x K) : ∃ l, K l ∧ rdx σ [.ints .u8] x (fun c => c = [.ints .u8 l]) := by
  obtain ⟨cs, h1, h2⟩ := rdx_det h
  unfold oneInts at h1
  split at h1 <;> try exact h1.elim
  split at h1 <;> try exact h1.elim
  rename_i hk
  subst hk
  exact ⟨_, h1, h2⟩

theorem pairwise_one {a : Option Nat} : [a].Pairwise (fun a b => a = none ∨ a ≠ b) := by simp
theorem pairwise_nil : ([] : List (Option Nat)).Pairwise (fun a b => a = none ∨ a ≠ b) := .nil

theorem bytes_eq {a b : List Int} (ha : Bs a) (hb : Bs b) (h : bytesOf a = bytesOf b) : a = b := by
  have h2 : a.map (fun n => UInt8.ofNat n.toNat) = b.map (fun n => UInt8.ofNat n.toNat) := by
    have := congrArg (fun s => s.data.toList) h
    simpa [bytesOf] using this
  have key : ∀ {a : List Int}, Bs a → (a.map (fun n => UInt8.ofNat n.toNat)).map (fun b => (b.toNat : Int)) = a := by
    intro a ha
    rw [List.map_map]
    conv => rhs; rw [← List.map_id a]
    refine List.map_congr_left fun x hx => ?_
    obtain ⟨h0, h1⟩ := ha.all x hx
    simp only [Function.comp, UInt8.toNat_ofNat', id]
    omega
  rw [← key ha, ← key hb, h2]

theorem seq2_self {a b : List Int} (h : a = b) : seq2 (bytesOf a) (bytesOf b) = true := by subst h; simp [seq2]
theorem seq2_true {a b : ByteArray} : seq2 a b = true ↔ a = b := by
  have e : ∀ s : ByteArray, s.toList = s.data.toList := fun s => ByteArray.toList_eq s
  simp only [seq2, e, beq_iff_eq]
  constructor
  · intro h; cases a; cases b; simp only at h; congr; exact Array.toList_inj.1 h
  · intro h; rw [h]
end Go.Sx

/- Results of functions that give plain values and new lists; words of conditions. -/
namespace Go.Sx
open Go
set_option linter.unusedSimpArgs false
set_option linter.unusedVariables false

/-- plain parts, up to how a truth value is written -/
inductive PlainT : List TV → List TV → Prop
  | nil : PlainT [] []
  | int {k : IntKind} {a b : Int} {r s : List TV} : a = b → PlainT r s → PlainT (.c (.int k a) :: r) (.c (.int k b) :: s)
  | lit {a b : Bool} {r s : List TV} : a = b → PlainT r s → PlainT (.c (.lit a) :: r) (.c (.bool b) :: s)
  | bool {a b : Bool} {r s : List TV} : a = b → PlainT r s → PlainT (.c (.bool a) :: r) (.c (.bool b) :: s)
  | arr {k : IntKind} {n : Nat} {a b : List Int} {r s : List TV} : a = b → PlainT r s → PlainT (.g [.ints k n a] :: r) (.g [.ints k n b] :: s)

theorem PlainT.res {its : List Item} {d : Nat} : ∀ {r s : List TV}, PlainT r s → ResT its d r s := by
  intro r s h
  induction h with
  | nil => trivial
  | int e _ ih => subst e; exact ⟨Or.inl ⟨fun _ => rfl, fun _ => rfl, fun _ _ h => h⟩, ih⟩
  | lit e _ ih => subst e; exact ⟨Or.inl ⟨fun _ => rfl, fun _ => rfl, fun _ _ h => h⟩, ih⟩
  | bool e _ ih => subst e; exact ⟨Or.inl ⟨fun _ => rfl, fun _ => rfl, fun _ _ h => h⟩, ih⟩
  | arr e _ ih => subst e; exact ⟨⟨⟨rfl, rfl, rfl⟩, trivial⟩, ih⟩

section
variable {d : Nat} {σ σ' : Mem} {K : AV → Mem → Prop}

theorem res_plain {av av' : AV} (h : ResV [] d av av') (hK : K av' σ) : Res d 0 σ K av σ' :=
  ⟨[], av', Nat.le_refl _, fun it h => by simp at h, pairwise_nil, h, hK⟩
theorem res_int {k : IntKind} {a b : Int} (e : a = b) (hK : K (.one (.int k b)) σ) : Res d 0 σ K (.one (.int k a)) σ' := by
  subst e; exact res_plain (av' := .one (.int k a)) (Or.inl ⟨fun _ => rfl, fun _ => rfl, fun _ _ h => h⟩) hK
theorem res_bool {a b : Bool} (e : a = b) (hK : K (.one (.bool b)) σ) : Res d 0 σ K (.one (.bool a)) σ' := by
  subst e; exact res_plain (av' := .one (.bool a)) (Or.inl ⟨fun _ => rfl, fun _ => rfl, fun _ _ h => h⟩) hK
theorem res_lit {a b : Bool} (e : a = b) (hK : K (.one (.bool b)) σ) : Res d 0 σ K (.one (.lit a)) σ' := by
  subst e; exact res_plain (av' := .one (.bool a)) (Or.inl ⟨fun _ => rfl, fun _ => rfl, fun _ _ h => h⟩) hK
theorem res_arr {k : IntKind} {n : Nat} {a b : List Int} (e : a = b) (hK : K (.agg [.ints k n b]) σ) : Res d 0 σ K (.agg [.ints k n a]) σ' := by
  subst e; exact res_plain (av' := .agg [.ints k n a]) ⟨⟨rfl, rfl, rfl⟩, trivial⟩ hK
theorem res_vec {m : Nat} {k : IntKind} {l l' : List Int} (hf : Mem.find σ' m = some (.vec [.ints k l])) (e : l = l') (hK : K (.one (.vec d)) (Mem.ins d (.vec [.ints k l']) σ)) : Res d 1 σ K (.one (.vec m)) σ' := by
  subst e
  exact ⟨[.vec m [.ints k l]], .one (.vec d), Nat.le_refl _, fun it h => by simp at h; subst h; exact ⟨hf, rfl⟩, pairwise_one, Or.inr ⟨0, _, rfl, rfl, rfl⟩, hK⟩
theorem res_nil {k : IntKind} {l' : List Int} (e : l' = []) (hK : K (.one (.vec d)) (Mem.ins d (.vec [.ints k l']) σ)) : Res d 1 σ K (.one (.con (.slice none 0 0))) σ' := by
  subst e
  exact ⟨[.nil [.ints k]], .one (.vec d), Nat.le_refl _, fun it h => by simp at h; subst h; exact ⟨Nat.one_pos, rfl⟩, pairwise_one, Or.inr ⟨0, _, rfl, rfl, rfl⟩, hK⟩
theorem res_tvec {m : Nat} {k : IntKind} {l l' : List Int} {r s : List TV} (hf : Mem.find σ' m = some (.vec [.ints k l])) (hr : PlainT r s) (e : l = l') (hK : K (.tup (.c (.vec d) :: s)) (Mem.ins d (.vec [.ints k l']) σ)) : Res d 1 σ K (.tup (.c (.vec m) :: r)) σ' := by
  subst e
  exact ⟨[.vec m [.ints k l]], .tup (.c (.vec d) :: s), Nat.le_refl _, fun it h => by simp at h; subst h; exact ⟨hf, rfl⟩, pairwise_one, ⟨Or.inr ⟨0, _, rfl, rfl, rfl⟩, hr.res⟩, hK⟩
theorem res_tnil {k : IntKind} {l' : List Int} {r s : List TV} (hr : PlainT r s) (e : l' = []) (hK : K (.tup (.c (.vec d) :: s)) (Mem.ins d (.vec [.ints k l']) σ)) : Res d 1 σ K (.tup (.c (.con (.slice none 0 0)) :: r)) σ' := by
  subst e
  exact ⟨[.nil [.ints k]], .tup (.c (.vec d) :: s), Nat.le_refl _, fun it h => by simp at h; subst h; exact ⟨Nat.one_pos, rfl⟩, pairwise_one, ⟨Or.inr ⟨0, _, rfl, rfl, rfl⟩, hr.res⟩, hK⟩
end

/-! ### words -/
theorem room1 {n : Nat} (h : n ≤ 140737488421888) : Room n 1 := ⟨by omega⟩
theorem lsub_all {α : Type} (l : List α) : lsub l 0 l.length = l := by simp [lsub]
theorem lsub_drop {α : Type} (l : List α) (i : Nat) : lsub l i (l.length - i) = l.drop i := by simp [lsub, List.take_of_length_le]
theorem lsub_take {α : Type} (l : List α) (n : Nat) : lsub l 0 n = l.take n := by simp [lsub]
theorem lget_succ (l : List Int) (i : Nat) (h : i < l.length) : l.drop i = lget l i :: l.drop (i + 1) := by
  rw [List.drop_eq_getElem_cons h]; simp [lget, List.getD, h]
end Go.Sx

/- Lists given by a function; loops that count up or down; words of conditions as arithmetic. -/
namespace Go.Sx
open Go
set_option linter.unusedSimpArgs false
set_option linter.unusedVariables false

/-- the list of the first n values -/
def tab {α : Type} (n : Nat) (g : Nat → α) : List α := (List.range n).map g

theorem tab_len {α : Type} (n : Nat) (g : Nat → α) : (tab n g).length = n := by simp [tab]
theorem tab_llen {α : Type} (n : Nat) (g : Nat → α) : llen (tab n g) = n := tab_len n g
theorem tab_get? {α : Type} (n : Nat) (g : Nat → α) (i : Nat) : (tab n g)[i]? = if i < n then some (g i) else none := by
  simp only [tab, List.getElem?_map, List.getElem?_range]
  by_cases h : i < n
  · simp [h, List.getElem?_range]
  · simp [h]
theorem tab_ext {α : Type} {n : Nat} {g h : Nat → α} (e : ∀ i, i < n → g i = h i) : tab n g = tab n h := by
  refine List.map_congr_left fun i hi => e i (by simpa using hi)
theorem list_ext {α : Type} {a b : List α} (hl : a.length = b.length) (h : ∀ i, i < a.length → a[i]? = b[i]?) : a = b := by
  refine List.ext_getElem? fun i => ?_
  by_cases hi : i < a.length
  · exact h i hi
  · rw [List.getElem?_eq_none (by omega), List.getElem?_eq_none (by omega)]
theorem tab_lget {n i : Nat} (g : Nat → Int) (h : i < n) : lget (tab n g) i = g i := by
  simp [lget, List.getD, tab_get?, h]
theorem tab_lgetb {n i : Nat} (g : Nat → Bool) (h : i < n) : lgetb (tab n g) i = g i := by
  simp [lgetb, List.getD, tab_get?, h]
theorem tab_llget {n i : Nat} (g : Nat → List Int) (h : i < n) : llget (tab n g) i = g i := by
  simp [llget, List.getD, tab_get?, h]
theorem tab_set {α : Type} (n i : Nat) (g : Nat → α) (v : α) : (tab n g).set i v = tab n (fun j => if j = i then v else g j) := by
  refine list_ext (by simp [tab_len]) fun j hj => ?_
  simp only [List.length_set, tab_len] at hj
  rw [List.getElem?_set, tab_get?, tab_get?, tab_len]
  by_cases e : i = j
  · subst e; simp [hj]
  · simp [e, hj, Ne.symm e]
theorem tab_lset (n i : Nat) (g : Nat → Int) (v : Int) : lset (tab n g) i v = tab n (fun j => if j = i then v else g j) := tab_set n i g v
theorem tab_lsetb (n i : Nat) (g : Nat → Bool) (v : Bool) : lsetb (tab n g) i v = tab n (fun j => if j = i then v else g j) := tab_set n i g v
theorem tab_llset (n i : Nat) (g : Nat → List Int) (v : List Int) : llset (tab n g) i v = tab n (fun j => if j = i then v else g j) := tab_set n i g v
theorem tab_lsub {α : Type} {n o z : Nat} (g : Nat → α) (h : o + z ≤ n) : lsub (tab n g) o z = tab z (fun j => g (o + j)) := by
  refine list_ext (by simp [lsub, tab_len]; omega) fun j hj => ?_
  simp only [lsub, List.length_take, List.length_drop, tab_len] at hj
  simp only [lsub, List.getElem?_take, List.getElem?_drop, tab_get?]
  have h1 : j < z := by omega
  have h2 : o + j < n := by omega
  simp [h1, h2]
theorem tab_lput {n o z : Nat} (g f : Nat → Int) (h : o + z ≤ n) : lput (tab n g) o (tab z f) = tab n (fun j => if o ≤ j ∧ j < o + z then f (j - o) else g j) := by
  refine list_ext (by simp [lput, tab_len]; omega) fun j hj => ?_
  have hn : j < n := by simp [lput, tab_len] at hj; omega
  simp only [lput, List.append_assoc, tab_len]
  rw [tab_get?, if_pos hn]
  by_cases h1 : j < o
  · rw [List.getElem?_append_left (by simp [tab_len]; omega), List.getElem?_take_of_lt h1, tab_get?, if_pos hn]
    simp; omega
  · rw [List.getElem?_append_right (by simp [tab_len]; omega)]
    simp only [List.length_take, tab_len]
    rw [show min o n = o by omega]
    by_cases h2 : j < o + z
    · rw [List.getElem?_append_left (by simp [tab_len]; omega), tab_get?, if_pos (by omega)]
      simp; omega
    · rw [List.getElem?_append_right (by simp [tab_len]; omega), List.getElem?_drop, tab_get?, tab_len, if_pos (by omega)]
      have : ¬ (o ≤ j ∧ j < o + z) := by omega
      rw [if_neg this]
      congr 2; omega
theorem lzeros_tab (n : Nat) : lzeros n = tab n (fun _ => 0) := by simp [lzeros, tab, List.map_const']
theorem bzeros_tab (n : Nat) : bzeros n = tab n (fun _ => false) := by simp [bzeros, tab, List.map_const']
theorem eq_tab {l : List Int} {n : Nat} (h : l.length = n) : l = tab n (lget l) := by
  subst h
  refine list_ext (by simp [tab_len]) fun j hj => ?_
  rw [tab_get?, if_pos hj]
  simp [lget, List.getD, hj]
theorem tab_map {α β : Type} (n : Nat) (g : Nat → α) (f : α → β) : (tab n g).map f = tab n (fun i => f (g i)) := by simp [tab, List.map_map, Function.comp]
theorem tab_succ {α : Type} (n : Nat) (g : Nat → α) : tab (n + 1) g = tab n g ++ [g n] := by simp [tab, List.range_succ]
theorem tab_zero {α : Type} (g : Nat → α) : tab 0 g = [] := rfl
theorem tab_append {α : Type} (n m : Nat) (g h : Nat → α) : tab n g ++ tab m h = tab (n + m) (fun j => if j < n then g j else h (j - n)) := by
  refine list_ext (by simp [tab_len]) fun j hj => ?_
  simp only [List.length_append, tab_len] at hj
  rw [tab_get?, if_pos hj]
  by_cases q : j < n
  · rw [List.getElem?_append_left (by simpa [tab_len] using q), tab_get?, if_pos q, if_pos q]
  · rw [List.getElem?_append_right (by simp [tab_len]; omega), tab_len, tab_get?, if_pos (by omega), if_neg q]
theorem tab_inj {α : Type} {n : Nat} {g h : Nat → α} (e : tab n g = tab n h) {i : Nat} (hi : i < n) : g i = h i := by
  have := congrArg (fun l => l[i]?) e
  simpa [tab_get?, hi] using this

/-- one place more is done -/
theorem tab_step {α : Type} {n i : Nat} {F G : Nat → α} {v : α} (hv : v = F i) : tab n (fun j => if j = i then v else if j < i then F j else G j) = tab n (fun j => if j < i + 1 then F j else G j) := by
  subst hv
  refine tab_ext fun j hj => ?_
  by_cases e : j = i
  · subst e; simp
  · by_cases q : j < i
    · simp [e, q, show j < i + 1 by omega]
    · simp [e, q, show ¬ j < i + 1 by omega]
theorem tab_done {α : Type} {n : Nat} {F G : Nat → α} : tab n (fun j => if j < n then F j else G j) = tab n F := tab_ext fun j hj => by simp [hj]
theorem tab_start {α : Type} {n : Nat} {F G : Nat → α} : tab n (fun j => if j < 0 then F j else G j) = tab n G := tab_ext fun j hj => by simp

/-- the first i places are done -/
def upto {α : Type} (n i : Nat) (F G : Nat → α) : List α := tab n fun j => if j < i then F j else G j
theorem upto_zero {α : Type} {n : Nat} {F G : Nat → α} : upto n 0 F G = tab n G := tab_start
theorem upto_done {α : Type} {n : Nat} {F G : Nat → α} : upto n n F G = tab n F := tab_done
theorem upto_len {α : Type} {n i : Nat} {F G : Nat → α} : (upto n i F G).length = n := tab_len _ _
theorem upto_lo {n i j : Nat} {F G : Nat → Int} (h : j < i) (hi : i ≤ n) : lget (upto n i F G) j = F j := by rw [upto, tab_lget _ (by omega), if_pos h]
theorem upto_hi {n i j : Nat} {F G : Nat → Int} (h : i ≤ j) (hj : j < n) : lget (upto n i F G) j = G j := by rw [upto, tab_lget _ hj, if_neg (by omega)]
theorem upto_lset {n i : Nat} {F G : Nat → Int} {v : Int} (hv : v = F i) : lset (upto n i F G) i v = upto n (i + 1) F G := by rw [upto, tab_lset, tab_step hv]; rfl
theorem upto_lsetb {n i : Nat} {F G : Nat → Bool} {v : Bool} (hv : v = F i) : lsetb (upto n i F G) i v = upto n (i + 1) F G := by rw [upto, tab_lsetb, tab_step hv]; rfl
theorem upto_llset {n i : Nat} {F G : Nat → List Int} {v : List Int} (hv : v = F i) : llset (upto n i F G) i v = upto n (i + 1) F G := by rw [upto, tab_llset, tab_step hv]; rfl

/-! ### the words of conditions -/
theorem InB_iff {i : Int} {n : Nat} : InB i n ↔ 0 ≤ i ∧ i < n := ⟨fun h => ⟨h.lo, h.hi⟩, fun h => ⟨h.1, h.2⟩⟩
theorem Low_iff {a b : Nat} : Low a b ↔ a < b := ⟨fun h => h.lt, fun h => ⟨h⟩⟩
theorem Fits_iff {a b : Nat} : Fits a b ↔ a ≤ b := ⟨fun h => h.le, fun h => ⟨h⟩⟩
theorem NonNeg_iff {i : Int} : NonNeg i ↔ 0 ≤ i := ⟨fun h => h.le, fun h => ⟨h⟩⟩
theorem NeZ_iff {i : Int} : NeZ i ↔ i ≠ 0 := ⟨fun h => h.ne, fun h => ⟨h⟩⟩
theorem Mk_iff {a b : Int} {z : Nat} : Mk a b z ↔ 0 ≤ a ∧ a ≤ b ∧ b * z ≤ 281474976710656 ∧ b ≤ 9223372036854775807 := ⟨fun h => ⟨h.lo, h.le, h.hi, h.c63⟩, fun h => ⟨h.1, h.2.1, h.2.2.1, h.2.2.2⟩⟩
theorem Room_iff {n z : Nat} : Room n z ↔ (5 * n + 4096) * z ≤ 1125899906842624 := ⟨fun h => h.le, fun h => ⟨h⟩⟩
theorem nat_cast (n : Nat) : nat (n : Int) = n := rfl
theorem nat_add (a b : Nat) : nat ((a : Int) + b) = a + b := by simp only [nat]; omega
theorem nat_add1 (a : Nat) : nat ((a : Int) + 1) = a + 1 := by simp only [nat]; omega
theorem nat_ofNat (n : Nat) : nat (OfNat.ofNat n : Int) = OfNat.ofNat n := rfl
theorem nadd_def (a b : Nat) : nadd a b = a + b := rfl
theorem nsub_def (a b : Nat) : nsub a b = a - b := rfl
theorem nmul_def (a b : Nat) : nmul a b = a * b := rfl
theorem nmin_def (a b : Nat) : nmin a b = min a b := rfl
theorem ofNat_def (a : Nat) : ofNat a = (a : Int) := rfl
theorem llen_def {α : Type} (l : List α) : llen l = l.length := rfl
theorem lcat_def {α : Type} (a b : List α) : lcat a b = a ++ b := rfl
theorem add1_i64 {a : Nat} (h : a < 9223372036854775807) : add .i64 (a : Int) 1 = ((a + 1 : Nat) : Int) := by
  rw [add_i64 (by omega) (by omega)]; omega
theorem addN_i64 {a b : Nat} (h : a + b < 9223372036854775808) : add .i64 (a : Int) (b : Int) = ((a + b : Nat) : Int) := by
  rw [add_i64 (by omega) (by omega)]; omega
theorem mulN_i64 {a b : Nat} (h : a * b < 9223372036854775808) : mul .i64 (a : Int) (b : Int) = ((a * b : Nat) : Int) := by
  rw [mul_i64 (by have := Int.natCast_nonneg (a * b); rw [Int.natCast_mul] at this; omega) (by rw [← Int.natCast_mul]; omega)]; simp
theorem subN_i64 {a b : Nat} (h : b ≤ a) (ha : a < 9223372036854775808) : sub .i64 (a : Int) (b : Int) = ((a - b : Nat) : Int) := by
  rw [sub_i64 (by omega) (by omega)]; omega
theorem remN {a b : Nat} : rem (a : Int) (b : Int) = ((a % b : Nat) : Int) := by
  simp only [rem]; exact Int.ofNat_tmod a b
theorem quoN_i64 {a b : Nat} (h : a < 9223372036854775808) : quo .i64 (a : Int) (b : Int) = ((a / b : Nat) : Int) := by
  have e : (a : Int).tdiv (b : Int) = ((a / b : Nat) : Int) := Int.ofNat_tdiv a b
  have h2 : a / b ≤ a := Nat.div_le_self a b
  unfold quo
  rw [e]
  generalize a / b = q at h2
  exact conv_i64 (by omega) (by omega)

/-! ### loops -/
/-- a loop that counts up to n -/
theorem loop_up {S : Type} (L : Nat → Int → S → Prop) (n : Nat) (st : Nat → S) (hs : ∀ f i, i < n → L f ((i + 1 : Nat) : Int) (st (i + 1)) → L (f + 1) (i : Int) (st i)) (he : ∀ f, L (f + 1) (n : Int) (st n)) :
    ∀ i, i ≤ n → ∀ m, L (n - i + 1 + m) (i : Int) (st i) := by
  intro i hi m
  induction hk : n - i generalizing i with
  | zero =>
    obtain rfl : i = n := by omega
    rw [show 0 + 1 + m = m + 1 by omega]; exact he m
  | succ k ih =>
    rw [show k + 1 + 1 + m = (k + 1 + m) + 1 by omega]
    exact hs _ i (by omega) (ih (i + 1) (by omega) (by omega))
/-- the same from nought -/
theorem loop_up0 {S : Type} (L : Nat → Int → S → Prop) (n : Nat) (st : Nat → S) (hs : ∀ f i, i < n → L f ((i + 1 : Nat) : Int) (st (i + 1)) → L (f + 1) (i : Int) (st i)) (he : ∀ f, L (f + 1) (n : Int) (st n)) (m : Nat) : L (n + 1 + m) 0 (st 0) :=
  loop_up L n st hs he 0 (Nat.zero_le _) m
/-- a loop that counts up to n, each round at so much fuel -/
theorem loop_n {S : Type} (L : Nat → Int → S → Prop) (n : Nat) (st : Nat → S) (c f0 : Nat) (hs : ∀ g i, i < n → L g ((i + 1 : Nat) : Int) (st (i + 1)) → L (g + c) (i : Int) (st i)) (he : L f0 (n : Int) (st n)) :
    ∀ i, i ≤ n → L (f0 + c * (n - i)) (i : Int) (st i) := by
  intro i hi
  induction hk : n - i generalizing i with
  | zero =>
    obtain rfl : i = n := by omega
    exact he
  | succ k ih =>
    rw [Nat.mul_succ, ← Nat.add_assoc]
    exact hs _ i (by omega) (ih (i + 1) (by omega) (by omega))
/-- the same from a place on -/
theorem loop_from {S : Type} (L : Nat → Int → S → Prop) (lo n : Nat) (st : Nat → S) (c f0 : Nat) (hs : ∀ g i, lo ≤ i → i < n → L g ((i + 1 : Nat) : Int) (st (i + 1)) → L (g + c) (i : Int) (st i)) (he : L f0 (n : Int) (st n)) :
    ∀ i, lo ≤ i → i ≤ n → L (f0 + c * (n - i)) (i : Int) (st i) := by
  intro i hl hi
  induction hk : n - i generalizing i with
  | zero =>
    obtain rfl : i = n := by omega
    exact he
  | succ k ih =>
    rw [Nat.mul_succ, ← Nat.add_assoc]
    exact hs _ i hl (by omega) (ih (i + 1) (by omega) (by omega) (by omega))
/-- the same, by k -/
theorem loop_nby {S : Type} (k : Nat) (L : Nat → Int → S → Prop) (n : Nat) (st : Nat → S) (c f0 : Nat) (hs : ∀ g i, i < n → L g ((k * (i + 1) : Nat) : Int) (st (i + 1)) → L (g + c) ((k * i : Nat) : Int) (st i)) (he : L f0 ((k * n : Nat) : Int) (st n)) :
    ∀ i, i ≤ n → L (f0 + c * (n - i)) ((k * i : Nat) : Int) (st i) := fun i hi =>
  loop_n (fun f (i : Int) s => L f ((k * i.toNat : Nat) : Int) s) n st c f0 (fun f i hi h => hs f i hi h) he i hi
/-- a loop that counts down from n - 1 to nought -/
theorem loop_down {S : Type} (L : Nat → Int → S → Prop) (st : Nat → S) (c f0 : Nat) (n : Nat) (hs : ∀ g i, i < n → L g ((i : Int) - 1) (st i) → L (g + c) (i : Int) (st (i + 1))) (he : L f0 (-1) (st 0)) :
    ∀ i, i ≤ n → L (f0 + c * i) ((i : Int) - 1) (st i) := by
  intro i hi
  induction i with
  | zero => exact he
  | succ i ih =>
    rw [Nat.mul_succ, ← Nat.add_assoc, show ((i + 1 : Nat) : Int) - 1 = (i : Int) by omega]
    exact hs _ i (by omega) (ih (by omega))
theorem lsub_lsub {α : Type} (l : List α) (a n b m : Nat) (h : b + m ≤ n) : lsub (lsub l a n) b m = lsub l (a + b) m := by
  simp only [lsub]
  rw [List.drop_take, List.take_take, List.drop_drop]
  congr 1; omega
theorem upto_lput {n i z : Nat} {F G : Nat → Int} {l : List Int} (hl : l = tab z (fun k => F (i + k))) (h : i + z ≤ n) : lput (upto n i F G) i l = upto n (i + z) F G := by
  subst hl
  rw [upto, tab_lput _ _ h]
  refine tab_ext fun j hj => ?_
  by_cases q : j < i
  · rw [if_neg (by omega), if_pos q, if_pos (by omega)]
  · by_cases r : j < i + z
    · rw [if_pos ⟨by omega, r⟩, if_pos r, show i + (j - i) = j by omega]
    · rw [if_neg (by omega), if_neg q, if_neg r]
theorem lsub_tabbed {l : List Int} {n o z : Nat} (hl : l.length = n) (h : o + z ≤ n) : lsub l o z = tab z (fun j => lget l (o + j)) := by
  conv => lhs; rw [eq_tab hl, tab_lsub _ h]
/-- a loop that counts up to n; how much fuel is not told -/
theorem loop_ex {S : Type} (L : Nat → Int → S → Prop) (n : Nat) (st : Nat → S) (hs : ∀ g i, i < n → L g ((i + 1 : Nat) : Int) (st (i + 1)) → ∃ g', L g' (i : Int) (st i)) (he : ∃ g, L g (n : Int) (st n)) :
    ∀ i, i ≤ n → ∃ g, L g (i : Int) (st i) := by
  intro i hi
  induction hk : n - i generalizing i with
  | zero =>
    obtain rfl : i = n := by omega
    exact he
  | succ k ih =>
    obtain ⟨g, hg⟩ := ih (i + 1) (by omega) (by omega)
    exact hs g i (by omega) hg
theorem loop_exfrom {S : Type} (L : Nat → Int → S → Prop) (lo n : Nat) (st : Nat → S) (hs : ∀ g i, lo ≤ i → i < n → L g ((i + 1 : Nat) : Int) (st (i + 1)) → ∃ g', L g' (i : Int) (st i)) (he : ∃ g, L g (n : Int) (st n)) :
    ∀ i, lo ≤ i → i ≤ n → ∃ g, L g (i : Int) (st i) := by
  intro i hl hi
  induction hk : n - i generalizing i with
  | zero =>
    obtain rfl : i = n := by omega
    exact he
  | succ k ih =>
    obtain ⟨g, hg⟩ := ih (i + 1) (by omega) (by omega) (by omega)
    exact hs g i hl (by omega) hg
theorem loop_exby {S : Type} (k : Nat) (L : Nat → Int → S → Prop) (n : Nat) (st : Nat → S) (hs : ∀ g i, i < n → L g ((k * (i + 1) : Nat) : Int) (st (i + 1)) → ∃ g', L g' ((k * i : Nat) : Int) (st i)) (he : ∃ g, L g ((k * n : Nat) : Int) (st n)) :
    ∀ i, i ≤ n → ∃ g, L g ((k * i : Nat) : Int) (st i) := fun i hi =>
  loop_ex (fun f (i : Int) s => L f ((k * i.toNat : Nat) : Int) s) n st (fun f i hi h => hs f i hi h) he i hi
/-- a loop that counts up by k -/
theorem loop_by {S : Type} (k : Nat) (L : Nat → Int → S → Prop) (n : Nat) (st : Nat → S) (hs : ∀ f i, i < n → L f ((k * (i + 1) : Nat) : Int) (st (i + 1)) → L (f + 1) ((k * i : Nat) : Int) (st i)) (he : ∀ f, L (f + 1) ((k * n : Nat) : Int) (st n)) (m : Nat) : L (n + 1 + m) 0 (st 0) := by
  have := loop_up (fun f (i : Int) s => L f ((k * i.toNat : Nat) : Int) s) n st (fun f i hi h => hs f i hi h) he 0 (Nat.zero_le _) m
  simpa using this
end Go.Sx

/- Words for lists of bytes in memory. -/
namespace Go.Sx
structure Short (l : List Int) : Prop where
  le : l.length ≤ 140737488355328
end Go.Sx

/- What is known of the functions that tell how many noise cells there are. -/
namespace Go.Nz
open Go.Sx
/-- w(k) -/
def wt (n d : Nat) : Nat → Nat
  | 0 => 4294967296
  | k + 1 => wt n d k * n / d
/-- w(0) + .. + w(k) -/
def su (n d : Nat) : Nat → Nat
  | 0 => wt n d 0
  | k + 1 => su n d k + wt n d (k + 1)
structure Fit (n d m : Int) : Prop where
  n0 : 0 ≤ n
  nd : n ≤ d
  d1 : 1 ≤ d
  dk : d ≤ 1000
  m0 : 0 ≤ m
  m16 : m ≤ 16
def fitB (n d m : Int) : Bool := decide (0 ≤ n) && decide (n ≤ d) && decide (1 ≤ d) && decide (d ≤ 1000) && decide (0 ≤ m) && decide (m ≤ 16)
def tblL (n d m : Int) : List Int := if fitB n d m = true then tab (m.toNat + 1) (fun k => ((65536 * su n.toNat d.toNat k / su n.toNat d.toNat m.toNat : Nat) : Int)) else []
def tblE (n d m : Int) : Int := if fitB n d m = true then 0 else 2
def wtI (n d k : Int) : Int := (wt n.toNat d.toNat k.toNat : Nat)
def suI (n d k : Int) : Int := (su n.toNat d.toNat k.toNat : Nat)
end Go.Nz
namespace Go.Sx
open Go.Nz
/-- what a slice of ints reads -/
def rdi (σ : Mem) (x : AV) (K : List Int → Prop) : Prop := rdx σ [.ints .i64] x (oneInts .i64 K)
theorem rdi_row {σ : Mem} {x : AV} {K : List Int → Prop} (h : rdi σ x K) : ∃ l, K l ∧ rdx σ [.ints .i64] x (fun c => c = [.ints .i64 l]) := by
  obtain ⟨cs, h1, h2⟩ := rdx_det h
  unfold oneInts at h1
  split at h1 <;> try exact h1.elim
  split at h1 <;> try exact h1.elim
  rename_i hk
  subst hk
  exact ⟨_, h1, h2⟩
def fitsS : Spec := ⟨0, false, fun _ args σ K => match args with
  | [.one (.int .i64 n), .one (.int .i64 d), .one (.int .i64 m)] => K (.one (.bool (fitB n d m))) σ
  | _ => False⟩
def weightS : Spec := ⟨0, false, fun _ args σ K => match args with
  | [.one (.int .i64 n), .one (.int .i64 d), .one (.int .i64 k)] => Fit n d k ∧ K (.one (.int .i64 (wtI n d k))) σ
  | _ => False⟩
def uptoS : Spec := ⟨0, false, fun _ args σ K => match args with
  | [.one (.int .i64 n), .one (.int .i64 d), .one (.int .i64 k)] => Fit n d k ∧ K (.one (.int .i64 (suI n d k))) σ
  | _ => False⟩
def tableS : Spec := ⟨1, false, fun e args σ K => match args with
  | [.one (.int .i64 n), .one (.int .i64 d), .one (.int .i64 m)] => K (.tup [.c (.vec e), .c (.int .i64 (tblE n d m))]) (Mem.ins e (.vec [.ints .i64 (tblL n d m)]) σ)
  | _ => False⟩
def sameS : Spec := ⟨0, false, fun _ args σ K => match args with
  | [x, y] => rdi σ x fun a => rdi σ y fun b => (Short a ∧ Short b) ∧ K (.one (.bool (leq a b))) σ
  | _ => False⟩
def awakeS : Spec := ⟨0, false, fun _ args σ K => match args with
  | [] => K (.one (.lit true)) σ
  | _ => False⟩
def gamN1 : Gam := ext (ext (ext gam0 18 fitsS) 28 weightS) 11 sameS
def gamN2 : Gam := ext gamN1 19 uptoS
def gamN3 : Gam := ext (ext gamN2 9 tableS) 10 tableS
def gamN4 : Gam := ext gamN3 8 awakeS
end Go.Sx

/- What is known of the functions that tell a number by a part of a tape. -/
namespace Go.Nz
open Go.Sx
/-- the first place, from k on, whose number is above u -/
def kFrom (l : List Int) (u : Int) : Nat → Nat → Nat
  | 0, k => k
  | f + 1, k => if lget l k ≤ u then kFrom l u f (k + 1) else k
def kOf (l : List Int) (u : Int) : Nat := kFrom l u l.length 0
def uOf (p : List Int) : Int := lget p 0 * 256 + lget p 1
def cntE (p : List Int) (n d m : Int) : Int := if fitB n d m = true then (if p.length < 18 then 3 else 0) else 2
def cntN (p : List Int) (n d m : Int) : Int := if cntE p n d m = 0 then (kOf (tblL n d m) (uOf p) : Nat) else 0
end Go.Nz
namespace Go.Sx
open Go.Nz
def countS : Spec := ⟨0, false, fun _ args σ K => match args with
  | [x, .one (.int .i64 n), .one (.int .i64 d), .one (.int .i64 m)] => rdb σ x fun p => (Short p ∧ Bs p) ∧ K (.tup [.c (.int .i64 (cntN p n d m)), .c (.int .i64 (cntE p n d m))]) σ
  | _ => False⟩
def gamN5 : Gam := ext (ext gamN4 12 countS) 13 countS
end Go.Sx

/- The verification conditions of functions, printed by a program of this session out of their codes. -/
namespace Go.Proofs.Ytacnldmmacjpoaa.G
open Go Go.Sx Go.Nz
set_option linter.unusedVariables false
set_option maxRecDepth 100000

theorem lcounts_vc (R : AV → Mem → Prop) (fuel : Nat) (p : List Int) (n : Int) (d : Int) (k : Int) (c : Int) (l : Int) : callsx Try.prog gamN5 [] Try.f4 (fuel + 1) [.agg [.cells [.vec 200000], .cells [.int .i64 n], .cells [.int .i64 d], .cells [.int .i64 k], .cells [.int .i64 c], .cells [.int .i64 l]]] [(200000, .rview [.ints .u8 p])] R = (((Room (nadd 0 (llen p)) 1) ∧ ((Room (nadd (llen (lcat [] p)) 2) 1) ∧ (((Short p) ∧ (Bs p)) ∧ (((NonNeg (ofNat (llen p))) ∧ (Fits (nat (ofNat (llen p))) (llen (lcat (lcat [] p) [1, 2])))) ∧ (((Short (lsub (lcat (lcat [] p) [1, 2]) 0 (nat (ofNat (llen p))))) ∧ (Bs (lsub (lcat (lcat [] p) [1, 2]) 0 (nat (ofNat (llen p)))))) ∧ ((((ieq (Go.Nz.cntE (lsub (lcat (lcat [] p) [1, 2]) 0 (nat (ofNat (llen p)))) n d k) (Go.Nz.cntE p n d k)) = true) → ((((ieq (Go.Nz.cntN (lsub (lcat (lcat [] p) [1, 2]) 0 (nat (ofNat (llen p)))) n d k) (Go.Nz.cntN p n d k)) = true) → ((Fits (nadd (slen_ (bytesOf p)) 2) 9223372036854775807) ∧ (R (AV.one (AC.bool (seq2 (bytesOf (lcat (lcat [] p) [1, 2])) (sadd (bytesOf p) (ByteArray.mk (Array.mk [1, 2])))))) [(1, Blk.own 33 [(Seg.cells [(AC.vec 200000)]), (Seg.cells [(AC.int IntKind.i64 n)]), (Seg.cells [(AC.int IntKind.i64 d)]), (Seg.cells [(AC.int IntKind.i64 k)]), (Seg.cells [(AC.int IntKind.i64 c)]), (Seg.cells [(AC.int IntKind.i64 l)])]), (14, Blk.vec [(Col.ints IntKind.u8 [1, 2])]), (15, Blk.vec [(Col.ints IntKind.u8 (lcat (lcat [] p) [1, 2]))]), (200000, Blk.rview [(Col.ints IntKind.u8 p)])]))) ∧ (((ieq (Go.Nz.cntN (lsub (lcat (lcat [] p) [1, 2]) 0 (nat (ofNat (llen p)))) n d k) (Go.Nz.cntN p n d k)) = false) → (R (AV.one (AC.lit false)) [(1, Blk.own 33 [(Seg.cells [(AC.vec 200000)]), (Seg.cells [(AC.int IntKind.i64 n)]), (Seg.cells [(AC.int IntKind.i64 d)]), (Seg.cells [(AC.int IntKind.i64 k)]), (Seg.cells [(AC.int IntKind.i64 c)]), (Seg.cells [(AC.int IntKind.i64 l)])]), (14, Blk.vec [(Col.ints IntKind.u8 [1, 2])]), (15, Blk.vec [(Col.ints IntKind.u8 (lcat (lcat [] p) [1, 2]))]), (200000, Blk.rview [(Col.ints IntKind.u8 p)])])))) ∧ (((ieq (Go.Nz.cntE (lsub (lcat (lcat [] p) [1, 2]) 0 (nat (ofNat (llen p)))) n d k) (Go.Nz.cntE p n d k)) = false) → (R (AV.one (AC.lit false)) [(1, Blk.own 33 [(Seg.cells [(AC.vec 200000)]), (Seg.cells [(AC.int IntKind.i64 n)]), (Seg.cells [(AC.int IntKind.i64 d)]), (Seg.cells [(AC.int IntKind.i64 k)]), (Seg.cells [(AC.int IntKind.i64 c)]), (Seg.cells [(AC.int IntKind.i64 l)])]), (14, Blk.vec [(Col.ints IntKind.u8 [1, 2])]), (15, Blk.vec [(Col.ints IntKind.u8 (lcat (lcat [] p) [1, 2]))]), (200000, Blk.rview [(Col.ints IntKind.u8 p)])]))))))))) := by kernel_rfl

end Go.Proofs.Ytacnldmmacjpoaa.G

/- The verification conditions of functions, printed by a program of this session out of their codes. -/
namespace Go.Proofs.Ytacnldmmacjpoaa.G
open Go Go.Sx Go.Nz
set_option linter.unusedVariables false
set_option maxRecDepth 100000

def rcount.l0 (R : AV → Mem → Prop) (p : List Int) (n : Int) (d : Int) (k : Int) (fuel : Nat) (x0 : Int) : Prop := run Try.prog gamN4 [] (resh Try.prog [] Try.f12.results.toList R) fuel [.code (cAt (bodyOf Try.f12) [1, 1, 1, 1, 1, 1, 0, 0, 0]), .inLoop (cAt (bodyOf Try.f12) [1, 1, 1, 1, 1, 1, 0, 0, 0]), .inBlock 0, .code (cAt (bodyOf Try.f12) [1, 1, 1, 1, 1, 1, 1])] [AV.undef, AV.undef, AV.undef, AV.undef, AV.undef, AV.undef, AV.undef, AV.undef, AV.undef, AV.undef, (AV.one (AC.vec 18)), AV.undef, (AV.one (AC.int IntKind.i64 (add IntKind.i64 (mul IntKind.i64 (conv IntKind.i64 (lget p 0)) 256) (conv IntKind.i64 (lget p 1))))), (AV.one (AC.int IntKind.i64 x0)), AV.undef, AV.undef, AV.undef, AV.undef, AV.undef, AV.undef, AV.undef, AV.undef, AV.undef, AV.undef, AV.undef, AV.undef, AV.undef, AV.undef, AV.undef, AV.undef, AV.undef, AV.undef, AV.undef, AV.undef, AV.undef, AV.undef, AV.undef, AV.undef, AV.undef, AV.undef, AV.undef, AV.undef, AV.undef, AV.undef, AV.undef, (AV.tup [])] [(18, Blk.vec [(Col.ints IntKind.i64 (Go.Nz.tblL n d k))]), (200000, Blk.rview [(Col.ints IntKind.u8 p)])]

theorem rcount.l0_succ (R : AV → Mem → Prop) (p : List Int) (n : Int) (d : Int) (k : Int) (fuel : Nat) (x0 : Int) : rcount.l0 R p n d k (fuel + 1) x0 = (((InB x0 (llen (Go.Nz.tblL n d k))) ∧ (let y1 : Bool := (ige (add IntKind.i64 (mul IntKind.i64 (conv IntKind.i64 (lget p 0)) 256) (conv IntKind.i64 (lget p 1))) (lget (Go.Nz.tblL n d k) (nat x0))); (((y1 = true) → (rcount.l0 R p n d k fuel (add IntKind.i64 x0 1))) ∧ ((y1 = false) → (R (AV.tup [(TV.c (AC.int IntKind.i64 x0)), (TV.c (AC.int IntKind.i64 0))]) [(18, Blk.vec [(Col.ints IntKind.i64 (Go.Nz.tblL n d k))]), (200000, Blk.rview [(Col.ints IntKind.u8 p)])])))))) := by kernel_rfl
theorem rcount.l0_zero (R : AV → Mem → Prop) (p : List Int) (n : Int) (d : Int) (k : Int) (x0 : Int) : rcount.l0 R p n d k 0 x0 = False := by kernel_rfl

theorem rcount_vc (R : AV → Mem → Prop) (fuel : Nat) (p : List Int) (n : Int) (d : Int) (k : Int) : callsx Try.prog gamN4 [] Try.f12 (fuel + 1) [.one (.vec 200000), .one (.int .i64 n), .one (.int .i64 d), .one (.int .i64 k)] [(200000, .rview [.ints .u8 p])] R = (((((ine (Go.Nz.tblE n d k) 0) = true) → (R (AV.tup [(TV.c (AC.int IntKind.i64 0)), (TV.c (AC.int IntKind.i64 (Go.Nz.tblE n d k)))]) [(18, Blk.vec [(Col.ints IntKind.i64 (Go.Nz.tblL n d k))]), (200000, Blk.rview [(Col.ints IntKind.u8 p)])])) ∧ (((ine (Go.Nz.tblE n d k) 0) = false) → ((((ilt (ofNat (llen p)) 18) = true) → (R (AV.tup [(TV.c (AC.int IntKind.i64 0)), (TV.c (AC.int IntKind.i64 3))]) [(18, Blk.vec [(Col.ints IntKind.i64 (Go.Nz.tblL n d k))]), (200000, Blk.rview [(Col.ints IntKind.u8 p)])])) ∧ (((ilt (ofNat (llen p)) 18) = false) → ((InB 0 (llen p)) ∧ ((InB 1 (llen p)) ∧ (rcount.l0 R p n d k fuel 0)))))))) := by kernel_rfl

def ncount.l0 (R : AV → Mem → Prop) (p : List Int) (n : Int) (d : Int) (k : Int) (fuel : Nat) (x0 : Int) : Prop := run Try.prog gamN4 [] (resh Try.prog [] Try.f13.results.toList R) fuel [.code (cAt (bodyOf Try.f13) [1, 1, 1, 1, 1, 1, 0, 0, 0]), .inLoop (cAt (bodyOf Try.f13) [1, 1, 1, 1, 1, 1, 0, 0, 0]), .inBlock 0, .code (cAt (bodyOf Try.f13) [1, 1, 1, 1, 1, 1, 1])] [AV.undef, AV.undef, AV.undef, AV.undef, AV.undef, AV.undef, AV.undef, AV.undef, AV.undef, AV.undef, (AV.one (AC.vec 18)), AV.undef, (AV.one (AC.int IntKind.i64 (bor IntKind.i64 (shl IntKind.i64 (conv IntKind.i64 (lget p 0)) 8) (conv IntKind.i64 (lget p 1))))), (AV.one (AC.int IntKind.i64 x0)), AV.undef, AV.undef, AV.undef, AV.undef, AV.undef, AV.undef, AV.undef, AV.undef, AV.undef, AV.undef, AV.undef, AV.undef, AV.undef, AV.undef, AV.undef, AV.undef, AV.undef, AV.undef, AV.undef, AV.undef, AV.undef, AV.undef, AV.undef, AV.undef, AV.undef, AV.undef, AV.undef, AV.undef, AV.undef, AV.undef, AV.undef, (AV.tup [])] [(18, Blk.vec [(Col.ints IntKind.i64 (Go.Nz.tblL n d k))]), (200000, Blk.rview [(Col.ints IntKind.u8 p)])]

theorem ncount.l0_succ (R : AV → Mem → Prop) (p : List Int) (n : Int) (d : Int) (k : Int) (fuel : Nat) (x0 : Int) : ncount.l0 R p n d k (fuel + 1) x0 = (((InB x0 (llen (Go.Nz.tblL n d k))) ∧ (let y1 : Bool := (ige (bor IntKind.i64 (shl IntKind.i64 (conv IntKind.i64 (lget p 0)) 8) (conv IntKind.i64 (lget p 1))) (lget (Go.Nz.tblL n d k) (nat x0))); (((y1 = true) → (ncount.l0 R p n d k fuel (add IntKind.i64 x0 1))) ∧ ((y1 = false) → (R (AV.tup [(TV.c (AC.int IntKind.i64 x0)), (TV.c (AC.int IntKind.i64 0))]) [(18, Blk.vec [(Col.ints IntKind.i64 (Go.Nz.tblL n d k))]), (200000, Blk.rview [(Col.ints IntKind.u8 p)])])))))) := by kernel_rfl
theorem ncount.l0_zero (R : AV → Mem → Prop) (p : List Int) (n : Int) (d : Int) (k : Int) (x0 : Int) : ncount.l0 R p n d k 0 x0 = False := by kernel_rfl

theorem ncount_vc (R : AV → Mem → Prop) (fuel : Nat) (p : List Int) (n : Int) (d : Int) (k : Int) : callsx Try.prog gamN4 [] Try.f13 (fuel + 1) [.one (.vec 200000), .one (.int .i64 n), .one (.int .i64 d), .one (.int .i64 k)] [(200000, .rview [.ints .u8 p])] R = (((((ine (Go.Nz.tblE n d k) 0) = true) → (R (AV.tup [(TV.c (AC.int IntKind.i64 0)), (TV.c (AC.int IntKind.i64 (Go.Nz.tblE n d k)))]) [(18, Blk.vec [(Col.ints IntKind.i64 (Go.Nz.tblL n d k))]), (200000, Blk.rview [(Col.ints IntKind.u8 p)])])) ∧ (((ine (Go.Nz.tblE n d k) 0) = false) → ((((ilt (ofNat (llen p)) 18) = true) → (R (AV.tup [(TV.c (AC.int IntKind.i64 0)), (TV.c (AC.int IntKind.i64 3))]) [(18, Blk.vec [(Col.ints IntKind.i64 (Go.Nz.tblL n d k))]), (200000, Blk.rview [(Col.ints IntKind.u8 p)])])) ∧ (((ilt (ofNat (llen p)) 18) = false) → ((InB 0 (llen p)) ∧ ((NonNeg 8) ∧ ((InB 1 (llen p)) ∧ (ncount.l0 R p n d k fuel 0))))))))) := by kernel_rfl

def leven.l1 (R : AV → Mem → Prop) (n : Int) (x2 : List Int) (d : Int) (k : Int) (fuel : Nat) (x13 : Int) (x14 : Int) : Prop := run Try.prog gamN5 [] (resh Try.prog [] Try.f5.results.toList R) fuel [.code (cAt (bodyOf Try.f5) [1, 1, 1, 1, 1, 1, 1, 1, 1, 0, 1, 0, 0]), .inLoop (cAt (bodyOf Try.f5) [1, 1, 1, 1, 1, 1, 1, 1, 1, 0, 1, 0, 0]), .inBlock 2, .code (cAt (bodyOf Try.f5) [1, 1, 1, 1, 1, 1, 1, 1, 1, 1])] [(AV.one (AC.int IntKind.i64 n)), AV.undef, AV.undef, AV.undef, AV.undef, AV.undef, AV.undef, (AV.one (AC.vec 25)), AV.undef, AV.undef, AV.undef, AV.undef, (AV.one (AC.vec 72)), AV.undef, AV.undef, AV.undef, (AV.one (AC.int IntKind.i64 x13)), AV.undef, AV.undef, AV.undef, AV.undef, AV.undef, AV.undef, AV.undef, AV.undef, AV.undef, AV.undef, AV.undef, AV.undef, AV.undef, AV.undef, AV.undef, AV.undef, AV.undef, AV.undef, AV.undef, AV.undef, AV.undef, AV.undef, AV.undef, AV.undef, AV.undef, AV.undef, AV.undef, AV.undef, AV.undef, AV.undef, AV.undef, AV.undef, AV.undef, AV.undef, AV.undef, AV.undef, AV.undef, AV.undef, AV.undef, AV.undef, AV.undef, AV.undef, AV.undef, AV.undef, AV.undef, AV.undef, AV.undef, AV.undef, AV.undef, AV.undef, AV.undef, AV.undef, AV.undef, AV.undef, AV.undef, AV.undef, AV.undef, AV.undef, AV.undef, AV.undef, AV.undef, AV.undef, AV.undef, AV.undef, AV.undef, AV.undef, AV.undef, AV.undef, AV.undef, AV.undef, AV.undef, AV.undef, AV.undef, AV.undef, AV.undef, AV.undef, AV.undef, AV.undef, AV.undef, AV.undef, AV.undef, AV.undef, AV.undef, AV.undef, AV.undef, AV.undef, AV.undef, AV.undef, AV.undef, AV.undef, AV.undef, AV.undef, AV.undef, AV.undef, (AV.one (AC.vec 72)), (AV.one (AC.int IntKind.i64 (ofNat (llen x2)))), (AV.one (AC.int IntKind.i64 x14)), AV.undef, AV.undef, AV.undef, AV.undef, AV.undef, AV.undef, AV.undef, AV.undef, AV.undef, AV.undef, AV.undef, AV.undef, AV.undef, AV.undef, AV.undef, AV.undef, AV.undef, AV.undef, AV.undef, AV.undef, AV.undef, AV.undef, AV.undef, AV.undef, AV.undef, AV.undef, AV.undef, AV.undef, AV.undef, AV.undef, AV.undef, AV.undef] [(25, Blk.vec [(Col.ints IntKind.i64 (Go.Nz.tblL n d k))]), (72, Blk.vec [(Col.ints IntKind.i64 x2)])]

def leven.l0 (R : AV → Mem → Prop) (n : Int) (d : Int) (k : Int) (fuel : Nat) (x0 : Int) (x1 : List Int) (x2 : List Int) : Prop := run Try.prog gamN5 [] (resh Try.prog [] Try.f5.results.toList R) fuel [.code (cAt (bodyOf Try.f5) [1, 1, 1, 1, 1, 1, 1, 0, 1, 0, 0]), .inLoop (cAt (bodyOf Try.f5) [1, 1, 1, 1, 1, 1, 1, 0, 1, 0, 0]), .inBlock 0, .code (cAt (bodyOf Try.f5) [1, 1, 1, 1, 1, 1, 1, 1])] [(AV.one (AC.int IntKind.i64 n)), (AV.one (AC.int IntKind.i64 d)), (AV.one (AC.int IntKind.i64 k)), AV.undef, AV.undef, AV.undef, AV.undef, (AV.one (AC.vec 25)), AV.undef, (AV.one (AC.vec 28)), AV.undef, AV.undef, (AV.one (AC.vec 72)), AV.undef, AV.undef, AV.undef, (AV.tup []), (AV.tup []), (AV.tup []), AV.undef, AV.undef, AV.undef, AV.undef, AV.undef, AV.undef, AV.undef, AV.undef, AV.undef, AV.undef, AV.undef, AV.undef, AV.undef, AV.undef, AV.undef, AV.undef, AV.undef, AV.undef, AV.undef, AV.undef, AV.undef, AV.undef, AV.undef, AV.undef, AV.undef, AV.undef, AV.undef, AV.undef, AV.undef, AV.undef, AV.undef, AV.undef, AV.undef, AV.undef, AV.undef, AV.undef, AV.undef, AV.undef, AV.undef, AV.undef, AV.undef, AV.undef, AV.undef, AV.undef, AV.undef, AV.undef, AV.undef, AV.undef, AV.undef, AV.undef, AV.undef, AV.undef, AV.undef, AV.undef, (AV.one (AC.int IntKind.i64 x0)), AV.undef, AV.undef, AV.undef, AV.undef, AV.undef, AV.undef, AV.undef, AV.undef, AV.undef, AV.undef, AV.undef, AV.undef, AV.undef, AV.undef, AV.undef, AV.undef, AV.undef, AV.undef, AV.undef, AV.undef, AV.undef, AV.undef, AV.undef, AV.undef, AV.undef, AV.undef, AV.undef, AV.undef, AV.undef, AV.undef, AV.undef, AV.undef, AV.undef, AV.undef, AV.undef, AV.undef, AV.undef, (AV.tup []), (AV.tup []), (AV.tup []), (AV.tup []), (AV.tup []), (AV.tup []), (AV.tup []), (AV.tup []), (AV.tup []), (AV.tup []), (AV.tup []), (AV.tup []), (AV.tup []), (AV.tup []), (AV.tup []), (AV.tup []), (AV.tup []), (AV.tup []), (AV.tup []), (AV.tup []), (AV.tup []), (AV.tup []), (AV.tup []), (AV.tup []), (AV.tup []), (AV.tup []), (AV.tup []), (AV.tup []), (AV.tup []), (AV.tup []), (AV.tup []), (AV.tup []), (AV.tup []), (AV.tup []), (AV.tup [])] [(25, Blk.vec [(Col.ints IntKind.i64 (Go.Nz.tblL n d k))]), (28, Blk.vec [(Col.ints IntKind.u8 x1)]), (72, Blk.vec [(Col.ints IntKind.i64 x2)])]

theorem leven.l1_succ (R : AV → Mem → Prop) (n : Int) (x2 : List Int) (d : Int) (k : Int) (fuel : Nat) (x13 : Int) (x14 : Int) : leven.l1 R n x2 d k (fuel + 1) x13 x14 = (((((ilt x14 (ofNat (llen x2))) = true) → ((InB x14 (llen x2)) ∧ ((InB x14 (llen (Go.Nz.tblL n d k))) ∧ ((((ine (add IntKind.i64 x13 (lget x2 (nat x14))) (lget (Go.Nz.tblL n d k) (nat x14))) = false) → ((((igt n 0) = true) → ((((igt x14 0) = true) → ((InB (sub IntKind.i64 x14 1) (llen x2)) ∧ ((((igt (lget x2 (nat x14)) (add IntKind.i64 (lget x2 (nat (sub IntKind.i64 x14 1))) 1)) = true) → (R (AV.one (AC.lit false)) [(25, Blk.vec [(Col.ints IntKind.i64 (Go.Nz.tblL n d k))]), (72, Blk.vec [(Col.ints IntKind.i64 x2)])])) ∧ (((igt (lget x2 (nat x14)) (add IntKind.i64 (lget x2 (nat (sub IntKind.i64 x14 1))) 1)) = false) → (leven.l1 R n x2 d k fuel (add IntKind.i64 x13 (lget x2 (nat x14))) (add IntKind.i64 x14 1)))))) ∧ (((igt x14 0) = false) → (leven.l1 R n x2 d k fuel (add IntKind.i64 x13 (lget x2 (nat x14))) (add IntKind.i64 x14 1))))) ∧ (((igt n 0) = false) → (leven.l1 R n x2 d k fuel (add IntKind.i64 x13 (lget x2 (nat x14))) (add IntKind.i64 x14 1))))) ∧ (((ine (add IntKind.i64 x13 (lget x2 (nat x14))) (lget (Go.Nz.tblL n d k) (nat x14))) = true) → (R (AV.one (AC.lit false)) [(25, Blk.vec [(Col.ints IntKind.i64 (Go.Nz.tblL n d k))]), (72, Blk.vec [(Col.ints IntKind.i64 x2)])])))))) ∧ (((ilt x14 (ofNat (llen x2))) = false) → (R (AV.one (AC.lit true)) [(25, Blk.vec [(Col.ints IntKind.i64 (Go.Nz.tblL n d k))]), (72, Blk.vec [(Col.ints IntKind.i64 x2)])])))) := by kernel_rfl
theorem leven.l1_zero (R : AV → Mem → Prop) (n : Int) (x2 : List Int) (d : Int) (k : Int) (x13 : Int) (x14 : Int) : leven.l1 R n x2 d k 0 x13 x14 = False := by kernel_rfl

theorem leven.l0_succ (R : AV → Mem → Prop) (n : Int) (d : Int) (k : Int) (fuel : Nat) (x0 : Int) (x1 : List Int) (x2 : List Int) : leven.l0 R n d k (fuel + 1) x0 x1 x2 = (((((ilt x0 65536) = true) → ((NonNeg 8) ∧ ((InB 0 (llen x1)) ∧ ((InB 1 (llen (lset x1 0 (conv IntKind.u8 (shr IntKind.i64 x0 8))))) ∧ (((Short (lset (lset x1 0 (conv IntKind.u8 (shr IntKind.i64 x0 8))) 1 (conv IntKind.u8 x0))) ∧ (Bs (lset (lset x1 0 (conv IntKind.u8 (shr IntKind.i64 x0 8))) 1 (conv IntKind.u8 x0)))) ∧ ((((ine (Go.Nz.cntE (lset (lset x1 0 (conv IntKind.u8 (shr IntKind.i64 x0 8))) 1 (conv IntKind.u8 x0)) n d k) 0) = false) → ((((ilt (Go.Nz.cntN (lset (lset x1 0 (conv IntKind.u8 (shr IntKind.i64 x0 8))) 1 (conv IntKind.u8 x0)) n d k) 0) = false) → (let y3 : Bool := (ine (Go.Nz.cntE (lset (lset x1 0 (conv IntKind.u8 (shr IntKind.i64 x0 8))) 1 (conv IntKind.u8 x0)) n d k) 0); (let y4 : Bool := (ilt (Go.Nz.cntN (lset (lset x1 0 (conv IntKind.u8 (shr IntKind.i64 x0 8))) 1 (conv IntKind.u8 x0)) n d k) 0); (let y5 : Bool := (igt (Go.Nz.cntN (lset (lset x1 0 (conv IntKind.u8 (shr IntKind.i64 x0 8))) 1 (conv IntKind.u8 x0)) n d k) k); (((y5 = true) → (R (AV.one (AC.lit false)) [(25, Blk.vec [(Col.ints IntKind.i64 (Go.Nz.tblL n d k))]), (28, Blk.vec [(Col.ints IntKind.u8 (lset (lset x1 0 (conv IntKind.u8 (shr IntKind.i64 x0 8))) 1 (conv IntKind.u8 x0)))]), (72, Blk.vec [(Col.ints IntKind.i64 x2)])])) ∧ ((y5 = false) → ((InB (Go.Nz.cntN (lset (lset x1 0 (conv IntKind.u8 (shr IntKind.i64 x0 8))) 1 (conv IntKind.u8 x0)) n d k) (llen x2)) ∧ ((InB (Go.Nz.cntN (lset (lset x1 0 (conv IntKind.u8 (shr IntKind.i64 x0 8))) 1 (conv IntKind.u8 x0)) n d k) (llen x2)) ∧ (let y6 : Nat := (nat (Go.Nz.cntN (lset (lset x1 0 (conv IntKind.u8 (shr IntKind.i64 x0 8))) 1 (conv IntKind.u8 x0)) n d k)); (let y7 : Int := (lget x2 (nat (Go.Nz.cntN (lset (lset x1 0 (conv IntKind.u8 (shr IntKind.i64 x0 8))) 1 (conv IntKind.u8 x0)) n d k))); (let y8 : Int := (add IntKind.i64 (lget x2 (nat (Go.Nz.cntN (lset (lset x1 0 (conv IntKind.u8 (shr IntKind.i64 x0 8))) 1 (conv IntKind.u8 x0)) n d k))) 1); (let y9 : List Int := (lset x2 (nat (Go.Nz.cntN (lset (lset x1 0 (conv IntKind.u8 (shr IntKind.i64 x0 8))) 1 (conv IntKind.u8 x0)) n d k)) (add IntKind.i64 (lget x2 (nat (Go.Nz.cntN (lset (lset x1 0 (conv IntKind.u8 (shr IntKind.i64 x0 8))) 1 (conv IntKind.u8 x0)) n d k))) 1)); (leven.l0 R n d k fuel (add IntKind.i64 x0 1) (lset (lset x1 0 (conv IntKind.u8 (shr IntKind.i64 x0 8))) 1 (conv IntKind.u8 x0)) y9))))))))))))) ∧ (((ilt (Go.Nz.cntN (lset (lset x1 0 (conv IntKind.u8 (shr IntKind.i64 x0 8))) 1 (conv IntKind.u8 x0)) n d k) 0) = true) → (let y10 : Bool := (ine (Go.Nz.cntE (lset (lset x1 0 (conv IntKind.u8 (shr IntKind.i64 x0 8))) 1 (conv IntKind.u8 x0)) n d k) 0); (let y11 : Bool := (ilt (Go.Nz.cntN (lset (lset x1 0 (conv IntKind.u8 (shr IntKind.i64 x0 8))) 1 (conv IntKind.u8 x0)) n d k) 0); (R (AV.one (AC.lit false)) [(25, Blk.vec [(Col.ints IntKind.i64 (Go.Nz.tblL n d k))]), (28, Blk.vec [(Col.ints IntKind.u8 (lset (lset x1 0 (conv IntKind.u8 (shr IntKind.i64 x0 8))) 1 (conv IntKind.u8 x0)))]), (72, Blk.vec [(Col.ints IntKind.i64 x2)])])))))) ∧ (((ine (Go.Nz.cntE (lset (lset x1 0 (conv IntKind.u8 (shr IntKind.i64 x0 8))) 1 (conv IntKind.u8 x0)) n d k) 0) = true) → (let y12 : Bool := (ine (Go.Nz.cntE (lset (lset x1 0 (conv IntKind.u8 (shr IntKind.i64 x0 8))) 1 (conv IntKind.u8 x0)) n d k) 0); (R (AV.one (AC.lit false)) [(25, Blk.vec [(Col.ints IntKind.i64 (Go.Nz.tblL n d k))]), (28, Blk.vec [(Col.ints IntKind.u8 (lset (lset x1 0 (conv IntKind.u8 (shr IntKind.i64 x0 8))) 1 (conv IntKind.u8 x0)))]), (72, Blk.vec [(Col.ints IntKind.i64 x2)])]))))))))) ∧ (((ilt x0 65536) = false) → (leven.l1 R n x2 d k fuel 0 0)))) := by kernel_rfl
theorem leven.l0_zero (R : AV → Mem → Prop) (n : Int) (d : Int) (k : Int) (x0 : Int) (x1 : List Int) (x2 : List Int) : leven.l0 R n d k 0 x0 x1 x2 = False := by kernel_rfl

theorem leven_vc (R : AV → Mem → Prop) (fuel : Nat) (n : Int) (d : Int) (k : Int) : callsx Try.prog gamN5 [] Try.f5 (fuel + 1) [.one (.int .i64 n), .one (.int .i64 d), .one (.int .i64 k)] [] R = (((Mk 18 18 1) ∧ ((((ine (Go.Nz.tblE n d k) 0) = true) → (((Short (lzeros 18)) ∧ (Bs (lzeros 18))) ∧ ((((ieq (Go.Nz.tblE n d k) 2) = true) → ((((ieq (Go.Nz.cntE (lzeros 18) n d k) 2) = true) → ((((ieq (Go.Nz.cntN (lzeros 18) n d k) 0) = true) → (R (AV.one (AC.bool (ieq (ofNat (llen (Go.Nz.tblL n d k))) 0))) [(25, Blk.vec [(Col.ints IntKind.i64 (Go.Nz.tblL n d k))]), (28, Blk.vec [(Col.ints IntKind.u8 (lzeros 18))])])) ∧ (((ieq (Go.Nz.cntN (lzeros 18) n d k) 0) = false) → (R (AV.one (AC.lit false)) [(25, Blk.vec [(Col.ints IntKind.i64 (Go.Nz.tblL n d k))]), (28, Blk.vec [(Col.ints IntKind.u8 (lzeros 18))])])))) ∧ (((ieq (Go.Nz.cntE (lzeros 18) n d k) 2) = false) → (R (AV.one (AC.lit false)) [(25, Blk.vec [(Col.ints IntKind.i64 (Go.Nz.tblL n d k))]), (28, Blk.vec [(Col.ints IntKind.u8 (lzeros 18))])])))) ∧ (((ieq (Go.Nz.tblE n d k) 2) = false) → (R (AV.one (AC.lit false)) [(25, Blk.vec [(Col.ints IntKind.i64 (Go.Nz.tblL n d k))]), (28, Blk.vec [(Col.ints IntKind.u8 (lzeros 18))])]))))) ∧ (((ine (Go.Nz.tblE n d k) 0) = false) → ((((ine (ofNat (llen (Go.Nz.tblL n d k))) (add IntKind.i64 k 1)) = false) → ((((igt k 16) = false) → ((InB k (llen (Go.Nz.tblL n d k))) ∧ ((((ine (lget (Go.Nz.tblL n d k) (nat k)) 65536) = true) → (R (AV.one (AC.lit false)) [(25, Blk.vec [(Col.ints IntKind.i64 (Go.Nz.tblL n d k))]), (28, Blk.vec [(Col.ints IntKind.u8 (lzeros 18))])])) ∧ (((ine (lget (Go.Nz.tblL n d k) (nat k)) 65536) = false) → ((Mk (ofNat (llen (Go.Nz.tblL n d k))) (ofNat (llen (Go.Nz.tblL n d k))) 8) ∧ (leven.l0 R n d k fuel 0 (lzeros 18) (lzeros (nat (ofNat (llen (Go.Nz.tblL n d k))))))))))) ∧ (((igt k 16) = true) → (R (AV.one (AC.lit false)) [(25, Blk.vec [(Col.ints IntKind.i64 (Go.Nz.tblL n d k))]), (28, Blk.vec [(Col.ints IntKind.u8 (lzeros 18))])])))) ∧ (((ine (ofNat (llen (Go.Nz.tblL n d k))) (add IntKind.i64 k 1)) = true) → (R (AV.one (AC.lit false)) [(25, Blk.vec [(Col.ints IntKind.i64 (Go.Nz.tblL n d k))]), (28, Blk.vec [(Col.ints IntKind.u8 (lzeros 18))])]))))))) := by kernel_rfl

end Go.Proofs.Ytacnldmmacjpoaa.G

/- The verification conditions of functions, printed by a program of this session out of their codes. -/
namespace Go.Proofs.Ytacnldmmacjpoaa.G
open Go Go.Sx Go.Nz
set_option linter.unusedVariables false
set_option maxRecDepth 100000

theorem nfits_vc (R : AV → Mem → Prop) (fuel : Nat) (n : Int) (d : Int) (k : Int) : callsx Try.prog gam0 [] Try.f18 (fuel + 1) [.one (.int .i64 n), .one (.int .i64 d), .one (.int .i64 k)] [] R = (((((ige n 0) = true) → ((((ile n d) = true) → ((((ige d 1) = true) → ((((ile d 1000) = true) → ((((ige k 0) = true) → (R (AV.one (AC.bool (ile k 16))) [])) ∧ (((ige k 0) = false) → (R (AV.one (AC.lit false)) [])))) ∧ (((ile d 1000) = false) → (R (AV.one (AC.lit false)) [])))) ∧ (((ige d 1) = false) → (R (AV.one (AC.lit false)) [])))) ∧ (((ile n d) = false) → (R (AV.one (AC.lit false)) [])))) ∧ (((ige n 0) = false) → (R (AV.one (AC.lit false)) [])))) := by kernel_rfl

def nweight.l0 (R : AV → Mem → Prop) (n : Int) (d : Int) (k : Int) (fuel : Nat) (x0 : Int) (x1 : Int) : Prop := run Try.prog gam0 [] (resh Try.prog [] Try.f28.results.toList R) fuel [.code (cAt (bodyOf Try.f28) [1, 1, 0, 1, 0, 0]), .inLoop (cAt (bodyOf Try.f28) [1, 1, 0, 1, 0, 0]), .inBlock 0, .code (cAt (bodyOf Try.f28) [1, 1, 1])] [(AV.one (AC.int IntKind.i64 n)), (AV.one (AC.int IntKind.i64 d)), (AV.one (AC.int IntKind.i64 k)), AV.undef, AV.undef, AV.undef, AV.undef, (AV.one (AC.int IntKind.i64 x0)), (AV.one (AC.int IntKind.i64 x1)), AV.undef, AV.undef, AV.undef, AV.undef, AV.undef, AV.undef, AV.undef, AV.undef, AV.undef, AV.undef, (AV.tup [])] []

theorem nweight.l0_succ (R : AV → Mem → Prop) (n : Int) (d : Int) (k : Int) (fuel : Nat) (x0 : Int) (x1 : Int) : nweight.l0 R n d k (fuel + 1) x0 x1 = (((((ilt x1 k) = true) → ((NeZ d) ∧ (nweight.l0 R n d k fuel (quo IntKind.i64 (mul IntKind.i64 x0 n) d) (add IntKind.i64 x1 1)))) ∧ (((ilt x1 k) = false) → (R (AV.one (AC.int IntKind.i64 x0)) [])))) := by kernel_rfl
theorem nweight.l0_zero (R : AV → Mem → Prop) (n : Int) (d : Int) (k : Int) (x0 : Int) (x1 : Int) : nweight.l0 R n d k 0 x0 x1 = False := by kernel_rfl

theorem nweight_vc (R : AV → Mem → Prop) (fuel : Nat) (n : Int) (d : Int) (k : Int) : callsx Try.prog gam0 [] Try.f28 (fuel + 1) [.one (.int .i64 n), .one (.int .i64 d), .one (.int .i64 k)] [] R = ((nweight.l0 R n d k fuel 4294967296 0)) := by kernel_rfl

def nupto.l0 (R : AV → Mem → Prop) (n : Int) (d : Int) (k : Int) (fuel : Nat) (x0 : Int) (x1 : Int) : Prop := run Try.prog gamN1 [] (resh Try.prog [] Try.f19.results.toList R) fuel [.code (cAt (bodyOf Try.f19) [1, 1, 0, 1, 0, 0]), .inLoop (cAt (bodyOf Try.f19) [1, 1, 0, 1, 0, 0]), .inBlock 0, .code (cAt (bodyOf Try.f19) [1, 1, 1])] [(AV.one (AC.int IntKind.i64 n)), (AV.one (AC.int IntKind.i64 d)), (AV.one (AC.int IntKind.i64 k)), AV.undef, AV.undef, AV.undef, AV.undef, (AV.one (AC.int IntKind.i64 x0)), (AV.one (AC.int IntKind.i64 x1)), AV.undef, AV.undef, AV.undef, AV.undef, AV.undef, AV.undef, AV.undef, AV.undef, AV.undef, AV.undef, AV.undef, AV.undef, AV.undef, (AV.tup [])] []

theorem nupto.l0_succ (R : AV → Mem → Prop) (n : Int) (d : Int) (k : Int) (fuel : Nat) (x0 : Int) (x1 : Int) : nupto.l0 R n d k (fuel + 1) x0 x1 = (((((ile x1 k) = true) → ((Go.Nz.Fit n d x1) ∧ (nupto.l0 R n d k fuel (add IntKind.i64 x0 (Go.Nz.wtI n d x1)) (add IntKind.i64 x1 1)))) ∧ (((ile x1 k) = false) → (R (AV.one (AC.int IntKind.i64 x0)) [])))) := by kernel_rfl
theorem nupto.l0_zero (R : AV → Mem → Prop) (n : Int) (d : Int) (k : Int) (x0 : Int) (x1 : Int) : nupto.l0 R n d k 0 x0 x1 = False := by kernel_rfl

theorem nupto_vc (R : AV → Mem → Prop) (fuel : Nat) (n : Int) (d : Int) (k : Int) : callsx Try.prog gamN1 [] Try.f19 (fuel + 1) [.one (.int .i64 n), .one (.int .i64 d), .one (.int .i64 k)] [] R = ((nupto.l0 R n d k fuel 0 0)) := by kernel_rfl

def nsame.l0 (R : AV → Mem → Prop) (a : List Int) (b : List Int) (fuel : Nat) (x0 : Int) : Prop := run Try.prog gam0 [] (resh Try.prog [] Try.f11.results.toList R) fuel [.code (cAt (bodyOf Try.f11) [1, 1, 0, 1, 0, 0]), .inLoop (cAt (bodyOf Try.f11) [1, 1, 0, 1, 0, 0]), .inBlock 0, .code (cAt (bodyOf Try.f11) [1, 1, 1])] [(AV.one (AC.vec 200000)), (AV.one (AC.vec 200001)), AV.undef, AV.undef, AV.undef, AV.undef, AV.undef, AV.undef, AV.undef, AV.undef, AV.undef, AV.undef, (AV.one (AC.int IntKind.i64 (ofNat (llen a)))), (AV.one (AC.int IntKind.i64 x0)), AV.undef, AV.undef, AV.undef, AV.undef, AV.undef, AV.undef, AV.undef, AV.undef, AV.undef, AV.undef, AV.undef, AV.undef] [(200000, Blk.rview [(Col.ints IntKind.i64 a)]), (200001, Blk.rview [(Col.ints IntKind.i64 b)])]

theorem nsame.l0_succ (R : AV → Mem → Prop) (a : List Int) (b : List Int) (fuel : Nat) (x0 : Int) : nsame.l0 R a b (fuel + 1) x0 = (((((ilt x0 (ofNat (llen a))) = true) → ((InB x0 (llen a)) ∧ ((InB x0 (llen b)) ∧ ((((ine (lget a (nat x0)) (lget b (nat x0))) = true) → (R (AV.one (AC.lit false)) [(200000, Blk.rview [(Col.ints IntKind.i64 a)]), (200001, Blk.rview [(Col.ints IntKind.i64 b)])])) ∧ (((ine (lget a (nat x0)) (lget b (nat x0))) = false) → (nsame.l0 R a b fuel (add IntKind.i64 x0 1))))))) ∧ (((ilt x0 (ofNat (llen a))) = false) → (R (AV.one (AC.lit true)) [(200000, Blk.rview [(Col.ints IntKind.i64 a)]), (200001, Blk.rview [(Col.ints IntKind.i64 b)])])))) := by kernel_rfl
theorem nsame.l0_zero (R : AV → Mem → Prop) (a : List Int) (b : List Int) (x0 : Int) : nsame.l0 R a b 0 x0 = False := by kernel_rfl

theorem nsame_vc (R : AV → Mem → Prop) (fuel : Nat) (a : List Int) (b : List Int) : callsx Try.prog gam0 [] Try.f11 (fuel + 1) [.one (.vec 200000), .one (.vec 200001)] [(200000, .rview [.ints .i64 a]), (200001, .rview [.ints .i64 b])] R = (((((ine (ofNat (llen a)) (ofNat (llen b))) = true) → (R (AV.one (AC.lit false)) [(200000, Blk.rview [(Col.ints IntKind.i64 a)]), (200001, Blk.rview [(Col.ints IntKind.i64 b)])])) ∧ (((ine (ofNat (llen a)) (ofNat (llen b))) = false) → (nsame.l0 R a b fuel 0)))) := by kernel_rfl

def rtable.l0 (R : AV → Mem → Prop) (n : Int) (d : Int) (k : Int) (fuel : Nat) (x0 : Int) (x1 : List Int) : Prop := run Try.prog gamN2 [⟨9, [.ints .i64], true, false⟩] (resh Try.prog [⟨9, [.ints .i64], true, false⟩] Try.f9.results.toList R) fuel [.code (cAt (bodyOf Try.f9) [1, 1, 1, 1, 0, 1, 0, 0]), .inLoop (cAt (bodyOf Try.f9) [1, 1, 1, 1, 0, 1, 0, 0]), .inBlock 0, .code (cAt (bodyOf Try.f9) [1, 1, 1, 1, 1])] [(AV.one (AC.int IntKind.i64 n)), (AV.one (AC.int IntKind.i64 d)), (AV.one (AC.int IntKind.i64 k)), AV.undef, AV.undef, AV.undef, AV.undef, AV.undef, (AV.one (AC.int IntKind.i64 (Go.Nz.suI n d k))), (AV.one (AC.vec 100009)), (AV.one (AC.int IntKind.i64 x0)), AV.undef, AV.undef, AV.undef, AV.undef, AV.undef, AV.undef, AV.undef, AV.undef, AV.undef, AV.undef, AV.undef, AV.undef, AV.undef, AV.undef, AV.undef, AV.undef, AV.undef, AV.undef, AV.undef, AV.undef, AV.undef, AV.undef, AV.undef, AV.undef, AV.undef, AV.undef, (AV.tup [])] [(100009, Blk.vec [(Col.ints IntKind.i64 x1)])]

theorem rtable.l0_succ (R : AV → Mem → Prop) (n : Int) (d : Int) (k : Int) (fuel : Nat) (x0 : Int) (x1 : List Int) : rtable.l0 R n d k (fuel + 1) x0 x1 = (((((ile x0 k) = true) → ((Go.Nz.Fit n d x0) ∧ ((NeZ (Go.Nz.suI n d k)) ∧ ((Room (nadd (llen x1) (llen [(quo IntKind.i64 (mul IntKind.i64 65536 (Go.Nz.suI n d x0)) (Go.Nz.suI n d k))])) 8) ∧ (rtable.l0 R n d k fuel (add IntKind.i64 x0 1) (lcat x1 [(quo IntKind.i64 (mul IntKind.i64 65536 (Go.Nz.suI n d x0)) (Go.Nz.suI n d k))])))))) ∧ (((ile x0 k) = false) → (R (AV.tup [(TV.c (AC.vec 100009)), (TV.c (AC.int IntKind.i64 0))]) [(100009, Blk.vec [(Col.ints IntKind.i64 x1)])])))) := by kernel_rfl
theorem rtable.l0_zero (R : AV → Mem → Prop) (n : Int) (d : Int) (k : Int) (x0 : Int) (x1 : List Int) : rtable.l0 R n d k 0 x0 x1 = False := by kernel_rfl

theorem rtable_vc (R : AV → Mem → Prop) (fuel : Nat) (n : Int) (d : Int) (k : Int) : callsx Try.prog gamN2 [⟨9, [.ints .i64], true, false⟩] Try.f9 (fuel + 1) [.one (.int .i64 n), .one (.int .i64 d), .one (.int .i64 k)] [] R = (((((bnot (Go.Nz.fitB n d k)) = true) → (R (AV.tup [(TV.c (AC.con (Value.slice (Option.none) 0 0))), (TV.c (AC.int IntKind.i64 2))]) [])) ∧ (((bnot (Go.Nz.fitB n d k)) = false) → ((Go.Nz.Fit n d k) ∧ (rtable.l0 R n d k fuel 0 []))))) := by kernel_rfl

def ntable.l1 (R : AV → Mem → Prop) (k : Int) (x2 : List Int) (fuel : Nat) (x3 : Int) (x4 : List Int) : Prop := run Try.prog gam0 [⟨8, [.ints .i64], true, false⟩, ⟨12, [.ints .i64], true, false⟩] (resh Try.prog [⟨8, [.ints .i64], true, false⟩, ⟨12, [.ints .i64], true, false⟩] Try.f10.results.toList R) fuel [.code (cAt (bodyOf Try.f10) [1, 1, 1, 1, 1, 0, 1, 0, 0]), .inLoop (cAt (bodyOf Try.f10) [1, 1, 1, 1, 1, 0, 1, 0, 0]), .inBlock 2, .code (cAt (bodyOf Try.f10) [1, 1, 1, 1, 1, 1])] [AV.undef, AV.undef, (AV.one (AC.int IntKind.i64 k)), AV.undef, AV.undef, AV.undef, AV.undef, AV.undef, (AV.one (AC.vec 100008)), AV.undef, AV.undef, AV.undef, (AV.one (AC.vec 100012)), AV.undef, AV.undef, AV.undef, AV.undef, AV.undef, AV.undef, AV.undef, AV.undef, AV.undef, AV.undef, AV.undef, AV.undef, AV.undef, AV.undef, AV.undef, AV.undef, AV.undef, AV.undef, AV.undef, AV.undef, AV.undef, AV.undef, AV.undef, AV.undef, AV.undef, AV.undef, AV.undef, AV.undef, AV.undef, AV.undef, AV.undef, AV.undef, AV.undef, AV.undef, AV.undef, AV.undef, AV.undef, AV.undef, AV.undef, AV.undef, AV.undef, AV.undef, AV.undef, AV.undef, AV.undef, AV.undef, AV.undef, AV.undef, AV.undef, AV.undef, AV.undef, AV.undef, AV.undef, AV.undef, AV.undef, (AV.one (AC.vec 100008)), (AV.one (AC.int IntKind.i64 (ofNat (llen x2)))), (AV.one (AC.int IntKind.i64 x3)), AV.undef, AV.undef, AV.undef, AV.undef, AV.undef, AV.undef, AV.undef, AV.undef, AV.undef, AV.undef, AV.undef, AV.undef, AV.undef, AV.undef, (AV.tup [])] [(100008, Blk.vec [(Col.ints IntKind.i64 x2)]), (100012, Blk.vec [(Col.ints IntKind.i64 x4)])]

def ntable.l0 (R : AV → Mem → Prop) (n : Int) (d : Int) (k : Int) (fuel : Nat) (x0 : Int) (x1 : Int) (x2 : List Int) : Prop := run Try.prog gam0 [⟨8, [.ints .i64], true, false⟩, ⟨12, [.ints .i64], true, false⟩] (resh Try.prog [⟨8, [.ints .i64], true, false⟩, ⟨12, [.ints .i64], true, false⟩] Try.f10.results.toList R) fuel [.code (cAt (bodyOf Try.f10) [1, 1, 1, 0, 1, 0, 0]), .inLoop (cAt (bodyOf Try.f10) [1, 1, 1, 0, 1, 0, 0]), .inBlock 0, .code (cAt (bodyOf Try.f10) [1, 1, 1, 1])] [(AV.one (AC.int IntKind.i64 n)), (AV.one (AC.int IntKind.i64 d)), (AV.one (AC.int IntKind.i64 k)), AV.undef, AV.undef, AV.undef, AV.undef, AV.undef, (AV.one (AC.vec 100008)), (AV.one (AC.int IntKind.i64 x0)), (AV.one (AC.int IntKind.i64 x1)), AV.undef, (AV.tup []), AV.undef, (AV.tup []), AV.undef, AV.undef, AV.undef, AV.undef, AV.undef, AV.undef, AV.undef, AV.undef, AV.undef, AV.undef, AV.undef, AV.undef, AV.undef, AV.undef, AV.undef, AV.undef, AV.undef, AV.undef, AV.undef, AV.undef, AV.undef, AV.undef, AV.undef, AV.undef, AV.undef, AV.undef, AV.undef, AV.undef, AV.undef, AV.undef, AV.undef, AV.undef, AV.undef, AV.undef, AV.undef, AV.undef, AV.undef, AV.undef, AV.undef, AV.undef, AV.undef, AV.undef, AV.undef, AV.undef, AV.undef, AV.undef, AV.undef, AV.undef, AV.undef, AV.undef, (AV.tup []), (AV.tup []), (AV.tup []), (AV.tup []), (AV.tup []), (AV.tup []), (AV.tup []), (AV.tup []), (AV.tup []), (AV.tup []), (AV.tup []), (AV.tup []), (AV.tup []), (AV.tup []), (AV.tup []), (AV.tup []), (AV.tup []), (AV.tup []), (AV.tup []), (AV.tup []), (AV.tup [])] [(100008, Blk.vec [(Col.ints IntKind.i64 x2)])]

theorem ntable.l1_succ (R : AV → Mem → Prop) (k : Int) (x2 : List Int) (fuel : Nat) (x3 : Int) (x4 : List Int) : ntable.l1 R k x2 (fuel + 1) x3 x4 = (((((ilt x3 (ofNat (llen x2))) = true) → ((InB x3 (llen x2)) ∧ ((InB k (llen x2)) ∧ ((NeZ (lget x2 (nat k))) ∧ ((Room (nadd (llen x4) (llen [(quo IntKind.i64 (mul IntKind.i64 65536 (lget x2 (nat x3))) (lget x2 (nat k)))])) 8) ∧ (ntable.l1 R k x2 fuel (add IntKind.i64 x3 1) (lcat x4 [(quo IntKind.i64 (mul IntKind.i64 65536 (lget x2 (nat x3))) (lget x2 (nat k)))]))))))) ∧ (((ilt x3 (ofNat (llen x2))) = false) → (R (AV.tup [(TV.c (AC.vec 100012)), (TV.c (AC.int IntKind.i64 0))]) [(100008, Blk.vec [(Col.ints IntKind.i64 x2)]), (100012, Blk.vec [(Col.ints IntKind.i64 x4)])])))) := by kernel_rfl
theorem ntable.l1_zero (R : AV → Mem → Prop) (k : Int) (x2 : List Int) (x3 : Int) (x4 : List Int) : ntable.l1 R k x2 0 x3 x4 = False := by kernel_rfl

theorem ntable.l0_succ (R : AV → Mem → Prop) (n : Int) (d : Int) (k : Int) (fuel : Nat) (x0 : Int) (x1 : Int) (x2 : List Int) : ntable.l0 R n d k (fuel + 1) x0 x1 x2 = (((((ile x0 k) = true) → ((((igt x0 0) = true) → ((InB (sub IntKind.i64 x0 1) (llen x2)) ∧ ((Room (nadd (llen x2) (llen [(add IntKind.i64 x1 (lget x2 (nat (sub IntKind.i64 x0 1))))])) 8) ∧ ((NeZ d) ∧ (ntable.l0 R n d k fuel (add IntKind.i64 x0 1) (quo IntKind.i64 (mul IntKind.i64 x1 n) d) (lcat x2 [(add IntKind.i64 x1 (lget x2 (nat (sub IntKind.i64 x0 1))))])))))) ∧ (((igt x0 0) = false) → ((Room (nadd (llen x2) (llen [x1])) 8) ∧ ((NeZ d) ∧ (ntable.l0 R n d k fuel (add IntKind.i64 x0 1) (quo IntKind.i64 (mul IntKind.i64 x1 n) d) (lcat x2 [x1]))))))) ∧ (((ile x0 k) = false) → ((Mk 0 (add IntKind.i64 k 1) 8) ∧ (ntable.l1 R k x2 fuel 0 (lzeros 0)))))) := by kernel_rfl
theorem ntable.l0_zero (R : AV → Mem → Prop) (n : Int) (d : Int) (k : Int) (x0 : Int) (x1 : Int) (x2 : List Int) : ntable.l0 R n d k 0 x0 x1 x2 = False := by kernel_rfl

theorem ntable_vc (R : AV → Mem → Prop) (fuel : Nat) (n : Int) (d : Int) (k : Int) : callsx Try.prog gam0 [⟨8, [.ints .i64], true, false⟩, ⟨12, [.ints .i64], true, false⟩] Try.f10 (fuel + 1) [.one (.int .i64 n), .one (.int .i64 d), .one (.int .i64 k)] [] R = (((((ilt n 0) = false) → ((((igt n d) = false) → ((((ilt d 1) = false) → ((((igt d 1000) = false) → ((((ilt k 0) = false) → ((((igt k 16) = true) → (R (AV.tup [(TV.c (AC.con (Value.slice (Option.none) 0 0))), (TV.c (AC.int IntKind.i64 2))]) [])) ∧ (((igt k 16) = false) → ((Mk 0 (add IntKind.i64 k 1) 8) ∧ (ntable.l0 R n d k fuel 0 4294967296 (lzeros 0)))))) ∧ (((ilt k 0) = true) → (R (AV.tup [(TV.c (AC.con (Value.slice (Option.none) 0 0))), (TV.c (AC.int IntKind.i64 2))]) [])))) ∧ (((igt d 1000) = true) → (R (AV.tup [(TV.c (AC.con (Value.slice (Option.none) 0 0))), (TV.c (AC.int IntKind.i64 2))]) [])))) ∧ (((ilt d 1) = true) → (R (AV.tup [(TV.c (AC.con (Value.slice (Option.none) 0 0))), (TV.c (AC.int IntKind.i64 2))]) [])))) ∧ (((igt n d) = true) → (R (AV.tup [(TV.c (AC.con (Value.slice (Option.none) 0 0))), (TV.c (AC.int IntKind.i64 2))]) [])))) ∧ (((ilt n 0) = true) → (R (AV.tup [(TV.c (AC.con (Value.slice (Option.none) 0 0))), (TV.c (AC.int IntKind.i64 2))]) [])))) := by kernel_rfl

theorem nawake_vc (R : AV → Mem → Prop) (fuel : Nat)  : callsx Try.prog gamN3 [] Try.f8 (fuel + 1) [] [] R = (((((ieq (Go.Nz.tblE 1 2 3) 0) = true) → (((Short (Go.Nz.tblL 1 2 3)) ∧ (Short [34952, 52428, 61166, 65536])) ∧ (R (AV.one (AC.bool (leq (Go.Nz.tblL 1 2 3) [34952, 52428, 61166, 65536]))) [(4, Blk.vec [(Col.ints IntKind.i64 (Go.Nz.tblL 1 2 3))]), (11, Blk.vec [(Col.ints IntKind.i64 [34952, 52428, 61166, 65536])])]))) ∧ (((ieq (Go.Nz.tblE 1 2 3) 0) = false) → (R (AV.one (AC.lit false)) [(4, Blk.vec [(Col.ints IntKind.i64 (Go.Nz.tblL 1 2 3))])])))) := by kernel_rfl

def ltables.l0 (R : AV → Mem → Prop) (n : Int) (d : Int) (k : Int) (fuel : Nat) (x0 : Int) (x1 : List Int) : Prop := run Try.prog gamN4 [] (resh Try.prog [] Try.f3.results.toList R) fuel [.code (cAt (bodyOf Try.f3) [1, 1, 1, 1, 1, 1, 0, 1, 0, 0]), .inLoop (cAt (bodyOf Try.f3) [1, 1, 1, 1, 1, 1, 0, 1, 0, 0]), .inBlock 0, .code (cAt (bodyOf Try.f3) [1, 1, 1, 1, 1, 1, 1])] [(AV.one (AC.int IntKind.i64 n)), (AV.one (AC.int IntKind.i64 d)), (AV.one (AC.int IntKind.i64 k)), AV.undef, AV.undef, AV.undef, AV.undef, (AV.one (AC.vec 22)), (AV.one (AC.int IntKind.i64 (Go.Nz.tblE n d k))), (AV.one (AC.vec 29)), AV.undef, (AV.one (AC.vec 36)), AV.undef, AV.undef, (AV.tup []), (AV.tup []), AV.undef, AV.undef, AV.undef, AV.undef, AV.undef, AV.undef, AV.undef, AV.undef, AV.undef, AV.undef, AV.undef, AV.undef, AV.undef, AV.undef, AV.undef, AV.undef, AV.undef, AV.undef, AV.undef, AV.undef, AV.undef, AV.undef, AV.undef, AV.undef, AV.undef, AV.undef, AV.undef, AV.undef, AV.undef, AV.undef, AV.undef, AV.undef, AV.undef, AV.undef, AV.undef, AV.undef, AV.undef, AV.undef, AV.undef, AV.undef, AV.undef, AV.undef, AV.undef, AV.undef, (AV.one (AC.int IntKind.i64 (ofNat (llen (Go.Nz.tblL n d k))))), (AV.one (AC.int IntKind.i64 x0)), AV.undef, AV.undef, AV.undef, AV.undef, AV.undef, AV.undef, (AV.tup []), (AV.tup []), (AV.tup []), (AV.tup []), (AV.tup []), (AV.tup []), (AV.tup []), (AV.tup []), (AV.tup []), (AV.tup []), (AV.tup []), (AV.tup []), (AV.tup []), (AV.tup []), (AV.tup []), (AV.tup []), (AV.tup []), (AV.tup []), (AV.tup []), (AV.tup []), (AV.tup []), (AV.tup []), (AV.tup []), (AV.tup []), (AV.tup []), (AV.tup []), (AV.tup []), (AV.tup [])] [(22, Blk.vec [(Col.ints IntKind.i64 (Go.Nz.tblL n d k))]), (29, Blk.vec [(Col.ints IntKind.i64 x1)]), (36, Blk.vec [(Col.ints IntKind.i64 (Go.Nz.tblL n d k))])]

theorem ltables.l0_succ (R : AV → Mem → Prop) (n : Int) (d : Int) (k : Int) (fuel : Nat) (x0 : Int) (x1 : List Int) : ltables.l0 R n d k (fuel + 1) x0 x1 = (((((ilt x0 (ofNat (llen (Go.Nz.tblL n d k)))) = true) → ((InB x0 (llen x1)) ∧ (ltables.l0 R n d k fuel (add IntKind.i64 x0 1) (lset x1 (nat x0) (-1 : Int))))) ∧ (((ilt x0 (ofNat (llen (Go.Nz.tblL n d k)))) = false) → ((Room (nadd (llen x1) 3) 8) ∧ ((((ieq (Go.Nz.tblE n d k) (Go.Nz.tblE n d k)) = true) → (((Short (Go.Nz.tblL n d k)) ∧ (Short (Go.Nz.tblL n d k))) ∧ ((((leq (Go.Nz.tblL n d k) (Go.Nz.tblL n d k)) = true) → (((Short (Go.Nz.tblL n d k)) ∧ (Short (Go.Nz.tblL n d k))) ∧ ((((leq (Go.Nz.tblL n d k) (Go.Nz.tblL n d k)) = true) → (R (AV.one (AC.bool (ige (ofNat (llen (lcat x1 [(-1 : Int), (-1 : Int), (-1 : Int)]))) 3))) [(22, Blk.vec [(Col.ints IntKind.i64 (Go.Nz.tblL n d k))]), (36, Blk.vec [(Col.ints IntKind.i64 (Go.Nz.tblL n d k))]), (69, Blk.vec [(Col.ints IntKind.i64 [(-1 : Int), (-1 : Int), (-1 : Int)])]), (70, Blk.vec [(Col.ints IntKind.i64 (lcat x1 [(-1 : Int), (-1 : Int), (-1 : Int)]))]), (75, Blk.vec [(Col.ints IntKind.i64 (Go.Nz.tblL n d k))])])) ∧ (((leq (Go.Nz.tblL n d k) (Go.Nz.tblL n d k)) = false) → (R (AV.one (AC.lit false)) [(22, Blk.vec [(Col.ints IntKind.i64 (Go.Nz.tblL n d k))]), (36, Blk.vec [(Col.ints IntKind.i64 (Go.Nz.tblL n d k))]), (69, Blk.vec [(Col.ints IntKind.i64 [(-1 : Int), (-1 : Int), (-1 : Int)])]), (70, Blk.vec [(Col.ints IntKind.i64 (lcat x1 [(-1 : Int), (-1 : Int), (-1 : Int)]))]), (75, Blk.vec [(Col.ints IntKind.i64 (Go.Nz.tblL n d k))])]))))) ∧ (((leq (Go.Nz.tblL n d k) (Go.Nz.tblL n d k)) = false) → (R (AV.one (AC.lit false)) [(22, Blk.vec [(Col.ints IntKind.i64 (Go.Nz.tblL n d k))]), (36, Blk.vec [(Col.ints IntKind.i64 (Go.Nz.tblL n d k))]), (69, Blk.vec [(Col.ints IntKind.i64 [(-1 : Int), (-1 : Int), (-1 : Int)])]), (70, Blk.vec [(Col.ints IntKind.i64 (lcat x1 [(-1 : Int), (-1 : Int), (-1 : Int)]))]), (75, Blk.vec [(Col.ints IntKind.i64 (Go.Nz.tblL n d k))])]))))) ∧ (((ieq (Go.Nz.tblE n d k) (Go.Nz.tblE n d k)) = false) → (R (AV.one (AC.lit false)) [(22, Blk.vec [(Col.ints IntKind.i64 (Go.Nz.tblL n d k))]), (36, Blk.vec [(Col.ints IntKind.i64 (Go.Nz.tblL n d k))]), (69, Blk.vec [(Col.ints IntKind.i64 [(-1 : Int), (-1 : Int), (-1 : Int)])]), (70, Blk.vec [(Col.ints IntKind.i64 (lcat x1 [(-1 : Int), (-1 : Int), (-1 : Int)]))]), (75, Blk.vec [(Col.ints IntKind.i64 (Go.Nz.tblL n d k))])]))))))) := by kernel_rfl
theorem ltables.l0_zero (R : AV → Mem → Prop) (n : Int) (d : Int) (k : Int) (x0 : Int) (x1 : List Int) : ltables.l0 R n d k 0 x0 x1 = False := by kernel_rfl

theorem ltables_vc (R : AV → Mem → Prop) (fuel : Nat) (n : Int) (d : Int) (k : Int) : callsx Try.prog gamN4 [] Try.f3 (fuel + 1) [.one (.int .i64 n), .one (.int .i64 d), .one (.int .i64 k)] [] R = (((((ine (Go.Nz.tblE n d k) (Go.Nz.tblE n d k)) = false) → ((((ine (Go.Nz.tblE n d k) (Go.Nz.tblE n d k)) = false) → (((Short (Go.Nz.tblL n d k)) ∧ (Short (Go.Nz.tblL n d k))) ∧ ((((bnot (leq (Go.Nz.tblL n d k) (Go.Nz.tblL n d k))) = false) → (((Short (Go.Nz.tblL n d k)) ∧ (Short (Go.Nz.tblL n d k))) ∧ ((((bnot (leq (Go.Nz.tblL n d k) (Go.Nz.tblL n d k))) = true) → (R (AV.one (AC.lit false)) [(22, Blk.vec [(Col.ints IntKind.i64 (Go.Nz.tblL n d k))]), (29, Blk.vec [(Col.ints IntKind.i64 (Go.Nz.tblL n d k))]), (36, Blk.vec [(Col.ints IntKind.i64 (Go.Nz.tblL n d k))])])) ∧ (((bnot (leq (Go.Nz.tblL n d k) (Go.Nz.tblL n d k))) = false) → (ltables.l0 R n d k fuel 0 (Go.Nz.tblL n d k)))))) ∧ (((bnot (leq (Go.Nz.tblL n d k) (Go.Nz.tblL n d k))) = true) → (R (AV.one (AC.lit false)) [(22, Blk.vec [(Col.ints IntKind.i64 (Go.Nz.tblL n d k))]), (29, Blk.vec [(Col.ints IntKind.i64 (Go.Nz.tblL n d k))]), (36, Blk.vec [(Col.ints IntKind.i64 (Go.Nz.tblL n d k))])]))))) ∧ (((ine (Go.Nz.tblE n d k) (Go.Nz.tblE n d k)) = true) → (R (AV.one (AC.lit false)) [(22, Blk.vec [(Col.ints IntKind.i64 (Go.Nz.tblL n d k))]), (29, Blk.vec [(Col.ints IntKind.i64 (Go.Nz.tblL n d k))]), (36, Blk.vec [(Col.ints IntKind.i64 (Go.Nz.tblL n d k))])])))) ∧ (((ine (Go.Nz.tblE n d k) (Go.Nz.tblE n d k)) = true) → (R (AV.one (AC.lit false)) [(22, Blk.vec [(Col.ints IntKind.i64 (Go.Nz.tblL n d k))]), (29, Blk.vec [(Col.ints IntKind.i64 (Go.Nz.tblL n d k))]), (36, Blk.vec [(Col.ints IntKind.i64 (Go.Nz.tblL n d k))])])))) := by kernel_rfl

end Go.Proofs.Ytacnldmmacjpoaa.G

/- Arguments of a law: opening what came in, and handing it to the walk. -/
namespace Go.Sx
open Go Go.ChangeShapes Go.WideShapes Go.ChangeAt Go.RowKit
set_option linter.unusedSimpArgs false
set_option linter.unusedVariables false

section
variable {H : Type} {enc : TypeId × Value → H} {P : Program} {w : World} {base : Nat} {sp : Nat → Bool} {held : Bool}

/-- the arguments, one by one -/
inductive Args (ρ : Rho) : List AV → List Value → Prop
  | nil : Args ρ [] []
  | cons {x v l m} : SRep ρ x v → Args ρ l m → Args ρ (x :: l) (v :: m)

theorem Args.at {ρ : Rho} {l : List AV} {m : List Value} (h : Args ρ l m) : ∀ (j : Nat) x v, l[j]? = some x → m[j]? = some v → SRep ρ x v := by
  induction h with
  | nil => intro j x v h1; simp at h1
  | cons h t ih =>
    intro j x v h1 h2
    cases j with
    | zero => simp only [List.getElem?_cons_zero, Option.some.injEq] at h1 h2; subst h1; subst h2; exact h
    | succ j => exact ih j x v (by simpa using h1) (by simpa using h2)

theorem Args.arr {ρ : Rho} {l : List AV} {vals : Array Value} (h : Args ρ l vals.toList) (j : Nat) (x : AV) (v : Value) (h1 : l[j]? = some x) (h2 : vals[j]? = some v) : SRep ρ x v :=
  h.at j x v h1 (by simpa using h2)

theorem srep_int (ρ : Rho) (k : IntKind) (n : Int) : SRep ρ (.one (.int k n)) (.int k n) := rfl
theorem srep_bool (ρ : Rho) (b : Bool) : SRep ρ (.one (.bool b)) (.bool b) := rfl

theorem srep_arr (ρ : Rho) (k : IntKind) (n : Nat) (l : List Int) (h : l.length = n) : SRep ρ (.agg [.ints k n l]) (.agg (l.map (Value.int k)).toArray) := by
  refine ⟨⟨h, trivial⟩, l.map (Value.int k), rfl, by simp [flat, Seg.flat], fun j a v h1 h2 => ?_⟩
  simp only [flat, Seg.flat, List.append_nil, List.getElem?_map, Option.map_eq_some_iff] at h1 h2
  obtain ⟨z, hz, rfl⟩ := h1
  obtain ⟨z', hz', rfl⟩ := h2
  rw [hz] at hz'; cases hz'
  rfl

/-- what the walk is told of a slice of integers that came in -/
def IsRow (k : IntKind) (w : World) (a : Option Addr) (len cap : Nat) (zs : List Int) : Prop :=
  (a = none ∧ len = 0 ∧ cap = 0 ∧ zs = []) ∨
  ∃ x, a = some x ∧ len ≤ cap ∧ cap ≤ maxLen ∧ zs.length = cap ∧ (∀ i, i < zs.length → w.cell? (x.add i) = some (.int k (zs.getD i 0))) ∧ ∀ n ∈ zs, (Lit.int k n).wf = true

theorem open_row {t e : TypeId} {k : IntKind} {a : Option Addr} {len cap : Nat} {d : DataW H} {ps : List MemPlace} (ht : P.underlying t = some (.slice e)) (he : P.underlying e = some (.int k)) (hc : P.cellsOf e = 1)
    (h : DataW.Trod enc P w 0 (fun _ => true) true t (.slice a len cap) d ps) : ∃ zs, IsRow k w a len cap zs := by
  obtain ⟨fuel, hf⟩ := h
  rcases open_ints ht he hc hf with ⟨hcs, _⟩ | ⟨x, l, c, zs, hcs, _, hl, hm, hz, _, hcell, hwz⟩
  · simp [Value.cells] at hcs
    obtain ⟨rfl, rfl, rfl⟩ := hcs
    exact ⟨[], .inl ⟨rfl, rfl, rfl, rfl⟩⟩
  · simp [Value.cells] at hcs
    obtain ⟨rfl, rfl, rfl⟩ := hcs
    exact ⟨zs, .inr ⟨_, rfl, hl, hm, by simpa using hz, hcell, hwz⟩⟩

theorem open_array {t e : TypeId} {k : IntKind} {n : Nat} {r : Reach} {b0 : Nat} {v : Value} {d : DataW H} {ps : List MemPlace} (ht : P.underlying t = some (.array n e)) (he : P.underlying e = some (.int k)) (hc : P.cellsOf e = 1) (hn : P.cellsOf t = n)
    (hv : Value.okWide P w r b0 t v) (h : DataW.Trod enc P w base sp held t v d ps) : ∃ zs : List Int, v = .agg (zs.map (Value.int k)).toArray ∧ zs.length = n ∧ ∀ z ∈ zs, (Lit.int k z).wf = true := by
  have hv' : ∃ xs : Array Value, v = .agg xs := by
    simp only [Value.okWide, ht] at hv
    obtain ⟨cs, h1, _⟩ := hv
    exact ⟨cs, h1⟩
  obtain ⟨xs, rfl⟩ := hv'
  obtain ⟨fuel, hf⟩ := h
  obtain ⟨ys, m, rfl, _, hl, hn', hr⟩ := DataW.trod_array ht hf
  simp only [Value.cells, hc, Nat.mul_one] at hl hr
  have hx : ∀ i, i < n → ∃ z, xs[i]? = some (.int k z) ∧ (Lit.int k z).wf = true := by
    intro i hi
    have h1 := hr i hi
    obtain ⟨y, hy⟩ : ∃ y, ys[i]? = some y := ⟨_, List.getElem?_eq_getElem (by omega)⟩
    rw [hy] at h1
    obtain ⟨z, hz, _, hw⟩ := DataW.trod_int he h1
    refine ⟨z, ?_, hw⟩
    have hlen : i < xs.toList.length := by omega
    rw [List.drop_eq_getElem_cons hlen] at hz
    simp at hz
    rw [Array.getElem?_eq_getElem (by simpa using hlen), hz]
  have hsz : xs.size = n := by rw [hn] at hl; simpa using hl
  refine ⟨xs.toList.map fun | .int _ z => z | _ => 0, ?_, by simp [hsz], ?_⟩
  · congr 1
    apply Array.ext
    · simp
    · intro i h1 h2
      obtain ⟨z, hz, _⟩ := hx i (by omega)
      rw [Array.getElem?_eq_getElem h1] at hz
      cases hz' : xs[i] <;> rw [hz'] at hz <;> cases hz
      simp [hz']
  · intro z hz
    simp only [List.mem_map] at hz
    obtain ⟨v, hv, rfl⟩ := hz
    obtain ⟨i, hi, rfl⟩ := List.getElem_of_mem hv
    obtain ⟨z, hz, hw⟩ := hx i (by simpa [hsz] using hi)
    have : xs.toList[i] = .int k z := by
      rw [Array.getElem?_eq_getElem (by simpa using hi)] at hz
      simpa using hz
    rw [this]
    exact hw

theorem nat_u8 {z : Int} (h : (Lit.int .u8 z).wf = true) : ∃ a : Nat, z = a ∧ a < 256 := by
  obtain ⟨h1, h2⟩ := bounds_u8 h
  exact ⟨z.toNat, by omega, by omega⟩
end
end Go.Sx

/- Laws over arguments that lie in memory: they are read, and nothing of them is written. -/
namespace Go.Sx
open Go Go.ChangeShapes Go.WideShapes Go.ChangeAt Go.RowKit
set_option linter.unusedSimpArgs false
set_option linter.unusedVariables false

/-- the fields of a struct that came in -/
inductive AggArgs (w : World) : Nat → List Seg → List Value → Mem → Nat → Prop
  | nil (j : Nat) : AggArgs w j [] [] [] j
  | one {j j' : Nat} {a : AC} {v : Value} {s : List Seg} {cs : List Value} {τ : Mem} : (∀ ρ, CRep ρ a v) → AggArgs w j s cs τ j' → AggArgs w j (.cells [a] :: s) (v :: cs) τ j'
  | arr {j j' m : Nat} {k : IntKind} {l : List Int} {s : List Seg} {cs : List Value} {τ : Mem} : l.length = m → AggArgs w j s cs τ j' → AggArgs w j (.ints k m l :: s) (l.map (Value.int k) ++ cs) τ j'
  | row {j j' : Nat} {v : Value} {s : List Seg} {cs : List Value} {τ : Mem} (L : Loc) (cols : List Col) (hj : j < 1000) : VRep w L cols → v = .slice L.a L.len L.cap → AggArgs w (j + 1) s cs τ j' → AggArgs w j (.cells [.vec (200000 + j)] :: s) (v :: cs) ((200000 + j, .rview cols) :: τ) j'

/-- the arguments of a law: plain values, structs, and lists that are seen under names of their own -/
inductive LawArgs (w : World) : Nat → List AV → List Value → Mem → Prop
  | nil (j : Nat) : LawArgs w j [] [] []
  | plain {j : Nat} {x : AV} {v : Value} {xs : List AV} {vs : List Value} {τ : Mem} : (∀ ρ, SRep ρ x v) → LawArgs w (j + 1) xs vs τ → LawArgs w j (x :: xs) (v :: vs) τ
  | row {j : Nat} {v : Value} {xs : List AV} {vs : List Value} {τ : Mem} (L : Loc) (cs : List Col) (hj : j < 1000) : VRep w L cs → v = .slice L.a L.len L.cap → LawArgs w (j + 1) xs vs τ → LawArgs w j (.one (.vec (200000 + j)) :: xs) (v :: vs) ((200000 + j, .rview cs) :: τ)
  | agg {j j' : Nat} {s : List Seg} {cs : List Value} {xs : List AV} {vs : List Value} {τ τ' : Mem} : AggArgs w j s cs τ' j' → LawArgs w j' xs vs τ → LawArgs w j (.agg s :: xs) (.agg cs.toArray :: vs) (τ' ++ τ)
  | glob {j g : Nat} {s : List Seg} {xs : List AV} {vs : List Value} {τ : Mem} : (∀ ρ, Glob ρ → segsOk s ∧ CellsAt ρ w (gname g) (flat s)) → LawArgs w j xs vs τ → LawArgs w j xs vs ((gname g, .view s) :: τ)

theorem find_append {τ' τ : Mem} {n : Nat} {b : Blk} (h : Mem.find (τ' ++ τ) n = some b) : Mem.find τ' n = some b ∨ Mem.find τ n = some b := by
  induction τ' with
  | nil => exact Or.inr h
  | cons x r ih =>
    obtain ⟨m, y⟩ := x
    simp only [List.cons_append, Mem.find] at h ⊢
    split at h
    · rename_i e; rw [if_pos e]; exact Or.inl h
    · rename_i e; rw [if_neg e]; exact ih h

theorem aggArgs_views {w : World} {τ : Mem} : ∀ {j j' : Nat} {s : List Seg} {cs : List Value}, AggArgs w j s cs τ j' → ∀ ρ n b k, Mem.find τ n = some b → ¬ Out ρ n b k := by
  intro j j' s cs h
  induction h with
  | nil j => intro ρ n b k hn; simp [Mem.find] at hn
  | one _ _ ih => exact ih
  | arr _ _ ih => exact ih
  | row L cols _ _ _ _ ih =>
    intro ρ n b k hn
    simp only [Mem.find] at hn
    split at hn
    · cases hn; exact fun q => q
    · exact ih ρ n b k hn

theorem lawArgs_views {w : World} {τ : Mem} : ∀ {j : Nat} {xs : List AV} {vs : List Value}, LawArgs w j xs vs τ → ∀ ρ n b k, Mem.find τ n = some b → ¬ Out ρ n b k := by
  intro j xs vs h
  induction h with
  | nil j => intro ρ n b k hn; simp [Mem.find] at hn
  | plain _ _ ih => exact ih
  | row L cs _ _ _ _ ih =>
    intro ρ n b k hn
    simp only [Mem.find] at hn
    split at hn
    · cases hn; exact fun q => q
    · exact ih ρ n b k hn
  | agg ha _ ih =>
    intro ρ n b k hn
    rcases find_append hn with q | q
    · exact aggArgs_views ha ρ n b k q
    · exact ih ρ n b k q
  | glob _ _ ih =>
    intro ρ n b k hn
    simp only [Mem.find] at hn
    split at hn
    · cases hn; exact fun q => q
    · exact ih ρ n b k hn

theorem FRep.cons {ρ : Rho} {a : AC} {v : Value} {l : List AC} {c : List Value} (h : CRep ρ a v) (t : FRep ρ l c) : FRep ρ (a :: l) (v :: c) := by
  refine ⟨by simp [t.1], fun j x u hx hu => ?_⟩
  cases j with
  | zero => simp at hx hu; subst hx hu; exact h
  | succ j => exact t.2 j x u (by simpa using hx) (by simpa using hu)

theorem FRep.arr {ρ : Rho} {k : IntKind} {l : List AC} {c : List Value} : ∀ (a : List Int), FRep ρ l c → FRep ρ (a.map (.int k) ++ l) (a.map (Value.int k) ++ c)
  | [], h => h
  | x :: a, h => FRep.cons rfl (FRep.arr a h)

theorem aggArgs_sound {w : World} {τ : Mem} : ∀ {j j' : Nat} {s : List Seg} {cs : List Value}, AggArgs w j s cs τ j' →
    j ≤ j' ∧ ∃ Ls : Nat → Loc, ∀ ρ : Rho, (∀ i, j ≤ i → i < j' → i < 1000 → ρ (200000 + i) = Ls i) → segsOk s ∧ FRep ρ (flat s) cs ∧ MemRep ρ τ w := by
  intro j j' s cs h
  induction h with
  | nil j => exact ⟨Nat.le_refl _, fun _ => loc0, fun ρ _ => ⟨trivial, ⟨rfl, fun i y v hy => by simp [flat] at hy⟩, fun n b hb => by simp [Mem.find] at hb⟩⟩
  | one hp _ ih =>
    obtain ⟨h1, Ls, h2⟩ := ih
    refine ⟨h1, Ls, fun ρ hc => ?_⟩
    obtain ⟨g1, g2, g3⟩ := h2 ρ hc
    exact ⟨⟨trivial, g1⟩, FRep.cons (hp ρ) g2, g3⟩
  | arr hl _ ih =>
    obtain ⟨h1, Ls, h2⟩ := ih
    refine ⟨h1, Ls, fun ρ hc => ?_⟩
    obtain ⟨g1, g2, g3⟩ := h2 ρ hc
    exact ⟨⟨hl, g1⟩, FRep.arr _ g2, g3⟩
  | @row j j' v s cs τ L cols hj hV hv _ ih =>
    obtain ⟨h1, Ls, h2⟩ := ih
    refine ⟨by omega, fun i => if i = j then L else Ls i, fun ρ hc => ?_⟩
    have hj' : ρ (200000 + j) = L := by rw [hc j (Nat.le_refl _) (by omega) hj]; simp
    obtain ⟨g1, g2, g3⟩ := h2 ρ (fun i hi hlt h1000 => by rw [hc i (by omega) hlt h1000]; show (if i = j then _ else Ls i) = Ls i; rw [if_neg (by omega)])
    refine ⟨⟨trivial, g1⟩, FRep.cons (show v = _ by rw [hj']; exact hv) g2, fun n b hb => ?_⟩
    simp only [Mem.find] at hb
    split at hb
    · rename_i e; subst e; cases hb
      show VRep w (ρ (200000 + j)) cols
      rw [hj']; exact hV
    · exact g3 n b hb

theorem lawArgs_sound {w : World} {τ : Mem} : ∀ {j : Nat} {xs : List AV} {vs : List Value}, LawArgs w j xs vs τ →
    xs.length = vs.length ∧ ∃ Ls : Nat → Loc, ∀ ρ : Rho, Glob ρ → (∀ i, j ≤ i → i < 1000 → ρ (200000 + i) = Ls i) → (∀ (i : Nat) y v, xs[i]? = some y → vs[i]? = some v → SRep ρ y v) ∧ MemRep ρ τ w := by
  intro j xs vs h
  induction h with
  | nil j => exact ⟨rfl, fun _ => loc0, fun ρ _ _ => ⟨fun i y v hy => by simp at hy, fun n b hb => by simp [Mem.find] at hb⟩⟩
  | @plain j x v xs vs τ hp _ ih =>
    obtain ⟨h1, Ls, h2⟩ := ih
    refine ⟨by simpa using h1, Ls, fun ρ hg hc => ?_⟩
    obtain ⟨g1, g2⟩ := h2 ρ hg (fun i hi hlt => hc i (by omega) hlt)
    refine ⟨fun i y u hy hu => ?_, g2⟩
    cases i with
    | zero => simp at hy hu; subst hy hu; exact hp ρ
    | succ i => exact g1 i y u (by simpa using hy) (by simpa using hu)
  | @row j v xs vs τ L cs hj hV hv _ ih =>
    obtain ⟨h1, Ls, h2⟩ := ih
    refine ⟨by simpa using h1, fun i => if i = j then L else Ls i, fun ρ hg hc => ?_⟩
    have hj : ρ (200000 + j) = L := by rw [hc j (Nat.le_refl _) hj]; simp
    obtain ⟨g1, g2⟩ := h2 ρ hg (fun i hi hlt => by rw [hc i (by omega) hlt]; show (if i = j then _ else Ls i) = Ls i; rw [if_neg (by omega)])
    refine ⟨fun i y u hy hu => ?_, fun n b hb => ?_⟩
    · cases i with
      | zero =>
        simp at hy hu
        subst hy hu
        show v = _
        rw [hj]; exact hv
      | succ i => exact g1 i y u (by simpa using hy) (by simpa using hu)
    · simp only [Mem.find] at hb
      split at hb
      · rename_i e; subst e; cases hb
        show VRep w (ρ (200000 + j)) cs
        rw [hj]; exact hV
      · exact g2 n b hb
  | @agg j j' s cs xs vs τ τ' ha _ ih =>
    obtain ⟨h1, Ls, h2⟩ := ih
    obtain ⟨a1, La, a2⟩ := aggArgs_sound ha
    refine ⟨by simpa using h1, fun i => if i < j' then La i else Ls i, fun ρ hg hc => ?_⟩
    obtain ⟨g1, g2⟩ := h2 ρ hg (fun i hi hlt => by rw [hc i (by omega) hlt]; show (if i < j' then _ else Ls i) = Ls i; rw [if_neg (by omega)])
    obtain ⟨b1, b2, b3⟩ := a2 ρ (fun i hi hlt h1000 => by rw [hc i hi h1000]; show (if i < j' then La i else _) = La i; rw [if_pos hlt])
    refine ⟨fun i y u hy hu => ?_, fun n b hb => ?_⟩
    · cases i with
      | zero =>
        simp at hy hu
        subst hy hu
        exact ⟨b1, cs, rfl, b2⟩
      | succ i => exact g1 i y u (by simpa using hy) (by simpa using hu)
    · rcases find_append hb with q | q
      · exact b3 n b q
      · exact g2 n b q
  | @glob j g s xs vs τ hp _ ih =>
    obtain ⟨h1, Ls, h2⟩ := ih
    refine ⟨h1, Ls, fun ρ hg hc => ?_⟩
    obtain ⟨g1, g2⟩ := h2 ρ hg hc
    refine ⟨g1, fun n b hb => ?_⟩
    simp only [Mem.find] at hb
    split at hb
    · rename_i e; subst e; cases hb
      exact hp ρ hg
    · exact g2 n b hb

theorem loc_of {w : World} {k : IntKind} {a : Option Addr} {len cap : Nat} {zs : List Int} (h : IsRow k w a len cap zs) : ∃ L : Loc, VRep w L [.ints k (zs.take len)] ∧ Value.slice a len cap = .slice L.a L.len L.cap := by
  rcases h with ⟨rfl, rfl, rfl, rfl⟩ | ⟨x, rfl, hl, hm, hz, hc, hw⟩
  · exact ⟨loc0, VRep.ofInts rfl (Nat.le_refl _) (fun q => absurd rfl q) (fun j x hj => by simp at hj), rfl⟩
  · have hcell : ∀ (j : Nat) y, (zs.take len)[j]? = some y → w.cell? (x.add j) = some (.int k y) := fun j y hj => by
      have hlt : j < len := by have := (List.getElem?_eq_some_iff.1 hj).1; simp at this; omega
      rw [hc j (by omega)]
      rw [List.getElem?_take_of_lt hlt] at hj
      simp [List.getD, hj]
    have hsp : 0 < len → x.spot = none := fun hp => by
      have h0 := hc 0 (by omega)
      cases hs : x.spot with
      | none => rfl
      | some q =>
        exfalso
        have : (x.add 0).spot.isSome = true := by cases x; simp only at hs; subst hs; rfl
        simp only [World.cell?, this] at h0
        split at h0 <;> simp at h0
    refine ⟨⟨x.block, x.off, some x, len, cap, fun _ _ => ⟨none, 0, 0⟩⟩, VRep.ofInts (by simp; omega) hl (fun q => ?_) (fun j y hj => ?_), rfl⟩
    · have := hsp (Nat.pos_of_ne_zero q)
      cases x
      simp only at this; subst this; rfl
    · have hlt : j < len := by have := (List.getElem?_eq_some_iff.1 hj).1; simp at this; omega
      have := hsp (by omega)
      have e : (Loc.at ⟨x.block, x.off, some x, len, cap, fun _ _ => ⟨none, 0, 0⟩⟩ j) = x.add j := by
        cases x; simp only at this; subst this; simp [Loc.at, Addr.add]
      rw [e]; exact hcell j y hj

theorem LawArgs.ints {w : World} {k : IntKind} {a : Option Addr} {len cap j : Nat} {zs : List Int} {xs : List AV} {vs : List Value} {τ : Mem} (h : IsRow k w a len cap zs) (t : LawArgs w (j + 1) xs vs τ) (hj : j < 1000 := by decide) :
    LawArgs w j (.one (.vec (200000 + j)) :: xs) (.slice a len cap :: vs) ((200000 + j, .rview [.ints k (zs.take len)]) :: τ) := by
  obtain ⟨L, h1, h2⟩ := loc_of h
  exact .row L _ hj h1 h2 t

theorem AggArgs.ints {w : World} {k : IntKind} {a : Option Addr} {len cap j j' : Nat} {zs : List Int} {s : List Seg} {cs : List Value} {τ : Mem} (h : IsRow k w a len cap zs) (t : AggArgs w (j + 1) s cs τ j') (hj : j < 1000 := by decide) :
    AggArgs w j (.cells [.vec (200000 + j)] :: s) (.slice a len cap :: cs) ((200000 + j, .rview [.ints k (zs.take len)]) :: τ) j' := by
  obtain ⟨L, h1, h2⟩ := loc_of h
  exact .row L _ hj h1 h2 t

theorem AggArgs.num {w : World} {k : IntKind} {n : Int} {j j' : Nat} {s : List Seg} {cs : List Value} {τ : Mem} (t : AggArgs w j s cs τ j') : AggArgs w j (.cells [.int k n] :: s) (.int k n :: cs) τ j' := .one (fun _ => rfl) t
theorem AggArgs.flag {w : World} {b : Bool} {j j' : Nat} {s : List Seg} {cs : List Value} {τ : Mem} (t : AggArgs w j s cs τ j') : AggArgs w j (.cells [.bool b] :: s) (.bool b :: cs) τ j' := .one (fun _ => rfl) t

theorem IsRow.take_len {w : World} {k : IntKind} {a : Option Addr} {len cap : Nat} {zs : List Int} (h : IsRow k w a len cap zs) : (zs.take len).length = len ∧ len ≤ zs.length := by
  rcases h with ⟨rfl, rfl, rfl, rfl⟩ | ⟨x, rfl, hl, hm, hz, hc, hw⟩
  · exact ⟨rfl, Nat.le_refl _⟩
  · exact ⟨by simp; omega, by omega⟩

theorem IsRow.bytes {w : World} {a : Option Addr} {len cap : Nat} {zs : List Int} (h : IsRow .u8 w a len cap zs) : ∀ x ∈ zs.take len, 0 ≤ x ∧ x < 256 := by
  rcases h with ⟨rfl, rfl, rfl, rfl⟩ | ⟨x, rfl, hl, hm, hz, hc, hw⟩
  · intro x hx; simp at hx
  · intro x hx
    obtain ⟨h1, h2⟩ := bounds_u8 (hw x (List.mem_of_mem_take hx))
    exact ⟨h1, by omega⟩

section
variable {H : Type} {enc : TypeId × Value → H} {P : Program} {w : World}
/-- a slice of integers that came in, with its size -/
theorem open_row_sized {t e : TypeId} {k : IntKind} {a : Option Addr} {len cap : Nat} {d : DataW H} {ps : List MemPlace} (ht : P.underlying t = some (.slice e)) (he : P.underlying e = some (.int k)) (hc : P.cellsOf e = 1)
    (h : DataW.Trod enc P w 0 (fun _ => true) true t (.slice a len cap) d ps) {ts : List TypeId} {ds : List (DataW H)} (hsz : (DataW.weightsEach P ts ds).all (· ≤ reachBytes) = true) {j : Nat} (htj : ts[j]? = some t) (hdj : ds[j]? = some d) :
    ∃ zs, IsRow k w a len cap zs ∧ zs.length * P.bytesOf e ≤ reachBytes := by
  obtain ⟨fuel, hf⟩ := h
  rcases open_ints ht he hc hf with ⟨hcs, _⟩ | ⟨x, l, c, zs, hcs, _, hl, hm, hz, hd, hcell, hwz⟩
  · simp [Value.cells] at hcs
    obtain ⟨rfl, rfl, rfl⟩ := hcs
    exact ⟨[], .inl ⟨rfl, rfl, rfl, rfl⟩, by simp⟩
  · simp [Value.cells] at hcs
    obtain ⟨rfl, rfl, rfl⟩ := hcs
    simp only [Prod.mk.injEq] at hd
    obtain ⟨rfl, _⟩ := hd
    refine ⟨zs, .inr ⟨_, rfl, hl, hm, by simpa using hz, hcell, hwz⟩, ?_⟩
    have := sized_slice hsz htj hdj ht
    simp only [lits, List.length_map, List.length_take, List.length_drop] at this
    have hz' : zs.length = cap := by simpa using hz
    rw [show min len zs.length + (zs.length - len) = zs.length by omega] at this
    exact this
end

section
variable {P : Program} {Γ : Gam} {D : Hints}
/-- a law over plain values and lists -/
theorem law_mem (hm : P.follows .mixedOrders = true) (hΓ : GoodG P Γ) {f : FuncId} {fn : Func} (hf : P.funcs[f]? = some fn) (hb : fn.body.isSome = true) {n : Nat} {args : List AV} {vals : Array Value} {w : World} {τ : Mem} (ha : LawArgs w 0 args vals.toList τ) (hlen : args.length ≤ 1000)
    (h0 : Has (callsx P Γ D fn n args τ fun av _ => av = .one (.bool true) ∨ av = .one (.lit true))) :
    Calls P f vals w fun e w' => e = .returned (.bool true) ∧ Go.RowKit.Below w.heap.size w w' := by
  have h := h0.out
  obtain ⟨hl, Ls, hs⟩ := lawArgs_sound ha
  generalize hρ0 : rhoC (fun n => ⟨n - 1000000, 0, none, 0, 0, fun _ _ => ⟨none, 0, 0⟩⟩) Ls = ρ
  have hρ : ∀ i, 0 ≤ i → i < 1000 → ρ (200000 + i) = Ls i := fun i _ hi => by rw [← hρ0]; exact rhoC_arg (by omega)
  have hg : Glob ρ := fun g => by
    have e : ρ (gname g) = ⟨gname g - 1000000, 0, none, 0, 0, fun _ _ => ⟨none, 0, 0⟩⟩ := by rw [← hρ0]; exact rhoC_glob
    rw [e]; simp [gname]
  obtain ⟨g1, g2⟩ := hs ρ hg hρ
  have hno := lawArgs_views ha ρ
  refine (callsx_sound hm hΓ hf hb h (ρ := ρ) (ex := fun _ => False) hg (by simpa using hl) (fun j x v h1 h2 => g1 j x v h1 (by rw [Array.getElem?_toList]; exact h2)) g2 ⟨fun n m b c k hn _ _ hO => absurd hO (hno n b k hn), fun n b k hn hO => absurd hO (hno n b k hn)⟩ (fun n b k hn hO => absurd hO (hno n b k hn))).mono ?_
  rintro e w' ⟨v, av, σ', ρ', rfl, hav, hsr, _, _, _, _, hk⟩
  have : v = .bool true := by rcases hav with rfl | rfl <;> exact hsr
  subst this
  exact ⟨rfl, hk.below⟩
end
end Go.Sx

/- How many noise cells there are: program and document. -/
namespace Go.Nz
open Go.Sx
set_option linter.unusedVariables false
set_option linter.unusedSimpArgs false
theorem wt_le {n d : Nat} (h : n ≤ d) (hd : 1 ≤ d) : ∀ k, wt n d k ≤ 4294967296
  | 0 => Nat.le_refl _
  | k + 1 => by
    refine Nat.le_trans ?_ (wt_le h hd k)
    simp only [wt]
    exact Nat.div_le_of_le_mul (by rw [Nat.mul_comm d]; exact Nat.mul_le_mul_left _ h)
theorem su_le {n d : Nat} (h : n ≤ d) (hd : 1 ≤ d) : ∀ k, su n d k ≤ (k + 1) * 4294967296
  | 0 => by simp [su, wt]
  | k + 1 => by
    have h1 := su_le h hd k
    have h2 := wt_le h hd (k + 1)
    simp only [su]
    omega
theorem su_pos (n d : Nat) : ∀ k, 4294967296 ≤ su n d k
  | 0 => by simp [su, wt]
  | k + 1 => by have := su_pos n d k; simp only [su]; omega
theorem su_mono (n d : Nat) : ∀ {j k : Nat}, j ≤ k → su n d j ≤ su n d k
  | j, 0, h => by obtain rfl : j = 0 := by omega
                  exact Nat.le_refl _
  | j, k + 1, h => by
    by_cases e : j = k + 1
    · rw [e]; exact Nat.le_refl _
    · exact Nat.le_trans (su_mono n d (j := j) (k := k) (by omega)) (by simp only [su]; omega)
theorem fitB_iff {n d m : Int} : fitB n d m = true ↔ Fit n d m := by
  simp only [fitB, Bool.and_eq_true, decide_eq_true_eq]
  exact ⟨fun ⟨⟨⟨⟨⟨a, b⟩, c⟩, e⟩, f⟩, g⟩ => ⟨a, b, c, e, f, g⟩, fun h => ⟨⟨⟨⟨⟨h.n0, h.nd⟩, h.d1⟩, h.dk⟩, h.m0⟩, h.m16⟩⟩
theorem fit_nat {n d m : Int} (h : Fit n d m) : ∃ a b c : Nat, n = (a : Int) ∧ d = (b : Int) ∧ m = (c : Int) ∧ a ≤ b ∧ 1 ≤ b ∧ b ≤ 1000 ∧ c ≤ 16 := by
  obtain ⟨a, rfl⟩ := Int.eq_ofNat_of_zero_le h.n0
  obtain ⟨b, rfl⟩ := Int.eq_ofNat_of_zero_le (show 0 ≤ d by have := h.d1; omega)
  obtain ⟨c, rfl⟩ := Int.eq_ofNat_of_zero_le h.m0
  have h1 := h.nd; have h2 := h.d1; have h3 := h.dk; have h4 := h.m16
  exact ⟨a, b, c, rfl, rfl, rfl, by omega, by omega, by omega, by omega⟩
theorem tblL_len (n d m : Int) : (tblL n d m).length ≤ 17 := by
  unfold tblL
  split
  · rename_i h
    have h4 := (fitB_iff.1 h).m16
    rw [tab_len]; omega
  · simp
end Go.Nz
namespace Go.Proofs.Ytacnldmmacjpoaa.G
open Go Go.Sx Go.Nz
set_option linter.unusedSimpArgs false
set_option linter.unusedVariables false

theorem mixed : Try.prog.follows .mixedOrders = true := by kernel_rfl
theorem leq_self (a : List Int) : leq a a = true := by simp [leq]
theorem ieq_self (a : Int) : ieq a a = true := by simp [ieq]
theorem ine_self (a : Int) : ine a a = false := by simp [ine]

theorem good_fits : Sx.Good Try.prog 18 fitsS := by
  refine Sx.Good.pure2 (D := []) mixed (good0 _) Try.func18 (by kernel_rfl) rfl fun d args σ K h => ?_
  simp only [fitsS] at h
  split at h <;> try exact h.elim
  rename_i n d m
  refine ⟨by simp [plain_int], _, plain_bool _, h, 0 + 1, ?_⟩
  rw [nfits_vc]
  have no : ¬ Fit n d m → ∀ ρ v, SRep ρ (.one (.lit false)) v → SRep ρ (.one (.bool (fitB n d m))) v := fun e ρ v hv => by
    rw [show fitB n d m = false from Bool.eq_false_iff.2 fun q => e (fitB_iff.1 q)]; exact hv
  refine ⟨fun a1 => ⟨fun a2 => ⟨fun a3 => ⟨fun a4 => ⟨fun a5 => fun ρ v hv => ?_, fun a5 => no fun f => ?_⟩, fun a4 => no fun f => ?_⟩, fun a3 => no fun f => ?_⟩, fun a2 => no fun f => ?_⟩, fun a1 => no fun f => ?_⟩
  · rw [ige_true] at a1 a3 a5; rw [ile_true] at a2 a4
    have : fitB n d m = ile m 16 := by
      simp only [fitB, ile, a1, a2, a3, a4, a5, decide_true, Bool.true_and, Bool.and_true]
    rw [this]; exact hv
  · have := f.m0; rw [ige_false] at a5; omega
  · have := f.dk; rw [ile_false] at a4; omega
  · have := f.d1; rw [ige_false] at a3; omega
  · have := f.nd; rw [ile_false] at a2; omega
  · have := f.n0; rw [ige_false] at a1; omega

theorem good_weight : Sx.Good Try.prog 28 weightS := by
  refine Sx.Good.pure (D := []) mixed (good0 _) Try.func28 (by kernel_rfl) rfl fun d args σ K h => ?_
  simp only [weightS] at h
  split at h <;> try exact h.elim
  rename_i n d k
  obtain ⟨hf, hK⟩ := h
  obtain ⟨a, b, c, rfl, rfl, rfl, h1, h2, h3, h4⟩ := fit_nat hf
  refine ⟨by simp [plain_int], _, plain_int _ _, hK, (1 + 1 * (c - 0)) + 1, ?_⟩
  rw [nweight_vc]
  refine loop_n (fun f i x => nweight.l0 (fun av' _ => av' = .one (.int .i64 (wtI (a : Int) (b : Int) (c : Int)))) (a : Int) (b : Int) (c : Int) f x i) c (fun i => (wt a b i : Int)) 1 1 (fun g i hi hg => ?_) ?_ 0 (Nat.zero_le _)
  · rw [nweight.l0_succ]
    refine ⟨fun _ => ⟨⟨by omega⟩, ?_⟩, fun q => ?_⟩
    · have hw := wt_le h1 h2 i
      have hm : wt a b i * a ≤ 4294967296 * 1000 := Nat.mul_le_mul hw (by omega)
      rw [mulN_i64 (by omega), quoN_i64 (by omega), add1_i64 (by omega)]
      exact hg
    · rw [ilt_false] at q; omega
  · rw [nweight.l0_succ]
    refine ⟨fun q => ?_, fun _ => rfl⟩
    rw [ilt_true] at q; omega

theorem good_same : Sx.Good Try.prog 11 sameS := by
  refine Sx.Good.reads (D := []) mixed (good0 _) Try.func11 (by kernel_rfl) rfl fun d args σ K h => ?_
  simp only [sameS] at h
  split at h <;> try exact h.elim
  rename_i x y
  obtain ⟨a, h, ha⟩ := rdi_row h
  obtain ⟨b, ⟨⟨sa, sb⟩, hK⟩, hb⟩ := rdi_row h
  have la := sa.le
  refine ⟨[.one (.vec 200000), .one (.vec 200001)], [(200000, .rview [.ints .i64 a]), (200001, .rview [.ints .i64 b])], .row [.ints .i64] _ ha (by decide) (.row [.ints .i64] _ hb (by decide) (.nil _)), by simp, ?_⟩
  have key : a.length = b.length → ∀ n i, a.length - i = n → i ≤ a.length → (∀ j, j < i → lget a j = lget b j) → ∃ f, nsame.l0 (Res d sameS.news σ K) a b f (i : Int) := by
    intro hl n
    induction n with
    | zero =>
      intro i hn hi hp
      refine ⟨0 + 1, ?_⟩
      rw [nsame.l0_succ]
      refine ⟨fun q => ?_, fun _ => res_lit ?_ hK⟩
      · rw [ilt_true, ofNat_def, llen_def] at q; omega
      · have : a = b := by
          rw [eq_tab (l := a) rfl, eq_tab (l := b) rfl, ← hl]
          exact tab_ext fun j hj => hp j (by omega)
        rw [this, leq_self]
    | succ n ih =>
      intro i hn hi hp
      by_cases e : lget a i = lget b i
      · obtain ⟨f, hf⟩ := ih (i + 1) (by omega) (by omega) (fun j hj => by
          by_cases c : j = i
          · rw [c]; exact e
          · exact hp j (by omega))
        refine ⟨f + 1, ?_⟩
        rw [nsame.l0_succ, add1_i64 (by omega), nat_cast]
        refine ⟨fun _ => ⟨⟨by omega, by rw [llen_def]; omega⟩, ⟨by omega, by rw [llen_def]; omega⟩, fun q => ?_, fun _ => hf⟩, fun q => ?_⟩
        · rw [ine_true] at q; exact absurd e q
        · rw [ilt_false, ofNat_def, llen_def] at q; omega
      · refine ⟨0 + 1, ?_⟩
        rw [nsame.l0_succ, nat_cast]
        refine ⟨fun _ => ⟨⟨by omega, by rw [llen_def]; omega⟩, ⟨by omega, by rw [llen_def]; omega⟩, fun _ => res_lit ?_ hK, fun q => ?_⟩, fun q => ?_⟩
        · symm; rw [leq_false]; intro c; exact e (by rw [c])
        · rw [ine_false] at q; exact absurd q e
        · rw [ilt_false, ofNat_def, llen_def] at q; omega
  by_cases hl : a.length = b.length
  · obtain ⟨f, hf⟩ := key hl a.length 0 (by omega) (Nat.zero_le _) (fun j hj => by omega)
    refine ⟨f + 1, ?_⟩
    rw [nsame_vc]
    refine ⟨fun q => ?_, fun _ => hf⟩
    rw [ine_true, ofNat_def, ofNat_def, llen_def, llen_def] at q; omega
  · refine ⟨0 + 1, ?_⟩
    rw [nsame_vc]
    refine ⟨fun _ => res_lit ?_ hK, fun q => ?_⟩
    · symm; rw [leq_false]; intro c; exact hl (by rw [c])
    · rw [ine_false, ofNat_def, ofNat_def, llen_def, llen_def] at q; omega

theorem gamN1_good : GoodG Try.prog gamN1 :=
  (((good0 _).ext good_fits ⟨_, Try.func18, by decide, by kernel_rfl⟩).ext good_weight ⟨_, Try.func28, by decide, by kernel_rfl⟩).ext good_same ⟨_, Try.func11, by decide, by kernel_rfl⟩

theorem good_upto : Sx.Good Try.prog 19 uptoS := by
  refine Sx.Good.pure (D := []) mixed gamN1_good Try.func19 (by kernel_rfl) rfl fun d args σ K h => ?_
  simp only [uptoS] at h
  split at h <;> try exact h.elim
  rename_i n d k
  obtain ⟨hf, hK⟩ := h
  obtain ⟨a, b, c, rfl, rfl, rfl, h1, h2, h3, h4⟩ := fit_nat hf
  refine ⟨by simp [plain_int], _, plain_int _ _, hK, (1 + 1 * (c + 1 - 0)) + 1, ?_⟩
  rw [nupto_vc]
  refine loop_n (fun f i x => nupto.l0 (fun av' _ => av' = .one (.int .i64 (suI (a : Int) (b : Int) (c : Int)))) (a : Int) (b : Int) (c : Int) f x i) (c + 1) (fun i => if i = 0 then 0 else ((su a b (i - 1) : Nat) : Int)) 1 1 (fun g i hi hg => ?_) ?_ 0 (Nat.zero_le _)
  · rw [nupto.l0_succ]
    refine ⟨fun _ => ⟨⟨by omega, by omega, by omega, by omega, by omega, by omega⟩, ?_⟩, fun q => ?_⟩
    · have hs := su_le h1 h2 i
      have hw := wt_le h1 h2 i
      have e : add .i64 (if i = 0 then (0 : Int) else ((su a b (i - 1) : Nat) : Int)) (wtI (a : Int) (b : Int) (i : Int)) = ((su a b i : Nat) : Int) := by
        show add .i64 _ ((wt a b i : Nat) : Int) = _
        cases i with
        | zero => rfl
        | succ i =>
          rw [if_neg (by omega), Nat.add_sub_cancel, addN_i64 (by simp only [su] at hs; omega)]; rfl
      rw [e, add1_i64 (by omega)]
      rw [if_neg (by omega), Nat.add_sub_cancel] at hg
      exact hg
    · rw [ile_false] at q; omega
  · rw [nupto.l0_succ]
    refine ⟨fun q => ?_, fun _ => ?_⟩
    · rw [ile_true] at q; omega
    · rw [if_neg (by omega), Nat.add_sub_cancel]; rfl

theorem gamN2_good : GoodG Try.prog gamN2 := gamN1_good.ext good_upto ⟨_, Try.func19, by decide, by kernel_rfl⟩

theorem tbl_at {a b i c : Nat} (h1 : a ≤ b) (h2 : 1 ≤ b) (hi : i ≤ 16) : quo .i64 (mul .i64 65536 ((su a b i : Nat) : Int)) ((su a b c : Nat) : Int) = ((65536 * su a b i / su a b c : Nat) : Int) := by
  have hs := su_le h1 h2 i
  have hm : (i + 1) * 4294967296 ≤ 17 * 4294967296 := Nat.mul_le_mul_right _ (by omega)
  have e : mul .i64 65536 ((su a b i : Nat) : Int) = ((65536 * su a b i : Nat) : Int) := mulN_i64 (a := 65536) (by omega)
  rw [e, quoN_i64 (by omega)]

theorem room8 {n : Nat} (h : n ≤ 100000) : Room n 8 := ⟨by omega⟩

theorem good_rtable : Sx.Good Try.prog 9 tableS := by
  refine Sx.Good.reads (D := [⟨9, [.ints .i64], true, false⟩]) mixed gamN2_good Try.func9 (by kernel_rfl) rfl fun e args σ K h => ?_
  simp only [tableS] at h
  split at h <;> try exact h.elim
  rename_i n d m
  by_cases hf : fitB n d m = true
  · have hF := fitB_iff.1 hf
    obtain ⟨a, b, c, rfl, rfl, rfl, h1, h2, h3, h4⟩ := fit_nat hF
    refine ⟨_, [], .plain (plain_int _ _) (.plain (plain_int _ _) (.plain (plain_int _ _) (.nil _))), by simp, (1 + 1 * (c + 1 - 0)) + 1, ?_⟩
    rw [rtable_vc, hf]
    refine ⟨fun q => by simp [bnot] at q, fun _ => ⟨hF, ?_⟩⟩
    have hp := su_pos a b c
    refine loop_n (fun f i x => rtable.l0 (Res e tableS.news σ K) (a : Int) (b : Int) (c : Int) f i x) (c + 1) (fun i => tab i fun k => ((65536 * su a b k / su a b c : Nat) : Int)) 1 1 (fun g i hi hg => ?_) ?_ 0 (Nat.zero_le _)
    · rw [rtable.l0_succ]
      refine ⟨fun _ => ⟨⟨by omega, by omega, by omega, by omega, by omega, by omega⟩, ⟨by show ((su a b c : Nat) : Int) ≠ 0; omega⟩, room8 (by rw [tab_llen, nadd_def, llen_def]; simp; omega), ?_⟩, fun q => ?_⟩
      · have e : quo .i64 (mul .i64 65536 (suI (a : Int) (b : Int) (i : Int))) (suI (a : Int) (b : Int) (c : Int)) = ((65536 * su a b i / su a b c : Nat) : Int) := tbl_at h1 h2 (by omega)
        rw [e, add1_i64 (by omega), lcat_def, ← tab_succ i (fun k => ((65536 * su a b k / su a b c : Nat) : Int))]
        exact hg
      · rw [ile_false] at q; omega
    · rw [rtable.l0_succ]
      refine ⟨fun q => ?_, fun _ => ?_⟩
      · rw [ile_true] at q; omega
      · refine res_tvec rfl (.int ?_ .nil) ?_ h
        · rw [tblE, if_pos hf]
        · rw [tblL, if_pos hf]; rfl
  · have hf' : fitB n d m = false := Bool.eq_false_iff.2 hf
    refine ⟨_, [], .plain (plain_int _ _) (.plain (plain_int _ _) (.plain (plain_int _ _) (.nil _))), by simp, 0 + 1, ?_⟩
    rw [rtable_vc, hf']
    refine ⟨fun _ => res_tnil (.int ?_ .nil) ?_ h, fun q => by simp [bnot] at q⟩
    · rw [tblE, if_neg hf]
    · rw [tblL, if_neg hf]

theorem good_ntable : Sx.Good Try.prog 10 tableS := by
  refine Sx.Good.reads (D := [⟨8, [.ints .i64], true, false⟩, ⟨12, [.ints .i64], true, false⟩]) mixed (good0 _) Try.func10 (by kernel_rfl) rfl fun e args σ K h => ?_
  simp only [tableS] at h
  split at h <;> try exact h.elim
  rename_i n d m
  refine ⟨_, [], .plain (plain_int _ _) (.plain (plain_int _ _) (.plain (plain_int _ _) (.nil _))), by simp, ?_⟩
  have no : ¬ Fit n d m → Res e tableS.news σ K (AV.tup [(TV.c (AC.con (Value.slice (Option.none) 0 0))), (TV.c (AC.int IntKind.i64 2))]) [] := fun q => by
    have hf : ¬ fitB n d m = true := fun c => q (fitB_iff.1 c)
    refine res_tnil (.int ?_ .nil) ?_ h
    · rw [tblE, if_neg hf]
    · rw [tblL, if_neg hf]
  have yes : Fit n d m → ∃ f, Mk 0 (add .i64 m 1) 8 ∧ ntable.l0 (Res e tableS.news σ K) n d m f 0 4294967296 (lzeros 0) := fun hF => by
    obtain ⟨a, b, c, rfl, rfl, rfl, h1, h2, h3, h4⟩ := fit_nat hF
    have hf := fitB_iff.2 hF
    have hp := su_pos a b c
    have hmk : Mk 0 (add .i64 (c : Int) 1) 8 := by rw [add1_i64 (by omega), Mk_iff]; omega
    have step : ntable.l1 (Res e tableS.news σ K) (c : Int) (tab (c + 1) fun k => ((su a b k : Nat) : Int)) (1 + 1 * (c + 1 - 0)) 0 (lzeros 0) := by
      refine loop_n (fun f i x => ntable.l1 (Res e tableS.news σ K) (c : Int) (tab (c + 1) fun k => ((su a b k : Nat) : Int)) f i x) (c + 1) (fun i => tab i fun k => ((65536 * su a b k / su a b c : Nat) : Int)) 1 1 (fun g i hi hg => ?_) ?_ 0 (Nat.zero_le _)
      · rw [ntable.l1_succ]
        simp only [nat_cast, llen_def, tab_len]
        rw [tab_lget _ hi, tab_lget _ (by omega : c < c + 1), tbl_at h1 h2 (by omega), add1_i64 (by omega), lcat_def, ← tab_succ i (fun k => ((65536 * su a b k / su a b c : Nat) : Int))]
        refine ⟨fun _ => ⟨⟨by omega, by omega⟩, ⟨by omega, by omega⟩, ⟨by omega⟩, room8 (by rw [nadd_def]; simp; omega), hg⟩, fun q => ?_⟩
        rw [ilt_false, ofNat_def] at q; omega
      · rw [ntable.l1_succ]
        refine ⟨fun q => ?_, fun _ => ?_⟩
        · rw [ilt_true, ofNat_def, tab_llen] at q; omega
        · refine res_tvec rfl (.int ?_ .nil) ?_ h
          · rw [tblE, if_pos hf]
          · rw [tblL, if_pos hf]; rfl
    refine ⟨(1 + 1 * (c + 1 - 0)) + 1 + 1 * (c + 1 - 0), hmk, ?_⟩
    refine loop_n (fun f i (x : Int × List Int) => ntable.l0 (Res e tableS.news σ K) (a : Int) (b : Int) (c : Int) f i x.1 x.2) (c + 1) (fun i => (((wt a b i : Nat) : Int), tab i fun k => ((su a b k : Nat) : Int))) 1 ((1 + 1 * (c + 1 - 0)) + 1) (fun g i hi hg => ?_) ?_ 0 (Nat.zero_le _)
    · rw [ntable.l0_succ]
      have hw := wt_le h1 h2 i
      have hm : wt a b i * a ≤ 4294967296 * 1000 := Nat.mul_le_mul hw (by omega)
      have hroom : ∀ v : Int, Room (nadd (llen (tab i fun k => ((su a b k : Nat) : Int))) (llen [v])) 8 := fun v => room8 (by rw [tab_llen, nadd_def, llen_def]; simp; omega)
      have eq : quo .i64 (mul .i64 ((wt a b i : Nat) : Int) (a : Int)) (b : Int) = ((wt a b (i + 1) : Nat) : Int) := by rw [mulN_i64 (by omega), quoN_i64 (by omega)]; rfl
      rw [eq, add1_i64 (by omega)]
      refine ⟨fun _ => ⟨fun q => ?_, fun q => ?_⟩, fun q => ?_⟩
      · rw [igt_true] at q
        obtain ⟨i, rfl⟩ : ∃ j, i = j + 1 := ⟨i - 1, by omega⟩
        have es : sub .i64 ((i + 1 : Nat) : Int) 1 = (i : Int) := by rw [sub_i64 (by omega) (by omega)]; omega
        have hs := su_le h1 h2 (i + 1)
        have hv : add .i64 ((wt a b (i + 1) : Nat) : Int) (lget (tab (i + 1) fun k => ((su a b k : Nat) : Int)) (nat (i : Int))) = ((su a b (i + 1) : Nat) : Int) := by
          have hb := su_le h1 h2 i
          have hm2 : (i + 1) * 4294967296 ≤ 17 * 4294967296 := Nat.mul_le_mul_right _ (by omega)
          rw [nat_cast, tab_lget _ (by omega), addN_i64 (by omega), Nat.add_comm]; rfl
        rw [es, hv, lcat_def, ← tab_succ (i + 1) (fun k => ((su a b k : Nat) : Int))]
        exact ⟨⟨by omega, by rw [tab_llen]; omega⟩, hroom _, ⟨by omega⟩, hg⟩
      · rw [igt_false] at q
        obtain rfl : i = 0 := by omega
        exact ⟨hroom _, ⟨by omega⟩, hg⟩
      · rw [ile_false] at q; omega
    · rw [ntable.l0_succ]
      refine ⟨fun q => ?_, fun _ => ⟨hmk, step⟩⟩
      rw [ile_true] at q; omega
  by_cases hF : Fit n d m
  · obtain ⟨f, hf⟩ := yes hF
    refine ⟨f + 1, ?_⟩
    rw [ntable_vc]
    have c1 := hF.n0; have c2 := hF.nd; have c3 := hF.d1; have c4 := hF.dk; have c5 := hF.m0; have c6 := hF.m16
    refine ⟨fun _ => ⟨fun _ => ⟨fun _ => ⟨fun _ => ⟨fun _ => ⟨fun q => ?_, fun _ => hf⟩, fun q => ?_⟩, fun q => ?_⟩, fun q => ?_⟩, fun q => ?_⟩, fun q => ?_⟩
    · rw [igt_true] at q; omega
    · rw [ilt_true] at q; omega
    · rw [igt_true] at q; omega
    · rw [ilt_true] at q; omega
    · rw [igt_true] at q; omega
    · rw [ilt_true] at q; omega
  · refine ⟨0 + 1, ?_⟩
    rw [ntable_vc]
    have n0 := no hF
    refine ⟨fun a1 => ⟨fun a2 => ⟨fun a3 => ⟨fun a4 => ⟨fun a5 => ⟨fun _ => n0, fun a6 => ?_⟩, fun _ => n0⟩, fun _ => n0⟩, fun _ => n0⟩, fun _ => n0⟩, fun _ => n0⟩
    rw [ilt_false] at a1 a3 a5
    rw [igt_false] at a2 a4 a6
    exact absurd ⟨a1, a2, a3, a4, a5, a6⟩ hF

theorem gamN3_good : GoodG Try.prog gamN3 :=
  (gamN2_good.ext good_rtable ⟨_, Try.func9, by decide, by kernel_rfl⟩).ext good_ntable ⟨_, Try.func10, by decide, by kernel_rfl⟩

theorem short_tbl (n d m : Int) : Short (tblL n d m) := ⟨by have := tblL_len n d m; omega⟩

theorem good_awake : Sx.Good Try.prog 8 awakeS := by
  refine Sx.Good.pure2 (D := []) mixed gamN3_good Try.func8 (by kernel_rfl) rfl fun d args σ K h => ?_
  simp only [awakeS] at h
  split at h <;> try exact h.elim
  refine ⟨by simp, _, fun _ => rfl, h, 0 + 1, ?_⟩
  rw [nawake_vc]
  have e1 : tblE 1 2 3 = 0 := by decide
  have e2 : tblL 1 2 3 = [34952, 52428, 61166, 65536] := by decide +kernel
  refine ⟨fun _ => ⟨⟨short_tbl _ _ _, ⟨by decide⟩⟩, ?_⟩, fun q => ?_⟩
  · rw [e2, leq_self]; exact fun ρ v h => h
  · rw [e1] at q; cases q

theorem gamN4_good : GoodG Try.prog gamN4 := gamN3_good.ext good_awake ⟨_, Try.func8, by decide, by kernel_rfl⟩

def Yes : AV → Mem → Prop := fun av _ => av = .one (.bool true) ∨ av = .one (.lit true)

theorem noiseTables_plain (n d m : Int) : Has (callsx Try.prog gamN4 [] Try.f3 ((1 + 1 * ((tblL n d m).length - 0)) + 1) [.one (.int .i64 n), .one (.int .i64 d), .one (.int .i64 m)] [] Yes) := by
  constructor
  rw [ltables_vc]
  have hs := short_tbl n d m
  have hlen := tblL_len n d m
  have key : ltables.l0 Yes n d m (1 + 1 * ((tblL n d m).length - 0)) 0 (tblL n d m) := by
    have := loop_n (fun f i x => ltables.l0 Yes n d m f i x) (tblL n d m).length (fun i => upto (tblL n d m).length i (fun _ => -1) (lget (tblL n d m))) 1 1 (fun g i hi hg => by
      rw [ltables.l0_succ]
      refine ⟨fun _ => ⟨⟨by omega, by rw [llen_def, upto_len]; omega⟩, ?_⟩, fun q => ?_⟩
      · rw [nat_cast, upto_lset rfl, add1_i64 (by omega)]; exact hg
      · rw [ilt_false, ofNat_def, llen_def] at q; omega) (by
      rw [ltables.l0_succ]
      refine ⟨fun q => ?_, fun _ => ?_⟩
      · rw [ilt_true, ofNat_def, llen_def] at q; omega
      · have e : ige (ofNat (llen (lcat (upto (tblL n d m).length (tblL n d m).length (fun _ => -1) (lget (tblL n d m))) [(-1 : Int), (-1 : Int), (-1 : Int)]))) 3 = true := by
          rw [ige_true, ofNat_def, llen_def, lcat_def, List.length_append, upto_len]; simp; omega
        refine ⟨room8 (by rw [llen_def, upto_len, nadd_def]; omega), ?_⟩
        simp only [leq_self, ieq_self, hs, e, true_and, and_true, Bool.true_eq_false, false_implies, forall_const]
        exact Or.inl rfl) 0 (Nat.zero_le _)
    rw [upto_zero, ← eq_tab rfl] at this
    exact this
  simp only [leq_self, ine_self, bnot, hs, key, true_and, and_true, Bool.not_true, Bool.false_eq_true, Bool.true_eq_false, false_implies, forall_const]
end Go.Proofs.Ytacnldmmacjpoaa.G

/- Bits of signed words that are not below nought. -/
namespace Go.Sx
open Go
set_option linter.unusedSimpArgs false

theorem bxor_i64 {a b : Nat} (ha : a < 9223372036854775808) (hb : b < 9223372036854775808) : bxor .i64 (a : Int) (b : Int) = ((a ^^^ b : Nat) : Int) := by
  have hx : a ^^^ b < 2 ^ 63 := Nat.xor_lt_two_pow (by omega) (by omega)
  show IntKind.i64.wrap ((BitVec.ofInt 64 (a : Int) ^^^ BitVec.ofInt 64 (b : Int)).toNat : Int) = _
  rw [BitVec.toNat_xor, ofInt_u64 a (by omega), ofInt_u64 b (by omega), IntKind.wrap_i64]
  omega
theorem bor_i64 {a b : Nat} (ha : a < 9223372036854775808) (hb : b < 9223372036854775808) : bor .i64 (a : Int) (b : Int) = ((a ||| b : Nat) : Int) := by
  have hx : a ||| b < 2 ^ 63 := Nat.or_lt_two_pow (by omega) (by omega)
  show IntKind.i64.wrap ((BitVec.ofInt 64 (a : Int) ||| BitVec.ofInt 64 (b : Int)).toNat : Int) = _
  rw [BitVec.toNat_or, ofInt_u64 a (by omega), ofInt_u64 b (by omega), IntKind.wrap_i64]
  omega
theorem band_i64 {a b : Nat} (ha : a < 9223372036854775808) (hb : b < 9223372036854775808) : band .i64 (a : Int) (b : Int) = ((a &&& b : Nat) : Int) := by
  have hx : a &&& b < 2 ^ 63 := Nat.and_lt_two_pow _ (by omega)
  show IntKind.i64.wrap ((BitVec.ofInt 64 (a : Int) &&& BitVec.ofInt 64 (b : Int)).toNat : Int) = _
  rw [BitVec.toNat_and, ofInt_u64 a (by omega), ofInt_u64 b (by omega), IntKind.wrap_i64]
  omega
theorem band1_i64 {m : Nat} (h : m < 9223372036854775808) : band .i64 (m : Int) 1 = ((m % 2 : Nat) : Int) := by
  rw [show (1 : Int) = ((1 : Nat) : Int) from rfl, ← Nat.and_one_is_mod]
  exact band_i64 h (by decide)
theorem shr_i64 {a n : Nat} (hn : n ≤ 64) : shr .i64 (a : Int) (n : Int) = ((a / 2 ^ n : Nat) : Int) := by
  unfold shr
  have : min (n : Int).toNat IntKind.i64.bits = n := by show min ((n : Int).toNat) 64 = n; omega
  rw [this]
  have h : (2 : Int) ^ n = ((2 ^ n : Nat) : Int) := by simp
  rw [h, Int.fdiv_eq_ediv_of_nonneg _ (Int.natCast_nonneg _)]
  simp
theorem shl_i64 {a n : Nat} (hn : n ≤ 64) (h : a * 2 ^ n < 9223372036854775808) : shl .i64 (a : Int) (n : Int) = ((a * 2 ^ n : Nat) : Int) := by
  unfold shl
  have : min (n : Int).toNat IntKind.i64.bits = n := by show min ((n : Int).toNat) 64 = n; omega
  rw [this]
  have e : (a : Int) * 2 ^ n = ((a * 2 ^ n : Nat) : Int) := by simp
  rw [e, IntKind.wrap_i64]
  omega
end Go.Sx

/- A number told by a part of a tape; how often each is told. -/
namespace Go.Nz
open Go.Sx
set_option linter.unusedVariables false
set_option linter.unusedSimpArgs false
/-- place j of the table -/
def tb (a b c j : Nat) : Nat := 65536 * su a b j / su a b c
theorem tblL_eq {a b c : Nat} (hf : fitB (a : Int) (b : Int) (c : Int) = true) : tblL (a : Int) (b : Int) (c : Int) = tab (c + 1) fun k => ((tb a b c k : Nat) : Int) := by rw [tblL, if_pos hf]; rfl
theorem tb_last (a b c : Nat) : tb a b c c = 65536 := by have := su_pos a b c; exact Nat.mul_div_cancel _ (by omega)
theorem tb_mono (a b c : Nat) {i j : Nat} (h : i ≤ j) : tb a b c i ≤ tb a b c j := Nat.div_le_div_right (Nat.mul_le_mul_left _ (su_mono a b h))
theorem uOf_bd {p : List Int} (h : Bs p) : ∃ u : Nat, uOf p = (u : Int) ∧ u < 65536 := by
  have h0 := h.get 0; have h1 := h.get 1
  refine ⟨(uOf p).toNat, ?_, ?_⟩ <;> simp only [uOf, lget] <;> omega
/-- the first place above u is where it should be -/
theorem kFrom_spec {a b c u : Nat} (hu : u < 65536) : ∀ (f k : Nat), f + k = c + 1 → k ≤ c → (k = 0 ∨ tb a b c (k - 1) ≤ u) →
    ∃ q, kFrom (tab (c + 1) fun k => ((tb a b c k : Nat) : Int)) (u : Int) f k = q ∧ q ≤ c ∧ u < tb a b c q ∧ (q = 0 ∨ tb a b c (q - 1) ≤ u)
  | 0, k, hk, hc, _ => by omega
  | f + 1, k, hk, hc, hp => by
    simp only [kFrom]
    rw [tab_lget _ (by omega)]
    by_cases q : tb a b c k ≤ u
    · have hkc : k ≠ c := fun e => by rw [e, tb_last] at q; omega
      rw [if_pos (by omega)]
      exact kFrom_spec hu f (k + 1) (by omega) (by omega) (Or.inr (by simpa using q))
    · rw [if_neg (by omega)]
      exact ⟨k, rfl, hc, by omega, hp⟩
/-- before place j -/
def tbP (a b c : Nat) : Nat → Nat
  | 0 => 0
  | j + 1 => tb a b c j
theorem tbP_le (a b c j : Nat) : tbP a b c j ≤ tb a b c j := by
  cases j with
  | zero => exact Nat.zero_le _
  | succ j => exact tb_mono a b c (by omega)
/-- how often number j is told by what lies below U -/
def ct (a b c U j : Nat) : Nat := min U (tb a b c j) - min U (tbP a b c j)
theorem ct_step {a b c U q : Nat} (h1 : U < tb a b c q) (h2 : q = 0 ∨ tb a b c (q - 1) ≤ U) (j : Nat) : ct a b c (U + 1) j = if j = q then ct a b c U q + 1 else ct a b c U j := by
  have hq : tbP a b c q ≤ U := by
    cases q with
    | zero => exact Nat.zero_le _
    | succ q => rcases h2 with h | h
                · omega
                · simpa [tbP] using h
  by_cases e : j = q
  · subst e
    rw [if_pos rfl]
    simp only [ct]; omega
  · rw [if_neg e]
    have hp := tbP_le a b c j
    by_cases l : j < q
    · have : tb a b c j ≤ tb a b c (q - 1) := tb_mono a b c (by omega)
      have h3 : tb a b c (q - 1) ≤ U := by rcases h2 with h | h; · omega
                                           · exact h
      simp only [ct]; omega
    · obtain ⟨j, rfl⟩ : ∃ i, j = i + 1 := ⟨j - 1, by omega⟩
      have : tb a b c q ≤ tb a b c j := tb_mono a b c (by omega)
      have h3 : tb a b c j ≤ tb a b c (j + 1) := tb_mono a b c (by omega)
      simp only [ct, tbP]; omega
theorem tb_le (a b c : Nat) {j : Nat} (h : j ≤ c) : tb a b c j ≤ 65536 := by rw [← tb_last a b c]; exact tb_mono a b c h
theorem ct_end (a b c : Nat) {j : Nat} (h : j ≤ c) : ct a b c 65536 j = tb a b c j - tbP a b c j := by
  have h1 := tb_le a b c h
  have h2 := tbP_le a b c j
  simp only [ct]; omega
theorem ct_bd (a b c U j : Nat) (h : U ≤ 65536) : ct a b c U j ≤ 65536 := by simp only [ct]; omega
theorem wt_dec {a b : Nat} (h : a ≤ b) (hb : 1 ≤ b) (k : Nat) : wt a b (k + 1) ≤ wt a b k := by
  simp only [wt]
  exact Nat.div_le_of_le_mul (by rw [Nat.mul_comm b]; exact Nat.mul_le_mul_left _ h)
theorem div3 {S A A0 B : Nat} (hS : 0 < S) (h : A + B + A0 ≤ 2 * A) : (A + B) / S + A0 / S < 2 * (A / S) + 2 := by
  have e1 := Nat.div_add_mod (A + B) S
  have e2 := Nat.div_add_mod A S
  have e3 := Nat.div_add_mod A0 S
  have l := Nat.mod_lt A hS
  refine Nat.lt_of_mul_lt_mul_left (a := S) ?_
  have : S * ((A + B) / S + A0 / S) = S * ((A + B) / S) + S * (A0 / S) := Nat.mul_add _ _ _
  have h2 : S * (2 * (A / S) + 2) = 2 * (S * (A / S)) + 2 * S := by rw [Nat.mul_add, Nat.mul_left_comm, Nat.mul_comm S 2]
  omega
theorem ct_fall {a b c : Nat} (h : a ≤ b) (hb : 1 ≤ b) (k : Nat) (hk : k + 1 ≤ c) : ct a b c 65536 (k + 1) ≤ ct a b c 65536 k + 1 := by
  rw [ct_end a b c hk, ct_end a b c (by omega)]
  have hS := su_pos a b c
  have m1 := tb_mono a b c (i := k) (j := k + 1) (by omega)
  have m0 := tbP_le a b c k
  cases k with
  | zero =>
    have hw := wt_dec h hb 0
    rw [Nat.zero_add] at hw m1 ⊢
    simp only [tbP]
    have := div3 (S := su a b c) (A := 65536 * su a b 0) (A0 := 0) (B := 65536 * wt a b 1) (by omega) (by simp only [su]; omega)
    have e : 65536 * su a b 0 + 65536 * wt a b 1 = 65536 * su a b 1 := by have : su a b 1 = su a b 0 + wt a b 1 := rfl
                                                                          omega
    rw [e, Nat.zero_div] at this
    simp only [tb] at m1 ⊢
    omega
  | succ k =>
    have hw := wt_dec h hb (k + 1)
    have := div3 (S := su a b c) (A := 65536 * su a b (k + 1)) (A0 := 65536 * su a b k) (B := 65536 * wt a b (k + 1 + 1)) (by omega) (by simp only [su]; omega)
    have e : 65536 * su a b (k + 1) + 65536 * wt a b (k + 1 + 1) = 65536 * su a b (k + 1 + 1) := by simp only [su]; omega
    rw [e] at this
    simp only [tbP, tb] at m1 m0 ⊢
    omega
end Go.Nz
namespace Go.Proofs.Ytacnldmmacjpoaa.G
open Go Go.Sx Go.Nz
set_option linter.unusedSimpArgs false
set_option linter.unusedVariables false

theorem cntE_eq (p : List Int) (n d m : Int) : cntE p n d m = if tblE n d m = 0 then (if p.length < 18 then 3 else 0) else tblE n d m := by
  unfold cntE tblE
  by_cases h : fitB n d m = true
  · rw [if_pos h, if_pos h]; rfl
  · rw [if_neg h, if_neg h]; rfl

section
variable {d : Nat} {σ : Mem} {K : AV → Mem → Prop} {p : List Int} {n b m : Int}
theorem cnt_res {k e : Int} {σ' : Mem} (hk : k = cntN p n b m) (he : e = cntE p n b m) (hK : K (.tup [.c (.int .i64 (cntN p n b m)), .c (.int .i64 (cntE p n b m))]) σ) : Res d 0 σ K (.tup [.c (.int .i64 k), .c (.int .i64 e)]) σ' := by
  subst hk he
  exact res_plain (av' := .tup [.c (.int .i64 (cntN p n b m)), .c (.int .i64 (cntE p n b m))]) (PlainT.int rfl (PlainT.int rfl PlainT.nil)).res hK
theorem or_add {x y : Nat} (hy : y < 256) : x * 2 ^ 8 ||| y = x * 256 + y := by
  rw [← Nat.shiftLeft_eq, ← Nat.shiftLeft_add_eq_or_of_lt (i := 8) (by omega), Nat.shiftLeft_eq]
theorem u_add (h : Bs p) : add .i64 (mul .i64 (conv .i64 (lget p 0)) 256) (conv .i64 (lget p 1)) = uOf p := by
  have h0 := h.get 0; have h1 := h.get 1
  simp only [uOf, lget]
  rw [conv_i64 (by omega) (by omega), conv_i64 (by omega) (by omega), mul_i64 (by omega) (by omega), add_i64 (by omega) (by omega)]
theorem u_or (h : Bs p) : bor .i64 (shl .i64 (conv .i64 (lget p 0)) 8) (conv .i64 (lget p 1)) = uOf p := by
  have h0 := h.get 0; have h1 := h.get 1
  obtain ⟨x, hx⟩ := Int.eq_ofNat_of_zero_le h0.1
  obtain ⟨y, hy⟩ := Int.eq_ofNat_of_zero_le h1.1
  simp only [uOf, lget]
  rw [conv_i64 (by omega) (by omega), conv_i64 (by omega) (by omega), hx, hy]
  rw [hx] at h0; rw [hy] at h1
  have e := shl_i64 (a := x) (n := 8) (by decide) (by omega)
  rw [show ((8 : Nat) : Int) = 8 from rfl] at e
  rw [e, bor_i64 (by omega) (by omega), or_add (by omega)]
  omega
end

theorem good_rcount : Sx.Good Try.prog 12 countS := by
  refine Sx.Good.reads (D := []) mixed gamN4_good Try.func12 (by kernel_rfl) rfl fun e args σ K h => ?_
  simp only [countS] at h
  split at h <;> try exact h.elim
  rename_i x n d m
  obtain ⟨p, ⟨⟨hs, hb⟩, hK⟩, hr⟩ := rdb_row h
  refine ⟨[.one (.vec 200000), .one (.int .i64 n), .one (.int .i64 d), .one (.int .i64 m)], [(200000, .rview [.ints .u8 p])], .row [.ints .u8] _ hr (by decide) (.plain (plain_int _ _) (.plain (plain_int _ _) (.plain (plain_int _ _) (.nil _)))), by simp, ?_⟩
  by_cases he : cntE p n d m = 0
  · have hf : fitB n d m = true := by
      by_cases q : fitB n d m = true
      · exact q
      · rw [cntE, if_neg q] at he; cases he
    have hlen : ¬ p.length < 18 := fun q => by rw [cntE, if_pos hf, if_pos q] at he; cases he
    obtain ⟨a, b, c, rfl, rfl, rfl, h1, h2, h3, h4⟩ := fit_nat (fitB_iff.1 hf)
    obtain ⟨u, hu, hu2⟩ := uOf_bd hb
    have key : ∀ f k, f + k = c + 1 → k ≤ c → kFrom (tblL (a : Int) (b : Int) (c : Int)) (uOf p) f k = kOf (tblL (a : Int) (b : Int) (c : Int)) (uOf p) → ∃ g, rcount.l0 (Res e countS.news σ K) p (a : Int) (b : Int) (c : Int) g (k : Int) := by
      intro f
      induction f with
      | zero => intro k hk hc; omega
      | succ f ih =>
        intro k hk hc hq
        have hI : InB (k : Int) (llen (tblL (a : Int) (b : Int) (c : Int))) := ⟨by omega, by rw [tblL_eq hf, tab_llen]; omega⟩
        by_cases q : lget (tblL (a : Int) (b : Int) (c : Int)) k ≤ uOf p
        · have hkc : k ≠ c := fun e => by rw [tblL_eq hf, tab_lget _ (by omega), e, tb_last] at q; omega
          obtain ⟨g, hg⟩ := ih (k + 1) (by omega) (by omega) (by rw [← hq, kFrom, if_pos q])
          refine ⟨g + 1, ?_⟩
          rw [rcount.l0_succ, u_add hb, nat_cast, add1_i64 (by omega)]
          refine ⟨hI, fun _ => hg, fun q2 => ?_⟩
          rw [ige_false] at q2; omega
        · refine ⟨0 + 1, ?_⟩
          rw [rcount.l0_succ, u_add hb, nat_cast]
          refine ⟨hI, fun q2 => ?_, fun _ => cnt_res ?_ he.symm hK⟩
          · rw [ige_true] at q2; omega
          · rw [cntN, if_pos he, ← hq, kFrom, if_neg q]
    obtain ⟨g, hg⟩ := key (c + 1) 0 (by omega) (Nat.zero_le _) (by rw [kOf, tblL_eq hf, tab_len])
    have hE : tblE (a : Int) (b : Int) (c : Int) = 0 := by rw [tblE, if_pos hf]
    refine ⟨g + 1, ?_⟩
    rw [rcount_vc, hE]
    refine ⟨fun q => by rw [ine_true] at q; exact absurd rfl q, fun _ => ⟨fun q => ?_, fun _ => ⟨⟨by decide, by rw [llen_def]; omega⟩, ⟨by decide, by rw [llen_def]; omega⟩, hg⟩⟩⟩
    rw [ilt_true, ofNat_def, llen_def] at q; omega
  · refine ⟨0 + 1, ?_⟩
    rw [rcount_vc]
    have hN : (0 : Int) = cntN p n d m := by rw [cntN, if_neg he]
    refine ⟨fun q => cnt_res hN ?_ hK, fun q => ⟨fun q2 => cnt_res hN ?_ hK, fun q2 => ?_⟩⟩
    · rw [ine_true] at q; rw [cntE_eq, if_neg q]
    · rw [ine_false] at q; rw [ilt_true, ofNat_def, llen_def] at q2; rw [cntE_eq, if_pos q, if_pos (by omega)]
    · rw [ine_false] at q; rw [ilt_false, ofNat_def, llen_def] at q2
      exact absurd (by rw [cntE_eq, if_pos q, if_neg (by omega)]) he

theorem good_ncount : Sx.Good Try.prog 13 countS := by
  refine Sx.Good.reads (D := []) mixed gamN4_good Try.func13 (by kernel_rfl) rfl fun e args σ K h => ?_
  simp only [countS] at h
  split at h <;> try exact h.elim
  rename_i x n d m
  obtain ⟨p, ⟨⟨hs, hb⟩, hK⟩, hr⟩ := rdb_row h
  refine ⟨[.one (.vec 200000), .one (.int .i64 n), .one (.int .i64 d), .one (.int .i64 m)], [(200000, .rview [.ints .u8 p])], .row [.ints .u8] _ hr (by decide) (.plain (plain_int _ _) (.plain (plain_int _ _) (.plain (plain_int _ _) (.nil _)))), by simp, ?_⟩
  by_cases he : cntE p n d m = 0
  · have hf : fitB n d m = true := by
      by_cases q : fitB n d m = true
      · exact q
      · rw [cntE, if_neg q] at he; cases he
    have hlen : ¬ p.length < 18 := fun q => by rw [cntE, if_pos hf, if_pos q] at he; cases he
    obtain ⟨a, b, c, rfl, rfl, rfl, h1, h2, h3, h4⟩ := fit_nat (fitB_iff.1 hf)
    obtain ⟨u, hu, hu2⟩ := uOf_bd hb
    have key : ∀ f k, f + k = c + 1 → k ≤ c → kFrom (tblL (a : Int) (b : Int) (c : Int)) (uOf p) f k = kOf (tblL (a : Int) (b : Int) (c : Int)) (uOf p) → ∃ g, ncount.l0 (Res e countS.news σ K) p (a : Int) (b : Int) (c : Int) g (k : Int) := by
      intro f
      induction f with
      | zero => intro k hk hc; omega
      | succ f ih =>
        intro k hk hc hq
        have hI : InB (k : Int) (llen (tblL (a : Int) (b : Int) (c : Int))) := ⟨by omega, by rw [tblL_eq hf, tab_llen]; omega⟩
        by_cases q : lget (tblL (a : Int) (b : Int) (c : Int)) k ≤ uOf p
        · have hkc : k ≠ c := fun e => by rw [tblL_eq hf, tab_lget _ (by omega), e, tb_last] at q; omega
          obtain ⟨g, hg⟩ := ih (k + 1) (by omega) (by omega) (by rw [← hq, kFrom, if_pos q])
          refine ⟨g + 1, ?_⟩
          rw [ncount.l0_succ, u_or hb, nat_cast, add1_i64 (by omega)]
          refine ⟨hI, fun _ => hg, fun q2 => ?_⟩
          rw [ige_false] at q2; omega
        · refine ⟨0 + 1, ?_⟩
          rw [ncount.l0_succ, u_or hb, nat_cast]
          refine ⟨hI, fun q2 => ?_, fun _ => cnt_res ?_ he.symm hK⟩
          · rw [ige_true] at q2; omega
          · rw [cntN, if_pos he, ← hq, kFrom, if_neg q]
    obtain ⟨g, hg⟩ := key (c + 1) 0 (by omega) (Nat.zero_le _) (by rw [kOf, tblL_eq hf, tab_len])
    have hE : tblE (a : Int) (b : Int) (c : Int) = 0 := by rw [tblE, if_pos hf]
    refine ⟨g + 1, ?_⟩
    rw [ncount_vc, hE]
    refine ⟨fun q => by rw [ine_true] at q; exact absurd rfl q, fun _ => ⟨fun q => ?_, fun _ => ⟨⟨by decide, by rw [llen_def]; omega⟩, ⟨by decide⟩, ⟨by decide, by rw [llen_def]; omega⟩, hg⟩⟩⟩
    rw [ilt_true, ofNat_def, llen_def] at q; omega
  · refine ⟨0 + 1, ?_⟩
    rw [ncount_vc]
    have hN : (0 : Int) = cntN p n d m := by rw [cntN, if_neg he]
    refine ⟨fun q => cnt_res hN ?_ hK, fun q => ⟨fun q2 => cnt_res hN ?_ hK, fun q2 => ?_⟩⟩
    · rw [ine_true] at q; rw [cntE_eq, if_neg q]
    · rw [ine_false] at q; rw [ilt_true, ofNat_def, llen_def] at q2; rw [cntE_eq, if_pos q, if_pos (by omega)]
    · rw [ine_false] at q; rw [ilt_false, ofNat_def, llen_def] at q2
      exact absurd (by rw [cntE_eq, if_pos q, if_neg (by omega)]) he

theorem gamN5_good : GoodG Try.prog gamN5 :=
  (gamN4_good.ext good_rcount ⟨_, Try.func12, by decide, by kernel_rfl⟩).ext good_ncount ⟨_, Try.func13, by decide, by kernel_rfl⟩

/-- a part whose first bytes are U -/
def pt (U : Nat) : List Int := lset (lset (lzeros 18) 0 ((U / 256 % 256 : Nat) : Int)) 1 ((U % 256 : Nat) : Int)
theorem pt_len (U : Nat) : (pt U).length = 18 := by simp [pt, lset, lzeros]
theorem pt_bs (U : Nat) : Bs (pt U) := (((Bs.zeros 18).set 0 (v := ((U / 256 % 256 : Nat) : Int)) (by omega) (by omega)).set 1 (v := ((U % 256 : Nat) : Int)) (by omega) (by omega))
theorem pt_set (U V : Nat) : lset (lset (pt U) 0 ((V / 256 % 256 : Nat) : Int)) 1 ((V % 256 : Nat) : Int) = pt V := by
  simp [pt, lset, lzeros, List.replicate]
theorem pt_u {U : Nat} (h : U < 65536) : uOf (pt U) = (U : Int) := by
  have e0 : lget (pt U) 0 = ((U / 256 % 256 : Nat) : Int) := by simp [pt, lset, lzeros, lget, List.replicate]
  have e1 : lget (pt U) 1 = ((U % 256 : Nat) : Int) := by simp [pt, lset, lzeros, lget, List.replicate]
  rw [uOf, e0, e1]; omega
theorem pt0 : pt 0 = lzeros 18 := by decide

theorem even_l1 {n d m : Int} {a b c : Nat} (hn : n = (a : Int)) (hd : d = (b : Int)) (hm : m = (c : Int)) (hf : fitB n d m = true) (h1 : a ≤ b) (h2 : 1 ≤ b) (h4 : c ≤ 16) : ∀ f j, f + j = c + 1 →
    leven.l1 Yes n (tab (c + 1) fun j => ((ct a b c 65536 j : Nat) : Int)) d m (f + 1) ((tbP a b c j : Nat) : Int) (j : Int) := by
  subst hn hd hm
  intro f
  induction f with
  | zero =>
    intro j hj
    rw [leven.l1_succ]
    refine ⟨fun q => ?_, fun _ => Or.inr rfl⟩
    rw [ilt_true, ofNat_def, tab_llen] at q; omega
  | succ f ih =>
    intro j hj
    have hjc : j ≤ c := by omega
    rw [leven.l1_succ]
    have hg : lget (tab (c + 1) fun j => ((ct a b c 65536 j : Nat) : Int)) j = ((ct a b c 65536 j : Nat) : Int) := tab_lget _ (by omega)
    have hg2 : lget (tblL (a : Int) (b : Int) (c : Int)) j = ((tb a b c j : Nat) : Int) := by rw [tblL_eq hf, tab_lget _ (by omega)]
    have hc := ct_end a b c hjc
    have hp := tbP_le a b c j
    have hb := tb_le a b c hjc
    have ea : add .i64 ((tbP a b c j : Nat) : Int) ((ct a b c 65536 j : Nat) : Int) = ((tbP a b c (j + 1) : Nat) : Int) := by
      rw [addN_i64 (by omega), hc]
      show ((tbP a b c j + (tb a b c j - tbP a b c j) : Nat) : Int) = ((tb a b c j : Nat) : Int)
      congr 1; omega
    have hnext := ih (j + 1) (by omega)
    have en : ine ((tbP a b c (j + 1) : Nat) : Int) ((tb a b c j : Nat) : Int) = false := by rw [ine_false]; rfl
    rw [nat_cast, hg, hg2, ea, en, add1_i64 (by omega)]
    refine ⟨fun _ => ⟨⟨by omega, by rw [tab_llen]; omega⟩, ⟨by omega, by rw [tblL_eq hf, tab_llen]; omega⟩, fun _ => ⟨fun _ => ⟨fun q => ?_, fun _ => hnext⟩, fun _ => hnext⟩, fun q => by cases q⟩, fun q => ?_⟩
    · rw [igt_true] at q
      obtain ⟨i, rfl⟩ : ∃ i, j = i + 1 := ⟨j - 1, by omega⟩
      have es : sub .i64 ((i + 1 : Nat) : Int) 1 = (i : Int) := by rw [sub_i64 (by omega) (by omega)]; omega
      have hfall := ct_fall h1 h2 i hjc
      have hbd := ct_bd a b c 65536 i (Nat.le_refl _)
      rw [es, nat_cast, tab_lget _ (by omega), add1_i64 (by omega)]
      refine ⟨⟨by omega, by rw [tab_llen]; omega⟩, fun q2 => ?_, fun _ => hnext⟩
      rw [igt_true] at q2; omega
    · rw [ilt_false, ofNat_def, tab_llen] at q; omega

theorem even_l0 {a b c : Nat} (hf : fitB (a : Int) (b : Int) (c : Int) = true) (h1 : a ≤ b) (h2 : 1 ≤ b) (h4 : c ≤ 16) :
    ∃ F, leven.l0 Yes (a : Int) (b : Int) (c : Int) F 0 (pt 0) (lzeros (c + 1)) := by
  have key := loop_n (fun f i (x : List Int × List Int) => leven.l0 Yes (a : Int) (b : Int) (c : Int) f i x.1 x.2) 65536 (fun U => (pt (U - 1), tab (c + 1) fun j => ((ct a b c U j : Nat) : Int))) 1 (c + 1 + 0 + 1 + 1)
    (fun g U hU hg => by
      rw [leven.l0_succ]
      have e1 : conv .u8 (shr .i64 (U : Int) 8) = ((U / 256 % 256 : Nat) : Int) := by
        have := shr_i64 (a := U) (n := 8) (by decide)
        rw [show ((8 : Nat) : Int) = 8 from rfl] at this
        rw [this, conv_u8]; omega
      have e2 : conv .u8 (U : Int) = ((U % 256 : Nat) : Int) := by rw [conv_u8]; omega
      have hlen := pt_len U
      have hE : cntE (pt U) (a : Int) (b : Int) (c : Int) = 0 := by rw [cntE, if_pos hf, if_neg (by rw [hlen]; decide)]
      obtain ⟨q, k1, k2, k3, k4⟩ := kFrom_spec (a := a) (b := b) (c := c) hU (c + 1) 0 (by omega) (Nat.zero_le _) (Or.inl rfl)
      have hN : cntN (pt U) (a : Int) (b : Int) (c : Int) = (q : Int) := by
        rw [cntN, if_pos hE, pt_u hU, kOf, tblL_eq hf, tab_len, k1]
      have hset : lset (lset (pt (U - 1)) 0 ((U / 256 % 256 : Nat) : Int)) 1 ((U % 256 : Nat) : Int) = pt U := pt_set _ _
      refine ⟨fun _ => ?_, fun q => ?_⟩
      · have hbd := ct_bd a b c U q (by omega)
        simp only [e1, e2, hset, hE, hN, nat_cast]
        have e3 : lget (tab (c + 1) fun j => ((ct a b c U j : Nat) : Int)) q = ((ct a b c U q : Nat) : Int) := tab_lget _ (by omega)
        have e4 : (tab (c + 1) fun j => if j = q then ((ct a b c U q + 1 : Nat) : Int) else ((ct a b c U j : Nat) : Int)) = tab (c + 1) fun j => ((ct a b c (U + 1) j : Nat) : Int) := by
          refine tab_ext fun j hj => ?_
          rw [ct_step k3 k4 j]
          split <;> rfl
        simp only [e3, add1_i64 (show ct a b c U q < 9223372036854775807 by omega), add1_i64 (show U < 9223372036854775807 by omega), tab_lset, e4]
        have z1 : ine (0 : Int) 0 = false := rfl
        have z2 : ilt (q : Int) 0 = false := by rw [ilt_false]; omega
        have z3 : igt (q : Int) (c : Int) = false := by rw [igt_false]; omega
        have hI : InB (q : Int) (llen (tab (c + 1) fun j => ((ct a b c U j : Nat) : Int))) := ⟨by omega, by rw [tab_llen]; omega⟩
        have hp1 : InB 0 (llen (pt (U - 1))) := ⟨by decide, by rw [llen_def, pt_len]; decide⟩
        have hp2 : InB 1 (llen (lset (pt (U - 1)) 0 ((U / 256 % 256 : Nat) : Int))) := ⟨by decide, by rw [llen_def, lset, List.length_set, pt_len]; decide⟩
        have hS : Short (pt U) := ⟨by rw [hlen]; decide⟩
        have h8 : NonNeg 8 := ⟨by decide⟩
        simp only [z1, z2, z3, hI, hp1, hp2, hS, h8, pt_bs U, true_and, and_true, Bool.false_eq_true, Bool.true_eq_false, false_implies, forall_const]
        exact hg
      · rw [ilt_false] at q; omega)
    (by
      rw [leven.l0_succ]
      refine ⟨fun q => ?_, fun _ => ?_⟩
      · rw [ilt_true] at q; omega
      · exact even_l1 rfl rfl rfl hf h1 h2 h4 (c + 1) 0 (by omega)) 0 (Nat.zero_le _)
  have e0 : (tab (c + 1) fun j => ((ct a b c 0 j : Nat) : Int)) = lzeros (c + 1) := by
    rw [lzeros_tab]; exact tab_ext fun j hj => by simp [ct]
  rw [e0] at key
  exact ⟨_, key⟩

theorem noiseEven_plain (n d m : Int) : ∃ f, Has (callsx Try.prog gamN5 [] Try.f5 f [.one (.int .i64 n), .one (.int .i64 d), .one (.int .i64 m)] [] Yes) := by
  by_cases hf : fitB n d m = true
  · obtain ⟨a, b, c, rfl, rfl, rfl, h1, h2, h3, h4⟩ := fit_nat (fitB_iff.1 hf)
    obtain ⟨F, key⟩ := even_l0 hf h1 h2 h4
    refine ⟨F + 1, ⟨?_⟩⟩
    rw [leven_vc]
    have hE : tblE (a : Int) (b : Int) (c : Int) = 0 := by rw [tblE, if_pos hf]
    have hL : llen (tblL (a : Int) (b : Int) (c : Int)) = c + 1 := by rw [tblL_eq hf, tab_llen]
    have hlast : lget (tblL (a : Int) (b : Int) (c : Int)) c = 65536 := by rw [tblL_eq hf, tab_lget _ (by omega), tb_last]; rfl
    have z1 : ine (0 : Int) 0 = false := rfl
    have z2 : igt (c : Int) 16 = false := by rw [igt_false]; omega
    have z3 : ine (65536 : Int) 65536 = false := rfl
    have z4 : ine (((c + 1 : Nat) : Int)) (((c + 1 : Nat) : Int)) = false := ine_self _
    have hI : InB (c : Int) (c + 1) := ⟨by omega, by omega⟩
    have hM : Mk 18 18 1 := by rw [Mk_iff]; omega
    have hM2 : Mk (((c + 1 : Nat) : Int)) (((c + 1 : Nat) : Int)) 8 := by rw [Mk_iff]; omega
    rw [pt0] at key
    simp only [hE, hL, nat_cast, hlast, z1, z2, z3, add1_i64 (show c < 9223372036854775807 by omega), z4, hI, hM, hM2, ofNat_def, true_and, and_true, Bool.false_eq_true, Bool.true_eq_false, false_implies, forall_const]
    exact key
  · refine ⟨0 + 1, ⟨?_⟩⟩
    rw [leven_vc]
    have hE : tblE n d m = 2 := by rw [tblE, if_neg hf]
    have hL : tblL n d m = [] := by rw [tblL, if_neg hf]
    have hc : cntE (lzeros 18) n d m = 2 := by rw [cntE, if_neg hf]
    have hn : cntN (lzeros 18) n d m = 0 := by rw [cntN, if_neg (by rw [hc]; decide)]
    have z1 : ine (2 : Int) 0 = true := rfl
    have z2 : ieq (2 : Int) 2 = true := rfl
    have z3 : ieq (0 : Int) 0 = true := rfl
    have hM : Mk 18 18 1 := by rw [Mk_iff]; omega
    have hS : Short (lzeros 18) := ⟨by decide⟩
    have hB : Bs (lzeros 18) := Bs.zeros 18
    simp only [hE, hL, hc, hn, z1, z2, z3, hM, hS, hB, true_and, and_true, Bool.false_eq_true, Bool.true_eq_false, false_implies, forall_const]
    exact Or.inl rfl
end Go.Proofs.Ytacnldmmacjpoaa.G

/- Every Count, with the part as it is handed in. -/
namespace Go.Proofs.Ytacnldmmacjpoaa.G
open Go Go.Sx Go.Nz
set_option linter.unusedSimpArgs false
set_option linter.unusedVariables false

theorem bytes_app (p q : List Int) : bytesOf (p ++ q) = bytesOf p ++ bytesOf q := by
  apply ByteArray.ext
  simp only [bytesOf, List.map_append, ByteArray.data_append]
  apply Array.toList_inj.1
  simp

theorem noiseCounts_plain {p : List Int} (n d k c l : Int) (hs : Short p) (hb : Bs p) : Has (callsx Try.prog gamN5 [] Try.f4 (0 + 1) [.agg [.cells [.vec 200000], .cells [.int .i64 n], .cells [.int .i64 d], .cells [.int .i64 k], .cells [.int .i64 c], .cells [.int .i64 l]]] [(200000, .rview [.ints .u8 p])] Yes) := by
  constructor
  rw [lcounts_vc]
  have hle := hs.le
  have e1 : lcat [] p = p := rfl
  have e2 : lsub (lcat p [1, 2]) 0 (nat (ofNat (llen p))) = p := by
    rw [lsub_take, ofNat_def, nat_cast, llen_def, lcat_def, List.take_append_of_le_length (Nat.le_refl _), List.take_length]
  have h1 : Room (nadd 0 (llen p)) 1 := room1 (by rw [nadd_def, llen_def]; omega)
  have h2 : Room (nadd (llen p) 2) 1 := room1 (by rw [nadd_def, llen_def]; omega)
  have h3 : NonNeg (ofNat (llen p)) := ⟨by rw [ofNat_def]; omega⟩
  have h4 : Fits (nat (ofNat (llen p))) (llen (lcat p [1, 2])) := ⟨by rw [ofNat_def, nat_cast, llen_def, llen_def, lcat_def, List.length_append]; omega⟩
  have h5 : Fits (nadd (slen_ (bytesOf p)) 2) 9223372036854775807 := ⟨by
    have : slen_ (bytesOf p) = p.length := by simp [slen_, bytesOf, ByteArray.size]
    rw [this, nadd_def]; omega⟩
  have h6 : seq2 (bytesOf (lcat p [1, 2])) (sadd (bytesOf p) (ByteArray.mk (Array.mk [1, 2]))) = true := by
    rw [seq2_true, lcat_def, bytes_app]; rfl
  simp only [e1, e2, h1, h2, h3, h4, h5, h6, hs, hb, ieq_self, true_and, and_true, Bool.false_eq_true, Bool.true_eq_false, false_implies, forall_const]
  exact Or.inl rfl
end Go.Proofs.Ytacnldmmacjpoaa.G

/- Arguments that came in: lists of records, arrays and lists, structs. -/
namespace Go.Sx
open Go Go.ChangeShapes Go.WideShapes Go.ChangeAt Go.RowKit
set_option linter.unusedSimpArgs false
set_option linter.unusedVariables false

/-- the kinds of a record's fields, their places and sizes looked at -/
def fieldsO (P : Program) (f : TypeId → Option (List Kd)) : List Field → Nat → Option (List Kd)
  | [], o => some []
  | fd :: r, o => match f fd.type, fieldsO P f r (o + P.cellsOf fd.type) with
    | some k1, some k2 => if fd.offset = o ∧ P.cellsOf fd.type = width k1 then some (k1 ++ k2) else none
    | _, _ => none
def kindsO (P : Program) : Nat → TypeId → Option (List Kd)
  | 0, _ => none
  | d + 1, t => match P.underlying t with
    | some (.int k) => if P.cellsOf t = 1 then some [.ints k] else none
    | some .bool => if P.cellsOf t = 1 then some [.bools] else none
    | some (.slice e) => match P.underlying e with
      | some (.int k) => if P.cellsOf e = 1 ∧ P.cellsOf t = 1 ∧ 1 ≤ P.bytesOf e then some [.rows k] else none
      | _ => none
    | some (.array m e) => match P.underlying e with
      | some (.int k) => if P.cellsOf e = 1 ∧ P.cellsOf t = m then some [.arrs k m] else none
      | _ => none
    | some (.struct fs) => match fieldsO P (kindsO P d) fs.toList 0 with
      | some ks => if P.cellsOf t = width ks then some ks else none
      | none => none
    | _ => none

def KdAt (w : World) (k : Kd) (cs : List Value) (o : Nat) : Prop :=
  match k with
  | .ints q => ∃ n, cs[o]? = some (.int q n) ∧ (Lit.int q n).wf = true
  | .bools => ∃ b, cs[o]? = some (.bool b)
  | .arrs q m => ∃ l : List Int, l.length = m ∧ (∀ (j : Nat) x, l[j]? = some x → cs[o + j]? = some (.int q x)) ∧ ∀ x ∈ l, (Lit.int q x).wf = true
  | .rows q => ∃ A L C Z, cs[o]? = some (.slice A L C) ∧ IsRow q w A L C Z ∧ Z.length ≤ reachBytes

def KdsAt (w : World) : List Kd → List Value → Nat → Prop
  | [], _, _ => True
  | k :: r, cs, o => KdAt w k cs o ∧ KdsAt w r cs (o + k.width)

theorem width_append : ∀ (a b : List Kd), width (a ++ b) = width a + width b
  | [], b => by simp [width]
  | k :: a, b => by simp [width, width_append a b, Nat.add_assoc]

theorem KdsAt.append {w : World} {cs : List Value} : ∀ {a b : List Kd} {o : Nat}, KdsAt w a cs o → KdsAt w b cs (o + width a) → KdsAt w (a ++ b) cs o
  | [], b, o, _, h => by simpa [width] using h
  | k :: a, b, o, h, g => ⟨h.1, KdsAt.append h.2 (by simpa [width, Nat.add_assoc] using g)⟩

theorem KdAt.shift {w : World} {cs : List Value} {o z : Nat} {k : Kd} {p : Nat} (hp : p + k.width ≤ z) (h : KdAt w k ((cs.drop o).take z) p) : KdAt w k cs (o + p) := by
  have get : ∀ i, i < z → ((cs.drop o).take z)[i]? = cs[o + i]? := fun i hi => by rw [List.getElem?_take, if_pos hi, List.getElem?_drop]
  cases k with
  | ints q =>
    obtain ⟨n, h1, h2⟩ := h
    exact ⟨n, by rw [← get p (by simp [Kd.width] at hp; omega)]; exact h1, h2⟩
  | bools =>
    obtain ⟨b, h1⟩ := h
    exact ⟨b, by rw [← get p (by simp [Kd.width] at hp; omega)]; exact h1⟩
  | arrs q m =>
    obtain ⟨l, h1, h2, h3⟩ := h
    refine ⟨l, h1, fun j x hj => ?_, h3⟩
    have : j < m := by rw [← h1]; exact (List.getElem?_eq_some_iff.1 hj).1
    rw [Nat.add_assoc, ← get (p + j) (by simp [Kd.width] at hp; omega)]
    exact h2 j x hj
  | rows q =>
    obtain ⟨A, L, C, Z, h1, h2⟩ := h
    exact ⟨A, L, C, Z, by rw [← get p (by simp [Kd.width] at hp; omega)]; exact h1, h2⟩

theorem KdsAt.shift {w : World} {cs : List Value} {o z : Nat} : ∀ {ks : List Kd} {p : Nat}, p + width ks ≤ z → KdsAt w ks ((cs.drop o).take z) p → KdsAt w ks cs (o + p)
  | [], _, _, _ => trivial
  | k :: r, p, hp, h => ⟨h.1.shift (by simp [width] at hp; omega), by have := KdsAt.shift (ks := r) (p := p + k.width) (by simp [width] at hp; omega) h.2; rwa [← Nat.add_assoc] at this⟩

section
variable {H : Type} {enc : TypeId × Value → H} {P : Program} {w : World} {base : Nat} {held : Bool}

theorem weightsAll_mem {e : TypeId} : ∀ {ds : List (DataW H)} {i : Nat} {d : DataW H}, ds[i]? = some d → ∀ n ∈ d.weights P e, n ∈ DataW.weightsAll P e ds
  | d0 :: ds, 0, d, h, n, hn => by
    simp only [List.getElem?_cons_zero, Option.some.injEq] at h
    subst h
    simp only [DataW.weightsAll, List.mem_append]; exact Or.inl hn
  | d0 :: ds, i + 1, d, h, n, hn => by
    simp only [List.getElem?_cons_succ] at h
    simp only [DataW.weightsAll, List.mem_append]; exact Or.inr (weightsAll_mem h n hn)
  | [], _, _, h, _, _ => by simp at h

/-- a slice of numbers -/
theorem row_of_trod {t e : TypeId} {k : IntKind} {fuel : Nat} {cs : List Value} {x : DataW H × List MemPlace} (ht : P.underlying t = some (.slice e)) (he : P.underlying e = some (.int k)) (hc : P.cellsOf e = 1) (hb : 1 ≤ P.bytesOf e)
    (h : DataW.trod enc P w base (fun _ => true) held fuel t cs = some x) (hz : ∀ n ∈ x.1.weights P t, n ≤ reachBytes) : ∃ A L C Z, cs = [.slice A L C] ∧ IsRow k w A L C Z ∧ Z.length ≤ reachBytes := by
  rcases open_ints ht he hc h with ⟨rfl, rfl⟩ | ⟨a, len, cap, zs, rfl, _, hl, hm, hlen, rfl, hcell, hw⟩
  · exact ⟨none, 0, 0, [], rfl, .inl ⟨rfl, rfl, rfl, rfl⟩, Nat.zero_le _⟩
  · refine ⟨some a, len, cap, zs, rfl, .inr ⟨a, rfl, hl, hm, by simpa using hlen, hcell, hw⟩, ?_⟩
    have := hz (((lits (H := H) k (zs.take len)).length + (lits (H := H) k (zs.drop len)).length) * P.bytesOf e) (by simp [DataW.weights, ht])
    simp only [lits, List.length_map, List.length_take, List.length_drop] at this
    have e1 : min len zs.length + (zs.length - len) = zs.length := by omega
    rw [e1] at this
    exact Nat.le_trans (Nat.le_mul_of_pos_right _ hb) this

theorem kinds_of_trod : ∀ (d : Nat) {t : TypeId} {ks : List Kd} {fuel : Nat} {cs : List Value} {x : DataW H × List MemPlace}, kindsO P d t = some ks → DataW.trod enc P w base (fun _ => true) held fuel t cs = some x → (∀ n ∈ x.1.weights P t, n ≤ reachBytes) →
    cs.length = width ks ∧ KdsAt w ks cs 0
  | 0, _, _, _, _, _, h, _, _ => by simp [kindsO] at h
  | d + 1, t, ks, fuel, cs, x, h, htr, hz => by
    unfold kindsO at h
    split at h
    · rename_i k hu
      split at h
      · cases h
        obtain ⟨n, rfl, rfl, hw⟩ := DataW.trod_int hu htr
        exact ⟨rfl, ⟨n, rfl, hw⟩, trivial⟩
      · cases h
    · rename_i hu
      split at h
      · cases h
        obtain ⟨b, rfl, rfl⟩ := DataW.trod_bool hu htr
        exact ⟨rfl, ⟨b, rfl⟩, trivial⟩
      · cases h
    · rename_i e hu
      split at h
      · rename_i k he
        split at h
        · rename_i hc
          cases h
          obtain ⟨A, L, C, Z, rfl, hr, hl⟩ := row_of_trod hu he hc.1 hc.2.2 htr hz
          exact ⟨rfl, ⟨A, L, C, Z, rfl, hr, hl⟩, trivial⟩
        · cases h
      · cases h
    · rename_i m e hu
      split at h
      · rename_i k he
        split at h
        · rename_i hc
          cases h
          obtain ⟨xs, n, _, _, hcl, hxl, hx⟩ := DataW.trod_array hu htr
          rw [hc.2] at hcl
          have each : ∀ i, i < m → ∃ n, cs[i]? = some (.int k n) ∧ (Lit.int k n).wf = true := by
            intro i hi
            have h1 := hx i hi
            rw [hc.1, Nat.mul_one] at h1
            have h2 : xs[i]? = some (xs[i]'(by omega)) := List.getElem?_eq_getElem (by omega)
            rw [h2] at h1
            obtain ⟨n, e1, _, hw⟩ := DataW.trod_int he h1
            have hlt : i < cs.length := by omega
            rw [List.drop_eq_getElem_cons hlt] at e1
            simp only [List.take_succ_cons, List.take_zero, List.cons.injEq, and_true] at e1
            exact ⟨n, by rw [List.getElem?_eq_getElem hlt, e1], hw⟩
          refine ⟨by simp [width, Kd.width, hcl], ⟨cs.map fun v => match v with | .int _ n => n | _ => 0, by simp [hcl], fun j y hj => ?_, fun y hy => ?_⟩, trivial⟩
          · simp only [List.getElem?_map, Option.map_eq_some_iff] at hj
            obtain ⟨v, hv, rfl⟩ := hj
            have hlt : j < cs.length := (List.getElem?_eq_some_iff.1 hv).1
            obtain ⟨n, e1, _⟩ := each j (by omega)
            rw [e1] at hv; cases hv
            rw [Nat.zero_add, e1]
          · obtain ⟨v, hv, rfl⟩ := List.mem_map.1 hy
            obtain ⟨j, hj⟩ := List.getElem?_of_mem hv
            have hlt : j < cs.length := (List.getElem?_eq_some_iff.1 hj).1
            obtain ⟨n, e1, hw⟩ := each j (by omega)
            rw [e1] at hj; cases hj
            exact hw
        · cases h
      · cases h
    · rename_i fs hu
      split at h
      · rename_i ks' hks
        split at h
        · rename_i hc
          cases h
          obtain ⟨xs, n, _, rfl, hcl, hxl, hx⟩ := DataW.trod_struct hu htr
          refine ⟨by rw [hcl, hc], ?_⟩
          have wt : ∀ (i : Nat) f y, fs[i]? = some f → xs[i]? = some y → ∀ n ∈ y.1.weights P f.type, n ≤ reachBytes := by
            intro i f y hf hy n hn
            refine hz n ?_
            simp only [DataW.weights, hu]
            exact DataW.weights_mem_each (j := i) (t := f.type) (d := y.1) (by simp [List.getElem?_map]; exact ⟨f, by simpa using hf, rfl⟩) (by simp [List.getElem?_map, hy]) n hn
          have all : ∀ (fl : List Field) (o i : Nat) (ks : List Kd), fieldsO P (kindsO P d) fl o = some ks → (∀ j f, fl[j]? = some f → fs[i + j]? = some f) → KdsAt w ks cs o := by
            intro fl
            induction fl with
            | nil => intro o i ks h _; simp only [fieldsO, Option.some.injEq] at h; subst h; trivial
            | cons fd r ih =>
              intro o i ks h hf
              simp only [fieldsO] at h
              split at h
              · rename_i k1 k2 h1 h2
                split at h
                · rename_i hq
                  cases h
                  obtain ⟨ho, hcw⟩ := hq
                  have hfi : fs[i]? = some fd := by simpa using hf 0 fd rfl
                  have hxi := hx i fd hfi
                  have hlt : i < xs.length := by rw [hxl]; exact (Array.getElem?_eq_some_iff.1 hfi).1
                  have h3 : xs[i]? = some xs[i] := List.getElem?_eq_getElem hlt
                  rw [h3] at hxi
                  obtain ⟨_, g2⟩ := kinds_of_trod d h1 hxi (wt i fd _ hfi h3)
                  rw [ho, hcw] at g2
                  refine KdsAt.append (by have := KdsAt.shift (p := 0) (by omega) g2; simpa using this) ?_
                  rw [← hcw]
                  exact ih (o + P.cellsOf fd.type) (i + 1) k2 h2 fun j f hj => by have := hf (j + 1) f (by simpa using hj); rwa [show i + 1 + j = i + (j + 1) by omega]
                · cases h
              · cases h
          exact all fs.toList 0 0 ks hks fun j f hj => by rw [Nat.zero_add]; simpa using hj
        · cases h
      · cases h
    · cases h
end

/-! ### columns out of records -/
def Col.wf : Col → Prop
  | .ints k l => ∀ x ∈ l, (Lit.int k x).wf = true
  | .bools _ => True
  | .arrs k _ ll => ∀ l ∈ ll, ∀ x ∈ l, (Lit.int k x).wf = true
  | .rows k ll => ∀ l ∈ ll, l.length ≤ reachBytes ∧ ∀ x ∈ l, (Lit.int k x).wf = true

theorem choose_range {α : Type} [Inhabited α] {n : Nat} {p : Nat → α → Prop} (h : ∀ i, i < n → ∃ a, p i a) : ∃ f : Nat → α, ∀ i, i < n → p i (f i) := by
  refine ⟨fun i => if hi : i < n then Classical.choose (h i hi) else default, fun i hi => ?_⟩
  simp only [dif_pos hi]
  exact Classical.choose_spec (h i hi)

theorem range_get {α : Type} {n i : Nat} (f : Nat → α) : ((List.range n).map f)[i]? = if i < n then some (f i) else none := by
  by_cases h : i < n
  · simp [h]
  · simp [h]

theorem build_cols {w : World} {len : Nat} {CS : Nat → List Value} : ∀ (ks : List Kd) (o : Nat), (∀ r, r < len → KdsAt w ks (CS r) o) →
    ∃ (cs : List Col) (E : Nat → Nat → Elt), kdsOf cs = ks ∧ (∀ col ∈ cs, col.ok len ∧ col.wf) ∧ (∀ (L : Loc) (c0 : Nat), (∀ c r, L.el (c0 + c) r = E c r) → ∀ r, r < len → ∀ t, t < width ks → (CS r)[o + t]? = some (rowVal L cs c0 r t)) ∧
      ∀ c k ll, cs[c]? = some (.rows k ll) → ∀ i l, ll[i]? = some l → EltRep w (E c i) k l
  | [], o, _ => ⟨[], fun _ _ => ⟨none, 0, 0⟩, rfl, by simp, fun _ _ _ _ _ t ht => by simp [width] at ht, fun c k ll h => by simp at h⟩
  | k :: ks, o, h => by
    obtain ⟨cs, E, g1, g2, g3, g4⟩ := build_cols ks (o + k.width) fun r hr => (h r hr).2
    -- the first column
    have first : ∃ (col : Col) (e : Nat → Elt), col.kd = k ∧ (col.ok len ∧ col.wf) ∧ (∀ (L : Loc) (c0 : Nat), (∀ r, L.el c0 r = e r) → ∀ r, r < len → ∀ t, t < k.width → (CS r)[o + t]? = some (colVal L c0 col r t)) ∧
        ∀ q ll, col = .rows q ll → ∀ i l, ll[i]? = some l → EltRep w (e i) q l := by
      cases k with
      | ints q =>
        obtain ⟨f, hf⟩ := choose_range fun r hr => (h r hr).1
        refine ⟨.ints q ((List.range len).map f), fun _ => ⟨none, 0, 0⟩, rfl, ⟨by simp [Col.ok], fun x hx => ?_⟩, fun L c0 _ r hr t ht => ?_, fun q ll h => by cases h⟩
        · obtain ⟨r, hr, rfl⟩ := List.mem_map.1 hx
          exact (hf r (by simpa using hr)).2
        · obtain rfl : t = 0 := by simp [Kd.width] at ht; exact ht
          rw [Nat.add_zero, (hf r hr).1]
          simp only [colVal, lget, List.getD, range_get, if_pos hr, Option.getD_some]
      | bools =>
        obtain ⟨f, hf⟩ := choose_range fun r hr => (h r hr).1
        refine ⟨.bools ((List.range len).map f), fun _ => ⟨none, 0, 0⟩, rfl, ⟨by simp [Col.ok], trivial⟩, fun L c0 _ r hr t ht => ?_, fun q ll h => by cases h⟩
        obtain rfl : t = 0 := by simp [Kd.width] at ht; exact ht
        rw [Nat.add_zero, hf r hr]
        simp only [colVal, lgetb, List.getD, range_get, if_pos hr, Option.getD_some]
      | arrs q m =>
        obtain ⟨f, hf⟩ := choose_range fun r hr => (h r hr).1
        refine ⟨.arrs q m ((List.range len).map f), fun _ => ⟨none, 0, 0⟩, rfl, ⟨⟨by simp, fun x hx => ?_⟩, fun l hl x hx => ?_⟩, fun L c0 _ r hr t ht => ?_, fun q ll h => by cases h⟩
        · obtain ⟨r, hr, rfl⟩ := List.mem_map.1 hx
          exact (hf r (by simpa using hr)).1
        · obtain ⟨r, hr, rfl⟩ := List.mem_map.1 hl
          exact (hf r (by simpa using hr)).2.2 x hx
        · obtain ⟨f1, f2, f3⟩ := hf r hr
          have ht' : t < (f r).length := by rw [f1]; simpa [Kd.width] using ht
          rw [f2 t _ (List.getElem?_eq_getElem ht')]
          simp only [colVal, llget, lget, List.getD, range_get, if_pos hr, Option.getD_some, List.getElem?_eq_getElem ht']
      | rows q =>
        obtain ⟨f, hf⟩ := choose_range (α := Option Addr × Nat × Nat × List Int) (n := len) (p := fun r y => (CS r)[o]? = some (.slice y.1 y.2.1 y.2.2.1) ∧ IsRow q w y.1 y.2.1 y.2.2.1 y.2.2.2 ∧ y.2.2.2.length ≤ reachBytes) fun r hr => by
          obtain ⟨A, L, C, Z, hh⟩ := (h r hr).1
          exact ⟨(A, L, C, Z), hh⟩
        refine ⟨.rows q ((List.range len).map fun r => (f r).2.2.2.take (f r).2.1), fun r => ⟨(f r).1, (f r).2.1, (f r).2.2.1⟩, rfl, ⟨by simp [Col.ok], fun l hl => ?_⟩, fun L c0 hL r hr t ht => ?_, fun q' ll h i l hi => ?_⟩
        · obtain ⟨r, hr, rfl⟩ := List.mem_map.1 hl
          obtain ⟨f1, f2, f3⟩ := hf r (by simpa using hr)
          refine ⟨Nat.le_trans (by simp; omega) f3, fun x hx => ?_⟩
          rcases f2 with ⟨_, _, _, e⟩ | ⟨a, _, _, _, _, _, hw⟩
          · rw [e] at hx; simp at hx
          · exact hw x (List.mem_of_mem_take hx)
        · obtain rfl : t = 0 := by simp [Kd.width] at ht; exact ht
          rw [Nat.add_zero, (hf r hr).1]
          simp only [colVal, hL]
        · cases h
          rw [range_get] at hi
          split at hi
          · rename_i hr
            cases hi
            obtain ⟨f1, f2, f3⟩ := hf i hr
            rcases f2 with ⟨e1, e2, e3, e4⟩ | ⟨a, e1, hl, hm, hz, hcell, hw⟩
            · refine ⟨by simp [e2, e4], by simp [e2, e3], fun q => by simp [e4] at q, fun j x hx => by simp [e4] at hx⟩
            · refine ⟨by simp; omega, hl, fun _ => ⟨a, e1⟩, fun j x hx a' ha' => ?_⟩
              simp only [e1, Option.some.injEq] at ha'
              subst ha'
              have hlt : j < (f i).2.1 := by have := (List.getElem?_eq_some_iff.1 hx).1; simp at this; omega
              rw [List.getElem?_take_of_lt hlt] at hx
              rw [hcell j (by have := (List.getElem?_eq_some_iff.1 hx).1; omega)]
              simp [List.getD, hx]
          · cases hi
    obtain ⟨col, e, c1, c2, c3, c4⟩ := first
    refine ⟨col :: cs, fun c r => match c with | 0 => e r | c + 1 => E c r, by simp [kdsOf, c1] at g1 ⊢; exact g1, ?_, fun L c0 hL r hr t ht => ?_, fun c q ll hc i l hi => ?_⟩
    · intro x hx
      rcases List.mem_cons.1 hx with rfl | hx
      · exact c2
      · exact g2 x hx
    · simp only [rowVal, c1]
      split
      · rename_i hlt
        exact c3 L c0 (fun r => by have := hL 0 r; simpa using this) r hr t hlt
      · rename_i hge
        have := g3 L (c0 + 1) (fun c r => by have := hL (c + 1) r; rw [show c0 + 1 + c = c0 + (c + 1) by omega]; exact this) r hr (t - k.width) (by simp [width] at ht; omega)
        rw [show o + k.width + (t - k.width) = o + t by omega] at this
        exact this
    · cases c with
      | zero => simp at hc; exact c4 q ll hc i l hi
      | succ c => exact g4 c q ll (by simpa using hc) i l hi

section
variable {H : Type} {enc : TypeId × Value → H} {P : Program} {w : World}

/-- a slice of records that came in, with its size -/
theorem open_recs {t e : TypeId} {ks : List Kd} {d : DataW H} {ps : List MemPlace} (ht : P.underlying t = some (.slice e)) (hk : kindsO P 8 e = some ks) (hp : 0 < width ks) (hc : P.cellsOf e = width ks) {A : Option Addr} {len cap : Nat}
    (h : DataW.Trod enc P w 0 (fun _ => true) true t (.slice A len cap) d ps) {ts : List TypeId} {ds : List (DataW H)} (hsz : (DataW.weightsEach P ts ds).all (· ≤ reachBytes) = true) {j : Nat} (htj : ts[j]? = some t) (hdj : ds[j]? = some d) :
    ∃ (L : Loc) (cs : List Col), VRep w L cs ∧ Value.slice A len cap = .slice L.a L.len L.cap ∧ kdsOf cs = ks ∧ (∀ col ∈ cs, col.wf) ∧ L.len * P.bytesOf e ≤ reachBytes := by
  obtain ⟨fuel, hf⟩ := h
  have hall : ∀ n ∈ d.weights P t, n ≤ reachBytes := fun n hn => by
    have := List.all_eq_true.1 hsz n (DataW.weights_mem_each htj hdj n hn)
    simpa using this
  rcases Go.Deep.open_slice ht hf with ⟨hcs, _⟩ | ⟨a, len', cap', m, n, D, Pl, hcs, _, hl, hm, hmm, hx, hi⟩
  · simp [Value.cells] at hcs
    obtain ⟨rfl, rfl, rfl⟩ := hcs
    have hz := nil_rep (w := w) hp
    refine ⟨loc0, ks.map Kd.nil, hz.1, rfl, nil_kds ks, fun col hcol => ?_, by simp [loc0]⟩
    obtain ⟨k, _, rfl⟩ := List.mem_map.1 hcol
    cases k <;> simp [Kd.nil, Col.wf]
  · simp [Value.cells] at hcs
    obtain ⟨rfl, rfl, rfl⟩ := hcs
    simp only [if_true] at hmm
    subst hmm
    simp only [Prod.mk.injEq] at hx
    obtain ⟨rfl, _⟩ := hx
    have each : ∀ r, r < m → ∃ cs', (∀ t, t < width ks → w.cell? (a.add (r * width ks + t)) = cs'[t]?) ∧ KdsAt w ks cs' 0 := by
      intro r hr
      obtain ⟨cs', h1, h2⟩ := hi r hr
      obtain ⟨_, g1, g2⟩ := World.cells?_some h1
      have hwt : ∀ n ∈ (D r).weights P e, n ≤ reachBytes := fun n hn => hall n (by
        simp only [DataW.weights, ht]
        refine List.mem_cons_of_mem _ (List.mem_append.2 ?_)
        by_cases hq : r < len
        · exact Or.inl (weightsAll_mem (i := r) (d := D r) (by rw [range_get, if_pos hq]) n hn)
        · exact Or.inr (weightsAll_mem (i := r - len) (d := D r) (by rw [range_get, if_pos (by omega), show len + (r - len) = r by omega]) n hn))
      obtain ⟨g3, g4⟩ := kinds_of_trod 8 hk h2 hwt
      refine ⟨cs', fun t ht => ?_, g4⟩
      rw [← g2 t (by rw [hc]; exact ht), hc, addr_add_add]
    obtain ⟨CS, hCS⟩ := choose_range each
    obtain ⟨cs, E, b1, b2, b3, b4⟩ := build_cols (len := len) (CS := CS) ks 0 fun r hr => (hCS r (by omega)).2
    have hcell : ∀ i, i < len → ∀ t, t < width ks → ∀ L : Loc, (∀ c r, L.el c r = E c r) → w.cell? (a.add (i * width ks + t)) = some (rowVal L cs 0 i t) := fun i hi t ht L hL => by
      rw [(hCS i (by omega)).1 t ht]
      have := b3 L 0 (fun c r => by rw [Nat.zero_add]; exact hL c r) i hi t ht
      rwa [Nat.zero_add] at this
    have hsp : 0 < len → a.spot = none := fun hp' => by
      have h0 := hcell 0 hp' 0 hp ⟨0, 0, none, 0, 0, E⟩ (fun _ _ => rfl)
      simp only [Nat.zero_mul, Nat.add_zero] at h0
      have : a.add 0 = a := by simp [Addr.add]
      rw [this] at h0
      exact spot_none h0
    refine ⟨⟨a.block, a.off, some a, len, m, E⟩, cs, ?_, rfl, b1, fun col hcol => (b2 col hcol).2, ?_⟩
    · refine ⟨fun q => by subst q; simp [kdsOf] at b1; subst b1; simp [width] at hp, by simpa [cwidth, b1] using hp, fun col hcol => (b2 col hcol).1, hl, fun q => ?_, fun i hi t ht => ?_, fun c k ll hc i l hi => b4 c k ll hc i l hi⟩
      · have := hsp (Nat.pos_of_ne_zero q)
        cases a
        simp only at this; subst this; rfl
      · have hw' : cwidth cs = width ks := by simp [cwidth, b1]
        rw [hw'] at ht ⊢
        have := hsp (by simp only at hi; omega)
        have e : (Loc.at ⟨a.block, a.off, some a, len, m, E⟩ (i * width ks + t)) = a.add (i * width ks + t) := by
          cases a; simp only at this; subst this; simp [Loc.at, Addr.add]
        rw [e]
        exact hcell i hi t ht _ (fun _ _ => rfl)
    · have := hall ((((List.range len).map D).length + ((List.range (m - len)).map fun j => D (len + j)).length) * P.bytesOf e) (by simp [DataW.weights, ht])
      simp only [List.length_map, List.length_range] at this
      exact Nat.le_trans (Nat.mul_le_mul_right _ (by show len ≤ _; omega)) this

/-- a list of records as an argument of a law -/
theorem LawArgs.recs {j : Nat} {A : Option Addr} {len cap : Nat} {L : Loc} {cs : List Col} {xs : List AV} {vs : List Value} {τ : Mem} (hV : VRep w L cs) (hv : Value.slice A len cap = .slice L.a L.len L.cap) (t : LawArgs w (j + 1) xs vs τ) (hj : j < 1000 := by decide) :
    LawArgs w j (.one (.vec (200000 + j)) :: xs) (.slice A len cap :: vs) ((200000 + j, .rview cs) :: τ) := .row L cs hj hV hv t

theorem cols_one {cs : List Col} {k : Kd} (h : kdsOf cs = [k]) : ∃ c, cs = [c] ∧ c.kd = k := by
  match cs, h with
  | [c], h => exact ⟨c, rfl, by simpa [kdsOf] using h⟩
theorem kd_ints {c : Col} {k : IntKind} (h : c.kd = .ints k) : ∃ l, c = .ints k l := by cases c <;> simp [Col.kd] at h; subst h; exact ⟨_, rfl⟩
theorem kd_bools {c : Col} (h : c.kd = .bools) : ∃ l, c = .bools l := by cases c <;> simp [Col.kd] at h; exact ⟨_, rfl⟩
theorem kd_arrs {c : Col} {k : IntKind} {m : Nat} (h : c.kd = .arrs k m) : ∃ l, c = .arrs k m l := by cases c <;> simp [Col.kd] at h; obtain ⟨rfl, rfl⟩ := h; exact ⟨_, rfl⟩
theorem kd_rows {c : Col} {k : IntKind} (h : c.kd = .rows k) : ∃ l, c = .rows k l := by cases c <;> simp [Col.kd] at h; subst h; exact ⟨_, rfl⟩
theorem wf_u8 {n : Int} (h : (Lit.int .u8 n).wf = true) : 0 ≤ n ∧ n < 256 := by
  obtain ⟨h1, h2⟩ := bounds_u8 h; exact ⟨h1, by omega⟩

/-! ### a struct that came in, field by field -/
theorem KdsAt.rows {q : IntKind} {r : List Kd} {cs : List Value} {o : Nat} (h : KdsAt w (.rows q :: r) cs o) : ∃ A L C Z, IsRow q w A L C Z ∧ Z.length ≤ reachBytes ∧ cs.drop o = .slice A L C :: cs.drop (o + 1) ∧ KdsAt w r cs (o + 1) := by
  obtain ⟨⟨A, L, C, Z, h1, h2, h3⟩, h4⟩ := h
  have hlt := (List.getElem?_eq_some_iff.1 h1)
  obtain ⟨hl, he⟩ := hlt
  exact ⟨A, L, C, Z, h2, h3, by rw [List.drop_eq_getElem_cons hl, he], h4⟩
theorem KdsAt.ints {q : IntKind} {r : List Kd} {cs : List Value} {o : Nat} (h : KdsAt w (.ints q :: r) cs o) : ∃ n, (Lit.int q n).wf = true ∧ cs.drop o = .int q n :: cs.drop (o + 1) ∧ KdsAt w r cs (o + 1) := by
  obtain ⟨⟨n, h1, h2⟩, h4⟩ := h
  obtain ⟨hl, he⟩ := (List.getElem?_eq_some_iff.1 h1)
  exact ⟨n, h2, by rw [List.drop_eq_getElem_cons hl, he], h4⟩
theorem KdsAt.bools {r : List Kd} {cs : List Value} {o : Nat} (h : KdsAt w (.bools :: r) cs o) : ∃ b, cs.drop o = .bool b :: cs.drop (o + 1) ∧ KdsAt w r cs (o + 1) := by
  obtain ⟨⟨b, h1⟩, h4⟩ := h
  obtain ⟨hl, he⟩ := (List.getElem?_eq_some_iff.1 h1)
  exact ⟨b, by rw [List.drop_eq_getElem_cons hl, he], h4⟩
theorem KdsAt.arrs {q : IntKind} {m : Nat} {r : List Kd} {cs : List Value} {o : Nat} (h : KdsAt w (.arrs q m :: r) cs o) (hl : o + m ≤ cs.length) : ∃ l : List Int, l.length = m ∧ (∀ x ∈ l, (Lit.int q x).wf = true) ∧ cs.drop o = l.map (Value.int q) ++ cs.drop (o + m) ∧ KdsAt w r cs (o + m) := by
  obtain ⟨⟨l, h1, h2, h3⟩, h4⟩ := h
  refine ⟨l, h1, h3, ?_, h4⟩
  conv => lhs; rw [← List.take_append_drop m (cs.drop o), List.drop_drop]
  congr 1
  refine List.ext_getElem? fun j => ?_
  rw [List.getElem?_take]
  by_cases hj : j < m
  · rw [if_pos hj, List.getElem?_drop]
    have : l[j]? = some (l[j]'(by omega)) := List.getElem?_eq_getElem (by omega)
    rw [h2 j _ this]
    simp [this]
  · rw [if_neg hj, List.getElem?_eq_none (by simp; omega)]

theorem open_struct {t : TypeId} {fs : Array Field} {ks : List Kd} {v : Value} {d : DataW H} {ps : List MemPlace} {r : Reach} {b0 : Nat} (ht : P.underlying t = some (.struct fs)) (hk : kindsO P 8 t = some ks) (hv : Value.okWide P w r b0 t v)
    (h : DataW.Trod enc P w 0 (fun _ => true) true t v d ps) {ts : List TypeId} {ds : List (DataW H)} (hsz : (DataW.weightsEach P ts ds).all (· ≤ reachBytes) = true) {j : Nat} (htj : ts[j]? = some t) (hdj : ds[j]? = some d) :
    ∃ cs : List Value, v = .agg cs.toArray ∧ cs.length = width ks ∧ KdsAt w ks cs 0 := by
  obtain ⟨cs, rfl, _⟩ := okWide_struct ht hv
  obtain ⟨fuel, hf⟩ := h
  have hall : ∀ n ∈ d.weights P t, n ≤ reachBytes := fun n hn => by
    have := List.all_eq_true.1 hsz n (DataW.weights_mem_each htj hdj n hn)
    simpa using this
  obtain ⟨h1, h2⟩ := kinds_of_trod 8 hk hf hall
  exact ⟨cs.toList, by simp, h1, h2⟩
end
end Go.Sx
