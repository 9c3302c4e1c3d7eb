/- Own texts of this proof, laid one behind the other: SxR, ByteM, ResM, TabM, BlkM, BlkB, BlkG, Sx17, Sx18, MixM, KfG, KfP, KfP3, KfP4, BlkP, BlkP2, BlkR, BlkP3, FieldM2, KfM3, BlkP4. -/
import Derived.Test.YtkecbjohbihfmaaBlockExamplesB
import Derived.Test.YtkecbjohbihfmaaProg
import Derived.OpenShut
import Derived.WideShapes
import Derived.Below
import Derived.WalkKit
import Derived.ProofKit
import Derived.ChangeOld
import Derived.ChangeSlices
import Derived.SizedLaws

/- Functions that read lists and give plain values and new lists. -/
namespace Go.Sx
open Go
set_option linter.unusedSimpArgs false
set_option linter.unusedVariables false

/-- the fields of a struct argument: its lists are read under names of their own -/
inductive CanonF (σ : Mem) (j : Nat) : Nat → List Seg → List Seg → Mem → Prop
  | nil (f : Nat) : CanonF σ j f [] [] []
  | plain {f : Nat} {g : Seg} {s t : List Seg} {τ : Mem} : (∀ m, g.refs m = false) → CanonF σ j f s t τ → CanonF σ j f (g :: s) (g :: t) τ
  | row {f : Nat} {a : AC} {s t : List Seg} {τ : Mem} (ks : List Kd) (cs : List Col) : f < 100 → rdx σ ks (.one a) (fun c => c = cs) → 0 < width ks → CanonF σ j (f + 1) s t τ → CanonF σ j f (.cells [a] :: s) (.cells [.vec (200000 + (j + 1000 * f))] :: t) ((200000 + (j + 1000 * f), .rview cs) :: τ)

/-- the arguments of a call, as its function sees them: lists are read under names of their own -/
inductive Canon (σ : Mem) : Nat → List AV → List AV → Mem → Prop
  | nil (j : Nat) : Canon σ j [] [] []
  | plain {j : Nat} {x : AV} {xs ys : List AV} {τ : Mem} : plainAV x → Canon σ (j + 1) xs ys τ → Canon σ j (x :: xs) (x :: ys) τ
  | row {j : Nat} {x : AV} {xs ys : List AV} {τ : Mem} (ks : List Kd) (cs : List Col) : rdx σ ks x (fun c => c = cs) → 0 < width ks → Canon σ (j + 1) xs ys τ → Canon σ j (x :: xs) (.one (.vec (200000 + j)) :: ys) ((200000 + j, .rview cs) :: τ)
  | aggrow {j : Nat} {a : AC} {s : List Seg} {xs ys : List AV} {τ : Mem} (ks : List Kd) (cs : List Col) : rdx σ ks (.one a) (fun c => c = cs) → 0 < width ks → (∀ m, segsRefs m s = false) → Canon σ (j + 1) xs ys τ → Canon σ j (.agg (.cells [a] :: s) :: xs) (.agg (.cells [.vec (200000 + j)] :: s) :: ys) ((200000 + j, .rview cs) :: τ)
  | clo {j g n : Nat} {b : Blk} {xs ys : List AV} {τ : Mem} : Mem.find σ n = some b → (∀ m, segsRefs m b.segs = false) → Canon σ (j + 1) xs ys τ → Canon σ j (.one (.clo g n 0 0) :: xs) (.one (.clo g (200000 + j) 0 0) :: ys) ((200000 + j, .view b.segs) :: τ)
  | ptr {j n : Nat} {b : Blk} {xs ys : List AV} {τ : Mem} : Mem.find σ n = some b → (∀ m, segsRefs m b.segs = false) → Canon σ (j + 1) xs ys τ → Canon σ j (.one (.ptr n 0 0) :: xs) (.one (.ptr (200000 + j) 0 0) :: ys) ((200000 + j, .view b.segs) :: τ)
  | aggs {j : Nat} {s t : List Seg} {xs ys : List AV} {τ τ' : Mem} : CanonF σ j 0 s t τ' → Canon σ (j + 1) xs ys τ → Canon σ j (.agg s :: xs) (.agg t :: ys) (τ' ++ τ)
  | glob {j g : Nat} {b : Blk} {xs ys : List AV} {τ : Mem} : Mem.find σ (gname g) = some b → (∀ m, segsRefs m b.segs = false) → Canon σ j xs ys τ → Canon σ j xs ys ((gname g, .view b.segs) :: τ)

theorem find_app {τ' τ : Mem} {n : Nat} {b : Blk} (h : Mem.find (τ' ++ τ) n = some b) : Mem.find τ' n = some b ∨ Mem.find τ n = some b := by
  induction τ' with
  | nil => exact Or.inr h
  | cons x r ih =>
    obtain ⟨m, y⟩ := x
    simp only [List.cons_append, Mem.find] at h ⊢
    split at h
    · rename_i e; rw [if_pos e]; exact Or.inl h
    · rename_i e; rw [if_neg e]; exact ih h

theorem canonF_views {σ τ : Mem} {j : Nat} : ∀ {f : Nat} {s t : List Seg}, CanonF σ j f s t τ → ∀ ρ n b k, Mem.find τ n = some b → ¬ Out ρ n b k := by
  intro f s t h
  induction h with
  | nil f => intro ρ n b k hn; simp [Mem.find] at hn
  | plain _ _ ih => exact ih
  | row ks cs _ _ _ _ ih =>
    intro ρ n b k hn
    simp only [Mem.find] at hn
    split at hn
    · cases hn; exact fun q => q
    · exact ih ρ n b k hn

theorem canon_views {σ τ : Mem} : ∀ {j : Nat} {xs ys : List AV}, Canon σ j xs ys τ → ∀ ρ n b k, Mem.find τ n = some b → ¬ Out ρ n b k := by
  intro j xs ys h
  induction h with
  | nil j => intro ρ n b k hn; simp [Mem.find] at hn
  | plain _ _ ih => exact ih
  | row ks cs _ _ _ ih =>
    intro ρ n b k hn
    simp only [Mem.find] at hn
    split at hn
    · cases hn; exact fun q => q
    · exact ih ρ n b k hn
  | aggrow ks cs _ _ _ _ ih =>
    intro ρ n b k hn
    simp only [Mem.find] at hn
    split at hn
    · cases hn; exact fun q => q
    · exact ih ρ n b k hn
  | clo _ _ _ ih =>
    intro ρ n b k hn
    simp only [Mem.find] at hn
    split at hn
    · cases hn; exact fun q => q
    · exact ih ρ n b k hn
  | ptr _ _ _ ih =>
    intro ρ n b k hn
    simp only [Mem.find] at hn
    split at hn
    · cases hn; exact fun q => q
    · exact ih ρ n b k hn
  | aggs hF _ ih =>
    intro ρ n b k hn
    rcases find_app hn with q | q
    · exact canonF_views hF ρ n b k q
    · exact ih ρ n b k q
  | glob _ _ _ ih =>
    intro ρ n b k hn
    simp only [Mem.find] at hn
    split at hn
    · cases hn; exact fun q => q
    · exact ih ρ n b k hn

theorem plainAV.any {x : AV} (h : plainAV x) {ρ ρ' : Rho} {v : Value} (hv : SRep ρ x v) : SRep ρ' x v := hv.agree fun n hn => by rw [h n] at hn; cases hn

theorem canonF_sound {σ τ : Mem} {ρ : Rho} {w : World} (hm : MemRep ρ σ w) (hs : Sep ρ σ) {j : Nat} : ∀ {f : Nat} {s t : List Seg}, CanonF σ j f s t τ → ∀ (vals : List Value), segsOk s → FRep ρ (flat s) vals →
    ∃ Ls : Nat → Loc, ∀ ρc : Rho, (∀ i, f ≤ i → i < 100 → ρc (200000 + (j + 1000 * i)) = Ls i) → segsOk t ∧ FRep ρc (flat t) vals ∧ MemRep ρc τ w := by
  intro f s t h
  induction h with
  | nil f => intro vals _ hF; exact ⟨fun _ => loc0, fun ρc _ => ⟨trivial, ⟨hF.1, fun i a v ha => by simp [flat] at ha⟩, fun n b hb => by simp [Mem.find] at hb⟩⟩
  | @plain f g s t τ hp _ ih =>
    intro vals hok hF
    obtain ⟨v1, v2, rfl, hl⟩ : ∃ v1 v2, vals = v1 ++ v2 ∧ g.flat.length = v1.length := by
      have e := hF.1
      simp only [flat, List.length_append] at e
      exact ⟨vals.take g.flat.length, vals.drop g.flat.length, (List.take_append_drop _ _).symm, by rw [List.length_take]; omega⟩
    obtain ⟨Ls, h2⟩ := ih v2 hok.2 ⟨by have := hF.1; simp only [flat, List.length_append] at this; omega, fun i a v ha hv => hF.2 (g.flat.length + i) a v (by simp only [flat]; rw [List.getElem?_append_right (by omega), Nat.add_sub_cancel_left]; exact ha) (by rw [List.getElem?_append_right (by omega), hl, Nat.add_sub_cancel_left]; exact hv)⟩
    refine ⟨Ls, fun ρc hc => ?_⟩
    obtain ⟨g1, g2, g3⟩ := h2 ρc hc
    refine ⟨⟨hok.1, g1⟩, ⟨by simp only [flat, List.length_append]; have := g2.1; omega, fun i a v ha hv => ?_⟩, g3⟩
    simp only [flat] at ha
    by_cases hi : i < g.flat.length
    · rw [List.getElem?_append_left hi] at ha
      rw [List.getElem?_append_left (by omega)] at hv
      refine (hF.2 i a v (by simp only [flat]; rw [List.getElem?_append_left hi]; exact ha) (by rw [List.getElem?_append_left (by omega)]; exact hv)).agree fun m hm' => ?_
      have hr := hp m
      have : a ∈ g.flat := List.mem_of_getElem? ha
      cases g with
      | cells cs =>
        have : cs.any (AC.refs m) = true := List.any_eq_true.2 ⟨a, this, hm'⟩
        simp only [Seg.refs] at hr
        rw [hr] at this; cases this
      | ints k n l =>
        simp only [Seg.flat, List.mem_map] at this
        obtain ⟨x, _, rfl⟩ := this
        cases hm'
      | bools n l =>
        simp only [Seg.flat, List.mem_map] at this
        obtain ⟨x, _, rfl⟩ := this
        cases hm'
    · rw [List.getElem?_append_right (by omega)] at ha
      rw [List.getElem?_append_right (by omega), ← hl] at hv
      exact g2.2 _ a v ha hv
  | @row f a s t τ ks cs hf hr hk _ ih =>
    intro vals hok hF
    have hfl : flat (.cells [a] :: s) = a :: flat s := rfl
    rw [hfl] at hF
    obtain ⟨c0, rest, rfl⟩ : ∃ c0 rest, vals = c0 :: rest := by
      cases vals with
      | nil => have := hF.1; simp at this
      | cons c0 rest => exact ⟨c0, rest, rfl⟩
    obtain ⟨cs', L, hR, rfl⟩ := rdx_sound hr hk hm hs (x := .one a) (hF.2 0 a c0 rfl rfl)
    obtain ⟨Ls, h2⟩ := ih rest hok.2 ⟨by have := hF.1; simpa using this, fun i b v hb hv => hF.2 (i + 1) b v (by simpa using hb) (by simpa using hv)⟩
    refine ⟨fun i => if i = f then L else Ls i, fun ρc hc => ?_⟩
    have hj : ρc (200000 + (j + 1000 * f)) = L := by rw [hc f (Nat.le_refl _) hf]; simp
    obtain ⟨g1, g2, g3⟩ := h2 ρc (fun i hi h100 => by rw [hc i (by omega) h100]; show (if i = f then _ else Ls i) = Ls i; rw [if_neg (by omega)])
    refine ⟨⟨trivial, g1⟩, ⟨by have := hF.1; have := g2.1; simp [flat, Seg.flat] at *; omega, fun i b v hb hv => ?_⟩, fun m b hb => ?_⟩
    · cases i with
      | zero =>
        simp [flat, Seg.flat] at hb hv
        subst hb hv
        show c0 = _
        rw [hj]; exact hR.val
      | succ i => exact g2.2 i b v (by simpa [flat, Seg.flat] using hb) (by simpa using hv)
    · simp only [Mem.find] at hb
      split at hb
      · rename_i e; subst e; cases hb
        show VRep w (ρc (200000 + (j + 1000 * f))) cs'
        rw [hj]; exact hR.rep
      · exact g3 m b hb

theorem canon_sound {σ τ : Mem} {ρ : Rho} {w : World} (hm : MemRep ρ σ w) (hs : Sep ρ σ) : ∀ {j : Nat} {xs ys : List AV}, Canon σ j xs ys τ → ∀ (vals : List Value), xs.length = vals.length → (∀ (i : Nat) x v, xs[i]? = some x → vals[i]? = some v → SRep ρ x v) →
    ys.length = vals.length ∧ ∃ Ls : Nat → Nat → Loc, ∀ ρc : Rho, (∀ i f, j ≤ i → i < j + xs.length → f < 100 → ρc (200000 + (i + 1000 * f)) = Ls i f) → (∀ g, ρc (gname g) = ρ (gname g)) → (∀ (i : Nat) y v, ys[i]? = some y → vals[i]? = some v → SRep ρc y v) ∧ MemRep ρc τ w := by
  intro j xs ys h
  induction h with
  | nil j => intro vals hl _; exact ⟨hl, fun _ _ => loc0, fun ρc _ _ => ⟨fun i y v hy => by simp at hy, fun n b hb => by simp [Mem.find] at hb⟩⟩
  | @plain j x xs ys τ hp _ ih =>
    intro vals hl hv
    cases vals with
    | nil => simp at hl
    | cons v vals =>
      obtain ⟨h1, Ls, h2⟩ := ih vals (by simpa using hl) (fun i x u hx hu => hv (i + 1) x u (by simpa using hx) (by simpa using hu))
      refine ⟨by simpa using h1, Ls, fun ρc hc hcg => ?_⟩
      obtain ⟨g1, g2⟩ := h2 ρc (fun i f hi hlt hf => hc i f (by omega) (by simp only [List.length_cons]; omega) hf) hcg
      refine ⟨fun i y u hy hu => ?_, g2⟩
      cases i with
      | zero => simp at hy hu; subst hy hu; exact hp.any (hv 0 x v rfl rfl)
      | succ i => exact g1 i y u (by simpa using hy) (by simpa using hu)
  | @row j x xs ys τ ks cs hr hk _ ih =>
    intro vals hl hv
    cases vals with
    | nil => simp at hl
    | cons v vals =>
      obtain ⟨h1, Ls, h2⟩ := ih vals (by simpa using hl) (fun i x u hx hu => hv (i + 1) x u (by simpa using hx) (by simpa using hu))
      obtain ⟨cs', L, hR, rfl⟩ := rdx_sound hr hk hm hs (hv 0 x v rfl rfl)
      refine ⟨by simpa using h1, fun i f => if i = j then L else Ls i f, fun ρc hc hcg => ?_⟩
      have hj : ρc (200000 + j) = L := by have q := hc j 0 (Nat.le_refl _) (by simp) (by decide); simpa using q
      obtain ⟨g1, g2⟩ := h2 ρc (fun i f hi hlt hf => by rw [hc i f (by omega) (by simp only [List.length_cons]; omega) hf]; show (if i = j then _ else Ls i f) = Ls i f; rw [if_neg (by omega)]) hcg
      refine ⟨fun i y u hy hu => ?_, fun n b hb => ?_⟩
      · cases i with
        | zero =>
          simp at hy hu
          subst hy hu
          show v = _
          rw [hj]; exact hR.val
        | succ i => exact g1 i y u (by simpa using hy) (by simpa using hu)
      · simp only [Mem.find] at hb
        split at hb
        · rename_i e; subst e; cases hb
          show VRep w (ρc (200000 + j)) cs'
          rw [hj]; exact hR.rep
        · exact g2 n b hb
  | @aggrow j a s xs ys τ ks cs hr hk hp _ ih =>
    intro vals hl hv
    cases vals with
    | nil => simp at hl
    | cons v vals =>
      obtain ⟨h1, Ls, h2⟩ := ih vals (by simpa using hl) (fun i x u hx hu => hv (i + 1) x u (by simpa using hx) (by simpa using hu))
      obtain ⟨hok, cells, rfl, hF⟩ := hv 0 _ v rfl rfl
      have hfl : flat (.cells [a] :: s) = a :: flat s := rfl
      rw [hfl] at hF
      obtain ⟨c0, rest, rfl⟩ : ∃ c0 rest, cells = c0 :: rest := by
        cases cells with
        | nil => have := hF.1; simp at this
        | cons c0 rest => exact ⟨c0, rest, rfl⟩
      obtain ⟨cs', L, hR, rfl⟩ := rdx_sound hr hk hm hs (x := .one a) (hF.2 0 a c0 rfl rfl)
      refine ⟨by simpa using h1, fun i f => if i = j then L else Ls i f, fun ρc hc hcg => ?_⟩
      have hj : ρc (200000 + j) = L := by have q := hc j 0 (Nat.le_refl _) (by simp) (by decide); simpa using q
      obtain ⟨g1, g2⟩ := h2 ρc (fun i f hi hlt hf => by rw [hc i f (by omega) (by simp only [List.length_cons]; omega) hf]; show (if i = j then _ else Ls i f) = Ls i f; rw [if_neg (by omega)]) hcg
      refine ⟨fun i y u hy hu => ?_, fun n b hb => ?_⟩
      · cases i with
        | zero =>
          simp at hy hu
          subst hy hu
          refine ⟨⟨trivial, hok.2⟩, c0 :: rest, rfl, ?_⟩
          have hfl2 : flat (.cells [.vec (200000 + j)] :: s) = .vec (200000 + j) :: flat s := rfl
          rw [hfl2]
          refine ⟨by have := hF.1; simpa using this, fun i b u hb hu => ?_⟩
          cases i with
          | zero =>
            simp at hb hu
            subst hb hu
            show c0 = _
            rw [hj]; exact hR.val
          | succ i =>
            have hb : (flat s)[i]? = some b := by simpa using hb
            refine (hF.2 (i + 1) b u (by simpa using hb) hu).agree fun m hm' => ?_
            have := flat_refs' (List.any_eq_true.2 ⟨b, List.mem_of_getElem? hb, hm'⟩)
            rw [hp m] at this; cases this
        | succ i => exact g1 i y u (by simpa using hy) (by simpa using hu)
      · simp only [Mem.find] at hb
        split at hb
        · rename_i e; subst e; cases hb
          show VRep w (ρc (200000 + j)) cs'
          rw [hj]; exact hR.rep
        · exact g2 n b hb
  | @clo j g n b xs ys τ hn hp _ ih =>
    intro vals hl hv
    cases vals with
    | nil => simp at hl
    | cons v vals =>
      obtain ⟨h1, Ls, h2⟩ := ih vals (by simpa using hl) (fun i x u hx hu => hv (i + 1) x u (by simpa using hx) (by simpa using hu))
      have hx : v = .func (.func g) #[] #[.pointer (some (at_ ρ n (0 + 0)))] := hv 0 _ v rfl rfl
      refine ⟨by simpa using h1, fun i f => if i = j then ρ n else Ls i f, fun ρc hc hcg => ?_⟩
      have hj : ρc (200000 + j) = ρ n := by have q := hc j 0 (Nat.le_refl _) (by simp) (by decide); simpa using q
      obtain ⟨g1, g2⟩ := h2 ρc (fun i f hi hlt hf => by rw [hc i f (by omega) (by simp only [List.length_cons]; omega) hf]; show (if i = j then _ else Ls i f) = Ls i f; rw [if_neg (by omega)]) hcg
      refine ⟨fun i y u hy hu => ?_, fun m b' hb => ?_⟩
      · cases i with
        | zero =>
          simp at hy hu
          subst hy hu
          show v = _
          rw [hx]; simp only [at_, hj]
        | succ i => exact g1 i y u (by simpa using hy) (by simpa using hu)
      · simp only [Mem.find] at hb
        split at hb
        · rename_i e; subst e; cases hb
          obtain ⟨q1, q2⟩ := (hm n b hn).cells
          refine ⟨q1, fun i a ha => ?_⟩
          obtain ⟨u, hu1, hu2⟩ := q2 i a ha
          refine ⟨u, by simp only [at_, hj]; exact hu1, hu2.agree fun m hm' => ?_⟩
          have := flat_refs' (List.any_eq_true.2 ⟨a, List.mem_of_getElem? ha, hm'⟩)
          rw [hp m] at this; cases this
        · exact g2 m b' hb
  | @ptr j n b xs ys τ hn hp _ ih =>
    intro vals hl hv
    cases vals with
    | nil => simp at hl
    | cons v vals =>
      obtain ⟨h1, Ls, h2⟩ := ih vals (by simpa using hl) (fun i x u hx hu => hv (i + 1) x u (by simpa using hx) (by simpa using hu))
      have hx : v = .pointer (some (at_ ρ n (0 + 0))) := hv 0 _ v rfl rfl
      refine ⟨by simpa using h1, fun i f => if i = j then ρ n else Ls i f, fun ρc hc hcg => ?_⟩
      have hj : ρc (200000 + j) = ρ n := by have q := hc j 0 (Nat.le_refl _) (by simp) (by decide); simpa using q
      obtain ⟨g1, g2⟩ := h2 ρc (fun i f hi hlt hf => by rw [hc i f (by omega) (by simp only [List.length_cons]; omega) hf]; show (if i = j then _ else Ls i f) = Ls i f; rw [if_neg (by omega)]) hcg
      refine ⟨fun i y u hy hu => ?_, fun m b' hb => ?_⟩
      · cases i with
        | zero =>
          simp at hy hu
          subst hy hu
          show v = _
          rw [hx]; simp only [at_, hj]
        | succ i => exact g1 i y u (by simpa using hy) (by simpa using hu)
      · simp only [Mem.find] at hb
        split at hb
        · rename_i e; subst e; cases hb
          obtain ⟨q1, q2⟩ := (hm n b hn).cells
          refine ⟨q1, fun i a ha => ?_⟩
          obtain ⟨u, hu1, hu2⟩ := q2 i a ha
          refine ⟨u, by simp only [at_, hj]; exact hu1, hu2.agree fun m hm' => ?_⟩
          have := flat_refs' (List.any_eq_true.2 ⟨a, List.mem_of_getElem? ha, hm'⟩)
          rw [hp m] at this; cases this
        · exact g2 m b' hb
  | @aggs j s t xs ys τ τ' hF _ ih =>
    intro vals hl hv
    cases vals with
    | nil => simp at hl
    | cons v vals =>
      obtain ⟨h1, Ls, h2⟩ := ih vals (by simpa using hl) (fun i x u hx hu => hv (i + 1) x u (by simpa using hx) (by simpa using hu))
      obtain ⟨hok, cells, rfl, hFR⟩ := hv 0 _ v rfl rfl
      obtain ⟨Ms, h3⟩ := canonF_sound hm hs hF cells hok hFR
      refine ⟨by simpa using h1, fun i f => if i = j then Ms f else Ls i f, fun ρc hc hcg => ?_⟩
      obtain ⟨g1, g2⟩ := h2 ρc (fun i f hi hlt hf => by rw [hc i f (by omega) (by simp only [List.length_cons]; omega) hf]; show (if i = j then _ else Ls i f) = Ls i f; rw [if_neg (by omega)]) hcg
      obtain ⟨k1, k2, k3⟩ := h3 ρc (fun f _ hf => by rw [hc j f (Nat.le_refl _) (by simp) hf]; simp)
      refine ⟨fun i y u hy hu => ?_, fun n b hb => ?_⟩
      · cases i with
        | zero =>
          simp at hy hu
          subst hy hu
          exact ⟨k1, cells, rfl, k2⟩
        | succ i => exact g1 i y u (by simpa using hy) (by simpa using hu)
      · rcases find_app hb with q | q
        · exact k3 n b q
        · exact g2 n b q
  | @glob j g b xs ys τ hn hp _ ih =>
    intro vals hl hv
    obtain ⟨h1, Ls, h2⟩ := ih vals hl hv
    refine ⟨h1, Ls, fun ρc hc hcg => ?_⟩
    obtain ⟨g1, g2⟩ := h2 ρc hc hcg
    refine ⟨g1, fun m b' hb => ?_⟩
    simp only [Mem.find] at hb
    split at hb
    · rename_i e; subst e; cases hb
      obtain ⟨q1, q2⟩ := (hm (gname g) b hn).cells
      refine ⟨q1, fun i a ha => ?_⟩
      obtain ⟨u, hu1, hu2⟩ := q2 i a ha
      refine ⟨u, by simp only [at_, hcg]; exact hu1, hu2.agree fun m hm' => ?_⟩
      have := flat_refs' (List.any_eq_true.2 ⟨a, List.mem_of_getElem? ha, hm'⟩)
      rw [hp m] at this; cases this
    · exact g2 m b' hb

/-! ### results -/
inductive Item where
  | vec (m : Nat) (cs : List Col)
  | nil (ks : List Kd)

def Item.cols : Item → List Col
  | .vec _ cs => cs
  | .nil ks => ks.map Kd.nil

def Item.ac : Item → AC
  | .vec m _ => .vec m
  | .nil _ => .con (.slice none 0 0)

def Item.name : Item → Option Nat
  | .vec m _ => some m
  | .nil _ => none

def noRows : List Col → Bool
  | [] => true
  | .rows _ _ :: _ => false
  | _ :: r => noRows r

def Item.ok (σ : Mem) : Item → Prop
  | .vec m cs => Mem.find σ m = some (.vec cs) ∧ noRows cs = true
  | .nil ks => 0 < width ks ∧ noRows (ks.map Kd.nil) = true

def ResC (its : List Item) (d : Nat) (a b : AC) : Prop :=
  ((∀ n, a.refs n = false) ∧ (∀ n, b.refs n = false) ∧ ∀ ρ v, CRep ρ a v → CRep ρ b v) ∨ ∃ k it, its[k]? = some it ∧ a = it.ac ∧ b = .vec (d + 10000 * k)

def ResCs (its : List Item) (d : Nat) : List AC → List AC → Prop
  | [], [] => True
  | a :: r, b :: s => ResC its d a b ∧ ResCs its d r s
  | _, _ => False

def ResS (its : List Item) (d : Nat) : List Seg → List Seg → Prop
  | [], [] => True
  | .ints k n l :: r, .ints k' n' l' :: s => (k = k' ∧ n = n' ∧ l = l') ∧ ResS its d r s
  | .bools n l :: r, .bools n' l' :: s => (n = n' ∧ l = l') ∧ ResS its d r s
  | .cells c :: r, .cells c' :: s => ResCs its d c c' ∧ ResS its d r s
  | _, _ => False

def ResT (its : List Item) (d : Nat) : List TV → List TV → Prop
  | [], [] => True
  | .c a :: r, .c b :: s => ResC its d a b ∧ ResT its d r s
  | .g x :: r, .g y :: s => ResS its d x y ∧ ResT its d r s
  | _, _ => False

def ResV (its : List Item) (d : Nat) : AV → AV → Prop
  | .one a, .one b => ResC its d a b
  | .agg s, .agg t => ResS its d s t
  | .tup v, .tup u => ResT its d v u
  | _, _ => False

def insAll (d : Nat) : Nat → List Item → Mem → Mem
  | _, [], σ => σ
  | k, it :: r, σ => insAll d (k + 1) r (Mem.ins (d + 10000 * k) (.vec it.cols) σ)

/-- what a call is known to give: plain values and new lists, named by the slot -/
def Res (d news : Nat) (σ : Mem) (K : AV → Mem → Prop) (av : AV) (σ' : Mem) : Prop :=
  ∃ its av', its.length ≤ news ∧ (∀ it ∈ its, it.ok σ') ∧ (its.map Item.name).Pairwise (fun a b => a = none ∨ a ≠ b) ∧ ResV its d av av' ∧ K av' (insAll d 0 its σ)

theorem noRows_inner {cs : List Col} (h : noRows cs = true) : ∀ (c : Nat) k ll, cs[c]? ≠ some (Col.rows k ll) := by
  induction cs with
  | nil => intro c k ll q; simp at q
  | cons x r ih =>
    intro c k ll q
    cases c with
    | zero => simp at q; subst q; simp [noRows] at h
    | succ c => exact ih (by cases x <;> simp_all [noRows]) c k ll (by simpa using q)

theorem noRows_no {L : Loc} {cs : List Col} (h : noRows cs = true) (k : Nat) : ¬ Inner L cs k := by
  rintro ⟨c, kk, ll, i, l, a, hc, _⟩
  exact noRows_inner h c kk ll hc

theorem noRows_sub {cs : List Col} (h : noRows cs = true) (i len : Nat) : noRows (cs.map (Col.sub i len)) = true := by
  induction cs with
  | nil => rfl
  | cons x r ih => cases x <;> simp_all [noRows, Col.sub]

section
variable {P : Program} {Γ : Gam} {D : Hints}

/-- a list of a result, where it lies -/
structure ItemAt (ρ : Rho) (σ : Mem) (n0 : Nat) (w : World) (it : Item) (L : Loc) : Prop where
  rep : VRep w L it.cols
  write : Writable w L (cwidth it.cols)
  flat : noRows it.cols = true
  val : ∀ v, CRep ρ it.ac v → v = .slice L.a L.len L.cap
  own : L.cap ≠ 0 → n0 ≤ L.1 ∧ ∃ m b, it.name = some m ∧ Mem.find σ m = some b ∧ Out ρ m b L.1

theorem item_at {ρ : Rho} {σ : Mem} {n0 : Nat} {w : World} {it : Item} (hm : MemRep ρ σ w) (hs : Sep ρ σ) (ho : ∀ n b k, Mem.find σ n = some b → Out ρ n b k → n0 ≤ k) (hok : it.ok σ) : ∃ L, ItemAt ρ σ n0 w it L := by
  cases it with
  | vec m cs =>
    obtain ⟨h1, h2⟩ := hok
    obtain ⟨g1, g2⟩ := hm m _ h1
    exact ⟨ρ m, g1, g2, h2, fun u hu => hu, fun q => ⟨ho m _ _ h1 ⟨q, rfl⟩, m, _, rfl, h1, q, rfl⟩⟩
  | nil ks =>
    obtain ⟨h1, h2⟩ := hok
    obtain ⟨g1, g2⟩ := nil_rep (w := w) h1
    exact ⟨loc0, g1, fun q => absurd rfl q, h2, fun u hu => hu.1, fun q => absurd rfl q⟩

theorem insAll_sound {E : Env} {a : Act} {w : World} {ρi : Rho} {σi : Mem} {n0 d : Nat} (Ls : Nat → Loc) : ∀ {its : List Item} {k : Nat} {ρ : Rho} {σ : Mem}, Rep E ρ [] σ a w → (∀ i it, its[i]? = some it → ItemAt ρi σi n0 w it (Ls (k + i))) → Sep ρi σi → E.w0.heap.size ≤ n0 →
    (its.map Item.name).Pairwise (fun a b => a = none ∨ a ≠ b) → (∀ i, i < its.length → freshB (d + 10000 * (k + i)) [] σ = true) → (∀ m b q, Mem.find σ m = some b → Foot ρ m b q → ∀ (i : Nat) it, its[i]? = some it → (Ls (k + i)).cap ≠ 0 → q ≠ (Ls (k + i)).1) →
    ∃ ρ', Rep E ρ' [] (insAll d k its σ) a w ∧ (∀ n, (∀ i, i < its.length → n ≠ d + 10000 * (k + i)) → ρ' n = ρ n) ∧ (∀ i, i < its.length → ρ' (d + 10000 * (k + i)) = Ls (k + i)) ∧ ∀ m b, Mem.find σ m = some b → Mem.find (insAll d k its σ) m = some b
  | [], k, ρ, σ, h, _, _, _, _, _, _ => ⟨ρ, h, fun _ _ => rfl, fun i hi => absurd hi (Nat.not_lt_zero _), fun _ _ q => q⟩
  | it :: its, k, ρ, σ, h, hat, hs, hn0, hpw, hfr, hdis => by
    have h0 := hat 0 it rfl
    rw [Nat.add_zero] at h0
    have hd := hfr 0 (by simp)
    rw [Nat.add_zero] at hd
    have hdis0 := fun m b q hb hf => hdis m b q hb hf 0 it rfl
    have step := (add_sound (L := Ls k) (b := .vec it.cols) h hd h.keep (fun _ _ _ _ _ => rfl) ⟨by rw [upd_eq]; exact h0.rep, by rw [upd_eq]; exact h0.write⟩ (fun q hq => by
      simp only [Out, upd_eq] at hq
      obtain ⟨hc, rfl⟩ := hq
      exact ⟨Or.inl (Nat.le_trans hn0 (h0.own hc).1), fun m c hm hF => hdis0 m c _ hm hF (by rw [Nat.add_zero]; exact hc) (by rw [Nat.add_zero]), fun hI => by simp only [Inn, upd_eq] at hI; exact noRows_no h0.flat _ hI⟩) (fun q hq => by
      simp only [Foot, upd_eq] at hq
      rcases hq with ⟨hc, rfl⟩ | hq
      · exact fun m c hm hO => hdis0 m c _ hm hO.foot (by rw [Nat.add_zero]; exact hc) (by rw [Nat.add_zero])
      · exact absurd hq (noRows_no h0.flat _))).find_eq (find_ins (freshB_parts hd).2.2)
    obtain ⟨q1, q2⟩ := List.pairwise_cons.1 hpw
    obtain ⟨d1, _, d3⟩ := freshB_parts hd
    obtain ⟨ρ', r1, r2, r3, r4⟩ := insAll_sound (ρi := ρi) (σi := σi) (n0 := n0) (d := d) Ls (its := its) (k := k + 1) step (fun i it' hi => by have := hat (i + 1) it' (by simpa using hi); rw [show k + 1 + i = k + (i + 1) by omega]; exact this) hs hn0 q2 (fun i hi => by
      have := hfr (i + 1) (by simp only [List.length_cons]; omega)
      obtain ⟨f1, f2, f3⟩ := freshB_parts this
      rw [show k + 1 + i = k + (i + 1) by omega]
      simp only [freshB, f2, Bool.and_eq_true, decide_eq_true_eq, Bool.not_eq_true', and_true]
      refine ⟨f1, ?_⟩
      have e : ∀ (σ : Mem) (dd : Nat) (b : Blk) (x : Nat), memRefs x (Mem.ins dd b σ) = (dd == x || segsRefs x b.segs || memRefs x σ) := by
        intro σ dd b x
        induction σ with
        | nil => simp [Mem.ins, memRefs]
        | cons p r ih =>
          obtain ⟨m, y⟩ := p
          simp only [Mem.ins]
          split
          · simp only [memRefs, List.any_cons] at ih ⊢
            rw [ih]
            cases (m == x || segsRefs x y.segs) <;> cases (dd == x || segsRefs x b.segs) <;> simp
          · simp [memRefs]
      rw [e, f3]
      simp [Blk.segs, segsRefs]
      omega) (fun m b q hb hf i it' hi hc => by
      rw [show k + 1 + i = k + (i + 1) by omega] at hc ⊢
      rw [find_ins d3] at hb
      simp only [Mem.find] at hb
      split at hb
      · rename_i e
        cases hb
        subst e
        simp only [Foot, upd_eq] at hf
        rcases hf with ⟨hc0, rfl⟩ | hf
        · intro eq
          have hi' := hat (i + 1) it' (by simpa using hi)
          obtain ⟨_, m1, b1, n1, f1, o1⟩ := h0.own hc0
          obtain ⟨_, m2, b2, n2, f2, o2⟩ := hi'.own hc
          have hne : m1 ≠ m2 := fun e => by
            have := q1 it'.name (List.mem_map.2 ⟨it', List.mem_of_getElem? hi, rfl⟩)
            rw [n1, n2, e] at this
            rcases this with q | q
            · cases q
            · exact q rfl
          rw [← eq] at o2
          exact hs.1 m1 m2 b1 b2 _ f1 f2 hne o1 o2.foot
        · exact absurd hf (noRows_no h0.flat _)
      · rename_i hne
        have hf' : Foot ρ m b q := (Foot.agree (upd_ne (fun e => hne e.symm))).1 hf
        exact hdis m b q hb hf' (i + 1) it' (by simpa using hi) hc)
    refine ⟨ρ', r1, fun n hn => ?_, fun i hi => ?_, fun m b hb => r4 m b (ins_old hd m b hb)⟩
    · rw [r2 n (fun i hi => by have := hn (i + 1) (by simp only [List.length_cons]; omega); rw [show k + 1 + i = k + (i + 1) by omega]; exact this)]
      exact upd_ne (by have := hn 0 (by simp); rw [Nat.add_zero] at this; exact this)
    · cases i with
      | zero =>
        rw [Nat.add_zero, r2 _ (fun i hi => by omega)]
        exact upd_eq _ _ _
      | succ i =>
        have := r3 i (by simp only [List.length_cons] at hi; omega)
        rw [show k + 1 + i = k + (i + 1) by omega] at this
        exact this

theorem resC_sound {its : List Item} {d : Nat} {ρ ρ' : Rho} {a b : AC} {v : Value} (h : ResC its d a b) (hL : ∀ i it, its[i]? = some it → ∀ v, CRep ρ it.ac v → CRep ρ' (.vec (d + 10000 * i)) v) (hv : CRep ρ a v) : CRep ρ' b v := by
  rcases h with ⟨h1, h2, h3⟩ | ⟨k, it, h1, rfl, rfl⟩
  · exact (h3 ρ v hv).agree fun n hn => by rw [h2 n] at hn; cases hn
  · exact hL k it h1 v hv

theorem resCs_sound {its : List Item} {d : Nat} {ρ ρ' : Rho} (hL : ∀ i it, its[i]? = some it → ∀ v, CRep ρ it.ac v → CRep ρ' (.vec (d + 10000 * i)) v) : ∀ {l m : List AC}, ResCs its d l m → l.length = m.length ∧ ∀ (j : Nat) a b v, l[j]? = some a → m[j]? = some b → CRep ρ a v → CRep ρ' b v
  | [], [], _ => ⟨rfl, fun j a b v h => by simp at h⟩
  | a :: l, b :: m, h => by
    obtain ⟨g1, g2⟩ := resCs_sound hL h.2
    refine ⟨by simp [g1], fun j x y v hx hy hv => ?_⟩
    cases j with
    | zero => simp at hx hy; subst hx hy; exact resC_sound h.1 hL hv
    | succ j => exact g2 j x y v (by simpa using hx) (by simpa using hy) hv
  | [], _ :: _, h => h.elim
  | _ :: _, [], h => h.elim

theorem resS_sound {its : List Item} {d : Nat} {ρ ρ' : Rho} (hL : ∀ i it, its[i]? = some it → ∀ v, CRep ρ it.ac v → CRep ρ' (.vec (d + 10000 * i)) v) : ∀ {s t : List Seg}, ResS its d s t → segsOk s → segsOk t ∧ (flat s).length = (flat t).length ∧ ∀ (j : Nat) a b v, (flat s)[j]? = some a → (flat t)[j]? = some b → CRep ρ a v → CRep ρ' b v
  | [], [], _, _ => ⟨trivial, rfl, fun j a b v h => by simp [flat] at h⟩
  | .ints k n l :: r, .ints k' n' l' :: s, h, ho => by
    obtain ⟨⟨rfl, rfl, rfl⟩, h⟩ := h
    obtain ⟨g1, g2, g3⟩ := resS_sound hL h ho.2
    refine ⟨⟨ho.1, g1⟩, by simp [flat, g2], fun j a b v ha hb hv => ?_⟩
    simp only [flat] at ha hb
    rw [List.getElem?_append] at ha hb
    split at ha
    · rename_i hj; rw [if_pos hj] at hb; rw [ha] at hb; cases hb
      simp only [Seg.flat, List.getElem?_map, Option.map_eq_some_iff] at ha
      obtain ⟨x, _, rfl⟩ := ha; exact hv
    · rename_i hj; rw [if_neg hj] at hb; exact g3 _ a b v ha hb hv
  | .bools n l :: r, .bools n' l' :: s, h, ho => by
    obtain ⟨⟨rfl, rfl⟩, h⟩ := h
    obtain ⟨g1, g2, g3⟩ := resS_sound hL h ho.2
    refine ⟨⟨ho.1, g1⟩, by simp [flat, g2], fun j a b v ha hb hv => ?_⟩
    simp only [flat] at ha hb
    rw [List.getElem?_append] at ha hb
    split at ha
    · rename_i hj; rw [if_pos hj] at hb; rw [ha] at hb; cases hb
      simp only [Seg.flat, List.getElem?_map, Option.map_eq_some_iff] at ha
      obtain ⟨x, _, rfl⟩ := ha; exact hv
    · rename_i hj; rw [if_neg hj] at hb; exact g3 _ a b v ha hb hv
  | .cells c :: r, .cells c' :: s, h, ho => by
    obtain ⟨hc, h⟩ := h
    obtain ⟨c1, c2⟩ := resCs_sound hL hc
    obtain ⟨g1, g2, g3⟩ := resS_sound hL h ho.2
    refine ⟨⟨trivial, g1⟩, by simp [flat, Seg.flat, g2, c1], fun j a b v ha hb hv => ?_⟩
    simp only [flat, Seg.flat] at ha hb
    rw [List.getElem?_append] at ha hb
    split at ha
    · rename_i hj; rw [if_pos (by omega)] at hb; exact c2 j a b v ha hb hv
    · rename_i hj; rw [if_neg (by omega), ← c1] at hb; exact g3 _ a b v ha hb hv
  | [], _ :: _, h, _ => h.elim
  | .ints _ _ _ :: _, [], h, _ => h.elim
  | .bools _ _ :: _, [], h, _ => h.elim
  | .cells _ :: _, [], h, _ => h.elim
  | .ints _ _ _ :: _, .bools _ _ :: _, h, _ => h.elim
  | .ints _ _ _ :: _, .cells _ :: _, h, _ => h.elim
  | .bools _ _ :: _, .ints _ _ _ :: _, h, _ => h.elim
  | .bools _ _ :: _, .cells _ :: _, h, _ => h.elim
  | .cells _ :: _, .ints _ _ _ :: _, h, _ => h.elim
  | .cells _ :: _, .bools _ _ :: _, h, _ => h.elim

theorem resAgg_sound {its : List Item} {d : Nat} {ρ ρ' : Rho} (hL : ∀ i it, its[i]? = some it → ∀ v, CRep ρ it.ac v → CRep ρ' (.vec (d + 10000 * i)) v) {s t : List Seg} {v : Value} (h : ResS its d s t) (hv : SRep ρ (.agg s) v) : SRep ρ' (.agg t) v := by
  obtain ⟨ho, cs, rfl, hf⟩ := hv
  obtain ⟨g1, g2, g3⟩ := resS_sound hL h ho
  refine ⟨g1, cs, rfl, by rw [← g2]; exact hf.1, fun j b u hb hu => ?_⟩
  have hj : j < (flat s).length := by rw [g2]; exact (List.getElem?_eq_some_iff.1 hb).1
  exact g3 j _ b u (List.getElem?_eq_getElem hj) hb (hf.2 j _ u (List.getElem?_eq_getElem hj) hu)

theorem resT_sound {its : List Item} {d : Nat} {ρ ρ' : Rho} (hL : ∀ i it, its[i]? = some it → ∀ v, CRep ρ it.ac v → CRep ρ' (.vec (d + 10000 * i)) v) : ∀ {l m : List TV}, ResT its d l m → l.length = m.length ∧ ∀ (j : Nat) a b v, l[j]? = some a → m[j]? = some b → TRep ρ a v → TRep ρ' b v
  | [], [], _ => ⟨rfl, fun j a b v h => by simp at h⟩
  | .c a :: l, .c b :: m, h => by
    obtain ⟨g1, g2⟩ := resT_sound hL h.2
    refine ⟨by simp [g1], fun j x y v hx hy hv => ?_⟩
    cases j with
    | zero => simp at hx hy; subst hx hy; exact resC_sound h.1 hL hv
    | succ j => exact g2 j x y v (by simpa using hx) (by simpa using hy) hv
  | .g a :: l, .g b :: m, h => by
    obtain ⟨g1, g2⟩ := resT_sound hL h.2
    refine ⟨by simp [g1], fun j x y v hx hy hv => ?_⟩
    cases j with
    | zero => simp at hx hy; subst hx hy; exact resAgg_sound hL h.1 hv
    | succ j => exact g2 j x y v (by simpa using hx) (by simpa using hy) hv
  | [], _ :: _, h => h.elim
  | .c _ :: _, [], h => h.elim
  | .g _ :: _, [], h => h.elim
  | .c _ :: _, .g _ :: _, h => h.elim
  | .g _ :: _, .c _ :: _, h => h.elim

theorem resV_sound {its : List Item} {d : Nat} {ρ ρ' : Rho} (hL : ∀ i it, its[i]? = some it → ∀ v, CRep ρ it.ac v → CRep ρ' (.vec (d + 10000 * i)) v) {x y : AV} {v : Value} (h : ResV its d x y) (hv : SRep ρ x v) : SRep ρ' y v := by
  cases x <;> cases y <;> simp only [ResV] at h
  · exact resC_sound h hL hv
  · exact resAgg_sound hL h hv
  · obtain ⟨us, rfl, hl, hall⟩ := hv
    obtain ⟨g1, g2⟩ := resT_sound hL h
    refine ⟨us, rfl, by omega, fun j b u hb hu => ?_⟩
    rename_i l m
    have hj : j < l.length := by rw [g1]; exact (List.getElem?_eq_some_iff.1 hb).1
    exact g2 j _ b u (List.getElem?_eq_getElem hj) hb (hall j _ u (List.getElem?_eq_getElem hj) hu)

def rhoC (ρ : Rho) (Ls : Nat → Loc) : Rho := fun n => if n < 200000 then loc0 else if n < 1000000 then Ls (n - 200000) else ρ n
theorem rhoC_arg {ρ : Rho} {Ls : Nat → Loc} {i : Nat} (hi : i < 800000) : rhoC ρ Ls (200000 + i) = Ls i := by
  unfold rhoC
  split
  · omega
  · split
    · have e : 200000 + i - 200000 = i := by omega
      rw [e]
    · omega
theorem rhoC_glob {ρ : Rho} {Ls : Nat → Loc} {g : Nat} : rhoC ρ Ls (gname g) = ρ (gname g) := by
  have e1 : ¬ gname g < 200000 := by simp only [gname]; omega
  have e2 : ¬ gname g < 1000000 := by simp only [gname]; omega
  unfold rhoC
  rw [if_neg e1, if_neg e2]

/-- a function that reads lists and gives plain values and new lists -/
theorem Good.reads (hm : P.follows .mixedOrders = true) (hΓ : GoodG P Γ) {f : FuncId} {fn : Func} (hf : P.funcs[f]? = some fn) (hb : fn.body.isSome = true) {s : Spec} (hs : s.mods = false)
    (hsem : ∀ d args σ (K : AV → Mem → Prop), s.sem d args σ K → ∃ cargs τ, Canon σ 0 args cargs τ ∧ args.length ≤ 1000 ∧ ∃ n, callsx P Γ D fn n cargs τ (Res d s.news σ K)) : Good P f s := by
  refine ⟨fun d args σ K h ρ w vals hg hmem hsep hl hv hnew => ?_⟩
  obtain ⟨cargs, τ, hcan, hlen, n, hc⟩ := hsem d args σ K h
  obtain ⟨h1, Ls, h2⟩ := canon_sound hmem hsep hcan vals.toList (by simpa using hl) (fun i x v hx hu => hv i x v hx (by simpa using hu))
  generalize hρ0 : rhoC ρ (fun n => Ls (n % 1000) (n / 1000)) = ρc
  have hρc : ∀ i f, 0 ≤ i → i < 0 + args.length → f < 100 → ρc (200000 + (i + 1000 * f)) = Ls i f := fun i f _ hi hf => by
    rw [← hρ0, rhoC_arg (by omega)]
    show Ls ((i + 1000 * f) % 1000) ((i + 1000 * f) / 1000) = Ls i f
    rw [show (i + 1000 * f) % 1000 = i by omega, show (i + 1000 * f) / 1000 = f by omega]
  have hgg : ∀ g, ρc (gname g) = ρ (gname g) := fun g => by rw [← hρ0]; exact rhoC_glob
  obtain ⟨g1, g2⟩ := h2 ρc hρc hgg
  have hgc : Glob ρc := fun g => by rw [hgg]; exact hg g
  have hno := canon_views hcan ρc
  have hsepc : Sep ρc τ := ⟨fun n m b c k hn _ _ hO => absurd hO (hno n b k hn), fun n b k hn hO => absurd hO (hno n b k hn)⟩
  refine (callsx_sound hm hΓ hf hb hc (ex := fun _ => False) hgc (by simpa using h1) (fun i y v hy hu => g1 i y v hy (by simpa using hu)) g2 hsepc (fun n b k hn hO => absurd hO (hno n b k hn))).mono ?_
  rintro e w' ⟨v, av', σ'', ρ'', rfl, ⟨its, av, hlen', hok, hpw, hres, hK⟩, hsr, hmem'', hsep'', _, hown'', hk⟩
  have hsame : ∀ i, i < w.heap.size → w'.heap[i]? = w.heap[i]? := fun i hi => hk.block i hi (fun q => q)
  have hk' : Keeps (OwnAt ρ σ) w w' := ⟨hk.os, hk.tape, hk.output, hk.size, fun k hk' _ => hsame k hk'⟩
  let E : Env := ⟨w, ρ, OwnAt ρ σ, hg⟩
  let a : Act := { tmps := #[], defers := [] }
  have hR : Rep E ρ [] σ a w' := ⟨⟨rfl, fun t v ht => by simp [a] at ht⟩, rfl, hmem.keeps (fun n b k hb hk => hsame _ (in_range (hmem n b hb) hk)), hsep, fun _ _ => rfl, fun n b k hn hO => Or.inr ⟨n, b, hn, hO⟩, hk'⟩
  have hat : ∀ it ∈ its, ∃ L, ItemAt ρ'' σ'' w.heap.size w' it L := fun it hi => item_at hmem'' hsep'' (fun n b k hn hO => by rcases hown'' n b k hn hO with q | q; exact q; exact q.elim) (hok it hi)
  let Ms : Nat → Loc := fun i => if hi : i < its.length then Classical.choose (hat its[i] (List.getElem_mem hi)) else loc0
  have hMs : ∀ i it, its[i]? = some it → ItemAt ρ'' σ'' w.heap.size w' it (Ms i) := fun i it hi => by
    obtain ⟨hlt, rfl⟩ := List.getElem?_eq_some_iff.1 hi
    show ItemAt ρ'' σ'' w.heap.size w' its[i] (if hi : i < its.length then Classical.choose (hat its[i] (List.getElem_mem hi)) else loc0)
    rw [dif_pos hlt]
    exact Classical.choose_spec (hat its[i] (List.getElem_mem hlt))
  obtain ⟨ρ', r1, r2, r3, r4⟩ := insAll_sound (d := d) (k := 0) Ms hR (fun i it hi => by rw [Nat.zero_add]; exact hMs i it hi) hsep'' (Nat.le_refl _) hpw (fun i hi => by
    obtain ⟨q1, q2⟩ := hnew i (by omega)
    rw [Nat.zero_add]
    simp only [freshB, q2, frRefs, List.any_nil, Bool.not_false, Bool.and_true, decide_eq_true_eq]
    exact q1) (fun m b q hb hf i it hi hc => by
    rw [Nat.zero_add] at hc ⊢
    have := in_range (hmem m b hb) hf
    have := ((hMs i it hi).own hc).1
    omega)
  refine ⟨v, av, _, ρ', rfl, hK, resV_sound (fun i it hi u hu => ?_) hres hsr, r1.mem, r1.sep, fun n hn => r2 n fun i hi => by rw [Nat.zero_add]; exact hn i (by omega), fun n b k hn hO => ?_, hk', fun _ => ⟨hk, r4⟩⟩
  · show u = _
    have hlt := (List.getElem?_eq_some_iff.1 hi).1
    have e := r3 i hlt
    rw [Nat.zero_add] at e
    rw [e]
    exact (hMs i it hi).val u hu
  · rcases r1.own n b k hn hO with q | q
    · exact Or.inr q
    · exact Or.inl q
end
end Go.Sx

/- Bytes: plain facts on lists of them. -/
namespace Go.Sx
open Go
set_option linter.unusedSimpArgs false

structure Bs (l : List Int) : Prop where
  all : ∀ x ∈ l, 0 ≤ x ∧ x < 256

theorem Bs.nil : Bs [] := ⟨fun x h => by cases h⟩
theorem Bs.cons {a : Int} {l : List Int} (h0 : 0 ≤ a) (h1 : a < 256) (h : Bs l) : Bs (a :: l) := ⟨fun x hx => by
  rcases List.mem_cons.1 hx with rfl | hx
  · exact ⟨h0, h1⟩
  · exact h.all x hx⟩
theorem Bs.app {a b : List Int} (h : Bs a) (g : Bs b) : Bs (a ++ b) := ⟨fun x hx => by
  rcases List.mem_append.1 hx with hx | hx
  · exact h.all x hx
  · exact g.all x hx⟩
theorem Bs.take {l : List Int} (h : Bs l) (n : Nat) : Bs (l.take n) := ⟨fun x hx => h.all x (List.mem_of_mem_take hx)⟩
theorem Bs.drop {l : List Int} (h : Bs l) (n : Nat) : Bs (l.drop n) := ⟨fun x hx => h.all x (List.mem_of_mem_drop hx)⟩
theorem Bs.zeros (n : Nat) : Bs (List.replicate n 0) := ⟨fun x hx => by rw [List.eq_of_mem_replicate hx]; decide⟩
theorem Bs.get {l : List Int} (h : Bs l) (i : Nat) : 0 ≤ l.getD i 0 ∧ l.getD i 0 < 256 := by
  rw [List.getD_eq_getElem?_getD]
  cases hq : l[i]? with
  | none => simp
  | some x => exact h.all x (List.mem_of_getElem? hq)
theorem Bs.set {l : List Int} (h : Bs l) (i : Nat) {v : Int} (h0 : 0 ≤ v) (h1 : v < 256) : Bs (l.set i v) := ⟨fun x hx => by
  rcases List.mem_or_eq_of_mem_set hx with hx | rfl
  · exact h.all x hx
  · exact ⟨h0, h1⟩⟩

/-- what a slice of bytes reads -/
def rdb (σ : Mem) (x : AV) (K : List Int → Prop) : Prop := rdx σ [.ints .u8] x (oneInts .u8 K)

theorem rdx_det {σ : Mem} {ks : List Kd} {x : AV} {K : List Col → Prop} (h : rdx σ ks x K) : ∃ cs, K cs ∧ rdx σ ks x (fun c => c = cs) := by
  unfold rdx at h
  split at h
  · split at h <;> try exact h.elim
    rename_i hq
    exact ⟨_, h, by simp [rdx, hq]⟩
  · split at h <;> try exact h.elim
    rename_i hq
    split at h <;> try exact h.elim
    rename_i hz
    exact ⟨_, h, by simp [rdx, hq, hz]⟩
  · split at h <;> try exact h.elim
    rename_i hq
    exact ⟨_, h, by simp [rdx, hq]⟩
  · split at h <;> try exact h.elim
    rename_i hq
    exact ⟨_, h, by simp [rdx, hq]⟩
  · split at h <;> try exact h.elim
    rename_i hq
    split at h <;> try exact h.elim
    rename_i hf
    exact ⟨_, h.2, by simp only [rdx, hq, hf, and_true]; exact h.1⟩
  · exact ⟨_, h, by simp [rdx]⟩
  · exact h.elim

theorem rdb_row {σ : Mem} {x : AV} {K : List Int → Prop} (h : rdb σ x K) : ∃ l, K l ∧ rdx σ [.ints .u8] x (fun c => c = [.ints .u8 l]) := by
  obtain ⟨cs, h1, h2⟩ := rdx_det h
  unfold oneInts at h1
  split at h1 <;> try exact h1.elim
  split at h1 <;> try exact h1.elim
  rename_i hk
  subst hk
  exact ⟨_, h1, h2⟩

theorem pairwise_one {a : Option Nat} : [a].Pairwise (fun a b => a = none ∨ a ≠ b) := by simp
theorem pairwise_nil : ([] : List (Option Nat)).Pairwise (fun a b => a = none ∨ a ≠ b) := .nil

theorem bytes_eq {a b : List Int} (ha : Bs a) (hb : Bs b) (h : bytesOf a = bytesOf b) : a = b := by
  have h2 : a.map (fun n => UInt8.ofNat n.toNat) = b.map (fun n => UInt8.ofNat n.toNat) := by
    have := congrArg (fun s => s.data.toList) h
    simpa [bytesOf] using this
  have key : ∀ {a : List Int}, Bs a → (a.map (fun n => UInt8.ofNat n.toNat)).map (fun b => (b.toNat : Int)) = a := by
    intro a ha
    rw [List.map_map]
    conv => rhs; rw [← List.map_id a]
    refine List.map_congr_left fun x hx => ?_
    obtain ⟨h0, h1⟩ := ha.all x hx
    simp only [Function.comp, UInt8.toNat_ofNat', id]
    omega
  rw [← key ha, ← key hb, h2]

theorem seq2_self {a b : List Int} (h : a = b) : seq2 (bytesOf a) (bytesOf b) = true := by subst h; simp [seq2]
theorem seq2_true {a b : ByteArray} : seq2 a b = true ↔ a = b := by
  have e : ∀ s : ByteArray, s.toList = s.data.toList := fun s => ByteArray.toList_eq s
  simp only [seq2, e, beq_iff_eq]
  constructor
  · intro h; cases a; cases b; simp only at h; congr; exact Array.toList_inj.1 h
  · intro h; rw [h]
end Go.Sx

/- Results of functions that give plain values and new lists; words of conditions. -/
namespace Go.Sx
open Go
set_option linter.unusedSimpArgs false
set_option linter.unusedVariables false

/-- plain parts, up to how a truth value is written -/
inductive PlainT : List TV → List TV → Prop
  | nil : PlainT [] []
  | int {k : IntKind} {a b : Int} {r s : List TV} : a = b → PlainT r s → PlainT (.c (.int k a) :: r) (.c (.int k b) :: s)
  | lit {a b : Bool} {r s : List TV} : a = b → PlainT r s → PlainT (.c (.lit a) :: r) (.c (.bool b) :: s)
  | bool {a b : Bool} {r s : List TV} : a = b → PlainT r s → PlainT (.c (.bool a) :: r) (.c (.bool b) :: s)
  | arr {k : IntKind} {n : Nat} {a b : List Int} {r s : List TV} : a = b → PlainT r s → PlainT (.g [.ints k n a] :: r) (.g [.ints k n b] :: s)

theorem PlainT.res {its : List Item} {d : Nat} : ∀ {r s : List TV}, PlainT r s → ResT its d r s := by
  intro r s h
  induction h with
  | nil => trivial
  | int e _ ih => subst e; exact ⟨Or.inl ⟨fun _ => rfl, fun _ => rfl, fun _ _ h => h⟩, ih⟩
  | lit e _ ih => subst e; exact ⟨Or.inl ⟨fun _ => rfl, fun _ => rfl, fun _ _ h => h⟩, ih⟩
  | bool e _ ih => subst e; exact ⟨Or.inl ⟨fun _ => rfl, fun _ => rfl, fun _ _ h => h⟩, ih⟩
  | arr e _ ih => subst e; exact ⟨⟨⟨rfl, rfl, rfl⟩, trivial⟩, ih⟩

section
variable {d : Nat} {σ σ' : Mem} {K : AV → Mem → Prop}

theorem res_plain {av av' : AV} (h : ResV [] d av av') (hK : K av' σ) : Res d 0 σ K av σ' :=
  ⟨[], av', Nat.le_refl _, fun it h => by simp at h, pairwise_nil, h, hK⟩
theorem res_int {k : IntKind} {a b : Int} (e : a = b) (hK : K (.one (.int k b)) σ) : Res d 0 σ K (.one (.int k a)) σ' := by
  subst e; exact res_plain (av' := .one (.int k a)) (Or.inl ⟨fun _ => rfl, fun _ => rfl, fun _ _ h => h⟩) hK
theorem res_bool {a b : Bool} (e : a = b) (hK : K (.one (.bool b)) σ) : Res d 0 σ K (.one (.bool a)) σ' := by
  subst e; exact res_plain (av' := .one (.bool a)) (Or.inl ⟨fun _ => rfl, fun _ => rfl, fun _ _ h => h⟩) hK
theorem res_lit {a b : Bool} (e : a = b) (hK : K (.one (.bool b)) σ) : Res d 0 σ K (.one (.lit a)) σ' := by
  subst e; exact res_plain (av' := .one (.bool a)) (Or.inl ⟨fun _ => rfl, fun _ => rfl, fun _ _ h => h⟩) hK
theorem res_arr {k : IntKind} {n : Nat} {a b : List Int} (e : a = b) (hK : K (.agg [.ints k n b]) σ) : Res d 0 σ K (.agg [.ints k n a]) σ' := by
  subst e; exact res_plain (av' := .agg [.ints k n a]) ⟨⟨rfl, rfl, rfl⟩, trivial⟩ hK
theorem res_vec {m : Nat} {k : IntKind} {l l' : List Int} (hf : Mem.find σ' m = some (.vec [.ints k l])) (e : l = l') (hK : K (.one (.vec d)) (Mem.ins d (.vec [.ints k l']) σ)) : Res d 1 σ K (.one (.vec m)) σ' := by
  subst e
  exact ⟨[.vec m [.ints k l]], .one (.vec d), Nat.le_refl _, fun it h => by simp at h; subst h; exact ⟨hf, rfl⟩, pairwise_one, Or.inr ⟨0, _, rfl, rfl, rfl⟩, hK⟩
theorem res_nil {k : IntKind} {l' : List Int} (e : l' = []) (hK : K (.one (.vec d)) (Mem.ins d (.vec [.ints k l']) σ)) : Res d 1 σ K (.one (.con (.slice none 0 0))) σ' := by
  subst e
  exact ⟨[.nil [.ints k]], .one (.vec d), Nat.le_refl _, fun it h => by simp at h; subst h; exact ⟨Nat.one_pos, rfl⟩, pairwise_one, Or.inr ⟨0, _, rfl, rfl, rfl⟩, hK⟩
theorem res_tvec {m : Nat} {k : IntKind} {l l' : List Int} {r s : List TV} (hf : Mem.find σ' m = some (.vec [.ints k l])) (hr : PlainT r s) (e : l = l') (hK : K (.tup (.c (.vec d) :: s)) (Mem.ins d (.vec [.ints k l']) σ)) : Res d 1 σ K (.tup (.c (.vec m) :: r)) σ' := by
  subst e
  exact ⟨[.vec m [.ints k l]], .tup (.c (.vec d) :: s), Nat.le_refl _, fun it h => by simp at h; subst h; exact ⟨hf, rfl⟩, pairwise_one, ⟨Or.inr ⟨0, _, rfl, rfl, rfl⟩, hr.res⟩, hK⟩
theorem res_tnil {k : IntKind} {l' : List Int} {r s : List TV} (hr : PlainT r s) (e : l' = []) (hK : K (.tup (.c (.vec d) :: s)) (Mem.ins d (.vec [.ints k l']) σ)) : Res d 1 σ K (.tup (.c (.con (.slice none 0 0)) :: r)) σ' := by
  subst e
  exact ⟨[.nil [.ints k]], .tup (.c (.vec d) :: s), Nat.le_refl _, fun it h => by simp at h; subst h; exact ⟨Nat.one_pos, rfl⟩, pairwise_one, ⟨Or.inr ⟨0, _, rfl, rfl, rfl⟩, hr.res⟩, hK⟩
end

/-! ### words -/
theorem room1 {n : Nat} (h : n ≤ 140737488421888) : Room n 1 := ⟨by omega⟩
theorem lsub_all {α : Type} (l : List α) : lsub l 0 l.length = l := by simp [lsub]
theorem lsub_drop {α : Type} (l : List α) (i : Nat) : lsub l i (l.length - i) = l.drop i := by simp [lsub, List.take_of_length_le]
theorem lsub_take {α : Type} (l : List α) (n : Nat) : lsub l 0 n = l.take n := by simp [lsub]
theorem lget_succ (l : List Int) (i : Nat) (h : i < l.length) : l.drop i = lget l i :: l.drop (i + 1) := by
  rw [List.drop_eq_getElem_cons h]; simp [lget, List.getD, h]
end Go.Sx

/- Lists given by a function; loops that count up or down; words of conditions as arithmetic. -/
namespace Go.Sx
open Go
set_option linter.unusedSimpArgs false
set_option linter.unusedVariables false

/-- the list of the first n values -/
def tab {α : Type} (n : Nat) (g : Nat → α) : List α := (List.range n).map g

theorem tab_len {α : Type} (n : Nat) (g : Nat → α) : (tab n g).length = n := by simp [tab]
theorem tab_llen {α : Type} (n : Nat) (g : Nat → α) : llen (tab n g) = n := tab_len n g
theorem tab_get? {α : Type} (n : Nat) (g : Nat → α) (i : Nat) : (tab n g)[i]? = if i < n then some (g i) else none := by
  simp only [tab, List.getElem?_map, List.getElem?_range]
  by_cases h : i < n
  · simp [h, List.getElem?_range]
  · simp [h]
theorem tab_ext {α : Type} {n : Nat} {g h : Nat → α} (e : ∀ i, i < n → g i = h i) : tab n g = tab n h := by
  refine List.map_congr_left fun i hi => e i (by simpa using hi)
theorem list_ext {α : Type} {a b : List α} (hl : a.length = b.length) (h : ∀ i, i < a.length → a[i]? = b[i]?) : a = b := by
  refine List.ext_getElem? fun i => ?_
  by_cases hi : i < a.length
  · exact h i hi
  · rw [List.getElem?_eq_none (by omega), List.getElem?_eq_none (by omega)]
theorem tab_lget {n i : Nat} (g : Nat → Int) (h : i < n) : lget (tab n g) i = g i := by
  simp [lget, List.getD, tab_get?, h]
theorem tab_lgetb {n i : Nat} (g : Nat → Bool) (h : i < n) : lgetb (tab n g) i = g i := by
  simp [lgetb, List.getD, tab_get?, h]
theorem tab_llget {n i : Nat} (g : Nat → List Int) (h : i < n) : llget (tab n g) i = g i := by
  simp [llget, List.getD, tab_get?, h]
theorem tab_set {α : Type} (n i : Nat) (g : Nat → α) (v : α) : (tab n g).set i v = tab n (fun j => if j = i then v else g j) := by
  refine list_ext (by simp [tab_len]) fun j hj => ?_
  simp only [List.length_set, tab_len] at hj
  rw [List.getElem?_set, tab_get?, tab_get?, tab_len]
  by_cases e : i = j
  · subst e; simp [hj]
  · simp [e, hj, Ne.symm e]
theorem tab_lset (n i : Nat) (g : Nat → Int) (v : Int) : lset (tab n g) i v = tab n (fun j => if j = i then v else g j) := tab_set n i g v
theorem tab_lsetb (n i : Nat) (g : Nat → Bool) (v : Bool) : lsetb (tab n g) i v = tab n (fun j => if j = i then v else g j) := tab_set n i g v
theorem tab_llset (n i : Nat) (g : Nat → List Int) (v : List Int) : llset (tab n g) i v = tab n (fun j => if j = i then v else g j) := tab_set n i g v
theorem tab_lsub {α : Type} {n o z : Nat} (g : Nat → α) (h : o + z ≤ n) : lsub (tab n g) o z = tab z (fun j => g (o + j)) := by
  refine list_ext (by simp [lsub, tab_len]; omega) fun j hj => ?_
  simp only [lsub, List.length_take, List.length_drop, tab_len] at hj
  simp only [lsub, List.getElem?_take, List.getElem?_drop, tab_get?]
  have h1 : j < z := by omega
  have h2 : o + j < n := by omega
  simp [h1, h2]
theorem tab_lput {n o z : Nat} (g f : Nat → Int) (h : o + z ≤ n) : lput (tab n g) o (tab z f) = tab n (fun j => if o ≤ j ∧ j < o + z then f (j - o) else g j) := by
  refine list_ext (by simp [lput, tab_len]; omega) fun j hj => ?_
  have hn : j < n := by simp [lput, tab_len] at hj; omega
  simp only [lput, List.append_assoc, tab_len]
  rw [tab_get?, if_pos hn]
  by_cases h1 : j < o
  · rw [List.getElem?_append_left (by simp [tab_len]; omega), List.getElem?_take_of_lt h1, tab_get?, if_pos hn]
    simp; omega
  · rw [List.getElem?_append_right (by simp [tab_len]; omega)]
    simp only [List.length_take, tab_len]
    rw [show min o n = o by omega]
    by_cases h2 : j < o + z
    · rw [List.getElem?_append_left (by simp [tab_len]; omega), tab_get?, if_pos (by omega)]
      simp; omega
    · rw [List.getElem?_append_right (by simp [tab_len]; omega), List.getElem?_drop, tab_get?, tab_len, if_pos (by omega)]
      have : ¬ (o ≤ j ∧ j < o + z) := by omega
      rw [if_neg this]
      congr 2; omega
theorem lzeros_tab (n : Nat) : lzeros n = tab n (fun _ => 0) := by simp [lzeros, tab, List.map_const']
theorem bzeros_tab (n : Nat) : bzeros n = tab n (fun _ => false) := by simp [bzeros, tab, List.map_const']
theorem eq_tab {l : List Int} {n : Nat} (h : l.length = n) : l = tab n (lget l) := by
  subst h
  refine list_ext (by simp [tab_len]) fun j hj => ?_
  rw [tab_get?, if_pos hj]
  simp [lget, List.getD, hj]
theorem tab_map {α β : Type} (n : Nat) (g : Nat → α) (f : α → β) : (tab n g).map f = tab n (fun i => f (g i)) := by simp [tab, List.map_map, Function.comp]
theorem tab_succ {α : Type} (n : Nat) (g : Nat → α) : tab (n + 1) g = tab n g ++ [g n] := by simp [tab, List.range_succ]
theorem tab_zero {α : Type} (g : Nat → α) : tab 0 g = [] := rfl
theorem tab_append {α : Type} (n m : Nat) (g h : Nat → α) : tab n g ++ tab m h = tab (n + m) (fun j => if j < n then g j else h (j - n)) := by
  refine list_ext (by simp [tab_len]) fun j hj => ?_
  simp only [List.length_append, tab_len] at hj
  rw [tab_get?, if_pos hj]
  by_cases q : j < n
  · rw [List.getElem?_append_left (by simpa [tab_len] using q), tab_get?, if_pos q, if_pos q]
  · rw [List.getElem?_append_right (by simp [tab_len]; omega), tab_len, tab_get?, if_pos (by omega), if_neg q]
theorem tab_inj {α : Type} {n : Nat} {g h : Nat → α} (e : tab n g = tab n h) {i : Nat} (hi : i < n) : g i = h i := by
  have := congrArg (fun l => l[i]?) e
  simpa [tab_get?, hi] using this

/-- one place more is done -/
theorem tab_step {α : Type} {n i : Nat} {F G : Nat → α} {v : α} (hv : v = F i) : tab n (fun j => if j = i then v else if j < i then F j else G j) = tab n (fun j => if j < i + 1 then F j else G j) := by
  subst hv
  refine tab_ext fun j hj => ?_
  by_cases e : j = i
  · subst e; simp
  · by_cases q : j < i
    · simp [e, q, show j < i + 1 by omega]
    · simp [e, q, show ¬ j < i + 1 by omega]
theorem tab_done {α : Type} {n : Nat} {F G : Nat → α} : tab n (fun j => if j < n then F j else G j) = tab n F := tab_ext fun j hj => by simp [hj]
theorem tab_start {α : Type} {n : Nat} {F G : Nat → α} : tab n (fun j => if j < 0 then F j else G j) = tab n G := tab_ext fun j hj => by simp

/-- the first i places are done -/
def upto {α : Type} (n i : Nat) (F G : Nat → α) : List α := tab n fun j => if j < i then F j else G j
theorem upto_zero {α : Type} {n : Nat} {F G : Nat → α} : upto n 0 F G = tab n G := tab_start
theorem upto_done {α : Type} {n : Nat} {F G : Nat → α} : upto n n F G = tab n F := tab_done
theorem upto_len {α : Type} {n i : Nat} {F G : Nat → α} : (upto n i F G).length = n := tab_len _ _
theorem upto_lo {n i j : Nat} {F G : Nat → Int} (h : j < i) (hi : i ≤ n) : lget (upto n i F G) j = F j := by rw [upto, tab_lget _ (by omega), if_pos h]
theorem upto_hi {n i j : Nat} {F G : Nat → Int} (h : i ≤ j) (hj : j < n) : lget (upto n i F G) j = G j := by rw [upto, tab_lget _ hj, if_neg (by omega)]
theorem upto_lset {n i : Nat} {F G : Nat → Int} {v : Int} (hv : v = F i) : lset (upto n i F G) i v = upto n (i + 1) F G := by rw [upto, tab_lset, tab_step hv]; rfl
theorem upto_lsetb {n i : Nat} {F G : Nat → Bool} {v : Bool} (hv : v = F i) : lsetb (upto n i F G) i v = upto n (i + 1) F G := by rw [upto, tab_lsetb, tab_step hv]; rfl
theorem upto_llset {n i : Nat} {F G : Nat → List Int} {v : List Int} (hv : v = F i) : llset (upto n i F G) i v = upto n (i + 1) F G := by rw [upto, tab_llset, tab_step hv]; rfl

/-! ### the words of conditions -/
theorem InB_iff {i : Int} {n : Nat} : InB i n ↔ 0 ≤ i ∧ i < n := ⟨fun h => ⟨h.lo, h.hi⟩, fun h => ⟨h.1, h.2⟩⟩
theorem Low_iff {a b : Nat} : Low a b ↔ a < b := ⟨fun h => h.lt, fun h => ⟨h⟩⟩
theorem Fits_iff {a b : Nat} : Fits a b ↔ a ≤ b := ⟨fun h => h.le, fun h => ⟨h⟩⟩
theorem NonNeg_iff {i : Int} : NonNeg i ↔ 0 ≤ i := ⟨fun h => h.le, fun h => ⟨h⟩⟩
theorem NeZ_iff {i : Int} : NeZ i ↔ i ≠ 0 := ⟨fun h => h.ne, fun h => ⟨h⟩⟩
theorem Mk_iff {a b : Int} {z : Nat} : Mk a b z ↔ 0 ≤ a ∧ a ≤ b ∧ b * z ≤ 281474976710656 ∧ b ≤ 9223372036854775807 := ⟨fun h => ⟨h.lo, h.le, h.hi, h.c63⟩, fun h => ⟨h.1, h.2.1, h.2.2.1, h.2.2.2⟩⟩
theorem Room_iff {n z : Nat} : Room n z ↔ (5 * n + 4096) * z ≤ 1125899906842624 := ⟨fun h => h.le, fun h => ⟨h⟩⟩
theorem nat_cast (n : Nat) : nat (n : Int) = n := rfl
theorem nat_add (a b : Nat) : nat ((a : Int) + b) = a + b := by simp only [nat]; omega
theorem nat_add1 (a : Nat) : nat ((a : Int) + 1) = a + 1 := by simp only [nat]; omega
theorem nat_ofNat (n : Nat) : nat (OfNat.ofNat n : Int) = OfNat.ofNat n := rfl
theorem nadd_def (a b : Nat) : nadd a b = a + b := rfl
theorem nsub_def (a b : Nat) : nsub a b = a - b := rfl
theorem nmul_def (a b : Nat) : nmul a b = a * b := rfl
theorem nmin_def (a b : Nat) : nmin a b = min a b := rfl
theorem ofNat_def (a : Nat) : ofNat a = (a : Int) := rfl
theorem llen_def {α : Type} (l : List α) : llen l = l.length := rfl
theorem lcat_def {α : Type} (a b : List α) : lcat a b = a ++ b := rfl
theorem add1_i64 {a : Nat} (h : a < 9223372036854775807) : add .i64 (a : Int) 1 = ((a + 1 : Nat) : Int) := by
  rw [add_i64 (by omega) (by omega)]; omega
theorem addN_i64 {a b : Nat} (h : a + b < 9223372036854775808) : add .i64 (a : Int) (b : Int) = ((a + b : Nat) : Int) := by
  rw [add_i64 (by omega) (by omega)]; omega
theorem mulN_i64 {a b : Nat} (h : a * b < 9223372036854775808) : mul .i64 (a : Int) (b : Int) = ((a * b : Nat) : Int) := by
  rw [mul_i64 (by have := Int.natCast_nonneg (a * b); rw [Int.natCast_mul] at this; omega) (by rw [← Int.natCast_mul]; omega)]; simp
theorem subN_i64 {a b : Nat} (h : b ≤ a) (ha : a < 9223372036854775808) : sub .i64 (a : Int) (b : Int) = ((a - b : Nat) : Int) := by
  rw [sub_i64 (by omega) (by omega)]; omega
theorem remN {a b : Nat} : rem (a : Int) (b : Int) = ((a % b : Nat) : Int) := by
  simp only [rem]; exact Int.ofNat_tmod a b
theorem quoN_i64 {a b : Nat} (h : a < 9223372036854775808) : quo .i64 (a : Int) (b : Int) = ((a / b : Nat) : Int) := by
  have e : (a : Int).tdiv (b : Int) = ((a / b : Nat) : Int) := Int.ofNat_tdiv a b
  have h2 : a / b ≤ a := Nat.div_le_self a b
  unfold quo
  rw [e]
  generalize a / b = q at h2
  exact conv_i64 (by omega) (by omega)

/-! ### loops -/
/-- a loop that counts up to n -/
theorem loop_up {S : Type} (L : Nat → Int → S → Prop) (n : Nat) (st : Nat → S) (hs : ∀ f i, i < n → L f ((i + 1 : Nat) : Int) (st (i + 1)) → L (f + 1) (i : Int) (st i)) (he : ∀ f, L (f + 1) (n : Int) (st n)) :
    ∀ i, i ≤ n → ∀ m, L (n - i + 1 + m) (i : Int) (st i) := by
  intro i hi m
  induction hk : n - i generalizing i with
  | zero =>
    obtain rfl : i = n := by omega
    rw [show 0 + 1 + m = m + 1 by omega]; exact he m
  | succ k ih =>
    rw [show k + 1 + 1 + m = (k + 1 + m) + 1 by omega]
    exact hs _ i (by omega) (ih (i + 1) (by omega) (by omega))
/-- the same from nought -/
theorem loop_up0 {S : Type} (L : Nat → Int → S → Prop) (n : Nat) (st : Nat → S) (hs : ∀ f i, i < n → L f ((i + 1 : Nat) : Int) (st (i + 1)) → L (f + 1) (i : Int) (st i)) (he : ∀ f, L (f + 1) (n : Int) (st n)) (m : Nat) : L (n + 1 + m) 0 (st 0) :=
  loop_up L n st hs he 0 (Nat.zero_le _) m
/-- a loop that counts up to n, each round at so much fuel -/
theorem loop_n {S : Type} (L : Nat → Int → S → Prop) (n : Nat) (st : Nat → S) (c f0 : Nat) (hs : ∀ g i, i < n → L g ((i + 1 : Nat) : Int) (st (i + 1)) → L (g + c) (i : Int) (st i)) (he : L f0 (n : Int) (st n)) :
    ∀ i, i ≤ n → L (f0 + c * (n - i)) (i : Int) (st i) := by
  intro i hi
  induction hk : n - i generalizing i with
  | zero =>
    obtain rfl : i = n := by omega
    exact he
  | succ k ih =>
    rw [Nat.mul_succ, ← Nat.add_assoc]
    exact hs _ i (by omega) (ih (i + 1) (by omega) (by omega))
/-- the same from a place on -/
theorem loop_from {S : Type} (L : Nat → Int → S → Prop) (lo n : Nat) (st : Nat → S) (c f0 : Nat) (hs : ∀ g i, lo ≤ i → i < n → L g ((i + 1 : Nat) : Int) (st (i + 1)) → L (g + c) (i : Int) (st i)) (he : L f0 (n : Int) (st n)) :
    ∀ i, lo ≤ i → i ≤ n → L (f0 + c * (n - i)) (i : Int) (st i) := by
  intro i hl hi
  induction hk : n - i generalizing i with
  | zero =>
    obtain rfl : i = n := by omega
    exact he
  | succ k ih =>
    rw [Nat.mul_succ, ← Nat.add_assoc]
    exact hs _ i hl (by omega) (ih (i + 1) (by omega) (by omega) (by omega))
/-- the same, by k -/
theorem loop_nby {S : Type} (k : Nat) (L : Nat → Int → S → Prop) (n : Nat) (st : Nat → S) (c f0 : Nat) (hs : ∀ g i, i < n → L g ((k * (i + 1) : Nat) : Int) (st (i + 1)) → L (g + c) ((k * i : Nat) : Int) (st i)) (he : L f0 ((k * n : Nat) : Int) (st n)) :
    ∀ i, i ≤ n → L (f0 + c * (n - i)) ((k * i : Nat) : Int) (st i) := fun i hi =>
  loop_n (fun f (i : Int) s => L f ((k * i.toNat : Nat) : Int) s) n st c f0 (fun f i hi h => hs f i hi h) he i hi
/-- a loop that counts down from n - 1 to nought -/
theorem loop_down {S : Type} (L : Nat → Int → S → Prop) (st : Nat → S) (c f0 : Nat) (n : Nat) (hs : ∀ g i, i < n → L g ((i : Int) - 1) (st i) → L (g + c) (i : Int) (st (i + 1))) (he : L f0 (-1) (st 0)) :
    ∀ i, i ≤ n → L (f0 + c * i) ((i : Int) - 1) (st i) := by
  intro i hi
  induction i with
  | zero => exact he
  | succ i ih =>
    rw [Nat.mul_succ, ← Nat.add_assoc, show ((i + 1 : Nat) : Int) - 1 = (i : Int) by omega]
    exact hs _ i (by omega) (ih (by omega))
theorem lsub_lsub {α : Type} (l : List α) (a n b m : Nat) (h : b + m ≤ n) : lsub (lsub l a n) b m = lsub l (a + b) m := by
  simp only [lsub]
  rw [List.drop_take, List.take_take, List.drop_drop]
  congr 1; omega
theorem upto_lput {n i z : Nat} {F G : Nat → Int} {l : List Int} (hl : l = tab z (fun k => F (i + k))) (h : i + z ≤ n) : lput (upto n i F G) i l = upto n (i + z) F G := by
  subst hl
  rw [upto, tab_lput _ _ h]
  refine tab_ext fun j hj => ?_
  by_cases q : j < i
  · rw [if_neg (by omega), if_pos q, if_pos (by omega)]
  · by_cases r : j < i + z
    · rw [if_pos ⟨by omega, r⟩, if_pos r, show i + (j - i) = j by omega]
    · rw [if_neg (by omega), if_neg q, if_neg r]
theorem lsub_tabbed {l : List Int} {n o z : Nat} (hl : l.length = n) (h : o + z ≤ n) : lsub l o z = tab z (fun j => lget l (o + j)) := by
  conv => lhs; rw [eq_tab hl, tab_lsub _ h]
/-- a loop that counts up to n; how much fuel is not told -/
theorem loop_ex {S : Type} (L : Nat → Int → S → Prop) (n : Nat) (st : Nat → S) (hs : ∀ g i, i < n → L g ((i + 1 : Nat) : Int) (st (i + 1)) → ∃ g', L g' (i : Int) (st i)) (he : ∃ g, L g (n : Int) (st n)) :
    ∀ i, i ≤ n → ∃ g, L g (i : Int) (st i) := by
  intro i hi
  induction hk : n - i generalizing i with
  | zero =>
    obtain rfl : i = n := by omega
    exact he
  | succ k ih =>
    obtain ⟨g, hg⟩ := ih (i + 1) (by omega) (by omega)
    exact hs g i (by omega) hg
theorem loop_exfrom {S : Type} (L : Nat → Int → S → Prop) (lo n : Nat) (st : Nat → S) (hs : ∀ g i, lo ≤ i → i < n → L g ((i + 1 : Nat) : Int) (st (i + 1)) → ∃ g', L g' (i : Int) (st i)) (he : ∃ g, L g (n : Int) (st n)) :
    ∀ i, lo ≤ i → i ≤ n → ∃ g, L g (i : Int) (st i) := by
  intro i hl hi
  induction hk : n - i generalizing i with
  | zero =>
    obtain rfl : i = n := by omega
    exact he
  | succ k ih =>
    obtain ⟨g, hg⟩ := ih (i + 1) (by omega) (by omega) (by omega)
    exact hs g i hl (by omega) hg
theorem loop_exby {S : Type} (k : Nat) (L : Nat → Int → S → Prop) (n : Nat) (st : Nat → S) (hs : ∀ g i, i < n → L g ((k * (i + 1) : Nat) : Int) (st (i + 1)) → ∃ g', L g' ((k * i : Nat) : Int) (st i)) (he : ∃ g, L g ((k * n : Nat) : Int) (st n)) :
    ∀ i, i ≤ n → ∃ g, L g ((k * i : Nat) : Int) (st i) := fun i hi =>
  loop_ex (fun f (i : Int) s => L f ((k * i.toNat : Nat) : Int) s) n st (fun f i hi h => hs f i hi h) he i hi
/-- a loop that counts up by k -/
theorem loop_by {S : Type} (k : Nat) (L : Nat → Int → S → Prop) (n : Nat) (st : Nat → S) (hs : ∀ f i, i < n → L f ((k * (i + 1) : Nat) : Int) (st (i + 1)) → L (f + 1) ((k * i : Nat) : Int) (st i)) (he : ∀ f, L (f + 1) ((k * n : Nat) : Int) (st n)) (m : Nat) : L (n + 1 + m) 0 (st 0) := by
  have := loop_up (fun f (i : Int) s => L f ((k * i.toNat : Nat) : Int) s) n st (fun f i hi h => hs f i hi h) he 0 (Nat.zero_le _) m
  simpa using this
end Go.Sx

/- The block cipher on lists of numbers: plain mathematics. -/
namespace Go.Blk
open Go Go.Sx Go.Fld

/-- a list of n bytes -/
structure BL (n : Nat) (l : List Int) : Prop where
  len : l.length = n
  all : ∀ x ∈ l, Byte x

theorem BL.get {n : Nat} {l : List Int} (h : BL n l) (i : Nat) : Byte (lget l i) := by
  unfold lget
  rw [List.getD_eq_getElem?_getD]
  cases hq : l[i]? with
  | none => exact ⟨by simp, by simp⟩
  | some x => exact h.all x (List.mem_of_getElem? hq)
theorem BL.tab {n : Nat} {g : Nat → Int} (h : ∀ i, i < n → Byte (g i)) : BL n (tab n g) := ⟨tab_len n g, fun x hx => by
  obtain ⟨i, hi, rfl⟩ := List.mem_map.1 hx
  exact h i (by simpa using hi)⟩
theorem BL.eq {n : Nat} {l : List Int} (h : BL n l) : l = Sx.tab n (lget l) := eq_tab h.len

theorem byte_xor {a b : Int} (ha : Byte a) (hb : Byte b) : Byte (bxor .u8 a b) := by
  obtain ⟨x, hx, rfl⟩ := ha.nat
  obtain ⟨y, hy, rfl⟩ := hb.nat
  rw [bxor_u8 hx hy]
  exact Byte.of (xor_lt hx hy)
theorem byte_sub {a : Int} : Byte (fsub a) := Byte.of (gs_lt _)
theorem byte_unsub {a : Int} : Byte (funsub a) := Byte.of (gu_lt _)
theorem byte_mul {a b : Int} (ha : Byte a) : Byte (fmul a b) := by
  obtain ⟨x, hx, rfl⟩ := ha.nat
  exact Byte.of (gm_lt hx)
theorem byte_lit {n : Nat} (h : n < 256) : Byte (n : Int) := Byte.of h

/-- laid over -/
def qx (b k : List Int) : List Int := tab 16 fun j => bxor .u8 (lget b j) (lget k j)
/-- every byte -/
def qe (f : Int → Int) (b : List Int) : List Int := tab 16 fun j => f (lget b j)
/-- rows turned -/
def qt (n : Nat) (b : List Int) : List Int := tab 16 fun j => lget b (4 * ((j / 4 + j % 4 * n) % 4) + j % 4)
/-- every column -/
def qc (f b : List Int) : List Int := tab 16 fun j => lget (fmix (lsub b (j / 4 * 4) 4) f) (j % 4)

/-- a round's number -/
def rcon : Nat → Int
  | 0 => 1
  | n + 1 => fmul 2 (rcon n)
theorem rcon_byte : ∀ n, Byte (rcon n)
  | 0 => ⟨by decide, by decide⟩
  | n + 1 => byte_mul ⟨by decide, by decide⟩

/-- what is laid over word i of the keys -/
def kt (i : Nat) (p : Nat → Int) (j : Nat) : Int :=
  if i % 4 = 0 then (if j = 0 then bxor .u8 (fsub (p 1)) (rcon (i / 4 - 1)) else fsub (p ((j + 1) % 4))) else p j
/-- the first n words of the keys -/
def kws (key : List Int) : Nat → Nat → Nat → Int
  | 0, _, _ => 0
  | n + 1, i, j => if i < n then kws key n i j else if n < 4 then lget key (4 * n + j) else bxor .u8 (kws key n (n - 4) j) (kt n (kws key n (n - 1)) j)
def kw (key : List Int) (i j : Nat) : Int := kws key (i + 1) i j
/-- the round keys, one behind the other -/
def ks (key : List Int) : List Int := tab 176 fun p => kw key (p / 4) (p % 4)
def rk (w : List Int) (i : Nat) : List Int := lsub w (16 * i) 16

theorem kws_stable (key : List Int) : ∀ (n m i j : Nat), i < n → n ≤ m → kws key m i j = kws key n i j := by
  intro n m i j hi hm
  induction m with
  | zero => omega
  | succ m ih =>
    by_cases h : n = m + 1
    · rw [h]
    · rw [← ih (by omega)]
      show (if i < m then kws key m i j else _) = _
      rw [if_pos (by omega)]
theorem kws_kw (key : List Int) (n i j : Nat) (h : i < n) : kws key n i j = kw key i j := kws_stable key (i + 1) n i j (by omega) (by omega)
theorem kw_lo (key : List Int) {i : Nat} (j : Nat) (h : i < 4) : kw key i j = lget key (4 * i + j) := by
  unfold kw kws; rw [if_neg (by omega), if_pos h]
theorem kt_congr {i : Nat} {p q : Nat → Int} (h : ∀ j, j < 4 → p j = q j) {j : Nat} (hj : j < 4) : kt i p j = kt i q j := by
  unfold kt
  split
  · split
    · rw [h 1 (by omega)]
    · rw [h _ (by omega)]
  · exact h j hj
theorem kw_hi (key : List Int) {i j : Nat} (h : 4 ≤ i) (hj : j < 4) : kw key i j = bxor .u8 (kw key (i - 4) j) (kt i (kw key (i - 1)) j) := by
  unfold kw
  rw [kws, if_neg (by omega), if_neg (by omega), kws_kw key i (i - 4) j (by omega), kt_congr (fun a _ => kws_kw key i (i - 1) a (by omega)) hj]
  rfl
theorem kw_byte {key : List Int} (hk : BL 16 key) : ∀ i j, j < 4 → Byte (kw key i j) := by
  intro i
  induction i using Nat.strongRecOn with
  | _ i ih =>
    intro j hj
    by_cases h : i < 4
    · rw [kw_lo _ _ h]; exact hk.get _
    · rw [kw_hi _ (by omega) hj]
      refine byte_xor (ih _ (by omega) _ hj) ?_
      unfold kt
      split
      · split
        · exact byte_xor byte_sub (rcon_byte _)
        · exact byte_sub
      · exact ih _ (by omega) _ hj
theorem ks_bl {key : List Int} (hk : BL 16 key) : BL 176 (ks key) := BL.tab fun i hi => kw_byte hk _ _ (by omega)

/-- rounds i + 1, .., i + n of an encryption -/
def encN (w : List Int) : Nat → Nat → List Int → List Int
  | 0, _, x => x
  | n + 1, i, x =>
    let y := qt 1 (qe fsub x)
    encN w n (i + 1) (qx (if i < 10 then qc [2, 3, 1, 1] y else y) (rk w i))
def enc (w b : List Int) : List Int := encN w 10 1 (qx b (rk w 0))
/-- rounds n, .., 1 back -/
def decN (w : List Int) : Nat → List Int → List Int
  | 0, x => x
  | n + 1, x =>
    let y := qx (qe funsub (qt 3 x)) (rk w n)
    decN w n (if 1 < n + 1 then qc [14, 11, 13, 9] y else y)
def dec (w b : List Int) : List Int := decN w 10 (qx b (rk w 10))

/-- the next number: bytes i, .., 0 -/
def upN : Nat → List Int → List Int
  | 0, b => b
  | i + 1, b => if add .u8 (lget b i) 1 = 0 then upN i (lset b i (add .u8 (lget b i) 1)) else lset b i (add .u8 (lget b i) 1)
def up (b : List Int) : List Int := upN 16 b
def ups (b : List Int) : Nat → List Int
  | 0 => b
  | n + 1 => up (ups b n)
/-- the key stream's byte -/
def strB (w s : List Int) (i : Nat) : Int := lget (enc w (ups s (i / 16))) (i % 16)
def strm (w s : List Int) (n : Nat) : List Int := tab n (strB w s)
def mask (w s p : List Int) : List Int := tab p.length fun i => bxor .u8 (lget p i) (strB w s i)
end Go.Blk

namespace Go.Blk
/-- the table of the document -/
def boxC : ByteArray := (ByteArray.mk (Array.mk [99, 124, 119, 123, 242, 107, 111, 197, 48, 1, 103, 43, 254, 215, 171, 118, 202, 130, 201, 125, 250, 89, 71, 240, 173, 212, 162, 175, 156, 164, 114, 192, 183, 253, 147, 38, 54, 63, 247, 204, 52, 165, 229, 241, 113, 216, 49, 21, 4, 199, 35, 195, 24, 150, 5, 154, 7, 18, 128, 226, 235, 39, 178, 117, 9, 131, 44, 26, 27, 110, 90, 160, 82, 59, 214, 179, 41, 227, 47, 132, 83, 209, 0, 237, 32, 252, 177, 91, 106, 203, 190, 57, 74, 76, 88, 207, 208, 239, 170, 251, 67, 77, 51, 133, 69, 249, 2, 127, 80, 60, 159, 168, 81, 163, 64, 143, 146, 157, 56, 245, 188, 182, 218, 33, 16, 255, 243, 210, 205, 12, 19, 236, 95, 151, 68, 23, 196, 167, 126, 61, 100, 93, 25, 115, 96, 129, 79, 220, 34, 42, 144, 136, 70, 238, 184, 20, 222, 94, 11, 219, 224, 50, 58, 10, 73, 6, 36, 92, 194, 211, 172, 98, 145, 149, 228, 121, 231, 200, 55, 109, 141, 213, 78, 169, 108, 86, 244, 234, 101, 122, 174, 8, 186, 120, 37, 46, 28, 166, 180, 198, 232, 221, 116, 31, 75, 189, 139, 138, 112, 62, 181, 102, 72, 3, 246, 14, 97, 53, 87, 185, 134, 193, 29, 158, 225, 248, 152, 17, 105, 217, 142, 148, 155, 30, 135, 233, 206, 85, 40, 223, 140, 161, 137, 13, 191, 230, 66, 104, 65, 153, 45, 15, 176, 84, 187, 22]))
end Go.Blk

/- What is known of the block cipher's inner functions. -/
namespace Go.Sx
open Go.Fld Go.Blk

def withS : Spec := ⟨0, false, fun _ args σ K => match args with
  | [.agg [.ints .u8 16 b], .agg [.ints .u8 16 k]] => (BL 16 b ∧ BL 16 k) ∧ K (.agg [.ints .u8 16 (qx b k)]) σ
  | _ => False⟩
def turnedS : Spec := ⟨0, false, fun _ args σ K => match args with
  | [.agg [.ints .u8 16 b], .one (.int .i64 n)] => (BL 16 b ∧ InB n 4) ∧ K (.agg [.ints .u8 16 (qt (nat n) b)]) σ
  | _ => False⟩
/-- the function behind a number: the substitution there or back -/
def subOf (g : Nat) : Option (Int → Int) := if g = 25 then some fsub else if g = 32 then some funsub else none
/-- the table of the substitution -/
structure Tbl (t : List Int) : Prop where
  len : t.length = 256
  at_ : ∀ i, i < 256 → lget t i = fsub (i : Int)
/-- the number of a function that is a value -/
def conFn : AV → Option Nat
  | .one (.con (.func (.func g) a b)) => match a.toList, b.toList with
    | [], [] => some g
    | _, _ => none
  | _ => none
def isTold : AV → Option Nat
  | .one (.clo g n b i) => match Nat.beq g 38, b, i with
    | true, 0, 0 => some n
    | _, _, _ => none
  | _ => none
/-- a function of one byte: one of the field's, or the closure over a table -/
def fnx (σ : Mem) (x : AV) (K : (Int → Int) → Prop) : Prop :=
  match conFn x with
  | some g => match subOf g with
    | some f => K f
    | none => False
  | none => match isTold x with
    | some n => match Mem.find σ n with
      | some b => match b.segs with
        | [.ints .u8 256 t] => Tbl t ∧ K fsub
        | _ => False
      | none => False
    | none => False
theorem conFn_eq {x : AV} {g : Nat} (h : conFn x = some g) : x = .one (.con (.func (.func g) #[] #[])) := by
  unfold conFn at h
  split at h
  · rename_i g' a b
    split at h
    · rename_i ha hb
      cases h
      rw [Array.toList_eq_nil_iff.1 ha, Array.toList_eq_nil_iff.1 hb]
    · cases h
  · cases h
theorem isTold_eq {x : AV} {n : Nat} (h : isTold x = some n) : x = .one (.clo 38 n 0 0) := by
  unfold isTold at h
  split at h
  · rename_i g n' b i
    split at h
    · rename_i hg; cases h; rw [beq_nat hg]
    · cases h
  · cases h
def eachSp : Spec := ⟨0, false, fun _ args σ K => match args with
  | [.agg [.ints .u8 16 b], x] => fnx σ x fun f => BL 16 b ∧ K (.agg [.ints .u8 16 (qe f b)]) σ
  | _ => False⟩
def colOf (g : Nat) : Option (List Int) := if g = 43 then some [2, 3, 1, 1] else if g = 34 then some [14, 11, 13, 9] else none
def columnsS : Spec := ⟨0, false, fun _ args σ K => match args with
  | [.agg [.ints .u8 16 b], x] => match (conFn x).bind colOf with
    | some f => BL 16 b ∧ K (.agg [.ints .u8 16 (qc f b)]) σ
    | none => False
  | _ => False⟩
/-- the closure over a table -/
def tblS : Spec := ⟨0, false, fun _ args σ K => match args with
  | [.one (.int .u8 a), .one (.ptr n 0 0)] => match Mem.find σ n with
    | some b => match b.segs with
      | [.ints .u8 256 t] => (Byte a ∧ Tbl t) ∧ K (.one (.int .u8 (fsub a))) σ
      | _ => False
    | none => False
  | _ => False⟩
/-- the keys of a key -/
def keysS : Spec := ⟨0, false, fun _ args σ K => match args with
  | [.agg [.ints .u8 16 b]] => BL 16 b ∧ K (.agg [.ints .u8 176 (ks b)]) σ
  | _ => False⟩
def nextS : Spec := ⟨0, false, fun _ args σ K => match args with
  | [.agg [.ints .u8 16 b]] => BL 16 b ∧ K (.agg [.ints .u8 16 (up b)]) σ
  | _ => False⟩
/-- the product of 2 and b -/
def twiceS : Spec := ⟨0, false, fun _ args σ K => match args with
  | [.one (.int .u8 b)] => Byte b ∧ K (.one (.int .u8 (fmul 2 b))) σ
  | _ => False⟩
def addedS : Spec := ⟨0, false, fun _ args σ K => match args with
  | [.agg [.ints .u8 16 b], .agg [.ints .u8 176 w], .one (.int .i64 i)] => ((BL 16 b ∧ BL 176 w) ∧ InB i 11) ∧ K (.agg [.ints .u8 16 (qx b (rk w (nat i)))]) σ
  | _ => False⟩
def mixedS : Spec := ⟨0, false, fun _ args σ K => match args with
  | [.agg [.ints .u8 16 b]] => BL 16 b ∧ K (.agg [.ints .u8 16 (qc [2, 3, 1, 1] b)]) σ
  | _ => False⟩
def backS : Spec := ⟨0, false, fun _ args σ K => match args with
  | [] => K (.agg [.ints .u8 256 (tab 256 fun i => funsub (i : Int))]) σ
  | _ => False⟩

def gamB1 : Gam := ext (ext gam6 38 tblS) 44 twiceS
def gamB2 : Gam := ext (ext (ext (ext (ext (ext gamB1 29 withS) 30 turnedS) 31 eachSp) 33 columnsS) 10 keysS) 39 nextS
def gamB3 : Gam := ext (ext (ext (ext (ext gamB2 28 keysS) 36 addedS) 37 mixedS) 35 backS) 40 nextS
end Go.Sx

/- The verification conditions of functions, printed by a program of this session out of their codes. -/
namespace Go.Proofs.Ytkecbjohbihfmaa.G
open Go Go.Sx Go.Fld Go.Blk
set_option linter.unusedVariables false
set_option maxRecDepth 100000

def bwith.l0 (R : AV → Mem → Prop) (k : List Int) (fuel : Nat) (x0 : Int) (x1 : List Int) : Prop := run Try.prog gam0 [] (resh Try.prog [] Try.f29.results.toList R) fuel [.code (cAt (bodyOf Try.f29) [1, 0, 1, 0, 0]), .inLoop (cAt (bodyOf Try.f29) [1, 0, 1, 0, 0]), .inBlock 0, .code (cAt (bodyOf Try.f29) [1, 1])] [AV.undef, AV.undef, (AV.one (AC.ptr 2 0 0)), (AV.one (AC.ptr 3 0 0)), (AV.one (AC.ptr 4 0 0)), AV.undef, (AV.one (AC.int IntKind.i64 x0)), AV.undef, AV.undef, AV.undef, AV.undef, AV.undef, AV.undef, AV.undef, AV.undef, AV.undef, AV.undef, AV.undef, (AV.tup [])] [(2, Blk.own 25 [(Seg.ints IntKind.u8 16 x1)]), (3, Blk.own 25 [(Seg.ints IntKind.u8 16 k)]), (4, Blk.own 25 [(Seg.ints IntKind.u8 16 (lzeros 16))])]

theorem bwith.l0_succ (R : AV → Mem → Prop) (k : List Int) (fuel : Nat) (x0 : Int) (x1 : List Int) : bwith.l0 R k (fuel + 1) x0 x1 = (((((ilt x0 16) = true) → ((InB x0 16) ∧ ((Low (nadd 0 (nat x0)) 16) ∧ ((InB x0 16) ∧ ((Low (nadd 0 (nat x0)) 16) ∧ ((InB x0 16) ∧ ((Low (nadd 0 (nat x0)) 16) ∧ (bwith.l0 R k fuel (add IntKind.i64 x0 1) (lset x1 (nadd 0 (nat x0)) (bxor IntKind.u8 (lget x1 (nadd 0 (nat x0))) (lget k (nadd 0 (nat x0))))))))))))) ∧ (((ilt x0 16) = false) → (R (AV.agg [(Seg.ints IntKind.u8 16 x1)]) [(2, Blk.own 25 [(Seg.ints IntKind.u8 16 x1)]), (3, Blk.own 25 [(Seg.ints IntKind.u8 16 k)]), (4, Blk.own 25 [(Seg.ints IntKind.u8 16 x1)])])))) := by kernel_rfl
theorem bwith.l0_zero (R : AV → Mem → Prop) (k : List Int) (x0 : Int) (x1 : List Int) : bwith.l0 R k 0 x0 x1 = False := by kernel_rfl

theorem bwith_vc (R : AV → Mem → Prop) (fuel : Nat) (b : List Int) (k : List Int) : callsx Try.prog gam0 [] Try.f29 (fuel + 1) [.agg [.ints .u8 16 b], .agg [.ints .u8 16 k]] [] R = ((bwith.l0 R k fuel 0 b)) := by kernel_rfl

theorem told_vc (R : AV → Mem → Prop) (fuel : Nat) (t : List Int) (a : Int) : callsx Try.prog gam0 [] Try.f38 (fuel + 1) [.one (.int .u8 a), .one (.ptr 200001 0 0)] [(200001, .view [.ints .u8 256 t])] R = (((InB a 256) ∧ ((Low (nadd 0 (nat a)) 256) ∧ (R (AV.one (AC.int IntKind.u8 (lget t (nadd 0 (nat a))))) [(200001, Blk.view [(Seg.ints IntKind.u8 256 t)])])))) := by kernel_rfl

def eachS.l0 (R : AV → Mem → Prop)  (fuel : Nat) (x0 : Int) (x1 : List Int) : Prop := run Try.prog gamB1 [] (resh Try.prog [] Try.f31.results.toList R) fuel [.code (cAt (bodyOf Try.f31) [1, 0, 1, 0, 0]), .inLoop (cAt (bodyOf Try.f31) [1, 0, 1, 0, 0]), .inBlock 0, .code (cAt (bodyOf Try.f31) [1, 1])] [AV.undef, (AV.one (AC.con (Value.func (Fn.func 25) (List.toArray []) (List.toArray [])))), (AV.one (AC.ptr 2 0 0)), AV.undef, (AV.one (AC.ptr 4 0 0)), AV.undef, (AV.one (AC.int IntKind.i64 x0)), AV.undef, AV.undef, AV.undef, AV.undef, AV.undef, AV.undef, AV.undef, AV.undef, AV.undef, AV.undef, (AV.tup [])] [(2, Blk.own 25 [(Seg.ints IntKind.u8 16 x1)]), (4, Blk.own 25 [(Seg.ints IntKind.u8 16 (lzeros 16))])]

theorem eachS.l0_succ (R : AV → Mem → Prop)  (fuel : Nat) (x0 : Int) (x1 : List Int) : eachS.l0 R  (fuel + 1) x0 x1 = (((((ilt x0 16) = true) → ((InB x0 16) ∧ ((Low (nadd 0 (nat x0)) 16) ∧ ((Byte (lget x1 (nadd 0 (nat x0)))) ∧ ((InB x0 16) ∧ ((Low (nadd 0 (nat x0)) 16) ∧ (eachS.l0 R  fuel (add IntKind.i64 x0 1) (lset x1 (nadd 0 (nat x0)) (fsub (lget x1 (nadd 0 (nat x0)))))))))))) ∧ (((ilt x0 16) = false) → (R (AV.agg [(Seg.ints IntKind.u8 16 x1)]) [(2, Blk.own 25 [(Seg.ints IntKind.u8 16 x1)]), (4, Blk.own 25 [(Seg.ints IntKind.u8 16 x1)])])))) := by kernel_rfl
theorem eachS.l0_zero (R : AV → Mem → Prop)  (x0 : Int) (x1 : List Int) : eachS.l0 R  0 x0 x1 = False := by kernel_rfl

theorem eachS_vc (R : AV → Mem → Prop) (fuel : Nat) (b : List Int) : callsx Try.prog gamB1 [] Try.f31 (fuel + 1) [.agg [.ints .u8 16 b], .one (.con (.func (.func 25) #[] #[]))] [] R = ((eachS.l0 R  fuel 0 b)) := by kernel_rfl

def eachU.l0 (R : AV → Mem → Prop)  (fuel : Nat) (x0 : Int) (x1 : List Int) : Prop := run Try.prog gamB1 [] (resh Try.prog [] Try.f31.results.toList R) fuel [.code (cAt (bodyOf Try.f31) [1, 0, 1, 0, 0]), .inLoop (cAt (bodyOf Try.f31) [1, 0, 1, 0, 0]), .inBlock 0, .code (cAt (bodyOf Try.f31) [1, 1])] [AV.undef, (AV.one (AC.con (Value.func (Fn.func 32) (List.toArray []) (List.toArray [])))), (AV.one (AC.ptr 2 0 0)), AV.undef, (AV.one (AC.ptr 4 0 0)), AV.undef, (AV.one (AC.int IntKind.i64 x0)), AV.undef, AV.undef, AV.undef, AV.undef, AV.undef, AV.undef, AV.undef, AV.undef, AV.undef, AV.undef, (AV.tup [])] [(2, Blk.own 25 [(Seg.ints IntKind.u8 16 x1)]), (4, Blk.own 25 [(Seg.ints IntKind.u8 16 (lzeros 16))])]

theorem eachU.l0_succ (R : AV → Mem → Prop)  (fuel : Nat) (x0 : Int) (x1 : List Int) : eachU.l0 R  (fuel + 1) x0 x1 = (((((ilt x0 16) = true) → ((InB x0 16) ∧ ((Low (nadd 0 (nat x0)) 16) ∧ ((Byte (lget x1 (nadd 0 (nat x0)))) ∧ ((InB x0 16) ∧ ((Low (nadd 0 (nat x0)) 16) ∧ (eachU.l0 R  fuel (add IntKind.i64 x0 1) (lset x1 (nadd 0 (nat x0)) (funsub (lget x1 (nadd 0 (nat x0)))))))))))) ∧ (((ilt x0 16) = false) → (R (AV.agg [(Seg.ints IntKind.u8 16 x1)]) [(2, Blk.own 25 [(Seg.ints IntKind.u8 16 x1)]), (4, Blk.own 25 [(Seg.ints IntKind.u8 16 x1)])])))) := by kernel_rfl
theorem eachU.l0_zero (R : AV → Mem → Prop)  (x0 : Int) (x1 : List Int) : eachU.l0 R  0 x0 x1 = False := by kernel_rfl

theorem eachU_vc (R : AV → Mem → Prop) (fuel : Nat) (b : List Int) : callsx Try.prog gamB1 [] Try.f31 (fuel + 1) [.agg [.ints .u8 16 b], .one (.con (.func (.func 32) #[] #[]))] [] R = ((eachU.l0 R  fuel 0 b)) := by kernel_rfl

def eachT.l0 (R : AV → Mem → Prop) (t : List Int) (fuel : Nat) (x0 : Int) (x1 : List Int) : Prop := run Try.prog gamB1 [] (resh Try.prog [] Try.f31.results.toList R) fuel [.code (cAt (bodyOf Try.f31) [1, 0, 1, 0, 0]), .inLoop (cAt (bodyOf Try.f31) [1, 0, 1, 0, 0]), .inBlock 0, .code (cAt (bodyOf Try.f31) [1, 1])] [AV.undef, (AV.one (AC.clo 38 200001 0 0)), (AV.one (AC.ptr 2 0 0)), AV.undef, (AV.one (AC.ptr 4 0 0)), AV.undef, (AV.one (AC.int IntKind.i64 x0)), AV.undef, AV.undef, AV.undef, AV.undef, AV.undef, AV.undef, AV.undef, AV.undef, AV.undef, AV.undef, (AV.tup [])] [(2, Blk.own 25 [(Seg.ints IntKind.u8 16 x1)]), (4, Blk.own 25 [(Seg.ints IntKind.u8 16 (lzeros 16))]), (200001, Blk.view [(Seg.ints IntKind.u8 256 t)])]

theorem eachT.l0_succ (R : AV → Mem → Prop) (t : List Int) (fuel : Nat) (x0 : Int) (x1 : List Int) : eachT.l0 R t (fuel + 1) x0 x1 = (((((ilt x0 16) = true) → ((InB x0 16) ∧ ((Low (nadd 0 (nat x0)) 16) ∧ (((Byte (lget x1 (nadd 0 (nat x0)))) ∧ (Tbl t)) ∧ ((InB x0 16) ∧ ((Low (nadd 0 (nat x0)) 16) ∧ (eachT.l0 R t fuel (add IntKind.i64 x0 1) (lset x1 (nadd 0 (nat x0)) (fsub (lget x1 (nadd 0 (nat x0)))))))))))) ∧ (((ilt x0 16) = false) → (R (AV.agg [(Seg.ints IntKind.u8 16 x1)]) [(2, Blk.own 25 [(Seg.ints IntKind.u8 16 x1)]), (4, Blk.own 25 [(Seg.ints IntKind.u8 16 x1)]), (200001, Blk.view [(Seg.ints IntKind.u8 256 t)])])))) := by kernel_rfl
theorem eachT.l0_zero (R : AV → Mem → Prop) (t : List Int) (x0 : Int) (x1 : List Int) : eachT.l0 R t 0 x0 x1 = False := by kernel_rfl

theorem eachT_vc (R : AV → Mem → Prop) (fuel : Nat) (b : List Int) (t : List Int) : callsx Try.prog gamB1 [] Try.f31 (fuel + 1) [.agg [.ints .u8 16 b], .one (.clo 38 200001 0 0)] [(200001, .view [.ints .u8 256 t])] R = ((eachT.l0 R t fuel 0 b)) := by kernel_rfl

def bturned.l1 (R : AV → Mem → Prop) (n : Int) (x0 : Int) (b : List Int) (fuel : Nat) (x2 : Int) (x3 : List Int) : Prop := run Try.prog gam0 [] (resh Try.prog [] Try.f30.results.toList R) fuel [.code (cAt (bodyOf Try.f30) [1, 1, 0, 1, 0, 0, 1, 1, 0, 0, 1, 1, 0, 0]), .inLoop (cAt (bodyOf Try.f30) [1, 1, 0, 1, 0, 0, 1, 1, 0, 0, 1, 1, 0, 0]), .inBlock 2, .inBlock 1, .code (cAt (bodyOf Try.f30) [1, 1, 0, 1, 0, 0, 1, 1, 1]), .inLoop (cAt (bodyOf Try.f30) [1, 1, 0, 1, 0, 0]), .inBlock 0, .code (cAt (bodyOf Try.f30) [1, 1, 1])] [AV.undef, (AV.one (AC.int IntKind.i64 n)), (AV.one (AC.ptr 2 0 0)), AV.undef, (AV.one (AC.ptr 4 0 0)), (AV.one (AC.ptr 5 0 0)), (AV.one (AC.int IntKind.i64 x0)), AV.undef, (AV.one (AC.int IntKind.i64 x0)), (AV.one (AC.lit true)), (AV.one (AC.int IntKind.i64 x0)), (AV.one (AC.int IntKind.i64 x2)), AV.undef, AV.undef, AV.undef, AV.undef, AV.undef, AV.undef, AV.undef, AV.undef, AV.undef, AV.undef, AV.undef, AV.undef, AV.undef, AV.undef, AV.undef, AV.undef, AV.undef, AV.undef, AV.undef, AV.undef, (AV.tup [])] [(2, Blk.own 25 [(Seg.ints IntKind.u8 16 b)]), (4, Blk.own 25 [(Seg.ints IntKind.u8 16 (lzeros 16))]), (5, Blk.own 25 [(Seg.ints IntKind.u8 16 x3)])]

def bturned.l0 (R : AV → Mem → Prop) (n : Int) (b : List Int) (fuel : Nat) (x0 : Int) (x1 : List Int) : Prop := run Try.prog gam0 [] (resh Try.prog [] Try.f30.results.toList R) fuel [.code (cAt (bodyOf Try.f30) [1, 1, 0, 1, 0, 0]), .inLoop (cAt (bodyOf Try.f30) [1, 1, 0, 1, 0, 0]), .inBlock 0, .code (cAt (bodyOf Try.f30) [1, 1, 1])] [AV.undef, (AV.one (AC.int IntKind.i64 n)), (AV.one (AC.ptr 2 0 0)), AV.undef, (AV.one (AC.ptr 4 0 0)), (AV.one (AC.ptr 5 0 0)), AV.undef, AV.undef, (AV.one (AC.int IntKind.i64 x0)), AV.undef, AV.undef, AV.undef, AV.undef, AV.undef, AV.undef, AV.undef, AV.undef, AV.undef, AV.undef, AV.undef, AV.undef, AV.undef, AV.undef, AV.undef, AV.undef, AV.undef, AV.undef, AV.undef, AV.undef, AV.undef, AV.undef, AV.undef, (AV.tup [])] [(2, Blk.own 25 [(Seg.ints IntKind.u8 16 b)]), (4, Blk.own 25 [(Seg.ints IntKind.u8 16 (lzeros 16))]), (5, Blk.own 25 [(Seg.ints IntKind.u8 16 x1)])]

theorem bturned.l1_succ (R : AV → Mem → Prop) (n : Int) (x0 : Int) (b : List Int) (fuel : Nat) (x2 : Int) (x3 : List Int) : bturned.l1 R n x0 b (fuel + 1) x2 x3 = (((((ilt x2 4) = true) → ((NeZ 4) ∧ ((InB (add IntKind.i64 (mul IntKind.i64 4 (rem (add IntKind.i64 x2 (mul IntKind.i64 x0 n)) 4)) x0) 16) ∧ ((Low (nadd 0 (nat (add IntKind.i64 (mul IntKind.i64 4 (rem (add IntKind.i64 x2 (mul IntKind.i64 x0 n)) 4)) x0))) 16) ∧ ((InB (add IntKind.i64 (mul IntKind.i64 4 x2) x0) 16) ∧ ((Low (nadd 0 (nat (add IntKind.i64 (mul IntKind.i64 4 x2) x0))) 16) ∧ (bturned.l1 R n x0 b fuel (add IntKind.i64 x2 1) (lset x3 (nadd 0 (nat (add IntKind.i64 (mul IntKind.i64 4 x2) x0))) (lget b (nadd 0 (nat (add IntKind.i64 (mul IntKind.i64 4 (rem (add IntKind.i64 x2 (mul IntKind.i64 x0 n)) 4)) x0)))))))))))) ∧ (((ilt x2 4) = false) → (bturned.l0 R n b fuel (add IntKind.i64 x0 1) x3)))) := by kernel_rfl
theorem bturned.l1_zero (R : AV → Mem → Prop) (n : Int) (x0 : Int) (b : List Int) (x2 : Int) (x3 : List Int) : bturned.l1 R n x0 b 0 x2 x3 = False := by kernel_rfl

theorem bturned.l0_succ (R : AV → Mem → Prop) (n : Int) (b : List Int) (fuel : Nat) (x0 : Int) (x1 : List Int) : bturned.l0 R n b (fuel + 1) x0 x1 = (((((ilt x0 4) = true) → (bturned.l1 R n x0 b fuel 0 x1)) ∧ (((ilt x0 4) = false) → (R (AV.agg [(Seg.ints IntKind.u8 16 x1)]) [(2, Blk.own 25 [(Seg.ints IntKind.u8 16 b)]), (4, Blk.own 25 [(Seg.ints IntKind.u8 16 x1)]), (5, Blk.own 25 [(Seg.ints IntKind.u8 16 x1)])])))) := by kernel_rfl
theorem bturned.l0_zero (R : AV → Mem → Prop) (n : Int) (b : List Int) (x0 : Int) (x1 : List Int) : bturned.l0 R n b 0 x0 x1 = False := by kernel_rfl

theorem bturned_vc (R : AV → Mem → Prop) (fuel : Nat) (b : List Int) (n : Int) : callsx Try.prog gam0 [] Try.f30 (fuel + 1) [.agg [.ints .u8 16 b], .one (.int .i64 n)] [] R = ((bturned.l0 R n b fuel 0 (lzeros 16))) := by kernel_rfl

def colsC.l0 (R : AV → Mem → Prop)  (fuel : Nat) (x0 : Int) (x1 : List Int) : Prop := run Try.prog gam6 [] (resh Try.prog [] Try.f33.results.toList R) fuel [.code (cAt (bodyOf Try.f33) [1, 0, 1, 0, 0]), .inLoop (cAt (bodyOf Try.f33) [1, 0, 1, 0, 0]), .inBlock 0, .code (cAt (bodyOf Try.f33) [1, 1])] [AV.undef, (AV.one (AC.con (Value.func (Fn.func 43) (List.toArray []) (List.toArray [])))), (AV.one (AC.ptr 2 0 0)), AV.undef, (AV.one (AC.ptr 4 0 0)), (AV.one (AC.int IntKind.i64 x0)), AV.undef, AV.undef, AV.undef, AV.undef, AV.undef, AV.undef, AV.undef, AV.undef, AV.undef, AV.undef, AV.undef, AV.undef, AV.undef, AV.undef, AV.undef, AV.undef, AV.undef, (AV.tup [])] [(2, Blk.own 25 [(Seg.ints IntKind.u8 16 x1)]), (4, Blk.own 25 [(Seg.ints IntKind.u8 16 (lzeros 16))])]

theorem colsC.l0_succ (R : AV → Mem → Prop)  (fuel : Nat) (x0 : Int) (x1 : List Int) : colsC.l0 R  (fuel + 1) x0 x1 = (((((ilt x0 16) = true) → ((((NonNeg (add IntKind.i64 x0 4)) ∧ (Fits (nat (add IntKind.i64 x0 4)) 16)) ∧ ((NonNeg x0) ∧ (Fits (nat x0) (nat (add IntKind.i64 x0 4))))) ∧ ((Fits 4 (nsub (nat (add IntKind.i64 x0 4)) (nat x0))) ∧ ((Fits (nadd (nadd 0 (nat x0)) 4) 16) ∧ ((FCol (lsub x1 (nadd 0 (nat x0)) 4)) ∧ (((NonNeg x0) ∧ (Fits (nat x0) 16)) ∧ ((Fits 4 4) ∧ ((Fits (nadd (nadd 0 (nat x0)) (nsub 16 (nat x0))) 16) ∧ (colsC.l0 R  fuel (add IntKind.i64 x0 4) (lput x1 (nadd 0 (nat x0)) (lsub (lsub (fmix (lsub x1 (nadd 0 (nat x0)) 4) [2, 3, 1, 1]) 0 4) 0 (nmin (llen (lsub (fmix (lsub x1 (nadd 0 (nat x0)) 4) [2, 3, 1, 1]) 0 4)) (nsub 16 (nat x0)))))))))))))) ∧ (((ilt x0 16) = false) → (R (AV.agg [(Seg.ints IntKind.u8 16 x1)]) [(2, Blk.own 25 [(Seg.ints IntKind.u8 16 x1)]), (4, Blk.own 25 [(Seg.ints IntKind.u8 16 x1)])])))) := by kernel_rfl
theorem colsC.l0_zero (R : AV → Mem → Prop)  (x0 : Int) (x1 : List Int) : colsC.l0 R  0 x0 x1 = False := by kernel_rfl

theorem colsC_vc (R : AV → Mem → Prop) (fuel : Nat) (b : List Int) : callsx Try.prog gam6 [] Try.f33 (fuel + 1) [.agg [.ints .u8 16 b], .one (.con (.func (.func 43) #[] #[]))] [] R = ((colsC.l0 R  fuel 0 b)) := by kernel_rfl

def colsU.l0 (R : AV → Mem → Prop)  (fuel : Nat) (x0 : Int) (x1 : List Int) : Prop := run Try.prog gam6 [] (resh Try.prog [] Try.f33.results.toList R) fuel [.code (cAt (bodyOf Try.f33) [1, 0, 1, 0, 0]), .inLoop (cAt (bodyOf Try.f33) [1, 0, 1, 0, 0]), .inBlock 0, .code (cAt (bodyOf Try.f33) [1, 1])] [AV.undef, (AV.one (AC.con (Value.func (Fn.func 34) (List.toArray []) (List.toArray [])))), (AV.one (AC.ptr 2 0 0)), AV.undef, (AV.one (AC.ptr 4 0 0)), (AV.one (AC.int IntKind.i64 x0)), AV.undef, AV.undef, AV.undef, AV.undef, AV.undef, AV.undef, AV.undef, AV.undef, AV.undef, AV.undef, AV.undef, AV.undef, AV.undef, AV.undef, AV.undef, AV.undef, AV.undef, (AV.tup [])] [(2, Blk.own 25 [(Seg.ints IntKind.u8 16 x1)]), (4, Blk.own 25 [(Seg.ints IntKind.u8 16 (lzeros 16))])]

theorem colsU.l0_succ (R : AV → Mem → Prop)  (fuel : Nat) (x0 : Int) (x1 : List Int) : colsU.l0 R  (fuel + 1) x0 x1 = (((((ilt x0 16) = true) → ((((NonNeg (add IntKind.i64 x0 4)) ∧ (Fits (nat (add IntKind.i64 x0 4)) 16)) ∧ ((NonNeg x0) ∧ (Fits (nat x0) (nat (add IntKind.i64 x0 4))))) ∧ ((Fits 4 (nsub (nat (add IntKind.i64 x0 4)) (nat x0))) ∧ ((Fits (nadd (nadd 0 (nat x0)) 4) 16) ∧ ((FCol (lsub x1 (nadd 0 (nat x0)) 4)) ∧ (((NonNeg x0) ∧ (Fits (nat x0) 16)) ∧ ((Fits 4 4) ∧ ((Fits (nadd (nadd 0 (nat x0)) (nsub 16 (nat x0))) 16) ∧ (colsU.l0 R  fuel (add IntKind.i64 x0 4) (lput x1 (nadd 0 (nat x0)) (lsub (lsub (fmix (lsub x1 (nadd 0 (nat x0)) 4) [14, 11, 13, 9]) 0 4) 0 (nmin (llen (lsub (fmix (lsub x1 (nadd 0 (nat x0)) 4) [14, 11, 13, 9]) 0 4)) (nsub 16 (nat x0)))))))))))))) ∧ (((ilt x0 16) = false) → (R (AV.agg [(Seg.ints IntKind.u8 16 x1)]) [(2, Blk.own 25 [(Seg.ints IntKind.u8 16 x1)]), (4, Blk.own 25 [(Seg.ints IntKind.u8 16 x1)])])))) := by kernel_rfl
theorem colsU.l0_zero (R : AV → Mem → Prop)  (x0 : Int) (x1 : List Int) : colsU.l0 R  0 x0 x1 = False := by kernel_rfl

theorem colsU_vc (R : AV → Mem → Prop) (fuel : Nat) (b : List Int) : callsx Try.prog gam6 [] Try.f33 (fuel + 1) [.agg [.ints .u8 16 b], .one (.con (.func (.func 34) #[] #[]))] [] R = ((colsU.l0 R  fuel 0 b)) := by kernel_rfl

def bNew.l2 (R : AV → Mem → Prop) (x2 : Int) (x3 : Int) (x4 : List Int) (fuel : Nat) (x5 : Int) (x6 : List Int) : Prop := run Try.prog gam6 [] (resh Try.prog [] Try.f10.results.toList R) fuel [.code (cAt (bodyOf Try.f10) [1, 1, 1, 1, 0, 1, 0, 0, 1, 0, 0, 1, 1, 1, 0, 0]), .inLoop (cAt (bodyOf Try.f10) [1, 1, 1, 1, 0, 1, 0, 0, 1, 0, 0, 1, 1, 1, 0, 0]), .inBlock 4, .inBlock 3, .code (cAt (bodyOf Try.f10) [1, 1, 1, 1, 0, 1, 0, 0, 1, 1]), .inLoop (cAt (bodyOf Try.f10) [1, 1, 1, 1, 0, 1, 0, 0]), .inBlock 2, .code (cAt (bodyOf Try.f10) [1, 1, 1, 1, 1])] [AV.undef, AV.undef, (AV.one (AC.ptr 2 0 0)), (AV.one (AC.ptr 3 0 0)), AV.undef, (AV.one (AC.int IntKind.u8 (fmul 2 x2))), (AV.one (AC.int IntKind.i64 x3)), (AV.one (AC.ptr 7 0 0)), AV.undef, (AV.tup []), (AV.tup []), (AV.tup []), AV.undef, AV.undef, AV.undef, AV.undef, AV.undef, AV.undef, AV.undef, AV.undef, AV.undef, AV.undef, AV.undef, (AV.one (AC.int IntKind.i64 x3)), (AV.one (AC.lit true)), AV.undef, AV.undef, (AV.one (AC.int IntKind.i64 x3)), (AV.one (AC.int IntKind.i64 (sub IntKind.i64 x3 1))), (AV.one (AC.ptr 3 0 (nadd 0 (nmul (nat (sub IntKind.i64 x3 1)) 4)))), (AV.agg [(Seg.ints IntKind.u8 4 (lsub x4 (nadd 0 (nmul (nat (sub IntKind.i64 x3 1)) 4)) 4))]), (AV.one (AC.int IntKind.i64 x3)), (AV.one (AC.int IntKind.i64 (rem x3 4))), (AV.one (AC.lit true)), (AV.one (AC.ptr 7 0 1)), (AV.one (AC.int IntKind.u8 (lget (lsub x4 (nadd 0 (nmul (nat (sub IntKind.i64 x3 1)) 4)) 4) 1))), (AV.one (AC.int IntKind.u8 (fsub (lget (lsub x4 (nadd 0 (nmul (nat (sub IntKind.i64 x3 1)) 4)) 4) 1)))), (AV.one (AC.int IntKind.u8 x2)), (AV.one (AC.int IntKind.u8 (bxor IntKind.u8 (fsub (lget (lsub x4 (nadd 0 (nmul (nat (sub IntKind.i64 x3 1)) 4)) 4) 1)) x2))), (AV.one (AC.ptr 7 0 2)), (AV.one (AC.int IntKind.u8 (lget (lsub x4 (nadd 0 (nmul (nat (sub IntKind.i64 x3 1)) 4)) 4) 2))), (AV.one (AC.int IntKind.u8 (fsub (lget (lsub x4 (nadd 0 (nmul (nat (sub IntKind.i64 x3 1)) 4)) 4) 2)))), (AV.one (AC.ptr 7 0 3)), (AV.one (AC.int IntKind.u8 (lget (lsub x4 (nadd 0 (nmul (nat (sub IntKind.i64 x3 1)) 4)) 4) 3))), (AV.one (AC.int IntKind.u8 (fsub (lget (lsub x4 (nadd 0 (nmul (nat (sub IntKind.i64 x3 1)) 4)) 4) 3)))), (AV.one (AC.ptr 7 0 0)), (AV.one (AC.int IntKind.u8 (lget (lsub x4 (nadd 0 (nmul (nat (sub IntKind.i64 x3 1)) 4)) 4) 0))), (AV.one (AC.int IntKind.u8 (fsub (lget (lsub x4 (nadd 0 (nmul (nat (sub IntKind.i64 x3 1)) 4)) 4) 0)))), (AV.agg [(Seg.ints IntKind.u8 4 (lset (lset (lset (lset (lzeros 4) 0 (bxor IntKind.u8 (fsub (lget (lsub x4 (nadd 0 (nmul (nat (sub IntKind.i64 x3 1)) 4)) 4) 1)) x2)) 1 (fsub (lget (lsub x4 (nadd 0 (nmul (nat (sub IntKind.i64 x3 1)) 4)) 4) 2))) 2 (fsub (lget (lsub x4 (nadd 0 (nmul (nat (sub IntKind.i64 x3 1)) 4)) 4) 3))) 3 (fsub (lget (lsub x4 (nadd 0 (nmul (nat (sub IntKind.i64 x3 1)) 4)) 4) 0))))]), (AV.one (AC.int IntKind.u8 x2)), (AV.one (AC.int IntKind.u8 (fmul 2 x2))), (AV.one (AC.int IntKind.i64 x5)), AV.undef, AV.undef, AV.undef, AV.undef, AV.undef, AV.undef, AV.undef, AV.undef, AV.undef, AV.undef, AV.undef, AV.undef, AV.undef, AV.undef, AV.undef, AV.undef, AV.undef, (AV.tup []), (AV.tup []), (AV.tup []), (AV.tup []), (AV.tup []), (AV.tup []), (AV.tup []), (AV.tup []), (AV.tup []), (AV.tup []), (AV.tup []), (AV.tup []), (AV.tup []), (AV.tup []), AV.undef, (AV.tup []), (AV.tup [])] [(2, Blk.own 28 [(Seg.ints IntKind.u8 176 (lzeros 176))]), (3, Blk.own 50 [(Seg.ints IntKind.u8 176 x6)]), (7, Blk.own 49 [(Seg.ints IntKind.u8 4 (lset (lset (lset (lset (lzeros 4) 0 (bxor IntKind.u8 (fsub (lget (lsub x4 (nadd 0 (nmul (nat (sub IntKind.i64 x3 1)) 4)) 4) 1)) x2)) 1 (fsub (lget (lsub x4 (nadd 0 (nmul (nat (sub IntKind.i64 x3 1)) 4)) 4) 2))) 2 (fsub (lget (lsub x4 (nadd 0 (nmul (nat (sub IntKind.i64 x3 1)) 4)) 4) 3))) 3 (fsub (lget (lsub x4 (nadd 0 (nmul (nat (sub IntKind.i64 x3 1)) 4)) 4) 0))))])]

def bNew.l3 (R : AV → Mem → Prop) (x2 : Int) (x3 : Int) (x4 : List Int) (fuel : Nat) (x7 : Int) (x8 : List Int) : Prop := run Try.prog gam6 [] (resh Try.prog [] Try.f10.results.toList R) fuel [.code (cAt (bodyOf Try.f10) [1, 1, 1, 1, 0, 1, 0, 0, 1, 0, 0, 1, 1, 1, 0, 0]), .inLoop (cAt (bodyOf Try.f10) [1, 1, 1, 1, 0, 1, 0, 0, 1, 0, 0, 1, 1, 1, 0, 0]), .inBlock 4, .inBlock 3, .code (cAt (bodyOf Try.f10) [1, 1, 1, 1, 0, 1, 0, 0, 1, 1]), .inLoop (cAt (bodyOf Try.f10) [1, 1, 1, 1, 0, 1, 0, 0]), .inBlock 2, .code (cAt (bodyOf Try.f10) [1, 1, 1, 1, 1])] [AV.undef, AV.undef, (AV.one (AC.ptr 2 0 0)), (AV.one (AC.ptr 3 0 0)), AV.undef, (AV.one (AC.int IntKind.u8 x2)), (AV.one (AC.int IntKind.i64 x3)), (AV.one (AC.ptr 7 0 0)), AV.undef, (AV.tup []), (AV.tup []), (AV.tup []), AV.undef, AV.undef, AV.undef, AV.undef, AV.undef, AV.undef, AV.undef, AV.undef, AV.undef, AV.undef, AV.undef, (AV.one (AC.int IntKind.i64 x3)), (AV.one (AC.lit true)), AV.undef, AV.undef, (AV.one (AC.int IntKind.i64 x3)), (AV.one (AC.int IntKind.i64 (sub IntKind.i64 x3 1))), (AV.one (AC.ptr 3 0 (nadd 0 (nmul (nat (sub IntKind.i64 x3 1)) 4)))), (AV.agg [(Seg.ints IntKind.u8 4 (lsub x4 (nadd 0 (nmul (nat (sub IntKind.i64 x3 1)) 4)) 4))]), (AV.one (AC.int IntKind.i64 x3)), (AV.one (AC.int IntKind.i64 (rem x3 4))), (AV.one (AC.lit false)), AV.undef, AV.undef, AV.undef, AV.undef, AV.undef, AV.undef, AV.undef, AV.undef, AV.undef, AV.undef, AV.undef, AV.undef, AV.undef, AV.undef, AV.undef, AV.undef, AV.undef, (AV.one (AC.int IntKind.i64 x7)), AV.undef, AV.undef, AV.undef, AV.undef, AV.undef, AV.undef, AV.undef, AV.undef, AV.undef, AV.undef, AV.undef, AV.undef, AV.undef, AV.undef, AV.undef, AV.undef, AV.undef, (AV.tup []), (AV.tup []), (AV.tup []), (AV.tup []), (AV.tup []), (AV.tup []), (AV.tup []), (AV.tup []), (AV.tup []), (AV.tup []), (AV.tup []), (AV.tup []), (AV.tup []), (AV.tup []), AV.undef, (AV.tup []), (AV.tup [])] [(2, Blk.own 28 [(Seg.ints IntKind.u8 176 (lzeros 176))]), (3, Blk.own 50 [(Seg.ints IntKind.u8 176 x8)]), (7, Blk.own 49 [(Seg.ints IntKind.u8 4 (lsub x4 (nadd 0 (nmul (nat (sub IntKind.i64 x3 1)) 4)) 4))])]

def bNew.l4 (R : AV → Mem → Prop) (x4 : List Int) (fuel : Nat) (x9 : Int) (x10 : List Int) : Prop := run Try.prog gam6 [] (resh Try.prog [] Try.f10.results.toList R) fuel [.code (cAt (bodyOf Try.f10) [1, 1, 1, 1, 1, 1, 0, 1, 0, 0]), .inLoop (cAt (bodyOf Try.f10) [1, 1, 1, 1, 1, 1, 0, 1, 0, 0]), .inBlock 6, .code (cAt (bodyOf Try.f10) [1, 1, 1, 1, 1, 1, 1])] [AV.undef, AV.undef, (AV.one (AC.ptr 2 0 0)), AV.undef, AV.undef, AV.undef, AV.undef, AV.undef, AV.undef, (AV.one (AC.ptr 9 0 0)), AV.undef, AV.undef, AV.undef, AV.undef, AV.undef, AV.undef, AV.undef, AV.undef, AV.undef, AV.undef, AV.undef, AV.undef, AV.undef, AV.undef, AV.undef, AV.undef, AV.undef, AV.undef, AV.undef, AV.undef, AV.undef, AV.undef, AV.undef, AV.undef, AV.undef, AV.undef, AV.undef, AV.undef, AV.undef, AV.undef, AV.undef, AV.undef, AV.undef, AV.undef, AV.undef, AV.undef, AV.undef, AV.undef, AV.undef, AV.undef, AV.undef, AV.undef, AV.undef, AV.undef, AV.undef, AV.undef, AV.undef, AV.undef, AV.undef, AV.undef, AV.undef, AV.undef, AV.undef, AV.undef, AV.undef, AV.undef, AV.undef, AV.undef, AV.undef, (AV.agg [(Seg.ints IntKind.u8 176 x4)]), (AV.one (AC.int IntKind.i64 x9)), AV.undef, AV.undef, AV.undef, AV.undef, AV.undef, AV.undef, AV.undef, AV.undef, AV.undef, AV.undef, AV.undef, AV.undef, AV.undef, AV.undef, (AV.tup [])] [(2, Blk.own 28 [(Seg.ints IntKind.u8 176 (lzeros 176))]), (9, Blk.own 28 [(Seg.ints IntKind.u8 176 x10)])]

def bNew.l1 (R : AV → Mem → Prop)  (fuel : Nat) (x2 : Int) (x3 : Int) (x4 : List Int) : Prop := run Try.prog gam6 [] (resh Try.prog [] Try.f10.results.toList R) fuel [.code (cAt (bodyOf Try.f10) [1, 1, 1, 1, 0, 1, 0, 0]), .inLoop (cAt (bodyOf Try.f10) [1, 1, 1, 1, 0, 1, 0, 0]), .inBlock 2, .code (cAt (bodyOf Try.f10) [1, 1, 1, 1, 1])] [AV.undef, AV.undef, (AV.one (AC.ptr 2 0 0)), (AV.one (AC.ptr 3 0 0)), AV.undef, (AV.one (AC.int IntKind.u8 x2)), (AV.one (AC.int IntKind.i64 x3)), AV.undef, AV.undef, (AV.tup []), (AV.tup []), (AV.tup []), AV.undef, AV.undef, AV.undef, AV.undef, AV.undef, AV.undef, AV.undef, AV.undef, AV.undef, AV.undef, AV.undef, AV.undef, AV.undef, AV.undef, AV.undef, AV.undef, AV.undef, AV.undef, AV.undef, AV.undef, AV.undef, AV.undef, AV.undef, AV.undef, AV.undef, AV.undef, AV.undef, AV.undef, AV.undef, AV.undef, AV.undef, AV.undef, AV.undef, AV.undef, AV.undef, AV.undef, AV.undef, AV.undef, AV.undef, AV.undef, AV.undef, AV.undef, AV.undef, AV.undef, AV.undef, AV.undef, AV.undef, AV.undef, AV.undef, AV.undef, AV.undef, AV.undef, AV.undef, AV.undef, AV.undef, AV.undef, AV.undef, (AV.tup []), (AV.tup []), (AV.tup []), (AV.tup []), (AV.tup []), (AV.tup []), (AV.tup []), (AV.tup []), (AV.tup []), (AV.tup []), (AV.tup []), (AV.tup []), (AV.tup []), (AV.tup []), AV.undef, (AV.tup []), (AV.tup [])] [(2, Blk.own 28 [(Seg.ints IntKind.u8 176 (lzeros 176))]), (3, Blk.own 50 [(Seg.ints IntKind.u8 176 x4)])]

def bNew.l0 (R : AV → Mem → Prop) (b : List Int) (fuel : Nat) (x0 : Int) (x1 : List Int) : Prop := run Try.prog gam6 [] (resh Try.prog [] Try.f10.results.toList R) fuel [.code (cAt (bodyOf Try.f10) [1, 1, 0, 1, 0, 0]), .inLoop (cAt (bodyOf Try.f10) [1, 1, 0, 1, 0, 0]), .inBlock 0, .code (cAt (bodyOf Try.f10) [1, 1, 1])] [AV.undef, (AV.one (AC.ptr 1 0 0)), (AV.one (AC.ptr 2 0 0)), (AV.one (AC.ptr 3 0 0)), AV.undef, (AV.tup []), (AV.tup []), (AV.tup []), (AV.tup []), (AV.tup []), (AV.tup []), (AV.tup []), (AV.one (AC.int IntKind.i64 x0)), AV.undef, AV.undef, AV.undef, AV.undef, AV.undef, AV.undef, AV.undef, AV.undef, AV.undef, AV.undef, (AV.tup []), (AV.tup []), (AV.tup []), (AV.tup []), (AV.tup []), (AV.tup []), (AV.tup []), (AV.tup []), (AV.tup []), (AV.tup []), (AV.tup []), (AV.tup []), (AV.tup []), (AV.tup []), (AV.tup []), (AV.tup []), (AV.tup []), (AV.tup []), (AV.tup []), (AV.tup []), (AV.tup []), (AV.tup []), (AV.tup []), (AV.tup []), (AV.tup []), (AV.tup []), (AV.tup []), (AV.tup []), (AV.tup []), (AV.tup []), (AV.tup []), (AV.tup []), (AV.tup []), (AV.tup []), (AV.tup []), (AV.tup []), (AV.tup []), (AV.tup []), (AV.tup []), (AV.tup []), (AV.tup []), (AV.tup []), (AV.tup []), (AV.tup []), (AV.tup []), (AV.tup []), (AV.tup []), (AV.tup []), (AV.tup []), (AV.tup []), (AV.tup []), (AV.tup []), (AV.tup []), (AV.tup []), (AV.tup []), (AV.tup []), (AV.tup []), (AV.tup []), (AV.tup []), (AV.tup []), AV.undef, (AV.tup []), (AV.tup [])] [(1, Blk.own 22 [(Seg.ints IntKind.u8 16 b)]), (2, Blk.own 28 [(Seg.ints IntKind.u8 176 (lzeros 176))]), (3, Blk.own 50 [(Seg.ints IntKind.u8 176 x1)])]

theorem bNew.l2_succ (R : AV → Mem → Prop) (x2 : Int) (x3 : Int) (x4 : List Int) (fuel : Nat) (x5 : Int) (x6 : List Int) : bNew.l2 R x2 x3 x4 (fuel + 1) x5 x6 = (((((ilt x5 4) = true) → ((InB (sub IntKind.i64 x3 4) 44) ∧ ((InB x5 4) ∧ ((Low (nadd (nadd 0 (nmul (nat (sub IntKind.i64 x3 4)) 4)) (nat x5)) 176) ∧ ((InB x5 4) ∧ ((Low (nadd 0 (nat x5)) 4) ∧ ((InB x3 44) ∧ ((InB x5 4) ∧ ((Low (nadd (nadd 0 (nmul (nat x3) 4)) (nat x5)) 176) ∧ (bNew.l2 R x2 x3 x4 fuel (add IntKind.i64 x5 1) (lset x6 (nadd (nadd 0 (nmul (nat x3) 4)) (nat x5)) (bxor IntKind.u8 (lget x6 (nadd (nadd 0 (nmul (nat (sub IntKind.i64 x3 4)) 4)) (nat x5))) (lget (lset (lset (lset (lset (lzeros 4) 0 (bxor IntKind.u8 (fsub (lget (lsub x4 (nadd 0 (nmul (nat (sub IntKind.i64 x3 1)) 4)) 4) 1)) x2)) 1 (fsub (lget (lsub x4 (nadd 0 (nmul (nat (sub IntKind.i64 x3 1)) 4)) 4) 2))) 2 (fsub (lget (lsub x4 (nadd 0 (nmul (nat (sub IntKind.i64 x3 1)) 4)) 4) 3))) 3 (fsub (lget (lsub x4 (nadd 0 (nmul (nat (sub IntKind.i64 x3 1)) 4)) 4) 0))) (nadd 0 (nat x5))))))))))))))) ∧ (((ilt x5 4) = false) → (bNew.l1 R  fuel (fmul 2 x2) (add IntKind.i64 x3 1) x6)))) := by kernel_rfl
theorem bNew.l2_zero (R : AV → Mem → Prop) (x2 : Int) (x3 : Int) (x4 : List Int) (x5 : Int) (x6 : List Int) : bNew.l2 R x2 x3 x4 0 x5 x6 = False := by kernel_rfl

theorem bNew.l3_succ (R : AV → Mem → Prop) (x2 : Int) (x3 : Int) (x4 : List Int) (fuel : Nat) (x7 : Int) (x8 : List Int) : bNew.l3 R x2 x3 x4 (fuel + 1) x7 x8 = (((((ilt x7 4) = true) → ((InB (sub IntKind.i64 x3 4) 44) ∧ ((InB x7 4) ∧ ((Low (nadd (nadd 0 (nmul (nat (sub IntKind.i64 x3 4)) 4)) (nat x7)) 176) ∧ ((InB x7 4) ∧ ((Low (nadd 0 (nat x7)) 4) ∧ ((InB x3 44) ∧ ((InB x7 4) ∧ ((Low (nadd (nadd 0 (nmul (nat x3) 4)) (nat x7)) 176) ∧ (bNew.l3 R x2 x3 x4 fuel (add IntKind.i64 x7 1) (lset x8 (nadd (nadd 0 (nmul (nat x3) 4)) (nat x7)) (bxor IntKind.u8 (lget x8 (nadd (nadd 0 (nmul (nat (sub IntKind.i64 x3 4)) 4)) (nat x7))) (lget (lsub x4 (nadd 0 (nmul (nat (sub IntKind.i64 x3 1)) 4)) 4) (nadd 0 (nat x7))))))))))))))) ∧ (((ilt x7 4) = false) → (bNew.l1 R  fuel x2 (add IntKind.i64 x3 1) x8)))) := by kernel_rfl
theorem bNew.l3_zero (R : AV → Mem → Prop) (x2 : Int) (x3 : Int) (x4 : List Int) (x7 : Int) (x8 : List Int) : bNew.l3 R x2 x3 x4 0 x7 x8 = False := by kernel_rfl

theorem bNew.l4_succ (R : AV → Mem → Prop) (x4 : List Int) (fuel : Nat) (x9 : Int) (x10 : List Int) : bNew.l4 R x4 (fuel + 1) x9 x10 = (((((ilt x9 44) = true) → ((InB x9 44) ∧ ((NeZ 4) ∧ ((InB (quo IntKind.i64 x9 4) 11) ∧ ((NeZ 4) ∧ (((NonNeg (mul IntKind.i64 (rem x9 4) 4)) ∧ (Fits (nat (mul IntKind.i64 (rem x9 4) 4)) 16)) ∧ ((Fits 4 4) ∧ ((Fits (nadd (nadd (nadd 0 (nmul (nat (quo IntKind.i64 x9 4)) 16)) (nat (mul IntKind.i64 (rem x9 4) 4))) (nsub 16 (nat (mul IntKind.i64 (rem x9 4) 4)))) 176) ∧ (bNew.l4 R x4 fuel (add IntKind.i64 x9 1) (lput x10 (nadd (nadd 0 (nmul (nat (quo IntKind.i64 x9 4)) 16)) (nat (mul IntKind.i64 (rem x9 4) 4))) (lsub (lsub (lsub x4 (nmul (nat x9) 4) 4) 0 4) 0 (nmin (llen (lsub (lsub x4 (nmul (nat x9) 4) 4) 0 4)) (nsub 16 (nat (mul IntKind.i64 (rem x9 4) 4))))))))))))))) ∧ (((ilt x9 44) = false) → (R (AV.agg [(Seg.ints IntKind.u8 176 x10)]) [(2, Blk.own 28 [(Seg.ints IntKind.u8 176 x10)]), (9, Blk.own 28 [(Seg.ints IntKind.u8 176 x10)])])))) := by kernel_rfl
theorem bNew.l4_zero (R : AV → Mem → Prop) (x4 : List Int) (x9 : Int) (x10 : List Int) : bNew.l4 R x4 0 x9 x10 = False := by kernel_rfl

theorem bNew.l1_succ (R : AV → Mem → Prop)  (fuel : Nat) (x2 : Int) (x3 : Int) (x4 : List Int) : bNew.l1 R  (fuel + 1) x2 x3 x4 = (((((ilt x3 44) = true) → ((InB (sub IntKind.i64 x3 1) 44) ∧ ((Fits (nadd (nadd 0 (nmul (nat (sub IntKind.i64 x3 1)) 4)) 4) 176) ∧ ((NeZ 4) ∧ ((((ieq (rem x3 4) 0) = true) → ((InB 1 4) ∧ ((Low 1 4) ∧ ((InB 2 4) ∧ ((Low 2 4) ∧ ((InB 3 4) ∧ ((Low 3 4) ∧ ((InB 0 4) ∧ ((Low 0 4) ∧ ((Byte (lget (lsub x4 (nadd 0 (nmul (nat (sub IntKind.i64 x3 1)) 4)) 4) 1)) ∧ ((Byte (lget (lsub x4 (nadd 0 (nmul (nat (sub IntKind.i64 x3 1)) 4)) 4) 2)) ∧ ((Byte (lget (lsub x4 (nadd 0 (nmul (nat (sub IntKind.i64 x3 1)) 4)) 4) 3)) ∧ ((Byte (lget (lsub x4 (nadd 0 (nmul (nat (sub IntKind.i64 x3 1)) 4)) 4) 0)) ∧ ((Low 0 4) ∧ ((Low 1 4) ∧ ((Low 2 4) ∧ ((Low 3 4) ∧ (((Byte 2) ∧ (Byte x2)) ∧ (bNew.l2 R x2 x3 x4 fuel 0 x4))))))))))))))))))) ∧ (((ieq (rem x3 4) 0) = false) → (bNew.l3 R x2 x3 x4 fuel 0 x4))))))) ∧ (((ilt x3 44) = false) → (bNew.l4 R x4 fuel 0 (lzeros 176))))) := by kernel_rfl
theorem bNew.l1_zero (R : AV → Mem → Prop)  (x2 : Int) (x3 : Int) (x4 : List Int) : bNew.l1 R  0 x2 x3 x4 = False := by kernel_rfl

theorem bNew.l0_succ (R : AV → Mem → Prop) (b : List Int) (fuel : Nat) (x0 : Int) (x1 : List Int) : bNew.l0 R b (fuel + 1) x0 x1 = (((((ilt x0 4) = true) → ((InB x0 44) ∧ (((NonNeg (mul IntKind.i64 4 x0)) ∧ (Fits (nat (mul IntKind.i64 4 x0)) 16)) ∧ ((Fits (nadd (nadd 0 (nat (mul IntKind.i64 4 x0))) (nsub 16 (nat (mul IntKind.i64 4 x0)))) 16) ∧ ((Fits (nadd (nadd 0 (nmul (nat x0) 4)) 4) 176) ∧ (bNew.l0 R b fuel (add IntKind.i64 x0 1) (lput x1 (nadd 0 (nmul (nat x0) 4)) (lsub (lsub b (nadd 0 (nat (mul IntKind.i64 4 x0))) (nsub 16 (nat (mul IntKind.i64 4 x0)))) 0 (nmin (llen (lsub b (nadd 0 (nat (mul IntKind.i64 4 x0))) (nsub 16 (nat (mul IntKind.i64 4 x0))))) 4))))))))) ∧ (((ilt x0 4) = false) → (bNew.l1 R  fuel 1 4 x1)))) := by kernel_rfl
theorem bNew.l0_zero (R : AV → Mem → Prop) (b : List Int) (x0 : Int) (x1 : List Int) : bNew.l0 R b 0 x0 x1 = False := by kernel_rfl

theorem bNew_vc (R : AV → Mem → Prop) (fuel : Nat) (b : List Int) : callsx Try.prog gam6 [] Try.f10 (fuel + 1) [.agg [.ints .u8 16 b]] [] R = ((bNew.l0 R b fuel 0 (lzeros 176))) := by kernel_rfl

def bnext.l0 (R : AV → Mem → Prop)  (fuel : Nat) (x0 : Int) (x1 : List Int) : Prop := run Try.prog gam0 [] (resh Try.prog [] Try.f39.results.toList R) fuel [.code (cAt (bodyOf Try.f39) [1, 0, 1, 0, 0]), .inLoop (cAt (bodyOf Try.f39) [1, 0, 1, 0, 0]), .inBlock 0, .code (cAt (bodyOf Try.f39) [1, 1])] [AV.undef, (AV.one (AC.ptr 1 0 0)), (AV.one (AC.ptr 2 0 0)), (AV.one (AC.int IntKind.i64 x0)), AV.undef, AV.undef, AV.undef, AV.undef, AV.undef, AV.undef, AV.undef, AV.undef, AV.undef, AV.undef, AV.undef, AV.undef, AV.undef, (AV.tup [])] [(1, Blk.own 22 [(Seg.ints IntKind.u8 16 x1)]), (2, Blk.own 22 [(Seg.ints IntKind.u8 16 (lzeros 16))])]

theorem bnext.l0_succ (R : AV → Mem → Prop)  (fuel : Nat) (x0 : Int) (x1 : List Int) : bnext.l0 R  (fuel + 1) x0 x1 = (((((ige x0 0) = true) → ((InB x0 16) ∧ ((Low (nadd 0 (nat x0)) 16) ∧ ((InB x0 16) ∧ ((Low (nadd 0 (nat x0)) 16) ∧ ((InB x0 16) ∧ ((Low (nadd 0 (nat x0)) 16) ∧ ((((ine (lget (lset x1 (nadd 0 (nat x0)) (add IntKind.u8 (lget x1 (nadd 0 (nat x0))) 1)) (nadd 0 (nat x0))) 0) = true) → (R (AV.agg [(Seg.ints IntKind.u8 16 (lset x1 (nadd 0 (nat x0)) (add IntKind.u8 (lget x1 (nadd 0 (nat x0))) 1)))]) [(1, Blk.own 22 [(Seg.ints IntKind.u8 16 (lset x1 (nadd 0 (nat x0)) (add IntKind.u8 (lget x1 (nadd 0 (nat x0))) 1)))]), (2, Blk.own 22 [(Seg.ints IntKind.u8 16 (lset x1 (nadd 0 (nat x0)) (add IntKind.u8 (lget x1 (nadd 0 (nat x0))) 1)))])])) ∧ (((ine (lget (lset x1 (nadd 0 (nat x0)) (add IntKind.u8 (lget x1 (nadd 0 (nat x0))) 1)) (nadd 0 (nat x0))) 0) = false) → (bnext.l0 R  fuel (sub IntKind.i64 x0 1) (lset x1 (nadd 0 (nat x0)) (add IntKind.u8 (lget x1 (nadd 0 (nat x0))) 1)))))))))))) ∧ (((ige x0 0) = false) → (R (AV.agg [(Seg.ints IntKind.u8 16 x1)]) [(1, Blk.own 22 [(Seg.ints IntKind.u8 16 x1)]), (2, Blk.own 22 [(Seg.ints IntKind.u8 16 x1)])])))) := by kernel_rfl
theorem bnext.l0_zero (R : AV → Mem → Prop)  (x0 : Int) (x1 : List Int) : bnext.l0 R  0 x0 x1 = False := by kernel_rfl

theorem bnext_vc (R : AV → Mem → Prop) (fuel : Nat) (b : List Int) : callsx Try.prog gam0 [] Try.f39 (fuel + 1) [.agg [.ints .u8 16 b]] [] R = ((bnext.l0 R  fuel 15 b)) := by kernel_rfl

end Go.Proofs.Ytkecbjohbihfmaa.G

/- Arguments of a law: opening what came in, and handing it to the walk. -/
namespace Go.Sx
open Go Go.ChangeShapes Go.WideShapes Go.ChangeAt Go.RowKit
set_option linter.unusedSimpArgs false
set_option linter.unusedVariables false

section
variable {H : Type} {enc : TypeId × Value → H} {P : Program} {w : World} {base : Nat} {sp : Nat → Bool} {held : Bool}

/-- the arguments, one by one -/
inductive Args (ρ : Rho) : List AV → List Value → Prop
  | nil : Args ρ [] []
  | cons {x v l m} : SRep ρ x v → Args ρ l m → Args ρ (x :: l) (v :: m)

theorem Args.at {ρ : Rho} {l : List AV} {m : List Value} (h : Args ρ l m) : ∀ (j : Nat) x v, l[j]? = some x → m[j]? = some v → SRep ρ x v := by
  induction h with
  | nil => intro j x v h1; simp at h1
  | cons h t ih =>
    intro j x v h1 h2
    cases j with
    | zero => simp only [List.getElem?_cons_zero, Option.some.injEq] at h1 h2; subst h1; subst h2; exact h
    | succ j => exact ih j x v (by simpa using h1) (by simpa using h2)

theorem Args.arr {ρ : Rho} {l : List AV} {vals : Array Value} (h : Args ρ l vals.toList) (j : Nat) (x : AV) (v : Value) (h1 : l[j]? = some x) (h2 : vals[j]? = some v) : SRep ρ x v :=
  h.at j x v h1 (by simpa using h2)

theorem srep_int (ρ : Rho) (k : IntKind) (n : Int) : SRep ρ (.one (.int k n)) (.int k n) := rfl
theorem srep_bool (ρ : Rho) (b : Bool) : SRep ρ (.one (.bool b)) (.bool b) := rfl

theorem srep_arr (ρ : Rho) (k : IntKind) (n : Nat) (l : List Int) (h : l.length = n) : SRep ρ (.agg [.ints k n l]) (.agg (l.map (Value.int k)).toArray) := by
  refine ⟨⟨h, trivial⟩, l.map (Value.int k), rfl, by simp [flat, Seg.flat], fun j a v h1 h2 => ?_⟩
  simp only [flat, Seg.flat, List.append_nil, List.getElem?_map, Option.map_eq_some_iff] at h1 h2
  obtain ⟨z, hz, rfl⟩ := h1
  obtain ⟨z', hz', rfl⟩ := h2
  rw [hz] at hz'; cases hz'
  rfl

/-- what the walk is told of a slice of integers that came in -/
def IsRow (k : IntKind) (w : World) (a : Option Addr) (len cap : Nat) (zs : List Int) : Prop :=
  (a = none ∧ len = 0 ∧ cap = 0 ∧ zs = []) ∨
  ∃ x, a = some x ∧ len ≤ cap ∧ cap ≤ maxLen ∧ zs.length = cap ∧ (∀ i, i < zs.length → w.cell? (x.add i) = some (.int k (zs.getD i 0))) ∧ ∀ n ∈ zs, (Lit.int k n).wf = true

theorem open_row {t e : TypeId} {k : IntKind} {a : Option Addr} {len cap : Nat} {d : DataW H} {ps : List MemPlace} (ht : P.underlying t = some (.slice e)) (he : P.underlying e = some (.int k)) (hc : P.cellsOf e = 1)
    (h : DataW.Trod enc P w 0 (fun _ => true) true t (.slice a len cap) d ps) : ∃ zs, IsRow k w a len cap zs := by
  obtain ⟨fuel, hf⟩ := h
  rcases open_ints ht he hc hf with ⟨hcs, _⟩ | ⟨x, l, c, zs, hcs, _, hl, hm, hz, _, hcell, hwz⟩
  · simp [Value.cells] at hcs
    obtain ⟨rfl, rfl, rfl⟩ := hcs
    exact ⟨[], .inl ⟨rfl, rfl, rfl, rfl⟩⟩
  · simp [Value.cells] at hcs
    obtain ⟨rfl, rfl, rfl⟩ := hcs
    exact ⟨zs, .inr ⟨_, rfl, hl, hm, by simpa using hz, hcell, hwz⟩⟩

theorem open_array {t e : TypeId} {k : IntKind} {n : Nat} {r : Reach} {b0 : Nat} {v : Value} {d : DataW H} {ps : List MemPlace} (ht : P.underlying t = some (.array n e)) (he : P.underlying e = some (.int k)) (hc : P.cellsOf e = 1) (hn : P.cellsOf t = n)
    (hv : Value.okWide P w r b0 t v) (h : DataW.Trod enc P w base sp held t v d ps) : ∃ zs : List Int, v = .agg (zs.map (Value.int k)).toArray ∧ zs.length = n ∧ ∀ z ∈ zs, (Lit.int k z).wf = true := by
  have hv' : ∃ xs : Array Value, v = .agg xs := by
    simp only [Value.okWide, ht] at hv
    obtain ⟨cs, h1, _⟩ := hv
    exact ⟨cs, h1⟩
  obtain ⟨xs, rfl⟩ := hv'
  obtain ⟨fuel, hf⟩ := h
  obtain ⟨ys, m, rfl, _, hl, hn', hr⟩ := DataW.trod_array ht hf
  simp only [Value.cells, hc, Nat.mul_one] at hl hr
  have hx : ∀ i, i < n → ∃ z, xs[i]? = some (.int k z) ∧ (Lit.int k z).wf = true := by
    intro i hi
    have h1 := hr i hi
    obtain ⟨y, hy⟩ : ∃ y, ys[i]? = some y := ⟨_, List.getElem?_eq_getElem (by omega)⟩
    rw [hy] at h1
    obtain ⟨z, hz, _, hw⟩ := DataW.trod_int he h1
    refine ⟨z, ?_, hw⟩
    have hlen : i < xs.toList.length := by omega
    rw [List.drop_eq_getElem_cons hlen] at hz
    simp at hz
    rw [Array.getElem?_eq_getElem (by simpa using hlen), hz]
  have hsz : xs.size = n := by rw [hn] at hl; simpa using hl
  refine ⟨xs.toList.map fun | .int _ z => z | _ => 0, ?_, by simp [hsz], ?_⟩
  · congr 1
    apply Array.ext
    · simp
    · intro i h1 h2
      obtain ⟨z, hz, _⟩ := hx i (by omega)
      rw [Array.getElem?_eq_getElem h1] at hz
      cases hz' : xs[i] <;> rw [hz'] at hz <;> cases hz
      simp [hz']
  · intro z hz
    simp only [List.mem_map] at hz
    obtain ⟨v, hv, rfl⟩ := hz
    obtain ⟨i, hi, rfl⟩ := List.getElem_of_mem hv
    obtain ⟨z, hz, hw⟩ := hx i (by simpa [hsz] using hi)
    have : xs.toList[i] = .int k z := by
      rw [Array.getElem?_eq_getElem (by simpa using hi)] at hz
      simpa using hz
    rw [this]
    exact hw

theorem nat_u8 {z : Int} (h : (Lit.int .u8 z).wf = true) : ∃ a : Nat, z = a ∧ a < 256 := by
  obtain ⟨h1, h2⟩ := bounds_u8 h
  exact ⟨z.toNat, by omega, by omega⟩
end
end Go.Sx

/- Laws over arguments that lie in memory: they are read, and nothing of them is written. -/
namespace Go.Sx
open Go Go.ChangeShapes Go.WideShapes Go.ChangeAt Go.RowKit
set_option linter.unusedSimpArgs false
set_option linter.unusedVariables false

/-- the fields of a struct that came in -/
inductive AggArgs (w : World) : Nat → List Seg → List Value → Mem → Nat → Prop
  | nil (j : Nat) : AggArgs w j [] [] [] j
  | one {j j' : Nat} {a : AC} {v : Value} {s : List Seg} {cs : List Value} {τ : Mem} : (∀ ρ, CRep ρ a v) → AggArgs w j s cs τ j' → AggArgs w j (.cells [a] :: s) (v :: cs) τ j'
  | arr {j j' m : Nat} {k : IntKind} {l : List Int} {s : List Seg} {cs : List Value} {τ : Mem} : l.length = m → AggArgs w j s cs τ j' → AggArgs w j (.ints k m l :: s) (l.map (Value.int k) ++ cs) τ j'
  | row {j j' : Nat} {v : Value} {s : List Seg} {cs : List Value} {τ : Mem} (L : Loc) (cols : List Col) (hj : j < 1000) : VRep w L cols → v = .slice L.a L.len L.cap → AggArgs w (j + 1) s cs τ j' → AggArgs w j (.cells [.vec (200000 + j)] :: s) (v :: cs) ((200000 + j, .rview cols) :: τ) j'

/-- the arguments of a law: plain values, structs, and lists that are seen under names of their own -/
inductive LawArgs (w : World) : Nat → List AV → List Value → Mem → Prop
  | nil (j : Nat) : LawArgs w j [] [] []
  | plain {j : Nat} {x : AV} {v : Value} {xs : List AV} {vs : List Value} {τ : Mem} : (∀ ρ, SRep ρ x v) → LawArgs w (j + 1) xs vs τ → LawArgs w j (x :: xs) (v :: vs) τ
  | row {j : Nat} {v : Value} {xs : List AV} {vs : List Value} {τ : Mem} (L : Loc) (cs : List Col) (hj : j < 1000) : VRep w L cs → v = .slice L.a L.len L.cap → LawArgs w (j + 1) xs vs τ → LawArgs w j (.one (.vec (200000 + j)) :: xs) (v :: vs) ((200000 + j, .rview cs) :: τ)
  | agg {j j' : Nat} {s : List Seg} {cs : List Value} {xs : List AV} {vs : List Value} {τ τ' : Mem} : AggArgs w j s cs τ' j' → LawArgs w j' xs vs τ → LawArgs w j (.agg s :: xs) (.agg cs.toArray :: vs) (τ' ++ τ)
  | glob {j g : Nat} {s : List Seg} {xs : List AV} {vs : List Value} {τ : Mem} : (∀ ρ, Glob ρ → segsOk s ∧ CellsAt ρ w (gname g) (flat s)) → LawArgs w j xs vs τ → LawArgs w j xs vs ((gname g, .view s) :: τ)

theorem find_append {τ' τ : Mem} {n : Nat} {b : Blk} (h : Mem.find (τ' ++ τ) n = some b) : Mem.find τ' n = some b ∨ Mem.find τ n = some b := by
  induction τ' with
  | nil => exact Or.inr h
  | cons x r ih =>
    obtain ⟨m, y⟩ := x
    simp only [List.cons_append, Mem.find] at h ⊢
    split at h
    · rename_i e; rw [if_pos e]; exact Or.inl h
    · rename_i e; rw [if_neg e]; exact ih h

theorem aggArgs_views {w : World} {τ : Mem} : ∀ {j j' : Nat} {s : List Seg} {cs : List Value}, AggArgs w j s cs τ j' → ∀ ρ n b k, Mem.find τ n = some b → ¬ Out ρ n b k := by
  intro j j' s cs h
  induction h with
  | nil j => intro ρ n b k hn; simp [Mem.find] at hn
  | one _ _ ih => exact ih
  | arr _ _ ih => exact ih
  | row L cols _ _ _ _ ih =>
    intro ρ n b k hn
    simp only [Mem.find] at hn
    split at hn
    · cases hn; exact fun q => q
    · exact ih ρ n b k hn

theorem lawArgs_views {w : World} {τ : Mem} : ∀ {j : Nat} {xs : List AV} {vs : List Value}, LawArgs w j xs vs τ → ∀ ρ n b k, Mem.find τ n = some b → ¬ Out ρ n b k := by
  intro j xs vs h
  induction h with
  | nil j => intro ρ n b k hn; simp [Mem.find] at hn
  | plain _ _ ih => exact ih
  | row L cs _ _ _ _ ih =>
    intro ρ n b k hn
    simp only [Mem.find] at hn
    split at hn
    · cases hn; exact fun q => q
    · exact ih ρ n b k hn
  | agg ha _ ih =>
    intro ρ n b k hn
    rcases find_append hn with q | q
    · exact aggArgs_views ha ρ n b k q
    · exact ih ρ n b k q
  | glob _ _ ih =>
    intro ρ n b k hn
    simp only [Mem.find] at hn
    split at hn
    · cases hn; exact fun q => q
    · exact ih ρ n b k hn

theorem FRep.cons {ρ : Rho} {a : AC} {v : Value} {l : List AC} {c : List Value} (h : CRep ρ a v) (t : FRep ρ l c) : FRep ρ (a :: l) (v :: c) := by
  refine ⟨by simp [t.1], fun j x u hx hu => ?_⟩
  cases j with
  | zero => simp at hx hu; subst hx hu; exact h
  | succ j => exact t.2 j x u (by simpa using hx) (by simpa using hu)

theorem FRep.arr {ρ : Rho} {k : IntKind} {l : List AC} {c : List Value} : ∀ (a : List Int), FRep ρ l c → FRep ρ (a.map (.int k) ++ l) (a.map (Value.int k) ++ c)
  | [], h => h
  | x :: a, h => FRep.cons rfl (FRep.arr a h)

theorem aggArgs_sound {w : World} {τ : Mem} : ∀ {j j' : Nat} {s : List Seg} {cs : List Value}, AggArgs w j s cs τ j' →
    j ≤ j' ∧ ∃ Ls : Nat → Loc, ∀ ρ : Rho, (∀ i, j ≤ i → i < j' → i < 1000 → ρ (200000 + i) = Ls i) → segsOk s ∧ FRep ρ (flat s) cs ∧ MemRep ρ τ w := by
  intro j j' s cs h
  induction h with
  | nil j => exact ⟨Nat.le_refl _, fun _ => loc0, fun ρ _ => ⟨trivial, ⟨rfl, fun i y v hy => by simp [flat] at hy⟩, fun n b hb => by simp [Mem.find] at hb⟩⟩
  | one hp _ ih =>
    obtain ⟨h1, Ls, h2⟩ := ih
    refine ⟨h1, Ls, fun ρ hc => ?_⟩
    obtain ⟨g1, g2, g3⟩ := h2 ρ hc
    exact ⟨⟨trivial, g1⟩, FRep.cons (hp ρ) g2, g3⟩
  | arr hl _ ih =>
    obtain ⟨h1, Ls, h2⟩ := ih
    refine ⟨h1, Ls, fun ρ hc => ?_⟩
    obtain ⟨g1, g2, g3⟩ := h2 ρ hc
    exact ⟨⟨hl, g1⟩, FRep.arr _ g2, g3⟩
  | @row j j' v s cs τ L cols hj hV hv _ ih =>
    obtain ⟨h1, Ls, h2⟩ := ih
    refine ⟨by omega, fun i => if i = j then L else Ls i, fun ρ hc => ?_⟩
    have hj' : ρ (200000 + j) = L := by rw [hc j (Nat.le_refl _) (by omega) hj]; simp
    obtain ⟨g1, g2, g3⟩ := h2 ρ (fun i hi hlt h1000 => by rw [hc i (by omega) hlt h1000]; show (if i = j then _ else Ls i) = Ls i; rw [if_neg (by omega)])
    refine ⟨⟨trivial, g1⟩, FRep.cons (show v = _ by rw [hj']; exact hv) g2, fun n b hb => ?_⟩
    simp only [Mem.find] at hb
    split at hb
    · rename_i e; subst e; cases hb
      show VRep w (ρ (200000 + j)) cols
      rw [hj']; exact hV
    · exact g3 n b hb

theorem lawArgs_sound {w : World} {τ : Mem} : ∀ {j : Nat} {xs : List AV} {vs : List Value}, LawArgs w j xs vs τ →
    xs.length = vs.length ∧ ∃ Ls : Nat → Loc, ∀ ρ : Rho, Glob ρ → (∀ i, j ≤ i → i < 1000 → ρ (200000 + i) = Ls i) → (∀ (i : Nat) y v, xs[i]? = some y → vs[i]? = some v → SRep ρ y v) ∧ MemRep ρ τ w := by
  intro j xs vs h
  induction h with
  | nil j => exact ⟨rfl, fun _ => loc0, fun ρ _ _ => ⟨fun i y v hy => by simp at hy, fun n b hb => by simp [Mem.find] at hb⟩⟩
  | @plain j x v xs vs τ hp _ ih =>
    obtain ⟨h1, Ls, h2⟩ := ih
    refine ⟨by simpa using h1, Ls, fun ρ hg hc => ?_⟩
    obtain ⟨g1, g2⟩ := h2 ρ hg (fun i hi hlt => hc i (by omega) hlt)
    refine ⟨fun i y u hy hu => ?_, g2⟩
    cases i with
    | zero => simp at hy hu; subst hy hu; exact hp ρ
    | succ i => exact g1 i y u (by simpa using hy) (by simpa using hu)
  | @row j v xs vs τ L cs hj hV hv _ ih =>
    obtain ⟨h1, Ls, h2⟩ := ih
    refine ⟨by simpa using h1, fun i => if i = j then L else Ls i, fun ρ hg hc => ?_⟩
    have hj : ρ (200000 + j) = L := by rw [hc j (Nat.le_refl _) hj]; simp
    obtain ⟨g1, g2⟩ := h2 ρ hg (fun i hi hlt => by rw [hc i (by omega) hlt]; show (if i = j then _ else Ls i) = Ls i; rw [if_neg (by omega)])
    refine ⟨fun i y u hy hu => ?_, fun n b hb => ?_⟩
    · cases i with
      | zero =>
        simp at hy hu
        subst hy hu
        show v = _
        rw [hj]; exact hv
      | succ i => exact g1 i y u (by simpa using hy) (by simpa using hu)
    · simp only [Mem.find] at hb
      split at hb
      · rename_i e; subst e; cases hb
        show VRep w (ρ (200000 + j)) cs
        rw [hj]; exact hV
      · exact g2 n b hb
  | @agg j j' s cs xs vs τ τ' ha _ ih =>
    obtain ⟨h1, Ls, h2⟩ := ih
    obtain ⟨a1, La, a2⟩ := aggArgs_sound ha
    refine ⟨by simpa using h1, fun i => if i < j' then La i else Ls i, fun ρ hg hc => ?_⟩
    obtain ⟨g1, g2⟩ := h2 ρ hg (fun i hi hlt => by rw [hc i (by omega) hlt]; show (if i < j' then _ else Ls i) = Ls i; rw [if_neg (by omega)])
    obtain ⟨b1, b2, b3⟩ := a2 ρ (fun i hi hlt h1000 => by rw [hc i hi h1000]; show (if i < j' then La i else _) = La i; rw [if_pos hlt])
    refine ⟨fun i y u hy hu => ?_, fun n b hb => ?_⟩
    · cases i with
      | zero =>
        simp at hy hu
        subst hy hu
        exact ⟨b1, cs, rfl, b2⟩
      | succ i => exact g1 i y u (by simpa using hy) (by simpa using hu)
    · rcases find_append hb with q | q
      · exact b3 n b q
      · exact g2 n b q
  | @glob j g s xs vs τ hp _ ih =>
    obtain ⟨h1, Ls, h2⟩ := ih
    refine ⟨h1, Ls, fun ρ hg hc => ?_⟩
    obtain ⟨g1, g2⟩ := h2 ρ hg hc
    refine ⟨g1, fun n b hb => ?_⟩
    simp only [Mem.find] at hb
    split at hb
    · rename_i e; subst e; cases hb
      exact hp ρ hg
    · exact g2 n b hb

theorem loc_of {w : World} {k : IntKind} {a : Option Addr} {len cap : Nat} {zs : List Int} (h : IsRow k w a len cap zs) : ∃ L : Loc, VRep w L [.ints k (zs.take len)] ∧ Value.slice a len cap = .slice L.a L.len L.cap := by
  rcases h with ⟨rfl, rfl, rfl, rfl⟩ | ⟨x, rfl, hl, hm, hz, hc, hw⟩
  · exact ⟨loc0, VRep.ofInts rfl (Nat.le_refl _) (fun q => absurd rfl q) (fun j x hj => by simp at hj), rfl⟩
  · have hcell : ∀ (j : Nat) y, (zs.take len)[j]? = some y → w.cell? (x.add j) = some (.int k y) := fun j y hj => by
      have hlt : j < len := by have := (List.getElem?_eq_some_iff.1 hj).1; simp at this; omega
      rw [hc j (by omega)]
      rw [List.getElem?_take_of_lt hlt] at hj
      simp [List.getD, hj]
    have hsp : 0 < len → x.spot = none := fun hp => by
      have h0 := hc 0 (by omega)
      cases hs : x.spot with
      | none => rfl
      | some q =>
        exfalso
        have : (x.add 0).spot.isSome = true := by cases x; simp only at hs; subst hs; rfl
        simp only [World.cell?, this] at h0
        split at h0 <;> simp at h0
    refine ⟨⟨x.block, x.off, some x, len, cap, fun _ _ => ⟨none, 0, 0⟩⟩, VRep.ofInts (by simp; omega) hl (fun q => ?_) (fun j y hj => ?_), rfl⟩
    · have := hsp (Nat.pos_of_ne_zero q)
      cases x
      simp only at this; subst this; rfl
    · have hlt : j < len := by have := (List.getElem?_eq_some_iff.1 hj).1; simp at this; omega
      have := hsp (by omega)
      have e : (Loc.at ⟨x.block, x.off, some x, len, cap, fun _ _ => ⟨none, 0, 0⟩⟩ j) = x.add j := by
        cases x; simp only at this; subst this; simp [Loc.at, Addr.add]
      rw [e]; exact hcell j y hj

theorem LawArgs.ints {w : World} {k : IntKind} {a : Option Addr} {len cap j : Nat} {zs : List Int} {xs : List AV} {vs : List Value} {τ : Mem} (h : IsRow k w a len cap zs) (t : LawArgs w (j + 1) xs vs τ) (hj : j < 1000 := by decide) :
    LawArgs w j (.one (.vec (200000 + j)) :: xs) (.slice a len cap :: vs) ((200000 + j, .rview [.ints k (zs.take len)]) :: τ) := by
  obtain ⟨L, h1, h2⟩ := loc_of h
  exact .row L _ hj h1 h2 t

theorem AggArgs.ints {w : World} {k : IntKind} {a : Option Addr} {len cap j j' : Nat} {zs : List Int} {s : List Seg} {cs : List Value} {τ : Mem} (h : IsRow k w a len cap zs) (t : AggArgs w (j + 1) s cs τ j') (hj : j < 1000 := by decide) :
    AggArgs w j (.cells [.vec (200000 + j)] :: s) (.slice a len cap :: cs) ((200000 + j, .rview [.ints k (zs.take len)]) :: τ) j' := by
  obtain ⟨L, h1, h2⟩ := loc_of h
  exact .row L _ hj h1 h2 t

theorem AggArgs.num {w : World} {k : IntKind} {n : Int} {j j' : Nat} {s : List Seg} {cs : List Value} {τ : Mem} (t : AggArgs w j s cs τ j') : AggArgs w j (.cells [.int k n] :: s) (.int k n :: cs) τ j' := .one (fun _ => rfl) t
theorem AggArgs.flag {w : World} {b : Bool} {j j' : Nat} {s : List Seg} {cs : List Value} {τ : Mem} (t : AggArgs w j s cs τ j') : AggArgs w j (.cells [.bool b] :: s) (.bool b :: cs) τ j' := .one (fun _ => rfl) t

theorem IsRow.take_len {w : World} {k : IntKind} {a : Option Addr} {len cap : Nat} {zs : List Int} (h : IsRow k w a len cap zs) : (zs.take len).length = len ∧ len ≤ zs.length := by
  rcases h with ⟨rfl, rfl, rfl, rfl⟩ | ⟨x, rfl, hl, hm, hz, hc, hw⟩
  · exact ⟨rfl, Nat.le_refl _⟩
  · exact ⟨by simp; omega, by omega⟩

theorem IsRow.bytes {w : World} {a : Option Addr} {len cap : Nat} {zs : List Int} (h : IsRow .u8 w a len cap zs) : ∀ x ∈ zs.take len, 0 ≤ x ∧ x < 256 := by
  rcases h with ⟨rfl, rfl, rfl, rfl⟩ | ⟨x, rfl, hl, hm, hz, hc, hw⟩
  · intro x hx; simp at hx
  · intro x hx
    obtain ⟨h1, h2⟩ := bounds_u8 (hw x (List.mem_of_mem_take hx))
    exact ⟨h1, by omega⟩

section
variable {H : Type} {enc : TypeId × Value → H} {P : Program} {w : World}
/-- a slice of integers that came in, with its size -/
theorem open_row_sized {t e : TypeId} {k : IntKind} {a : Option Addr} {len cap : Nat} {d : DataW H} {ps : List MemPlace} (ht : P.underlying t = some (.slice e)) (he : P.underlying e = some (.int k)) (hc : P.cellsOf e = 1)
    (h : DataW.Trod enc P w 0 (fun _ => true) true t (.slice a len cap) d ps) {ts : List TypeId} {ds : List (DataW H)} (hsz : (DataW.weightsEach P ts ds).all (· ≤ reachBytes) = true) {j : Nat} (htj : ts[j]? = some t) (hdj : ds[j]? = some d) :
    ∃ zs, IsRow k w a len cap zs ∧ zs.length * P.bytesOf e ≤ reachBytes := by
  obtain ⟨fuel, hf⟩ := h
  rcases open_ints ht he hc hf with ⟨hcs, _⟩ | ⟨x, l, c, zs, hcs, _, hl, hm, hz, hd, hcell, hwz⟩
  · simp [Value.cells] at hcs
    obtain ⟨rfl, rfl, rfl⟩ := hcs
    exact ⟨[], .inl ⟨rfl, rfl, rfl, rfl⟩, by simp⟩
  · simp [Value.cells] at hcs
    obtain ⟨rfl, rfl, rfl⟩ := hcs
    simp only [Prod.mk.injEq] at hd
    obtain ⟨rfl, _⟩ := hd
    refine ⟨zs, .inr ⟨_, rfl, hl, hm, by simpa using hz, hcell, hwz⟩, ?_⟩
    have := sized_slice hsz htj hdj ht
    simp only [lits, List.length_map, List.length_take, List.length_drop] at this
    have hz' : zs.length = cap := by simpa using hz
    rw [show min len zs.length + (zs.length - len) = zs.length by omega] at this
    exact this
end

section
variable {P : Program} {Γ : Gam} {D : Hints}
/-- a law over plain values and lists -/
theorem law_mem (hm : P.follows .mixedOrders = true) (hΓ : GoodG P Γ) {f : FuncId} {fn : Func} (hf : P.funcs[f]? = some fn) (hb : fn.body.isSome = true) {n : Nat} {args : List AV} {vals : Array Value} {w : World} {τ : Mem} (ha : LawArgs w 0 args vals.toList τ) (hlen : args.length ≤ 1000)
    (h0 : Has (callsx P Γ D fn n args τ fun av _ => av = .one (.bool true) ∨ av = .one (.lit true))) :
    Calls P f vals w fun e w' => e = .returned (.bool true) ∧ Go.RowKit.Below w.heap.size w w' := by
  have h := h0.out
  obtain ⟨hl, Ls, hs⟩ := lawArgs_sound ha
  generalize hρ0 : rhoC (fun n => ⟨n - 1000000, 0, none, 0, 0, fun _ _ => ⟨none, 0, 0⟩⟩) Ls = ρ
  have hρ : ∀ i, 0 ≤ i → i < 1000 → ρ (200000 + i) = Ls i := fun i _ hi => by rw [← hρ0]; exact rhoC_arg (by omega)
  have hg : Glob ρ := fun g => by
    have e : ρ (gname g) = ⟨gname g - 1000000, 0, none, 0, 0, fun _ _ => ⟨none, 0, 0⟩⟩ := by rw [← hρ0]; exact rhoC_glob
    rw [e]; simp [gname]
  obtain ⟨g1, g2⟩ := hs ρ hg hρ
  have hno := lawArgs_views ha ρ
  refine (callsx_sound hm hΓ hf hb h (ρ := ρ) (ex := fun _ => False) hg (by simpa using hl) (fun j x v h1 h2 => g1 j x v h1 (by rw [Array.getElem?_toList]; exact h2)) g2 ⟨fun n m b c k hn _ _ hO => absurd hO (hno n b k hn), fun n b k hn hO => absurd hO (hno n b k hn)⟩ (fun n b k hn hO => absurd hO (hno n b k hn))).mono ?_
  rintro e w' ⟨v, av, σ', ρ', rfl, hav, hsr, _, _, _, _, hk⟩
  have : v = .bool true := by rcases hav with rfl | rfl <;> exact hsr
  subst this
  exact ⟨rfl, hk.below⟩
end
end Go.Sx

/- The program draws the order of its regions. -/
namespace Go.Proofs.Ytkecbjohbihfmaa.G
open Go Go.Sx
theorem mixed : Try.prog.follows .mixedOrders = true := by kernel_rfl
end Go.Proofs.Ytkecbjohbihfmaa.G

/- The verification conditions of functions, printed by a program of this session out of their codes. -/
namespace Go.Proofs.Ytkecbjohbihfmaa.G
open Go Go.Sx Go.Fld
set_option linter.unusedVariables false
set_option maxRecDepth 100000

def Mul.l0 (R : AV → Mem → Prop)  (fuel : Nat) (x0 : Int) (x1 : Int) (x2 : Int) (x3 : Int) : Prop := run Try.prog gam0 [] (resh Try.prog [] Try.f26.results.toList R) fuel [.code (cAt (bodyOf Try.f26) [1, 1, 0, 1, 0, 0]), .inLoop (cAt (bodyOf Try.f26) [1, 1, 0, 1, 0, 0]), .inBlock 0, .code (cAt (bodyOf Try.f26) [1, 1, 1])] [(AV.one (AC.int IntKind.u8 x0)), (AV.one (AC.int IntKind.u8 x1)), AV.undef, AV.undef, AV.undef, (AV.one (AC.int IntKind.u8 x2)), AV.undef, (AV.one (AC.int IntKind.i64 x3)), AV.undef, AV.undef, AV.undef, AV.undef, AV.undef, AV.undef, AV.undef, AV.undef, AV.undef, AV.undef, AV.undef, AV.undef, AV.undef, AV.undef, AV.undef, AV.undef, AV.undef, AV.undef, (AV.tup [])] []

theorem Mul.l0_succ (R : AV → Mem → Prop)  (fuel : Nat) (x0 : Int) (x1 : Int) (x2 : Int) (x3 : Int) : Mul.l0 R  (fuel + 1) x0 x1 x2 x3 = (((((ilt x3 8) = true) → ((((ieq (band IntKind.u8 x1 1) 1) = true) → ((NonNeg 1) ∧ ((NonNeg 1) ∧ ((((ine (band IntKind.u8 x0 128) 0) = true) → (Mul.l0 R  fuel (bxor IntKind.u8 (shl IntKind.u8 x0 1) 27) (shr IntKind.u8 x1 1) (bxor IntKind.u8 x2 x0) (add IntKind.i64 x3 1))) ∧ (((ine (band IntKind.u8 x0 128) 0) = false) → (Mul.l0 R  fuel (shl IntKind.u8 x0 1) (shr IntKind.u8 x1 1) (bxor IntKind.u8 x2 x0) (add IntKind.i64 x3 1))))))) ∧ (((ieq (band IntKind.u8 x1 1) 1) = false) → ((NonNeg 1) ∧ ((NonNeg 1) ∧ ((((ine (band IntKind.u8 x0 128) 0) = true) → (Mul.l0 R  fuel (bxor IntKind.u8 (shl IntKind.u8 x0 1) 27) (shr IntKind.u8 x1 1) x2 (add IntKind.i64 x3 1))) ∧ (((ine (band IntKind.u8 x0 128) 0) = false) → (Mul.l0 R  fuel (shl IntKind.u8 x0 1) (shr IntKind.u8 x1 1) x2 (add IntKind.i64 x3 1))))))))) ∧ (((ilt x3 8) = false) → (R (AV.one (AC.int IntKind.u8 x2)) [])))) := by kernel_rfl
theorem Mul.l0_zero (R : AV → Mem → Prop)  (x0 : Int) (x1 : Int) (x2 : Int) (x3 : Int) : Mul.l0 R  0 x0 x1 x2 x3 = False := by kernel_rfl

theorem Mul_vc (R : AV → Mem → Prop) (fuel : Nat) (a : Int) (b : Int) : callsx Try.prog gam0 [] Try.f26 (fuel + 1) [.one (.int .u8 a), .one (.int .u8 b)] [] R = ((Mul.l0 R  fuel a b 0 0)) := by kernel_rfl

theorem turned_vc (R : AV → Mem → Prop) (fuel : Nat) (a : Int) (b : Int) : callsx Try.prog gam0 [] Try.f42 (fuel + 1) [.one (.int .u8 a), .one (.int .i64 b)] [] R = (((NonNeg b) ∧ ((NonNeg (sub IntKind.i64 8 b)) ∧ (R (AV.one (AC.int IntKind.u8 (bor IntKind.u8 (shl IntKind.u8 a b) (shr IntKind.u8 a (sub IntKind.i64 8 b))))) [])))) := by kernel_rfl

def Inv.l0 (R : AV → Mem → Prop)  (fuel : Nat) (x0 : Int) (x1 : Int) (x2 : Int) : Prop := run Try.prog gam1 [] (resh Try.prog [] Try.f41.results.toList R) fuel [.code (cAt (bodyOf Try.f41) [1, 1, 0, 1, 0, 0]), .inLoop (cAt (bodyOf Try.f41) [1, 1, 0, 1, 0, 0]), .inBlock 0, .code (cAt (bodyOf Try.f41) [1, 1, 1])] [AV.undef, AV.undef, AV.undef, (AV.one (AC.int IntKind.u8 x0)), (AV.one (AC.int IntKind.u8 x1)), AV.undef, (AV.one (AC.int IntKind.i64 x2)), AV.undef, AV.undef, AV.undef, AV.undef, AV.undef, AV.undef, AV.undef, AV.undef, (AV.tup [])] []

theorem Inv.l0_succ (R : AV → Mem → Prop)  (fuel : Nat) (x0 : Int) (x1 : Int) (x2 : Int) : Inv.l0 R  (fuel + 1) x0 x1 x2 = (((((ilt x2 7) = true) → (((Byte x1) ∧ (Byte x1)) ∧ (((Byte x0) ∧ (Byte (fmul x1 x1))) ∧ (Inv.l0 R  fuel (fmul x0 (fmul x1 x1)) (fmul x1 x1) (add IntKind.i64 x2 1))))) ∧ (((ilt x2 7) = false) → (R (AV.one (AC.int IntKind.u8 x0)) [])))) := by kernel_rfl
theorem Inv.l0_zero (R : AV → Mem → Prop)  (x0 : Int) (x1 : Int) (x2 : Int) : Inv.l0 R  0 x0 x1 x2 = False := by kernel_rfl

theorem Inv_vc (R : AV → Mem → Prop) (fuel : Nat) (a : Int) : callsx Try.prog gam1 [] Try.f41 (fuel + 1) [.one (.int .u8 a)] [] R = ((Inv.l0 R  fuel 1 a 0)) := by kernel_rfl

theorem Sub_vc (R : AV → Mem → Prop) (fuel : Nat) (a : Int) : callsx Try.prog gam2 [] Try.f25 (fuel + 1) [.one (.int .u8 a)] [] R = (((Byte a) ∧ (((Byte (finv a)) ∧ (InB 1 9)) ∧ (((Byte (finv a)) ∧ (InB 2 9)) ∧ (((Byte (finv a)) ∧ (InB 3 9)) ∧ (((Byte (finv a)) ∧ (InB 4 9)) ∧ (R (AV.one (AC.int IntKind.u8 (bxor IntKind.u8 (bxor IntKind.u8 (bxor IntKind.u8 (bxor IntKind.u8 (bxor IntKind.u8 (finv a) (fturn (finv a) 1)) (fturn (finv a) 2)) (fturn (finv a) 3)) (fturn (finv a) 4)) 99))) []))))))) := by kernel_rfl

theorem Unsub_vc (R : AV → Mem → Prop) (fuel : Nat) (a : Int) : callsx Try.prog gam2 [] Try.f32 (fuel + 1) [.one (.int .u8 a)] [] R = ((((Byte a) ∧ (InB 1 9)) ∧ (((Byte a) ∧ (InB 3 9)) ∧ (((Byte a) ∧ (InB 6 9)) ∧ ((Byte (bxor IntKind.u8 (bxor IntKind.u8 (bxor IntKind.u8 (fturn a 1) (fturn a 3)) (fturn a 6)) 5)) ∧ (R (AV.one (AC.int IntKind.u8 (finv (bxor IntKind.u8 (bxor IntKind.u8 (bxor IntKind.u8 (fturn a 1) (fturn a 3)) (fturn a 6)) 5)))) [])))))) := by kernel_rfl

def mixd.l1 (R : AV → Mem → Prop) (x0 : Int) (c : List Int) (f : List Int) (fuel : Nat) (x2 : Int) (x3 : List Int) : Prop := run Try.prog gam4 [] (resh Try.prog [] Try.f45.results.toList R) fuel [.code (cAt (bodyOf Try.f45) [1, 1, 0, 1, 0, 0, 1, 1, 0, 0, 1, 1, 0, 0]), .inLoop (cAt (bodyOf Try.f45) [1, 1, 0, 1, 0, 0, 1, 1, 0, 0, 1, 1, 0, 0]), .inBlock 2, .inBlock 1, .code (cAt (bodyOf Try.f45) [1, 1, 0, 1, 0, 0, 1, 1, 1]), .inLoop (cAt (bodyOf Try.f45) [1, 1, 0, 1, 0, 0]), .inBlock 0, .code (cAt (bodyOf Try.f45) [1, 1, 1])] [AV.undef, AV.undef, (AV.one (AC.ptr 2 0 0)), (AV.one (AC.ptr 3 0 0)), (AV.one (AC.ptr 4 0 0)), (AV.one (AC.ptr 5 0 0)), (AV.one (AC.int IntKind.i64 x0)), AV.undef, (AV.one (AC.int IntKind.i64 x0)), (AV.one (AC.lit true)), (AV.one (AC.int IntKind.i64 x0)), (AV.one (AC.int IntKind.i64 x2)), AV.undef, AV.undef, AV.undef, AV.undef, AV.undef, AV.undef, AV.undef, AV.undef, AV.undef, AV.undef, AV.undef, AV.undef, AV.undef, AV.undef, AV.undef, AV.undef, AV.undef, AV.undef, AV.undef, AV.undef, (AV.tup [])] [(2, Blk.own 49 [(Seg.ints IntKind.u8 4 c)]), (3, Blk.own 49 [(Seg.ints IntKind.u8 4 f)]), (4, Blk.own 49 [(Seg.ints IntKind.u8 4 (lzeros 4))]), (5, Blk.own 49 [(Seg.ints IntKind.u8 4 x3)])]

def mixd.l0 (R : AV → Mem → Prop) (c : List Int) (f : List Int) (fuel : Nat) (x0 : Int) (x1 : List Int) : Prop := run Try.prog gam4 [] (resh Try.prog [] Try.f45.results.toList R) fuel [.code (cAt (bodyOf Try.f45) [1, 1, 0, 1, 0, 0]), .inLoop (cAt (bodyOf Try.f45) [1, 1, 0, 1, 0, 0]), .inBlock 0, .code (cAt (bodyOf Try.f45) [1, 1, 1])] [AV.undef, AV.undef, (AV.one (AC.ptr 2 0 0)), (AV.one (AC.ptr 3 0 0)), (AV.one (AC.ptr 4 0 0)), (AV.one (AC.ptr 5 0 0)), AV.undef, AV.undef, (AV.one (AC.int IntKind.i64 x0)), AV.undef, AV.undef, AV.undef, AV.undef, AV.undef, AV.undef, AV.undef, AV.undef, AV.undef, AV.undef, AV.undef, AV.undef, AV.undef, AV.undef, AV.undef, AV.undef, AV.undef, AV.undef, AV.undef, AV.undef, AV.undef, AV.undef, AV.undef, (AV.tup [])] [(2, Blk.own 49 [(Seg.ints IntKind.u8 4 c)]), (3, Blk.own 49 [(Seg.ints IntKind.u8 4 f)]), (4, Blk.own 49 [(Seg.ints IntKind.u8 4 (lzeros 4))]), (5, Blk.own 49 [(Seg.ints IntKind.u8 4 x1)])]

theorem mixd.l1_succ (R : AV → Mem → Prop) (x0 : Int) (c : List Int) (f : List Int) (fuel : Nat) (x2 : Int) (x3 : List Int) : mixd.l1 R x0 c f (fuel + 1) x2 x3 = (((((ilt x2 4) = true) → ((InB x0 4) ∧ ((Low (nadd 0 (nat x0)) 4) ∧ ((NeZ 4) ∧ ((InB (rem (add IntKind.i64 (sub IntKind.i64 x2 x0) 4) 4) 4) ∧ ((Low (nadd 0 (nat (rem (add IntKind.i64 (sub IntKind.i64 x2 x0) 4) 4))) 4) ∧ ((InB x2 4) ∧ ((Low (nadd 0 (nat x2)) 4) ∧ (((Byte (lget f (nadd 0 (nat (rem (add IntKind.i64 (sub IntKind.i64 x2 x0) 4) 4))))) ∧ (Byte (lget c (nadd 0 (nat x2))))) ∧ ((InB x0 4) ∧ ((Low (nadd 0 (nat x0)) 4) ∧ (mixd.l1 R x0 c f fuel (add IntKind.i64 x2 1) (lset x3 (nadd 0 (nat x0)) (bxor IntKind.u8 (lget x3 (nadd 0 (nat x0))) (fmul (lget f (nadd 0 (nat (rem (add IntKind.i64 (sub IntKind.i64 x2 x0) 4) 4)))) (lget c (nadd 0 (nat x2)))))))))))))))))) ∧ (((ilt x2 4) = false) → (mixd.l0 R c f fuel (add IntKind.i64 x0 1) x3)))) := by kernel_rfl
theorem mixd.l1_zero (R : AV → Mem → Prop) (x0 : Int) (c : List Int) (f : List Int) (x2 : Int) (x3 : List Int) : mixd.l1 R x0 c f 0 x2 x3 = False := by kernel_rfl

theorem mixd.l0_succ (R : AV → Mem → Prop) (c : List Int) (f : List Int) (fuel : Nat) (x0 : Int) (x1 : List Int) : mixd.l0 R c f (fuel + 1) x0 x1 = (((((ilt x0 4) = true) → (mixd.l1 R x0 c f fuel 0 x1)) ∧ (((ilt x0 4) = false) → (R (AV.agg [(Seg.ints IntKind.u8 4 x1)]) [(2, Blk.own 49 [(Seg.ints IntKind.u8 4 c)]), (3, Blk.own 49 [(Seg.ints IntKind.u8 4 f)]), (4, Blk.own 49 [(Seg.ints IntKind.u8 4 x1)]), (5, Blk.own 49 [(Seg.ints IntKind.u8 4 x1)])])))) := by kernel_rfl
theorem mixd.l0_zero (R : AV → Mem → Prop) (c : List Int) (f : List Int) (x0 : Int) (x1 : List Int) : mixd.l0 R c f 0 x0 x1 = False := by kernel_rfl

theorem mixd_vc (R : AV → Mem → Prop) (fuel : Nat) (c : List Int) (f : List Int) : callsx Try.prog gam4 [] Try.f45 (fuel + 1) [.agg [.ints .u8 4 c], .agg [.ints .u8 4 f]] [] R = ((mixd.l0 R c f fuel 0 (lzeros 4))) := by kernel_rfl

theorem Column_vc (R : AV → Mem → Prop) (fuel : Nat) (c : List Int) : callsx Try.prog gam5 [] Try.f43 (fuel + 1) [.agg [.ints .u8 4 c]] [] R = (((Low 0 4) ∧ ((Low 1 4) ∧ ((Low 2 4) ∧ ((Low 3 4) ∧ (((FCol c) ∧ (FCol (lset (lset (lset (lset (lzeros 4) 0 2) 1 3) 2 1) 3 1))) ∧ (R (AV.agg [(Seg.ints IntKind.u8 4 (fmix c (lset (lset (lset (lset (lzeros 4) 0 2) 1 3) 2 1) 3 1)))]) [(1, Blk.own 49 [(Seg.ints IntKind.u8 4 c)]), (2, Blk.own 49 [(Seg.ints IntKind.u8 4 (fmix c (lset (lset (lset (lset (lzeros 4) 0 2) 1 3) 2 1) 3 1)))])]))))))) := by kernel_rfl

theorem Uncolumn_vc (R : AV → Mem → Prop) (fuel : Nat) (c : List Int) : callsx Try.prog gam5 [] Try.f34 (fuel + 1) [.agg [.ints .u8 4 c]] [] R = (((Low 0 4) ∧ ((Low 1 4) ∧ ((Low 2 4) ∧ ((Low 3 4) ∧ (((FCol c) ∧ (FCol (lset (lset (lset (lset (lzeros 4) 0 14) 1 11) 2 13) 3 9))) ∧ (R (AV.agg [(Seg.ints IntKind.u8 4 (fmix c (lset (lset (lset (lset (lzeros 4) 0 14) 1 11) 2 13) 3 9)))]) [(1, Blk.own 49 [(Seg.ints IntKind.u8 4 c)]), (2, Blk.own 49 [(Seg.ints IntKind.u8 4 (fmix c (lset (lset (lset (lset (lzeros 4) 0 14) 1 11) 2 13) 3 9)))])]))))))) := by kernel_rfl

end Go.Proofs.Ytkecbjohbihfmaa.G

/- The field's functions do what the plain mathematics says. -/
namespace Go.Proofs.Ytkecbjohbihfmaa.G
open Go Go.Sx Go.Fld
set_option linter.unusedSimpArgs false
set_option linter.unusedVariables false

theorem and128 : ∀ a, a < 256 → (a &&& 128 = 0 ↔ a < 128) := by decide +kernel
theorem xt_eq {a : Nat} (ha : a < 256) : xt a = if a < 128 then a * 2 ^ 1 % 256 else (a * 2 ^ 1 % 256) ^^^ 27 := by
  unfold xt
  split
  · omega
  · rw [show 2 * a - 256 = a * 2 ^ 1 % 256 by omega]

theorem mul_l0 (R : AV → Mem → Prop) : ∀ (d a b s : Nat), d ≤ 8 → a < 256 → b < 256 → s < 256 → R (.one (.int .u8 (gl d a b s : Nat))) [] → Mul.l0 R (d + 1) (a : Int) (b : Int) (s : Int) ((8 - d : Nat) : Int)
  | 0, a, b, s, _, ha, hb, hs, h => by
    rw [Mul.l0_succ]
    refine ⟨fun q => ?_, fun _ => h⟩
    rw [ilt_true] at q; omega
  | d + 1, a, b, s, hd, ha, hb, hs, h => by
    rw [Mul.l0_succ]
    have e1 : band .u8 (b : Int) 1 = ((b % 2 : Nat) : Int) := by
      rw [show (1 : Int) = ((1 : Nat) : Int) from rfl, band_u8 hb (by omega), Nat.and_one_is_mod]
    have e2 : band .u8 (a : Int) 128 = ((a &&& 128 : Nat) : Int) := by
      rw [show (128 : Int) = ((128 : Nat) : Int) from rfl, band_u8 ha (by omega)]
    have e3 : shl .u8 (a : Int) 1 = ((a * 2 ^ 1 % 256 : Nat) : Int) := shl_u8 (n := 1) (by omega)
    have e4 : shr .u8 (b : Int) 1 = ((b / 2 : Nat) : Int) := shr_u8 (n := 1) (by omega)
    have e5 : bxor .u8 (s : Int) (a : Int) = ((s ^^^ a : Nat) : Int) := bxor_u8 hs ha
    have hm : a * 2 ^ 1 % 256 < 256 := Nat.mod_lt _ (by omega)
    have e6 : bxor .u8 (((a * 2 ^ 1 % 256 : Nat) : Int)) 27 = (((a * 2 ^ 1 % 256) ^^^ 27 : Nat) : Int) := bxor_u8 (b := 27) hm (by omega)
    have e7 : add .i64 ((8 - (d + 1) : Nat) : Int) 1 = ((8 - d : Nat) : Int) := by rw [add_i64 (by omega) (by omega)]; omega
    have h128 := and128 a ha
    rw [e1, e2, e3, e4, e5, e6, e7]
    have go := fun a' s' ha' hs' hg => mul_l0 R d a' (b / 2) s' (by omega) ha' (by omega) hs' hg
    have hx := xt_eq ha
    have hxl := xt_lt ha
    simp only [gl] at h
    refine ⟨fun _ => ⟨fun q => ⟨⟨by decide⟩, ⟨by decide⟩, fun q' => ?_, fun q' => ?_⟩, fun q => ⟨⟨by decide⟩, ⟨by decide⟩, fun q' => ?_, fun q' => ?_⟩⟩, fun q => ?_⟩
    · rw [ieq_true] at q; rw [ine_true] at q'
      have c1 : b % 2 = 1 := by omega
      have c2 : ¬ a < 128 := by omega
      rw [if_neg c2] at hx
      rw [← hx] at *
      exact go _ _ hxl (xor_lt hs ha) (by simpa [c1] using h)
    · rw [ieq_true] at q; rw [ine_false] at q'
      have c1 : b % 2 = 1 := by omega
      have c2 : a < 128 := by omega
      rw [if_pos c2] at hx
      rw [← hx] at *
      exact go _ _ hxl (xor_lt hs ha) (by simpa [c1] using h)
    · rw [ieq_false] at q; rw [ine_true] at q'
      have c1 : ¬ b % 2 = 1 := by omega
      have c2 : ¬ a < 128 := by omega
      rw [if_neg c2] at hx
      rw [← hx] at *
      exact go _ _ hxl hs (by simpa [c1] using h)
    · rw [ieq_false] at q; rw [ine_false] at q'
      have c1 : ¬ b % 2 = 1 := by omega
      have c2 : a < 128 := by omega
      rw [if_pos c2] at hx
      rw [← hx] at *
      exact go _ _ hxl hs (by simpa [c1] using h)
    · rw [ilt_false] at q; omega

theorem good_mul : Sx.Good Try.prog 26 (bin8 fmul) := by
  refine Sx.Good.pure (D := []) mixed (good0 _) Try.func26 (by kernel_rfl) rfl fun d args σ K h => ?_
  simp only [bin8] at h
  split at h <;> try exact h.elim
  rename_i a b
  obtain ⟨⟨ha, hb⟩, hK⟩ := h
  obtain ⟨x, hx, rfl⟩ := ha.nat
  obtain ⟨y, hy, rfl⟩ := hb.nat
  refine ⟨by simp [plain_int], _, plain_int _ _, hK, 9 + 1, ?_⟩
  rw [Mul_vc]
  exact mul_l0 (fun av' _ => av' = .one (.int .u8 (fmul x y))) 8 x y 0 (by omega) hx hy (by omega) (by simp [fmul, gm])

theorem good_turned : Sx.Good Try.prog 42 turnS := by
  refine Sx.Good.pure (D := []) mixed (good0 _) Try.func42 (by kernel_rfl) rfl fun d args σ K h => ?_
  simp only [turnS] at h
  split at h <;> try exact h.elim
  rename_i a n
  obtain ⟨⟨ha, hn⟩, hK⟩ := h
  obtain ⟨x, hx, rfl⟩ := ha.nat
  obtain ⟨m, rfl⟩ := Int.eq_ofNat_of_zero_le hn.lo
  have hm : m ≤ 8 := by have := hn.hi; omega
  refine ⟨by simp [plain_int], _, plain_int _ _, hK, 0 + 1, ?_⟩
  rw [turned_vc]
  have e1 : sub .i64 8 (m : Int) = ((8 - m : Nat) : Int) := by rw [sub_i64 (by omega) (by omega)]; omega
  rw [e1, shl_u8 hm, shr_u8 (show 8 - m ≤ 8 by omega), bor_u8 (Nat.mod_lt _ (by decide)) (Nat.lt_of_le_of_lt (Nat.div_le_self _ _) hx)]
  exact ⟨⟨by omega⟩, ⟨by omega⟩, by simp [fturn, turn]⟩

theorem gam1_good : GoodG Try.prog gam1 := (((good0 _).ext good_mul ⟨_, Try.func26, by decide, by kernel_rfl⟩).ext good_turned ⟨_, Try.func42, by decide, by kernel_rfl⟩)

theorem inv_l0 (R : AV → Mem → Prop) : ∀ (d p q : Nat), d ≤ 7 → p < 256 → q < 256 → R (.one (.int .u8 (il d p q : Nat))) [] → Inv.l0 R (d + 1) (p : Int) (q : Int) ((7 - d : Nat) : Int)
  | 0, p, q, _, hp, hq, h => by
    rw [Inv.l0_succ]
    refine ⟨fun c => ?_, fun _ => h⟩
    rw [ilt_true] at c; omega
  | d + 1, p, q, hd, hp, hq, h => by
    rw [Inv.l0_succ]
    have e7 : add .i64 ((7 - (d + 1) : Nat) : Int) 1 = ((7 - d : Nat) : Int) := by rw [add_i64 (by omega) (by omega)]; omega
    have e1 : fmul (q : Int) (q : Int) = (gm q q : Nat) := by simp [fmul]
    have e2 : fmul (p : Int) ((gm q q : Nat) : Int) = (gm p (gm q q) : Nat) := by simp [fmul]
    rw [e1, e2, e7]
    refine ⟨fun _ => ⟨⟨.of hq, .of hq⟩, ⟨.of hp, .of (gm_lt hq)⟩, inv_l0 R d _ _ (by omega) (gm_lt hp) (gm_lt hq) h⟩, fun c => ?_⟩
    rw [ilt_false] at c; omega

theorem good_inv : Sx.Good Try.prog 41 (un8 finv) := by
  refine Sx.Good.pure (D := []) mixed gam1_good Try.func41 (by kernel_rfl) rfl fun d args σ K h => ?_
  simp only [un8] at h
  split at h <;> try exact h.elim
  rename_i a
  obtain ⟨ha, hK⟩ := h
  obtain ⟨x, hx, rfl⟩ := ha.nat
  refine ⟨by simp [plain_int], _, plain_int _ _, hK, 8 + 1, ?_⟩
  rw [Inv_vc]
  exact inv_l0 (fun av' _ => av' = .one (.int .u8 (finv x))) 7 1 x (by omega) (by omega) hx (by simp [finv, gi])

theorem gam2_good : GoodG Try.prog gam2 := gam1_good.ext good_inv ⟨_, Try.func41, by decide, by kernel_rfl⟩

theorem fturn_nat (x n : Nat) : fturn (x : Int) (n : Int) = (turn x n : Nat) := by simp [fturn]

theorem good_sub : Sx.Good Try.prog 25 (un8 fsub) := by
  refine Sx.Good.pure (D := []) mixed gam2_good Try.func25 (by kernel_rfl) rfl fun d args σ K h => ?_
  simp only [un8] at h
  split at h <;> try exact h.elim
  rename_i a
  obtain ⟨ha, hK⟩ := h
  obtain ⟨x, hx, rfl⟩ := ha.nat
  refine ⟨by simp [plain_int], _, plain_int _ _, hK, 0 + 1, ?_⟩
  rw [Sub_vc]
  have hi := gi_lt x
  have e0 : finv (x : Int) = (gi x : Nat) := by simp [finv]
  have t : ∀ n : Nat, turn (gi x) n < 256 := fun n => turn_lt hi
  have e1 : fturn ((gi x : Nat) : Int) 1 = (turn (gi x) 1 : Nat) := fturn_nat _ 1
  have e2 : fturn ((gi x : Nat) : Int) 2 = (turn (gi x) 2 : Nat) := fturn_nat _ 2
  have e3 : fturn ((gi x : Nat) : Int) 3 = (turn (gi x) 3 : Nat) := fturn_nat _ 3
  have e4 : fturn ((gi x : Nat) : Int) 4 = (turn (gi x) 4 : Nat) := fturn_nat _ 4
  have e5 : ∀ y : Nat, y < 256 → bxor .u8 (y : Int) 99 = ((y ^^^ 99 : Nat) : Int) := fun y hy => bxor_u8 (b := 99) hy (by omega)
  rw [e0, e1, e2, e3, e4, bxor_u8 hi (t 1), bxor_u8 (xor_lt hi (t 1)) (t 2), bxor_u8 (xor_lt (xor_lt hi (t 1)) (t 2)) (t 3), bxor_u8 (xor_lt (xor_lt (xor_lt hi (t 1)) (t 2)) (t 3)) (t 4), e5 _ (xor_lt (xor_lt (xor_lt (xor_lt hi (t 1)) (t 2)) (t 3)) (t 4))]
  exact ⟨ha, ⟨.of hi, ⟨by decide, by decide⟩⟩, ⟨.of hi, ⟨by decide, by decide⟩⟩, ⟨.of hi, ⟨by decide, by decide⟩⟩, ⟨.of hi, ⟨by decide, by decide⟩⟩, by simp [fsub, gs]⟩

theorem good_unsub : Sx.Good Try.prog 32 (un8 funsub) := by
  refine Sx.Good.pure (D := []) mixed gam2_good Try.func32 (by kernel_rfl) rfl fun d args σ K h => ?_
  simp only [un8] at h
  split at h <;> try exact h.elim
  rename_i a
  obtain ⟨ha, hK⟩ := h
  obtain ⟨x, hx, rfl⟩ := ha.nat
  refine ⟨by simp [plain_int], _, plain_int _ _, hK, 0 + 1, ?_⟩
  rw [Unsub_vc]
  have t : ∀ n : Nat, turn x n < 256 := fun n => turn_lt hx
  have e1 : fturn (x : Int) 1 = (turn x 1 : Nat) := fturn_nat _ 1
  have e3 : fturn (x : Int) 3 = (turn x 3 : Nat) := fturn_nat _ 3
  have e6 : fturn (x : Int) 6 = (turn x 6 : Nat) := fturn_nat _ 6
  have e5 : ∀ y : Nat, y < 256 → bxor .u8 (y : Int) 5 = ((y ^^^ 5 : Nat) : Int) := fun y hy => bxor_u8 (b := 5) hy (by omega)
  have hx2 := xor_lt (xor_lt (t 1) (t 3)) (t 6)
  rw [e1, e3, e6, bxor_u8 (t 1) (t 3), bxor_u8 (xor_lt (t 1) (t 3)) (t 6), e5 _ hx2]
  exact ⟨⟨ha, ⟨by decide, by decide⟩⟩, ⟨ha, ⟨by decide, by decide⟩⟩, ⟨ha, ⟨by decide, by decide⟩⟩, .of (xor_lt hx2 (by decide)), by simp [funsub, gu, finv]⟩

theorem gam3_good : GoodG Try.prog gam3 :=
  (gam2_good.ext good_sub ⟨_, Try.func25, by decide, by kernel_rfl⟩).ext good_unsub ⟨_, Try.func32, by decide, by kernel_rfl⟩
theorem gam4_good : GoodG Try.prog gam4 := gam3_good

end Go.Proofs.Ytkecbjohbihfmaa.G

/- Columns do what the plain mathematics says. -/
namespace Go.Proofs.Ytkecbjohbihfmaa.G
open Go Go.Sx Go.Fld
set_option linter.unusedSimpArgs false
set_option linter.unusedVariables false

theorem lget_intL (l : List Nat) (i : Nat) : lget (intL l) i = ((l.getD i 0 : Nat) : Int) := by
  simp only [lget, intL, List.getD_eq_getElem?_getD, List.getElem?_map]
  cases l[i]? <;> simp
theorem lset_intL (l : List Nat) (i v : Nat) : lset (intL l) i (v : Int) = intL (l.set i v) := by
  simp only [lset, intL, List.map_set]
theorem natL_intL (l : List Nat) : natL (intL l) = l := by
  simp [natL, intL, Function.comp_def]

structure ColN (l : List Nat) : Prop where
  len : l.length = 4
  all : ∀ x ∈ l, x < 256

theorem ColN.at {l : List Nat} (h : ColN l) (i : Nat) : l.getD i 0 < 256 := by
  rw [List.getD_eq_getElem?_getD]
  cases hq : l[i]? with
  | none => simp
  | some x => exact h.all x (List.mem_of_getElem? hq)
theorem ColN.set {l : List Nat} (h : ColN l) (i v : Nat) (hv : v < 256) : ColN (l.set i v) :=
  ⟨by simp [h.len], fun x hx => by rcases List.mem_or_eq_of_mem_set hx with h' | h'
                                   · exact h.all x h'
                                   · omega⟩

theorem col_nat {c : List Int} (h : FCol c) : ∃ l, ColN l ∧ c = intL l := by
  refine ⟨natL c, ⟨by simp [natL, h.len], fun x hx => ?_⟩, ?_⟩
  · simp only [natL, List.mem_map] at hx
    obtain ⟨y, hy, rfl⟩ := hx
    have hb := h.all y hy
    have := hb.lo; have := hb.hi; omega
  · simp only [intL, natL, List.map_map]
    symm
    rw [List.map_congr_left (g := id) fun y hy => by have := (h.all y hy).lo; simp; omega]
    simp
theorem ColN.col {l : List Nat} (h : ColN l) : FCol (intL l) := ⟨by simp [intL, h.len], fun x hx => by
  simp only [intL, List.mem_map] at hx
  obtain ⟨y, hy, rfl⟩ := hx
  exact .of (h.all y hy)⟩

theorem rot {r i : Nat} (hr : r < 4) (hi : i < 4) : rem (add .i64 (sub .i64 (i : Int) (r : Int)) 4) 4 = (((i + 4 - r) % 4 : Nat) : Int) := by
  rw [sub_i64 (by omega) (by omega), add_i64 (by omega) (by omega)]
  unfold rem
  rw [Int.tmod_eq_emod_of_nonneg (by omega)]
  omega

theorem ml_lt {c f : List Nat} (hf : ColN f) {r : Nat} : ∀ (d i s : Nat), s < 256 → ml c f r d i s < 256
  | 0, _, _, h => h
  | d + 1, i, s, h => ml_lt hf d _ _ (xor_lt h (gm_lt (hf.at _)))

theorem mix_l1 (R : AV → Mem → Prop) (c f : List Nat) (hc : ColN c) (hf : ColN f) (fuel r : Nat) (hr : r < 4) : ∀ (d : Nat) (x : List Nat), d ≤ 4 → ColN x →
    (mixd.l0 R (intL c) (intL f) fuel ((r + 1 : Nat) : Int) (intL (x.set r (ml c f r d (4 - d) (x.getD r 0))))) → mixd.l1 R (r : Int) (intL c) (intL f) (fuel + d + 1) ((4 - d : Nat) : Int) (intL x) := by
  intro d
  induction d with
  | zero =>
    intro x _ hx h
    rw [Nat.add_zero, mixd.l1_succ]
    refine ⟨fun q => ?_, fun _ => ?_⟩
    · rw [ilt_true] at q; omega
    · rw [add_i64 (by omega) (by omega)]
      have e : x.set r (ml c f r 0 (4 - 0) (x.getD r 0)) = x := by
        simp only [ml]
        apply List.ext_getElem (by simp)
        intro j h1 h2
        rw [List.getElem_set]
        split
        · rename_i q; subst q; simp [List.getD_eq_getElem?_getD, List.getElem?_eq_getElem h2]
        · rfl
      rw [e] at h
      exact h
  | succ d ih =>
    intro x hd hx h
    rw [show fuel + (d + 1) + 1 = (fuel + d + 1) + 1 by omega, mixd.l1_succ]
    have hi : 4 - (d + 1) < 4 := by omega
    rw [rot hr hi]
    simp only [nadd, nat, Int.toNat_natCast, Nat.zero_add, lget_intL]
    have e1 : fmul ((f.getD ((4 - (d + 1) + 4 - r) % 4) 0 : Nat) : Int) ((c.getD (4 - (d + 1)) 0 : Nat) : Int) = (gm (f.getD ((4 - (d + 1) + 4 - r) % 4) 0) (c.getD (4 - (d + 1)) 0) : Nat) := by simp [fmul]
    rw [e1, bxor_u8 (hx.at r) (gm_lt (hf.at _)), lset_intL, add_i64 (by omega) (by omega)]
    refine ⟨fun _ => ⟨⟨by omega, by omega⟩, ⟨by omega⟩, ⟨by decide⟩, ⟨by omega, by omega⟩, ⟨by omega⟩, ⟨by omega, by omega⟩, ⟨by omega⟩, ⟨.of (hf.at _), .of (hc.at _)⟩, ⟨by omega, by omega⟩, ⟨by omega⟩, ?_⟩, fun q => ?_⟩
    · rw [show ((4 - (d + 1) : Nat) : Int) + 1 = ((4 - d : Nat) : Int) by omega]
      refine ih _ (by omega) (hx.set _ _ (xor_lt (hx.at r) (gm_lt (hf.at _)))) ?_
      rw [List.set_set]
      have e2 : (x.set r (x.getD r 0 ^^^ gm (f.getD ((4 - (d + 1) + 4 - r) % 4) 0) (c.getD (4 - (d + 1)) 0))).getD r 0 = x.getD r 0 ^^^ gm (f.getD ((4 - (d + 1) + 4 - r) % 4) 0) (c.getD (4 - (d + 1)) 0) := by
        simp [List.getD_eq_getElem?_getD, hx.len, hr]
      rw [e2]
      simp only [ml] at h
      rw [show 4 - (d + 1) + 1 = 4 - d by omega] at h
      exact h
    · rw [ilt_false] at q; omega

theorem mix_l0 (R : AV → Mem → Prop) (c f x : List Nat) (hc : ColN c) (hf : ColN f) {r : Nat} (hr : r < 4) (hx : ColN x) (fuel : Nat) (h : mixd.l0 R (intL c) (intL f) fuel ((r + 1 : Nat) : Int) (intL (x.set r (ml c f r 4 0 (x.getD r 0))))) :
    mixd.l0 R (intL c) (intL f) (fuel + 6) (r : Int) (intL x) := by
  rw [mixd.l0_succ]
  refine ⟨fun _ => mix_l1 R c f hc hf fuel r hr 4 x (by omega) hx h, fun q => ?_⟩
  rw [ilt_false] at q; omega

theorem mix_all (v : AV) (c f : List Nat) (hc : ColN c) (hf : ColN f) (hv : v = .agg [.ints .u8 4 (intL (mixN c f))]) : mixd.l0 (fun av' _ => av' = v) (intL c) (intL f) 25 0 (intL [0, 0, 0, 0]) := by
  have z : ColN [0, 0, 0, 0] := ⟨rfl, by simp⟩
  have l := fun r s (hs : s < 256) => ml_lt (c := c) hf (r := r) 4 0 s hs
  have s1 := z.set 0 _ (l 0 _ (z.at 0))
  have s2 := s1.set 1 _ (l 1 _ (s1.at 1))
  have s3 := s2.set 2 _ (l 2 _ (s2.at 2))
  refine mix_l0 _ c f _ hc hf (r := 0) (by omega) z 19 (mix_l0 _ c f _ hc hf (r := 1) (by omega) s1 13 (mix_l0 _ c f _ hc hf (r := 2) (by omega) s2 7 (mix_l0 _ c f _ hc hf (r := 3) (by omega) s3 1 ?_)))
  rw [mixd.l0_succ]
  refine ⟨fun q => ?_, fun _ => ?_⟩
  · rw [ilt_true] at q; omega
  · rw [hv]; rfl

theorem good_mixed : Sx.Good Try.prog 45 mixS := by
  refine Sx.Good.pure (D := []) mixed gam4_good Try.func45 (by kernel_rfl) rfl fun d args σ K h => ?_
  simp only [mixS] at h
  split at h <;> try exact h.elim
  rename_i c f
  obtain ⟨⟨hc, hf⟩, hK⟩ := h
  obtain ⟨c, hc', rfl⟩ := col_nat hc
  obtain ⟨f, hf', rfl⟩ := col_nat hf
  refine ⟨by simp [plain_ints], _, plain_ints _ _ _, hK, 25 + 1, ?_⟩
  rw [mixd_vc]
  exact mix_all _ c f hc' hf' (by simp [fmix, natL_intL])
end Go.Proofs.Ytkecbjohbihfmaa.G

/- Columns, and all of the field that is known. -/
namespace Go.Proofs.Ytkecbjohbihfmaa.G
open Go Go.Sx Go.Fld
set_option linter.unusedSimpArgs false
set_option linter.unusedVariables false

theorem gam5_good : GoodG Try.prog gam5 := gam4_good.ext good_mixed ⟨_, Try.func45, by decide, by kernel_rfl⟩

theorem col_of {a b c d : Nat} (h : a < 256 ∧ b < 256 ∧ c < 256 ∧ d < 256) : FCol [(a : Int), b, c, d] :=
  ColN.col (l := [a, b, c, d]) ⟨rfl, fun x hx => by simp at hx; rcases hx with rfl | rfl | rfl | rfl <;> omega⟩

theorem good_column : Sx.Good Try.prog 43 (colS [2, 3, 1, 1]) := by
  refine Sx.Good.pure (D := []) mixed gam5_good Try.func43 (by kernel_rfl) rfl fun d args σ K h => ?_
  simp only [colS] at h
  split at h <;> try exact h.elim
  rename_i c
  obtain ⟨hc, hK⟩ := h
  refine ⟨by simp [plain_ints], _, plain_ints _ _ _, hK, 0 + 1, ?_⟩
  rw [Column_vc]
  exact ⟨⟨by decide⟩, ⟨by decide⟩, ⟨by decide⟩, ⟨by decide⟩, ⟨hc, col_of (a := 2) (b := 3) (c := 1) (d := 1) (by decide)⟩, rfl⟩

theorem good_uncolumn : Sx.Good Try.prog 34 (colS [14, 11, 13, 9]) := by
  refine Sx.Good.pure (D := []) mixed gam5_good Try.func34 (by kernel_rfl) rfl fun d args σ K h => ?_
  simp only [colS] at h
  split at h <;> try exact h.elim
  rename_i c
  obtain ⟨hc, hK⟩ := h
  refine ⟨by simp [plain_ints], _, plain_ints _ _ _, hK, 0 + 1, ?_⟩
  rw [Uncolumn_vc]
  exact ⟨⟨by decide⟩, ⟨by decide⟩, ⟨by decide⟩, ⟨by decide⟩, ⟨hc, col_of (a := 14) (b := 11) (c := 13) (d := 9) (by decide)⟩, rfl⟩

theorem gam6_good : GoodG Try.prog gam6 := ((gam4_good.ext good_column ⟨_, Try.func43, by decide, by kernel_rfl⟩).ext good_uncolumn ⟨_, Try.func34, by decide, by kernel_rfl⟩)

end Go.Proofs.Ytkecbjohbihfmaa.G

/- The block cipher's inner functions do what the plain mathematics says. -/
namespace Go.Proofs.Ytkecbjohbihfmaa.G
open Go Go.Sx Go.Fld Go.Blk
set_option linter.unusedSimpArgs false
set_option linter.unusedVariables false

theorem good_with : Sx.Good Try.prog 29 withS := by
  refine Sx.Good.pure (D := []) mixed (good0 _) Try.func29 (by kernel_rfl) rfl fun d args σ K h => ?_
  simp only [withS] at h
  split at h <;> try exact h.elim
  rename_i b k
  obtain ⟨⟨hb, hk⟩, hK⟩ := h
  refine ⟨by simp [plain_ints], _, plain_ints _ _ _, hK, 16 + 1 + 1, ?_⟩
  rw [bwith_vc]
  have key := loop_up0 (fun f i s => bwith.l0 (fun av' _ => av' = .agg [.ints .u8 16 (qx b k)]) k f i s) 16 (fun i => upto 16 i (fun j => bxor .u8 (lget b j) (lget k j)) (lget b))
    (fun f i hi h => by
      rw [bwith.l0_succ]
      refine ⟨fun _ => ?_, fun q => ?_⟩
      · simp only [InB_iff, Low_iff, nat_cast, nadd_def, Nat.zero_add]
        refine ⟨by omega, hi, by omega, hi, by omega, hi, ?_⟩
        rw [add1_i64 (by omega), upto_hi (Nat.le_refl _) hi, upto_lset rfl]
        exact h
      · rw [ilt_false] at q; omega)
    (fun f => by
      rw [bwith.l0_succ]
      refine ⟨fun q => ?_, fun _ => ?_⟩
      · rw [ilt_true] at q; omega
      · rw [upto_done]; rfl) 0
  rw [upto_zero, ← hb.eq] at key
  exact key

theorem eachS_run {R : AV → Mem → Prop} {b : List Int} (hb : BL 16 b) (m : Nat) (h : ∀ σ, R (.agg [.ints .u8 16 (qe fsub b)]) σ) : eachS.l0 R (16 + 1 + m) 0 b := by
  have key := loop_up0 (fun f i s => eachS.l0 R f i s) 16 (fun i => upto 16 i (fun j => fsub (lget b j)) (lget b))
    (fun f i hi h => by
      rw [eachS.l0_succ]
      refine ⟨fun _ => ?_, fun q => ?_⟩
      · simp only [InB_iff, Low_iff, nat_cast, nadd_def, Nat.zero_add]
        rw [upto_hi (Nat.le_refl _) hi]
        refine ⟨by omega, hi, hb.get _, by omega, hi, ?_⟩
        rw [add1_i64 (by omega), upto_lset rfl]
        exact h
      · rw [ilt_false] at q; omega)
    (fun f => by
      rw [eachS.l0_succ]
      refine ⟨fun q => ?_, fun _ => ?_⟩
      · rw [ilt_true] at q; omega
      · rw [upto_done]; exact h _) m
  rw [upto_zero, ← hb.eq] at key
  exact key

theorem eachU_run {R : AV → Mem → Prop} {b : List Int} (hb : BL 16 b) (m : Nat) (h : ∀ σ, R (.agg [.ints .u8 16 (qe funsub b)]) σ) : eachU.l0 R (16 + 1 + m) 0 b := by
  have key := loop_up0 (fun f i s => eachU.l0 R f i s) 16 (fun i => upto 16 i (fun j => funsub (lget b j)) (lget b))
    (fun f i hi h => by
      rw [eachU.l0_succ]
      refine ⟨fun _ => ?_, fun q => ?_⟩
      · simp only [InB_iff, Low_iff, nat_cast, nadd_def, Nat.zero_add]
        rw [upto_hi (Nat.le_refl _) hi]
        refine ⟨by omega, hi, hb.get _, by omega, hi, ?_⟩
        rw [add1_i64 (by omega), upto_lset rfl]
        exact h
      · rw [ilt_false] at q; omega)
    (fun f => by
      rw [eachU.l0_succ]
      refine ⟨fun q => ?_, fun _ => ?_⟩
      · rw [ilt_true] at q; omega
      · rw [upto_done]; exact h _) m
  rw [upto_zero, ← hb.eq] at key
  exact key

theorem eachT_run {R : AV → Mem → Prop} {b t : List Int} (hb : BL 16 b) (ht : Tbl t) (m : Nat) (h : ∀ σ, R (.agg [.ints .u8 16 (qe fsub b)]) σ) : eachT.l0 R t (16 + 1 + m) 0 b := by
  have key := loop_up0 (fun f i s => eachT.l0 R t f i s) 16 (fun i => upto 16 i (fun j => fsub (lget b j)) (lget b))
    (fun f i hi h => by
      rw [eachT.l0_succ]
      refine ⟨fun _ => ?_, fun q => ?_⟩
      · simp only [InB_iff, Low_iff, nat_cast, nadd_def, Nat.zero_add]
        rw [upto_hi (Nat.le_refl _) hi]
        refine ⟨by omega, hi, ⟨hb.get _, ht⟩, by omega, hi, ?_⟩
        rw [add1_i64 (by omega), upto_lset rfl]
        exact h
      · rw [ilt_false] at q; omega)
    (fun f => by
      rw [eachT.l0_succ]
      refine ⟨fun q => ?_, fun _ => ?_⟩
      · rw [ilt_true] at q; omega
      · rw [upto_done]; exact h _) m
  rw [upto_zero, ← hb.eq] at key
  exact key

theorem good_told : Sx.Good Try.prog 38 tblS := by
  refine Sx.Good.reads (D := []) mixed (good0 _) Try.func38 (by kernel_rfl) rfl fun d args σ K h => ?_
  simp only [tblS] at h
  split at h <;> try exact h.elim
  rename_i a n
  split at h <;> try exact h.elim
  rename_i b hn
  split at h <;> try exact h.elim
  rename_i t hs
  obtain ⟨⟨ha, ht⟩, hK⟩ := h
  obtain ⟨i, hi, rfl⟩ := ha.nat
  refine ⟨[.one (.int .u8 (i : Int)), .one (.ptr 200001 0 0)], [(200001, .view [.ints .u8 256 t])], .plain (plain_int _ _) (hs ▸ .ptr hn (by rw [hs]; intro m; rfl) (.nil _)), by simp, 0 + 1, ?_⟩
  rw [told_vc]
  simp only [InB_iff, Low_iff, nat_cast, nadd_def, Nat.zero_add]
  exact ⟨⟨by omega, by omega⟩, hi, res_int (ht.at_ i hi) hK⟩

theorem gamB1'_good : GoodG Try.prog (ext gam6 38 tblS) := gam6_good.ext good_told ⟨_, Try.func38, by decide, by kernel_rfl⟩

theorem colsC_run {R : AV → Mem → Prop} {b : List Int} (hb : BL 16 b) (m : Nat) (h : ∀ σ, R (.agg [.ints .u8 16 (qc [2, 3, 1, 1] b)]) σ) : colsC.l0 R (4 + 1 + m) 0 b := by
  have key := loop_by 4 (fun f i s => colsC.l0 R f i s) 4 (fun i => upto 16 (4 * i) (fun j => lget (fmix (lsub b (j / 4 * 4) 4) [2, 3, 1, 1]) (j % 4)) (lget b))
    (fun f i hi h => by
      rw [colsC.l0_succ]
      refine ⟨fun _ => ?_, fun q => ?_⟩
      · have e0 : add .i64 ((4 * i : Nat) : Int) 4 = ((4 * (i + 1) : Nat) : Int) := by rw [add_i64 (by omega) (by omega)]; omega
        have el : lsub (upto 16 (4 * i) (fun j => lget (fmix (lsub b (j / 4 * 4) 4) [2, 3, 1, 1]) (j % 4)) (lget b)) (4 * i) 4 = lsub b (4 * i) 4 := by
          rw [upto, tab_lsub _ (by omega), hb.eq, tab_lsub _ (by omega)]
          refine tab_ext fun j hj => ?_
          rw [if_neg (by omega), ← hb.eq]
        have hc : FCol (lsub b (4 * i) 4) := by
          refine ⟨lsub_len _ _ _ (by rw [hb.len]; omega), fun x hx => hb.all x ?_⟩
          exact List.mem_of_mem_drop (List.mem_of_mem_take hx)
        have hl : (fmix (lsub b (4 * i) 4) [2, 3, 1, 1]).length = 4 := rfl
        simp only [InB_iff, Low_iff, Fits_iff, NonNeg_iff, nat_cast, nadd_def, nsub_def, Nat.zero_add, e0, el]
        refine ⟨⟨⟨by omega, by omega⟩, by omega, by omega⟩, by omega, by omega, hc, ⟨by omega, by omega⟩, by omega, by omega, ?_⟩
        have e1 : lsub (fmix (lsub b (4 * i) 4) [2, 3, 1, 1]) 0 4 = fmix (lsub b (4 * i) 4) [2, 3, 1, 1] := by
          have := lsub_all (fmix (lsub b (4 * i) 4) [2, 3, 1, 1]); rwa [hl] at this
        have e2 : nmin (llen (fmix (lsub b (4 * i) 4) [2, 3, 1, 1])) (16 - 4 * i) = 4 := by rw [llen_def, hl, nmin_def]; omega
        rw [e1, e2, e1, eq_tab hl, upto, tab_lput _ _ (by omega)]
        have e3 : (tab 16 fun j => if 4 * i ≤ j ∧ j < 4 * i + 4 then lget (fmix (lsub b (4 * i) 4) [2, 3, 1, 1]) (j - 4 * i) else if j < 4 * i then lget (fmix (lsub b (j / 4 * 4) 4) [2, 3, 1, 1]) (j % 4) else lget b j) = upto 16 (4 * (i + 1)) (fun j => lget (fmix (lsub b (j / 4 * 4) 4) [2, 3, 1, 1]) (j % 4)) (lget b) := by
          refine tab_ext fun j hj => ?_
          by_cases q1 : j < 4 * i
          · rw [if_neg (by omega), if_pos q1, if_pos (by omega)]
          · by_cases q2 : j < 4 * i + 4
            · rw [if_pos ⟨by omega, q2⟩, if_pos (by omega)]; show _ = lget (fmix (lsub b (j / 4 * 4) 4) [2, 3, 1, 1]) (j % 4); rw [show j / 4 * 4 = 4 * i by omega, show j % 4 = j - 4 * i by omega]
            · rw [if_neg (by omega), if_neg q1, if_neg (by omega)]
        rw [e3]
        exact h
      · rw [ilt_false] at q; omega)
    (fun f => by
      rw [colsC.l0_succ]
      refine ⟨fun q => ?_, fun _ => ?_⟩
      · rw [ilt_true] at q; omega
      · show R (.agg [.ints .u8 16 (upto 16 16 _ _)]) _
        rw [upto_done]; exact h _) m
  rw [upto_zero, ← hb.eq] at key
  exact key

theorem colsU_run {R : AV → Mem → Prop} {b : List Int} (hb : BL 16 b) (m : Nat) (h : ∀ σ, R (.agg [.ints .u8 16 (qc [14, 11, 13, 9] b)]) σ) : colsU.l0 R (4 + 1 + m) 0 b := by
  have key := loop_by 4 (fun f i s => colsU.l0 R f i s) 4 (fun i => upto 16 (4 * i) (fun j => lget (fmix (lsub b (j / 4 * 4) 4) [14, 11, 13, 9]) (j % 4)) (lget b))
    (fun f i hi h => by
      rw [colsU.l0_succ]
      refine ⟨fun _ => ?_, fun q => ?_⟩
      · have e0 : add .i64 ((4 * i : Nat) : Int) 4 = ((4 * (i + 1) : Nat) : Int) := by rw [add_i64 (by omega) (by omega)]; omega
        have el : lsub (upto 16 (4 * i) (fun j => lget (fmix (lsub b (j / 4 * 4) 4) [14, 11, 13, 9]) (j % 4)) (lget b)) (4 * i) 4 = lsub b (4 * i) 4 := by
          rw [upto, tab_lsub _ (by omega), hb.eq, tab_lsub _ (by omega)]
          refine tab_ext fun j hj => ?_
          rw [if_neg (by omega), ← hb.eq]
        have hc : FCol (lsub b (4 * i) 4) := by
          refine ⟨lsub_len _ _ _ (by rw [hb.len]; omega), fun x hx => hb.all x ?_⟩
          exact List.mem_of_mem_drop (List.mem_of_mem_take hx)
        have hl : (fmix (lsub b (4 * i) 4) [14, 11, 13, 9]).length = 4 := rfl
        simp only [InB_iff, Low_iff, Fits_iff, NonNeg_iff, nat_cast, nadd_def, nsub_def, Nat.zero_add, e0, el]
        refine ⟨⟨⟨by omega, by omega⟩, by omega, by omega⟩, by omega, by omega, hc, ⟨by omega, by omega⟩, by omega, by omega, ?_⟩
        have e1 : lsub (fmix (lsub b (4 * i) 4) [14, 11, 13, 9]) 0 4 = fmix (lsub b (4 * i) 4) [14, 11, 13, 9] := by
          have := lsub_all (fmix (lsub b (4 * i) 4) [14, 11, 13, 9]); rwa [hl] at this
        have e2 : nmin (llen (fmix (lsub b (4 * i) 4) [14, 11, 13, 9])) (16 - 4 * i) = 4 := by rw [llen_def, hl, nmin_def]; omega
        rw [e1, e2, e1, eq_tab hl, upto, tab_lput _ _ (by omega)]
        have e3 : (tab 16 fun j => if 4 * i ≤ j ∧ j < 4 * i + 4 then lget (fmix (lsub b (4 * i) 4) [14, 11, 13, 9]) (j - 4 * i) else if j < 4 * i then lget (fmix (lsub b (j / 4 * 4) 4) [14, 11, 13, 9]) (j % 4) else lget b j) = upto 16 (4 * (i + 1)) (fun j => lget (fmix (lsub b (j / 4 * 4) 4) [14, 11, 13, 9]) (j % 4)) (lget b) := by
          refine tab_ext fun j hj => ?_
          by_cases q1 : j < 4 * i
          · rw [if_neg (by omega), if_pos q1, if_pos (by omega)]
          · by_cases q2 : j < 4 * i + 4
            · rw [if_pos ⟨by omega, q2⟩, if_pos (by omega)]; show _ = lget (fmix (lsub b (j / 4 * 4) 4) [14, 11, 13, 9]) (j % 4); rw [show j / 4 * 4 = 4 * i by omega, show j % 4 = j - 4 * i by omega]
            · rw [if_neg (by omega), if_neg q1, if_neg (by omega)]
        rw [e3]
        exact h
      · rw [ilt_false] at q; omega)
    (fun f => by
      rw [colsU.l0_succ]
      refine ⟨fun q => ?_, fun _ => ?_⟩
      · rw [ilt_true] at q; omega
      · show R (.agg [.ints .u8 16 (upto 16 16 _ _)]) _
        rw [upto_done]; exact h _) m
  rw [upto_zero, ← hb.eq] at key
  exact key

theorem turned_run {R : AV → Mem → Prop} {b : List Int} {n : Nat} (hb : BL 16 b) (hn : n < 4) (h : ∀ σ, R (.agg [.ints .u8 16 (qt n b)]) σ) : bturned.l0 R (n : Int) b (1 + 6 * 4) 0 (lzeros 16) := by
  have hs : ∀ g r, r < 4 → bturned.l0 R (n : Int) b g ((r + 1 : Nat) : Int) (tab 16 fun j => if j % 4 < r + 1 then lget b (4 * ((j / 4 + j % 4 * n) % 4) + j % 4) else 0) →
      bturned.l0 R (n : Int) b (g + 6) (r : Int) (tab 16 fun j => if j % 4 < r then lget b (4 * ((j / 4 + j % 4 * n) % 4) + j % 4) else 0) := by
    intro g r hr hg
    rw [bturned.l0_succ]
    refine ⟨fun _ => ?_, fun q => ?_⟩
    · have key := loop_n (fun f i s => bturned.l1 R (n : Int) (r : Int) b f i s) 4 (fun c => tab 16 fun j => if j % 4 < r ∨ (j % 4 = r ∧ j / 4 < c) then lget b (4 * ((j / 4 + j % 4 * n) % 4) + j % 4) else 0) 1 (g + 1)
        (fun f c hc hf => by
          rw [bturned.l1_succ]
          refine ⟨fun _ => ?_, fun q => ?_⟩
          · have hrn : r * n ≤ 9 := Nat.mul_le_mul (show r ≤ 3 by omega) (show n ≤ 3 by omega)
            have e1 : mul .i64 (r : Int) (n : Int) = ((r * n : Nat) : Int) := mulN_i64 (by omega)
            have e2 : add .i64 (c : Int) ((r * n : Nat) : Int) = ((c + r * n : Nat) : Int) := addN_i64 (by omega)
            have e3 : rem ((c + r * n : Nat) : Int) 4 = (((c + r * n) % 4 : Nat) : Int) := remN (b := 4)
            have e4 : mul .i64 4 (((c + r * n) % 4 : Nat) : Int) = ((4 * ((c + r * n) % 4) : Nat) : Int) := mulN_i64 (a := 4) (by omega)
            have e5 : add .i64 ((4 * ((c + r * n) % 4) : Nat) : Int) (r : Int) = ((4 * ((c + r * n) % 4) + r : Nat) : Int) := addN_i64 (by omega)
            have e6 : mul .i64 4 (c : Int) = ((4 * c : Nat) : Int) := mulN_i64 (a := 4) (by omega)
            have e7 : add .i64 ((4 * c : Nat) : Int) (r : Int) = ((4 * c + r : Nat) : Int) := addN_i64 (by omega)
            rw [e1, e2, e3, e4, e5, e6, e7]
            simp only [InB_iff, Low_iff, NeZ_iff, nat_cast, nadd_def, Nat.zero_add]
            refine ⟨by decide, ⟨by omega, by omega⟩, by omega, ⟨by omega, by omega⟩, by omega, ?_⟩
            rw [add1_i64 (by omega), tab_lset]
            have e8 : (tab 16 fun j => if j = 4 * c + r then lget b (4 * ((c + r * n) % 4) + r) else if j % 4 < r ∨ (j % 4 = r ∧ j / 4 < c) then lget b (4 * ((j / 4 + j % 4 * n) % 4) + j % 4) else 0) =
                tab 16 fun j => if j % 4 < r ∨ (j % 4 = r ∧ j / 4 < c + 1) then lget b (4 * ((j / 4 + j % 4 * n) % 4) + j % 4) else 0 := by
              refine tab_ext fun j hj => ?_
              by_cases q : j = 4 * c + r
              · rw [if_pos q, if_pos (by omega), show j / 4 = c by omega, show j % 4 = r by omega]
              · rw [if_neg q]
                by_cases q2 : j % 4 < r ∨ (j % 4 = r ∧ j / 4 < c)
                · rw [if_pos q2, if_pos (by omega)]
                · rw [if_neg q2, if_neg (by omega)]
            rw [e8]
            exact hf
          · rw [ilt_false] at q; omega)
        (by
          rw [bturned.l1_succ]
          refine ⟨fun q => ?_, fun _ => ?_⟩
          · rw [ilt_true] at q; omega
          · rw [add1_i64 (by omega)]
            have : (tab 16 fun j => if j % 4 < r ∨ (j % 4 = r ∧ j / 4 < 4) then lget b (4 * ((j / 4 + j % 4 * n) % 4) + j % 4) else 0) = tab 16 fun j => if j % 4 < r + 1 then lget b (4 * ((j / 4 + j % 4 * n) % 4) + j % 4) else 0 := by
              refine tab_ext fun j hj => ?_
              by_cases q : j % 4 < r + 1
              · rw [if_pos q, if_pos (by omega)]
              · rw [if_neg q, if_neg (by omega)]
            rw [this]; exact hg) 0 (Nat.zero_le _)
      have e : (tab 16 fun j => if j % 4 < r ∨ (j % 4 = r ∧ j / 4 < 0) then lget b (4 * ((j / 4 + j % 4 * n) % 4) + j % 4) else 0) = tab 16 fun j => if j % 4 < r then lget b (4 * ((j / 4 + j % 4 * n) % 4) + j % 4) else 0 := by
        refine tab_ext fun j hj => ?_
        simp
      rw [e] at key
      exact key
    · rw [ilt_false] at q; omega
  have key := loop_n (fun f i s => bturned.l0 R (n : Int) b f i s) 4 (fun r => tab 16 fun j => if j % 4 < r then lget b (4 * ((j / 4 + j % 4 * n) % 4) + j % 4) else 0) 6 1 hs
    (by
      rw [bturned.l0_succ]
      refine ⟨fun q => ?_, fun _ => ?_⟩
      · rw [ilt_true] at q; omega
      · have : (tab 16 fun j => if j % 4 < 4 then lget b (4 * ((j / 4 + j % 4 * n) % 4) + j % 4) else 0) = qt n b := tab_ext fun j hj => by rw [if_pos (by omega)]
        rw [this]; exact h _) 0 (Nat.zero_le _)
  rw [lzeros_tab]
  have e : (tab 16 fun j => if j % 4 < 0 then lget b (4 * ((j / 4 + j % 4 * n) % 4) + j % 4) else 0) = tab 16 fun _ => (0 : Int) := tab_ext fun j hj => by simp
  rw [e] at key
  exact key

/-- bytes i, .., 0 -/
theorem next_run {R : AV → Mem → Prop} (h : ∀ b σ, R (.agg [.ints .u8 16 b]) σ → True) {b0 : List Int} (hR : ∀ σ, R (.agg [.ints .u8 16 (up b0)]) σ) : ∀ (i : Nat) (b : List Int), i ≤ 16 → b.length = 16 → upN i b = up b0 → bnext.l0 R (i + 1) ((i : Int) - 1) b := by
  intro i
  induction i with
  | zero =>
    intro b _ _ e
    rw [bnext.l0_succ]
    refine ⟨fun q => ?_, fun _ => ?_⟩
    · rw [ige_true] at q; omega
    · rw [show b = up b0 from e]; exact hR _
  | succ i ih =>
    intro b hi hb e
    rw [bnext.l0_succ, show ((i + 1 : Nat) : Int) - 1 = (i : Int) by omega]
    refine ⟨fun _ => ?_, fun q => ?_⟩
    · have hl : lget (lset b i (add .u8 (lget b i) 1)) i = add .u8 (lget b i) 1 := by
        simp [lget, lset, List.getD, hb, show i < 16 by omega]
      simp only [InB_iff, Low_iff, nat_cast, nadd_def, Nat.zero_add, hl]
      refine ⟨by omega, by omega, by omega, by omega, by omega, by omega, fun q => ?_, fun q => ?_⟩
      · rw [ine_true] at q
        rw [upN, if_neg q] at e
        rw [e]; exact hR _
      · rw [ine_false] at q
        rw [upN, if_pos q] at e
        rw [sub_i64 (by omega) (by omega)]
        exact ih _ (by omega) (by simp [lset, hb]) e
    · rw [ige_false] at q; omega
end Go.Proofs.Ytkecbjohbihfmaa.G

/- The round keys of a key, by the program. -/
namespace Go.Proofs.Ytkecbjohbihfmaa.G
open Go Go.Sx Go.Fld Go.Blk
set_option linter.unusedSimpArgs false
set_option linter.unusedVariables false

/-- place p of the round keys -/
def kp (key : List Int) (p : Nat) : Int := kw key (p / 4) (p % 4)
theorem kp_word (key : List Int) (i j : Nat) (h : j < 4) : kp key (4 * i + j) = kw key i j := by
  unfold kp; rw [show (4 * i + j) / 4 = i by omega, show (4 * i + j) % 4 = j by omega]

theorem new_l0 {R : AV → Mem → Prop} {b : List Int} (hb : BL 16 b) {f : Nat} (h : bNew.l1 R f 1 4 (upto 176 16 (kp b) fun _ => 0)) : bNew.l0 R b (f + 1 + 1 * 4) 0 (lzeros 176) := by
  have key := loop_n (fun f i s => bNew.l0 R b f i s) 4 (fun i => upto 176 (4 * i) (kp b) fun _ => 0) 1 (f + 1)
    (fun g i hi hg => by
      rw [bNew.l0_succ]
      refine ⟨fun _ => ?_, fun q => ?_⟩
      · have e1 : mul .i64 4 (i : Int) = ((4 * i : Nat) : Int) := mulN_i64 (a := 4) (by omega)
        rw [e1]
        simp only [InB_iff, Low_iff, Fits_iff, NonNeg_iff, nat_cast, nadd_def, nsub_def, nmul_def, Nat.zero_add]
        refine ⟨by omega, ⟨by omega, by omega⟩, by omega, by omega, ?_⟩
        have e2 : lsub (lsub b (4 * i) (16 - 4 * i)) 0 (nmin (llen (lsub b (4 * i) (16 - 4 * i))) 4) = tab 4 (fun k => kp b (4 * i + k)) := by
          rw [llen_def, lsub_len _ _ _ (by rw [hb.len]; omega), nmin_def, show min (16 - 4 * i) 4 = 4 by omega, lsub_lsub _ _ _ _ _ (by omega), lsub_tabbed hb.len (by omega)]
          refine tab_ext fun k hk => ?_
          rw [kp_word _ _ _ hk, kw_lo _ _ hi, Nat.add_zero]
        rw [e2, add1_i64 (by omega), show i * 4 = 4 * i by omega, upto_lput rfl (by omega)]
        exact hg
      · rw [ilt_false] at q; omega)
    (by
      rw [bNew.l0_succ]
      refine ⟨fun q => ?_, fun _ => ?_⟩
      · rw [ilt_true] at q; omega
      · exact h) 0 (Nat.zero_le _)
  rw [show upto 176 (4 * 0) (kp b) (fun _ => 0) = tab 176 (fun _ => 0) from upto_zero, ← lzeros_tab] at key
  exact key

theorem new_l4 {R : AV → Mem → Prop} {w : List Int} (hw : w.length = 176) {f : Nat} (h : ∀ σ, R (.agg [.ints .u8 176 w]) σ) : bNew.l4 R w (f + 1 + 1 * 44) 0 (lzeros 176) := by
  have key := loop_n (fun f i s => bNew.l4 R w f i s) 44 (fun i => upto 176 (4 * i) (lget w) fun _ => 0) 1 (f + 1)
    (fun g i hi hg => by
      rw [bNew.l4_succ]
      refine ⟨fun _ => ?_, fun q => ?_⟩
      · have e1 : quo .i64 (i : Int) 4 = ((i / 4 : Nat) : Int) := quoN_i64 (b := 4) (by omega)
        have e2 : rem (i : Int) 4 = ((i % 4 : Nat) : Int) := remN (b := 4)
        have e3 : mul .i64 ((i % 4 : Nat) : Int) 4 = ((i % 4 * 4 : Nat) : Int) := mulN_i64 (b := 4) (by omega)
        rw [e1, e2, e3]
        simp only [InB_iff, Low_iff, Fits_iff, NonNeg_iff, NeZ_iff, nat_cast, nadd_def, nsub_def, nmul_def, Nat.zero_add]
        refine ⟨by omega, by decide, by omega, by decide, ⟨by omega, by omega⟩, by omega, by omega, ?_⟩
        have e4 : lsub (lsub (lsub w (i * 4) 4) 0 4) 0 (nmin (llen (lsub (lsub w (i * 4) 4) 0 4)) (16 - i % 4 * 4)) = tab 4 (fun k => lget w (4 * i + k)) := by
          have e5 : lsub (lsub w (i * 4) 4) 0 4 = lsub w (i * 4) 4 := lsub_lsub _ _ _ _ _ (by decide)
          rw [e5, llen_def, lsub_len _ _ _ (by omega), nmin_def, show min 4 (16 - i % 4 * 4) = 4 by omega, e5, lsub_tabbed hw (by omega)]
          exact tab_ext fun k hk => by rw [show i * 4 + k = 4 * i + k by omega]
        rw [e4, add1_i64 (by omega), show i / 4 * 16 + i % 4 * 4 = 4 * i by omega, upto_lput rfl (by omega)]
        exact hg
      · rw [ilt_false] at q; omega)
    (by
      rw [bNew.l4_succ]
      refine ⟨fun q => ?_, fun _ => ?_⟩
      · rw [ilt_true] at q; omega
      · rw [show upto 176 (4 * 44) (lget w) (fun _ => 0) = tab 176 (lget w) from upto_done, ← eq_tab hw]; exact h _) 0 (Nat.zero_le _)
  rw [show upto 176 (4 * 0) (lget w) (fun _ => 0) = tab 176 (fun _ => 0) from upto_zero, ← lzeros_tab] at key
  exact key

theorem lset_word {key : List Int} {i j : Nat} {v : Int} (hj : j < 4) (hv : v = kw key i j) : lset (upto 176 (4 * i + j) (kp key) fun _ => 0) (4 * i + j) v = upto 176 (4 * i + (j + 1)) (kp key) fun _ => 0 := by
  rw [upto_lset (by rw [kp_word _ _ _ hj]; exact hv)]; rfl

theorem word_get {key : List Int} {n i j : Nat} (h : 4 * i + j < n) (hn : n ≤ 176) (hj : j < 4) : lget (upto 176 n (kp key) fun _ => 0) (4 * i + j) = kw key i j := by
  rw [upto_lo h hn, kp_word _ _ _ hj]

theorem word_sub {key : List Int} {n i : Nat} (h : 4 * i + 4 ≤ n) (hn : n ≤ 176) : lsub (upto 176 n (kp key) fun _ => 0) (i * 4) 4 = tab 4 (kw key i) := by
  rw [lsub_tabbed upto_len (by omega)]
  exact tab_ext fun j hj => by rw [show i * 4 + j = 4 * i + j by omega, word_get (by omega) hn hj]

theorem new_round {R : AV → Mem → Prop} {b : List Int} (hb : BL 16 b) (g i : Nat) (h4 : 4 ≤ i) (hi : i < 44) (h : bNew.l1 R g (rcon ((i + 1 - 1) / 4)) ((i + 1 : Nat) : Int) (upto 176 (4 * (i + 1)) (kp b) fun _ => 0)) :
    bNew.l1 R (g + 6) (rcon ((i - 1) / 4)) (i : Int) (upto 176 (4 * i) (kp b) fun _ => 0) := by
  have e1 : sub .i64 (i : Int) 1 = ((i - 1 : Nat) : Int) := subN_i64 (b := 1) (by omega) (by omega)
  have e4 : sub .i64 (i : Int) 4 = ((i - 4 : Nat) : Int) := subN_i64 (b := 4) (by omega) (by omega)
  have er : rem (i : Int) 4 = ((i % 4 : Nat) : Int) := remN (b := 4)
  have ew : lsub (upto 176 (4 * i) (kp b) fun _ => 0) ((i - 1) * 4) 4 = tab 4 (kw b (i - 1)) := word_sub (by omega) (by omega)
  rw [bNew.l1_succ]
  refine ⟨fun _ => ?_, fun q => ?_⟩
  · rw [e1, er]
    simp only [InB_iff, Low_iff, Fits_iff, NonNeg_iff, NeZ_iff, nat_cast, nadd_def, nsub_def, nmul_def, Nat.zero_add, ew]
    refine ⟨by omega, by omega, by decide, fun q => ?_, fun q => ?_⟩
    · rw [ieq_true] at q
      have q4 : i % 4 = 0 := by omega
      have hbw := fun j (hj : j < 4) => kw_byte hb (i - 1) j hj
      rw [tab_lget _ (by decide : 1 < 4), tab_lget _ (by decide : 2 < 4), tab_lget _ (by decide : 3 < 4), tab_lget _ (by decide : 0 < 4)]
      refine ⟨⟨by decide, by decide⟩, by decide, ⟨by decide, by decide⟩, by decide, ⟨by decide, by decide⟩, by decide, ⟨by decide, by decide⟩, by decide, hbw 1 (by decide), hbw 2 (by decide), hbw 3 (by decide), hbw 0 (by decide), by decide, by decide, by decide, by decide, ⟨⟨by decide, by decide⟩, rcon_byte _⟩, ?_⟩
      have key := loop_n (fun f j s => bNew.l2 R (rcon ((i - 1) / 4)) (i : Int) (upto 176 (4 * i) (kp b) fun _ => 0) f j s) 4 (fun j => upto 176 (4 * i + j) (kp b) fun _ => 0) 1 (g + 1)
        (fun f j hj hf => by
          rw [bNew.l2_succ]
          refine ⟨fun _ => ?_, fun q => ?_⟩
          · rw [e4, e1]
            simp only [InB_iff, Low_iff, Fits_iff, NonNeg_iff, NeZ_iff, nat_cast, nadd_def, nsub_def, nmul_def, Nat.zero_add]
            refine ⟨by omega, by omega, by omega, by omega, hj, by omega, by omega, by omega, ?_⟩
            have e : tab 4 (fun j => kt i (kw b (i - 1)) j) = lset (lset (lset (lset (lzeros 4) 0 (bxor IntKind.u8 (fsub (kw b (i - 1) 1)) (rcon ((i - 1) / 4)))) 1 (fsub (kw b (i - 1) 2))) 2 (fsub (kw b (i - 1) 3))) 3 (fsub (kw b (i - 1) 0)) := by
              simp only [tab, List.range_succ, List.range_zero, List.nil_append, List.map_cons, List.map_nil, List.cons_append, lset, lzeros, List.replicate, List.set, kt, q4, if_true, Nat.reduceEqDiff, if_false, Nat.reduceAdd, Nat.reduceMod]
              rw [show i / 4 - 1 = (i - 1) / 4 by omega]
            rw [ew, tab_lget _ (by decide : 1 < 4), tab_lget _ (by decide : 2 < 4), tab_lget _ (by decide : 3 < 4), tab_lget _ (by decide : 0 < 4), ← e, tab_lget _ hj]
            rw [show (i - 4) * 4 + j = 4 * (i - 4) + j by omega, show i * 4 + j = 4 * i + j by omega, word_get (by omega) (by omega) hj, lset_word hj (by rw [kw_hi _ h4 hj]), add1_i64 (by omega)]
            exact hf
          · rw [ilt_false] at q; omega)
        (by
          rw [bNew.l2_succ]
          refine ⟨fun q => ?_, fun _ => ?_⟩
          · rw [ilt_true] at q; omega
          · rw [add1_i64 (by omega)]
            have : fmul 2 (rcon ((i - 1) / 4)) = rcon ((i + 1 - 1) / 4) := by
              rw [show (i + 1 - 1) / 4 = (i - 1) / 4 + 1 by omega]; rfl
            rw [this]; exact h) 0 (Nat.zero_le _)
      exact key
    · rw [ieq_false] at q
      have q4 : ¬ i % 4 = 0 := by omega
      have key := loop_n (fun f j s => bNew.l3 R (rcon ((i - 1) / 4)) (i : Int) (upto 176 (4 * i) (kp b) fun _ => 0) f j s) 4 (fun j => upto 176 (4 * i + j) (kp b) fun _ => 0) 1 (g + 1)
        (fun f j hj hf => by
          rw [bNew.l3_succ]
          refine ⟨fun _ => ?_, fun q => ?_⟩
          · rw [e4, e1]
            simp only [InB_iff, Low_iff, Fits_iff, NonNeg_iff, NeZ_iff, nat_cast, nadd_def, nsub_def, nmul_def, Nat.zero_add]
            refine ⟨by omega, by omega, by omega, by omega, hj, by omega, by omega, by omega, ?_⟩
            rw [ew, tab_lget _ hj, show (i - 4) * 4 + j = 4 * (i - 4) + j by omega, show i * 4 + j = 4 * i + j by omega, word_get (by omega) (by omega) hj, lset_word hj (by rw [kw_hi _ h4 hj]; unfold kt; rw [if_neg q4]), add1_i64 (by omega)]
            exact hf
          · rw [ilt_false] at q; omega)
        (by
          rw [bNew.l3_succ]
          refine ⟨fun q => ?_, fun _ => ?_⟩
          · rw [ilt_true] at q; omega
          · rw [add1_i64 (by omega), show (i - 1) / 4 = (i + 1 - 1) / 4 by omega]; exact h) 0 (Nat.zero_le _)
      exact key
  · rw [ilt_false] at q; omega

theorem new_l1 {R : AV → Mem → Prop} {b : List Int} (hb : BL 16 b) (h : ∀ σ, R (.agg [.ints .u8 176 (ks b)]) σ) : bNew.l1 R (0 + 1 + 1 * 44 + 1 + 6 * (44 - 4)) 1 4 (upto 176 16 (kp b) fun _ => 0) := by
  refine loop_from (fun f i s => bNew.l1 R f s.1 i s.2) 4 44 (fun i => (rcon ((i - 1) / 4), upto 176 (4 * i) (kp b) fun _ => 0)) 6 (0 + 1 + 1 * 44 + 1) (fun g i h4 hi hg => ?_) ?_ 4 (by decide) (by decide)
  · exact new_round hb g i h4 hi hg
  · rw [bNew.l1_succ]
    refine ⟨fun q => ?_, fun _ => ?_⟩
    · rw [ilt_true] at q; omega
    · show bNew.l4 R (upto 176 176 (kp b) fun _ => 0) _ _ _
      rw [upto_done]
      exact new_l4 (tab_len _ _) h
end Go.Proofs.Ytkecbjohbihfmaa.G

/- The verification conditions of functions, printed by a program of this session out of their codes. -/
namespace Go.Proofs.Ytkecbjohbihfmaa.G
open Go Go.Sx Go.Fld Go.Blk
set_option linter.unusedVariables false
set_option maxRecDepth 100000

def rKeys.l1 (R : AV → Mem → Prop)  (fuel : Nat) (x2 : Int) (x3 : Int) (x4 : List Int) : Prop := run Try.prog gamB1 [] (resh Try.prog [] Try.f28.results.toList R) fuel [.code (cAt (bodyOf Try.f28) [1, 1, 1, 1, 0, 1, 0, 0]), .inLoop (cAt (bodyOf Try.f28) [1, 1, 1, 1, 0, 1, 0, 0]), .inBlock 2, .code (cAt (bodyOf Try.f28) [1, 1, 1, 1, 1])] [AV.undef, AV.undef, (AV.one (AC.ptr 2 0 0)), (AV.one (AC.ptr 3 0 0)), AV.undef, (AV.one (AC.int IntKind.u8 x2)), (AV.one (AC.int IntKind.i64 x3)), AV.undef, AV.undef, AV.undef, AV.undef, AV.undef, AV.undef, AV.undef, AV.undef, AV.undef, AV.undef, AV.undef, AV.undef, AV.undef, AV.undef, AV.undef, AV.undef, AV.undef, AV.undef, AV.undef, AV.undef, AV.undef, AV.undef, AV.undef, AV.undef, AV.undef, AV.undef, AV.undef, AV.undef, AV.undef, AV.undef, AV.undef, AV.undef, AV.undef, AV.undef, AV.undef, AV.undef, AV.undef, AV.undef, AV.undef, AV.undef, AV.undef, AV.undef, AV.undef, AV.undef, AV.undef, AV.undef, AV.undef, AV.undef, AV.undef, AV.undef, AV.undef, AV.undef, AV.undef, AV.undef, AV.undef, AV.undef, AV.undef, AV.undef, AV.undef, AV.undef, AV.undef, AV.undef, AV.undef, AV.undef, AV.undef, AV.undef, AV.undef, AV.undef, AV.undef, AV.undef, AV.undef, AV.undef, AV.undef, AV.undef, AV.undef, AV.undef, AV.undef, AV.undef, AV.undef, AV.undef, AV.undef, AV.undef, AV.undef, AV.undef, AV.undef, (AV.tup [])] [(2, Blk.own 33 [(Seg.ints IntKind.u8 176 (lzeros 176))]), (3, Blk.own 33 [(Seg.ints IntKind.u8 176 x4)])]

def rKeys.l0 (R : AV → Mem → Prop) (b : List Int) (fuel : Nat) (x0 : Int) (x1 : List Int) : Prop := run Try.prog gamB1 [] (resh Try.prog [] Try.f28.results.toList R) fuel [.code (cAt (bodyOf Try.f28) [1, 1, 0, 1, 0, 0]), .inLoop (cAt (bodyOf Try.f28) [1, 1, 0, 1, 0, 0]), .inBlock 0, .code (cAt (bodyOf Try.f28) [1, 1, 1])] [AV.undef, (AV.one (AC.ptr 1 0 0)), (AV.one (AC.ptr 2 0 0)), (AV.one (AC.ptr 3 0 0)), (AV.one (AC.int IntKind.i64 x0)), (AV.tup []), (AV.tup []), (AV.tup []), (AV.tup []), (AV.tup []), (AV.tup []), (AV.tup []), AV.undef, AV.undef, AV.undef, AV.undef, AV.undef, AV.undef, AV.undef, AV.undef, AV.undef, (AV.tup []), (AV.tup []), (AV.tup []), (AV.tup []), (AV.tup []), (AV.tup []), (AV.tup []), (AV.tup []), (AV.tup []), (AV.tup []), (AV.tup []), (AV.tup []), (AV.tup []), (AV.tup []), (AV.tup []), (AV.tup []), (AV.tup []), (AV.tup []), (AV.tup []), (AV.tup []), (AV.tup []), (AV.tup []), (AV.tup []), (AV.tup []), (AV.tup []), (AV.tup []), (AV.tup []), (AV.tup []), (AV.tup []), (AV.tup []), (AV.tup []), (AV.tup []), (AV.tup []), (AV.tup []), (AV.tup []), (AV.tup []), (AV.tup []), (AV.tup []), (AV.tup []), (AV.tup []), (AV.tup []), (AV.tup []), (AV.tup []), (AV.tup []), (AV.tup []), (AV.tup []), (AV.tup []), (AV.tup []), (AV.tup []), (AV.tup []), (AV.tup []), (AV.tup []), (AV.tup []), (AV.tup []), (AV.tup []), (AV.tup []), (AV.tup []), (AV.tup []), (AV.tup []), (AV.tup []), (AV.tup []), (AV.tup []), (AV.tup []), (AV.tup []), (AV.tup []), (AV.tup []), (AV.tup []), (AV.tup []), (AV.tup []), (AV.tup []), (AV.tup []), (AV.tup [])] [(1, Blk.own 22 [(Seg.ints IntKind.u8 16 b)]), (2, Blk.own 33 [(Seg.ints IntKind.u8 176 (lzeros 176))]), (3, Blk.own 33 [(Seg.ints IntKind.u8 176 x1)])]

theorem rKeys.l1_succ (R : AV → Mem → Prop)  (fuel : Nat) (x2 : Int) (x3 : Int) (x4 : List Int) : rKeys.l1 R  (fuel + 1) x2 x3 x4 = (((((ilt x3 176) = true) → ((InB (sub IntKind.i64 x3 4) 176) ∧ ((Low (nadd 0 (nat (sub IntKind.i64 x3 4))) 176) ∧ ((InB (sub IntKind.i64 x3 3) 176) ∧ ((Low (nadd 0 (nat (sub IntKind.i64 x3 3))) 176) ∧ ((InB (sub IntKind.i64 x3 2) 176) ∧ ((Low (nadd 0 (nat (sub IntKind.i64 x3 2))) 176) ∧ ((InB (sub IntKind.i64 x3 1) 176) ∧ ((Low (nadd 0 (nat (sub IntKind.i64 x3 1))) 176) ∧ ((NeZ 16) ∧ ((((ieq (rem x3 16) 0) = true) → ((InB (lget x4 (nadd 0 (nat (sub IntKind.i64 x3 3)))) 256) ∧ ((InB (lget x4 (nadd 0 (nat (sub IntKind.i64 x3 2)))) 256) ∧ ((InB (lget x4 (nadd 0 (nat (sub IntKind.i64 x3 1)))) 256) ∧ (let y5 : Int := (bxor IntKind.u8 (sget boxC (nat (lget x4 (nadd 0 (nat (sub IntKind.i64 x3 3)))))) x2); (let y6 : Int := (sget boxC (nat (lget x4 (nadd 0 (nat (sub IntKind.i64 x3 2)))))); (let y7 : Int := (sget boxC (nat (lget x4 (nadd 0 (nat (sub IntKind.i64 x3 1)))))); (let y8 : Int := (sget boxC (nat (lget x4 (nadd 0 (nat (sub IntKind.i64 x3 3)))))); ((InB (lget x4 (nadd 0 (nat (sub IntKind.i64 x3 4)))) 256) ∧ (let y9 : Int := (sget boxC (nat (lget x4 (nadd 0 (nat (sub IntKind.i64 x3 4)))))); ((Byte x2) ∧ ((InB (sub IntKind.i64 x3 16) 176) ∧ ((Low (nadd 0 (nat (sub IntKind.i64 x3 16))) 176) ∧ ((InB x3 176) ∧ ((Low (nadd 0 (nat x3)) 176) ∧ (let y10 : List Int := (lset x4 (nadd 0 (nat x3)) (bxor IntKind.u8 (lget x4 (nadd 0 (nat (sub IntKind.i64 x3 16)))) y5)); ((InB (sub IntKind.i64 x3 15) 176) ∧ ((Low (nadd 0 (nat (sub IntKind.i64 x3 15))) 176) ∧ ((InB (add IntKind.i64 x3 1) 176) ∧ ((Low (nadd 0 (nat (add IntKind.i64 x3 1))) 176) ∧ (let y11 : List Int := (lset y10 (nadd 0 (nat (add IntKind.i64 x3 1))) (bxor IntKind.u8 (lget y10 (nadd 0 (nat (sub IntKind.i64 x3 15)))) y6)); ((InB (sub IntKind.i64 x3 14) 176) ∧ ((Low (nadd 0 (nat (sub IntKind.i64 x3 14))) 176) ∧ ((InB (add IntKind.i64 x3 2) 176) ∧ ((Low (nadd 0 (nat (add IntKind.i64 x3 2))) 176) ∧ (let y12 : List Int := (lset y11 (nadd 0 (nat (add IntKind.i64 x3 2))) (bxor IntKind.u8 (lget y11 (nadd 0 (nat (sub IntKind.i64 x3 14)))) y7)); ((InB (sub IntKind.i64 x3 13) 176) ∧ ((Low (nadd 0 (nat (sub IntKind.i64 x3 13))) 176) ∧ ((InB (add IntKind.i64 x3 3) 176) ∧ ((Low (nadd 0 (nat (add IntKind.i64 x3 3))) 176) ∧ (let y13 : List Int := (lset y12 (nadd 0 (nat (add IntKind.i64 x3 3))) (bxor IntKind.u8 (lget y12 (nadd 0 (nat (sub IntKind.i64 x3 13)))) y9)); (rKeys.l1 R  fuel (fmul 2 x2) (add IntKind.i64 x3 4) y13)))))))))))))))))))))))))))))))) ∧ (((ieq (rem x3 16) 0) = false) → ((InB (sub IntKind.i64 x3 16) 176) ∧ ((Low (nadd 0 (nat (sub IntKind.i64 x3 16))) 176) ∧ ((InB x3 176) ∧ ((Low (nadd 0 (nat x3)) 176) ∧ (let y14 : Int := (bxor IntKind.u8 (lget x4 (nadd 0 (nat (sub IntKind.i64 x3 16)))) (lget x4 (nadd 0 (nat (sub IntKind.i64 x3 4))))); (let y15 : List Int := (lset x4 (nadd 0 (nat x3)) (bxor IntKind.u8 (lget x4 (nadd 0 (nat (sub IntKind.i64 x3 16)))) (lget x4 (nadd 0 (nat (sub IntKind.i64 x3 4)))))); ((InB (sub IntKind.i64 x3 15) 176) ∧ ((Low (nadd 0 (nat (sub IntKind.i64 x3 15))) 176) ∧ ((InB (add IntKind.i64 x3 1) 176) ∧ ((Low (nadd 0 (nat (add IntKind.i64 x3 1))) 176) ∧ (let y16 : Int := (bxor IntKind.u8 (lget y15 (nadd 0 (nat (sub IntKind.i64 x3 15)))) (lget x4 (nadd 0 (nat (sub IntKind.i64 x3 3))))); (let y17 : List Int := (lset y15 (nadd 0 (nat (add IntKind.i64 x3 1))) (bxor IntKind.u8 (lget y15 (nadd 0 (nat (sub IntKind.i64 x3 15)))) (lget x4 (nadd 0 (nat (sub IntKind.i64 x3 3)))))); ((InB (sub IntKind.i64 x3 14) 176) ∧ ((Low (nadd 0 (nat (sub IntKind.i64 x3 14))) 176) ∧ ((InB (add IntKind.i64 x3 2) 176) ∧ ((Low (nadd 0 (nat (add IntKind.i64 x3 2))) 176) ∧ (let y18 : Int := (bxor IntKind.u8 (lget y17 (nadd 0 (nat (sub IntKind.i64 x3 14)))) (lget x4 (nadd 0 (nat (sub IntKind.i64 x3 2))))); (let y19 : List Int := (lset y17 (nadd 0 (nat (add IntKind.i64 x3 2))) (bxor IntKind.u8 (lget y17 (nadd 0 (nat (sub IntKind.i64 x3 14)))) (lget x4 (nadd 0 (nat (sub IntKind.i64 x3 2)))))); ((InB (sub IntKind.i64 x3 13) 176) ∧ ((Low (nadd 0 (nat (sub IntKind.i64 x3 13))) 176) ∧ ((InB (add IntKind.i64 x3 3) 176) ∧ ((Low (nadd 0 (nat (add IntKind.i64 x3 3))) 176) ∧ (let y20 : Int := (bxor IntKind.u8 (lget y19 (nadd 0 (nat (sub IntKind.i64 x3 13)))) (lget x4 (nadd 0 (nat (sub IntKind.i64 x3 1))))); (let y21 : List Int := (lset y19 (nadd 0 (nat (add IntKind.i64 x3 3))) (bxor IntKind.u8 (lget y19 (nadd 0 (nat (sub IntKind.i64 x3 13)))) (lget x4 (nadd 0 (nat (sub IntKind.i64 x3 1)))))); (rKeys.l1 R  fuel x2 (add IntKind.i64 x3 4) y21))))))))))))))))))))))))))))))))))))) ∧ (((ilt x3 176) = false) → (R (AV.agg [(Seg.ints IntKind.u8 176 x4)]) [(2, Blk.own 33 [(Seg.ints IntKind.u8 176 x4)]), (3, Blk.own 33 [(Seg.ints IntKind.u8 176 x4)])])))) := by kernel_rfl
theorem rKeys.l1_zero (R : AV → Mem → Prop)  (x2 : Int) (x3 : Int) (x4 : List Int) : rKeys.l1 R  0 x2 x3 x4 = False := by kernel_rfl

theorem rKeys.l0_succ (R : AV → Mem → Prop) (b : List Int) (fuel : Nat) (x0 : Int) (x1 : List Int) : rKeys.l0 R b (fuel + 1) x0 x1 = (((((ilt x0 16) = true) → ((InB x0 16) ∧ ((Low (nadd 0 (nat x0)) 16) ∧ ((InB x0 176) ∧ ((Low (nadd 0 (nat x0)) 176) ∧ (rKeys.l0 R b fuel (add IntKind.i64 x0 1) (lset x1 (nadd 0 (nat x0)) (lget b (nadd 0 (nat x0)))))))))) ∧ (((ilt x0 16) = false) → (rKeys.l1 R  fuel 1 16 x1)))) := by kernel_rfl
theorem rKeys.l0_zero (R : AV → Mem → Prop) (b : List Int) (x0 : Int) (x1 : List Int) : rKeys.l0 R b 0 x0 x1 = False := by kernel_rfl

theorem rKeys_vc (R : AV → Mem → Prop) (fuel : Nat) (b : List Int) : callsx Try.prog gamB1 [] Try.f28 (fuel + 1) [.agg [.ints .u8 16 b]] [] R = ((rKeys.l0 R b fuel 0 (lzeros 176))) := by kernel_rfl

theorem rtwice_vc (R : AV → Mem → Prop) (fuel : Nat) (b : Int) : callsx Try.prog gam0 [] Try.f44 (fuel + 1) [.one (.int .u8 b)] [] R = (((((ige b 128) = true) → ((NonNeg 1) ∧ (R (AV.one (AC.int IntKind.u8 (bxor IntKind.u8 (shl IntKind.u8 b 1) 27))) []))) ∧ (((ige b 128) = false) → ((NonNeg 1) ∧ (R (AV.one (AC.int IntKind.u8 (shl IntKind.u8 b 1))) []))))) := by kernel_rfl

def radded.l0 (R : AV → Mem → Prop) (i : Int) (k : List Int) (fuel : Nat) (x0 : Int) (x1 : List Int) : Prop := run Try.prog gam0 [] (resh Try.prog [] Try.f36.results.toList R) fuel [.code (cAt (bodyOf Try.f36) [1, 0, 1, 0, 0]), .inLoop (cAt (bodyOf Try.f36) [1, 0, 1, 0, 0]), .inBlock 0, .code (cAt (bodyOf Try.f36) [1, 1])] [AV.undef, AV.undef, (AV.one (AC.int IntKind.i64 i)), (AV.one (AC.ptr 3 0 0)), (AV.one (AC.ptr 4 0 0)), AV.undef, (AV.one (AC.ptr 6 0 0)), (AV.one (AC.int IntKind.i64 x0)), AV.undef, AV.undef, AV.undef, AV.undef, AV.undef, AV.undef, AV.undef, AV.undef, AV.undef, AV.undef, AV.undef, AV.undef, AV.undef, AV.undef, AV.undef, (AV.tup [])] [(3, Blk.own 22 [(Seg.ints IntKind.u8 16 x1)]), (4, Blk.own 33 [(Seg.ints IntKind.u8 176 k)]), (6, Blk.own 22 [(Seg.ints IntKind.u8 16 (lzeros 16))])]

theorem radded.l0_succ (R : AV → Mem → Prop) (i : Int) (k : List Int) (fuel : Nat) (x0 : Int) (x1 : List Int) : radded.l0 R i k (fuel + 1) x0 x1 = (((((ilt x0 16) = true) → ((InB x0 16) ∧ ((Low (nadd 0 (nat x0)) 16) ∧ ((InB (add IntKind.i64 (mul IntKind.i64 16 i) x0) 176) ∧ ((Low (nadd 0 (nat (add IntKind.i64 (mul IntKind.i64 16 i) x0))) 176) ∧ ((InB x0 16) ∧ ((Low (nadd 0 (nat x0)) 16) ∧ (let y2 : Int := (bxor IntKind.u8 (lget x1 (nadd 0 (nat x0))) (lget k (nadd 0 (nat (add IntKind.i64 (mul IntKind.i64 16 i) x0))))); (let y3 : List Int := (lset x1 (nadd 0 (nat x0)) (bxor IntKind.u8 (lget x1 (nadd 0 (nat x0))) (lget k (nadd 0 (nat (add IntKind.i64 (mul IntKind.i64 16 i) x0)))))); (radded.l0 R i k fuel (add IntKind.i64 x0 1) y3)))))))))) ∧ (((ilt x0 16) = false) → (R (AV.agg [(Seg.ints IntKind.u8 16 x1)]) [(3, Blk.own 22 [(Seg.ints IntKind.u8 16 x1)]), (4, Blk.own 33 [(Seg.ints IntKind.u8 176 k)]), (6, Blk.own 22 [(Seg.ints IntKind.u8 16 x1)])])))) := by kernel_rfl
theorem radded.l0_zero (R : AV → Mem → Prop) (i : Int) (k : List Int) (x0 : Int) (x1 : List Int) : radded.l0 R i k 0 x0 x1 = False := by kernel_rfl

theorem radded_vc (R : AV → Mem → Prop) (fuel : Nat) (b : List Int) (k : List Int) (i : Int) : callsx Try.prog gam0 [] Try.f36 (fuel + 1) [.agg [.ints .u8 16 b], .agg [.ints .u8 176 k], .one (.int .i64 i)] [] R = ((radded.l0 R i k fuel 0 b)) := by kernel_rfl

def rmixed.l1 (R : AV → Mem → Prop) (x0 : Int) (y2 : Int) (b : List Int) (y3 : Int) (fuel : Nat) (x4 : Int) (x5 : List Int) : Prop := run Try.prog gamB1 [] (resh Try.prog [] Try.f37.results.toList R) fuel [.code (cAt (bodyOf Try.f37) [1, 1, 0, 1, 0, 0, 1, 0, 0, 1, 1, 0, 0]), .inLoop (cAt (bodyOf Try.f37) [1, 1, 0, 1, 0, 0, 1, 0, 0, 1, 1, 0, 0]), .inBlock 2, .inBlock 1, .code (cAt (bodyOf Try.f37) [1, 1, 0, 1, 0, 0, 1, 1]), .inLoop (cAt (bodyOf Try.f37) [1, 1, 0, 1, 0, 0]), .inBlock 0, .code (cAt (bodyOf Try.f37) [1, 1, 1])] [AV.undef, (AV.one (AC.ptr 1 0 0)), (AV.one (AC.ptr 2 0 0)), (AV.one (AC.ptr 3 0 0)), (AV.one (AC.int IntKind.i64 x0)), (AV.one (AC.int IntKind.u8 y2)), (AV.one (AC.int IntKind.i64 x4)), (AV.one (AC.int IntKind.i64 x0)), (AV.one (AC.lit true)), AV.undef, AV.undef, (AV.one (AC.int IntKind.i64 x0)), (AV.one (AC.ptr 1 0 (nadd 0 (nat x0)))), (AV.one (AC.int IntKind.u8 (lget b (nadd 0 (nat x0))))), (AV.one (AC.int IntKind.i64 x0)), (AV.one (AC.int IntKind.i64 (add IntKind.i64 x0 1))), (AV.one (AC.ptr 1 0 (nadd 0 (nat (add IntKind.i64 x0 1))))), (AV.one (AC.int IntKind.u8 (lget b (nadd 0 (nat (add IntKind.i64 x0 1)))))), (AV.one (AC.int IntKind.u8 (bxor IntKind.u8 (lget b (nadd 0 (nat x0))) (lget b (nadd 0 (nat (add IntKind.i64 x0 1))))))), (AV.one (AC.int IntKind.i64 x0)), (AV.one (AC.int IntKind.i64 (add IntKind.i64 x0 2))), (AV.one (AC.ptr 1 0 (nadd 0 (nat (add IntKind.i64 x0 2))))), (AV.one (AC.int IntKind.u8 (lget b (nadd 0 (nat (add IntKind.i64 x0 2)))))), (AV.one (AC.int IntKind.u8 y3)), (AV.one (AC.int IntKind.i64 x0)), (AV.one (AC.int IntKind.i64 (add IntKind.i64 x0 3))), (AV.one (AC.ptr 1 0 (nadd 0 (nat (add IntKind.i64 x0 3))))), (AV.one (AC.int IntKind.u8 (lget b (nadd 0 (nat (add IntKind.i64 x0 3)))))), (AV.one (AC.int IntKind.u8 y2)), AV.undef, AV.undef, AV.undef, AV.undef, AV.undef, AV.undef, AV.undef, AV.undef, AV.undef, AV.undef, AV.undef, AV.undef, AV.undef, AV.undef, AV.undef, AV.undef, AV.undef, AV.undef, AV.undef, AV.undef, AV.undef, AV.undef, AV.undef, AV.undef, AV.undef, AV.undef, AV.undef, AV.undef, AV.undef, AV.undef, (AV.tup [])] [(1, Blk.own 22 [(Seg.ints IntKind.u8 16 b)]), (2, Blk.own 22 [(Seg.ints IntKind.u8 16 (lzeros 16))]), (3, Blk.own 22 [(Seg.ints IntKind.u8 16 x5)])]

def rmixed.l0 (R : AV → Mem → Prop) (b : List Int) (fuel : Nat) (x0 : Int) (x1 : List Int) : Prop := run Try.prog gamB1 [] (resh Try.prog [] Try.f37.results.toList R) fuel [.code (cAt (bodyOf Try.f37) [1, 1, 0, 1, 0, 0]), .inLoop (cAt (bodyOf Try.f37) [1, 1, 0, 1, 0, 0]), .inBlock 0, .code (cAt (bodyOf Try.f37) [1, 1, 1])] [AV.undef, (AV.one (AC.ptr 1 0 0)), (AV.one (AC.ptr 2 0 0)), (AV.one (AC.ptr 3 0 0)), (AV.one (AC.int IntKind.i64 x0)), AV.undef, AV.undef, AV.undef, AV.undef, AV.undef, AV.undef, AV.undef, AV.undef, AV.undef, AV.undef, AV.undef, AV.undef, AV.undef, AV.undef, AV.undef, AV.undef, AV.undef, AV.undef, AV.undef, AV.undef, AV.undef, AV.undef, AV.undef, AV.undef, AV.undef, AV.undef, AV.undef, AV.undef, AV.undef, AV.undef, AV.undef, AV.undef, AV.undef, AV.undef, AV.undef, AV.undef, AV.undef, AV.undef, AV.undef, AV.undef, AV.undef, AV.undef, AV.undef, AV.undef, AV.undef, AV.undef, AV.undef, AV.undef, AV.undef, AV.undef, AV.undef, AV.undef, AV.undef, AV.undef, (AV.tup [])] [(1, Blk.own 22 [(Seg.ints IntKind.u8 16 b)]), (2, Blk.own 22 [(Seg.ints IntKind.u8 16 (lzeros 16))]), (3, Blk.own 22 [(Seg.ints IntKind.u8 16 x1)])]

theorem rmixed.l1_succ (R : AV → Mem → Prop) (x0 : Int) (y2 : Int) (b : List Int) (y3 : Int) (fuel : Nat) (x4 : Int) (x5 : List Int) : rmixed.l1 R x0 y2 b y3 (fuel + 1) x4 x5 = (((((ilt x4 4) = true) → ((InB (add IntKind.i64 x0 x4) 16) ∧ ((Low (nadd 0 (nat (add IntKind.i64 x0 x4))) 16) ∧ ((InB (add IntKind.i64 x0 x4) 16) ∧ ((Low (nadd 0 (nat (add IntKind.i64 x0 x4))) 16) ∧ ((NeZ 4) ∧ ((InB (add IntKind.i64 x0 (rem (add IntKind.i64 x4 1) 4)) 16) ∧ ((Low (nadd 0 (nat (add IntKind.i64 x0 (rem (add IntKind.i64 x4 1) 4)))) 16) ∧ ((Byte (bxor IntKind.u8 (lget b (nadd 0 (nat (add IntKind.i64 x0 x4)))) (lget b (nadd 0 (nat (add IntKind.i64 x0 (rem (add IntKind.i64 x4 1) 4))))))) ∧ ((InB (add IntKind.i64 x0 x4) 16) ∧ ((Low (nadd 0 (nat (add IntKind.i64 x0 x4))) 16) ∧ (let y6 : Int := (bxor IntKind.u8 (lget b (nadd 0 (nat (add IntKind.i64 x0 x4)))) (lget b (nadd 0 (nat (add IntKind.i64 x0 (rem (add IntKind.i64 x4 1) 4)))))); (let y7 : Int := (fmul 2 (bxor IntKind.u8 (lget b (nadd 0 (nat (add IntKind.i64 x0 x4)))) (lget b (nadd 0 (nat (add IntKind.i64 x0 (rem (add IntKind.i64 x4 1) 4))))))); (let y8 : Int := (bxor IntKind.u8 (bxor IntKind.u8 (lget b (nadd 0 (nat (add IntKind.i64 x0 x4)))) y2) (fmul 2 (bxor IntKind.u8 (lget b (nadd 0 (nat (add IntKind.i64 x0 x4)))) (lget b (nadd 0 (nat (add IntKind.i64 x0 (rem (add IntKind.i64 x4 1) 4)))))))); (let y9 : List Int := (lset x5 (nadd 0 (nat (add IntKind.i64 x0 x4))) (bxor IntKind.u8 (bxor IntKind.u8 (lget b (nadd 0 (nat (add IntKind.i64 x0 x4)))) y2) (fmul 2 (bxor IntKind.u8 (lget b (nadd 0 (nat (add IntKind.i64 x0 x4)))) (lget b (nadd 0 (nat (add IntKind.i64 x0 (rem (add IntKind.i64 x4 1) 4))))))))); (rmixed.l1 R x0 y2 b y3 fuel (add IntKind.i64 x4 1) y9)))))))))))))))) ∧ (((ilt x4 4) = false) → (rmixed.l0 R b fuel (add IntKind.i64 x0 4) x5)))) := by kernel_rfl
theorem rmixed.l1_zero (R : AV → Mem → Prop) (x0 : Int) (y2 : Int) (b : List Int) (y3 : Int) (x4 : Int) (x5 : List Int) : rmixed.l1 R x0 y2 b y3 0 x4 x5 = False := by kernel_rfl

theorem rmixed.l0_succ (R : AV → Mem → Prop) (b : List Int) (fuel : Nat) (x0 : Int) (x1 : List Int) : rmixed.l0 R b (fuel + 1) x0 x1 = (((((ilt x0 16) = true) → ((InB x0 16) ∧ ((Low (nadd 0 (nat x0)) 16) ∧ ((InB (add IntKind.i64 x0 1) 16) ∧ ((Low (nadd 0 (nat (add IntKind.i64 x0 1))) 16) ∧ ((InB (add IntKind.i64 x0 2) 16) ∧ ((Low (nadd 0 (nat (add IntKind.i64 x0 2))) 16) ∧ ((InB (add IntKind.i64 x0 3) 16) ∧ ((Low (nadd 0 (nat (add IntKind.i64 x0 3))) 16) ∧ (let y2 : Int := (bxor IntKind.u8 (bxor IntKind.u8 (bxor IntKind.u8 (lget b (nadd 0 (nat x0))) (lget b (nadd 0 (nat (add IntKind.i64 x0 1))))) (lget b (nadd 0 (nat (add IntKind.i64 x0 2))))) (lget b (nadd 0 (nat (add IntKind.i64 x0 3))))); (let y3 : Int := (bxor IntKind.u8 (bxor IntKind.u8 (lget b (nadd 0 (nat x0))) (lget b (nadd 0 (nat (add IntKind.i64 x0 1))))) (lget b (nadd 0 (nat (add IntKind.i64 x0 2))))); (rmixed.l1 R x0 y2 b y3 fuel 0 x1)))))))))))) ∧ (((ilt x0 16) = false) → (R (AV.agg [(Seg.ints IntKind.u8 16 x1)]) [(1, Blk.own 22 [(Seg.ints IntKind.u8 16 b)]), (2, Blk.own 22 [(Seg.ints IntKind.u8 16 x1)]), (3, Blk.own 22 [(Seg.ints IntKind.u8 16 x1)])])))) := by kernel_rfl
theorem rmixed.l0_zero (R : AV → Mem → Prop) (b : List Int) (x0 : Int) (x1 : List Int) : rmixed.l0 R b 0 x0 x1 = False := by kernel_rfl

theorem rmixed_vc (R : AV → Mem → Prop) (fuel : Nat) (b : List Int) : callsx Try.prog gamB1 [] Try.f37 (fuel + 1) [.agg [.ints .u8 16 b]] [] R = ((rmixed.l0 R b fuel 0 (lzeros 16))) := by kernel_rfl

def rback.l0 (R : AV → Mem → Prop)  (fuel : Nat) (x0 : Int) (x1 : List Int) : Prop := run Try.prog gam0 [] (resh Try.prog [] Try.f35.results.toList R) fuel [.code (cAt (bodyOf Try.f35) [1, 1, 0, 1, 0, 0]), .inLoop (cAt (bodyOf Try.f35) [1, 1, 0, 1, 0, 0]), .inBlock 0, .code (cAt (bodyOf Try.f35) [1, 1, 1])] [(AV.one (AC.ptr 0 0 0)), (AV.one (AC.ptr 1 0 0)), (AV.one (AC.int IntKind.i64 x0)), AV.undef, AV.undef, AV.undef, AV.undef, AV.undef, AV.undef, AV.undef, AV.undef, AV.undef, (AV.tup [])] [(0, Blk.own 60 [(Seg.ints IntKind.u8 256 (lzeros 256))]), (1, Blk.own 60 [(Seg.ints IntKind.u8 256 x1)])]

theorem rback.l0_succ (R : AV → Mem → Prop)  (fuel : Nat) (x0 : Int) (x1 : List Int) : rback.l0 R  (fuel + 1) x0 x1 = (((((ilt x0 256) = true) → ((InB x0 256) ∧ ((InB (sget boxC (nat x0)) 256) ∧ ((Low (nadd 0 (nat (sget boxC (nat x0)))) 256) ∧ (let y2 : Int := (sget boxC (nat x0)); (let y3 : Nat := (nadd 0 (nat (sget boxC (nat x0)))); (let y4 : List Int := (lset x1 (nadd 0 (nat (sget boxC (nat x0)))) (conv IntKind.u8 x0)); (rback.l0 R  fuel (add IntKind.i64 x0 1) y4)))))))) ∧ (((ilt x0 256) = false) → (R (AV.agg [(Seg.ints IntKind.u8 256 x1)]) [(0, Blk.own 60 [(Seg.ints IntKind.u8 256 x1)]), (1, Blk.own 60 [(Seg.ints IntKind.u8 256 x1)])])))) := by kernel_rfl
theorem rback.l0_zero (R : AV → Mem → Prop)  (x0 : Int) (x1 : List Int) : rback.l0 R  0 x0 x1 = False := by kernel_rfl

theorem rback_vc (R : AV → Mem → Prop) (fuel : Nat)  : callsx Try.prog gam0 [] Try.f35 (fuel + 1) [] [] R = ((rback.l0 R  fuel 0 (lzeros 256))) := by kernel_rfl

def rnext.l0 (R : AV → Mem → Prop)  (fuel : Nat) (x0 : Int) (x1 : List Int) : Prop := run Try.prog gam0 [] (resh Try.prog [] Try.f40.results.toList R) fuel [.code (cAt (bodyOf Try.f40) [1, 0, 1, 0, 0]), .inLoop (cAt (bodyOf Try.f40) [1, 0, 1, 0, 0]), .inBlock 0, .code (cAt (bodyOf Try.f40) [1, 1])] [AV.undef, (AV.one (AC.ptr 1 0 0)), (AV.one (AC.ptr 2 0 0)), (AV.one (AC.int IntKind.i64 x0)), AV.undef, AV.undef, AV.undef, AV.undef, AV.undef, AV.undef, AV.undef, AV.undef, AV.undef, AV.undef, AV.undef, AV.undef, AV.undef, AV.undef, (AV.tup [])] [(1, Blk.own 22 [(Seg.ints IntKind.u8 16 x1)]), (2, Blk.own 22 [(Seg.ints IntKind.u8 16 (lzeros 16))])]

theorem rnext.l0_succ (R : AV → Mem → Prop)  (fuel : Nat) (x0 : Int) (x1 : List Int) : rnext.l0 R  (fuel + 1) x0 x1 = (((((ige x0 0) = true) → ((InB x0 16) ∧ ((Low (nadd 0 (nat x0)) 16) ∧ ((InB x0 16) ∧ ((Low (nadd 0 (nat x0)) 16) ∧ ((InB x0 16) ∧ ((Low (nadd 0 (nat x0)) 16) ∧ (let y2 : Int := (lget (lset x1 (nadd 0 (nat x0)) (add IntKind.u8 (lget x1 (nadd 0 (nat x0))) 1)) (nadd 0 (nat x0))); (let y3 : Bool := (ine (lget (lset x1 (nadd 0 (nat x0)) (add IntKind.u8 (lget x1 (nadd 0 (nat x0))) 1)) (nadd 0 (nat x0))) 0); (((y3 = true) → (R (AV.agg [(Seg.ints IntKind.u8 16 (lset x1 (nadd 0 (nat x0)) (add IntKind.u8 (lget x1 (nadd 0 (nat x0))) 1)))]) [(1, Blk.own 22 [(Seg.ints IntKind.u8 16 (lset x1 (nadd 0 (nat x0)) (add IntKind.u8 (lget x1 (nadd 0 (nat x0))) 1)))]), (2, Blk.own 22 [(Seg.ints IntKind.u8 16 (lset x1 (nadd 0 (nat x0)) (add IntKind.u8 (lget x1 (nadd 0 (nat x0))) 1)))])])) ∧ ((y3 = false) → (rnext.l0 R  fuel (sub IntKind.i64 x0 1) (lset x1 (nadd 0 (nat x0)) (add IntKind.u8 (lget x1 (nadd 0 (nat x0))) 1)))))))))))))) ∧ (((ige x0 0) = false) → (R (AV.agg [(Seg.ints IntKind.u8 16 x1)]) [(1, Blk.own 22 [(Seg.ints IntKind.u8 16 x1)]), (2, Blk.own 22 [(Seg.ints IntKind.u8 16 x1)])])))) := by kernel_rfl
theorem rnext.l0_zero (R : AV → Mem → Prop)  (x0 : Int) (x1 : List Int) : rnext.l0 R  0 x0 x1 = False := by kernel_rfl

theorem rnext_vc (R : AV → Mem → Prop) (fuel : Nat) (b : List Int) : callsx Try.prog gam0 [] Try.f40 (fuel + 1) [.agg [.ints .u8 16 b]] [] R = ((rnext.l0 R  fuel 15 b)) := by kernel_rfl

end Go.Proofs.Ytkecbjohbihfmaa.G

/- The program's inner functions, each as it is known. -/
namespace Go.Proofs.Ytkecbjohbihfmaa.G
open Go Go.Sx Go.Fld Go.Blk
set_option linter.unusedSimpArgs false
set_option linter.unusedVariables false

theorem plain_con (v : Value) : plainAV (.one (.con v)) := fun _ => rfl

theorem good_rtwice : Sx.Good Try.prog 44 twiceS := by
  refine Sx.Good.pure (D := []) mixed (good0 _) Try.func44 (by kernel_rfl) rfl fun d args σ K h => ?_
  simp only [twiceS] at h
  split at h <;> try exact h.elim
  rename_i b
  obtain ⟨hb, hK⟩ := h
  refine ⟨by simp [plain_int], _, plain_int _ _, hK, 0 + 1, ?_⟩
  rw [rtwice_vc]
  obtain ⟨i, hi, rfl⟩ := hb.nat
  have key : ∀ i : Nat, i < 256 → fmul 2 (i : Int) = if 128 ≤ i then bxor .u8 (shl .u8 (i : Int) 1) 27 else shl .u8 (i : Int) 1 := by decide +kernel
  refine ⟨fun q => ⟨⟨by decide⟩, ?_⟩, fun q => ⟨⟨by decide⟩, ?_⟩⟩
  · rw [ige_true] at q; rw [key i hi, if_pos (by omega)]
  · rw [ige_false] at q; rw [key i hi, if_neg (by omega)]

theorem gamB1_good : GoodG Try.prog gamB1 := gamB1'_good.ext good_rtwice ⟨_, Try.func44, by decide, by kernel_rfl⟩

theorem good_turned' : Sx.Good Try.prog 30 turnedS := by
  refine Sx.Good.pure (D := []) mixed (good0 _) Try.func30 (by kernel_rfl) rfl fun d args σ K h => ?_
  simp only [turnedS] at h
  split at h <;> try exact h.elim
  rename_i b n
  obtain ⟨⟨hb, hn⟩, hK⟩ := h
  obtain ⟨i, rfl⟩ := Int.eq_ofNat_of_zero_le hn.lo
  have hi := hn.hi
  refine ⟨by simp [plain_int, plain_ints], _, plain_ints _ _ _, hK, 25 + 1, ?_⟩
  rw [bturned_vc]
  exact turned_run hb (by omega) fun σ => rfl

theorem good_columns : Sx.Good Try.prog 33 columnsS := by
  refine Sx.Good.pure (D := []) mixed gam6_good Try.func33 (by kernel_rfl) rfl fun d args σ K h => ?_
  simp only [columnsS] at h
  split at h <;> try exact h.elim
  rename_i b x
  split at h <;> try exact h.elim
  rename_i f hf
  obtain ⟨hb, hK⟩ := h
  cases hx : conFn x with
  | none => rw [hx] at hf; cases hf
  | some g =>
    obtain rfl := conFn_eq hx
    rw [hx] at hf
    simp only [Option.bind_some, colOf] at hf
    split at hf
    · rename_i e; subst e; cases hf
      refine ⟨by simp [plain_ints, plain_con], _, plain_ints _ _ _, hK, 5 + 1, ?_⟩
      rw [colsC_vc]
      exact colsC_run hb 0 fun σ => rfl
    · split at hf
      · rename_i e; subst e; cases hf
        refine ⟨by simp [plain_ints, plain_con], _, plain_ints _ _ _, hK, 5 + 1, ?_⟩
        rw [colsU_vc]
        exact colsU_run hb 0 fun σ => rfl
      · cases hf

theorem good_new : Sx.Good Try.prog 10 keysS := by
  refine Sx.Good.pure (D := []) mixed gam6_good Try.func10 (by kernel_rfl) rfl fun d args σ K h => ?_
  simp only [keysS] at h
  split at h <;> try exact h.elim
  rename_i b
  obtain ⟨hb, hK⟩ := h
  refine ⟨by simp [plain_ints], _, plain_ints _ _ _, hK, (0 + 1 + 1 * 44 + 1 + 6 * (44 - 4)) + 1 + 1 * 4 + 1, ?_⟩
  rw [bNew_vc]
  exact new_l0 hb (new_l1 hb fun σ => rfl)

theorem good_next : Sx.Good Try.prog 39 nextS := by
  refine Sx.Good.pure (D := []) mixed (good0 _) Try.func39 (by kernel_rfl) rfl fun d args σ K h => ?_
  simp only [nextS] at h
  split at h <;> try exact h.elim
  rename_i b
  obtain ⟨hb, hK⟩ := h
  refine ⟨by simp [plain_ints], _, plain_ints _ _ _, hK, 17 + 1, ?_⟩
  rw [bnext_vc]
  exact next_run (fun _ _ _ => trivial) (fun σ => rfl) 16 b (Nat.le_refl _) hb.len rfl

theorem good_each : Sx.Good Try.prog 31 eachSp := by
  refine Sx.Good.reads (D := []) mixed gamB1_good Try.func31 (by kernel_rfl) rfl fun d args σ K h => ?_
  simp only [eachSp] at h
  split at h <;> try exact h.elim
  rename_i b x
  unfold fnx at h
  split at h
  · rename_i g hg
    obtain rfl := conFn_eq hg
    split at h <;> try exact h.elim
    rename_i f hf
    obtain ⟨hb, hK⟩ := h
    unfold subOf at hf
    split at hf
    · rename_i e; subst e; cases hf
      refine ⟨_, [], .plain (plain_ints _ _ _) (.plain (plain_con _) (.nil _)), by simp, 17 + 1, ?_⟩
      rw [eachS_vc]
      exact eachS_run hb 0 fun σ' => res_arr rfl hK
    · split at hf
      · rename_i e; subst e; cases hf
        refine ⟨_, [], .plain (plain_ints _ _ _) (.plain (plain_con _) (.nil _)), by simp, 17 + 1, ?_⟩
        rw [eachU_vc]
        exact eachU_run hb 0 fun σ' => res_arr rfl hK
      · cases hf
  · split at h <;> try exact h.elim
    rename_i n hn
    obtain rfl := isTold_eq hn
    split at h <;> try exact h.elim
    rename_i bk hbk
    split at h <;> try exact h.elim
    rename_i t ht
    obtain ⟨hT, hb, hK⟩ := h
    refine ⟨[.agg [.ints .u8 16 b], .one (.clo 38 200001 0 0)], [(200001, .view [.ints .u8 256 t])], .plain (plain_ints _ _ _) (ht ▸ .clo hbk (by rw [ht]; intro m; rfl) (.nil _)), by simp, 17 + 1, ?_⟩
    rw [eachT_vc]
    exact eachT_run hb hT 0 fun σ' => res_arr rfl hK
end Go.Proofs.Ytkecbjohbihfmaa.G

/- The field's laws: plain mathematics. -/
namespace Go.Fld

theorem x0 (a : Nat) : a ^^^ 0 = a := Nat.xor_zero a

theorem gl_acc : ∀ (d a b s t : Nat), gl d a b (s ^^^ t) = s ^^^ gl d a b t
  | 0, _, _, _, _ => rfl
  | d + 1, a, b, s, t => by
    simp only [gl]
    split
    · rw [Nat.xor_assoc, gl_acc]
    · rw [gl_acc]

theorem gl_zero (d a b s : Nat) : gl d a b s = s ^^^ gl d a b 0 := by
  have := gl_acc d a b s 0
  rwa [Nat.xor_zero] at this

theorem xt_lin : ∀ a, a < 256 → ∀ b, b < 256 → xt (a ^^^ b) = xt a ^^^ xt b := by decide +kernel

theorem xor4 (a b c d : Nat) : (a ^^^ b) ^^^ (c ^^^ d) = (a ^^^ c) ^^^ (b ^^^ d) := by
  rw [Nat.xor_assoc, Nat.xor_assoc, ← Nat.xor_assoc b c d, Nat.xor_comm b c, Nat.xor_assoc c b d]

theorem gl_lin1 : ∀ (d a a' b : Nat), a < 256 → a' < 256 → gl d (a ^^^ a') b 0 = gl d a b 0 ^^^ gl d a' b 0
  | 0, _, _, _, _, _ => by simp [gl]
  | d + 1, a, a', b, ha, ha' => by
    have ih := gl_lin1 d (xt a) (xt a') (b / 2) (xt_lt ha) (xt_lt ha')
    simp only [gl, xt_lin a ha a' ha']
    split
    · rw [gl_zero d _ _ (0 ^^^ (a ^^^ a')), gl_zero d _ _ (0 ^^^ a), gl_zero d _ _ (0 ^^^ a'), ih]
      simp only [Nat.zero_xor]
      exact xor4 a a' _ _
    · exact ih

theorem xor_half (b b' : Nat) : (b ^^^ b') / 2 = b / 2 ^^^ b' / 2 := by
  have := Nat.shiftRight_xor_distrib (a := b) (b := b') (i := 1)
  simpa [Nat.shiftRight_succ] using this

theorem xor_two (b b' : Nat) : (b ^^^ b') % 2 = (b % 2 + b' % 2) % 2 := by
  have h := Nat.testBit_xor b b' 0
  simp only [Nat.testBit_zero] at h
  rcases Nat.mod_two_eq_zero_or_one b with hb | hb <;> rcases Nat.mod_two_eq_zero_or_one b' with hb' | hb' <;> rw [hb, hb'] at h ⊢ <;> rcases Nat.mod_two_eq_zero_or_one (b ^^^ b') with hx | hx <;> rw [hx] at h ⊢ <;> simp at h ⊢

theorem gl_lin2 : ∀ (d a b b' : Nat), gl d a (b ^^^ b') 0 = gl d a b 0 ^^^ gl d a b' 0
  | 0, _, _, _ => by simp [gl]
  | d + 1, a, b, b' => by
    have ih := gl_lin2 d (xt a) (b / 2) (b' / 2)
    have h2 := xor_two b b'
    simp only [gl, xor_half]
    have z := fun s c => gl_zero d (xt a) c s
    rcases Nat.mod_two_eq_zero_or_one b with hb | hb <;> rcases Nat.mod_two_eq_zero_or_one b' with hb' | hb' <;> rw [hb, hb'] at h2 <;> simp only [h2, hb, hb', Nat.reduceAdd, Nat.reduceMod, Nat.zero_ne_one, if_true, if_false, Nat.zero_xor]
    · exact ih
    · rw [z a, z a, ih, ← Nat.xor_assoc, ← Nat.xor_assoc, Nat.xor_comm a]
    · rw [z a, z a, ih, ← Nat.xor_assoc]
    · rw [z a, z a, ih, xor4, Nat.xor_self, Nat.zero_xor]

theorem gm_lin1 {a a' : Nat} (b : Nat) (ha : a < 256) (ha' : a' < 256) : gm (a ^^^ a') b = gm a b ^^^ gm a' b := gl_lin1 8 a a' b ha ha'
theorem gm_lin2 (a b b' : Nat) : gm a (b ^^^ b') = gm a b ^^^ gm a b' := gl_lin2 8 a b b'

theorem top_bit : ∀ a, a < 256 → ∀ k, k < 8 → 2 ^ k ≤ a → a < 2 ^ (k + 1) → (a - 2 ^ k) ^^^ 2 ^ k = a := by decide +kernel

/-- two maps that go by sums and agree on the bits agree -/
theorem lin_ext {f g : Nat → Nat} (hf : ∀ a b, a < 256 → b < 256 → f (a ^^^ b) = f a ^^^ f b) (hg : ∀ a b, a < 256 → b < 256 → g (a ^^^ b) = g a ^^^ g b) (h : ∀ i, i < 8 → f (2 ^ i) = g (2 ^ i)) :
    ∀ a, a < 256 → f a = g a := by
  have zero : ∀ {f : Nat → Nat}, (∀ a b, a < 256 → b < 256 → f (a ^^^ b) = f a ^^^ f b) → f 0 = 0 := by
    intro f hf
    have := hf 0 0 (by omega) (by omega)
    rwa [Nat.xor_self, Nat.xor_self] at this
  have key : ∀ k, k ≤ 8 → ∀ a, a < 2 ^ k → f a = g a := by
    intro k
    induction k with
    | zero => intro _ a ha; have : a = 0 := by omega
              subst this; rw [zero hf, zero hg]
    | succ k ih =>
      intro hk a ha
      by_cases hlt : a < 2 ^ k
      · exact ih (by omega) a hlt
      · have hp : 2 ^ (k + 1) = 2 * 2 ^ k := by rw [Nat.pow_succ]; omega
        have h256 : 2 ^ (k + 1) ≤ 2 ^ 8 := Nat.pow_le_pow_right (by omega) hk
        have e := top_bit a (by omega) k (by omega) (by omega) ha
        rw [← e, hf _ _ (by omega) (by omega), hg _ _ (by omega) (by omega), ih (by omega) (a - 2 ^ k) (by omega), h k (by omega)]
  exact fun a ha => key 8 (by omega) a ha

theorem gm_comm_bits : ∀ i, i < 8 → ∀ j, j < 8 → gm (2 ^ i) (2 ^ j) = gm (2 ^ j) (2 ^ i) := by decide +kernel
theorem bit_lt {i : Nat} (hi : i < 8) : 2 ^ i < 256 := by
  have : 2 ^ i < 2 ^ 8 := Nat.pow_lt_pow_right (by omega) hi
  omega

theorem gm_comm {a b : Nat} (ha : a < 256) (hb : b < 256) : gm a b = gm b a := by
  refine lin_ext (f := fun a => gm a b) (g := fun a => gm b a) (fun x y hx hy => gm_lin1 b hx hy) (fun x y _ _ => gm_lin2 b x y) (fun i hi => ?_) a ha
  exact lin_ext (f := fun b => gm (2 ^ i) b) (g := fun b => gm b (2 ^ i)) (fun x y _ _ => gm_lin2 _ x y) (fun x y hx hy => gm_lin1 _ hx hy) (fun j hj => gm_comm_bits i hi j hj) b hb

theorem gm_assoc_bits : ∀ i, i < 8 → ∀ j, j < 8 → ∀ k, k < 8 → gm (gm (2 ^ i) (2 ^ j)) (2 ^ k) = gm (2 ^ i) (gm (2 ^ j) (2 ^ k)) := by decide +kernel

theorem gm_assoc {a b c : Nat} (ha : a < 256) (hb : b < 256) (hc : c < 256) : gm (gm a b) c = gm a (gm b c) := by
  refine lin_ext (f := fun a => gm (gm a b) c) (g := fun a => gm a (gm b c)) (fun x y hx hy => ?_) (fun x y hx hy => gm_lin1 _ hx hy) (fun i hi => ?_) a ha
  · show gm (gm (x ^^^ y) b) c = _
    rw [gm_lin1 b hx hy, gm_lin1 c (gm_lt hx) (gm_lt hy)]
  · refine lin_ext (f := fun b => gm (gm (2 ^ i) b) c) (g := fun b => gm (2 ^ i) (gm b c)) (fun x y hx hy => ?_) (fun x y hx hy => ?_) (fun j hj => ?_) b hb
    · show gm (gm (2 ^ i) (x ^^^ y)) c = _
      rw [gm_lin2, gm_lin1 c (gm_lt (bit_lt hi)) (gm_lt (bit_lt hi))]
    · show gm (2 ^ i) (gm (x ^^^ y) c) = _
      rw [gm_lin1 c hx hy, gm_lin2]
    · refine lin_ext (f := fun c => gm (gm (2 ^ i) (2 ^ j)) c) (g := fun c => gm (2 ^ i) (gm (2 ^ j) c)) (fun x y _ _ => gm_lin2 _ x y) (fun x y _ _ => ?_) (fun k hk => gm_assoc_bits i hi j hj k hk) c hc
      show gm (2 ^ i) (gm (2 ^ j) (x ^^^ y)) = _
      rw [gm_lin2, gm_lin2]

theorem gm_one : ∀ a, a < 256 → gm a 1 = a := by decide +kernel
theorem gm_inv : ∀ a, a < 256 → a ≠ 0 → gm a (gi a) = 1 := by decide +kernel
theorem gi_zero : gi 0 = 0 := by decide +kernel
theorem gm_zero (a : Nat) : gm a 0 = 0 := by
  have := gm_lin2 a 0 0
  rwa [Nat.xor_self, Nat.xor_self] at this
theorem zero_gm (b : Nat) : gm 0 b = 0 := by
  have := gm_lin1 (a := 0) (a' := 0) b (by omega) (by omega)
  rwa [Nat.xor_self, Nat.xor_self] at this

theorem gm_eq_zero {a b : Nat} (ha : a < 256) (hb : b < 256) : gm a b = 0 ↔ a = 0 ∨ b = 0 := by
  constructor
  · intro h
    by_cases ha0 : a = 0
    · exact Or.inl ha0
    · right
      have h1 := gm_inv a ha ha0
      have h2 : gm (gi a) (gm a b) = 0 := by rw [h, gm_zero]
      rw [← gm_assoc (gi_lt a) ha hb, gm_comm (gi_lt a) ha, h1, gm_comm (by omega) hb, gm_one b hb] at h2
      exact h2
  · rintro (rfl | rfl)
    · exact zero_gm b
    · exact gm_zero a
end Go.Fld

/- Columns: mixing is additive and is taken back. -/
namespace Go.Fld
set_option linter.unusedSimpArgs false
set_option linter.unusedVariables false

def L4 (a b c d : Nat) : Prop := a < 256 ∧ b < 256 ∧ c < 256 ∧ d < 256

/-- one place of the mixed column -/
def m4 (f : List Nat) (r a b c d : Nat) : Nat := gm (f.getD ((4 - r) % 4) 0) a ^^^ gm (f.getD ((5 - r) % 4) 0) b ^^^ gm (f.getD ((6 - r) % 4) 0) c ^^^ gm (f.getD ((7 - r) % 4) 0) d

theorem mix1_eq (a b c d : Nat) (f : List Nat) (r : Nat) : mix1 [a, b, c, d] f r = m4 f r a b c d := by
  simp only [mix1, ml, m4]
  simp only [List.getD_cons_zero, List.getD_cons_succ, Nat.zero_add, Nat.reduceAdd, Nat.zero_xor]

theorem mixN_eq (a b c d : Nat) (f : List Nat) : mixN [a, b, c, d] f = [m4 f 0 a b c d, m4 f 1 a b c d, m4 f 2 a b c d, m4 f 3 a b c d] := by
  simp only [mixN, mix1_eq]

theorem xor8 (a b c d a' b' c' d' : Nat) : (a ^^^ a') ^^^ (b ^^^ b') ^^^ (c ^^^ c') ^^^ (d ^^^ d') = (a ^^^ b ^^^ c ^^^ d) ^^^ (a' ^^^ b' ^^^ c' ^^^ d') := by
  rw [xor4 a a' b b', xor4 (a ^^^ b) (a' ^^^ b') c c', xor4 (a ^^^ b ^^^ c) (a' ^^^ b' ^^^ c') d d']

theorem m4_add (f : List Nat) (r a b c d a' b' c' d' : Nat) : m4 f r (a ^^^ a') (b ^^^ b') (c ^^^ c') (d ^^^ d') = m4 f r a b c d ^^^ m4 f r a' b' c' d' := by
  simp only [m4, gm_lin2]
  exact xor8 _ _ _ _ _ _ _ _

/-- mixed by f, then by g -/
def m44 (f g : List Nat) (r a b c d : Nat) : Nat := m4 g r (m4 f 0 a b c d) (m4 f 1 a b c d) (m4 f 2 a b c d) (m4 f 3 a b c d)

theorem m44_add (f g : List Nat) (r a b c d a' b' c' d' : Nat) : m44 f g r (a ^^^ a') (b ^^^ b') (c ^^^ c') (d ^^^ d') = m44 f g r a b c d ^^^ m44 f g r a' b' c' d' := by
  simp only [m44, m4_add]

theorem m44_split (f g : List Nat) (r a b c d : Nat) : m44 f g r a b c d = ((m44 f g r a 0 0 0 ^^^ m44 f g r 0 b 0 0) ^^^ m44 f g r 0 0 c 0) ^^^ m44 f g r 0 0 0 d := by
  rw [← m44_add, ← m44_add, ← m44_add]
  simp

theorem back_bits : ∀ i, i < 8 → ∀ r, r < 4 →
    (m44 [2, 3, 1, 1] [14, 11, 13, 9] r (2 ^ i) 0 0 0 = if r = 0 then 2 ^ i else 0) ∧ (m44 [2, 3, 1, 1] [14, 11, 13, 9] r 0 (2 ^ i) 0 0 = if r = 1 then 2 ^ i else 0) ∧
    (m44 [2, 3, 1, 1] [14, 11, 13, 9] r 0 0 (2 ^ i) 0 = if r = 2 then 2 ^ i else 0) ∧ (m44 [2, 3, 1, 1] [14, 11, 13, 9] r 0 0 0 (2 ^ i) = if r = 3 then 2 ^ i else 0) := by decide +kernel
theorem back_bits' : ∀ i, i < 8 → ∀ r, r < 4 →
    (m44 [14, 11, 13, 9] [2, 3, 1, 1] r (2 ^ i) 0 0 0 = if r = 0 then 2 ^ i else 0) ∧ (m44 [14, 11, 13, 9] [2, 3, 1, 1] r 0 (2 ^ i) 0 0 = if r = 1 then 2 ^ i else 0) ∧
    (m44 [14, 11, 13, 9] [2, 3, 1, 1] r 0 0 (2 ^ i) 0 = if r = 2 then 2 ^ i else 0) ∧ (m44 [14, 11, 13, 9] [2, 3, 1, 1] r 0 0 0 (2 ^ i) = if r = 3 then 2 ^ i else 0) := by decide +kernel

theorem back {f g : List Nat} (h : ∀ i, i < 8 → ∀ r, r < 4 → (m44 f g r (2 ^ i) 0 0 0 = if r = 0 then 2 ^ i else 0) ∧ (m44 f g r 0 (2 ^ i) 0 0 = if r = 1 then 2 ^ i else 0) ∧ (m44 f g r 0 0 (2 ^ i) 0 = if r = 2 then 2 ^ i else 0) ∧ (m44 f g r 0 0 0 (2 ^ i) = if r = 3 then 2 ^ i else 0))
    {a b c d : Nat} (hl : L4 a b c d) : mixN (mixN [a, b, c, d] f) g = [a, b, c, d] := by
  obtain ⟨ha, hb, hc, hd⟩ := hl
  rw [mixN_eq, mixN_eq]
  have e : ∀ r, r < 4 → m44 f g r a b c d = (((if r = 0 then a else 0) ^^^ (if r = 1 then b else 0)) ^^^ (if r = 2 then c else 0)) ^^^ (if r = 3 then d else 0) := by
    intro r hr
    rw [m44_split]
    have lin : ∀ (p : Prop) [Decidable p] (x y : Nat), (if p then x ^^^ y else 0) = (if p then x else 0) ^^^ (if p then y else 0) := fun p _ x y => by by_cases hp : p <;> simp [hp]
    rw [lin_ext (f := fun x => m44 f g r x 0 0 0) (g := fun x => if r = 0 then x else 0) (fun x y _ _ => by have := m44_add f g r x 0 0 0 y 0 0 0; simpa using this) (fun x y _ _ => lin _ x y) (fun i hi => (h i hi r hr).1) a ha,
      lin_ext (f := fun x => m44 f g r 0 x 0 0) (g := fun x => if r = 1 then x else 0) (fun x y _ _ => by have := m44_add f g r 0 x 0 0 0 y 0 0; simpa using this) (fun x y _ _ => lin _ x y) (fun i hi => (h i hi r hr).2.1) b hb,
      lin_ext (f := fun x => m44 f g r 0 0 x 0) (g := fun x => if r = 2 then x else 0) (fun x y _ _ => by have := m44_add f g r 0 0 x 0 0 0 y 0; simpa using this) (fun x y _ _ => lin _ x y) (fun i hi => (h i hi r hr).2.2.1) c hc,
      lin_ext (f := fun x => m44 f g r 0 0 0 x) (g := fun x => if r = 3 then x else 0) (fun x y _ _ => by have := m44_add f g r 0 0 0 x 0 0 0 y; simpa using this) (fun x y _ _ => lin _ x y) (fun i hi => (h i hi r hr).2.2.2) d hd]
  have e0 := e 0 (by decide); have e1 := e 1 (by decide); have e2 := e 2 (by decide); have e3 := e 3 (by decide)
  simp only [m44] at e0 e1 e2 e3
  rw [e0, e1, e2, e3]
  simp

theorem gu_gs : ∀ a, a < 256 → gu (gs a) = a := by decide +kernel
theorem gs_gu : ∀ a, a < 256 → gs (gu a) = a := by decide +kernel
theorem gs_ne : ∀ a, a < 256 → gs a ≠ a ∧ gs a ≠ 255 ^^^ a := by decide +kernel
end Go.Fld

/- The document's inner functions, each as it is known. -/
namespace Go.Proofs.Ytkecbjohbihfmaa.G
open Go Go.Sx Go.Fld Go.Blk
set_option linter.unusedSimpArgs false
set_option linter.unusedVariables false

theorem box_at : ∀ i : Nat, i < 256 → sget boxC i = fsub (i : Int) := by decide +kernel
theorem box_len : slen_ boxC = 256 := by decide +kernel

theorem good_radded : Sx.Good Try.prog 36 addedS := by
  refine Sx.Good.pure (D := []) mixed (good0 _) Try.func36 (by kernel_rfl) rfl fun d args σ K h => ?_
  simp only [addedS] at h
  split at h <;> try exact h.elim
  rename_i b w i
  obtain ⟨⟨⟨hb, hw⟩, hi⟩, hK⟩ := h
  obtain ⟨n, rfl⟩ := Int.eq_ofNat_of_zero_le hi.lo
  have hn := hi.hi
  refine ⟨by simp [plain_int, plain_ints], _, plain_ints _ _ _, hK, (1 + 1 * 16) + 1, ?_⟩
  rw [radded_vc]
  have key := loop_n (fun f i s => radded.l0 (fun av' _ => av' = .agg [.ints .u8 16 (qx b (rk w (nat (n : Int))))]) (n : Int) w f i s) 16 (fun i => upto 16 i (fun j => bxor .u8 (lget b j) (lget w (16 * n + j))) (lget b)) 1 1
    (fun f i hi h => by
      rw [radded.l0_succ]
      refine ⟨fun _ => ?_, fun q => ?_⟩
      · have e1 : mul .i64 16 (n : Int) = ((16 * n : Nat) : Int) := mulN_i64 (a := 16) (by omega)
        have e2 : add .i64 ((16 * n : Nat) : Int) (i : Int) = ((16 * n + i : Nat) : Int) := addN_i64 (by omega)
        rw [e1, e2]
        simp only [InB_iff, Low_iff, nat_cast, nadd_def, Nat.zero_add]
        refine ⟨by omega, hi, by omega, by omega, by omega, hi, ?_⟩
        rw [add1_i64 (by omega), upto_hi (Nat.le_refl _) hi, upto_lset rfl]
        exact h
      · rw [ilt_false] at q; omega)
    (by
      rw [radded.l0_succ]
      refine ⟨fun q => ?_, fun _ => ?_⟩
      · rw [ilt_true] at q; omega
      · rw [upto_done, nat_cast]
        have : (tab 16 fun j => bxor .u8 (lget b j) (lget w (16 * n + j))) = qx b (rk w n) := by
          refine tab_ext fun j hj => ?_
          rw [rk, lsub_tabbed hw.len (by omega), tab_lget _ hj]
        rw [this]) 0 (Nat.zero_le _)
  rw [upto_zero, ← hb.eq] at key
  exact key

theorem good_rnext : Sx.Good Try.prog 40 nextS := by
  refine Sx.Good.pure (D := []) mixed (good0 _) Try.func40 (by kernel_rfl) rfl fun d args σ K h => ?_
  simp only [nextS] at h
  split at h <;> try exact h.elim
  rename_i b
  obtain ⟨hb, hK⟩ := h
  refine ⟨by simp [plain_ints], _, plain_ints _ _ _, hK, 17 + 1, ?_⟩
  rw [rnext_vc]
  have key : ∀ (i : Nat) (c : List Int), i ≤ 16 → c.length = 16 → upN i c = up b → rnext.l0 (fun av' _ => av' = .agg [.ints .u8 16 (up b)]) (i + 1) ((i : Int) - 1) c := by
    intro i
    induction i with
    | zero =>
      intro c _ _ e
      rw [rnext.l0_succ]
      refine ⟨fun q => ?_, fun _ => ?_⟩
      · rw [ige_true] at q; omega
      · rw [show c = up b from e]
    | succ i ih =>
      intro c hi hc e
      rw [rnext.l0_succ, show ((i + 1 : Nat) : Int) - 1 = (i : Int) by omega]
      refine ⟨fun _ => ?_, fun q => ?_⟩
      · have hl : lget (lset c i (add .u8 (lget c i) 1)) i = add .u8 (lget c i) 1 := by
          simp [lget, lset, List.getD, hc, show i < 16 by omega]
        simp only [InB_iff, Low_iff, nat_cast, nadd_def, Nat.zero_add, hl]
        refine ⟨by omega, by omega, by omega, by omega, by omega, by omega, fun q => ?_, fun q => ?_⟩
        · rw [ine_true] at q
          rw [upN, if_neg q] at e
          rw [e]
        · rw [ine_false] at q
          rw [upN, if_pos q] at e
          rw [sub_i64 (by omega) (by omega)]
          exact ih _ (by omega) (by simp [lset, hc]) e
      · rw [ige_false] at q; omega
  exact key 16 b (Nat.le_refl _) hb.len rfl

theorem gs_inj {a b : Nat} (ha : a < 256) (hb : b < 256) (h : gs a = gs b) : a = b := by
  rw [← gu_gs a ha, ← gu_gs b hb, h]

theorem good_rback : Sx.Good Try.prog 35 backS := by
  refine Sx.Good.pure (D := []) mixed (good0 _) Try.func35 (by kernel_rfl) rfl fun d args σ K hsp => ?_
  simp only [backS] at hsp
  split at hsp <;> try exact hsp.elim
  refine ⟨by simp, _, plain_ints _ _ _, hsp, (1 + 1 * 256) + 1, ?_⟩
  rw [rback_vc]
  have key := loop_n (fun f i s => rback.l0 (fun av' _ => av' = .agg [.ints .u8 256 (tab 256 fun i => funsub (i : Int))]) f i s) 256 (fun i => tab 256 fun j => if gu j < i then (gu j : Int) else 0) 1 1
    (fun f i hi h => by
      rw [rback.l0_succ]
      refine ⟨fun _ => ?_, fun q => ?_⟩
      · have e1 : sget boxC i = ((gs i : Nat) : Int) := by rw [box_at i hi]; rfl
        have e2 : slen_ boxC = 256 := box_len
        have hg := gs_lt i
        rw [nat_cast, e1]
        simp only [InB_iff, Low_iff, nat_cast, nadd_def, Nat.zero_add]
        refine ⟨⟨by omega, by omega⟩, ⟨by omega, by omega⟩, hg, ?_⟩
        rw [add1_i64 (by omega), tab_lset, conv_u8, show (i : Int) % 256 = (i : Int) by omega]
        have : (tab 256 fun j => if j = gs i then (i : Int) else if gu j < i then (gu j : Int) else 0) = tab 256 fun j => if gu j < i + 1 then (gu j : Int) else 0 := by
          refine tab_ext fun j hj => ?_
          by_cases q : j = gs i
          · rw [if_pos q, q, gu_gs i hi, if_pos (by omega)]
          · have : gu j ≠ i := fun e => q (by rw [← e, gs_gu j hj])
            rw [if_neg q]
            by_cases q2 : gu j < i
            · rw [if_pos q2, if_pos (by omega)]
            · rw [if_neg q2, if_neg (by omega)]
        rw [this]
        exact h
      · rw [ilt_false] at q; omega)
    (by
      rw [rback.l0_succ]
      refine ⟨fun q => ?_, fun _ => ?_⟩
      · rw [ilt_true] at q; omega
      · have : (tab 256 fun j => if gu j < 256 then (gu j : Int) else 0) = tab 256 fun i => funsub (i : Int) := by
          refine tab_ext fun j hj => ?_
          rw [if_pos (gu_lt j)]; rfl
        rw [this]) 0 (Nat.zero_le _)
  rw [lzeros_tab]
  have e : (tab 256 fun j => if gu j < 0 then (gu j : Int) else 0) = tab 256 fun _ => (0 : Int) := tab_ext fun j hj => by simp
  rw [e] at key
  exact key

/-! ### mixing -/
theorem gm2_byte {a : Nat} (ha : a < 256) : gm 2 a < 256 := gm_lt (by decide)
theorem gm3 : ∀ a : Nat, a < 256 → gm 3 a = gm 2 a ^^^ a := by decide +kernel
theorem gm1 : ∀ a : Nat, a < 256 → gm 1 a = a := by decide +kernel
theorem mix_eq {a b c d : Nat} (ha : a < 256) (hb : b < 256) (hc : c < 256) (hd : d < 256) :
    m4 [2, 3, 1, 1] 0 a b c d = a ^^^ (a ^^^ b ^^^ c ^^^ d) ^^^ gm 2 (a ^^^ b) ∧ m4 [2, 3, 1, 1] 1 a b c d = b ^^^ (a ^^^ b ^^^ c ^^^ d) ^^^ gm 2 (b ^^^ c) ∧
    m4 [2, 3, 1, 1] 2 a b c d = c ^^^ (a ^^^ b ^^^ c ^^^ d) ^^^ gm 2 (c ^^^ d) ∧ m4 [2, 3, 1, 1] 3 a b c d = d ^^^ (a ^^^ b ^^^ c ^^^ d) ^^^ gm 2 (d ^^^ a) := by
  simp only [m4, List.getD_cons_zero, List.getD_cons_succ, List.getD_nil, Nat.reduceMod, Nat.reduceSub, gm3 _ ha, gm3 _ hb, gm3 _ hc, gm3 _ hd, gm1 _ ha, gm1 _ hb, gm1 _ hc, gm1 _ hd, gm_lin2]
  refine ⟨?_, ?_, ?_, ?_⟩ <;> (apply Nat.eq_of_testBit_eq; intro i; simp only [Nat.testBit_xor]; generalize a.testBit i = p; generalize b.testBit i = q; generalize c.testBit i = r; generalize d.testBit i = s; generalize (gm 2 a).testBit i = p'; generalize (gm 2 b).testBit i = q'; generalize (gm 2 c).testBit i = r'; generalize (gm 2 d).testBit i = s'; revert p q r s p' q' r' s'; decide)

/-- one place of a mixed column, by sums and twice -/
theorem mixed_at {b : List Int} (hb : BL 16 b) {k r : Nat} (hk : k < 4) (hr : r < 4) :
    lget (fmix (lsub b (4 * k) 4) [2, 3, 1, 1]) r = bxor .u8 (bxor .u8 (lget b (4 * k + r)) (bxor .u8 (bxor .u8 (bxor .u8 (lget b (4 * k)) (lget b (4 * k + 1))) (lget b (4 * k + 2))) (lget b (4 * k + 3)))) (fmul 2 (bxor .u8 (lget b (4 * k + r)) (lget b (4 * k + (r + 1) % 4)))) := by
  obtain ⟨x0, h0, e0⟩ := (hb.get (4 * k)).nat
  obtain ⟨x1, h1, e1⟩ := (hb.get (4 * k + 1)).nat
  obtain ⟨x2, h2, e2⟩ := (hb.get (4 * k + 2)).nat
  obtain ⟨x3, h3, e3⟩ := (hb.get (4 * k + 3)).nat
  have el : lsub b (4 * k) 4 = [(x0 : Int), x1, x2, x3] := by
    rw [lsub_tabbed hb.len (by omega)]
    simp only [tab, List.range_succ, List.range_zero, List.nil_append, List.map_cons, List.map_nil, List.cons_append, Nat.add_zero, e0, e1, e2, e3]
  obtain ⟨m0, m1, m2, m3⟩ := mix_eq h0 h1 h2 h3
  have em : fmix (lsub b (4 * k) 4) [2, 3, 1, 1] = [((m4 [2, 3, 1, 1] 0 x0 x1 x2 x3 : Nat) : Int), ((m4 [2, 3, 1, 1] 1 x0 x1 x2 x3 : Nat) : Int), ((m4 [2, 3, 1, 1] 2 x0 x1 x2 x3 : Nat) : Int), ((m4 [2, 3, 1, 1] 3 x0 x1 x2 x3 : Nat) : Int)] := by
    rw [el]
    show intL (mixN [x0, x1, x2, x3] [2, 3, 1, 1]) = _
    rw [mixN_eq]; rfl
  have hx : ∀ {p q : Nat}, p < 256 → q < 256 → bxor .u8 (p : Int) (q : Int) = ((p ^^^ q : Nat) : Int) := fun hp hq => bxor_u8 hp hq
  have hm : ∀ {p : Nat}, p < 256 → fmul 2 (p : Int) = ((gm 2 p : Nat) : Int) := fun _ => rfl
  have all := xor_lt (xor_lt (xor_lt h0 h1) h2) h3
  rw [em]
  match r, hr with
  | 0, _ => simp only [Nat.add_zero, Nat.zero_add, Nat.reduceMod, e0, e1, e2, e3]; rw [hx h0 h1, hx (xor_lt h0 h1) h2, hx (xor_lt (xor_lt h0 h1) h2) h3, hx h0 all, hm (xor_lt h0 h1), hx (xor_lt h0 all) (gm2_byte (xor_lt h0 h1)), ← m0]; rfl
  | 1, _ => simp only [Nat.reduceAdd, Nat.reduceMod, e0, e1, e2, e3]; rw [hx h0 h1, hx (xor_lt h0 h1) h2, hx (xor_lt (xor_lt h0 h1) h2) h3, hx h1 all, hx h1 h2, hm (xor_lt h1 h2), hx (xor_lt h1 all) (gm2_byte (xor_lt h1 h2)), ← m1]; rfl
  | 2, _ => simp only [Nat.reduceAdd, Nat.reduceMod, e0, e1, e2, e3]; rw [hx h0 h1, hx (xor_lt h0 h1) h2, hx (xor_lt (xor_lt h0 h1) h2) h3, hx h2 all, hx h2 h3, hm (xor_lt h2 h3), hx (xor_lt h2 all) (gm2_byte (xor_lt h2 h3)), ← m2]; rfl
  | 3, _ => simp only [Nat.reduceAdd, Nat.reduceMod, Nat.add_zero, e0, e1, e2, e3]; rw [hx h0 h1, hx (xor_lt h0 h1) h2, hx (xor_lt (xor_lt h0 h1) h2) h3, hx h3 all, hx h3 h0, hm (xor_lt h3 h0), hx (xor_lt h3 all) (gm2_byte (xor_lt h3 h0)), ← m3]; rfl
end Go.Proofs.Ytkecbjohbihfmaa.G
