/- Own texts of this proof, laid one behind the other: SxR, ByteM, ResM, TabM, BitsM, HshB, HshW, HshM, HshB2, MacM, MacG, HshG2, Sx17, Sx18, MixM, HshG, HshP, HshP2, HshP3. -/
import Derived.Test.YtdgmgalnhignjaaDoorReplyHopsB
import Derived.Test.YtdgmgalnhignjaaDoorProg
import Derived.OpenShut
import Derived.WideShapes
import Derived.Below
import Derived.WalkKit
import Derived.ProofKit
import Derived.ChangeOld
import Derived.ChangeSlices
import Derived.SizedLaws

/- Functions that read lists and give plain values and new lists. -/
namespace Go.Sx
open Go
set_option linter.unusedSimpArgs false
set_option linter.unusedVariables false

/-- the fields of a struct argument: its lists are read under names of their own -/
inductive CanonF (σ : Mem) (j : Nat) : Nat → List Seg → List Seg → Mem → Prop
  | nil (f : Nat) : CanonF σ j f [] [] []
  | plain {f : Nat} {g : Seg} {s t : List Seg} {τ : Mem} : (∀ m, g.refs m = false) → CanonF σ j f s t τ → CanonF σ j f (g :: s) (g :: t) τ
  | row {f : Nat} {a : AC} {s t : List Seg} {τ : Mem} (ks : List Kd) (cs : List Col) : f < 100 → rdx σ ks (.one a) (fun c => c = cs) → 0 < width ks → CanonF σ j (f + 1) s t τ → CanonF σ j f (.cells [a] :: s) (.cells [.vec (200000 + (j + 1000 * f))] :: t) ((200000 + (j + 1000 * f), .rview cs) :: τ)

/-- the arguments of a call, as its function sees them: lists are read under names of their own -/
inductive Canon (σ : Mem) : Nat → List AV → List AV → Mem → Prop
  | nil (j : Nat) : Canon σ j [] [] []
  | plain {j : Nat} {x : AV} {xs ys : List AV} {τ : Mem} : plainAV x → Canon σ (j + 1) xs ys τ → Canon σ j (x :: xs) (x :: ys) τ
  | row {j : Nat} {x : AV} {xs ys : List AV} {τ : Mem} (ks : List Kd) (cs : List Col) : rdx σ ks x (fun c => c = cs) → 0 < width ks → Canon σ (j + 1) xs ys τ → Canon σ j (x :: xs) (.one (.vec (200000 + j)) :: ys) ((200000 + j, .rview cs) :: τ)
  | aggrow {j : Nat} {a : AC} {s : List Seg} {xs ys : List AV} {τ : Mem} (ks : List Kd) (cs : List Col) : rdx σ ks (.one a) (fun c => c = cs) → 0 < width ks → (∀ m, segsRefs m s = false) → Canon σ (j + 1) xs ys τ → Canon σ j (.agg (.cells [a] :: s) :: xs) (.agg (.cells [.vec (200000 + j)] :: s) :: ys) ((200000 + j, .rview cs) :: τ)
  | clo {j g n : Nat} {b : Blk} {xs ys : List AV} {τ : Mem} : Mem.find σ n = some b → (∀ m, segsRefs m b.segs = false) → Canon σ (j + 1) xs ys τ → Canon σ j (.one (.clo g n 0 0) :: xs) (.one (.clo g (200000 + j) 0 0) :: ys) ((200000 + j, .view b.segs) :: τ)
  | ptr {j n : Nat} {b : Blk} {xs ys : List AV} {τ : Mem} : Mem.find σ n = some b → (∀ m, segsRefs m b.segs = false) → Canon σ (j + 1) xs ys τ → Canon σ j (.one (.ptr n 0 0) :: xs) (.one (.ptr (200000 + j) 0 0) :: ys) ((200000 + j, .view b.segs) :: τ)
  | aggs {j : Nat} {s t : List Seg} {xs ys : List AV} {τ τ' : Mem} : CanonF σ j 0 s t τ' → Canon σ (j + 1) xs ys τ → Canon σ j (.agg s :: xs) (.agg t :: ys) (τ' ++ τ)
  | glob {j g : Nat} {b : Blk} {xs ys : List AV} {τ : Mem} : Mem.find σ (gname g) = some b → (∀ m, segsRefs m b.segs = false) → Canon σ j xs ys τ → Canon σ j xs ys ((gname g, .view b.segs) :: τ)

theorem find_app {τ' τ : Mem} {n : Nat} {b : Blk} (h : Mem.find (τ' ++ τ) n = some b) : Mem.find τ' n = some b ∨ Mem.find τ n = some b := by
  induction τ' with
  | nil => exact Or.inr h
  | cons x r ih =>
    obtain ⟨m, y⟩ := x
    simp only [List.cons_append, Mem.find] at h ⊢
    split at h
    · rename_i e; rw [if_pos e]; exact Or.inl h
    · rename_i e; rw [if_neg e]; exact ih h

theorem canonF_views {σ τ : Mem} {j : Nat} : ∀ {f : Nat} {s t : List Seg}, CanonF σ j f s t τ → ∀ ρ n b k, Mem.find τ n = some b → ¬ Out ρ n b k := by
  intro f s t h
  induction h with
  | nil f => intro ρ n b k hn; simp [Mem.find] at hn
  | plain _ _ ih => exact ih
  | row ks cs _ _ _ _ ih =>
    intro ρ n b k hn
    simp only [Mem.find] at hn
    split at hn
    · cases hn; exact fun q => q
    · exact ih ρ n b k hn

theorem canon_views {σ τ : Mem} : ∀ {j : Nat} {xs ys : List AV}, Canon σ j xs ys τ → ∀ ρ n b k, Mem.find τ n = some b → ¬ Out ρ n b k := by
  intro j xs ys h
  induction h with
  | nil j => intro ρ n b k hn; simp [Mem.find] at hn
  | plain _ _ ih => exact ih
  | row ks cs _ _ _ ih =>
    intro ρ n b k hn
    simp only [Mem.find] at hn
    split at hn
    · cases hn; exact fun q => q
    · exact ih ρ n b k hn
  | aggrow ks cs _ _ _ _ ih =>
    intro ρ n b k hn
    simp only [Mem.find] at hn
    split at hn
    · cases hn; exact fun q => q
    · exact ih ρ n b k hn
  | clo _ _ _ ih =>
    intro ρ n b k hn
    simp only [Mem.find] at hn
    split at hn
    · cases hn; exact fun q => q
    · exact ih ρ n b k hn
  | ptr _ _ _ ih =>
    intro ρ n b k hn
    simp only [Mem.find] at hn
    split at hn
    · cases hn; exact fun q => q
    · exact ih ρ n b k hn
  | aggs hF _ ih =>
    intro ρ n b k hn
    rcases find_app hn with q | q
    · exact canonF_views hF ρ n b k q
    · exact ih ρ n b k q
  | glob _ _ _ ih =>
    intro ρ n b k hn
    simp only [Mem.find] at hn
    split at hn
    · cases hn; exact fun q => q
    · exact ih ρ n b k hn

theorem plainAV.any {x : AV} (h : plainAV x) {ρ ρ' : Rho} {v : Value} (hv : SRep ρ x v) : SRep ρ' x v := hv.agree fun n hn => by rw [h n] at hn; cases hn

theorem canonF_sound {σ τ : Mem} {ρ : Rho} {w : World} (hm : MemRep ρ σ w) (hs : Sep ρ σ) {j : Nat} : ∀ {f : Nat} {s t : List Seg}, CanonF σ j f s t τ → ∀ (vals : List Value), segsOk s → FRep ρ (flat s) vals →
    ∃ Ls : Nat → Loc, ∀ ρc : Rho, (∀ i, f ≤ i → i < 100 → ρc (200000 + (j + 1000 * i)) = Ls i) → segsOk t ∧ FRep ρc (flat t) vals ∧ MemRep ρc τ w := by
  intro f s t h
  induction h with
  | nil f => intro vals _ hF; exact ⟨fun _ => loc0, fun ρc _ => ⟨trivial, ⟨hF.1, fun i a v ha => by simp [flat] at ha⟩, fun n b hb => by simp [Mem.find] at hb⟩⟩
  | @plain f g s t τ hp _ ih =>
    intro vals hok hF
    obtain ⟨v1, v2, rfl, hl⟩ : ∃ v1 v2, vals = v1 ++ v2 ∧ g.flat.length = v1.length := by
      have e := hF.1
      simp only [flat, List.length_append] at e
      exact ⟨vals.take g.flat.length, vals.drop g.flat.length, (List.take_append_drop _ _).symm, by rw [List.length_take]; omega⟩
    obtain ⟨Ls, h2⟩ := ih v2 hok.2 ⟨by have := hF.1; simp only [flat, List.length_append] at this; omega, fun i a v ha hv => hF.2 (g.flat.length + i) a v (by simp only [flat]; rw [List.getElem?_append_right (by omega), Nat.add_sub_cancel_left]; exact ha) (by rw [List.getElem?_append_right (by omega), hl, Nat.add_sub_cancel_left]; exact hv)⟩
    refine ⟨Ls, fun ρc hc => ?_⟩
    obtain ⟨g1, g2, g3⟩ := h2 ρc hc
    refine ⟨⟨hok.1, g1⟩, ⟨by simp only [flat, List.length_append]; have := g2.1; omega, fun i a v ha hv => ?_⟩, g3⟩
    simp only [flat] at ha
    by_cases hi : i < g.flat.length
    · rw [List.getElem?_append_left hi] at ha
      rw [List.getElem?_append_left (by omega)] at hv
      refine (hF.2 i a v (by simp only [flat]; rw [List.getElem?_append_left hi]; exact ha) (by rw [List.getElem?_append_left (by omega)]; exact hv)).agree fun m hm' => ?_
      have hr := hp m
      have : a ∈ g.flat := List.mem_of_getElem? ha
      cases g with
      | cells cs =>
        have : cs.any (AC.refs m) = true := List.any_eq_true.2 ⟨a, this, hm'⟩
        simp only [Seg.refs] at hr
        rw [hr] at this; cases this
      | ints k n l =>
        simp only [Seg.flat, List.mem_map] at this
        obtain ⟨x, _, rfl⟩ := this
        cases hm'
      | bools n l =>
        simp only [Seg.flat, List.mem_map] at this
        obtain ⟨x, _, rfl⟩ := this
        cases hm'
    · rw [List.getElem?_append_right (by omega)] at ha
      rw [List.getElem?_append_right (by omega), ← hl] at hv
      exact g2.2 _ a v ha hv
  | @row f a s t τ ks cs hf hr hk _ ih =>
    intro vals hok hF
    have hfl : flat (.cells [a] :: s) = a :: flat s := rfl
    rw [hfl] at hF
    obtain ⟨c0, rest, rfl⟩ : ∃ c0 rest, vals = c0 :: rest := by
      cases vals with
      | nil => have := hF.1; simp at this
      | cons c0 rest => exact ⟨c0, rest, rfl⟩
    obtain ⟨cs', L, hR, rfl⟩ := rdx_sound hr hk hm hs (x := .one a) (hF.2 0 a c0 rfl rfl)
    obtain ⟨Ls, h2⟩ := ih rest hok.2 ⟨by have := hF.1; simpa using this, fun i b v hb hv => hF.2 (i + 1) b v (by simpa using hb) (by simpa using hv)⟩
    refine ⟨fun i => if i = f then L else Ls i, fun ρc hc => ?_⟩
    have hj : ρc (200000 + (j + 1000 * f)) = L := by rw [hc f (Nat.le_refl _) hf]; simp
    obtain ⟨g1, g2, g3⟩ := h2 ρc (fun i hi h100 => by rw [hc i (by omega) h100]; show (if i = f then _ else Ls i) = Ls i; rw [if_neg (by omega)])
    refine ⟨⟨trivial, g1⟩, ⟨by have := hF.1; have := g2.1; simp [flat, Seg.flat] at *; omega, fun i b v hb hv => ?_⟩, fun m b hb => ?_⟩
    · cases i with
      | zero =>
        simp [flat, Seg.flat] at hb hv
        subst hb hv
        show c0 = _
        rw [hj]; exact hR.val
      | succ i => exact g2.2 i b v (by simpa [flat, Seg.flat] using hb) (by simpa using hv)
    · simp only [Mem.find] at hb
      split at hb
      · rename_i e; subst e; cases hb
        show VRep w (ρc (200000 + (j + 1000 * f))) cs'
        rw [hj]; exact hR.rep
      · exact g3 m b hb

theorem canon_sound {σ τ : Mem} {ρ : Rho} {w : World} (hm : MemRep ρ σ w) (hs : Sep ρ σ) : ∀ {j : Nat} {xs ys : List AV}, Canon σ j xs ys τ → ∀ (vals : List Value), xs.length = vals.length → (∀ (i : Nat) x v, xs[i]? = some x → vals[i]? = some v → SRep ρ x v) →
    ys.length = vals.length ∧ ∃ Ls : Nat → Nat → Loc, ∀ ρc : Rho, (∀ i f, j ≤ i → i < j + xs.length → f < 100 → ρc (200000 + (i + 1000 * f)) = Ls i f) → (∀ g, ρc (gname g) = ρ (gname g)) → (∀ (i : Nat) y v, ys[i]? = some y → vals[i]? = some v → SRep ρc y v) ∧ MemRep ρc τ w := by
  intro j xs ys h
  induction h with
  | nil j => intro vals hl _; exact ⟨hl, fun _ _ => loc0, fun ρc _ _ => ⟨fun i y v hy => by simp at hy, fun n b hb => by simp [Mem.find] at hb⟩⟩
  | @plain j x xs ys τ hp _ ih =>
    intro vals hl hv
    cases vals with
    | nil => simp at hl
    | cons v vals =>
      obtain ⟨h1, Ls, h2⟩ := ih vals (by simpa using hl) (fun i x u hx hu => hv (i + 1) x u (by simpa using hx) (by simpa using hu))
      refine ⟨by simpa using h1, Ls, fun ρc hc hcg => ?_⟩
      obtain ⟨g1, g2⟩ := h2 ρc (fun i f hi hlt hf => hc i f (by omega) (by simp only [List.length_cons]; omega) hf) hcg
      refine ⟨fun i y u hy hu => ?_, g2⟩
      cases i with
      | zero => simp at hy hu; subst hy hu; exact hp.any (hv 0 x v rfl rfl)
      | succ i => exact g1 i y u (by simpa using hy) (by simpa using hu)
  | @row j x xs ys τ ks cs hr hk _ ih =>
    intro vals hl hv
    cases vals with
    | nil => simp at hl
    | cons v vals =>
      obtain ⟨h1, Ls, h2⟩ := ih vals (by simpa using hl) (fun i x u hx hu => hv (i + 1) x u (by simpa using hx) (by simpa using hu))
      obtain ⟨cs', L, hR, rfl⟩ := rdx_sound hr hk hm hs (hv 0 x v rfl rfl)
      refine ⟨by simpa using h1, fun i f => if i = j then L else Ls i f, fun ρc hc hcg => ?_⟩
      have hj : ρc (200000 + j) = L := by have q := hc j 0 (Nat.le_refl _) (by simp) (by decide); simpa using q
      obtain ⟨g1, g2⟩ := h2 ρc (fun i f hi hlt hf => by rw [hc i f (by omega) (by simp only [List.length_cons]; omega) hf]; show (if i = j then _ else Ls i f) = Ls i f; rw [if_neg (by omega)]) hcg
      refine ⟨fun i y u hy hu => ?_, fun n b hb => ?_⟩
      · cases i with
        | zero =>
          simp at hy hu
          subst hy hu
          show v = _
          rw [hj]; exact hR.val
        | succ i => exact g1 i y u (by simpa using hy) (by simpa using hu)
      · simp only [Mem.find] at hb
        split at hb
        · rename_i e; subst e; cases hb
          show VRep w (ρc (200000 + j)) cs'
          rw [hj]; exact hR.rep
        · exact g2 n b hb
  | @aggrow j a s xs ys τ ks cs hr hk hp _ ih =>
    intro vals hl hv
    cases vals with
    | nil => simp at hl
    | cons v vals =>
      obtain ⟨h1, Ls, h2⟩ := ih vals (by simpa using hl) (fun i x u hx hu => hv (i + 1) x u (by simpa using hx) (by simpa using hu))
      obtain ⟨hok, cells, rfl, hF⟩ := hv 0 _ v rfl rfl
      have hfl : flat (.cells [a] :: s) = a :: flat s := rfl
      rw [hfl] at hF
      obtain ⟨c0, rest, rfl⟩ : ∃ c0 rest, cells = c0 :: rest := by
        cases cells with
        | nil => have := hF.1; simp at this
        | cons c0 rest => exact ⟨c0, rest, rfl⟩
      obtain ⟨cs', L, hR, rfl⟩ := rdx_sound hr hk hm hs (x := .one a) (hF.2 0 a c0 rfl rfl)
      refine ⟨by simpa using h1, fun i f => if i = j then L else Ls i f, fun ρc hc hcg => ?_⟩
      have hj : ρc (200000 + j) = L := by have q := hc j 0 (Nat.le_refl _) (by simp) (by decide); simpa using q
      obtain ⟨g1, g2⟩ := h2 ρc (fun i f hi hlt hf => by rw [hc i f (by omega) (by simp only [List.length_cons]; omega) hf]; show (if i = j then _ else Ls i f) = Ls i f; rw [if_neg (by omega)]) hcg
      refine ⟨fun i y u hy hu => ?_, fun n b hb => ?_⟩
      · cases i with
        | zero =>
          simp at hy hu
          subst hy hu
          refine ⟨⟨trivial, hok.2⟩, c0 :: rest, rfl, ?_⟩
          have hfl2 : flat (.cells [.vec (200000 + j)] :: s) = .vec (200000 + j) :: flat s := rfl
          rw [hfl2]
          refine ⟨by have := hF.1; simpa using this, fun i b u hb hu => ?_⟩
          cases i with
          | zero =>
            simp at hb hu
            subst hb hu
            show c0 = _
            rw [hj]; exact hR.val
          | succ i =>
            have hb : (flat s)[i]? = some b := by simpa using hb
            refine (hF.2 (i + 1) b u (by simpa using hb) hu).agree fun m hm' => ?_
            have := flat_refs' (List.any_eq_true.2 ⟨b, List.mem_of_getElem? hb, hm'⟩)
            rw [hp m] at this; cases this
        | succ i => exact g1 i y u (by simpa using hy) (by simpa using hu)
      · simp only [Mem.find] at hb
        split at hb
        · rename_i e; subst e; cases hb
          show VRep w (ρc (200000 + j)) cs'
          rw [hj]; exact hR.rep
        · exact g2 n b hb
  | @clo j g n b xs ys τ hn hp _ ih =>
    intro vals hl hv
    cases vals with
    | nil => simp at hl
    | cons v vals =>
      obtain ⟨h1, Ls, h2⟩ := ih vals (by simpa using hl) (fun i x u hx hu => hv (i + 1) x u (by simpa using hx) (by simpa using hu))
      have hx : v = .func (.func g) #[] #[.pointer (some (at_ ρ n (0 + 0)))] := hv 0 _ v rfl rfl
      refine ⟨by simpa using h1, fun i f => if i = j then ρ n else Ls i f, fun ρc hc hcg => ?_⟩
      have hj : ρc (200000 + j) = ρ n := by have q := hc j 0 (Nat.le_refl _) (by simp) (by decide); simpa using q
      obtain ⟨g1, g2⟩ := h2 ρc (fun i f hi hlt hf => by rw [hc i f (by omega) (by simp only [List.length_cons]; omega) hf]; show (if i = j then _ else Ls i f) = Ls i f; rw [if_neg (by omega)]) hcg
      refine ⟨fun i y u hy hu => ?_, fun m b' hb => ?_⟩
      · cases i with
        | zero =>
          simp at hy hu
          subst hy hu
          show v = _
          rw [hx]; simp only [at_, hj]
        | succ i => exact g1 i y u (by simpa using hy) (by simpa using hu)
      · simp only [Mem.find] at hb
        split at hb
        · rename_i e; subst e; cases hb
          obtain ⟨q1, q2⟩ := (hm n b hn).cells
          refine ⟨q1, fun i a ha => ?_⟩
          obtain ⟨u, hu1, hu2⟩ := q2 i a ha
          refine ⟨u, by simp only [at_, hj]; exact hu1, hu2.agree fun m hm' => ?_⟩
          have := flat_refs' (List.any_eq_true.2 ⟨a, List.mem_of_getElem? ha, hm'⟩)
          rw [hp m] at this; cases this
        · exact g2 m b' hb
  | @ptr j n b xs ys τ hn hp _ ih =>
    intro vals hl hv
    cases vals with
    | nil => simp at hl
    | cons v vals =>
      obtain ⟨h1, Ls, h2⟩ := ih vals (by simpa using hl) (fun i x u hx hu => hv (i + 1) x u (by simpa using hx) (by simpa using hu))
      have hx : v = .pointer (some (at_ ρ n (0 + 0))) := hv 0 _ v rfl rfl
      refine ⟨by simpa using h1, fun i f => if i = j then ρ n else Ls i f, fun ρc hc hcg => ?_⟩
      have hj : ρc (200000 + j) = ρ n := by have q := hc j 0 (Nat.le_refl _) (by simp) (by decide); simpa using q
      obtain ⟨g1, g2⟩ := h2 ρc (fun i f hi hlt hf => by rw [hc i f (by omega) (by simp only [List.length_cons]; omega) hf]; show (if i = j then _ else Ls i f) = Ls i f; rw [if_neg (by omega)]) hcg
      refine ⟨fun i y u hy hu => ?_, fun m b' hb => ?_⟩
      · cases i with
        | zero =>
          simp at hy hu
          subst hy hu
          show v = _
          rw [hx]; simp only [at_, hj]
        | succ i => exact g1 i y u (by simpa using hy) (by simpa using hu)
      · simp only [Mem.find] at hb
        split at hb
        · rename_i e; subst e; cases hb
          obtain ⟨q1, q2⟩ := (hm n b hn).cells
          refine ⟨q1, fun i a ha => ?_⟩
          obtain ⟨u, hu1, hu2⟩ := q2 i a ha
          refine ⟨u, by simp only [at_, hj]; exact hu1, hu2.agree fun m hm' => ?_⟩
          have := flat_refs' (List.any_eq_true.2 ⟨a, List.mem_of_getElem? ha, hm'⟩)
          rw [hp m] at this; cases this
        · exact g2 m b' hb
  | @aggs j s t xs ys τ τ' hF _ ih =>
    intro vals hl hv
    cases vals with
    | nil => simp at hl
    | cons v vals =>
      obtain ⟨h1, Ls, h2⟩ := ih vals (by simpa using hl) (fun i x u hx hu => hv (i + 1) x u (by simpa using hx) (by simpa using hu))
      obtain ⟨hok, cells, rfl, hFR⟩ := hv 0 _ v rfl rfl
      obtain ⟨Ms, h3⟩ := canonF_sound hm hs hF cells hok hFR
      refine ⟨by simpa using h1, fun i f => if i = j then Ms f else Ls i f, fun ρc hc hcg => ?_⟩
      obtain ⟨g1, g2⟩ := h2 ρc (fun i f hi hlt hf => by rw [hc i f (by omega) (by simp only [List.length_cons]; omega) hf]; show (if i = j then _ else Ls i f) = Ls i f; rw [if_neg (by omega)]) hcg
      obtain ⟨k1, k2, k3⟩ := h3 ρc (fun f _ hf => by rw [hc j f (Nat.le_refl _) (by simp) hf]; simp)
      refine ⟨fun i y u hy hu => ?_, fun n b hb => ?_⟩
      · cases i with
        | zero =>
          simp at hy hu
          subst hy hu
          exact ⟨k1, cells, rfl, k2⟩
        | succ i => exact g1 i y u (by simpa using hy) (by simpa using hu)
      · rcases find_app hb with q | q
        · exact k3 n b q
        · exact g2 n b q
  | @glob j g b xs ys τ hn hp _ ih =>
    intro vals hl hv
    obtain ⟨h1, Ls, h2⟩ := ih vals hl hv
    refine ⟨h1, Ls, fun ρc hc hcg => ?_⟩
    obtain ⟨g1, g2⟩ := h2 ρc hc hcg
    refine ⟨g1, fun m b' hb => ?_⟩
    simp only [Mem.find] at hb
    split at hb
    · rename_i e; subst e; cases hb
      obtain ⟨q1, q2⟩ := (hm (gname g) b hn).cells
      refine ⟨q1, fun i a ha => ?_⟩
      obtain ⟨u, hu1, hu2⟩ := q2 i a ha
      refine ⟨u, by simp only [at_, hcg]; exact hu1, hu2.agree fun m hm' => ?_⟩
      have := flat_refs' (List.any_eq_true.2 ⟨a, List.mem_of_getElem? ha, hm'⟩)
      rw [hp m] at this; cases this
    · exact g2 m b' hb

/-! ### results -/
inductive Item where
  | vec (m : Nat) (cs : List Col)
  | nil (ks : List Kd)

def Item.cols : Item → List Col
  | .vec _ cs => cs
  | .nil ks => ks.map Kd.nil

def Item.ac : Item → AC
  | .vec m _ => .vec m
  | .nil _ => .con (.slice none 0 0)

def Item.name : Item → Option Nat
  | .vec m _ => some m
  | .nil _ => none

def noRows : List Col → Bool
  | [] => true
  | .rows _ _ :: _ => false
  | _ :: r => noRows r

def Item.ok (σ : Mem) : Item → Prop
  | .vec m cs => Mem.find σ m = some (.vec cs) ∧ noRows cs = true
  | .nil ks => 0 < width ks ∧ noRows (ks.map Kd.nil) = true

def ResC (its : List Item) (d : Nat) (a b : AC) : Prop :=
  ((∀ n, a.refs n = false) ∧ (∀ n, b.refs n = false) ∧ ∀ ρ v, CRep ρ a v → CRep ρ b v) ∨ ∃ k it, its[k]? = some it ∧ a = it.ac ∧ b = .vec (d + 10000 * k)

def ResCs (its : List Item) (d : Nat) : List AC → List AC → Prop
  | [], [] => True
  | a :: r, b :: s => ResC its d a b ∧ ResCs its d r s
  | _, _ => False

def ResS (its : List Item) (d : Nat) : List Seg → List Seg → Prop
  | [], [] => True
  | .ints k n l :: r, .ints k' n' l' :: s => (k = k' ∧ n = n' ∧ l = l') ∧ ResS its d r s
  | .bools n l :: r, .bools n' l' :: s => (n = n' ∧ l = l') ∧ ResS its d r s
  | .cells c :: r, .cells c' :: s => ResCs its d c c' ∧ ResS its d r s
  | _, _ => False

def ResT (its : List Item) (d : Nat) : List TV → List TV → Prop
  | [], [] => True
  | .c a :: r, .c b :: s => ResC its d a b ∧ ResT its d r s
  | .g x :: r, .g y :: s => ResS its d x y ∧ ResT its d r s
  | _, _ => False

def ResV (its : List Item) (d : Nat) : AV → AV → Prop
  | .one a, .one b => ResC its d a b
  | .agg s, .agg t => ResS its d s t
  | .tup v, .tup u => ResT its d v u
  | _, _ => False

def insAll (d : Nat) : Nat → List Item → Mem → Mem
  | _, [], σ => σ
  | k, it :: r, σ => insAll d (k + 1) r (Mem.ins (d + 10000 * k) (.vec it.cols) σ)

/-- what a call is known to give: plain values and new lists, named by the slot -/
def Res (d news : Nat) (σ : Mem) (K : AV → Mem → Prop) (av : AV) (σ' : Mem) : Prop :=
  ∃ its av', its.length ≤ news ∧ (∀ it ∈ its, it.ok σ') ∧ (its.map Item.name).Pairwise (fun a b => a = none ∨ a ≠ b) ∧ ResV its d av av' ∧ K av' (insAll d 0 its σ)

theorem noRows_inner {cs : List Col} (h : noRows cs = true) : ∀ (c : Nat) k ll, cs[c]? ≠ some (Col.rows k ll) := by
  induction cs with
  | nil => intro c k ll q; simp at q
  | cons x r ih =>
    intro c k ll q
    cases c with
    | zero => simp at q; subst q; simp [noRows] at h
    | succ c => exact ih (by cases x <;> simp_all [noRows]) c k ll (by simpa using q)

theorem noRows_no {L : Loc} {cs : List Col} (h : noRows cs = true) (k : Nat) : ¬ Inner L cs k := by
  rintro ⟨c, kk, ll, i, l, a, hc, _⟩
  exact noRows_inner h c kk ll hc

section
variable {P : Program} {Γ : Gam} {D : Hints}

/-- a list of a result, where it lies -/
structure ItemAt (ρ : Rho) (σ : Mem) (n0 : Nat) (w : World) (it : Item) (L : Loc) : Prop where
  rep : VRep w L it.cols
  write : Writable w L (cwidth it.cols)
  flat : noRows it.cols = true
  val : ∀ v, CRep ρ it.ac v → v = .slice L.a L.len L.cap
  own : L.cap ≠ 0 → n0 ≤ L.1 ∧ ∃ m b, it.name = some m ∧ Mem.find σ m = some b ∧ Out ρ m b L.1

theorem item_at {ρ : Rho} {σ : Mem} {n0 : Nat} {w : World} {it : Item} (hm : MemRep ρ σ w) (hs : Sep ρ σ) (ho : ∀ n b k, Mem.find σ n = some b → Out ρ n b k → n0 ≤ k) (hok : it.ok σ) : ∃ L, ItemAt ρ σ n0 w it L := by
  cases it with
  | vec m cs =>
    obtain ⟨h1, h2⟩ := hok
    obtain ⟨g1, g2⟩ := hm m _ h1
    exact ⟨ρ m, g1, g2, h2, fun u hu => hu, fun q => ⟨ho m _ _ h1 ⟨q, rfl⟩, m, _, rfl, h1, q, rfl⟩⟩
  | nil ks =>
    obtain ⟨h1, h2⟩ := hok
    obtain ⟨g1, g2⟩ := nil_rep (w := w) h1
    exact ⟨loc0, g1, fun q => absurd rfl q, h2, fun u hu => hu.1, fun q => absurd rfl q⟩

theorem insAll_sound {E : Env} {a : Act} {w : World} {ρi : Rho} {σi : Mem} {n0 d : Nat} (Ls : Nat → Loc) : ∀ {its : List Item} {k : Nat} {ρ : Rho} {σ : Mem}, Rep E ρ [] σ a w → (∀ i it, its[i]? = some it → ItemAt ρi σi n0 w it (Ls (k + i))) → Sep ρi σi → E.w0.heap.size ≤ n0 →
    (its.map Item.name).Pairwise (fun a b => a = none ∨ a ≠ b) → (∀ i, i < its.length → freshB (d + 10000 * (k + i)) [] σ = true) → (∀ m b q, Mem.find σ m = some b → Foot ρ m b q → ∀ (i : Nat) it, its[i]? = some it → (Ls (k + i)).cap ≠ 0 → q ≠ (Ls (k + i)).1) →
    ∃ ρ', Rep E ρ' [] (insAll d k its σ) a w ∧ (∀ n, (∀ i, i < its.length → n ≠ d + 10000 * (k + i)) → ρ' n = ρ n) ∧ (∀ i, i < its.length → ρ' (d + 10000 * (k + i)) = Ls (k + i)) ∧ ∀ m b, Mem.find σ m = some b → Mem.find (insAll d k its σ) m = some b
  | [], k, ρ, σ, h, _, _, _, _, _, _ => ⟨ρ, h, fun _ _ => rfl, fun i hi => absurd hi (Nat.not_lt_zero _), fun _ _ q => q⟩
  | it :: its, k, ρ, σ, h, hat, hs, hn0, hpw, hfr, hdis => by
    have h0 := hat 0 it rfl
    rw [Nat.add_zero] at h0
    have hd := hfr 0 (by simp)
    rw [Nat.add_zero] at hd
    have hdis0 := fun m b q hb hf => hdis m b q hb hf 0 it rfl
    have step := (add_sound (L := Ls k) (b := .vec it.cols) h hd h.keep (fun _ _ _ _ _ => rfl) ⟨by rw [upd_eq]; exact h0.rep, by rw [upd_eq]; exact h0.write⟩ (fun q hq => by
      simp only [Out, upd_eq] at hq
      obtain ⟨hc, rfl⟩ := hq
      exact ⟨Or.inl (Nat.le_trans hn0 (h0.own hc).1), fun m c hm hF => hdis0 m c _ hm hF (by rw [Nat.add_zero]; exact hc) (by rw [Nat.add_zero]), fun hI => by simp only [Inn, upd_eq] at hI; exact noRows_no h0.flat _ hI⟩) (fun q hq => by
      simp only [Foot, upd_eq] at hq
      rcases hq with ⟨hc, rfl⟩ | hq
      · exact fun m c hm hO => hdis0 m c _ hm hO.foot (by rw [Nat.add_zero]; exact hc) (by rw [Nat.add_zero])
      · exact absurd hq (noRows_no h0.flat _))).find_eq (find_ins (freshB_parts hd).2.2)
    obtain ⟨q1, q2⟩ := List.pairwise_cons.1 hpw
    obtain ⟨d1, _, d3⟩ := freshB_parts hd
    obtain ⟨ρ', r1, r2, r3, r4⟩ := insAll_sound (ρi := ρi) (σi := σi) (n0 := n0) (d := d) Ls (its := its) (k := k + 1) step (fun i it' hi => by have := hat (i + 1) it' (by simpa using hi); rw [show k + 1 + i = k + (i + 1) by omega]; exact this) hs hn0 q2 (fun i hi => by
      have := hfr (i + 1) (by simp only [List.length_cons]; omega)
      obtain ⟨f1, f2, f3⟩ := freshB_parts this
      rw [show k + 1 + i = k + (i + 1) by omega]
      simp only [freshB, f2, Bool.and_eq_true, decide_eq_true_eq, Bool.not_eq_true', and_true]
      refine ⟨f1, ?_⟩
      have e : ∀ (σ : Mem) (dd : Nat) (b : Blk) (x : Nat), memRefs x (Mem.ins dd b σ) = (dd == x || segsRefs x b.segs || memRefs x σ) := by
        intro σ dd b x
        induction σ with
        | nil => simp [Mem.ins, memRefs]
        | cons p r ih =>
          obtain ⟨m, y⟩ := p
          simp only [Mem.ins]
          split
          · simp only [memRefs, List.any_cons] at ih ⊢
            rw [ih]
            cases (m == x || segsRefs x y.segs) <;> cases (dd == x || segsRefs x b.segs) <;> simp
          · simp [memRefs]
      rw [e, f3]
      simp [Blk.segs, segsRefs]
      omega) (fun m b q hb hf i it' hi hc => by
      rw [show k + 1 + i = k + (i + 1) by omega] at hc ⊢
      rw [find_ins d3] at hb
      simp only [Mem.find] at hb
      split at hb
      · rename_i e
        cases hb
        subst e
        simp only [Foot, upd_eq] at hf
        rcases hf with ⟨hc0, rfl⟩ | hf
        · intro eq
          have hi' := hat (i + 1) it' (by simpa using hi)
          obtain ⟨_, m1, b1, n1, f1, o1⟩ := h0.own hc0
          obtain ⟨_, m2, b2, n2, f2, o2⟩ := hi'.own hc
          have hne : m1 ≠ m2 := fun e => by
            have := q1 it'.name (List.mem_map.2 ⟨it', List.mem_of_getElem? hi, rfl⟩)
            rw [n1, n2, e] at this
            rcases this with q | q
            · cases q
            · exact q rfl
          rw [← eq] at o2
          exact hs.1 m1 m2 b1 b2 _ f1 f2 hne o1 o2.foot
        · exact absurd hf (noRows_no h0.flat _)
      · rename_i hne
        have hf' : Foot ρ m b q := (Foot.agree (upd_ne (fun e => hne e.symm))).1 hf
        exact hdis m b q hb hf' (i + 1) it' (by simpa using hi) hc)
    refine ⟨ρ', r1, fun n hn => ?_, fun i hi => ?_, fun m b hb => r4 m b (ins_old hd m b hb)⟩
    · rw [r2 n (fun i hi => by have := hn (i + 1) (by simp only [List.length_cons]; omega); rw [show k + 1 + i = k + (i + 1) by omega]; exact this)]
      exact upd_ne (by have := hn 0 (by simp); rw [Nat.add_zero] at this; exact this)
    · cases i with
      | zero =>
        rw [Nat.add_zero, r2 _ (fun i hi => by omega)]
        exact upd_eq _ _ _
      | succ i =>
        have := r3 i (by simp only [List.length_cons] at hi; omega)
        rw [show k + 1 + i = k + (i + 1) by omega] at this
        exact this

theorem resC_sound {its : List Item} {d : Nat} {ρ ρ' : Rho} {a b : AC} {v : Value} (h : ResC its d a b) (hL : ∀ i it, its[i]? = some it → ∀ v, CRep ρ it.ac v → CRep ρ' (.vec (d + 10000 * i)) v) (hv : CRep ρ a v) : CRep ρ' b v := by
  rcases h with ⟨h1, h2, h3⟩ | ⟨k, it, h1, rfl, rfl⟩
  · exact (h3 ρ v hv).agree fun n hn => by rw [h2 n] at hn; cases hn
  · exact hL k it h1 v hv

theorem resCs_sound {its : List Item} {d : Nat} {ρ ρ' : Rho} (hL : ∀ i it, its[i]? = some it → ∀ v, CRep ρ it.ac v → CRep ρ' (.vec (d + 10000 * i)) v) : ∀ {l m : List AC}, ResCs its d l m → l.length = m.length ∧ ∀ (j : Nat) a b v, l[j]? = some a → m[j]? = some b → CRep ρ a v → CRep ρ' b v
  | [], [], _ => ⟨rfl, fun j a b v h => by simp at h⟩
  | a :: l, b :: m, h => by
    obtain ⟨g1, g2⟩ := resCs_sound hL h.2
    refine ⟨by simp [g1], fun j x y v hx hy hv => ?_⟩
    cases j with
    | zero => simp at hx hy; subst hx hy; exact resC_sound h.1 hL hv
    | succ j => exact g2 j x y v (by simpa using hx) (by simpa using hy) hv
  | [], _ :: _, h => h.elim
  | _ :: _, [], h => h.elim

theorem resS_sound {its : List Item} {d : Nat} {ρ ρ' : Rho} (hL : ∀ i it, its[i]? = some it → ∀ v, CRep ρ it.ac v → CRep ρ' (.vec (d + 10000 * i)) v) : ∀ {s t : List Seg}, ResS its d s t → segsOk s → segsOk t ∧ (flat s).length = (flat t).length ∧ ∀ (j : Nat) a b v, (flat s)[j]? = some a → (flat t)[j]? = some b → CRep ρ a v → CRep ρ' b v
  | [], [], _, _ => ⟨trivial, rfl, fun j a b v h => by simp [flat] at h⟩
  | .ints k n l :: r, .ints k' n' l' :: s, h, ho => by
    obtain ⟨⟨rfl, rfl, rfl⟩, h⟩ := h
    obtain ⟨g1, g2, g3⟩ := resS_sound hL h ho.2
    refine ⟨⟨ho.1, g1⟩, by simp [flat, g2], fun j a b v ha hb hv => ?_⟩
    simp only [flat] at ha hb
    rw [List.getElem?_append] at ha hb
    split at ha
    · rename_i hj; rw [if_pos hj] at hb; rw [ha] at hb; cases hb
      simp only [Seg.flat, List.getElem?_map, Option.map_eq_some_iff] at ha
      obtain ⟨x, _, rfl⟩ := ha; exact hv
    · rename_i hj; rw [if_neg hj] at hb; exact g3 _ a b v ha hb hv
  | .bools n l :: r, .bools n' l' :: s, h, ho => by
    obtain ⟨⟨rfl, rfl⟩, h⟩ := h
    obtain ⟨g1, g2, g3⟩ := resS_sound hL h ho.2
    refine ⟨⟨ho.1, g1⟩, by simp [flat, g2], fun j a b v ha hb hv => ?_⟩
    simp only [flat] at ha hb
    rw [List.getElem?_append] at ha hb
    split at ha
    · rename_i hj; rw [if_pos hj] at hb; rw [ha] at hb; cases hb
      simp only [Seg.flat, List.getElem?_map, Option.map_eq_some_iff] at ha
      obtain ⟨x, _, rfl⟩ := ha; exact hv
    · rename_i hj; rw [if_neg hj] at hb; exact g3 _ a b v ha hb hv
  | .cells c :: r, .cells c' :: s, h, ho => by
    obtain ⟨hc, h⟩ := h
    obtain ⟨c1, c2⟩ := resCs_sound hL hc
    obtain ⟨g1, g2, g3⟩ := resS_sound hL h ho.2
    refine ⟨⟨trivial, g1⟩, by simp [flat, Seg.flat, g2, c1], fun j a b v ha hb hv => ?_⟩
    simp only [flat, Seg.flat] at ha hb
    rw [List.getElem?_append] at ha hb
    split at ha
    · rename_i hj; rw [if_pos (by omega)] at hb; exact c2 j a b v ha hb hv
    · rename_i hj; rw [if_neg (by omega), ← c1] at hb; exact g3 _ a b v ha hb hv
  | [], _ :: _, h, _ => h.elim
  | .ints _ _ _ :: _, [], h, _ => h.elim
  | .bools _ _ :: _, [], h, _ => h.elim
  | .cells _ :: _, [], h, _ => h.elim
  | .ints _ _ _ :: _, .bools _ _ :: _, h, _ => h.elim
  | .ints _ _ _ :: _, .cells _ :: _, h, _ => h.elim
  | .bools _ _ :: _, .ints _ _ _ :: _, h, _ => h.elim
  | .bools _ _ :: _, .cells _ :: _, h, _ => h.elim
  | .cells _ :: _, .ints _ _ _ :: _, h, _ => h.elim
  | .cells _ :: _, .bools _ _ :: _, h, _ => h.elim

theorem resAgg_sound {its : List Item} {d : Nat} {ρ ρ' : Rho} (hL : ∀ i it, its[i]? = some it → ∀ v, CRep ρ it.ac v → CRep ρ' (.vec (d + 10000 * i)) v) {s t : List Seg} {v : Value} (h : ResS its d s t) (hv : SRep ρ (.agg s) v) : SRep ρ' (.agg t) v := by
  obtain ⟨ho, cs, rfl, hf⟩ := hv
  obtain ⟨g1, g2, g3⟩ := resS_sound hL h ho
  refine ⟨g1, cs, rfl, by rw [← g2]; exact hf.1, fun j b u hb hu => ?_⟩
  have hj : j < (flat s).length := by rw [g2]; exact (List.getElem?_eq_some_iff.1 hb).1
  exact g3 j _ b u (List.getElem?_eq_getElem hj) hb (hf.2 j _ u (List.getElem?_eq_getElem hj) hu)

theorem resT_sound {its : List Item} {d : Nat} {ρ ρ' : Rho} (hL : ∀ i it, its[i]? = some it → ∀ v, CRep ρ it.ac v → CRep ρ' (.vec (d + 10000 * i)) v) : ∀ {l m : List TV}, ResT its d l m → l.length = m.length ∧ ∀ (j : Nat) a b v, l[j]? = some a → m[j]? = some b → TRep ρ a v → TRep ρ' b v
  | [], [], _ => ⟨rfl, fun j a b v h => by simp at h⟩
  | .c a :: l, .c b :: m, h => by
    obtain ⟨g1, g2⟩ := resT_sound hL h.2
    refine ⟨by simp [g1], fun j x y v hx hy hv => ?_⟩
    cases j with
    | zero => simp at hx hy; subst hx hy; exact resC_sound h.1 hL hv
    | succ j => exact g2 j x y v (by simpa using hx) (by simpa using hy) hv
  | .g a :: l, .g b :: m, h => by
    obtain ⟨g1, g2⟩ := resT_sound hL h.2
    refine ⟨by simp [g1], fun j x y v hx hy hv => ?_⟩
    cases j with
    | zero => simp at hx hy; subst hx hy; exact resAgg_sound hL h.1 hv
    | succ j => exact g2 j x y v (by simpa using hx) (by simpa using hy) hv
  | [], _ :: _, h => h.elim
  | .c _ :: _, [], h => h.elim
  | .g _ :: _, [], h => h.elim
  | .c _ :: _, .g _ :: _, h => h.elim
  | .g _ :: _, .c _ :: _, h => h.elim

theorem resV_sound {its : List Item} {d : Nat} {ρ ρ' : Rho} (hL : ∀ i it, its[i]? = some it → ∀ v, CRep ρ it.ac v → CRep ρ' (.vec (d + 10000 * i)) v) {x y : AV} {v : Value} (h : ResV its d x y) (hv : SRep ρ x v) : SRep ρ' y v := by
  cases x <;> cases y <;> simp only [ResV] at h
  · exact resC_sound h hL hv
  · exact resAgg_sound hL h hv
  · obtain ⟨us, rfl, hl, hall⟩ := hv
    obtain ⟨g1, g2⟩ := resT_sound hL h
    refine ⟨us, rfl, by omega, fun j b u hb hu => ?_⟩
    rename_i l m
    have hj : j < l.length := by rw [g1]; exact (List.getElem?_eq_some_iff.1 hb).1
    exact g2 j _ b u (List.getElem?_eq_getElem hj) hb (hall j _ u (List.getElem?_eq_getElem hj) hu)

def rhoC (ρ : Rho) (Ls : Nat → Loc) : Rho := fun n => if n < 200000 then loc0 else if n < 1000000 then Ls (n - 200000) else ρ n
theorem rhoC_arg {ρ : Rho} {Ls : Nat → Loc} {i : Nat} (hi : i < 800000) : rhoC ρ Ls (200000 + i) = Ls i := by
  unfold rhoC
  split
  · omega
  · split
    · have e : 200000 + i - 200000 = i := by omega
      rw [e]
    · omega
theorem rhoC_glob {ρ : Rho} {Ls : Nat → Loc} {g : Nat} : rhoC ρ Ls (gname g) = ρ (gname g) := by
  have e1 : ¬ gname g < 200000 := by simp only [gname]; omega
  have e2 : ¬ gname g < 1000000 := by simp only [gname]; omega
  unfold rhoC
  rw [if_neg e1, if_neg e2]

/-- a function that reads lists and gives plain values and new lists -/
theorem Good.reads (hm : P.follows .mixedOrders = true) (hΓ : GoodG P Γ) {f : FuncId} {fn : Func} (hf : P.funcs[f]? = some fn) (hb : fn.body.isSome = true) {s : Spec} (hs : s.mods = false)
    (hsem : ∀ d args σ (K : AV → Mem → Prop), s.sem d args σ K → ∃ cargs τ, Canon σ 0 args cargs τ ∧ args.length ≤ 1000 ∧ ∃ n, callsx P Γ D fn n cargs τ (Res d s.news σ K)) : Good P f s := by
  refine ⟨fun d args σ K h ρ w vals hg hmem hsep hl hv hnew => ?_⟩
  obtain ⟨cargs, τ, hcan, hlen, n, hc⟩ := hsem d args σ K h
  obtain ⟨h1, Ls, h2⟩ := canon_sound hmem hsep hcan vals.toList (by simpa using hl) (fun i x v hx hu => hv i x v hx (by simpa using hu))
  generalize hρ0 : rhoC ρ (fun n => Ls (n % 1000) (n / 1000)) = ρc
  have hρc : ∀ i f, 0 ≤ i → i < 0 + args.length → f < 100 → ρc (200000 + (i + 1000 * f)) = Ls i f := fun i f _ hi hf => by
    rw [← hρ0, rhoC_arg (by omega)]
    show Ls ((i + 1000 * f) % 1000) ((i + 1000 * f) / 1000) = Ls i f
    rw [show (i + 1000 * f) % 1000 = i by omega, show (i + 1000 * f) / 1000 = f by omega]
  have hgg : ∀ g, ρc (gname g) = ρ (gname g) := fun g => by rw [← hρ0]; exact rhoC_glob
  obtain ⟨g1, g2⟩ := h2 ρc hρc hgg
  have hgc : Glob ρc := fun g => by rw [hgg]; exact hg g
  have hno := canon_views hcan ρc
  have hsepc : Sep ρc τ := ⟨fun n m b c k hn _ _ hO => absurd hO (hno n b k hn), fun n b k hn hO => absurd hO (hno n b k hn)⟩
  refine (callsx_sound hm hΓ hf hb hc (ex := fun _ => False) hgc (by simpa using h1) (fun i y v hy hu => g1 i y v hy (by simpa using hu)) g2 hsepc (fun n b k hn hO => absurd hO (hno n b k hn))).mono ?_
  rintro e w' ⟨v, av', σ'', ρ'', rfl, ⟨its, av, hlen', hok, hpw, hres, hK⟩, hsr, hmem'', hsep'', _, hown'', hk⟩
  have hsame : ∀ i, i < w.heap.size → w'.heap[i]? = w.heap[i]? := fun i hi => hk.block i hi (fun q => q)
  have hk' : Keeps (OwnAt ρ σ) w w' := ⟨hk.os, hk.tape, hk.output, hk.size, fun k hk' _ => hsame k hk'⟩
  let E : Env := ⟨w, ρ, OwnAt ρ σ, hg⟩
  let a : Act := { tmps := #[], defers := [] }
  have hR : Rep E ρ [] σ a w' := ⟨⟨rfl, fun t v ht => by simp [a] at ht⟩, rfl, hmem.keeps (fun n b k hb hk => hsame _ (in_range (hmem n b hb) hk)), hsep, fun _ _ => rfl, fun n b k hn hO => Or.inr ⟨n, b, hn, hO⟩, hk'⟩
  have hat : ∀ it ∈ its, ∃ L, ItemAt ρ'' σ'' w.heap.size w' it L := fun it hi => item_at hmem'' hsep'' (fun n b k hn hO => by rcases hown'' n b k hn hO with q | q; exact q; exact q.elim) (hok it hi)
  let Ms : Nat → Loc := fun i => if hi : i < its.length then Classical.choose (hat its[i] (List.getElem_mem hi)) else loc0
  have hMs : ∀ i it, its[i]? = some it → ItemAt ρ'' σ'' w.heap.size w' it (Ms i) := fun i it hi => by
    obtain ⟨hlt, rfl⟩ := List.getElem?_eq_some_iff.1 hi
    show ItemAt ρ'' σ'' w.heap.size w' its[i] (if hi : i < its.length then Classical.choose (hat its[i] (List.getElem_mem hi)) else loc0)
    rw [dif_pos hlt]
    exact Classical.choose_spec (hat its[i] (List.getElem_mem hlt))
  obtain ⟨ρ', r1, r2, r3, r4⟩ := insAll_sound (d := d) (k := 0) Ms hR (fun i it hi => by rw [Nat.zero_add]; exact hMs i it hi) hsep'' (Nat.le_refl _) hpw (fun i hi => by
    obtain ⟨q1, q2⟩ := hnew i (by omega)
    rw [Nat.zero_add]
    simp only [freshB, q2, frRefs, List.any_nil, Bool.not_false, Bool.and_true, decide_eq_true_eq]
    exact q1) (fun m b q hb hf i it hi hc => by
    rw [Nat.zero_add] at hc ⊢
    have := in_range (hmem m b hb) hf
    have := ((hMs i it hi).own hc).1
    omega)
  refine ⟨v, av, _, ρ', rfl, hK, resV_sound (fun i it hi u hu => ?_) hres hsr, r1.mem, r1.sep, fun n hn => r2 n fun i hi => by rw [Nat.zero_add]; exact hn i (by omega), fun n b k hn hO => ?_, hk', fun _ => ⟨hk, r4⟩⟩
  · show u = _
    have hlt := (List.getElem?_eq_some_iff.1 hi).1
    have e := r3 i hlt
    rw [Nat.zero_add] at e
    rw [e]
    exact (hMs i it hi).val u hu
  · rcases r1.own n b k hn hO with q | q
    · exact Or.inr q
    · exact Or.inl q
end
end Go.Sx

/- Bytes: plain facts on lists of them. -/
namespace Go.Sx
open Go
set_option linter.unusedSimpArgs false

structure Bs (l : List Int) : Prop where
  all : ∀ x ∈ l, 0 ≤ x ∧ x < 256

theorem Bs.nil : Bs [] := ⟨fun x h => by cases h⟩
theorem Bs.cons {a : Int} {l : List Int} (h0 : 0 ≤ a) (h1 : a < 256) (h : Bs l) : Bs (a :: l) := ⟨fun x hx => by
  rcases List.mem_cons.1 hx with rfl | hx
  · exact ⟨h0, h1⟩
  · exact h.all x hx⟩
theorem Bs.app {a b : List Int} (h : Bs a) (g : Bs b) : Bs (a ++ b) := ⟨fun x hx => by
  rcases List.mem_append.1 hx with hx | hx
  · exact h.all x hx
  · exact g.all x hx⟩
theorem Bs.take {l : List Int} (h : Bs l) (n : Nat) : Bs (l.take n) := ⟨fun x hx => h.all x (List.mem_of_mem_take hx)⟩
theorem Bs.drop {l : List Int} (h : Bs l) (n : Nat) : Bs (l.drop n) := ⟨fun x hx => h.all x (List.mem_of_mem_drop hx)⟩
theorem Bs.zeros (n : Nat) : Bs (List.replicate n 0) := ⟨fun x hx => by rw [List.eq_of_mem_replicate hx]; decide⟩
theorem Bs.get {l : List Int} (h : Bs l) (i : Nat) : 0 ≤ l.getD i 0 ∧ l.getD i 0 < 256 := by
  rw [List.getD_eq_getElem?_getD]
  cases hq : l[i]? with
  | none => simp
  | some x => exact h.all x (List.mem_of_getElem? hq)
theorem Bs.set {l : List Int} (h : Bs l) (i : Nat) {v : Int} (h0 : 0 ≤ v) (h1 : v < 256) : Bs (l.set i v) := ⟨fun x hx => by
  rcases List.mem_or_eq_of_mem_set hx with hx | rfl
  · exact h.all x hx
  · exact ⟨h0, h1⟩⟩

/-- what a slice of bytes reads -/
def rdb (σ : Mem) (x : AV) (K : List Int → Prop) : Prop := rdx σ [.ints .u8] x (oneInts .u8 K)

theorem rdx_det {σ : Mem} {ks : List Kd} {x : AV} {K : List Col → Prop} (h : rdx σ ks x K) : ∃ cs, K cs ∧ rdx σ ks x (fun c => c = cs) := by
  unfold rdx at h
  split at h
  · split at h <;> try exact h.elim
    rename_i hq
    exact ⟨_, h, by simp [rdx, hq]⟩
  · split at h <;> try exact h.elim
    rename_i hq
    split at h <;> try exact h.elim
    rename_i hz
    exact ⟨_, h, by simp [rdx, hq, hz]⟩
  · split at h <;> try exact h.elim
    rename_i hq
    exact ⟨_, h, by simp [rdx, hq]⟩
  · split at h <;> try exact h.elim
    rename_i hq
    exact ⟨_, h, by simp [rdx, hq]⟩
  · split at h <;> try exact h.elim
    rename_i hq
    split at h <;> try exact h.elim
    rename_i hf
    exact ⟨_, h.2, by simp only [rdx, hq, hf, and_true]; exact h.1⟩
  · exact ⟨_, h, by simp [rdx]⟩
  · exact h.elim

theorem rdb_row {σ : Mem} {x : AV} {K : List Int → Prop} (h : rdb σ x K) : ∃ l, K l ∧ rdx σ [.ints .u8] x (fun c => c = [.ints .u8 l]) := by
  obtain ⟨cs, h1, h2⟩ := rdx_det h
  unfold oneInts at h1
  split at h1 <;> try exact h1.elim
  split at h1 <;> try exact h1.elim
  rename_i hk
  subst hk
  exact ⟨_, h1, h2⟩

theorem pairwise_one {a : Option Nat} : [a].Pairwise (fun a b => a = none ∨ a ≠ b) := by simp
theorem pairwise_nil : ([] : List (Option Nat)).Pairwise (fun a b => a = none ∨ a ≠ b) := .nil

theorem seq2_self {a b : List Int} (h : a = b) : seq2 (bytesOf a) (bytesOf b) = true := by subst h; simp [seq2]
theorem seq2_true {a b : ByteArray} : seq2 a b = true ↔ a = b := by
  have e : ∀ s : ByteArray, s.toList = s.data.toList := fun s => ByteArray.toList_eq s
  simp only [seq2, e, beq_iff_eq]
  constructor
  · intro h; cases a; cases b; simp only at h; congr; exact Array.toList_inj.1 h
  · intro h; rw [h]
end Go.Sx

/- Results of functions that give plain values and new lists; words of conditions. -/
namespace Go.Sx
open Go
set_option linter.unusedSimpArgs false
set_option linter.unusedVariables false

/-- plain parts, up to how a truth value is written -/
inductive PlainT : List TV → List TV → Prop
  | nil : PlainT [] []
  | int {k : IntKind} {a b : Int} {r s : List TV} : a = b → PlainT r s → PlainT (.c (.int k a) :: r) (.c (.int k b) :: s)
  | lit {a b : Bool} {r s : List TV} : a = b → PlainT r s → PlainT (.c (.lit a) :: r) (.c (.bool b) :: s)
  | bool {a b : Bool} {r s : List TV} : a = b → PlainT r s → PlainT (.c (.bool a) :: r) (.c (.bool b) :: s)
  | arr {k : IntKind} {n : Nat} {a b : List Int} {r s : List TV} : a = b → PlainT r s → PlainT (.g [.ints k n a] :: r) (.g [.ints k n b] :: s)

theorem PlainT.res {its : List Item} {d : Nat} : ∀ {r s : List TV}, PlainT r s → ResT its d r s := by
  intro r s h
  induction h with
  | nil => trivial
  | int e _ ih => subst e; exact ⟨Or.inl ⟨fun _ => rfl, fun _ => rfl, fun _ _ h => h⟩, ih⟩
  | lit e _ ih => subst e; exact ⟨Or.inl ⟨fun _ => rfl, fun _ => rfl, fun _ _ h => h⟩, ih⟩
  | bool e _ ih => subst e; exact ⟨Or.inl ⟨fun _ => rfl, fun _ => rfl, fun _ _ h => h⟩, ih⟩
  | arr e _ ih => subst e; exact ⟨⟨⟨rfl, rfl, rfl⟩, trivial⟩, ih⟩

section
variable {d : Nat} {σ σ' : Mem} {K : AV → Mem → Prop}

theorem res_plain {av av' : AV} (h : ResV [] d av av') (hK : K av' σ) : Res d 0 σ K av σ' :=
  ⟨[], av', Nat.le_refl _, fun it h => by simp at h, pairwise_nil, h, hK⟩
theorem res_int {k : IntKind} {a b : Int} (e : a = b) (hK : K (.one (.int k b)) σ) : Res d 0 σ K (.one (.int k a)) σ' := by
  subst e; exact res_plain (av' := .one (.int k a)) (Or.inl ⟨fun _ => rfl, fun _ => rfl, fun _ _ h => h⟩) hK
theorem res_bool {a b : Bool} (e : a = b) (hK : K (.one (.bool b)) σ) : Res d 0 σ K (.one (.bool a)) σ' := by
  subst e; exact res_plain (av' := .one (.bool a)) (Or.inl ⟨fun _ => rfl, fun _ => rfl, fun _ _ h => h⟩) hK
theorem res_lit {a b : Bool} (e : a = b) (hK : K (.one (.bool b)) σ) : Res d 0 σ K (.one (.lit a)) σ' := by
  subst e; exact res_plain (av' := .one (.bool a)) (Or.inl ⟨fun _ => rfl, fun _ => rfl, fun _ _ h => h⟩) hK
theorem res_arr {k : IntKind} {n : Nat} {a b : List Int} (e : a = b) (hK : K (.agg [.ints k n b]) σ) : Res d 0 σ K (.agg [.ints k n a]) σ' := by
  subst e; exact res_plain (av' := .agg [.ints k n a]) ⟨⟨rfl, rfl, rfl⟩, trivial⟩ hK
theorem res_vec {m : Nat} {k : IntKind} {l l' : List Int} (hf : Mem.find σ' m = some (.vec [.ints k l])) (e : l = l') (hK : K (.one (.vec d)) (Mem.ins d (.vec [.ints k l']) σ)) : Res d 1 σ K (.one (.vec m)) σ' := by
  subst e
  exact ⟨[.vec m [.ints k l]], .one (.vec d), Nat.le_refl _, fun it h => by simp at h; subst h; exact ⟨hf, rfl⟩, pairwise_one, Or.inr ⟨0, _, rfl, rfl, rfl⟩, hK⟩
theorem res_tvec {m : Nat} {k : IntKind} {l l' : List Int} {r s : List TV} (hf : Mem.find σ' m = some (.vec [.ints k l])) (hr : PlainT r s) (e : l = l') (hK : K (.tup (.c (.vec d) :: s)) (Mem.ins d (.vec [.ints k l']) σ)) : Res d 1 σ K (.tup (.c (.vec m) :: r)) σ' := by
  subst e
  exact ⟨[.vec m [.ints k l]], .tup (.c (.vec d) :: s), Nat.le_refl _, fun it h => by simp at h; subst h; exact ⟨hf, rfl⟩, pairwise_one, ⟨Or.inr ⟨0, _, rfl, rfl, rfl⟩, hr.res⟩, hK⟩
theorem res_tnil {k : IntKind} {l' : List Int} {r s : List TV} (hr : PlainT r s) (e : l' = []) (hK : K (.tup (.c (.vec d) :: s)) (Mem.ins d (.vec [.ints k l']) σ)) : Res d 1 σ K (.tup (.c (.con (.slice none 0 0)) :: r)) σ' := by
  subst e
  exact ⟨[.nil [.ints k]], .tup (.c (.vec d) :: s), Nat.le_refl _, fun it h => by simp at h; subst h; exact ⟨Nat.one_pos, rfl⟩, pairwise_one, ⟨Or.inr ⟨0, _, rfl, rfl, rfl⟩, hr.res⟩, hK⟩
end

/-! ### words -/
theorem room1 {n : Nat} (h : n ≤ 140737488421888) : Room n 1 := ⟨by omega⟩
theorem lsub_all {α : Type} (l : List α) : lsub l 0 l.length = l := by simp [lsub]
theorem lsub_drop {α : Type} (l : List α) (i : Nat) : lsub l i (l.length - i) = l.drop i := by simp [lsub, List.take_of_length_le]
theorem lsub_take {α : Type} (l : List α) (n : Nat) : lsub l 0 n = l.take n := by simp [lsub]
theorem lget_succ (l : List Int) (i : Nat) (h : i < l.length) : l.drop i = lget l i :: l.drop (i + 1) := by
  rw [List.drop_eq_getElem_cons h]; simp [lget, List.getD, h]
end Go.Sx

/- Lists given by a function; loops that count up or down; words of conditions as arithmetic. -/
namespace Go.Sx
open Go
set_option linter.unusedSimpArgs false
set_option linter.unusedVariables false

/-- the list of the first n values -/
def tab {α : Type} (n : Nat) (g : Nat → α) : List α := (List.range n).map g

theorem tab_len {α : Type} (n : Nat) (g : Nat → α) : (tab n g).length = n := by simp [tab]
theorem tab_llen {α : Type} (n : Nat) (g : Nat → α) : llen (tab n g) = n := tab_len n g
theorem tab_get? {α : Type} (n : Nat) (g : Nat → α) (i : Nat) : (tab n g)[i]? = if i < n then some (g i) else none := by
  simp only [tab, List.getElem?_map, List.getElem?_range]
  by_cases h : i < n
  · simp [h, List.getElem?_range]
  · simp [h]
theorem tab_ext {α : Type} {n : Nat} {g h : Nat → α} (e : ∀ i, i < n → g i = h i) : tab n g = tab n h := by
  refine List.map_congr_left fun i hi => e i (by simpa using hi)
theorem list_ext {α : Type} {a b : List α} (hl : a.length = b.length) (h : ∀ i, i < a.length → a[i]? = b[i]?) : a = b := by
  refine List.ext_getElem? fun i => ?_
  by_cases hi : i < a.length
  · exact h i hi
  · rw [List.getElem?_eq_none (by omega), List.getElem?_eq_none (by omega)]
theorem tab_lget {n i : Nat} (g : Nat → Int) (h : i < n) : lget (tab n g) i = g i := by
  simp [lget, List.getD, tab_get?, h]
theorem tab_set {α : Type} (n i : Nat) (g : Nat → α) (v : α) : (tab n g).set i v = tab n (fun j => if j = i then v else g j) := by
  refine list_ext (by simp [tab_len]) fun j hj => ?_
  simp only [List.length_set, tab_len] at hj
  rw [List.getElem?_set, tab_get?, tab_get?, tab_len]
  by_cases e : i = j
  · subst e; simp [hj]
  · simp [e, hj, Ne.symm e]
theorem tab_lset (n i : Nat) (g : Nat → Int) (v : Int) : lset (tab n g) i v = tab n (fun j => if j = i then v else g j) := tab_set n i g v
theorem tab_lsub {α : Type} {n o z : Nat} (g : Nat → α) (h : o + z ≤ n) : lsub (tab n g) o z = tab z (fun j => g (o + j)) := by
  refine list_ext (by simp [lsub, tab_len]; omega) fun j hj => ?_
  simp only [lsub, List.length_take, List.length_drop, tab_len] at hj
  simp only [lsub, List.getElem?_take, List.getElem?_drop, tab_get?]
  have h1 : j < z := by omega
  have h2 : o + j < n := by omega
  simp [h1, h2]
theorem tab_lput {n o z : Nat} (g f : Nat → Int) (h : o + z ≤ n) : lput (tab n g) o (tab z f) = tab n (fun j => if o ≤ j ∧ j < o + z then f (j - o) else g j) := by
  refine list_ext (by simp [lput, tab_len]; omega) fun j hj => ?_
  have hn : j < n := by simp [lput, tab_len] at hj; omega
  simp only [lput, List.append_assoc, tab_len]
  rw [tab_get?, if_pos hn]
  by_cases h1 : j < o
  · rw [List.getElem?_append_left (by simp [tab_len]; omega), List.getElem?_take_of_lt h1, tab_get?, if_pos hn]
    simp; omega
  · rw [List.getElem?_append_right (by simp [tab_len]; omega)]
    simp only [List.length_take, tab_len]
    rw [show min o n = o by omega]
    by_cases h2 : j < o + z
    · rw [List.getElem?_append_left (by simp [tab_len]; omega), tab_get?, if_pos (by omega)]
      simp; omega
    · rw [List.getElem?_append_right (by simp [tab_len]; omega), List.getElem?_drop, tab_get?, tab_len, if_pos (by omega)]
      have : ¬ (o ≤ j ∧ j < o + z) := by omega
      rw [if_neg this]
      congr 2; omega
theorem lzeros_tab (n : Nat) : lzeros n = tab n (fun _ => 0) := by simp [lzeros, tab, List.map_const']
theorem eq_tab {l : List Int} {n : Nat} (h : l.length = n) : l = tab n (lget l) := by
  subst h
  refine list_ext (by simp [tab_len]) fun j hj => ?_
  rw [tab_get?, if_pos hj]
  simp [lget, List.getD, hj]
theorem tab_succ {α : Type} (n : Nat) (g : Nat → α) : tab (n + 1) g = tab n g ++ [g n] := by simp [tab, List.range_succ]
theorem tab_zero {α : Type} (g : Nat → α) : tab 0 g = [] := rfl
/-- one place more is done -/
theorem tab_step {α : Type} {n i : Nat} {F G : Nat → α} {v : α} (hv : v = F i) : tab n (fun j => if j = i then v else if j < i then F j else G j) = tab n (fun j => if j < i + 1 then F j else G j) := by
  subst hv
  refine tab_ext fun j hj => ?_
  by_cases e : j = i
  · subst e; simp
  · by_cases q : j < i
    · simp [e, q, show j < i + 1 by omega]
    · simp [e, q, show ¬ j < i + 1 by omega]
theorem tab_done {α : Type} {n : Nat} {F G : Nat → α} : tab n (fun j => if j < n then F j else G j) = tab n F := tab_ext fun j hj => by simp [hj]
theorem tab_start {α : Type} {n : Nat} {F G : Nat → α} : tab n (fun j => if j < 0 then F j else G j) = tab n G := tab_ext fun j hj => by simp

/-- the first i places are done -/
def upto {α : Type} (n i : Nat) (F G : Nat → α) : List α := tab n fun j => if j < i then F j else G j
theorem upto_zero {α : Type} {n : Nat} {F G : Nat → α} : upto n 0 F G = tab n G := tab_start
theorem upto_done {α : Type} {n : Nat} {F G : Nat → α} : upto n n F G = tab n F := tab_done
theorem upto_len {α : Type} {n i : Nat} {F G : Nat → α} : (upto n i F G).length = n := tab_len _ _
theorem upto_lo {n i j : Nat} {F G : Nat → Int} (h : j < i) (hi : i ≤ n) : lget (upto n i F G) j = F j := by rw [upto, tab_lget _ (by omega), if_pos h]
theorem upto_hi {n i j : Nat} {F G : Nat → Int} (h : i ≤ j) (hj : j < n) : lget (upto n i F G) j = G j := by rw [upto, tab_lget _ hj, if_neg (by omega)]
theorem upto_lset {n i : Nat} {F G : Nat → Int} {v : Int} (hv : v = F i) : lset (upto n i F G) i v = upto n (i + 1) F G := by rw [upto, tab_lset, tab_step hv]; rfl
/-! ### the words of conditions -/
theorem InB_iff {i : Int} {n : Nat} : InB i n ↔ 0 ≤ i ∧ i < n := ⟨fun h => ⟨h.lo, h.hi⟩, fun h => ⟨h.1, h.2⟩⟩
theorem Low_iff {a b : Nat} : Low a b ↔ a < b := ⟨fun h => h.lt, fun h => ⟨h⟩⟩
theorem Fits_iff {a b : Nat} : Fits a b ↔ a ≤ b := ⟨fun h => h.le, fun h => ⟨h⟩⟩
theorem NonNeg_iff {i : Int} : NonNeg i ↔ 0 ≤ i := ⟨fun h => h.le, fun h => ⟨h⟩⟩
theorem NeZ_iff {i : Int} : NeZ i ↔ i ≠ 0 := ⟨fun h => h.ne, fun h => ⟨h⟩⟩
theorem Mk_iff {a b : Int} {z : Nat} : Mk a b z ↔ 0 ≤ a ∧ a ≤ b ∧ b * z ≤ 281474976710656 ∧ b ≤ 9223372036854775807 := ⟨fun h => ⟨h.lo, h.le, h.hi, h.c63⟩, fun h => ⟨h.1, h.2.1, h.2.2.1, h.2.2.2⟩⟩
theorem Room_iff {n z : Nat} : Room n z ↔ (5 * n + 4096) * z ≤ 1125899906842624 := ⟨fun h => h.le, fun h => ⟨h⟩⟩
theorem nat_cast (n : Nat) : nat (n : Int) = n := rfl
theorem nadd_def (a b : Nat) : nadd a b = a + b := rfl
theorem nsub_def (a b : Nat) : nsub a b = a - b := rfl
theorem nmul_def (a b : Nat) : nmul a b = a * b := rfl
theorem nmin_def (a b : Nat) : nmin a b = min a b := rfl
theorem ofNat_def (a : Nat) : ofNat a = (a : Int) := rfl
theorem llen_def {α : Type} (l : List α) : llen l = l.length := rfl
theorem lcat_def {α : Type} (a b : List α) : lcat a b = a ++ b := rfl
theorem add1_i64 {a : Nat} (h : a < 9223372036854775807) : add .i64 (a : Int) 1 = ((a + 1 : Nat) : Int) := by
  rw [add_i64 (by omega) (by omega)]; omega
theorem addN_i64 {a b : Nat} (h : a + b < 9223372036854775808) : add .i64 (a : Int) (b : Int) = ((a + b : Nat) : Int) := by
  rw [add_i64 (by omega) (by omega)]; omega
theorem mulN_i64 {a b : Nat} (h : a * b < 9223372036854775808) : mul .i64 (a : Int) (b : Int) = ((a * b : Nat) : Int) := by
  rw [mul_i64 (by have := Int.natCast_nonneg (a * b); rw [Int.natCast_mul] at this; omega) (by rw [← Int.natCast_mul]; omega)]; simp
theorem subN_i64 {a b : Nat} (h : b ≤ a) (ha : a < 9223372036854775808) : sub .i64 (a : Int) (b : Int) = ((a - b : Nat) : Int) := by
  rw [sub_i64 (by omega) (by omega)]; omega
theorem remN {a b : Nat} : rem (a : Int) (b : Int) = ((a % b : Nat) : Int) := by
  simp only [rem]; exact Int.ofNat_tmod a b
theorem quoN_i64 {a b : Nat} (h : a < 9223372036854775808) : quo .i64 (a : Int) (b : Int) = ((a / b : Nat) : Int) := by
  have e : (a : Int).tdiv (b : Int) = ((a / b : Nat) : Int) := Int.ofNat_tdiv a b
  have h2 : a / b ≤ a := Nat.div_le_self a b
  unfold quo
  rw [e]
  generalize a / b = q at h2
  exact conv_i64 (by omega) (by omega)

/-! ### loops -/
/-- a loop that counts up to n -/
theorem loop_up {S : Type} (L : Nat → Int → S → Prop) (n : Nat) (st : Nat → S) (hs : ∀ f i, i < n → L f ((i + 1 : Nat) : Int) (st (i + 1)) → L (f + 1) (i : Int) (st i)) (he : ∀ f, L (f + 1) (n : Int) (st n)) :
    ∀ i, i ≤ n → ∀ m, L (n - i + 1 + m) (i : Int) (st i) := by
  intro i hi m
  induction hk : n - i generalizing i with
  | zero =>
    obtain rfl : i = n := by omega
    rw [show 0 + 1 + m = m + 1 by omega]; exact he m
  | succ k ih =>
    rw [show k + 1 + 1 + m = (k + 1 + m) + 1 by omega]
    exact hs _ i (by omega) (ih (i + 1) (by omega) (by omega))
/-- the same from nought -/
theorem loop_up0 {S : Type} (L : Nat → Int → S → Prop) (n : Nat) (st : Nat → S) (hs : ∀ f i, i < n → L f ((i + 1 : Nat) : Int) (st (i + 1)) → L (f + 1) (i : Int) (st i)) (he : ∀ f, L (f + 1) (n : Int) (st n)) (m : Nat) : L (n + 1 + m) 0 (st 0) :=
  loop_up L n st hs he 0 (Nat.zero_le _) m
/-- a loop that counts up to n, each round at so much fuel -/
theorem loop_n {S : Type} (L : Nat → Int → S → Prop) (n : Nat) (st : Nat → S) (c f0 : Nat) (hs : ∀ g i, i < n → L g ((i + 1 : Nat) : Int) (st (i + 1)) → L (g + c) (i : Int) (st i)) (he : L f0 (n : Int) (st n)) :
    ∀ i, i ≤ n → L (f0 + c * (n - i)) (i : Int) (st i) := by
  intro i hi
  induction hk : n - i generalizing i with
  | zero =>
    obtain rfl : i = n := by omega
    exact he
  | succ k ih =>
    rw [Nat.mul_succ, ← Nat.add_assoc]
    exact hs _ i (by omega) (ih (i + 1) (by omega) (by omega))
/-- the same from a place on -/
theorem loop_from {S : Type} (L : Nat → Int → S → Prop) (lo n : Nat) (st : Nat → S) (c f0 : Nat) (hs : ∀ g i, lo ≤ i → i < n → L g ((i + 1 : Nat) : Int) (st (i + 1)) → L (g + c) (i : Int) (st i)) (he : L f0 (n : Int) (st n)) :
    ∀ i, lo ≤ i → i ≤ n → L (f0 + c * (n - i)) (i : Int) (st i) := by
  intro i hl hi
  induction hk : n - i generalizing i with
  | zero =>
    obtain rfl : i = n := by omega
    exact he
  | succ k ih =>
    rw [Nat.mul_succ, ← Nat.add_assoc]
    exact hs _ i hl (by omega) (ih (i + 1) (by omega) (by omega) (by omega))
/-- the same, by k -/
theorem loop_nby {S : Type} (k : Nat) (L : Nat → Int → S → Prop) (n : Nat) (st : Nat → S) (c f0 : Nat) (hs : ∀ g i, i < n → L g ((k * (i + 1) : Nat) : Int) (st (i + 1)) → L (g + c) ((k * i : Nat) : Int) (st i)) (he : L f0 ((k * n : Nat) : Int) (st n)) :
    ∀ i, i ≤ n → L (f0 + c * (n - i)) ((k * i : Nat) : Int) (st i) := fun i hi =>
  loop_n (fun f (i : Int) s => L f ((k * i.toNat : Nat) : Int) s) n st c f0 (fun f i hi h => hs f i hi h) he i hi
theorem lsub_lsub {α : Type} (l : List α) (a n b m : Nat) (h : b + m ≤ n) : lsub (lsub l a n) b m = lsub l (a + b) m := by
  simp only [lsub]
  rw [List.drop_take, List.take_take, List.drop_drop]
  congr 1; omega
theorem upto_lput {n i z : Nat} {F G : Nat → Int} {l : List Int} (hl : l = tab z (fun k => F (i + k))) (h : i + z ≤ n) : lput (upto n i F G) i l = upto n (i + z) F G := by
  subst hl
  rw [upto, tab_lput _ _ h]
  refine tab_ext fun j hj => ?_
  by_cases q : j < i
  · rw [if_neg (by omega), if_pos q, if_pos (by omega)]
  · by_cases r : j < i + z
    · rw [if_pos ⟨by omega, r⟩, if_pos r, show i + (j - i) = j by omega]
    · rw [if_neg (by omega), if_neg q, if_neg r]
theorem lsub_tabbed {l : List Int} {n o z : Nat} (hl : l.length = n) (h : o + z ≤ n) : lsub l o z = tab z (fun j => lget l (o + j)) := by
  conv => lhs; rw [eq_tab hl, tab_lsub _ h]
/-- a loop that counts up to n; how much fuel is not told -/
theorem loop_ex {S : Type} (L : Nat → Int → S → Prop) (n : Nat) (st : Nat → S) (hs : ∀ g i, i < n → L g ((i + 1 : Nat) : Int) (st (i + 1)) → ∃ g', L g' (i : Int) (st i)) (he : ∃ g, L g (n : Int) (st n)) :
    ∀ i, i ≤ n → ∃ g, L g (i : Int) (st i) := by
  intro i hi
  induction hk : n - i generalizing i with
  | zero =>
    obtain rfl : i = n := by omega
    exact he
  | succ k ih =>
    obtain ⟨g, hg⟩ := ih (i + 1) (by omega) (by omega)
    exact hs g i (by omega) hg
theorem loop_exfrom {S : Type} (L : Nat → Int → S → Prop) (lo n : Nat) (st : Nat → S) (hs : ∀ g i, lo ≤ i → i < n → L g ((i + 1 : Nat) : Int) (st (i + 1)) → ∃ g', L g' (i : Int) (st i)) (he : ∃ g, L g (n : Int) (st n)) :
    ∀ i, lo ≤ i → i ≤ n → ∃ g, L g (i : Int) (st i) := by
  intro i hl hi
  induction hk : n - i generalizing i with
  | zero =>
    obtain rfl : i = n := by omega
    exact he
  | succ k ih =>
    obtain ⟨g, hg⟩ := ih (i + 1) (by omega) (by omega) (by omega)
    exact hs g i hl (by omega) hg
theorem loop_exby {S : Type} (k : Nat) (L : Nat → Int → S → Prop) (n : Nat) (st : Nat → S) (hs : ∀ g i, i < n → L g ((k * (i + 1) : Nat) : Int) (st (i + 1)) → ∃ g', L g' ((k * i : Nat) : Int) (st i)) (he : ∃ g, L g ((k * n : Nat) : Int) (st n)) :
    ∀ i, i ≤ n → ∃ g, L g ((k * i : Nat) : Int) (st i) := fun i hi =>
  loop_ex (fun f (i : Int) s => L f ((k * i.toNat : Nat) : Int) s) n st (fun f i hi h => hs f i hi h) he i hi
/-- a loop that counts up by k -/
theorem loop_by {S : Type} (k : Nat) (L : Nat → Int → S → Prop) (n : Nat) (st : Nat → S) (hs : ∀ f i, i < n → L f ((k * (i + 1) : Nat) : Int) (st (i + 1)) → L (f + 1) ((k * i : Nat) : Int) (st i)) (he : ∀ f, L (f + 1) ((k * n : Nat) : Int) (st n)) (m : Nat) : L (n + 1 + m) 0 (st 0) := by
  have := loop_up (fun f (i : Int) s => L f ((k * i.toNat : Nat) : Int) s) n st (fun f i hi h => hs f i hi h) he 0 (Nat.zero_le _) m
  simpa using this
end Go.Sx

/- Bits of signed words that are not below nought. -/
namespace Go.Sx
open Go
set_option linter.unusedSimpArgs false

theorem bor_i64 {a b : Nat} (ha : a < 9223372036854775808) (hb : b < 9223372036854775808) : bor .i64 (a : Int) (b : Int) = ((a ||| b : Nat) : Int) := by
  have hx : a ||| b < 2 ^ 63 := Nat.or_lt_two_pow (by omega) (by omega)
  show IntKind.i64.wrap ((BitVec.ofInt 64 (a : Int) ||| BitVec.ofInt 64 (b : Int)).toNat : Int) = _
  rw [BitVec.toNat_or, ofInt_u64 a (by omega), ofInt_u64 b (by omega), IntKind.wrap_i64]
  omega
theorem shr_i64 {a n : Nat} (hn : n ≤ 64) : shr .i64 (a : Int) (n : Int) = ((a / 2 ^ n : Nat) : Int) := by
  unfold shr
  have : min (n : Int).toNat IntKind.i64.bits = n := by show min ((n : Int).toNat) 64 = n; omega
  rw [this]
  have h : (2 : Int) ^ n = ((2 ^ n : Nat) : Int) := by simp
  rw [h, Int.fdiv_eq_ediv_of_nonneg _ (Int.natCast_nonneg _)]
  simp
theorem shl_i64 {a n : Nat} (hn : n ≤ 64) (h : a * 2 ^ n < 9223372036854775808) : shl .i64 (a : Int) (n : Int) = ((a * 2 ^ n : Nat) : Int) := by
  unfold shl
  have : min (n : Int).toNat IntKind.i64.bits = n := by show min ((n : Int).toNat) 64 = n; omega
  rw [this]
  have e : (a : Int) * 2 ^ n = ((a * 2 ^ n : Nat) : Int) := by simp
  rw [e, IntKind.wrap_i64]
  omega
end Go.Sx

/- The digest: its mathematics and what is known of its functions. -/
namespace Go.Hsh
open Go Go.Sx
def rootsL : List Int := [1116352408, 1899447441, 3049323471, 3921009573, 961987163, 1508970993, 2453635748, 2870763221, 3624381080, 310598401, 607225278, 1426881987, 1925078388, 2162078206, 2614888103, 3248222580, 3835390401, 4022224774, 264347078, 604807628, 770255983, 1249150122, 1555081692, 1996064986, 2554220882, 2821834349, 2952996808, 3210313671, 3336571891, 3584528711, 113926993, 338241895, 666307205, 773529912, 1294757372, 1396182291, 1695183700, 1986661051, 2177026350, 2456956037, 2730485921, 2820302411, 3259730800, 3345764771, 3516065817, 3600352804, 4094571909, 275423344, 430227734, 506948616, 659060556, 883997877, 958139571, 1322822218, 1537002063, 1747873779, 1955562222, 2024104815, 2227730452, 2361852424, 2428436474, 2756734187, 3204031479, 3329325298]
def firstL : List Int := [1779033703, 3144134277, 1013904242, 2773480762, 1359893119, 2600822924, 528734635, 1541459225]
/-- turned to the right -/
def rot (x n : Int) : Int := bor .u32 (shl .u32 x (32 - n)) (shr .u32 x n)
/-- word t of a block -/
def ld (b : List Int) (t : Nat) : Int :=
  bor .u32 (bor .u32 (bor .u32 (shl .u32 (conv .u32 (lget b (4 * t))) 24) (shl .u32 (conv .u32 (lget b (4 * t + 1))) 16)) (shl .u32 (conv .u32 (lget b (4 * t + 2))) 8)) (conv .u32 (lget b (4 * t + 3)))
def sg0 (x : Int) : Int := bxor .u32 (bxor .u32 (rot x 7) (rot x 18)) (shr .u32 x 3)
def sg1 (y : Int) : Int := bxor .u32 (bxor .u32 (rot y 17) (rot y 19)) (shr .u32 y 10)
def wsN (b : List Int) : Nat → Nat → Int
  | 0, _ => 0
  | n + 1, i => if i < n then wsN b n i else if n < 16 then ld b n else
      add .u32 (add .u32 (add .u32 (sg1 (wsN b n (n - 2))) (wsN b n (n - 7))) (sg0 (wsN b n (n - 15)))) (wsN b n (n - 16))
def ws (b : List Int) (i : Nat) : Int := wsN b (i + 1) i
def s1 (e : Int) : Int := bxor .u32 (bxor .u32 (rot e 6) (rot e 11)) (rot e 25)
def s0 (a : Int) : Int := bxor .u32 (bxor .u32 (rot a 2) (rot a 13)) (rot a 22)
def ch (e f g : Int) : Int := bxor .u32 (band .u32 e f) (band .u32 (bxor .u32 4294967295 e) g)
def mj (a b c : Int) : Int := bxor .u32 (bxor .u32 (band .u32 a b) (band .u32 a c)) (band .u32 b c)
def t1 (k w : Int) (v : List Int) : Int := add .u32 (add .u32 (add .u32 (add .u32 (lget v 7) (s1 (lget v 4))) (ch (lget v 4) (lget v 5) (lget v 6))) k) w
def t2 (v : List Int) : Int := add .u32 (s0 (lget v 0)) (mj (lget v 0) (lget v 1) (lget v 2))
/-- a round -/
def rd (k w : Int) (v : List Int) : List Int := [add .u32 (t1 k w v) (t2 v), lget v 0, lget v 1, lget v 2, add .u32 (lget v 3) (t1 k w v), lget v 4, lget v 5, lget v 6]
/-- the first rounds -/
def rds (b s : List Int) : Nat → List Int
  | 0 => s
  | n + 1 => rd (lget rootsL n) (ws b n) (rds b s n)
/-- one more block -/
def blk (s b : List Int) : List Int := tab 8 fun i => add .u32 (lget s i) (lget (rds b s 64) i)
theorem wsN_stable (b : List Int) : ∀ (n m i : Nat), i < n → n ≤ m → wsN b m i = wsN b n i := by
  intro n m i hi hm
  induction m with
  | zero => omega
  | succ m ih =>
    by_cases h : n = m + 1
    · rw [h]
    · rw [← ih (by omega)]
      show (if i < m then wsN b m i else _) = _
      rw [if_pos (by omega)]
theorem wsN_ws (b : List Int) (n i : Nat) (h : i < n) : wsN b n i = ws b i := wsN_stable b (i + 1) n i (by omega) (by omega)
theorem ws_lo (b : List Int) {i : Nat} (h : i < 16) : ws b i = ld b i := by
  unfold ws wsN; rw [if_neg (by omega), if_pos h]
theorem ws_hi (b : List Int) {i : Nat} (h : 16 ≤ i) : ws b i = add .u32 (add .u32 (add .u32 (sg1 (ws b (i - 2))) (ws b (i - 7))) (sg0 (ws b (i - 15)))) (ws b (i - 16)) := by
  conv => lhs; unfold ws wsN
  rw [if_neg (by omega), if_neg (by omega), wsN_ws b i (i - 2) (by omega), wsN_ws b i (i - 7) (by omega), wsN_ws b i (i - 15) (by omega), wsN_ws b i (i - 16) (by omega)]
/-- the noughts behind the 0x80 -/
def nfill (n : Nat) : Nat := (119 - n % 64) % 64
/-- byte i of the number of bits -/
def bitsN (n : Nat) (i : Nat) : Int := conv .u8 (shr .u64 (mul .u64 (conv .u64 (n : Int)) 8) ((56 - 8 * i : Nat) : Int))
abbrev bitsB (m : List Int) (i : Nat) : Int := bitsN m.length i
/-- a list with its padding -/
def fillOf (m : List Int) : List Int := m ++ [128] ++ List.replicate (nfill m.length) 0 ++ tab 8 (fun i => bitsB m i)
/-- a list of no more bytes than a slice that is read -/
structure Sm (l : List Int) : Prop where
  le : l.length ≤ 200000000000000
structure Len8 (s : List Int) : Prop where
  e : s.length = 8
structure WOk (m k s : List Int) (p : Int) : Prop where
  hm : Bs m
  hk : k = rootsL
  hs : s.length = 8
  hp : 0 ≤ p
  le : p.toNat + 64 ≤ m.length
  lt : m.length < 4611686018427387904
end Go.Hsh
namespace Go.Sx
open Go.Hsh
def hasRoots (σ : Mem) : Prop := match Mem.find σ (gname 0) with
  | some (.view [.ints .u32 64 l]) => l = rootsL
  | _ => False
def rotS : Spec := ⟨0, false, fun _ args σ K => match args with
  | [.one (.int .u32 x), .one (.int .i64 k)] => (-32 < k ∧ k < 0) ∧ K (.one (.int .u32 (rot x (-k)))) σ
  | _ => False⟩
def hturnedS : Spec := ⟨0, false, fun _ args σ K => match args with
  | [.one (.int .u32 x), .one (.int .i64 n)] => (0 < n ∧ n < 32) ∧ K (.one (.int .u32 (rot x n))) σ
  | _ => False⟩
def firstS : Spec := ⟨0, false, fun _ args σ K => match args with
  | [] => K (.agg [.ints .u32 8 firstL]) σ
  | _ => False⟩
def thirdsS : Spec := ⟨0, false, fun _ args σ K => match args with
  | [] => K (.agg [.ints .u32 64 rootsL]) σ
  | _ => False⟩
def blockS : Spec := ⟨0, false, fun _ args σ K => match args with
  | [.agg [.ints .u32 8 s], .agg [.ints .u8 64 b]] => (hasRoots σ ∧ Len8 s) ∧ K (.agg [.ints .u32 8 (blk s b)]) σ
  | _ => False⟩
def workedS : Spec := ⟨0, false, fun _ args σ K => match args with
  | [.agg [.ints .u32 8 s], .agg [.ints .u32 64 k], x, .one (.int .i64 p)] => rdb σ x fun m => WOk m k s p ∧ K (.agg [.ints .u32 8 (blk s (lsub m (nat p) 64))]) σ
  | _ => False⟩
def paddedS : Spec := ⟨1, false, fun d args σ K => match args with
  | [x] => rdb σ x fun m => Sm m ∧ K (.one (.vec d)) (Mem.ins d (.vec [.ints .u8 (fillOf m)]) σ)
  | _ => False⟩
def gamH1 : Gam := ext (ext gam0 89 rotS) 93 hturnedS
end Go.Sx

/- A word out of four bytes. -/
namespace Go.Hsh
open Go Go.Sx
set_option linter.unusedSimpArgs false

theorem ofInt_u32 (a : Nat) (h : a < 4294967296) : (BitVec.ofInt 32 (a : Int)).toNat = a := by
  rw [BitVec.toNat_ofInt]; omega
theorem bor_u32 {a b : Nat} (ha : a < 4294967296) (hb : b < 4294967296) : bor .u32 (a : Int) (b : Int) = ((a ||| b : Nat) : Int) := by
  have hx : a ||| b < 2 ^ 32 := Nat.or_lt_two_pow (by omega) (by omega)
  show IntKind.u32.wrap ((BitVec.ofInt 32 (a : Int) ||| BitVec.ofInt 32 (b : Int)).toNat : Int) = _
  rw [BitVec.toNat_or, ofInt_u32 a (by omega), ofInt_u32 b (by omega), IntKind.wrap_u32]
  omega
theorem shl_u32 {a n : Nat} (hn : n ≤ 32) (h : a * 2 ^ n < 4294967296) : shl .u32 (a : Int) (n : Int) = ((a * 2 ^ n : Nat) : Int) := by
  unfold shl
  have : min (n : Int).toNat IntKind.u32.bits = n := by show min ((n : Int).toNat) 32 = n; omega
  rw [this]
  have e : (a : Int) * 2 ^ n = ((a * 2 ^ n : Nat) : Int) := by simp
  rw [e, IntKind.wrap_u32]
  omega
theorem or_add {a b n : Nat} (h : b < 2 ^ n) : a * 2 ^ n ||| b = a * 2 ^ n + b := by
  rw [← Nat.shiftLeft_eq, Nat.shiftLeft_add_eq_or_of_lt h]
/-- the word of four bytes -/
def word (a b c d : Nat) : Nat := ((a * 256 + b) * 256 + c) * 256 + d
theorem horner {a c : Nat} (ha : a < 16777216) (hc : c < 256) : bor .u32 (shl .u32 (a : Int) 8) (c : Int) = ((a * 256 + c : Nat) : Int) := by
  have e := shl_u32 (a := a) (n := 8) (by omega) (by omega)
  rw [show ((8 : Nat) : Int) = 8 from rfl] at e
  rw [e, bor_u32 (by omega) (by omega), show a * 2 ^ 8 ||| c = a * 2 ^ 8 + c from or_add (by omega)]
theorem ld_word {a b c d : Nat} (ha : a < 256) (hb : b < 256) (hc : c < 256) (hd : d < 256) :
    bor .u32 (bor .u32 (bor .u32 (shl .u32 (a : Int) 24) (shl .u32 (b : Int) 16)) (shl .u32 (c : Int) 8)) (d : Int) = ((word a b c d : Nat) : Int) := by
  have e1 := shl_u32 (a := a) (n := 24) (by omega) (by omega)
  have e2 := shl_u32 (a := b) (n := 16) (by omega) (by omega)
  have e3 := shl_u32 (a := c) (n := 8) (by omega) (by omega)
  rw [show ((24 : Nat) : Int) = 24 from rfl] at e1
  rw [show ((16 : Nat) : Int) = 16 from rfl] at e2
  rw [show ((8 : Nat) : Int) = 8 from rfl] at e3
  rw [e1, e2, e3, bor_u32 (by omega) (by omega), or_add (a := a) (n := 24) (b := b * 2 ^ 16) (by omega),
    bor_u32 (by omega) (by omega), show a * 2 ^ 24 + b * 2 ^ 16 = (a * 65536 + b * 256) * 2 ^ 8 by omega, show ((a * 65536 + b * 256) * 2 ^ 8 : Nat) = (a * 256 + b) * 2 ^ 16 by omega,
    or_add (a := a * 256 + b) (n := 16) (b := c * 2 ^ 8) (by omega), bor_u32 (by omega) (by omega),
    show (a * 256 + b) * 2 ^ 16 + c * 2 ^ 8 = ((a * 256 + b) * 256 + c) * 2 ^ 8 by omega, or_add (n := 8) (by omega)]
  rfl
end Go.Hsh

/- A hash under way, byte by byte: its mathematics. -/
namespace Go.Hsh
open Go Go.Sx
set_option linter.unusedSimpArgs false

theorem blk_len (s b : List Int) : (blk s b).length = 8 := tab_len _ _

abbrev HS := List Int × List Int × Nat
/-- one byte more -/
def addB (h : HS) (c : Int) : HS := (if (h.2.2 + 1) % 64 = 0 then blk h.1 (lset h.2.1 (h.2.2 % 64) c) else h.1, lset h.2.1 (h.2.2 % 64) c, h.2.2 + 1)
def addL (h : HS) (l : List Int) : HS := l.foldl addB h
def readied (h : HS) : HS := if h.2.2 < 64 then (firstL, h.2) else h
/-- what Add does -/
def addH (h : HS) (l : List Int) : HS := addL (readied h) l
/-- the state that has taken in a list -/
def stA (l : List Int) : HS := addL (firstL, lzeros 64, 0) l
def hZ : HS := (lzeros 8, lzeros 64, 0)
/-- the padding behind n bytes -/
def fillN (n : Nat) : List Int := 128 :: (List.replicate (nfill n) 0 ++ tab 8 (fun i => bitsN n i))
def digest (W : List Int) : List Int := tab 32 fun i => conv .u8 (shr .u32 (lget W (i / 4)) ((24 - 8 * (i % 4) : Nat) : Int))
def sumH (h : HS) : List Int := digest (addH h (fillN h.2.2)).1
def sha (l : List Int) : List Int := digest (stA (fillOf l)).1

theorem addL_app (h : HS) (a b : List Int) : addL h (a ++ b) = addL (addL h a) b := List.foldl_append
theorem stA_app (a b : List Int) : stA (a ++ b) = addL (stA a) b := addL_app _ _ _
theorem addL_n (h : HS) (l : List Int) : (addL h l).2.2 = h.2.2 + l.length := by
  induction l generalizing h with
  | nil => rfl
  | cons a l ih => show (addL (addB h a) l).2.2 = _; rw [ih]; simp only [addB, List.length_cons]; omega
theorem addL_T (h : HS) (l : List Int) : (addL h l).2.1.length = h.2.1.length := by
  induction l generalizing h with
  | nil => rfl
  | cons a l ih => show (addL (addB h a) l).2.1.length = _; rw [ih]; exact List.length_set
theorem addL_W (h : HS) (l : List Int) (hw : h.1.length = 8) : (addL h l).1.length = 8 := by
  induction l generalizing h with
  | nil => exact hw
  | cons a l ih =>
    show (addL (addB h a) l).1.length = _
    refine ih _ ?_
    simp only [addB]; split
    · exact blk_len _ _
    · exact hw
theorem stA_n (l : List Int) : (stA l).2.2 = l.length := by unfold stA; rw [addL_n]; show 0 + _ = _; omega
theorem stA_T (l : List Int) : (stA l).2.1.length = 64 := by unfold stA; rw [addL_T]; rfl
theorem stA_W (l : List Int) : (stA l).1.length = 8 := addL_W _ _ rfl

theorem lset_len (l : List Int) (i : Nat) (v : Int) : (lset l i v).length = l.length := List.length_set
theorem lput_length {l v : List Int} {i : Nat} (h : i + v.length ≤ l.length) : (lput l i v).length = l.length := by
  unfold lput; simp only [List.length_append, List.length_take, List.length_drop]; omega
theorem lput_one {l : List Int} {i : Nat} {x : Int} (h : i < l.length) : lput l i [x] = lset l i x := by
  unfold lput lset
  rw [List.set_eq_take_append_cons_drop, if_pos h]; simp
theorem lput_cons {l c : List Int} {i : Nat} {x : Int} (h : i + 1 + c.length ≤ l.length) : lput (lset l i x) (i + 1) c = lput l i (x :: c) := by
  unfold lput lset
  rw [List.take_add_one, List.take_set_of_le (Nat.le_refl i), List.getElem?_set_self (by omega), List.drop_set_of_lt (by omega)]
  simp only [Option.toList_some, List.length_cons, List.append_assoc, List.cons_append, List.nil_append]
  rw [show i + 1 + c.length = i + (c.length + 1) by omega]

/-- some bytes more, up to a block's end -/
theorem addL_chunk : ∀ (c : List Int) (W T : List Int) (n : Nat), T.length = 64 → n % 64 + c.length ≤ 64 → c ≠ [] →
    addL (W, T, n) c = (if (n + c.length) % 64 = 0 then blk W (lput T (n % 64) c) else W, lput T (n % 64) c, n + c.length)
  | [], _, _, _, _, _, h => absurd rfl h
  | [x], W, T, n, hT, hc, _ => by
    show addB (W, T, n) x = _
    simp only [addB, List.length_singleton]
    rw [lput_one (by omega)]
  | x :: y :: c, W, T, n, hT, hc, _ => by
    show addL (addB (W, T, n) x) (y :: c) = _
    simp only [List.length_cons] at hc
    have e : (n + 1) % 64 = n % 64 + 1 := by omega
    have e1 : addB (W, T, n) x = (W, lset T (n % 64) x, n + 1) := by
      simp only [addB]; rw [if_neg (by omega)]
    rw [e1, addL_chunk (y :: c) W (lset T (n % 64) x) (n + 1) (by rw [lset_len]; exact hT) (by simp only [List.length_cons]; omega) (by simp), e, lput_cons (by simp only [List.length_cons]; omega)]
    have e2 : n + 1 + (y :: c).length = n + (x :: y :: c).length := by simp only [List.length_cons]; omega
    simp only [e2]

theorem lput_full {T c : List Int} (h : c.length = T.length) : lput T 0 c = c := by
  unfold lput; rw [List.drop_of_length_le (by omega)]; simp
/-- one block more -/
theorem stA_block {a c : List Int} (ha : a.length % 64 = 0) (hc : c.length = 64) : (stA (a ++ c)).1 = blk (stA a).1 c := by
  have hn := stA_n a
  have hT := stA_T a
  rw [stA_app]
  obtain ⟨W, T, n, hs⟩ : ∃ W T n, stA a = (W, T, n) := ⟨_, _, _, rfl⟩
  rw [hs] at hn hT
  simp only at hn hT
  subst hn
  rw [hs, addL_chunk c W T a.length hT (by omega) (by intro e; simp [e] at hc), if_pos (by omega), ha, lput_full (by omega)]
theorem addL_few : ∀ (l : List Int) (h : HS), h.2.2 + l.length < 64 → (addL h l).1 = h.1
  | [], _, _ => rfl
  | c :: l, h, hl => by
    show (addL (addB h c) l).1 = _
    simp only [List.length_cons] at hl
    rw [addL_few l (addB h c) (by simp only [addB]; omega)]
    simp only [addB]; rw [if_neg (by omega)]
theorem stA_few {l : List Int} (h : l.length < 64) : (stA l).1 = firstL := addL_few _ _ (by show 0 + l.length < 64; omega)
theorem readied_stA (l : List Int) : readied (stA l) = stA l := by
  unfold readied
  rw [stA_n]
  split
  · rename_i h
    have := stA_few h
    rw [← this]
  · rfl
theorem addH_stA (a b : List Int) : addH (stA a) b = stA (a ++ b) := by unfold addH; rw [readied_stA, stA_app]
theorem addH_zero (b : List Int) : addH hZ b = stA b := by
  unfold addH readied stA
  rw [if_pos (by decide)]; rfl
theorem fillOf_eq (l : List Int) : fillOf l = l ++ fillN l.length := by
  unfold fillOf fillN
  simp only [List.append_assoc, List.cons_append, List.nil_append]
theorem sumH_stA (l : List Int) : sumH (stA l) = sha l := by
  unfold sumH sha; rw [addH_stA, stA_n, fillOf_eq]
theorem fillOf_len (l : List Int) : (fillOf l).length % 64 = 0 := by
  unfold fillOf nfill; simp only [List.length_append, List.length_replicate, List.length_singleton, tab_len]; omega
theorem sha_len (l : List Int) : (sha l).length = 32 := tab_len _ _
theorem conv_u8_byte (x : Int) : 0 ≤ conv .u8 x ∧ conv .u8 x < 256 := by rw [conv_u8]; omega
theorem digest_bytes (W : List Int) : Bs (digest W) := ⟨fun x hx => by
  unfold digest tab at hx
  obtain ⟨i, _, rfl⟩ := List.mem_map.mp hx
  exact conv_u8_byte _⟩
theorem sha_bytes (l : List Int) : Bs (sha l) := digest_bytes _
theorem bits_bytes (n : Nat) : Bs (tab 8 fun i => bitsN n i) := ⟨fun x hx => by
  unfold tab at hx
  obtain ⟨i, _, rfl⟩ := List.mem_map.mp hx
  exact conv_u8_byte _⟩
theorem fillN_bytes (n : Nat) : Bs (fillN n) := .cons (by decide) (by decide) ((Bs.zeros _).app (bits_bytes n))
theorem fillOf_bytes {l : List Int} (h : Bs l) : Bs (fillOf l) := by rw [fillOf_eq]; exact h.app (fillN_bytes _)

/-- the reference's way: block by block -/
def blks (m : List Int) : Nat → List Int
  | 0 => firstL
  | n + 1 => blk (blks m n) (lsub m (64 * n) 64)
theorem blks_stA {m : List Int} : ∀ n, 64 * n ≤ m.length → blks m n = (stA (m.take (64 * n))).1
  | 0, _ => rfl
  | n + 1, h => by
    have e : m.take (64 * (n + 1)) = m.take (64 * n) ++ lsub m (64 * n) 64 := by
      unfold lsub; rw [show 64 * (n + 1) = 64 * n + 64 by omega, List.take_add]
    rw [e, stA_block (by rw [List.length_take]; omega) (by unfold lsub; rw [List.length_take, List.length_drop]; omega), ← blks_stA n (by omega)]
    rfl
theorem blks_all {m : List Int} (h : m.length % 64 = 0) : blks m (m.length / 64) = (stA m).1 := by
  rw [blks_stA _ (by omega), List.take_of_length_le (by omega)]
theorem blks_len (m : List Int) : ∀ n, (blks m n).length = 8
  | 0 => rfl
  | _ + 1 => blk_len _ _
end Go.Hsh

/- What is known of the digest's functions. -/
namespace Go.Sx
open Go.Hsh
/-- a hash as a value -/
abbrev hAV (h : HS) : AV := .agg [.ints .u32 8 h.1, .ints .u8 64 h.2.1, .cells [.int .u64 (h.2.2 : Int)]]
structure HOk (W T : List Int) (n : Int) (more : Nat) : Prop where
  w : W.length = 8
  t : T.length = 64
  lo : 0 ≤ n
  hi : n.toNat + more ≤ 1125899906842624
end Go.Sx
namespace Go.Hsh
open Go Go.Sx
/-! words that are not reckoned out -/
theorem hid {α : Type} (x : α) : ∃ y, y = x := ⟨x, rfl⟩
noncomputable def hide {α : Type} (x : α) : α := Classical.choose (hid x)
theorem hide_eq {α : Type} (x : α) : hide x = x := Classical.choose_spec (hid x)
noncomputable def addW : List Int → List Int → Int → List Int → List Int := hide fun W T n p => (addH (W, T, nat n) p).1
noncomputable def addT : List Int → List Int → Int → List Int → List Int := hide fun W T n p => (addH (W, T, nat n) p).2.1
noncomputable def addN : List Int → List Int → Int → List Int → Int := hide fun W T n p => ((addH (W, T, nat n) p).2.2 : Int)
noncomputable def sumL : List Int → List Int → Int → List Int := hide fun W T n => sumH (W, T, nat n)
noncomputable def shaL : List Int → List Int := hide sha
theorem addW_eq (W T : List Int) (n : Int) (p : List Int) : addW W T n p = (addH (W, T, nat n) p).1 := by unfold addW; rw [hide_eq]
theorem addT_eq (W T : List Int) (n : Int) (p : List Int) : addT W T n p = (addH (W, T, nat n) p).2.1 := by unfold addT; rw [hide_eq]
theorem addN_eq (W T : List Int) (n : Int) (p : List Int) : addN W T n p = ((addH (W, T, nat n) p).2.2 : Int) := by unfold addN; rw [hide_eq]
theorem sumL_eq (W T : List Int) (n : Int) : sumL W T n = sumH (W, T, nat n) := by unfold sumL; rw [hide_eq]
theorem shaL_eq (p : List Int) : shaL p = sha p := by unfold shaL; rw [hide_eq]
end Go.Hsh
namespace Go.Sx
open Go.Hsh
def newHS : Spec := ⟨0, false, fun _ args σ K => match args with
  | [] => K (hAV hZ) σ
  | _ => False⟩
noncomputable def addHS : Spec := ⟨0, false, fun _ args σ K => match args with
  | [.agg [.ints .u32 8 W, .ints .u8 64 T, .cells [.int .u64 n]], x] => rdb σ x fun p => (hasRoots σ ∧ HOk W T n p.length) ∧ K (.agg [.ints .u32 8 (addW W T n p), .ints .u8 64 (addT W T n p), .cells [.int .u64 (addN W T n p)]]) σ
  | _ => False⟩
noncomputable def sumHS : Spec := ⟨0, false, fun _ args σ K => match args with
  | [.agg [.ints .u32 8 W, .ints .u8 64 T, .cells [.int .u64 n]]] => (hasRoots σ ∧ HOk W T n 200) ∧ K (.agg [.ints .u8 32 (sumL W T n)]) σ
  | _ => False⟩
noncomputable def shaS : Spec := ⟨0, false, fun _ args σ K => match args with
  | [x] => rdb σ x fun p => (hasRoots σ ∧ Sm p) ∧ K (.agg [.ints .u8 32 (shaL p)]) σ
  | _ => False⟩
noncomputable def rshaS : Spec := ⟨0, false, fun _ args σ K => match args with
  | [x] => rdb σ x fun p => (Sm p ∧ Bs p) ∧ K (.agg [.ints .u8 32 (shaL p)]) σ
  | _ => False⟩
def yesR : Spec := ⟨0, false, fun _ args σ K => match args with
  | [] => hasRoots σ ∧ K (.one (.lit true)) σ
  | _ => False⟩
def gamH2 : Gam := ext (ext (ext (ext (ext (ext gamH1 82 blockS) 81 firstS) 80 newHS) 90 thirdsS) 92 workedS) 91 paddedS
noncomputable def gamH3 : Gam := ext gamH2 65 addHS
noncomputable def gamH4 : Gam := ext gamH3 66 sumHS
noncomputable def gamH5 : Gam := ext (ext gamH4 79 shaS) 83 rshaS
end Go.Sx

/- Tags and keys: their mathematics. -/
namespace Go.Mac
open Go Go.Sx Go.Hsh
set_option linter.unusedSimpArgs false

/-- a key's 64 bytes under a mask -/
def keyL (key : List Int) : List Int := if 64 < key.length then sha key else key
def padK (key : List Int) (m : Int) : List Int := tab 64 fun i => bxor .u8 (lget (keyL key) i) m
def hmac (key msg : List Int) : List Int := sha (padK key 92 ++ sha (padK key 54 ++ msg))
noncomputable def tagL : List Int → List Int → List Int := hide hmac
theorem tagL_eq (key msg : List Int) : tagL key msg = hmac key msg := by unfold tagL; rw [hide_eq]
noncomputable def pdW : List Int → Int → List Int := hide fun key m => (stA (padK key m)).1
noncomputable def pdT : List Int → Int → List Int := hide fun key m => (stA (padK key m)).2.1
theorem pdW_eq (key : List Int) (m : Int) : pdW key m = (stA (padK key m)).1 := by unfold pdW; rw [hide_eq]
theorem pdT_eq (key : List Int) (m : Int) : pdT key m = (stA (padK key m)).2.1 := by unfold pdT; rw [hide_eq]
noncomputable def mskL : List Int → Int → List Int := hide padK
theorem mskL_eq (key : List Int) (m : Int) : mskL key m = padK key m := by unfold mskL; rw [hide_eq]
/-- the blocks of an expansion -/
def exT (key info : List Int) : Nat → List Int
  | 0 => []
  | i + 1 => hmac key (exT key info i ++ info ++ [conv .u8 ((i + 1 : Nat) : Int)])
def exO (key info : List Int) : Nat → List Int
  | 0 => []
  | i + 1 => exO key info i ++ exT key info (i + 1)
def exE (n : Int) : Int := if n < 0 then 2 else if 8160 < n then 1 else 0
def exR (key info : List Int) (n : Int) : List Int := if n < 0 then [] else if 8160 < n then [] else (exO key info ((n.toNat + 31) / 32)).take n.toNat
noncomputable def exL : List Int → List Int → Int → List Int := hide exR
theorem exL_eq (key info : List Int) (n : Int) : exL key info n = exR key info n := by unfold exL; rw [hide_eq]
/-- a key or a message of no more bytes than a slice that is read -/
structure Sg (l : List Int) : Prop where
  le : l.length ≤ 150000000000000

structure Sm47 (l : List Int) : Prop where
  le : l.length ≤ 140737488355328

theorem keyL_bytes {key : List Int} (h : Bs key) : Bs (keyL key) := by unfold keyL; split; exact sha_bytes _; exact h
theorem xor_byte {a b : Int} (ha : 0 ≤ a ∧ a < 256) (hb : 0 ≤ b ∧ b < 256) : 0 ≤ bxor .u8 a b ∧ bxor .u8 a b < 256 := by
  obtain ⟨x, rfl⟩ := Int.eq_ofNat_of_zero_le ha.1
  obtain ⟨y, rfl⟩ := Int.eq_ofNat_of_zero_le hb.1
  rw [bxor_u8 (by omega) (by omega)]
  have : x ^^^ y < 2 ^ 8 := Nat.xor_lt_two_pow (by omega) (by omega)
  omega
theorem tab_bytes {n : Nat} {f : Nat → Int} (h : ∀ i, i < n → 0 ≤ f i ∧ f i < 256) : Bs (tab n f) := ⟨fun x hx => by
  unfold tab at hx
  obtain ⟨i, hi, rfl⟩ := List.mem_map.mp hx
  exact h i (List.mem_range.mp hi)⟩
theorem padK_bytes {key : List Int} (h : Bs key) {m : Int} (hm : 0 ≤ m ∧ m < 256) : Bs (padK key m) := tab_bytes fun i _ => xor_byte ((keyL_bytes h).get i) hm
theorem padK_len (key : List Int) (m : Int) : (padK key m).length = 64 := tab_len _ _
theorem hmac_len (key msg : List Int) : (hmac key msg).length = 32 := sha_len _
theorem hmac_bytes (key msg : List Int) : Bs (hmac key msg) := sha_bytes _
theorem exT_len (key info : List Int) {i : Nat} (h : 0 < i) : (exT key info i).length = 32 := by
  cases i with
  | zero => omega
  | succ i => exact hmac_len _ _
theorem exT_le (key info : List Int) (i : Nat) : (exT key info i).length ≤ 32 := by
  cases i with
  | zero => simp [exT]
  | succ i => exact Nat.le_of_eq (hmac_len _ _)
theorem exT_bytes (key info : List Int) (i : Nat) : Bs (exT key info i) := by
  cases i with
  | zero => exact Bs.nil
  | succ i => exact hmac_bytes _ _
theorem exO_len (key info : List Int) : ∀ i, (exO key info i).length = 32 * i
  | 0 => rfl
  | i + 1 => by
    have e : exO key info (i + 1) = exO key info i ++ exT key info (i + 1) := rfl
    rw [e, List.length_append, exO_len key info i, exT_len _ _ (by omega)]; omega
theorem exO_bytes (key info : List Int) : ∀ i, Bs (exO key info i)
  | 0 => Bs.nil
  | i + 1 => (exO_bytes key info i).app (exT_bytes _ _ _)
end Go.Mac
namespace Go.Sx
open Go.Hsh Go.Mac
noncomputable def padS : Spec := ⟨0, false, fun _ args σ K => match args with
  | [x, .one (.int .u8 m)] => rdb σ x fun key => (hasRoots σ ∧ Sg key) ∧ K (.agg [.ints .u32 8 (pdW key m), .ints .u8 64 (pdT key m), .cells [.int .u64 64]]) σ
  | _ => False⟩
noncomputable def mmaskS : Spec := ⟨1, false, fun d args σ K => match args with
  | [x, .one (.int .u8 m)] => rdb σ x fun key => (Sg key ∧ Bs key) ∧ K (.one (.vec d)) (Mem.ins d (.vec [.ints .u8 (mskL key m)]) σ)
  | _ => False⟩
noncomputable def tagS : Spec := ⟨0, false, fun _ args σ K => match args with
  | [x, y] => rdb σ x fun key => rdb σ y fun msg => (hasRoots σ ∧ Sg key ∧ Sg msg) ∧ K (.agg [.ints .u8 32 (tagL key msg)]) σ
  | _ => False⟩
noncomputable def rtagS : Spec := ⟨0, false, fun _ args σ K => match args with
  | [x, y] => rdb σ x fun key => rdb σ y fun msg => ((Sg key ∧ Bs key) ∧ Sg msg ∧ Bs msg) ∧ K (.agg [.ints .u8 32 (tagL key msg)]) σ
  | _ => False⟩
def equalS : Spec := ⟨0, false, fun _ args σ K => match args with
  | [x, y] => rdb σ x fun a => rdb σ y fun b => ((Sg a ∧ Bs a) ∧ Sg b ∧ Bs b) ∧ K (.one (.bool (leq a b))) σ
  | _ => False⟩
noncomputable def expandS : Spec := ⟨1, false, fun d args σ K => match args with
  | [x, y, .one (.int .i64 n)] => rdb σ x fun key => rdb σ y fun info => (hasRoots σ ∧ Sg key ∧ Sm47 info) ∧ K (.tup [.c (.vec d), .c (.int .i64 (exE n))]) (Mem.ins d (.vec [.ints .u8 (exL key info n)]) σ)
  | _ => False⟩
noncomputable def rexpandS : Spec := ⟨1, false, fun d args σ K => match args with
  | [x, y, .one (.int .i64 n)] => rdb σ x fun key => rdb σ y fun info => ((Sg key ∧ Bs key) ∧ Sm47 info ∧ Bs info) ∧ K (.tup [.c (.vec d), .c (.int .i64 (exE n))]) (Mem.ins d (.vec [.ints .u8 (exL key info n)]) σ)
  | _ => False⟩
noncomputable def deriveS : Spec := ⟨1, false, fun d args σ K => match args with
  | [x, y, z, .one (.int .i64 n)] => rdb σ x fun secret => rdb σ y fun salt => rdb σ z fun info => (hasRoots σ ∧ Sg secret ∧ Sg salt ∧ Sm47 info) ∧ K (.tup [.c (.vec d), .c (.int .i64 (exE n))]) (Mem.ins d (.vec [.ints .u8 (exL (tagL salt secret) info n)]) σ)
  | _ => False⟩
noncomputable def rderiveS : Spec := ⟨1, false, fun d args σ K => match args with
  | [x, y, z, .one (.int .i64 n)] => rdb σ x fun secret => rdb σ y fun salt => rdb σ z fun info => ((Sg secret ∧ Bs secret) ∧ (Sg salt ∧ Bs salt) ∧ Sm47 info ∧ Bs info) ∧ K (.tup [.c (.vec d), .c (.int .i64 (exE n))]) (Mem.ins d (.vec [.ints .u8 (exL (tagL salt secret) info n)]) σ)
  | _ => False⟩
noncomputable def gamM1 : Gam := ext (ext gamH5 64 padS) 84 mmaskS
noncomputable def gamM2 : Gam := ext (ext gamM1 43 tagS) 67 rtagS
noncomputable def gamM3 : Gam := ext (ext gamM2 37 expandS) 47 rexpandS
noncomputable def gamM3x : Gam := ext (ext (ext gamM3 36 tagS) 46 rtagS) 39 equalS
end Go.Sx

/- The verification conditions of functions, printed by a program of this session out of their codes. -/
namespace Go.Proofs.YtdgmgalnhignjaaDoor.G
open Go Go.Sx Go.Mac
set_option linter.unusedVariables false
set_option maxRecDepth 100000

def mpadded.l0 (R : AV → Mem → Prop) (m : Int) (key : List Int) (fuel : Nat) (x0 : Int) (x1 : List Int) : Prop := run Tryd.prog gamH5 [] (resh Tryd.prog [] Tryd.f64.results.toList R) fuel [.code (cAt (bodyOf Tryd.f64) [1, 1, 1, 1, 0, 1, 0, 0]), .inLoop (cAt (bodyOf Tryd.f64) [1, 1, 1, 1, 0, 1, 0, 0]), .inBlock 0, .code (cAt (bodyOf Tryd.f64) [1, 1, 1, 1, 1])] [AV.undef, (AV.one (AC.int IntKind.u8 m)), AV.undef, AV.undef, (AV.one (AC.ptr 4 0 0)), (AV.one (AC.ptr 5 0 0)), AV.undef, AV.undef, AV.undef, AV.undef, AV.undef, AV.undef, AV.undef, AV.undef, AV.undef, AV.undef, AV.undef, (AV.one (AC.int IntKind.i64 x0)), AV.undef, AV.undef, AV.undef, AV.undef, AV.undef, AV.undef, AV.undef, AV.undef, AV.undef, (AV.tup []), (AV.tup []), (AV.tup [])] [(4, Blk.own 102 [(Seg.ints IntKind.u32 8 (lzeros 8)), (Seg.ints IntKind.u8 64 (lzeros 64)), (Seg.cells [(AC.int IntKind.u64 0)])]), (5, Blk.own 99 [(Seg.ints IntKind.u8 64 x1)]), (200000, Blk.rview [(Col.ints IntKind.u8 key)]), (1000000, Blk.view [(Seg.ints IntKind.u32 64 Go.Hsh.rootsL)])]

theorem mpadded.l0_succ (R : AV → Mem → Prop) (m : Int) (key : List Int) (fuel : Nat) (x0 : Int) (x1 : List Int) : mpadded.l0 R m key (fuel + 1) x0 x1 = (((((ilt x0 64) = true) → ((InB x0 64) ∧ ((Low (nadd 0 (nat x0)) 64) ∧ ((InB x0 64) ∧ ((Low (nadd 0 (nat x0)) 64) ∧ (mpadded.l0 R m key fuel (add IntKind.i64 x0 1) (lset x1 (nadd 0 (nat x0)) (bxor IntKind.u8 (lget x1 (nadd 0 (nat x0))) m)))))))) ∧ (((ilt x0 64) = false) → ((Fits 64 64) ∧ (((Go.Hsh.rootsL = Go.Hsh.rootsL) ∧ (HOk (lzeros 8) (lzeros 64) 0 (List.length (lsub x1 0 64)))) ∧ (R (AV.agg [(Seg.ints IntKind.u32 8 (Go.Hsh.addW (lzeros 8) (lzeros 64) 0 (lsub x1 0 64))), (Seg.ints IntKind.u8 64 (Go.Hsh.addT (lzeros 8) (lzeros 64) 0 (lsub x1 0 64))), (Seg.cells [(AC.int IntKind.u64 (Go.Hsh.addN (lzeros 8) (lzeros 64) 0 (lsub x1 0 64)))])]) [(4, Blk.own 102 [(Seg.ints IntKind.u32 8 (Go.Hsh.addW (lzeros 8) (lzeros 64) 0 (lsub x1 0 64))), (Seg.ints IntKind.u8 64 (Go.Hsh.addT (lzeros 8) (lzeros 64) 0 (lsub x1 0 64))), (Seg.cells [(AC.int IntKind.u64 (Go.Hsh.addN (lzeros 8) (lzeros 64) 0 (lsub x1 0 64)))])]), (5, Blk.own 99 [(Seg.ints IntKind.u8 64 x1)]), (200000, Blk.rview [(Col.ints IntKind.u8 key)]), (1000000, Blk.view [(Seg.ints IntKind.u32 64 Go.Hsh.rootsL)])])))))) := by kernel_rfl
theorem mpadded_vc (R : AV → Mem → Prop) (fuel : Nat) (key : List Int) (m : Int) : callsx Tryd.prog gamH5 [] Tryd.f64 (fuel + 1) [.one (.vec 200000), .one (.int .u8 m)] [(200000, .rview [.ints .u8 key]), (1000000 + 0, .view [.ints .u32 64 Go.Hsh.rootsL])] R = (((((igt (ofNat (llen key)) 64) = true) → (((Go.Hsh.rootsL = Go.Hsh.rootsL) ∧ (Go.Hsh.Sm key)) ∧ ((Fits 32 32) ∧ ((Fits 64 64) ∧ (mpadded.l0 R m key fuel 0 (lput (lzeros 64) 0 (lsub (lsub (Go.Hsh.shaL key) 0 32) 0 (nmin (llen (lsub (Go.Hsh.shaL key) 0 32)) 64)))))))) ∧ (((igt (ofNat (llen key)) 64) = false) → ((Fits 64 64) ∧ (mpadded.l0 R m key fuel 0 (lput (lzeros 64) 0 (lsub key 0 (nmin (llen key) 64)))))))) := by kernel_rfl

def mmasked.l0 (R : AV → Mem → Prop) (m : Int) (key : List Int) (fuel : Nat) (x0 : Int) (x1 : List Int) : Prop := run Tryd.prog gamH5 [⟨0, [.ints .u8], false, false⟩, ⟨6, [.ints .u8], true, false⟩] (resh Tryd.prog [⟨0, [.ints .u8], false, false⟩, ⟨6, [.ints .u8], true, false⟩] Tryd.f84.results.toList R) fuel [.code (cAt (bodyOf Tryd.f84) [1, 1, 1, 0, 1, 0, 0]), .inLoop (cAt (bodyOf Tryd.f84) [1, 1, 1, 0, 1, 0, 0]), .inBlock 0, .code (cAt (bodyOf Tryd.f84) [1, 1, 1, 1])] [(AV.one (AC.vec 100000)), (AV.one (AC.int IntKind.u8 m)), AV.undef, AV.undef, AV.undef, AV.undef, (AV.one (AC.vec 100006)), (AV.one (AC.int IntKind.i64 x0)), AV.undef, AV.undef, AV.undef, AV.undef, AV.undef, AV.undef, AV.undef, AV.undef, AV.undef, AV.undef, AV.undef, AV.undef, AV.undef, AV.undef, AV.undef, AV.undef, AV.undef, AV.undef, AV.undef, AV.undef, AV.undef, AV.undef, AV.undef, AV.undef, AV.undef, (AV.tup [])] [(100000, Blk.rview [(Col.ints IntKind.u8 (lsub (Go.Hsh.shaL key) 0 32))]), (100006, Blk.vec [(Col.ints IntKind.u8 x1)]), (200000, Blk.rview [(Col.ints IntKind.u8 key)])]

def mmasked.l1 (R : AV → Mem → Prop) (m : Int) (key : List Int) (fuel : Nat) (x2 : Int) (x3 : List Int) : Prop := run Tryd.prog gamH5 [⟨0, [.ints .u8], false, false⟩, ⟨6, [.ints .u8], true, false⟩] (resh Tryd.prog [⟨0, [.ints .u8], false, false⟩, ⟨6, [.ints .u8], true, false⟩] Tryd.f84.results.toList R) fuel [.code (cAt (bodyOf Tryd.f84) [1, 1, 1, 0, 1, 0, 0]), .inLoop (cAt (bodyOf Tryd.f84) [1, 1, 1, 0, 1, 0, 0]), .inBlock 0, .code (cAt (bodyOf Tryd.f84) [1, 1, 1, 1])] [(AV.one (AC.vec 100000)), (AV.one (AC.int IntKind.u8 m)), AV.undef, AV.undef, AV.undef, AV.undef, (AV.one (AC.vec 100006)), (AV.one (AC.int IntKind.i64 x2)), AV.undef, AV.undef, AV.undef, AV.undef, AV.undef, AV.undef, AV.undef, AV.undef, AV.undef, AV.undef, AV.undef, AV.undef, AV.undef, AV.undef, AV.undef, AV.undef, AV.undef, AV.undef, AV.undef, AV.undef, AV.undef, AV.undef, AV.undef, AV.undef, AV.undef, (AV.tup [])] [(100000, Blk.rview [(Col.ints IntKind.u8 key)]), (100006, Blk.vec [(Col.ints IntKind.u8 x3)]), (200000, Blk.rview [(Col.ints IntKind.u8 key)])]

theorem mmasked.l0_succ (R : AV → Mem → Prop) (m : Int) (key : List Int) (fuel : Nat) (x0 : Int) (x1 : List Int) : mmasked.l0 R m key (fuel + 1) x0 x1 = (((((ilt x0 64) = true) → ((((ilt x0 (ofNat (llen (lsub (Go.Hsh.shaL key) 0 32)))) = true) → ((InB x0 (llen (lsub (Go.Hsh.shaL key) 0 32))) ∧ ((Room (nadd (llen x1) (llen [(bxor IntKind.u8 (lget (lsub (Go.Hsh.shaL key) 0 32) (nat x0)) m)])) 1) ∧ (mmasked.l0 R m key fuel (add IntKind.i64 x0 1) (lcat x1 [(bxor IntKind.u8 (lget (lsub (Go.Hsh.shaL key) 0 32) (nat x0)) m)]))))) ∧ (((ilt x0 (ofNat (llen (lsub (Go.Hsh.shaL key) 0 32)))) = false) → ((Room (nadd (llen x1) (llen [(bxor IntKind.u8 0 m)])) 1) ∧ (mmasked.l0 R m key fuel (add IntKind.i64 x0 1) (lcat x1 [(bxor IntKind.u8 0 m)])))))) ∧ (((ilt x0 64) = false) → (R (AV.one (AC.vec 100006)) [(100000, Blk.rview [(Col.ints IntKind.u8 (lsub (Go.Hsh.shaL key) 0 32))]), (100006, Blk.vec [(Col.ints IntKind.u8 x1)]), (200000, Blk.rview [(Col.ints IntKind.u8 key)])])))) := by kernel_rfl
theorem mmasked.l1_succ (R : AV → Mem → Prop) (m : Int) (key : List Int) (fuel : Nat) (x2 : Int) (x3 : List Int) : mmasked.l1 R m key (fuel + 1) x2 x3 = (((((ilt x2 64) = true) → ((((ilt x2 (ofNat (llen key))) = true) → ((InB x2 (llen key)) ∧ ((Room (nadd (llen x3) (llen [(bxor IntKind.u8 (lget key (nat x2)) m)])) 1) ∧ (mmasked.l1 R m key fuel (add IntKind.i64 x2 1) (lcat x3 [(bxor IntKind.u8 (lget key (nat x2)) m)]))))) ∧ (((ilt x2 (ofNat (llen key))) = false) → ((Room (nadd (llen x3) (llen [(bxor IntKind.u8 0 m)])) 1) ∧ (mmasked.l1 R m key fuel (add IntKind.i64 x2 1) (lcat x3 [(bxor IntKind.u8 0 m)])))))) ∧ (((ilt x2 64) = false) → (R (AV.one (AC.vec 100006)) [(100000, Blk.rview [(Col.ints IntKind.u8 key)]), (100006, Blk.vec [(Col.ints IntKind.u8 x3)]), (200000, Blk.rview [(Col.ints IntKind.u8 key)])])))) := by kernel_rfl
theorem mmasked_vc (R : AV → Mem → Prop) (fuel : Nat) (key : List Int) (m : Int) : callsx Tryd.prog gamH5 [⟨0, [.ints .u8], false, false⟩, ⟨6, [.ints .u8], true, false⟩] Tryd.f84 (fuel + 1) [.one (.vec 200000), .one (.int .u8 m)] [(200000, .rview [.ints .u8 key])] R = (((((igt (ofNat (llen key)) 64) = true) → (((Go.Hsh.Sm key) ∧ (Bs key)) ∧ (mmasked.l0 R m key fuel 0 []))) ∧ (((igt (ofNat (llen key)) 64) = false) → (mmasked.l1 R m key fuel 0 [])))) := by kernel_rfl

theorem mtag_vc (R : AV → Mem → Prop) (fuel : Nat) (key : List Int) (msg : List Int) : callsx Tryd.prog gamM1 [] Tryd.f43 (fuel + 1) [.one (.vec 200000), .one (.vec 200001)] [(200000, .rview [.ints .u8 key]), (200001, .rview [.ints .u8 msg]), (1000000 + 0, .view [.ints .u32 64 Go.Hsh.rootsL])] R = ((((Go.Hsh.rootsL = Go.Hsh.rootsL) ∧ (Go.Mac.Sg key)) ∧ (((Go.Hsh.rootsL = Go.Hsh.rootsL) ∧ (HOk (Go.Mac.pdW key 54) (Go.Mac.pdT key 54) 64 (List.length msg))) ∧ (((Go.Hsh.rootsL = Go.Hsh.rootsL) ∧ (HOk (Go.Hsh.addW (Go.Mac.pdW key 54) (Go.Mac.pdT key 54) 64 msg) (Go.Hsh.addT (Go.Mac.pdW key 54) (Go.Mac.pdT key 54) 64 msg) (Go.Hsh.addN (Go.Mac.pdW key 54) (Go.Mac.pdT key 54) 64 msg) 200)) ∧ (let y0 : List Int := (Go.Hsh.sumL (Go.Hsh.addW (Go.Mac.pdW key 54) (Go.Mac.pdT key 54) 64 msg) (Go.Hsh.addT (Go.Mac.pdW key 54) (Go.Mac.pdT key 54) 64 msg) (Go.Hsh.addN (Go.Mac.pdW key 54) (Go.Mac.pdT key 54) 64 msg)); (((Go.Hsh.rootsL = Go.Hsh.rootsL) ∧ (Go.Mac.Sg key)) ∧ ((Fits 32 32) ∧ (((Go.Hsh.rootsL = Go.Hsh.rootsL) ∧ (HOk (Go.Mac.pdW key 92) (Go.Mac.pdT key 92) 64 (List.length (lsub y0 0 32)))) ∧ (((Go.Hsh.rootsL = Go.Hsh.rootsL) ∧ (HOk (Go.Hsh.addW (Go.Mac.pdW key 92) (Go.Mac.pdT key 92) 64 (lsub y0 0 32)) (Go.Hsh.addT (Go.Mac.pdW key 92) (Go.Mac.pdT key 92) 64 (lsub y0 0 32)) (Go.Hsh.addN (Go.Mac.pdW key 92) (Go.Mac.pdT key 92) 64 (lsub y0 0 32)) 200)) ∧ (let y1 : List Int := (Go.Hsh.sumL (Go.Hsh.addW (Go.Mac.pdW key 92) (Go.Mac.pdT key 92) 64 (lsub y0 0 32)) (Go.Hsh.addT (Go.Mac.pdW key 92) (Go.Mac.pdT key 92) 64 (lsub y0 0 32)) (Go.Hsh.addN (Go.Mac.pdW key 92) (Go.Mac.pdT key 92) 64 (lsub y0 0 32))); (R (AV.agg [(Seg.ints IntKind.u8 32 y1)]) [(4, Blk.own 63 [(Seg.ints IntKind.u8 32 y1)]), (5, Blk.own 63 [(Seg.ints IntKind.u8 32 y0)]), (200000, Blk.rview [(Col.ints IntKind.u8 key)]), (200001, Blk.rview [(Col.ints IntKind.u8 msg)]), (1000000, Blk.view [(Seg.ints IntKind.u32 64 Go.Hsh.rootsL)])]))))))))))) := by kernel_rfl

theorem mrtag_vc (R : AV → Mem → Prop) (fuel : Nat) (key : List Int) (msg : List Int) : callsx Tryd.prog gamM1 [] Tryd.f67 (fuel + 1) [.one (.vec 200000), .one (.vec 200001)] [(200000, .rview [.ints .u8 key]), (200001, .rview [.ints .u8 msg])] R = ((((Go.Mac.Sg key) ∧ (Bs key)) ∧ ((Room (nadd (llen (Go.Mac.mskL key 54)) (llen msg)) 1) ∧ (((Go.Hsh.Sm (lcat (Go.Mac.mskL key 54) msg)) ∧ (Bs (lcat (Go.Mac.mskL key 54) msg))) ∧ (((Go.Mac.Sg key) ∧ (Bs key)) ∧ ((Fits 32 32) ∧ ((Room (nadd (llen (Go.Mac.mskL key 92)) (llen (lsub (Go.Hsh.shaL (lcat (Go.Mac.mskL key 54) msg)) 0 32))) 1) ∧ (((Go.Hsh.Sm (lcat (Go.Mac.mskL key 92) (lsub (Go.Hsh.shaL (lcat (Go.Mac.mskL key 54) msg)) 0 32))) ∧ (Bs (lcat (Go.Mac.mskL key 92) (lsub (Go.Hsh.shaL (lcat (Go.Mac.mskL key 54) msg)) 0 32)))) ∧ (R (AV.agg [(Seg.ints IntKind.u8 32 (Go.Hsh.shaL (lcat (Go.Mac.mskL key 92) (lsub (Go.Hsh.shaL (lcat (Go.Mac.mskL key 54) msg)) 0 32))))]) [(4, Blk.own 63 [(Seg.ints IntKind.u8 32 (Go.Hsh.shaL (lcat (Go.Mac.mskL key 92) (lsub (Go.Hsh.shaL (lcat (Go.Mac.mskL key 54) msg)) 0 32))))]), (5, Blk.own 63 [(Seg.ints IntKind.u8 32 (Go.Hsh.shaL (lcat (Go.Mac.mskL key 54) msg)))]), (9, Blk.vec [(Col.ints IntKind.u8 (lcat (Go.Mac.mskL key 54) msg))]), (14, Blk.vec [(Col.ints IntKind.u8 (lcat (Go.Mac.mskL key 92) (lsub (Go.Hsh.shaL (lcat (Go.Mac.mskL key 54) msg)) 0 32)))]), (200000, Blk.rview [(Col.ints IntKind.u8 key)]), (200001, Blk.rview [(Col.ints IntKind.u8 msg)])]))))))))) := by kernel_rfl

def mequal.l0 (R : AV → Mem → Prop) (a : List Int) (b : List Int) (fuel : Nat) (x0 : Int) (x1 : Int) : Prop := run Tryd.prog gamM1 [] (resh Tryd.prog [] Tryd.f39.results.toList R) fuel [.code (cAt (bodyOf Tryd.f39) [1, 1, 1, 0, 1, 0, 0]), .inLoop (cAt (bodyOf Tryd.f39) [1, 1, 1, 0, 1, 0, 0]), .inBlock 0, .code (cAt (bodyOf Tryd.f39) [1, 1, 1, 1])] [(AV.one (AC.vec 200000)), (AV.one (AC.vec 200001)), AV.undef, AV.undef, AV.undef, (AV.one (AC.int IntKind.u8 x0)), AV.undef, AV.undef, AV.undef, AV.undef, AV.undef, AV.undef, AV.undef, (AV.one (AC.int IntKind.i64 (ofNat (llen a)))), (AV.one (AC.int IntKind.i64 x1)), AV.undef, AV.undef, AV.undef, AV.undef, AV.undef, AV.undef, AV.undef, AV.undef, AV.undef, AV.undef, AV.undef, AV.undef, AV.undef, AV.undef, (AV.tup []), (AV.tup [])] [(200000, Blk.rview [(Col.ints IntKind.u8 a)]), (200001, Blk.rview [(Col.ints IntKind.u8 b)])]

theorem mequal.l0_succ (R : AV → Mem → Prop) (a : List Int) (b : List Int) (fuel : Nat) (x0 : Int) (x1 : Int) : mequal.l0 R a b (fuel + 1) x0 x1 = (((((ilt x1 (ofNat (llen a))) = true) → ((InB x1 (llen a)) ∧ ((InB x1 (llen b)) ∧ (mequal.l0 R a b fuel (bor IntKind.u8 x0 (bxor IntKind.u8 (lget a (nat x1)) (lget b (nat x1)))) (add IntKind.i64 x1 1))))) ∧ (((ilt x1 (ofNat (llen a))) = false) → (R (AV.one (AC.bool (ieq x0 0))) [(200000, Blk.rview [(Col.ints IntKind.u8 a)]), (200001, Blk.rview [(Col.ints IntKind.u8 b)])])))) := by kernel_rfl
theorem mequal_vc (R : AV → Mem → Prop) (fuel : Nat) (a : List Int) (b : List Int) : callsx Tryd.prog gamM1 [] Tryd.f39 (fuel + 1) [.one (.vec 200000), .one (.vec 200001)] [(200000, .rview [.ints .u8 a]), (200001, .rview [.ints .u8 b])] R = (((((ine (ofNat (llen a)) (ofNat (llen b))) = true) → (R (AV.one (AC.lit false)) [(200000, Blk.rview [(Col.ints IntKind.u8 a)]), (200001, Blk.rview [(Col.ints IntKind.u8 b)])])) ∧ (((ine (ofNat (llen a)) (ofNat (llen b))) = false) → (mequal.l0 R a b fuel 0 0)))) := by kernel_rfl

theorem mextract_vc (R : AV → Mem → Prop) (fuel : Nat) (a : List Int) (b : List Int) : callsx Tryd.prog gamM2 [] Tryd.f36 (fuel + 1) [.one (.vec 200000), .one (.vec 200001)] [(200000, .rview [.ints .u8 a]), (200001, .rview [.ints .u8 b]), (1000000 + 0, .view [.ints .u32 64 Go.Hsh.rootsL])] R = ((((Go.Hsh.rootsL = Go.Hsh.rootsL) ∧ ((Go.Mac.Sg a) ∧ (Go.Mac.Sg b))) ∧ (R (AV.agg [(Seg.ints IntKind.u8 32 (Go.Mac.tagL a b))]) [(4, Blk.own 63 [(Seg.ints IntKind.u8 32 (Go.Mac.tagL a b))]), (200000, Blk.rview [(Col.ints IntKind.u8 a)]), (200001, Blk.rview [(Col.ints IntKind.u8 b)]), (1000000, Blk.view [(Seg.ints IntKind.u32 64 Go.Hsh.rootsL)])]))) := by kernel_rfl

theorem mrextract_vc (R : AV → Mem → Prop) (fuel : Nat) (a : List Int) (b : List Int) : callsx Tryd.prog gamM2 [] Tryd.f46 (fuel + 1) [.one (.vec 200000), .one (.vec 200001)] [(200000, .rview [.ints .u8 a]), (200001, .rview [.ints .u8 b])] R = (((((Go.Mac.Sg a) ∧ (Bs a)) ∧ ((Go.Mac.Sg b) ∧ (Bs b))) ∧ (R (AV.agg [(Seg.ints IntKind.u8 32 (Go.Mac.tagL a b))]) [(4, Blk.own 63 [(Seg.ints IntKind.u8 32 (Go.Mac.tagL a b))]), (200000, Blk.rview [(Col.ints IntKind.u8 a)]), (200001, Blk.rview [(Col.ints IntKind.u8 b)])]))) := by kernel_rfl

def mexpand.l0 (R : AV → Mem → Prop) (n : Int) (key : List Int) (info : List Int) (fuel : Nat) (x0 : Int) (x1 : List Int) (x2 : List Int) : Prop := run Tryd.prog gamM2 [⟨8, [.ints .u8], true, false⟩, ⟨9, [.ints .u8], false, false⟩, ⟨6, [.ints .u8], true, true⟩] (resh Tryd.prog [⟨8, [.ints .u8], true, false⟩, ⟨9, [.ints .u8], false, false⟩, ⟨6, [.ints .u8], true, true⟩] Tryd.f37.results.toList R) fuel [.code (cAt (bodyOf Tryd.f37) [1, 1, 1, 1, 1, 0, 1, 0, 0]), .inLoop (cAt (bodyOf Tryd.f37) [1, 1, 1, 1, 1, 0, 1, 0, 0]), .inBlock 0, .code (cAt (bodyOf Tryd.f37) [1, 1, 1, 1, 1, 1])] [(AV.one (AC.vec 200000)), (AV.one (AC.vec 200001)), (AV.one (AC.int IntKind.i64 n)), AV.undef, AV.undef, AV.undef, AV.undef, AV.undef, (AV.one (AC.vec 100008)), (AV.one (AC.vec 100009)), (AV.one (AC.int IntKind.i64 x0)), AV.undef, AV.undef, AV.undef, AV.undef, AV.undef, AV.undef, AV.undef, AV.undef, AV.undef, AV.undef, AV.undef, AV.undef, AV.undef, AV.undef, AV.undef, AV.undef, AV.undef, AV.undef, AV.undef, AV.undef, AV.undef, AV.undef, AV.undef, AV.undef, AV.undef, AV.undef, AV.undef, AV.undef, AV.undef, AV.undef, AV.undef, AV.undef, AV.undef, AV.undef, AV.undef, AV.undef, AV.undef, AV.undef, AV.undef, AV.undef, (AV.tup []), (AV.tup []), (AV.tup [])] [(100008, Blk.vec [(Col.ints IntKind.u8 x1)]), (100009, Blk.rview [(Col.ints IntKind.u8 x2)]), (200000, Blk.rview [(Col.ints IntKind.u8 key)]), (200001, Blk.rview [(Col.ints IntKind.u8 info)]), (1000000, Blk.view [(Seg.ints IntKind.u32 64 Go.Hsh.rootsL)])]

theorem mexpand.l0_succ (R : AV → Mem → Prop) (n : Int) (key : List Int) (info : List Int) (fuel : Nat) (x0 : Int) (x1 : List Int) (x2 : List Int) : mexpand.l0 R n key info (fuel + 1) x0 x1 x2 = (((((ilt (ofNat (llen x1)) n) = true) → ((Mk 0 (add IntKind.i64 (add IntKind.i64 (ofNat (llen x2)) (ofNat (llen info))) 1) 1) ∧ ((Room (nadd 0 (llen x2)) 1) ∧ ((Room (nadd (llen (lcat (lzeros 0) x2)) (llen info)) 1) ∧ ((Room (nadd (llen (lcat (lcat (lzeros 0) x2) info)) (llen [(conv IntKind.u8 x0)])) 1) ∧ (((Go.Hsh.rootsL = Go.Hsh.rootsL) ∧ ((Go.Mac.Sg key) ∧ (Go.Mac.Sg (lcat (lcat (lcat (lzeros 0) x2) info) [(conv IntKind.u8 x0)])))) ∧ ((Fits 32 32) ∧ ((Room (nadd (llen x1) (llen (lsub (Go.Mac.tagL key (lcat (lcat (lcat (lzeros 0) x2) info) [(conv IntKind.u8 x0)])) 0 32))) 1) ∧ (mexpand.l0 R n key info fuel (add IntKind.i64 x0 1) (lcat x1 (lsub (Go.Mac.tagL key (lcat (lcat (lcat (lzeros 0) x2) info) [(conv IntKind.u8 x0)])) 0 32)) (lsub (Go.Mac.tagL key (lcat (lcat (lcat (lzeros 0) x2) info) [(conv IntKind.u8 x0)])) 0 32)))))))))) ∧ (((ilt (ofNat (llen x1)) n) = false) → (((NonNeg n) ∧ (Fits (nat n) (llen x1))) ∧ (R (AV.tup [(TV.c (AC.vec 100006)), (TV.c (AC.int IntKind.i64 0))]) [(100006, Blk.vec [(Col.ints IntKind.u8 (lsub x1 0 (nat n)))]), (100009, Blk.rview [(Col.ints IntKind.u8 x2)]), (200000, Blk.rview [(Col.ints IntKind.u8 key)]), (200001, Blk.rview [(Col.ints IntKind.u8 info)]), (1000000, Blk.view [(Seg.ints IntKind.u32 64 Go.Hsh.rootsL)])]))))) := by kernel_rfl
theorem mexpand_vc (R : AV → Mem → Prop) (fuel : Nat) (key : List Int) (info : List Int) (n : Int) : callsx Tryd.prog gamM2 [⟨8, [.ints .u8], true, false⟩, ⟨9, [.ints .u8], false, false⟩, ⟨6, [.ints .u8], true, true⟩] Tryd.f37 (fuel + 1) [.one (.vec 200000), .one (.vec 200001), .one (.int .i64 n)] [(200000, .rview [.ints .u8 key]), (200001, .rview [.ints .u8 info]), (1000000 + 0, .view [.ints .u32 64 Go.Hsh.rootsL])] R = (((((ilt n 0) = true) → (R (AV.tup [(TV.c (AC.vec 100006)), (TV.c (AC.int IntKind.i64 2))]) [(100006, Blk.vec [(Col.ints IntKind.u8 [])]), (200000, Blk.rview [(Col.ints IntKind.u8 key)]), (200001, Blk.rview [(Col.ints IntKind.u8 info)]), (1000000, Blk.view [(Seg.ints IntKind.u32 64 Go.Hsh.rootsL)])])) ∧ (((ilt n 0) = false) → ((((igt n 8160) = true) → (R (AV.tup [(TV.c (AC.vec 100006)), (TV.c (AC.int IntKind.i64 1))]) [(100006, Blk.vec [(Col.ints IntKind.u8 [])]), (200000, Blk.rview [(Col.ints IntKind.u8 key)]), (200001, Blk.rview [(Col.ints IntKind.u8 info)]), (1000000, Blk.view [(Seg.ints IntKind.u32 64 Go.Hsh.rootsL)])])) ∧ (((igt n 8160) = false) → ((Mk 0 (add IntKind.i64 n 32) 1) ∧ (mexpand.l0 R n key info fuel 1 (lzeros 0) []))))))) := by kernel_rfl

def mrexpand.l0 (R : AV → Mem → Prop) (n : Int) (key : List Int) (info : List Int) (fuel : Nat) (x0 : Int) (x1 : List Int) (x2 : List Int) : Prop := run Tryd.prog gamM2 [⟨8, [.ints .u8], true, false⟩, ⟨9, [.ints .u8], false, false⟩, ⟨6, [.ints .u8], true, true⟩] (resh Tryd.prog [⟨8, [.ints .u8], true, false⟩, ⟨9, [.ints .u8], false, false⟩, ⟨6, [.ints .u8], true, true⟩] Tryd.f47.results.toList R) fuel [.code (cAt (bodyOf Tryd.f47) [1, 1, 1, 1, 0, 1, 0, 0]), .inLoop (cAt (bodyOf Tryd.f47) [1, 1, 1, 1, 0, 1, 0, 0]), .inBlock 0, .code (cAt (bodyOf Tryd.f47) [1, 1, 1, 1, 1])] [(AV.one (AC.vec 200000)), (AV.one (AC.vec 200001)), (AV.one (AC.int IntKind.i64 n)), AV.undef, AV.undef, AV.undef, AV.undef, AV.undef, (AV.one (AC.vec 100008)), (AV.one (AC.vec 100009)), (AV.one (AC.int IntKind.i64 x0)), AV.undef, AV.undef, AV.undef, AV.undef, AV.undef, AV.undef, AV.undef, AV.undef, AV.undef, AV.undef, AV.undef, AV.undef, AV.undef, AV.undef, AV.undef, AV.undef, AV.undef, AV.undef, AV.undef, AV.undef, AV.undef, AV.undef, AV.undef, AV.undef, AV.undef, AV.undef, (AV.tup []), (AV.tup []), (AV.tup []), (AV.tup [])] [(100008, Blk.vec [(Col.ints IntKind.u8 x1)]), (100009, Blk.rview [(Col.ints IntKind.u8 x2)]), (200000, Blk.rview [(Col.ints IntKind.u8 key)]), (200001, Blk.rview [(Col.ints IntKind.u8 info)])]

theorem mrexpand.l0_succ (R : AV → Mem → Prop) (n : Int) (key : List Int) (info : List Int) (fuel : Nat) (x0 : Int) (x1 : List Int) (x2 : List Int) : mrexpand.l0 R n key info (fuel + 1) x0 x1 x2 = (((((ilt (ofNat (llen x1)) n) = true) → ((Room (nadd 0 (llen x2)) 1) ∧ ((Room (nadd (llen (lcat [] x2)) (llen info)) 1) ∧ ((Room (nadd (llen (lcat (lcat [] x2) info)) (llen [(conv IntKind.u8 x0)])) 1) ∧ ((((Go.Mac.Sg key) ∧ (Bs key)) ∧ ((Go.Mac.Sg (lcat (lcat (lcat [] x2) info) [(conv IntKind.u8 x0)])) ∧ (Bs (lcat (lcat (lcat [] x2) info) [(conv IntKind.u8 x0)])))) ∧ ((Fits 32 32) ∧ ((Room (nadd (llen x1) (llen (lsub (Go.Mac.tagL key (lcat (lcat (lcat [] x2) info) [(conv IntKind.u8 x0)])) 0 32))) 1) ∧ (mrexpand.l0 R n key info fuel (add IntKind.i64 x0 1) (lcat x1 (lsub (Go.Mac.tagL key (lcat (lcat (lcat [] x2) info) [(conv IntKind.u8 x0)])) 0 32)) (lsub (Go.Mac.tagL key (lcat (lcat (lcat [] x2) info) [(conv IntKind.u8 x0)])) 0 32))))))))) ∧ (((ilt (ofNat (llen x1)) n) = false) → (((NonNeg n) ∧ ((Fits (nat n) (llen x1)) ∧ ((NonNeg n) ∧ (Fits (nat n) (nat n))))) ∧ (((NonNeg n) ∧ (Fits (nat n) (llen x1))) ∧ (R (AV.tup [(TV.c (AC.vec 100006)), (TV.c (AC.int IntKind.i64 0))]) [(100006, Blk.vec [(Col.ints IntKind.u8 (lsub x1 0 (nat n)))]), (100009, Blk.rview [(Col.ints IntKind.u8 x2)]), (200000, Blk.rview [(Col.ints IntKind.u8 key)]), (200001, Blk.rview [(Col.ints IntKind.u8 info)])])))))) := by kernel_rfl
theorem mrexpand_vc (R : AV → Mem → Prop) (fuel : Nat) (key : List Int) (info : List Int) (n : Int) : callsx Tryd.prog gamM2 [⟨8, [.ints .u8], true, false⟩, ⟨9, [.ints .u8], false, false⟩, ⟨6, [.ints .u8], true, true⟩] Tryd.f47 (fuel + 1) [.one (.vec 200000), .one (.vec 200001), .one (.int .i64 n)] [(200000, .rview [.ints .u8 key]), (200001, .rview [.ints .u8 info])] R = (((((ilt n 0) = true) → (R (AV.tup [(TV.c (AC.vec 100006)), (TV.c (AC.int IntKind.i64 2))]) [(100006, Blk.vec [(Col.ints IntKind.u8 [])]), (200000, Blk.rview [(Col.ints IntKind.u8 key)]), (200001, Blk.rview [(Col.ints IntKind.u8 info)])])) ∧ (((ilt n 0) = false) → ((((igt n 8160) = true) → (R (AV.tup [(TV.c (AC.vec 100006)), (TV.c (AC.int IntKind.i64 1))]) [(100006, Blk.vec [(Col.ints IntKind.u8 [])]), (200000, Blk.rview [(Col.ints IntKind.u8 key)]), (200001, Blk.rview [(Col.ints IntKind.u8 info)])])) ∧ (((igt n 8160) = false) → (mrexpand.l0 R n key info fuel 1 [] [])))))) := by kernel_rfl

theorem mderive_vc (R : AV → Mem → Prop) (fuel : Nat) (s : List Int) (a : List Int) (i : List Int) (n : Int) : callsx Tryd.prog gamM3x [] Tryd.f19 (fuel + 1) [.one (.vec 200000), .one (.vec 200001), .one (.vec 200002), .one (.int .i64 n)] [(200000, .rview [.ints .u8 s]), (200001, .rview [.ints .u8 a]), (200002, .rview [.ints .u8 i]), (1000000 + 0, .view [.ints .u32 64 Go.Hsh.rootsL])] R = ((((Go.Hsh.rootsL = Go.Hsh.rootsL) ∧ ((Go.Mac.Sg a) ∧ (Go.Mac.Sg s))) ∧ ((Fits 32 32) ∧ (((Go.Hsh.rootsL = Go.Hsh.rootsL) ∧ ((Go.Mac.Sg (lsub (Go.Mac.tagL a s) 0 32)) ∧ (Go.Mac.Sm47 i))) ∧ (R (AV.tup [(TV.c (AC.vec 17)), (TV.c (AC.int IntKind.i64 (Go.Mac.exE n)))]) [(10, Blk.own 63 [(Seg.ints IntKind.u8 32 (Go.Mac.tagL a s))]), (17, Blk.vec [(Col.ints IntKind.u8 (Go.Mac.exL (lsub (Go.Mac.tagL a s) 0 32) i n))]), (200000, Blk.rview [(Col.ints IntKind.u8 s)]), (200001, Blk.rview [(Col.ints IntKind.u8 a)]), (200002, Blk.rview [(Col.ints IntKind.u8 i)]), (1000000, Blk.view [(Seg.ints IntKind.u32 64 Go.Hsh.rootsL)])]))))) := by kernel_rfl

theorem mrderive_vc (R : AV → Mem → Prop) (fuel : Nat) (s : List Int) (a : List Int) (i : List Int) (n : Int) : callsx Tryd.prog gamM3x [] Tryd.f27 (fuel + 1) [.one (.vec 200000), .one (.vec 200001), .one (.vec 200002), .one (.int .i64 n)] [(200000, .rview [.ints .u8 s]), (200001, .rview [.ints .u8 a]), (200002, .rview [.ints .u8 i])] R = (((((Go.Mac.Sg a) ∧ (Bs a)) ∧ ((Go.Mac.Sg s) ∧ (Bs s))) ∧ ((Fits 32 32) ∧ ((((Go.Mac.Sg (lsub (Go.Mac.tagL a s) 0 32)) ∧ (Bs (lsub (Go.Mac.tagL a s) 0 32))) ∧ ((Go.Mac.Sm47 i) ∧ (Bs i))) ∧ (R (AV.tup [(TV.c (AC.vec 17)), (TV.c (AC.int IntKind.i64 (Go.Mac.exE n)))]) [(10, Blk.own 63 [(Seg.ints IntKind.u8 32 (Go.Mac.tagL a s))]), (17, Blk.vec [(Col.ints IntKind.u8 (Go.Mac.exL (lsub (Go.Mac.tagL a s) 0 32) i n))]), (200000, Blk.rview [(Col.ints IntKind.u8 s)]), (200001, Blk.rview [(Col.ints IntKind.u8 a)]), (200002, Blk.rview [(Col.ints IntKind.u8 i)])]))))) := by kernel_rfl

end Go.Proofs.YtdgmgalnhignjaaDoor.G

/- The verification conditions of functions, printed by a program of this session out of their codes. -/
namespace Go.Proofs.YtdgmgalnhignjaaDoor.G
open Go Go.Sx Go.Hsh
set_option linter.unusedVariables false
set_option maxRecDepth 100000

theorem hnew_vc (R : AV → Mem → Prop) (fuel : Nat)  : callsx Tryd.prog gam0 [] Tryd.f80 (fuel + 1) [] [] R = ((R (AV.agg [(Seg.ints IntKind.u32 8 (lzeros 8)), (Seg.ints IntKind.u8 64 (lzeros 64)), (Seg.cells [(AC.int IntKind.u64 0)])]) [(0, Blk.own 102 [(Seg.ints IntKind.u32 8 (lzeros 8)), (Seg.ints IntKind.u8 64 (lzeros 64)), (Seg.cells [(AC.int IntKind.u64 0)])])])) := by kernel_rfl

def hadd.l0 (R : AV → Mem → Prop) (p : List Int) (fuel : Nat) (x0 : List Int) (x1 : List Int) (x2 : Int) (x3 : List Int) : Prop := run Tryd.prog gamH2 [⟨1, [.ints .u8], false, false⟩] (resh Tryd.prog [⟨1, [.ints .u8], false, false⟩] Tryd.f65.results.toList R) fuel [.code (cAt (bodyOf Tryd.f65) [1, 1, 0, 0, 0]), .inLoop (cAt (bodyOf Tryd.f65) [1, 1, 0, 0, 0]), .inBlock 0, .code (cAt (bodyOf Tryd.f65) [1, 1, 1])] [AV.undef, (AV.one (AC.vec 100001)), (AV.one (AC.ptr 2 0 0)), AV.undef, (AV.one (AC.ptr 4 0 0)), AV.undef, AV.undef, AV.undef, AV.undef, AV.undef, AV.undef, AV.undef, AV.undef, AV.undef, AV.undef, AV.undef, AV.undef, AV.undef, AV.undef, AV.undef, AV.undef, AV.undef, AV.undef, AV.undef, AV.undef, AV.undef, AV.undef, AV.undef, AV.undef, AV.undef, AV.undef, AV.undef, AV.undef, AV.undef, AV.undef, AV.undef, AV.undef, AV.undef, AV.undef, AV.undef, (AV.tup [])] [(2, Blk.own 102 [(Seg.ints IntKind.u32 8 x0), (Seg.ints IntKind.u8 64 x1), (Seg.cells [(AC.int IntKind.u64 x2)])]), (4, Blk.own 102 [(Seg.ints IntKind.u32 8 (lzeros 8)), (Seg.ints IntKind.u8 64 (lzeros 64)), (Seg.cells [(AC.int IntKind.u64 0)])]), (100001, Blk.rview [(Col.ints IntKind.u8 x3)]), (1000000, Blk.view [(Seg.ints IntKind.u32 64 Go.Hsh.rootsL)]), (200001, Blk.rview [(Col.ints IntKind.u8 p)])]

theorem hadd.l0_succ (R : AV → Mem → Prop) (p : List Int) (fuel : Nat) (x0 : List Int) (x1 : List Int) (x2 : Int) (x3 : List Int) : hadd.l0 R p (fuel + 1) x0 x1 x2 x3 = (((((igt (ofNat (llen x3)) 0) = true) → ((NeZ 64) ∧ (((NonNeg (rem x2 64)) ∧ (Fits (nat (rem x2 64)) 64)) ∧ ((Fits (nadd (nadd 0 (nat (rem x2 64))) (nsub 64 (nat (rem x2 64)))) 64) ∧ (let y4 : List Int := (lput x1 (nadd 0 (nat (rem x2 64))) (lsub x3 0 (nmin (llen x3) (nsub 64 (nat (rem x2 64)))))); (((NonNeg (ofNat (nmin (llen x3) (nsub 64 (nat (rem x2 64)))))) ∧ (Fits (nat (ofNat (nmin (llen x3) (nsub 64 (nat (rem x2 64)))))) (llen x3))) ∧ ((NeZ 64) ∧ (let y5 : Int := (rem (add IntKind.u64 x2 (conv IntKind.u64 (ofNat (nmin (llen x3) (nsub 64 (nat (rem x2 64))))))) 64); (let y6 : Bool := (ieq (rem (add IntKind.u64 x2 (conv IntKind.u64 (ofNat (nmin (llen x3) (nsub 64 (nat (rem x2 64))))))) 64) 0); (((y6 = true) → ((Fits 8 8) ∧ ((Fits (nadd 0 64) 64) ∧ (((Go.Hsh.rootsL = Go.Hsh.rootsL) ∧ (Go.Hsh.Len8 (lsub x0 0 8))) ∧ ((Fits 8 8) ∧ (hadd.l0 R p fuel (lput x0 0 (Go.Hsh.blk (lsub x0 0 8) (lsub y4 0 64))) y4 (add IntKind.u64 x2 (conv IntKind.u64 (ofNat (nmin (llen x3) (nsub 64 (nat (rem x2 64))))))) (lsub x3 (nat (ofNat (nmin (llen x3) (nsub 64 (nat (rem x2 64)))))) (nsub (llen x3) (nat (ofNat (nmin (llen x3) (nsub 64 (nat (rem x2 64)))))))))))))) ∧ ((y6 = false) → (hadd.l0 R p fuel x0 y4 (add IntKind.u64 x2 (conv IntKind.u64 (ofNat (nmin (llen x3) (nsub 64 (nat (rem x2 64))))))) (lsub x3 (nat (ofNat (nmin (llen x3) (nsub 64 (nat (rem x2 64)))))) (nsub (llen x3) (nat (ofNat (nmin (llen x3) (nsub 64 (nat (rem x2 64)))))))))))))))))))) ∧ (((igt (ofNat (llen x3)) 0) = false) → (R (AV.agg [(Seg.ints IntKind.u32 8 x0), (Seg.ints IntKind.u8 64 x1), (Seg.cells [(AC.int IntKind.u64 x2)])]) [(2, Blk.own 102 [(Seg.ints IntKind.u32 8 x0), (Seg.ints IntKind.u8 64 x1), (Seg.cells [(AC.int IntKind.u64 x2)])]), (4, Blk.own 102 [(Seg.ints IntKind.u32 8 x0), (Seg.ints IntKind.u8 64 x1), (Seg.cells [(AC.int IntKind.u64 x2)])]), (100001, Blk.rview [(Col.ints IntKind.u8 x3)]), (1000000, Blk.view [(Seg.ints IntKind.u32 64 Go.Hsh.rootsL)]), (200001, Blk.rview [(Col.ints IntKind.u8 p)])])))) := by kernel_rfl
theorem hadd_vc (R : AV → Mem → Prop) (fuel : Nat) (W : List Int) (T : List Int) (n : Int) (p : List Int) : callsx Tryd.prog gamH2 [⟨1, [.ints .u8], false, false⟩] Tryd.f65 (fuel + 1) [.agg [.ints .u32 8 W, .ints .u8 64 T, .cells [.int .u64 n]], .one (.vec 200001)] [(1000000 + 0, .view [.ints .u32 64 Go.Hsh.rootsL]), (200001, .rview [.ints .u8 p])] R = (((((ilt n 64) = true) → ((Fits 8 8) ∧ (hadd.l0 R p fuel (lput W 0 Go.Hsh.firstL) T n p))) ∧ (((ilt n 64) = false) → (hadd.l0 R p fuel W T n p)))) := by kernel_rfl

def hsumm.l1 (R : AV → Mem → Prop) (W : List Int) (T : List Int) (n : Int) (x1 : List Int) (fuel : Nat) (x2 : Int) (x3 : List Int) : Prop := run Tryd.prog gamH3 [⟨4, [.ints .u8], true, false⟩] (resh Tryd.prog [⟨4, [.ints .u8], true, false⟩] Tryd.f66.results.toList R) fuel [.code (cAt (bodyOf Tryd.f66) [1, 1, 1, 1, 1, 1, 1, 0, 1, 0, 0]), .inLoop (cAt (bodyOf Tryd.f66) [1, 1, 1, 1, 1, 1, 1, 0, 1, 0, 0]), .inBlock 2, .code (cAt (bodyOf Tryd.f66) [1, 1, 1, 1, 1, 1, 1, 1])] [AV.undef, AV.undef, (AV.one (AC.ptr 2 0 0)), AV.undef, AV.undef, AV.undef, (AV.one (AC.ptr 6 0 0)), AV.undef, AV.undef, AV.undef, AV.undef, AV.undef, AV.undef, AV.undef, AV.undef, AV.undef, AV.undef, AV.undef, AV.undef, AV.undef, AV.undef, AV.undef, AV.undef, AV.undef, AV.undef, AV.undef, AV.undef, AV.undef, AV.undef, AV.undef, AV.undef, AV.undef, AV.undef, AV.undef, AV.undef, (AV.agg [(Seg.ints IntKind.u32 8 (lsub (Go.Hsh.addW W T n x1) 0 8))]), (AV.one (AC.int IntKind.i64 x2)), AV.undef, AV.undef, AV.undef, AV.undef, AV.undef, AV.undef, AV.undef, AV.undef, AV.undef, AV.undef, AV.undef, AV.undef, AV.undef, AV.undef, AV.undef, AV.undef, AV.undef, AV.undef, AV.undef, AV.undef, AV.undef, AV.undef, AV.undef, AV.undef, AV.undef, AV.undef, AV.undef, AV.undef, AV.undef, AV.undef, (AV.tup [])] [(2, Blk.own 63 [(Seg.ints IntKind.u8 32 (lzeros 32))]), (6, Blk.own 63 [(Seg.ints IntKind.u8 32 x3)]), (1000000, Blk.view [(Seg.ints IntKind.u32 64 Go.Hsh.rootsL)])]

def hsumm.l0 (R : AV → Mem → Prop) (n : Int) (W : List Int) (T : List Int) (fuel : Nat) (x0 : Int) (x1 : List Int) : Prop := run Tryd.prog gamH3 [⟨4, [.ints .u8], true, false⟩] (resh Tryd.prog [⟨4, [.ints .u8], true, false⟩] Tryd.f66.results.toList R) fuel [.code (cAt (bodyOf Tryd.f66) [1, 1, 1, 1, 0, 1, 0, 0]), .inLoop (cAt (bodyOf Tryd.f66) [1, 1, 1, 1, 0, 1, 0, 0]), .inBlock 0, .code (cAt (bodyOf Tryd.f66) [1, 1, 1, 1, 1])] [AV.undef, (AV.one (AC.ptr 1 0 0)), (AV.one (AC.ptr 2 0 0)), (AV.one (AC.int IntKind.u64 n)), (AV.one (AC.vec 100004)), (AV.one (AC.int IntKind.i64 x0)), (AV.tup []), (AV.tup []), (AV.tup []), AV.undef, AV.undef, AV.undef, AV.undef, AV.undef, AV.undef, AV.undef, AV.undef, AV.undef, AV.undef, AV.undef, AV.undef, AV.undef, AV.undef, AV.undef, AV.undef, AV.undef, AV.undef, AV.undef, AV.undef, AV.undef, AV.undef, (AV.tup []), (AV.tup []), (AV.tup []), (AV.tup []), (AV.tup []), (AV.tup []), (AV.tup []), (AV.tup []), (AV.tup []), (AV.tup []), (AV.tup []), (AV.tup []), (AV.tup []), (AV.tup []), (AV.tup []), (AV.tup []), (AV.tup []), (AV.tup []), (AV.tup []), (AV.tup []), (AV.tup []), (AV.tup []), (AV.tup []), (AV.tup []), (AV.tup []), (AV.tup []), (AV.tup []), (AV.tup []), (AV.tup []), (AV.tup []), (AV.tup []), (AV.tup []), (AV.tup []), (AV.tup []), (AV.tup []), (AV.tup []), (AV.tup [])] [(1, Blk.own 102 [(Seg.ints IntKind.u32 8 W), (Seg.ints IntKind.u8 64 T), (Seg.cells [(AC.int IntKind.u64 n)])]), (2, Blk.own 63 [(Seg.ints IntKind.u8 32 (lzeros 32))]), (100004, Blk.vec [(Col.ints IntKind.u8 x1)]), (1000000, Blk.view [(Seg.ints IntKind.u32 64 Go.Hsh.rootsL)])]

theorem hsumm.l1_succ (R : AV → Mem → Prop) (W : List Int) (T : List Int) (n : Int) (x1 : List Int) (fuel : Nat) (x2 : Int) (x3 : List Int) : hsumm.l1 R W T n x1 (fuel + 1) x2 x3 = (((((ilt x2 8) = true) → ((InB x2 8) ∧ ((NonNeg 24) ∧ ((NonNeg 16) ∧ ((NonNeg 8) ∧ ((InB (mul IntKind.i64 4 x2) 32) ∧ ((Low (nadd 0 (nat (mul IntKind.i64 4 x2))) 32) ∧ ((InB (add IntKind.i64 (mul IntKind.i64 4 x2) 1) 32) ∧ ((Low (nadd 0 (nat (add IntKind.i64 (mul IntKind.i64 4 x2) 1))) 32) ∧ ((InB (add IntKind.i64 (mul IntKind.i64 4 x2) 2) 32) ∧ ((Low (nadd 0 (nat (add IntKind.i64 (mul IntKind.i64 4 x2) 2))) 32) ∧ ((InB (add IntKind.i64 (mul IntKind.i64 4 x2) 3) 32) ∧ ((Low (nadd 0 (nat (add IntKind.i64 (mul IntKind.i64 4 x2) 3))) 32) ∧ (let y4 : List Int := (lset (lset (lset (lset x3 (nadd 0 (nat (mul IntKind.i64 4 x2))) (conv IntKind.u8 (shr IntKind.u32 (lget (lsub (Go.Hsh.addW W T n x1) 0 8) (nat x2)) 24))) (nadd 0 (nat (add IntKind.i64 (mul IntKind.i64 4 x2) 1))) (conv IntKind.u8 (shr IntKind.u32 (lget (lsub (Go.Hsh.addW W T n x1) 0 8) (nat x2)) 16))) (nadd 0 (nat (add IntKind.i64 (mul IntKind.i64 4 x2) 2))) (conv IntKind.u8 (shr IntKind.u32 (lget (lsub (Go.Hsh.addW W T n x1) 0 8) (nat x2)) 8))) (nadd 0 (nat (add IntKind.i64 (mul IntKind.i64 4 x2) 3))) (conv IntKind.u8 (lget (lsub (Go.Hsh.addW W T n x1) 0 8) (nat x2)))); (hsumm.l1 R W T n x1 fuel (add IntKind.i64 x2 1) y4))))))))))))))) ∧ (((ilt x2 8) = false) → (R (AV.agg [(Seg.ints IntKind.u8 32 x3)]) [(2, Blk.own 63 [(Seg.ints IntKind.u8 32 x3)]), (6, Blk.own 63 [(Seg.ints IntKind.u8 32 x3)]), (1000000, Blk.view [(Seg.ints IntKind.u32 64 Go.Hsh.rootsL)])])))) := by kernel_rfl
theorem hsumm.l0_succ (R : AV → Mem → Prop) (n : Int) (W : List Int) (T : List Int) (fuel : Nat) (x0 : Int) (x1 : List Int) : hsumm.l0 R n W T (fuel + 1) x0 x1 = (((((ige x0 0) = true) → ((NonNeg 3) ∧ ((NonNeg x0) ∧ ((Room (nadd (llen x1) (llen [(conv IntKind.u8 (shr IntKind.u64 (shl IntKind.u64 n 3) x0))])) 1) ∧ (hsumm.l0 R n W T fuel (sub IntKind.i64 x0 8) (lcat x1 [(conv IntKind.u8 (shr IntKind.u64 (shl IntKind.u64 n 3) x0))])))))) ∧ (((ige x0 0) = false) → (((Go.Hsh.rootsL = Go.Hsh.rootsL) ∧ (HOk W T n (List.length x1))) ∧ ((Fits 8 8) ∧ (hsumm.l1 R W T n x1 fuel 0 (lzeros 32))))))) := by kernel_rfl
theorem hsumm_vc (R : AV → Mem → Prop) (fuel : Nat) (W : List Int) (T : List Int) (n : Int) : callsx Tryd.prog gamH3 [⟨4, [.ints .u8], true, false⟩] Tryd.f66 (fuel + 1) [.agg [.ints .u32 8 W, .ints .u8 64 T, .cells [.int .u64 n]]] [(1000000 + 0, .view [.ints .u32 64 Go.Hsh.rootsL])] R = (((NeZ 64) ∧ ((NeZ 64) ∧ ((Mk (add IntKind.u64 1 (rem (sub IntKind.u64 119 (rem n 64)) 64)) 72 1) ∧ ((InB 0 (llen (lzeros (nat (add IntKind.u64 1 (rem (sub IntKind.u64 119 (rem n 64)) 64)))))) ∧ (hsumm.l0 R n W T fuel 56 (lset (lzeros (nat (add IntKind.u64 1 (rem (sub IntKind.u64 119 (rem n 64)) 64)))) 0 128))))))) := by kernel_rfl

theorem hsum_vc (R : AV → Mem → Prop) (fuel : Nat) (p : List Int) : callsx Tryd.prog gamH4 [] Tryd.f79 (fuel + 1) [.one (.vec 200000)] [(200000, .rview [.ints .u8 p]), (1000000 + 0, .view [.ints .u32 64 Go.Hsh.rootsL])] R = ((((Go.Hsh.rootsL = Go.Hsh.rootsL) ∧ (HOk (lzeros 8) (lzeros 64) (Int.ofNat 0) (List.length p))) ∧ (((Go.Hsh.rootsL = Go.Hsh.rootsL) ∧ (HOk (Go.Hsh.addW (lzeros 8) (lzeros 64) (Int.ofNat 0) p) (Go.Hsh.addT (lzeros 8) (lzeros 64) (Int.ofNat 0) p) (Go.Hsh.addN (lzeros 8) (lzeros 64) (Int.ofNat 0) p) 200)) ∧ (let y0 : List Int := (Go.Hsh.sumL (Go.Hsh.addW (lzeros 8) (lzeros 64) (Int.ofNat 0) p) (Go.Hsh.addT (lzeros 8) (lzeros 64) (Int.ofNat 0) p) (Go.Hsh.addN (lzeros 8) (lzeros 64) (Int.ofNat 0) p)); (R (AV.agg [(Seg.ints IntKind.u8 32 y0)]) [(2, Blk.own 63 [(Seg.ints IntKind.u8 32 y0)]), (200000, Blk.rview [(Col.ints IntKind.u8 p)]), (1000000, Blk.view [(Seg.ints IntKind.u32 64 Go.Hsh.rootsL)])]))))) := by kernel_rfl

def hrsum.l1 (R : AV → Mem → Prop) (x2 : List Int) (p : List Int) (fuel : Nat) (x3 : Int) (x4 : List Int) : Prop := run Tryd.prog gamH4 [] (resh Tryd.prog [] Tryd.f83.results.toList R) fuel [.code (cAt (bodyOf Tryd.f83) [1, 1, 1, 1, 1, 1, 0, 1, 0, 0]), .inLoop (cAt (bodyOf Tryd.f83) [1, 1, 1, 1, 1, 1, 0, 1, 0, 0]), .inBlock 2, .code (cAt (bodyOf Tryd.f83) [1, 1, 1, 1, 1, 1, 1])] [AV.undef, AV.undef, (AV.one (AC.ptr 2 0 0)), (AV.one (AC.ptr 3 0 0)), AV.undef, AV.undef, AV.undef, (AV.one (AC.ptr 7 0 0)), (AV.one (AC.int IntKind.i64 x3)), AV.undef, AV.undef, AV.undef, AV.undef, AV.undef, AV.undef, AV.undef, AV.undef, AV.undef, AV.undef, AV.undef, AV.undef, AV.undef, AV.undef, AV.undef, AV.undef, AV.undef, AV.undef, AV.undef, AV.undef, AV.undef, AV.undef, AV.undef, AV.undef, AV.undef, AV.undef, AV.undef, AV.undef, AV.undef, AV.undef, AV.undef, (AV.tup [])] [(2, Blk.own 63 [(Seg.ints IntKind.u8 32 (lzeros 32))]), (3, Blk.own 97 [(Seg.ints IntKind.u32 8 x2)]), (7, Blk.own 63 [(Seg.ints IntKind.u8 32 x4)]), (200000, Blk.rview [(Col.ints IntKind.u8 p)])]

def hrsum.l0 (R : AV → Mem → Prop) (p : List Int) (fuel : Nat) (x1 : Int) (x2 : List Int) : Prop := run Tryd.prog gamH4 [] (resh Tryd.prog [] Tryd.f83.results.toList R) fuel [.code (cAt (bodyOf Tryd.f83) [1, 1, 1, 1, 0, 1, 0, 0]), .inLoop (cAt (bodyOf Tryd.f83) [1, 1, 1, 1, 0, 1, 0, 0]), .inBlock 0, .code (cAt (bodyOf Tryd.f83) [1, 1, 1, 1, 1])] [AV.undef, AV.undef, (AV.one (AC.ptr 2 0 0)), (AV.one (AC.ptr 3 0 0)), (AV.one (AC.ptr 4 0 0)), (AV.one (AC.vec 12)), (AV.one (AC.int IntKind.i64 x1)), (AV.tup []), (AV.tup []), AV.undef, AV.undef, AV.undef, AV.undef, AV.undef, AV.undef, AV.undef, AV.undef, AV.undef, AV.undef, AV.undef, AV.undef, AV.undef, AV.undef, AV.undef, (AV.tup []), (AV.tup []), (AV.tup []), (AV.tup []), (AV.tup []), (AV.tup []), (AV.tup []), (AV.tup []), (AV.tup []), (AV.tup []), (AV.tup []), (AV.tup []), (AV.tup []), (AV.tup []), (AV.tup []), (AV.tup []), (AV.tup [])] [(2, Blk.own 63 [(Seg.ints IntKind.u8 32 (lzeros 32))]), (3, Blk.own 97 [(Seg.ints IntKind.u32 8 x2)]), (4, Blk.own 125 [(Seg.ints IntKind.u32 64 Go.Hsh.rootsL)]), (12, Blk.vec [(Col.ints IntKind.u8 (Go.Hsh.fillOf p))]), (200000, Blk.rview [(Col.ints IntKind.u8 p)])]

theorem hrsum.l1_succ (R : AV → Mem → Prop) (x2 : List Int) (p : List Int) (fuel : Nat) (x3 : Int) (x4 : List Int) : hrsum.l1 R x2 p (fuel + 1) x3 x4 = (((((ilt x3 32) = true) → ((NeZ 4) ∧ ((InB (quo IntKind.i64 x3 4) 8) ∧ ((Low (nadd 0 (nat (quo IntKind.i64 x3 4))) 8) ∧ ((NeZ 4) ∧ ((NonNeg (sub IntKind.i64 24 (mul IntKind.i64 8 (rem x3 4)))) ∧ ((InB x3 32) ∧ ((Low (nadd 0 (nat x3)) 32) ∧ (let y5 : Int := (shr IntKind.u32 (lget x2 (nadd 0 (nat (quo IntKind.i64 x3 4)))) (sub IntKind.i64 24 (mul IntKind.i64 8 (rem x3 4)))); (let y6 : Int := (conv IntKind.u8 (shr IntKind.u32 (lget x2 (nadd 0 (nat (quo IntKind.i64 x3 4)))) (sub IntKind.i64 24 (mul IntKind.i64 8 (rem x3 4))))); (let y7 : List Int := (lset x4 (nadd 0 (nat x3)) (conv IntKind.u8 (shr IntKind.u32 (lget x2 (nadd 0 (nat (quo IntKind.i64 x3 4)))) (sub IntKind.i64 24 (mul IntKind.i64 8 (rem x3 4)))))); (hrsum.l1 R x2 p fuel (add IntKind.i64 x3 1) y7)))))))))))) ∧ (((ilt x3 32) = false) → (R (AV.agg [(Seg.ints IntKind.u8 32 x4)]) [(2, Blk.own 63 [(Seg.ints IntKind.u8 32 x4)]), (3, Blk.own 97 [(Seg.ints IntKind.u32 8 x2)]), (7, Blk.own 63 [(Seg.ints IntKind.u8 32 x4)]), (200000, Blk.rview [(Col.ints IntKind.u8 p)])])))) := by kernel_rfl
theorem hrsum.l0_succ (R : AV → Mem → Prop) (p : List Int) (fuel : Nat) (x1 : Int) (x2 : List Int) : hrsum.l0 R p (fuel + 1) x1 x2 = (((((ilt x1 (ofNat (llen (Go.Hsh.fillOf p)))) = true) → ((Go.Hsh.WOk (Go.Hsh.fillOf p) Go.Hsh.rootsL x2 x1) ∧ (hrsum.l0 R p fuel (add IntKind.i64 x1 64) (Go.Hsh.blk x2 (lsub (Go.Hsh.fillOf p) (nat x1) 64))))) ∧ (((ilt x1 (ofNat (llen (Go.Hsh.fillOf p)))) = false) → (hrsum.l1 R x2 p fuel 0 (lzeros 32))))) := by kernel_rfl
theorem hrsum_vc (R : AV → Mem → Prop) (fuel : Nat) (p : List Int) : callsx Tryd.prog gamH4 [] Tryd.f83 (fuel + 1) [.one (.vec 200000)] [(200000, .rview [.ints .u8 p])] R = (((Low 0 8) ∧ ((Low 1 8) ∧ ((Low 2 8) ∧ ((Low 3 8) ∧ ((Low 4 8) ∧ ((Low 5 8) ∧ ((Low 6 8) ∧ ((Low 7 8) ∧ (let y0 : List Int := (lset (lset (lset (lset (lset (lset (lset (lset (lzeros 8) 0 1779033703) 1 3144134277) 2 1013904242) 3 2773480762) 4 1359893119) 5 2600822924) 6 528734635) 7 1541459225); ((Go.Hsh.Sm p) ∧ (hrsum.l0 R p fuel 0 y0)))))))))))) := by kernel_rfl

end Go.Proofs.YtdgmgalnhignjaaDoor.G

/- Arguments of a law: opening what came in, and handing it to the walk. -/
namespace Go.Sx
open Go Go.ChangeShapes Go.WideShapes Go.ChangeAt Go.RowKit
set_option linter.unusedSimpArgs false
set_option linter.unusedVariables false

section
variable {H : Type} {enc : TypeId × Value → H} {P : Program} {w : World} {base : Nat} {sp : Nat → Bool} {held : Bool}

/-- the arguments, one by one -/
inductive Args (ρ : Rho) : List AV → List Value → Prop
  | nil : Args ρ [] []
  | cons {x v l m} : SRep ρ x v → Args ρ l m → Args ρ (x :: l) (v :: m)

theorem Args.at {ρ : Rho} {l : List AV} {m : List Value} (h : Args ρ l m) : ∀ (j : Nat) x v, l[j]? = some x → m[j]? = some v → SRep ρ x v := by
  induction h with
  | nil => intro j x v h1; simp at h1
  | cons h t ih =>
    intro j x v h1 h2
    cases j with
    | zero => simp only [List.getElem?_cons_zero, Option.some.injEq] at h1 h2; subst h1; subst h2; exact h
    | succ j => exact ih j x v (by simpa using h1) (by simpa using h2)

theorem Args.arr {ρ : Rho} {l : List AV} {vals : Array Value} (h : Args ρ l vals.toList) (j : Nat) (x : AV) (v : Value) (h1 : l[j]? = some x) (h2 : vals[j]? = some v) : SRep ρ x v :=
  h.at j x v h1 (by simpa using h2)

/-- what the walk is told of a slice of integers that came in -/
def IsRow (k : IntKind) (w : World) (a : Option Addr) (len cap : Nat) (zs : List Int) : Prop :=
  (a = none ∧ len = 0 ∧ cap = 0 ∧ zs = []) ∨
  ∃ x, a = some x ∧ len ≤ cap ∧ cap ≤ maxLen ∧ zs.length = cap ∧ (∀ i, i < zs.length → w.cell? (x.add i) = some (.int k (zs.getD i 0))) ∧ ∀ n ∈ zs, (Lit.int k n).wf = true

end
end Go.Sx

/- Laws over arguments that lie in memory: they are read, and nothing of them is written. -/
namespace Go.Sx
open Go Go.ChangeShapes Go.WideShapes Go.ChangeAt Go.RowKit
set_option linter.unusedSimpArgs false
set_option linter.unusedVariables false

/-- the fields of a struct that came in -/
inductive AggArgs (w : World) : Nat → List Seg → List Value → Mem → Nat → Prop
  | nil (j : Nat) : AggArgs w j [] [] [] j
  | one {j j' : Nat} {a : AC} {v : Value} {s : List Seg} {cs : List Value} {τ : Mem} : (∀ ρ, CRep ρ a v) → AggArgs w j s cs τ j' → AggArgs w j (.cells [a] :: s) (v :: cs) τ j'
  | arr {j j' m : Nat} {k : IntKind} {l : List Int} {s : List Seg} {cs : List Value} {τ : Mem} : l.length = m → AggArgs w j s cs τ j' → AggArgs w j (.ints k m l :: s) (l.map (Value.int k) ++ cs) τ j'
  | row {j j' : Nat} {v : Value} {s : List Seg} {cs : List Value} {τ : Mem} (L : Loc) (cols : List Col) (hj : j < 1000) : VRep w L cols → v = .slice L.a L.len L.cap → AggArgs w (j + 1) s cs τ j' → AggArgs w j (.cells [.vec (200000 + j)] :: s) (v :: cs) ((200000 + j, .rview cols) :: τ) j'

/-- the arguments of a law: plain values, structs, and lists that are seen under names of their own -/
inductive LawArgs (w : World) : Nat → List AV → List Value → Mem → Prop
  | nil (j : Nat) : LawArgs w j [] [] []
  | plain {j : Nat} {x : AV} {v : Value} {xs : List AV} {vs : List Value} {τ : Mem} : (∀ ρ, SRep ρ x v) → LawArgs w (j + 1) xs vs τ → LawArgs w j (x :: xs) (v :: vs) τ
  | row {j : Nat} {v : Value} {xs : List AV} {vs : List Value} {τ : Mem} (L : Loc) (cs : List Col) (hj : j < 1000) : VRep w L cs → v = .slice L.a L.len L.cap → LawArgs w (j + 1) xs vs τ → LawArgs w j (.one (.vec (200000 + j)) :: xs) (v :: vs) ((200000 + j, .rview cs) :: τ)
  | agg {j j' : Nat} {s : List Seg} {cs : List Value} {xs : List AV} {vs : List Value} {τ τ' : Mem} : AggArgs w j s cs τ' j' → LawArgs w j' xs vs τ → LawArgs w j (.agg s :: xs) (.agg cs.toArray :: vs) (τ' ++ τ)
  | glob {j g : Nat} {s : List Seg} {xs : List AV} {vs : List Value} {τ : Mem} : (∀ ρ, Glob ρ → segsOk s ∧ CellsAt ρ w (gname g) (flat s)) → LawArgs w j xs vs τ → LawArgs w j xs vs ((gname g, .view s) :: τ)

theorem find_append {τ' τ : Mem} {n : Nat} {b : Blk} (h : Mem.find (τ' ++ τ) n = some b) : Mem.find τ' n = some b ∨ Mem.find τ n = some b := by
  induction τ' with
  | nil => exact Or.inr h
  | cons x r ih =>
    obtain ⟨m, y⟩ := x
    simp only [List.cons_append, Mem.find] at h ⊢
    split at h
    · rename_i e; rw [if_pos e]; exact Or.inl h
    · rename_i e; rw [if_neg e]; exact ih h

theorem aggArgs_views {w : World} {τ : Mem} : ∀ {j j' : Nat} {s : List Seg} {cs : List Value}, AggArgs w j s cs τ j' → ∀ ρ n b k, Mem.find τ n = some b → ¬ Out ρ n b k := by
  intro j j' s cs h
  induction h with
  | nil j => intro ρ n b k hn; simp [Mem.find] at hn
  | one _ _ ih => exact ih
  | arr _ _ ih => exact ih
  | row L cols _ _ _ _ ih =>
    intro ρ n b k hn
    simp only [Mem.find] at hn
    split at hn
    · cases hn; exact fun q => q
    · exact ih ρ n b k hn

theorem lawArgs_views {w : World} {τ : Mem} : ∀ {j : Nat} {xs : List AV} {vs : List Value}, LawArgs w j xs vs τ → ∀ ρ n b k, Mem.find τ n = some b → ¬ Out ρ n b k := by
  intro j xs vs h
  induction h with
  | nil j => intro ρ n b k hn; simp [Mem.find] at hn
  | plain _ _ ih => exact ih
  | row L cs _ _ _ _ ih =>
    intro ρ n b k hn
    simp only [Mem.find] at hn
    split at hn
    · cases hn; exact fun q => q
    · exact ih ρ n b k hn
  | agg ha _ ih =>
    intro ρ n b k hn
    rcases find_append hn with q | q
    · exact aggArgs_views ha ρ n b k q
    · exact ih ρ n b k q
  | glob _ _ ih =>
    intro ρ n b k hn
    simp only [Mem.find] at hn
    split at hn
    · cases hn; exact fun q => q
    · exact ih ρ n b k hn

theorem FRep.cons {ρ : Rho} {a : AC} {v : Value} {l : List AC} {c : List Value} (h : CRep ρ a v) (t : FRep ρ l c) : FRep ρ (a :: l) (v :: c) := by
  refine ⟨by simp [t.1], fun j x u hx hu => ?_⟩
  cases j with
  | zero => simp at hx hu; subst hx hu; exact h
  | succ j => exact t.2 j x u (by simpa using hx) (by simpa using hu)

theorem FRep.arr {ρ : Rho} {k : IntKind} {l : List AC} {c : List Value} : ∀ (a : List Int), FRep ρ l c → FRep ρ (a.map (.int k) ++ l) (a.map (Value.int k) ++ c)
  | [], h => h
  | x :: a, h => FRep.cons rfl (FRep.arr a h)

theorem aggArgs_sound {w : World} {τ : Mem} : ∀ {j j' : Nat} {s : List Seg} {cs : List Value}, AggArgs w j s cs τ j' →
    j ≤ j' ∧ ∃ Ls : Nat → Loc, ∀ ρ : Rho, (∀ i, j ≤ i → i < j' → i < 1000 → ρ (200000 + i) = Ls i) → segsOk s ∧ FRep ρ (flat s) cs ∧ MemRep ρ τ w := by
  intro j j' s cs h
  induction h with
  | nil j => exact ⟨Nat.le_refl _, fun _ => loc0, fun ρ _ => ⟨trivial, ⟨rfl, fun i y v hy => by simp [flat] at hy⟩, fun n b hb => by simp [Mem.find] at hb⟩⟩
  | one hp _ ih =>
    obtain ⟨h1, Ls, h2⟩ := ih
    refine ⟨h1, Ls, fun ρ hc => ?_⟩
    obtain ⟨g1, g2, g3⟩ := h2 ρ hc
    exact ⟨⟨trivial, g1⟩, FRep.cons (hp ρ) g2, g3⟩
  | arr hl _ ih =>
    obtain ⟨h1, Ls, h2⟩ := ih
    refine ⟨h1, Ls, fun ρ hc => ?_⟩
    obtain ⟨g1, g2, g3⟩ := h2 ρ hc
    exact ⟨⟨hl, g1⟩, FRep.arr _ g2, g3⟩
  | @row j j' v s cs τ L cols hj hV hv _ ih =>
    obtain ⟨h1, Ls, h2⟩ := ih
    refine ⟨by omega, fun i => if i = j then L else Ls i, fun ρ hc => ?_⟩
    have hj' : ρ (200000 + j) = L := by rw [hc j (Nat.le_refl _) (by omega) hj]; simp
    obtain ⟨g1, g2, g3⟩ := h2 ρ (fun i hi hlt h1000 => by rw [hc i (by omega) hlt h1000]; show (if i = j then _ else Ls i) = Ls i; rw [if_neg (by omega)])
    refine ⟨⟨trivial, g1⟩, FRep.cons (show v = _ by rw [hj']; exact hv) g2, fun n b hb => ?_⟩
    simp only [Mem.find] at hb
    split at hb
    · rename_i e; subst e; cases hb
      show VRep w (ρ (200000 + j)) cols
      rw [hj']; exact hV
    · exact g3 n b hb

theorem lawArgs_sound {w : World} {τ : Mem} : ∀ {j : Nat} {xs : List AV} {vs : List Value}, LawArgs w j xs vs τ →
    xs.length = vs.length ∧ ∃ Ls : Nat → Loc, ∀ ρ : Rho, Glob ρ → (∀ i, j ≤ i → i < 1000 → ρ (200000 + i) = Ls i) → (∀ (i : Nat) y v, xs[i]? = some y → vs[i]? = some v → SRep ρ y v) ∧ MemRep ρ τ w := by
  intro j xs vs h
  induction h with
  | nil j => exact ⟨rfl, fun _ => loc0, fun ρ _ _ => ⟨fun i y v hy => by simp at hy, fun n b hb => by simp [Mem.find] at hb⟩⟩
  | @plain j x v xs vs τ hp _ ih =>
    obtain ⟨h1, Ls, h2⟩ := ih
    refine ⟨by simpa using h1, Ls, fun ρ hg hc => ?_⟩
    obtain ⟨g1, g2⟩ := h2 ρ hg (fun i hi hlt => hc i (by omega) hlt)
    refine ⟨fun i y u hy hu => ?_, g2⟩
    cases i with
    | zero => simp at hy hu; subst hy hu; exact hp ρ
    | succ i => exact g1 i y u (by simpa using hy) (by simpa using hu)
  | @row j v xs vs τ L cs hj hV hv _ ih =>
    obtain ⟨h1, Ls, h2⟩ := ih
    refine ⟨by simpa using h1, fun i => if i = j then L else Ls i, fun ρ hg hc => ?_⟩
    have hj : ρ (200000 + j) = L := by rw [hc j (Nat.le_refl _) hj]; simp
    obtain ⟨g1, g2⟩ := h2 ρ hg (fun i hi hlt => by rw [hc i (by omega) hlt]; show (if i = j then _ else Ls i) = Ls i; rw [if_neg (by omega)])
    refine ⟨fun i y u hy hu => ?_, fun n b hb => ?_⟩
    · cases i with
      | zero =>
        simp at hy hu
        subst hy hu
        show v = _
        rw [hj]; exact hv
      | succ i => exact g1 i y u (by simpa using hy) (by simpa using hu)
    · simp only [Mem.find] at hb
      split at hb
      · rename_i e; subst e; cases hb
        show VRep w (ρ (200000 + j)) cs
        rw [hj]; exact hV
      · exact g2 n b hb
  | @agg j j' s cs xs vs τ τ' ha _ ih =>
    obtain ⟨h1, Ls, h2⟩ := ih
    obtain ⟨a1, La, a2⟩ := aggArgs_sound ha
    refine ⟨by simpa using h1, fun i => if i < j' then La i else Ls i, fun ρ hg hc => ?_⟩
    obtain ⟨g1, g2⟩ := h2 ρ hg (fun i hi hlt => by rw [hc i (by omega) hlt]; show (if i < j' then _ else Ls i) = Ls i; rw [if_neg (by omega)])
    obtain ⟨b1, b2, b3⟩ := a2 ρ (fun i hi hlt h1000 => by rw [hc i hi h1000]; show (if i < j' then La i else _) = La i; rw [if_pos hlt])
    refine ⟨fun i y u hy hu => ?_, fun n b hb => ?_⟩
    · cases i with
      | zero =>
        simp at hy hu
        subst hy hu
        exact ⟨b1, cs, rfl, b2⟩
      | succ i => exact g1 i y u (by simpa using hy) (by simpa using hu)
    · rcases find_append hb with q | q
      · exact b3 n b q
      · exact g2 n b q
  | @glob j g s xs vs τ hp _ ih =>
    obtain ⟨h1, Ls, h2⟩ := ih
    refine ⟨h1, Ls, fun ρ hg hc => ?_⟩
    obtain ⟨g1, g2⟩ := h2 ρ hg hc
    refine ⟨g1, fun n b hb => ?_⟩
    simp only [Mem.find] at hb
    split at hb
    · rename_i e; subst e; cases hb
      exact hp ρ hg
    · exact g2 n b hb

theorem loc_of {w : World} {k : IntKind} {a : Option Addr} {len cap : Nat} {zs : List Int} (h : IsRow k w a len cap zs) : ∃ L : Loc, VRep w L [.ints k (zs.take len)] ∧ Value.slice a len cap = .slice L.a L.len L.cap := by
  rcases h with ⟨rfl, rfl, rfl, rfl⟩ | ⟨x, rfl, hl, hm, hz, hc, hw⟩
  · exact ⟨loc0, VRep.ofInts rfl (Nat.le_refl _) (fun q => absurd rfl q) (fun j x hj => by simp at hj), rfl⟩
  · have hcell : ∀ (j : Nat) y, (zs.take len)[j]? = some y → w.cell? (x.add j) = some (.int k y) := fun j y hj => by
      have hlt : j < len := by have := (List.getElem?_eq_some_iff.1 hj).1; simp at this; omega
      rw [hc j (by omega)]
      rw [List.getElem?_take_of_lt hlt] at hj
      simp [List.getD, hj]
    have hsp : 0 < len → x.spot = none := fun hp => by
      have h0 := hc 0 (by omega)
      cases hs : x.spot with
      | none => rfl
      | some q =>
        exfalso
        have : (x.add 0).spot.isSome = true := by cases x; simp only at hs; subst hs; rfl
        simp only [World.cell?, this] at h0
        split at h0 <;> simp at h0
    refine ⟨⟨x.block, x.off, some x, len, cap, fun _ _ => ⟨none, 0, 0⟩⟩, VRep.ofInts (by simp; omega) hl (fun q => ?_) (fun j y hj => ?_), rfl⟩
    · have := hsp (Nat.pos_of_ne_zero q)
      cases x
      simp only at this; subst this; rfl
    · have hlt : j < len := by have := (List.getElem?_eq_some_iff.1 hj).1; simp at this; omega
      have := hsp (by omega)
      have e : (Loc.at ⟨x.block, x.off, some x, len, cap, fun _ _ => ⟨none, 0, 0⟩⟩ j) = x.add j := by
        cases x; simp only at this; subst this; simp [Loc.at, Addr.add]
      rw [e]; exact hcell j y hj

theorem LawArgs.ints {w : World} {k : IntKind} {a : Option Addr} {len cap j : Nat} {zs : List Int} {xs : List AV} {vs : List Value} {τ : Mem} (h : IsRow k w a len cap zs) (t : LawArgs w (j + 1) xs vs τ) (hj : j < 1000 := by decide) :
    LawArgs w j (.one (.vec (200000 + j)) :: xs) (.slice a len cap :: vs) ((200000 + j, .rview [.ints k (zs.take len)]) :: τ) := by
  obtain ⟨L, h1, h2⟩ := loc_of h
  exact .row L _ hj h1 h2 t

theorem AggArgs.ints {w : World} {k : IntKind} {a : Option Addr} {len cap j j' : Nat} {zs : List Int} {s : List Seg} {cs : List Value} {τ : Mem} (h : IsRow k w a len cap zs) (t : AggArgs w (j + 1) s cs τ j') (hj : j < 1000 := by decide) :
    AggArgs w j (.cells [.vec (200000 + j)] :: s) (.slice a len cap :: cs) ((200000 + j, .rview [.ints k (zs.take len)]) :: τ) j' := by
  obtain ⟨L, h1, h2⟩ := loc_of h
  exact .row L _ hj h1 h2 t

theorem IsRow.bytes {w : World} {a : Option Addr} {len cap : Nat} {zs : List Int} (h : IsRow .u8 w a len cap zs) : ∀ x ∈ zs.take len, 0 ≤ x ∧ x < 256 := by
  rcases h with ⟨rfl, rfl, rfl, rfl⟩ | ⟨x, rfl, hl, hm, hz, hc, hw⟩
  · intro x hx; simp at hx
  · intro x hx
    obtain ⟨h1, h2⟩ := bounds_u8 (hw x (List.mem_of_mem_take hx))
    exact ⟨h1, by omega⟩

section
variable {H : Type} {enc : TypeId × Value → H} {P : Program} {w : World}
end

section
variable {P : Program} {Γ : Gam} {D : Hints}
/-- a law over plain values and lists -/
theorem law_mem (hm : P.follows .mixedOrders = true) (hΓ : GoodG P Γ) {f : FuncId} {fn : Func} (hf : P.funcs[f]? = some fn) (hb : fn.body.isSome = true) {n : Nat} {args : List AV} {vals : Array Value} {w : World} {τ : Mem} (ha : LawArgs w 0 args vals.toList τ) (hlen : args.length ≤ 1000)
    (h0 : Has (callsx P Γ D fn n args τ fun av _ => av = .one (.bool true) ∨ av = .one (.lit true))) :
    Calls P f vals w fun e w' => e = .returned (.bool true) ∧ Go.RowKit.Below w.heap.size w w' := by
  have h := h0.out
  obtain ⟨hl, Ls, hs⟩ := lawArgs_sound ha
  generalize hρ0 : rhoC (fun n => ⟨n - 1000000, 0, none, 0, 0, fun _ _ => ⟨none, 0, 0⟩⟩) Ls = ρ
  have hρ : ∀ i, 0 ≤ i → i < 1000 → ρ (200000 + i) = Ls i := fun i _ hi => by rw [← hρ0]; exact rhoC_arg (by omega)
  have hg : Glob ρ := fun g => by
    have e : ρ (gname g) = ⟨gname g - 1000000, 0, none, 0, 0, fun _ _ => ⟨none, 0, 0⟩⟩ := by rw [← hρ0]; exact rhoC_glob
    rw [e]; simp [gname]
  obtain ⟨g1, g2⟩ := hs ρ hg hρ
  have hno := lawArgs_views ha ρ
  refine (callsx_sound hm hΓ hf hb h (ρ := ρ) (ex := fun _ => False) hg (by simpa using hl) (fun j x v h1 h2 => g1 j x v h1 (by rw [Array.getElem?_toList]; exact h2)) g2 ⟨fun n m b c k hn _ _ hO => absurd hO (hno n b k hn), fun n b k hn hO => absurd hO (hno n b k hn)⟩ (fun n b k hn hO => absurd hO (hno n b k hn))).mono ?_
  rintro e w' ⟨v, av, σ', ρ', rfl, hav, hsr, _, _, _, _, hk⟩
  have : v = .bool true := by rcases hav with rfl | rfl <;> exact hsr
  subst this
  exact ⟨rfl, hk.below⟩
end
end Go.Sx

/- The program draws the order of its regions. -/
namespace Go.Proofs.YtdgmgalnhignjaaDoor.G
open Go Go.Sx
theorem mixed : Tryd.prog.follows .mixedOrders = true := by kernel_rfl
end Go.Proofs.YtdgmgalnhignjaaDoor.G

/- The verification conditions of functions, printed by a program of this session out of their codes. -/
namespace Go.Proofs.YtdgmgalnhignjaaDoor.G
open Go Go.Sx Go.Hsh
set_option linter.unusedVariables false
set_option maxRecDepth 100000

theorem hrot_vc (R : AV → Mem → Prop) (fuel : Nat) (x : Int) (k : Int) : callsx Tryd.prog gam0 [] Tryd.f89 (fuel + 1) [.one (.int .u32 x), .one (.int .i64 k)] [] R = (((NonNeg (band IntKind.u64 (conv IntKind.u64 k) 31)) ∧ ((NonNeg (sub IntKind.u64 32 (band IntKind.u64 (conv IntKind.u64 k) 31))) ∧ (let y0 : Int := (bor IntKind.u32 (shl IntKind.u32 x (band IntKind.u64 (conv IntKind.u64 k) 31)) (shr IntKind.u32 x (sub IntKind.u64 32 (band IntKind.u64 (conv IntKind.u64 k) 31)))); (R (AV.one (AC.int IntKind.u32 y0)) []))))) := by kernel_rfl

theorem hturned_vc (R : AV → Mem → Prop) (fuel : Nat) (x : Int) (k : Int) : callsx Tryd.prog gam0 [] Tryd.f93 (fuel + 1) [.one (.int .u32 x), .one (.int .i64 k)] [] R = (((NonNeg k) ∧ ((NonNeg (sub IntKind.i64 32 k)) ∧ (R (AV.one (AC.int IntKind.u32 (bor IntKind.u32 (shr IntKind.u32 x k) (shl IntKind.u32 x (sub IntKind.i64 32 k))))) [])))) := by kernel_rfl

theorem hfirst_vc (R : AV → Mem → Prop) (fuel : Nat)  : callsx Tryd.prog gam0 [] Tryd.f81 (fuel + 1) [] [] R = (((Low 0 8) ∧ ((Low 1 8) ∧ ((Low 2 8) ∧ ((Low 3 8) ∧ ((Low 4 8) ∧ ((Low 5 8) ∧ ((Low 6 8) ∧ ((Low 7 8) ∧ (let y0 : List Int := (lset (lset (lset (lset (lset (lset (lset (lset (lzeros 8) 0 1779033703) 1 3144134277) 2 1013904242) 3 2773480762) 4 1359893119) 5 2600822924) 6 528734635) 7 1541459225); (R (AV.agg [(Seg.ints IntKind.u32 8 y0)]) [(0, Blk.own 98 [(Seg.ints IntKind.u32 8 y0)])]))))))))))) := by kernel_rfl

theorem hthirds_vc (R : AV → Mem → Prop) (fuel : Nat)  : callsx Tryd.prog gam0 [] Tryd.f90 (fuel + 1) [] [] R = (((Low 0 64) ∧ ((Low 1 64) ∧ ((Low 2 64) ∧ ((Low 3 64) ∧ ((Low 4 64) ∧ ((Low 5 64) ∧ ((Low 6 64) ∧ ((Low 7 64) ∧ ((Low 8 64) ∧ ((Low 9 64) ∧ ((Low 10 64) ∧ ((Low 11 64) ∧ ((Low 12 64) ∧ ((Low 13 64) ∧ ((Low 14 64) ∧ ((Low 15 64) ∧ ((Low 16 64) ∧ ((Low 17 64) ∧ ((Low 18 64) ∧ ((Low 19 64) ∧ ((Low 20 64) ∧ ((Low 21 64) ∧ ((Low 22 64) ∧ ((Low 23 64) ∧ ((Low 24 64) ∧ ((Low 25 64) ∧ ((Low 26 64) ∧ ((Low 27 64) ∧ ((Low 28 64) ∧ ((Low 29 64) ∧ ((Low 30 64) ∧ ((Low 31 64) ∧ ((Low 32 64) ∧ ((Low 33 64) ∧ ((Low 34 64) ∧ ((Low 35 64) ∧ ((Low 36 64) ∧ ((Low 37 64) ∧ ((Low 38 64) ∧ ((Low 39 64) ∧ ((Low 40 64) ∧ ((Low 41 64) ∧ ((Low 42 64) ∧ ((Low 43 64) ∧ ((Low 44 64) ∧ ((Low 45 64) ∧ ((Low 46 64) ∧ ((Low 47 64) ∧ ((Low 48 64) ∧ ((Low 49 64) ∧ ((Low 50 64) ∧ ((Low 51 64) ∧ ((Low 52 64) ∧ ((Low 53 64) ∧ ((Low 54 64) ∧ ((Low 55 64) ∧ ((Low 56 64) ∧ ((Low 57 64) ∧ ((Low 58 64) ∧ ((Low 59 64) ∧ ((Low 60 64) ∧ ((Low 61 64) ∧ ((Low 62 64) ∧ ((Low 63 64) ∧ (let y0 : List Int := (lset (lset (lset (lset (lset (lset (lset (lset (lset (lset (lset (lset (lset (lset (lset (lset (lset (lset (lset (lset (lset (lset (lset (lset (lset (lset (lset (lset (lset (lset (lset (lset (lset (lset (lset (lset (lset (lset (lset (lset (lset (lset (lset (lset (lset (lset (lset (lset (lset (lset (lset (lset (lset (lset (lset (lset (lset (lset (lset (lset (lset (lset (lset (lset (lzeros 64) 0 1116352408) 1 1899447441) 2 3049323471) 3 3921009573) 4 961987163) 5 1508970993) 6 2453635748) 7 2870763221) 8 3624381080) 9 310598401) 10 607225278) 11 1426881987) 12 1925078388) 13 2162078206) 14 2614888103) 15 3248222580) 16 3835390401) 17 4022224774) 18 264347078) 19 604807628) 20 770255983) 21 1249150122) 22 1555081692) 23 1996064986) 24 2554220882) 25 2821834349) 26 2952996808) 27 3210313671) 28 3336571891) 29 3584528711) 30 113926993) 31 338241895) 32 666307205) 33 773529912) 34 1294757372) 35 1396182291) 36 1695183700) 37 1986661051) 38 2177026350) 39 2456956037) 40 2730485921) 41 2820302411) 42 3259730800) 43 3345764771) 44 3516065817) 45 3600352804) 46 4094571909) 47 275423344) 48 430227734) 49 506948616) 50 659060556) 51 883997877) 52 958139571) 53 1322822218) 54 1537002063) 55 1747873779) 56 1955562222) 57 2024104815) 58 2227730452) 59 2361852424) 60 2428436474) 61 2756734187) 62 3204031479) 63 3329325298); (R (AV.agg [(Seg.ints IntKind.u32 64 y0)]) [(0, Blk.own 125 [(Seg.ints IntKind.u32 64 y0)])]))))))))))))))))))))))))))))))))))))))))))))))))))))))))))))))))))) := by kernel_rfl

def hblock.l3 (R : AV → Mem → Prop) (x17 : List Int) (fuel : Nat) (x28 : Int) (x29 : List Int) : Prop := run Tryd.prog gamH1 [] (resh Tryd.prog [] Tryd.f82.results.toList R) fuel [.code (cAt (bodyOf Tryd.f82) [1, 1, 1, 1, 1, 1, 0, 1, 0, 0]), .inLoop (cAt (bodyOf Tryd.f82) [1, 1, 1, 1, 1, 1, 0, 1, 0, 0]), .inBlock 6, .code (cAt (bodyOf Tryd.f82) [1, 1, 1, 1, 1, 1, 1])] [AV.undef, AV.undef, (AV.one (AC.ptr 2 0 0)), AV.undef, (AV.one (AC.ptr 4 0 0)), AV.undef, AV.undef, AV.undef, AV.undef, AV.undef, AV.undef, AV.undef, (AV.one (AC.ptr 12 0 0)), AV.undef, AV.undef, AV.undef, AV.undef, AV.undef, AV.undef, AV.undef, AV.undef, AV.undef, AV.undef, AV.undef, AV.undef, AV.undef, AV.undef, AV.undef, AV.undef, AV.undef, AV.undef, AV.undef, AV.undef, AV.undef, AV.undef, AV.undef, AV.undef, AV.undef, AV.undef, AV.undef, AV.undef, AV.undef, AV.undef, AV.undef, AV.undef, AV.undef, AV.undef, AV.undef, AV.undef, AV.undef, AV.undef, AV.undef, AV.undef, AV.undef, AV.undef, AV.undef, AV.undef, AV.undef, AV.undef, AV.undef, AV.undef, AV.undef, AV.undef, AV.undef, AV.undef, AV.undef, AV.undef, AV.undef, AV.undef, AV.undef, AV.undef, AV.undef, AV.undef, AV.undef, AV.undef, AV.undef, AV.undef, AV.undef, AV.undef, AV.undef, AV.undef, AV.undef, AV.undef, AV.undef, AV.undef, AV.undef, AV.undef, AV.undef, AV.undef, AV.undef, AV.undef, AV.undef, AV.undef, AV.undef, AV.undef, AV.undef, AV.undef, AV.undef, AV.undef, AV.undef, AV.undef, AV.undef, AV.undef, AV.undef, AV.undef, AV.undef, AV.undef, AV.undef, AV.undef, AV.undef, AV.undef, AV.undef, AV.undef, AV.undef, AV.undef, AV.undef, AV.undef, AV.undef, AV.undef, AV.undef, AV.undef, AV.undef, AV.undef, AV.undef, AV.undef, AV.undef, AV.undef, AV.undef, AV.undef, AV.undef, AV.undef, AV.undef, AV.undef, AV.undef, AV.undef, AV.undef, AV.undef, AV.undef, AV.undef, AV.undef, AV.undef, AV.undef, AV.undef, AV.undef, AV.undef, AV.undef, AV.undef, AV.undef, AV.undef, AV.undef, AV.undef, AV.undef, AV.undef, AV.undef, AV.undef, AV.undef, AV.undef, AV.undef, AV.undef, AV.undef, AV.undef, AV.undef, AV.undef, AV.undef, AV.undef, AV.undef, AV.undef, AV.undef, AV.undef, AV.undef, AV.undef, AV.undef, AV.undef, AV.undef, AV.undef, AV.undef, AV.undef, AV.undef, AV.undef, AV.undef, AV.undef, AV.undef, AV.undef, AV.undef, (AV.one (AC.int IntKind.i64 x28)), AV.undef, AV.undef, AV.undef, AV.undef, AV.undef, AV.undef, AV.undef, AV.undef, AV.undef, AV.undef, AV.undef, (AV.tup [])] [(2, Blk.own 98 [(Seg.ints IntKind.u32 8 x29)]), (4, Blk.own 98 [(Seg.ints IntKind.u32 8 (lzeros 8))]), (12, Blk.own 98 [(Seg.ints IntKind.u32 8 x17)]), (1000000, Blk.view [(Seg.ints IntKind.u32 64 Go.Hsh.rootsL)])]

def hblock.l2 (R : AV → Mem → Prop) (s : List Int) (x9 : List Int) (fuel : Nat) (x16 : Int) (x17 : List Int) : Prop := run Tryd.prog gamH1 [] (resh Tryd.prog [] Tryd.f82.results.toList R) fuel [.code (cAt (bodyOf Tryd.f82) [1, 1, 1, 1, 1, 0, 1, 0, 0]), .inLoop (cAt (bodyOf Tryd.f82) [1, 1, 1, 1, 1, 0, 1, 0, 0]), .inBlock 4, .code (cAt (bodyOf Tryd.f82) [1, 1, 1, 1, 1, 1])] [AV.undef, AV.undef, (AV.one (AC.ptr 2 0 0)), AV.undef, (AV.one (AC.ptr 4 0 0)), (AV.one (AC.ptr 5 0 0)), AV.undef, AV.undef, AV.undef, AV.undef, AV.undef, AV.undef, (AV.one (AC.ptr 12 0 0)), AV.undef, AV.undef, AV.undef, AV.undef, AV.undef, AV.undef, AV.undef, AV.undef, AV.undef, AV.undef, AV.undef, (AV.tup []), AV.undef, AV.undef, AV.undef, AV.undef, AV.undef, AV.undef, AV.undef, AV.undef, AV.undef, AV.undef, AV.undef, AV.undef, AV.undef, AV.undef, AV.undef, AV.undef, AV.undef, AV.undef, AV.undef, AV.undef, AV.undef, AV.undef, AV.undef, AV.undef, AV.undef, AV.undef, AV.undef, AV.undef, AV.undef, AV.undef, AV.undef, AV.undef, AV.undef, AV.undef, AV.undef, AV.undef, AV.undef, AV.undef, AV.undef, AV.undef, AV.undef, AV.undef, AV.undef, AV.undef, AV.undef, AV.undef, AV.undef, AV.undef, AV.undef, AV.undef, AV.undef, AV.undef, AV.undef, AV.undef, AV.undef, AV.undef, AV.undef, AV.undef, AV.undef, AV.undef, AV.undef, AV.undef, AV.undef, AV.undef, AV.undef, AV.undef, AV.undef, AV.undef, AV.undef, AV.undef, AV.undef, AV.undef, AV.undef, AV.undef, AV.undef, AV.undef, AV.undef, AV.undef, AV.undef, (AV.one (AC.int IntKind.i64 x16)), AV.undef, AV.undef, AV.undef, AV.undef, AV.undef, AV.undef, AV.undef, AV.undef, AV.undef, AV.undef, AV.undef, AV.undef, AV.undef, AV.undef, AV.undef, AV.undef, AV.undef, AV.undef, AV.undef, AV.undef, AV.undef, AV.undef, AV.undef, AV.undef, AV.undef, AV.undef, AV.undef, AV.undef, AV.undef, AV.undef, AV.undef, AV.undef, AV.undef, AV.undef, AV.undef, AV.undef, AV.undef, AV.undef, AV.undef, AV.undef, AV.undef, AV.undef, AV.undef, AV.undef, AV.undef, AV.undef, AV.undef, AV.undef, AV.undef, AV.undef, AV.undef, AV.undef, AV.undef, AV.undef, AV.undef, AV.undef, AV.undef, AV.undef, AV.undef, AV.undef, AV.undef, AV.undef, AV.undef, AV.undef, AV.undef, AV.undef, AV.undef, AV.undef, AV.undef, AV.undef, AV.undef, AV.undef, AV.undef, AV.undef, AV.undef, AV.undef, AV.undef, AV.undef, AV.undef, (AV.tup []), (AV.tup []), (AV.tup []), (AV.tup []), (AV.tup []), (AV.tup []), (AV.tup []), (AV.tup []), (AV.tup []), (AV.tup []), (AV.tup []), (AV.tup []), (AV.tup [])] [(2, Blk.own 98 [(Seg.ints IntKind.u32 8 s)]), (4, Blk.own 98 [(Seg.ints IntKind.u32 8 (lzeros 8))]), (5, Blk.own 125 [(Seg.ints IntKind.u32 64 x9)]), (12, Blk.own 98 [(Seg.ints IntKind.u32 8 x17)]), (1000000, Blk.view [(Seg.ints IntKind.u32 64 Go.Hsh.rootsL)])]

def hblock.l1 (R : AV → Mem → Prop) (s : List Int) (fuel : Nat) (x8 : Int) (x9 : List Int) : Prop := run Tryd.prog gamH1 [] (resh Tryd.prog [] Tryd.f82.results.toList R) fuel [.code (cAt (bodyOf Tryd.f82) [1, 1, 1, 0, 1, 0, 0]), .inLoop (cAt (bodyOf Tryd.f82) [1, 1, 1, 0, 1, 0, 0]), .inBlock 2, .code (cAt (bodyOf Tryd.f82) [1, 1, 1, 1])] [AV.undef, AV.undef, (AV.one (AC.ptr 2 0 0)), AV.undef, (AV.one (AC.ptr 4 0 0)), (AV.one (AC.ptr 5 0 0)), AV.undef, (AV.one (AC.int IntKind.i64 x8)), AV.undef, AV.undef, AV.undef, AV.undef, (AV.tup []), (AV.tup []), (AV.tup []), (AV.tup []), (AV.tup []), (AV.tup []), (AV.tup []), (AV.tup []), (AV.tup []), (AV.tup []), (AV.tup []), (AV.tup []), (AV.tup []), AV.undef, AV.undef, AV.undef, AV.undef, AV.undef, AV.undef, AV.undef, AV.undef, AV.undef, AV.undef, AV.undef, AV.undef, AV.undef, AV.undef, AV.undef, AV.undef, AV.undef, AV.undef, AV.undef, AV.undef, AV.undef, AV.undef, AV.undef, AV.undef, AV.undef, AV.undef, AV.undef, AV.undef, AV.undef, AV.undef, AV.undef, AV.undef, AV.undef, AV.undef, AV.undef, AV.undef, AV.undef, AV.undef, AV.undef, AV.undef, AV.undef, AV.undef, AV.undef, AV.undef, AV.undef, AV.undef, AV.undef, AV.undef, AV.undef, AV.undef, AV.undef, AV.undef, AV.undef, AV.undef, AV.undef, AV.undef, AV.undef, AV.undef, AV.undef, AV.undef, AV.undef, AV.undef, AV.undef, AV.undef, AV.undef, AV.undef, AV.undef, AV.undef, AV.undef, AV.undef, AV.undef, AV.undef, AV.undef, AV.undef, AV.undef, AV.undef, AV.undef, AV.undef, (AV.tup []), (AV.tup []), (AV.tup []), (AV.tup []), (AV.tup []), (AV.tup []), (AV.tup []), (AV.tup []), (AV.tup []), (AV.tup []), (AV.tup []), (AV.tup []), (AV.tup []), (AV.tup []), (AV.tup []), (AV.tup []), (AV.tup []), (AV.tup []), (AV.tup []), (AV.tup []), (AV.tup []), (AV.tup []), (AV.tup []), (AV.tup []), (AV.tup []), (AV.tup []), (AV.tup []), (AV.tup []), (AV.tup []), (AV.tup []), (AV.tup []), (AV.tup []), (AV.tup []), (AV.tup []), (AV.tup []), (AV.tup []), (AV.tup []), (AV.tup []), (AV.tup []), (AV.tup []), (AV.tup []), (AV.tup []), (AV.tup []), (AV.tup []), (AV.tup []), (AV.tup []), (AV.tup []), (AV.tup []), (AV.tup []), (AV.tup []), (AV.tup []), (AV.tup []), (AV.tup []), (AV.tup []), (AV.tup []), (AV.tup []), (AV.tup []), (AV.tup []), (AV.tup []), (AV.tup []), (AV.tup []), (AV.tup []), (AV.tup []), (AV.tup []), (AV.tup []), (AV.tup []), (AV.tup []), (AV.tup []), (AV.tup []), (AV.tup []), (AV.tup []), (AV.tup []), (AV.tup []), (AV.tup []), (AV.tup []), (AV.tup []), (AV.tup []), (AV.tup []), (AV.tup []), (AV.tup []), (AV.tup []), (AV.tup []), (AV.tup []), (AV.tup []), (AV.tup []), (AV.tup []), (AV.tup []), (AV.tup []), (AV.tup []), (AV.tup []), (AV.tup []), (AV.tup []), (AV.tup []), (AV.tup [])] [(2, Blk.own 98 [(Seg.ints IntKind.u32 8 s)]), (4, Blk.own 98 [(Seg.ints IntKind.u32 8 (lzeros 8))]), (5, Blk.own 125 [(Seg.ints IntKind.u32 64 x9)]), (1000000, Blk.view [(Seg.ints IntKind.u32 64 Go.Hsh.rootsL)])]

def hblock.l0 (R : AV → Mem → Prop) (s : List Int) (b : List Int) (fuel : Nat) (x0 : Int) (x1 : List Int) : Prop := run Tryd.prog gamH1 [] (resh Tryd.prog [] Tryd.f82.results.toList R) fuel [.code (cAt (bodyOf Tryd.f82) [1, 1, 0, 1, 0, 0]), .inLoop (cAt (bodyOf Tryd.f82) [1, 1, 0, 1, 0, 0]), .inBlock 0, .code (cAt (bodyOf Tryd.f82) [1, 1, 1])] [AV.undef, AV.undef, (AV.one (AC.ptr 2 0 0)), (AV.one (AC.ptr 3 0 0)), (AV.one (AC.ptr 4 0 0)), (AV.one (AC.ptr 5 0 0)), AV.undef, (AV.tup []), (AV.tup []), (AV.tup []), (AV.tup []), (AV.tup []), (AV.tup []), (AV.tup []), (AV.tup []), (AV.tup []), (AV.tup []), (AV.tup []), (AV.tup []), (AV.tup []), (AV.tup []), (AV.tup []), (AV.tup []), (AV.tup []), (AV.tup []), (AV.one (AC.int IntKind.i64 x0)), AV.undef, AV.undef, AV.undef, AV.undef, AV.undef, AV.undef, AV.undef, AV.undef, AV.undef, AV.undef, AV.undef, AV.undef, AV.undef, AV.undef, AV.undef, AV.undef, AV.undef, AV.undef, AV.undef, AV.undef, AV.undef, AV.undef, AV.undef, AV.undef, AV.undef, AV.undef, AV.undef, AV.undef, AV.undef, AV.undef, AV.undef, AV.undef, AV.undef, AV.undef, (AV.tup []), (AV.tup []), (AV.tup []), (AV.tup []), (AV.tup []), (AV.tup []), (AV.tup []), (AV.tup []), (AV.tup []), (AV.tup []), (AV.tup []), (AV.tup []), (AV.tup []), (AV.tup []), (AV.tup []), (AV.tup []), (AV.tup []), (AV.tup []), (AV.tup []), (AV.tup []), (AV.tup []), (AV.tup []), (AV.tup []), (AV.tup []), (AV.tup []), (AV.tup []), (AV.tup []), (AV.tup []), (AV.tup []), (AV.tup []), (AV.tup []), (AV.tup []), (AV.tup []), (AV.tup []), (AV.tup []), (AV.tup []), (AV.tup []), (AV.tup []), (AV.tup []), (AV.tup []), (AV.tup []), (AV.tup []), (AV.tup []), (AV.tup []), (AV.tup []), (AV.tup []), (AV.tup []), (AV.tup []), (AV.tup []), (AV.tup []), (AV.tup []), (AV.tup []), (AV.tup []), (AV.tup []), (AV.tup []), (AV.tup []), (AV.tup []), (AV.tup []), (AV.tup []), (AV.tup []), (AV.tup []), (AV.tup []), (AV.tup []), (AV.tup []), (AV.tup []), (AV.tup []), (AV.tup []), (AV.tup []), (AV.tup []), (AV.tup []), (AV.tup []), (AV.tup []), (AV.tup []), (AV.tup []), (AV.tup []), (AV.tup []), (AV.tup []), (AV.tup []), (AV.tup []), (AV.tup []), (AV.tup []), (AV.tup []), (AV.tup []), (AV.tup []), (AV.tup []), (AV.tup []), (AV.tup []), (AV.tup []), (AV.tup []), (AV.tup []), (AV.tup []), (AV.tup []), (AV.tup []), (AV.tup []), (AV.tup []), (AV.tup []), (AV.tup []), (AV.tup []), (AV.tup []), (AV.tup []), (AV.tup []), (AV.tup []), (AV.tup []), (AV.tup []), (AV.tup []), (AV.tup []), (AV.tup []), (AV.tup []), (AV.tup []), (AV.tup []), (AV.tup []), (AV.tup []), (AV.tup []), (AV.tup []), (AV.tup []), (AV.tup []), (AV.tup []), (AV.tup []), (AV.tup []), (AV.tup []), (AV.tup []), (AV.tup []), (AV.tup []), (AV.tup []), (AV.tup []), (AV.tup []), (AV.tup []), (AV.tup []), (AV.tup []), (AV.tup []), (AV.tup []), (AV.tup []), (AV.tup []), (AV.tup []), (AV.tup []), (AV.tup []), (AV.tup [])] [(2, Blk.own 98 [(Seg.ints IntKind.u32 8 s)]), (3, Blk.own 99 [(Seg.ints IntKind.u8 64 b)]), (4, Blk.own 98 [(Seg.ints IntKind.u32 8 (lzeros 8))]), (5, Blk.own 125 [(Seg.ints IntKind.u32 64 x1)]), (1000000, Blk.view [(Seg.ints IntKind.u32 64 Go.Hsh.rootsL)])]

theorem hblock.l3_succ (R : AV → Mem → Prop) (x17 : List Int) (fuel : Nat) (x28 : Int) (x29 : List Int) : hblock.l3 R x17 (fuel + 1) x28 x29 = (((((ilt x28 8) = true) → ((InB x28 8) ∧ ((Low (nadd 0 (nat x28)) 8) ∧ ((InB x28 8) ∧ ((Low (nadd 0 (nat x28)) 8) ∧ ((InB x28 8) ∧ ((Low (nadd 0 (nat x28)) 8) ∧ (let y30 : List Int := (lset x29 (nadd 0 (nat x28)) (add IntKind.u32 (lget x29 (nadd 0 (nat x28))) (lget x17 (nadd 0 (nat x28))))); (hblock.l3 R x17 fuel (add IntKind.i64 x28 1) y30))))))))) ∧ (((ilt x28 8) = false) → (R (AV.agg [(Seg.ints IntKind.u32 8 x29)]) [(2, Blk.own 98 [(Seg.ints IntKind.u32 8 x29)]), (4, Blk.own 98 [(Seg.ints IntKind.u32 8 x29)]), (12, Blk.own 98 [(Seg.ints IntKind.u32 8 x17)]), (1000000, Blk.view [(Seg.ints IntKind.u32 64 Go.Hsh.rootsL)])])))) := by kernel_rfl
theorem hblock.l2_succ (R : AV → Mem → Prop) (s : List Int) (x9 : List Int) (fuel : Nat) (x16 : Int) (x17 : List Int) : hblock.l2 R s x9 (fuel + 1) x16 x17 = (((((ilt x16 64) = true) → ((InB 0 8) ∧ ((Low 0 8) ∧ ((InB 1 8) ∧ ((Low 1 8) ∧ ((InB 2 8) ∧ ((Low 2 8) ∧ ((InB 4 8) ∧ ((Low 4 8) ∧ ((InB 5 8) ∧ ((Low 5 8) ∧ ((InB 6 8) ∧ ((Low 6 8) ∧ (((Int.NonNeg 25) ∧ (Int.NonNeg 5)) ∧ (((Int.NonNeg 20) ∧ (Int.NonNeg 10)) ∧ (((Int.NonNeg 6) ∧ (Int.NonNeg 24)) ∧ (let y18 : Int := (bxor IntKind.u32 (bxor IntKind.u32 (Go.Hsh.rot (lget x17 4) 6) (Go.Hsh.rot (lget x17 4) 11)) (Go.Hsh.rot (lget x17 4) 25)); (((Int.NonNeg 29) ∧ (Int.NonNeg 1)) ∧ (((Int.NonNeg 18) ∧ (Int.NonNeg 12)) ∧ (((Int.NonNeg 9) ∧ (Int.NonNeg 21)) ∧ (let y19 : Int := (bxor IntKind.u32 (bxor IntKind.u32 (Go.Hsh.rot (lget x17 0) 2) (Go.Hsh.rot (lget x17 0) 13)) (Go.Hsh.rot (lget x17 0) 22)); ((InB 7 8) ∧ ((Low 7 8) ∧ ((InB x16 64) ∧ ((Low (nadd 0 (nat x16)) 64) ∧ ((InB x16 64) ∧ ((Low (nadd 0 (nat x16)) 64) ∧ (let y20 : Int := (add IntKind.u32 (add IntKind.u32 (add IntKind.u32 (add IntKind.u32 (lget x17 7) y18) (bxor IntKind.u32 (band IntKind.u32 (lget x17 4) (lget x17 5)) (band IntKind.u32 (bxor IntKind.u32 4294967295 (lget x17 4)) (lget x17 6)))) (lget Go.Hsh.rootsL (nadd 0 (nat x16)))) (lget x9 (nadd 0 (nat x16)))); (let y21 : Int := (bxor IntKind.u32 (band IntKind.u32 (lget x17 4) (lget x17 5)) (band IntKind.u32 (bxor IntKind.u32 4294967295 (lget x17 4)) (lget x17 6))); (let y22 : Int := (add IntKind.u32 (add IntKind.u32 (lget x17 7) y18) (bxor IntKind.u32 (band IntKind.u32 (lget x17 4) (lget x17 5)) (band IntKind.u32 (bxor IntKind.u32 4294967295 (lget x17 4)) (lget x17 6)))); (let y23 : Int := (add IntKind.u32 (add IntKind.u32 (add IntKind.u32 (lget x17 7) y18) (bxor IntKind.u32 (band IntKind.u32 (lget x17 4) (lget x17 5)) (band IntKind.u32 (bxor IntKind.u32 4294967295 (lget x17 4)) (lget x17 6)))) (lget Go.Hsh.rootsL (nadd 0 (nat x16)))); (let y24 : Int := (add IntKind.u32 y19 (bxor IntKind.u32 (bxor IntKind.u32 (band IntKind.u32 (lget x17 0) (lget x17 1)) (band IntKind.u32 (lget x17 0) (lget x17 2))) (band IntKind.u32 (lget x17 1) (lget x17 2)))); (let y25 : Int := (bxor IntKind.u32 (band IntKind.u32 (lget x17 0) (lget x17 1)) (band IntKind.u32 (lget x17 0) (lget x17 2))); (let y26 : Int := (bxor IntKind.u32 (bxor IntKind.u32 (band IntKind.u32 (lget x17 0) (lget x17 1)) (band IntKind.u32 (lget x17 0) (lget x17 2))) (band IntKind.u32 (lget x17 1) (lget x17 2))); ((InB 3 8) ∧ ((Low 3 8) ∧ ((Low 0 8) ∧ ((Low 1 8) ∧ ((Low 2 8) ∧ ((Low 3 8) ∧ ((Low 4 8) ∧ ((Low 5 8) ∧ ((Low 6 8) ∧ ((Low 7 8) ∧ (let y27 : List Int := (lset (lset (lset (lset (lset (lset (lset (lset (lzeros 8) 0 (add IntKind.u32 y20 y24)) 1 (lget x17 0)) 2 (lget x17 1)) 3 (lget x17 2)) 4 (add IntKind.u32 (lget x17 3) y20)) 5 (lget x17 4)) 6 (lget x17 5)) 7 (lget x17 6)); (hblock.l2 R s x9 fuel (add IntKind.i64 x16 1) y27)))))))))))))))))))))))))))))))))))))))))))))) ∧ (((ilt x16 64) = false) → (hblock.l3 R x17 fuel 0 s)))) := by kernel_rfl
theorem hblock.l1_succ (R : AV → Mem → Prop) (s : List Int) (fuel : Nat) (x8 : Int) (x9 : List Int) : hblock.l1 R s (fuel + 1) x8 x9 = (((((ilt x8 64) = true) → ((InB (sub IntKind.i64 x8 15) 64) ∧ ((Low (nadd 0 (nat (sub IntKind.i64 x8 15))) 64) ∧ ((InB (sub IntKind.i64 x8 2) 64) ∧ ((Low (nadd 0 (nat (sub IntKind.i64 x8 2))) 64) ∧ (((Int.NonNeg 24) ∧ (Int.NonNeg 6)) ∧ (((Int.NonNeg 13) ∧ (Int.NonNeg 17)) ∧ ((NonNeg 3) ∧ (let y10 : Int := (bxor IntKind.u32 (bxor IntKind.u32 (Go.Hsh.rot (lget x9 (nadd 0 (nat (sub IntKind.i64 x8 15)))) 7) (Go.Hsh.rot (lget x9 (nadd 0 (nat (sub IntKind.i64 x8 15)))) 18)) (shr IntKind.u32 (lget x9 (nadd 0 (nat (sub IntKind.i64 x8 15)))) 3)); (let y11 : Int := (bxor IntKind.u32 (Go.Hsh.rot (lget x9 (nadd 0 (nat (sub IntKind.i64 x8 15)))) 7) (Go.Hsh.rot (lget x9 (nadd 0 (nat (sub IntKind.i64 x8 15)))) 18)); (((Int.NonNeg 14) ∧ (Int.NonNeg 16)) ∧ (((Int.NonNeg 12) ∧ (Int.NonNeg 18)) ∧ ((NonNeg 10) ∧ (let y12 : Int := (bxor IntKind.u32 (bxor IntKind.u32 (Go.Hsh.rot (lget x9 (nadd 0 (nat (sub IntKind.i64 x8 2)))) 17) (Go.Hsh.rot (lget x9 (nadd 0 (nat (sub IntKind.i64 x8 2)))) 19)) (shr IntKind.u32 (lget x9 (nadd 0 (nat (sub IntKind.i64 x8 2)))) 10)); (let y13 : Int := (bxor IntKind.u32 (Go.Hsh.rot (lget x9 (nadd 0 (nat (sub IntKind.i64 x8 2)))) 17) (Go.Hsh.rot (lget x9 (nadd 0 (nat (sub IntKind.i64 x8 2)))) 19)); ((InB (sub IntKind.i64 x8 7) 64) ∧ ((Low (nadd 0 (nat (sub IntKind.i64 x8 7))) 64) ∧ ((InB (sub IntKind.i64 x8 16) 64) ∧ ((Low (nadd 0 (nat (sub IntKind.i64 x8 16))) 64) ∧ ((InB x8 64) ∧ ((Low (nadd 0 (nat x8)) 64) ∧ (let y14 : Int := (add IntKind.u32 (add IntKind.u32 (add IntKind.u32 y12 (lget x9 (nadd 0 (nat (sub IntKind.i64 x8 7))))) y10) (lget x9 (nadd 0 (nat (sub IntKind.i64 x8 16))))); (let y15 : List Int := (lset x9 (nadd 0 (nat x8)) (add IntKind.u32 (add IntKind.u32 (add IntKind.u32 y12 (lget x9 (nadd 0 (nat (sub IntKind.i64 x8 7))))) y10) (lget x9 (nadd 0 (nat (sub IntKind.i64 x8 16)))))); (hblock.l1 R s fuel (add IntKind.i64 x8 1) y15)))))))))))))))))))))))) ∧ (((ilt x8 64) = false) → (hblock.l2 R s x9 fuel 0 s)))) := by kernel_rfl
theorem hblock.l0_succ (R : AV → Mem → Prop) (s : List Int) (b : List Int) (fuel : Nat) (x0 : Int) (x1 : List Int) : hblock.l0 R s b (fuel + 1) x0 x1 = (((((ilt x0 16) = true) → ((InB (mul IntKind.i64 4 x0) 64) ∧ ((Low (nadd 0 (nat (mul IntKind.i64 4 x0))) 64) ∧ ((NonNeg 24) ∧ ((InB (add IntKind.i64 (mul IntKind.i64 4 x0) 1) 64) ∧ ((Low (nadd 0 (nat (add IntKind.i64 (mul IntKind.i64 4 x0) 1))) 64) ∧ ((NonNeg 16) ∧ ((InB (add IntKind.i64 (mul IntKind.i64 4 x0) 2) 64) ∧ ((Low (nadd 0 (nat (add IntKind.i64 (mul IntKind.i64 4 x0) 2))) 64) ∧ ((NonNeg 8) ∧ ((InB (add IntKind.i64 (mul IntKind.i64 4 x0) 3) 64) ∧ ((Low (nadd 0 (nat (add IntKind.i64 (mul IntKind.i64 4 x0) 3))) 64) ∧ ((InB x0 64) ∧ ((Low (nadd 0 (nat x0)) 64) ∧ (let y2 : Int := (shl IntKind.u32 (conv IntKind.u32 (lget b (nadd 0 (nat (add IntKind.i64 (mul IntKind.i64 4 x0) 1))))) 16); (let y3 : Int := (bor IntKind.u32 (shl IntKind.u32 (conv IntKind.u32 (lget b (nadd 0 (nat (mul IntKind.i64 4 x0))))) 24) (shl IntKind.u32 (conv IntKind.u32 (lget b (nadd 0 (nat (add IntKind.i64 (mul IntKind.i64 4 x0) 1))))) 16)); (let y4 : Int := (shl IntKind.u32 (conv IntKind.u32 (lget b (nadd 0 (nat (add IntKind.i64 (mul IntKind.i64 4 x0) 2))))) 8); (let y5 : Int := (bor IntKind.u32 (bor IntKind.u32 (shl IntKind.u32 (conv IntKind.u32 (lget b (nadd 0 (nat (mul IntKind.i64 4 x0))))) 24) (shl IntKind.u32 (conv IntKind.u32 (lget b (nadd 0 (nat (add IntKind.i64 (mul IntKind.i64 4 x0) 1))))) 16)) (shl IntKind.u32 (conv IntKind.u32 (lget b (nadd 0 (nat (add IntKind.i64 (mul IntKind.i64 4 x0) 2))))) 8)); (let y6 : Int := (bor IntKind.u32 (bor IntKind.u32 (bor IntKind.u32 (shl IntKind.u32 (conv IntKind.u32 (lget b (nadd 0 (nat (mul IntKind.i64 4 x0))))) 24) (shl IntKind.u32 (conv IntKind.u32 (lget b (nadd 0 (nat (add IntKind.i64 (mul IntKind.i64 4 x0) 1))))) 16)) (shl IntKind.u32 (conv IntKind.u32 (lget b (nadd 0 (nat (add IntKind.i64 (mul IntKind.i64 4 x0) 2))))) 8)) (conv IntKind.u32 (lget b (nadd 0 (nat (add IntKind.i64 (mul IntKind.i64 4 x0) 3)))))); (let y7 : List Int := (lset x1 (nadd 0 (nat x0)) (bor IntKind.u32 (bor IntKind.u32 (bor IntKind.u32 (shl IntKind.u32 (conv IntKind.u32 (lget b (nadd 0 (nat (mul IntKind.i64 4 x0))))) 24) (shl IntKind.u32 (conv IntKind.u32 (lget b (nadd 0 (nat (add IntKind.i64 (mul IntKind.i64 4 x0) 1))))) 16)) (shl IntKind.u32 (conv IntKind.u32 (lget b (nadd 0 (nat (add IntKind.i64 (mul IntKind.i64 4 x0) 2))))) 8)) (conv IntKind.u32 (lget b (nadd 0 (nat (add IntKind.i64 (mul IntKind.i64 4 x0) 3))))))); (hblock.l0 R s b fuel (add IntKind.i64 x0 1) y7))))))))))))))))))))) ∧ (((ilt x0 16) = false) → (hblock.l1 R s fuel 16 x1)))) := by kernel_rfl
theorem hblock_vc (R : AV → Mem → Prop) (fuel : Nat) (s : List Int) (b : List Int) : callsx Tryd.prog gamH1 [] Tryd.f82 (fuel + 1) [.agg [.ints .u32 8 s], .agg [.ints .u8 64 b]] [(1000000 + 0, .view [.ints .u32 64 Go.Hsh.rootsL])] R = ((hblock.l0 R s b fuel 0 (lzeros 64))) := by kernel_rfl

def hworked.l1 (R : AV → Mem → Prop) (at_ : Int) (x0 : Int) (s : List Int) (k : List Int) (m : List Int) (fuel : Nat) (x2 : Int) (x3 : List Int) : Prop := run Tryd.prog gamH1 [] (resh Tryd.prog [] Tryd.f92.results.toList R) fuel [.code (cAt (bodyOf Tryd.f92) [1, 1, 0, 1, 0, 0, 1, 0, 0, 0, 1, 0, 0, 1, 0, 0]), .inLoop (cAt (bodyOf Tryd.f92) [1, 1, 0, 1, 0, 0, 1, 0, 0, 0, 1, 0, 0, 1, 0, 0]), .inBlock 2, .code (cAt (bodyOf Tryd.f92) [1, 1, 0, 1, 0, 0, 1, 0, 0, 0, 1, 0, 1]), .code (cAt (bodyOf Tryd.f92) [1, 1, 0, 1, 0, 0, 1, 0, 0, 1]), .inBlock 1, .code (cAt (bodyOf Tryd.f92) [1, 1, 0, 1, 0, 0, 1, 1]), .inLoop (cAt (bodyOf Tryd.f92) [1, 1, 0, 1, 0, 0]), .inBlock 0, .code (cAt (bodyOf Tryd.f92) [1, 1, 1])] [AV.undef, AV.undef, (AV.one (AC.vec 200002)), (AV.one (AC.int IntKind.i64 at_)), (AV.one (AC.ptr 4 0 0)), (AV.one (AC.ptr 5 0 0)), AV.undef, AV.undef, (AV.one (AC.ptr 8 0 0)), (AV.one (AC.ptr 9 0 0)), (AV.one (AC.int IntKind.i64 x0)), (AV.one (AC.int IntKind.i64 x2)), AV.undef, AV.undef, AV.undef, AV.undef, (AV.tup []), (AV.tup []), (AV.tup []), (AV.tup []), (AV.tup []), (AV.tup []), (AV.tup []), (AV.one (AC.int IntKind.i64 x0)), (AV.one (AC.lit true)), AV.undef, AV.undef, (AV.one (AC.int IntKind.i64 x0)), (AV.one (AC.lit true)), AV.undef, AV.undef, AV.undef, AV.undef, AV.undef, AV.undef, AV.undef, AV.undef, AV.undef, AV.undef, AV.undef, AV.undef, AV.undef, AV.undef, AV.undef, AV.undef, AV.undef, AV.undef, AV.undef, AV.undef, AV.undef, AV.undef, AV.undef, AV.undef, AV.undef, AV.undef, AV.undef, AV.undef, AV.undef, AV.undef, AV.undef, AV.undef, AV.undef, AV.undef, AV.undef, AV.undef, AV.undef, AV.undef, AV.undef, AV.undef, AV.undef, AV.undef, AV.undef, AV.undef, AV.undef, AV.undef, AV.undef, AV.undef, AV.undef, AV.undef, AV.undef, AV.undef, AV.undef, AV.undef, AV.undef, AV.undef, AV.undef, AV.undef, AV.undef, AV.undef, (AV.tup []), (AV.tup []), (AV.tup []), (AV.tup []), (AV.tup []), (AV.tup []), (AV.tup []), (AV.tup []), (AV.tup []), (AV.tup []), (AV.tup []), (AV.tup []), (AV.tup []), (AV.tup []), (AV.tup []), (AV.tup []), (AV.tup []), (AV.tup []), (AV.tup []), (AV.tup []), (AV.tup []), (AV.tup []), (AV.tup []), (AV.tup []), (AV.tup []), (AV.tup []), (AV.tup []), (AV.tup []), (AV.tup []), (AV.tup []), (AV.tup []), (AV.tup []), (AV.tup []), (AV.tup []), (AV.tup []), (AV.tup []), (AV.tup []), (AV.tup []), (AV.tup []), (AV.tup []), (AV.tup []), (AV.tup []), (AV.tup []), (AV.tup []), (AV.tup []), (AV.tup []), (AV.tup []), (AV.tup []), (AV.tup []), (AV.tup []), (AV.tup []), (AV.tup []), (AV.tup []), (AV.tup []), (AV.tup []), (AV.tup []), (AV.tup []), (AV.tup []), (AV.tup []), (AV.tup []), (AV.tup []), (AV.tup []), (AV.tup []), (AV.tup []), (AV.tup []), (AV.tup []), (AV.tup []), (AV.tup []), (AV.tup []), (AV.tup []), (AV.tup []), (AV.tup []), (AV.tup []), (AV.tup []), (AV.tup []), (AV.tup []), (AV.tup []), (AV.tup []), (AV.tup []), (AV.tup []), (AV.tup []), (AV.tup []), (AV.tup []), (AV.tup []), (AV.tup []), (AV.tup []), (AV.tup []), (AV.tup []), (AV.tup []), (AV.tup []), (AV.tup []), (AV.tup []), (AV.tup []), (AV.tup []), (AV.tup [])] [(4, Blk.own 97 [(Seg.ints IntKind.u32 8 s)]), (5, Blk.own 125 [(Seg.ints IntKind.u32 64 k)]), (8, Blk.own 97 [(Seg.ints IntKind.u32 8 (lzeros 8))]), (9, Blk.own 125 [(Seg.ints IntKind.u32 64 x3)]), (200002, Blk.rview [(Col.ints IntKind.u8 m)])]

def hworked.l3 (R : AV → Mem → Prop) (x13 : List Int) (m : List Int) (fuel : Nat) (x25 : Int) (x26 : List Int) : Prop := run Tryd.prog gamH1 [] (resh Tryd.prog [] Tryd.f92.results.toList R) fuel [.code (cAt (bodyOf Tryd.f92) [1, 1, 1, 1, 1, 0, 1, 0, 0]), .inLoop (cAt (bodyOf Tryd.f92) [1, 1, 1, 1, 1, 0, 1, 0, 0]), .inBlock 6, .code (cAt (bodyOf Tryd.f92) [1, 1, 1, 1, 1, 1])] [AV.undef, AV.undef, AV.undef, AV.undef, (AV.one (AC.ptr 4 0 0)), AV.undef, AV.undef, AV.undef, (AV.one (AC.ptr 8 0 0)), AV.undef, AV.undef, AV.undef, AV.undef, AV.undef, AV.undef, AV.undef, (AV.one (AC.ptr 16 0 0)), AV.undef, AV.undef, AV.undef, AV.undef, AV.undef, (AV.one (AC.int IntKind.i64 x25)), AV.undef, AV.undef, AV.undef, AV.undef, AV.undef, AV.undef, AV.undef, AV.undef, AV.undef, AV.undef, AV.undef, AV.undef, AV.undef, AV.undef, AV.undef, AV.undef, AV.undef, AV.undef, AV.undef, AV.undef, AV.undef, AV.undef, AV.undef, AV.undef, AV.undef, AV.undef, AV.undef, AV.undef, AV.undef, AV.undef, AV.undef, AV.undef, AV.undef, AV.undef, AV.undef, AV.undef, AV.undef, AV.undef, AV.undef, AV.undef, AV.undef, AV.undef, AV.undef, AV.undef, AV.undef, AV.undef, AV.undef, AV.undef, AV.undef, AV.undef, AV.undef, AV.undef, AV.undef, AV.undef, AV.undef, AV.undef, AV.undef, AV.undef, AV.undef, AV.undef, AV.undef, AV.undef, AV.undef, AV.undef, AV.undef, AV.undef, AV.undef, AV.undef, AV.undef, AV.undef, AV.undef, AV.undef, AV.undef, AV.undef, AV.undef, AV.undef, AV.undef, AV.undef, AV.undef, AV.undef, AV.undef, AV.undef, AV.undef, AV.undef, AV.undef, AV.undef, AV.undef, AV.undef, AV.undef, AV.undef, AV.undef, AV.undef, AV.undef, AV.undef, AV.undef, AV.undef, AV.undef, AV.undef, AV.undef, AV.undef, AV.undef, AV.undef, AV.undef, AV.undef, AV.undef, AV.undef, AV.undef, AV.undef, AV.undef, AV.undef, AV.undef, AV.undef, AV.undef, AV.undef, AV.undef, AV.undef, AV.undef, AV.undef, AV.undef, AV.undef, AV.undef, AV.undef, AV.undef, AV.undef, AV.undef, AV.undef, AV.undef, AV.undef, AV.undef, AV.undef, AV.undef, AV.undef, AV.undef, AV.undef, AV.undef, AV.undef, AV.undef, AV.undef, AV.undef, AV.undef, AV.undef, AV.undef, AV.undef, AV.undef, AV.undef, AV.undef, AV.undef, AV.undef, AV.undef, AV.undef, AV.undef, AV.undef, AV.undef, AV.undef, AV.undef, AV.undef, AV.undef, AV.undef, AV.undef, AV.undef, (AV.tup [])] [(4, Blk.own 97 [(Seg.ints IntKind.u32 8 x26)]), (8, Blk.own 97 [(Seg.ints IntKind.u32 8 (lzeros 8))]), (16, Blk.own 97 [(Seg.ints IntKind.u32 8 x13)]), (200002, Blk.rview [(Col.ints IntKind.u8 m)])]

def hworked.l2 (R : AV → Mem → Prop) (s : List Int) (k : List Int) (x1 : List Int) (m : List Int) (fuel : Nat) (x12 : Int) (x13 : List Int) : Prop := run Tryd.prog gamH1 [] (resh Tryd.prog [] Tryd.f92.results.toList R) fuel [.code (cAt (bodyOf Tryd.f92) [1, 1, 1, 1, 0, 1, 0, 0]), .inLoop (cAt (bodyOf Tryd.f92) [1, 1, 1, 1, 0, 1, 0, 0]), .inBlock 4, .code (cAt (bodyOf Tryd.f92) [1, 1, 1, 1, 1])] [AV.undef, AV.undef, AV.undef, AV.undef, (AV.one (AC.ptr 4 0 0)), (AV.one (AC.ptr 5 0 0)), AV.undef, AV.undef, (AV.one (AC.ptr 8 0 0)), (AV.one (AC.ptr 9 0 0)), AV.undef, AV.undef, AV.undef, AV.undef, AV.undef, AV.undef, (AV.one (AC.ptr 16 0 0)), (AV.one (AC.int IntKind.i64 x12)), AV.undef, AV.undef, AV.undef, AV.undef, (AV.tup []), AV.undef, AV.undef, AV.undef, AV.undef, AV.undef, AV.undef, AV.undef, AV.undef, AV.undef, AV.undef, AV.undef, AV.undef, AV.undef, AV.undef, AV.undef, AV.undef, AV.undef, AV.undef, AV.undef, AV.undef, AV.undef, AV.undef, AV.undef, AV.undef, AV.undef, AV.undef, AV.undef, AV.undef, AV.undef, AV.undef, AV.undef, AV.undef, AV.undef, AV.undef, AV.undef, AV.undef, AV.undef, AV.undef, AV.undef, AV.undef, AV.undef, AV.undef, AV.undef, AV.undef, AV.undef, AV.undef, AV.undef, AV.undef, AV.undef, AV.undef, AV.undef, AV.undef, AV.undef, AV.undef, AV.undef, AV.undef, AV.undef, AV.undef, AV.undef, AV.undef, AV.undef, AV.undef, AV.undef, AV.undef, AV.undef, AV.undef, AV.undef, AV.undef, AV.undef, AV.undef, AV.undef, AV.undef, AV.undef, AV.undef, AV.undef, AV.undef, AV.undef, AV.undef, AV.undef, AV.undef, AV.undef, AV.undef, AV.undef, AV.undef, AV.undef, AV.undef, AV.undef, AV.undef, AV.undef, AV.undef, AV.undef, AV.undef, AV.undef, AV.undef, AV.undef, AV.undef, AV.undef, AV.undef, AV.undef, AV.undef, AV.undef, AV.undef, AV.undef, AV.undef, AV.undef, AV.undef, AV.undef, AV.undef, AV.undef, AV.undef, AV.undef, AV.undef, AV.undef, AV.undef, AV.undef, AV.undef, AV.undef, AV.undef, AV.undef, AV.undef, AV.undef, AV.undef, AV.undef, AV.undef, AV.undef, AV.undef, AV.undef, AV.undef, AV.undef, AV.undef, AV.undef, AV.undef, AV.undef, AV.undef, AV.undef, AV.undef, AV.undef, AV.undef, AV.undef, AV.undef, AV.undef, AV.undef, AV.undef, AV.undef, AV.undef, AV.undef, AV.undef, (AV.tup []), (AV.tup []), (AV.tup []), (AV.tup []), (AV.tup []), (AV.tup []), (AV.tup []), (AV.tup []), (AV.tup []), (AV.tup []), (AV.tup []), (AV.tup []), (AV.tup []), (AV.tup [])] [(4, Blk.own 97 [(Seg.ints IntKind.u32 8 s)]), (5, Blk.own 125 [(Seg.ints IntKind.u32 64 k)]), (8, Blk.own 97 [(Seg.ints IntKind.u32 8 (lzeros 8))]), (9, Blk.own 125 [(Seg.ints IntKind.u32 64 x1)]), (16, Blk.own 97 [(Seg.ints IntKind.u32 8 x13)]), (200002, Blk.rview [(Col.ints IntKind.u8 m)])]

def hworked.l0 (R : AV → Mem → Prop) (at_ : Int) (s : List Int) (k : List Int) (m : List Int) (fuel : Nat) (x0 : Int) (x1 : List Int) : Prop := run Tryd.prog gamH1 [] (resh Tryd.prog [] Tryd.f92.results.toList R) fuel [.code (cAt (bodyOf Tryd.f92) [1, 1, 0, 1, 0, 0]), .inLoop (cAt (bodyOf Tryd.f92) [1, 1, 0, 1, 0, 0]), .inBlock 0, .code (cAt (bodyOf Tryd.f92) [1, 1, 1])] [AV.undef, AV.undef, (AV.one (AC.vec 200002)), (AV.one (AC.int IntKind.i64 at_)), (AV.one (AC.ptr 4 0 0)), (AV.one (AC.ptr 5 0 0)), AV.undef, AV.undef, (AV.one (AC.ptr 8 0 0)), (AV.one (AC.ptr 9 0 0)), (AV.one (AC.int IntKind.i64 x0)), AV.undef, AV.undef, AV.undef, AV.undef, AV.undef, (AV.tup []), (AV.tup []), (AV.tup []), (AV.tup []), (AV.tup []), (AV.tup []), (AV.tup []), AV.undef, AV.undef, AV.undef, AV.undef, AV.undef, AV.undef, AV.undef, AV.undef, AV.undef, AV.undef, AV.undef, AV.undef, AV.undef, AV.undef, AV.undef, AV.undef, AV.undef, AV.undef, AV.undef, AV.undef, AV.undef, AV.undef, AV.undef, AV.undef, AV.undef, AV.undef, AV.undef, AV.undef, AV.undef, AV.undef, AV.undef, AV.undef, AV.undef, AV.undef, AV.undef, AV.undef, AV.undef, AV.undef, AV.undef, AV.undef, AV.undef, AV.undef, AV.undef, AV.undef, AV.undef, AV.undef, AV.undef, AV.undef, AV.undef, AV.undef, AV.undef, AV.undef, AV.undef, AV.undef, AV.undef, AV.undef, AV.undef, AV.undef, AV.undef, AV.undef, AV.undef, AV.undef, AV.undef, AV.undef, AV.undef, AV.undef, (AV.tup []), (AV.tup []), (AV.tup []), (AV.tup []), (AV.tup []), (AV.tup []), (AV.tup []), (AV.tup []), (AV.tup []), (AV.tup []), (AV.tup []), (AV.tup []), (AV.tup []), (AV.tup []), (AV.tup []), (AV.tup []), (AV.tup []), (AV.tup []), (AV.tup []), (AV.tup []), (AV.tup []), (AV.tup []), (AV.tup []), (AV.tup []), (AV.tup []), (AV.tup []), (AV.tup []), (AV.tup []), (AV.tup []), (AV.tup []), (AV.tup []), (AV.tup []), (AV.tup []), (AV.tup []), (AV.tup []), (AV.tup []), (AV.tup []), (AV.tup []), (AV.tup []), (AV.tup []), (AV.tup []), (AV.tup []), (AV.tup []), (AV.tup []), (AV.tup []), (AV.tup []), (AV.tup []), (AV.tup []), (AV.tup []), (AV.tup []), (AV.tup []), (AV.tup []), (AV.tup []), (AV.tup []), (AV.tup []), (AV.tup []), (AV.tup []), (AV.tup []), (AV.tup []), (AV.tup []), (AV.tup []), (AV.tup []), (AV.tup []), (AV.tup []), (AV.tup []), (AV.tup []), (AV.tup []), (AV.tup []), (AV.tup []), (AV.tup []), (AV.tup []), (AV.tup []), (AV.tup []), (AV.tup []), (AV.tup []), (AV.tup []), (AV.tup []), (AV.tup []), (AV.tup []), (AV.tup []), (AV.tup []), (AV.tup []), (AV.tup []), (AV.tup []), (AV.tup []), (AV.tup []), (AV.tup []), (AV.tup []), (AV.tup []), (AV.tup []), (AV.tup []), (AV.tup []), (AV.tup []), (AV.tup []), (AV.tup [])] [(4, Blk.own 97 [(Seg.ints IntKind.u32 8 s)]), (5, Blk.own 125 [(Seg.ints IntKind.u32 64 k)]), (8, Blk.own 97 [(Seg.ints IntKind.u32 8 (lzeros 8))]), (9, Blk.own 125 [(Seg.ints IntKind.u32 64 x1)]), (200002, Blk.rview [(Col.ints IntKind.u8 m)])]

theorem hworked.l1_succ (R : AV → Mem → Prop) (at_ : Int) (x0 : Int) (s : List Int) (k : List Int) (m : List Int) (fuel : Nat) (x2 : Int) (x3 : List Int) : hworked.l1 R at_ x0 s k m (fuel + 1) x2 x3 = (((((ilt x2 4) = true) → ((InB x0 64) ∧ ((Low (nadd 0 (nat x0)) 64) ∧ ((NonNeg 8) ∧ ((InB (add IntKind.i64 (add IntKind.i64 at_ (mul IntKind.i64 4 x0)) x2) (llen m)) ∧ ((InB x0 64) ∧ ((Low (nadd 0 (nat x0)) 64) ∧ (let y4 : Int := (bor IntKind.u32 (shl IntKind.u32 (lget x3 (nadd 0 (nat x0))) 8) (conv IntKind.u32 (lget m (nat (add IntKind.i64 (add IntKind.i64 at_ (mul IntKind.i64 4 x0)) x2))))); (let y5 : List Int := (lset x3 (nadd 0 (nat x0)) (bor IntKind.u32 (shl IntKind.u32 (lget x3 (nadd 0 (nat x0))) 8) (conv IntKind.u32 (lget m (nat (add IntKind.i64 (add IntKind.i64 at_ (mul IntKind.i64 4 x0)) x2)))))); (hworked.l1 R at_ x0 s k m fuel (add IntKind.i64 x2 1) y5)))))))))) ∧ (((ilt x2 4) = false) → (hworked.l0 R at_ s k m fuel (add IntKind.i64 x0 1) x3)))) := by kernel_rfl
theorem hworked.l3_succ (R : AV → Mem → Prop) (x13 : List Int) (m : List Int) (fuel : Nat) (x25 : Int) (x26 : List Int) : hworked.l3 R x13 m (fuel + 1) x25 x26 = (((((ilt x25 8) = true) → ((InB x25 8) ∧ ((Low (nadd 0 (nat x25)) 8) ∧ ((InB x25 8) ∧ ((Low (nadd 0 (nat x25)) 8) ∧ ((InB x25 8) ∧ ((Low (nadd 0 (nat x25)) 8) ∧ (let y27 : List Int := (lset x26 (nadd 0 (nat x25)) (add IntKind.u32 (lget x26 (nadd 0 (nat x25))) (lget x13 (nadd 0 (nat x25))))); (hworked.l3 R x13 m fuel (add IntKind.i64 x25 1) y27))))))))) ∧ (((ilt x25 8) = false) → (R (AV.agg [(Seg.ints IntKind.u32 8 x26)]) [(4, Blk.own 97 [(Seg.ints IntKind.u32 8 x26)]), (8, Blk.own 97 [(Seg.ints IntKind.u32 8 x26)]), (16, Blk.own 97 [(Seg.ints IntKind.u32 8 x13)]), (200002, Blk.rview [(Col.ints IntKind.u8 m)])])))) := by kernel_rfl
theorem hworked.l2_succ (R : AV → Mem → Prop) (s : List Int) (k : List Int) (x1 : List Int) (m : List Int) (fuel : Nat) (x12 : Int) (x13 : List Int) : hworked.l2 R s k x1 m (fuel + 1) x12 x13 = (((((ilt x12 64) = true) → ((InB 0 8) ∧ ((Low 0 8) ∧ ((InB 4 8) ∧ ((Low 4 8) ∧ ((InB 7 8) ∧ ((Low 7 8) ∧ ((InB 5 8) ∧ ((Low 5 8) ∧ ((InB 6 8) ∧ ((Low 6 8) ∧ ((InB x12 64) ∧ ((Low (nadd 0 (nat x12)) 64) ∧ ((InB x12 64) ∧ ((Low (nadd 0 (nat x12)) 64) ∧ (((Int.NonNeg 5) ∧ (Int.NonNeg 25)) ∧ (((Int.NonNeg 10) ∧ (Int.NonNeg 20)) ∧ (((Int.NonNeg 24) ∧ (Int.NonNeg 6)) ∧ (let y14 : Int := (add IntKind.u32 (add IntKind.u32 (add IntKind.u32 (add IntKind.u32 (lget x13 7) (bxor IntKind.u32 (bxor IntKind.u32 (Go.Hsh.rot (lget x13 4) 6) (Go.Hsh.rot (lget x13 4) 11)) (Go.Hsh.rot (lget x13 4) 25))) (bxor IntKind.u32 (band IntKind.u32 (lget x13 4) (lget x13 5)) (band IntKind.u32 (bxor IntKind.u32 4294967295 (lget x13 4)) (lget x13 6)))) (lget k (nadd 0 (nat x12)))) (lget x1 (nadd 0 (nat x12)))); (let y15 : Int := (bxor IntKind.u32 (bxor IntKind.u32 (Go.Hsh.rot (lget x13 4) 6) (Go.Hsh.rot (lget x13 4) 11)) (Go.Hsh.rot (lget x13 4) 25)); (let y16 : Int := (add IntKind.u32 (lget x13 7) (bxor IntKind.u32 (bxor IntKind.u32 (Go.Hsh.rot (lget x13 4) 6) (Go.Hsh.rot (lget x13 4) 11)) (Go.Hsh.rot (lget x13 4) 25))); (let y17 : Int := (bxor IntKind.u32 (band IntKind.u32 (lget x13 4) (lget x13 5)) (band IntKind.u32 (bxor IntKind.u32 4294967295 (lget x13 4)) (lget x13 6))); (let y18 : Int := (add IntKind.u32 (add IntKind.u32 (lget x13 7) (bxor IntKind.u32 (bxor IntKind.u32 (Go.Hsh.rot (lget x13 4) 6) (Go.Hsh.rot (lget x13 4) 11)) (Go.Hsh.rot (lget x13 4) 25))) (bxor IntKind.u32 (band IntKind.u32 (lget x13 4) (lget x13 5)) (band IntKind.u32 (bxor IntKind.u32 4294967295 (lget x13 4)) (lget x13 6)))); (let y19 : Int := (add IntKind.u32 (add IntKind.u32 (add IntKind.u32 (lget x13 7) (bxor IntKind.u32 (bxor IntKind.u32 (Go.Hsh.rot (lget x13 4) 6) (Go.Hsh.rot (lget x13 4) 11)) (Go.Hsh.rot (lget x13 4) 25))) (bxor IntKind.u32 (band IntKind.u32 (lget x13 4) (lget x13 5)) (band IntKind.u32 (bxor IntKind.u32 4294967295 (lget x13 4)) (lget x13 6)))) (lget k (nadd 0 (nat x12)))); ((InB 1 8) ∧ ((Low 1 8) ∧ ((InB 2 8) ∧ ((Low 2 8) ∧ ((InB 1 8) ∧ ((Low 1 8) ∧ ((InB 2 8) ∧ ((Low 2 8) ∧ (((Int.NonNeg 1) ∧ (Int.NonNeg 29)) ∧ (((Int.NonNeg 12) ∧ (Int.NonNeg 18)) ∧ (((Int.NonNeg 21) ∧ (Int.NonNeg 9)) ∧ (let y20 : Int := (add IntKind.u32 (bxor IntKind.u32 (bxor IntKind.u32 (Go.Hsh.rot (lget x13 0) 2) (Go.Hsh.rot (lget x13 0) 13)) (Go.Hsh.rot (lget x13 0) 22)) (bxor IntKind.u32 (bxor IntKind.u32 (band IntKind.u32 (lget x13 0) (lget x13 1)) (band IntKind.u32 (lget x13 0) (lget x13 2))) (band IntKind.u32 (lget x13 1) (lget x13 2)))); (let y21 : Int := (bxor IntKind.u32 (bxor IntKind.u32 (Go.Hsh.rot (lget x13 0) 2) (Go.Hsh.rot (lget x13 0) 13)) (Go.Hsh.rot (lget x13 0) 22)); (let y22 : Int := (bxor IntKind.u32 (band IntKind.u32 (lget x13 0) (lget x13 1)) (band IntKind.u32 (lget x13 0) (lget x13 2))); (let y23 : Int := (bxor IntKind.u32 (bxor IntKind.u32 (band IntKind.u32 (lget x13 0) (lget x13 1)) (band IntKind.u32 (lget x13 0) (lget x13 2))) (band IntKind.u32 (lget x13 1) (lget x13 2))); ((InB 1 8) ∧ ((Low 1 8) ∧ ((InB 2 8) ∧ ((Low 2 8) ∧ ((InB 3 8) ∧ ((Low 3 8) ∧ ((InB 5 8) ∧ ((Low 5 8) ∧ ((InB 6 8) ∧ ((Low 6 8) ∧ ((Low 0 8) ∧ ((Low 1 8) ∧ ((Low 2 8) ∧ ((Low 3 8) ∧ ((Low 4 8) ∧ ((Low 5 8) ∧ ((Low 6 8) ∧ ((Low 7 8) ∧ (let y24 : List Int := (lset (lset (lset (lset (lset (lset (lset (lset (lzeros 8) 0 (add IntKind.u32 y14 y20)) 1 (lget x13 0)) 2 (lget x13 1)) 3 (lget x13 2)) 4 (add IntKind.u32 (lget x13 3) y14)) 5 (lget x13 4)) 6 (lget x13 5)) 7 (lget x13 6)); (hworked.l2 R s k x1 m fuel (add IntKind.i64 x12 1) y24))))))))))))))))))))))))))))))))))))))))))))))))))))))))))) ∧ (((ilt x12 64) = false) → (hworked.l3 R x13 m fuel 0 s)))) := by kernel_rfl
theorem hworked.l0_succ (R : AV → Mem → Prop) (at_ : Int) (s : List Int) (k : List Int) (m : List Int) (fuel : Nat) (x0 : Int) (x1 : List Int) : hworked.l0 R at_ s k m (fuel + 1) x0 x1 = (((((ilt x0 64) = true) → ((((ilt x0 16) = true) → (hworked.l1 R at_ x0 s k m fuel 0 x1)) ∧ (((ilt x0 16) = false) → ((InB (sub IntKind.i64 x0 15) 64) ∧ ((Low (nadd 0 (nat (sub IntKind.i64 x0 15))) 64) ∧ ((InB (sub IntKind.i64 x0 2) 64) ∧ ((Low (nadd 0 (nat (sub IntKind.i64 x0 2))) 64) ∧ (((Int.NonNeg 6) ∧ (Int.NonNeg 24)) ∧ (((Int.NonNeg 17) ∧ (Int.NonNeg 13)) ∧ ((NonNeg 3) ∧ (let y6 : Int := (bxor IntKind.u32 (bxor IntKind.u32 (Go.Hsh.rot (lget x1 (nadd 0 (nat (sub IntKind.i64 x0 15)))) 7) (Go.Hsh.rot (lget x1 (nadd 0 (nat (sub IntKind.i64 x0 15)))) 18)) (shr IntKind.u32 (lget x1 (nadd 0 (nat (sub IntKind.i64 x0 15)))) 3)); (let y7 : Int := (bxor IntKind.u32 (Go.Hsh.rot (lget x1 (nadd 0 (nat (sub IntKind.i64 x0 15)))) 7) (Go.Hsh.rot (lget x1 (nadd 0 (nat (sub IntKind.i64 x0 15)))) 18)); (((Int.NonNeg 16) ∧ (Int.NonNeg 14)) ∧ (((Int.NonNeg 18) ∧ (Int.NonNeg 12)) ∧ ((NonNeg 10) ∧ (let y8 : Int := (bxor IntKind.u32 (bxor IntKind.u32 (Go.Hsh.rot (lget x1 (nadd 0 (nat (sub IntKind.i64 x0 2)))) 17) (Go.Hsh.rot (lget x1 (nadd 0 (nat (sub IntKind.i64 x0 2)))) 19)) (shr IntKind.u32 (lget x1 (nadd 0 (nat (sub IntKind.i64 x0 2)))) 10)); (let y9 : Int := (bxor IntKind.u32 (Go.Hsh.rot (lget x1 (nadd 0 (nat (sub IntKind.i64 x0 2)))) 17) (Go.Hsh.rot (lget x1 (nadd 0 (nat (sub IntKind.i64 x0 2)))) 19)); ((InB (sub IntKind.i64 x0 7) 64) ∧ ((Low (nadd 0 (nat (sub IntKind.i64 x0 7))) 64) ∧ ((InB (sub IntKind.i64 x0 16) 64) ∧ ((Low (nadd 0 (nat (sub IntKind.i64 x0 16))) 64) ∧ ((InB x0 64) ∧ ((Low (nadd 0 (nat x0)) 64) ∧ (let y10 : Int := (add IntKind.u32 (add IntKind.u32 (add IntKind.u32 y8 (lget x1 (nadd 0 (nat (sub IntKind.i64 x0 7))))) y6) (lget x1 (nadd 0 (nat (sub IntKind.i64 x0 16))))); (let y11 : List Int := (lset x1 (nadd 0 (nat x0)) (add IntKind.u32 (add IntKind.u32 (add IntKind.u32 y8 (lget x1 (nadd 0 (nat (sub IntKind.i64 x0 7))))) y6) (lget x1 (nadd 0 (nat (sub IntKind.i64 x0 16)))))); (hworked.l0 R at_ s k m fuel (add IntKind.i64 x0 1) y11)))))))))))))))))))))))))) ∧ (((ilt x0 64) = false) → (hworked.l2 R s k x1 m fuel 0 s)))) := by kernel_rfl
theorem hworked_vc (R : AV → Mem → Prop) (fuel : Nat) (s : List Int) (k : List Int) (m : List Int) (at_ : Int) : callsx Tryd.prog gamH1 [] Tryd.f92 (fuel + 1) [.agg [.ints .u32 8 s], .agg [.ints .u32 64 k], .one (.vec 200002), .one (.int .i64 at_)] [(200002, .rview [.ints .u8 m])] R = ((hworked.l0 R at_ s k m fuel 0 (lzeros 64))) := by kernel_rfl

def hpadded.l1 (R : AV → Mem → Prop) (m : List Int) (fuel : Nat) (x1 : Int) (x2 : List Int) : Prop := run Tryd.prog gam0 [⟨3, [.ints .u8], true, false⟩] (resh Tryd.prog [⟨3, [.ints .u8], true, false⟩] Tryd.f91.results.toList R) fuel [.code (cAt (bodyOf Tryd.f91) [1, 1, 1, 1, 1, 1, 0, 1, 0, 0]), .inLoop (cAt (bodyOf Tryd.f91) [1, 1, 1, 1, 1, 1, 0, 1, 0, 0]), .inBlock 2, .code (cAt (bodyOf Tryd.f91) [1, 1, 1, 1, 1, 1, 1])] [AV.undef, AV.undef, AV.undef, (AV.one (AC.vec 100003)), (AV.one (AC.int IntKind.u64 (mul IntKind.u64 (conv IntKind.u64 (ofNat (llen m))) 8))), (AV.one (AC.int IntKind.i64 x1)), AV.undef, AV.undef, AV.undef, AV.undef, AV.undef, AV.undef, AV.undef, AV.undef, AV.undef, AV.undef, AV.undef, AV.undef, AV.undef, AV.undef, AV.undef, AV.undef, AV.undef, AV.undef, AV.undef, AV.undef, AV.undef, AV.undef, AV.undef, AV.undef, AV.undef, AV.undef, AV.undef, AV.undef, AV.undef, AV.undef, AV.undef, AV.undef, AV.undef, AV.undef, (AV.tup [])] [(100003, Blk.vec [(Col.ints IntKind.u8 x2)]), (200000, Blk.rview [(Col.ints IntKind.u8 m)])]

def hpadded.l0 (R : AV → Mem → Prop) (m : List Int) (fuel : Nat) (x0 : List Int) : Prop := run Tryd.prog gam0 [⟨3, [.ints .u8], true, false⟩] (resh Tryd.prog [⟨3, [.ints .u8], true, false⟩] Tryd.f91.results.toList R) fuel [.code (cAt (bodyOf Tryd.f91) [1, 1, 1, 1, 0, 0, 0]), .inLoop (cAt (bodyOf Tryd.f91) [1, 1, 1, 1, 0, 0, 0]), .inBlock 0, .code (cAt (bodyOf Tryd.f91) [1, 1, 1, 1, 1])] [(AV.one (AC.vec 200000)), AV.undef, AV.undef, (AV.one (AC.vec 100003)), (AV.tup []), (AV.tup []), AV.undef, AV.undef, AV.undef, AV.undef, AV.undef, AV.undef, AV.undef, AV.undef, AV.undef, AV.undef, AV.undef, AV.undef, AV.undef, AV.undef, AV.undef, AV.undef, AV.undef, (AV.tup []), (AV.tup []), (AV.tup []), (AV.tup []), (AV.tup []), (AV.tup []), (AV.tup []), (AV.tup []), (AV.tup []), (AV.tup []), (AV.tup []), (AV.tup []), (AV.tup []), (AV.tup []), (AV.tup []), (AV.tup []), (AV.tup []), (AV.tup [])] [(100003, Blk.vec [(Col.ints IntKind.u8 x0)]), (200000, Blk.rview [(Col.ints IntKind.u8 m)])]

theorem hpadded.l1_succ (R : AV → Mem → Prop) (m : List Int) (fuel : Nat) (x1 : Int) (x2 : List Int) : hpadded.l1 R m (fuel + 1) x1 x2 = (((((ilt x1 8) = true) → ((NonNeg (sub IntKind.i64 56 (mul IntKind.i64 8 x1))) ∧ ((Room (nadd (llen x2) (llen [(conv IntKind.u8 (shr IntKind.u64 (mul IntKind.u64 (conv IntKind.u64 (ofNat (llen m))) 8) (sub IntKind.i64 56 (mul IntKind.i64 8 x1))))])) 1) ∧ (let y3 : Int := (shr IntKind.u64 (mul IntKind.u64 (conv IntKind.u64 (ofNat (llen m))) 8) (sub IntKind.i64 56 (mul IntKind.i64 8 x1))); (let y4 : Int := (conv IntKind.u8 (shr IntKind.u64 (mul IntKind.u64 (conv IntKind.u64 (ofNat (llen m))) 8) (sub IntKind.i64 56 (mul IntKind.i64 8 x1)))); (let y5 : List Int := [(conv IntKind.u8 (shr IntKind.u64 (mul IntKind.u64 (conv IntKind.u64 (ofNat (llen m))) 8) (sub IntKind.i64 56 (mul IntKind.i64 8 x1))))]; (let y6 : List Int := (lcat x2 [(conv IntKind.u8 (shr IntKind.u64 (mul IntKind.u64 (conv IntKind.u64 (ofNat (llen m))) 8) (sub IntKind.i64 56 (mul IntKind.i64 8 x1))))]); (hpadded.l1 R m fuel (add IntKind.i64 x1 1) y6)))))))) ∧ (((ilt x1 8) = false) → (R (AV.one (AC.vec 100003)) [(100003, Blk.vec [(Col.ints IntKind.u8 x2)]), (200000, Blk.rview [(Col.ints IntKind.u8 m)])])))) := by kernel_rfl
theorem hpadded.l0_succ (R : AV → Mem → Prop) (m : List Int) (fuel : Nat) (x0 : List Int) : hpadded.l0 R m (fuel + 1) x0 = (((NeZ 64) ∧ ((((ine (rem (ofNat (llen x0)) 64) 56) = true) → ((Room (nadd (llen x0) 1) 1) ∧ (hpadded.l0 R m fuel (lcat x0 [0])))) ∧ (((ine (rem (ofNat (llen x0)) 64) 56) = false) → (hpadded.l1 R m fuel 0 x0))))) := by kernel_rfl
theorem hpadded_vc (R : AV → Mem → Prop) (fuel : Nat) (m : List Int) : callsx Tryd.prog gam0 [⟨3, [.ints .u8], true, false⟩] Tryd.f91 (fuel + 1) [.one (.vec 200000)] [(200000, .rview [.ints .u8 m])] R = (((Mk 0 (add IntKind.i64 (ofNat (llen m)) 72) 1) ∧ ((Room (nadd 0 (llen m)) 1) ∧ ((Room (nadd (llen (lcat (lzeros 0) m)) 1) 1) ∧ (hpadded.l0 R m fuel (lcat (lcat (lzeros 0) m) [128])))))) := by kernel_rfl

end Go.Proofs.YtdgmgalnhignjaaDoor.G

/- The digest's inner functions do what the plain mathematics says. -/
namespace Go.Proofs.YtdgmgalnhignjaaDoor.G
open Go Go.Sx Go.Hsh
set_option maxRecDepth 20000
set_option linter.unusedSimpArgs false
set_option linter.unusedVariables false

theorem rot_eq : ∀ k : Int, -32 < k → k < 0 → band .u64 (conv .u64 k) 31 = 32 - -k ∧ sub .u64 32 (32 - -k) = -k := by
  intro k h1 h2
  have : k = -1 ∨ k = -2 ∨ k = -3 ∨ k = -4 ∨ k = -5 ∨ k = -6 ∨ k = -7 ∨ k = -8 ∨ k = -9 ∨ k = -10 ∨ k = -11 ∨ k = -12 ∨ k = -13 ∨ k = -14 ∨ k = -15 ∨ k = -16 ∨ k = -17 ∨ k = -18 ∨ k = -19 ∨ k = -20 ∨ k = -21 ∨ k = -22 ∨ k = -23 ∨ k = -24 ∨ k = -25 ∨ k = -26 ∨ k = -27 ∨ k = -28 ∨ k = -29 ∨ k = -30 ∨ k = -31 := by omega
  rcases this with rfl | rfl | rfl | rfl | rfl | rfl | rfl | rfl | rfl | rfl | rfl | rfl | rfl | rfl | rfl | rfl | rfl | rfl | rfl | rfl | rfl | rfl | rfl | rfl | rfl | rfl | rfl | rfl | rfl | rfl | rfl <;> decide +kernel

theorem good_rot : Sx.Good Tryd.prog 89 rotS := by
  refine Sx.Good.pure (D := []) mixed (good0 _) Tryd.func89 (by kernel_rfl) rfl fun d args σ K h => ?_
  simp only [rotS] at h
  split at h <;> try exact h.elim
  rename_i x k
  obtain ⟨⟨h1, h2⟩, hK⟩ := h
  refine ⟨by simp [plain_int], _, plain_int _ _, hK, 0 + 1, ?_⟩
  rw [hrot_vc, (rot_eq k h1 h2).1, (rot_eq k h1 h2).2]
  simp only [NonNeg_iff]
  exact ⟨by omega, by omega, rfl⟩

theorem bor_comm32 (a b : Int) : bor .u32 a b = bor .u32 b a := by
  unfold bor bits; simp only []; rw [BitVec.or_comm]

theorem sub32 {k : Int} (h1 : 0 < k) (h2 : k < 32) : sub .i64 32 k = 32 - k := by
  show IntKind.i64.wrap _ = _
  rw [IntKind.wrap_i64]; omega

theorem good_hturned : Sx.Good Tryd.prog 93 hturnedS := by
  refine Sx.Good.pure (D := []) mixed (good0 _) Tryd.func93 (by kernel_rfl) rfl fun d args σ K h => ?_
  simp only [hturnedS] at h
  split at h <;> try exact h.elim
  rename_i x k
  obtain ⟨⟨h1, h2⟩, hK⟩ := h
  refine ⟨by simp [plain_int], _, plain_int _ _, hK, 0 + 1, ?_⟩
  rw [hturned_vc, sub32 h1 h2, bor_comm32]
  simp only [NonNeg_iff]
  exact ⟨by omega, by omega, rfl⟩

theorem good_first : Sx.Good Tryd.prog 81 firstS := by
  refine Sx.Good.pure (D := []) mixed (good0 _) Tryd.func81 (by kernel_rfl) rfl fun d args σ K h => ?_
  simp only [firstS] at h
  split at h <;> try exact h.elim
  refine ⟨by simp, _, plain_ints _ _ _, h, 0 + 1, ?_⟩
  rw [hfirst_vc]
  simp only [Low_iff]
  exact ⟨by omega, by omega, by omega, by omega, by omega, by omega, by omega, by omega, rfl⟩

theorem gamH1_good : GoodG Tryd.prog gamH1 :=
  ((good0 _).ext good_rot ⟨_, Tryd.func89, by decide, by kernel_rfl⟩).ext good_hturned ⟨_, Tryd.func93, by decide, by kernel_rfl⟩
end Go.Proofs.YtdgmgalnhignjaaDoor.G

/- A block. -/
namespace Go.Proofs.YtdgmgalnhignjaaDoor.G
open Go Go.Sx Go.Hsh
set_option maxRecDepth 20000
set_option linter.unusedSimpArgs false
set_option linter.unusedVariables false

theorem mul4 {i : Nat} (h : i < 64) : mul .i64 4 (i : Int) = ((4 * i : Nat) : Int) := by
  have := mulN_i64 (a := 4) (b := i) (by omega)
  exact this

theorem hblock_l3 {R : AV → Mem → Prop} {v s : List Int} (hs : s.length = 8) (hR : ∀ σ, R (.agg [.ints .u32 8 (tab 8 fun i => add .u32 (lget s i) (lget v i))]) σ) : ∃ f, hblock.l3 R v f 0 s := by
  have key := loop_ex (fun f i x => hblock.l3 R v f i x) 8 (fun i => upto 8 i (fun j => add .u32 (lget s j) (lget v j)) (lget s))
    (fun g i hi h => ⟨g + 1, by
      rw [hblock.l3_succ]
      refine ⟨fun _ => ?_, fun q => ?_⟩
      · simp only [InB_iff, Low_iff, nat_cast, nadd_def, Nat.zero_add]
        refine ⟨by omega, hi, by omega, hi, by omega, hi, ?_⟩
        rw [add1_i64 (by omega), upto_hi (Nat.le_refl _) hi, upto_lset rfl]
        exact h
      · rw [ilt_false] at q; omega⟩)
    ⟨1, by
      rw [hblock.l3_succ]
      refine ⟨fun q => ?_, fun _ => ?_⟩
      · rw [ilt_true] at q; omega
      · rw [upto_done]; exact hR _⟩
  obtain ⟨f, hf⟩ := key 0 (by omega)
  rw [upto_zero, ← eq_tab hs] at hf
  exact ⟨f, hf⟩

theorem hblock_l2 {R : AV → Mem → Prop} {b s : List Int} (hs : s.length = 8) (hR : ∀ σ, R (.agg [.ints .u32 8 (blk s b)]) σ) : ∃ f, hblock.l2 R s (tab 64 (ws b)) f 0 s := by
  refine loop_ex (fun f i x => hblock.l2 R s (tab 64 (ws b)) f i x) 64 (fun i => rds b s i)
    (fun g i hi h => ⟨g + 1, by
      rw [hblock.l2_succ]
      refine ⟨fun _ => ?_, fun q => ?_⟩
      · simp only [InB_iff, Low_iff, nat_cast, nadd_def, Nat.zero_add, true_and, and_true]
        rw [add1_i64 (by omega), tab_lget _ hi]
        have e8 : ∀ a b c d e f g h : Int, lset (lset (lset (lset (lset (lset (lset (lset (lzeros 8) 0 a) 1 b) 2 c) 3 d) 4 e) 5 f) 6 g) 7 h = [a, b, c, d, e, f, g, h] := fun _ _ _ _ _ _ _ _ => rfl
        rw [e8]
        have hl : hblock.l2 R s (tab 64 (ws b)) g ((i + 1 : Nat) : Int) (rd (lget rootsL i) (ws b i) (rds b s i)) := h
        repeat (refine ⟨by first | omega | (refine ⟨?_, ?_⟩ <;> first | omega | exact Int.NonNeg.mk _), ?_⟩)
        exact hl
      · rw [ilt_false] at q; omega⟩) ?_ 0 (by omega)
  obtain ⟨f, hf⟩ := hblock_l3 (R := R) (v := rds b s 64) hs hR
  exact ⟨f + 1, by
      rw [hblock.l2_succ]
      refine ⟨fun q => ?_, fun _ => ?_⟩
      · rw [ilt_true] at q; omega
      · exact hf⟩

theorem hblock_l1 {R : AV → Mem → Prop} {b s : List Int} (hs : s.length = 8) (hR : ∀ σ, R (.agg [.ints .u32 8 (blk s b)]) σ) : ∃ f, hblock.l1 R s f 16 (upto 64 16 (ws b) (fun _ => 0)) := by
  refine loop_exfrom (fun f i x => hblock.l1 R s f i x) 16 64 (fun i => upto 64 i (ws b) (fun _ => 0))
    (fun g i h16 hi h => ⟨g + 1, by
      rw [hblock.l1_succ]
      refine ⟨fun _ => ?_, fun q => ?_⟩
      · have e15 : sub .i64 (i : Int) 15 = ((i - 15 : Nat) : Int) := subN_i64 (a := i) (b := 15) (by omega) (by omega)
        have e2 : sub .i64 (i : Int) 2 = ((i - 2 : Nat) : Int) := subN_i64 (a := i) (b := 2) (by omega) (by omega)
        have e7 : sub .i64 (i : Int) 7 = ((i - 7 : Nat) : Int) := subN_i64 (a := i) (b := 7) (by omega) (by omega)
        have e16 : sub .i64 (i : Int) 16 = ((i - 16 : Nat) : Int) := subN_i64 (a := i) (b := 16) (by omega) (by omega)
        simp only [e15, e2, e7, e16, InB_iff, Low_iff, NonNeg_iff, nat_cast, nadd_def, Nat.zero_add]
        rw [upto_lo (by omega) (by omega), upto_lo (by omega) (by omega), upto_lo (by omega) (by omega), upto_lo (by omega) (by omega), add1_i64 (by omega)]
        have hl := h
        rw [← upto_lset (ws_hi b h16).symm] at hl
        repeat (refine ⟨by first | omega | (refine ⟨?_, ?_⟩ <;> first | omega | exact Int.NonNeg.mk _), ?_⟩)
        exact hl
      · rw [ilt_false] at q; omega⟩) ?_ 16 (by omega) (by omega)
  obtain ⟨f, hf⟩ := hblock_l2 (R := R) (b := b) hs hR
  exact ⟨f + 1, by
      rw [hblock.l1_succ]
      refine ⟨fun q => ?_, fun _ => ?_⟩
      · rw [ilt_true] at q; omega
      · rw [upto_done]; exact hf⟩

theorem hblock_l0 {R : AV → Mem → Prop} {b s : List Int} (hs : s.length = 8) (hR : ∀ σ, R (.agg [.ints .u32 8 (blk s b)]) σ) : ∃ f, hblock.l0 R s b f 0 (lzeros 64) := by
  have key := loop_ex (fun f i x => hblock.l0 R s b f i x) 16 (fun i => upto 64 i (ws b) (fun _ => 0))
    (fun g i hi h => ⟨g + 1, by
      rw [hblock.l0_succ]
      refine ⟨fun _ => ?_, fun q => ?_⟩
      · have e0 : mul .i64 4 (i : Int) = ((4 * i : Nat) : Int) := mul4 (by omega)
        have e1 : add .i64 ((4 * i : Nat) : Int) 1 = ((4 * i + 1 : Nat) : Int) := addN_i64 (b := 1) (by omega)
        have e2 : add .i64 ((4 * i : Nat) : Int) 2 = ((4 * i + 2 : Nat) : Int) := addN_i64 (b := 2) (by omega)
        have e3 : add .i64 ((4 * i : Nat) : Int) 3 = ((4 * i + 3 : Nat) : Int) := addN_i64 (b := 3) (by omega)
        simp only [e0, e1, e2, e3, InB_iff, Low_iff, NonNeg_iff, nat_cast, nadd_def, Nat.zero_add]
        rw [add1_i64 (by omega)]
        have hl := h
        rw [← upto_lset (ws_lo b hi).symm] at hl
        repeat (refine ⟨by first | omega | (refine ⟨?_, ?_⟩ <;> first | omega | exact Int.NonNeg.mk _), ?_⟩)
        exact hl
      · rw [ilt_false] at q; omega⟩)
    (by
      obtain ⟨f, hf⟩ := hblock_l1 (R := R) (b := b) hs hR
      exact ⟨f + 1, by
        rw [hblock.l0_succ]
        refine ⟨fun q => ?_, fun _ => ?_⟩
        · rw [ilt_true] at q; omega
        · exact hf⟩)
  obtain ⟨f, hf⟩ := key 0 (by omega)
  rw [upto_zero, ← lzeros_tab] at hf
  exact ⟨f, hf⟩

theorem good_block : Sx.Good Tryd.prog 82 blockS := by
  refine Sx.Good.reads (D := []) mixed gamH1_good Tryd.func82 (by kernel_rfl) rfl fun d args σ K h => ?_
  simp only [blockS] at h
  split at h <;> try exact h.elim
  rename_i s b
  obtain ⟨⟨hr, ⟨hs⟩⟩, hK⟩ := h
  unfold hasRoots at hr
  split at hr <;> try exact hr.elim
  rename_i l hg
  subst hr
  refine ⟨_, _, .glob hg (by intro m; rfl) (.plain (plain_ints _ _ _) (.plain (plain_ints _ _ _) (.nil _))), by simp, ?_⟩
  obtain ⟨f, hf⟩ := hblock_l0 (R := Res d blockS.news σ K) (b := b) hs (fun σ' => res_arr rfl hK)
  exact ⟨f + 1, by
    have e := hblock_vc (Res d blockS.news σ K) f s b
    exact e.mpr hf⟩
end Go.Proofs.YtdgmgalnhignjaaDoor.G

/- The reference's block, its words and its padding. -/
namespace Go.Proofs.YtdgmgalnhignjaaDoor.G
open Go Go.Sx Go.Hsh
set_option maxRecDepth 20000
set_option linter.unusedSimpArgs false
set_option linter.unusedVariables false

theorem good_thirds : Sx.Good Tryd.prog 90 thirdsS := by
  refine Sx.Good.pure (D := []) mixed (good0 _) Tryd.func90 (by kernel_rfl) rfl fun d args σ K h => ?_
  simp only [thirdsS] at h
  split at h <;> try exact h.elim
  refine ⟨by simp, _, plain_ints _ _ _, h, 0 + 1, ?_⟩
  rw [hthirds_vc]
  simp only [Low_iff]
  repeat (refine ⟨by omega, ?_⟩)
  rfl

/-- a word under way -/
def pw (b : List Int) (t : Nat) : Nat → Int
  | 0 => 0
  | i + 1 => bor .u32 (shl .u32 (pw b t i) 8) (conv .u32 (lget b (4 * t + i)))
theorem lget_byte {b : List Int} (hb : Bs b) (i : Nat) : ∃ n : Nat, lget b i = (n : Int) ∧ n < 256 ∧ conv .u32 (lget b i) = (n : Int) := by
  obtain ⟨h0, h1⟩ := hb.get i
  refine ⟨(lget b i).toNat, ?_, ?_, ?_⟩
  · show lget b i = _; unfold lget; omega
  · unfold lget; omega
  · rw [conv_u32]; unfold lget; omega
theorem pw_ld {b : List Int} (hb : Bs b) (t : Nat) : pw b t 4 = ld b t := by
  obtain ⟨a0, e0, h0, c0⟩ := lget_byte hb (4 * t)
  obtain ⟨a1, e1, h1, c1⟩ := lget_byte hb (4 * t + 1)
  obtain ⟨a2, e2, h2, c2⟩ := lget_byte hb (4 * t + 2)
  obtain ⟨a3, e3, h3, c3⟩ := lget_byte hb (4 * t + 3)
  simp only [pw, ld, Nat.add_zero, c0, c1, c2, c3]
  rw [ld_word h0 h1 h2 h3, show (0 : Int) = ((0 : Nat) : Int) from rfl, horner (by omega) h0, horner (by omega) h1, horner (by omega) h2, horner (by omega) h3]
  refine congrArg (fun n : Nat => (n : Int)) ?_
  unfold word; omega

theorem lset_lset (l : List Int) (i : Nat) (v w : Int) : lset (lset l i v) i w = lset l i w := List.set_set ..
theorem lget_lset {l : List Int} {i : Nat} {v : Int} (h : i < l.length) : lget (lset l i v) i = v := by
  unfold lget lset; rw [List.getD_eq_getElem?_getD, List.getElem?_set_self h]; rfl
theorem upto_same {n i : Nat} {F G : Nat → Int} : lset (upto n i F G) i (G i) = upto n i F G := by
  unfold upto; rw [tab_lset]
  exact tab_ext fun j hj => by
    by_cases h : j = i
    · rw [if_pos h, if_neg (by omega), h]
    · rw [if_neg h]
theorem lget_lsub {m : List Int} {p z i : Nat} (h : i < z) : lget (lsub m p z) i = lget m (p + i) := by
  unfold lget lsub
  rw [List.getD_eq_getElem?_getD, List.getD_eq_getElem?_getD, List.getElem?_take, if_pos h, List.getElem?_drop]

theorem hworked_l1 {R : AV → Mem → Prop} {s k m : List Int} {p t : Nat} (hm : Bs m) (hp : p + 64 ≤ m.length) (hl : m.length < 4611686018427387904) (ht : t < 16)
    (h : ∃ f, hworked.l0 R (p : Int) s k m f ((t + 1 : Nat) : Int) (upto 64 (t + 1) (ws (lsub m p 64)) (fun _ => 0))) :
    ∃ f, hworked.l1 R (p : Int) (t : Int) s k m f 0 (upto 64 t (ws (lsub m p 64)) (fun _ => 0)) := by
  have key := loop_ex (fun f i x => hworked.l1 R (p : Int) (t : Int) s k m f i x) 4 (fun i => lset (upto 64 t (ws (lsub m p 64)) (fun _ => 0)) t (pw (lsub m p 64) t i))
    (fun g i hi h => ⟨g + 1, by
      rw [hworked.l1_succ]
      refine ⟨fun _ => ?_, fun q => ?_⟩
      · have e1 : mul .i64 4 (t : Int) = ((4 * t : Nat) : Int) := mul4 (by omega)
        have e2 : add .i64 (p : Int) ((4 * t : Nat) : Int) = ((p + 4 * t : Nat) : Int) := addN_i64 (by omega)
        have e3 : add .i64 ((p + 4 * t : Nat) : Int) (i : Int) = ((p + 4 * t + i : Nat) : Int) := addN_i64 (by omega)
        simp only [e1, e2, e3, InB_iff, Low_iff, NonNeg_iff, nat_cast, nadd_def, Nat.zero_add, llen_def]
        rw [add1_i64 (by omega), lset_lset, lget_lset (by rw [upto_len]; omega)]
        have e4 : lget m (p + 4 * t + i) = lget (lsub m p 64) (4 * t + i) := by rw [lget_lsub (by omega), Nat.add_assoc]
        rw [e4]
        repeat (refine ⟨by first | omega | (refine ⟨?_, ?_⟩ <;> omega), ?_⟩)
        exact h
      · rw [ilt_false] at q; omega⟩)
    (by
      obtain ⟨f, hf⟩ := h
      exact ⟨f + 1, by
        rw [hworked.l1_succ]
        refine ⟨fun q => ?_, fun _ => ?_⟩
        · rw [ilt_true] at q; omega
        · rw [add1_i64 (by omega), pw_ld (b := lsub m p 64) ⟨fun x hx => hm.all x (List.mem_of_mem_drop (List.mem_of_mem_take hx))⟩, upto_lset (ws_lo _ ht).symm]; exact hf⟩)
  obtain ⟨f, hf⟩ := key 0 (by omega)
  have e0 : lset (upto 64 t (ws (lsub m p 64)) (fun _ => 0)) t (pw (lsub m p 64) t 0) = upto 64 t (ws (lsub m p 64)) (fun _ => 0) := upto_same (G := fun _ => 0)
  exact ⟨f, by rw [e0] at hf; exact hf⟩

theorem hworked_l3 {R : AV → Mem → Prop} {v s m : List Int} (hs : s.length = 8) (hR : ∀ σ, R (.agg [.ints .u32 8 (tab 8 fun i => add .u32 (lget s i) (lget v i))]) σ) : ∃ f, hworked.l3 R v m f 0 s := by
  have key := loop_ex (fun f i x => hworked.l3 R v m f i x) 8 (fun i => upto 8 i (fun j => add .u32 (lget s j) (lget v j)) (lget s))
    (fun g i hi h => ⟨g + 1, by
      rw [hworked.l3_succ]
      refine ⟨fun _ => ?_, fun q => ?_⟩
      · simp only [InB_iff, Low_iff, nat_cast, nadd_def, Nat.zero_add]
        refine ⟨by omega, hi, by omega, hi, by omega, hi, ?_⟩
        rw [add1_i64 (by omega), upto_hi (Nat.le_refl _) hi, upto_lset rfl]
        exact h
      · rw [ilt_false] at q; omega⟩)
    ⟨1, by
      rw [hworked.l3_succ]
      refine ⟨fun q => ?_, fun _ => ?_⟩
      · rw [ilt_true] at q; omega
      · rw [upto_done]; exact hR _⟩
  obtain ⟨f, hf⟩ := key 0 (by omega)
  rw [upto_zero, ← eq_tab hs] at hf
  exact ⟨f, hf⟩

theorem hworked_l2 {R : AV → Mem → Prop} {b s m : List Int} (hs : s.length = 8) (hR : ∀ σ, R (.agg [.ints .u32 8 (blk s b)]) σ) : ∃ f, hworked.l2 R s rootsL (tab 64 (ws b)) m f 0 s := by
  refine loop_ex (fun f i x => hworked.l2 R s rootsL (tab 64 (ws b)) m f i x) 64 (fun i => rds b s i)
    (fun g i hi h => ⟨g + 1, by
      rw [hworked.l2_succ]
      refine ⟨fun _ => ?_, fun q => ?_⟩
      · simp only [InB_iff, Low_iff, nat_cast, nadd_def, Nat.zero_add, true_and, and_true]
        rw [add1_i64 (by omega), tab_lget _ hi]
        have e8 : ∀ a b c d e f g h : Int, lset (lset (lset (lset (lset (lset (lset (lset (lzeros 8) 0 a) 1 b) 2 c) 3 d) 4 e) 5 f) 6 g) 7 h = [a, b, c, d, e, f, g, h] := fun _ _ _ _ _ _ _ _ => rfl
        rw [e8]
        have hl : hworked.l2 R s rootsL (tab 64 (ws b)) m g ((i + 1 : Nat) : Int) (rd (lget rootsL i) (ws b i) (rds b s i)) := h
        repeat (refine ⟨by first | omega | (refine ⟨?_, ?_⟩ <;> first | omega | exact Int.NonNeg.mk _), ?_⟩)
        exact hl
      · rw [ilt_false] at q; omega⟩) ?_ 0 (by omega)
  obtain ⟨f, hf⟩ := hworked_l3 (R := R) (v := rds b s 64) (m := m) hs hR
  exact ⟨f + 1, by
      rw [hworked.l2_succ]
      refine ⟨fun q => ?_, fun _ => ?_⟩
      · rw [ilt_true] at q; omega
      · exact hf⟩

theorem hworked_l0 {R : AV → Mem → Prop} {s m : List Int} {p : Nat} (hs : s.length = 8) (hm : Bs m) (hp : p + 64 ≤ m.length) (hl : m.length < 4611686018427387904) (hR : ∀ σ, R (.agg [.ints .u32 8 (blk s (lsub m p 64))]) σ) :
    ∃ f, hworked.l0 R (p : Int) s rootsL m f 0 (lzeros 64) := by
  have key := loop_ex (fun f i x => hworked.l0 R (p : Int) s rootsL m f i x) 64 (fun i => upto 64 i (ws (lsub m p 64)) (fun _ => 0))
    (fun g i hi h => by
      by_cases h16 : i < 16
      · obtain ⟨f, hf⟩ := hworked_l1 hm hp hl h16 ⟨g, h⟩
        exact ⟨f + 1, by
          rw [hworked.l0_succ]
          refine ⟨fun _ => ⟨fun _ => hf, fun q => ?_⟩, fun q => ?_⟩
          · rw [ilt_false] at q; omega
          · rw [ilt_false] at q; omega⟩
      · exact ⟨g + 1, by
          rw [hworked.l0_succ]
          refine ⟨fun _ => ⟨fun q => ?_, fun _ => ?_⟩, fun q => ?_⟩
          · rw [ilt_true] at q; omega
          · have e15 : sub .i64 (i : Int) 15 = ((i - 15 : Nat) : Int) := subN_i64 (a := i) (b := 15) (by omega) (by omega)
            have e2 : sub .i64 (i : Int) 2 = ((i - 2 : Nat) : Int) := subN_i64 (a := i) (b := 2) (by omega) (by omega)
            have e7 : sub .i64 (i : Int) 7 = ((i - 7 : Nat) : Int) := subN_i64 (a := i) (b := 7) (by omega) (by omega)
            have e16 : sub .i64 (i : Int) 16 = ((i - 16 : Nat) : Int) := subN_i64 (a := i) (b := 16) (by omega) (by omega)
            simp only [e15, e2, e7, e16, InB_iff, Low_iff, NonNeg_iff, nat_cast, nadd_def, Nat.zero_add]
            rw [upto_lo (by omega) (by omega), upto_lo (by omega) (by omega), upto_lo (by omega) (by omega), upto_lo (by omega) (by omega), add1_i64 (by omega)]
            have hl := h
            rw [← upto_lset (ws_hi _ (by omega)).symm] at hl
            repeat (refine ⟨by first | omega | (refine ⟨?_, ?_⟩ <;> first | omega | exact Int.NonNeg.mk _), ?_⟩)
            exact hl
          · rw [ilt_false] at q; omega⟩)
    (by
      obtain ⟨f, hf⟩ := hworked_l2 (R := R) (b := lsub m p 64) (m := m) hs hR
      exact ⟨f + 1, by
        rw [hworked.l0_succ]
        refine ⟨fun q => ?_, fun _ => ?_⟩
        · rw [ilt_true] at q; omega
        · rw [upto_done]; exact hf⟩)
  obtain ⟨f, hf⟩ := key 0 (by omega)
  rw [upto_zero, ← lzeros_tab] at hf
  exact ⟨f, hf⟩

theorem good_worked : Sx.Good Tryd.prog 92 workedS := by
  refine Sx.Good.reads (D := []) mixed gamH1_good Tryd.func92 (by kernel_rfl) rfl fun d args σ K h => ?_
  simp only [workedS] at h
  split at h <;> try exact h.elim
  rename_i s k x p
  obtain ⟨m, ⟨⟨hm, rfl, hs, h0, hp, hl⟩, hK⟩, hr⟩ := rdb_row h
  obtain ⟨p', rfl⟩ := Int.eq_ofNat_of_zero_le h0
  rw [Int.toNat_natCast] at hp
  refine ⟨_, _, .plain (plain_ints _ _ _) (.plain (plain_ints _ _ _) (.row [.ints .u8] _ hr (by decide) (.plain (plain_int _ _) (.nil _)))), by simp, ?_⟩
  obtain ⟨f, hf⟩ := hworked_l0 (R := Res d workedS.news σ K) hs hm hp hl (fun σ' => by rw [nat_cast] at hK; exact res_arr rfl hK)
  exact ⟨f + 1, by
    have e := hworked_vc (Res d workedS.news σ K) f s rootsL m (p' : Int)
    exact e.mpr hf⟩

/-! padding -/
theorem roomw {n : Nat} (h : n ≤ 225179981367000) : Room n 1 := ⟨by omega⟩
theorem hpadded_l1 {R : AV → Mem → Prop} {m x : List Int} (hl : x.length ≤ 200000000000500) (hR : ∀ σ l, l = x ++ tab 8 (fun i => bitsB m i) → Mem.find σ 100003 = some (.vec [.ints .u8 l]) → R (.one (.vec 100003)) σ) : ∃ f, hpadded.l1 R m f 0 x := by
  have key := loop_ex (fun f i x => hpadded.l1 R m f i x) 8 (fun i => x ++ tab i (fun i => bitsB m i))
    (fun g i hi h => ⟨g + 1, by
      rw [hpadded.l1_succ]
      refine ⟨fun _ => ?_, fun q => ?_⟩
      · have e1 : mul .i64 8 (i : Int) = ((8 * i : Nat) : Int) := mulN_i64 (a := 8) (b := i) (by omega)
        have e2 : sub .i64 56 ((8 * i : Nat) : Int) = ((56 - 8 * i : Nat) : Int) := subN_i64 (a := 56) (b := 8 * i) (by omega) (by omega)
        simp only [e1, e2, NonNeg_iff, nadd_def, llen_def, lcat_def, List.length_append, tab_len, List.length_singleton]
        refine ⟨by omega, roomw (by omega), ?_⟩
        rw [add1_i64 (by omega), List.append_assoc]
        rw [tab_succ] at h
        exact h
      · rw [ilt_false] at q; omega⟩)
    ⟨1, by
      rw [hpadded.l1_succ]
      refine ⟨fun q => ?_, fun _ => ?_⟩
      · rw [ilt_true] at q; omega
      · exact hR _ _ rfl rfl⟩
  obtain ⟨f, hf⟩ := key 0 (by omega)
  rw [tab_zero, List.append_nil] at hf
  exact ⟨f, hf⟩
theorem hpadded_l0 {R : AV → Mem → Prop} {m : List Int} (hm : m.length ≤ 200000000000000) (hR : ∀ σ l, l = fillOf m → Mem.find σ 100003 = some (.vec [.ints .u8 l]) → R (.one (.vec 100003)) σ) : ∀ (q : Nat) (x : List Int), x.length ≤ 200000000000100 → (x.length + q) % 64 = 56 → q < 64 → m ++ [128] ++ List.replicate (nfill m.length) 0 = x ++ List.replicate q 0 →
    ∃ f, hpadded.l0 R m f x := by
  intro q
  induction q with
  | zero =>
    intro x hx hq _ he
    obtain ⟨f, hf⟩ := hpadded_l1 (R := R) (m := m) (x := x) (by omega) (fun σ l hl hm => hR σ l (by rw [hl]; unfold fillOf; rw [he]; simp) hm)
    refine ⟨f + 1, ?_⟩
    rw [hpadded.l0_succ]
    simp only [NeZ_iff, ofNat_def, llen_def]
    have er : rem (x.length : Int) 64 = 56 := by have := remN (a := x.length) (b := 64); rw [show ((64 : Nat) : Int) = 64 from rfl] at this; rw [this]; omega
    rw [er]
    refine ⟨by omega, fun h => ?_, fun _ => hf⟩
    rw [ine_true] at h; omega
  | succ q ih =>
    intro x hx hq h64 he
    obtain ⟨f, hf⟩ := ih (x ++ [0]) (by
      have := congrArg List.length he
      have hn : nfill m.length < 64 := by unfold nfill; omega
      simp only [List.length_append, List.length_replicate, List.length_singleton] at this ⊢
      omega) (by simp only [List.length_append, List.length_singleton]; omega) (by omega) (by rw [he, List.append_assoc]; rfl)
    refine ⟨f + 1, ?_⟩
    rw [hpadded.l0_succ]
    simp only [NeZ_iff, ofNat_def, llen_def]
    have er : rem (x.length : Int) 64 = ((x.length % 64 : Nat) : Int) := remN (a := x.length) (b := 64)
    rw [er]
    refine ⟨by omega, fun _ => ?_, fun h => ?_⟩
    · simp only [nadd_def, lcat_def]
      exact ⟨roomw (by omega), hf⟩
    · rw [ine_false] at h; omega

theorem good_padded : Sx.Good Tryd.prog 91 paddedS := by
  refine Sx.Good.reads (D := [⟨3, [.ints .u8], true, false⟩]) mixed (good0 _) Tryd.func91 (by kernel_rfl) rfl fun d args σ K h => ?_
  simp only [paddedS] at h
  split at h <;> try exact h.elim
  obtain ⟨m, ⟨hm, hK⟩, hr⟩ := rdb_row h
  refine ⟨_, _, .row [.ints .u8] _ hr (by decide) (.nil _), by simp, ?_⟩
  have hs := hm.le
  obtain ⟨f, hf⟩ := hpadded_l0 (R := Res d paddedS.news σ K) (m := m) hs (fun σ' l e hf => res_vec hf e hK) (nfill m.length) (m ++ [128]) (by simp only [List.length_append, List.length_singleton]; omega)
    (by simp only [List.length_append, List.length_singleton]; unfold nfill; omega) (by unfold nfill; omega) rfl
  refine ⟨f + 1, ?_⟩
  have e := hpadded_vc (Res d paddedS.news σ K) f m
  refine e.mpr ?_
  have e1 : add .i64 ((m.length : Nat) : Int) 72 = ((m.length + 72 : Nat) : Int) := addN_i64 (b := 72) (by omega)
  simp only [llen_def, lcat_def, ofNat_def, nadd_def, e1, Mk_iff, lzeros, List.replicate_zero, List.nil_append]
  exact ⟨by omega, roomw (by omega), roomw (by omega), hf⟩
end Go.Proofs.YtdgmgalnhignjaaDoor.G
