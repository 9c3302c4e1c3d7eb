/- Columns do what the plain mathematics says. -/
import Derived.Test.YtccjkjpdgpeogaaFieldP2
namespace Go.Proofs.Ytccjkjpdgpeogaa.G
open Go Go.Sx Go.Fld
set_option linter.unusedSimpArgs false
set_option linter.unusedVariables false

theorem lget_intL (l : List Nat) (i : Nat) : lget (intL l) i = ((l.getD i 0 : Nat) : Int) := by
  simp only [lget, intL, List.getD_eq_getElem?_getD, List.getElem?_map]
  cases l[i]? <;> simp
theorem lset_intL (l : List Nat) (i v : Nat) : lset (intL l) i (v : Int) = intL (l.set i v) := by
  simp only [lset, intL, List.map_set]
theorem natL_intL (l : List Nat) : natL (intL l) = l := by
  simp [natL, intL, Function.comp_def]

structure ColN (l : List Nat) : Prop where
  len : l.length = 4
  all : ∀ x ∈ l, x < 256

theorem ColN.at {l : List Nat} (h : ColN l) (i : Nat) : l.getD i 0 < 256 := by
  rw [List.getD_eq_getElem?_getD]
  cases hq : l[i]? with
  | none => simp
  | some x => exact h.all x (List.mem_of_getElem? hq)
theorem ColN.set {l : List Nat} (h : ColN l) (i v : Nat) (hv : v < 256) : ColN (l.set i v) :=
  ⟨by simp [h.len], fun x hx => by rcases List.mem_or_eq_of_mem_set hx with h' | h'
                                   · exact h.all x h'
                                   · omega⟩

theorem col_nat {c : List Int} (h : FCol c) : ∃ l, ColN l ∧ c = intL l := by
  refine ⟨natL c, ⟨by simp [natL, h.len], fun x hx => ?_⟩, ?_⟩
  · simp only [natL, List.mem_map] at hx
    obtain ⟨y, hy, rfl⟩ := hx
    have hb := h.all y hy
    have := hb.lo; have := hb.hi; omega
  · simp only [intL, natL, List.map_map]
    symm
    rw [List.map_congr_left (g := id) fun y hy => by have := (h.all y hy).lo; simp; omega]
    simp
theorem ColN.col {l : List Nat} (h : ColN l) : FCol (intL l) := ⟨by simp [intL, h.len], fun x hx => by
  simp only [intL, List.mem_map] at hx
  obtain ⟨y, hy, rfl⟩ := hx
  exact .of (h.all y hy)⟩

theorem rot {r i : Nat} (hr : r < 4) (hi : i < 4) : rem (add .i64 (sub .i64 (i : Int) (r : Int)) 4) 4 = (((i + 4 - r) % 4 : Nat) : Int) := by
  rw [sub_i64 (by omega) (by omega), add_i64 (by omega) (by omega)]
  unfold rem
  rw [Int.tmod_eq_emod_of_nonneg (by omega)]
  omega

theorem ml_lt {c f : List Nat} (hf : ColN f) {r : Nat} : ∀ (d i s : Nat), s < 256 → ml c f r d i s < 256
  | 0, _, _, h => h
  | d + 1, i, s, h => ml_lt hf d _ _ (xor_lt h (gm_lt (hf.at _)))

theorem mix_l1 (R : AV → Mem → Prop) (c f : List Nat) (hc : ColN c) (hf : ColN f) (fuel r : Nat) (hr : r < 4) : ∀ (d : Nat) (x : List Nat), d ≤ 4 → ColN x →
    (mixd.l0 R (intL c) (intL f) fuel ((r + 1 : Nat) : Int) (intL (x.set r (ml c f r d (4 - d) (x.getD r 0))))) → mixd.l1 R (r : Int) (intL c) (intL f) (fuel + d + 1) ((4 - d : Nat) : Int) (intL x) := by
  intro d
  induction d with
  | zero =>
    intro x _ hx h
    rw [Nat.add_zero, mixd.l1_succ]
    refine ⟨fun q => ?_, fun _ => ?_⟩
    · rw [ilt_true] at q; omega
    · rw [add_i64 (by omega) (by omega)]
      have e : x.set r (ml c f r 0 (4 - 0) (x.getD r 0)) = x := by
        simp only [ml]
        apply List.ext_getElem (by simp)
        intro j h1 h2
        rw [List.getElem_set]
        split
        · rename_i q; subst q; simp [List.getD_eq_getElem?_getD, List.getElem?_eq_getElem h2]
        · rfl
      rw [e] at h
      exact h
  | succ d ih =>
    intro x hd hx h
    rw [show fuel + (d + 1) + 1 = (fuel + d + 1) + 1 by omega, mixd.l1_succ]
    have hi : 4 - (d + 1) < 4 := by omega
    rw [rot hr hi]
    simp only [nadd, nat, Int.toNat_natCast, Nat.zero_add, lget_intL]
    have e1 : fmul ((f.getD ((4 - (d + 1) + 4 - r) % 4) 0 : Nat) : Int) ((c.getD (4 - (d + 1)) 0 : Nat) : Int) = (gm (f.getD ((4 - (d + 1) + 4 - r) % 4) 0) (c.getD (4 - (d + 1)) 0) : Nat) := by simp [fmul]
    rw [e1, bxor_u8 (hx.at r) (gm_lt (hf.at _)), lset_intL, add_i64 (by omega) (by omega)]
    refine ⟨fun _ => ⟨⟨by omega, by omega⟩, ⟨by omega⟩, ⟨by decide⟩, ⟨by omega, by omega⟩, ⟨by omega⟩, ⟨by omega, by omega⟩, ⟨by omega⟩, ⟨.of (hf.at _), .of (hc.at _)⟩, ⟨by omega, by omega⟩, ⟨by omega⟩, ?_⟩, fun q => ?_⟩
    · rw [show ((4 - (d + 1) : Nat) : Int) + 1 = ((4 - d : Nat) : Int) by omega]
      refine ih _ (by omega) (hx.set _ _ (xor_lt (hx.at r) (gm_lt (hf.at _)))) ?_
      rw [List.set_set]
      have e2 : (x.set r (x.getD r 0 ^^^ gm (f.getD ((4 - (d + 1) + 4 - r) % 4) 0) (c.getD (4 - (d + 1)) 0))).getD r 0 = x.getD r 0 ^^^ gm (f.getD ((4 - (d + 1) + 4 - r) % 4) 0) (c.getD (4 - (d + 1)) 0) := by
        simp [List.getD_eq_getElem?_getD, hx.len, hr]
      rw [e2]
      simp only [ml] at h
      rw [show 4 - (d + 1) + 1 = 4 - d by omega] at h
      exact h
    · rw [ilt_false] at q; omega

theorem mix_l0 (R : AV → Mem → Prop) (c f x : List Nat) (hc : ColN c) (hf : ColN f) {r : Nat} (hr : r < 4) (hx : ColN x) (fuel : Nat) (h : mixd.l0 R (intL c) (intL f) fuel ((r + 1 : Nat) : Int) (intL (x.set r (ml c f r 4 0 (x.getD r 0))))) :
    mixd.l0 R (intL c) (intL f) (fuel + 6) (r : Int) (intL x) := by
  rw [mixd.l0_succ]
  refine ⟨fun _ => mix_l1 R c f hc hf fuel r hr 4 x (by omega) hx h, fun q => ?_⟩
  rw [ilt_false] at q; omega

theorem mix_all (v : AV) (c f : List Nat) (hc : ColN c) (hf : ColN f) (hv : v = .agg [.ints .u8 4 (intL (mixN c f))]) : mixd.l0 (fun av' _ => av' = v) (intL c) (intL f) 25 0 (intL [0, 0, 0, 0]) := by
  have z : ColN [0, 0, 0, 0] := ⟨rfl, by simp⟩
  have l := fun r s (hs : s < 256) => ml_lt (c := c) hf (r := r) 4 0 s hs
  have s1 := z.set 0 _ (l 0 _ (z.at 0))
  have s2 := s1.set 1 _ (l 1 _ (s1.at 1))
  have s3 := s2.set 2 _ (l 2 _ (s2.at 2))
  refine mix_l0 _ c f _ hc hf (r := 0) (by omega) z 19 (mix_l0 _ c f _ hc hf (r := 1) (by omega) s1 13 (mix_l0 _ c f _ hc hf (r := 2) (by omega) s2 7 (mix_l0 _ c f _ hc hf (r := 3) (by omega) s3 1 ?_)))
  rw [mixd.l0_succ]
  refine ⟨fun q => ?_, fun _ => ?_⟩
  · rw [ilt_true] at q; omega
  · rw [hv]; rfl

theorem good_mixed : Sx.Good Try.prog 25 mixS := by
  refine Sx.Good.pure (D := []) mixed gam4_good Try.func25 (by kernel_rfl) rfl fun d args σ K h => ?_
  simp only [mixS] at h
  split at h <;> try exact h.elim
  rename_i c f
  obtain ⟨⟨hc, hf⟩, hK⟩ := h
  obtain ⟨c, hc', rfl⟩ := col_nat hc
  obtain ⟨f, hf', rfl⟩ := col_nat hf
  refine ⟨by simp [plain_ints], _, plain_ints _ _ _, hK, 25 + 1, ?_⟩
  rw [mixd_vc]
  exact mix_all _ c f hc' hf' (by simp [fmix, natL_intL])
end Go.Proofs.Ytccjkjpdgpeogaa.G
