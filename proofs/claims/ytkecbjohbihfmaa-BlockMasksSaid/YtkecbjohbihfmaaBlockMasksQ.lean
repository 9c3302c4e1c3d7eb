/- The law BlockMasks holds for every input: the call returns true and each argument reads afterwards as it read before. No condition is added. -/
import Derived.Test.YtkecbjohbihfmaaBlockMasksE
import Derived.Test.YtkecbjohbihfmaaRows
import Derived.WalkKit
import Derived.ProofKit
import Derived.OpenShut
import Derived.ShutString
import Derived.ChangeOld
import Derived.SizedLaws
import Derived.Below
namespace Go.Proofs.Ytkecbjohbihfmaa.blockMasks
open Go.ChangeShapes Go.WideShapes Go.ChangeAt Go.RowKit
open Go.ChangeMaps (open_string shut_string)
set_option linter.unusedVariables false

theorem own : ownKnob Try.prog.godebug = none := by kernel_rfl
theorem laidOut : laidOutB Try.prog = true := by kernel_rfl

theorem walk (l0_0 : List Int) (l0_1 : List Int) (x0_2 : Int) (a0_3 : Option Addr) (len0_3 cap0_3 : Nat) (z0_3 : List Int) (w : World) (w0_0 : l0_0.length = 16 ∧ ∀ z ∈ l0_0, (Lit.int .u8 z).wf = true) (w0_1 : l0_1.length = 16 ∧ ∀ z ∈ l0_1, (Lit.int .u8 z).wf = true) (w0_2 : (Lit.int .i64 x0_2).wf = true) (w0_3 : Go.Sx.IsRow .u8 w a0_3 len0_3 cap0_3 z0_3) (s0_3 : z0_3.length ≤ reachBytes) :
    Calls Try.prog 6 #[.agg (List.toArray (l0_0.map (Value.int .u8) ++ (l0_1.map (Value.int .u8) ++ (Value.int .i64 x0_2 :: (Value.slice a0_3 len0_3 cap0_3 :: [])))))] w fun e w' => e = .returned (.bool true) ∧ Below w.heap.size w w' := by
  have bl : ∀ (l : List Int), (l.length = 16 ∧ ∀ z ∈ l, (Lit.int .u8 z).wf = true) → Go.Blk.BL 16 l := fun l h => ⟨h.1, fun z hz => by
    obtain ⟨h1, h2⟩ := Go.bounds_u8 (h.2 z hz)
    exact ⟨h1, by omega⟩⟩
  have hk := bl _ w0_0
  have hb := bl _ w0_1
  have hs : Go.Sx.Short (z0_3.take len0_3) := ⟨by
    have h1 : (z0_3.take len0_3).length ≤ z0_3.length := by simp; omega
    have h2 : z0_3.length ≤ 140737488351232 := s0_3
    omega⟩
  obtain ⟨f, hf⟩ := Go.Proofs.Ytkecbjohbihfmaa.G.blockMasks_plain (n := x0_2) hk hb hs ⟨w0_3.bytes⟩
  exact Go.Sx.law_mem (D := [⟨777777, [], true, false⟩]) Go.Proofs.Ytkecbjohbihfmaa.G.mixed Go.Proofs.Ytkecbjohbihfmaa.G.gamB10_good Try.func6 (by kernel_rfl) (.agg (.arr w0_0.1 (.arr w0_1.1 (.num (.ints w0_3 (.nil _))))) (.heap (k := .u8) (.nil _))) (by simp) hf

set_option maxRecDepth 100000 in
theorem lifted (os : Os) (started : os.Started) (H : Type) (enc : TypeId × Value → H) :
    ReturnsInHanded {} Try.checked os 6 .any (Rows.blockMasksSpec.pre6 enc Try.prog Try.f6 Rows.blockMasksRow.domain false) (Rows.blockMasksSpec.post enc Try.prog Try.f6 false true false false) := by
  refine returnsInHanded_of_change_sized (C := Try.checked) own started (by kernel_rfl) Try.func6
    (ChangeSpec.witness6 (enc := enc) (C := Try.checked) false ⟨#[], #[.agg #[.int .u8 0, .int .u8 0, .int .u8 0, .int .u8 0, .int .u8 0, .int .u8 0, .int .u8 0, .int .u8 0, .int .u8 0, .int .u8 0, .int .u8 0, .int .u8 0, .int .u8 0, .int .u8 0, .int .u8 0, .int .u8 0, .int .u8 0, .int .u8 0, .int .u8 0, .int .u8 0, .int .u8 0, .int .u8 0, .int .u8 0, .int .u8 0, .int .u8 0, .int .u8 0, .int .u8 0, .int .u8 0, .int .u8 0, .int .u8 0, .int .u8 0, .int .u8 0, .int .i64 0, .slice none 0 0]], []⟩ 8 (by kernel_rfl) (by kernel_rfl) (by kernel_rfl) (by kernel_rfl)) ?_
  intro W base args ds gs before hval0 hW hcnd hsz _
  have hval : ∀ (j : Nat) t v, Try.f6.params[j]? = some t → args[j]? = some v → Value.okWide Try.prog W .any base t v := hval0
  have hW' := hW
  obtain ⟨p, q, hA0, hV, rfl, hfz, hnd⟩ := hW
  have hA : DataW.TrodAll enc Try.prog W 0 (fun _ => true) true Try.f6.params.toList args.toList ds p := hA0
  rw [Try.params6] at hA hval
  obtain ⟨v0, vs0, d0, ds0, p0, q0, hargs, rfl, rfl, h0, r0⟩ := trodAll_cons hA
  obtain ⟨rfl, rfl, rfl⟩ := trodAll_nil r0
  obtain rfl : args = #[v0] := by cases args; simp_all
  obtain ⟨rfl, rfl⟩ := trodVars_none hV
  have k0 := h0
  have lt0 : ∀ x ∈ p0, x.block < W.heap.size := by obtain ⟨m, hm⟩ := k0; exact DataW.trod_lt m _ _ _ hm
  obtain ⟨cs0, rfl, ln0, kd0⟩ := Go.Sx.open_struct (ks := [.arrs .u8 16, .arrs .u8 16, .ints .i64, .rows .u8]) Try.underlying42 (by kernel_rfl) (hval 0 42 v0 rfl rfl) h0 hsz (j := 0) (by rfl) (by rfl)
  obtain ⟨l0_0, wl0_0, ww0_0, e0_0, kd0⟩ := kd0.arrs (by rw [ln0]; decide)
  obtain ⟨l0_1, wl0_1, ww0_1, e0_1, kd0⟩ := kd0.arrs (by rw [ln0]; decide)
  obtain ⟨x0_2, w0_2, e0_2, kd0⟩ := kd0.ints
  obtain ⟨a0_3, len0_3, cap0_3, z0_3, w0_3, s0_3, e0_3, kd0⟩ := kd0.rows
  obtain rfl : cs0 = (l0_0.map (Value.int .u8) ++ (l0_1.map (Value.int .u8) ++ (Value.int .i64 x0_2 :: (Value.slice a0_3 len0_3 cap0_3 :: [])))) := by rw [← List.drop_zero (l := cs0), e0_0, e0_1, e0_2, e0_3, List.drop_of_length_le (by rw [ln0]; decide)]
  clear hA0 hval0
  refine (walk l0_0 l0_1 x0_2 a0_3 len0_3 cap0_3 z0_3 W ⟨wl0_0, ww0_0⟩ ⟨wl0_1, ww0_1⟩ w0_2 w0_3 s0_3).mono fun e W' ⟨he, bel⟩ => ?_
  subst he
  exact ⟨_, rfl, _, _, _, [], _, [], hW', trodAll_mk1 (shut_bool Try.underlying4 _), (trodAll_cons_mk (Below.trod laidOut (by kernel_rfl) (of_decide_eq_true (by kernel_rfl)) k0 bel lt0) trodAll_mk0), rfl, bel.frame _, fun h => by cases h⟩

theorem over : Rows.blockMasksRow.holds Try.pinned (OpenSpec.ofChange Rows.blockMasksSpec) :=
  OpenClaim.holds_of_wide 6 Try.f6 rfl rfl rfl rfl rfl rfl rfl ⟨rfl, rfl, rfl, rfl, rfl⟩ rfl rfl rfl rfl rfl (by kernel_rfl) Try.func6 (by kernel_rfl)
    (of_decide_eq_true (by kernel_rfl)) (by unfold Func.isWrapper; first | (rw [if_pos (by decide +kernel)]; kernel_rfl) | (rw [if_neg (by decide +kernel)]; exact ⟨rfl, rfl⟩))
    (fun os started H enc _ => lifted os started H enc)

end Go.Proofs.Ytkecbjohbihfmaa.blockMasks
namespace Go.Proofs.Ytkecbjohbihfmaa
/-- THE STATEMENT -/
theorem blockMasks_holds : Rows.BlockMasksSaid := blockMasks.over
#print axioms blockMasks_holds
end Go.Proofs.Ytkecbjohbihfmaa
