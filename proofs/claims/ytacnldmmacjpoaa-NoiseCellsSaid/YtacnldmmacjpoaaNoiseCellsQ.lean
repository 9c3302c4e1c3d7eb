/- The law NoiseCells holds for every input: the call returns true and each argument reads afterwards as it read before. No condition is added. -/
import Derived.Test.YtacnldmmacjpoaaNoiseCellsH
import Derived.Test.YtacnldmmacjpoaaRows
import Derived.WalkKit
import Derived.ProofKit
import Derived.OpenShut
import Derived.ShutString
import Derived.ChangeOld
import Derived.SizedLaws
import Derived.Deep.CondSized
import Derived.Below
namespace Go.Proofs.Ytacnldmmacjpoaa.noiseCells
open Go.ChangeShapes Go.WideShapes Go.ChangeAt Go.RowKit
open Go.ChangeMaps (open_string shut_string)
set_option linter.unusedVariables false

theorem own : ownKnob Try.prog.godebug = none := by kernel_rfl
theorem laidOut : laidOutB Try.prog = true := by kernel_rfl

theorem walk (a0_0 : Option Addr) (len0_0 cap0_0 : Nat) (z0_0 : List Int) (x0_1 : Int) (x0_2 : Int) (x0_3 : Int) (x0_4 : Int) (x0_5 : Int) (w : World) (w0_0 : Go.Sx.IsRow .u8 w a0_0 len0_0 cap0_0 z0_0) (s0_0 : z0_0.length ≤ reachBytes) (w0_1 : (Lit.int .i64 x0_1).wf = true) (w0_2 : (Lit.int .i64 x0_2).wf = true) (w0_3 : (Lit.int .i64 x0_3).wf = true) (w0_4 : (Lit.int .i64 x0_4).wf = true) (w0_5 : (Lit.int .i64 x0_5).wf = true) :
    Calls Try.prog 6 #[.agg (List.toArray (Value.slice a0_0 len0_0 cap0_0 :: (Value.int .i64 x0_1 :: (Value.int .i64 x0_2 :: (Value.int .i64 x0_3 :: (Value.int .i64 x0_4 :: (Value.int .i64 x0_5 :: [])))))))] w fun e w' => e = .returned (.bool true) ∧ Below w.heap.size w w' := by
  have l0 : (z0_0.take len0_0).length ≤ z0_0.length := by simp; omega
  have b0 : z0_0.length ≤ 140737488351232 := s0_0
  obtain ⟨n, hh⟩ := Go.Proofs.Ytacnldmmacjpoaa.G.noiseCells_plain (p := z0_0.take len0_0) (n := x0_1) (d := x0_2) (k := x0_3) (c := x0_4) (l := x0_5) (by omega) ⟨w0_0.bytes⟩
  exact Go.Sx.law_mem (D := [⟨777777, [], true, false⟩]) Go.Proofs.Ytacnldmmacjpoaa.G.mixed Go.Proofs.Ytacnldmmacjpoaa.G.gamN9_good Try.func6 (by kernel_rfl) (.agg (.ints w0_0 (.num (.num (.num (.num (.num (.nil _))))))) (.heap (k := .u8) (.nil _))) (by simp) hh

set_option maxRecDepth 100000 in
theorem lifted (os : Os) (started : os.Started) (H : Type) (enc : TypeId × Value → H) :
    ReturnsInHanded {} Try.checked os 6 .any (Rows.noiseCellsSpec.pre6 enc Try.prog Try.f6 Rows.noiseCellsRow.domain false) (Rows.noiseCellsSpec.post enc Try.prog Try.f6 false true false false) := by
  refine returnsInHanded_of_change_sized (C := Try.checked) own started (by kernel_rfl) Try.func6
    (ChangeSpec.witness6 (enc := enc) (C := Try.checked) false ⟨#[], #[.agg #[.slice none 0 0, .int .i64 0, .int .i64 0, .int .i64 0, .int .i64 0, .int .i64 0]], []⟩ 8 (by kernel_rfl) (by kernel_rfl) (by kernel_rfl) (by kernel_rfl)) ?_
  intro W base args ds gs before hval0 hW hcnd hsz _
  have hval : ∀ (j : Nat) t v, Try.f6.params[j]? = some t → args[j]? = some v → Value.okWide Try.prog W .any base t v := hval0
  have hW' := hW
  obtain ⟨p, q, hA0, hV, rfl, hfz, hnd⟩ := hW
  have hA : DataW.TrodAll enc Try.prog W 0 (fun _ => true) true Try.f6.params.toList args.toList ds p := hA0
  rw [Try.params6] at hA hval
  obtain ⟨v0, vs0, d0, ds0, p0, q0, hargs, rfl, rfl, h0, r0⟩ := trodAll_cons hA
  obtain ⟨rfl, rfl, rfl⟩ := trodAll_nil r0
  obtain rfl : args = #[v0] := by cases args; simp_all
  obtain ⟨rfl, rfl⟩ := trodVars_none hV
  have k0 := h0
  have lt0 : ∀ x ∈ p0, x.block < W.heap.size := by obtain ⟨m, hm⟩ := k0; exact DataW.trod_lt m _ _ _ hm
  obtain ⟨cs0, rfl, ln0, kd0⟩ := Go.Sx.open_struct (ks := [.rows .u8, .ints .i64, .ints .i64, .ints .i64, .ints .i64, .ints .i64]) Try.underlying33 (by kernel_rfl) (hval 0 33 v0 rfl rfl) h0 hsz (j := 0) (by rfl) (by rfl)
  obtain ⟨a0_0, len0_0, cap0_0, z0_0, w0_0, s0_0, e0_0, kd0⟩ := kd0.rows
  obtain ⟨x0_1, w0_1, e0_1, kd0⟩ := kd0.ints
  obtain ⟨x0_2, w0_2, e0_2, kd0⟩ := kd0.ints
  obtain ⟨x0_3, w0_3, e0_3, kd0⟩ := kd0.ints
  obtain ⟨x0_4, w0_4, e0_4, kd0⟩ := kd0.ints
  obtain ⟨x0_5, w0_5, e0_5, kd0⟩ := kd0.ints
  obtain rfl : cs0 = (Value.slice a0_0 len0_0 cap0_0 :: (Value.int .i64 x0_1 :: (Value.int .i64 x0_2 :: (Value.int .i64 x0_3 :: (Value.int .i64 x0_4 :: (Value.int .i64 x0_5 :: [])))))) := by rw [← List.drop_zero (l := cs0), e0_0, e0_1, e0_2, e0_3, e0_4, e0_5, List.drop_of_length_le (by rw [ln0]; decide)]
  clear hA0 hval0
  refine (walk a0_0 len0_0 cap0_0 z0_0 x0_1 x0_2 x0_3 x0_4 x0_5 W w0_0 s0_0 w0_1 w0_2 w0_3 w0_4 w0_5).mono fun e W' ⟨he, bel⟩ => ?_
  subst he
  exact ⟨_, rfl, _, _, _, [], _, [], hW', trodAll_mk1 (shut_bool Try.underlying4 _), (trodAll_cons_mk (Below.trod laidOut (by kernel_rfl) (of_decide_eq_true (by kernel_rfl)) k0 bel lt0) trodAll_mk0), rfl, bel.frame _, fun h => by cases h⟩

theorem over : Rows.noiseCellsRow.holds Try.pinned (OpenSpec.ofChange Rows.noiseCellsSpec) :=
  OpenClaim.holds_of_wide 6 Try.f6 rfl rfl rfl rfl rfl rfl rfl ⟨rfl, rfl, rfl, rfl, rfl⟩ rfl rfl rfl rfl rfl (by kernel_rfl) Try.func6 (by kernel_rfl)
    (of_decide_eq_true (by kernel_rfl)) (by unfold Func.isWrapper; first | (rw [if_pos (by decide +kernel)]; kernel_rfl) | (rw [if_neg (by decide +kernel)]; exact ⟨rfl, rfl⟩))
    (fun os started H enc _ => lifted os started H enc)

end Go.Proofs.Ytacnldmmacjpoaa.noiseCells
namespace Go.Proofs.Ytacnldmmacjpoaa
/-- THE STATEMENT -/
theorem noiseCells_holds : Rows.NoiseCellsSaid := noiseCells.over
#print axioms noiseCells_holds
end Go.Proofs.Ytacnldmmacjpoaa
