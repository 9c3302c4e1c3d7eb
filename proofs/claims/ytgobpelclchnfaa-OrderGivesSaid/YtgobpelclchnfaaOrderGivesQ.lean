/- The law OrderGives holds for every input: the call returns true and each argument reads afterwards as it read before. No condition is added. -/
import Derived.Test.YtgobpelclchnfaaOrderGivesF
import Derived.Test.YtgobpelclchnfaaRows
import Derived.WalkKit
import Derived.ProofKit
import Derived.OpenShut
import Derived.ShutString
import Derived.ChangeOld
import Derived.SizedLaws
import Derived.Deep.CondSized
import Derived.Below
namespace Go.Proofs.Ytgobpelclchnfaa.orderGives
open Go.ChangeShapes Go.WideShapes Go.ChangeAt Go.RowKit
open Go.ChangeMaps (open_string shut_string)
set_option linter.unusedVariables false

theorem own : ownKnob Try.prog.godebug = none := by kernel_rfl
theorem laidOut : laidOutB Try.prog = true := by kernel_rfl

theorem walk (a0 : Option Addr) (len0 cap0 : Nat) (z0 : List Int) (w : World) (w0 : Go.Sx.IsRow .i64 w a0 len0 cap0 z0) (s0 : z0.length * 8 ≤ reachBytes) :
    Calls Try.prog 6 #[.slice a0 len0 cap0] w fun e w' => e = .returned (.bool true) ∧ Below w.heap.size w w' := by
  have hl : (z0.take len0).length ≤ z0.length := by simp; omega
  have h2 : z0.length * 8 ≤ 140737488351232 := s0
  obtain ⟨n, hn⟩ := Go.Proofs.Ytgobpelclchnfaa.G.orderGives_plain (l := z0.take len0) (fun x hx => by
    obtain ⟨i, hi, rfl⟩ := List.mem_iff_getElem.1 hx
    have h := w0.i64 i hi
    have e : Go.Sx.lget (z0.take len0) i = (z0.take len0)[i] := by simp only [Go.Sx.lget, List.getD, List.getElem?_eq_getElem hi, Option.getD_some]
    rw [← e]; exact ⟨h.lo, h.hi⟩) (by omega)
  exact Go.Sx.law_mem (D := [⟨3, [.ints .i64], true, false⟩, ⟨777777, [], true, false⟩]) Go.Proofs.Ytgobpelclchnfaa.G.mixed Go.Proofs.Ytgobpelclchnfaa.G.o3_good Try.func6 (by kernel_rfl) (.ints w0 (.nil _)) (by simp) hn

set_option maxRecDepth 100000 in
theorem lifted (os : Os) (started : os.Started) (H : Type) (enc : TypeId × Value → H) :
    ReturnsInHanded {} Try.checked os 6 .any (Rows.orderGivesSpec.pre6 enc Try.prog Try.f6 Rows.orderGivesRow.domain false) (Rows.orderGivesSpec.post enc Try.prog Try.f6 false true false false) := by
  refine returnsInHanded_of_change_sized (C := Try.checked) own started (by kernel_rfl) Try.func6
    (ChangeSpec.witness6 (enc := enc) (C := Try.checked) false ⟨#[], #[.slice none 0 0], []⟩ 8 (by kernel_rfl) (by kernel_rfl) (by kernel_rfl) (by kernel_rfl)) ?_
  intro W base args ds gs before hval0 hW hcnd hsz _
  have hval : ∀ (j : Nat) t v, Try.f6.params[j]? = some t → args[j]? = some v → Value.okWide Try.prog W .any base t v := hval0
  have hW' := hW
  obtain ⟨p, q, hA0, hV, rfl, hfz, hnd⟩ := hW
  have hA : DataW.TrodAll enc Try.prog W 0 (fun _ => true) true Try.f6.params.toList args.toList ds p := hA0
  rw [Try.params6] at hA hval
  obtain ⟨v0, vs0, d0, ds0, p0, q0, hargs, rfl, rfl, h0, r0⟩ := trodAll_cons hA
  obtain ⟨rfl, rfl, rfl⟩ := trodAll_nil r0
  obtain rfl : args = #[v0] := by cases args; simp_all
  obtain ⟨rfl, rfl⟩ := trodVars_none hV
  have k0 := h0
  have lt0 : ∀ x ∈ p0, x.block < W.heap.size := by obtain ⟨m, hm⟩ := k0; exact DataW.trod_lt m _ _ _ hm
  obtain ⟨a0, len0, cap0, rfl⟩ := okWide_slice Try.underlying53 (hval 0 53 v0 rfl rfl)
  obtain ⟨z0, w0, s0⟩ := Go.Sx.open_row_sized Try.underlying53 Try.underlying3 (by kernel_rfl) h0 hsz (j := 0) (by rfl) (by rfl)
  rw [show Try.prog.bytesOf 3 = 8 by kernel_rfl] at s0
  clear hA0 hval0
  refine (walk a0 len0 cap0 z0 W w0 s0).mono fun e W' ⟨he, bel⟩ => ?_
  subst he
  exact ⟨_, rfl, _, _, _, [], _, [], hW', trodAll_mk1 (shut_bool Try.underlying4 _), (trodAll_cons_mk (Below.trod laidOut (by kernel_rfl) (of_decide_eq_true (by kernel_rfl)) k0 bel lt0) trodAll_mk0), rfl, bel.frame _, fun h => by cases h⟩

theorem over : Rows.orderGivesRow.holds Try.pinned (OpenSpec.ofChange Rows.orderGivesSpec) :=
  OpenClaim.holds_of_wide 6 Try.f6 rfl rfl rfl rfl rfl rfl rfl ⟨rfl, rfl, rfl, rfl, rfl⟩ rfl rfl rfl rfl rfl (by kernel_rfl) Try.func6 (by kernel_rfl)
    (of_decide_eq_true (by kernel_rfl)) (by unfold Func.isWrapper; first | (rw [if_pos (by decide +kernel)]; kernel_rfl) | (rw [if_neg (by decide +kernel)]; exact ⟨rfl, rfl⟩))
    (fun os started H enc _ => lifted os started H enc)

end Go.Proofs.Ytgobpelclchnfaa.orderGives
namespace Go.Proofs.Ytgobpelclchnfaa
/-- THE STATEMENT -/
theorem orderGives_holds : Rows.OrderGivesSaid := orderGives.over
#print axioms orderGives_holds
end Go.Proofs.Ytgobpelclchnfaa
