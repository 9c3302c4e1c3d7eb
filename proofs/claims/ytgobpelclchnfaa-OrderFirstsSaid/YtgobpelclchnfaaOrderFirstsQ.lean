/- The law OrderFirsts holds for every input: the call returns true and each argument reads afterwards as it read before. No condition is added. -/
import Derived.Test.YtgobpelclchnfaaOrderFirstsD
import Derived.Test.YtgobpelclchnfaaRows
import Derived.WalkKit
import Derived.ProofKit
import Derived.OpenShut
import Derived.ShutString
import Derived.ChangeOld
import Derived.SizedLaws
import Derived.Below
namespace Go.Proofs.Ytgobpelclchnfaa.orderFirsts
open Go.ChangeShapes Go.WideShapes Go.ChangeAt Go.RowKit
open Go.ChangeMaps (open_string shut_string)
set_option linter.unusedVariables false

theorem own : ownKnob Try.prog.godebug = none := by kernel_rfl
theorem laidOut : laidOutB Try.prog = true := by kernel_rfl

theorem walk (a0 : Option Addr) (len0 cap0 : Nat) (L0 : Go.Sx.Loc) (C0 : List Go.Sx.Col) (w : World) (w0 : Go.Sx.VRep w L0 C0) (e0 : Value.slice a0 len0 cap0 = .slice L0.a L0.len L0.cap) (k0 : Go.Sx.kdsOf C0 = [.ints .i64, .ints .i64]) (f0 : ∀ col ∈ C0, col.wf) (s0 : L0.len * Try.prog.bytesOf 32 ≤ reachBytes) :
    Calls Try.prog 4 #[.slice a0 len0 cap0] w fun e w' => e = .returned (.bool true) ∧ Below w.heap.size w w' := by
  obtain ⟨c1, c2, rfl, hc1, hc2⟩ := Go.Sx.cols_two k0
  obtain ⟨I, rfl⟩ := Go.Sx.kd_ints hc1
  obtain ⟨E, rfl⟩ := Go.Sx.kd_ints hc2
  have o1 : I.length = L0.len := w0.ok (.ints .i64 I) (by simp)
  have o2 : E.length = L0.len := w0.ok (.ints .i64 E) (by simp)
  have hT : Go.Ord.Two I E := by
    rw [show Try.prog.bytesOf 32 = 16 by kernel_rfl] at s0
    have h2 : L0.len * 16 ≤ 140737488351232 := s0
    exact ⟨by omega, by omega⟩
  obtain ⟨n, hn⟩ := Go.Proofs.Ytgobpelclchnfaa.G.orderFirsts_plain hT
  exact Go.Sx.law_mem (D := [⟨12, [], true, false⟩]) Go.Proofs.Ytgobpelclchnfaa.G.mixed Go.Proofs.Ytgobpelclchnfaa.G.gamF1_good Try.func4 (by kernel_rfl) (.recs w0 e0 (.nil _)) (by simp) hn

set_option maxRecDepth 100000 in
theorem lifted (os : Os) (started : os.Started) (H : Type) (enc : TypeId × Value → H) :
    ReturnsInHanded {} Try.checked os 4 .any (Rows.orderFirstsSpec.pre6 enc Try.prog Try.f4 Rows.orderFirstsRow.domain false) (Rows.orderFirstsSpec.post enc Try.prog Try.f4 false true false false) := by
  refine returnsInHanded_of_change_sized (C := Try.checked) own started (by kernel_rfl) Try.func4
    (ChangeSpec.witness6 (enc := enc) (C := Try.checked) false ⟨#[], #[.slice none 0 0], []⟩ 8 (by kernel_rfl) (by kernel_rfl) (by kernel_rfl) (by kernel_rfl)) ?_
  intro W base args ds gs before hval0 hW hcnd hsz _
  have hval : ∀ (j : Nat) t v, Try.f4.params[j]? = some t → args[j]? = some v → Value.okWide Try.prog W .any base t v := hval0
  have hW' := hW
  obtain ⟨p, q, hA0, hV, rfl, hfz, hnd⟩ := hW
  have hA : DataW.TrodAll enc Try.prog W 0 (fun _ => true) true Try.f4.params.toList args.toList ds p := hA0
  rw [Try.params4] at hA hval
  obtain ⟨v0, vs0, d0, ds0, p0, q0, hargs, rfl, rfl, h0, r0⟩ := trodAll_cons hA
  obtain ⟨rfl, rfl, rfl⟩ := trodAll_nil r0
  obtain rfl : args = #[v0] := by cases args; simp_all
  obtain ⟨rfl, rfl⟩ := trodVars_none hV
  have k0 := h0
  have lt0 : ∀ x ∈ p0, x.block < W.heap.size := by obtain ⟨m, hm⟩ := k0; exact DataW.trod_lt m _ _ _ hm
  obtain ⟨a0, len0, cap0, rfl⟩ := okWide_slice Try.underlying22 (hval 0 22 v0 rfl rfl)
  obtain ⟨L0, C0, w0, e0, kk0, f0, s0⟩ := Go.Sx.open_recs (ks := [.ints .i64, .ints .i64]) Try.underlying22 (by kernel_rfl) (by decide) (by kernel_rfl) h0 hsz (j := 0) (by rfl) (by rfl)
  clear hA0 hval0
  refine (walk a0 len0 cap0 L0 C0 W w0 e0 kk0 f0 s0).mono fun e W' ⟨he, bel⟩ => ?_
  subst he
  exact ⟨_, rfl, _, _, _, [], _, [], hW', trodAll_mk1 (shut_bool Try.underlying4 _), (trodAll_cons_mk (Below.trod laidOut (by kernel_rfl) (of_decide_eq_true (by kernel_rfl)) k0 bel lt0) trodAll_mk0), rfl, bel.frame _, fun h => by cases h⟩

theorem over : Rows.orderFirstsRow.holds Try.pinned (OpenSpec.ofChange Rows.orderFirstsSpec) :=
  OpenClaim.holds_of_wide 4 Try.f4 rfl rfl rfl rfl rfl rfl rfl ⟨rfl, rfl, rfl, rfl, rfl⟩ rfl rfl rfl rfl rfl (by kernel_rfl) Try.func4 (by kernel_rfl)
    (of_decide_eq_true (by kernel_rfl)) (by unfold Func.isWrapper; first | (rw [if_pos (by decide +kernel)]; kernel_rfl) | (rw [if_neg (by decide +kernel)]; exact ⟨rfl, rfl⟩))
    (fun os started H enc _ => lifted os started H enc)

end Go.Proofs.Ytgobpelclchnfaa.orderFirsts
namespace Go.Proofs.Ytgobpelclchnfaa
/-- THE STATEMENT -/
theorem orderFirsts_holds : Rows.OrderFirstsSaid := orderFirsts.over
#print axioms orderFirsts_holds
end Go.Proofs.Ytgobpelclchnfaa
