/- The law DropAnswers holds for every input: the call returns true and each argument reads afterwards as it read before. No condition is added. -/
import Derived.Test.YtnpfockaigegiaaDropAnswersG
import Derived.Test.YtnpfockaigegiaaRows
import Derived.WalkKit
import Derived.ProofKit
import Derived.OpenShut
import Derived.ShutString
import Derived.ChangeOld
import Derived.SizedLaws
import Derived.Deep.CondSized
import Derived.Below
namespace Go.Proofs.Ytnpfockaigegiaa.dropAnswers
open Go.ChangeShapes Go.WideShapes Go.ChangeAt Go.RowKit
open Go.ChangeMaps (open_string shut_string)
set_option linter.unusedVariables false

theorem own : ownKnob Try.prog.godebug = none := by kernel_rfl
theorem laidOut : laidOutB Try.prog = true := by kernel_rfl

theorem walk (a0 : Option Addr) (len0 cap0 : Nat) (L0 : Go.Sx.Loc) (C0 : List Go.Sx.Col) (w : World) (w0 : Go.Sx.VRep w L0 C0) (e0 : Value.slice a0 len0 cap0 = .slice L0.a L0.len L0.cap) (k0 : Go.Sx.kdsOf C0 = [.rows .u8]) (f0 : ∀ col ∈ C0, col.wf) (s0 : L0.len * Try.prog.bytesOf 27 ≤ reachBytes) :
    Calls Try.prog 5 #[.slice a0 len0 cap0] w fun e w' => e = .returned (.bool true) ∧ Below w.heap.size w w' := by
  obtain ⟨c, rfl, hc⟩ := Go.Sx.cols_one k0
  obtain ⟨KL, rfl⟩ := Go.Sx.kd_rows hc (f0 _ (by simp))
  have hok : KL.length = L0.len := w0.ok _ (List.mem_singleton.2 rfl)
  rw [show Try.prog.bytesOf 27 = 24 by kernel_rfl] at s0
  have hs : L0.len * 24 ≤ 140737488351232 := s0
  have hr := Go.Sx.rows_bytes (f0 _ (List.mem_singleton.2 rfl))
  have hm : ∀ p ∈ KL, p.length ≤ 140737488355328 ∧ Go.Sx.Bs p := fun p hp => by
    obtain ⟨i, hi⟩ := List.mem_iff_getElem?.1 hp
    have h := hr i
    have e : Go.Sx.llget KL i = p := by simp only [Go.Sx.llget, List.getD, hi, Option.getD_some]
    rw [e] at h; exact h
  obtain ⟨n, hn⟩ := Go.Proofs.Ytnpfockaigegiaa.G.dropAnswers_plain (ll := KL) ⟨by omega, fun p hp => (hm p hp).1⟩ ⟨fun p hp => (hm p hp).2⟩
  exact Go.Sx.law_mem (D := [⟨777777, [], true, false⟩]) Go.Proofs.Ytnpfockaigegiaa.G.mixed Go.Proofs.Ytnpfockaigegiaa.G.d5_good Try.func5 (by kernel_rfl) (.recs w0 e0 (.nil _)) (by simp) hn

set_option maxRecDepth 100000 in
theorem lifted (os : Os) (started : os.Started) (H : Type) (enc : TypeId × Value → H) :
    ReturnsInHanded {} Try.checked os 5 .any (Rows.dropAnswersSpec.pre6 enc Try.prog Try.f5 Rows.dropAnswersRow.domain false) (Rows.dropAnswersSpec.post enc Try.prog Try.f5 false true false false) := by
  refine returnsInHanded_of_change_sized (C := Try.checked) own started (by kernel_rfl) Try.func5
    (ChangeSpec.witness6 (enc := enc) (C := Try.checked) false ⟨#[], #[.slice none 0 0], []⟩ 8 (by kernel_rfl) (by kernel_rfl) (by kernel_rfl) (by kernel_rfl)) ?_
  intro W base args ds gs before hval0 hW hcnd hsz _
  have hval : ∀ (j : Nat) t v, Try.f5.params[j]? = some t → args[j]? = some v → Value.okWide Try.prog W .any base t v := hval0
  have hW' := hW
  obtain ⟨p, q, hA0, hV, rfl, hfz, hnd⟩ := hW
  have hA : DataW.TrodAll enc Try.prog W 0 (fun _ => true) true Try.f5.params.toList args.toList ds p := hA0
  rw [Try.params5] at hA hval
  obtain ⟨v0, vs0, d0, ds0, p0, q0, hargs, rfl, rfl, h0, r0⟩ := trodAll_cons hA
  obtain ⟨rfl, rfl, rfl⟩ := trodAll_nil r0
  obtain rfl : args = #[v0] := by cases args; simp_all
  obtain ⟨rfl, rfl⟩ := trodVars_none hV
  have k0 := h0
  have lt0 : ∀ x ∈ p0, x.block < W.heap.size := by obtain ⟨m, hm⟩ := k0; exact DataW.trod_lt m _ _ _ hm
  obtain ⟨a0, len0, cap0, rfl⟩ := okWide_slice Try.underlying22 (hval 0 22 v0 rfl rfl)
  obtain ⟨L0, C0, w0, e0, kk0, f0, s0⟩ := Go.Sx.open_recs (ks := [.rows .u8]) Try.underlying22 (by kernel_rfl) (by decide) (by kernel_rfl) h0 hsz (j := 0) (by rfl) (by rfl)
  clear hA0 hval0
  refine (walk a0 len0 cap0 L0 C0 W w0 e0 kk0 f0 s0).mono fun e W' ⟨he, bel⟩ => ?_
  subst he
  exact ⟨_, rfl, _, _, _, [], _, [], hW', trodAll_mk1 (shut_bool Try.underlying4 _), (trodAll_cons_mk (Below.trod laidOut (by kernel_rfl) (of_decide_eq_true (by kernel_rfl)) k0 bel lt0) trodAll_mk0), rfl, bel.frame _, fun h => by cases h⟩

theorem over : Rows.dropAnswersRow.holds Try.pinned (OpenSpec.ofChange Rows.dropAnswersSpec) :=
  OpenClaim.holds_of_wide 5 Try.f5 rfl rfl rfl rfl rfl rfl rfl ⟨rfl, rfl, rfl, rfl, rfl⟩ rfl rfl rfl rfl rfl (by kernel_rfl) Try.func5 (by kernel_rfl)
    (of_decide_eq_true (by kernel_rfl)) (by unfold Func.isWrapper; first | (rw [if_pos (by decide +kernel)]; kernel_rfl) | (rw [if_neg (by decide +kernel)]; exact ⟨rfl, rfl⟩))
    (fun os started H enc _ => lifted os started H enc)

end Go.Proofs.Ytnpfockaigegiaa.dropAnswers
namespace Go.Proofs.Ytnpfockaigegiaa
/-- THE STATEMENT -/
theorem dropAnswers_holds : Rows.DropAnswersSaid := dropAnswers.over
#print axioms dropAnswers_holds
end Go.Proofs.Ytnpfockaigegiaa
