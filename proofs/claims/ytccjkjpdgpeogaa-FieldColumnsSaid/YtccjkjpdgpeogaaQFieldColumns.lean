/- The law FieldColumns holds for every input: the call returns true and each argument reads afterwards as it read before. No condition is added. -/
import Derived.Test.YtccjkjpdgpeogaaFieldR2
import Derived.Test.YtccjkjpdgpeogaaSx17
import Derived.Test.YtccjkjpdgpeogaaRows
import Derived.WalkKit
import Derived.ProofKit
import Derived.OpenShut
import Derived.ShutString
import Derived.ChangeOld
import Derived.SizedLaws
import Derived.Below
namespace Go.Proofs.Ytccjkjpdgpeogaa.fieldColumns
open Go.ChangeShapes Go.WideShapes Go.ChangeAt Go.RowKit
open Go.ChangeMaps (open_string shut_string)
set_option linter.unusedVariables false

theorem own : ownKnob Try.prog.godebug = none := by kernel_rfl
theorem laidOut : laidOutB Try.prog = true := by kernel_rfl

theorem walk (a0 : List Int) (w : World) (w0 : a0.length = 4 ∧ ∀ z ∈ a0, (Lit.int .u8 z).wf = true) :
    Calls Try.prog 3 #[.agg (a0.map (Value.int .u8)).toArray] w fun e w' => e = .returned (.bool true) ∧ Below w.heap.size w w' := by
  have c0 : Go.Fld.FCol a0 := ⟨w0.1, fun z hz => by
    obtain ⟨h1, h2⟩ := Go.bounds_u8 (w0.2 z hz)
    exact ⟨h1, by omega⟩⟩
  have l0 := w0.1
  have hv : ∀ ρ, Go.Sx.Args ρ [.agg [.ints .u8 4 a0]] [Value.agg (a0.map (Value.int .u8)).toArray] :=
    fun ρ => .cons (Go.Sx.srep_arr ρ .u8 4 _ l0) .nil
  exact Go.Sx.law_pure (D := []) Go.Proofs.Ytccjkjpdgpeogaa.G.mixed Go.Proofs.Ytccjkjpdgpeogaa.G.gamCol_good Try.func3 (by kernel_rfl) rfl (fun ρ j x v h1 h2 => (hv ρ).at j x v h1 (by rw [Array.getElem?_toList]; exact h2)) (Go.Proofs.Ytccjkjpdgpeogaa.G.fieldColumns_plain c0)

set_option maxRecDepth 100000 in
theorem lifted (os : Os) (started : os.Started) (H : Type) (enc : TypeId × Value → H) :
    ReturnsInHanded {} Try.checked os 3 .any (Rows.fieldColumnsSpec.pre6 enc Try.prog Try.f3 Rows.fieldColumnsRow.domain false) (Rows.fieldColumnsSpec.post enc Try.prog Try.f3 false true false false) := by
  refine returnsInHanded_of_change (C := Try.checked) own started (by kernel_rfl) Try.func3
    (ChangeSpec.witness6 (enc := enc) (C := Try.checked) false ⟨#[], #[.agg #[.int .u8 0, .int .u8 0, .int .u8 0, .int .u8 0]], []⟩ 8 (by kernel_rfl) (by kernel_rfl) (by kernel_rfl) (by kernel_rfl)) ?_
  intro W base args ds gs before hval0 hW hcnd _
  have hval : ∀ (j : Nat) t v, Try.f3.params[j]? = some t → args[j]? = some v → Value.okWide Try.prog W .any base t v := hval0
  have hW' := hW
  obtain ⟨p, q, hA0, hV, rfl, hfz, hnd⟩ := hW
  have hA : DataW.TrodAll enc Try.prog W 0 (fun _ => true) true Try.f3.params.toList args.toList ds p := hA0
  rw [Try.params3] at hA hval
  obtain ⟨v0, vs0, d0, ds0, p0, q0, hargs, rfl, rfl, h0, r0⟩ := trodAll_cons hA
  obtain ⟨rfl, rfl, rfl⟩ := trodAll_nil r0
  obtain rfl : args = #[v0] := by cases args; simp_all
  obtain ⟨rfl, rfl⟩ := trodVars_none hV
  have k0 := h0
  have lt0 : ∀ x ∈ p0, x.block < W.heap.size := by obtain ⟨m, hm⟩ := k0; exact DataW.trod_lt m _ _ _ hm
  obtain ⟨a0, rfl, w0⟩ := Go.Sx.open_array Try.underlying22 Try.underlying5 (by kernel_rfl) (by kernel_rfl) (hval 0 22 v0 rfl rfl) h0
  clear hA0 hval0
  refine (walk a0 W w0).mono fun e W' ⟨he, bel⟩ => ?_
  subst he
  exact ⟨_, rfl, _, _, _, [], _, [], hW', trodAll_mk1 (shut_bool Try.underlying4 _), (trodAll_cons_mk (Below.trod laidOut (by kernel_rfl) (of_decide_eq_true (by kernel_rfl)) k0 bel lt0) trodAll_mk0), rfl, bel.frame _, fun h => by cases h⟩

theorem over : Rows.fieldColumnsRow.holds Try.pinned (OpenSpec.ofChange Rows.fieldColumnsSpec) :=
  OpenClaim.holds_of_wide 3 Try.f3 rfl rfl rfl rfl rfl rfl rfl ⟨rfl, rfl, rfl, rfl, rfl⟩ rfl rfl rfl rfl rfl (by kernel_rfl) Try.func3 (by kernel_rfl)
    (of_decide_eq_true (by kernel_rfl)) (by unfold Func.isWrapper; first | (rw [if_pos (by decide +kernel)]; kernel_rfl) | (rw [if_neg (by decide +kernel)]; exact ⟨rfl, rfl⟩))
    (fun os started H enc _ => lifted os started H enc)

end Go.Proofs.Ytccjkjpdgpeogaa.fieldColumns
namespace Go.Proofs.Ytccjkjpdgpeogaa
/-- THE STATEMENT -/
theorem fieldColumns_holds : Rows.FieldColumnsSaid := fieldColumns.over
#print axioms fieldColumns_holds
end Go.Proofs.Ytccjkjpdgpeogaa
