/- The law BlockCounts holds for every input: the call returns true and each argument reads afterwards as it read before. No condition is added. -/
import Derived.Test.YtkecbjohbihfmaaBlockCountsD
import Derived.Test.YtkecbjohbihfmaaRows
import Derived.WalkKit
import Derived.ProofKit
import Derived.OpenShut
import Derived.ShutString
import Derived.ChangeOld
import Derived.SizedLaws
import Derived.Below
namespace Go.Proofs.Ytkecbjohbihfmaa.blockCounts
open Go.ChangeShapes Go.WideShapes Go.ChangeAt Go.RowKit
open Go.ChangeMaps (open_string shut_string)
set_option linter.unusedVariables false

theorem own : ownKnob Try.prog.godebug = none := by kernel_rfl
theorem laidOut : laidOutB Try.prog = true := by kernel_rfl

theorem walk (a0 : List Int) (a1 : List Int) (a2 : Int) (w : World) (w0 : a0.length = 16 ∧ ∀ z ∈ a0, (Lit.int .u8 z).wf = true) (w1 : a1.length = 16 ∧ ∀ z ∈ a1, (Lit.int .u8 z).wf = true) (w2 : (Lit.int .i64 a2).wf = true) :
    Calls Try.prog 7 #[.agg (a0.map (Value.int .u8)).toArray, .agg (a1.map (Value.int .u8)).toArray, .int .i64 a2] w fun e w' => e = .returned (.bool true) ∧ Below w.heap.size w w' := by
  have hk : Go.Blk.BL 16 a0 := ⟨w0.1, fun z hz => by
    obtain ⟨h1, h2⟩ := Go.bounds_u8 (w0.2 z hz)
    exact ⟨h1, by omega⟩⟩
  have hb : Go.Blk.BL 16 a1 := ⟨w1.1, fun z hz => by
    obtain ⟨h1, h2⟩ := Go.bounds_u8 (w1.2 z hz)
    exact ⟨h1, by omega⟩⟩
  have l0 := w0.1
  have l1 := w1.1
  obtain ⟨f, hf⟩ := Go.Proofs.Ytkecbjohbihfmaa.G.blockCounts_plain (n := a2) hk hb
  exact Go.Sx.law_mem (D := [⟨777777, [], true, false⟩]) Go.Proofs.Ytkecbjohbihfmaa.G.mixed Go.Proofs.Ytkecbjohbihfmaa.G.gamB9_good Try.func7 (by kernel_rfl) (.plain (fun ρ => Go.Sx.srep_arr ρ .u8 16 _ l0) (.plain (fun ρ => Go.Sx.srep_arr ρ .u8 16 _ l1) (.plain (fun ρ => Go.Sx.srep_int ρ .i64 a2) (.nil _)))) (by simp) hf

set_option maxRecDepth 100000 in
theorem lifted (os : Os) (started : os.Started) (H : Type) (enc : TypeId × Value → H) :
    ReturnsInHanded {} Try.checked os 7 .any (Rows.blockCountsSpec.pre6 enc Try.prog Try.f7 Rows.blockCountsRow.domain false) (Rows.blockCountsSpec.post enc Try.prog Try.f7 false true false false) := by
  refine returnsInHanded_of_change (C := Try.checked) own started (by kernel_rfl) Try.func7
    (ChangeSpec.witness6 (enc := enc) (C := Try.checked) false ⟨#[], #[.agg #[.int .u8 0, .int .u8 0, .int .u8 0, .int .u8 0, .int .u8 0, .int .u8 0, .int .u8 0, .int .u8 0, .int .u8 0, .int .u8 0, .int .u8 0, .int .u8 0, .int .u8 0, .int .u8 0, .int .u8 0, .int .u8 0], .agg #[.int .u8 0, .int .u8 0, .int .u8 0, .int .u8 0, .int .u8 0, .int .u8 0, .int .u8 0, .int .u8 0, .int .u8 0, .int .u8 0, .int .u8 0, .int .u8 0, .int .u8 0, .int .u8 0, .int .u8 0, .int .u8 0], .int .i64 0], []⟩ 8 (by kernel_rfl) (by kernel_rfl) (by kernel_rfl) (by kernel_rfl)) ?_
  intro W base args ds gs before hval0 hW hcnd _
  have hval : ∀ (j : Nat) t v, Try.f7.params[j]? = some t → args[j]? = some v → Value.okWide Try.prog W .any base t v := hval0
  have hW' := hW
  obtain ⟨p, q, hA0, hV, rfl, hfz, hnd⟩ := hW
  have hA : DataW.TrodAll enc Try.prog W 0 (fun _ => true) true Try.f7.params.toList args.toList ds p := hA0
  rw [Try.params7] at hA hval
  obtain ⟨v0, vs0, d0, ds0, p0, q0, hargs, rfl, rfl, h0, r0⟩ := trodAll_cons hA
  obtain ⟨v1, vs1, d1, ds1, p1, q1, rfl, rfl, rfl, h1, r1⟩ := trodAll_cons r0
  obtain ⟨v2, vs2, d2, ds2, p2, q2, rfl, rfl, rfl, h2, r2⟩ := trodAll_cons r1
  obtain ⟨rfl, rfl, rfl⟩ := trodAll_nil r2
  obtain rfl : args = #[v0, v1, v2] := by cases args; simp_all
  obtain ⟨rfl, rfl⟩ := trodVars_none hV
  have k0 := h0
  have lt0 : ∀ x ∈ p0, x.block < W.heap.size := by obtain ⟨m, hm⟩ := k0; exact DataW.trod_lt m _ _ _ hm
  obtain ⟨a0, rfl, w0⟩ := Go.Sx.open_array Try.underlying22 Try.underlying5 (by kernel_rfl) (by kernel_rfl) (hval 0 22 v0 rfl rfl) h0
  have k1 := h1
  have lt1 : ∀ x ∈ p1, x.block < W.heap.size := by obtain ⟨m, hm⟩ := k1; exact DataW.trod_lt m _ _ _ hm
  obtain ⟨a1, rfl, w1⟩ := Go.Sx.open_array Try.underlying22 Try.underlying5 (by kernel_rfl) (by kernel_rfl) (hval 1 22 v1 rfl rfl) h1
  obtain ⟨a2, rfl, rfl, rfl, w2⟩ := open_int Try.underlying3 (hval 2 3 v2 rfl rfl) h2
  clear hA0 hval0
  refine (walk a0 a1 a2 W w0 w1 w2).mono fun e W' ⟨he, bel⟩ => ?_
  subst he
  exact ⟨_, rfl, _, _, _, [], _, [], hW', trodAll_mk1 (shut_bool Try.underlying4 _), (trodAll_cons_mk (Below.trod laidOut (by kernel_rfl) (of_decide_eq_true (by kernel_rfl)) k0 bel lt0) (trodAll_cons_mk (Below.trod laidOut (by kernel_rfl) (of_decide_eq_true (by kernel_rfl)) k1 bel lt1) (trodAll_cons_mk (shut_int Try.underlying3 w2) trodAll_mk0))), rfl, bel.frame _, fun h => by cases h⟩

theorem over : Rows.blockCountsRow.holds Try.pinned (OpenSpec.ofChange Rows.blockCountsSpec) :=
  OpenClaim.holds_of_wide 7 Try.f7 rfl rfl rfl rfl rfl rfl rfl ⟨rfl, rfl, rfl, rfl, rfl⟩ rfl rfl rfl rfl rfl (by kernel_rfl) Try.func7 (by kernel_rfl)
    (of_decide_eq_true (by kernel_rfl)) (by unfold Func.isWrapper; first | (rw [if_pos (by decide +kernel)]; kernel_rfl) | (rw [if_neg (by decide +kernel)]; exact ⟨rfl, rfl⟩))
    (fun os started H enc _ => lifted os started H enc)

end Go.Proofs.Ytkecbjohbihfmaa.blockCounts
namespace Go.Proofs.Ytkecbjohbihfmaa
/-- THE STATEMENT -/
theorem blockCounts_holds : Rows.BlockCountsSaid := blockCounts.over
#print axioms blockCounts_holds
end Go.Proofs.Ytkecbjohbihfmaa
