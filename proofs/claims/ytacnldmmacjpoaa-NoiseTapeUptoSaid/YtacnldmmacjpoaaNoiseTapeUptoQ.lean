/- The law NoiseTape holds for every input: the call returns true and each argument reads afterwards as it read before. No condition is added. -/
import Derived.Test.YtacnldmmacjpoaaNoiseTapeUptoH
import Derived.Test.YtacnldmmacjpoaaRows
import Derived.WalkKit
import Derived.ProofKit
import Derived.OpenShut
import Derived.ShutString
import Derived.ChangeOld
import Derived.SizedLaws
import Derived.Deep.CondSized
import Derived.Below
namespace Go.Proofs.Ytacnldmmacjpoaa.noiseTape
open Go.ChangeShapes Go.WideShapes Go.ChangeAt Go.RowKit
open Go.ChangeMaps (open_string shut_string)
set_option linter.unusedVariables false

theorem own : ownKnob Try.prog.godebug = none := by kernel_rfl
theorem laidOut : laidOutB Try.prog = true := by kernel_rfl

theorem walk (a0_0 : Option Addr) (len0_0 cap0_0 : Nat) (z0_0 : List Int) (x0_1 : Int) (x0_2 : Int) (x0_3 : Int) (x0_4 : Int) (x0_5 : Int) (a1 : Option Addr) (len1 cap1 : Nat) (z1 : List Int) (w : World) (w0_0 : Go.Sx.IsRow .u8 w a0_0 len0_0 cap0_0 z0_0) (s0_0 : z0_0.length ≤ reachBytes) (u0_0 : cap0_0 ≤ 1048576) (w0_1 : (Lit.int .i64 x0_1).wf = true) (w0_2 : (Lit.int .i64 x0_2).wf = true) (w0_3 : (Lit.int .i64 x0_3).wf = true) (w0_4 : (Lit.int .i64 x0_4).wf = true) (w0_5 : (Lit.int .i64 x0_5).wf = true) (w1 : Go.Sx.IsRow .u8 w a1 len1 cap1 z1) (s1 : z1.length * 1 ≤ reachBytes) (u1 : cap1 ≤ 1048576) :
    Calls Try.prog 7 #[.agg (List.toArray (Value.slice a0_0 len0_0 cap0_0 :: (Value.int .i64 x0_1 :: (Value.int .i64 x0_2 :: (Value.int .i64 x0_3 :: (Value.int .i64 x0_4 :: (Value.int .i64 x0_5 :: []))))))), .slice a1 len1 cap1] w fun e w' => e = .returned (.bool true) ∧ Below w.heap.size w w' := by
  have b0 : z0_0.length = cap0_0 := Go.Proofs.Ytacnldmmacjpoaa.upto.IsRow.cap_eq w0_0
  have b1 : z1.length = cap1 := Go.Proofs.Ytacnldmmacjpoaa.upto.IsRow.cap_eq w1
  have l0 : (z0_0.take len0_0).length ≤ z0_0.length := by simp; omega
  have l1 : (z1.take len1).length ≤ z1.length := by simp; omega
  obtain ⟨n, hh⟩ := Go.Proofs.Ytacnldmmacjpoaa.G.noiseTape_plain (p := z0_0.take len0_0) (q := z1.take len1) (n := x0_1) (d := x0_2) (k := x0_3) (c := x0_4) (l := x0_5) (by omega) (by omega) ⟨w0_0.bytes⟩ ⟨w1.bytes⟩
  exact Go.Sx.law_mem (D := [⟨777777, [], true, false⟩]) Go.Proofs.Ytacnldmmacjpoaa.G.mixed Go.Proofs.Ytacnldmmacjpoaa.G.gamN9_good Try.func7 (by kernel_rfl) (.agg (.ints w0_0 (.num (.num (.num (.num (.num (.nil _))))))) (.ints w1 (.heap (k := .u8) (.nil _)))) (by simp) hh

set_option maxRecDepth 100000 in
theorem lifted (os : Os) (started : os.Started) (H : Type) (enc : TypeId × Value → H) (F : Stop.Interp) :
    ReturnsInHanded {} Try.checked os 7 .any ((Rows.OpenSpec.upto Rows.noiseTapeSpec).pre6 enc Try.prog Try.f7 Rows.noiseTapeUptoRow.domain false) (((Rows.OpenSpec.upto Rows.noiseTapeSpec).at F).post enc Try.prog Try.f7 false true false false) := by
  refine returnsInHanded_of_cond_sized (C := Try.checked) (s := (Rows.OpenSpec.upto Rows.noiseTapeSpec)) (k := Rows.uptoSmall) rfl own started (by kernel_rfl) Try.func7
    (OpenSpec.witness (enc := enc) (C := Try.checked) (s := (Rows.OpenSpec.upto Rows.noiseTapeSpec)) (k := Rows.uptoSmall) rfl false ⟨#[], #[.agg #[.slice none 0 0, .int .i64 0, .int .i64 0, .int .i64 0, .int .i64 0, .int .i64 0], .slice none 0 0], []⟩ 8 (by kernel_rfl) (by kernel_rfl) (by kernel_rfl)
      (x := ([.agg [.nil, .lit (.int .i64 0), .lit (.int .i64 0), .lit (.int .i64 0), .lit (.int .i64 0), .lit (.int .i64 0)], .nil], [], [])) (by kernel_rfl) rfl (by kernel_rfl)) ?_
  intro W base args ds gs before hval0 hW hcnd hbk hsz _
  have hval : ∀ (j : Nat) t v, Try.f7.params[j]? = some t → args[j]? = some v → Value.okWide Try.prog W .any base t v := hval0
  have hW' := hW
  obtain ⟨p, q, hA0, hV, rfl, hfz, hnd⟩ := hW
  have hA : DataW.TrodAll enc Try.prog W 0 (fun _ => true) true Try.f7.params.toList args.toList ds p := hA0
  rw [Try.params7] at hA hval
  obtain ⟨v0, vs0, d0, ds0, p0, q0, hargs, rfl, rfl, h0, r0⟩ := trodAll_cons hA
  obtain ⟨v1, vs1, d1, ds1, p1, q1, rfl, rfl, rfl, h1, r1⟩ := trodAll_cons r0
  obtain ⟨rfl, rfl, rfl⟩ := trodAll_nil r1
  obtain rfl : args = #[v0, v1] := by cases args; simp_all
  obtain ⟨rfl, rfl⟩ := trodVars_none hV
  have k0 := h0
  have lt0 : ∀ x ∈ p0, x.block < W.heap.size := by obtain ⟨m, hm⟩ := k0; exact DataW.trod_lt m _ _ _ hm
  obtain ⟨cs0, rfl, ln0, kd0⟩ := Go.Sx.open_struct (ks := [.rows .u8, .ints .i64, .ints .i64, .ints .i64, .ints .i64, .ints .i64]) Try.underlying33 (by kernel_rfl) (hval 0 33 v0 rfl rfl) h0 hsz (j := 0) (by rfl) (by rfl)
  obtain ⟨a0_0, len0_0, cap0_0, z0_0, w0_0, s0_0, e0_0, kd0⟩ := kd0.rows
  obtain ⟨x0_1, w0_1, e0_1, kd0⟩ := kd0.ints
  obtain ⟨x0_2, w0_2, e0_2, kd0⟩ := kd0.ints
  obtain ⟨x0_3, w0_3, e0_3, kd0⟩ := kd0.ints
  obtain ⟨x0_4, w0_4, e0_4, kd0⟩ := kd0.ints
  obtain ⟨x0_5, w0_5, e0_5, kd0⟩ := kd0.ints
  obtain rfl : cs0 = (Value.slice a0_0 len0_0 cap0_0 :: (Value.int .i64 x0_1 :: (Value.int .i64 x0_2 :: (Value.int .i64 x0_3 :: (Value.int .i64 x0_4 :: (Value.int .i64 x0_5 :: [])))))) := by rw [← List.drop_zero (l := cs0), e0_0, e0_1, e0_2, e0_3, e0_4, e0_5, List.drop_of_length_le (by rw [ln0]; decide)]
  have u0_0 : cap0_0 ≤ 1048576 := Nat.le_trans (upto.cap_field (i := 0) Try.underlying33 k0 (by rfl) Try.underlying31 Try.underlying5 (by kernel_rfl) (by kernel_rfl) (by rfl)) (upto.each hbk (by simp))
  have k1 := h1
  have lt1 : ∀ x ∈ p1, x.block < W.heap.size := by obtain ⟨m, hm⟩ := k1; exact DataW.trod_lt m _ _ _ hm
  obtain ⟨a1, len1, cap1, rfl⟩ := okWide_slice Try.underlying31 (hval 1 31 v1 rfl rfl)
  obtain ⟨z1, w1, s1⟩ := Go.Sx.open_row_sized Try.underlying31 Try.underlying5 (by kernel_rfl) h1 hsz (j := 1) (by rfl) (by rfl)
  rw [show Try.prog.bytesOf 5 = 1 by kernel_rfl] at s1
  have u1 : cap1 ≤ 1048576 := Nat.le_trans (upto.cap_slice Try.underlying31 Try.underlying5 (by kernel_rfl) k1) (upto.each hbk (by simp))
  clear hA0 hval0
  refine (walk a0_0 len0_0 cap0_0 z0_0 x0_1 x0_2 x0_3 x0_4 x0_5 a1 len1 cap1 z1 W w0_0 s0_0 u0_0 w0_1 w0_2 w0_3 w0_4 w0_5 w1 s1 u1).mono fun e W' ⟨he, bel⟩ => ?_
  subst he
  exact ⟨_, rfl, _, _, _, [], _, [], hW', trodAll_mk1 (shut_bool Try.underlying4 _), (trodAll_cons_mk (Below.trod laidOut (by kernel_rfl) (of_decide_eq_true (by kernel_rfl)) k0 bel lt0) (trodAll_cons_mk (Below.trod laidOut (by kernel_rfl) (of_decide_eq_true (by kernel_rfl)) k1 bel lt1) trodAll_mk0)), rfl, bel.frame _, fun h => by cases h⟩

theorem over : Rows.noiseTapeUptoRow.holds Try.pinned (Rows.OpenSpec.upto Rows.noiseTapeSpec) :=
  OpenClaim.holds_of_cond 7 Try.f7 rfl rfl rfl rfl rfl rfl rfl ⟨rfl, rfl, rfl, rfl, rfl⟩ rfl rfl rfl rfl rfl (by kernel_rfl) Try.func7 (by kernel_rfl)
    (of_decide_eq_true (by kernel_rfl)) (by unfold Func.isWrapper; first | (rw [if_pos (by decide +kernel)]; kernel_rfl) | (rw [if_neg (by decide +kernel)]; exact ⟨rfl, rfl⟩))
    (fun os started H enc _ F => lifted os started H enc F)

end Go.Proofs.Ytacnldmmacjpoaa.noiseTape
namespace Go.Proofs.Ytacnldmmacjpoaa
/-- THE STATEMENT -/
theorem noiseTape_holds : Rows.NoiseTapeUptoSaid := noiseTape.over
#print axioms noiseTape_holds
end Go.Proofs.Ytacnldmmacjpoaa
