/- The law DropTells holds for every input: the call returns true and each argument reads afterwards as it read before. No condition is added. -/
import Derived.Test.YtnpfockaigegiaaDropTellsUptoH
import Derived.Test.YtnpfockaigegiaaRows
import Derived.WalkKit
import Derived.ProofKit
import Derived.OpenShut
import Derived.ShutString
import Derived.ChangeOld
import Derived.SizedLaws
import Derived.Deep.CondSized
import Derived.Below
namespace Go.Proofs.Ytnpfockaigegiaa.dropTells
open Go.ChangeShapes Go.WideShapes Go.ChangeAt Go.RowKit
open Go.ChangeMaps (open_string shut_string)
set_option linter.unusedVariables false

theorem own : ownKnob Try.prog.godebug = none := by kernel_rfl
theorem laidOut : laidOutB Try.prog = true := by kernel_rfl

theorem walk (a0 : List Int) (a1 : Option Addr) (len1 cap1 : Nat) (z1 : List Int) (a2 : Option Addr) (len2 cap2 : Nat) (z2 : List Int) (w : World) (w0 : a0.length = 8 ∧ ∀ z ∈ a0, (Lit.int .u8 z).wf = true) (w1 : Go.Sx.IsRow .u8 w a1 len1 cap1 z1) (s1 : z1.length * 1 ≤ reachBytes) (u1 : cap1 ≤ 1048576) (w2 : Go.Sx.IsRow .u8 w a2 len2 cap2 z2) (s2 : z2.length * 1 ≤ reachBytes) (u2 : cap2 ≤ 1048576) :
    Calls Try.prog 6 #[.agg (a0.map (Value.int .u8)).toArray, .slice a1 len1 cap1, .slice a2 len2 cap2] w fun e w' => e = .returned (.bool true) ∧ Below w.heap.size w w' := by
  have b1 : z1.length = cap1 := Go.Proofs.Ytnpfockaigegiaa.upto.IsRow.cap_eq w1
  have b2 : z2.length = cap2 := Go.Proofs.Ytnpfockaigegiaa.upto.IsRow.cap_eq w2
  have l1 : (z1.take len1).length ≤ z1.length := by simp; omega
  have l2 : (z2.take len2).length ≤ z2.length := by simp; omega
  have l0 := w0.1
  have bn : Go.Sx.Bs a0 := ⟨fun z hz => by
    obtain ⟨h1, h2⟩ := Go.bounds_u8 (w0.2 z hz)
    exact ⟨h1, by omega⟩⟩
  obtain ⟨n, hh⟩ := Go.Proofs.Ytnpfockaigegiaa.G.dropTells_plain (nm := a0) (a := z1.take len1) (b := z2.take len2) bn ⟨w1.bytes⟩ ⟨w2.bytes⟩ (by omega) (by omega)
  exact Go.Sx.law_mem (D := [⟨777777, [], true, false⟩]) Go.Proofs.Ytnpfockaigegiaa.G.mixed Go.Proofs.Ytnpfockaigegiaa.G.d6_good Try.func6 (by kernel_rfl) (.plain (fun ρ => Go.Sx.srep_arr ρ .u8 8 _ l0) (.ints w1 (.ints w2 (.heap (k := .u8) (.nil _))))) (by simp) hh

set_option maxRecDepth 100000 in
theorem lifted (os : Os) (started : os.Started) (H : Type) (enc : TypeId × Value → H) (F : Stop.Interp) :
    ReturnsInHanded {} Try.checked os 6 .any ((Rows.OpenSpec.upto Rows.dropTellsSpec).pre6 enc Try.prog Try.f6 Rows.dropTellsUptoRow.domain false) (((Rows.OpenSpec.upto Rows.dropTellsSpec).at F).post enc Try.prog Try.f6 false true false false) := by
  refine returnsInHanded_of_cond_sized (C := Try.checked) (s := (Rows.OpenSpec.upto Rows.dropTellsSpec)) (k := Rows.uptoSmall) rfl own started (by kernel_rfl) Try.func6
    (OpenSpec.witness (enc := enc) (C := Try.checked) (s := (Rows.OpenSpec.upto Rows.dropTellsSpec)) (k := Rows.uptoSmall) rfl false ⟨#[], #[.agg #[.int .u8 0, .int .u8 0, .int .u8 0, .int .u8 0, .int .u8 0, .int .u8 0, .int .u8 0, .int .u8 0], .slice none 0 0, .slice none 0 0], []⟩ 8 (by kernel_rfl) (by kernel_rfl) (by kernel_rfl)
      (x := ([.agg [.lit (.int .u8 0), .lit (.int .u8 0), .lit (.int .u8 0), .lit (.int .u8 0), .lit (.int .u8 0), .lit (.int .u8 0), .lit (.int .u8 0), .lit (.int .u8 0)], .nil, .nil], [], [])) (by kernel_rfl) rfl (by kernel_rfl)) ?_
  intro W base args ds gs before hval0 hW hcnd hbk hsz _
  have hval : ∀ (j : Nat) t v, Try.f6.params[j]? = some t → args[j]? = some v → Value.okWide Try.prog W .any base t v := hval0
  have hW' := hW
  obtain ⟨p, q, hA0, hV, rfl, hfz, hnd⟩ := hW
  have hA : DataW.TrodAll enc Try.prog W 0 (fun _ => true) true Try.f6.params.toList args.toList ds p := hA0
  rw [Try.params6] at hA hval
  obtain ⟨v0, vs0, d0, ds0, p0, q0, hargs, rfl, rfl, h0, r0⟩ := trodAll_cons hA
  obtain ⟨v1, vs1, d1, ds1, p1, q1, rfl, rfl, rfl, h1, r1⟩ := trodAll_cons r0
  obtain ⟨v2, vs2, d2, ds2, p2, q2, rfl, rfl, rfl, h2, r2⟩ := trodAll_cons r1
  obtain ⟨rfl, rfl, rfl⟩ := trodAll_nil r2
  obtain rfl : args = #[v0, v1, v2] := by cases args; simp_all
  obtain ⟨rfl, rfl⟩ := trodVars_none hV
  have k0 := h0
  have lt0 : ∀ x ∈ p0, x.block < W.heap.size := by obtain ⟨m, hm⟩ := k0; exact DataW.trod_lt m _ _ _ hm
  obtain ⟨a0, rfl, w0⟩ := Go.Sx.open_array Try.underlying35 Try.underlying5 (by kernel_rfl) (by kernel_rfl) (hval 0 35 v0 rfl rfl) h0
  have k1 := h1
  have lt1 : ∀ x ∈ p1, x.block < W.heap.size := by obtain ⟨m, hm⟩ := k1; exact DataW.trod_lt m _ _ _ hm
  obtain ⟨a1, len1, cap1, rfl⟩ := okWide_slice Try.underlying27 (hval 1 27 v1 rfl rfl)
  obtain ⟨z1, w1, s1⟩ := Go.Sx.open_row_sized Try.underlying27 Try.underlying5 (by kernel_rfl) h1 hsz (j := 1) (by rfl) (by rfl)
  rw [show Try.prog.bytesOf 5 = 1 by kernel_rfl] at s1
  have u1 : cap1 ≤ 1048576 := Nat.le_trans (upto.cap_slice Try.underlying27 Try.underlying5 (by kernel_rfl) k1) (upto.each hbk (by simp))
  have k2 := h2
  have lt2 : ∀ x ∈ p2, x.block < W.heap.size := by obtain ⟨m, hm⟩ := k2; exact DataW.trod_lt m _ _ _ hm
  obtain ⟨a2, len2, cap2, rfl⟩ := okWide_slice Try.underlying27 (hval 2 27 v2 rfl rfl)
  obtain ⟨z2, w2, s2⟩ := Go.Sx.open_row_sized Try.underlying27 Try.underlying5 (by kernel_rfl) h2 hsz (j := 2) (by rfl) (by rfl)
  rw [show Try.prog.bytesOf 5 = 1 by kernel_rfl] at s2
  have u2 : cap2 ≤ 1048576 := Nat.le_trans (upto.cap_slice Try.underlying27 Try.underlying5 (by kernel_rfl) k2) (upto.each hbk (by simp))
  clear hA0 hval0
  refine (walk a0 a1 len1 cap1 z1 a2 len2 cap2 z2 W w0 w1 s1 u1 w2 s2 u2).mono fun e W' ⟨he, bel⟩ => ?_
  subst he
  exact ⟨_, rfl, _, _, _, [], _, [], hW', trodAll_mk1 (shut_bool Try.underlying4 _), (trodAll_cons_mk (Below.trod laidOut (by kernel_rfl) (of_decide_eq_true (by kernel_rfl)) k0 bel lt0) (trodAll_cons_mk (Below.trod laidOut (by kernel_rfl) (of_decide_eq_true (by kernel_rfl)) k1 bel lt1) (trodAll_cons_mk (Below.trod laidOut (by kernel_rfl) (of_decide_eq_true (by kernel_rfl)) k2 bel lt2) trodAll_mk0))), rfl, bel.frame _, fun h => by cases h⟩

theorem over : Rows.dropTellsUptoRow.holds Try.pinned (Rows.OpenSpec.upto Rows.dropTellsSpec) :=
  OpenClaim.holds_of_cond 6 Try.f6 rfl rfl rfl rfl rfl rfl rfl ⟨rfl, rfl, rfl, rfl, rfl⟩ rfl rfl rfl rfl rfl (by kernel_rfl) Try.func6 (by kernel_rfl)
    (of_decide_eq_true (by kernel_rfl)) (by unfold Func.isWrapper; first | (rw [if_pos (by decide +kernel)]; kernel_rfl) | (rw [if_neg (by decide +kernel)]; exact ⟨rfl, rfl⟩))
    (fun os started H enc _ F => lifted os started H enc F)

end Go.Proofs.Ytnpfockaigegiaa.dropTells
namespace Go.Proofs.Ytnpfockaigegiaa
/-- THE STATEMENT -/
theorem dropTells_holds : Rows.DropTellsUptoSaid := dropTells.over
#print axioms dropTells_holds
end Go.Proofs.Ytnpfockaigegiaa
