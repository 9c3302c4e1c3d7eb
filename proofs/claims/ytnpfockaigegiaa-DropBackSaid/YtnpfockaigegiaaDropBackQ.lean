/- The law DropBack holds for every input: the call returns true and each argument reads afterwards as it read before. No condition is added. -/
import Derived.Test.YtnpfockaigegiaaDropBackI
import Derived.Test.YtnpfockaigegiaaRows
import Derived.WalkKit
import Derived.ProofKit
import Derived.OpenShut
import Derived.ShutString
import Derived.ChangeOld
import Derived.SizedLaws
import Derived.Deep.CondSized
import Derived.Below
namespace Go.Proofs.Ytnpfockaigegiaa.dropBack
open Go.ChangeShapes Go.WideShapes Go.ChangeAt Go.RowKit
open Go.ChangeMaps (open_string shut_string)
set_option linter.unusedVariables false

theorem own : ownKnob Try.prog.godebug = none := by kernel_rfl
theorem laidOut : laidOutB Try.prog = true := by kernel_rfl

theorem walk (l0_0 : List Int) (a0_1 : Option Addr) (len0_1 cap0_1 : Nat) (z0_1 : List Int) (a0_2 : Option Addr) (len0_2 cap0_2 : Nat) (z0_2 : List Int) (a0_3 : Option Addr) (len0_3 cap0_3 : Nat) (L0_3 : Go.Sx.Loc) (C0_3 : List Go.Sx.Col) (w : World) (w0_0 : l0_0.length = 8 ∧ ∀ z ∈ l0_0, (Lit.int .u8 z).wf = true) (w0_1 : Go.Sx.IsRow .u8 w a0_1 len0_1 cap0_1 z0_1) (s0_1 : z0_1.length ≤ reachBytes) (w0_2 : Go.Sx.IsRow .u8 w a0_2 len0_2 cap0_2 z0_2) (s0_2 : z0_2.length ≤ reachBytes) (w0_3 : Go.Sx.RecsIn w [.rows .u8] (Try.prog.bytesOf 27) a0_3 len0_3 cap0_3 L0_3 C0_3) :
    Calls Try.prog 7 #[.agg (List.toArray (l0_0.map (Value.int .u8) ++ (Value.slice a0_1 len0_1 cap0_1 :: (Value.slice a0_2 len0_2 cap0_2 :: (Value.slice a0_3 len0_3 cap0_3 :: [])))))] w fun e w' => e = .returned (.bool true) ∧ Below w.heap.size w w' := by
  obtain ⟨c, rfl, hc⟩ := Go.Sx.cols_one w0_3.kds
  obtain ⟨KL, rfl⟩ := Go.Sx.kd_rows hc (w0_3.wf _ (by simp))
  have hok : KL.length = L0_3.len := w0_3.rep.ok _ (List.mem_singleton.2 rfl)
  have hsz := w0_3.size
  rw [show Try.prog.bytesOf 27 = 24 by kernel_rfl] at hsz
  have hs : L0_3.len * 24 ≤ 140737488351232 := hsz
  have hr := Go.Sx.rows_bytes (w0_3.wf _ (List.mem_singleton.2 rfl))
  have hm : ∀ p ∈ KL, p.length ≤ 140737488355328 ∧ Go.Sx.Bs p := fun p hp => by
    obtain ⟨i, hi⟩ := List.mem_iff_getElem?.1 hp
    have h := hr i
    have e : Go.Sx.llget KL i = p := by simp only [Go.Sx.llget, List.getD, hi, Option.getD_some]
    rw [e] at h; exact h
  have hl1 : (z0_1.take len0_1).length ≤ z0_1.length := by simp; omega
  have h1 : z0_1.length ≤ 140737488351232 := s0_1
  have hl2 : (z0_2.take len0_2).length ≤ z0_2.length := by simp; omega
  have h2 : z0_2.length ≤ 140737488351232 := s0_2
  have l1 := w0_0.1
  have bn : Go.Sx.Bs l0_0 := ⟨fun z hz => by
    obtain ⟨h1, h2⟩ := Go.bounds_u8 (w0_0.2 z hz)
    exact ⟨h1, by omega⟩⟩
  obtain ⟨n, hn⟩ := Go.Proofs.Ytnpfockaigegiaa.G.dropBack_plain (nm := l0_0) (a := z0_1.take len0_1) (b := z0_2.take len0_2) (ll := KL) l1 bn ⟨w0_1.bytes⟩ ⟨w0_2.bytes⟩ (by omega) (by omega) ⟨by omega, fun p hp => (hm p hp).1⟩ ⟨fun p hp => (hm p hp).2⟩
  exact Go.Sx.law_mem (D := [⟨11, [.rows .u8], true, false⟩, ⟨9, [.ints .u8], false, false⟩, ⟨777777, [], true, false⟩]) Go.Proofs.Ytnpfockaigegiaa.G.mixed Go.Proofs.Ytnpfockaigegiaa.G.d5_good Try.func7 (by kernel_rfl) (.agg (.arr l1 (.ints w0_1 (.ints w0_2 (.recs w0_3 (.nil _))))) (.nil _)) (by simp) hn

set_option maxRecDepth 100000 in
theorem lifted (os : Os) (started : os.Started) (H : Type) (enc : TypeId × Value → H) :
    ReturnsInHanded {} Try.checked os 7 .any (Rows.dropBackSpec.pre6 enc Try.prog Try.f7 Rows.dropBackRow.domain false) (Rows.dropBackSpec.post enc Try.prog Try.f7 false true false false) := by
  refine returnsInHanded_of_change_sized (C := Try.checked) own started (by kernel_rfl) Try.func7
    (ChangeSpec.witness6 (enc := enc) (C := Try.checked) false ⟨#[], #[.agg #[.int .u8 0, .int .u8 0, .int .u8 0, .int .u8 0, .int .u8 0, .int .u8 0, .int .u8 0, .int .u8 0, .slice none 0 0, .slice none 0 0, .slice none 0 0]], []⟩ 8 (by kernel_rfl) (by kernel_rfl) (by kernel_rfl) (by kernel_rfl)) ?_
  intro W base args ds gs before hval0 hW hcnd hsz _
  have hval : ∀ (j : Nat) t v, Try.f7.params[j]? = some t → args[j]? = some v → Value.okWide Try.prog W .any base t v := hval0
  have hW' := hW
  obtain ⟨p, q, hA0, hV, rfl, hfz, hnd⟩ := hW
  have hA : DataW.TrodAll enc Try.prog W 0 (fun _ => true) true Try.f7.params.toList args.toList ds p := hA0
  rw [Try.params7] at hA hval
  obtain ⟨v0, vs0, d0, ds0, p0, q0, hargs, rfl, rfl, h0, r0⟩ := trodAll_cons hA
  obtain ⟨rfl, rfl, rfl⟩ := trodAll_nil r0
  obtain rfl : args = #[v0] := by cases args; simp_all
  obtain ⟨rfl, rfl⟩ := trodVars_none hV
  have k0 := h0
  have lt0 : ∀ x ∈ p0, x.block < W.heap.size := by obtain ⟨m, hm⟩ := k0; exact DataW.trod_lt m _ _ _ hm
  obtain ⟨cs0, rfl, ln0, kd0⟩ := Go.Sx.open_structF (ks := [.ks [.arrs .u8 8], .ks [.rows .u8], .ks [.rows .u8], .recs [.rows .u8] (Try.prog.bytesOf 27)]) (n0 := 11) Try.underlying44 (by kernel_rfl) (by kernel_rfl) (hval 0 44 v0 rfl rfl) h0 hsz (j := 0) (by rfl) (by rfl)
  obtain ⟨l0_0, wl0_0, ww0_0, e0_0, kd0⟩ := kd0.arrs (by rw [ln0]; decide)
  obtain ⟨a0_1, len0_1, cap0_1, z0_1, w0_1, s0_1, e0_1, kd0⟩ := kd0.rows
  obtain ⟨a0_2, len0_2, cap0_2, z0_2, w0_2, s0_2, e0_2, kd0⟩ := kd0.rows
  obtain ⟨a0_3, len0_3, cap0_3, L0_3, C0_3, w0_3, e0_3, kd0⟩ := kd0.recs
  obtain rfl : cs0 = (l0_0.map (Value.int .u8) ++ (Value.slice a0_1 len0_1 cap0_1 :: (Value.slice a0_2 len0_2 cap0_2 :: (Value.slice a0_3 len0_3 cap0_3 :: [])))) := by rw [← List.drop_zero (l := cs0), e0_0, e0_1, e0_2, e0_3, List.drop_of_length_le (by rw [ln0]; decide)]
  clear hA0 hval0
  refine (walk l0_0 a0_1 len0_1 cap0_1 z0_1 a0_2 len0_2 cap0_2 z0_2 a0_3 len0_3 cap0_3 L0_3 C0_3 W ⟨wl0_0, ww0_0⟩ w0_1 s0_1 w0_2 s0_2 w0_3).mono fun e W' ⟨he, bel⟩ => ?_
  subst he
  exact ⟨_, rfl, _, _, _, [], _, [], hW', trodAll_mk1 (shut_bool Try.underlying4 _), (trodAll_cons_mk (Below.trod laidOut (by kernel_rfl) (of_decide_eq_true (by kernel_rfl)) k0 bel lt0) trodAll_mk0), rfl, bel.frame _, fun h => by cases h⟩

theorem over : Rows.dropBackRow.holds Try.pinned (OpenSpec.ofChange Rows.dropBackSpec) :=
  OpenClaim.holds_of_wide 7 Try.f7 rfl rfl rfl rfl rfl rfl rfl ⟨rfl, rfl, rfl, rfl, rfl⟩ rfl rfl rfl rfl rfl (by kernel_rfl) Try.func7 (by kernel_rfl)
    (of_decide_eq_true (by kernel_rfl)) (by unfold Func.isWrapper; first | (rw [if_pos (by decide +kernel)]; kernel_rfl) | (rw [if_neg (by decide +kernel)]; exact ⟨rfl, rfl⟩))
    (fun os started H enc _ => lifted os started H enc)

end Go.Proofs.Ytnpfockaigegiaa.dropBack
namespace Go.Proofs.Ytnpfockaigegiaa
/-- THE STATEMENT -/
theorem dropBack_holds : Rows.DropBackSaid := dropBack.over
#print axioms dropBack_holds
end Go.Proofs.Ytnpfockaigegiaa
