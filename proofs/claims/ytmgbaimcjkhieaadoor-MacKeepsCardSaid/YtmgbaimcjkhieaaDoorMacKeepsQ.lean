/- The law MacKeeps holds for every input: the call returns true and each argument reads afterwards as it read before. No condition is added. -/
import Derived.Test.YtmgbaimcjkhieaaDoorMacKeepsG
import Derived.Test.YtmgbaimcjkhieaaDoorCards
import Derived.Test.YtmgbaimcjkhieaaDoorTie
import Derived.Deep.DeepHandedRow
import Derived.Lib.LaidTab
import Derived.SevenTiedAt
import Derived.Lay
import Derived.Test.YtmgbaimcjkhieaaDoorRows
import Derived.WalkKit
import Derived.ProofKit
import Derived.OpenShut
import Derived.ShutString
import Derived.ChangeOld
import Derived.SizedLaws
import Derived.Deep.CondSized
import Derived.Below
namespace Go.Proofs.YtmgbaimcjkhieaaDoor.macKeeps
open Go.ChangeShapes Go.WideShapes Go.ChangeAt Go.RowKit
open Go.ChangeMaps (open_string shut_string)
set_option linter.unusedVariables false

theorem own : ownKnob Tryd.prog.godebug = none := by kernel_rfl
theorem laidOut : laidOutB Tryd.prog = true := by kernel_rfl

def tab0 : List Int := [1116352408, 1899447441, 3049323471, 3921009573, 961987163, 1508970993, 2453635748, 2870763221, 3624381080, 310598401, 607225278, 1426881987, 1925078388, 2162078206, 2614888103, 3248222580, 3835390401, 4022224774, 264347078, 604807628, 770255983, 1249150122, 1555081692, 1996064986, 2554220882, 2821834349, 2952996808, 3210313671, 3336571891, 3584528711, 113926993, 338241895, 666307205, 773529912, 1294757372, 1396182291, 1695183700, 1986661051, 2177026350, 2456956037, 2730485921, 2820302411, 3259730800, 3345764771, 3516065817, 3600352804, 4094571909, 275423344, 430227734, 506948616, 659060556, 883997877, 958139571, 1322822218, 1537002063, 1747873779, 1955562222, 2024104815, 2227730452, 2361852424, 2428436474, 2756734187, 3204031479, 3329325298]
theorem gTab0 : Tryd.prog.globalNamed "churn/hash.roots" = some 0 := by kernel_rfl
theorem table0 {W : World} (h : laidMetH Tryd.prog Rows.macKeepsRow.laid W) : Lib.TabIs Tryd.prog W "churn/hash.roots" .u32 tab0 :=
  Lib.tabIs_of_head (t := 59) (e := 44) (n := 64) (rest := []) gTab0 (by kernel_rfl) Tryd.underlying59 Tryd.underlying44 (by kernel_rfl) (by kernel_rfl) h
theorem walk (a0_0 : Option Addr) (len0_0 cap0_0 : Nat) (z0_0 : List Int) (a0_1 : Option Addr) (len0_1 cap0_1 : Nat) (z0_1 : List Int) (a0_2 : Option Addr) (len0_2 cap0_2 : Nat) (z0_2 : List Int) (x0_3 : Int) (w : World) (w0_0 : Go.Sx.IsRow .u8 w a0_0 len0_0 cap0_0 z0_0) (s0_0 : z0_0.length ≤ reachBytes) (w0_1 : Go.Sx.IsRow .u8 w a0_1 len0_1 cap0_1 z0_1) (s0_1 : z0_1.length ≤ reachBytes) (w0_2 : Go.Sx.IsRow .u8 w a0_2 len0_2 cap0_2 z0_2) (s0_2 : z0_2.length ≤ reachBytes) (w0_3 : (Lit.int .i64 x0_3).wf = true) (T0 : ∀ i, i < 64 → w.cell? ⟨0, i, none⟩ = some (.int .u32 (tab0.getD i 0))) :
    Calls Tryd.prog 8 #[.agg (List.toArray (Value.slice a0_0 len0_0 cap0_0 :: (Value.slice a0_1 len0_1 cap0_1 :: (Value.slice a0_2 len0_2 cap0_2 :: (Value.int .i64 x0_3 :: [])))))] w fun e w' => e = .returned (.bool true) ∧ Below w.heap.size w w' := by
  have hl0 : (z0_0.take len0_0).length ≤ z0_0.length := by simp; omega
  have h0 : z0_0.length ≤ 140737488351232 := s0_0
  have hl1 : (z0_1.take len0_1).length ≤ z0_1.length := by simp; omega
  have h1 : z0_1.length ≤ 140737488351232 := s0_1
  have hl2 : (z0_2.take len0_2).length ≤ z0_2.length := by simp; omega
  have h2 : z0_2.length ≤ 140737488351232 := s0_2
  obtain ⟨n, hn⟩ := Go.Proofs.YtmgbaimcjkhieaaDoor.G.macKeeps_plain (s := z0_0.take len0_0) (a := z0_1.take len0_1) (i := z0_2.take len0_2) x0_3 ⟨by omega⟩ ⟨w0_0.bytes⟩ ⟨by omega⟩ ⟨w0_1.bytes⟩ ⟨by omega⟩ ⟨w0_2.bytes⟩
  exact Go.Sx.law_mem (D := [⟨777777, [], true, false⟩]) Go.Proofs.YtmgbaimcjkhieaaDoor.G.mixed Go.Proofs.YtmgbaimcjkhieaaDoor.G.gamM6_good Tryd.func8 (by kernel_rfl) (.agg (.ints w0_0 (.ints w0_1 (.ints w0_2 (.num (.nil _))))) (.heap (k := .u8) (.glob (Go.Sx.glob_roots T0) (.nil _)))) (by simp) hn

set_option maxRecDepth 100000 in
theorem reads (os : Os) {H : Type} (enc : TypeId × Value → H) : ∃ places, DataW.whole enc Tryd.prog ((World.laidAll Tryd.prog os Rows.macKeepsRow.laid).forCall (fun _ _ => 0) ⟨#[], #[.agg #[.slice none 0 0, .slice none 0 0, .slice none 0 0, .int .i64 0]], []⟩).memory Tryd.f8.params.toList Rows.macKeepsSpec.vars false (#[.agg #[.slice none 0 0, .slice none 0 0, .slice none 0 0, .int .i64 0]] : Array Value).toList 8 = some ([.agg [.nil, .nil, .nil, .lit (.int .i64 0)]], [], places) :=
  ⟨[], by kernel_rfl⟩

set_option maxRecDepth 100000 in
theorem lifted (os : Os) (started : os.Started) (H : Type) (enc : TypeId × Value → H) (F : Stop.Interp) :
    ReturnsInHanded {} Tryd.checked os 8 .any ((OpenSpec.ofChange Rows.macKeepsSpec).preRow enc Tryd.prog Tryd.f8 Rows.macKeepsRow.domain false Rows.macKeepsRow.laid) (((OpenSpec.ofChange Rows.macKeepsSpec).at F).post enc Tryd.prog Tryd.f8 false true false false) := by
  obtain ⟨places, hx⟩ := reads os enc
  refine returnsInHanded_of_row (C := Tryd.checked) (s := (OpenSpec.ofChange Rows.macKeepsSpec)) own started (by kernel_rfl) Tryd.func8
    (witness_row_at (enc := enc) (C := Tryd.checked) false (World.laidAll Tryd.prog os Rows.macKeepsRow.laid) #[.agg #[.slice none 0 0, .slice none 0 0, .slice none 0 0, .int .i64 0]] (World.laidAll_os _ _ _) (by kernel_rfl) (by kernel_rfl) (by kernel_rfl)
      (OpenSpec.preRow_of_cond 8 hx (by kernel_rfl) (fun k hk => by cases hk) (by kernel_rfl) (laidMet_laidAll _ (by kernel_rfl) (by kernel_rfl)))) ?_
  intro W base args ds gs before hval0 hW hcnd _ hsz hL _ _
  have hval : ∀ (j : Nat) t v, Tryd.f8.params[j]? = some t → args[j]? = some v → Value.okWide Tryd.prog W .any base t v := hval0
  have hW' := hW
  obtain ⟨p, q, hA0, hV, rfl, hfz, hnd⟩ := hW
  have hA : DataW.TrodAll enc Tryd.prog W 0 (fun _ => true) true Tryd.f8.params.toList args.toList ds p := hA0
  rw [Tryd.params8] at hA hval
  obtain ⟨v0, vs0, d0, ds0, p0, q0, hargs, rfl, rfl, h0, r0⟩ := trodAll_cons hA
  obtain ⟨rfl, rfl, rfl⟩ := trodAll_nil r0
  obtain rfl : args = #[v0] := by cases args; simp_all
  obtain ⟨rfl, rfl⟩ := trodVars_none hV
  have k0 := h0
  have lt0 : ∀ x ∈ p0, x.block < W.heap.size := by obtain ⟨m, hm⟩ := k0; exact DataW.trod_lt m _ _ _ hm
  obtain ⟨cs0, rfl, ln0, kd0⟩ := Go.Sx.open_struct (ks := [.rows .u8, .rows .u8, .rows .u8, .ints .i64]) Tryd.underlying37 (by kernel_rfl) (hval 0 37 v0 rfl rfl) h0 hsz (j := 0) (by rfl) (by rfl)
  obtain ⟨a0_0, len0_0, cap0_0, z0_0, w0_0, s0_0, e0_0, kd0⟩ := kd0.rows
  obtain ⟨a0_1, len0_1, cap0_1, z0_1, w0_1, s0_1, e0_1, kd0⟩ := kd0.rows
  obtain ⟨a0_2, len0_2, cap0_2, z0_2, w0_2, s0_2, e0_2, kd0⟩ := kd0.rows
  obtain ⟨x0_3, w0_3, e0_3, kd0⟩ := kd0.ints
  obtain rfl : cs0 = (Value.slice a0_0 len0_0 cap0_0 :: (Value.slice a0_1 len0_1 cap0_1 :: (Value.slice a0_2 len0_2 cap0_2 :: (Value.int .i64 x0_3 :: [])))) := by rw [← List.drop_zero (l := cs0), e0_0, e0_1, e0_2, e0_3, List.drop_of_length_le (by rw [ln0]; decide)]
  clear hA0 hval0
  refine (walk a0_0 len0_0 cap0_0 z0_0 a0_1 len0_1 cap0_1 z0_1 a0_2 len0_2 cap0_2 z0_2 x0_3 W w0_0 s0_0 w0_1 s0_1 w0_2 s0_2 w0_3 (fun i hi => (table0 hL).cell gTab0 i hi)).mono fun e W' ⟨he, bel⟩ => ?_
  subst he
  exact ⟨_, rfl, _, _, _, [], _, [], hW', trodAll_mk1 (shut_bool Tryd.underlying4 _), (trodAll_cons_mk (Below.trod laidOut (by kernel_rfl) (of_decide_eq_true (by kernel_rfl)) k0 bel lt0) trodAll_mk0), rfl, bel.frame _, fun h => by cases h⟩

theorem over : Rows.macKeepsRow.holds Tryd.pinned (OpenSpec.ofChange Rows.macKeepsSpec) :=
  OpenClaim.holds_of_cond 8 Tryd.f8 rfl rfl rfl rfl rfl rfl rfl ⟨rfl, rfl, rfl, rfl, rfl⟩ rfl rfl rfl rfl rfl (by kernel_rfl) Tryd.func8 (by kernel_rfl)
    (of_decide_eq_true (by kernel_rfl)) (by unfold Func.isWrapper; first | (rw [if_pos (by decide +kernel)]; kernel_rfl) | (rw [if_neg (by decide +kernel)]; exact ⟨rfl, rfl⟩))
    (fun os started H enc _ F => by rw [OpenClaim.pre_eq_preRow]; exact lifted os started H enc F)

theorem plain (f : FuncId) (fn : Func) (hf : Tryd.pinned.checked.prog.funcNamed "churn/churnlaw02.MacKeeps" = some f) (hfn : Tryd.pinned.checked.prog.funcs[f]? = some fn) :
    false = Tryd.pinned.checked.prog.looks [] ∧ ∀ (j : Nat) t, fn.params[j]? = some t → Tryd.pinned.checked.prog.wantsStandIn t = false := by
  obtain rfl : f = 8 := Option.some.inj ((show Tryd.prog.funcNamed "churn/churnlaw02.MacKeeps" = some 8 by kernel_rfl).symm.trans hf) |>.symm
  obtain rfl : fn = Tryd.f8 := (Option.some.inj (Tryd.func8.symm.trans hfn)).symm
  refine ⟨by kernel_rfl, fun j t ht => ?_⟩
  have all : ∀ t ∈ Tryd.f8.params.toList, Tryd.prog.wantsStandIn t = false := by
    rw [Tryd.params8]; intro t ht; simp only [List.mem_cons, List.not_mem_nil, or_false] at ht; rcases ht with rfl <;> kernel_rfl
  exact all t (by rw [← Array.getElem?_toList] at ht; exact List.mem_of_getElem? ht)

end Go.Proofs.YtmgbaimcjkhieaaDoor.macKeeps
namespace Go.Proofs.YtmgbaimcjkhieaaDoor
/-- THE STATEMENT -/
theorem macKeeps_holds : Rows.MacKeepsCardSaid :=
  Claim7.holds_tied_plain_at .later [] _ _ _ _ macKeeps.over (fun _ h => by cases h) (by kernel_rfl) (fun _ h => by cases h) macKeeps_row_tie rfl ⟨rfl, rfl⟩ (by kernel_rfl) rfl macKeeps.plain (by kernel_rfl)
#print axioms macKeeps_holds
end Go.Proofs.YtmgbaimcjkhieaaDoor
