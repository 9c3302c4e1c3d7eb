/- The law ReplyWraps holds for every input: the call returns true and each argument reads afterwards as it read before. No condition is added. -/
import Derived.Test.YtdgmgalnhignjaaDoorReplyWrapsG
import Derived.Test.YtdgmgalnhignjaaDoorCards
import Derived.Test.YtdgmgalnhignjaaDoorTie
import Derived.Deep.DeepHandedRow
import Derived.Lib.LaidTab
import Derived.SevenTiedAt
import Derived.Lay
import Derived.Test.YtdgmgalnhignjaaDoorRows
import Derived.WalkKit
import Derived.ProofKit
import Derived.OpenShut
import Derived.ShutString
import Derived.ChangeOld
import Derived.SizedLaws
import Derived.Below
namespace Go.Proofs.YtdgmgalnhignjaaDoor.replyWraps
open Go.ChangeShapes Go.WideShapes Go.ChangeAt Go.RowKit
open Go.ChangeMaps (open_string shut_string)
set_option linter.unusedVariables false

theorem own : ownKnob Tryd.prog.godebug = none := by kernel_rfl
theorem laidOut : laidOutB Tryd.prog = true := by kernel_rfl

def tab0 : List Int := [1116352408, 1899447441, 3049323471, 3921009573, 961987163, 1508970993, 2453635748, 2870763221, 3624381080, 310598401, 607225278, 1426881987, 1925078388, 2162078206, 2614888103, 3248222580, 3835390401, 4022224774, 264347078, 604807628, 770255983, 1249150122, 1555081692, 1996064986, 2554220882, 2821834349, 2952996808, 3210313671, 3336571891, 3584528711, 113926993, 338241895, 666307205, 773529912, 1294757372, 1396182291, 1695183700, 1986661051, 2177026350, 2456956037, 2730485921, 2820302411, 3259730800, 3345764771, 3516065817, 3600352804, 4094571909, 275423344, 430227734, 506948616, 659060556, 883997877, 958139571, 1322822218, 1537002063, 1747873779, 1955562222, 2024104815, 2227730452, 2361852424, 2428436474, 2756734187, 3204031479, 3329325298]
theorem gTab0 : Tryd.prog.globalNamed "churn/hash.roots" = some 0 := by kernel_rfl
theorem table0 {W : World} (h : laidMetH Tryd.prog Rows.replyWrapsRow.laid W) : Lib.TabIs Tryd.prog W "churn/hash.roots" .u32 tab0 :=
  Lib.tabIs_of_head (t := 125) (e := 96) (n := 64) (rest := []) gTab0 (by kernel_rfl) Tryd.underlying125 Tryd.underlying96 (by kernel_rfl) (by kernel_rfl) h
theorem walk (a0 : Option Addr) (len0 cap0 : Nat) (z0 : List Int) (a1 : List Int) (x2_0 : Int) (a2_1 : Option Addr) (len2_1 cap2_1 : Nat) (z2_1 : List Int) (w : World) (w0 : Go.Sx.IsRow .u8 w a0 len0 cap0 z0) (s0 : z0.length * 1 ≤ reachBytes) (w1 : a1.length = 16 ∧ ∀ z ∈ a1, (Lit.int .u8 z).wf = true) (w2_0 : (Lit.int .i64 x2_0).wf = true) (w2_1 : Go.Sx.IsRow .u8 w a2_1 len2_1 cap2_1 z2_1) (s2_1 : z2_1.length ≤ reachBytes) (T0 : ∀ i, i < 64 → w.cell? ⟨0, i, none⟩ = some (.int .u32 (tab0.getD i 0))) :
    Calls Tryd.prog 3 #[.slice a0 len0 cap0, .agg (a1.map (Value.int .u8)).toArray, .agg (List.toArray (Value.int .i64 x2_0 :: (Value.slice a2_1 len2_1 cap2_1 :: [])))] w fun e w' => e = .returned (.bool true) ∧ Below w.heap.size w w' := by
  have hl0 : (z0.take len0).length ≤ z0.length := by simp; omega
  have h0 : z0.length * 1 ≤ 140737488351232 := s0
  have hn1 : Go.Blk.BL 16 a1 := ⟨w1.1, fun z hz => by
    obtain ⟨h1, h2⟩ := Go.bounds_u8 (w1.2 z hz)
    exact ⟨h1, by omega⟩⟩
  have l1 := w1.1
  have i2 := Go.Sx.wf_i64 w2_0
  have hl3 : (z2_1.take len2_1).length ≤ z2_1.length := by simp; omega
  have h3 : z2_1.length ≤ 140737488351232 := s2_1
  obtain ⟨n, hn⟩ := Go.Proofs.YtdgmgalnhignjaaDoor.G.replyWraps_plain (key := z0.take len0) (nonce := a1) (left := x2_0) (inner := z2_1.take len2_1) ⟨⟨by omega⟩, ⟨w0.bytes⟩⟩ hn1 ⟨i2.lo, i2.hi⟩ ⟨by omega, ⟨w2_1.bytes⟩⟩
  exact Go.Sx.law_mem (D := []) Go.Proofs.YtdgmgalnhignjaaDoor.G.mixed Go.Proofs.YtdgmgalnhignjaaDoor.G.gamY4_good Tryd.func3 (by kernel_rfl) (.ints w0 (.plain (fun ρ => Go.Sx.srep_arr ρ .u8 16 _ l1) (.agg (.num (.ints w2_1 (.nil _))) (.glob (Go.Sx.glob_roots T0) (.nil _))))) (by simp) hn

set_option maxRecDepth 100000 in
theorem reads (os : Os) {H : Type} (enc : TypeId × Value → H) : ∃ places, DataW.whole enc Tryd.prog ((World.laidAll Tryd.prog os Rows.replyWrapsRow.laid).forCall (fun _ _ => 0) ⟨#[], #[.slice none 0 0, .agg #[.int .u8 0, .int .u8 0, .int .u8 0, .int .u8 0, .int .u8 0, .int .u8 0, .int .u8 0, .int .u8 0, .int .u8 0, .int .u8 0, .int .u8 0, .int .u8 0, .int .u8 0, .int .u8 0, .int .u8 0, .int .u8 0], .agg #[.int .i64 0, .slice none 0 0]], []⟩).memory Tryd.f3.params.toList Rows.replyWrapsSpec.vars false (#[.slice none 0 0, .agg #[.int .u8 0, .int .u8 0, .int .u8 0, .int .u8 0, .int .u8 0, .int .u8 0, .int .u8 0, .int .u8 0, .int .u8 0, .int .u8 0, .int .u8 0, .int .u8 0, .int .u8 0, .int .u8 0, .int .u8 0, .int .u8 0], .agg #[.int .i64 0, .slice none 0 0]] : Array Value).toList 8 = some ([.nil, .agg [.lit (.int .u8 0), .lit (.int .u8 0), .lit (.int .u8 0), .lit (.int .u8 0), .lit (.int .u8 0), .lit (.int .u8 0), .lit (.int .u8 0), .lit (.int .u8 0), .lit (.int .u8 0), .lit (.int .u8 0), .lit (.int .u8 0), .lit (.int .u8 0), .lit (.int .u8 0), .lit (.int .u8 0), .lit (.int .u8 0), .lit (.int .u8 0)], .agg [.lit (.int .i64 0), .nil]], [], places) :=
  ⟨[], by kernel_rfl⟩

set_option maxRecDepth 100000 in
theorem lifted (os : Os) (started : os.Started) (H : Type) (enc : TypeId × Value → H) (F : Stop.Interp) :
    ReturnsInHanded {} Tryd.checked os 3 .any ((OpenSpec.ofChange Rows.replyWrapsSpec).preRow enc Tryd.prog Tryd.f3 Rows.replyWrapsRow.domain false Rows.replyWrapsRow.laid) (((OpenSpec.ofChange Rows.replyWrapsSpec).at F).post enc Tryd.prog Tryd.f3 false true false false) := by
  obtain ⟨places, hx⟩ := reads os enc
  refine returnsInHanded_of_row (C := Tryd.checked) (s := OpenSpec.ofChange Rows.replyWrapsSpec) own started (by kernel_rfl) Tryd.func3
    (witness_row_at (enc := enc) (C := Tryd.checked) false (World.laidAll Tryd.prog os Rows.replyWrapsRow.laid) #[.slice none 0 0, .agg #[.int .u8 0, .int .u8 0, .int .u8 0, .int .u8 0, .int .u8 0, .int .u8 0, .int .u8 0, .int .u8 0, .int .u8 0, .int .u8 0, .int .u8 0, .int .u8 0, .int .u8 0, .int .u8 0, .int .u8 0, .int .u8 0], .agg #[.int .i64 0, .slice none 0 0]] (World.laidAll_os _ _ _) (by kernel_rfl) (by kernel_rfl) (by kernel_rfl)
      (OpenSpec.preRow_of_cond 8 hx (by kernel_rfl) (fun k hk => by cases hk) (by kernel_rfl) (laidMet_laidAll _ (by kernel_rfl) (by kernel_rfl)))) ?_
  intro W base args ds gs before hval0 hW hcnd _ hsz hL _ _
  have hval : ∀ (j : Nat) t v, Tryd.f3.params[j]? = some t → args[j]? = some v → Value.okWide Tryd.prog W .any base t v := hval0
  have hW' := hW
  obtain ⟨p, q, hA0, hV, rfl, hfz, hnd⟩ := hW
  have hA : DataW.TrodAll enc Tryd.prog W 0 (fun _ => true) true Tryd.f3.params.toList args.toList ds p := hA0
  rw [Tryd.params3] at hA hval
  obtain ⟨v0, vs0, d0, ds0, p0, q0, hargs, rfl, rfl, h0, r0⟩ := trodAll_cons hA
  obtain ⟨v1, vs1, d1, ds1, p1, q1, rfl, rfl, rfl, h1, r1⟩ := trodAll_cons r0
  obtain ⟨v2, vs2, d2, ds2, p2, q2, rfl, rfl, rfl, h2, r2⟩ := trodAll_cons r1
  obtain ⟨rfl, rfl, rfl⟩ := trodAll_nil r2
  obtain rfl : args = #[v0, v1, v2] := by cases args; simp_all
  obtain ⟨rfl, rfl⟩ := trodVars_none hV
  have k0 := h0
  have lt0 : ∀ x ∈ p0, x.block < W.heap.size := by obtain ⟨m, hm⟩ := k0; exact DataW.trod_lt m _ _ _ hm
  obtain ⟨a0, len0, cap0, rfl⟩ := okWide_slice Tryd.underlying22 (hval 0 22 v0 rfl rfl)
  obtain ⟨z0, w0, s0⟩ := Go.Sx.open_row_sized Tryd.underlying22 Tryd.underlying5 (by kernel_rfl) h0 hsz (j := 0) (by rfl) (by rfl)
  rw [show Tryd.prog.bytesOf 5 = 1 by kernel_rfl] at s0
  have k1 := h1
  have lt1 : ∀ x ∈ p1, x.block < W.heap.size := by obtain ⟨m, hm⟩ := k1; exact DataW.trod_lt m _ _ _ hm
  obtain ⟨a1, rfl, w1⟩ := Go.Sx.open_array Tryd.underlying23 Tryd.underlying5 (by kernel_rfl) (by kernel_rfl) (hval 1 23 v1 rfl rfl) h1
  have k2 := h2
  have lt2 : ∀ x ∈ p2, x.block < W.heap.size := by obtain ⟨m, hm⟩ := k2; exact DataW.trod_lt m _ _ _ hm
  obtain ⟨cs2, rfl, ln2, kd2⟩ := Go.Sx.open_struct (ks := [.ints .i64, .rows .u8]) Tryd.underlying25 (by kernel_rfl) (hval 2 25 v2 rfl rfl) h2 hsz (j := 2) (by rfl) (by rfl)
  obtain ⟨x2_0, w2_0, e2_0, kd2⟩ := kd2.ints
  obtain ⟨a2_1, len2_1, cap2_1, z2_1, w2_1, s2_1, e2_1, kd2⟩ := kd2.rows
  obtain rfl : cs2 = (Value.int .i64 x2_0 :: (Value.slice a2_1 len2_1 cap2_1 :: [])) := by rw [← List.drop_zero (l := cs2), e2_0, e2_1, List.drop_of_length_le (by rw [ln2]; decide)]
  clear hA0 hval0
  refine (walk a0 len0 cap0 z0 a1 x2_0 a2_1 len2_1 cap2_1 z2_1 W w0 s0 w1 w2_0 w2_1 s2_1 (fun i hi => (table0 hL).cell gTab0 i hi)).mono fun e W' ⟨he, bel⟩ => ?_
  subst he
  exact ⟨_, rfl, _, _, _, [], _, [], hW', trodAll_mk1 (shut_bool Tryd.underlying4 _), (trodAll_cons_mk (Below.trod laidOut (by kernel_rfl) (of_decide_eq_true (by kernel_rfl)) k0 bel lt0) (trodAll_cons_mk (Below.trod laidOut (by kernel_rfl) (of_decide_eq_true (by kernel_rfl)) k1 bel lt1) (trodAll_cons_mk (Below.trod laidOut (by kernel_rfl) (of_decide_eq_true (by kernel_rfl)) k2 bel lt2) trodAll_mk0))), rfl, bel.frame _, fun h => by cases h⟩

theorem over : Rows.replyWrapsRow.holds Tryd.pinned (OpenSpec.ofChange Rows.replyWrapsSpec) :=
  OpenClaim.holds_of_cond 3 Tryd.f3 rfl rfl rfl rfl rfl rfl rfl ⟨rfl, rfl, rfl, rfl, rfl⟩ rfl rfl rfl rfl rfl (by kernel_rfl) Tryd.func3 (by kernel_rfl)
    (of_decide_eq_true (by kernel_rfl)) (by unfold Func.isWrapper; first | (rw [if_pos (by decide +kernel)]; kernel_rfl) | (rw [if_neg (by decide +kernel)]; exact ⟨rfl, rfl⟩))
    (fun os started H enc _ F => by rw [OpenClaim.pre_eq_preRow]; exact lifted os started H enc F)

theorem plain (f : FuncId) (fn : Func) (hf : Tryd.pinned.checked.prog.funcNamed "churn/churnlaw27.ReplyWraps" = some f) (hfn : Tryd.pinned.checked.prog.funcs[f]? = some fn) :
    false = Tryd.pinned.checked.prog.looks [] ∧ ∀ (j : Nat) t, fn.params[j]? = some t → Tryd.pinned.checked.prog.wantsStandIn t = false := by
  obtain rfl : f = 3 := Option.some.inj ((show Tryd.prog.funcNamed "churn/churnlaw27.ReplyWraps" = some 3 by kernel_rfl).symm.trans hf) |>.symm
  obtain rfl : fn = Tryd.f3 := (Option.some.inj (Tryd.func3.symm.trans hfn)).symm
  refine ⟨by kernel_rfl, fun j t ht => ?_⟩
  have all : ∀ t ∈ Tryd.f3.params.toList, Tryd.prog.wantsStandIn t = false := by
    rw [Tryd.params3]; intro t ht; simp only [List.mem_cons, List.not_mem_nil, or_false] at ht; rcases ht with rfl | rfl | rfl <;> kernel_rfl
  exact all t (by rw [← Array.getElem?_toList] at ht; exact List.mem_of_getElem? ht)

end Go.Proofs.YtdgmgalnhignjaaDoor.replyWraps
namespace Go.Proofs.YtdgmgalnhignjaaDoor
/-- THE STATEMENT -/
theorem replyWraps_holds : Rows.ReplyWrapsCardSaid :=
  Claim7.holds_tied_plain_at .later [] _ _ _ _ replyWraps.over (fun _ h => by cases h) (by kernel_rfl) (fun _ h => by cases h) replyWraps_row_tie rfl ⟨rfl, rfl⟩ (by kernel_rfl) rfl replyWraps.plain (by kernel_rfl)
#print axioms replyWraps_holds
end Go.Proofs.YtdgmgalnhignjaaDoor
