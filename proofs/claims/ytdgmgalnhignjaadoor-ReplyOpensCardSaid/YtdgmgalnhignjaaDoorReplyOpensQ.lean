/- The law ReplyOpens holds for every input: the call returns true and each argument reads afterwards as it read before. No condition is added. -/
import Derived.Test.YtdgmgalnhignjaaDoorReplyOpensG
import Derived.Test.YtdgmgalnhignjaaDoorCards
import Derived.Test.YtdgmgalnhignjaaDoorTie
import Derived.Deep.DeepHandedRow
import Derived.Lib.LaidTab
import Derived.SevenTiedAt
import Derived.Lay
import Derived.Test.YtdgmgalnhignjaaDoorRows
import Derived.WalkKit
import Derived.ProofKit
import Derived.OpenShut
import Derived.ShutString
import Derived.ChangeOld
import Derived.SizedLaws
import Derived.Below
namespace Go.Proofs.YtdgmgalnhignjaaDoor.replyOpens
open Go.ChangeShapes Go.WideShapes Go.ChangeAt Go.RowKit
open Go.ChangeMaps (open_string shut_string)
set_option linter.unusedVariables false

theorem own : ownKnob Tryd.prog.godebug = none := by kernel_rfl
theorem laidOut : laidOutB Tryd.prog = true := by kernel_rfl

def tab0 : List Int := [1116352408, 1899447441, 3049323471, 3921009573, 961987163, 1508970993, 2453635748, 2870763221, 3624381080, 310598401, 607225278, 1426881987, 1925078388, 2162078206, 2614888103, 3248222580, 3835390401, 4022224774, 264347078, 604807628, 770255983, 1249150122, 1555081692, 1996064986, 2554220882, 2821834349, 2952996808, 3210313671, 3336571891, 3584528711, 113926993, 338241895, 666307205, 773529912, 1294757372, 1396182291, 1695183700, 1986661051, 2177026350, 2456956037, 2730485921, 2820302411, 3259730800, 3345764771, 3516065817, 3600352804, 4094571909, 275423344, 430227734, 506948616, 659060556, 883997877, 958139571, 1322822218, 1537002063, 1747873779, 1955562222, 2024104815, 2227730452, 2361852424, 2428436474, 2756734187, 3204031479, 3329325298]
theorem gTab0 : Tryd.prog.globalNamed "churn/hash.roots" = some 0 := by kernel_rfl
theorem table0 {W : World} (h : laidMetH Tryd.prog Rows.replyOpensRow.laid W) : Lib.TabIs Tryd.prog W "churn/hash.roots" .u32 tab0 :=
  Lib.tabIs_of_head (t := 125) (e := 96) (n := 64) (rest := []) gTab0 (by kernel_rfl) Tryd.underlying125 Tryd.underlying96 (by kernel_rfl) (by kernel_rfl) h
theorem walk (a0 : Option Addr) (len0 cap0 : Nat) (L0 : Go.Sx.Loc) (C0 : List Go.Sx.Col) (a1 : Option Addr) (len1 cap1 : Nat) (L1 : Go.Sx.Loc) (C1 : List Go.Sx.Col) (a2 : Option Addr) (len2 cap2 : Nat) (L2 : Go.Sx.Loc) (C2 : List Go.Sx.Col) (w : World) (w0 : Go.Sx.VRep w L0 C0) (e0 : Value.slice a0 len0 cap0 = .slice L0.a L0.len L0.cap) (k0 : Go.Sx.kdsOf C0 = [.rows .u8]) (f0 : ∀ col ∈ C0, col.wf) (s0 : L0.len * Tryd.prog.bytesOf 22 ≤ reachBytes) (w1 : Go.Sx.VRep w L1 C1) (e1 : Value.slice a1 len1 cap1 = .slice L1.a L1.len L1.cap) (k1 : Go.Sx.kdsOf C1 = [.arrs .u8 16]) (f1 : ∀ col ∈ C1, col.wf) (s1 : L1.len * Tryd.prog.bytesOf 23 ≤ reachBytes) (w2 : Go.Sx.VRep w L2 C2) (e2 : Value.slice a2 len2 cap2 = .slice L2.a L2.len L2.cap) (k2 : Go.Sx.kdsOf C2 = [.rows .u8]) (f2 : ∀ col ∈ C2, col.wf) (s2 : L2.len * Tryd.prog.bytesOf 22 ≤ reachBytes) (T0 : ∀ i, i < 64 → w.cell? ⟨0, i, none⟩ = some (.int .u32 (tab0.getD i 0))) :
    Calls Tryd.prog 5 #[.slice a0 len0 cap0, .slice a1 len1 cap1, .slice a2 len2 cap2] w fun e w' => e = .returned (.bool true) ∧ Below w.heap.size w w' := by
  obtain ⟨c, rfl, hc⟩ := Go.Sx.cols_one k0
  obtain ⟨KL, rfl⟩ := Go.Sx.kd_rows hc
  obtain ⟨c, rfl, hc1⟩ := Go.Sx.cols_one k1
  obtain ⟨NL, rfl⟩ := Go.Sx.kd_arrs hc1
  obtain ⟨c, rfl, hc2⟩ := Go.Sx.cols_one k2
  obtain ⟨CL, rfl⟩ := Go.Sx.kd_rows hc2
  have hk : Go.Rou.Kys KL := Go.Proofs.YtdgmgalnhignjaaDoor.G.kys_in (⟨w0, e0, rfl, f0, s0⟩ : Go.Sx.RecsIn w [.rows .u8] _ a0 len0 cap0 L0 [.rows .u8 KL]) (by kernel_rfl)
  have hn : Go.Rou.Ncs NL := Go.Proofs.YtdgmgalnhignjaaDoor.G.ncs_in (⟨w1, e1, rfl, f1, s1⟩ : Go.Sx.RecsIn w [.arrs .u8 16] _ a1 len1 cap1 L1 [.arrs .u8 16 NL]) (by kernel_rfl)
  have hc : Go.Rou.Kys CL := Go.Proofs.YtdgmgalnhignjaaDoor.G.kys_in (⟨w2, e2, rfl, f2, s2⟩ : Go.Sx.RecsIn w [.rows .u8] _ a2 len2 cap2 L2 [.rows .u8 CL]) (by kernel_rfl)
  obtain ⟨n, hh⟩ := Go.Proofs.YtdgmgalnhignjaaDoor.G.replyOpens_plain hk hn hc
  exact Go.Sx.law_mem (D := []) Go.Proofs.YtdgmgalnhignjaaDoor.G.mixed Go.Proofs.YtdgmgalnhignjaaDoor.G.gamY4_good Tryd.func5 (by kernel_rfl) (.recs w0 e0 (.recs w1 e1 (.recs w2 e2 (.glob (Go.Sx.glob_roots T0) (.nil _))))) (by simp) hh

set_option maxRecDepth 100000 in
theorem reads (os : Os) {H : Type} (enc : TypeId × Value → H) : ∃ places, DataW.whole enc Tryd.prog ((World.laidAll Tryd.prog os Rows.replyOpensRow.laid).forCall (fun _ _ => 0) ⟨#[], #[.slice none 0 0, .slice none 0 0, .slice none 0 0], []⟩).memory Tryd.f5.params.toList Rows.replyOpensSpec.vars false (#[.slice none 0 0, .slice none 0 0, .slice none 0 0] : Array Value).toList 8 = some ([.nil, .nil, .nil], [], places) :=
  ⟨[], by kernel_rfl⟩

set_option maxRecDepth 100000 in
theorem lifted (os : Os) (started : os.Started) (H : Type) (enc : TypeId × Value → H) (F : Stop.Interp) :
    ReturnsInHanded {} Tryd.checked os 5 .any ((OpenSpec.ofChange Rows.replyOpensSpec).preRow enc Tryd.prog Tryd.f5 Rows.replyOpensRow.domain false Rows.replyOpensRow.laid) (((OpenSpec.ofChange Rows.replyOpensSpec).at F).post enc Tryd.prog Tryd.f5 false true false false) := by
  obtain ⟨places, hx⟩ := reads os enc
  refine returnsInHanded_of_row (C := Tryd.checked) (s := OpenSpec.ofChange Rows.replyOpensSpec) own started (by kernel_rfl) Tryd.func5
    (witness_row_at (enc := enc) (C := Tryd.checked) false (World.laidAll Tryd.prog os Rows.replyOpensRow.laid) #[.slice none 0 0, .slice none 0 0, .slice none 0 0] (World.laidAll_os _ _ _) (by kernel_rfl) (by kernel_rfl) (by kernel_rfl)
      (OpenSpec.preRow_of_cond 8 hx (by kernel_rfl) (fun k hk => by cases hk) (by kernel_rfl) (laidMet_laidAll _ (by kernel_rfl) (by kernel_rfl)))) ?_
  intro W base args ds gs before hval0 hW hcnd _ hsz hL _ _
  have hval : ∀ (j : Nat) t v, Tryd.f5.params[j]? = some t → args[j]? = some v → Value.okWide Tryd.prog W .any base t v := hval0
  have hW' := hW
  obtain ⟨p, q, hA0, hV, rfl, hfz, hnd⟩ := hW
  have hA : DataW.TrodAll enc Tryd.prog W 0 (fun _ => true) true Tryd.f5.params.toList args.toList ds p := hA0
  rw [Tryd.params5] at hA hval
  obtain ⟨v0, vs0, d0, ds0, p0, q0, hargs, rfl, rfl, h0, r0⟩ := trodAll_cons hA
  obtain ⟨v1, vs1, d1, ds1, p1, q1, rfl, rfl, rfl, h1, r1⟩ := trodAll_cons r0
  obtain ⟨v2, vs2, d2, ds2, p2, q2, rfl, rfl, rfl, h2, r2⟩ := trodAll_cons r1
  obtain ⟨rfl, rfl, rfl⟩ := trodAll_nil r2
  obtain rfl : args = #[v0, v1, v2] := by cases args; simp_all
  obtain ⟨rfl, rfl⟩ := trodVars_none hV
  have k0 := h0
  have lt0 : ∀ x ∈ p0, x.block < W.heap.size := by obtain ⟨m, hm⟩ := k0; exact DataW.trod_lt m _ _ _ hm
  obtain ⟨a0, len0, cap0, rfl⟩ := okWide_slice Tryd.underlying35 (hval 0 35 v0 rfl rfl)
  obtain ⟨L0, C0, w0, e0, kk0, f0, s0⟩ := Go.Sx.open_recs (ks := [.rows .u8]) Tryd.underlying35 (by kernel_rfl) (by decide) (by kernel_rfl) h0 hsz (j := 0) (by rfl) (by rfl)
  have k1 := h1
  have lt1 : ∀ x ∈ p1, x.block < W.heap.size := by obtain ⟨m, hm⟩ := k1; exact DataW.trod_lt m _ _ _ hm
  obtain ⟨a1, len1, cap1, rfl⟩ := okWide_slice Tryd.underlying36 (hval 1 36 v1 rfl rfl)
  obtain ⟨L1, C1, w1, e1, kk1, f1, s1⟩ := Go.Sx.open_recs (ks := [.arrs .u8 16]) Tryd.underlying36 (by kernel_rfl) (by decide) (by kernel_rfl) h1 hsz (j := 1) (by rfl) (by rfl)
  have k2 := h2
  have lt2 : ∀ x ∈ p2, x.block < W.heap.size := by obtain ⟨m, hm⟩ := k2; exact DataW.trod_lt m _ _ _ hm
  obtain ⟨a2, len2, cap2, rfl⟩ := okWide_slice Tryd.underlying35 (hval 2 35 v2 rfl rfl)
  obtain ⟨L2, C2, w2, e2, kk2, f2, s2⟩ := Go.Sx.open_recs (ks := [.rows .u8]) Tryd.underlying35 (by kernel_rfl) (by decide) (by kernel_rfl) h2 hsz (j := 2) (by rfl) (by rfl)
  clear hA0 hval0
  refine (walk a0 len0 cap0 L0 C0 a1 len1 cap1 L1 C1 a2 len2 cap2 L2 C2 W w0 e0 kk0 f0 s0 w1 e1 kk1 f1 s1 w2 e2 kk2 f2 s2 (fun i hi => (table0 hL).cell gTab0 i hi)).mono fun e W' ⟨he, bel⟩ => ?_
  subst he
  exact ⟨_, rfl, _, _, _, [], _, [], hW', trodAll_mk1 (shut_bool Tryd.underlying4 _), (trodAll_cons_mk (Below.trod laidOut (by kernel_rfl) (of_decide_eq_true (by kernel_rfl)) k0 bel lt0) (trodAll_cons_mk (Below.trod laidOut (by kernel_rfl) (of_decide_eq_true (by kernel_rfl)) k1 bel lt1) (trodAll_cons_mk (Below.trod laidOut (by kernel_rfl) (of_decide_eq_true (by kernel_rfl)) k2 bel lt2) trodAll_mk0))), rfl, bel.frame _, fun h => by cases h⟩

theorem over : Rows.replyOpensRow.holds Tryd.pinned (OpenSpec.ofChange Rows.replyOpensSpec) :=
  OpenClaim.holds_of_cond 5 Tryd.f5 rfl rfl rfl rfl rfl rfl rfl ⟨rfl, rfl, rfl, rfl, rfl⟩ rfl rfl rfl rfl rfl (by kernel_rfl) Tryd.func5 (by kernel_rfl)
    (of_decide_eq_true (by kernel_rfl)) (by unfold Func.isWrapper; first | (rw [if_pos (by decide +kernel)]; kernel_rfl) | (rw [if_neg (by decide +kernel)]; exact ⟨rfl, rfl⟩))
    (fun os started H enc _ F => by rw [OpenClaim.pre_eq_preRow]; exact lifted os started H enc F)

theorem plain (f : FuncId) (fn : Func) (hf : Tryd.pinned.checked.prog.funcNamed "churn/churnlaw27.ReplyOpens" = some f) (hfn : Tryd.pinned.checked.prog.funcs[f]? = some fn) :
    false = Tryd.pinned.checked.prog.looks [] ∧ ∀ (j : Nat) t, fn.params[j]? = some t → Tryd.pinned.checked.prog.wantsStandIn t = false := by
  obtain rfl : f = 5 := Option.some.inj ((show Tryd.prog.funcNamed "churn/churnlaw27.ReplyOpens" = some 5 by kernel_rfl).symm.trans hf) |>.symm
  obtain rfl : fn = Tryd.f5 := (Option.some.inj (Tryd.func5.symm.trans hfn)).symm
  refine ⟨by kernel_rfl, fun j t ht => ?_⟩
  have all : ∀ t ∈ Tryd.f5.params.toList, Tryd.prog.wantsStandIn t = false := by
    rw [Tryd.params5]; intro t ht; simp only [List.mem_cons, List.not_mem_nil, or_false] at ht; rcases ht with rfl | rfl | rfl <;> kernel_rfl
  exact all t (by rw [← Array.getElem?_toList] at ht; exact List.mem_of_getElem? ht)

end Go.Proofs.YtdgmgalnhignjaaDoor.replyOpens
namespace Go.Proofs.YtdgmgalnhignjaaDoor
/-- THE STATEMENT -/
theorem replyOpens_holds : Rows.ReplyOpensCardSaid :=
  Claim7.holds_tied_plain_at .later [] _ _ _ _ replyOpens.over (fun _ h => by cases h) (by kernel_rfl) (fun _ h => by cases h) replyOpens_row_tie rfl ⟨rfl, rfl⟩ (by kernel_rfl) rfl replyOpens.plain (by kernel_rfl)
#print axioms replyOpens_holds
end Go.Proofs.YtdgmgalnhignjaaDoor
