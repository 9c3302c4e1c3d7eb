/- The law RouteWalks holds for every input: the call returns true and each argument reads afterwards as it read before. No condition is added. -/
import Derived.Test.YtienfecnkglilaaDoorRouteWalksH
import Derived.Test.YtienfecnkglilaaDoorCards
import Derived.Test.YtienfecnkglilaaDoorTie
import Derived.Deep.DeepHandedRow
import Derived.Lib.LaidTab
import Derived.SevenTiedAt
import Derived.Lay
import Derived.Test.YtienfecnkglilaaDoorRows
import Derived.WalkKit
import Derived.ProofKit
import Derived.OpenShut
import Derived.ShutString
import Derived.ChangeOld
import Derived.SizedLaws
import Derived.Below
namespace Go.Proofs.YtienfecnkglilaaDoor.routeWalks
open Go.ChangeShapes Go.WideShapes Go.ChangeAt Go.RowKit
open Go.ChangeMaps (open_string shut_string)
set_option linter.unusedVariables false

theorem own : ownKnob Tryd.prog.godebug = none := by kernel_rfl
theorem laidOut : laidOutB Tryd.prog = true := by kernel_rfl

def tab0 : List Int := [1116352408, 1899447441, 3049323471, 3921009573, 961987163, 1508970993, 2453635748, 2870763221, 3624381080, 310598401, 607225278, 1426881987, 1925078388, 2162078206, 2614888103, 3248222580, 3835390401, 4022224774, 264347078, 604807628, 770255983, 1249150122, 1555081692, 1996064986, 2554220882, 2821834349, 2952996808, 3210313671, 3336571891, 3584528711, 113926993, 338241895, 666307205, 773529912, 1294757372, 1396182291, 1695183700, 1986661051, 2177026350, 2456956037, 2730485921, 2820302411, 3259730800, 3345764771, 3516065817, 3600352804, 4094571909, 275423344, 430227734, 506948616, 659060556, 883997877, 958139571, 1322822218, 1537002063, 1747873779, 1955562222, 2024104815, 2227730452, 2361852424, 2428436474, 2756734187, 3204031479, 3329325298]
theorem gTab0 : Tryd.prog.globalNamed "churn/hash.roots" = some 0 := by kernel_rfl
theorem table0 {W : World} (h : laidMetH Tryd.prog Rows.routeWalksRow.laid W) : Lib.TabIs Tryd.prog W "churn/hash.roots" .u32 tab0 :=
  Lib.tabIs_of_head (t := 123) (e := 89) (n := 64) (rest := []) gTab0 (by kernel_rfl) Tryd.underlying123 Tryd.underlying89 (by kernel_rfl) (by kernel_rfl) h
theorem walk (a0 : Option Addr) (len0 cap0 : Nat) (L0 : Go.Sx.Loc) (C0 : List Go.Sx.Col) (a1 : Option Addr) (len1 cap1 : Nat) (z1 : List Int) (w : World) (w0 : Go.Sx.VRep w L0 C0) (e0 : Value.slice a0 len0 cap0 = .slice L0.a L0.len L0.cap) (k0 : Go.Sx.kdsOf C0 = [.rows .u8]) (f0 : ∀ col ∈ C0, col.wf) (s0 : L0.len * Tryd.prog.bytesOf 22 ≤ reachBytes) (w1 : Go.Sx.IsRow .u8 w a1 len1 cap1 z1) (s1 : z1.length * 1 ≤ reachBytes) (T0 : ∀ i, i < 64 → w.cell? ⟨0, i, none⟩ = some (.int .u32 (tab0.getD i 0))) :
    Calls Tryd.prog 6 #[.slice a0 len0 cap0, .slice a1 len1 cap1] w fun e w' => e = .returned (.bool true) ∧ Below w.heap.size w w' := by
  obtain ⟨c0, rfl, hc⟩ := Go.Sx.cols_one k0
  obtain ⟨KL, rfl⟩ := Go.Sx.kd_rows hc (f0 _ (by simp))
  have hk : Go.Rou.Kys KL := by
    have hok : KL.length = L0.len := w0.ok _ (List.mem_singleton.2 rfl)
    rw [show Tryd.prog.bytesOf 22 = 24 by kernel_rfl] at s0
    have hs : L0.len * 24 ≤ 140737488351232 := s0
    have hr := Go.Sx.rows_bytes (f0 _ (List.mem_singleton.2 rfl))
    exact ⟨by omega, fun i => ⟨(hr i).1, (hr i).2⟩⟩
  have hl2 : (z1.take len1).length ≤ z1.length := by simp; omega
  have h2 : z1.length * 1 ≤ 140737488351232 := s1
  obtain ⟨n, hh⟩ := Go.Proofs.YtienfecnkglilaaDoor.G.routeWalks_plain (c := z1.take len1) hk ⟨by omega, ⟨w1.bytes⟩⟩
  exact Go.Sx.law_mem (D := [⟨777777, [], true, false⟩]) Go.Proofs.YtienfecnkglilaaDoor.G.mixed Go.Proofs.YtienfecnkglilaaDoor.G.gamR3_good Tryd.func6 (by kernel_rfl) (.recs w0 e0 (.ints w1 (.heap (k := .u8) (.glob (Go.Sx.glob_roots T0) (.nil _))))) (by simp) hh

set_option maxRecDepth 100000 in
theorem reads (os : Os) {H : Type} (enc : TypeId × Value → H) : ∃ places, DataW.whole enc Tryd.prog ((World.laidAll Tryd.prog os Rows.routeWalksRow.laid).forCall (fun _ _ => 0) ⟨#[], #[.slice none 0 0, .slice none 0 0], []⟩).memory Tryd.f6.params.toList Rows.routeWalksSpec.vars false (#[.slice none 0 0, .slice none 0 0] : Array Value).toList 8 = some ([.nil, .nil], [], places) :=
  ⟨[], by kernel_rfl⟩

set_option maxRecDepth 100000 in
theorem lifted (os : Os) (started : os.Started) (H : Type) (enc : TypeId × Value → H) (F : Stop.Interp) :
    ReturnsInHanded {} Tryd.checked os 6 .any ((OpenSpec.ofChange Rows.routeWalksSpec).preRow enc Tryd.prog Tryd.f6 Rows.routeWalksRow.domain false Rows.routeWalksRow.laid) (((OpenSpec.ofChange Rows.routeWalksSpec).at F).post enc Tryd.prog Tryd.f6 false true false false) := by
  obtain ⟨places, hx⟩ := reads os enc
  refine returnsInHanded_of_row (C := Tryd.checked) (s := OpenSpec.ofChange Rows.routeWalksSpec) own started (by kernel_rfl) Tryd.func6
    (witness_row_at (enc := enc) (C := Tryd.checked) false (World.laidAll Tryd.prog os Rows.routeWalksRow.laid) #[.slice none 0 0, .slice none 0 0] (World.laidAll_os _ _ _) (by kernel_rfl) (by kernel_rfl) (by kernel_rfl)
      (OpenSpec.preRow_of_cond 8 hx (by kernel_rfl) (fun k hk => by cases hk) (by kernel_rfl) (laidMet_laidAll _ (by kernel_rfl) (by kernel_rfl)))) ?_
  intro W base args ds gs before hval0 hW hcnd _ hsz hL _ _
  have hval : ∀ (j : Nat) t v, Tryd.f6.params[j]? = some t → args[j]? = some v → Value.okWide Tryd.prog W .any base t v := hval0
  have hW' := hW
  obtain ⟨p, q, hA0, hV, rfl, hfz, hnd⟩ := hW
  have hA : DataW.TrodAll enc Tryd.prog W 0 (fun _ => true) true Tryd.f6.params.toList args.toList ds p := hA0
  rw [Tryd.params6] at hA hval
  obtain ⟨v0, vs0, d0, ds0, p0, q0, hargs, rfl, rfl, h0, r0⟩ := trodAll_cons hA
  obtain ⟨v1, vs1, d1, ds1, p1, q1, rfl, rfl, rfl, h1, r1⟩ := trodAll_cons r0
  obtain ⟨rfl, rfl, rfl⟩ := trodAll_nil r1
  obtain rfl : args = #[v0, v1] := by cases args; simp_all
  obtain ⟨rfl, rfl⟩ := trodVars_none hV
  have k0 := h0
  have lt0 : ∀ x ∈ p0, x.block < W.heap.size := by obtain ⟨m, hm⟩ := k0; exact DataW.trod_lt m _ _ _ hm
  obtain ⟨a0, len0, cap0, rfl⟩ := okWide_slice Tryd.underlying30 (hval 0 30 v0 rfl rfl)
  obtain ⟨L0, C0, w0, e0, kk0, f0, s0⟩ := Go.Sx.open_recs (ks := [.rows .u8]) Tryd.underlying30 (by kernel_rfl) (by decide) (by kernel_rfl) h0 hsz (j := 0) (by rfl) (by rfl)
  have k1 := h1
  have lt1 : ∀ x ∈ p1, x.block < W.heap.size := by obtain ⟨m, hm⟩ := k1; exact DataW.trod_lt m _ _ _ hm
  obtain ⟨a1, len1, cap1, rfl⟩ := okWide_slice Tryd.underlying22 (hval 1 22 v1 rfl rfl)
  obtain ⟨z1, w1, s1⟩ := Go.Sx.open_row_sized Tryd.underlying22 Tryd.underlying5 (by kernel_rfl) h1 hsz (j := 1) (by rfl) (by rfl)
  rw [show Tryd.prog.bytesOf 5 = 1 by kernel_rfl] at s1
  clear hA0 hval0
  refine (walk a0 len0 cap0 L0 C0 a1 len1 cap1 z1 W w0 e0 kk0 f0 s0 w1 s1 (fun i hi => (table0 hL).cell gTab0 i hi)).mono fun e W' ⟨he, bel⟩ => ?_
  subst he
  exact ⟨_, rfl, _, _, _, [], _, [], hW', trodAll_mk1 (shut_bool Tryd.underlying4 _), (trodAll_cons_mk (Below.trod laidOut (by kernel_rfl) (of_decide_eq_true (by kernel_rfl)) k0 bel lt0) (trodAll_cons_mk (Below.trod laidOut (by kernel_rfl) (of_decide_eq_true (by kernel_rfl)) k1 bel lt1) trodAll_mk0)), rfl, bel.frame _, fun h => by cases h⟩

theorem over : Rows.routeWalksRow.holds Tryd.pinned (OpenSpec.ofChange Rows.routeWalksSpec) :=
  OpenClaim.holds_of_cond 6 Tryd.f6 rfl rfl rfl rfl rfl rfl rfl ⟨rfl, rfl, rfl, rfl, rfl⟩ rfl rfl rfl rfl rfl (by kernel_rfl) Tryd.func6 (by kernel_rfl)
    (of_decide_eq_true (by kernel_rfl)) (by unfold Func.isWrapper; first | (rw [if_pos (by decide +kernel)]; kernel_rfl) | (rw [if_neg (by decide +kernel)]; exact ⟨rfl, rfl⟩))
    (fun os started H enc _ F => by rw [OpenClaim.pre_eq_preRow]; exact lifted os started H enc F)

theorem plain (f : FuncId) (fn : Func) (hf : Tryd.pinned.checked.prog.funcNamed "churn/churnlaw08.RouteWalks" = some f) (hfn : Tryd.pinned.checked.prog.funcs[f]? = some fn) :
    false = Tryd.pinned.checked.prog.looks [] ∧ ∀ (j : Nat) t, fn.params[j]? = some t → Tryd.pinned.checked.prog.wantsStandIn t = false := by
  obtain rfl : f = 6 := Option.some.inj ((show Tryd.prog.funcNamed "churn/churnlaw08.RouteWalks" = some 6 by kernel_rfl).symm.trans hf) |>.symm
  obtain rfl : fn = Tryd.f6 := (Option.some.inj (Tryd.func6.symm.trans hfn)).symm
  refine ⟨by kernel_rfl, fun j t ht => ?_⟩
  have all : ∀ t ∈ Tryd.f6.params.toList, Tryd.prog.wantsStandIn t = false := by
    rw [Tryd.params6]; intro t ht; simp only [List.mem_cons, List.not_mem_nil, or_false] at ht; rcases ht with rfl | rfl <;> kernel_rfl
  exact all t (by rw [← Array.getElem?_toList] at ht; exact List.mem_of_getElem? ht)

end Go.Proofs.YtienfecnkglilaaDoor.routeWalks
namespace Go.Proofs.YtienfecnkglilaaDoor
/-- THE STATEMENT -/
theorem routeWalks_holds : Rows.RouteWalksCardSaid :=
  Claim7.holds_tied_plain_at .later [] _ _ _ _ routeWalks.over (fun _ h => by cases h) (by kernel_rfl) (fun _ h => by cases h) routeWalks_row_tie rfl ⟨rfl, rfl⟩ (by kernel_rfl) rfl routeWalks.plain (by kernel_rfl)
#print axioms routeWalks_holds
end Go.Proofs.YtienfecnkglilaaDoor
