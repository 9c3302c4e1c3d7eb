/- The law BlockCrypts holds for every input: the call returns true and each argument reads afterwards as it read before. No condition is added. -/
import Derived.Test.YtkecbjohbihfmaaBlockCryptsD
import Derived.Test.YtkecbjohbihfmaaRows
import Derived.WalkKit
import Derived.ProofKit
import Derived.OpenShut
import Derived.ShutString
import Derived.ChangeOld
import Derived.SizedLaws
import Derived.Below
namespace Go.Proofs.Ytkecbjohbihfmaa.blockCrypts
open Go.ChangeShapes Go.WideShapes Go.ChangeAt Go.RowKit
open Go.ChangeMaps (open_string shut_string)
set_option linter.unusedVariables false

theorem own : ownKnob Try.prog.godebug = none := by kernel_rfl
theorem laidOut : laidOutB Try.prog = true := by kernel_rfl

theorem walk (a0 : List Int) (a1 : Option Addr) (len1 cap1 : Nat) (L1 : Go.Sx.Loc) (C1 : List Go.Sx.Col) (w : World) (w0 : a0.length = 16 ∧ ∀ z ∈ a0, (Lit.int .u8 z).wf = true) (w1 : Go.Sx.VRep w L1 C1) (e1 : Value.slice a1 len1 cap1 = .slice L1.a L1.len L1.cap) (k1 : Go.Sx.kdsOf C1 = [.arrs .u8 16]) (f1 : ∀ col ∈ C1, col.wf) (s1 : L1.len * Try.prog.bytesOf 22 ≤ reachBytes) :
    Calls Try.prog 3 #[.agg (a0.map (Value.int .u8)).toArray, .slice a1 len1 cap1] w fun e w' => e = .returned (.bool true) ∧ Below w.heap.size w w' := by
  have hk : Go.Blk.BL 16 a0 := ⟨w0.1, fun z hz => by
    obtain ⟨h1, h2⟩ := Go.bounds_u8 (w0.2 z hz)
    exact ⟨h1, by omega⟩⟩
  have l0 := w0.1
  obtain ⟨c, rfl, hc⟩ := Go.Sx.cols_one k1
  obtain ⟨ll, rfl⟩ := Go.Sx.kd_arrs hc
  have hok := w1.ok _ (List.mem_singleton.2 rfl)
  have hl : ∀ l ∈ ll, Go.Blk.BL 16 l := fun l hl => ⟨hok.2 l hl, fun x hx => by
    obtain ⟨h1, h2⟩ := Go.Sx.wf_u8 (f1 _ (List.mem_singleton.2 rfl) l hl x hx)
    exact ⟨h1, h2⟩⟩
  have hs : ll.length ≤ 140737488355328 := by
    rw [show Try.prog.bytesOf 22 = 16 by kernel_rfl] at s1
    have h2 : L1.len * 16 ≤ 140737488351232 := s1
    have h3 : ll.length = L1.len := hok.1
    omega
  exact Go.Sx.law_mem (D := []) Go.Proofs.Ytkecbjohbihfmaa.G.mixed Go.Proofs.Ytkecbjohbihfmaa.G.gamB9_good Try.func3 (by kernel_rfl) (.plain (fun ρ => Go.Sx.srep_arr ρ .u8 16 _ l0) (.recs w1 e1 (.nil _))) (by simp) (Go.Proofs.Ytkecbjohbihfmaa.G.blockCrypts_plain hk hl hs)

set_option maxRecDepth 100000 in
theorem lifted (os : Os) (started : os.Started) (H : Type) (enc : TypeId × Value → H) :
    ReturnsInHanded {} Try.checked os 3 .any (Rows.blockCryptsSpec.pre6 enc Try.prog Try.f3 Rows.blockCryptsRow.domain false) (Rows.blockCryptsSpec.post enc Try.prog Try.f3 false true false false) := by
  refine returnsInHanded_of_change_sized (C := Try.checked) own started (by kernel_rfl) Try.func3
    (ChangeSpec.witness6 (enc := enc) (C := Try.checked) false ⟨#[], #[.agg #[.int .u8 0, .int .u8 0, .int .u8 0, .int .u8 0, .int .u8 0, .int .u8 0, .int .u8 0, .int .u8 0, .int .u8 0, .int .u8 0, .int .u8 0, .int .u8 0, .int .u8 0, .int .u8 0, .int .u8 0, .int .u8 0], .slice none 0 0], []⟩ 8 (by kernel_rfl) (by kernel_rfl) (by kernel_rfl) (by kernel_rfl)) ?_
  intro W base args ds gs before hval0 hW hcnd hsz _
  have hval : ∀ (j : Nat) t v, Try.f3.params[j]? = some t → args[j]? = some v → Value.okWide Try.prog W .any base t v := hval0
  have hW' := hW
  obtain ⟨p, q, hA0, hV, rfl, hfz, hnd⟩ := hW
  have hA : DataW.TrodAll enc Try.prog W 0 (fun _ => true) true Try.f3.params.toList args.toList ds p := hA0
  rw [Try.params3] at hA hval
  obtain ⟨v0, vs0, d0, ds0, p0, q0, hargs, rfl, rfl, h0, r0⟩ := trodAll_cons hA
  obtain ⟨v1, vs1, d1, ds1, p1, q1, rfl, rfl, rfl, h1, r1⟩ := trodAll_cons r0
  obtain ⟨rfl, rfl, rfl⟩ := trodAll_nil r1
  obtain rfl : args = #[v0, v1] := by cases args; simp_all
  obtain ⟨rfl, rfl⟩ := trodVars_none hV
  have k0 := h0
  have lt0 : ∀ x ∈ p0, x.block < W.heap.size := by obtain ⟨m, hm⟩ := k0; exact DataW.trod_lt m _ _ _ hm
  obtain ⟨a0, rfl, w0⟩ := Go.Sx.open_array Try.underlying22 Try.underlying5 (by kernel_rfl) (by kernel_rfl) (hval 0 22 v0 rfl rfl) h0
  have k1 := h1
  have lt1 : ∀ x ∈ p1, x.block < W.heap.size := by obtain ⟨m, hm⟩ := k1; exact DataW.trod_lt m _ _ _ hm
  obtain ⟨a1, len1, cap1, rfl⟩ := okWide_slice Try.underlying23 (hval 1 23 v1 rfl rfl)
  obtain ⟨L1, C1, w1, e1, kk1, f1, s1⟩ := Go.Sx.open_recs (ks := [.arrs .u8 16]) Try.underlying23 (by kernel_rfl) (by decide) (by kernel_rfl) h1 hsz (j := 1) (by rfl) (by rfl)
  clear hA0 hval0
  refine (walk a0 a1 len1 cap1 L1 C1 W w0 w1 e1 kk1 f1 s1).mono fun e W' ⟨he, bel⟩ => ?_
  subst he
  exact ⟨_, rfl, _, _, _, [], _, [], hW', trodAll_mk1 (shut_bool Try.underlying4 _), (trodAll_cons_mk (Below.trod laidOut (by kernel_rfl) (of_decide_eq_true (by kernel_rfl)) k0 bel lt0) (trodAll_cons_mk (Below.trod laidOut (by kernel_rfl) (of_decide_eq_true (by kernel_rfl)) k1 bel lt1) trodAll_mk0)), rfl, bel.frame _, fun h => by cases h⟩

theorem over : Rows.blockCryptsRow.holds Try.pinned (OpenSpec.ofChange Rows.blockCryptsSpec) :=
  OpenClaim.holds_of_wide 3 Try.f3 rfl rfl rfl rfl rfl rfl rfl ⟨rfl, rfl, rfl, rfl, rfl⟩ rfl rfl rfl rfl rfl (by kernel_rfl) Try.func3 (by kernel_rfl)
    (of_decide_eq_true (by kernel_rfl)) (by unfold Func.isWrapper; first | (rw [if_pos (by decide +kernel)]; kernel_rfl) | (rw [if_neg (by decide +kernel)]; exact ⟨rfl, rfl⟩))
    (fun os started H enc _ => lifted os started H enc)

end Go.Proofs.Ytkecbjohbihfmaa.blockCrypts
namespace Go.Proofs.Ytkecbjohbihfmaa
/-- THE STATEMENT -/
theorem blockCrypts_holds : Rows.BlockCryptsSaid := blockCrypts.over
#print axioms blockCrypts_holds
end Go.Proofs.Ytkecbjohbihfmaa
