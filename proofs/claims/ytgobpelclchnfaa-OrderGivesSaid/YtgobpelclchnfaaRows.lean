/-
  No cell of these rows narrows 'for every input' (looked for: loops, veiled, ifaces, maps, wideKeys, modest, calm, conditions, laid).
  DERIVED. THE GIVEN ROWS OF THIS SEAT. 4 by the template 'for every input the law returns true; each argument reads behind the call as it read before'; 0 by the template 'total and deterministic' (their statements: YtgobpelclchnfaaTotals.lean).
  GIVEN WITH THE SEED: the statements are not yours to turn. If you find one false, say at which input.
  Laid BY PROGRAM, IN A SANDBOX (cutbox-rows.mjs): the forced cells as the released guide's own fill.sh prints them over the translation ab6d322ced91aa4d… (all of the seat's roots in one cut). By AI agents, Wed Nov 11 2026. No macro, syntax, notation, axiom, sorry.
-/
import Derived.Test.YtgobpelclchnfaaChecked
import GoSem.Claim
import GoSem.ClaimJoined
import GoSem.ClaimMapViews
import Derived.JoinedTies
import Derived.KernelRfl
namespace Go.Proofs.Ytgobpelclchnfaa
/- THE CELL 'sum', in the pinned program and in every row, IS THE sha256 OF THE DUMP (.gsa) THAT YtgobpelclchnfaaProg.lean LOADS. Nothing in Lean hashes anything: it is a label: what it is worth is what the hold of that sum in a sandbox is worth. -/
noncomputable def Try.pinned : Pinned := { name := "ytgobpelclchnfaa", sum := "ab6d322ced91aa4d84ce5f81c8e64e28aaf83cae864ad4dcdfde6a214ee6d288", checked := Try.checked }
namespace Rows
def none {H : Type} : Left H := { results := [], args := [] }

/-- 'churnlaw20.OrderNotes': WHATEVER THE INPUT: true; the input reads as it did. -/
def orderNotesSpec : ChangeSpec := { name := "orderNotes", fn := fun _ => fun
  | [d] => { results := [.lit (.bool true)], args := [d] }
  | _ => none }
def orderNotesRow : OpenClaim := { program := "ytgobpelclchnfaa", sum := "ab6d322ced91aa4d84ce5f81c8e64e28aaf83cae864ad4dcdfde6a214ee6d288", func := "churn/churnlaw20.OrderNotes", spec := "orderNotes", apart := false }
def OrderNotesSaid : Prop := orderNotesRow.holds Try.pinned (OpenSpec.ofChange orderNotesSpec)

/-- ITS FALSE NEIGHBOUR: 'it returns false'. Refute it at one input. -/
def orderNotesWrong : ChangeSpec := { name := "orderNotes", fn := fun _ => fun
  | [d] => { results := [.lit (.bool false)], args := [d] }
  | _ => none }
def OrderNotesWrongFalsely : Prop := orderNotesRow.holds Try.pinned (OpenSpec.ofChange orderNotesWrong)

/-- 'churnlaw20.OrderFirsts': WHATEVER THE INPUT: true; the input reads as it did. -/
def orderFirstsSpec : ChangeSpec := { name := "orderFirsts", fn := fun _ => fun
  | [d] => { results := [.lit (.bool true)], args := [d] }
  | _ => none }
def orderFirstsRow : OpenClaim := { program := "ytgobpelclchnfaa", sum := "ab6d322ced91aa4d84ce5f81c8e64e28aaf83cae864ad4dcdfde6a214ee6d288", func := "churn/churnlaw20.OrderFirsts", spec := "orderFirsts", apart := false }
def OrderFirstsSaid : Prop := orderFirstsRow.holds Try.pinned (OpenSpec.ofChange orderFirstsSpec)

/-- ITS FALSE NEIGHBOUR: 'it returns false'. Refute it at one input. -/
def orderFirstsWrong : ChangeSpec := { name := "orderFirsts", fn := fun _ => fun
  | [d] => { results := [.lit (.bool false)], args := [d] }
  | _ => none }
def OrderFirstsWrongFalsely : Prop := orderFirstsRow.holds Try.pinned (OpenSpec.ofChange orderFirstsWrong)

/-- 'churnlaw20.OrderScripts': WHATEVER THE INPUT: true; the input reads as it did. -/
def orderScriptsSpec : ChangeSpec := { name := "orderScripts", fn := fun _ => fun
  | [d] => { results := [.lit (.bool true)], args := [d] }
  | _ => none }
def orderScriptsRow : OpenClaim := { program := "ytgobpelclchnfaa", sum := "ab6d322ced91aa4d84ce5f81c8e64e28aaf83cae864ad4dcdfde6a214ee6d288", func := "churn/churnlaw20.OrderScripts", spec := "orderScripts", apart := false }
def OrderScriptsSaid : Prop := orderScriptsRow.holds Try.pinned (OpenSpec.ofChange orderScriptsSpec)

/-- ITS FALSE NEIGHBOUR: 'it returns false'. Refute it at one input. -/
def orderScriptsWrong : ChangeSpec := { name := "orderScripts", fn := fun _ => fun
  | [d] => { results := [.lit (.bool false)], args := [d] }
  | _ => none }
def OrderScriptsWrongFalsely : Prop := orderScriptsRow.holds Try.pinned (OpenSpec.ofChange orderScriptsWrong)

/-- 'churnlaw20.OrderGives': WHATEVER THE INPUT: true; the input reads as it did. -/
def orderGivesSpec : ChangeSpec := { name := "orderGives", fn := fun _ => fun
  | [d] => { results := [.lit (.bool true)], args := [d] }
  | _ => none }
def orderGivesRow : OpenClaim := { program := "ytgobpelclchnfaa", sum := "ab6d322ced91aa4d84ce5f81c8e64e28aaf83cae864ad4dcdfde6a214ee6d288", func := "churn/churnlaw20.OrderGives", spec := "orderGives", apart := false }
def OrderGivesSaid : Prop := orderGivesRow.holds Try.pinned (OpenSpec.ofChange orderGivesSpec)

/-- ITS FALSE NEIGHBOUR: 'it returns false'. Refute it at one input. -/
def orderGivesWrong : ChangeSpec := { name := "orderGives", fn := fun _ => fun
  | [d] => { results := [.lit (.bool false)], args := [d] }
  | _ => none }
def OrderGivesWrongFalsely : Prop := orderGivesRow.holds Try.pinned (OpenSpec.ofChange orderGivesWrong)

/- THE SECOND FORM. 'bulk': how many values and letters a reading holds, each counted each time it is reached (what is shared counts as often as it is met; a slice's spare places count too). A statement '..UptoSaid' is the law's where the arguments, and the package variables that the reading takes, are together of bulk at most 1048576: NARROWER than '..Said'. Prove '..Said' where nothing that the law and all that it calls make is longer than what came in: it says more and counts as full. Else prove '..UptoSaid'. A law counts once. -/
mutual
def uptoBulk {H : Type} : DataW H → Nat
  | .lit (.string bytes) => bytes.length + 1
  | .lit _ => 1
  | .nil => 1
  | .ptr d => uptoBulk d + 1
  | .slice elems spare => uptoBulkAll elems + uptoBulkAll spare + 1
  | .agg parts => uptoBulkAll parts + 1
  | .iface _ d => uptoBulk d + 1
  | .map entries => uptoBulkEntries entries + 1
  | .held _ => 1
def uptoBulkAll {H : Type} : List (DataW H) → Nat
  | [] => 0
  | d :: r => uptoBulk d + uptoBulkAll r
def uptoBulkEntries {H : Type} : List (Lit × DataW H) → Nat
  | [] => 0
  | x :: r => uptoBulkEntry x + uptoBulkEntries r
def uptoBulkEntry {H : Type} : Lit × DataW H → Nat
  | (.string bytes, d) => bytes.length + uptoBulk d + 1
  | (_, d) => uptoBulk d + 1
 end
def uptoSmall : (H : Type) → List (DataW H) → Bool := fun _ ds => decide (uptoBulkAll ds ≤ 1048576)
def OpenSpec.upto (s : _root_.Go.ChangeSpec) : _root_.Go.OpenSpec := { _root_.Go.OpenSpec.ofChange s with cond := some uptoSmall }

/-- 'churnlaw20.OrderNotes', WHERE WHAT IT READS IS OF BULK AT MOST 1048576: true; the input reads as it did. -/
def orderNotesUptoRow : OpenClaim := { program := "ytgobpelclchnfaa", sum := "ab6d322ced91aa4d84ce5f81c8e64e28aaf83cae864ad4dcdfde6a214ee6d288", func := "churn/churnlaw20.OrderNotes", spec := "orderNotes", apart := false, narrowed := true }
def OrderNotesUptoSaid : Prop := orderNotesUptoRow.holds Try.pinned (OpenSpec.upto orderNotesSpec)

/-- 'churnlaw20.OrderFirsts', WHERE WHAT IT READS IS OF BULK AT MOST 1048576: true; the input reads as it did. -/
def orderFirstsUptoRow : OpenClaim := { program := "ytgobpelclchnfaa", sum := "ab6d322ced91aa4d84ce5f81c8e64e28aaf83cae864ad4dcdfde6a214ee6d288", func := "churn/churnlaw20.OrderFirsts", spec := "orderFirsts", apart := false, narrowed := true }
def OrderFirstsUptoSaid : Prop := orderFirstsUptoRow.holds Try.pinned (OpenSpec.upto orderFirstsSpec)

/-- 'churnlaw20.OrderScripts', WHERE WHAT IT READS IS OF BULK AT MOST 1048576: true; the input reads as it did. -/
def orderScriptsUptoRow : OpenClaim := { program := "ytgobpelclchnfaa", sum := "ab6d322ced91aa4d84ce5f81c8e64e28aaf83cae864ad4dcdfde6a214ee6d288", func := "churn/churnlaw20.OrderScripts", spec := "orderScripts", apart := false, narrowed := true }
def OrderScriptsUptoSaid : Prop := orderScriptsUptoRow.holds Try.pinned (OpenSpec.upto orderScriptsSpec)

/-- 'churnlaw20.OrderGives', WHERE WHAT IT READS IS OF BULK AT MOST 1048576: true; the input reads as it did. -/
def orderGivesUptoRow : OpenClaim := { program := "ytgobpelclchnfaa", sum := "ab6d322ced91aa4d84ce5f81c8e64e28aaf83cae864ad4dcdfde6a214ee6d288", func := "churn/churnlaw20.OrderGives", spec := "orderGives", apart := false, narrowed := true }
def OrderGivesUptoSaid : Prop := orderGivesUptoRow.holds Try.pinned (OpenSpec.upto orderGivesSpec)

end Rows
end Go.Proofs.Ytgobpelclchnfaa
