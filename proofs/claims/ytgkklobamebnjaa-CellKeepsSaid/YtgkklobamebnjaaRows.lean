/-
  No cell of these rows narrows 'for every input' (looked for: loops, veiled, ifaces, maps, wideKeys, modest, calm, conditions, laid).
  DERIVED. THE GIVEN ROWS OF THIS SEAT. 5 by the template 'for every input the law returns true; each argument reads behind the call as it read before'; 0 by the template 'total and deterministic' (their statements: YtgkklobamebnjaaTotals.lean).
  GIVEN WITH THE SEED: the statements are not yours to turn. If you find one false, say at which input.
  Laid BY PROGRAM, IN A SANDBOX (cutbox-rows.mjs): the forced cells as the released guide's own fill.sh prints them over the translation f1c69cfde0195702… (all of the seat's roots in one cut). By AI agents, Wed Nov 11 2026. No macro, syntax, notation, axiom, sorry.
-/
import Derived.Test.YtgkklobamebnjaaChecked
import GoSem.Claim
import GoSem.ClaimJoined
import GoSem.ClaimMapViews
import Derived.JoinedTies
import Derived.KernelRfl
namespace Go.Proofs.Ytgkklobamebnjaa
/- THE CELL 'sum', in the pinned program and in every row, IS THE sha256 OF THE DUMP (.gsa) THAT YtgkklobamebnjaaProg.lean LOADS. Nothing in Lean hashes anything: it is a label: what it is worth is what the hold of that sum in a sandbox is worth. -/
noncomputable def Try.pinned : Pinned := { name := "ytgkklobamebnjaa", sum := "f1c69cfde01957025ee0edde7b18d5ef72d077894729cc0e418ede36264c374b", checked := Try.checked }
namespace Rows
def none {H : Type} : Left H := { results := [], args := [] }

/-- 'churnlaw05.CellMakes': WHATEVER THE INPUT: true; the input reads as it did. -/
def cellMakesSpec : ChangeSpec := { name := "cellMakes", fn := fun _ => fun
  | [d] => { results := [.lit (.bool true)], args := [d] }
  | _ => none }
def cellMakesRow : OpenClaim := { program := "ytgkklobamebnjaa", sum := "f1c69cfde01957025ee0edde7b18d5ef72d077894729cc0e418ede36264c374b", func := "churn/churnlaw05.CellMakes", spec := "cellMakes", apart := false }
def CellMakesSaid : Prop := cellMakesRow.holds Try.pinned (OpenSpec.ofChange cellMakesSpec)

/-- ITS FALSE NEIGHBOUR: 'it returns false'. Refute it at one input. -/
def cellMakesWrong : ChangeSpec := { name := "cellMakes", fn := fun _ => fun
  | [d] => { results := [.lit (.bool false)], args := [d] }
  | _ => none }
def CellMakesWrongFalsely : Prop := cellMakesRow.holds Try.pinned (OpenSpec.ofChange cellMakesWrong)

/-- 'churnlaw05.CellOnly': WHATEVER THE INPUT: true; the input reads as it did. -/
def cellOnlySpec : ChangeSpec := { name := "cellOnly", fn := fun _ => fun
  | [d] => { results := [.lit (.bool true)], args := [d] }
  | _ => none }
def cellOnlyRow : OpenClaim := { program := "ytgkklobamebnjaa", sum := "f1c69cfde01957025ee0edde7b18d5ef72d077894729cc0e418ede36264c374b", func := "churn/churnlaw05.CellOnly", spec := "cellOnly", apart := false }
def CellOnlySaid : Prop := cellOnlyRow.holds Try.pinned (OpenSpec.ofChange cellOnlySpec)

/-- ITS FALSE NEIGHBOUR: 'it returns false'. Refute it at one input. -/
def cellOnlyWrong : ChangeSpec := { name := "cellOnly", fn := fun _ => fun
  | [d] => { results := [.lit (.bool false)], args := [d] }
  | _ => none }
def CellOnlyWrongFalsely : Prop := cellOnlyRow.holds Try.pinned (OpenSpec.ofChange cellOnlyWrong)

/-- 'churnlaw05.CellReads': WHATEVER THE INPUT: true; the input reads as it did. -/
def cellReadsSpec : ChangeSpec := { name := "cellReads", fn := fun _ => fun
  | [d1, d2] => { results := [.lit (.bool true)], args := [d1, d2] }
  | _ => none }
def cellReadsRow : OpenClaim := { program := "ytgkklobamebnjaa", sum := "f1c69cfde01957025ee0edde7b18d5ef72d077894729cc0e418ede36264c374b", func := "churn/churnlaw05.CellReads", spec := "cellReads", apart := false }
def CellReadsSaid : Prop := cellReadsRow.holds Try.pinned (OpenSpec.ofChange cellReadsSpec)

/-- ITS FALSE NEIGHBOUR: 'it returns false'. Refute it at one input. -/
def cellReadsWrong : ChangeSpec := { name := "cellReads", fn := fun _ => fun
  | [d1, d2] => { results := [.lit (.bool false)], args := [d1, d2] }
  | _ => none }
def CellReadsWrongFalsely : Prop := cellReadsRow.holds Try.pinned (OpenSpec.ofChange cellReadsWrong)

/-- 'churnlaw05.CellBack': WHATEVER THE INPUT: true; the input reads as it did. -/
def cellBackSpec : ChangeSpec := { name := "cellBack", fn := fun _ => fun
  | [d1, d2] => { results := [.lit (.bool true)], args := [d1, d2] }
  | _ => none }
def cellBackRow : OpenClaim := { program := "ytgkklobamebnjaa", sum := "f1c69cfde01957025ee0edde7b18d5ef72d077894729cc0e418ede36264c374b", func := "churn/churnlaw05.CellBack", spec := "cellBack", apart := false }
def CellBackSaid : Prop := cellBackRow.holds Try.pinned (OpenSpec.ofChange cellBackSpec)

/-- ITS FALSE NEIGHBOUR: 'it returns false'. Refute it at one input. -/
def cellBackWrong : ChangeSpec := { name := "cellBack", fn := fun _ => fun
  | [d1, d2] => { results := [.lit (.bool false)], args := [d1, d2] }
  | _ => none }
def CellBackWrongFalsely : Prop := cellBackRow.holds Try.pinned (OpenSpec.ofChange cellBackWrong)

/-- 'churnlaw05.CellKeeps': WHATEVER THE INPUT: true; the input reads as it did. -/
def cellKeepsSpec : ChangeSpec := { name := "cellKeeps", fn := fun _ => fun
  | [d1, d2] => { results := [.lit (.bool true)], args := [d1, d2] }
  | _ => none }
def cellKeepsRow : OpenClaim := { program := "ytgkklobamebnjaa", sum := "f1c69cfde01957025ee0edde7b18d5ef72d077894729cc0e418ede36264c374b", func := "churn/churnlaw05.CellKeeps", spec := "cellKeeps", apart := false }
def CellKeepsSaid : Prop := cellKeepsRow.holds Try.pinned (OpenSpec.ofChange cellKeepsSpec)

/-- ITS FALSE NEIGHBOUR: 'it returns false'. Refute it at one input. -/
def cellKeepsWrong : ChangeSpec := { name := "cellKeeps", fn := fun _ => fun
  | [d1, d2] => { results := [.lit (.bool false)], args := [d1, d2] }
  | _ => none }
def CellKeepsWrongFalsely : Prop := cellKeepsRow.holds Try.pinned (OpenSpec.ofChange cellKeepsWrong)

/- THE SECOND FORM. 'bulk': how many values and letters a reading holds, each counted each time it is reached (what is shared counts as often as it is met; a slice's spare places count too). A statement '..UptoSaid' is the law's where the arguments, and the package variables that the reading takes, are together of bulk at most 1048576: NARROWER than '..Said'. Prove '..Said' where nothing that the law and all that it calls make is longer than what came in: it says more and counts as full. Else prove '..UptoSaid'. A law counts once. -/
mutual
def uptoBulk {H : Type} : DataW H → Nat
  | .lit (.string bytes) => bytes.length + 1
  | .lit _ => 1
  | .nil => 1
  | .ptr d => uptoBulk d + 1
  | .slice elems spare => uptoBulkAll elems + uptoBulkAll spare + 1
  | .agg parts => uptoBulkAll parts + 1
  | .iface _ d => uptoBulk d + 1
  | .map entries => uptoBulkEntries entries + 1
  | .held _ => 1
def uptoBulkAll {H : Type} : List (DataW H) → Nat
  | [] => 0
  | d :: r => uptoBulk d + uptoBulkAll r
def uptoBulkEntries {H : Type} : List (Lit × DataW H) → Nat
  | [] => 0
  | x :: r => uptoBulkEntry x + uptoBulkEntries r
def uptoBulkEntry {H : Type} : Lit × DataW H → Nat
  | (.string bytes, d) => bytes.length + uptoBulk d + 1
  | (_, d) => uptoBulk d + 1
 end
def uptoSmall : (H : Type) → List (DataW H) → Bool := fun _ ds => decide (uptoBulkAll ds ≤ 1048576)
def OpenSpec.upto (s : _root_.Go.ChangeSpec) : _root_.Go.OpenSpec := { _root_.Go.OpenSpec.ofChange s with cond := some uptoSmall }

/-- 'churnlaw05.CellMakes', WHERE WHAT IT READS IS OF BULK AT MOST 1048576: true; the input reads as it did. -/
def cellMakesUptoRow : OpenClaim := { program := "ytgkklobamebnjaa", sum := "f1c69cfde01957025ee0edde7b18d5ef72d077894729cc0e418ede36264c374b", func := "churn/churnlaw05.CellMakes", spec := "cellMakes", apart := false, narrowed := true }
def CellMakesUptoSaid : Prop := cellMakesUptoRow.holds Try.pinned (OpenSpec.upto cellMakesSpec)

/-- 'churnlaw05.CellOnly', WHERE WHAT IT READS IS OF BULK AT MOST 1048576: true; the input reads as it did. -/
def cellOnlyUptoRow : OpenClaim := { program := "ytgkklobamebnjaa", sum := "f1c69cfde01957025ee0edde7b18d5ef72d077894729cc0e418ede36264c374b", func := "churn/churnlaw05.CellOnly", spec := "cellOnly", apart := false, narrowed := true }
def CellOnlyUptoSaid : Prop := cellOnlyUptoRow.holds Try.pinned (OpenSpec.upto cellOnlySpec)

/-- 'churnlaw05.CellReads', WHERE WHAT IT READS IS OF BULK AT MOST 1048576: true; the input reads as it did. -/
def cellReadsUptoRow : OpenClaim := { program := "ytgkklobamebnjaa", sum := "f1c69cfde01957025ee0edde7b18d5ef72d077894729cc0e418ede36264c374b", func := "churn/churnlaw05.CellReads", spec := "cellReads", apart := false, narrowed := true }
def CellReadsUptoSaid : Prop := cellReadsUptoRow.holds Try.pinned (OpenSpec.upto cellReadsSpec)

/-- 'churnlaw05.CellBack', WHERE WHAT IT READS IS OF BULK AT MOST 1048576: true; the input reads as it did. -/
def cellBackUptoRow : OpenClaim := { program := "ytgkklobamebnjaa", sum := "f1c69cfde01957025ee0edde7b18d5ef72d077894729cc0e418ede36264c374b", func := "churn/churnlaw05.CellBack", spec := "cellBack", apart := false, narrowed := true }
def CellBackUptoSaid : Prop := cellBackUptoRow.holds Try.pinned (OpenSpec.upto cellBackSpec)

/-- 'churnlaw05.CellKeeps', WHERE WHAT IT READS IS OF BULK AT MOST 1048576: true; the input reads as it did. -/
def cellKeepsUptoRow : OpenClaim := { program := "ytgkklobamebnjaa", sum := "f1c69cfde01957025ee0edde7b18d5ef72d077894729cc0e418ede36264c374b", func := "churn/churnlaw05.CellKeeps", spec := "cellKeeps", apart := false, narrowed := true }
def CellKeepsUptoSaid : Prop := cellKeepsUptoRow.holds Try.pinned (OpenSpec.upto cellKeepsSpec)

end Rows
end Go.Proofs.Ytgkklobamebnjaa
