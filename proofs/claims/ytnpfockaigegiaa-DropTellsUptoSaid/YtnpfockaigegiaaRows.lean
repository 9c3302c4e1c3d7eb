/-
  No cell of these rows narrows 'for every input' (looked for: loops, veiled, ifaces, maps, wideKeys, modest, calm, conditions, laid).
  DERIVED. THE GIVEN ROWS OF THIS SEAT. 5 by the template 'for every input the law returns true; each argument reads behind the call as it read before'; 0 by the template 'total and deterministic' (their statements: YtnpfockaigegiaaTotals.lean).
  GIVEN WITH THE SEED: the statements are not yours to turn. If you find one false, say at which input.
  Laid BY PROGRAM, IN A SANDBOX (cutbox-rows.mjs): the forced cells as the released guide's own fill.sh prints them over the translation 81ed0ccee66bf86d… (all of the seat's roots in one cut). By AI agents, Wed Nov 11 2026. No macro, syntax, notation, axiom, sorry.
-/
import Derived.Test.YtnpfockaigegiaaChecked
import GoSem.Claim
import GoSem.ClaimJoined
import GoSem.ClaimMapViews
import Derived.JoinedTies
import Derived.KernelRfl
namespace Go.Proofs.Ytnpfockaigegiaa
/- THE CELL 'sum', in the pinned program and in every row, IS THE sha256 OF THE DUMP (.gsa) THAT YtnpfockaigegiaaProg.lean LOADS. Nothing in Lean hashes anything: it is a label: what it is worth is what the hold of that sum in a sandbox is worth. -/
noncomputable def Try.pinned : Pinned := { name := "ytnpfockaigegiaa", sum := "81ed0ccee66bf86da9a4c6c4626f814966c479a04181b64508400e6a9f35166c", checked := Try.checked }
namespace Rows
def none {H : Type} : Left H := { results := [], args := [] }

/-- 'churnlaw28.DropExchanges': WHATEVER THE INPUT: true; the input reads as it did. -/
def dropExchangesSpec : ChangeSpec := { name := "dropExchanges", fn := fun _ => fun
  | [d] => { results := [.lit (.bool true)], args := [d] }
  | _ => none }
def dropExchangesRow : OpenClaim := { program := "ytnpfockaigegiaa", sum := "81ed0ccee66bf86da9a4c6c4626f814966c479a04181b64508400e6a9f35166c", func := "churn/churnlaw28.DropExchanges", spec := "dropExchanges", plainKeys := false, apart := false }
def DropExchangesSaid : Prop := dropExchangesRow.holds Try.pinned (OpenSpec.ofChange dropExchangesSpec)

/-- ITS FALSE NEIGHBOUR: 'it returns false'. Refute it at one input. -/
def dropExchangesWrong : ChangeSpec := { name := "dropExchanges", fn := fun _ => fun
  | [d] => { results := [.lit (.bool false)], args := [d] }
  | _ => none }
def DropExchangesWrongFalsely : Prop := dropExchangesRow.holds Try.pinned (OpenSpec.ofChange dropExchangesWrong)

/-- 'churnlaw28.DropOrder': WHATEVER THE INPUT: true; the input reads as it did. -/
def dropOrderSpec : ChangeSpec := { name := "dropOrder", fn := fun _ => fun
  | [d1, d2] => { results := [.lit (.bool true)], args := [d1, d2] }
  | _ => none }
def dropOrderRow : OpenClaim := { program := "ytnpfockaigegiaa", sum := "81ed0ccee66bf86da9a4c6c4626f814966c479a04181b64508400e6a9f35166c", func := "churn/churnlaw28.DropOrder", spec := "dropOrder", plainKeys := false, apart := false }
def DropOrderSaid : Prop := dropOrderRow.holds Try.pinned (OpenSpec.ofChange dropOrderSpec)

/-- ITS FALSE NEIGHBOUR: 'it returns false'. Refute it at one input. -/
def dropOrderWrong : ChangeSpec := { name := "dropOrder", fn := fun _ => fun
  | [d1, d2] => { results := [.lit (.bool false)], args := [d1, d2] }
  | _ => none }
def DropOrderWrongFalsely : Prop := dropOrderRow.holds Try.pinned (OpenSpec.ofChange dropOrderWrong)

/-- 'churnlaw28.DropAnswers': WHATEVER THE INPUT: true; the input reads as it did. -/
def dropAnswersSpec : ChangeSpec := { name := "dropAnswers", fn := fun _ => fun
  | [d] => { results := [.lit (.bool true)], args := [d] }
  | _ => none }
def dropAnswersRow : OpenClaim := { program := "ytnpfockaigegiaa", sum := "81ed0ccee66bf86da9a4c6c4626f814966c479a04181b64508400e6a9f35166c", func := "churn/churnlaw28.DropAnswers", spec := "dropAnswers", plainKeys := false, apart := false }
def DropAnswersSaid : Prop := dropAnswersRow.holds Try.pinned (OpenSpec.ofChange dropAnswersSpec)

/-- ITS FALSE NEIGHBOUR: 'it returns false'. Refute it at one input. -/
def dropAnswersWrong : ChangeSpec := { name := "dropAnswers", fn := fun _ => fun
  | [d] => { results := [.lit (.bool false)], args := [d] }
  | _ => none }
def DropAnswersWrongFalsely : Prop := dropAnswersRow.holds Try.pinned (OpenSpec.ofChange dropAnswersWrong)

/-- 'churnlaw28.DropTells': WHATEVER THE INPUT: true; the input reads as it did. -/
def dropTellsSpec : ChangeSpec := { name := "dropTells", fn := fun _ => fun
  | [d1, d2, d3] => { results := [.lit (.bool true)], args := [d1, d2, d3] }
  | _ => none }
def dropTellsRow : OpenClaim := { program := "ytnpfockaigegiaa", sum := "81ed0ccee66bf86da9a4c6c4626f814966c479a04181b64508400e6a9f35166c", func := "churn/churnlaw28.DropTells", spec := "dropTells", plainKeys := false, apart := false }
def DropTellsSaid : Prop := dropTellsRow.holds Try.pinned (OpenSpec.ofChange dropTellsSpec)

/-- ITS FALSE NEIGHBOUR: 'it returns false'. Refute it at one input. -/
def dropTellsWrong : ChangeSpec := { name := "dropTells", fn := fun _ => fun
  | [d1, d2, d3] => { results := [.lit (.bool false)], args := [d1, d2, d3] }
  | _ => none }
def DropTellsWrongFalsely : Prop := dropTellsRow.holds Try.pinned (OpenSpec.ofChange dropTellsWrong)

/-- 'churnlaw28.DropBack': WHATEVER THE INPUT: true; the input reads as it did. -/
def dropBackSpec : ChangeSpec := { name := "dropBack", fn := fun _ => fun
  | [d] => { results := [.lit (.bool true)], args := [d] }
  | _ => none }
def dropBackRow : OpenClaim := { program := "ytnpfockaigegiaa", sum := "81ed0ccee66bf86da9a4c6c4626f814966c479a04181b64508400e6a9f35166c", func := "churn/churnlaw28.DropBack", spec := "dropBack", plainKeys := false, apart := false }
def DropBackSaid : Prop := dropBackRow.holds Try.pinned (OpenSpec.ofChange dropBackSpec)

/-- ITS FALSE NEIGHBOUR: 'it returns false'. Refute it at one input. -/
def dropBackWrong : ChangeSpec := { name := "dropBack", fn := fun _ => fun
  | [d] => { results := [.lit (.bool false)], args := [d] }
  | _ => none }
def DropBackWrongFalsely : Prop := dropBackRow.holds Try.pinned (OpenSpec.ofChange dropBackWrong)

/- THE SECOND FORM. 'bulk': how many values and letters a reading holds, each counted each time it is reached (what is shared counts as often as it is met; a slice's spare places count too). A statement '..UptoSaid' is the law's where the arguments, and the package variables that the reading takes, are together of bulk at most 1048576: NARROWER than '..Said'. Prove '..Said' where nothing that the law and all that it calls make is longer than what came in: it says more and counts as full. Else prove '..UptoSaid'. A law counts once. -/
mutual
def uptoBulk {H : Type} : DataW H → Nat
  | .lit (.string bytes) => bytes.length + 1
  | .lit _ => 1
  | .nil => 1
  | .ptr d => uptoBulk d + 1
  | .slice elems spare => uptoBulkAll elems + uptoBulkAll spare + 1
  | .agg parts => uptoBulkAll parts + 1
  | .iface _ d => uptoBulk d + 1
  | .map entries => uptoBulkEntries entries + 1
  | .held _ => 1
def uptoBulkAll {H : Type} : List (DataW H) → Nat
  | [] => 0
  | d :: r => uptoBulk d + uptoBulkAll r
def uptoBulkEntries {H : Type} : List (Lit × DataW H) → Nat
  | [] => 0
  | x :: r => uptoBulkEntry x + uptoBulkEntries r
def uptoBulkEntry {H : Type} : Lit × DataW H → Nat
  | (.string bytes, d) => bytes.length + uptoBulk d + 1
  | (_, d) => uptoBulk d + 1
 end
def uptoSmall : (H : Type) → List (DataW H) → Bool := fun _ ds => decide (uptoBulkAll ds ≤ 1048576)
def OpenSpec.upto (s : _root_.Go.ChangeSpec) : _root_.Go.OpenSpec := { _root_.Go.OpenSpec.ofChange s with cond := some uptoSmall }

/-- 'churnlaw28.DropExchanges', WHERE WHAT IT READS IS OF BULK AT MOST 1048576: true; the input reads as it did. -/
def dropExchangesUptoRow : OpenClaim := { program := "ytnpfockaigegiaa", sum := "81ed0ccee66bf86da9a4c6c4626f814966c479a04181b64508400e6a9f35166c", func := "churn/churnlaw28.DropExchanges", spec := "dropExchanges", plainKeys := false, apart := false, narrowed := true }
def DropExchangesUptoSaid : Prop := dropExchangesUptoRow.holds Try.pinned (OpenSpec.upto dropExchangesSpec)

/-- 'churnlaw28.DropOrder', WHERE WHAT IT READS IS OF BULK AT MOST 1048576: true; the input reads as it did. -/
def dropOrderUptoRow : OpenClaim := { program := "ytnpfockaigegiaa", sum := "81ed0ccee66bf86da9a4c6c4626f814966c479a04181b64508400e6a9f35166c", func := "churn/churnlaw28.DropOrder", spec := "dropOrder", plainKeys := false, apart := false, narrowed := true }
def DropOrderUptoSaid : Prop := dropOrderUptoRow.holds Try.pinned (OpenSpec.upto dropOrderSpec)

/-- 'churnlaw28.DropAnswers', WHERE WHAT IT READS IS OF BULK AT MOST 1048576: true; the input reads as it did. -/
def dropAnswersUptoRow : OpenClaim := { program := "ytnpfockaigegiaa", sum := "81ed0ccee66bf86da9a4c6c4626f814966c479a04181b64508400e6a9f35166c", func := "churn/churnlaw28.DropAnswers", spec := "dropAnswers", plainKeys := false, apart := false, narrowed := true }
def DropAnswersUptoSaid : Prop := dropAnswersUptoRow.holds Try.pinned (OpenSpec.upto dropAnswersSpec)

/-- 'churnlaw28.DropTells', WHERE WHAT IT READS IS OF BULK AT MOST 1048576: true; the input reads as it did. -/
def dropTellsUptoRow : OpenClaim := { program := "ytnpfockaigegiaa", sum := "81ed0ccee66bf86da9a4c6c4626f814966c479a04181b64508400e6a9f35166c", func := "churn/churnlaw28.DropTells", spec := "dropTells", plainKeys := false, apart := false, narrowed := true }
def DropTellsUptoSaid : Prop := dropTellsUptoRow.holds Try.pinned (OpenSpec.upto dropTellsSpec)

/-- 'churnlaw28.DropBack', WHERE WHAT IT READS IS OF BULK AT MOST 1048576: true; the input reads as it did. -/
def dropBackUptoRow : OpenClaim := { program := "ytnpfockaigegiaa", sum := "81ed0ccee66bf86da9a4c6c4626f814966c479a04181b64508400e6a9f35166c", func := "churn/churnlaw28.DropBack", spec := "dropBack", plainKeys := false, apart := false, narrowed := true }
def DropBackUptoSaid : Prop := dropBackUptoRow.holds Try.pinned (OpenSpec.upto dropBackSpec)

end Rows
end Go.Proofs.Ytnpfockaigegiaa
