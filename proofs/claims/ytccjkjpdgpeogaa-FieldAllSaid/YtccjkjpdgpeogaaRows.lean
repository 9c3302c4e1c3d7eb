/-
  No cell of these rows narrows 'for every input' (looked for: loops, veiled, ifaces, maps, wideKeys, modest, calm, conditions, laid).
  DERIVED. THE GIVEN ROWS OF THIS SEAT. 5 by the template 'for every input the law returns true; each argument reads behind the call as it read before'; 0 by the template 'total and deterministic' (their statements: YtccjkjpdgpeogaaTotals.lean).
  GIVEN WITH THE SEED: the statements are not yours to turn. If you find one false, say at which input.
  Laid BY PROGRAM, IN A SANDBOX (cutbox-rows.mjs): the forced cells as the released guide's own fill.sh prints them over the translation a94c5f6257dc5ada… (all of the seat's roots in one cut). By AI agents, Wed Nov 11 2026. No macro, syntax, notation, axiom, sorry.
-/
import Derived.Test.YtccjkjpdgpeogaaChecked
import GoSem.Claim
import GoSem.ClaimJoined
import GoSem.ClaimMapViews
import Derived.JoinedTies
import Derived.KernelRfl
namespace Go.Proofs.Ytccjkjpdgpeogaa
/- THE CELL 'sum', in the pinned program and in every row, IS THE sha256 OF THE DUMP (.gsa) THAT YtccjkjpdgpeogaaProg.lean LOADS. Nothing in Lean hashes anything: it is a label: what it is worth is what the hold of that sum in a sandbox is worth. -/
noncomputable def Try.pinned : Pinned := { name := "ytccjkjpdgpeogaa", sum := "a94c5f6257dc5ada0f85f6cf7d8e5192aa025d5864c2293c5549e6eae114f8ee", checked := Try.checked }
namespace Rows
def none {H : Type} : Left H := { results := [], args := [] }

/-- 'churnlaw03.FieldColumns': WHATEVER THE INPUT: true; the input reads as it did. -/
def fieldColumnsSpec : ChangeSpec := { name := "fieldColumns", fn := fun _ => fun
  | [d] => { results := [.lit (.bool true)], args := [d] }
  | _ => none }
def fieldColumnsRow : OpenClaim := { program := "ytccjkjpdgpeogaa", sum := "a94c5f6257dc5ada0f85f6cf7d8e5192aa025d5864c2293c5549e6eae114f8ee", func := "churn/churnlaw03.FieldColumns", spec := "fieldColumns", apart := false }
def FieldColumnsSaid : Prop := fieldColumnsRow.holds Try.pinned (OpenSpec.ofChange fieldColumnsSpec)

/-- ITS FALSE NEIGHBOUR: 'it returns false'. Refute it at one input. -/
def fieldColumnsWrong : ChangeSpec := { name := "fieldColumns", fn := fun _ => fun
  | [d] => { results := [.lit (.bool false)], args := [d] }
  | _ => none }
def FieldColumnsWrongFalsely : Prop := fieldColumnsRow.holds Try.pinned (OpenSpec.ofChange fieldColumnsWrong)

/-- 'churnlaw03.FieldLaws': WHATEVER THE INPUT: true; the input reads as it did. -/
def fieldLawsSpec : ChangeSpec := { name := "fieldLaws", fn := fun _ => fun
  | [d1, d2, d3] => { results := [.lit (.bool true)], args := [d1, d2, d3] }
  | _ => none }
def fieldLawsRow : OpenClaim := { program := "ytccjkjpdgpeogaa", sum := "a94c5f6257dc5ada0f85f6cf7d8e5192aa025d5864c2293c5549e6eae114f8ee", func := "churn/churnlaw03.FieldLaws", spec := "fieldLaws", apart := false }
def FieldLawsSaid : Prop := fieldLawsRow.holds Try.pinned (OpenSpec.ofChange fieldLawsSpec)

/-- ITS FALSE NEIGHBOUR: 'it returns false'. Refute it at one input. -/
def fieldLawsWrong : ChangeSpec := { name := "fieldLaws", fn := fun _ => fun
  | [d1, d2, d3] => { results := [.lit (.bool false)], args := [d1, d2, d3] }
  | _ => none }
def FieldLawsWrongFalsely : Prop := fieldLawsRow.holds Try.pinned (OpenSpec.ofChange fieldLawsWrong)

/-- 'churnlaw03.FieldPowers': WHATEVER THE INPUT: true; the input reads as it did. -/
def fieldPowersSpec : ChangeSpec := { name := "fieldPowers", fn := fun _ => fun
  | [d1, d2] => { results := [.lit (.bool true)], args := [d1, d2] }
  | _ => none }
def fieldPowersRow : OpenClaim := { program := "ytccjkjpdgpeogaa", sum := "a94c5f6257dc5ada0f85f6cf7d8e5192aa025d5864c2293c5549e6eae114f8ee", func := "churn/churnlaw03.FieldPowers", spec := "fieldPowers", apart := false }
def FieldPowersSaid : Prop := fieldPowersRow.holds Try.pinned (OpenSpec.ofChange fieldPowersSpec)

/-- ITS FALSE NEIGHBOUR: 'it returns false'. Refute it at one input. -/
def fieldPowersWrong : ChangeSpec := { name := "fieldPowers", fn := fun _ => fun
  | [d1, d2] => { results := [.lit (.bool false)], args := [d1, d2] }
  | _ => none }
def FieldPowersWrongFalsely : Prop := fieldPowersRow.holds Try.pinned (OpenSpec.ofChange fieldPowersWrong)

/-- 'churnlaw03.FieldBack': WHATEVER THE INPUT: true; the input reads as it did. -/
def fieldBackSpec : ChangeSpec := { name := "fieldBack", fn := fun _ => fun
  | [d1, d2] => { results := [.lit (.bool true)], args := [d1, d2] }
  | _ => none }
def fieldBackRow : OpenClaim := { program := "ytccjkjpdgpeogaa", sum := "a94c5f6257dc5ada0f85f6cf7d8e5192aa025d5864c2293c5549e6eae114f8ee", func := "churn/churnlaw03.FieldBack", spec := "fieldBack", apart := false }
def FieldBackSaid : Prop := fieldBackRow.holds Try.pinned (OpenSpec.ofChange fieldBackSpec)

/-- ITS FALSE NEIGHBOUR: 'it returns false'. Refute it at one input. -/
def fieldBackWrong : ChangeSpec := { name := "fieldBack", fn := fun _ => fun
  | [d1, d2] => { results := [.lit (.bool false)], args := [d1, d2] }
  | _ => none }
def FieldBackWrongFalsely : Prop := fieldBackRow.holds Try.pinned (OpenSpec.ofChange fieldBackWrong)

/-- 'churnlaw03.FieldAll': WHATEVER THE INPUT: true; the input reads as it did. -/
def fieldAllSpec : ChangeSpec := { name := "fieldAll", fn := fun _ => fun
  | [d1, d2, d3] => { results := [.lit (.bool true)], args := [d1, d2, d3] }
  | _ => none }
def fieldAllRow : OpenClaim := { program := "ytccjkjpdgpeogaa", sum := "a94c5f6257dc5ada0f85f6cf7d8e5192aa025d5864c2293c5549e6eae114f8ee", func := "churn/churnlaw03.FieldAll", spec := "fieldAll", apart := false }
def FieldAllSaid : Prop := fieldAllRow.holds Try.pinned (OpenSpec.ofChange fieldAllSpec)

/-- ITS FALSE NEIGHBOUR: 'it returns false'. Refute it at one input. -/
def fieldAllWrong : ChangeSpec := { name := "fieldAll", fn := fun _ => fun
  | [d1, d2, d3] => { results := [.lit (.bool false)], args := [d1, d2, d3] }
  | _ => none }
def FieldAllWrongFalsely : Prop := fieldAllRow.holds Try.pinned (OpenSpec.ofChange fieldAllWrong)

/- THE SECOND FORM. 'bulk': how many values and letters a reading holds, each counted each time it is reached (what is shared counts as often as it is met; a slice's spare places count too). A statement '..UptoSaid' is the law's where the arguments, and the package variables that the reading takes, are together of bulk at most 1048576: NARROWER than '..Said'. Prove '..Said' where nothing that the law and all that it calls make is longer than what came in: it says more and counts as full. Else prove '..UptoSaid'. A law counts once. -/
mutual
def uptoBulk {H : Type} : DataW H → Nat
  | .lit (.string bytes) => bytes.length + 1
  | .lit _ => 1
  | .nil => 1
  | .ptr d => uptoBulk d + 1
  | .slice elems spare => uptoBulkAll elems + uptoBulkAll spare + 1
  | .agg parts => uptoBulkAll parts + 1
  | .iface _ d => uptoBulk d + 1
  | .map entries => uptoBulkEntries entries + 1
  | .held _ => 1
def uptoBulkAll {H : Type} : List (DataW H) → Nat
  | [] => 0
  | d :: r => uptoBulk d + uptoBulkAll r
def uptoBulkEntries {H : Type} : List (Lit × DataW H) → Nat
  | [] => 0
  | x :: r => uptoBulkEntry x + uptoBulkEntries r
def uptoBulkEntry {H : Type} : Lit × DataW H → Nat
  | (.string bytes, d) => bytes.length + uptoBulk d + 1
  | (_, d) => uptoBulk d + 1
 end
def uptoSmall : (H : Type) → List (DataW H) → Bool := fun _ ds => decide (uptoBulkAll ds ≤ 1048576)
def OpenSpec.upto (s : _root_.Go.ChangeSpec) : _root_.Go.OpenSpec := { _root_.Go.OpenSpec.ofChange s with cond := some uptoSmall }

/-- 'churnlaw03.FieldColumns', WHERE WHAT IT READS IS OF BULK AT MOST 1048576: true; the input reads as it did. -/
def fieldColumnsUptoRow : OpenClaim := { program := "ytccjkjpdgpeogaa", sum := "a94c5f6257dc5ada0f85f6cf7d8e5192aa025d5864c2293c5549e6eae114f8ee", func := "churn/churnlaw03.FieldColumns", spec := "fieldColumns", apart := false, narrowed := true }
def FieldColumnsUptoSaid : Prop := fieldColumnsUptoRow.holds Try.pinned (OpenSpec.upto fieldColumnsSpec)

/-- 'churnlaw03.FieldLaws', WHERE WHAT IT READS IS OF BULK AT MOST 1048576: true; the input reads as it did. -/
def fieldLawsUptoRow : OpenClaim := { program := "ytccjkjpdgpeogaa", sum := "a94c5f6257dc5ada0f85f6cf7d8e5192aa025d5864c2293c5549e6eae114f8ee", func := "churn/churnlaw03.FieldLaws", spec := "fieldLaws", apart := false, narrowed := true }
def FieldLawsUptoSaid : Prop := fieldLawsUptoRow.holds Try.pinned (OpenSpec.upto fieldLawsSpec)

/-- 'churnlaw03.FieldPowers', WHERE WHAT IT READS IS OF BULK AT MOST 1048576: true; the input reads as it did. -/
def fieldPowersUptoRow : OpenClaim := { program := "ytccjkjpdgpeogaa", sum := "a94c5f6257dc5ada0f85f6cf7d8e5192aa025d5864c2293c5549e6eae114f8ee", func := "churn/churnlaw03.FieldPowers", spec := "fieldPowers", apart := false, narrowed := true }
def FieldPowersUptoSaid : Prop := fieldPowersUptoRow.holds Try.pinned (OpenSpec.upto fieldPowersSpec)

/-- 'churnlaw03.FieldBack', WHERE WHAT IT READS IS OF BULK AT MOST 1048576: true; the input reads as it did. -/
def fieldBackUptoRow : OpenClaim := { program := "ytccjkjpdgpeogaa", sum := "a94c5f6257dc5ada0f85f6cf7d8e5192aa025d5864c2293c5549e6eae114f8ee", func := "churn/churnlaw03.FieldBack", spec := "fieldBack", apart := false, narrowed := true }
def FieldBackUptoSaid : Prop := fieldBackUptoRow.holds Try.pinned (OpenSpec.upto fieldBackSpec)

/-- 'churnlaw03.FieldAll', WHERE WHAT IT READS IS OF BULK AT MOST 1048576: true; the input reads as it did. -/
def fieldAllUptoRow : OpenClaim := { program := "ytccjkjpdgpeogaa", sum := "a94c5f6257dc5ada0f85f6cf7d8e5192aa025d5864c2293c5549e6eae114f8ee", func := "churn/churnlaw03.FieldAll", spec := "fieldAll", apart := false, narrowed := true }
def FieldAllUptoSaid : Prop := fieldAllUptoRow.holds Try.pinned (OpenSpec.upto fieldAllSpec)

end Rows
end Go.Proofs.Ytccjkjpdgpeogaa
