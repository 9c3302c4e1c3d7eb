/-
  No cell of these rows narrows 'for every input' (looked for: loops, veiled, ifaces, maps, wideKeys, modest, calm, conditions, laid).
  DERIVED. THE GIVEN ROWS OF THIS SEAT. 5 by the template 'for every input the law returns true; each argument reads behind the call as it read before'; 0 by the template 'total and deterministic' (their statements: YtacnldmmacjpoaaTotals.lean).
  GIVEN WITH THE SEED: the statements are not yours to turn. If you find one false, say at which input.
  Laid BY PROGRAM, IN A SANDBOX (cutbox-rows.mjs): the forced cells as the released guide's own fill.sh prints them over the translation c80b5a1c96c6aca8… (all of the seat's roots in one cut). By AI agents, Wed Nov 11 2026. No macro, syntax, notation, axiom, sorry.
-/
import Derived.Test.YtacnldmmacjpoaaChecked
import GoSem.Claim
import GoSem.ClaimJoined
import GoSem.ClaimMapViews
import Derived.JoinedTies
import Derived.KernelRfl
namespace Go.Proofs.Ytacnldmmacjpoaa
/- THE CELL 'sum', in the pinned program and in every row, IS THE sha256 OF THE DUMP (.gsa) THAT YtacnldmmacjpoaaProg.lean LOADS. Nothing in Lean hashes anything: it is a label: what it is worth is what the hold of that sum in a sandbox is worth. -/
noncomputable def Try.pinned : Pinned := { name := "ytacnldmmacjpoaa", sum := "c80b5a1c96c6aca8a93c4a13823841feff44156670e3096c5e1f186c2fd7256a", checked := Try.checked }
namespace Rows
def none {H : Type} : Left H := { results := [], args := [] }

/-- 'churnlaw15.NoiseTables': WHATEVER THE INPUT: true; the input reads as it did. -/
def noiseTablesSpec : ChangeSpec := { name := "noiseTables", fn := fun _ => fun
  | [d1, d2, d3] => { results := [.lit (.bool true)], args := [d1, d2, d3] }
  | _ => none }
def noiseTablesRow : OpenClaim := { program := "ytacnldmmacjpoaa", sum := "c80b5a1c96c6aca8a93c4a13823841feff44156670e3096c5e1f186c2fd7256a", func := "churn/churnlaw15.NoiseTables", spec := "noiseTables", apart := false }
def NoiseTablesSaid : Prop := noiseTablesRow.holds Try.pinned (OpenSpec.ofChange noiseTablesSpec)

/-- ITS FALSE NEIGHBOUR: 'it returns false'. Refute it at one input. -/
def noiseTablesWrong : ChangeSpec := { name := "noiseTables", fn := fun _ => fun
  | [d1, d2, d3] => { results := [.lit (.bool false)], args := [d1, d2, d3] }
  | _ => none }
def NoiseTablesWrongFalsely : Prop := noiseTablesRow.holds Try.pinned (OpenSpec.ofChange noiseTablesWrong)

/-- 'churnlaw15.NoiseCounts': WHATEVER THE INPUT: true; the input reads as it did. -/
def noiseCountsSpec : ChangeSpec := { name := "noiseCounts", fn := fun _ => fun
  | [d] => { results := [.lit (.bool true)], args := [d] }
  | _ => none }
def noiseCountsRow : OpenClaim := { program := "ytacnldmmacjpoaa", sum := "c80b5a1c96c6aca8a93c4a13823841feff44156670e3096c5e1f186c2fd7256a", func := "churn/churnlaw15.NoiseCounts", spec := "noiseCounts", apart := false }
def NoiseCountsSaid : Prop := noiseCountsRow.holds Try.pinned (OpenSpec.ofChange noiseCountsSpec)

/-- ITS FALSE NEIGHBOUR: 'it returns false'. Refute it at one input. -/
def noiseCountsWrong : ChangeSpec := { name := "noiseCounts", fn := fun _ => fun
  | [d] => { results := [.lit (.bool false)], args := [d] }
  | _ => none }
def NoiseCountsWrongFalsely : Prop := noiseCountsRow.holds Try.pinned (OpenSpec.ofChange noiseCountsWrong)

/-- 'churnlaw15.NoiseEven': WHATEVER THE INPUT: true; the input reads as it did. -/
def noiseEvenSpec : ChangeSpec := { name := "noiseEven", fn := fun _ => fun
  | [d1, d2, d3] => { results := [.lit (.bool true)], args := [d1, d2, d3] }
  | _ => none }
def noiseEvenRow : OpenClaim := { program := "ytacnldmmacjpoaa", sum := "c80b5a1c96c6aca8a93c4a13823841feff44156670e3096c5e1f186c2fd7256a", func := "churn/churnlaw15.NoiseEven", spec := "noiseEven", apart := false }
def NoiseEvenSaid : Prop := noiseEvenRow.holds Try.pinned (OpenSpec.ofChange noiseEvenSpec)

/-- ITS FALSE NEIGHBOUR: 'it returns false'. Refute it at one input. -/
def noiseEvenWrong : ChangeSpec := { name := "noiseEven", fn := fun _ => fun
  | [d1, d2, d3] => { results := [.lit (.bool false)], args := [d1, d2, d3] }
  | _ => none }
def NoiseEvenWrongFalsely : Prop := noiseEvenRow.holds Try.pinned (OpenSpec.ofChange noiseEvenWrong)

/-- 'churnlaw15.NoiseCells': WHATEVER THE INPUT: true; the input reads as it did. -/
def noiseCellsSpec : ChangeSpec := { name := "noiseCells", fn := fun _ => fun
  | [d] => { results := [.lit (.bool true)], args := [d] }
  | _ => none }
def noiseCellsRow : OpenClaim := { program := "ytacnldmmacjpoaa", sum := "c80b5a1c96c6aca8a93c4a13823841feff44156670e3096c5e1f186c2fd7256a", func := "churn/churnlaw15.NoiseCells", spec := "noiseCells", unfollowed := true, recurses := true, apart := false }
def NoiseCellsSaid : Prop := noiseCellsRow.holds Try.pinned (OpenSpec.ofChange noiseCellsSpec)

/-- ITS FALSE NEIGHBOUR: 'it returns false'. Refute it at one input. -/
def noiseCellsWrong : ChangeSpec := { name := "noiseCells", fn := fun _ => fun
  | [d] => { results := [.lit (.bool false)], args := [d] }
  | _ => none }
def NoiseCellsWrongFalsely : Prop := noiseCellsRow.holds Try.pinned (OpenSpec.ofChange noiseCellsWrong)

/-- 'churnlaw15.NoiseTape': WHATEVER THE INPUT: true; the input reads as it did. -/
def noiseTapeSpec : ChangeSpec := { name := "noiseTape", fn := fun _ => fun
  | [d1, d2] => { results := [.lit (.bool true)], args := [d1, d2] }
  | _ => none }
def noiseTapeRow : OpenClaim := { program := "ytacnldmmacjpoaa", sum := "c80b5a1c96c6aca8a93c4a13823841feff44156670e3096c5e1f186c2fd7256a", func := "churn/churnlaw15.NoiseTape", spec := "noiseTape", unfollowed := true, recurses := true, apart := false }
def NoiseTapeSaid : Prop := noiseTapeRow.holds Try.pinned (OpenSpec.ofChange noiseTapeSpec)

/-- ITS FALSE NEIGHBOUR: 'it returns false'. Refute it at one input. -/
def noiseTapeWrong : ChangeSpec := { name := "noiseTape", fn := fun _ => fun
  | [d1, d2] => { results := [.lit (.bool false)], args := [d1, d2] }
  | _ => none }
def NoiseTapeWrongFalsely : Prop := noiseTapeRow.holds Try.pinned (OpenSpec.ofChange noiseTapeWrong)

/- THE SECOND FORM. 'bulk': how many values and letters a reading holds, each counted each time it is reached (what is shared counts as often as it is met; a slice's spare places count too). A statement '..UptoSaid' is the law's where the arguments, and the package variables that the reading takes, are together of bulk at most 1048576: NARROWER than '..Said'. Prove '..Said' where nothing that the law and all that it calls make is longer than what came in: it says more and counts as full. Else prove '..UptoSaid'. A law counts once. -/
mutual
def uptoBulk {H : Type} : DataW H → Nat
  | .lit (.string bytes) => bytes.length + 1
  | .lit _ => 1
  | .nil => 1
  | .ptr d => uptoBulk d + 1
  | .slice elems spare => uptoBulkAll elems + uptoBulkAll spare + 1
  | .agg parts => uptoBulkAll parts + 1
  | .iface _ d => uptoBulk d + 1
  | .map entries => uptoBulkEntries entries + 1
  | .held _ => 1
def uptoBulkAll {H : Type} : List (DataW H) → Nat
  | [] => 0
  | d :: r => uptoBulk d + uptoBulkAll r
def uptoBulkEntries {H : Type} : List (Lit × DataW H) → Nat
  | [] => 0
  | x :: r => uptoBulkEntry x + uptoBulkEntries r
def uptoBulkEntry {H : Type} : Lit × DataW H → Nat
  | (.string bytes, d) => bytes.length + uptoBulk d + 1
  | (_, d) => uptoBulk d + 1
 end
def uptoSmall : (H : Type) → List (DataW H) → Bool := fun _ ds => decide (uptoBulkAll ds ≤ 1048576)
def OpenSpec.upto (s : _root_.Go.ChangeSpec) : _root_.Go.OpenSpec := { _root_.Go.OpenSpec.ofChange s with cond := some uptoSmall }

/-- 'churnlaw15.NoiseTables', WHERE WHAT IT READS IS OF BULK AT MOST 1048576: true; the input reads as it did. -/
def noiseTablesUptoRow : OpenClaim := { program := "ytacnldmmacjpoaa", sum := "c80b5a1c96c6aca8a93c4a13823841feff44156670e3096c5e1f186c2fd7256a", func := "churn/churnlaw15.NoiseTables", spec := "noiseTables", apart := false, narrowed := true }
def NoiseTablesUptoSaid : Prop := noiseTablesUptoRow.holds Try.pinned (OpenSpec.upto noiseTablesSpec)

/-- 'churnlaw15.NoiseCounts', WHERE WHAT IT READS IS OF BULK AT MOST 1048576: true; the input reads as it did. -/
def noiseCountsUptoRow : OpenClaim := { program := "ytacnldmmacjpoaa", sum := "c80b5a1c96c6aca8a93c4a13823841feff44156670e3096c5e1f186c2fd7256a", func := "churn/churnlaw15.NoiseCounts", spec := "noiseCounts", apart := false, narrowed := true }
def NoiseCountsUptoSaid : Prop := noiseCountsUptoRow.holds Try.pinned (OpenSpec.upto noiseCountsSpec)

/-- 'churnlaw15.NoiseEven', WHERE WHAT IT READS IS OF BULK AT MOST 1048576: true; the input reads as it did. -/
def noiseEvenUptoRow : OpenClaim := { program := "ytacnldmmacjpoaa", sum := "c80b5a1c96c6aca8a93c4a13823841feff44156670e3096c5e1f186c2fd7256a", func := "churn/churnlaw15.NoiseEven", spec := "noiseEven", apart := false, narrowed := true }
def NoiseEvenUptoSaid : Prop := noiseEvenUptoRow.holds Try.pinned (OpenSpec.upto noiseEvenSpec)

/-- 'churnlaw15.NoiseCells', WHERE WHAT IT READS IS OF BULK AT MOST 1048576: true; the input reads as it did. -/
def noiseCellsUptoRow : OpenClaim := { program := "ytacnldmmacjpoaa", sum := "c80b5a1c96c6aca8a93c4a13823841feff44156670e3096c5e1f186c2fd7256a", func := "churn/churnlaw15.NoiseCells", spec := "noiseCells", unfollowed := true, recurses := true, apart := false, narrowed := true }
def NoiseCellsUptoSaid : Prop := noiseCellsUptoRow.holds Try.pinned (OpenSpec.upto noiseCellsSpec)

/-- 'churnlaw15.NoiseTape', WHERE WHAT IT READS IS OF BULK AT MOST 1048576: true; the input reads as it did. -/
def noiseTapeUptoRow : OpenClaim := { program := "ytacnldmmacjpoaa", sum := "c80b5a1c96c6aca8a93c4a13823841feff44156670e3096c5e1f186c2fd7256a", func := "churn/churnlaw15.NoiseTape", spec := "noiseTape", unfollowed := true, recurses := true, apart := false, narrowed := true }
def NoiseTapeUptoSaid : Prop := noiseTapeUptoRow.holds Try.pinned (OpenSpec.upto noiseTapeSpec)

end Rows
end Go.Proofs.Ytacnldmmacjpoaa
