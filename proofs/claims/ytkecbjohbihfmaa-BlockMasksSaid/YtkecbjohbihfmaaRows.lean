/-
  No cell of these rows narrows 'for every input' (looked for: loops, veiled, ifaces, maps, wideKeys, modest, calm, conditions, laid).
  DERIVED. THE GIVEN ROWS OF THIS SEAT. 6 by the template 'for every input the law returns true; each argument reads behind the call as it read before'; 0 by the template 'total and deterministic' (their statements: YtkecbjohbihfmaaTotals.lean).
  GIVEN WITH THE SEED: the statements are not yours to turn. If you find one false, say at which input.
  Laid BY PROGRAM, IN A SANDBOX (cutbox-rows.mjs): the forced cells as the released guide's own fill.sh prints them over the translation 9212c3dc93889c9c… (all of the seat's roots in one cut). By AI agents, Wed Nov 11 2026. No macro, syntax, notation, axiom, sorry.
-/
import Derived.Test.YtkecbjohbihfmaaChecked
import GoSem.Claim
import GoSem.ClaimJoined
import GoSem.ClaimMapViews
import Derived.JoinedTies
import Derived.KernelRfl
namespace Go.Proofs.Ytkecbjohbihfmaa
/- THE CELL 'sum', in the pinned program and in every row, IS THE sha256 OF THE DUMP (.gsa) THAT YtkecbjohbihfmaaProg.lean LOADS. Nothing in Lean hashes anything: it is a label: what it is worth is what the hold of that sum in a sandbox is worth. -/
noncomputable def Try.pinned : Pinned := { name := "ytkecbjohbihfmaa", sum := "9212c3dc93889c9cfb855204b4757cd171389a20b9a515060de21fb8e0ec0fc1", checked := Try.checked }
namespace Rows
def none {H : Type} : Left H := { results := [], args := [] }

/-- 'churnlaw04.BlockCrypts': WHATEVER THE INPUT: true; the input reads as it did. -/
def blockCryptsSpec : ChangeSpec := { name := "blockCrypts", fn := fun _ => fun
  | [d1, d2] => { results := [.lit (.bool true)], args := [d1, d2] }
  | _ => none }
def blockCryptsRow : OpenClaim := { program := "ytkecbjohbihfmaa", sum := "9212c3dc93889c9cfb855204b4757cd171389a20b9a515060de21fb8e0ec0fc1", func := "churn/churnlaw04.BlockCrypts", spec := "blockCrypts", unfollowed := true, recurses := true, apart := false }
def BlockCryptsSaid : Prop := blockCryptsRow.holds Try.pinned (OpenSpec.ofChange blockCryptsSpec)

/-- ITS FALSE NEIGHBOUR: 'it returns false'. Refute it at one input. -/
def blockCryptsWrong : ChangeSpec := { name := "blockCrypts", fn := fun _ => fun
  | [d1, d2] => { results := [.lit (.bool false)], args := [d1, d2] }
  | _ => none }
def BlockCryptsWrongFalsely : Prop := blockCryptsRow.holds Try.pinned (OpenSpec.ofChange blockCryptsWrong)

/-- 'churnlaw04.BlockRounds': WHATEVER THE INPUT: true; the input reads as it did. -/
def blockRoundsSpec : ChangeSpec := { name := "blockRounds", fn := fun _ => fun
  | [d1, d2] => { results := [.lit (.bool true)], args := [d1, d2] }
  | _ => none }
def blockRoundsRow : OpenClaim := { program := "ytkecbjohbihfmaa", sum := "9212c3dc93889c9cfb855204b4757cd171389a20b9a515060de21fb8e0ec0fc1", func := "churn/churnlaw04.BlockRounds", spec := "blockRounds", unfollowed := true, recurses := true, apart := false }
def BlockRoundsSaid : Prop := blockRoundsRow.holds Try.pinned (OpenSpec.ofChange blockRoundsSpec)

/-- ITS FALSE NEIGHBOUR: 'it returns false'. Refute it at one input. -/
def blockRoundsWrong : ChangeSpec := { name := "blockRounds", fn := fun _ => fun
  | [d1, d2] => { results := [.lit (.bool false)], args := [d1, d2] }
  | _ => none }
def BlockRoundsWrongFalsely : Prop := blockRoundsRow.holds Try.pinned (OpenSpec.ofChange blockRoundsWrong)

/-- 'churnlaw04.BlockBack': WHATEVER THE INPUT: true; the input reads as it did. -/
def blockBackSpec : ChangeSpec := { name := "blockBack", fn := fun _ => fun
  | [d1, d2, d3] => { results := [.lit (.bool true)], args := [d1, d2, d3] }
  | _ => none }
def blockBackRow : OpenClaim := { program := "ytkecbjohbihfmaa", sum := "9212c3dc93889c9cfb855204b4757cd171389a20b9a515060de21fb8e0ec0fc1", func := "churn/churnlaw04.BlockBack", spec := "blockBack", unfollowed := true, recurses := true, apart := false }
def BlockBackSaid : Prop := blockBackRow.holds Try.pinned (OpenSpec.ofChange blockBackSpec)

/-- ITS FALSE NEIGHBOUR: 'it returns false'. Refute it at one input. -/
def blockBackWrong : ChangeSpec := { name := "blockBack", fn := fun _ => fun
  | [d1, d2, d3] => { results := [.lit (.bool false)], args := [d1, d2, d3] }
  | _ => none }
def BlockBackWrongFalsely : Prop := blockBackRow.holds Try.pinned (OpenSpec.ofChange blockBackWrong)

/-- 'churnlaw04.BlockMasks': WHATEVER THE INPUT: true; the input reads as it did. -/
def blockMasksSpec : ChangeSpec := { name := "blockMasks", fn := fun _ => fun
  | [d] => { results := [.lit (.bool true)], args := [d] }
  | _ => none }
def blockMasksRow : OpenClaim := { program := "ytkecbjohbihfmaa", sum := "9212c3dc93889c9cfb855204b4757cd171389a20b9a515060de21fb8e0ec0fc1", func := "churn/churnlaw04.BlockMasks", spec := "blockMasks", unfollowed := true, recurses := true, apart := false }
def BlockMasksSaid : Prop := blockMasksRow.holds Try.pinned (OpenSpec.ofChange blockMasksSpec)

/-- ITS FALSE NEIGHBOUR: 'it returns false'. Refute it at one input. -/
def blockMasksWrong : ChangeSpec := { name := "blockMasks", fn := fun _ => fun
  | [d] => { results := [.lit (.bool false)], args := [d] }
  | _ => none }
def BlockMasksWrongFalsely : Prop := blockMasksRow.holds Try.pinned (OpenSpec.ofChange blockMasksWrong)

/-- 'churnlaw04.BlockCounts': WHATEVER THE INPUT: true; the input reads as it did. -/
def blockCountsSpec : ChangeSpec := { name := "blockCounts", fn := fun _ => fun
  | [d1, d2, d3] => { results := [.lit (.bool true)], args := [d1, d2, d3] }
  | _ => none }
def blockCountsRow : OpenClaim := { program := "ytkecbjohbihfmaa", sum := "9212c3dc93889c9cfb855204b4757cd171389a20b9a515060de21fb8e0ec0fc1", func := "churn/churnlaw04.BlockCounts", spec := "blockCounts", unfollowed := true, recurses := true, apart := false }
def BlockCountsSaid : Prop := blockCountsRow.holds Try.pinned (OpenSpec.ofChange blockCountsSpec)

/-- ITS FALSE NEIGHBOUR: 'it returns false'. Refute it at one input. -/
def blockCountsWrong : ChangeSpec := { name := "blockCounts", fn := fun _ => fun
  | [d1, d2, d3] => { results := [.lit (.bool false)], args := [d1, d2, d3] }
  | _ => none }
def BlockCountsWrongFalsely : Prop := blockCountsRow.holds Try.pinned (OpenSpec.ofChange blockCountsWrong)

/-- 'churnlaw04.BlockExamples': WHATEVER THE INPUT: true; the input reads as it did. -/
def blockExamplesSpec : ChangeSpec := { name := "blockExamples", fn := fun _ => fun
  | [] => { results := [.lit (.bool true)], args := [] }
  | _ => none }
def blockExamplesRow : OpenClaim := { program := "ytkecbjohbihfmaa", sum := "9212c3dc93889c9cfb855204b4757cd171389a20b9a515060de21fb8e0ec0fc1", func := "churn/churnlaw04.BlockExamples", spec := "blockExamples", unfollowed := true, recurses := true, apart := false }
def BlockExamplesSaid : Prop := blockExamplesRow.holds Try.pinned (OpenSpec.ofChange blockExamplesSpec)

/-- ITS FALSE NEIGHBOUR: 'it returns false'. Refute it at one input. -/
def blockExamplesWrong : ChangeSpec := { name := "blockExamples", fn := fun _ => fun
  | [] => { results := [.lit (.bool false)], args := [] }
  | _ => none }
def BlockExamplesWrongFalsely : Prop := blockExamplesRow.holds Try.pinned (OpenSpec.ofChange blockExamplesWrong)

/- THE SECOND FORM. 'bulk': how many values and letters a reading holds, each counted each time it is reached (what is shared counts as often as it is met; a slice's spare places count too). A statement '..UptoSaid' is the law's where the arguments, and the package variables that the reading takes, are together of bulk at most 1048576: NARROWER than '..Said'. Prove '..Said' where nothing that the law and all that it calls make is longer than what came in: it says more and counts as full. Else prove '..UptoSaid'. A law counts once. -/
mutual
def uptoBulk {H : Type} : DataW H → Nat
  | .lit (.string bytes) => bytes.length + 1
  | .lit _ => 1
  | .nil => 1
  | .ptr d => uptoBulk d + 1
  | .slice elems spare => uptoBulkAll elems + uptoBulkAll spare + 1
  | .agg parts => uptoBulkAll parts + 1
  | .iface _ d => uptoBulk d + 1
  | .map entries => uptoBulkEntries entries + 1
  | .held _ => 1
def uptoBulkAll {H : Type} : List (DataW H) → Nat
  | [] => 0
  | d :: r => uptoBulk d + uptoBulkAll r
def uptoBulkEntries {H : Type} : List (Lit × DataW H) → Nat
  | [] => 0
  | x :: r => uptoBulkEntry x + uptoBulkEntries r
def uptoBulkEntry {H : Type} : Lit × DataW H → Nat
  | (.string bytes, d) => bytes.length + uptoBulk d + 1
  | (_, d) => uptoBulk d + 1
 end
def uptoSmall : (H : Type) → List (DataW H) → Bool := fun _ ds => decide (uptoBulkAll ds ≤ 1048576)
def OpenSpec.upto (s : _root_.Go.ChangeSpec) : _root_.Go.OpenSpec := { _root_.Go.OpenSpec.ofChange s with cond := some uptoSmall }

/-- 'churnlaw04.BlockCrypts', WHERE WHAT IT READS IS OF BULK AT MOST 1048576: true; the input reads as it did. -/
def blockCryptsUptoRow : OpenClaim := { program := "ytkecbjohbihfmaa", sum := "9212c3dc93889c9cfb855204b4757cd171389a20b9a515060de21fb8e0ec0fc1", func := "churn/churnlaw04.BlockCrypts", spec := "blockCrypts", unfollowed := true, recurses := true, apart := false, narrowed := true }
def BlockCryptsUptoSaid : Prop := blockCryptsUptoRow.holds Try.pinned (OpenSpec.upto blockCryptsSpec)

/-- 'churnlaw04.BlockRounds', WHERE WHAT IT READS IS OF BULK AT MOST 1048576: true; the input reads as it did. -/
def blockRoundsUptoRow : OpenClaim := { program := "ytkecbjohbihfmaa", sum := "9212c3dc93889c9cfb855204b4757cd171389a20b9a515060de21fb8e0ec0fc1", func := "churn/churnlaw04.BlockRounds", spec := "blockRounds", unfollowed := true, recurses := true, apart := false, narrowed := true }
def BlockRoundsUptoSaid : Prop := blockRoundsUptoRow.holds Try.pinned (OpenSpec.upto blockRoundsSpec)

/-- 'churnlaw04.BlockBack', WHERE WHAT IT READS IS OF BULK AT MOST 1048576: true; the input reads as it did. -/
def blockBackUptoRow : OpenClaim := { program := "ytkecbjohbihfmaa", sum := "9212c3dc93889c9cfb855204b4757cd171389a20b9a515060de21fb8e0ec0fc1", func := "churn/churnlaw04.BlockBack", spec := "blockBack", unfollowed := true, recurses := true, apart := false, narrowed := true }
def BlockBackUptoSaid : Prop := blockBackUptoRow.holds Try.pinned (OpenSpec.upto blockBackSpec)

/-- 'churnlaw04.BlockMasks', WHERE WHAT IT READS IS OF BULK AT MOST 1048576: true; the input reads as it did. -/
def blockMasksUptoRow : OpenClaim := { program := "ytkecbjohbihfmaa", sum := "9212c3dc93889c9cfb855204b4757cd171389a20b9a515060de21fb8e0ec0fc1", func := "churn/churnlaw04.BlockMasks", spec := "blockMasks", unfollowed := true, recurses := true, apart := false, narrowed := true }
def BlockMasksUptoSaid : Prop := blockMasksUptoRow.holds Try.pinned (OpenSpec.upto blockMasksSpec)

/-- 'churnlaw04.BlockCounts', WHERE WHAT IT READS IS OF BULK AT MOST 1048576: true; the input reads as it did. -/
def blockCountsUptoRow : OpenClaim := { program := "ytkecbjohbihfmaa", sum := "9212c3dc93889c9cfb855204b4757cd171389a20b9a515060de21fb8e0ec0fc1", func := "churn/churnlaw04.BlockCounts", spec := "blockCounts", unfollowed := true, recurses := true, apart := false, narrowed := true }
def BlockCountsUptoSaid : Prop := blockCountsUptoRow.holds Try.pinned (OpenSpec.upto blockCountsSpec)

/-- 'churnlaw04.BlockExamples', WHERE WHAT IT READS IS OF BULK AT MOST 1048576: true; the input reads as it did. -/
def blockExamplesUptoRow : OpenClaim := { program := "ytkecbjohbihfmaa", sum := "9212c3dc93889c9cfb855204b4757cd171389a20b9a515060de21fb8e0ec0fc1", func := "churn/churnlaw04.BlockExamples", spec := "blockExamples", unfollowed := true, recurses := true, apart := false, narrowed := true }
def BlockExamplesUptoSaid : Prop := blockExamplesUptoRow.holds Try.pinned (OpenSpec.upto blockExamplesSpec)

end Rows
end Go.Proofs.Ytkecbjohbihfmaa
