/-
  NARROWER THAN 'FOR EVERY INPUT', by the rows' own cells (each row's printed sentence says how): OnionNames: laid · OnionDerives: laid · OnionWraps: laid · OnionPeels: laid · OnionBack: laid · OnionOne: laid · OnionKeeps: laid.
  DERIVED. THE GIVEN ROWS OF THIS SEAT. 7 by the template 'for every input the law returns true; each argument reads behind the call as it read before'; 0 by the template 'total and deterministic' (their statements: YtjahiggpglbgoaaDoorTotals.lean).
  GIVEN WITH THE SEED: the statements are not yours to turn. If you find one false, say at which input.
  Laid BY PROGRAM, IN A SANDBOX (cutbox-rows.mjs): the forced cells as the released guide's own fill.sh prints them over the translation 64fb89149c143074… (all of the seat's roots in one cut). By AI agents, Wed Nov 11 2026. No macro, syntax, notation, axiom, sorry.
-/
import Derived.Test.YtjahiggpglbgoaaDoorChecked
import GoSem.Claim
import GoSem.ClaimJoined
import GoSem.ClaimMapViews
import Derived.JoinedTies
import Derived.KernelRfl
namespace Go.Proofs.YtjahiggpglbgoaaDoor
/- THE CELL 'sum', in the pinned program and in every row, IS THE sha256 OF THE DUMP (.gsa) THAT YtjahiggpglbgoaaDoorProg.lean LOADS. Nothing in Lean hashes anything: it is a label: what it is worth is what the hold of that sum in a sandbox is worth. -/
noncomputable def Tryd.pinned : Pinned := { name := "ytjahiggpglbgoaadoor", sum := "64fb89149c1430743e1fbda6be0eaacd7e17f24b469898efcb3efe8ca7003d1c", checked := Tryd.checked }
namespace Rows
def none {H : Type} : Left H := { results := [], args := [] }

/- WHAT THE LISTED PACKAGE-LEVEL VARIABLES READ AS WHEN THE CALL BEGINS. Each datum BY PROGRAM (the guide's laid-datum.mjs) off the statement by which the dump's own 'gosem.cut.vars' lays the variable. In a bare row this is a premise. The card (YtjahiggpglbgoaaDoorCards.lean) ties it to the program's text. -/
def laid_churn_hash_roots {H : Type} : DataW H := .agg [.lit (.int .u32 1116352408), .lit (.int .u32 1899447441), .lit (.int .u32 3049323471), .lit (.int .u32 3921009573), .lit (.int .u32 961987163), .lit (.int .u32 1508970993), .lit (.int .u32 2453635748), .lit (.int .u32 2870763221), .lit (.int .u32 3624381080), .lit (.int .u32 310598401), .lit (.int .u32 607225278), .lit (.int .u32 1426881987), .lit (.int .u32 1925078388), .lit (.int .u32 2162078206), .lit (.int .u32 2614888103), .lit (.int .u32 3248222580), .lit (.int .u32 3835390401), .lit (.int .u32 4022224774), .lit (.int .u32 264347078), .lit (.int .u32 604807628), .lit (.int .u32 770255983), .lit (.int .u32 1249150122), .lit (.int .u32 1555081692), .lit (.int .u32 1996064986), .lit (.int .u32 2554220882), .lit (.int .u32 2821834349), .lit (.int .u32 2952996808), .lit (.int .u32 3210313671), .lit (.int .u32 3336571891), .lit (.int .u32 3584528711), .lit (.int .u32 113926993), .lit (.int .u32 338241895), .lit (.int .u32 666307205), .lit (.int .u32 773529912), .lit (.int .u32 1294757372), .lit (.int .u32 1396182291), .lit (.int .u32 1695183700), .lit (.int .u32 1986661051), .lit (.int .u32 2177026350), .lit (.int .u32 2456956037), .lit (.int .u32 2730485921), .lit (.int .u32 2820302411), .lit (.int .u32 3259730800), .lit (.int .u32 3345764771), .lit (.int .u32 3516065817), .lit (.int .u32 3600352804), .lit (.int .u32 4094571909), .lit (.int .u32 275423344), .lit (.int .u32 430227734), .lit (.int .u32 506948616), .lit (.int .u32 659060556), .lit (.int .u32 883997877), .lit (.int .u32 958139571), .lit (.int .u32 1322822218), .lit (.int .u32 1537002063), .lit (.int .u32 1747873779), .lit (.int .u32 1955562222), .lit (.int .u32 2024104815), .lit (.int .u32 2227730452), .lit (.int .u32 2361852424), .lit (.int .u32 2428436474), .lit (.int .u32 2756734187), .lit (.int .u32 3204031479), .lit (.int .u32 3329325298)]

/-- 'churnlaw07.OnionNames': WHATEVER THE INPUT: true; the input reads as it did. -/
def onionNamesSpec : ChangeSpec := { name := "onionNames", fn := fun _ => fun
  | [] => { results := [.lit (.bool true)], args := [] }
  | _ => none }
def onionNamesRow : OpenClaim := { program := "ytjahiggpglbgoaadoor", sum := "64fb89149c1430743e1fbda6be0eaacd7e17f24b469898efcb3efe8ca7003d1c", func := "churn/churnlaw07.OnionNames", spec := "onionNames", unfollowed := true, recurses := true, named := ["churn/hash.roots"], apart := false, laid := [("churn/hash.roots", laid_churn_hash_roots)] }
def OnionNamesSaid : Prop := onionNamesRow.holds Tryd.pinned (OpenSpec.ofChange onionNamesSpec)

/-- ITS FALSE NEIGHBOUR: 'it returns false'. Refute it at one input. -/
def onionNamesWrong : ChangeSpec := { name := "onionNames", fn := fun _ => fun
  | [] => { results := [.lit (.bool false)], args := [] }
  | _ => none }
def OnionNamesWrongFalsely : Prop := onionNamesRow.holds Tryd.pinned (OpenSpec.ofChange onionNamesWrong)

/-- 'churnlaw07.OnionDerives': WHATEVER THE INPUT: true; the input reads as it did. -/
def onionDerivesSpec : ChangeSpec := { name := "onionDerives", fn := fun _ => fun
  | [d1, d2, d3] => { results := [.lit (.bool true)], args := [d1, d2, d3] }
  | _ => none }
def onionDerivesRow : OpenClaim := { program := "ytjahiggpglbgoaadoor", sum := "64fb89149c1430743e1fbda6be0eaacd7e17f24b469898efcb3efe8ca7003d1c", func := "churn/churnlaw07.OnionDerives", spec := "onionDerives", unfollowed := true, recurses := true, named := ["churn/hash.roots"], apart := false, laid := [("churn/hash.roots", laid_churn_hash_roots)] }
def OnionDerivesSaid : Prop := onionDerivesRow.holds Tryd.pinned (OpenSpec.ofChange onionDerivesSpec)

/-- ITS FALSE NEIGHBOUR: 'it returns false'. Refute it at one input. -/
def onionDerivesWrong : ChangeSpec := { name := "onionDerives", fn := fun _ => fun
  | [d1, d2, d3] => { results := [.lit (.bool false)], args := [d1, d2, d3] }
  | _ => none }
def OnionDerivesWrongFalsely : Prop := onionDerivesRow.holds Tryd.pinned (OpenSpec.ofChange onionDerivesWrong)

/-- 'churnlaw07.OnionWraps': WHATEVER THE INPUT: true; the input reads as it did. -/
def onionWrapsSpec : ChangeSpec := { name := "onionWraps", fn := fun _ => fun
  | [d] => { results := [.lit (.bool true)], args := [d] }
  | _ => none }
def onionWrapsRow : OpenClaim := { program := "ytjahiggpglbgoaadoor", sum := "64fb89149c1430743e1fbda6be0eaacd7e17f24b469898efcb3efe8ca7003d1c", func := "churn/churnlaw07.OnionWraps", spec := "onionWraps", unfollowed := true, recurses := true, named := ["churn/hash.roots"], apart := false, laid := [("churn/hash.roots", laid_churn_hash_roots)] }
def OnionWrapsSaid : Prop := onionWrapsRow.holds Tryd.pinned (OpenSpec.ofChange onionWrapsSpec)

/-- ITS FALSE NEIGHBOUR: 'it returns false'. Refute it at one input. -/
def onionWrapsWrong : ChangeSpec := { name := "onionWraps", fn := fun _ => fun
  | [d] => { results := [.lit (.bool false)], args := [d] }
  | _ => none }
def OnionWrapsWrongFalsely : Prop := onionWrapsRow.holds Tryd.pinned (OpenSpec.ofChange onionWrapsWrong)

/-- 'churnlaw07.OnionPeels': WHATEVER THE INPUT: true; the input reads as it did. -/
def onionPeelsSpec : ChangeSpec := { name := "onionPeels", fn := fun _ => fun
  | [d1, d2, d3] => { results := [.lit (.bool true)], args := [d1, d2, d3] }
  | _ => none }
def onionPeelsRow : OpenClaim := { program := "ytjahiggpglbgoaadoor", sum := "64fb89149c1430743e1fbda6be0eaacd7e17f24b469898efcb3efe8ca7003d1c", func := "churn/churnlaw07.OnionPeels", spec := "onionPeels", unfollowed := true, recurses := true, named := ["churn/hash.roots"], apart := false, laid := [("churn/hash.roots", laid_churn_hash_roots)] }
def OnionPeelsSaid : Prop := onionPeelsRow.holds Tryd.pinned (OpenSpec.ofChange onionPeelsSpec)

/-- ITS FALSE NEIGHBOUR: 'it returns false'. Refute it at one input. -/
def onionPeelsWrong : ChangeSpec := { name := "onionPeels", fn := fun _ => fun
  | [d1, d2, d3] => { results := [.lit (.bool false)], args := [d1, d2, d3] }
  | _ => none }
def OnionPeelsWrongFalsely : Prop := onionPeelsRow.holds Tryd.pinned (OpenSpec.ofChange onionPeelsWrong)

/-- 'churnlaw07.OnionBack': WHATEVER THE INPUT: true; the input reads as it did. -/
def onionBackSpec : ChangeSpec := { name := "onionBack", fn := fun _ => fun
  | [d] => { results := [.lit (.bool true)], args := [d] }
  | _ => none }
def onionBackRow : OpenClaim := { program := "ytjahiggpglbgoaadoor", sum := "64fb89149c1430743e1fbda6be0eaacd7e17f24b469898efcb3efe8ca7003d1c", func := "churn/churnlaw07.OnionBack", spec := "onionBack", unfollowed := true, recurses := true, named := ["churn/hash.roots"], apart := false, laid := [("churn/hash.roots", laid_churn_hash_roots)] }
def OnionBackSaid : Prop := onionBackRow.holds Tryd.pinned (OpenSpec.ofChange onionBackSpec)

/-- ITS FALSE NEIGHBOUR: 'it returns false'. Refute it at one input. -/
def onionBackWrong : ChangeSpec := { name := "onionBack", fn := fun _ => fun
  | [d] => { results := [.lit (.bool false)], args := [d] }
  | _ => none }
def OnionBackWrongFalsely : Prop := onionBackRow.holds Tryd.pinned (OpenSpec.ofChange onionBackWrong)

/-- 'churnlaw07.OnionOne': WHATEVER THE INPUT: true; the input reads as it did. -/
def onionOneSpec : ChangeSpec := { name := "onionOne", fn := fun _ => fun
  | [d1, d2, d3] => { results := [.lit (.bool true)], args := [d1, d2, d3] }
  | _ => none }
def onionOneRow : OpenClaim := { program := "ytjahiggpglbgoaadoor", sum := "64fb89149c1430743e1fbda6be0eaacd7e17f24b469898efcb3efe8ca7003d1c", func := "churn/churnlaw07.OnionOne", spec := "onionOne", unfollowed := true, recurses := true, named := ["churn/hash.roots"], apart := false, laid := [("churn/hash.roots", laid_churn_hash_roots)] }
def OnionOneSaid : Prop := onionOneRow.holds Tryd.pinned (OpenSpec.ofChange onionOneSpec)

/-- ITS FALSE NEIGHBOUR: 'it returns false'. Refute it at one input. -/
def onionOneWrong : ChangeSpec := { name := "onionOne", fn := fun _ => fun
  | [d1, d2, d3] => { results := [.lit (.bool false)], args := [d1, d2, d3] }
  | _ => none }
def OnionOneWrongFalsely : Prop := onionOneRow.holds Tryd.pinned (OpenSpec.ofChange onionOneWrong)

/-- 'churnlaw07.OnionKeeps': WHATEVER THE INPUT: true; the input reads as it did. -/
def onionKeepsSpec : ChangeSpec := { name := "onionKeeps", fn := fun _ => fun
  | [d] => { results := [.lit (.bool true)], args := [d] }
  | _ => none }
def onionKeepsRow : OpenClaim := { program := "ytjahiggpglbgoaadoor", sum := "64fb89149c1430743e1fbda6be0eaacd7e17f24b469898efcb3efe8ca7003d1c", func := "churn/churnlaw07.OnionKeeps", spec := "onionKeeps", unfollowed := true, recurses := true, named := ["churn/hash.roots"], apart := false, laid := [("churn/hash.roots", laid_churn_hash_roots)] }
def OnionKeepsSaid : Prop := onionKeepsRow.holds Tryd.pinned (OpenSpec.ofChange onionKeepsSpec)

/-- ITS FALSE NEIGHBOUR: 'it returns false'. Refute it at one input. -/
def onionKeepsWrong : ChangeSpec := { name := "onionKeeps", fn := fun _ => fun
  | [d] => { results := [.lit (.bool false)], args := [d] }
  | _ => none }
def OnionKeepsWrongFalsely : Prop := onionKeepsRow.holds Tryd.pinned (OpenSpec.ofChange onionKeepsWrong)

/- THE SECOND FORM. 'bulk': how many values and letters a reading holds, each counted each time it is reached (what is shared counts as often as it is met; a slice's spare places count too). A statement '..UptoSaid' is the law's where the arguments, and the package variables that the reading takes, are together of bulk at most 1048576: NARROWER than '..Said'. Prove '..Said' where nothing that the law and all that it calls make is longer than what came in: it says more and counts as full. Else prove '..UptoSaid'. A law counts once. -/
mutual
def uptoBulk {H : Type} : DataW H → Nat
  | .lit (.string bytes) => bytes.length + 1
  | .lit _ => 1
  | .nil => 1
  | .ptr d => uptoBulk d + 1
  | .slice elems spare => uptoBulkAll elems + uptoBulkAll spare + 1
  | .agg parts => uptoBulkAll parts + 1
  | .iface _ d => uptoBulk d + 1
  | .map entries => uptoBulkEntries entries + 1
  | .held _ => 1
def uptoBulkAll {H : Type} : List (DataW H) → Nat
  | [] => 0
  | d :: r => uptoBulk d + uptoBulkAll r
def uptoBulkEntries {H : Type} : List (Lit × DataW H) → Nat
  | [] => 0
  | x :: r => uptoBulkEntry x + uptoBulkEntries r
def uptoBulkEntry {H : Type} : Lit × DataW H → Nat
  | (.string bytes, d) => bytes.length + uptoBulk d + 1
  | (_, d) => uptoBulk d + 1
 end
def uptoSmall : (H : Type) → List (DataW H) → Bool := fun _ ds => decide (uptoBulkAll ds ≤ 1048576)
def OpenSpec.upto (s : _root_.Go.ChangeSpec) : _root_.Go.OpenSpec := { _root_.Go.OpenSpec.ofChange s with cond := some uptoSmall }

/-- 'churnlaw07.OnionNames', WHERE WHAT IT READS IS OF BULK AT MOST 1048576: true; the input reads as it did. -/
def onionNamesUptoRow : OpenClaim := { program := "ytjahiggpglbgoaadoor", sum := "64fb89149c1430743e1fbda6be0eaacd7e17f24b469898efcb3efe8ca7003d1c", func := "churn/churnlaw07.OnionNames", spec := "onionNames", unfollowed := true, recurses := true, named := ["churn/hash.roots"], apart := false, laid := [("churn/hash.roots", laid_churn_hash_roots)], narrowed := true }
def OnionNamesUptoSaid : Prop := onionNamesUptoRow.holds Tryd.pinned (OpenSpec.upto onionNamesSpec)

/-- 'churnlaw07.OnionDerives', WHERE WHAT IT READS IS OF BULK AT MOST 1048576: true; the input reads as it did. -/
def onionDerivesUptoRow : OpenClaim := { program := "ytjahiggpglbgoaadoor", sum := "64fb89149c1430743e1fbda6be0eaacd7e17f24b469898efcb3efe8ca7003d1c", func := "churn/churnlaw07.OnionDerives", spec := "onionDerives", unfollowed := true, recurses := true, named := ["churn/hash.roots"], apart := false, laid := [("churn/hash.roots", laid_churn_hash_roots)], narrowed := true }
def OnionDerivesUptoSaid : Prop := onionDerivesUptoRow.holds Tryd.pinned (OpenSpec.upto onionDerivesSpec)

/-- 'churnlaw07.OnionWraps', WHERE WHAT IT READS IS OF BULK AT MOST 1048576: true; the input reads as it did. -/
def onionWrapsUptoRow : OpenClaim := { program := "ytjahiggpglbgoaadoor", sum := "64fb89149c1430743e1fbda6be0eaacd7e17f24b469898efcb3efe8ca7003d1c", func := "churn/churnlaw07.OnionWraps", spec := "onionWraps", unfollowed := true, recurses := true, named := ["churn/hash.roots"], apart := false, laid := [("churn/hash.roots", laid_churn_hash_roots)], narrowed := true }
def OnionWrapsUptoSaid : Prop := onionWrapsUptoRow.holds Tryd.pinned (OpenSpec.upto onionWrapsSpec)

/-- 'churnlaw07.OnionPeels', WHERE WHAT IT READS IS OF BULK AT MOST 1048576: true; the input reads as it did. -/
def onionPeelsUptoRow : OpenClaim := { program := "ytjahiggpglbgoaadoor", sum := "64fb89149c1430743e1fbda6be0eaacd7e17f24b469898efcb3efe8ca7003d1c", func := "churn/churnlaw07.OnionPeels", spec := "onionPeels", unfollowed := true, recurses := true, named := ["churn/hash.roots"], apart := false, laid := [("churn/hash.roots", laid_churn_hash_roots)], narrowed := true }
def OnionPeelsUptoSaid : Prop := onionPeelsUptoRow.holds Tryd.pinned (OpenSpec.upto onionPeelsSpec)

/-- 'churnlaw07.OnionBack', WHERE WHAT IT READS IS OF BULK AT MOST 1048576: true; the input reads as it did. -/
def onionBackUptoRow : OpenClaim := { program := "ytjahiggpglbgoaadoor", sum := "64fb89149c1430743e1fbda6be0eaacd7e17f24b469898efcb3efe8ca7003d1c", func := "churn/churnlaw07.OnionBack", spec := "onionBack", unfollowed := true, recurses := true, named := ["churn/hash.roots"], apart := false, laid := [("churn/hash.roots", laid_churn_hash_roots)], narrowed := true }
def OnionBackUptoSaid : Prop := onionBackUptoRow.holds Tryd.pinned (OpenSpec.upto onionBackSpec)

/-- 'churnlaw07.OnionOne', WHERE WHAT IT READS IS OF BULK AT MOST 1048576: true; the input reads as it did. -/
def onionOneUptoRow : OpenClaim := { program := "ytjahiggpglbgoaadoor", sum := "64fb89149c1430743e1fbda6be0eaacd7e17f24b469898efcb3efe8ca7003d1c", func := "churn/churnlaw07.OnionOne", spec := "onionOne", unfollowed := true, recurses := true, named := ["churn/hash.roots"], apart := false, laid := [("churn/hash.roots", laid_churn_hash_roots)], narrowed := true }
def OnionOneUptoSaid : Prop := onionOneUptoRow.holds Tryd.pinned (OpenSpec.upto onionOneSpec)

/-- 'churnlaw07.OnionKeeps', WHERE WHAT IT READS IS OF BULK AT MOST 1048576: true; the input reads as it did. -/
def onionKeepsUptoRow : OpenClaim := { program := "ytjahiggpglbgoaadoor", sum := "64fb89149c1430743e1fbda6be0eaacd7e17f24b469898efcb3efe8ca7003d1c", func := "churn/churnlaw07.OnionKeeps", spec := "onionKeeps", unfollowed := true, recurses := true, named := ["churn/hash.roots"], apart := false, laid := [("churn/hash.roots", laid_churn_hash_roots)], narrowed := true }
def OnionKeepsUptoSaid : Prop := onionKeepsUptoRow.holds Tryd.pinned (OpenSpec.upto onionKeepsSpec)

end Rows
end Go.Proofs.YtjahiggpglbgoaaDoor
