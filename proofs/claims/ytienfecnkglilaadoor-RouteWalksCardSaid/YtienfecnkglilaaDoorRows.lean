/-
  NARROWER THAN 'FOR EVERY INPUT', by the rows' own cells (each row's printed sentence says how): RouteKeys: laid · RouteWraps: laid · RouteRest: laid · RouteWalks: laid · RouteKeeps: laid · RouteThrough: laid.
  DERIVED. THE GIVEN ROWS OF THIS SEAT. 6 by the template 'for every input the law returns true; each argument reads behind the call as it read before'; 0 by the template 'total and deterministic' (their statements: YtienfecnkglilaaDoorTotals.lean).
  GIVEN WITH THE SEED: the statements are not yours to turn. If you find one false, say at which input.
  Laid BY PROGRAM, IN A SANDBOX (cutbox-rows.mjs): the forced cells as the released guide's own fill.sh prints them over the translation 5ffdc1515f6c22d6… (all of the seat's roots in one cut). By AI agents, Wed Nov 11 2026. No macro, syntax, notation, axiom, sorry.
-/
import Derived.Test.YtienfecnkglilaaDoorChecked
import GoSem.Claim
import GoSem.ClaimJoined
import GoSem.ClaimMapViews
import Derived.JoinedTies
import Derived.KernelRfl
namespace Go.Proofs.YtienfecnkglilaaDoor
/- THE CELL 'sum', in the pinned program and in every row, IS THE sha256 OF THE DUMP (.gsa) THAT YtienfecnkglilaaDoorProg.lean LOADS. Nothing in Lean hashes anything: it is a label: what it is worth is what the hold of that sum in a sandbox is worth. -/
noncomputable def Tryd.pinned : Pinned := { name := "ytienfecnkglilaadoor", sum := "5ffdc1515f6c22d6338351f41adf56b63d297ee3f595355c50d21f6393ac9cba", checked := Tryd.checked }
namespace Rows
def none {H : Type} : Left H := { results := [], args := [] }

/- WHAT THE LISTED PACKAGE-LEVEL VARIABLES READ AS WHEN THE CALL BEGINS. Each datum BY PROGRAM (the guide's laid-datum.mjs) off the statement by which the dump's own 'gosem.cut.vars' lays the variable. In a bare row this is a premise. The card (YtienfecnkglilaaDoorCards.lean) ties it to the program's text. -/
def laid_churn_hash_roots {H : Type} : DataW H := .agg [.lit (.int .u32 1116352408), .lit (.int .u32 1899447441), .lit (.int .u32 3049323471), .lit (.int .u32 3921009573), .lit (.int .u32 961987163), .lit (.int .u32 1508970993), .lit (.int .u32 2453635748), .lit (.int .u32 2870763221), .lit (.int .u32 3624381080), .lit (.int .u32 310598401), .lit (.int .u32 607225278), .lit (.int .u32 1426881987), .lit (.int .u32 1925078388), .lit (.int .u32 2162078206), .lit (.int .u32 2614888103), .lit (.int .u32 3248222580), .lit (.int .u32 3835390401), .lit (.int .u32 4022224774), .lit (.int .u32 264347078), .lit (.int .u32 604807628), .lit (.int .u32 770255983), .lit (.int .u32 1249150122), .lit (.int .u32 1555081692), .lit (.int .u32 1996064986), .lit (.int .u32 2554220882), .lit (.int .u32 2821834349), .lit (.int .u32 2952996808), .lit (.int .u32 3210313671), .lit (.int .u32 3336571891), .lit (.int .u32 3584528711), .lit (.int .u32 113926993), .lit (.int .u32 338241895), .lit (.int .u32 666307205), .lit (.int .u32 773529912), .lit (.int .u32 1294757372), .lit (.int .u32 1396182291), .lit (.int .u32 1695183700), .lit (.int .u32 1986661051), .lit (.int .u32 2177026350), .lit (.int .u32 2456956037), .lit (.int .u32 2730485921), .lit (.int .u32 2820302411), .lit (.int .u32 3259730800), .lit (.int .u32 3345764771), .lit (.int .u32 3516065817), .lit (.int .u32 3600352804), .lit (.int .u32 4094571909), .lit (.int .u32 275423344), .lit (.int .u32 430227734), .lit (.int .u32 506948616), .lit (.int .u32 659060556), .lit (.int .u32 883997877), .lit (.int .u32 958139571), .lit (.int .u32 1322822218), .lit (.int .u32 1537002063), .lit (.int .u32 1747873779), .lit (.int .u32 1955562222), .lit (.int .u32 2024104815), .lit (.int .u32 2227730452), .lit (.int .u32 2361852424), .lit (.int .u32 2428436474), .lit (.int .u32 2756734187), .lit (.int .u32 3204031479), .lit (.int .u32 3329325298)]

/-- 'churnlaw08.RouteKeys': WHATEVER THE INPUT: true; the input reads as it did. -/
def routeKeysSpec : ChangeSpec := { name := "routeKeys", fn := fun _ => fun
  | [d1, d2] => { results := [.lit (.bool true)], args := [d1, d2] }
  | _ => none }
def routeKeysRow : OpenClaim := { program := "ytienfecnkglilaadoor", sum := "5ffdc1515f6c22d6338351f41adf56b63d297ee3f595355c50d21f6393ac9cba", func := "churn/churnlaw08.RouteKeys", spec := "routeKeys", unfollowed := true, recurses := true, named := ["churn/hash.roots"], apart := false, laid := [("churn/hash.roots", laid_churn_hash_roots)] }
def RouteKeysSaid : Prop := routeKeysRow.holds Tryd.pinned (OpenSpec.ofChange routeKeysSpec)

/-- ITS FALSE NEIGHBOUR: 'it returns false'. Refute it at one input. -/
def routeKeysWrong : ChangeSpec := { name := "routeKeys", fn := fun _ => fun
  | [d1, d2] => { results := [.lit (.bool false)], args := [d1, d2] }
  | _ => none }
def RouteKeysWrongFalsely : Prop := routeKeysRow.holds Tryd.pinned (OpenSpec.ofChange routeKeysWrong)

/-- 'churnlaw08.RouteWraps': WHATEVER THE INPUT: true; the input reads as it did. -/
def routeWrapsSpec : ChangeSpec := { name := "routeWraps", fn := fun _ => fun
  | [d] => { results := [.lit (.bool true)], args := [d] }
  | _ => none }
def routeWrapsRow : OpenClaim := { program := "ytienfecnkglilaadoor", sum := "5ffdc1515f6c22d6338351f41adf56b63d297ee3f595355c50d21f6393ac9cba", func := "churn/churnlaw08.RouteWraps", spec := "routeWraps", unfollowed := true, recurses := true, named := ["churn/hash.roots"], apart := false, laid := [("churn/hash.roots", laid_churn_hash_roots)] }
def RouteWrapsSaid : Prop := routeWrapsRow.holds Tryd.pinned (OpenSpec.ofChange routeWrapsSpec)

/-- ITS FALSE NEIGHBOUR: 'it returns false'. Refute it at one input. -/
def routeWrapsWrong : ChangeSpec := { name := "routeWraps", fn := fun _ => fun
  | [d] => { results := [.lit (.bool false)], args := [d] }
  | _ => none }
def RouteWrapsWrongFalsely : Prop := routeWrapsRow.holds Tryd.pinned (OpenSpec.ofChange routeWrapsWrong)

/-- 'churnlaw08.RouteRest': WHATEVER THE INPUT: true; the input reads as it did. -/
def routeRestSpec : ChangeSpec := { name := "routeRest", fn := fun _ => fun
  | [d] => { results := [.lit (.bool true)], args := [d] }
  | _ => none }
def routeRestRow : OpenClaim := { program := "ytienfecnkglilaadoor", sum := "5ffdc1515f6c22d6338351f41adf56b63d297ee3f595355c50d21f6393ac9cba", func := "churn/churnlaw08.RouteRest", spec := "routeRest", unfollowed := true, recurses := true, named := ["churn/hash.roots"], apart := false, laid := [("churn/hash.roots", laid_churn_hash_roots)] }
def RouteRestSaid : Prop := routeRestRow.holds Tryd.pinned (OpenSpec.ofChange routeRestSpec)

/-- ITS FALSE NEIGHBOUR: 'it returns false'. Refute it at one input. -/
def routeRestWrong : ChangeSpec := { name := "routeRest", fn := fun _ => fun
  | [d] => { results := [.lit (.bool false)], args := [d] }
  | _ => none }
def RouteRestWrongFalsely : Prop := routeRestRow.holds Tryd.pinned (OpenSpec.ofChange routeRestWrong)

/-- 'churnlaw08.RouteWalks': WHATEVER THE INPUT: true; the input reads as it did. -/
def routeWalksSpec : ChangeSpec := { name := "routeWalks", fn := fun _ => fun
  | [d1, d2] => { results := [.lit (.bool true)], args := [d1, d2] }
  | _ => none }
def routeWalksRow : OpenClaim := { program := "ytienfecnkglilaadoor", sum := "5ffdc1515f6c22d6338351f41adf56b63d297ee3f595355c50d21f6393ac9cba", func := "churn/churnlaw08.RouteWalks", spec := "routeWalks", unfollowed := true, recurses := true, named := ["churn/hash.roots"], apart := false, laid := [("churn/hash.roots", laid_churn_hash_roots)] }
def RouteWalksSaid : Prop := routeWalksRow.holds Tryd.pinned (OpenSpec.ofChange routeWalksSpec)

/-- ITS FALSE NEIGHBOUR: 'it returns false'. Refute it at one input. -/
def routeWalksWrong : ChangeSpec := { name := "routeWalks", fn := fun _ => fun
  | [d1, d2] => { results := [.lit (.bool false)], args := [d1, d2] }
  | _ => none }
def RouteWalksWrongFalsely : Prop := routeWalksRow.holds Tryd.pinned (OpenSpec.ofChange routeWalksWrong)

/-- 'churnlaw08.RouteKeeps': WHATEVER THE INPUT: true; the input reads as it did. -/
def routeKeepsSpec : ChangeSpec := { name := "routeKeeps", fn := fun _ => fun
  | [d1, d2] => { results := [.lit (.bool true)], args := [d1, d2] }
  | _ => none }
def routeKeepsRow : OpenClaim := { program := "ytienfecnkglilaadoor", sum := "5ffdc1515f6c22d6338351f41adf56b63d297ee3f595355c50d21f6393ac9cba", func := "churn/churnlaw08.RouteKeeps", spec := "routeKeeps", unfollowed := true, recurses := true, named := ["churn/hash.roots"], apart := false, laid := [("churn/hash.roots", laid_churn_hash_roots)] }
def RouteKeepsSaid : Prop := routeKeepsRow.holds Tryd.pinned (OpenSpec.ofChange routeKeepsSpec)

/-- ITS FALSE NEIGHBOUR: 'it returns false'. Refute it at one input. -/
def routeKeepsWrong : ChangeSpec := { name := "routeKeeps", fn := fun _ => fun
  | [d1, d2] => { results := [.lit (.bool false)], args := [d1, d2] }
  | _ => none }
def RouteKeepsWrongFalsely : Prop := routeKeepsRow.holds Tryd.pinned (OpenSpec.ofChange routeKeepsWrong)

/-- 'churnlaw08.RouteThrough': WHATEVER THE INPUT: true; the input reads as it did. -/
def routeThroughSpec : ChangeSpec := { name := "routeThrough", fn := fun _ => fun
  | [d] => { results := [.lit (.bool true)], args := [d] }
  | _ => none }
def routeThroughRow : OpenClaim := { program := "ytienfecnkglilaadoor", sum := "5ffdc1515f6c22d6338351f41adf56b63d297ee3f595355c50d21f6393ac9cba", func := "churn/churnlaw08.RouteThrough", spec := "routeThrough", unfollowed := true, recurses := true, named := ["churn/hash.roots"], apart := false, laid := [("churn/hash.roots", laid_churn_hash_roots)] }
def RouteThroughSaid : Prop := routeThroughRow.holds Tryd.pinned (OpenSpec.ofChange routeThroughSpec)

/-- ITS FALSE NEIGHBOUR: 'it returns false'. Refute it at one input. -/
def routeThroughWrong : ChangeSpec := { name := "routeThrough", fn := fun _ => fun
  | [d] => { results := [.lit (.bool false)], args := [d] }
  | _ => none }
def RouteThroughWrongFalsely : Prop := routeThroughRow.holds Tryd.pinned (OpenSpec.ofChange routeThroughWrong)

/- THE SECOND FORM. 'bulk': how many values and letters a reading holds, each counted each time it is reached (what is shared counts as often as it is met; a slice's spare places count too). A statement '..UptoSaid' is the law's where the arguments, and the package variables that the reading takes, are together of bulk at most 1048576: NARROWER than '..Said'. Prove '..Said' where nothing that the law and all that it calls make is longer than what came in: it says more and counts as full. Else prove '..UptoSaid'. A law counts once. -/
mutual
def uptoBulk {H : Type} : DataW H → Nat
  | .lit (.string bytes) => bytes.length + 1
  | .lit _ => 1
  | .nil => 1
  | .ptr d => uptoBulk d + 1
  | .slice elems spare => uptoBulkAll elems + uptoBulkAll spare + 1
  | .agg parts => uptoBulkAll parts + 1
  | .iface _ d => uptoBulk d + 1
  | .map entries => uptoBulkEntries entries + 1
  | .held _ => 1
def uptoBulkAll {H : Type} : List (DataW H) → Nat
  | [] => 0
  | d :: r => uptoBulk d + uptoBulkAll r
def uptoBulkEntries {H : Type} : List (Lit × DataW H) → Nat
  | [] => 0
  | x :: r => uptoBulkEntry x + uptoBulkEntries r
def uptoBulkEntry {H : Type} : Lit × DataW H → Nat
  | (.string bytes, d) => bytes.length + uptoBulk d + 1
  | (_, d) => uptoBulk d + 1
 end
def uptoSmall : (H : Type) → List (DataW H) → Bool := fun _ ds => decide (uptoBulkAll ds ≤ 1048576)
def OpenSpec.upto (s : _root_.Go.ChangeSpec) : _root_.Go.OpenSpec := { _root_.Go.OpenSpec.ofChange s with cond := some uptoSmall }

/-- 'churnlaw08.RouteKeys', WHERE WHAT IT READS IS OF BULK AT MOST 1048576: true; the input reads as it did. -/
def routeKeysUptoRow : OpenClaim := { program := "ytienfecnkglilaadoor", sum := "5ffdc1515f6c22d6338351f41adf56b63d297ee3f595355c50d21f6393ac9cba", func := "churn/churnlaw08.RouteKeys", spec := "routeKeys", unfollowed := true, recurses := true, named := ["churn/hash.roots"], apart := false, laid := [("churn/hash.roots", laid_churn_hash_roots)], narrowed := true }
def RouteKeysUptoSaid : Prop := routeKeysUptoRow.holds Tryd.pinned (OpenSpec.upto routeKeysSpec)

/-- 'churnlaw08.RouteWraps', WHERE WHAT IT READS IS OF BULK AT MOST 1048576: true; the input reads as it did. -/
def routeWrapsUptoRow : OpenClaim := { program := "ytienfecnkglilaadoor", sum := "5ffdc1515f6c22d6338351f41adf56b63d297ee3f595355c50d21f6393ac9cba", func := "churn/churnlaw08.RouteWraps", spec := "routeWraps", unfollowed := true, recurses := true, named := ["churn/hash.roots"], apart := false, laid := [("churn/hash.roots", laid_churn_hash_roots)], narrowed := true }
def RouteWrapsUptoSaid : Prop := routeWrapsUptoRow.holds Tryd.pinned (OpenSpec.upto routeWrapsSpec)

/-- 'churnlaw08.RouteRest', WHERE WHAT IT READS IS OF BULK AT MOST 1048576: true; the input reads as it did. -/
def routeRestUptoRow : OpenClaim := { program := "ytienfecnkglilaadoor", sum := "5ffdc1515f6c22d6338351f41adf56b63d297ee3f595355c50d21f6393ac9cba", func := "churn/churnlaw08.RouteRest", spec := "routeRest", unfollowed := true, recurses := true, named := ["churn/hash.roots"], apart := false, laid := [("churn/hash.roots", laid_churn_hash_roots)], narrowed := true }
def RouteRestUptoSaid : Prop := routeRestUptoRow.holds Tryd.pinned (OpenSpec.upto routeRestSpec)

/-- 'churnlaw08.RouteWalks', WHERE WHAT IT READS IS OF BULK AT MOST 1048576: true; the input reads as it did. -/
def routeWalksUptoRow : OpenClaim := { program := "ytienfecnkglilaadoor", sum := "5ffdc1515f6c22d6338351f41adf56b63d297ee3f595355c50d21f6393ac9cba", func := "churn/churnlaw08.RouteWalks", spec := "routeWalks", unfollowed := true, recurses := true, named := ["churn/hash.roots"], apart := false, laid := [("churn/hash.roots", laid_churn_hash_roots)], narrowed := true }
def RouteWalksUptoSaid : Prop := routeWalksUptoRow.holds Tryd.pinned (OpenSpec.upto routeWalksSpec)

/-- 'churnlaw08.RouteKeeps', WHERE WHAT IT READS IS OF BULK AT MOST 1048576: true; the input reads as it did. -/
def routeKeepsUptoRow : OpenClaim := { program := "ytienfecnkglilaadoor", sum := "5ffdc1515f6c22d6338351f41adf56b63d297ee3f595355c50d21f6393ac9cba", func := "churn/churnlaw08.RouteKeeps", spec := "routeKeeps", unfollowed := true, recurses := true, named := ["churn/hash.roots"], apart := false, laid := [("churn/hash.roots", laid_churn_hash_roots)], narrowed := true }
def RouteKeepsUptoSaid : Prop := routeKeepsUptoRow.holds Tryd.pinned (OpenSpec.upto routeKeepsSpec)

/-- 'churnlaw08.RouteThrough', WHERE WHAT IT READS IS OF BULK AT MOST 1048576: true; the input reads as it did. -/
def routeThroughUptoRow : OpenClaim := { program := "ytienfecnkglilaadoor", sum := "5ffdc1515f6c22d6338351f41adf56b63d297ee3f595355c50d21f6393ac9cba", func := "churn/churnlaw08.RouteThrough", spec := "routeThrough", unfollowed := true, recurses := true, named := ["churn/hash.roots"], apart := false, laid := [("churn/hash.roots", laid_churn_hash_roots)], narrowed := true }
def RouteThroughUptoSaid : Prop := routeThroughUptoRow.holds Tryd.pinned (OpenSpec.upto routeThroughSpec)

end Rows
end Go.Proofs.YtienfecnkglilaaDoor
