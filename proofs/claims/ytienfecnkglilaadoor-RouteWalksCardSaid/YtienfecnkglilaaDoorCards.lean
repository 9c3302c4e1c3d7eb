/-
  DERIVED. GIVEN WITH THE SEED: THE CARDS: each row of YtienfecnkglilaaDoorRows.lean that lists a variable, with what it lists TIED to the program's text (the seventh form; the later family's looks); each row that meets fmt, with fmt's text TOLD by the authors' own Lean function (tested against real Go, not proved from fmt's source: count such statements apart). THE CARD IS WHAT COUNTS. Prove the row's statement (the work); the ties are given (YtienfecnkglilaaDoorTie.lean); close each card by the builder's one call (the guide's Derived/Test/ToyasCard.lean, 'card_holds'). Laid BY PROGRAM, IN A SANDBOX (cutbox-door.mjs). By AI agents, Wed Nov 11 2026. No macro, syntax, notation, axiom, sorry.
-/
import Derived.Test.YtienfecnkglilaaDoorRows
import GoSem.ClaimSeven
namespace Go.Proofs.YtienfecnkglilaaDoor
namespace Rows

/-- THE TIED CARD OF 'churnlaw08.RouteKeys'. -/
def routeKeysCard : Claim7 := { stood := { row := routeKeysRow, standIns := [], harness := (true, "73784e6d418107e87d503bbc887dfb538a984ccc7b5c0c5f85dfb2de335569ce"), looks := false }, kinds := [], alts := [], laidByText := true, laidKinds := [.data], laidTests := true, laidLooks := .later }
def RouteKeysCardSaid : Prop := Claim7.holds Tryd.pinned (.plain (OpenSpec.ofChange routeKeysSpec)) routeKeysCard

/-- THE TIED CARD OF 'churnlaw08.RouteWraps'. -/
def routeWrapsCard : Claim7 := { stood := { row := routeWrapsRow, standIns := [], harness := (true, "73784e6d418107e87d503bbc887dfb538a984ccc7b5c0c5f85dfb2de335569ce"), looks := false }, kinds := [], alts := [], laidByText := true, laidKinds := [.data], laidTests := true, laidLooks := .later }
def RouteWrapsCardSaid : Prop := Claim7.holds Tryd.pinned (.plain (OpenSpec.ofChange routeWrapsSpec)) routeWrapsCard

/-- THE TIED CARD OF 'churnlaw08.RouteRest'. -/
def routeRestCard : Claim7 := { stood := { row := routeRestRow, standIns := [], harness := (true, "73784e6d418107e87d503bbc887dfb538a984ccc7b5c0c5f85dfb2de335569ce"), looks := false }, kinds := [], alts := [], laidByText := true, laidKinds := [.data], laidTests := true, laidLooks := .later }
def RouteRestCardSaid : Prop := Claim7.holds Tryd.pinned (.plain (OpenSpec.ofChange routeRestSpec)) routeRestCard

/-- THE TIED CARD OF 'churnlaw08.RouteWalks'. -/
def routeWalksCard : Claim7 := { stood := { row := routeWalksRow, standIns := [], harness := (true, "73784e6d418107e87d503bbc887dfb538a984ccc7b5c0c5f85dfb2de335569ce"), looks := false }, kinds := [], alts := [], laidByText := true, laidKinds := [.data], laidTests := true, laidLooks := .later }
def RouteWalksCardSaid : Prop := Claim7.holds Tryd.pinned (.plain (OpenSpec.ofChange routeWalksSpec)) routeWalksCard

/-- THE TIED CARD OF 'churnlaw08.RouteKeeps'. -/
def routeKeepsCard : Claim7 := { stood := { row := routeKeepsRow, standIns := [], harness := (true, "73784e6d418107e87d503bbc887dfb538a984ccc7b5c0c5f85dfb2de335569ce"), looks := false }, kinds := [], alts := [], laidByText := true, laidKinds := [.data], laidTests := true, laidLooks := .later }
def RouteKeepsCardSaid : Prop := Claim7.holds Tryd.pinned (.plain (OpenSpec.ofChange routeKeepsSpec)) routeKeepsCard

/-- THE TIED CARD OF 'churnlaw08.RouteThrough'. -/
def routeThroughCard : Claim7 := { stood := { row := routeThroughRow, standIns := [], harness := (true, "73784e6d418107e87d503bbc887dfb538a984ccc7b5c0c5f85dfb2de335569ce"), looks := false }, kinds := [], alts := [], laidByText := true, laidKinds := [.data], laidTests := true, laidLooks := .later }
def RouteThroughCardSaid : Prop := Claim7.holds Tryd.pinned (.plain (OpenSpec.ofChange routeThroughSpec)) routeThroughCard

/-- THE SECOND FORM's CARD OF 'churnlaw08.RouteKeys'. -/
def routeKeysUptoCard : Claim7 := { stood := { row := routeKeysUptoRow, standIns := [], harness := (true, "73784e6d418107e87d503bbc887dfb538a984ccc7b5c0c5f85dfb2de335569ce"), looks := false }, kinds := [], alts := [], laidByText := true, laidKinds := [.data], laidTests := true, laidLooks := .later }
def RouteKeysUptoCardSaid : Prop := Claim7.holds Tryd.pinned (.plain (OpenSpec.upto routeKeysSpec)) routeKeysUptoCard

/-- THE SECOND FORM's CARD OF 'churnlaw08.RouteWraps'. -/
def routeWrapsUptoCard : Claim7 := { stood := { row := routeWrapsUptoRow, standIns := [], harness := (true, "73784e6d418107e87d503bbc887dfb538a984ccc7b5c0c5f85dfb2de335569ce"), looks := false }, kinds := [], alts := [], laidByText := true, laidKinds := [.data], laidTests := true, laidLooks := .later }
def RouteWrapsUptoCardSaid : Prop := Claim7.holds Tryd.pinned (.plain (OpenSpec.upto routeWrapsSpec)) routeWrapsUptoCard

/-- THE SECOND FORM's CARD OF 'churnlaw08.RouteRest'. -/
def routeRestUptoCard : Claim7 := { stood := { row := routeRestUptoRow, standIns := [], harness := (true, "73784e6d418107e87d503bbc887dfb538a984ccc7b5c0c5f85dfb2de335569ce"), looks := false }, kinds := [], alts := [], laidByText := true, laidKinds := [.data], laidTests := true, laidLooks := .later }
def RouteRestUptoCardSaid : Prop := Claim7.holds Tryd.pinned (.plain (OpenSpec.upto routeRestSpec)) routeRestUptoCard

/-- THE SECOND FORM's CARD OF 'churnlaw08.RouteWalks'. -/
def routeWalksUptoCard : Claim7 := { stood := { row := routeWalksUptoRow, standIns := [], harness := (true, "73784e6d418107e87d503bbc887dfb538a984ccc7b5c0c5f85dfb2de335569ce"), looks := false }, kinds := [], alts := [], laidByText := true, laidKinds := [.data], laidTests := true, laidLooks := .later }
def RouteWalksUptoCardSaid : Prop := Claim7.holds Tryd.pinned (.plain (OpenSpec.upto routeWalksSpec)) routeWalksUptoCard

/-- THE SECOND FORM's CARD OF 'churnlaw08.RouteKeeps'. -/
def routeKeepsUptoCard : Claim7 := { stood := { row := routeKeepsUptoRow, standIns := [], harness := (true, "73784e6d418107e87d503bbc887dfb538a984ccc7b5c0c5f85dfb2de335569ce"), looks := false }, kinds := [], alts := [], laidByText := true, laidKinds := [.data], laidTests := true, laidLooks := .later }
def RouteKeepsUptoCardSaid : Prop := Claim7.holds Tryd.pinned (.plain (OpenSpec.upto routeKeepsSpec)) routeKeepsUptoCard

/-- THE SECOND FORM's CARD OF 'churnlaw08.RouteThrough'. -/
def routeThroughUptoCard : Claim7 := { stood := { row := routeThroughUptoRow, standIns := [], harness := (true, "73784e6d418107e87d503bbc887dfb538a984ccc7b5c0c5f85dfb2de335569ce"), looks := false }, kinds := [], alts := [], laidByText := true, laidKinds := [.data], laidTests := true, laidLooks := .later }
def RouteThroughUptoCardSaid : Prop := Claim7.holds Tryd.pinned (.plain (OpenSpec.upto routeThroughSpec)) routeThroughUptoCard
end Rows
end Go.Proofs.YtienfecnkglilaaDoor
