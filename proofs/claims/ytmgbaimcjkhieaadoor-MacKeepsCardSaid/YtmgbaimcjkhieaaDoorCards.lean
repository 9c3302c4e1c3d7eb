/-
  DERIVED. GIVEN WITH THE SEED: THE CARDS: each row of YtmgbaimcjkhieaaDoorRows.lean that lists a variable, with what it lists TIED to the program's text (the seventh form; the later family's looks); each row that meets fmt, with fmt's text TOLD by the authors' own Lean function (tested against real Go, not proved from fmt's source: count such statements apart). THE CARD IS WHAT COUNTS. Prove the row's statement (the work); the ties are given (YtmgbaimcjkhieaaDoorTie.lean); close each card by the builder's one call (the guide's Derived/Test/ToyasCard.lean, 'card_holds'). Laid BY PROGRAM, IN A SANDBOX (cutbox-door.mjs). By AI agents, Wed Nov 11 2026. No macro, syntax, notation, axiom, sorry.
-/
import Derived.Test.YtmgbaimcjkhieaaDoorRows
import GoSem.ClaimSeven
namespace Go.Proofs.YtmgbaimcjkhieaaDoor
namespace Rows

/-- THE TIED CARD OF 'churnlaw02.MacNested'. -/
def macNestedCard : Claim7 := { stood := { row := macNestedRow, standIns := [], harness := (true, "795d7cb2b08ef3df68897e01bd8fed4ed6ca1050ac8d3fc4598f7a4930cf8945"), looks := false }, kinds := [], alts := [], laidByText := true, laidKinds := [.data], laidTests := true, laidLooks := .later }
def MacNestedCardSaid : Prop := Claim7.holds Tryd.pinned (.plain (OpenSpec.ofChange macNestedSpec)) macNestedCard

/-- THE TIED CARD OF 'churnlaw02.MacTags'. -/
def macTagsCard : Claim7 := { stood := { row := macTagsRow, standIns := [], harness := (true, "795d7cb2b08ef3df68897e01bd8fed4ed6ca1050ac8d3fc4598f7a4930cf8945"), looks := false }, kinds := [], alts := [], laidByText := true, laidKinds := [.data], laidTests := true, laidLooks := .later }
def MacTagsCardSaid : Prop := Claim7.holds Tryd.pinned (.plain (OpenSpec.ofChange macTagsSpec)) macTagsCard

/-- THE TIED CARD OF 'churnlaw02.MacExpands'. -/
def macExpandsCard : Claim7 := { stood := { row := macExpandsRow, standIns := [], harness := (true, "795d7cb2b08ef3df68897e01bd8fed4ed6ca1050ac8d3fc4598f7a4930cf8945"), looks := false }, kinds := [], alts := [], laidByText := true, laidKinds := [.data], laidTests := true, laidLooks := .later }
def MacExpandsCardSaid : Prop := Claim7.holds Tryd.pinned (.plain (OpenSpec.ofChange macExpandsSpec)) macExpandsCard

/-- THE TIED CARD OF 'churnlaw02.MacPrefix'. -/
def macPrefixCard : Claim7 := { stood := { row := macPrefixRow, standIns := [], harness := (true, "795d7cb2b08ef3df68897e01bd8fed4ed6ca1050ac8d3fc4598f7a4930cf8945"), looks := false }, kinds := [], alts := [], laidByText := true, laidKinds := [.data], laidTests := true, laidLooks := .later }
def MacPrefixCardSaid : Prop := Claim7.holds Tryd.pinned (.plain (OpenSpec.ofChange macPrefixSpec)) macPrefixCard

/-- THE TIED CARD OF 'churnlaw02.MacDerives'. -/
def macDerivesCard : Claim7 := { stood := { row := macDerivesRow, standIns := [], harness := (true, "795d7cb2b08ef3df68897e01bd8fed4ed6ca1050ac8d3fc4598f7a4930cf8945"), looks := false }, kinds := [], alts := [], laidByText := true, laidKinds := [.data], laidTests := true, laidLooks := .later }
def MacDerivesCardSaid : Prop := Claim7.holds Tryd.pinned (.plain (OpenSpec.ofChange macDerivesSpec)) macDerivesCard

/-- THE TIED CARD OF 'churnlaw02.MacKeeps'. -/
def macKeepsCard : Claim7 := { stood := { row := macKeepsRow, standIns := [], harness := (true, "795d7cb2b08ef3df68897e01bd8fed4ed6ca1050ac8d3fc4598f7a4930cf8945"), looks := false }, kinds := [], alts := [], laidByText := true, laidKinds := [.data], laidTests := true, laidLooks := .later }
def MacKeepsCardSaid : Prop := Claim7.holds Tryd.pinned (.plain (OpenSpec.ofChange macKeepsSpec)) macKeepsCard

/-- THE SECOND FORM's CARD OF 'churnlaw02.MacNested'. -/
def macNestedUptoCard : Claim7 := { stood := { row := macNestedUptoRow, standIns := [], harness := (true, "795d7cb2b08ef3df68897e01bd8fed4ed6ca1050ac8d3fc4598f7a4930cf8945"), looks := false }, kinds := [], alts := [], laidByText := true, laidKinds := [.data], laidTests := true, laidLooks := .later }
def MacNestedUptoCardSaid : Prop := Claim7.holds Tryd.pinned (.plain (OpenSpec.upto macNestedSpec)) macNestedUptoCard

/-- THE SECOND FORM's CARD OF 'churnlaw02.MacTags'. -/
def macTagsUptoCard : Claim7 := { stood := { row := macTagsUptoRow, standIns := [], harness := (true, "795d7cb2b08ef3df68897e01bd8fed4ed6ca1050ac8d3fc4598f7a4930cf8945"), looks := false }, kinds := [], alts := [], laidByText := true, laidKinds := [.data], laidTests := true, laidLooks := .later }
def MacTagsUptoCardSaid : Prop := Claim7.holds Tryd.pinned (.plain (OpenSpec.upto macTagsSpec)) macTagsUptoCard

/-- THE SECOND FORM's CARD OF 'churnlaw02.MacExpands'. -/
def macExpandsUptoCard : Claim7 := { stood := { row := macExpandsUptoRow, standIns := [], harness := (true, "795d7cb2b08ef3df68897e01bd8fed4ed6ca1050ac8d3fc4598f7a4930cf8945"), looks := false }, kinds := [], alts := [], laidByText := true, laidKinds := [.data], laidTests := true, laidLooks := .later }
def MacExpandsUptoCardSaid : Prop := Claim7.holds Tryd.pinned (.plain (OpenSpec.upto macExpandsSpec)) macExpandsUptoCard

/-- THE SECOND FORM's CARD OF 'churnlaw02.MacPrefix'. -/
def macPrefixUptoCard : Claim7 := { stood := { row := macPrefixUptoRow, standIns := [], harness := (true, "795d7cb2b08ef3df68897e01bd8fed4ed6ca1050ac8d3fc4598f7a4930cf8945"), looks := false }, kinds := [], alts := [], laidByText := true, laidKinds := [.data], laidTests := true, laidLooks := .later }
def MacPrefixUptoCardSaid : Prop := Claim7.holds Tryd.pinned (.plain (OpenSpec.upto macPrefixSpec)) macPrefixUptoCard

/-- THE SECOND FORM's CARD OF 'churnlaw02.MacDerives'. -/
def macDerivesUptoCard : Claim7 := { stood := { row := macDerivesUptoRow, standIns := [], harness := (true, "795d7cb2b08ef3df68897e01bd8fed4ed6ca1050ac8d3fc4598f7a4930cf8945"), looks := false }, kinds := [], alts := [], laidByText := true, laidKinds := [.data], laidTests := true, laidLooks := .later }
def MacDerivesUptoCardSaid : Prop := Claim7.holds Tryd.pinned (.plain (OpenSpec.upto macDerivesSpec)) macDerivesUptoCard

/-- THE SECOND FORM's CARD OF 'churnlaw02.MacKeeps'. -/
def macKeepsUptoCard : Claim7 := { stood := { row := macKeepsUptoRow, standIns := [], harness := (true, "795d7cb2b08ef3df68897e01bd8fed4ed6ca1050ac8d3fc4598f7a4930cf8945"), looks := false }, kinds := [], alts := [], laidByText := true, laidKinds := [.data], laidTests := true, laidLooks := .later }
def MacKeepsUptoCardSaid : Prop := Claim7.holds Tryd.pinned (.plain (OpenSpec.upto macKeepsSpec)) macKeepsUptoCard
end Rows
end Go.Proofs.YtmgbaimcjkhieaaDoor
