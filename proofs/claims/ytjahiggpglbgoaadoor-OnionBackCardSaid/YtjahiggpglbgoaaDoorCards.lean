/-
  DERIVED. GIVEN WITH THE SEED: THE CARDS: each row of YtjahiggpglbgoaaDoorRows.lean that lists a variable, with what it lists TIED to the program's text (the seventh form; the later family's looks); each row that meets fmt, with fmt's text TOLD by the authors' own Lean function (tested against real Go, not proved from fmt's source: count such statements apart). THE CARD IS WHAT COUNTS. Prove the row's statement (the work); the ties are given (YtjahiggpglbgoaaDoorTie.lean); close each card by the builder's one call (the guide's Derived/Test/ToyasCard.lean, 'card_holds'). Laid BY PROGRAM, IN A SANDBOX (cutbox-door.mjs). By AI agents, Wed Nov 11 2026. No macro, syntax, notation, axiom, sorry.
-/
import Derived.Test.YtjahiggpglbgoaaDoorRows
import GoSem.ClaimSeven
namespace Go.Proofs.YtjahiggpglbgoaaDoor
namespace Rows

/-- THE TIED CARD OF 'churnlaw07.OnionNames'. -/
def onionNamesCard : Claim7 := { stood := { row := onionNamesRow, standIns := [], harness := (true, "4cef90e92879bf902923c44b6b4d42584fa9ddb1271254efc51585dec52e7b5e"), looks := false }, kinds := [], alts := [], laidByText := true, laidKinds := [.data], laidTests := true, laidLooks := .later }
def OnionNamesCardSaid : Prop := Claim7.holds Tryd.pinned (.plain (OpenSpec.ofChange onionNamesSpec)) onionNamesCard

/-- THE TIED CARD OF 'churnlaw07.OnionDerives'. -/
def onionDerivesCard : Claim7 := { stood := { row := onionDerivesRow, standIns := [], harness := (true, "4cef90e92879bf902923c44b6b4d42584fa9ddb1271254efc51585dec52e7b5e"), looks := false }, kinds := [], alts := [], laidByText := true, laidKinds := [.data], laidTests := true, laidLooks := .later }
def OnionDerivesCardSaid : Prop := Claim7.holds Tryd.pinned (.plain (OpenSpec.ofChange onionDerivesSpec)) onionDerivesCard

/-- THE TIED CARD OF 'churnlaw07.OnionWraps'. -/
def onionWrapsCard : Claim7 := { stood := { row := onionWrapsRow, standIns := [], harness := (true, "4cef90e92879bf902923c44b6b4d42584fa9ddb1271254efc51585dec52e7b5e"), looks := false }, kinds := [], alts := [], laidByText := true, laidKinds := [.data], laidTests := true, laidLooks := .later }
def OnionWrapsCardSaid : Prop := Claim7.holds Tryd.pinned (.plain (OpenSpec.ofChange onionWrapsSpec)) onionWrapsCard

/-- THE TIED CARD OF 'churnlaw07.OnionPeels'. -/
def onionPeelsCard : Claim7 := { stood := { row := onionPeelsRow, standIns := [], harness := (true, "4cef90e92879bf902923c44b6b4d42584fa9ddb1271254efc51585dec52e7b5e"), looks := false }, kinds := [], alts := [], laidByText := true, laidKinds := [.data], laidTests := true, laidLooks := .later }
def OnionPeelsCardSaid : Prop := Claim7.holds Tryd.pinned (.plain (OpenSpec.ofChange onionPeelsSpec)) onionPeelsCard

/-- THE TIED CARD OF 'churnlaw07.OnionBack'. -/
def onionBackCard : Claim7 := { stood := { row := onionBackRow, standIns := [], harness := (true, "4cef90e92879bf902923c44b6b4d42584fa9ddb1271254efc51585dec52e7b5e"), looks := false }, kinds := [], alts := [], laidByText := true, laidKinds := [.data], laidTests := true, laidLooks := .later }
def OnionBackCardSaid : Prop := Claim7.holds Tryd.pinned (.plain (OpenSpec.ofChange onionBackSpec)) onionBackCard

/-- THE TIED CARD OF 'churnlaw07.OnionOne'. -/
def onionOneCard : Claim7 := { stood := { row := onionOneRow, standIns := [], harness := (true, "4cef90e92879bf902923c44b6b4d42584fa9ddb1271254efc51585dec52e7b5e"), looks := false }, kinds := [], alts := [], laidByText := true, laidKinds := [.data], laidTests := true, laidLooks := .later }
def OnionOneCardSaid : Prop := Claim7.holds Tryd.pinned (.plain (OpenSpec.ofChange onionOneSpec)) onionOneCard

/-- THE TIED CARD OF 'churnlaw07.OnionKeeps'. -/
def onionKeepsCard : Claim7 := { stood := { row := onionKeepsRow, standIns := [], harness := (true, "4cef90e92879bf902923c44b6b4d42584fa9ddb1271254efc51585dec52e7b5e"), looks := false }, kinds := [], alts := [], laidByText := true, laidKinds := [.data], laidTests := true, laidLooks := .later }
def OnionKeepsCardSaid : Prop := Claim7.holds Tryd.pinned (.plain (OpenSpec.ofChange onionKeepsSpec)) onionKeepsCard

/-- THE SECOND FORM's CARD OF 'churnlaw07.OnionNames'. -/
def onionNamesUptoCard : Claim7 := { stood := { row := onionNamesUptoRow, standIns := [], harness := (true, "4cef90e92879bf902923c44b6b4d42584fa9ddb1271254efc51585dec52e7b5e"), looks := false }, kinds := [], alts := [], laidByText := true, laidKinds := [.data], laidTests := true, laidLooks := .later }
def OnionNamesUptoCardSaid : Prop := Claim7.holds Tryd.pinned (.plain (OpenSpec.upto onionNamesSpec)) onionNamesUptoCard

/-- THE SECOND FORM's CARD OF 'churnlaw07.OnionDerives'. -/
def onionDerivesUptoCard : Claim7 := { stood := { row := onionDerivesUptoRow, standIns := [], harness := (true, "4cef90e92879bf902923c44b6b4d42584fa9ddb1271254efc51585dec52e7b5e"), looks := false }, kinds := [], alts := [], laidByText := true, laidKinds := [.data], laidTests := true, laidLooks := .later }
def OnionDerivesUptoCardSaid : Prop := Claim7.holds Tryd.pinned (.plain (OpenSpec.upto onionDerivesSpec)) onionDerivesUptoCard

/-- THE SECOND FORM's CARD OF 'churnlaw07.OnionWraps'. -/
def onionWrapsUptoCard : Claim7 := { stood := { row := onionWrapsUptoRow, standIns := [], harness := (true, "4cef90e92879bf902923c44b6b4d42584fa9ddb1271254efc51585dec52e7b5e"), looks := false }, kinds := [], alts := [], laidByText := true, laidKinds := [.data], laidTests := true, laidLooks := .later }
def OnionWrapsUptoCardSaid : Prop := Claim7.holds Tryd.pinned (.plain (OpenSpec.upto onionWrapsSpec)) onionWrapsUptoCard

/-- THE SECOND FORM's CARD OF 'churnlaw07.OnionPeels'. -/
def onionPeelsUptoCard : Claim7 := { stood := { row := onionPeelsUptoRow, standIns := [], harness := (true, "4cef90e92879bf902923c44b6b4d42584fa9ddb1271254efc51585dec52e7b5e"), looks := false }, kinds := [], alts := [], laidByText := true, laidKinds := [.data], laidTests := true, laidLooks := .later }
def OnionPeelsUptoCardSaid : Prop := Claim7.holds Tryd.pinned (.plain (OpenSpec.upto onionPeelsSpec)) onionPeelsUptoCard

/-- THE SECOND FORM's CARD OF 'churnlaw07.OnionBack'. -/
def onionBackUptoCard : Claim7 := { stood := { row := onionBackUptoRow, standIns := [], harness := (true, "4cef90e92879bf902923c44b6b4d42584fa9ddb1271254efc51585dec52e7b5e"), looks := false }, kinds := [], alts := [], laidByText := true, laidKinds := [.data], laidTests := true, laidLooks := .later }
def OnionBackUptoCardSaid : Prop := Claim7.holds Tryd.pinned (.plain (OpenSpec.upto onionBackSpec)) onionBackUptoCard

/-- THE SECOND FORM's CARD OF 'churnlaw07.OnionOne'. -/
def onionOneUptoCard : Claim7 := { stood := { row := onionOneUptoRow, standIns := [], harness := (true, "4cef90e92879bf902923c44b6b4d42584fa9ddb1271254efc51585dec52e7b5e"), looks := false }, kinds := [], alts := [], laidByText := true, laidKinds := [.data], laidTests := true, laidLooks := .later }
def OnionOneUptoCardSaid : Prop := Claim7.holds Tryd.pinned (.plain (OpenSpec.upto onionOneSpec)) onionOneUptoCard

/-- THE SECOND FORM's CARD OF 'churnlaw07.OnionKeeps'. -/
def onionKeepsUptoCard : Claim7 := { stood := { row := onionKeepsUptoRow, standIns := [], harness := (true, "4cef90e92879bf902923c44b6b4d42584fa9ddb1271254efc51585dec52e7b5e"), looks := false }, kinds := [], alts := [], laidByText := true, laidKinds := [.data], laidTests := true, laidLooks := .later }
def OnionKeepsUptoCardSaid : Prop := Claim7.holds Tryd.pinned (.plain (OpenSpec.upto onionKeepsSpec)) onionKeepsUptoCard
end Rows
end Go.Proofs.YtjahiggpglbgoaaDoor
