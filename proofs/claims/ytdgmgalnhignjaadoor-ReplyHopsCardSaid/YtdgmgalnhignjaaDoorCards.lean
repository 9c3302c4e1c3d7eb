/-
  DERIVED. GIVEN WITH THE SEED: THE CARDS: each row of YtdgmgalnhignjaaDoorRows.lean that lists a variable, with what it lists TIED to the program's text (the seventh form; the later family's looks); each row that meets fmt, with fmt's text TOLD by the authors' own Lean function (tested against real Go, not proved from fmt's source: count such statements apart). THE CARD IS WHAT COUNTS. Prove the row's statement (the work); the ties are given (YtdgmgalnhignjaaDoorTie.lean); close each card by the builder's one call (the guide's Derived/Test/ToyasCard.lean, 'card_holds'). Laid BY PROGRAM, IN A SANDBOX (cutbox-door.mjs). By AI agents, Wed Nov 11 2026. No macro, syntax, notation, axiom, sorry.
-/
import Derived.Test.YtdgmgalnhignjaaDoorRows
import GoSem.ClaimSeven
namespace Go.Proofs.YtdgmgalnhignjaaDoor
namespace Rows

/-- THE TIED CARD OF 'churnlaw27.ReplyWraps'. -/
def replyWrapsCard : Claim7 := { stood := { row := replyWrapsRow, standIns := [], harness := (true, "7b0ef33b9d9833bcd4b54ad9385f5dc07b3271661c21c418251b54115f3f0141"), looks := false }, kinds := [], alts := [], laidByText := true, laidKinds := [.data], laidTests := true, laidLooks := .later }
def ReplyWrapsCardSaid : Prop := Claim7.holds Tryd.pinned (.plain (OpenSpec.ofChange replyWrapsSpec)) replyWrapsCard

/-- THE TIED CARD OF 'churnlaw27.ReplyChains'. -/
def replyChainsCard : Claim7 := { stood := { row := replyChainsRow, standIns := [], harness := (true, "7b0ef33b9d9833bcd4b54ad9385f5dc07b3271661c21c418251b54115f3f0141"), looks := false }, kinds := [], alts := [], laidByText := true, laidKinds := [.data], laidTests := true, laidLooks := .later }
def ReplyChainsCardSaid : Prop := Claim7.holds Tryd.pinned (.plain (OpenSpec.ofChange replyChainsSpec)) replyChainsCard

/-- THE TIED CARD OF 'churnlaw27.ReplyOpens'. -/
def replyOpensCard : Claim7 := { stood := { row := replyOpensRow, standIns := [], harness := (true, "7b0ef33b9d9833bcd4b54ad9385f5dc07b3271661c21c418251b54115f3f0141"), looks := false }, kinds := [], alts := [], laidByText := true, laidKinds := [.data], laidTests := true, laidLooks := .later }
def ReplyOpensCardSaid : Prop := Claim7.holds Tryd.pinned (.plain (OpenSpec.ofChange replyOpensSpec)) replyOpensCard

/-- THE TIED CARD OF 'churnlaw27.ReplyBack'. -/
def replyBackCard : Claim7 := { stood := { row := replyBackRow, standIns := [], harness := (true, "7b0ef33b9d9833bcd4b54ad9385f5dc07b3271661c21c418251b54115f3f0141"), looks := false }, kinds := [], alts := [], laidByText := true, laidKinds := [.data], laidTests := true, laidLooks := .later }
def ReplyBackCardSaid : Prop := Claim7.holds Tryd.pinned (.plain (OpenSpec.ofChange replyBackSpec)) replyBackCard

/-- THE TIED CARD OF 'churnlaw27.ReplyKeeps'. -/
def replyKeepsCard : Claim7 := { stood := { row := replyKeepsRow, standIns := [], harness := (true, "7b0ef33b9d9833bcd4b54ad9385f5dc07b3271661c21c418251b54115f3f0141"), looks := false }, kinds := [], alts := [], laidByText := true, laidKinds := [.data], laidTests := true, laidLooks := .later }
def ReplyKeepsCardSaid : Prop := Claim7.holds Tryd.pinned (.plain (OpenSpec.ofChange replyKeepsSpec)) replyKeepsCard

/-- THE TIED CARD OF 'churnlaw27.ReplyHops'. -/
def replyHopsCard : Claim7 := { stood := { row := replyHopsRow, standIns := [], harness := (true, "7b0ef33b9d9833bcd4b54ad9385f5dc07b3271661c21c418251b54115f3f0141"), looks := false }, kinds := [], alts := [], laidByText := true, laidKinds := [.data], laidTests := true, laidLooks := .later }
def ReplyHopsCardSaid : Prop := Claim7.holds Tryd.pinned (.plain (OpenSpec.ofChange replyHopsSpec)) replyHopsCard

/-- THE SECOND FORM's CARD OF 'churnlaw27.ReplyWraps'. -/
def replyWrapsUptoCard : Claim7 := { stood := { row := replyWrapsUptoRow, standIns := [], harness := (true, "7b0ef33b9d9833bcd4b54ad9385f5dc07b3271661c21c418251b54115f3f0141"), looks := false }, kinds := [], alts := [], laidByText := true, laidKinds := [.data], laidTests := true, laidLooks := .later }
def ReplyWrapsUptoCardSaid : Prop := Claim7.holds Tryd.pinned (.plain (OpenSpec.upto replyWrapsSpec)) replyWrapsUptoCard

/-- THE SECOND FORM's CARD OF 'churnlaw27.ReplyChains'. -/
def replyChainsUptoCard : Claim7 := { stood := { row := replyChainsUptoRow, standIns := [], harness := (true, "7b0ef33b9d9833bcd4b54ad9385f5dc07b3271661c21c418251b54115f3f0141"), looks := false }, kinds := [], alts := [], laidByText := true, laidKinds := [.data], laidTests := true, laidLooks := .later }
def ReplyChainsUptoCardSaid : Prop := Claim7.holds Tryd.pinned (.plain (OpenSpec.upto replyChainsSpec)) replyChainsUptoCard

/-- THE SECOND FORM's CARD OF 'churnlaw27.ReplyOpens'. -/
def replyOpensUptoCard : Claim7 := { stood := { row := replyOpensUptoRow, standIns := [], harness := (true, "7b0ef33b9d9833bcd4b54ad9385f5dc07b3271661c21c418251b54115f3f0141"), looks := false }, kinds := [], alts := [], laidByText := true, laidKinds := [.data], laidTests := true, laidLooks := .later }
def ReplyOpensUptoCardSaid : Prop := Claim7.holds Tryd.pinned (.plain (OpenSpec.upto replyOpensSpec)) replyOpensUptoCard

/-- THE SECOND FORM's CARD OF 'churnlaw27.ReplyBack'. -/
def replyBackUptoCard : Claim7 := { stood := { row := replyBackUptoRow, standIns := [], harness := (true, "7b0ef33b9d9833bcd4b54ad9385f5dc07b3271661c21c418251b54115f3f0141"), looks := false }, kinds := [], alts := [], laidByText := true, laidKinds := [.data], laidTests := true, laidLooks := .later }
def ReplyBackUptoCardSaid : Prop := Claim7.holds Tryd.pinned (.plain (OpenSpec.upto replyBackSpec)) replyBackUptoCard

/-- THE SECOND FORM's CARD OF 'churnlaw27.ReplyKeeps'. -/
def replyKeepsUptoCard : Claim7 := { stood := { row := replyKeepsUptoRow, standIns := [], harness := (true, "7b0ef33b9d9833bcd4b54ad9385f5dc07b3271661c21c418251b54115f3f0141"), looks := false }, kinds := [], alts := [], laidByText := true, laidKinds := [.data], laidTests := true, laidLooks := .later }
def ReplyKeepsUptoCardSaid : Prop := Claim7.holds Tryd.pinned (.plain (OpenSpec.upto replyKeepsSpec)) replyKeepsUptoCard

/-- THE SECOND FORM's CARD OF 'churnlaw27.ReplyHops'. -/
def replyHopsUptoCard : Claim7 := { stood := { row := replyHopsUptoRow, standIns := [], harness := (true, "7b0ef33b9d9833bcd4b54ad9385f5dc07b3271661c21c418251b54115f3f0141"), looks := false }, kinds := [], alts := [], laidByText := true, laidKinds := [.data], laidTests := true, laidLooks := .later }
def ReplyHopsUptoCardSaid : Prop := Claim7.holds Tryd.pinned (.plain (OpenSpec.upto replyHopsSpec)) replyHopsUptoCard
end Rows
end Go.Proofs.YtdgmgalnhignjaaDoor
