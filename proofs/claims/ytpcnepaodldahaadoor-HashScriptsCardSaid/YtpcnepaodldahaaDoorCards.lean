/-
  DERIVED. GIVEN WITH THE SEED: THE CARDS: each row of YtpcnepaodldahaaDoorRows.lean that lists a variable, with what it lists TIED to the program's text (the seventh form; the later family's looks); each row that meets fmt, with fmt's text TOLD by the authors' own Lean function (tested against real Go, not proved from fmt's source: count such statements apart). THE CARD IS WHAT COUNTS. Prove the row's statement (the work); the ties are given (YtpcnepaodldahaaDoorTie.lean); close each card by the builder's one call (the guide's Derived/Test/ToyasCard.lean, 'card_holds'). Laid BY PROGRAM, IN A SANDBOX (cutbox-door.mjs). By AI agents, Wed Nov 11 2026. No macro, syntax, notation, axiom, sorry.
-/
import Derived.Test.YtpcnepaodldahaaDoorRows
import GoSem.ClaimSeven
namespace Go.Proofs.YtpcnepaodldahaaDoor
namespace Rows

/-- THE TIED CARD OF 'churnlaw01.HashExamples'. -/
def hashExamplesCard : Claim7 := { stood := { row := hashExamplesRow, standIns := [], harness := (true, "d9539b9679d15be617690a382d5a3af1e4a4709e719768b2dd3a93cc512f2968"), looks := false }, kinds := [], alts := [], laidByText := true, laidKinds := [.data], laidTests := true, laidLooks := .later }
def HashExamplesCardSaid : Prop := Claim7.holds Tryd.pinned (.plain (OpenSpec.ofChange hashExamplesSpec)) hashExamplesCard

/-- THE TIED CARD OF 'churnlaw01.HashSums'. -/
def hashSumsCard : Claim7 := { stood := { row := hashSumsRow, standIns := [], harness := (true, "d9539b9679d15be617690a382d5a3af1e4a4709e719768b2dd3a93cc512f2968"), looks := false }, kinds := [], alts := [], laidByText := true, laidKinds := [.data], laidTests := true, laidLooks := .later }
def HashSumsCardSaid : Prop := Claim7.holds Tryd.pinned (.plain (OpenSpec.ofChange hashSumsSpec)) hashSumsCard

/-- THE TIED CARD OF 'churnlaw01.HashScripts'. -/
def hashScriptsCard : Claim7 := { stood := { row := hashScriptsRow, standIns := [], harness := (true, "d9539b9679d15be617690a382d5a3af1e4a4709e719768b2dd3a93cc512f2968"), looks := false }, kinds := [], alts := [], laidByText := true, laidKinds := [.data], laidTests := true, laidLooks := .later }
def HashScriptsCardSaid : Prop := Claim7.holds Tryd.pinned (.plain (OpenSpec.ofChange hashScriptsSpec)) hashScriptsCard

/-- THE TIED CARD OF 'churnlaw01.HashPieces'. -/
def hashPiecesCard : Claim7 := { stood := { row := hashPiecesRow, standIns := [], harness := (true, "d9539b9679d15be617690a382d5a3af1e4a4709e719768b2dd3a93cc512f2968"), looks := false }, kinds := [], alts := [], laidByText := true, laidKinds := [.data], laidTests := true, laidLooks := .later }
def HashPiecesCardSaid : Prop := Claim7.holds Tryd.pinned (.plain (OpenSpec.ofChange hashPiecesSpec)) hashPiecesCard

/-- THE SECOND FORM's CARD OF 'churnlaw01.HashExamples'. -/
def hashExamplesUptoCard : Claim7 := { stood := { row := hashExamplesUptoRow, standIns := [], harness := (true, "d9539b9679d15be617690a382d5a3af1e4a4709e719768b2dd3a93cc512f2968"), looks := false }, kinds := [], alts := [], laidByText := true, laidKinds := [.data], laidTests := true, laidLooks := .later }
def HashExamplesUptoCardSaid : Prop := Claim7.holds Tryd.pinned (.plain (OpenSpec.upto hashExamplesSpec)) hashExamplesUptoCard

/-- THE SECOND FORM's CARD OF 'churnlaw01.HashSums'. -/
def hashSumsUptoCard : Claim7 := { stood := { row := hashSumsUptoRow, standIns := [], harness := (true, "d9539b9679d15be617690a382d5a3af1e4a4709e719768b2dd3a93cc512f2968"), looks := false }, kinds := [], alts := [], laidByText := true, laidKinds := [.data], laidTests := true, laidLooks := .later }
def HashSumsUptoCardSaid : Prop := Claim7.holds Tryd.pinned (.plain (OpenSpec.upto hashSumsSpec)) hashSumsUptoCard

/-- THE SECOND FORM's CARD OF 'churnlaw01.HashScripts'. -/
def hashScriptsUptoCard : Claim7 := { stood := { row := hashScriptsUptoRow, standIns := [], harness := (true, "d9539b9679d15be617690a382d5a3af1e4a4709e719768b2dd3a93cc512f2968"), looks := false }, kinds := [], alts := [], laidByText := true, laidKinds := [.data], laidTests := true, laidLooks := .later }
def HashScriptsUptoCardSaid : Prop := Claim7.holds Tryd.pinned (.plain (OpenSpec.upto hashScriptsSpec)) hashScriptsUptoCard

/-- THE SECOND FORM's CARD OF 'churnlaw01.HashPieces'. -/
def hashPiecesUptoCard : Claim7 := { stood := { row := hashPiecesUptoRow, standIns := [], harness := (true, "d9539b9679d15be617690a382d5a3af1e4a4709e719768b2dd3a93cc512f2968"), looks := false }, kinds := [], alts := [], laidByText := true, laidKinds := [.data], laidTests := true, laidLooks := .later }
def HashPiecesUptoCardSaid : Prop := Claim7.holds Tryd.pinned (.plain (OpenSpec.upto hashPiecesSpec)) hashPiecesUptoCard
end Rows
end Go.Proofs.YtpcnepaodldahaaDoor
