/-
  DERIVED. GIVEN WITH THE SEED: THE CARDS: each row of YtikaebpbiojjfaaDoorRows.lean that lists a variable, with what it lists TIED to the program's text (the seventh form; the later family's looks); each row that meets fmt, with fmt's text TOLD by the authors' own Lean function (tested against real Go, not proved from fmt's source: count such statements apart). THE CARD IS WHAT COUNTS. Prove the row's statement (the work); the ties are given (YtikaebpbiojjfaaDoorTie.lean); close each card by the builder's one call (the guide's Derived/Test/ToyasCard.lean, 'card_holds'). Laid BY PROGRAM, IN A SANDBOX (cutbox-door.mjs). By AI agents, Wed Nov 11 2026. No macro, syntax, notation, axiom, sorry.
-/
import Derived.Test.YtikaebpbiojjfaaDoorRows
import GoSem.ClaimSeven
namespace Go.Proofs.YtikaebpbiojjfaaDoor
namespace Rows

/-- THE TIED CARD OF 'mothballlaw29.TextLines'. -/
def textLinesCard : Claim7 := { stood := { row := textLinesRow, standIns := [], harness := (true, "eb17d87d93ac7a5f44f3b7d62379df38dc77b87deb8a8b19a980851095a70943"), looks := true }, kinds := [], alts := [], laidByText := true, laidKinds := [.data, .data, .data, .data], laidTests := true, laidLooks := .later }
def TextLinesCardSaid : Prop := Claim7.holds Tryd.pinned (.plain (OpenSpec.ofChange textLinesSpec)) textLinesCard

/-- THE TIED CARD OF 'mothballlaw29.TextTells'. -/
def textTellsCard : Claim7 := { stood := { row := textTellsRow, standIns := [], harness := (true, "eb17d87d93ac7a5f44f3b7d62379df38dc77b87deb8a8b19a980851095a70943"), looks := true }, kinds := [], alts := [], laidByText := true, laidKinds := [.data, .data, .data, .data, .sentinel, .sentinel, .data, .pinned], laidTests := true, laidLooks := .later }
def TextTellsCardSaid : Prop := Claim7.holds Tryd.pinned (.plain (OpenSpec.ofChange textTellsSpec)) textTellsCard

/-- THE TIED CARD OF 'mothballlaw29.TextPrints'. -/
def textPrintsCard : Claim7 := { stood := { row := textPrintsRow, standIns := [], harness := (true, "eb17d87d93ac7a5f44f3b7d62379df38dc77b87deb8a8b19a980851095a70943"), looks := true }, kinds := [], alts := [], laidByText := true, laidKinds := [.data, .data, .data, .data, .sentinel, .sentinel, .data, .pinned], laidTests := true, laidLooks := .later }
def TextPrintsCardSaid : Prop := Claim7.holds Tryd.pinned (.plain (OpenSpec.ofChange textPrintsSpec)) textPrintsCard

/-- THE TIED CARD OF 'mothballlaw29.TextParses'. -/
def textParsesCard : Claim7 := { stood := { row := textParsesRow, standIns := [], harness := (true, "eb17d87d93ac7a5f44f3b7d62379df38dc77b87deb8a8b19a980851095a70943"), looks := true }, kinds := [], alts := [], laidByText := true, laidKinds := [.data, .data, .data, .data, .sentinel, .sentinel, .data, .pinned], laidTests := true, laidLooks := .later }
def TextParsesCardSaid : Prop := Claim7.holds Tryd.pinned (.plain (OpenSpec.ofChange textParsesSpec)) textParsesCard

/-- THE SECOND FORM's CARD OF 'mothballlaw29.TextLines'. -/
def textLinesUptoCard : Claim7 := { stood := { row := textLinesUptoRow, standIns := [], harness := (true, "eb17d87d93ac7a5f44f3b7d62379df38dc77b87deb8a8b19a980851095a70943"), looks := true }, kinds := [], alts := [], laidByText := true, laidKinds := [.data, .data, .data, .data], laidTests := true, laidLooks := .later }
def TextLinesUptoCardSaid : Prop := Claim7.holds Tryd.pinned (.plain (OpenSpec.upto textLinesSpec)) textLinesUptoCard

/-- THE SECOND FORM's CARD OF 'mothballlaw29.TextTells'. -/
def textTellsUptoCard : Claim7 := { stood := { row := textTellsUptoRow, standIns := [], harness := (true, "eb17d87d93ac7a5f44f3b7d62379df38dc77b87deb8a8b19a980851095a70943"), looks := true }, kinds := [], alts := [], laidByText := true, laidKinds := [.data, .data, .data, .data, .sentinel, .sentinel, .data, .pinned], laidTests := true, laidLooks := .later }
def TextTellsUptoCardSaid : Prop := Claim7.holds Tryd.pinned (.plain (OpenSpec.upto textTellsSpec)) textTellsUptoCard

/-- THE SECOND FORM's CARD OF 'mothballlaw29.TextPrints'. -/
def textPrintsUptoCard : Claim7 := { stood := { row := textPrintsUptoRow, standIns := [], harness := (true, "eb17d87d93ac7a5f44f3b7d62379df38dc77b87deb8a8b19a980851095a70943"), looks := true }, kinds := [], alts := [], laidByText := true, laidKinds := [.data, .data, .data, .data, .sentinel, .sentinel, .data, .pinned], laidTests := true, laidLooks := .later }
def TextPrintsUptoCardSaid : Prop := Claim7.holds Tryd.pinned (.plain (OpenSpec.upto textPrintsSpec)) textPrintsUptoCard

/-- THE SECOND FORM's CARD OF 'mothballlaw29.TextParses'. -/
def textParsesUptoCard : Claim7 := { stood := { row := textParsesUptoRow, standIns := [], harness := (true, "eb17d87d93ac7a5f44f3b7d62379df38dc77b87deb8a8b19a980851095a70943"), looks := true }, kinds := [], alts := [], laidByText := true, laidKinds := [.data, .data, .data, .data, .sentinel, .sentinel, .data, .pinned], laidTests := true, laidLooks := .later }
def TextParsesUptoCardSaid : Prop := Claim7.holds Tryd.pinned (.plain (OpenSpec.upto textParsesSpec)) textParsesUptoCard
end Rows
end Go.Proofs.YtikaebpbiojjfaaDoor
