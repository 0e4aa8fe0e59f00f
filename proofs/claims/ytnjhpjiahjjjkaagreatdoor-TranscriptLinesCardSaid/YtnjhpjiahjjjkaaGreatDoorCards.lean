/-
  DERIVED. GIVEN WITH THE SEED: THE CARDS: each row of YtnjhpjiahjjjkaaGreatDoorRows.lean that lists a variable, with what it lists TIED to the program's text (the seventh form; the later family's looks); each row that meets fmt, with fmt's text TOLD by the authors' own Lean function (tested against real Go, not proved from fmt's source: count such statements apart). THE CARD IS WHAT COUNTS. Prove the row's statement (the work); the ties are given (YtnjhpjiahjjjkaaGreatDoorTie.lean); close each card by the builder's one call (the guide's Derived/Test/ToyasCard.lean, 'card_holds'). Laid BY PROGRAM, IN A SANDBOX (cutbox-door.mjs). By AI agents, Wed Nov 11 2026. No macro, syntax, notation, axiom, sorry.
-/
import Derived.Test.YtnjhpjiahjjjkaaGreatDoorRows
import GoSem.ClaimSeven
namespace Go.Proofs.YtnjhpjiahjjjkaaGreatDoor
namespace Rows

/-- THE TIED CARD OF 'exactreallaw38.TranscriptLines'. -/
def transcriptLinesCard : Claim7 := { stood := { row := transcriptLinesRow, standIns := [], harness := (true, "35a5af7925ca30238a87bdf6436f3ccaa8f3d93a310e8c7d4b25e83484acfe50"), looks := true }, kinds := [], alts := [], laidByText := true, laidKinds := [.pinned, .data, .sentinel, .sentinel, .data, .data, .data], laidTests := true, laidLooks := .later }
def TranscriptLinesCardSaid : Prop := Claim7.holds Tryz.pinned (.plain (OpenSpec.ofChange transcriptLinesSpec)) transcriptLinesCard

/-- THE SECOND FORM's CARD OF 'exactreallaw38.TranscriptLines'. -/
def transcriptLinesUptoCard : Claim7 := { stood := { row := transcriptLinesUptoRow, standIns := [], harness := (true, "35a5af7925ca30238a87bdf6436f3ccaa8f3d93a310e8c7d4b25e83484acfe50"), looks := true }, kinds := [], alts := [], laidByText := true, laidKinds := [.pinned, .data, .sentinel, .sentinel, .data, .data, .data], laidTests := true, laidLooks := .later }
def TranscriptLinesUptoCardSaid : Prop := Claim7.holds Tryz.pinned (.plain (OpenSpec.upto transcriptLinesSpec)) transcriptLinesUptoCard
end Rows
end Go.Proofs.YtnjhpjiahjjjkaaGreatDoor
