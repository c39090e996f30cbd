/-
  DERIVED. GIVEN WITH THE SEED: THE CARDS: each row of YtjmejlncomaclaaDoorRows.lean that lists a variable, with what it lists TIED to the program's text (the seventh form; the later family's looks); each row that meets fmt, with fmt's text TOLD by the authors' own Lean function (tested against real Go, not proved from fmt's source: count such statements apart). THE CARD IS WHAT COUNTS. Prove the row's statement (the work); the ties are given (YtjmejlncomaclaaDoorTie.lean); close each card by the builder's one call (the guide's Derived/Test/ToyasCard.lean, 'card_holds'). Laid BY PROGRAM, IN A SANDBOX (cutbox-door.mjs). By AI agents, Wed Nov 11 2026. No macro, syntax, notation, axiom, sorry.
-/
import Derived.Test.YtjmejlncomaclaaDoorRows
import GoSem.ClaimSeven
namespace Go.Proofs.YtjmejlncomaclaaDoor
namespace Rows

/-- THE TIED CARD OF 'gimletlaw10.LexisPieces'. -/
def lexisPiecesCard : Claim7 := { stood := { row := lexisPiecesRow, standIns := [], harness := (true, "5a2f7b041f576cea41e6718d62a0a599d776a0995d210b0c84a4112884fc12c1"), looks := true }, kinds := [], alts := [], laidByText := true, laidKinds := [.data, .widerDeep, .listed, .data, .pinned], laidTests := true, laidLooks := .later }
def LexisPiecesCardSaid : Prop := Claim7.holds Tryd.pinned (.plain (OpenSpec.ofChange lexisPiecesSpec)) lexisPiecesCard

/-- THE TIED CARD OF 'gimletlaw10.LexisWords'. -/
def lexisWordsCard : Claim7 := { stood := { row := lexisWordsRow, standIns := [], harness := (true, "5a2f7b041f576cea41e6718d62a0a599d776a0995d210b0c84a4112884fc12c1"), looks := true }, kinds := [], alts := [], laidByText := true, laidKinds := [.data, .handle, .widerDeep, .listed, .data, .pinned], laidTests := true, laidLooks := .later }
def LexisWordsCardSaid : Prop := Claim7.holds Tryd.pinned (.plain (OpenSpec.ofChange lexisWordsSpec)) lexisWordsCard

/-- THE TIED CARD OF 'gimletlaw10.LexisPrints'. -/
def lexisPrintsCard : Claim7 := { stood := { row := lexisPrintsRow, standIns := [], harness := (true, "5a2f7b041f576cea41e6718d62a0a599d776a0995d210b0c84a4112884fc12c1"), looks := true }, kinds := [], alts := [], laidByText := true, laidKinds := [.data, .data, .data, .data, .widerDeep, .listed, .data, .pinned], laidTests := true, laidLooks := .later }
def LexisPrintsCardSaid : Prop := Claim7.holds Tryd.pinned (.plain (OpenSpec.ofChange lexisPrintsSpec)) lexisPrintsCard

/-- THE SECOND FORM's CARD OF 'gimletlaw10.LexisPieces'. -/
def lexisPiecesUptoCard : Claim7 := { stood := { row := lexisPiecesUptoRow, standIns := [], harness := (true, "5a2f7b041f576cea41e6718d62a0a599d776a0995d210b0c84a4112884fc12c1"), looks := true }, kinds := [], alts := [], laidByText := true, laidKinds := [.data, .widerDeep, .listed, .data, .pinned], laidTests := true, laidLooks := .later }
def LexisPiecesUptoCardSaid : Prop := Claim7.holds Tryd.pinned (.plain (OpenSpec.upto lexisPiecesSpec)) lexisPiecesUptoCard

/-- THE SECOND FORM's CARD OF 'gimletlaw10.LexisWords'. -/
def lexisWordsUptoCard : Claim7 := { stood := { row := lexisWordsUptoRow, standIns := [], harness := (true, "5a2f7b041f576cea41e6718d62a0a599d776a0995d210b0c84a4112884fc12c1"), looks := true }, kinds := [], alts := [], laidByText := true, laidKinds := [.data, .handle, .widerDeep, .listed, .data, .pinned], laidTests := true, laidLooks := .later }
def LexisWordsUptoCardSaid : Prop := Claim7.holds Tryd.pinned (.plain (OpenSpec.upto lexisWordsSpec)) lexisWordsUptoCard

/-- THE SECOND FORM's CARD OF 'gimletlaw10.LexisPrints'. -/
def lexisPrintsUptoCard : Claim7 := { stood := { row := lexisPrintsUptoRow, standIns := [], harness := (true, "5a2f7b041f576cea41e6718d62a0a599d776a0995d210b0c84a4112884fc12c1"), looks := true }, kinds := [], alts := [], laidByText := true, laidKinds := [.data, .data, .data, .data, .widerDeep, .listed, .data, .pinned], laidTests := true, laidLooks := .later }
def LexisPrintsUptoCardSaid : Prop := Claim7.holds Tryd.pinned (.plain (OpenSpec.upto lexisPrintsSpec)) lexisPrintsUptoCard
end Rows
end Go.Proofs.YtjmejlncomaclaaDoor
