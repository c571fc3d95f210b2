/-
  DERIVED. GIVEN WITH THE SEED: THE CARDS: each row of YtbjgfjmknnbahaaGreatDoorRows.lean that lists a variable, with what it lists TIED to the program's text (the seventh form; the later family's looks); each row that meets fmt, with fmt's text TOLD by the authors' own Lean function (tested against real Go, not proved from fmt's source: count such statements apart). THE CARD IS WHAT COUNTS. Prove the row's statement (the work); the ties are given (YtbjgfjmknnbahaaGreatDoorTie.lean); close each card by the builder's one call (the guide's Derived/Test/ToyasCard.lean, 'card_holds'). Laid BY PROGRAM, IN A SANDBOX (cutbox-door.mjs). By AI agents, Wed Nov 11 2026. No macro, syntax, notation, axiom, sorry.
-/
import Derived.Test.YtbjgfjmknnbahaaGreatDoorRows
import GoSem.ClaimSeven
namespace Go.Proofs.YtbjgfjmknnbahaaGreatDoor
namespace Rows

/-- THE TIED CARD OF 'rebuslaw16.ClueReads'. -/
def clueReadsCard : Claim7 := { stood := { row := clueReadsRow, standIns := [], harness := (true, "93a9dccd9b255901cb62cd942cec371191cc1c9dfba88f8ee93cd3f50a8026a3"), looks := true }, kinds := [], alts := [], laidByText := true, laidKinds := [.data, .data, .data, .data, .sentinel, .sentinel, .pinned], laidTests := true, laidLooks := .later }
def ClueReadsCardSaid : Prop := Claim7.holds Tryz.pinned (.plain (OpenSpec.ofChange clueReadsSpec)) clueReadsCard

/-- THE TIED CARD OF 'rebuslaw16.ClueCuts'. -/
def clueCutsCard : Claim7 := { stood := { row := clueCutsRow, standIns := [], harness := (true, "93a9dccd9b255901cb62cd942cec371191cc1c9dfba88f8ee93cd3f50a8026a3"), looks := true }, kinds := [], alts := [], laidByText := true, laidKinds := [.data, .data, .data, .data, .sentinel, .sentinel, .pinned], laidTests := true, laidLooks := .later }
def ClueCutsCardSaid : Prop := Claim7.holds Tryz.pinned (.plain (OpenSpec.ofChange clueCutsSpec)) clueCutsCard

/-- THE TIED CARD OF 'rebuslaw16.CluePhrases'. -/
def cluePhrasesCard : Claim7 := { stood := { row := cluePhrasesRow, standIns := [], harness := (true, "93a9dccd9b255901cb62cd942cec371191cc1c9dfba88f8ee93cd3f50a8026a3"), looks := true }, kinds := [], alts := [], laidByText := true, laidKinds := [.data, .data, .data, .data, .sentinel, .sentinel, .pinned], laidTests := true, laidLooks := .later }
def CluePhrasesCardSaid : Prop := Claim7.holds Tryz.pinned (.plain (OpenSpec.ofChange cluePhrasesSpec)) cluePhrasesCard

/-- THE TIED CARD OF 'rebuslaw16.ClueWrites'. -/
def clueWritesCard : Claim7 := { stood := { row := clueWritesRow, standIns := [], harness := (true, "93a9dccd9b255901cb62cd942cec371191cc1c9dfba88f8ee93cd3f50a8026a3"), looks := true }, kinds := [], alts := [], laidByText := true, laidKinds := [.data, .data, .data, .data, .sentinel, .sentinel, .pinned], laidTests := true, laidLooks := .later }
def ClueWritesCardSaid : Prop := Claim7.holds Tryz.pinned (.plain (OpenSpec.ofChange clueWritesSpec)) clueWritesCard

/-- THE SECOND FORM's CARD OF 'rebuslaw16.ClueReads'. -/
def clueReadsUptoCard : Claim7 := { stood := { row := clueReadsUptoRow, standIns := [], harness := (true, "93a9dccd9b255901cb62cd942cec371191cc1c9dfba88f8ee93cd3f50a8026a3"), looks := true }, kinds := [], alts := [], laidByText := true, laidKinds := [.data, .data, .data, .data, .sentinel, .sentinel, .pinned], laidTests := true, laidLooks := .later }
def ClueReadsUptoCardSaid : Prop := Claim7.holds Tryz.pinned (.plain (OpenSpec.upto clueReadsSpec)) clueReadsUptoCard

/-- THE SECOND FORM's CARD OF 'rebuslaw16.ClueCuts'. -/
def clueCutsUptoCard : Claim7 := { stood := { row := clueCutsUptoRow, standIns := [], harness := (true, "93a9dccd9b255901cb62cd942cec371191cc1c9dfba88f8ee93cd3f50a8026a3"), looks := true }, kinds := [], alts := [], laidByText := true, laidKinds := [.data, .data, .data, .data, .sentinel, .sentinel, .pinned], laidTests := true, laidLooks := .later }
def ClueCutsUptoCardSaid : Prop := Claim7.holds Tryz.pinned (.plain (OpenSpec.upto clueCutsSpec)) clueCutsUptoCard

/-- THE SECOND FORM's CARD OF 'rebuslaw16.CluePhrases'. -/
def cluePhrasesUptoCard : Claim7 := { stood := { row := cluePhrasesUptoRow, standIns := [], harness := (true, "93a9dccd9b255901cb62cd942cec371191cc1c9dfba88f8ee93cd3f50a8026a3"), looks := true }, kinds := [], alts := [], laidByText := true, laidKinds := [.data, .data, .data, .data, .sentinel, .sentinel, .pinned], laidTests := true, laidLooks := .later }
def CluePhrasesUptoCardSaid : Prop := Claim7.holds Tryz.pinned (.plain (OpenSpec.upto cluePhrasesSpec)) cluePhrasesUptoCard

/-- THE SECOND FORM's CARD OF 'rebuslaw16.ClueWrites'. -/
def clueWritesUptoCard : Claim7 := { stood := { row := clueWritesUptoRow, standIns := [], harness := (true, "93a9dccd9b255901cb62cd942cec371191cc1c9dfba88f8ee93cd3f50a8026a3"), looks := true }, kinds := [], alts := [], laidByText := true, laidKinds := [.data, .data, .data, .data, .sentinel, .sentinel, .pinned], laidTests := true, laidLooks := .later }
def ClueWritesUptoCardSaid : Prop := Claim7.holds Tryz.pinned (.plain (OpenSpec.upto clueWritesSpec)) clueWritesUptoCard
end Rows
end Go.Proofs.YtbjgfjmknnbahaaGreatDoor
