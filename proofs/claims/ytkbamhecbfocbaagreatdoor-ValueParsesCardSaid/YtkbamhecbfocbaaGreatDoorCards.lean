/-
  DERIVED. GIVEN WITH THE SEED: THE CARDS: each row of YtkbamhecbfocbaaGreatDoorRows.lean that lists a variable, with what it lists TIED to the program's text (the seventh form; the later family's looks); each row that meets fmt, with fmt's text TOLD by the authors' own Lean function (tested against real Go, not proved from fmt's source: count such statements apart). THE CARD IS WHAT COUNTS. Prove the row's statement (the work); the ties are given (YtkbamhecbfocbaaGreatDoorTie.lean); close each card by the builder's one call (the guide's Derived/Test/ToyasCard.lean, 'card_holds'). Laid BY PROGRAM, IN A SANDBOX (cutbox-door.mjs). By AI agents, Wed Nov 11 2026. No macro, syntax, notation, axiom, sorry.
-/
import Derived.Test.YtkbamhecbfocbaaGreatDoorRows
import GoSem.ClaimSeven
namespace Go.Proofs.YtkbamhecbfocbaaGreatDoor
namespace Rows

/-- THE TIED CARD OF 'tinderboxlaw04.ValueParses'. -/
def valueParsesCard : Claim7 := { stood := { row := valueParsesRow, standIns := [], harness := (true, "68651cf157b8b3105ac6b4a2006a116002d0e036ebb3bfed10baabb621946512"), looks := true }, kinds := [], alts := [], laidByText := true, laidKinds := [.data, .data, .data, .data, .sentinel, .sentinel, .data, .data, .data, .pinned], laidTests := true, laidLooks := .later }
def ValueParsesCardSaid : Prop := Claim7.holds Tryz.pinned (.plain (OpenSpec.ofChange valueParsesSpec)) valueParsesCard

/-- THE TIED CARD OF 'tinderboxlaw04.ValuePrints'. -/
def valuePrintsCard : Claim7 := { stood := { row := valuePrintsRow, standIns := [], harness := (true, "68651cf157b8b3105ac6b4a2006a116002d0e036ebb3bfed10baabb621946512"), looks := true }, kinds := [], alts := [], laidByText := true, laidKinds := [.data, .data, .data, .data, .sentinel, .sentinel, .data, .data, .data, .pinned], laidTests := true, laidLooks := .later }
def ValuePrintsCardSaid : Prop := Claim7.holds Tryz.pinned (.plain (OpenSpec.ofChange valuePrintsSpec)) valuePrintsCard

/-- THE SECOND FORM's CARD OF 'tinderboxlaw04.ValueParses'. -/
def valueParsesUptoCard : Claim7 := { stood := { row := valueParsesUptoRow, standIns := [], harness := (true, "68651cf157b8b3105ac6b4a2006a116002d0e036ebb3bfed10baabb621946512"), looks := true }, kinds := [], alts := [], laidByText := true, laidKinds := [.data, .data, .data, .data, .sentinel, .sentinel, .data, .data, .data, .pinned], laidTests := true, laidLooks := .later }
def ValueParsesUptoCardSaid : Prop := Claim7.holds Tryz.pinned (.plain (OpenSpec.upto valueParsesSpec)) valueParsesUptoCard

/-- THE SECOND FORM's CARD OF 'tinderboxlaw04.ValuePrints'. -/
def valuePrintsUptoCard : Claim7 := { stood := { row := valuePrintsUptoRow, standIns := [], harness := (true, "68651cf157b8b3105ac6b4a2006a116002d0e036ebb3bfed10baabb621946512"), looks := true }, kinds := [], alts := [], laidByText := true, laidKinds := [.data, .data, .data, .data, .sentinel, .sentinel, .data, .data, .data, .pinned], laidTests := true, laidLooks := .later }
def ValuePrintsUptoCardSaid : Prop := Claim7.holds Tryz.pinned (.plain (OpenSpec.upto valuePrintsSpec)) valuePrintsUptoCard
end Rows
end Go.Proofs.YtkbamhecbfocbaaGreatDoor
