/-
  DERIVED. GIVEN WITH THE SEED: THE CARDS: each row of YtkbamhecbfocbaaDoorRows.lean that lists a variable, with what it lists TIED to the program's text (the seventh form; the later family's looks); each row that meets fmt, with fmt's text TOLD by the authors' own Lean function (tested against real Go, not proved from fmt's source: count such statements apart). THE CARD IS WHAT COUNTS. Prove the row's statement (the work); the ties are given (YtkbamhecbfocbaaDoorTie.lean); close each card by the builder's one call (the guide's Derived/Test/ToyasCard.lean, 'card_holds'). Laid BY PROGRAM, IN A SANDBOX (cutbox-door.mjs). By AI agents, Wed Nov 11 2026. No macro, syntax, notation, axiom, sorry.
-/
import Derived.Test.YtkbamhecbfocbaaDoorRows
import GoSem.ClaimSeven
namespace Go.Proofs.YtkbamhecbfocbaaDoor
namespace Rows

/-- THE TIED CARD OF 'tinderboxlaw06.IniParses'. -/
def iniParsesCard : Claim7 := { stood := { row := iniParsesRow, standIns := [], harness := (true, "a530e3b10722315a0c2ca2a5d8727b363fb163c541b0ea42953d83156c62320c"), looks := true }, kinds := [], alts := [], laidByText := true, laidKinds := [.data, .data, .data, .pinned], laidTests := true, laidLooks := .later }
def IniParsesCardSaid : Prop := Claim7.holds Tryd.pinned (.plain (OpenSpec.ofChange iniParsesSpec)) iniParsesCard

/-- THE TIED CARD OF 'tinderboxlaw06.IniNear'. -/
def iniNearCard : Claim7 := { stood := { row := iniNearRow, standIns := [], harness := (true, "a530e3b10722315a0c2ca2a5d8727b363fb163c541b0ea42953d83156c62320c"), looks := true }, kinds := [], alts := [], laidByText := true, laidKinds := [.data, .data, .data, .pinned], laidTests := true, laidLooks := .later }
def IniNearCardSaid : Prop := Claim7.holds Tryd.pinned (.plain (OpenSpec.ofChange iniNearSpec)) iniNearCard

/-- THE TIED CARD OF 'tinderboxlaw06.IniPrints'. -/
def iniPrintsCard : Claim7 := { stood := { row := iniPrintsRow, standIns := [], harness := (true, "a530e3b10722315a0c2ca2a5d8727b363fb163c541b0ea42953d83156c62320c"), looks := true }, kinds := [], alts := [], laidByText := true, laidKinds := [.data, .data, .data, .pinned], laidTests := true, laidLooks := .later }
def IniPrintsCardSaid : Prop := Claim7.holds Tryd.pinned (.plain (OpenSpec.ofChange iniPrintsSpec)) iniPrintsCard

/-- THE TIED CARD OF 'tinderboxlaw06.IniBack'. -/
def iniBackCard : Claim7 := { stood := { row := iniBackRow, standIns := [], harness := (true, "a530e3b10722315a0c2ca2a5d8727b363fb163c541b0ea42953d83156c62320c"), looks := true }, kinds := [], alts := [], laidByText := true, laidKinds := [.data, .data, .data, .pinned], laidTests := true, laidLooks := .later }
def IniBackCardSaid : Prop := Claim7.holds Tryd.pinned (.plain (OpenSpec.ofChange iniBackSpec)) iniBackCard

/-- THE TIED CARD OF 'tinderboxlaw06.IniSections'. -/
def iniSectionsCard : Claim7 := { stood := { row := iniSectionsRow, standIns := [], harness := (true, "a530e3b10722315a0c2ca2a5d8727b363fb163c541b0ea42953d83156c62320c"), looks := true }, kinds := [], alts := [], laidByText := true, laidKinds := [.data, .data, .data, .pinned], laidTests := true, laidLooks := .later }
def IniSectionsCardSaid : Prop := Claim7.holds Tryd.pinned (.plain (OpenSpec.ofChange iniSectionsSpec)) iniSectionsCard

/-- THE TIED CARD OF 'tinderboxlaw04.ValueStands'. -/
def valueStandsCard : Claim7 := { stood := { row := valueStandsRow, standIns := [], harness := (true, "a530e3b10722315a0c2ca2a5d8727b363fb163c541b0ea42953d83156c62320c"), looks := true }, kinds := [], alts := [], laidByText := true, laidKinds := [.data, .data, .data, .data, .sentinel, .sentinel, .data, .data, .data, .pinned], laidTests := true, laidLooks := .later }
def ValueStandsCardSaid : Prop := Claim7.holds Tryd.pinned (.plain (OpenSpec.ofChange valueStandsSpec)) valueStandsCard

/-- THE TIED CARD OF 'tinderboxlaw04.ValueWithin'. -/
def valueWithinCard : Claim7 := { stood := { row := valueWithinRow, standIns := [], harness := (true, "a530e3b10722315a0c2ca2a5d8727b363fb163c541b0ea42953d83156c62320c"), looks := true }, kinds := [], alts := [], laidByText := true, laidKinds := [.data, .data, .data, .data, .sentinel, .sentinel, .data, .data, .data, .pinned], laidTests := true, laidLooks := .later }
def ValueWithinCardSaid : Prop := Claim7.holds Tryd.pinned (.plain (OpenSpec.ofChange valueWithinSpec)) valueWithinCard

/-- THE TIED CARD OF 'tinderboxlaw04.ValueBack'. -/
def valueBackCard : Claim7 := { stood := { row := valueBackRow, standIns := [], harness := (true, "a530e3b10722315a0c2ca2a5d8727b363fb163c541b0ea42953d83156c62320c"), looks := true }, kinds := [], alts := [], laidByText := true, laidKinds := [.data, .data, .data, .data, .sentinel, .sentinel, .data, .data, .data, .pinned], laidTests := true, laidLooks := .later }
def ValueBackCardSaid : Prop := Claim7.holds Tryd.pinned (.plain (OpenSpec.ofChange valueBackSpec)) valueBackCard

/-- THE SECOND FORM's CARD OF 'tinderboxlaw06.IniParses'. -/
def iniParsesUptoCard : Claim7 := { stood := { row := iniParsesUptoRow, standIns := [], harness := (true, "a530e3b10722315a0c2ca2a5d8727b363fb163c541b0ea42953d83156c62320c"), looks := true }, kinds := [], alts := [], laidByText := true, laidKinds := [.data, .data, .data, .pinned], laidTests := true, laidLooks := .later }
def IniParsesUptoCardSaid : Prop := Claim7.holds Tryd.pinned (.plain (OpenSpec.upto iniParsesSpec)) iniParsesUptoCard

/-- THE SECOND FORM's CARD OF 'tinderboxlaw06.IniNear'. -/
def iniNearUptoCard : Claim7 := { stood := { row := iniNearUptoRow, standIns := [], harness := (true, "a530e3b10722315a0c2ca2a5d8727b363fb163c541b0ea42953d83156c62320c"), looks := true }, kinds := [], alts := [], laidByText := true, laidKinds := [.data, .data, .data, .pinned], laidTests := true, laidLooks := .later }
def IniNearUptoCardSaid : Prop := Claim7.holds Tryd.pinned (.plain (OpenSpec.upto iniNearSpec)) iniNearUptoCard

/-- THE SECOND FORM's CARD OF 'tinderboxlaw06.IniPrints'. -/
def iniPrintsUptoCard : Claim7 := { stood := { row := iniPrintsUptoRow, standIns := [], harness := (true, "a530e3b10722315a0c2ca2a5d8727b363fb163c541b0ea42953d83156c62320c"), looks := true }, kinds := [], alts := [], laidByText := true, laidKinds := [.data, .data, .data, .pinned], laidTests := true, laidLooks := .later }
def IniPrintsUptoCardSaid : Prop := Claim7.holds Tryd.pinned (.plain (OpenSpec.upto iniPrintsSpec)) iniPrintsUptoCard

/-- THE SECOND FORM's CARD OF 'tinderboxlaw06.IniBack'. -/
def iniBackUptoCard : Claim7 := { stood := { row := iniBackUptoRow, standIns := [], harness := (true, "a530e3b10722315a0c2ca2a5d8727b363fb163c541b0ea42953d83156c62320c"), looks := true }, kinds := [], alts := [], laidByText := true, laidKinds := [.data, .data, .data, .pinned], laidTests := true, laidLooks := .later }
def IniBackUptoCardSaid : Prop := Claim7.holds Tryd.pinned (.plain (OpenSpec.upto iniBackSpec)) iniBackUptoCard

/-- THE SECOND FORM's CARD OF 'tinderboxlaw06.IniSections'. -/
def iniSectionsUptoCard : Claim7 := { stood := { row := iniSectionsUptoRow, standIns := [], harness := (true, "a530e3b10722315a0c2ca2a5d8727b363fb163c541b0ea42953d83156c62320c"), looks := true }, kinds := [], alts := [], laidByText := true, laidKinds := [.data, .data, .data, .pinned], laidTests := true, laidLooks := .later }
def IniSectionsUptoCardSaid : Prop := Claim7.holds Tryd.pinned (.plain (OpenSpec.upto iniSectionsSpec)) iniSectionsUptoCard

/-- THE SECOND FORM's CARD OF 'tinderboxlaw04.ValueStands'. -/
def valueStandsUptoCard : Claim7 := { stood := { row := valueStandsUptoRow, standIns := [], harness := (true, "a530e3b10722315a0c2ca2a5d8727b363fb163c541b0ea42953d83156c62320c"), looks := true }, kinds := [], alts := [], laidByText := true, laidKinds := [.data, .data, .data, .data, .sentinel, .sentinel, .data, .data, .data, .pinned], laidTests := true, laidLooks := .later }
def ValueStandsUptoCardSaid : Prop := Claim7.holds Tryd.pinned (.plain (OpenSpec.upto valueStandsSpec)) valueStandsUptoCard

/-- THE SECOND FORM's CARD OF 'tinderboxlaw04.ValueWithin'. -/
def valueWithinUptoCard : Claim7 := { stood := { row := valueWithinUptoRow, standIns := [], harness := (true, "a530e3b10722315a0c2ca2a5d8727b363fb163c541b0ea42953d83156c62320c"), looks := true }, kinds := [], alts := [], laidByText := true, laidKinds := [.data, .data, .data, .data, .sentinel, .sentinel, .data, .data, .data, .pinned], laidTests := true, laidLooks := .later }
def ValueWithinUptoCardSaid : Prop := Claim7.holds Tryd.pinned (.plain (OpenSpec.upto valueWithinSpec)) valueWithinUptoCard

/-- THE SECOND FORM's CARD OF 'tinderboxlaw04.ValueBack'. -/
def valueBackUptoCard : Claim7 := { stood := { row := valueBackUptoRow, standIns := [], harness := (true, "a530e3b10722315a0c2ca2a5d8727b363fb163c541b0ea42953d83156c62320c"), looks := true }, kinds := [], alts := [], laidByText := true, laidKinds := [.data, .data, .data, .data, .sentinel, .sentinel, .data, .data, .data, .pinned], laidTests := true, laidLooks := .later }
def ValueBackUptoCardSaid : Prop := Claim7.holds Tryd.pinned (.plain (OpenSpec.upto valueBackSpec)) valueBackUptoCard
end Rows
end Go.Proofs.YtkbamhecbfocbaaDoor
