/-
  DERIVED. GIVEN WITH THE SEED: THE CARDS: each row of YtpfhhaonfbfheaaGreatDoorRows.lean that lists a variable, with what it lists TIED to the program's text (the seventh form; the later family's looks); each row that meets fmt, with fmt's text TOLD by the authors' own Lean function (tested against real Go, not proved from fmt's source: count such statements apart). THE CARD IS WHAT COUNTS. Prove the row's statement (the work); the ties are given (YtpfhhaonfbfheaaGreatDoorTie.lean); close each card by the builder's one call (the guide's Derived/Test/ToyasCard.lean, 'card_holds'). Laid BY PROGRAM, IN A SANDBOX (cutbox-door.mjs). By AI agents, Wed Nov 11 2026. No macro, syntax, notation, axiom, sorry.
-/
import Derived.Test.YtpfhhaonfbfheaaGreatDoorRows
import GoSem.ClaimSeven
namespace Go.Proofs.YtpfhhaonfbfheaaGreatDoor
namespace Rows

/-- THE TIED CARD OF 'tinderboxlaw05.KeyStands'. -/
def keyStandsCard : Claim7 := { stood := { row := keyStandsRow, standIns := [], harness := (true, "78ef4e3c352c37dc32fe42132dc6e1cb33957f760d6753813c4720b00cfe7132"), looks := true }, kinds := [], alts := [], laidByText := true, laidKinds := [.data, .data, .data, .data, .sentinel, .sentinel, .data, .data, .data, .pinned], laidTests := true, laidLooks := .later }
def KeyStandsCardSaid : Prop := Claim7.holds Tryz.pinned (.plain (OpenSpec.ofChange keyStandsSpec)) keyStandsCard

/-- THE TIED CARD OF 'tinderboxlaw07.FlagPrints'. -/
def flagPrintsCard : Claim7 := { stood := { row := flagPrintsRow, standIns := [], harness := (true, "78ef4e3c352c37dc32fe42132dc6e1cb33957f760d6753813c4720b00cfe7132"), looks := true }, kinds := [], alts := [], laidByText := true, laidKinds := [.data, .data, .data, .data, .sentinel, .sentinel, .data, .data, .data, .pinned], laidTests := true, laidLooks := .later }
def FlagPrintsCardSaid : Prop := Claim7.holds Tryz.pinned (.plain (OpenSpec.ofChange flagPrintsSpec)) flagPrintsCard

/-- THE TIED CARD OF 'tinderboxlaw08.EnvNames'. -/
def envNamesCard : Claim7 := { stood := { row := envNamesRow, standIns := [], harness := (true, "78ef4e3c352c37dc32fe42132dc6e1cb33957f760d6753813c4720b00cfe7132"), looks := true }, kinds := [], alts := [], laidByText := true, laidKinds := [.data, .data, .data, .data, .sentinel, .sentinel, .data, .data, .data, .pinned, .pinned], laidTests := true, laidLooks := .later }
def EnvNamesCardSaid : Prop := Claim7.holds Tryz.pinned (.plain (OpenSpec.ofChange envNamesSpec)) envNamesCard

/-- THE TIED CARD OF 'tinderboxlaw08.EnvParses'. -/
def envParsesCard : Claim7 := { stood := { row := envParsesRow, standIns := [], harness := (true, "78ef4e3c352c37dc32fe42132dc6e1cb33957f760d6753813c4720b00cfe7132"), looks := true }, kinds := [], alts := [], laidByText := true, laidKinds := [.data, .data, .data, .data, .sentinel, .sentinel, .data, .data, .data, .pinned, .pinned], laidTests := true, laidLooks := .later }
def EnvParsesCardSaid : Prop := Claim7.holds Tryz.pinned (.plain (OpenSpec.ofChange envParsesSpec)) envParsesCard

/-- THE TIED CARD OF 'tinderboxlaw08.EnvJoins'. -/
def envJoinsCard : Claim7 := { stood := { row := envJoinsRow, standIns := [], harness := (true, "78ef4e3c352c37dc32fe42132dc6e1cb33957f760d6753813c4720b00cfe7132"), looks := true }, kinds := [], alts := [], laidByText := true, laidKinds := [.data, .data, .data, .data, .sentinel, .sentinel, .data, .data, .data, .pinned, .pinned], laidTests := true, laidLooks := .later }
def EnvJoinsCardSaid : Prop := Claim7.holds Tryz.pinned (.plain (OpenSpec.ofChange envJoinsSpec)) envJoinsCard

/-- THE SECOND FORM's CARD OF 'tinderboxlaw05.KeyStands'. -/
def keyStandsUptoCard : Claim7 := { stood := { row := keyStandsUptoRow, standIns := [], harness := (true, "78ef4e3c352c37dc32fe42132dc6e1cb33957f760d6753813c4720b00cfe7132"), looks := true }, kinds := [], alts := [], laidByText := true, laidKinds := [.data, .data, .data, .data, .sentinel, .sentinel, .data, .data, .data, .pinned], laidTests := true, laidLooks := .later }
def KeyStandsUptoCardSaid : Prop := Claim7.holds Tryz.pinned (.plain (OpenSpec.upto keyStandsSpec)) keyStandsUptoCard

/-- THE SECOND FORM's CARD OF 'tinderboxlaw07.FlagPrints'. -/
def flagPrintsUptoCard : Claim7 := { stood := { row := flagPrintsUptoRow, standIns := [], harness := (true, "78ef4e3c352c37dc32fe42132dc6e1cb33957f760d6753813c4720b00cfe7132"), looks := true }, kinds := [], alts := [], laidByText := true, laidKinds := [.data, .data, .data, .data, .sentinel, .sentinel, .data, .data, .data, .pinned], laidTests := true, laidLooks := .later }
def FlagPrintsUptoCardSaid : Prop := Claim7.holds Tryz.pinned (.plain (OpenSpec.upto flagPrintsSpec)) flagPrintsUptoCard

/-- THE SECOND FORM's CARD OF 'tinderboxlaw08.EnvNames'. -/
def envNamesUptoCard : Claim7 := { stood := { row := envNamesUptoRow, standIns := [], harness := (true, "78ef4e3c352c37dc32fe42132dc6e1cb33957f760d6753813c4720b00cfe7132"), looks := true }, kinds := [], alts := [], laidByText := true, laidKinds := [.data, .data, .data, .data, .sentinel, .sentinel, .data, .data, .data, .pinned, .pinned], laidTests := true, laidLooks := .later }
def EnvNamesUptoCardSaid : Prop := Claim7.holds Tryz.pinned (.plain (OpenSpec.upto envNamesSpec)) envNamesUptoCard

/-- THE SECOND FORM's CARD OF 'tinderboxlaw08.EnvParses'. -/
def envParsesUptoCard : Claim7 := { stood := { row := envParsesUptoRow, standIns := [], harness := (true, "78ef4e3c352c37dc32fe42132dc6e1cb33957f760d6753813c4720b00cfe7132"), looks := true }, kinds := [], alts := [], laidByText := true, laidKinds := [.data, .data, .data, .data, .sentinel, .sentinel, .data, .data, .data, .pinned, .pinned], laidTests := true, laidLooks := .later }
def EnvParsesUptoCardSaid : Prop := Claim7.holds Tryz.pinned (.plain (OpenSpec.upto envParsesSpec)) envParsesUptoCard

/-- THE SECOND FORM's CARD OF 'tinderboxlaw08.EnvJoins'. -/
def envJoinsUptoCard : Claim7 := { stood := { row := envJoinsUptoRow, standIns := [], harness := (true, "78ef4e3c352c37dc32fe42132dc6e1cb33957f760d6753813c4720b00cfe7132"), looks := true }, kinds := [], alts := [], laidByText := true, laidKinds := [.data, .data, .data, .data, .sentinel, .sentinel, .data, .data, .data, .pinned, .pinned], laidTests := true, laidLooks := .later }
def EnvJoinsUptoCardSaid : Prop := Claim7.holds Tryz.pinned (.plain (OpenSpec.upto envJoinsSpec)) envJoinsUptoCard
end Rows
end Go.Proofs.YtpfhhaonfbfheaaGreatDoor
