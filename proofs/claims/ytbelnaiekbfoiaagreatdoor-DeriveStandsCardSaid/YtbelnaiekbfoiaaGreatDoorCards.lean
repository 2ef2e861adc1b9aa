/-
  DERIVED. GIVEN WITH THE SEED: THE CARDS: each row of YtbelnaiekbfoiaaGreatDoorRows.lean that lists a variable, with what it lists TIED to the program's text (the seventh form; the later family's looks); each row that meets fmt, with fmt's text TOLD by the authors' own Lean function (tested against real Go, not proved from fmt's source: count such statements apart). THE CARD IS WHAT COUNTS. Prove the row's statement (the work); the ties are given (YtbelnaiekbfoiaaGreatDoorTie.lean); close each card by the builder's one call (the guide's Derived/Test/ToyasCard.lean, 'card_holds'). Laid BY PROGRAM, IN A SANDBOX (cutbox-door.mjs). By AI agents, Wed Nov 11 2026. No macro, syntax, notation, axiom, sorry.
-/
import Derived.Test.YtbelnaiekbfoiaaGreatDoorRows
import GoSem.ClaimSeven
namespace Go.Proofs.YtbelnaiekbfoiaaGreatDoor
namespace Rows

/-- THE TIED CARD OF 'tinderboxlaw10.RefsNames'. -/
def refsNamesCard : Claim7 := { stood := { row := refsNamesRow, standIns := [], harness := (true, "b378be09fbd9339d584979762ace65d6a30406225f1d4145ca875531bb308d2b"), looks := true }, kinds := [], alts := [], laidByText := true, laidKinds := [.data, .data, .data, .data, .sentinel, .sentinel, .data, .data, .data, .pinned], laidTests := true, laidLooks := .later }
def RefsNamesCardSaid : Prop := Claim7.holds Tryz.pinned (.plain (OpenSpec.ofChange refsNamesSpec)) refsNamesCard

/-- THE TIED CARD OF 'tinderboxlaw10.RefsMeans'. -/
def refsMeansCard : Claim7 := { stood := { row := refsMeansRow, standIns := [], harness := (true, "b378be09fbd9339d584979762ace65d6a30406225f1d4145ca875531bb308d2b"), looks := true }, kinds := [], alts := [], laidByText := true, laidKinds := [.data, .data, .data, .data, .sentinel, .sentinel, .data, .data, .data, .pinned], laidTests := true, laidLooks := .later }
def RefsMeansCardSaid : Prop := Claim7.holds Tryz.pinned (.plain (OpenSpec.ofChange refsMeansSpec)) refsMeansCard

/-- THE TIED CARD OF 'tinderboxlaw10.RefsExpands'. -/
def refsExpandsCard : Claim7 := { stood := { row := refsExpandsRow, standIns := [], harness := (true, "b378be09fbd9339d584979762ace65d6a30406225f1d4145ca875531bb308d2b"), looks := true }, kinds := [], alts := [], laidByText := true, laidKinds := [.data, .data, .data, .data, .sentinel, .sentinel, .data, .data, .data, .pinned], laidTests := true, laidLooks := .later }
def RefsExpandsCardSaid : Prop := Claim7.holds Tryz.pinned (.plain (OpenSpec.ofChange refsExpandsSpec)) refsExpandsCard

/-- THE TIED CARD OF 'tinderboxlaw10.RefsApart'. -/
def refsApartCard : Claim7 := { stood := { row := refsApartRow, standIns := [], harness := (true, "b378be09fbd9339d584979762ace65d6a30406225f1d4145ca875531bb308d2b"), looks := true }, kinds := [], alts := [], laidByText := true, laidKinds := [.data, .data, .data, .data, .sentinel, .sentinel, .data, .data, .data, .pinned], laidTests := true, laidLooks := .later }
def RefsApartCardSaid : Prop := Claim7.holds Tryz.pinned (.plain (OpenSpec.ofChange refsApartSpec)) refsApartCard

/-- THE TIED CARD OF 'tinderboxlaw12.DeriveStands'. -/
def deriveStandsCard : Claim7 := { stood := { row := deriveStandsRow, standIns := [], harness := (true, "b378be09fbd9339d584979762ace65d6a30406225f1d4145ca875531bb308d2b"), looks := true }, kinds := [], alts := [], laidByText := true, laidKinds := [.data, .data, .data, .data, .sentinel, .sentinel, .data, .data, .data, .pinned], laidTests := true, laidLooks := .later }
def DeriveStandsCardSaid : Prop := Claim7.holds Tryz.pinned (.plain (OpenSpec.ofChange deriveStandsSpec)) deriveStandsCard

/-- THE SECOND FORM's CARD OF 'tinderboxlaw10.RefsNames'. -/
def refsNamesUptoCard : Claim7 := { stood := { row := refsNamesUptoRow, standIns := [], harness := (true, "b378be09fbd9339d584979762ace65d6a30406225f1d4145ca875531bb308d2b"), looks := true }, kinds := [], alts := [], laidByText := true, laidKinds := [.data, .data, .data, .data, .sentinel, .sentinel, .data, .data, .data, .pinned], laidTests := true, laidLooks := .later }
def RefsNamesUptoCardSaid : Prop := Claim7.holds Tryz.pinned (.plain (OpenSpec.upto refsNamesSpec)) refsNamesUptoCard

/-- THE SECOND FORM's CARD OF 'tinderboxlaw10.RefsMeans'. -/
def refsMeansUptoCard : Claim7 := { stood := { row := refsMeansUptoRow, standIns := [], harness := (true, "b378be09fbd9339d584979762ace65d6a30406225f1d4145ca875531bb308d2b"), looks := true }, kinds := [], alts := [], laidByText := true, laidKinds := [.data, .data, .data, .data, .sentinel, .sentinel, .data, .data, .data, .pinned], laidTests := true, laidLooks := .later }
def RefsMeansUptoCardSaid : Prop := Claim7.holds Tryz.pinned (.plain (OpenSpec.upto refsMeansSpec)) refsMeansUptoCard

/-- THE SECOND FORM's CARD OF 'tinderboxlaw10.RefsExpands'. -/
def refsExpandsUptoCard : Claim7 := { stood := { row := refsExpandsUptoRow, standIns := [], harness := (true, "b378be09fbd9339d584979762ace65d6a30406225f1d4145ca875531bb308d2b"), looks := true }, kinds := [], alts := [], laidByText := true, laidKinds := [.data, .data, .data, .data, .sentinel, .sentinel, .data, .data, .data, .pinned], laidTests := true, laidLooks := .later }
def RefsExpandsUptoCardSaid : Prop := Claim7.holds Tryz.pinned (.plain (OpenSpec.upto refsExpandsSpec)) refsExpandsUptoCard

/-- THE SECOND FORM's CARD OF 'tinderboxlaw10.RefsApart'. -/
def refsApartUptoCard : Claim7 := { stood := { row := refsApartUptoRow, standIns := [], harness := (true, "b378be09fbd9339d584979762ace65d6a30406225f1d4145ca875531bb308d2b"), looks := true }, kinds := [], alts := [], laidByText := true, laidKinds := [.data, .data, .data, .data, .sentinel, .sentinel, .data, .data, .data, .pinned], laidTests := true, laidLooks := .later }
def RefsApartUptoCardSaid : Prop := Claim7.holds Tryz.pinned (.plain (OpenSpec.upto refsApartSpec)) refsApartUptoCard

/-- THE SECOND FORM's CARD OF 'tinderboxlaw12.DeriveStands'. -/
def deriveStandsUptoCard : Claim7 := { stood := { row := deriveStandsUptoRow, standIns := [], harness := (true, "b378be09fbd9339d584979762ace65d6a30406225f1d4145ca875531bb308d2b"), looks := true }, kinds := [], alts := [], laidByText := true, laidKinds := [.data, .data, .data, .data, .sentinel, .sentinel, .data, .data, .data, .pinned], laidTests := true, laidLooks := .later }
def DeriveStandsUptoCardSaid : Prop := Claim7.holds Tryz.pinned (.plain (OpenSpec.upto deriveStandsSpec)) deriveStandsUptoCard
end Rows
end Go.Proofs.YtbelnaiekbfoiaaGreatDoor
