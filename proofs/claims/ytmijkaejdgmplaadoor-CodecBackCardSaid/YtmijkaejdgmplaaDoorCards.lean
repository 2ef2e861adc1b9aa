/-
  DERIVED. GIVEN WITH THE SEED: THE CARDS: each row of YtmijkaejdgmplaaDoorRows.lean that lists a variable, with what it lists TIED to the program's text (the seventh form; the later family's looks); each row that meets fmt, with fmt's text TOLD by the authors' own Lean function (tested against real Go, not proved from fmt's source: count such statements apart). THE CARD IS WHAT COUNTS. Prove the row's statement (the work); the ties are given (YtmijkaejdgmplaaDoorTie.lean); close each card by the builder's one call (the guide's Derived/Test/ToyasCard.lean, 'card_holds'). Laid BY PROGRAM, IN A SANDBOX (cutbox-door.mjs). By AI agents, Wed Nov 11 2026. No macro, syntax, notation, axiom, sorry.
-/
import Derived.Test.YtmijkaejdgmplaaDoorRows
import GoSem.ClaimSeven
namespace Go.Proofs.YtmijkaejdgmplaaDoor
namespace Rows

/-- THE TIED CARD OF 'tinderboxlaw03.CodecWrites'. -/
def codecWritesCard : Claim7 := { stood := { row := codecWritesRow, standIns := [], harness := (true, "4ac543d931af02f17854f42aebabd53da5753e145953a0539ab2f007f8e1072a"), looks := true }, kinds := [], alts := [], laidByText := true, laidKinds := [.handle], laidTests := true, laidLooks := .later }
def CodecWritesCardSaid : Prop := Claim7.holds Tryd.pinned (.plain (OpenSpec.ofChange codecWritesSpec)) codecWritesCard

/-- THE TIED CARD OF 'tinderboxlaw03.CodecBack'. -/
def codecBackCard : Claim7 := { stood := { row := codecBackRow, standIns := [], harness := (true, "4ac543d931af02f17854f42aebabd53da5753e145953a0539ab2f007f8e1072a"), looks := true }, kinds := [], alts := [], laidByText := true, laidKinds := [.handle], laidTests := true, laidLooks := .later }
def CodecBackCardSaid : Prop := Claim7.holds Tryd.pinned (.plain (OpenSpec.ofChange codecBackSpec)) codecBackCard

/-- THE TIED CARD OF 'tinderboxlaw03.CodecAgain'. -/
def codecAgainCard : Claim7 := { stood := { row := codecAgainRow, standIns := [], harness := (true, "4ac543d931af02f17854f42aebabd53da5753e145953a0539ab2f007f8e1072a"), looks := true }, kinds := [], alts := [], laidByText := true, laidKinds := [.handle], laidTests := true, laidLooks := .later }
def CodecAgainCardSaid : Prop := Claim7.holds Tryd.pinned (.plain (OpenSpec.ofChange codecAgainSpec)) codecAgainCard

/-- THE TIED CARD OF 'tinderboxlaw02.GlyphStands'. -/
def glyphStandsCard : Claim7 := { stood := { row := glyphStandsRow, standIns := [], harness := (true, "4ac543d931af02f17854f42aebabd53da5753e145953a0539ab2f007f8e1072a"), looks := true }, kinds := [], alts := [], laidByText := true, laidKinds := [.data, .data, .data, .pinned], laidTests := true, laidLooks := .later }
def GlyphStandsCardSaid : Prop := Claim7.holds Tryd.pinned (.plain (OpenSpec.ofChange glyphStandsSpec)) glyphStandsCard

/-- THE TIED CARD OF 'tinderboxlaw02.GlyphNumbers'. -/
def glyphNumbersCard : Claim7 := { stood := { row := glyphNumbersRow, standIns := [], harness := (true, "4ac543d931af02f17854f42aebabd53da5753e145953a0539ab2f007f8e1072a"), looks := true }, kinds := [], alts := [], laidByText := true, laidKinds := [.data, .data, .data, .pinned], laidTests := true, laidLooks := .later }
def GlyphNumbersCardSaid : Prop := Claim7.holds Tryd.pinned (.plain (OpenSpec.ofChange glyphNumbersSpec)) glyphNumbersCard

/-- THE TIED CARD OF 'tinderboxlaw02.GlyphTexts'. -/
def glyphTextsCard : Claim7 := { stood := { row := glyphTextsRow, standIns := [], harness := (true, "4ac543d931af02f17854f42aebabd53da5753e145953a0539ab2f007f8e1072a"), looks := true }, kinds := [], alts := [], laidByText := true, laidKinds := [.data, .data, .data, .pinned], laidTests := true, laidLooks := .later }
def GlyphTextsCardSaid : Prop := Claim7.holds Tryd.pinned (.plain (OpenSpec.ofChange glyphTextsSpec)) glyphTextsCard

/-- THE TIED CARD OF 'tinderboxlaw02.GlyphCounts'. -/
def glyphCountsCard : Claim7 := { stood := { row := glyphCountsRow, standIns := [], harness := (true, "4ac543d931af02f17854f42aebabd53da5753e145953a0539ab2f007f8e1072a"), looks := true }, kinds := [], alts := [], laidByText := true, laidKinds := [.data, .data, .data, .pinned], laidTests := true, laidLooks := .later }
def GlyphCountsCardSaid : Prop := Claim7.holds Tryd.pinned (.plain (OpenSpec.ofChange glyphCountsSpec)) glyphCountsCard

/-- THE TIED CARD OF 'tinderboxlaw02.GlyphBack'. -/
def glyphBackCard : Claim7 := { stood := { row := glyphBackRow, standIns := [], harness := (true, "4ac543d931af02f17854f42aebabd53da5753e145953a0539ab2f007f8e1072a"), looks := true }, kinds := [], alts := [], laidByText := true, laidKinds := [.data, .data, .data, .pinned], laidTests := true, laidLooks := .later }
def GlyphBackCardSaid : Prop := Claim7.holds Tryd.pinned (.plain (OpenSpec.ofChange glyphBackSpec)) glyphBackCard

/-- THE SECOND FORM's CARD OF 'tinderboxlaw03.CodecWrites'. -/
def codecWritesUptoCard : Claim7 := { stood := { row := codecWritesUptoRow, standIns := [], harness := (true, "4ac543d931af02f17854f42aebabd53da5753e145953a0539ab2f007f8e1072a"), looks := true }, kinds := [], alts := [], laidByText := true, laidKinds := [.handle], laidTests := true, laidLooks := .later }
def CodecWritesUptoCardSaid : Prop := Claim7.holds Tryd.pinned (.plain (OpenSpec.upto codecWritesSpec)) codecWritesUptoCard

/-- THE SECOND FORM's CARD OF 'tinderboxlaw03.CodecBack'. -/
def codecBackUptoCard : Claim7 := { stood := { row := codecBackUptoRow, standIns := [], harness := (true, "4ac543d931af02f17854f42aebabd53da5753e145953a0539ab2f007f8e1072a"), looks := true }, kinds := [], alts := [], laidByText := true, laidKinds := [.handle], laidTests := true, laidLooks := .later }
def CodecBackUptoCardSaid : Prop := Claim7.holds Tryd.pinned (.plain (OpenSpec.upto codecBackSpec)) codecBackUptoCard

/-- THE SECOND FORM's CARD OF 'tinderboxlaw03.CodecAgain'. -/
def codecAgainUptoCard : Claim7 := { stood := { row := codecAgainUptoRow, standIns := [], harness := (true, "4ac543d931af02f17854f42aebabd53da5753e145953a0539ab2f007f8e1072a"), looks := true }, kinds := [], alts := [], laidByText := true, laidKinds := [.handle], laidTests := true, laidLooks := .later }
def CodecAgainUptoCardSaid : Prop := Claim7.holds Tryd.pinned (.plain (OpenSpec.upto codecAgainSpec)) codecAgainUptoCard

/-- THE SECOND FORM's CARD OF 'tinderboxlaw02.GlyphStands'. -/
def glyphStandsUptoCard : Claim7 := { stood := { row := glyphStandsUptoRow, standIns := [], harness := (true, "4ac543d931af02f17854f42aebabd53da5753e145953a0539ab2f007f8e1072a"), looks := true }, kinds := [], alts := [], laidByText := true, laidKinds := [.data, .data, .data, .pinned], laidTests := true, laidLooks := .later }
def GlyphStandsUptoCardSaid : Prop := Claim7.holds Tryd.pinned (.plain (OpenSpec.upto glyphStandsSpec)) glyphStandsUptoCard

/-- THE SECOND FORM's CARD OF 'tinderboxlaw02.GlyphNumbers'. -/
def glyphNumbersUptoCard : Claim7 := { stood := { row := glyphNumbersUptoRow, standIns := [], harness := (true, "4ac543d931af02f17854f42aebabd53da5753e145953a0539ab2f007f8e1072a"), looks := true }, kinds := [], alts := [], laidByText := true, laidKinds := [.data, .data, .data, .pinned], laidTests := true, laidLooks := .later }
def GlyphNumbersUptoCardSaid : Prop := Claim7.holds Tryd.pinned (.plain (OpenSpec.upto glyphNumbersSpec)) glyphNumbersUptoCard

/-- THE SECOND FORM's CARD OF 'tinderboxlaw02.GlyphTexts'. -/
def glyphTextsUptoCard : Claim7 := { stood := { row := glyphTextsUptoRow, standIns := [], harness := (true, "4ac543d931af02f17854f42aebabd53da5753e145953a0539ab2f007f8e1072a"), looks := true }, kinds := [], alts := [], laidByText := true, laidKinds := [.data, .data, .data, .pinned], laidTests := true, laidLooks := .later }
def GlyphTextsUptoCardSaid : Prop := Claim7.holds Tryd.pinned (.plain (OpenSpec.upto glyphTextsSpec)) glyphTextsUptoCard

/-- THE SECOND FORM's CARD OF 'tinderboxlaw02.GlyphCounts'. -/
def glyphCountsUptoCard : Claim7 := { stood := { row := glyphCountsUptoRow, standIns := [], harness := (true, "4ac543d931af02f17854f42aebabd53da5753e145953a0539ab2f007f8e1072a"), looks := true }, kinds := [], alts := [], laidByText := true, laidKinds := [.data, .data, .data, .pinned], laidTests := true, laidLooks := .later }
def GlyphCountsUptoCardSaid : Prop := Claim7.holds Tryd.pinned (.plain (OpenSpec.upto glyphCountsSpec)) glyphCountsUptoCard

/-- THE SECOND FORM's CARD OF 'tinderboxlaw02.GlyphBack'. -/
def glyphBackUptoCard : Claim7 := { stood := { row := glyphBackUptoRow, standIns := [], harness := (true, "4ac543d931af02f17854f42aebabd53da5753e145953a0539ab2f007f8e1072a"), looks := true }, kinds := [], alts := [], laidByText := true, laidKinds := [.data, .data, .data, .pinned], laidTests := true, laidLooks := .later }
def GlyphBackUptoCardSaid : Prop := Claim7.holds Tryd.pinned (.plain (OpenSpec.upto glyphBackSpec)) glyphBackUptoCard
end Rows
end Go.Proofs.YtmijkaejdgmplaaDoor
