/-
  NARROWER THAN 'FOR EVERY INPUT', by the rows' own cells (each row's printed sentence says how): CodecWrites: laid · CodecBack: laid · CodecAgain: laid · GlyphStands: laid · GlyphNumbers: laid · GlyphTexts: laid · GlyphCounts: laid · GlyphBack: laid.
  DERIVED. THE GIVEN ROWS OF THIS SEAT. 8 by the template 'for every input the law returns true; each argument reads behind the call as it read before'; 0 by the template 'total and deterministic' (their statements: YtmijkaejdgmplaaDoorTotals.lean).
  GIVEN WITH THE SEED: the statements are not yours to turn. If you find one false, say at which input.
  Laid BY PROGRAM, IN A SANDBOX (cutbox-rows.mjs): the forced cells as the released guide's own fill.sh prints them over the translation 1efd811cb04051ae… (all of the seat's roots in one cut). By AI agents, Wed Nov 11 2026. No macro, syntax, notation, axiom, sorry.
-/
import Derived.Test.YtmijkaejdgmplaaDoorChecked
import GoSem.PinnedTables
import GoSem.Claim
import GoSem.ClaimJoined
import GoSem.ClaimMapViews
import Derived.JoinedTies
import Derived.KernelRfl
namespace Go.Proofs.YtmijkaejdgmplaaDoor
/- THE CELL 'sum', in the pinned program and in every row, IS THE sha256 OF THE DUMP (.gsa) THAT YtmijkaejdgmplaaDoorProg.lean LOADS. Nothing in Lean hashes anything: it is a label: what it is worth is what the hold of that sum in a sandbox is worth. -/
noncomputable def Tryd.pinned : Pinned := { name := "ytmijkaejdgmplaadoor", sum := "1efd811cb04051ae7141a0e42ca4eec66fafcf30eb37ffd30d895be659df8d18", checked := Tryd.checked }
namespace Rows
def none {H : Type} : Left H := { results := [], args := [] }

/- WHAT THE LISTED PACKAGE-LEVEL VARIABLES READ AS WHEN THE CALL BEGINS. Each datum BY PROGRAM (the guide's laid-datum.mjs) off the statement by which the dump's own 'gosem.cut.vars' lays the variable. In a bare row this is a premise. The card (YtmijkaejdgmplaaDoorCards.lean) ties it to the program's text. -/
def laid_errors_errorType {H : Type} : DataW H := .iface "internal/reflectlite.rtype" (.agg [.ptr (.lit (.string [101, 114, 114, 111, 114]))])
def laid_unicode_utf8_acceptRanges {H : Type} : DataW H := .agg [.agg [.lit (.int .u8 128), .lit (.int .u8 191)], .agg [.lit (.int .u8 160), .lit (.int .u8 191)], .agg [.lit (.int .u8 128), .lit (.int .u8 159)], .agg [.lit (.int .u8 144), .lit (.int .u8 191)], .agg [.lit (.int .u8 128), .lit (.int .u8 143)], .agg [.lit (.int .u8 0), .lit (.int .u8 0)], .agg [.lit (.int .u8 0), .lit (.int .u8 0)], .agg [.lit (.int .u8 0), .lit (.int .u8 0)], .agg [.lit (.int .u8 0), .lit (.int .u8 0)], .agg [.lit (.int .u8 0), .lit (.int .u8 0)], .agg [.lit (.int .u8 0), .lit (.int .u8 0)], .agg [.lit (.int .u8 0), .lit (.int .u8 0)], .agg [.lit (.int .u8 0), .lit (.int .u8 0)], .agg [.lit (.int .u8 0), .lit (.int .u8 0)], .agg [.lit (.int .u8 0), .lit (.int .u8 0)], .agg [.lit (.int .u8 0), .lit (.int .u8 0)]]
def laid_tinderbox_glyph_letters {H : Type} : DataW H := .agg [.agg [.lit (.int .u8 97), .lit (.int .u8 122), .lit (.int .i64 1)], .agg [.lit (.int .u8 65), .lit (.int .u8 90), .lit (.int .i64 2)], .agg [.lit (.int .u8 48), .lit (.int .u8 57), .lit (.int .i64 3)]]
def laid_tinderbox_glyph_others {H : Type} : DataW H := .agg [.agg [.lit (.int .u8 32), .lit (.int .u8 32), .lit (.int .i64 4)], .agg [.lit (.int .u8 9), .lit (.int .u8 9), .lit (.int .i64 4)], .agg [.lit (.int .u8 10), .lit (.int .u8 10), .lit (.int .i64 6)], .agg [.lit (.int .u8 13), .lit (.int .u8 13), .lit (.int .i64 6)], .agg [.lit (.int .u8 33), .lit (.int .u8 47), .lit (.int .i64 5)], .agg [.lit (.int .u8 58), .lit (.int .u8 64), .lit (.int .i64 5)], .agg [.lit (.int .u8 91), .lit (.int .u8 96), .lit (.int .i64 5)], .agg [.lit (.int .u8 123), .lit (.int .u8 126), .lit (.int .i64 5)]]
/-- One of Go's own tables, pinned by name: the form's constant. -/
def laid_unicode_utf8_first : DataW Unit := Go.Pinned.utf8First

/-- 'tinderboxlaw03.CodecWrites': WHATEVER THE INPUT: true; the input reads as it did. -/
def codecWritesSpec : ChangeSpec := { name := "codecWrites", fn := fun _ => fun
  | [d1, d2, d3] => { results := [.lit (.bool true)], args := [d1, d2, d3] }
  | _ => none }
def codecWritesRow : OpenClaim := { program := "ytmijkaejdgmplaadoor", sum := "1efd811cb04051ae7141a0e42ca4eec66fafcf30eb37ffd30d895be659df8d18", func := "tinderbox/tinderboxlaw03.CodecWrites", spec := "codecWrites", inPlace := ["internal/reflectlite.ValueOf", "(internal/reflectlite.Value).Type", "(internal/reflectlite.Value).IsNil", "internal/reflectlite.TypeOf", "(internal/reflectlite.Value).Elem", "(internal/reflectlite.Value).Set"], unfollowed := true, recurses := true, named := ["errors.errorType"], apart := false, laid := [("errors.errorType", laid_errors_errorType)] }
def CodecWritesSaid : Prop := codecWritesRow.holds Tryd.pinned (OpenSpec.ofChange codecWritesSpec)

/-- ITS FALSE NEIGHBOUR: 'it returns false'. Refute it at one input. -/
def codecWritesWrong : ChangeSpec := { name := "codecWrites", fn := fun _ => fun
  | [d1, d2, d3] => { results := [.lit (.bool false)], args := [d1, d2, d3] }
  | _ => none }
def CodecWritesWrongFalsely : Prop := codecWritesRow.holds Tryd.pinned (OpenSpec.ofChange codecWritesWrong)

/-- 'tinderboxlaw03.CodecBack': WHATEVER THE INPUT: true; the input reads as it did. -/
def codecBackSpec : ChangeSpec := { name := "codecBack", fn := fun _ => fun
  | [d1, d2] => { results := [.lit (.bool true)], args := [d1, d2] }
  | _ => none }
def codecBackRow : OpenClaim := { program := "ytmijkaejdgmplaadoor", sum := "1efd811cb04051ae7141a0e42ca4eec66fafcf30eb37ffd30d895be659df8d18", func := "tinderbox/tinderboxlaw03.CodecBack", spec := "codecBack", inPlace := ["internal/reflectlite.ValueOf", "(internal/reflectlite.Value).Type", "(internal/reflectlite.Value).IsNil", "internal/reflectlite.TypeOf", "(internal/reflectlite.Value).Elem", "(internal/reflectlite.Value).Set"], unfollowed := true, recurses := true, named := ["errors.errorType"], apart := false, laid := [("errors.errorType", laid_errors_errorType)] }
def CodecBackSaid : Prop := codecBackRow.holds Tryd.pinned (OpenSpec.ofChange codecBackSpec)

/-- ITS FALSE NEIGHBOUR: 'it returns false'. Refute it at one input. -/
def codecBackWrong : ChangeSpec := { name := "codecBack", fn := fun _ => fun
  | [d1, d2] => { results := [.lit (.bool false)], args := [d1, d2] }
  | _ => none }
def CodecBackWrongFalsely : Prop := codecBackRow.holds Tryd.pinned (OpenSpec.ofChange codecBackWrong)

/-- 'tinderboxlaw03.CodecAgain': WHATEVER THE INPUT: true; the input reads as it did. -/
def codecAgainSpec : ChangeSpec := { name := "codecAgain", fn := fun _ => fun
  | [d1, d2] => { results := [.lit (.bool true)], args := [d1, d2] }
  | _ => none }
def codecAgainRow : OpenClaim := { program := "ytmijkaejdgmplaadoor", sum := "1efd811cb04051ae7141a0e42ca4eec66fafcf30eb37ffd30d895be659df8d18", func := "tinderbox/tinderboxlaw03.CodecAgain", spec := "codecAgain", inPlace := ["internal/reflectlite.ValueOf", "(internal/reflectlite.Value).Type", "(internal/reflectlite.Value).IsNil", "internal/reflectlite.TypeOf", "(internal/reflectlite.Value).Elem", "(internal/reflectlite.Value).Set"], unfollowed := true, recurses := true, named := ["errors.errorType"], apart := false, laid := [("errors.errorType", laid_errors_errorType)] }
def CodecAgainSaid : Prop := codecAgainRow.holds Tryd.pinned (OpenSpec.ofChange codecAgainSpec)

/-- ITS FALSE NEIGHBOUR: 'it returns false'. Refute it at one input. -/
def codecAgainWrong : ChangeSpec := { name := "codecAgain", fn := fun _ => fun
  | [d1, d2] => { results := [.lit (.bool false)], args := [d1, d2] }
  | _ => none }
def CodecAgainWrongFalsely : Prop := codecAgainRow.holds Tryd.pinned (OpenSpec.ofChange codecAgainWrong)

/-- 'tinderboxlaw02.GlyphStands': WHATEVER THE INPUT: true; the input reads as it did. -/
def glyphStandsSpec : ChangeSpec := { name := "glyphStands", fn := fun _ => fun
  | [] => { results := [.lit (.bool true)], args := [] }
  | _ => none }
def glyphStandsRow : OpenClaim := { program := "ytmijkaejdgmplaadoor", sum := "1efd811cb04051ae7141a0e42ca4eec66fafcf30eb37ffd30d895be659df8d18", func := "tinderbox/tinderboxlaw02.GlyphStands", spec := "glyphStands", inPlace := ["internal/bytealg.IndexByteString", "internal/bytealg.CountString", "internal/bytealg.IndexString"], named := ["unicode/utf8.first", "unicode/utf8.acceptRanges", "internal/bytealg.MaxLen", "tinderbox/glyph.letters", "tinderbox/glyph.others"], apart := false, laid := [("unicode/utf8.acceptRanges", laid_unicode_utf8_acceptRanges), ("tinderbox/glyph.letters", laid_tinderbox_glyph_letters), ("tinderbox/glyph.others", laid_tinderbox_glyph_others), ("unicode/utf8.first", laid_unicode_utf8_first)] }
def GlyphStandsSaid : Prop := glyphStandsRow.holds Tryd.pinned (OpenSpec.ofChange glyphStandsSpec)

/-- ITS FALSE NEIGHBOUR: 'it returns false'. Refute it at one input. -/
def glyphStandsWrong : ChangeSpec := { name := "glyphStands", fn := fun _ => fun
  | [] => { results := [.lit (.bool false)], args := [] }
  | _ => none }
def GlyphStandsWrongFalsely : Prop := glyphStandsRow.holds Tryd.pinned (OpenSpec.ofChange glyphStandsWrong)

/-- 'tinderboxlaw02.GlyphNumbers': WHATEVER THE INPUT: true; the input reads as it did. -/
def glyphNumbersSpec : ChangeSpec := { name := "glyphNumbers", fn := fun _ => fun
  | [d1, d2] => { results := [.lit (.bool true)], args := [d1, d2] }
  | _ => none }
def glyphNumbersRow : OpenClaim := { program := "ytmijkaejdgmplaadoor", sum := "1efd811cb04051ae7141a0e42ca4eec66fafcf30eb37ffd30d895be659df8d18", func := "tinderbox/tinderboxlaw02.GlyphNumbers", spec := "glyphNumbers", inPlace := ["internal/bytealg.IndexByteString", "internal/bytealg.CountString", "internal/bytealg.IndexString"], named := ["unicode/utf8.first", "unicode/utf8.acceptRanges", "internal/bytealg.MaxLen", "tinderbox/glyph.letters", "tinderbox/glyph.others"], apart := false, laid := [("unicode/utf8.acceptRanges", laid_unicode_utf8_acceptRanges), ("tinderbox/glyph.letters", laid_tinderbox_glyph_letters), ("tinderbox/glyph.others", laid_tinderbox_glyph_others), ("unicode/utf8.first", laid_unicode_utf8_first)] }
def GlyphNumbersSaid : Prop := glyphNumbersRow.holds Tryd.pinned (OpenSpec.ofChange glyphNumbersSpec)

/-- ITS FALSE NEIGHBOUR: 'it returns false'. Refute it at one input. -/
def glyphNumbersWrong : ChangeSpec := { name := "glyphNumbers", fn := fun _ => fun
  | [d1, d2] => { results := [.lit (.bool false)], args := [d1, d2] }
  | _ => none }
def GlyphNumbersWrongFalsely : Prop := glyphNumbersRow.holds Tryd.pinned (OpenSpec.ofChange glyphNumbersWrong)

/-- 'tinderboxlaw02.GlyphTexts': WHATEVER THE INPUT: true; the input reads as it did. -/
def glyphTextsSpec : ChangeSpec := { name := "glyphTexts", fn := fun _ => fun
  | [d1, d2] => { results := [.lit (.bool true)], args := [d1, d2] }
  | _ => none }
def glyphTextsRow : OpenClaim := { program := "ytmijkaejdgmplaadoor", sum := "1efd811cb04051ae7141a0e42ca4eec66fafcf30eb37ffd30d895be659df8d18", func := "tinderbox/tinderboxlaw02.GlyphTexts", spec := "glyphTexts", inPlace := ["internal/bytealg.IndexByteString", "internal/bytealg.CountString", "internal/bytealg.IndexString"], named := ["unicode/utf8.first", "unicode/utf8.acceptRanges", "internal/bytealg.MaxLen", "tinderbox/glyph.letters", "tinderbox/glyph.others"], apart := false, laid := [("unicode/utf8.acceptRanges", laid_unicode_utf8_acceptRanges), ("tinderbox/glyph.letters", laid_tinderbox_glyph_letters), ("tinderbox/glyph.others", laid_tinderbox_glyph_others), ("unicode/utf8.first", laid_unicode_utf8_first)] }
def GlyphTextsSaid : Prop := glyphTextsRow.holds Tryd.pinned (OpenSpec.ofChange glyphTextsSpec)

/-- ITS FALSE NEIGHBOUR: 'it returns false'. Refute it at one input. -/
def glyphTextsWrong : ChangeSpec := { name := "glyphTexts", fn := fun _ => fun
  | [d1, d2] => { results := [.lit (.bool false)], args := [d1, d2] }
  | _ => none }
def GlyphTextsWrongFalsely : Prop := glyphTextsRow.holds Tryd.pinned (OpenSpec.ofChange glyphTextsWrong)

/-- 'tinderboxlaw02.GlyphCounts': WHATEVER THE INPUT: true; the input reads as it did. -/
def glyphCountsSpec : ChangeSpec := { name := "glyphCounts", fn := fun _ => fun
  | [] => { results := [.lit (.bool true)], args := [] }
  | _ => none }
def glyphCountsRow : OpenClaim := { program := "ytmijkaejdgmplaadoor", sum := "1efd811cb04051ae7141a0e42ca4eec66fafcf30eb37ffd30d895be659df8d18", func := "tinderbox/tinderboxlaw02.GlyphCounts", spec := "glyphCounts", inPlace := ["internal/bytealg.IndexByteString", "internal/bytealg.CountString", "internal/bytealg.IndexString"], named := ["unicode/utf8.first", "unicode/utf8.acceptRanges", "internal/bytealg.MaxLen", "tinderbox/glyph.letters", "tinderbox/glyph.others"], apart := false, laid := [("unicode/utf8.acceptRanges", laid_unicode_utf8_acceptRanges), ("tinderbox/glyph.letters", laid_tinderbox_glyph_letters), ("tinderbox/glyph.others", laid_tinderbox_glyph_others), ("unicode/utf8.first", laid_unicode_utf8_first)] }
def GlyphCountsSaid : Prop := glyphCountsRow.holds Tryd.pinned (OpenSpec.ofChange glyphCountsSpec)

/-- ITS FALSE NEIGHBOUR: 'it returns false'. Refute it at one input. -/
def glyphCountsWrong : ChangeSpec := { name := "glyphCounts", fn := fun _ => fun
  | [] => { results := [.lit (.bool false)], args := [] }
  | _ => none }
def GlyphCountsWrongFalsely : Prop := glyphCountsRow.holds Tryd.pinned (OpenSpec.ofChange glyphCountsWrong)

/-- 'tinderboxlaw02.GlyphBack': WHATEVER THE INPUT: true; the input reads as it did. -/
def glyphBackSpec : ChangeSpec := { name := "glyphBack", fn := fun _ => fun
  | [d1, d2] => { results := [.lit (.bool true)], args := [d1, d2] }
  | _ => none }
def glyphBackRow : OpenClaim := { program := "ytmijkaejdgmplaadoor", sum := "1efd811cb04051ae7141a0e42ca4eec66fafcf30eb37ffd30d895be659df8d18", func := "tinderbox/tinderboxlaw02.GlyphBack", spec := "glyphBack", inPlace := ["internal/bytealg.IndexByteString", "internal/bytealg.CountString", "internal/bytealg.IndexString"], named := ["unicode/utf8.first", "unicode/utf8.acceptRanges", "internal/bytealg.MaxLen", "tinderbox/glyph.letters", "tinderbox/glyph.others"], apart := false, laid := [("unicode/utf8.acceptRanges", laid_unicode_utf8_acceptRanges), ("tinderbox/glyph.letters", laid_tinderbox_glyph_letters), ("tinderbox/glyph.others", laid_tinderbox_glyph_others), ("unicode/utf8.first", laid_unicode_utf8_first)] }
def GlyphBackSaid : Prop := glyphBackRow.holds Tryd.pinned (OpenSpec.ofChange glyphBackSpec)

/-- ITS FALSE NEIGHBOUR: 'it returns false'. Refute it at one input. -/
def glyphBackWrong : ChangeSpec := { name := "glyphBack", fn := fun _ => fun
  | [d1, d2] => { results := [.lit (.bool false)], args := [d1, d2] }
  | _ => none }
def GlyphBackWrongFalsely : Prop := glyphBackRow.holds Tryd.pinned (OpenSpec.ofChange glyphBackWrong)

/- THE SECOND FORM. 'bulk': how many values and letters a reading holds, each counted each time it is reached (what is shared counts as often as it is met; a slice's spare places count too). A statement '..UptoSaid' is the law's where the arguments, and the package variables that the reading takes, are together of bulk at most 1048576: NARROWER than '..Said'. Prove '..Said' where nothing that the law and all that it calls make is longer than what came in: it says more and counts as full. Else prove '..UptoSaid'. A law counts once. -/
mutual
def uptoBulk {H : Type} : DataW H → Nat
  | .lit (.string bytes) => bytes.length + 1
  | .lit _ => 1
  | .nil => 1
  | .ptr d => uptoBulk d + 1
  | .slice elems spare => uptoBulkAll elems + uptoBulkAll spare + 1
  | .agg parts => uptoBulkAll parts + 1
  | .iface _ d => uptoBulk d + 1
  | .map entries => uptoBulkEntries entries + 1
  | .held _ => 1
def uptoBulkAll {H : Type} : List (DataW H) → Nat
  | [] => 0
  | d :: r => uptoBulk d + uptoBulkAll r
def uptoBulkEntries {H : Type} : List (Lit × DataW H) → Nat
  | [] => 0
  | x :: r => uptoBulkEntry x + uptoBulkEntries r
def uptoBulkEntry {H : Type} : Lit × DataW H → Nat
  | (.string bytes, d) => bytes.length + uptoBulk d + 1
  | (_, d) => uptoBulk d + 1
 end
def uptoSmall : (H : Type) → List (DataW H) → Bool := fun _ ds => decide (uptoBulkAll ds ≤ 1048576)
def OpenSpec.upto (s : _root_.Go.ChangeSpec) : _root_.Go.OpenSpec := { _root_.Go.OpenSpec.ofChange s with cond := some uptoSmall }

/-- 'tinderboxlaw03.CodecWrites', WHERE WHAT IT READS IS OF BULK AT MOST 1048576: true; the input reads as it did. -/
def codecWritesUptoRow : OpenClaim := { program := "ytmijkaejdgmplaadoor", sum := "1efd811cb04051ae7141a0e42ca4eec66fafcf30eb37ffd30d895be659df8d18", func := "tinderbox/tinderboxlaw03.CodecWrites", spec := "codecWrites", inPlace := ["internal/reflectlite.ValueOf", "(internal/reflectlite.Value).Type", "(internal/reflectlite.Value).IsNil", "internal/reflectlite.TypeOf", "(internal/reflectlite.Value).Elem", "(internal/reflectlite.Value).Set"], unfollowed := true, recurses := true, named := ["errors.errorType"], apart := false, laid := [("errors.errorType", laid_errors_errorType)], narrowed := true }
def CodecWritesUptoSaid : Prop := codecWritesUptoRow.holds Tryd.pinned (OpenSpec.upto codecWritesSpec)

/-- 'tinderboxlaw03.CodecBack', WHERE WHAT IT READS IS OF BULK AT MOST 1048576: true; the input reads as it did. -/
def codecBackUptoRow : OpenClaim := { program := "ytmijkaejdgmplaadoor", sum := "1efd811cb04051ae7141a0e42ca4eec66fafcf30eb37ffd30d895be659df8d18", func := "tinderbox/tinderboxlaw03.CodecBack", spec := "codecBack", inPlace := ["internal/reflectlite.ValueOf", "(internal/reflectlite.Value).Type", "(internal/reflectlite.Value).IsNil", "internal/reflectlite.TypeOf", "(internal/reflectlite.Value).Elem", "(internal/reflectlite.Value).Set"], unfollowed := true, recurses := true, named := ["errors.errorType"], apart := false, laid := [("errors.errorType", laid_errors_errorType)], narrowed := true }
def CodecBackUptoSaid : Prop := codecBackUptoRow.holds Tryd.pinned (OpenSpec.upto codecBackSpec)

/-- 'tinderboxlaw03.CodecAgain', WHERE WHAT IT READS IS OF BULK AT MOST 1048576: true; the input reads as it did. -/
def codecAgainUptoRow : OpenClaim := { program := "ytmijkaejdgmplaadoor", sum := "1efd811cb04051ae7141a0e42ca4eec66fafcf30eb37ffd30d895be659df8d18", func := "tinderbox/tinderboxlaw03.CodecAgain", spec := "codecAgain", inPlace := ["internal/reflectlite.ValueOf", "(internal/reflectlite.Value).Type", "(internal/reflectlite.Value).IsNil", "internal/reflectlite.TypeOf", "(internal/reflectlite.Value).Elem", "(internal/reflectlite.Value).Set"], unfollowed := true, recurses := true, named := ["errors.errorType"], apart := false, laid := [("errors.errorType", laid_errors_errorType)], narrowed := true }
def CodecAgainUptoSaid : Prop := codecAgainUptoRow.holds Tryd.pinned (OpenSpec.upto codecAgainSpec)

/-- 'tinderboxlaw02.GlyphStands', WHERE WHAT IT READS IS OF BULK AT MOST 1048576: true; the input reads as it did. -/
def glyphStandsUptoRow : OpenClaim := { program := "ytmijkaejdgmplaadoor", sum := "1efd811cb04051ae7141a0e42ca4eec66fafcf30eb37ffd30d895be659df8d18", func := "tinderbox/tinderboxlaw02.GlyphStands", spec := "glyphStands", inPlace := ["internal/bytealg.IndexByteString", "internal/bytealg.CountString", "internal/bytealg.IndexString"], named := ["unicode/utf8.first", "unicode/utf8.acceptRanges", "internal/bytealg.MaxLen", "tinderbox/glyph.letters", "tinderbox/glyph.others"], apart := false, laid := [("unicode/utf8.acceptRanges", laid_unicode_utf8_acceptRanges), ("tinderbox/glyph.letters", laid_tinderbox_glyph_letters), ("tinderbox/glyph.others", laid_tinderbox_glyph_others), ("unicode/utf8.first", laid_unicode_utf8_first)], narrowed := true }
def GlyphStandsUptoSaid : Prop := glyphStandsUptoRow.holds Tryd.pinned (OpenSpec.upto glyphStandsSpec)

/-- 'tinderboxlaw02.GlyphNumbers', WHERE WHAT IT READS IS OF BULK AT MOST 1048576: true; the input reads as it did. -/
def glyphNumbersUptoRow : OpenClaim := { program := "ytmijkaejdgmplaadoor", sum := "1efd811cb04051ae7141a0e42ca4eec66fafcf30eb37ffd30d895be659df8d18", func := "tinderbox/tinderboxlaw02.GlyphNumbers", spec := "glyphNumbers", inPlace := ["internal/bytealg.IndexByteString", "internal/bytealg.CountString", "internal/bytealg.IndexString"], named := ["unicode/utf8.first", "unicode/utf8.acceptRanges", "internal/bytealg.MaxLen", "tinderbox/glyph.letters", "tinderbox/glyph.others"], apart := false, laid := [("unicode/utf8.acceptRanges", laid_unicode_utf8_acceptRanges), ("tinderbox/glyph.letters", laid_tinderbox_glyph_letters), ("tinderbox/glyph.others", laid_tinderbox_glyph_others), ("unicode/utf8.first", laid_unicode_utf8_first)], narrowed := true }
def GlyphNumbersUptoSaid : Prop := glyphNumbersUptoRow.holds Tryd.pinned (OpenSpec.upto glyphNumbersSpec)

/-- 'tinderboxlaw02.GlyphTexts', WHERE WHAT IT READS IS OF BULK AT MOST 1048576: true; the input reads as it did. -/
def glyphTextsUptoRow : OpenClaim := { program := "ytmijkaejdgmplaadoor", sum := "1efd811cb04051ae7141a0e42ca4eec66fafcf30eb37ffd30d895be659df8d18", func := "tinderbox/tinderboxlaw02.GlyphTexts", spec := "glyphTexts", inPlace := ["internal/bytealg.IndexByteString", "internal/bytealg.CountString", "internal/bytealg.IndexString"], named := ["unicode/utf8.first", "unicode/utf8.acceptRanges", "internal/bytealg.MaxLen", "tinderbox/glyph.letters", "tinderbox/glyph.others"], apart := false, laid := [("unicode/utf8.acceptRanges", laid_unicode_utf8_acceptRanges), ("tinderbox/glyph.letters", laid_tinderbox_glyph_letters), ("tinderbox/glyph.others", laid_tinderbox_glyph_others), ("unicode/utf8.first", laid_unicode_utf8_first)], narrowed := true }
def GlyphTextsUptoSaid : Prop := glyphTextsUptoRow.holds Tryd.pinned (OpenSpec.upto glyphTextsSpec)

/-- 'tinderboxlaw02.GlyphCounts', WHERE WHAT IT READS IS OF BULK AT MOST 1048576: true; the input reads as it did. -/
def glyphCountsUptoRow : OpenClaim := { program := "ytmijkaejdgmplaadoor", sum := "1efd811cb04051ae7141a0e42ca4eec66fafcf30eb37ffd30d895be659df8d18", func := "tinderbox/tinderboxlaw02.GlyphCounts", spec := "glyphCounts", inPlace := ["internal/bytealg.IndexByteString", "internal/bytealg.CountString", "internal/bytealg.IndexString"], named := ["unicode/utf8.first", "unicode/utf8.acceptRanges", "internal/bytealg.MaxLen", "tinderbox/glyph.letters", "tinderbox/glyph.others"], apart := false, laid := [("unicode/utf8.acceptRanges", laid_unicode_utf8_acceptRanges), ("tinderbox/glyph.letters", laid_tinderbox_glyph_letters), ("tinderbox/glyph.others", laid_tinderbox_glyph_others), ("unicode/utf8.first", laid_unicode_utf8_first)], narrowed := true }
def GlyphCountsUptoSaid : Prop := glyphCountsUptoRow.holds Tryd.pinned (OpenSpec.upto glyphCountsSpec)

/-- 'tinderboxlaw02.GlyphBack', WHERE WHAT IT READS IS OF BULK AT MOST 1048576: true; the input reads as it did. -/
def glyphBackUptoRow : OpenClaim := { program := "ytmijkaejdgmplaadoor", sum := "1efd811cb04051ae7141a0e42ca4eec66fafcf30eb37ffd30d895be659df8d18", func := "tinderbox/tinderboxlaw02.GlyphBack", spec := "glyphBack", inPlace := ["internal/bytealg.IndexByteString", "internal/bytealg.CountString", "internal/bytealg.IndexString"], named := ["unicode/utf8.first", "unicode/utf8.acceptRanges", "internal/bytealg.MaxLen", "tinderbox/glyph.letters", "tinderbox/glyph.others"], apart := false, laid := [("unicode/utf8.acceptRanges", laid_unicode_utf8_acceptRanges), ("tinderbox/glyph.letters", laid_tinderbox_glyph_letters), ("tinderbox/glyph.others", laid_tinderbox_glyph_others), ("unicode/utf8.first", laid_unicode_utf8_first)], narrowed := true }
def GlyphBackUptoSaid : Prop := glyphBackUptoRow.holds Tryd.pinned (OpenSpec.upto glyphBackSpec)

end Rows
end Go.Proofs.YtmijkaejdgmplaaDoor
