/-
  NARROWER THAN 'FOR EVERY INPUT', by the rows' own cells (each row's printed sentence says how): RefsNames: laid · RefsMeans: laid · RefsExpands: laid · RefsApart: laid · DeriveStands: laid.
  DERIVED. THE GIVEN ROWS OF THIS SEAT. 5 by the template 'for every input the law returns true; each argument reads behind the call as it read before'; 0 by the template 'total and deterministic' (their statements: YtbelnaiekbfoiaaGreatDoorTotals.lean).
  GIVEN WITH THE SEED: the statements are not yours to turn. If you find one false, say at which input.
  Laid BY PROGRAM, IN A SANDBOX (cutbox-rows.mjs): the forced cells as the released guide's own fill.sh prints them over the translation e5e3b1bbf847dfdc… (all of the seat's roots in one cut). By AI agents, Wed Nov 11 2026. No macro, syntax, notation, axiom, sorry.
-/
import Derived.Test.YtbelnaiekbfoiaaGreatDoorChecked
import GoSem.PinnedTables
import GoSem.Claim
import GoSem.ClaimJoined
import GoSem.ClaimMapViews
import Derived.JoinedTies
import Derived.KernelRfl
namespace Go.Proofs.YtbelnaiekbfoiaaGreatDoor
/- THE CELL 'sum', in the pinned program and in every row, IS THE sha256 OF THE DUMP (.gsa) THAT YtbelnaiekbfoiaaGreatDoorProg.lean LOADS. Nothing in Lean hashes anything: it is a label: what it is worth is what the hold of that sum in a sandbox is worth. -/
noncomputable def Tryz.pinned : Pinned := { name := "ytbelnaiekbfoiaagreatdoor", sum := "e5e3b1bbf847dfdc1c8eb0bf5f2e46424a4660c371b344593d418ab7b6c4a7a4", checked := Tryz.checked }
namespace Rows
def none {H : Type} : Left H := { results := [], args := [] }

/- WHAT THE LISTED PACKAGE-LEVEL VARIABLES READ AS WHEN THE CALL BEGINS. Each datum BY PROGRAM (the guide's laid-datum.mjs) off the statement by which the dump's own 'gosem.cut.vars' lays the variable. In a bare row this is a premise. The card (YtbelnaiekbfoiaaGreatDoorCards.lean) ties it to the program's text. -/
def laid_math_bits_deBruijn32tab {H : Type} : DataW H := .agg [.lit (.int .u8 0), .lit (.int .u8 1), .lit (.int .u8 28), .lit (.int .u8 2), .lit (.int .u8 29), .lit (.int .u8 14), .lit (.int .u8 24), .lit (.int .u8 3), .lit (.int .u8 30), .lit (.int .u8 22), .lit (.int .u8 20), .lit (.int .u8 15), .lit (.int .u8 25), .lit (.int .u8 17), .lit (.int .u8 4), .lit (.int .u8 8), .lit (.int .u8 31), .lit (.int .u8 27), .lit (.int .u8 13), .lit (.int .u8 23), .lit (.int .u8 21), .lit (.int .u8 19), .lit (.int .u8 16), .lit (.int .u8 7), .lit (.int .u8 26), .lit (.int .u8 12), .lit (.int .u8 18), .lit (.int .u8 6), .lit (.int .u8 11), .lit (.int .u8 5), .lit (.int .u8 10), .lit (.int .u8 9)]
def laid_math_bits_deBruijn64tab {H : Type} : DataW H := .agg [.lit (.int .u8 0), .lit (.int .u8 1), .lit (.int .u8 56), .lit (.int .u8 2), .lit (.int .u8 57), .lit (.int .u8 49), .lit (.int .u8 28), .lit (.int .u8 3), .lit (.int .u8 61), .lit (.int .u8 58), .lit (.int .u8 42), .lit (.int .u8 50), .lit (.int .u8 38), .lit (.int .u8 29), .lit (.int .u8 17), .lit (.int .u8 4), .lit (.int .u8 62), .lit (.int .u8 47), .lit (.int .u8 59), .lit (.int .u8 36), .lit (.int .u8 45), .lit (.int .u8 43), .lit (.int .u8 51), .lit (.int .u8 22), .lit (.int .u8 53), .lit (.int .u8 39), .lit (.int .u8 33), .lit (.int .u8 30), .lit (.int .u8 24), .lit (.int .u8 18), .lit (.int .u8 12), .lit (.int .u8 5), .lit (.int .u8 63), .lit (.int .u8 55), .lit (.int .u8 48), .lit (.int .u8 27), .lit (.int .u8 60), .lit (.int .u8 41), .lit (.int .u8 37), .lit (.int .u8 16), .lit (.int .u8 46), .lit (.int .u8 35), .lit (.int .u8 44), .lit (.int .u8 21), .lit (.int .u8 52), .lit (.int .u8 32), .lit (.int .u8 23), .lit (.int .u8 11), .lit (.int .u8 54), .lit (.int .u8 26), .lit (.int .u8 40), .lit (.int .u8 15), .lit (.int .u8 34), .lit (.int .u8 20), .lit (.int .u8 31), .lit (.int .u8 10), .lit (.int .u8 25), .lit (.int .u8 14), .lit (.int .u8 19), .lit (.int .u8 9), .lit (.int .u8 13), .lit (.int .u8 8), .lit (.int .u8 7), .lit (.int .u8 6)]
def laid_internal_strconv_uint64pow10 {H : Type} : DataW H := .agg [.lit (.int .u64 1), .lit (.int .u64 10), .lit (.int .u64 100), .lit (.int .u64 1000), .lit (.int .u64 10000), .lit (.int .u64 100000), .lit (.int .u64 1000000), .lit (.int .u64 10000000), .lit (.int .u64 100000000), .lit (.int .u64 1000000000), .lit (.int .u64 10000000000), .lit (.int .u64 100000000000), .lit (.int .u64 1000000000000), .lit (.int .u64 10000000000000), .lit (.int .u64 100000000000000), .lit (.int .u64 1000000000000000), .lit (.int .u64 10000000000000000), .lit (.int .u64 100000000000000000), .lit (.int .u64 1000000000000000000), .lit (.int .u64 10000000000000000000)]
def laid_unicode_utf8_acceptRanges {H : Type} : DataW H := .agg [.agg [.lit (.int .u8 128), .lit (.int .u8 191)], .agg [.lit (.int .u8 160), .lit (.int .u8 191)], .agg [.lit (.int .u8 128), .lit (.int .u8 159)], .agg [.lit (.int .u8 144), .lit (.int .u8 191)], .agg [.lit (.int .u8 128), .lit (.int .u8 143)], .agg [.lit (.int .u8 0), .lit (.int .u8 0)], .agg [.lit (.int .u8 0), .lit (.int .u8 0)], .agg [.lit (.int .u8 0), .lit (.int .u8 0)], .agg [.lit (.int .u8 0), .lit (.int .u8 0)], .agg [.lit (.int .u8 0), .lit (.int .u8 0)], .agg [.lit (.int .u8 0), .lit (.int .u8 0)], .agg [.lit (.int .u8 0), .lit (.int .u8 0)], .agg [.lit (.int .u8 0), .lit (.int .u8 0)], .agg [.lit (.int .u8 0), .lit (.int .u8 0)], .agg [.lit (.int .u8 0), .lit (.int .u8 0)], .agg [.lit (.int .u8 0), .lit (.int .u8 0)]]
def laid_strconv_ErrRange {H : Type} : DataW H := .iface "*errors.errorString" (.ptr (.agg [.lit (.string [118, 97, 108, 117, 101, 32, 111, 117, 116, 32, 111, 102, 32, 114, 97, 110, 103, 101])]))
def laid_strconv_ErrSyntax {H : Type} : DataW H := .iface "*errors.errorString" (.ptr (.agg [.lit (.string [105, 110, 118, 97, 108, 105, 100, 32, 115, 121, 110, 116, 97, 120])]))
def laid_tinderbox_glyph_letters {H : Type} : DataW H := .agg [.agg [.lit (.int .u8 97), .lit (.int .u8 122), .lit (.int .i64 1)], .agg [.lit (.int .u8 65), .lit (.int .u8 90), .lit (.int .i64 2)], .agg [.lit (.int .u8 48), .lit (.int .u8 57), .lit (.int .i64 3)]]
def laid_tinderbox_glyph_others {H : Type} : DataW H := .agg [.agg [.lit (.int .u8 32), .lit (.int .u8 32), .lit (.int .i64 4)], .agg [.lit (.int .u8 9), .lit (.int .u8 9), .lit (.int .i64 4)], .agg [.lit (.int .u8 10), .lit (.int .u8 10), .lit (.int .i64 6)], .agg [.lit (.int .u8 13), .lit (.int .u8 13), .lit (.int .i64 6)], .agg [.lit (.int .u8 33), .lit (.int .u8 47), .lit (.int .i64 5)], .agg [.lit (.int .u8 58), .lit (.int .u8 64), .lit (.int .i64 5)], .agg [.lit (.int .u8 91), .lit (.int .u8 96), .lit (.int .i64 5)], .agg [.lit (.int .u8 123), .lit (.int .u8 126), .lit (.int .i64 5)]]
def laid_tinderbox_value_units {H : Type} : DataW H := .agg [.agg [.lit (.int .i64 3), .lit (.string []), .lit (.int .i64 1)], .agg [.lit (.int .i64 3), .lit (.string [107]), .lit (.int .i64 1024)], .agg [.lit (.int .i64 3), .lit (.string [109]), .lit (.int .i64 1048576)], .agg [.lit (.int .i64 3), .lit (.string [103]), .lit (.int .i64 1073741824)], .agg [.lit (.int .i64 4), .lit (.string [115]), .lit (.int .i64 1)], .agg [.lit (.int .i64 4), .lit (.string [109]), .lit (.int .i64 60)], .agg [.lit (.int .i64 4), .lit (.string [104]), .lit (.int .i64 3600)], .agg [.lit (.int .i64 4), .lit (.string [100]), .lit (.int .i64 86400)]]
/-- One of Go's own tables, pinned by name: the form's constant. -/
def laid_unicode_utf8_first : DataW Unit := Go.Pinned.utf8First

/-- 'tinderboxlaw10.RefsNames': WHATEVER THE INPUT: true; the input reads as it did. -/
def refsNamesSpec : ChangeSpec := { name := "refsNames", fn := fun _ => fun
  | [d1, d2] => { results := [.lit (.bool true)], args := [d1, d2] }
  | _ => none }
def refsNamesRow : OpenClaim := { program := "ytbelnaiekbfoiaagreatdoor", sum := "e5e3b1bbf847dfdc1c8eb0bf5f2e46424a4660c371b344593d418ab7b6c4a7a4", func := "tinderbox/tinderboxlaw10.RefsNames", spec := "refsNames", inPlace := ["internal/bytealg.IndexByteString", "internal/bytealg.IndexString", "internal/bytealg.CountString", "internal/abi.NoEscape", "internal/bytealg.MakeNoZero", "internal/bytealg.abigen_runtime_cmpstring", "slices.overlaps[tinderbox/api.Key]"], unfollowed := true, recurses := true, named := ["internal/bytealg.MaxLen", "unicode/utf8.first", "unicode/utf8.acceptRanges", "tinderbox/glyph.letters", "tinderbox/glyph.others", "tinderbox/value.units", "strconv.ErrSyntax", "strconv.ErrRange", "internal/strconv.uint64pow10", "math/bits.deBruijn32tab", "math/bits.deBruijn64tab"], apart := false, laid := [("math/bits.deBruijn32tab", laid_math_bits_deBruijn32tab), ("math/bits.deBruijn64tab", laid_math_bits_deBruijn64tab), ("internal/strconv.uint64pow10", laid_internal_strconv_uint64pow10), ("unicode/utf8.acceptRanges", laid_unicode_utf8_acceptRanges), ("strconv.ErrRange", laid_strconv_ErrRange), ("strconv.ErrSyntax", laid_strconv_ErrSyntax), ("tinderbox/glyph.letters", laid_tinderbox_glyph_letters), ("tinderbox/glyph.others", laid_tinderbox_glyph_others), ("tinderbox/value.units", laid_tinderbox_value_units), ("unicode/utf8.first", laid_unicode_utf8_first)] }
def RefsNamesSaid : Prop := refsNamesRow.holds Tryz.pinned (OpenSpec.ofChange refsNamesSpec)

/-- ITS FALSE NEIGHBOUR: 'it returns false'. Refute it at one input. -/
def refsNamesWrong : ChangeSpec := { name := "refsNames", fn := fun _ => fun
  | [d1, d2] => { results := [.lit (.bool false)], args := [d1, d2] }
  | _ => none }
def RefsNamesWrongFalsely : Prop := refsNamesRow.holds Tryz.pinned (OpenSpec.ofChange refsNamesWrong)

/-- 'tinderboxlaw10.RefsMeans': WHATEVER THE INPUT: true; the input reads as it did. -/
def refsMeansSpec : ChangeSpec := { name := "refsMeans", fn := fun _ => fun
  | [d1, d2] => { results := [.lit (.bool true)], args := [d1, d2] }
  | _ => none }
def refsMeansRow : OpenClaim := { program := "ytbelnaiekbfoiaagreatdoor", sum := "e5e3b1bbf847dfdc1c8eb0bf5f2e46424a4660c371b344593d418ab7b6c4a7a4", func := "tinderbox/tinderboxlaw10.RefsMeans", spec := "refsMeans", inPlace := ["internal/bytealg.IndexByteString", "internal/bytealg.IndexString", "internal/bytealg.CountString", "internal/abi.NoEscape", "internal/bytealg.MakeNoZero", "internal/bytealg.abigen_runtime_cmpstring", "slices.overlaps[tinderbox/api.Key]"], unfollowed := true, recurses := true, named := ["internal/bytealg.MaxLen", "unicode/utf8.first", "unicode/utf8.acceptRanges", "tinderbox/glyph.letters", "tinderbox/glyph.others", "tinderbox/value.units", "strconv.ErrSyntax", "strconv.ErrRange", "internal/strconv.uint64pow10", "math/bits.deBruijn32tab", "math/bits.deBruijn64tab"], apart := false, laid := [("math/bits.deBruijn32tab", laid_math_bits_deBruijn32tab), ("math/bits.deBruijn64tab", laid_math_bits_deBruijn64tab), ("internal/strconv.uint64pow10", laid_internal_strconv_uint64pow10), ("unicode/utf8.acceptRanges", laid_unicode_utf8_acceptRanges), ("strconv.ErrRange", laid_strconv_ErrRange), ("strconv.ErrSyntax", laid_strconv_ErrSyntax), ("tinderbox/glyph.letters", laid_tinderbox_glyph_letters), ("tinderbox/glyph.others", laid_tinderbox_glyph_others), ("tinderbox/value.units", laid_tinderbox_value_units), ("unicode/utf8.first", laid_unicode_utf8_first)] }
def RefsMeansSaid : Prop := refsMeansRow.holds Tryz.pinned (OpenSpec.ofChange refsMeansSpec)

/-- ITS FALSE NEIGHBOUR: 'it returns false'. Refute it at one input. -/
def refsMeansWrong : ChangeSpec := { name := "refsMeans", fn := fun _ => fun
  | [d1, d2] => { results := [.lit (.bool false)], args := [d1, d2] }
  | _ => none }
def RefsMeansWrongFalsely : Prop := refsMeansRow.holds Tryz.pinned (OpenSpec.ofChange refsMeansWrong)

/-- 'tinderboxlaw10.RefsExpands': WHATEVER THE INPUT: true; the input reads as it did. -/
def refsExpandsSpec : ChangeSpec := { name := "refsExpands", fn := fun _ => fun
  | [d1, d2] => { results := [.lit (.bool true)], args := [d1, d2] }
  | _ => none }
def refsExpandsRow : OpenClaim := { program := "ytbelnaiekbfoiaagreatdoor", sum := "e5e3b1bbf847dfdc1c8eb0bf5f2e46424a4660c371b344593d418ab7b6c4a7a4", func := "tinderbox/tinderboxlaw10.RefsExpands", spec := "refsExpands", inPlace := ["internal/bytealg.IndexByteString", "internal/bytealg.IndexString", "internal/bytealg.CountString", "internal/abi.NoEscape", "internal/bytealg.MakeNoZero", "internal/bytealg.abigen_runtime_cmpstring", "slices.overlaps[tinderbox/api.Key]"], unfollowed := true, recurses := true, named := ["internal/bytealg.MaxLen", "unicode/utf8.first", "unicode/utf8.acceptRanges", "tinderbox/glyph.letters", "tinderbox/glyph.others", "tinderbox/value.units", "strconv.ErrSyntax", "strconv.ErrRange", "internal/strconv.uint64pow10", "math/bits.deBruijn32tab", "math/bits.deBruijn64tab"], apart := false, laid := [("math/bits.deBruijn32tab", laid_math_bits_deBruijn32tab), ("math/bits.deBruijn64tab", laid_math_bits_deBruijn64tab), ("internal/strconv.uint64pow10", laid_internal_strconv_uint64pow10), ("unicode/utf8.acceptRanges", laid_unicode_utf8_acceptRanges), ("strconv.ErrRange", laid_strconv_ErrRange), ("strconv.ErrSyntax", laid_strconv_ErrSyntax), ("tinderbox/glyph.letters", laid_tinderbox_glyph_letters), ("tinderbox/glyph.others", laid_tinderbox_glyph_others), ("tinderbox/value.units", laid_tinderbox_value_units), ("unicode/utf8.first", laid_unicode_utf8_first)] }
def RefsExpandsSaid : Prop := refsExpandsRow.holds Tryz.pinned (OpenSpec.ofChange refsExpandsSpec)

/-- ITS FALSE NEIGHBOUR: 'it returns false'. Refute it at one input. -/
def refsExpandsWrong : ChangeSpec := { name := "refsExpands", fn := fun _ => fun
  | [d1, d2] => { results := [.lit (.bool false)], args := [d1, d2] }
  | _ => none }
def RefsExpandsWrongFalsely : Prop := refsExpandsRow.holds Tryz.pinned (OpenSpec.ofChange refsExpandsWrong)

/-- 'tinderboxlaw10.RefsApart': WHATEVER THE INPUT: true; the input reads as it did. -/
def refsApartSpec : ChangeSpec := { name := "refsApart", fn := fun _ => fun
  | [d1, d2, d3, d4] => { results := [.lit (.bool true)], args := [d1, d2, d3, d4] }
  | _ => none }
def refsApartRow : OpenClaim := { program := "ytbelnaiekbfoiaagreatdoor", sum := "e5e3b1bbf847dfdc1c8eb0bf5f2e46424a4660c371b344593d418ab7b6c4a7a4", func := "tinderbox/tinderboxlaw10.RefsApart", spec := "refsApart", inPlace := ["internal/bytealg.IndexByteString", "internal/bytealg.IndexString", "internal/bytealg.CountString", "internal/abi.NoEscape", "internal/bytealg.MakeNoZero", "internal/bytealg.abigen_runtime_cmpstring", "slices.overlaps[tinderbox/api.Key]"], unfollowed := true, recurses := true, named := ["internal/bytealg.MaxLen", "unicode/utf8.first", "unicode/utf8.acceptRanges", "tinderbox/glyph.letters", "tinderbox/glyph.others", "tinderbox/value.units", "strconv.ErrSyntax", "strconv.ErrRange", "internal/strconv.uint64pow10", "math/bits.deBruijn32tab", "math/bits.deBruijn64tab"], apart := false, laid := [("math/bits.deBruijn32tab", laid_math_bits_deBruijn32tab), ("math/bits.deBruijn64tab", laid_math_bits_deBruijn64tab), ("internal/strconv.uint64pow10", laid_internal_strconv_uint64pow10), ("unicode/utf8.acceptRanges", laid_unicode_utf8_acceptRanges), ("strconv.ErrRange", laid_strconv_ErrRange), ("strconv.ErrSyntax", laid_strconv_ErrSyntax), ("tinderbox/glyph.letters", laid_tinderbox_glyph_letters), ("tinderbox/glyph.others", laid_tinderbox_glyph_others), ("tinderbox/value.units", laid_tinderbox_value_units), ("unicode/utf8.first", laid_unicode_utf8_first)] }
def RefsApartSaid : Prop := refsApartRow.holds Tryz.pinned (OpenSpec.ofChange refsApartSpec)

/-- ITS FALSE NEIGHBOUR: 'it returns false'. Refute it at one input. -/
def refsApartWrong : ChangeSpec := { name := "refsApart", fn := fun _ => fun
  | [d1, d2, d3, d4] => { results := [.lit (.bool false)], args := [d1, d2, d3, d4] }
  | _ => none }
def RefsApartWrongFalsely : Prop := refsApartRow.holds Tryz.pinned (OpenSpec.ofChange refsApartWrong)

/-- 'tinderboxlaw12.DeriveStands': WHATEVER THE INPUT: true; the input reads as it did. -/
def deriveStandsSpec : ChangeSpec := { name := "deriveStands", fn := fun _ => fun
  | [] => { results := [.lit (.bool true)], args := [] }
  | _ => none }
def deriveStandsRow : OpenClaim := { program := "ytbelnaiekbfoiaagreatdoor", sum := "e5e3b1bbf847dfdc1c8eb0bf5f2e46424a4660c371b344593d418ab7b6c4a7a4", func := "tinderbox/tinderboxlaw12.DeriveStands", spec := "deriveStands", inPlace := ["internal/bytealg.CountString", "internal/bytealg.IndexByteString", "internal/bytealg.IndexString", "internal/abi.NoEscape", "internal/bytealg.MakeNoZero", "internal/bytealg.abigen_runtime_cmpstring", "slices.overlaps[tinderbox/api.Key]"], unfollowed := true, recurses := true, named := ["unicode/utf8.first", "unicode/utf8.acceptRanges", "internal/bytealg.MaxLen", "tinderbox/glyph.letters", "tinderbox/glyph.others", "tinderbox/value.units", "strconv.ErrSyntax", "strconv.ErrRange", "internal/strconv.uint64pow10", "math/bits.deBruijn32tab", "math/bits.deBruijn64tab"], apart := false, laid := [("math/bits.deBruijn32tab", laid_math_bits_deBruijn32tab), ("math/bits.deBruijn64tab", laid_math_bits_deBruijn64tab), ("internal/strconv.uint64pow10", laid_internal_strconv_uint64pow10), ("unicode/utf8.acceptRanges", laid_unicode_utf8_acceptRanges), ("strconv.ErrRange", laid_strconv_ErrRange), ("strconv.ErrSyntax", laid_strconv_ErrSyntax), ("tinderbox/glyph.letters", laid_tinderbox_glyph_letters), ("tinderbox/glyph.others", laid_tinderbox_glyph_others), ("tinderbox/value.units", laid_tinderbox_value_units), ("unicode/utf8.first", laid_unicode_utf8_first)] }
def DeriveStandsSaid : Prop := deriveStandsRow.holds Tryz.pinned (OpenSpec.ofChange deriveStandsSpec)

/-- ITS FALSE NEIGHBOUR: 'it returns false'. Refute it at one input. -/
def deriveStandsWrong : ChangeSpec := { name := "deriveStands", fn := fun _ => fun
  | [] => { results := [.lit (.bool false)], args := [] }
  | _ => none }
def DeriveStandsWrongFalsely : Prop := deriveStandsRow.holds Tryz.pinned (OpenSpec.ofChange deriveStandsWrong)

/- THE SECOND FORM. 'bulk': how many values and letters a reading holds, each counted each time it is reached (what is shared counts as often as it is met; a slice's spare places count too). A statement '..UptoSaid' is the law's where the arguments, and the package variables that the reading takes, are together of bulk at most 1048576: NARROWER than '..Said'. Prove '..Said' where nothing that the law and all that it calls make is longer than what came in: it says more and counts as full. Else prove '..UptoSaid'. A law counts once. -/
mutual
def uptoBulk {H : Type} : DataW H → Nat
  | .lit (.string bytes) => bytes.length + 1
  | .lit _ => 1
  | .nil => 1
  | .ptr d => uptoBulk d + 1
  | .slice elems spare => uptoBulkAll elems + uptoBulkAll spare + 1
  | .agg parts => uptoBulkAll parts + 1
  | .iface _ d => uptoBulk d + 1
  | .map entries => uptoBulkEntries entries + 1
  | .held _ => 1
def uptoBulkAll {H : Type} : List (DataW H) → Nat
  | [] => 0
  | d :: r => uptoBulk d + uptoBulkAll r
def uptoBulkEntries {H : Type} : List (Lit × DataW H) → Nat
  | [] => 0
  | x :: r => uptoBulkEntry x + uptoBulkEntries r
def uptoBulkEntry {H : Type} : Lit × DataW H → Nat
  | (.string bytes, d) => bytes.length + uptoBulk d + 1
  | (_, d) => uptoBulk d + 1
 end
def uptoSmall : (H : Type) → List (DataW H) → Bool := fun _ ds => decide (uptoBulkAll ds ≤ 1048576)
def OpenSpec.upto (s : _root_.Go.ChangeSpec) : _root_.Go.OpenSpec := { _root_.Go.OpenSpec.ofChange s with cond := some uptoSmall }

/-- 'tinderboxlaw10.RefsNames', WHERE WHAT IT READS IS OF BULK AT MOST 1048576: true; the input reads as it did. -/
def refsNamesUptoRow : OpenClaim := { program := "ytbelnaiekbfoiaagreatdoor", sum := "e5e3b1bbf847dfdc1c8eb0bf5f2e46424a4660c371b344593d418ab7b6c4a7a4", func := "tinderbox/tinderboxlaw10.RefsNames", spec := "refsNames", inPlace := ["internal/bytealg.IndexByteString", "internal/bytealg.IndexString", "internal/bytealg.CountString", "internal/abi.NoEscape", "internal/bytealg.MakeNoZero", "internal/bytealg.abigen_runtime_cmpstring", "slices.overlaps[tinderbox/api.Key]"], unfollowed := true, recurses := true, named := ["internal/bytealg.MaxLen", "unicode/utf8.first", "unicode/utf8.acceptRanges", "tinderbox/glyph.letters", "tinderbox/glyph.others", "tinderbox/value.units", "strconv.ErrSyntax", "strconv.ErrRange", "internal/strconv.uint64pow10", "math/bits.deBruijn32tab", "math/bits.deBruijn64tab"], apart := false, laid := [("math/bits.deBruijn32tab", laid_math_bits_deBruijn32tab), ("math/bits.deBruijn64tab", laid_math_bits_deBruijn64tab), ("internal/strconv.uint64pow10", laid_internal_strconv_uint64pow10), ("unicode/utf8.acceptRanges", laid_unicode_utf8_acceptRanges), ("strconv.ErrRange", laid_strconv_ErrRange), ("strconv.ErrSyntax", laid_strconv_ErrSyntax), ("tinderbox/glyph.letters", laid_tinderbox_glyph_letters), ("tinderbox/glyph.others", laid_tinderbox_glyph_others), ("tinderbox/value.units", laid_tinderbox_value_units), ("unicode/utf8.first", laid_unicode_utf8_first)], narrowed := true }
def RefsNamesUptoSaid : Prop := refsNamesUptoRow.holds Tryz.pinned (OpenSpec.upto refsNamesSpec)

/-- 'tinderboxlaw10.RefsMeans', WHERE WHAT IT READS IS OF BULK AT MOST 1048576: true; the input reads as it did. -/
def refsMeansUptoRow : OpenClaim := { program := "ytbelnaiekbfoiaagreatdoor", sum := "e5e3b1bbf847dfdc1c8eb0bf5f2e46424a4660c371b344593d418ab7b6c4a7a4", func := "tinderbox/tinderboxlaw10.RefsMeans", spec := "refsMeans", inPlace := ["internal/bytealg.IndexByteString", "internal/bytealg.IndexString", "internal/bytealg.CountString", "internal/abi.NoEscape", "internal/bytealg.MakeNoZero", "internal/bytealg.abigen_runtime_cmpstring", "slices.overlaps[tinderbox/api.Key]"], unfollowed := true, recurses := true, named := ["internal/bytealg.MaxLen", "unicode/utf8.first", "unicode/utf8.acceptRanges", "tinderbox/glyph.letters", "tinderbox/glyph.others", "tinderbox/value.units", "strconv.ErrSyntax", "strconv.ErrRange", "internal/strconv.uint64pow10", "math/bits.deBruijn32tab", "math/bits.deBruijn64tab"], apart := false, laid := [("math/bits.deBruijn32tab", laid_math_bits_deBruijn32tab), ("math/bits.deBruijn64tab", laid_math_bits_deBruijn64tab), ("internal/strconv.uint64pow10", laid_internal_strconv_uint64pow10), ("unicode/utf8.acceptRanges", laid_unicode_utf8_acceptRanges), ("strconv.ErrRange", laid_strconv_ErrRange), ("strconv.ErrSyntax", laid_strconv_ErrSyntax), ("tinderbox/glyph.letters", laid_tinderbox_glyph_letters), ("tinderbox/glyph.others", laid_tinderbox_glyph_others), ("tinderbox/value.units", laid_tinderbox_value_units), ("unicode/utf8.first", laid_unicode_utf8_first)], narrowed := true }
def RefsMeansUptoSaid : Prop := refsMeansUptoRow.holds Tryz.pinned (OpenSpec.upto refsMeansSpec)

/-- 'tinderboxlaw10.RefsExpands', WHERE WHAT IT READS IS OF BULK AT MOST 1048576: true; the input reads as it did. -/
def refsExpandsUptoRow : OpenClaim := { program := "ytbelnaiekbfoiaagreatdoor", sum := "e5e3b1bbf847dfdc1c8eb0bf5f2e46424a4660c371b344593d418ab7b6c4a7a4", func := "tinderbox/tinderboxlaw10.RefsExpands", spec := "refsExpands", inPlace := ["internal/bytealg.IndexByteString", "internal/bytealg.IndexString", "internal/bytealg.CountString", "internal/abi.NoEscape", "internal/bytealg.MakeNoZero", "internal/bytealg.abigen_runtime_cmpstring", "slices.overlaps[tinderbox/api.Key]"], unfollowed := true, recurses := true, named := ["internal/bytealg.MaxLen", "unicode/utf8.first", "unicode/utf8.acceptRanges", "tinderbox/glyph.letters", "tinderbox/glyph.others", "tinderbox/value.units", "strconv.ErrSyntax", "strconv.ErrRange", "internal/strconv.uint64pow10", "math/bits.deBruijn32tab", "math/bits.deBruijn64tab"], apart := false, laid := [("math/bits.deBruijn32tab", laid_math_bits_deBruijn32tab), ("math/bits.deBruijn64tab", laid_math_bits_deBruijn64tab), ("internal/strconv.uint64pow10", laid_internal_strconv_uint64pow10), ("unicode/utf8.acceptRanges", laid_unicode_utf8_acceptRanges), ("strconv.ErrRange", laid_strconv_ErrRange), ("strconv.ErrSyntax", laid_strconv_ErrSyntax), ("tinderbox/glyph.letters", laid_tinderbox_glyph_letters), ("tinderbox/glyph.others", laid_tinderbox_glyph_others), ("tinderbox/value.units", laid_tinderbox_value_units), ("unicode/utf8.first", laid_unicode_utf8_first)], narrowed := true }
def RefsExpandsUptoSaid : Prop := refsExpandsUptoRow.holds Tryz.pinned (OpenSpec.upto refsExpandsSpec)

/-- 'tinderboxlaw10.RefsApart', WHERE WHAT IT READS IS OF BULK AT MOST 1048576: true; the input reads as it did. -/
def refsApartUptoRow : OpenClaim := { program := "ytbelnaiekbfoiaagreatdoor", sum := "e5e3b1bbf847dfdc1c8eb0bf5f2e46424a4660c371b344593d418ab7b6c4a7a4", func := "tinderbox/tinderboxlaw10.RefsApart", spec := "refsApart", inPlace := ["internal/bytealg.IndexByteString", "internal/bytealg.IndexString", "internal/bytealg.CountString", "internal/abi.NoEscape", "internal/bytealg.MakeNoZero", "internal/bytealg.abigen_runtime_cmpstring", "slices.overlaps[tinderbox/api.Key]"], unfollowed := true, recurses := true, named := ["internal/bytealg.MaxLen", "unicode/utf8.first", "unicode/utf8.acceptRanges", "tinderbox/glyph.letters", "tinderbox/glyph.others", "tinderbox/value.units", "strconv.ErrSyntax", "strconv.ErrRange", "internal/strconv.uint64pow10", "math/bits.deBruijn32tab", "math/bits.deBruijn64tab"], apart := false, laid := [("math/bits.deBruijn32tab", laid_math_bits_deBruijn32tab), ("math/bits.deBruijn64tab", laid_math_bits_deBruijn64tab), ("internal/strconv.uint64pow10", laid_internal_strconv_uint64pow10), ("unicode/utf8.acceptRanges", laid_unicode_utf8_acceptRanges), ("strconv.ErrRange", laid_strconv_ErrRange), ("strconv.ErrSyntax", laid_strconv_ErrSyntax), ("tinderbox/glyph.letters", laid_tinderbox_glyph_letters), ("tinderbox/glyph.others", laid_tinderbox_glyph_others), ("tinderbox/value.units", laid_tinderbox_value_units), ("unicode/utf8.first", laid_unicode_utf8_first)], narrowed := true }
def RefsApartUptoSaid : Prop := refsApartUptoRow.holds Tryz.pinned (OpenSpec.upto refsApartSpec)

/-- 'tinderboxlaw12.DeriveStands', WHERE WHAT IT READS IS OF BULK AT MOST 1048576: true; the input reads as it did. -/
def deriveStandsUptoRow : OpenClaim := { program := "ytbelnaiekbfoiaagreatdoor", sum := "e5e3b1bbf847dfdc1c8eb0bf5f2e46424a4660c371b344593d418ab7b6c4a7a4", func := "tinderbox/tinderboxlaw12.DeriveStands", spec := "deriveStands", inPlace := ["internal/bytealg.CountString", "internal/bytealg.IndexByteString", "internal/bytealg.IndexString", "internal/abi.NoEscape", "internal/bytealg.MakeNoZero", "internal/bytealg.abigen_runtime_cmpstring", "slices.overlaps[tinderbox/api.Key]"], unfollowed := true, recurses := true, named := ["unicode/utf8.first", "unicode/utf8.acceptRanges", "internal/bytealg.MaxLen", "tinderbox/glyph.letters", "tinderbox/glyph.others", "tinderbox/value.units", "strconv.ErrSyntax", "strconv.ErrRange", "internal/strconv.uint64pow10", "math/bits.deBruijn32tab", "math/bits.deBruijn64tab"], apart := false, laid := [("math/bits.deBruijn32tab", laid_math_bits_deBruijn32tab), ("math/bits.deBruijn64tab", laid_math_bits_deBruijn64tab), ("internal/strconv.uint64pow10", laid_internal_strconv_uint64pow10), ("unicode/utf8.acceptRanges", laid_unicode_utf8_acceptRanges), ("strconv.ErrRange", laid_strconv_ErrRange), ("strconv.ErrSyntax", laid_strconv_ErrSyntax), ("tinderbox/glyph.letters", laid_tinderbox_glyph_letters), ("tinderbox/glyph.others", laid_tinderbox_glyph_others), ("tinderbox/value.units", laid_tinderbox_value_units), ("unicode/utf8.first", laid_unicode_utf8_first)], narrowed := true }
def DeriveStandsUptoSaid : Prop := deriveStandsUptoRow.holds Tryz.pinned (OpenSpec.upto deriveStandsSpec)

end Rows
end Go.Proofs.YtbelnaiekbfoiaaGreatDoor
