/-
  NARROWER THAN 'FOR EVERY INPUT', by the rows' own cells (each row's printed sentence says how): BaseStands: laid · StepRights: laid · StepApplies: laid · StepBack: laid · StepAlone: laid · StepStands: laid · StepCalls: laid · StepScripts: laid · BaseMakes: laid · ExtraNeeds: laid · PlanStands: laid.
  DERIVED. THE GIVEN ROWS OF THIS SEAT. 11 by the template 'for every input the law returns true; each argument reads behind the call as it read before'; 0 by the template 'total and deterministic' (their statements: YthjcifokmcbaoaaGreatDoorTotals.lean).
  GIVEN WITH THE SEED: the statements are not yours to turn. If you find one false, say at which input.
  Laid BY PROGRAM, IN A SANDBOX (cutbox-rows.mjs): the forced cells as the released guide's own fill.sh prints them over the translation 4129e516d4f7abc2… (all of the seat's roots in one cut). By AI agents, Wed Nov 11 2026. No macro, syntax, notation, axiom, sorry.
-/
import Derived.Test.YthjcifokmcbaoaaGreatDoorChecked
import GoSem.PinnedTables
import GoSem.Claim
import GoSem.ClaimJoined
import GoSem.ClaimMapViews
import Derived.JoinedTies
import Derived.KernelRfl
namespace Go.Proofs.YthjcifokmcbaoaaGreatDoor
/- THE CELL 'sum', in the pinned program and in every row, IS THE sha256 OF THE DUMP (.gsa) THAT YthjcifokmcbaoaaGreatDoorProg.lean LOADS. Nothing in Lean hashes anything: it is a label: what it is worth is what the hold of that sum in a sandbox is worth. -/
noncomputable def Tryz.pinned : Pinned := { name := "ythjcifokmcbaoaagreatdoor", sum := "4129e516d4f7abc2294d43f4b72f6fb9bc761e80f84b432fc3e3f2fd562a07bd", checked := Tryz.checked }
namespace Rows
def none {H : Type} : Left H := { results := [], args := [] }

/- WHAT THE LISTED PACKAGE-LEVEL VARIABLES READ AS WHEN THE CALL BEGINS. Each datum BY PROGRAM (the guide's laid-datum.mjs) off the statement by which the dump's own 'gosem.cut.vars' lays the variable. In a bare row this is a premise. The card (YthjcifokmcbaoaaGreatDoorCards.lean) ties it to the program's text. -/
def laid_math_bits_deBruijn32tab {H : Type} : DataW H := .agg [.lit (.int .u8 0), .lit (.int .u8 1), .lit (.int .u8 28), .lit (.int .u8 2), .lit (.int .u8 29), .lit (.int .u8 14), .lit (.int .u8 24), .lit (.int .u8 3), .lit (.int .u8 30), .lit (.int .u8 22), .lit (.int .u8 20), .lit (.int .u8 15), .lit (.int .u8 25), .lit (.int .u8 17), .lit (.int .u8 4), .lit (.int .u8 8), .lit (.int .u8 31), .lit (.int .u8 27), .lit (.int .u8 13), .lit (.int .u8 23), .lit (.int .u8 21), .lit (.int .u8 19), .lit (.int .u8 16), .lit (.int .u8 7), .lit (.int .u8 26), .lit (.int .u8 12), .lit (.int .u8 18), .lit (.int .u8 6), .lit (.int .u8 11), .lit (.int .u8 5), .lit (.int .u8 10), .lit (.int .u8 9)]
def laid_math_bits_deBruijn64tab {H : Type} : DataW H := .agg [.lit (.int .u8 0), .lit (.int .u8 1), .lit (.int .u8 56), .lit (.int .u8 2), .lit (.int .u8 57), .lit (.int .u8 49), .lit (.int .u8 28), .lit (.int .u8 3), .lit (.int .u8 61), .lit (.int .u8 58), .lit (.int .u8 42), .lit (.int .u8 50), .lit (.int .u8 38), .lit (.int .u8 29), .lit (.int .u8 17), .lit (.int .u8 4), .lit (.int .u8 62), .lit (.int .u8 47), .lit (.int .u8 59), .lit (.int .u8 36), .lit (.int .u8 45), .lit (.int .u8 43), .lit (.int .u8 51), .lit (.int .u8 22), .lit (.int .u8 53), .lit (.int .u8 39), .lit (.int .u8 33), .lit (.int .u8 30), .lit (.int .u8 24), .lit (.int .u8 18), .lit (.int .u8 12), .lit (.int .u8 5), .lit (.int .u8 63), .lit (.int .u8 55), .lit (.int .u8 48), .lit (.int .u8 27), .lit (.int .u8 60), .lit (.int .u8 41), .lit (.int .u8 37), .lit (.int .u8 16), .lit (.int .u8 46), .lit (.int .u8 35), .lit (.int .u8 44), .lit (.int .u8 21), .lit (.int .u8 52), .lit (.int .u8 32), .lit (.int .u8 23), .lit (.int .u8 11), .lit (.int .u8 54), .lit (.int .u8 26), .lit (.int .u8 40), .lit (.int .u8 15), .lit (.int .u8 34), .lit (.int .u8 20), .lit (.int .u8 31), .lit (.int .u8 10), .lit (.int .u8 25), .lit (.int .u8 14), .lit (.int .u8 19), .lit (.int .u8 9), .lit (.int .u8 13), .lit (.int .u8 8), .lit (.int .u8 7), .lit (.int .u8 6)]
def laid_internal_strconv_uint64pow10 {H : Type} : DataW H := .agg [.lit (.int .u64 1), .lit (.int .u64 10), .lit (.int .u64 100), .lit (.int .u64 1000), .lit (.int .u64 10000), .lit (.int .u64 100000), .lit (.int .u64 1000000), .lit (.int .u64 10000000), .lit (.int .u64 100000000), .lit (.int .u64 1000000000), .lit (.int .u64 10000000000), .lit (.int .u64 100000000000), .lit (.int .u64 1000000000000), .lit (.int .u64 10000000000000), .lit (.int .u64 100000000000000), .lit (.int .u64 1000000000000000), .lit (.int .u64 10000000000000000), .lit (.int .u64 100000000000000000), .lit (.int .u64 1000000000000000000), .lit (.int .u64 10000000000000000000)]
def laid_unicode_utf8_acceptRanges {H : Type} : DataW H := .agg [.agg [.lit (.int .u8 128), .lit (.int .u8 191)], .agg [.lit (.int .u8 160), .lit (.int .u8 191)], .agg [.lit (.int .u8 128), .lit (.int .u8 159)], .agg [.lit (.int .u8 144), .lit (.int .u8 191)], .agg [.lit (.int .u8 128), .lit (.int .u8 143)], .agg [.lit (.int .u8 0), .lit (.int .u8 0)], .agg [.lit (.int .u8 0), .lit (.int .u8 0)], .agg [.lit (.int .u8 0), .lit (.int .u8 0)], .agg [.lit (.int .u8 0), .lit (.int .u8 0)], .agg [.lit (.int .u8 0), .lit (.int .u8 0)], .agg [.lit (.int .u8 0), .lit (.int .u8 0)], .agg [.lit (.int .u8 0), .lit (.int .u8 0)], .agg [.lit (.int .u8 0), .lit (.int .u8 0)], .agg [.lit (.int .u8 0), .lit (.int .u8 0)], .agg [.lit (.int .u8 0), .lit (.int .u8 0)], .agg [.lit (.int .u8 0), .lit (.int .u8 0)]]
def laid_strconv_ErrRange {H : Type} : DataW H := .iface "*errors.errorString" (.ptr (.agg [.lit (.string [118, 97, 108, 117, 101, 32, 111, 117, 116, 32, 111, 102, 32, 114, 97, 110, 103, 101])]))
def laid_strconv_ErrSyntax {H : Type} : DataW H := .iface "*errors.errorString" (.ptr (.agg [.lit (.string [105, 110, 118, 97, 108, 105, 100, 32, 115, 121, 110, 116, 97, 120])]))
def laid_tinderbox_glyph_letters {H : Type} : DataW H := .agg [.agg [.lit (.int .u8 97), .lit (.int .u8 122), .lit (.int .i64 1)], .agg [.lit (.int .u8 65), .lit (.int .u8 90), .lit (.int .i64 2)], .agg [.lit (.int .u8 48), .lit (.int .u8 57), .lit (.int .i64 3)]]
def laid_tinderbox_glyph_others {H : Type} : DataW H := .agg [.agg [.lit (.int .u8 32), .lit (.int .u8 32), .lit (.int .i64 4)], .agg [.lit (.int .u8 9), .lit (.int .u8 9), .lit (.int .i64 4)], .agg [.lit (.int .u8 10), .lit (.int .u8 10), .lit (.int .i64 6)], .agg [.lit (.int .u8 13), .lit (.int .u8 13), .lit (.int .i64 6)], .agg [.lit (.int .u8 33), .lit (.int .u8 47), .lit (.int .i64 5)], .agg [.lit (.int .u8 58), .lit (.int .u8 64), .lit (.int .i64 5)], .agg [.lit (.int .u8 91), .lit (.int .u8 96), .lit (.int .i64 5)], .agg [.lit (.int .u8 123), .lit (.int .u8 126), .lit (.int .i64 5)]]
def laid_tinderbox_step_names {H : Type} : DataW H := .agg [.lit (.string [100, 111, 117, 98, 108, 101]), .lit (.string [108, 111, 119, 101, 114]), .lit (.string [114, 101, 118, 101, 114, 115, 101]), .lit (.string [116, 114, 105, 109]), .lit (.string [117, 112, 112, 101, 114])]
/-- One of Go's own tables, pinned by name: the form's constant. -/
def laid_unicode_utf8_first : DataW Unit := Go.Pinned.utf8First

/-- 'tinderboxlaw18.BaseStands': WHATEVER THE INPUT: true; the input reads as it did. -/
def baseStandsSpec : ChangeSpec := { name := "baseStands", fn := fun _ => fun
  | [d] => { results := [.lit (.bool true)], args := [d] }
  | _ => none }
def baseStandsRow : OpenClaim := { program := "ythjcifokmcbaoaagreatdoor", sum := "4129e516d4f7abc2294d43f4b72f6fb9bc761e80f84b432fc3e3f2fd562a07bd", func := "tinderbox/tinderboxlaw18.BaseStands", spec := "baseStands", inPlace := ["internal/bytealg.IndexByteString", "internal/bytealg.IndexString", "internal/bytealg.abigen_runtime_cmpstring", "slices.overlaps[tinderbox/api.Move]"], unfollowed := true, recurses := true, named := ["tinderbox/glyph.letters", "tinderbox/glyph.others", "tinderbox/step.names", "strconv.ErrSyntax", "strconv.ErrRange", "internal/strconv.uint64pow10", "math/bits.deBruijn32tab", "math/bits.deBruijn64tab", "unicode/utf8.first", "unicode/utf8.acceptRanges", "internal/bytealg.MaxLen"], apart := false, laid := [("math/bits.deBruijn32tab", laid_math_bits_deBruijn32tab), ("math/bits.deBruijn64tab", laid_math_bits_deBruijn64tab), ("internal/strconv.uint64pow10", laid_internal_strconv_uint64pow10), ("unicode/utf8.acceptRanges", laid_unicode_utf8_acceptRanges), ("strconv.ErrRange", laid_strconv_ErrRange), ("strconv.ErrSyntax", laid_strconv_ErrSyntax), ("tinderbox/glyph.letters", laid_tinderbox_glyph_letters), ("tinderbox/glyph.others", laid_tinderbox_glyph_others), ("tinderbox/step.names", laid_tinderbox_step_names), ("unicode/utf8.first", laid_unicode_utf8_first)] }
def BaseStandsSaid : Prop := baseStandsRow.holds Tryz.pinned (OpenSpec.ofChange baseStandsSpec)

/-- ITS FALSE NEIGHBOUR: 'it returns false'. Refute it at one input. -/
def baseStandsWrong : ChangeSpec := { name := "baseStands", fn := fun _ => fun
  | [d] => { results := [.lit (.bool false)], args := [d] }
  | _ => none }
def BaseStandsWrongFalsely : Prop := baseStandsRow.holds Tryz.pinned (OpenSpec.ofChange baseStandsWrong)

/-- 'tinderboxlaw16.StepRights': WHATEVER THE INPUT: true; the input reads as it did. -/
def stepRightsSpec : ChangeSpec := { name := "stepRights", fn := fun _ => fun
  | [d] => { results := [.lit (.bool true)], args := [d] }
  | _ => none }
def stepRightsRow : OpenClaim := { program := "ythjcifokmcbaoaagreatdoor", sum := "4129e516d4f7abc2294d43f4b72f6fb9bc761e80f84b432fc3e3f2fd562a07bd", func := "tinderbox/tinderboxlaw16.StepRights", spec := "stepRights", inPlace := ["internal/bytealg.IndexByteString", "internal/bytealg.IndexString"], unfollowed := true, recurses := true, named := ["tinderbox/glyph.letters", "tinderbox/glyph.others", "tinderbox/step.names", "strconv.ErrSyntax", "strconv.ErrRange", "internal/strconv.uint64pow10", "math/bits.deBruijn32tab", "math/bits.deBruijn64tab", "unicode/utf8.first", "unicode/utf8.acceptRanges", "internal/bytealg.MaxLen"], apart := false, laid := [("math/bits.deBruijn32tab", laid_math_bits_deBruijn32tab), ("math/bits.deBruijn64tab", laid_math_bits_deBruijn64tab), ("internal/strconv.uint64pow10", laid_internal_strconv_uint64pow10), ("unicode/utf8.acceptRanges", laid_unicode_utf8_acceptRanges), ("strconv.ErrRange", laid_strconv_ErrRange), ("strconv.ErrSyntax", laid_strconv_ErrSyntax), ("tinderbox/glyph.letters", laid_tinderbox_glyph_letters), ("tinderbox/glyph.others", laid_tinderbox_glyph_others), ("tinderbox/step.names", laid_tinderbox_step_names), ("unicode/utf8.first", laid_unicode_utf8_first)] }
def StepRightsSaid : Prop := stepRightsRow.holds Tryz.pinned (OpenSpec.ofChange stepRightsSpec)

/-- ITS FALSE NEIGHBOUR: 'it returns false'. Refute it at one input. -/
def stepRightsWrong : ChangeSpec := { name := "stepRights", fn := fun _ => fun
  | [d] => { results := [.lit (.bool false)], args := [d] }
  | _ => none }
def StepRightsWrongFalsely : Prop := stepRightsRow.holds Tryz.pinned (OpenSpec.ofChange stepRightsWrong)

/-- 'tinderboxlaw16.StepApplies': WHATEVER THE INPUT: true; the input reads as it did. -/
def stepAppliesSpec : ChangeSpec := { name := "stepApplies", fn := fun _ => fun
  | [d1, d2, d3] => { results := [.lit (.bool true)], args := [d1, d2, d3] }
  | _ => none }
def stepAppliesRow : OpenClaim := { program := "ythjcifokmcbaoaagreatdoor", sum := "4129e516d4f7abc2294d43f4b72f6fb9bc761e80f84b432fc3e3f2fd562a07bd", func := "tinderbox/tinderboxlaw16.StepApplies", spec := "stepApplies", inPlace := ["internal/bytealg.IndexByteString", "internal/bytealg.IndexString"], unfollowed := true, recurses := true, named := ["tinderbox/glyph.letters", "tinderbox/glyph.others", "tinderbox/step.names", "strconv.ErrSyntax", "strconv.ErrRange", "internal/strconv.uint64pow10", "math/bits.deBruijn32tab", "math/bits.deBruijn64tab", "unicode/utf8.first", "unicode/utf8.acceptRanges", "internal/bytealg.MaxLen"], apart := false, laid := [("math/bits.deBruijn32tab", laid_math_bits_deBruijn32tab), ("math/bits.deBruijn64tab", laid_math_bits_deBruijn64tab), ("internal/strconv.uint64pow10", laid_internal_strconv_uint64pow10), ("unicode/utf8.acceptRanges", laid_unicode_utf8_acceptRanges), ("strconv.ErrRange", laid_strconv_ErrRange), ("strconv.ErrSyntax", laid_strconv_ErrSyntax), ("tinderbox/glyph.letters", laid_tinderbox_glyph_letters), ("tinderbox/glyph.others", laid_tinderbox_glyph_others), ("tinderbox/step.names", laid_tinderbox_step_names), ("unicode/utf8.first", laid_unicode_utf8_first)] }
def StepAppliesSaid : Prop := stepAppliesRow.holds Tryz.pinned (OpenSpec.ofChange stepAppliesSpec)

/-- ITS FALSE NEIGHBOUR: 'it returns false'. Refute it at one input. -/
def stepAppliesWrong : ChangeSpec := { name := "stepApplies", fn := fun _ => fun
  | [d1, d2, d3] => { results := [.lit (.bool false)], args := [d1, d2, d3] }
  | _ => none }
def StepAppliesWrongFalsely : Prop := stepAppliesRow.holds Tryz.pinned (OpenSpec.ofChange stepAppliesWrong)

/-- 'tinderboxlaw16.StepBack': WHATEVER THE INPUT: true; the input reads as it did. -/
def stepBackSpec : ChangeSpec := { name := "stepBack", fn := fun _ => fun
  | [d1, d2, d3, d4, d5] => { results := [.lit (.bool true)], args := [d1, d2, d3, d4, d5] }
  | _ => none }
def stepBackRow : OpenClaim := { program := "ythjcifokmcbaoaagreatdoor", sum := "4129e516d4f7abc2294d43f4b72f6fb9bc761e80f84b432fc3e3f2fd562a07bd", func := "tinderbox/tinderboxlaw16.StepBack", spec := "stepBack", inPlace := ["internal/bytealg.IndexByteString", "internal/bytealg.IndexString"], unfollowed := true, recurses := true, named := ["tinderbox/glyph.letters", "tinderbox/glyph.others", "tinderbox/step.names", "strconv.ErrSyntax", "strconv.ErrRange", "internal/strconv.uint64pow10", "math/bits.deBruijn32tab", "math/bits.deBruijn64tab", "unicode/utf8.first", "unicode/utf8.acceptRanges", "internal/bytealg.MaxLen"], apart := false, laid := [("math/bits.deBruijn32tab", laid_math_bits_deBruijn32tab), ("math/bits.deBruijn64tab", laid_math_bits_deBruijn64tab), ("internal/strconv.uint64pow10", laid_internal_strconv_uint64pow10), ("unicode/utf8.acceptRanges", laid_unicode_utf8_acceptRanges), ("strconv.ErrRange", laid_strconv_ErrRange), ("strconv.ErrSyntax", laid_strconv_ErrSyntax), ("tinderbox/glyph.letters", laid_tinderbox_glyph_letters), ("tinderbox/glyph.others", laid_tinderbox_glyph_others), ("tinderbox/step.names", laid_tinderbox_step_names), ("unicode/utf8.first", laid_unicode_utf8_first)] }
def StepBackSaid : Prop := stepBackRow.holds Tryz.pinned (OpenSpec.ofChange stepBackSpec)

/-- ITS FALSE NEIGHBOUR: 'it returns false'. Refute it at one input. -/
def stepBackWrong : ChangeSpec := { name := "stepBack", fn := fun _ => fun
  | [d1, d2, d3, d4, d5] => { results := [.lit (.bool false)], args := [d1, d2, d3, d4, d5] }
  | _ => none }
def StepBackWrongFalsely : Prop := stepBackRow.holds Tryz.pinned (OpenSpec.ofChange stepBackWrong)

/-- 'tinderboxlaw16.StepAlone': WHATEVER THE INPUT: true; the input reads as it did. -/
def stepAloneSpec : ChangeSpec := { name := "stepAlone", fn := fun _ => fun
  | [d1, d2] => { results := [.lit (.bool true)], args := [d1, d2] }
  | _ => none }
def stepAloneRow : OpenClaim := { program := "ythjcifokmcbaoaagreatdoor", sum := "4129e516d4f7abc2294d43f4b72f6fb9bc761e80f84b432fc3e3f2fd562a07bd", func := "tinderbox/tinderboxlaw16.StepAlone", spec := "stepAlone", inPlace := ["internal/bytealg.IndexByteString", "internal/bytealg.IndexString"], unfollowed := true, recurses := true, named := ["tinderbox/glyph.letters", "tinderbox/glyph.others", "tinderbox/step.names", "strconv.ErrSyntax", "strconv.ErrRange", "internal/strconv.uint64pow10", "math/bits.deBruijn32tab", "math/bits.deBruijn64tab", "unicode/utf8.first", "unicode/utf8.acceptRanges", "internal/bytealg.MaxLen"], apart := false, laid := [("math/bits.deBruijn32tab", laid_math_bits_deBruijn32tab), ("math/bits.deBruijn64tab", laid_math_bits_deBruijn64tab), ("internal/strconv.uint64pow10", laid_internal_strconv_uint64pow10), ("unicode/utf8.acceptRanges", laid_unicode_utf8_acceptRanges), ("strconv.ErrRange", laid_strconv_ErrRange), ("strconv.ErrSyntax", laid_strconv_ErrSyntax), ("tinderbox/glyph.letters", laid_tinderbox_glyph_letters), ("tinderbox/glyph.others", laid_tinderbox_glyph_others), ("tinderbox/step.names", laid_tinderbox_step_names), ("unicode/utf8.first", laid_unicode_utf8_first)] }
def StepAloneSaid : Prop := stepAloneRow.holds Tryz.pinned (OpenSpec.ofChange stepAloneSpec)

/-- ITS FALSE NEIGHBOUR: 'it returns false'. Refute it at one input. -/
def stepAloneWrong : ChangeSpec := { name := "stepAlone", fn := fun _ => fun
  | [d1, d2] => { results := [.lit (.bool false)], args := [d1, d2] }
  | _ => none }
def StepAloneWrongFalsely : Prop := stepAloneRow.holds Tryz.pinned (OpenSpec.ofChange stepAloneWrong)

/-- 'tinderboxlaw16.StepStands': WHATEVER THE INPUT: true; the input reads as it did. -/
def stepStandsSpec : ChangeSpec := { name := "stepStands", fn := fun _ => fun
  | [] => { results := [.lit (.bool true)], args := [] }
  | _ => none }
def stepStandsRow : OpenClaim := { program := "ythjcifokmcbaoaagreatdoor", sum := "4129e516d4f7abc2294d43f4b72f6fb9bc761e80f84b432fc3e3f2fd562a07bd", func := "tinderbox/tinderboxlaw16.StepStands", spec := "stepStands", inPlace := ["internal/bytealg.IndexByteString", "internal/bytealg.IndexString"], unfollowed := true, recurses := true, named := ["tinderbox/glyph.letters", "tinderbox/glyph.others", "tinderbox/step.names", "strconv.ErrSyntax", "strconv.ErrRange", "internal/strconv.uint64pow10", "math/bits.deBruijn32tab", "math/bits.deBruijn64tab", "unicode/utf8.first", "unicode/utf8.acceptRanges", "internal/bytealg.MaxLen"], apart := false, laid := [("math/bits.deBruijn32tab", laid_math_bits_deBruijn32tab), ("math/bits.deBruijn64tab", laid_math_bits_deBruijn64tab), ("internal/strconv.uint64pow10", laid_internal_strconv_uint64pow10), ("unicode/utf8.acceptRanges", laid_unicode_utf8_acceptRanges), ("strconv.ErrRange", laid_strconv_ErrRange), ("strconv.ErrSyntax", laid_strconv_ErrSyntax), ("tinderbox/glyph.letters", laid_tinderbox_glyph_letters), ("tinderbox/glyph.others", laid_tinderbox_glyph_others), ("tinderbox/step.names", laid_tinderbox_step_names), ("unicode/utf8.first", laid_unicode_utf8_first)] }
def StepStandsSaid : Prop := stepStandsRow.holds Tryz.pinned (OpenSpec.ofChange stepStandsSpec)

/-- ITS FALSE NEIGHBOUR: 'it returns false'. Refute it at one input. -/
def stepStandsWrong : ChangeSpec := { name := "stepStands", fn := fun _ => fun
  | [] => { results := [.lit (.bool false)], args := [] }
  | _ => none }
def StepStandsWrongFalsely : Prop := stepStandsRow.holds Tryz.pinned (OpenSpec.ofChange stepStandsWrong)

/-- 'tinderboxlaw16.StepCalls': WHATEVER THE INPUT: true; the input reads as it did. -/
def stepCallsSpec : ChangeSpec := { name := "stepCalls", fn := fun _ => fun
  | [d1, d2] => { results := [.lit (.bool true)], args := [d1, d2] }
  | _ => none }
def stepCallsRow : OpenClaim := { program := "ythjcifokmcbaoaagreatdoor", sum := "4129e516d4f7abc2294d43f4b72f6fb9bc761e80f84b432fc3e3f2fd562a07bd", func := "tinderbox/tinderboxlaw16.StepCalls", spec := "stepCalls", inPlace := ["internal/bytealg.IndexByteString", "internal/bytealg.IndexString"], unfollowed := true, recurses := true, named := ["tinderbox/step.names", "strconv.ErrSyntax", "strconv.ErrRange", "internal/strconv.uint64pow10", "math/bits.deBruijn32tab", "math/bits.deBruijn64tab", "unicode/utf8.first", "unicode/utf8.acceptRanges", "tinderbox/glyph.letters", "tinderbox/glyph.others", "internal/bytealg.MaxLen"], apart := false, laid := [("math/bits.deBruijn32tab", laid_math_bits_deBruijn32tab), ("math/bits.deBruijn64tab", laid_math_bits_deBruijn64tab), ("internal/strconv.uint64pow10", laid_internal_strconv_uint64pow10), ("unicode/utf8.acceptRanges", laid_unicode_utf8_acceptRanges), ("strconv.ErrRange", laid_strconv_ErrRange), ("strconv.ErrSyntax", laid_strconv_ErrSyntax), ("tinderbox/glyph.letters", laid_tinderbox_glyph_letters), ("tinderbox/glyph.others", laid_tinderbox_glyph_others), ("tinderbox/step.names", laid_tinderbox_step_names), ("unicode/utf8.first", laid_unicode_utf8_first)] }
def StepCallsSaid : Prop := stepCallsRow.holds Tryz.pinned (OpenSpec.ofChange stepCallsSpec)

/-- ITS FALSE NEIGHBOUR: 'it returns false'. Refute it at one input. -/
def stepCallsWrong : ChangeSpec := { name := "stepCalls", fn := fun _ => fun
  | [d1, d2] => { results := [.lit (.bool false)], args := [d1, d2] }
  | _ => none }
def StepCallsWrongFalsely : Prop := stepCallsRow.holds Tryz.pinned (OpenSpec.ofChange stepCallsWrong)

/-- 'tinderboxlaw16.StepScripts': WHATEVER THE INPUT: true; the input reads as it did. -/
def stepScriptsSpec : ChangeSpec := { name := "stepScripts", fn := fun _ => fun
  | [d1, d2] => { results := [.lit (.bool true)], args := [d1, d2] }
  | _ => none }
def stepScriptsRow : OpenClaim := { program := "ythjcifokmcbaoaagreatdoor", sum := "4129e516d4f7abc2294d43f4b72f6fb9bc761e80f84b432fc3e3f2fd562a07bd", func := "tinderbox/tinderboxlaw16.StepScripts", spec := "stepScripts", inPlace := ["internal/bytealg.IndexByteString", "internal/bytealg.IndexString"], unfollowed := true, recurses := true, named := ["tinderbox/glyph.letters", "tinderbox/glyph.others", "tinderbox/step.names", "strconv.ErrSyntax", "strconv.ErrRange", "internal/strconv.uint64pow10", "math/bits.deBruijn32tab", "math/bits.deBruijn64tab", "unicode/utf8.first", "unicode/utf8.acceptRanges", "internal/bytealg.MaxLen"], apart := false, laid := [("math/bits.deBruijn32tab", laid_math_bits_deBruijn32tab), ("math/bits.deBruijn64tab", laid_math_bits_deBruijn64tab), ("internal/strconv.uint64pow10", laid_internal_strconv_uint64pow10), ("unicode/utf8.acceptRanges", laid_unicode_utf8_acceptRanges), ("strconv.ErrRange", laid_strconv_ErrRange), ("strconv.ErrSyntax", laid_strconv_ErrSyntax), ("tinderbox/glyph.letters", laid_tinderbox_glyph_letters), ("tinderbox/glyph.others", laid_tinderbox_glyph_others), ("tinderbox/step.names", laid_tinderbox_step_names), ("unicode/utf8.first", laid_unicode_utf8_first)] }
def StepScriptsSaid : Prop := stepScriptsRow.holds Tryz.pinned (OpenSpec.ofChange stepScriptsSpec)

/-- ITS FALSE NEIGHBOUR: 'it returns false'. Refute it at one input. -/
def stepScriptsWrong : ChangeSpec := { name := "stepScripts", fn := fun _ => fun
  | [d1, d2] => { results := [.lit (.bool false)], args := [d1, d2] }
  | _ => none }
def StepScriptsWrongFalsely : Prop := stepScriptsRow.holds Tryz.pinned (OpenSpec.ofChange stepScriptsWrong)

/-- 'tinderboxlaw18.BaseMakes': WHATEVER THE INPUT: true; the input reads as it did. -/
def baseMakesSpec : ChangeSpec := { name := "baseMakes", fn := fun _ => fun
  | [d] => { results := [.lit (.bool true)], args := [d] }
  | _ => none }
def baseMakesRow : OpenClaim := { program := "ythjcifokmcbaoaagreatdoor", sum := "4129e516d4f7abc2294d43f4b72f6fb9bc761e80f84b432fc3e3f2fd562a07bd", func := "tinderbox/tinderboxlaw18.BaseMakes", spec := "baseMakes", inPlace := ["internal/bytealg.IndexByteString", "internal/bytealg.IndexString"], unfollowed := true, recurses := true, named := ["tinderbox/glyph.letters", "tinderbox/glyph.others", "tinderbox/step.names", "strconv.ErrSyntax", "strconv.ErrRange", "internal/strconv.uint64pow10", "math/bits.deBruijn32tab", "math/bits.deBruijn64tab", "unicode/utf8.first", "unicode/utf8.acceptRanges", "internal/bytealg.MaxLen"], apart := false, laid := [("math/bits.deBruijn32tab", laid_math_bits_deBruijn32tab), ("math/bits.deBruijn64tab", laid_math_bits_deBruijn64tab), ("internal/strconv.uint64pow10", laid_internal_strconv_uint64pow10), ("unicode/utf8.acceptRanges", laid_unicode_utf8_acceptRanges), ("strconv.ErrRange", laid_strconv_ErrRange), ("strconv.ErrSyntax", laid_strconv_ErrSyntax), ("tinderbox/glyph.letters", laid_tinderbox_glyph_letters), ("tinderbox/glyph.others", laid_tinderbox_glyph_others), ("tinderbox/step.names", laid_tinderbox_step_names), ("unicode/utf8.first", laid_unicode_utf8_first)] }
def BaseMakesSaid : Prop := baseMakesRow.holds Tryz.pinned (OpenSpec.ofChange baseMakesSpec)

/-- ITS FALSE NEIGHBOUR: 'it returns false'. Refute it at one input. -/
def baseMakesWrong : ChangeSpec := { name := "baseMakes", fn := fun _ => fun
  | [d] => { results := [.lit (.bool false)], args := [d] }
  | _ => none }
def BaseMakesWrongFalsely : Prop := baseMakesRow.holds Tryz.pinned (OpenSpec.ofChange baseMakesWrong)

/-- 'tinderboxlaw19.ExtraNeeds': WHATEVER THE INPUT: true; the input reads as it did. -/
def extraNeedsSpec : ChangeSpec := { name := "extraNeeds", fn := fun _ => fun
  | [] => { results := [.lit (.bool true)], args := [] }
  | _ => none }
def extraNeedsRow : OpenClaim := { program := "ythjcifokmcbaoaagreatdoor", sum := "4129e516d4f7abc2294d43f4b72f6fb9bc761e80f84b432fc3e3f2fd562a07bd", func := "tinderbox/tinderboxlaw19.ExtraNeeds", spec := "extraNeeds", inPlace := ["internal/bytealg.IndexByteString", "internal/bytealg.IndexString", "internal/bytealg.abigen_runtime_cmpstring", "slices.overlaps[tinderbox/api.Move]"], unfollowed := true, recurses := true, named := ["tinderbox/glyph.letters", "tinderbox/glyph.others", "tinderbox/step.names", "strconv.ErrSyntax", "strconv.ErrRange", "internal/strconv.uint64pow10", "math/bits.deBruijn32tab", "math/bits.deBruijn64tab", "unicode/utf8.first", "unicode/utf8.acceptRanges", "internal/bytealg.MaxLen"], apart := false, laid := [("math/bits.deBruijn32tab", laid_math_bits_deBruijn32tab), ("math/bits.deBruijn64tab", laid_math_bits_deBruijn64tab), ("internal/strconv.uint64pow10", laid_internal_strconv_uint64pow10), ("unicode/utf8.acceptRanges", laid_unicode_utf8_acceptRanges), ("strconv.ErrRange", laid_strconv_ErrRange), ("strconv.ErrSyntax", laid_strconv_ErrSyntax), ("tinderbox/glyph.letters", laid_tinderbox_glyph_letters), ("tinderbox/glyph.others", laid_tinderbox_glyph_others), ("tinderbox/step.names", laid_tinderbox_step_names), ("unicode/utf8.first", laid_unicode_utf8_first)] }
def ExtraNeedsSaid : Prop := extraNeedsRow.holds Tryz.pinned (OpenSpec.ofChange extraNeedsSpec)

/-- ITS FALSE NEIGHBOUR: 'it returns false'. Refute it at one input. -/
def extraNeedsWrong : ChangeSpec := { name := "extraNeeds", fn := fun _ => fun
  | [] => { results := [.lit (.bool false)], args := [] }
  | _ => none }
def ExtraNeedsWrongFalsely : Prop := extraNeedsRow.holds Tryz.pinned (OpenSpec.ofChange extraNeedsWrong)

/-- 'tinderboxlaw20.PlanStands': WHATEVER THE INPUT: true; the input reads as it did. -/
def planStandsSpec : ChangeSpec := { name := "planStands", fn := fun _ => fun
  | [] => { results := [.lit (.bool true)], args := [] }
  | _ => none }
def planStandsRow : OpenClaim := { program := "ythjcifokmcbaoaagreatdoor", sum := "4129e516d4f7abc2294d43f4b72f6fb9bc761e80f84b432fc3e3f2fd562a07bd", func := "tinderbox/tinderboxlaw20.PlanStands", spec := "planStands", inPlace := ["internal/bytealg.IndexByteString", "internal/bytealg.IndexString", "internal/bytealg.abigen_runtime_cmpstring", "slices.overlaps[tinderbox/api.Move]"], unfollowed := true, recurses := true, named := ["tinderbox/glyph.letters", "tinderbox/glyph.others", "tinderbox/step.names", "strconv.ErrSyntax", "strconv.ErrRange", "internal/strconv.uint64pow10", "math/bits.deBruijn32tab", "math/bits.deBruijn64tab", "unicode/utf8.first", "unicode/utf8.acceptRanges", "internal/bytealg.MaxLen"], apart := false, laid := [("math/bits.deBruijn32tab", laid_math_bits_deBruijn32tab), ("math/bits.deBruijn64tab", laid_math_bits_deBruijn64tab), ("internal/strconv.uint64pow10", laid_internal_strconv_uint64pow10), ("unicode/utf8.acceptRanges", laid_unicode_utf8_acceptRanges), ("strconv.ErrRange", laid_strconv_ErrRange), ("strconv.ErrSyntax", laid_strconv_ErrSyntax), ("tinderbox/glyph.letters", laid_tinderbox_glyph_letters), ("tinderbox/glyph.others", laid_tinderbox_glyph_others), ("tinderbox/step.names", laid_tinderbox_step_names), ("unicode/utf8.first", laid_unicode_utf8_first)] }
def PlanStandsSaid : Prop := planStandsRow.holds Tryz.pinned (OpenSpec.ofChange planStandsSpec)

/-- ITS FALSE NEIGHBOUR: 'it returns false'. Refute it at one input. -/
def planStandsWrong : ChangeSpec := { name := "planStands", fn := fun _ => fun
  | [] => { results := [.lit (.bool false)], args := [] }
  | _ => none }
def PlanStandsWrongFalsely : Prop := planStandsRow.holds Tryz.pinned (OpenSpec.ofChange planStandsWrong)

/- THE SECOND FORM. 'bulk': how many values and letters a reading holds, each counted each time it is reached (what is shared counts as often as it is met; a slice's spare places count too). A statement '..UptoSaid' is the law's where the arguments, and the package variables that the reading takes, are together of bulk at most 1048576: NARROWER than '..Said'. Prove '..Said' where nothing that the law and all that it calls make is longer than what came in: it says more and counts as full. Else prove '..UptoSaid'. A law counts once. -/
mutual
def uptoBulk {H : Type} : DataW H → Nat
  | .lit (.string bytes) => bytes.length + 1
  | .lit _ => 1
  | .nil => 1
  | .ptr d => uptoBulk d + 1
  | .slice elems spare => uptoBulkAll elems + uptoBulkAll spare + 1
  | .agg parts => uptoBulkAll parts + 1
  | .iface _ d => uptoBulk d + 1
  | .map entries => uptoBulkEntries entries + 1
  | .held _ => 1
def uptoBulkAll {H : Type} : List (DataW H) → Nat
  | [] => 0
  | d :: r => uptoBulk d + uptoBulkAll r
def uptoBulkEntries {H : Type} : List (Lit × DataW H) → Nat
  | [] => 0
  | x :: r => uptoBulkEntry x + uptoBulkEntries r
def uptoBulkEntry {H : Type} : Lit × DataW H → Nat
  | (.string bytes, d) => bytes.length + uptoBulk d + 1
  | (_, d) => uptoBulk d + 1
 end
def uptoSmall : (H : Type) → List (DataW H) → Bool := fun _ ds => decide (uptoBulkAll ds ≤ 1048576)
def OpenSpec.upto (s : _root_.Go.ChangeSpec) : _root_.Go.OpenSpec := { _root_.Go.OpenSpec.ofChange s with cond := some uptoSmall }

/-- 'tinderboxlaw18.BaseStands', WHERE WHAT IT READS IS OF BULK AT MOST 1048576: true; the input reads as it did. -/
def baseStandsUptoRow : OpenClaim := { program := "ythjcifokmcbaoaagreatdoor", sum := "4129e516d4f7abc2294d43f4b72f6fb9bc761e80f84b432fc3e3f2fd562a07bd", func := "tinderbox/tinderboxlaw18.BaseStands", spec := "baseStands", inPlace := ["internal/bytealg.IndexByteString", "internal/bytealg.IndexString", "internal/bytealg.abigen_runtime_cmpstring", "slices.overlaps[tinderbox/api.Move]"], unfollowed := true, recurses := true, named := ["tinderbox/glyph.letters", "tinderbox/glyph.others", "tinderbox/step.names", "strconv.ErrSyntax", "strconv.ErrRange", "internal/strconv.uint64pow10", "math/bits.deBruijn32tab", "math/bits.deBruijn64tab", "unicode/utf8.first", "unicode/utf8.acceptRanges", "internal/bytealg.MaxLen"], apart := false, laid := [("math/bits.deBruijn32tab", laid_math_bits_deBruijn32tab), ("math/bits.deBruijn64tab", laid_math_bits_deBruijn64tab), ("internal/strconv.uint64pow10", laid_internal_strconv_uint64pow10), ("unicode/utf8.acceptRanges", laid_unicode_utf8_acceptRanges), ("strconv.ErrRange", laid_strconv_ErrRange), ("strconv.ErrSyntax", laid_strconv_ErrSyntax), ("tinderbox/glyph.letters", laid_tinderbox_glyph_letters), ("tinderbox/glyph.others", laid_tinderbox_glyph_others), ("tinderbox/step.names", laid_tinderbox_step_names), ("unicode/utf8.first", laid_unicode_utf8_first)], narrowed := true }
def BaseStandsUptoSaid : Prop := baseStandsUptoRow.holds Tryz.pinned (OpenSpec.upto baseStandsSpec)

/-- 'tinderboxlaw16.StepRights', WHERE WHAT IT READS IS OF BULK AT MOST 1048576: true; the input reads as it did. -/
def stepRightsUptoRow : OpenClaim := { program := "ythjcifokmcbaoaagreatdoor", sum := "4129e516d4f7abc2294d43f4b72f6fb9bc761e80f84b432fc3e3f2fd562a07bd", func := "tinderbox/tinderboxlaw16.StepRights", spec := "stepRights", inPlace := ["internal/bytealg.IndexByteString", "internal/bytealg.IndexString"], unfollowed := true, recurses := true, named := ["tinderbox/glyph.letters", "tinderbox/glyph.others", "tinderbox/step.names", "strconv.ErrSyntax", "strconv.ErrRange", "internal/strconv.uint64pow10", "math/bits.deBruijn32tab", "math/bits.deBruijn64tab", "unicode/utf8.first", "unicode/utf8.acceptRanges", "internal/bytealg.MaxLen"], apart := false, laid := [("math/bits.deBruijn32tab", laid_math_bits_deBruijn32tab), ("math/bits.deBruijn64tab", laid_math_bits_deBruijn64tab), ("internal/strconv.uint64pow10", laid_internal_strconv_uint64pow10), ("unicode/utf8.acceptRanges", laid_unicode_utf8_acceptRanges), ("strconv.ErrRange", laid_strconv_ErrRange), ("strconv.ErrSyntax", laid_strconv_ErrSyntax), ("tinderbox/glyph.letters", laid_tinderbox_glyph_letters), ("tinderbox/glyph.others", laid_tinderbox_glyph_others), ("tinderbox/step.names", laid_tinderbox_step_names), ("unicode/utf8.first", laid_unicode_utf8_first)], narrowed := true }
def StepRightsUptoSaid : Prop := stepRightsUptoRow.holds Tryz.pinned (OpenSpec.upto stepRightsSpec)

/-- 'tinderboxlaw16.StepApplies', WHERE WHAT IT READS IS OF BULK AT MOST 1048576: true; the input reads as it did. -/
def stepAppliesUptoRow : OpenClaim := { program := "ythjcifokmcbaoaagreatdoor", sum := "4129e516d4f7abc2294d43f4b72f6fb9bc761e80f84b432fc3e3f2fd562a07bd", func := "tinderbox/tinderboxlaw16.StepApplies", spec := "stepApplies", inPlace := ["internal/bytealg.IndexByteString", "internal/bytealg.IndexString"], unfollowed := true, recurses := true, named := ["tinderbox/glyph.letters", "tinderbox/glyph.others", "tinderbox/step.names", "strconv.ErrSyntax", "strconv.ErrRange", "internal/strconv.uint64pow10", "math/bits.deBruijn32tab", "math/bits.deBruijn64tab", "unicode/utf8.first", "unicode/utf8.acceptRanges", "internal/bytealg.MaxLen"], apart := false, laid := [("math/bits.deBruijn32tab", laid_math_bits_deBruijn32tab), ("math/bits.deBruijn64tab", laid_math_bits_deBruijn64tab), ("internal/strconv.uint64pow10", laid_internal_strconv_uint64pow10), ("unicode/utf8.acceptRanges", laid_unicode_utf8_acceptRanges), ("strconv.ErrRange", laid_strconv_ErrRange), ("strconv.ErrSyntax", laid_strconv_ErrSyntax), ("tinderbox/glyph.letters", laid_tinderbox_glyph_letters), ("tinderbox/glyph.others", laid_tinderbox_glyph_others), ("tinderbox/step.names", laid_tinderbox_step_names), ("unicode/utf8.first", laid_unicode_utf8_first)], narrowed := true }
def StepAppliesUptoSaid : Prop := stepAppliesUptoRow.holds Tryz.pinned (OpenSpec.upto stepAppliesSpec)

/-- 'tinderboxlaw16.StepBack', WHERE WHAT IT READS IS OF BULK AT MOST 1048576: true; the input reads as it did. -/
def stepBackUptoRow : OpenClaim := { program := "ythjcifokmcbaoaagreatdoor", sum := "4129e516d4f7abc2294d43f4b72f6fb9bc761e80f84b432fc3e3f2fd562a07bd", func := "tinderbox/tinderboxlaw16.StepBack", spec := "stepBack", inPlace := ["internal/bytealg.IndexByteString", "internal/bytealg.IndexString"], unfollowed := true, recurses := true, named := ["tinderbox/glyph.letters", "tinderbox/glyph.others", "tinderbox/step.names", "strconv.ErrSyntax", "strconv.ErrRange", "internal/strconv.uint64pow10", "math/bits.deBruijn32tab", "math/bits.deBruijn64tab", "unicode/utf8.first", "unicode/utf8.acceptRanges", "internal/bytealg.MaxLen"], apart := false, laid := [("math/bits.deBruijn32tab", laid_math_bits_deBruijn32tab), ("math/bits.deBruijn64tab", laid_math_bits_deBruijn64tab), ("internal/strconv.uint64pow10", laid_internal_strconv_uint64pow10), ("unicode/utf8.acceptRanges", laid_unicode_utf8_acceptRanges), ("strconv.ErrRange", laid_strconv_ErrRange), ("strconv.ErrSyntax", laid_strconv_ErrSyntax), ("tinderbox/glyph.letters", laid_tinderbox_glyph_letters), ("tinderbox/glyph.others", laid_tinderbox_glyph_others), ("tinderbox/step.names", laid_tinderbox_step_names), ("unicode/utf8.first", laid_unicode_utf8_first)], narrowed := true }
def StepBackUptoSaid : Prop := stepBackUptoRow.holds Tryz.pinned (OpenSpec.upto stepBackSpec)

/-- 'tinderboxlaw16.StepAlone', WHERE WHAT IT READS IS OF BULK AT MOST 1048576: true; the input reads as it did. -/
def stepAloneUptoRow : OpenClaim := { program := "ythjcifokmcbaoaagreatdoor", sum := "4129e516d4f7abc2294d43f4b72f6fb9bc761e80f84b432fc3e3f2fd562a07bd", func := "tinderbox/tinderboxlaw16.StepAlone", spec := "stepAlone", inPlace := ["internal/bytealg.IndexByteString", "internal/bytealg.IndexString"], unfollowed := true, recurses := true, named := ["tinderbox/glyph.letters", "tinderbox/glyph.others", "tinderbox/step.names", "strconv.ErrSyntax", "strconv.ErrRange", "internal/strconv.uint64pow10", "math/bits.deBruijn32tab", "math/bits.deBruijn64tab", "unicode/utf8.first", "unicode/utf8.acceptRanges", "internal/bytealg.MaxLen"], apart := false, laid := [("math/bits.deBruijn32tab", laid_math_bits_deBruijn32tab), ("math/bits.deBruijn64tab", laid_math_bits_deBruijn64tab), ("internal/strconv.uint64pow10", laid_internal_strconv_uint64pow10), ("unicode/utf8.acceptRanges", laid_unicode_utf8_acceptRanges), ("strconv.ErrRange", laid_strconv_ErrRange), ("strconv.ErrSyntax", laid_strconv_ErrSyntax), ("tinderbox/glyph.letters", laid_tinderbox_glyph_letters), ("tinderbox/glyph.others", laid_tinderbox_glyph_others), ("tinderbox/step.names", laid_tinderbox_step_names), ("unicode/utf8.first", laid_unicode_utf8_first)], narrowed := true }
def StepAloneUptoSaid : Prop := stepAloneUptoRow.holds Tryz.pinned (OpenSpec.upto stepAloneSpec)

/-- 'tinderboxlaw16.StepStands', WHERE WHAT IT READS IS OF BULK AT MOST 1048576: true; the input reads as it did. -/
def stepStandsUptoRow : OpenClaim := { program := "ythjcifokmcbaoaagreatdoor", sum := "4129e516d4f7abc2294d43f4b72f6fb9bc761e80f84b432fc3e3f2fd562a07bd", func := "tinderbox/tinderboxlaw16.StepStands", spec := "stepStands", inPlace := ["internal/bytealg.IndexByteString", "internal/bytealg.IndexString"], unfollowed := true, recurses := true, named := ["tinderbox/glyph.letters", "tinderbox/glyph.others", "tinderbox/step.names", "strconv.ErrSyntax", "strconv.ErrRange", "internal/strconv.uint64pow10", "math/bits.deBruijn32tab", "math/bits.deBruijn64tab", "unicode/utf8.first", "unicode/utf8.acceptRanges", "internal/bytealg.MaxLen"], apart := false, laid := [("math/bits.deBruijn32tab", laid_math_bits_deBruijn32tab), ("math/bits.deBruijn64tab", laid_math_bits_deBruijn64tab), ("internal/strconv.uint64pow10", laid_internal_strconv_uint64pow10), ("unicode/utf8.acceptRanges", laid_unicode_utf8_acceptRanges), ("strconv.ErrRange", laid_strconv_ErrRange), ("strconv.ErrSyntax", laid_strconv_ErrSyntax), ("tinderbox/glyph.letters", laid_tinderbox_glyph_letters), ("tinderbox/glyph.others", laid_tinderbox_glyph_others), ("tinderbox/step.names", laid_tinderbox_step_names), ("unicode/utf8.first", laid_unicode_utf8_first)], narrowed := true }
def StepStandsUptoSaid : Prop := stepStandsUptoRow.holds Tryz.pinned (OpenSpec.upto stepStandsSpec)

/-- 'tinderboxlaw16.StepCalls', WHERE WHAT IT READS IS OF BULK AT MOST 1048576: true; the input reads as it did. -/
def stepCallsUptoRow : OpenClaim := { program := "ythjcifokmcbaoaagreatdoor", sum := "4129e516d4f7abc2294d43f4b72f6fb9bc761e80f84b432fc3e3f2fd562a07bd", func := "tinderbox/tinderboxlaw16.StepCalls", spec := "stepCalls", inPlace := ["internal/bytealg.IndexByteString", "internal/bytealg.IndexString"], unfollowed := true, recurses := true, named := ["tinderbox/step.names", "strconv.ErrSyntax", "strconv.ErrRange", "internal/strconv.uint64pow10", "math/bits.deBruijn32tab", "math/bits.deBruijn64tab", "unicode/utf8.first", "unicode/utf8.acceptRanges", "tinderbox/glyph.letters", "tinderbox/glyph.others", "internal/bytealg.MaxLen"], apart := false, laid := [("math/bits.deBruijn32tab", laid_math_bits_deBruijn32tab), ("math/bits.deBruijn64tab", laid_math_bits_deBruijn64tab), ("internal/strconv.uint64pow10", laid_internal_strconv_uint64pow10), ("unicode/utf8.acceptRanges", laid_unicode_utf8_acceptRanges), ("strconv.ErrRange", laid_strconv_ErrRange), ("strconv.ErrSyntax", laid_strconv_ErrSyntax), ("tinderbox/glyph.letters", laid_tinderbox_glyph_letters), ("tinderbox/glyph.others", laid_tinderbox_glyph_others), ("tinderbox/step.names", laid_tinderbox_step_names), ("unicode/utf8.first", laid_unicode_utf8_first)], narrowed := true }
def StepCallsUptoSaid : Prop := stepCallsUptoRow.holds Tryz.pinned (OpenSpec.upto stepCallsSpec)

/-- 'tinderboxlaw16.StepScripts', WHERE WHAT IT READS IS OF BULK AT MOST 1048576: true; the input reads as it did. -/
def stepScriptsUptoRow : OpenClaim := { program := "ythjcifokmcbaoaagreatdoor", sum := "4129e516d4f7abc2294d43f4b72f6fb9bc761e80f84b432fc3e3f2fd562a07bd", func := "tinderbox/tinderboxlaw16.StepScripts", spec := "stepScripts", inPlace := ["internal/bytealg.IndexByteString", "internal/bytealg.IndexString"], unfollowed := true, recurses := true, named := ["tinderbox/glyph.letters", "tinderbox/glyph.others", "tinderbox/step.names", "strconv.ErrSyntax", "strconv.ErrRange", "internal/strconv.uint64pow10", "math/bits.deBruijn32tab", "math/bits.deBruijn64tab", "unicode/utf8.first", "unicode/utf8.acceptRanges", "internal/bytealg.MaxLen"], apart := false, laid := [("math/bits.deBruijn32tab", laid_math_bits_deBruijn32tab), ("math/bits.deBruijn64tab", laid_math_bits_deBruijn64tab), ("internal/strconv.uint64pow10", laid_internal_strconv_uint64pow10), ("unicode/utf8.acceptRanges", laid_unicode_utf8_acceptRanges), ("strconv.ErrRange", laid_strconv_ErrRange), ("strconv.ErrSyntax", laid_strconv_ErrSyntax), ("tinderbox/glyph.letters", laid_tinderbox_glyph_letters), ("tinderbox/glyph.others", laid_tinderbox_glyph_others), ("tinderbox/step.names", laid_tinderbox_step_names), ("unicode/utf8.first", laid_unicode_utf8_first)], narrowed := true }
def StepScriptsUptoSaid : Prop := stepScriptsUptoRow.holds Tryz.pinned (OpenSpec.upto stepScriptsSpec)

/-- 'tinderboxlaw18.BaseMakes', WHERE WHAT IT READS IS OF BULK AT MOST 1048576: true; the input reads as it did. -/
def baseMakesUptoRow : OpenClaim := { program := "ythjcifokmcbaoaagreatdoor", sum := "4129e516d4f7abc2294d43f4b72f6fb9bc761e80f84b432fc3e3f2fd562a07bd", func := "tinderbox/tinderboxlaw18.BaseMakes", spec := "baseMakes", inPlace := ["internal/bytealg.IndexByteString", "internal/bytealg.IndexString"], unfollowed := true, recurses := true, named := ["tinderbox/glyph.letters", "tinderbox/glyph.others", "tinderbox/step.names", "strconv.ErrSyntax", "strconv.ErrRange", "internal/strconv.uint64pow10", "math/bits.deBruijn32tab", "math/bits.deBruijn64tab", "unicode/utf8.first", "unicode/utf8.acceptRanges", "internal/bytealg.MaxLen"], apart := false, laid := [("math/bits.deBruijn32tab", laid_math_bits_deBruijn32tab), ("math/bits.deBruijn64tab", laid_math_bits_deBruijn64tab), ("internal/strconv.uint64pow10", laid_internal_strconv_uint64pow10), ("unicode/utf8.acceptRanges", laid_unicode_utf8_acceptRanges), ("strconv.ErrRange", laid_strconv_ErrRange), ("strconv.ErrSyntax", laid_strconv_ErrSyntax), ("tinderbox/glyph.letters", laid_tinderbox_glyph_letters), ("tinderbox/glyph.others", laid_tinderbox_glyph_others), ("tinderbox/step.names", laid_tinderbox_step_names), ("unicode/utf8.first", laid_unicode_utf8_first)], narrowed := true }
def BaseMakesUptoSaid : Prop := baseMakesUptoRow.holds Tryz.pinned (OpenSpec.upto baseMakesSpec)

/-- 'tinderboxlaw19.ExtraNeeds', WHERE WHAT IT READS IS OF BULK AT MOST 1048576: true; the input reads as it did. -/
def extraNeedsUptoRow : OpenClaim := { program := "ythjcifokmcbaoaagreatdoor", sum := "4129e516d4f7abc2294d43f4b72f6fb9bc761e80f84b432fc3e3f2fd562a07bd", func := "tinderbox/tinderboxlaw19.ExtraNeeds", spec := "extraNeeds", inPlace := ["internal/bytealg.IndexByteString", "internal/bytealg.IndexString", "internal/bytealg.abigen_runtime_cmpstring", "slices.overlaps[tinderbox/api.Move]"], unfollowed := true, recurses := true, named := ["tinderbox/glyph.letters", "tinderbox/glyph.others", "tinderbox/step.names", "strconv.ErrSyntax", "strconv.ErrRange", "internal/strconv.uint64pow10", "math/bits.deBruijn32tab", "math/bits.deBruijn64tab", "unicode/utf8.first", "unicode/utf8.acceptRanges", "internal/bytealg.MaxLen"], apart := false, laid := [("math/bits.deBruijn32tab", laid_math_bits_deBruijn32tab), ("math/bits.deBruijn64tab", laid_math_bits_deBruijn64tab), ("internal/strconv.uint64pow10", laid_internal_strconv_uint64pow10), ("unicode/utf8.acceptRanges", laid_unicode_utf8_acceptRanges), ("strconv.ErrRange", laid_strconv_ErrRange), ("strconv.ErrSyntax", laid_strconv_ErrSyntax), ("tinderbox/glyph.letters", laid_tinderbox_glyph_letters), ("tinderbox/glyph.others", laid_tinderbox_glyph_others), ("tinderbox/step.names", laid_tinderbox_step_names), ("unicode/utf8.first", laid_unicode_utf8_first)], narrowed := true }
def ExtraNeedsUptoSaid : Prop := extraNeedsUptoRow.holds Tryz.pinned (OpenSpec.upto extraNeedsSpec)

/-- 'tinderboxlaw20.PlanStands', WHERE WHAT IT READS IS OF BULK AT MOST 1048576: true; the input reads as it did. -/
def planStandsUptoRow : OpenClaim := { program := "ythjcifokmcbaoaagreatdoor", sum := "4129e516d4f7abc2294d43f4b72f6fb9bc761e80f84b432fc3e3f2fd562a07bd", func := "tinderbox/tinderboxlaw20.PlanStands", spec := "planStands", inPlace := ["internal/bytealg.IndexByteString", "internal/bytealg.IndexString", "internal/bytealg.abigen_runtime_cmpstring", "slices.overlaps[tinderbox/api.Move]"], unfollowed := true, recurses := true, named := ["tinderbox/glyph.letters", "tinderbox/glyph.others", "tinderbox/step.names", "strconv.ErrSyntax", "strconv.ErrRange", "internal/strconv.uint64pow10", "math/bits.deBruijn32tab", "math/bits.deBruijn64tab", "unicode/utf8.first", "unicode/utf8.acceptRanges", "internal/bytealg.MaxLen"], apart := false, laid := [("math/bits.deBruijn32tab", laid_math_bits_deBruijn32tab), ("math/bits.deBruijn64tab", laid_math_bits_deBruijn64tab), ("internal/strconv.uint64pow10", laid_internal_strconv_uint64pow10), ("unicode/utf8.acceptRanges", laid_unicode_utf8_acceptRanges), ("strconv.ErrRange", laid_strconv_ErrRange), ("strconv.ErrSyntax", laid_strconv_ErrSyntax), ("tinderbox/glyph.letters", laid_tinderbox_glyph_letters), ("tinderbox/glyph.others", laid_tinderbox_glyph_others), ("tinderbox/step.names", laid_tinderbox_step_names), ("unicode/utf8.first", laid_unicode_utf8_first)], narrowed := true }
def PlanStandsUptoSaid : Prop := planStandsUptoRow.holds Tryz.pinned (OpenSpec.upto planStandsSpec)

end Rows
end Go.Proofs.YthjcifokmcbaoaaGreatDoor
