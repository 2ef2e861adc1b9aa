/- Laws and contracts on which the statement rests, part A: each text says what it proves, and its conditions. -/
import Derived.Test.YthjcifokmcbaoaaGreatDoorRows
import Derived.WalkKit
import Derived.WalkLawsBesides
import Derived.WalkSpells
import Derived.Deep.MidRow
import Derived.Lib.Hide
import Derived.Handy
import Derived.Test.YthjcifokmcbaoaaGreatDoorCards
import Derived.Test.YthjcifokmcbaoaaGreatDoorTie
import Derived.ProofKit
import Derived.OpenShut
import Derived.Deep.DeepHandedRow
import Derived.Lib.LaidU8
import Derived.Shelf.Vars
import Derived.Below
import Derived.Deep.Draws
import Derived.OneCell
import Derived.Laws.IdiomCopy
import Derived.ArgAppend
import Derived.Maps.AppendAt
import Derived.Deep.AppendLies
import Derived.Lib.SplitLaws
import Derived.Lib.Strings
import Derived.Test.YthjcifokmcbaoaaGreatDoorShelf
/- What the listed tables of package glyph hold, as a fact on a world; the class of a byte as a plain function; glyph.class, glyph.Class, Count and the reference's Class and Count return it. Conditions: the two tables hold what the program's text lays. -/
namespace Go.Proofs.YthjcifokmcbaoaaGreatDoor.gl
open Go.ChangeShapes Go.WideShapes Go.ChangeAt Go.RowKit

/-- The class of a byte (of any number). -/
def cls (b : Int) : Int :=
  if 97 ≤ b ∧ b ≤ 122 then 1 else if 65 ≤ b ∧ b ≤ 90 then 2 else if 48 ≤ b ∧ b ≤ 57 then 3 else if b = 32 ∨ b = 9 then 4 else if b = 10 ∨ b = 13 then 6 else if 33 ≤ b ∧ b ≤ 126 then 5 else 0

def lettersL : List Value := [.int .u8 97, .int .u8 122, .int .i64 1, .int .u8 65, .int .u8 90, .int .i64 2, .int .u8 48, .int .u8 57, .int .i64 3]
def othersL : List Value := [.int .u8 32, .int .u8 32, .int .i64 4, .int .u8 9, .int .u8 9, .int .i64 4, .int .u8 10, .int .u8 10, .int .i64 6, .int .u8 13, .int .u8 13, .int .i64 6,
  .int .u8 33, .int .u8 47, .int .i64 5, .int .u8 58, .int .u8 64, .int .i64 5, .int .u8 91, .int .u8 96, .int .i64 5, .int .u8 123, .int .u8 126, .int .i64 5]

/-- The two tables lie in the world; the library's own number is some number. -/
structure Glo (w : World) : Prop where
  letters : w.rangeAt 1 0 lettersL
  others : w.rangeAt 2 0 othersL
  maxLen : ∃ m : Int, w.cell? ⟨3, 0, none⟩ = some (.int .i64 m)

theorem Glo.sizes {w : World} (h : Glo w) : 1 < w.heap.size ∧ 2 < w.heap.size ∧ 3 < w.heap.size :=
  ⟨World.block_lt_of_cell? _ _ (h.letters 0 _ rfl), World.block_lt_of_cell? _ _ (h.others 0 _ rfl), by obtain ⟨m, hm⟩ := h.maxLen; exact World.block_lt_of_cell? _ _ hm⟩
theorem Glo.below {w w' : World} {B : Nat} (h : Glo w) (hb : Below B w w') (hB : w.heap.size ≤ B) : Glo w' := by
  obtain ⟨s1, s2, s3⟩ := h.sizes
  obtain ⟨h1, h2, m, hm⟩ := h
  refine ⟨fun j v hv => ?_, fun j v hv => ?_, m, ?_⟩
  · rw [hb.cell (p := ⟨1, 0 + j, none⟩) (by show 1 < B; omega)]; exact h1 j v hv
  · rw [hb.cell (p := ⟨2, 0 + j, none⟩) (by show 2 < B; omega)]; exact h2 j v hv
  · rw [hb.cell (p := ⟨3, 0, none⟩) (by show 3 < B; omega)]; exact hm
theorem Glo.alloc {w : World} (h : Glo w) (o : Obj) : Glo (w.alloc o) := h.below ((Below.refl w.heap.size w).alloc (Nat.le_refl _) o) (Nat.le_refl _)
theorem Glo.drew {w : World} (h : Glo w) : Glo w.drew := h.below ((Below.refl w.heap.size w).drew) (Nat.le_refl _)

theorem Tryz.infoL : (Tryz.prog.info? 150).map (·.size) = some lettersL.length := by kernel_rfl
theorem Tryz.infoO : (Tryz.prog.info? 151).map (·.size) = some othersL.length := by kernel_rfl

theorem ret_int {k : IntKind} {a b : Int} (h : b = a) : Ending.returned (.int k a) = .returned (.int k b) := by rw [h]

def OutL (k : Nat) (c : Int) : Prop := (1 ≤ k → ¬ (97 ≤ c ∧ c ≤ 122)) ∧ (2 ≤ k → ¬ (65 ≤ c ∧ c ≤ 90)) ∧ (3 ≤ k → ¬ (48 ≤ c ∧ c ≤ 57))
def OutO (k : Nat) (c : Int) : Prop := (1 ≤ k → ¬ (32 ≤ c ∧ c ≤ 32)) ∧ (2 ≤ k → ¬ (9 ≤ c ∧ c ≤ 9)) ∧ (3 ≤ k → ¬ (10 ≤ c ∧ c ≤ 10)) ∧ (4 ≤ k → ¬ (13 ≤ c ∧ c ≤ 13)) ∧ (5 ≤ k → ¬ (33 ≤ c ∧ c ≤ 47)) ∧ (6 ≤ k → ¬ (58 ≤ c ∧ c ≤ 64)) ∧ (7 ≤ k → ¬ (91 ≤ c ∧ c ≤ 96)) ∧ (8 ≤ k → ¬ (123 ≤ c ∧ c ≤ 126))
theorem Tryz.ixL0 (w : World) : (Instr.index 150 (.agg lettersL.toArray) (.int .i64 0)).run Tryz.prog w = .ok (.agg #[.int .u8 97, .int .u8 122, .int .i64 1]) w := by kernel_rfl
theorem Tryz.ixL1 (w : World) : (Instr.index 150 (.agg lettersL.toArray) (.int .i64 1)).run Tryz.prog w = .ok (.agg #[.int .u8 65, .int .u8 90, .int .i64 2]) w := by kernel_rfl
theorem Tryz.ixL2 (w : World) : (Instr.index 150 (.agg lettersL.toArray) (.int .i64 2)).run Tryz.prog w = .ok (.agg #[.int .u8 48, .int .u8 57, .int .i64 3]) w := by kernel_rfl
theorem Tryz.ixO0 (w : World) : (Instr.index 151 (.agg othersL.toArray) (.int .i64 0)).run Tryz.prog w = .ok (.agg #[.int .u8 32, .int .u8 32, .int .i64 4]) w := by kernel_rfl
theorem Tryz.ixO1 (w : World) : (Instr.index 151 (.agg othersL.toArray) (.int .i64 1)).run Tryz.prog w = .ok (.agg #[.int .u8 9, .int .u8 9, .int .i64 4]) w := by kernel_rfl
theorem Tryz.ixO2 (w : World) : (Instr.index 151 (.agg othersL.toArray) (.int .i64 2)).run Tryz.prog w = .ok (.agg #[.int .u8 10, .int .u8 10, .int .i64 6]) w := by kernel_rfl
theorem Tryz.ixO3 (w : World) : (Instr.index 151 (.agg othersL.toArray) (.int .i64 3)).run Tryz.prog w = .ok (.agg #[.int .u8 13, .int .u8 13, .int .i64 6]) w := by kernel_rfl
theorem Tryz.ixO4 (w : World) : (Instr.index 151 (.agg othersL.toArray) (.int .i64 4)).run Tryz.prog w = .ok (.agg #[.int .u8 33, .int .u8 47, .int .i64 5]) w := by kernel_rfl
theorem Tryz.ixO5 (w : World) : (Instr.index 151 (.agg othersL.toArray) (.int .i64 5)).run Tryz.prog w = .ok (.agg #[.int .u8 58, .int .u8 64, .int .i64 5]) w := by kernel_rfl
theorem Tryz.ixO6 (w : World) : (Instr.index 151 (.agg othersL.toArray) (.int .i64 6)).run Tryz.prog w = .ok (.agg #[.int .u8 91, .int .u8 96, .int .i64 5]) w := by kernel_rfl
theorem Tryz.ixO7 (w : World) : (Instr.index 151 (.agg othersL.toArray) (.int .i64 7)).run Tryz.prog w = .ok (.agg #[.int .u8 123, .int .u8 126, .int .i64 5]) w := by kernel_rfl

set_option maxHeartbeats 4000000 in
theorem class_any (c : Int) (hc0 : 0 ≤ c) (hc1 : c ≤ 255) (w : World) (hG : Glo w) :
    Calls Tryz.prog 105 #[.int .u8 c] w fun e w' => e = .returned (.int .i64 (cls c)) ∧ Below w.heap.size w w' := by
  have hl := hG.letters
  have hO := Lib.hid (fun W (hb : Below w.heap.size w W) => (hG.below hb (Nat.le_refl _)).others)
  clear hG
  go_enter Tryz.func105, Tryz.ntmps105
  go_wp2_with (with_reducible refine wpList_load_mid rfl 150 _ rfl 1 0 rfl _ _ hl Tryz.underlying150 rfl Tryz.infoL ?_)
  clear hl
  go_loopw [8] (fun i wr => ∃ k : Nat, k ≤ 3 ∧ i = .int .i64 k ∧ OutL k c ∧ Below w.heap.size w wr) (fun i _ => 3 - (intOf i).toNat)
  case atStart => exact ⟨0, by omega, rfl, by unfold OutL; omega, Below.refl _ _⟩
  case round =>
    obtain ⟨k, hk, rfl, hout, hb⟩ := hrel
    have Hout := Lib.hid hout
    have Hb := Lib.hid hb
    have hsz := hb.size
    clear hout hb
    rcases (show k = 0 ∨ k = 1 ∨ k = 2 ∨ k = 3 by omega) with rfl | rfl | rfl | rfl
    · have hix := Tryz.ixL0
      by_cases hin : 97 ≤ c ∧ c ≤ 122
      · obtain ⟨a, b⟩ := hin
        go_wp2
        go_ret
        exact ⟨ret_int (by have := Hout.out; unfold OutL at this; unfold cls; repeat (first | rfl | rw [if_pos (by omega)] | rw [if_neg (by omega)])), Hb.out.alloc (by omega) _⟩
      · have Hnin := Lib.hid hin
        rcases (show c < 97 ∨ 122 < c by omega) with h | h
        all_goals
          clear hin
          go_wp2
          go_roundw
          case rel => exact ⟨1, by omega, by go_num, by have := Hout.out; have := Hnin.out; unfold OutL at *; omega, Hb.out.alloc (by omega) _⟩
          case measure => simp [intOf]
    · have hix := Tryz.ixL1
      by_cases hin : 65 ≤ c ∧ c ≤ 90
      · obtain ⟨a, b⟩ := hin
        go_wp2
        go_ret
        exact ⟨ret_int (by have := Hout.out; unfold OutL at this; unfold cls; repeat (first | rfl | rw [if_pos (by omega)] | rw [if_neg (by omega)])), Hb.out.alloc (by omega) _⟩
      · have Hnin := Lib.hid hin
        rcases (show c < 65 ∨ 90 < c by omega) with h | h
        all_goals
          clear hin
          go_wp2
          go_roundw
          case rel => exact ⟨2, by omega, by go_num, by have := Hout.out; have := Hnin.out; unfold OutL at *; omega, Hb.out.alloc (by omega) _⟩
          case measure => simp [intOf]
    · have hix := Tryz.ixL2
      by_cases hin : 48 ≤ c ∧ c ≤ 57
      · obtain ⟨a, b⟩ := hin
        go_wp2
        go_ret
        exact ⟨ret_int (by have := Hout.out; unfold OutL at this; unfold cls; repeat (first | rfl | rw [if_pos (by omega)] | rw [if_neg (by omega)])), Hb.out.alloc (by omega) _⟩
      · have Hnin := Lib.hid hin
        rcases (show c < 48 ∨ 57 < c by omega) with h | h
        all_goals
          clear hin
          go_wp2
          go_roundw
          case rel => exact ⟨3, by omega, by go_num, by have := Hout.out; have := Hnin.out; unfold OutL at *; omega, Hb.out.alloc (by omega) _⟩
          case measure => simp [intOf]
    · have ho := hO.out wr Hb.out
      go_wp2_with (with_reducible refine wpList_load_mid rfl 151 _ rfl 2 0 rfl _ _ ho Tryz.underlying151 rfl Tryz.infoO ?_)
      clear ho
      obtain ⟨wo, rfl⟩ : ∃ wo : World, wo = wr := ⟨_, rfl⟩
      go_loopw [25] (fun i wr => ∃ k : Nat, k ≤ 8 ∧ i = .int .i64 k ∧ OutO k c ∧ Below w.heap.size w wr) (fun i _ => 8 - (intOf i).toNat)
      case atStart => exact ⟨0, by omega, rfl, by unfold OutO; omega, Hb.out⟩
      case round =>
        obtain ⟨k, hk, rfl, hout, hb⟩ := hrel
        have Hout2 := Lib.hid hout
        have Hb2 := Lib.hid hb
        have hsz2 := hb.size
        clear hout hb
        rcases (show k = 0 ∨ k = 1 ∨ k = 2 ∨ k = 3 ∨ k = 4 ∨ k = 5 ∨ k = 6 ∨ k = 7 ∨ k = 8 by omega) with rfl | rfl | rfl | rfl | rfl | rfl | rfl | rfl | rfl
        · have hix := Tryz.ixO0
          by_cases hin : 32 ≤ c ∧ c ≤ 32
          · obtain ⟨a, b⟩ := hin
            go_wp2
            go_ret
            exact ⟨ret_int (by have := Hout.out; have := Hout2.out; unfold OutL at *; unfold OutO at *; unfold cls; repeat (first | rfl | rw [if_pos (by omega)] | rw [if_neg (by omega)])), Hb2.out.alloc (by omega) _⟩
          · have Hnin := Lib.hid hin
            rcases (show c < 32 ∨ 32 < c by omega) with h | h
            all_goals
              clear hin
              go_wp2
              go_roundw
              case rel => exact ⟨1, by omega, by go_num, by have := Hout2.out; have := Hnin.out; unfold OutO at *; omega, Hb2.out.alloc (by omega) _⟩
              case measure => simp [intOf]
        · have hix := Tryz.ixO1
          by_cases hin : 9 ≤ c ∧ c ≤ 9
          · obtain ⟨a, b⟩ := hin
            go_wp2
            go_ret
            exact ⟨ret_int (by have := Hout.out; have := Hout2.out; unfold OutL at *; unfold OutO at *; unfold cls; repeat (first | rfl | rw [if_pos (by omega)] | rw [if_neg (by omega)])), Hb2.out.alloc (by omega) _⟩
          · have Hnin := Lib.hid hin
            rcases (show c < 9 ∨ 9 < c by omega) with h | h
            all_goals
              clear hin
              go_wp2
              go_roundw
              case rel => exact ⟨2, by omega, by go_num, by have := Hout2.out; have := Hnin.out; unfold OutO at *; omega, Hb2.out.alloc (by omega) _⟩
              case measure => simp [intOf]
        · have hix := Tryz.ixO2
          by_cases hin : 10 ≤ c ∧ c ≤ 10
          · obtain ⟨a, b⟩ := hin
            go_wp2
            go_ret
            exact ⟨ret_int (by have := Hout.out; have := Hout2.out; unfold OutL at *; unfold OutO at *; unfold cls; repeat (first | rfl | rw [if_pos (by omega)] | rw [if_neg (by omega)])), Hb2.out.alloc (by omega) _⟩
          · have Hnin := Lib.hid hin
            rcases (show c < 10 ∨ 10 < c by omega) with h | h
            all_goals
              clear hin
              go_wp2
              go_roundw
              case rel => exact ⟨3, by omega, by go_num, by have := Hout2.out; have := Hnin.out; unfold OutO at *; omega, Hb2.out.alloc (by omega) _⟩
              case measure => simp [intOf]
        · have hix := Tryz.ixO3
          by_cases hin : 13 ≤ c ∧ c ≤ 13
          · obtain ⟨a, b⟩ := hin
            go_wp2
            go_ret
            exact ⟨ret_int (by have := Hout.out; have := Hout2.out; unfold OutL at *; unfold OutO at *; unfold cls; repeat (first | rfl | rw [if_pos (by omega)] | rw [if_neg (by omega)])), Hb2.out.alloc (by omega) _⟩
          · have Hnin := Lib.hid hin
            rcases (show c < 13 ∨ 13 < c by omega) with h | h
            all_goals
              clear hin
              go_wp2
              go_roundw
              case rel => exact ⟨4, by omega, by go_num, by have := Hout2.out; have := Hnin.out; unfold OutO at *; omega, Hb2.out.alloc (by omega) _⟩
              case measure => simp [intOf]
        · have hix := Tryz.ixO4
          by_cases hin : 33 ≤ c ∧ c ≤ 47
          · obtain ⟨a, b⟩ := hin
            go_wp2
            go_ret
            exact ⟨ret_int (by have := Hout.out; have := Hout2.out; unfold OutL at *; unfold OutO at *; unfold cls; repeat (first | rfl | rw [if_pos (by omega)] | rw [if_neg (by omega)])), Hb2.out.alloc (by omega) _⟩
          · have Hnin := Lib.hid hin
            rcases (show c < 33 ∨ 47 < c by omega) with h | h
            all_goals
              clear hin
              go_wp2
              go_roundw
              case rel => exact ⟨5, by omega, by go_num, by have := Hout2.out; have := Hnin.out; unfold OutO at *; omega, Hb2.out.alloc (by omega) _⟩
              case measure => simp [intOf]
        · have hix := Tryz.ixO5
          by_cases hin : 58 ≤ c ∧ c ≤ 64
          · obtain ⟨a, b⟩ := hin
            go_wp2
            go_ret
            exact ⟨ret_int (by have := Hout.out; have := Hout2.out; unfold OutL at *; unfold OutO at *; unfold cls; repeat (first | rfl | rw [if_pos (by omega)] | rw [if_neg (by omega)])), Hb2.out.alloc (by omega) _⟩
          · have Hnin := Lib.hid hin
            rcases (show c < 58 ∨ 64 < c by omega) with h | h
            all_goals
              clear hin
              go_wp2
              go_roundw
              case rel => exact ⟨6, by omega, by go_num, by have := Hout2.out; have := Hnin.out; unfold OutO at *; omega, Hb2.out.alloc (by omega) _⟩
              case measure => simp [intOf]
        · have hix := Tryz.ixO6
          by_cases hin : 91 ≤ c ∧ c ≤ 96
          · obtain ⟨a, b⟩ := hin
            go_wp2
            go_ret
            exact ⟨ret_int (by have := Hout.out; have := Hout2.out; unfold OutL at *; unfold OutO at *; unfold cls; repeat (first | rfl | rw [if_pos (by omega)] | rw [if_neg (by omega)])), Hb2.out.alloc (by omega) _⟩
          · have Hnin := Lib.hid hin
            rcases (show c < 91 ∨ 96 < c by omega) with h | h
            all_goals
              clear hin
              go_wp2
              go_roundw
              case rel => exact ⟨7, by omega, by go_num, by have := Hout2.out; have := Hnin.out; unfold OutO at *; omega, Hb2.out.alloc (by omega) _⟩
              case measure => simp [intOf]
        · have hix := Tryz.ixO7
          by_cases hin : 123 ≤ c ∧ c ≤ 126
          · obtain ⟨a, b⟩ := hin
            go_wp2
            go_ret
            exact ⟨ret_int (by have := Hout.out; have := Hout2.out; unfold OutL at *; unfold OutO at *; unfold cls; repeat (first | rfl | rw [if_pos (by omega)] | rw [if_neg (by omega)])), Hb2.out.alloc (by omega) _⟩
          · have Hnin := Lib.hid hin
            rcases (show c < 123 ∨ 126 < c by omega) with h | h
            all_goals
              clear hin
              go_wp2
              go_roundw
              case rel => exact ⟨8, by omega, by go_num, by have := Hout2.out; have := Hnin.out; unfold OutO at *; omega, Hb2.out.alloc (by omega) _⟩
              case measure => simp [intOf]
        · go_wp2
          go_ret
          exact ⟨ret_int (by have := Hout.out; have := Hout2.out; unfold OutL at *; unfold OutO at *; unfold cls; repeat (first | rfl | rw [if_pos (by omega)] | rw [if_neg (by omega)])), Hb2.out⟩
end Go.Proofs.YthjcifokmcbaoaaGreatDoor.gl
/- What the row's list gives: the two tables of package glyph lie in the world; the library's own number is some number. And a world for the witness. No conditions. -/
namespace Go.Proofs.YthjcifokmcbaoaaGreatDoor.gl
open Go.ChangeShapes Go.WideShapes Go.ChangeAt Go.RowKit

def laidL : List (String × DataW Unit) := [("unicode/utf8.acceptRanges", Rows.laid_unicode_utf8_acceptRanges), ("tinderbox/glyph.letters", Rows.laid_tinderbox_glyph_letters), ("tinderbox/glyph.others", Rows.laid_tinderbox_glyph_others), ("unicode/utf8.first", Rows.laid_unicode_utf8_first)]

theorem gLet : Tryz.prog.globalNamed "tinderbox/glyph.letters" = some 1 := by kernel_rfl
theorem gOth : Tryz.prog.globalNamed "tinderbox/glyph.others" = some 2 := by kernel_rfl
theorem gLetT : (Tryz.prog.globals[1]?).map (·.type) = some 150 := by kernel_rfl
theorem gOthT : (Tryz.prog.globals[2]?).map (·.type) = some 151 := by kernel_rfl
theorem cSpan : Tryz.prog.cellsOf 149 = 3 := by kernel_rfl
theorem cU8 : Tryz.prog.cellsOf 5 = 1 := by kernel_rfl
theorem cInt : Tryz.prog.cellsOf 3 = 1 := by kernel_rfl

theorem len3 {α : Type} : ∀ {l : List α}, l.length = 3 → ∃ a b c, l = [a, b, c]
  | [a, b, c], _ => ⟨a, b, c, rfl⟩
theorem span_cells {H : Type} {enc : TypeId × Value → H} {w : World} {base fuel : Nat} {sp : Nat → Bool} {held : Bool} {cs : List Value} {a b c : Int} {p : List MemPlace}
    (h : DataW.trod enc Tryz.prog w base sp held fuel 149 cs = some (.agg [.lit (.int .u8 a), .lit (.int .u8 b), .lit (.int .i64 c)], p)) : cs = [.int .u8 a, .int .u8 b, .int .i64 c] := by
  obtain ⟨xs, n, rfl, hx, hl, hxl, hall⟩ := DataW.trod_struct Tryz.underlying149 h
  rw [cSpan] at hl
  have f0 := hall 0 _ rfl
  have f1 := hall 1 _ rfl
  have f2 := hall 2 _ rfl
  change DataW.trod _ _ _ _ _ _ _ 5 ((cs.drop 0).take (Tryz.prog.cellsOf 5)) = _ at f0
  change DataW.trod _ _ _ _ _ _ _ 5 ((cs.drop 1).take (Tryz.prog.cellsOf 5)) = _ at f1
  change DataW.trod _ _ _ _ _ _ _ 3 ((cs.drop 2).take (Tryz.prog.cellsOf 3)) = _ at f2
  rw [cU8] at f0 f1
  rw [cInt] at f2
  have hxl3 : xs.length = 3 := hxl
  clear hall hxl
  obtain ⟨x0, x1, x2, rfl⟩ := len3 hxl3
  obtain ⟨c0, c1, c2, rfl⟩ := len3 hl
  obtain ⟨z0, e0, y0, _⟩ := DataW.trod_int Tryz.underlying5 f0
  obtain ⟨z1, e1, y1, _⟩ := DataW.trod_int Tryz.underlying5 f1
  obtain ⟨z2, e2, y2, _⟩ := DataW.trod_int Tryz.underlying3 f2
  simp at e0 e1 e2
  simp only [Prod.mk.injEq, DataW.agg.injEq, List.map_cons, List.map_nil, List.cons.injEq, and_true, y0, y1, y2, DataW.lit.injEq, Lit.int.injEq, true_and] at hx
  obtain ⟨⟨rfl, rfl, rfl⟩, _⟩ := hx
  rw [e0, e1, e2]

theorem elem_cells {H : Type} {enc : TypeId × Value → H} {w : World} {base fuel : Nat} {sp : Nat → Bool} {held : Bool} {cs : List Value} {ds : List (DataW H)} {p : List MemPlace} {t : TypeId} {n : Nat}
    (ht : Tryz.prog.underlying t = some (.array n 149)) (h : DataW.trod enc Tryz.prog w base sp held fuel t cs = some (.agg ds, p)) (i : Nat) (hi : i < n) {a b c : Int}
    (hd : ds[i]? = some (.agg [.lit (.int .u8 a), .lit (.int .u8 b), .lit (.int .i64 c)])) (j : Nat) (hj : j < 3) : cs[i * 3 + j]? = [Value.int .u8 a, .int .u8 b, .int .i64 c][j]? := by
  obtain ⟨fuel', d, q, hdi, he⟩ := Lib.array_elem ht h i hi
  obtain rfl := Option.some.inj (hd.symm.trans hdi)
  rw [cSpan] at he
  have hcs := span_cells he
  have := congrArg (·[j]?) hcs
  simp only [List.getElem?_take, List.getElem?_drop] at this
  rw [if_pos hj] at this
  exact this

theorem letters_of {W : World} (h : Lib.VarReads Tryz.prog W "tinderbox/glyph.letters" Rows.laid_tinderbox_glyph_letters) : W.rangeAt 1 0 lettersL := by
  obtain ⟨g, t, cs, fuel, p, hg, hty, hvar, hd⟩ := h
  obtain rfl := Option.some.inj (gLet.symm.trans hg)
  obtain rfl := Option.some.inj (gLetT.symm.trans hty)
  intro k v hv
  have hk : k < 9 := (List.getElem?_eq_some_iff.1 hv).1
  rw [World.var?_cell hg hvar _, ← hv, ← Array.getElem?_toList, Nat.zero_add]
  have e : k = k / 3 * 3 + k % 3 := by omega
  have hq : k / 3 < 3 := by omega
  have hr : k % 3 < 3 := by omega
  rw [e]
  generalize k / 3 = q at hq
  generalize k % 3 = r at hr
  clear e hv hk
  match q, hq with
  | 0, _ => rw [elem_cells Tryz.underlying150 hd 0 (by decide) rfl r hr]; match r, hr with | 0, _ => rfl | 1, _ => rfl | 2, _ => rfl
  | 1, _ => rw [elem_cells Tryz.underlying150 hd 1 (by decide) rfl r hr]; match r, hr with | 0, _ => rfl | 1, _ => rfl | 2, _ => rfl
  | 2, _ => rw [elem_cells Tryz.underlying150 hd 2 (by decide) rfl r hr]; match r, hr with | 0, _ => rfl | 1, _ => rfl | 2, _ => rfl

theorem others_of {W : World} (h : Lib.VarReads Tryz.prog W "tinderbox/glyph.others" Rows.laid_tinderbox_glyph_others) : W.rangeAt 2 0 othersL := by
  obtain ⟨g, t, cs, fuel, p, hg, hty, hvar, hd⟩ := h
  obtain rfl := Option.some.inj (gOth.symm.trans hg)
  obtain rfl := Option.some.inj (gOthT.symm.trans hty)
  intro k v hv
  have hk : k < 24 := (List.getElem?_eq_some_iff.1 hv).1
  rw [World.var?_cell hg hvar _, ← hv, ← Array.getElem?_toList, Nat.zero_add]
  have e : k = k / 3 * 3 + k % 3 := by omega
  have hq : k / 3 < 8 := by omega
  have hr : k % 3 < 3 := by omega
  rw [e]
  generalize k / 3 = q at hq
  generalize k % 3 = r at hr
  clear e hv hk
  match q, hq with
  | 0, _ => rw [elem_cells Tryz.underlying151 hd 0 (by decide) rfl r hr]; match r, hr with | 0, _ => rfl | 1, _ => rfl | 2, _ => rfl
  | 1, _ => rw [elem_cells Tryz.underlying151 hd 1 (by decide) rfl r hr]; match r, hr with | 0, _ => rfl | 1, _ => rfl | 2, _ => rfl
  | 2, _ => rw [elem_cells Tryz.underlying151 hd 2 (by decide) rfl r hr]; match r, hr with | 0, _ => rfl | 1, _ => rfl | 2, _ => rfl
  | 3, _ => rw [elem_cells Tryz.underlying151 hd 3 (by decide) rfl r hr]; match r, hr with | 0, _ => rfl | 1, _ => rfl | 2, _ => rfl
  | 4, _ => rw [elem_cells Tryz.underlying151 hd 4 (by decide) rfl r hr]; match r, hr with | 0, _ => rfl | 1, _ => rfl | 2, _ => rfl
  | 5, _ => rw [elem_cells Tryz.underlying151 hd 5 (by decide) rfl r hr]; match r, hr with | 0, _ => rfl | 1, _ => rfl | 2, _ => rfl
  | 6, _ => rw [elem_cells Tryz.underlying151 hd 6 (by decide) rfl r hr]; match r, hr with | 0, _ => rfl | 1, _ => rfl | 2, _ => rfl
  | 7, _ => rw [elem_cells Tryz.underlying151 hd 7 (by decide) rfl r hr]; match r, hr with | 0, _ => rfl | 1, _ => rfl | 2, _ => rfl

theorem glo_of {W : World} (h : laidMet Tryz.prog laidL W) (hs : W.ShapedOpen Tryz.prog) : Glo W :=
  ⟨letters_of (Lib.laidMet.reads h (.tail _ (.head _))), others_of (Lib.laidMet.reads h (.tail _ (.tail _ (.head _)))),
    cell_of_shapedOpen_int (zero := #[.int .i64 0]) (t := 3) hs (of_decide_eq_true (by kernel_rfl)) (by kernel_rfl) rfl (by kernel_rfl) (by kernel_rfl) Tryz.underlying3⟩

/-- The table of the library as cells. -/
def firstL : List Value := Lib.firstTab.map fun z => .int .u8 z
def acceptL : List Value := [.int .u8 128, .int .u8 191, .int .u8 160, .int .u8 191, .int .u8 128, .int .u8 159, .int .u8 144, .int .u8 191, .int .u8 128, .int .u8 143, .int .u8 0, .int .u8 0, .int .u8 0, .int .u8 0, .int .u8 0, .int .u8 0,
  .int .u8 0, .int .u8 0, .int .u8 0, .int .u8 0, .int .u8 0, .int .u8 0, .int .u8 0, .int .u8 0, .int .u8 0, .int .u8 0, .int .u8 0, .int .u8 0, .int .u8 0, .int .u8 0, .int .u8 0, .int .u8 0]
def World.lay (w : World) (g : Nat) (cs : List Value) : World := { w with heap := w.heap.modify g fun
  | .cells _ t frozen => .cells cs.toArray t frozen
  | o => o }
noncomputable def laidWorld (os : Os) : World :=
  World.lay (World.lay (World.lay (World.lay (World.holding Tryz.prog os ⟨#[], #[], []⟩) 1 lettersL) 2 othersL) 6 firstL) 7 acceptL
set_option maxRecDepth 100000 in
theorem laid_met (os : Os) : laidMet Tryz.prog laidL ((laidWorld os).forCall (fun _ _ => 0) ⟨#[], #[], []⟩).memory :=
  laidMet_of_run' 8 (by kernel_rfl) (by kernel_rfl)
end Go.Proofs.YthjcifokmcbaoaaGreatDoor.gl
/- Laws on memory for any program: which old blocks a call may have turned, and that what is read elsewhere stays. No program in sight; no conditions beside those stated. -/
namespace Go.Proofs.YthjcifokmcbaoaaGreatDoor
open Go.RowKit

/-- No old block outside S has turned. -/
structure Upd (S : List Nat) (w w' : World) : Prop where
  os : w'.os = w.os
  tape : w'.tape = w.tape
  output : w'.output = w.output
  size : w.heap.size ≤ w'.heap.size
  block : ∀ k, k < w.heap.size → k ∉ S → w'.heap[k]? = w.heap[k]?

namespace Upd
variable {S T : List Nat} {a b c w w' : World}
theorem refl (S : List Nat) (w : World) : Upd S w w := ⟨rfl, rfl, rfl, Nat.le_refl _, fun _ _ _ => rfl⟩
theorem of_below (h : Below w.heap.size w w') (S : List Nat) : Upd S w w' := ⟨h.os, h.tape, h.output, h.size, fun k hk _ => h.block k hk⟩
theorem of_grown {row : Option Nat} (h : w.grownBy w' row) (hr : ∀ k, row = some k → k ∈ S) : Upd S w w' :=
  ⟨h.os, h.tape, h.output, h.size, fun k hk hn => h.block k hk fun e => hn (hr k e.symm)⟩
theorem trans (h : Upd S a b) (h2 : Upd T b c) (hT : ∀ k ∈ T, k ∈ S ∨ a.heap.size ≤ k) : Upd S a c :=
  ⟨h2.os.trans h.os, h2.tape.trans h.tape, h2.output.trans h.output, Nat.le_trans h.size h2.size, fun k hk hn =>
    (h2.block k (Nat.lt_of_lt_of_le hk h.size) fun e => by rcases hT k e with h' | h'; exact hn h'; omega).trans (h.block k hk hn)⟩
theorem mono (h : Upd S w w') (hT : ∀ k ∈ S, k ∈ T) : Upd T w w' := ⟨h.os, h.tape, h.output, h.size, fun k hk hn => h.block k hk fun e => hn (hT k e)⟩
theorem drew (h : Upd S a w) : Upd S a w.drew := ⟨h.os, h.tape, h.output, h.size, h.block⟩
theorem drewN (h : Upd S a w) (n : Nat) : Upd S a (w.drewN n) := ⟨h.os, h.tape, h.output, h.size, h.block⟩
theorem alloc (h : Upd S a w) (o : Obj) : Upd S a (w.alloc o) :=
  h.trans (T := []) ⟨rfl, rfl, rfl, by simp, fun k hk _ => Below.heap_alloc _ _ _ hk⟩ (by simp)
theorem setCell (h : Upd S a w) {p : Addr} (hp : p.block ∈ S ∨ a.heap.size ≤ p.block) (u : Value) : Upd S a (w.setCell p u) :=
  ⟨h.os, h.tape, h.output, by simpa [World.setCell] using h.size, fun k hk hn => (Below.heap_setCell w p u k (by
    rintro rfl
    rcases hp with h' | h'
    · exact hn h'
    · omega)).trans (h.block k hk hn)⟩
theorem grown {row : Option Nat} (h : Upd S a w) (hg : w.grownBy w' row) (hr : ∀ k, row = some k → k ∈ S ∨ a.heap.size ≤ k) : Upd S a w' :=
  ⟨hg.os.trans h.os, hg.tape.trans h.tape, hg.output.trans h.output, Nat.le_trans h.size hg.size, fun k hk hn => (hg.block k (Nat.lt_of_lt_of_le hk h.size) (by
    intro e
    rcases hr k e.symm with h' | h'
    · exact hn h'
    · omega)).trans (h.block k hk hn)⟩
theorem then_below (h : Upd S a w) (hb : Below w.heap.size w w') : Upd S a w' := h.trans (T := []) (of_below hb []) (by simp)
theorem below (h : Upd S w w') {B : Nat} (hS : ∀ k ∈ S, B ≤ k) (hB : B ≤ w.heap.size) : Below B w w' :=
  ⟨h.os, h.tape, h.output, h.size, fun k hk => h.block k (Nat.lt_of_lt_of_le hk hB) fun e => by have := hS k e; omega⟩
theorem cell (h : Upd S w w') {p : Addr} (hp : p.block < w.heap.size) (hn : p.block ∉ S) : w'.cell? p = w.cell? p := World.cell?_of_block (h.block _ hp hn)
theorem frozen (h : Upd S w w') {p : Addr} (hp : p.block < w.heap.size) (hn : p.block ∉ S) : w'.frozen? p = w.frozen? p := World.frozen?_of_block (h.block _ hp hn)
theorem obj (h : Upd S w w') {k : Nat} {o : Obj} (ho : w.heap[k]? = some o) (hn : k ∉ S) : w'.heap[k]? = some o := (h.block k (lt_of_block ho) hn).trans ho
theorem row (h : Upd S w w') {base n size : Nat} {e : TypeId} {v : Value} {xs : List Value} (ho : w.ownsRow base e size v n xs) (hn : ∀ g, v.ownBlock = some g → g ∉ S) : w'.ownsRow base e size v n xs := by
  refine ⟨ho.1, ?_⟩
  rcases ho.2 with h2 | ⟨g, cap, cur, rfl, hb, hg, r⟩
  · exact .inl h2
  · exact .inr ⟨g, cap, cur, rfl, hb, h.obj hg (hn g rfl), r⟩
end Upd

/-- A call may turn S alone; what it leaves lies in S and in new blocks. -/
def Moves (S : List Nat) (w w' : World) (R : List Nat → Prop) : Prop := ∃ S', R S' ∧ Upd S w w' ∧ ∀ k ∈ S', k ∈ S ∨ w.heap.size ≤ k
def Apart (S T : List Nat) : Prop := ∀ k ∈ S, k ∉ T
theorem Apart.symm {S T : List Nat} (h : Apart S T) : Apart T S := fun k hk hn => h k hn hk
theorem Apart.moved {S S' T : List Nat} {w : World} (h : Apart S T) (hT : ∀ k ∈ T, k < w.heap.size) (hS : ∀ k ∈ S', k ∈ S ∨ w.heap.size ≤ k) : Apart S' T := by
  intro k hk hn
  rcases hS k hk with h' | h'
  · exact h k h' hn
  · have := hT k hn; omega
theorem Apart.new {S T : List Nat} {w : World} (hT : ∀ k ∈ T, k < w.heap.size) (hS : ∀ k ∈ S, w.heap.size ≤ k) : Apart S T := by
  intro k hk hn
  have := hS k hk
  have := hT k hn
  omega

theorem ne_of_types {w : World} {a b : Nat} {c d : Array Value} {s t : TypeId} {f g : Nat × Nat} (ha : w.heap[a]? = some (.cells c s f)) (hb : w.heap[b]? = some (.cells d t g)) (h : s ≠ t) : a ≠ b := by
  rintro rfl
  rw [ha] at hb
  cases hb
  exact h rfl
theorem cell_in {w : World} {b o : Nat} {c : Array Value} {t : TypeId} {f : Nat × Nat} (h : w.heap[b]? = some (.cells c t f)) : w.cell? ⟨b, o, none⟩ = c[o]? := by simp [World.cell?, h]
theorem free_in {w : World} {b o : Nat} {c : Array Value} {t : TypeId} (h : w.heap[b]? = some (.cells c t (0, 0))) : w.frozen? ⟨b, o, none⟩ = false := by simp [World.frozen?, h]
theorem heap_set {w : World} {b o : Nat} {c : Array Value} {t : TypeId} {f : Nat × Nat} (h : w.heap[b]? = some (.cells c t f)) (u : Value) : (w.setCell ⟨b, o, none⟩ u).heap[b]? = some (.cells (c.setIfInBounds o u) t f) := by
  have hlt := lt_of_block h
  have h' : w.heap[b] = .cells c t f := by simpa [Array.getElem?_eq_getElem hlt] using h
  show (w.heap.modify b _)[b]? = _
  rw [Array.getElem?_eq_getElem (by simpa using hlt), Array.getElem_modify_self, h']
  rfl
theorem heap_set_ne {w : World} {k : Nat} {p : Addr} {o : Obj} (h : w.heap[k]? = some o) (u : Value) (hne : k ≠ p.block) : (w.setCell p u).heap[k]? = some o := (Below.heap_setCell w p u k hne).trans h
theorem heap_al {w : World} {k : Nat} {o : Obj} (h : w.heap[k]? = some o) (o' : Obj) : (w.alloc o').heap[k]? = some o := (Below.heap_alloc w o' k (lt_of_block h)).trans h
end Go.Proofs.YthjcifokmcbaoaaGreatDoor
/- Laws on memory for any program: lists of structs that are marked by their owner, then grown, one by one. No program in sight; no conditions beside those stated. -/
namespace Go.Proofs.YthjcifokmcbaoaaGreatDoor.ls
open Go.RowKit

theorem lt_get {α : Type} {l : List α} {x : α} {i : Nat} (h : l[i]? = some x) : i < l.length := by
  rcases Nat.lt_or_ge i l.length with h1 | h1
  · exact h1
  · rw [List.getElem?_eq_none h1] at h; cases h
theorem get_snoc {α : Type} {l : List α} {x y : α} {i : Nat} (h : (l ++ [x])[i]? = some y) : l[i]? = some y ∨ (i = l.length ∧ y = x) := by
  rcases Nat.lt_or_ge i l.length with h1 | h1
  · rw [List.getElem?_append_left h1] at h; exact .inl h
  · rw [List.getElem?_append_right h1] at h
    have := lt_get h
    simp at this
    have hi : i = l.length := by omega
    subst hi
    simp at h
    exact .inr ⟨rfl, h.symm⟩
theorem addN (g o k : Nat) : (⟨g, o, none⟩ : Addr).add k = ⟨g, o + k, none⟩ := by unfold Addr.add; split <;> simp_all

/-- The cells from o on. -/
def At (cs : Array Value) (o : Nat) (m : List Value) : Prop := ∀ (i : Nat) (v : Value), m[i]? = some v → cs[o + i]? = some v
def setR : Array Value → Nat → List Value → Array Value
  | cs, _, [] => cs
  | cs, o, v :: r => setR (cs.setIfInBounds o v) (o + 1) r
theorem setR_size : ∀ (vs : List Value) (cs : Array Value) (o : Nat), (setR cs o vs).size = cs.size
  | [], _, _ => rfl
  | v :: r, cs, o => by rw [setR, setR_size r]; simp
theorem setR_out : ∀ (vs : List Value) (cs : Array Value) (o i : Nat), i < o ∨ o + vs.length ≤ i → (setR cs o vs)[i]? = cs[i]?
  | [], _, _, _, _ => rfl
  | v :: r, cs, o, i, h => by
    rw [setR, setR_out r _ _ _ (by simp at h; omega), Array.getElem?_setIfInBounds_ne (by simp at h; omega)]
theorem setR_in : ∀ (vs : List Value) (cs : Array Value) (o : Nat), o + vs.length ≤ cs.size → At (setR cs o vs) o vs
  | [], _, _, _ => fun i v h => by simp at h
  | u :: r, cs, o, h => by
    intro i v hi
    rw [setR]
    cases i with
    | zero =>
      simp at hi
      subst hi
      rw [setR_out r _ _ _ (by omega), Nat.add_zero, Array.getElem?_setIfInBounds_self_of_lt (by simp at h; omega)]
    | succ i =>
      have := setR_in r (cs.setIfInBounds o u) (o + 1) (by simp at h ⊢; omega) i v (by simpa using hi)
      rwa [show o + 1 + i = o + (i + 1) by omega] at this
theorem At.out {cs : Array Value} {o o' : Nat} {m vs : List Value} (h : At cs o' m) (hd : o' + m.length ≤ o ∨ o + vs.length ≤ o') : At (setR cs o vs) o' m := by
  intro i v hi
  have := lt_get hi
  rw [setR_out vs cs o (o' + i) (by omega)]
  exact h i v hi
theorem heap_setCells {g : Nat} {T : TypeId} {f : Nat × Nat} : ∀ (vs : List Value) (w : World) (cs : Array Value) (o : Nat), w.heap[g]? = some (.cells cs T f) → (w.setCells g o vs).heap[g]? = some (.cells (setR cs o vs) T f)
  | [], _, _, _, h => h
  | v :: r, _w, _cs, _o, h => heap_setCells r _ _ _ (heap_set h v)
theorem heap_setCells_ne {g k : Nat} (hne : k ≠ g) : ∀ (vs : List Value) (w : World) (o : Nat), (w.setCells g o vs).heap[k]? = w.heap[k]?
  | [], _, _ => rfl
  | v :: r, w, o => by rw [World.setCells, heap_setCells_ne hne r, Below.heap_setCell w ⟨g, o, none⟩ v k hne]
theorem setCells_size {g : Nat} : ∀ (vs : List Value) (w : World) (o : Nat), (w.setCells g o vs).heap.size = w.heap.size
  | [], _, _ => rfl
  | v :: r, w, o => by rw [World.setCells, setCells_size r]; simp [World.setCell]
theorem below_setCells {B g : Nat} {w0 : World} (hg : B ≤ g) : ∀ (vs : List Value) (w : World) (o : Nat), Below B w0 w → Below B w0 (w.setCells g o vs)
  | [], _, _, h => h
  | v :: r, _w, _o, h => below_setCells hg r _ _ (h.setCell hg v)
theorem upd_setCells {S : List Nat} {g : Nat} {a : World} (hg : g ∈ S ∨ a.heap.size ≤ g) : ∀ (vs : List Value) (w : World) (o : Nat), Upd S a w → Upd S a (w.setCells g o vs)
  | [], _, _, h => h
  | v :: r, _w, o, h => upd_setCells hg r _ _ (h.setCell (p := ⟨g, o, none⟩) hg v)

section
variable (T TL : TypeId) (sz : Nat) (mk : Nat → List Value) (d B M : Nat)
/-- A block of structs of type T. -/
def SB (w : World) (g : Nat) (cs : Array Value) : Prop := w.heap[g]? = some (.cells cs T (0, 0))
def SK (w w' : World) : Prop := ∀ g cs, SB T w g cs → SB T w' g cs
structure LR where
  p : Option Addr
  n : Nat
  c : Nat
def LR.v (R : LR) : Value := .slice R.p R.n R.c
/-- One list, in a block from B on, below M; its first q elements are marked. -/
def HoldR (w : World) (i : Nat) (R : LR) (q : Nat) : Prop :=
  R.n ≤ 4294967295 ∧ R.n ≤ R.c ∧ ((R.p = none ∧ R.n = 0 ∧ R.c = 0) ∨ ∃ g cs, R.p = some ⟨g, 0, none⟩ ∧ B ≤ g ∧ g < M ∧ SB T w g cs ∧ R.c * sz ≤ cs.size ∧ ∀ j, j < q → j < R.n → At cs (j * sz) (mk i))
/-- All lists from k on; of list i cnt i elements are marked. -/
def Hold (w : World) (rs : List LR) (k : Nat) (cnt : Nat → Nat) : Prop := ∀ (i : Nat) (R : LR), k ≤ i → rs[i]? = some R → HoldR T sz mk B M w i R (cnt i)
def Dist (rs : List LR) : Prop := ∀ (i j : Nat) (Ri Rj : LR) (g : Nat), rs[i]? = some Ri → rs[j]? = some Rj → Ri.p = some ⟨g, 0, none⟩ → Rj.p = some ⟨g, 0, none⟩ → i = j
def cntAt (i j : Nat) : Nat → Nat := fun k => if k < i then 4294967295 else if k = i then j else 0
/-- The lists, in a row. -/
def LRow (w : World) (gl : Nat) (rs : List LR) : Prop := ∃ cl, w.heap[gl]? = some (.cells cl TL (0, 0)) ∧ ∀ (i : Nat) (R : LR), rs[i]? = some R → cl[i]? = some R.v
/-- A list that has i's mark alone. -/
def Ent (w : World) (v : Value) (i : Nat) : Prop := ∃ p n c, v = .slice p n c ∧ n ≤ 8589934592 ∧ n ≤ c ∧ (n = 0 ∨ ∃ g cs, p = some ⟨g, 0, none⟩ ∧ SB T w g cs ∧ ∀ j, j < n → At cs (j * sz) (mk i))
def Ents (w : World) (vals : List Value) : Prop := ∀ (t : Nat) (v : Value), vals[t]? = some v → Ent T sz mk w v (t / d)
/-- Where the lists that were collected lie. -/
def Src (rs : List LR) (vals : List Value) : Prop := ∀ (t g n c : Nat), vals[t]? = some (Value.slice (some ⟨g, 0, none⟩) n c) → M ≤ g ∨ ∃ R : LR, rs[t / d]? = some R ∧ R.p = some ⟨g, 0, none⟩
/-- The list that is grown. -/
def XS (w : World) (p : Option Addr) (n c i : Nat) : Prop :=
  (p = none ∧ n = 0 ∧ c = 0) ∨ ∃ g cs, p = some ⟨g, 0, none⟩ ∧ SB T w g cs ∧ n ≤ c ∧ c * sz ≤ cs.size ∧ ∀ j, j < n → At cs (j * sz) (mk i)
def Share (vals : List Value) (p : Option Addr) (n : Nat) : Prop := ∀ (t g n' c' : Nat), vals[t]? = some (Value.slice (some ⟨g, 0, none⟩) n' c') → p = some ⟨g, 0, none⟩ → n' ≤ n
structure Ph (rs : List LR) (gl : Nat) (w wr : World) (k m : Nat) (al : Value) (vals : List Value) : Prop where
  own : wr.ownsRow M TL 1 al m vals
  ents : Ents T sz mk d wr vals
  src : Src d M rs vals
  rest : Hold T sz mk B M wr rs k (cntAt rs.length 0)
  row : LRow TL wr gl rs
  bel : Below B w wr
  size : M ≤ wr.heap.size
structure Gr (rs : List LR) (wr : World) (k : Nat) (vals : List Value) (p : Option Addr) (n c : Nat) : Prop where
  xs : XS T sz mk wr p n c k
  sh : Share vals p n
  at_ : ∀ g, p = some ⟨g, 0, none⟩ → (B ≤ g ∧ (M ≤ g ∨ ∃ R : LR, rs[k]? = some R ∧ R.p = some ⟨g, 0, none⟩))
end

section
variable {T TL : TypeId} {sz : Nat} {mk : Nat → List Value} {d B M : Nat} {w w' wr w1 : World} {rs : List LR} {gl k m n c i : Nat} {p : Option Addr} {al : Value} {vals : List Value}
theorem SK.of_below (hb : Below w.heap.size w w') : SK T w w' := fun g _ h => (hb.block g (lt_of_block h)).trans h
theorem SK.trans {a b e : World} (h : SK T a b) (h2 : SK T b e) : SK T a e := fun g cs h3 => h2 g cs (h g cs h3)
theorem SK.own {base : Nat} {v : Value} {xs : List Value} {s : Nat} (hT : T ≠ TL) (ho : w.ownsRow base TL s v n xs) (hg : w.grownBy w' v.ownBlock) : SK T w w' := by
  intro g cs h
  refine (hg.block g (lt_of_block h) ?_).trans h
  intro e
  rcases ho.2 with ⟨rfl, _⟩ | ⟨k, cap, cur, rfl, _, hk, _⟩
  · cases e
  · exact ne_of_types h hk hT (Option.some.inj e)
theorem HoldR.keep {R : LR} {q : Nat} (h : HoldR T sz mk B M w i R q) (hk : SK T w w') : HoldR T sz mk B M w' i R q := by
  obtain ⟨h1, h2, h3⟩ := h
  refine ⟨h1, h2, ?_⟩
  rcases h3 with h3 | ⟨g, cs, h3, h4, h5, h6, h7⟩
  · exact .inl h3
  · exact .inr ⟨g, cs, h3, h4, h5, hk g cs h6, h7⟩
theorem HoldR.upM {R : LR} {q M' : Nat} (h : HoldR T sz mk B M w i R q) (hM : M ≤ M') : HoldR T sz mk B M' w i R q := by
  obtain ⟨h1, h2, h3⟩ := h
  refine ⟨h1, h2, ?_⟩
  rcases h3 with h3 | ⟨g, cs, h3, h4, h5, h6, h7⟩
  · exact .inl h3
  · exact .inr ⟨g, cs, h3, h4, by omega, h6, h7⟩
theorem HoldR.more {R : LR} {q q' : Nat} (h : HoldR T sz mk B M w i R q) (hq : q' ≤ q ∨ R.n ≤ q) : HoldR T sz mk B M w i R q' := by
  obtain ⟨h1, h2, h3⟩ := h
  refine ⟨h1, h2, ?_⟩
  rcases h3 with h3 | ⟨g, cs, h3, h4, h5, h6, h7, h8⟩
  · exact .inl h3
  · exact .inr ⟨g, cs, h3, h4, h5, h6, h7, fun j hj hn => h8 j (by omega) hn⟩
theorem Hold.keep {cnt : Nat → Nat} (h : Hold T sz mk B M w rs k cnt) (hk : SK T w w') : Hold T sz mk B M w' rs k cnt := fun i R hi hR => (h i R hi hR).keep hk
theorem Hold.upM {cnt : Nat → Nat} {M' : Nat} (h : Hold T sz mk B M w rs k cnt) (hM : M ≤ M') : Hold T sz mk B M' w rs k cnt := fun i R hi hR => (h i R hi hR).upM hM
theorem Hold.next {j : Nat} (h : Hold T sz mk B M w rs 0 (cntAt i j)) (hj : ∀ R : LR, rs[i]? = some R → R.n ≤ j) : Hold T sz mk B M w rs 0 (cntAt (i + 1) 0) := by
  intro k R hk hR
  refine (h k R hk hR).more ?_
  unfold cntAt
  rcases Nat.lt_trichotomy k i with h1 | h1 | h1
  · left; rw [if_pos (by omega), if_pos h1]; omega
  · right
    subst h1
    rw [if_neg (by omega), if_pos rfl]
    exact hj R hR
  · left
    rw [if_neg (by omega)]
    split <;> omega
theorem Hold.mark {j g : Nat} {R : LR} (hmk : (mk i).length = sz) (h : Hold T sz mk B M w rs 0 (cntAt i j)) (hd : Dist rs) (hR : rs[i]? = some R) (hp : R.p = some ⟨g, 0, none⟩) (hj : j < R.n) : Hold T sz mk B M (w.setCells g (j * sz) (mk i)) rs 0 (cntAt i (j + 1)) := by
  intro k S hk hS
  obtain ⟨h1, h2, h3⟩ := h k S hk hS
  refine ⟨h1, h2, ?_⟩
  rcases h3 with h3 | ⟨q, cs, h3, h4, h5, h6, h7, h8⟩
  · exact .inl h3
  · right
    by_cases hki : k = i
    · subst hki
      rw [hR] at hS
      obtain rfl := Option.some.inj hS
      rw [hp] at h3
      obtain rfl : g = q := by simpa using h3
      have hmul : (j + 1) * sz ≤ R.c * sz := Nat.mul_le_mul_right _ (by omega)
      rw [Nat.add_mul, Nat.one_mul] at hmul
      refine ⟨g, setR cs (j * sz) (mk k), hp, h4, h5, heap_setCells _ _ _ _ h6, by rw [setR_size]; exact h7, fun t ht htn => ?_⟩
      by_cases htj : t = j
      · subst htj
        exact setR_in _ _ _ (by rw [hmk]; omega)
      · refine (h8 t ?_ htn).out ?_
        · unfold cntAt at ht ⊢
          rw [if_neg (by omega), if_pos rfl] at ht ⊢
          omega
        · rw [hmk]
          rcases Nat.lt_or_ge t j with h9 | h9
          · have := Nat.mul_le_mul_right sz (show t + 1 ≤ j by omega)
            rw [Nat.add_mul, Nat.one_mul] at this
            omega
          · have := Nat.mul_le_mul_right sz (show j + 1 ≤ t by omega)
            rw [Nat.add_mul, Nat.one_mul] at this
            omega
    · have hne : q ≠ g := by
        rintro rfl
        exact hki (hd k i S R q hS hR h3 hp)
      refine ⟨q, cs, h3, h4, h5, (heap_setCells_ne hne _ _ _).trans h6, h7, fun t ht htn => h8 t ?_ htn⟩
      unfold cntAt at ht ⊢
      rw [if_neg hki] at ht ⊢
      exact ht
theorem LRow.below (h : LRow TL w gl rs) (hb : Below w.heap.size w w') : LRow TL w' gl rs := by
  obtain ⟨cl, h1, h2⟩ := h
  exact ⟨cl, (hb.block _ (lt_of_block h1)).trans h1, h2⟩
theorem LRow.set {g o : Nat} {cs : Array Value} {vs : List Value} (hT : T ≠ TL) (h : LRow TL w gl rs) (hs : SB T w g cs) : LRow TL (w.setCells g o vs) gl rs := by
  obtain ⟨cl, h1, h2⟩ := h
  exact ⟨cl, (heap_setCells_ne (ne_of_types h1 hs (Ne.symm hT)) _ _ _).trans h1, h2⟩
theorem LRow.own {base s : Nat} {v : Value} {xs : List Value} (h : LRow TL w gl rs) (ho : w.ownsRow base TL s v n xs) (hgl : gl < base) (hg : w.grownBy w' v.ownBlock) : LRow TL w' gl rs := by
  obtain ⟨cl, h1, h2⟩ := h
  refine ⟨cl, (hg.block gl (lt_of_block h1) ?_).trans h1, h2⟩
  intro e
  have := (ho.lt gl e.symm).1
  omega
theorem LRow.cell (h : LRow TL w gl rs) {R : LR} (hR : rs[i]? = some R) : w.cell? ⟨gl, i, none⟩ = some (.slice R.p R.n R.c) := by
  obtain ⟨cl, h1, h2⟩ := h
  rw [cell_in h1, h2 i R hR]
  rfl
theorem LRow.lt (h : LRow TL w gl rs) : gl < w.heap.size := by obtain ⟨_, h1, _⟩ := h; exact lt_of_block h1
theorem Ent.keep {v : Value} (h : Ent T sz mk w v i) (hk : SK T w w') : Ent T sz mk w' v i := by
  obtain ⟨p, n, c, h1, h2, hc, h3⟩ := h
  refine ⟨p, n, c, h1, h2, hc, ?_⟩
  rcases h3 with h3 | ⟨g, cs, h4, h5, h6⟩
  · exact .inl h3
  · exact .inr ⟨g, cs, h4, hk g cs h5, h6⟩
theorem Ents.keep (h : Ents T sz mk d w vals) (hk : SK T w w') : Ents T sz mk d w' vals := fun t v hv => (h t v hv).keep hk
theorem XS.keep (h : XS T sz mk w p n c i) (hk : SK T w w') : XS T sz mk w' p n c i := by
  rcases h with h | ⟨g, cs, h1, h2, h3⟩
  · exact .inl h
  · exact .inr ⟨g, cs, h1, hk g cs h2, h3⟩
theorem XS.le (h : XS T sz mk w p n c i) : n ≤ c := by
  rcases h with ⟨_, h1, h2⟩ | ⟨_, _, _, _, h, _⟩ <;> omega
theorem XS.ent (h : XS T sz mk w p n c i) (hn : n ≤ 8589934592) : Ent T sz mk w (.slice p n c) i := by
  refine ⟨p, n, c, rfl, hn, h.le, ?_⟩
  rcases h with ⟨_, h, _⟩ | ⟨g, cs, h1, h2, _, _, h3⟩
  · exact .inl h
  · exact .inr ⟨g, cs, h1, h2, h3⟩
theorem own_kept {base size : Nat} {e : TypeId} {v : Value} {xs : List Value} (ho : w.ownsRow base e size v n xs) (hb : Below w.heap.size w w') : w'.ownsRow base e size v n xs := (Upd.of_below hb []).row ho (fun _ _ h => by cases h)
theorem own_set {base s g o : Nat} {v : Value} {xs vs : List Value} {cs : Array Value} (hT : T ≠ TL) (ho : w.ownsRow base TL s v n xs) (hs : SB T w g cs) : (w.setCells g o vs).ownsRow base TL s v n xs := by
  refine (upd_setCells (S := [g]) (a := w) (.inl (by simp)) vs w o (Upd.refl _ w)).row ho fun q hq hm => ?_
  obtain rfl : q = g := by simpa using hm
  rcases ho.2 with ⟨rfl, _⟩ | ⟨k, cap, cur, rfl, _, hk, _⟩
  · cases hq
  · exact ne_of_types hs hk hT (Option.some.inj hq).symm
theorem below_none (h : w.grownBy w' none) : Below w.heap.size w w' := ⟨h.os, h.tape, h.output, h.size, fun k hk => h.block k hk (by simp)⟩

/-- The next list is grown. -/
theorem Ph.begin (h : Ph T TL sz mk d B M rs gl w wr k m al vals) {R : LR} (hR : rs[k]? = some R) (hd : Dist rs) (hm : m = d * k) (hvl : vals.length = m) (hd0 : 0 < d) :
    Ph T TL sz mk d B M rs gl w wr (k + 1) m al vals ∧ Gr T sz mk B M rs wr k vals R.p R.n R.c := by
  refine ⟨⟨h.own, h.ents, h.src, fun i S hi hS => h.rest i S (by omega) hS, h.row, h.bel, h.size⟩, ?_⟩
  obtain ⟨h1, h2, h3⟩ := h.rest k R (Nat.le_refl _) hR
  have hk : k < rs.length := lt_get hR
  refine ⟨?_, ?_, ?_⟩
  · rcases h3 with h3 | ⟨g, cs, h3, h4, h5, h6, h7, h8⟩
    · exact .inl h3
    · refine .inr ⟨g, cs, h3, h6, h2, h7, fun j hj => h8 j ?_ hj⟩
      unfold cntAt
      rw [if_pos hk]
      omega
  · intro t g n' c' ht hp
    exfalso
    rcases h3 with ⟨h3, _⟩ | ⟨g', cs, h3, h4, h5, _⟩
    · rw [hp] at h3; cases h3
    · rw [hp] at h3
      obtain rfl : g = g' := by simpa using h3
      rcases h.src t g n' c' ht with h6 | ⟨S, h6, h7⟩
      · omega
      · have h8 := hd _ _ S R g h6 hR h7 hp
        have h9 := lt_get ht
        have : t / d < k := (Nat.div_lt_iff_lt_mul hd0).2 (by rw [Nat.mul_comm]; omega)
        omega
  · intro g hp
    rcases h3 with ⟨h3, _⟩ | ⟨g', cs, h3, h4, h5, _⟩
    · rw [hp] at h3; cases h3
    · rw [hp] at h3
      obtain rfl : g = g' := by simpa using h3
      exact ⟨h4, .inr ⟨R, hR, hp⟩⟩
/-- The list is collected. -/
theorem Ph.push (hT : T ≠ TL) (h : Ph T TL sz mk d B M rs gl w wr (k + 1) m al vals) (hg : Gr T sz mk B M rs wr k vals p n c) {al' : Value} (ho : w1.ownsRow M TL 1 al' (m + 1) (vals ++ [.slice p n c])) (hgr : wr.grownBy w1 al.ownBlock) (hm : m / d = k) (hn : n ≤ 8589934592) (hgl : gl < M) (hBM : B ≤ M) :
    Ph T TL sz mk d B M rs gl w w1 (k + 1) (m + 1) al' (vals ++ [.slice p n c]) ∧ Gr T sz mk B M rs w1 k (vals ++ [.slice p n c]) p n c := by
  have hk : SK T wr w1 := SK.own hT h.own hgr
  have hvl : vals.length = m := by have := h.own.1; simpa using this
  have hsz := hgr.size
  refine ⟨⟨ho, ?_, ?_, h.rest.keep hk, h.row.own h.own hgl hgr, h.bel.grown hgr (by have := h.size; omega) fun q hq => by have := (h.own.lt q hq).1; omega, by have := h.size; omega⟩, hg.xs.keep hk, ?_, hg.at_⟩
  · intro t v hv
    rcases get_snoc hv with hv | ⟨rfl, rfl⟩
    · exact (h.ents t v hv).keep hk
    · rw [hvl, hm]; exact (hg.xs.keep hk).ent hn
  · intro t g n' c' ht
    rcases get_snoc ht with ht | ⟨rfl, he⟩
    · exact h.src t g n' c' ht
    · cases he
      rw [hvl, hm]
      exact (hg.at_ g rfl).2
  · intro t g n' c' ht hp
    rcases get_snoc ht with ht | ⟨rfl, he⟩
    · exact hg.sh t g n' c' ht hp
    · cases he; exact Nat.le_refl _
theorem Ph.below (h : Ph T TL sz mk d B M rs gl w wr k m al vals) (hb : Below wr.heap.size wr w1) (hBM : B ≤ M) : Ph T TL sz mk d B M rs gl w w1 k m al vals :=
  ⟨own_kept h.own hb, h.ents.keep (SK.of_below hb), h.src, h.rest.keep (SK.of_below hb), h.row.below hb, h.bel.trans (hb.mono (by have := h.size; omega)), by have := h.size; have := hb.size; omega⟩
theorem Gr.below (h : Gr T sz mk B M rs wr k vals p n c) (hb : Below wr.heap.size wr w1) : Gr T sz mk B M rs w1 k vals p n c := ⟨h.xs.keep (SK.of_below hb), h.sh, h.at_⟩
/-- The list grows into its room. -/
theorem Ph.room {g : Nat} (hT : T ≠ TL) (hmk : ∀ i, (mk i).length = sz) (hd : Dist rs) (h : Ph T TL sz mk d B M rs gl w wr (k + 1) m al vals) (hg : Gr T sz mk B M rs wr k vals (some ⟨g, 0, none⟩) n c) (hr : n + 1 ≤ c) :
    Ph T TL sz mk d B M rs gl w (wr.setCells g (n * sz) (mk k)) (k + 1) m al vals ∧ Gr T sz mk B M rs (wr.setCells g (n * sz) (mk k)) k vals (some ⟨g, 0, none⟩) (n + 1) c := by
  obtain ⟨cs, hsb, hnc, hcs, hall⟩ : ∃ cs, SB T wr g cs ∧ n ≤ c ∧ c * sz ≤ cs.size ∧ ∀ j, j < n → At cs (j * sz) (mk k) := by
    rcases hg.xs with ⟨h, _⟩ | ⟨g', cs, h1, h2⟩
    · cases h
    · obtain rfl : g = g' := by simpa using h1
      exact ⟨cs, h2⟩
  have hmul : (n + 1) * sz ≤ c * sz := Nat.mul_le_mul_right _ hr
  rw [Nat.add_mul, Nat.one_mul] at hmul
  have hlow : ∀ j, j < n → j * sz + sz ≤ n * sz := fun j hj => by
    have := Nat.mul_le_mul_right sz (show j + 1 ≤ n by omega)
    rw [Nat.add_mul, Nat.one_mul] at this
    exact this
  refine ⟨⟨own_set hT h.own hsb, ?_, h.src, ?_, h.row.set hT hsb, below_setCells (hg.at_ g rfl).1 _ _ _ h.bel, by rw [setCells_size]; exact h.size⟩, ?_, ?_, hg.at_⟩
  · intro t v hv
    obtain ⟨q, n', c', rfl, h2, h3, h4⟩ := h.ents t v hv
    refine ⟨q, n', c', rfl, h2, h3, ?_⟩
    rcases h4 with h4 | ⟨g', cs', rfl, h5, h6⟩
    · exact .inl h4
    · right
      by_cases hgg : g' = g
      · subst hgg
        have hle := hg.sh t g' n' c' hv rfl
        refine ⟨g', _, rfl, heap_setCells _ _ _ _ h5, fun j hj => (h6 j hj).out (.inl ?_)⟩
        rw [hmk]
        exact hlow j (by omega)
      · exact ⟨g', cs', rfl, (heap_setCells_ne hgg _ _ _).trans h5, h6⟩
  · intro i S hi hS
    obtain ⟨h1, h2, h3⟩ := h.rest i S hi hS
    refine ⟨h1, h2, ?_⟩
    rcases h3 with h3 | ⟨q, cs', h3, h4, h5, h6, h7⟩
    · exact .inl h3
    · have hne : q ≠ g := by
        rintro rfl
        rcases (hg.at_ q rfl).2 with h8 | ⟨R, h8, h9⟩
        · omega
        · have := hd _ _ S R q hS h8 h3 h9; omega
      exact .inr ⟨q, cs', h3, h4, h5, (heap_setCells_ne hne _ _ _).trans h6, h7⟩
  · refine .inr ⟨g, _, rfl, heap_setCells _ _ _ _ hsb, hr, by rw [setR_size]; exact hcs, fun j hj => ?_⟩
    by_cases hjn : j = n
    · subst hjn
      exact setR_in _ _ _ (by rw [hmk]; omega)
    · exact (hall j (by omega)).out (.inl (by rw [hmk]; exact hlow j (by omega)))
  · intro t q n' c' ht hp
    have := hg.sh t q n' c' ht hp
    omega
/-- The list grows into a new block. -/
theorem Gr.grow {base : Nat} {v : Value} {olds : List Value} (hmk : ∀ i, (mk i).length = sz) (_hs0 : 0 < sz) (hg : Gr T sz mk B M rs wr k vals p n c) (he : Ents T sz mk d wr vals) (ho : w1.ownsRow base T sz v (n + 1) (olds ++ mk k)) (hbase : wr.heap.size ≤ base) (hM : M ≤ wr.heap.size) (hBM : B ≤ M) (hl : olds.length = n * sz)
    (ha : ∀ j, j < n → ∀ (i : Nat) u, (mk k)[i]? = some u → olds[j * sz + i]? = some u) : ∃ g c', v = .slice (some ⟨g, 0, none⟩) (n + 1) c' ∧ Gr T sz mk B M rs w1 k vals (some ⟨g, 0, none⟩) (n + 1) c' := by
  rcases ho.2 with ⟨_, h0⟩ | ⟨g, cap, cur, rfl, hgb, hb, hnc, hcm, hcs, htake⟩
  · omega
  · refine ⟨g, cap, rfl, .inr ⟨g, cur, rfl, hb, hnc, by omega, fun j hj i u hu => ?_⟩, ?_, ?_⟩
    · have hi := lt_get hu
      rw [hmk] at hi
      have hlow : j * sz + sz ≤ (n + 1) * sz := by
        have := Nat.mul_le_mul_right sz (show j + 1 ≤ n + 1 by omega)
        rw [Nat.add_mul, Nat.one_mul] at this
        exact this
      have h1 : (olds ++ mk k)[j * sz + i]? = some u := by
        rcases Nat.lt_or_ge j n with h | h
        · have hj2 : j * sz + sz ≤ n * sz := by
            have := Nat.mul_le_mul_right sz (show j + 1 ≤ n by omega)
            rw [Nat.add_mul, Nat.one_mul] at this
            exact this
          rw [List.getElem?_append_left (by omega)]
          exact ha j h i u hu
        · obtain rfl : j = n := by omega
          rw [List.getElem?_append_right (by omega), hl, show j * sz + i - j * sz = i by omega]
          exact hu
      rw [← htake, List.getElem?_take_of_lt (by omega)] at h1
      rwa [Array.getElem?_toList] at h1
    · intro t q n' c' ht hp
      obtain rfl : g = q := by simpa using hp
      obtain ⟨p', m', d', hev, _, _, h3⟩ := he t _ ht
      cases hev
      rcases h3 with h3 | ⟨q, cs, hq, h5, _⟩
      · omega
      · obtain rfl : g = q := by simpa using hq
        have := lt_of_block h5
        omega
    · intro q hq
      obtain rfl : g = q := by simpa using hq
      exact ⟨by omega, .inl (by omega)⟩
/-- The cells of the list that is grown. -/
theorem XS.olds (hmk : ∀ i, (mk i).length = sz) (_hs0 : 0 < sz) (h : XS T sz mk w p n c k) : ∃ olds : List Value, olds.length = n * sz ∧ (∀ j, j < n → ∀ (i : Nat) u, (mk k)[i]? = some u → olds[j * sz + i]? = some u) ∧ (∀ b, p = some b → ∀ j u, olds[j]? = some u → w.cell? (b.add j) = some u) ∧ (p = none → n = 0 ∧ c = 0) := by
  rcases h with ⟨h1, h2, h3⟩ | ⟨g, cs, h1, h2, h3, h4, h5⟩
  · exact ⟨[], by simp [h2], fun j hj => by omega, fun b hb j u hj => by simp at hj, fun _ => ⟨h2, h3⟩⟩
  · have hle : n * sz ≤ c * sz := Nat.mul_le_mul_right _ h3
    refine ⟨cs.toList.take (n * sz), by simp; omega, fun j hj i u hu => ?_, fun b hb j u hj => ?_, fun hp => by rw [hp] at h1; cases h1⟩
    · have hi := lt_get hu
      rw [hmk] at hi
      have := Nat.mul_le_mul_right sz (show j + 1 ≤ n by omega)
      rw [Nat.add_mul, Nat.one_mul] at this
      rw [List.getElem?_take_of_lt (by omega), Array.getElem?_toList]
      exact h5 j hj i u hu
    · rw [h1] at hb
      obtain rfl := Option.some.inj hb
      rw [addN, Nat.zero_add, cell_in h2]
      have := lt_get hj
      simp at this
      rw [List.getElem?_take_of_lt (by omega), Array.getElem?_toList] at hj
      exact hj
/-- An element of the list that was collected. -/
theorem Ent.cells {_v : Value} {g : Nat} (h : Ent T sz mk w (.slice (some ⟨g, 0, none⟩) n c) i) {j : Nat} (hj : j < n) : ∃ cs, SB T w g cs ∧ At cs (j * sz) (mk i) := by
  obtain ⟨p', n', c', he, _, _, h3⟩ := h
  cases he
  rcases h3 with h3 | ⟨g', cs, hg, h5, h6⟩
  · omega
  · obtain rfl : g = g' := by simpa using hg
    exact ⟨cs, h5, h6 j hj⟩
end
end Go.Proofs.YthjcifokmcbaoaaGreatDoor.ls
/- Laws on memory for any program: a slice that reads as a list of structs of k cells each, and one that lies in memory of its own. No program in sight; no conditions beside those stated. -/
namespace Go.Proofs.YthjcifokmcbaoaaGreatDoor.rw
open Go.RowKit ls

section
variable {α : Type} (enc : α → List Value) (k : Nat)
def flat (l : List α) : List Value := l.flatMap enc
variable {enc k}
theorem flat_len (hk : ∀ x, (enc x).length = k) : ∀ l : List α, (flat enc l).length = l.length * k
  | [] => by simp [flat]
  | x :: r => by
    have := flat_len hk r
    simp only [flat, List.flatMap_cons, List.length_append, List.length_cons] at this ⊢
    rw [this, hk, Nat.succ_mul]
    omega
theorem flat_at (hk : ∀ x, (enc x).length = k) : ∀ (l : List α) (j : Nat) (x : α) (i : Nat) (v : Value), l[j]? = some x → (enc x)[i]? = some v → (flat enc l)[j * k + i]? = some v
  | [], j, x, i, v, h, _ => by simp at h
  | y :: r, 0, x, i, v, h, hv => by
    simp at h
    subst h
    have hi := lt_get hv
    simp only [flat, List.flatMap_cons]
    rw [List.getElem?_append_left (by omega)]
    simpa using hv
  | y :: r, j + 1, x, i, v, h, hv => by
    have := flat_at hk r j x i v (by simpa using h) hv
    simp only [flat, List.flatMap_cons]
    have e : (j + 1) * k = j * k + k := Nat.succ_mul j k
    rw [List.getElem?_append_right (by rw [hk]; omega), hk, ← this]
    simp only [flat]
    congr 1
    omega
theorem flat_snoc (l : List α) (x : α) : flat enc (l ++ [x]) = flat enc l ++ enc x := by simp [flat]
theorem flat_append (l m : List α) : flat enc (l ++ m) = flat enc l ++ flat enc m := by simp [flat]
theorem flat_one (h1 : ∀ x, ∀ v ∈ enc x, v.oneCell' = true) (l : List α) : ∀ v ∈ flat enc l, v.oneCell' = true := by
  intro v hv
  obtain ⟨x, _, hx⟩ := List.mem_flatMap.1 hv
  exact h1 x v hx

variable (enc k)
/-- A slice reads as a list. -/
def Rw (w : World) (v : Value) (l : List α) : Prop :=
  ∃ (p : Option Addr) (c : Nat), v = .slice p l.length c ∧ l.length ≤ c ∧ (l = [] ∨ ∃ b o, p = some ⟨b, o, none⟩ ∧ b < w.heap.size ∧ ∀ (j : Nat) (x : α), l[j]? = some x → ∀ (i : Nat) (u : Value), (enc x)[i]? = some u → w.cell? ⟨b, o + (j * k + i), none⟩ = some u)
variable {enc k}
theorem Rw.later {w w' : World} {v : Value} {l : List α} (h : Rw enc k w v l) (hb : Below w.heap.size w w') : Rw enc k w' v l := by
  obtain ⟨p, c, rfl, hc, h⟩ := h
  refine ⟨p, c, rfl, hc, ?_⟩
  rcases h with h | ⟨b, o, rfl, hlt, hat⟩
  · exact .inl h
  · exact .inr ⟨b, o, rfl, by have := hb.size; omega, fun j x hx i u hu => (hb.cell (p := ⟨b, o + (j * k + i), none⟩) hlt).trans (hat j x hx i u hu)⟩
theorem Rw.upd {w w' : World} {S : List Nat} {v : Value} {l : List α} (h : Rw enc k w v l) (hu : Upd S w w') (hn : ∀ g, v.ownBlock = some g → g ∉ S) : Rw enc k w' v l := by
  obtain ⟨p, c, rfl, hc, h⟩ := h
  refine ⟨p, c, rfl, hc, ?_⟩
  rcases h with h | ⟨b, o, rfl, hlt, hat⟩
  · exact .inl h
  · exact .inr ⟨b, o, rfl, by have := hu.size; omega, fun j x hx i u hu' => (hu.cell (p := ⟨b, o + (j * k + i), none⟩) hlt (hn b rfl)).trans (hat j x hx i u hu')⟩
theorem Rw.cell {w : World} {b o n c : Nat} {l : List α} (h : Rw enc k w (.slice (some ⟨b, o, none⟩) n c) l) {j : Nat} {x : α} (hx : l[j]? = some x) {i : Nat} {u : Value} (hu : (enc x)[i]? = some u) : w.cell? ⟨b, o + (j * k + i), none⟩ = some u := by
  obtain ⟨p, c', he, hc, h⟩ := h
  cases he
  rcases h with rfl | ⟨b', o', hp, hlt, hat⟩
  · simp at hx
  · cases hp
    exact hat j x hx i u hu
theorem Rw.ptr {w : World} {p : Option Addr} {n c : Nat} {l : List α} (h : Rw enc k w (.slice p n c) l) : l.length = n ∧ n ≤ c ∧ (0 < n → ∃ b o, p = some ⟨b, o, none⟩ ∧ b < w.heap.size) := by
  obtain ⟨p', c', he, hc, h⟩ := h
  cases he
  refine ⟨rfl, hc, fun hn => ?_⟩
  rcases h with rfl | ⟨b, o, hp, hlt, _⟩
  · simp at hn
  · exact ⟨b, o, hp, hlt⟩
theorem Rw.form {w : World} {v : Value} {l : List α} (h : Rw enc k w v l) : ∃ p c, v = .slice p l.length c := by
  obtain ⟨p, c, rfl, _⟩ := h
  exact ⟨p, c, rfl⟩
/-- The first of them. -/
theorem Rw.take {w : World} {p : Option Addr} {n c m : Nat} {l : List α} (h : Rw enc k w (.slice p n c) l) (hm : m ≤ n) : Rw enc k w (.slice p m c) (l.take m) := by
  obtain ⟨h1, h2, _⟩ := h.ptr
  obtain ⟨p', c', he, hc, h⟩ := h
  cases he
  refine ⟨p, c, by rw [List.length_take, Nat.min_eq_left hm], by rw [List.length_take]; omega, ?_⟩
  rcases h with rfl | ⟨b, o, rfl, hlt, hat⟩
  · exact .inl (by simp)
  · refine .inr ⟨b, o, rfl, hlt, fun j x hx => hat j x ?_⟩
    rw [List.getElem?_take] at hx
    split at hx
    · exact hx
    · cases hx
theorem rw_nil (w : World) (p : Option Addr) (c : Nat) : Rw enc k w (.slice p 0 c) [] := ⟨p, c, rfl, by simp, .inl rfl⟩
theorem own_rw (hk : ∀ x, (enc x).length = k) {T : TypeId} {w : World} {Bs n : Nat} {v : Value} {l : List α} (hk0 : 0 < k) (h : w.ownsRow Bs T k v n (flat enc l)) : Rw enc k w v l := by
  have hl : l.length = n := by
    have := h.1
    rw [flat_len hk] at this
    exact Nat.eq_of_mul_eq_mul_right hk0 this
  rcases h.2 with ⟨rfl, h0⟩ | ⟨g, cap, cur, rfl, hg, hb, hnc, _⟩
  · subst h0
    exact ⟨none, 0, by rw [hl], by omega, .inl (List.eq_nil_of_length_eq_zero hl)⟩
  · subst hl
    refine ⟨_, cap, rfl, hnc, .inr ⟨g, 0, rfl, lt_of_block hb, fun j x hx i u hu => ?_⟩⟩
    have := h.cells (g := g) rfl (j * k + i) u (flat_at hk l j x i u hx hu)
    rwa [addN] at this
theorem own_len (hk : ∀ x, (enc x).length = k) {T : TypeId} {w : World} {Bs n : Nat} {v : Value} {l : List α} (hk0 : 0 < k) (h : w.ownsRow Bs T k v n (flat enc l)) : l.length = n := by
  have := h.1
  rw [flat_len hk] at this
  exact Nat.eq_of_mul_eq_mul_right hk0 this
variable (enc k)
/-- A list of its own, from block M on; an empty one may lie anywhere, if it has no room. -/
def NewRw (T : TypeId) (M : Nat) (w : World) (v : Value) (l : List α) : Prop :=
  (l = [] ∧ v = .slice none 0 0) ∨ ∃ g c cs, v = .slice (some ⟨g, 0, none⟩) l.length c ∧ l.length ≤ c ∧ M ≤ g ∧ w.heap[g]? = some (.cells cs T (0, 0)) ∧ c * k ≤ cs.size ∧ At cs 0 (flat enc l)
variable {enc k}
theorem own_new (hk : ∀ x, (enc x).length = k) {T : TypeId} {w : World} {Bs n : Nat} {v : Value} {l : List α} (hk0 : 0 < k) (h : w.ownsRow Bs T k v n (flat enc l)) : NewRw enc k T Bs w v l := by
  have hl := own_len hk hk0 h
  rcases h.2 with ⟨rfl, h0⟩ | ⟨g, cap, cur, rfl, hg, hb, hnc, hcm, hcs, htake⟩
  · subst h0
    exact .inl ⟨List.eq_nil_of_length_eq_zero hl, rfl⟩
  · subst hl
    refine .inr ⟨g, cap, cur, rfl, hnc, hg, hb, by omega, fun i v hv => ?_⟩
    have hi := lt_get hv
    rw [flat_len hk] at hi
    rw [← htake, List.getElem?_take_of_lt (by omega)] at hv
    rw [Array.getElem?_toList] at hv
    rwa [Nat.zero_add]
theorem NewRw.rw (hk : ∀ x, (enc x).length = k) {T : TypeId} {M : Nat} {w : World} {v : Value} {l : List α} (h : NewRw enc k T M w v l) : Rw enc k w v l := by
  rcases h with ⟨rfl, rfl⟩ | ⟨g, c, cs, rfl, hc, _, hb, _, hat⟩
  · exact ⟨none, 0, rfl, by simp, .inl rfl⟩
  · refine ⟨_, c, rfl, hc, .inr ⟨g, 0, rfl, lt_of_block hb, fun j x hx i u hu => ?_⟩⟩
    rw [cell_in hb]
    exact hat (j * k + i) u (flat_at hk l j x i u hx hu)
theorem NewRw.later {T : TypeId} {M : Nat} {w w' : World} {v : Value} {l : List α} (h : NewRw enc k T M w v l) (hb : Below w.heap.size w w') : NewRw enc k T M w' v l := by
  rcases h with h | ⟨g, c, cs, rfl, hc, hg, hbk, h2⟩
  · exact .inl h
  · exact .inr ⟨g, c, cs, rfl, hc, hg, (hb.block g (lt_of_block hbk)).trans hbk, h2⟩
theorem NewRw.mono {T : TypeId} {M M' : Nat} {w : World} {v : Value} {l : List α} (h : NewRw enc k T M w v l) (hM : M' ≤ M) : NewRw enc k T M' w v l := by
  rcases h with h | ⟨g, c, cs, h1, h2, h3, h4⟩
  · exact .inl h
  · exact .inr ⟨g, c, cs, h1, h2, by omega, h4⟩
theorem NewRw.keep {T : TypeId} {M : Nat} {w w' : World} {v : Value} {l : List α} (h : NewRw enc k T M w v l) (hk : SK T w w') : NewRw enc k T M w' v l := by
  rcases h with h | ⟨g, c, cs, h1, h2, h3, h4, h5⟩
  · exact .inl h
  · exact .inr ⟨g, c, cs, h1, h2, h3, hk g cs h4, h5⟩
theorem NewRw.form {T : TypeId} {M : Nat} {w : World} {v : Value} {l : List α} (h : NewRw enc k T M w v l) : ∃ p c, v = .slice p l.length c := by
  rcases h with ⟨rfl, rfl⟩ | ⟨g, c, cs, rfl, _⟩
  · exact ⟨none, 0, rfl⟩
  · exact ⟨_, c, rfl⟩
/-- The same without the room behind it. -/
theorem NewRw.clip {T : TypeId} {M : Nat} {w : World} {p : Option Addr} {n c : Nat} {l : List α} (h : NewRw enc k T M w (.slice p n c) l) : NewRw enc k T M w (.slice p n n) l := by
  rcases h with ⟨rfl, he⟩ | ⟨g, c', cs, he, h2, h3, h4, h5, h6⟩
  · cases he
    exact .inl ⟨rfl, rfl⟩
  · cases he
    exact .inr ⟨g, _, cs, rfl, Nat.le_refl _, h3, h4, Nat.le_trans (Nat.mul_le_mul_right k h2) h5, h6⟩
/-- A block that was laid whole. -/
theorem rw_lit (hk : ∀ x, (enc x).length = k) {T : TypeId} {w : World} {blk : Nat} {l : List α} {cs : Array Value} (h : w.heap[blk]? = some (.cells cs T (0, 0))) (hc : cs.toList = flat enc l) : Rw enc k w (.slice (some ⟨blk, 0, none⟩) l.length l.length) l := by
  refine ⟨_, _, rfl, Nat.le_refl _, .inr ⟨blk, 0, rfl, lt_of_block h, fun j x hx i u hu => ?_⟩⟩
  rw [cell_in h, Nat.zero_add, ← Array.getElem?_toList, hc]
  exact flat_at hk l j x i u hx hu
end
end Go.Proofs.YthjcifokmcbaoaaGreatDoor.rw
/- glyph.Class, glyph.Count and the reference's Class and Count return one function of numbers. Conditions: the two tables hold what the program's text lays. -/
namespace Go.Proofs.YthjcifokmcbaoaaGreatDoor.gl
open Go.ChangeShapes Go.WideShapes Go.ChangeAt Go.RowKit

theorem refClass_any (b : Int) (w : World) :
    Calls Tryz.prog 116 #[.int .i64 b] w fun e w' => e = .returned (.int .i64 (cls b)) ∧ w = w' := by
  rcases (show b < 9 ∨ b = 9 ∨ b = 10 ∨ (11 ≤ b ∧ b ≤ 12) ∨ b = 13 ∨ (14 ≤ b ∧ b ≤ 31) ∨ b = 32 ∨ (33 ≤ b ∧ b ≤ 47) ∨ (48 ≤ b ∧ b ≤ 57) ∨ (58 ≤ b ∧ b ≤ 64) ∨ (65 ≤ b ∧ b ≤ 90) ∨ (91 ≤ b ∧ b ≤ 96) ∨ (97 ≤ b ∧ b ≤ 122) ∨ (123 ≤ b ∧ b ≤ 126) ∨ 127 ≤ b by omega) with h | rfl | rfl | ⟨h, h'⟩ | rfl | ⟨h, h'⟩ | rfl | ⟨h, h'⟩ | ⟨h, h'⟩ | ⟨h, h'⟩ | ⟨h, h'⟩ | ⟨h, h'⟩ | ⟨h, h'⟩ | ⟨h, h'⟩ | h
  all_goals
    first
      | (have q1 : (b == 32) = false := by simp only [beq_eq_false_iff_ne]; omega
         have q2 : (b == 9) = false := by simp only [beq_eq_false_iff_ne]; omega
         have q3 : (b == 10) = false := by simp only [beq_eq_false_iff_ne]; omega
         have q4 : (b == 13) = false := by simp only [beq_eq_false_iff_ne]; omega)
      | skip
    go_enter Tryz.func116, Tryz.ntmps116
    go_wp2
    go_ret
    exact ⟨ret_int (by unfold cls; repeat (first | rfl | rw [if_pos (by omega)] | rw [if_neg (by omega)])), rfl⟩

theorem cls_low (b : Int) (h : b < 0) : cls b = 0 := by unfold cls; repeat (first | rfl | rw [if_pos (by omega)] | rw [if_neg (by omega)])
theorem cls_high (b : Int) (h : 127 ≤ b) : cls b = 0 := by unfold cls; repeat (first | rfl | rw [if_pos (by omega)] | rw [if_neg (by omega)])

/-- How many of the numbers below k are of a class. -/
def cnt (of : Int) : Nat → Nat
  | 0 => 0
  | k + 1 => if cls k = of then cnt of k + 1 else cnt of k
theorem cnt_le (of : Int) (k : Nat) : cnt of k ≤ k := by
  induction k with
  | zero => exact Nat.le_refl _
  | succ k ih => unfold cnt; split <;> omega

end Go.Proofs.YthjcifokmcbaoaaGreatDoor.gl
/- Laws on memory for any program: bytes of a string laid as a row, a row of bytes read as a string, appends to a row of bytes that the call owns. No program in sight; no conditions beside those that each theorem states. -/
namespace Go.Proofs.YthjcifokmcbaoaaGreatDoor
open Go.RowKit

theorem ret_int' {k : IntKind} {a b : Int} (h : b = a) : Ending.returned (.int k a) = .returned (.int k b) := by rw [h]
theorem ret_bool {a b : Bool} (h : b = a) : Ending.returned (.bool a) = .returned (.bool b) := by rw [h]
theorem ret_str {a b : ByteArray} (h : b = a) : Ending.returned (.string a) = .returned (.string b) := by rw [h]

/-- A string of bytes as cells. -/
def bv (l : List UInt8) : List Value := l.map fun b => .int .u8 (b.toNat : Int)
theorem bv_length (l : List UInt8) : (bv l).length = l.length := by simp [bv]
theorem bv_append (a b : List UInt8) : bv (a ++ b) = bv a ++ bv b := by simp [bv]
theorem bv_get (l : List UInt8) (j : Nat) : (bv l)[j]? = l[j]?.map fun b => Value.int .u8 (b.toNat : Int) := by simp [bv]
theorem bv_one (l : List UInt8) : ∀ u ∈ bv l, u.oneCell' = true := by
  intro u hu
  simp only [bv, List.mem_map] at hu
  obtain ⟨b, _, rfl⟩ := hu
  rfl

/-- A string's byte at a place, as a letter. -/
theorem byteAt (s : ByteArray) (k : Nat) (h : k < s.size) : ∃ b : UInt8, s.data.toList[k]? = some b ∧ (∀ h' : k < s.size, ((s[k]'h').toNat : Int) = (b.toNat : Int)) ∧ (0 : Int) ≤ (b.toNat : Int) ∧ (b.toNat : Int) ≤ 255 :=
  ⟨s[k], by
    have : s.data.toList[k]? = some (s.data[k]'h) := by simp [h]
    exact this, fun _ => rfl, by omega, by have := (s[k]).toNat_lt; omega⟩

/-- The bytes l lie at the head of block g, and may be written. -/
structure Lies (w : World) (g : Nat) (l : List UInt8) : Prop where
  cell : ∀ j b, l[j]? = some b → w.cell? ⟨g, j, none⟩ = some (.int .u8 (b.toNat : Int))
  free : ∀ j, j < l.length → w.frozen? ⟨g, j, none⟩ = false

theorem Lies.below {w w' : World} {g B : Nat} {l : List UInt8} (h : Lies w g l) (hb : Below B w w') (hg : g < B) : Lies w' g l :=
  ⟨fun j b hj => (hb.cell (p := ⟨g, j, none⟩) hg).trans (h.cell j b hj), fun j hj => (hb.frozen (p := ⟨g, j, none⟩) hg).trans (h.free j hj)⟩
theorem Lies.grown {w w' : World} {g : Nat} {row : Option Nat} {l : List UInt8} (h : Lies w g l) (hb : w.grownBy w' row) (hg : g < w.heap.size) (hr : some g ≠ row) : Lies w' g l :=
  ⟨fun j b hj => (World.cell?_of_block (hb.block g hg hr)).trans (h.cell j b hj), fun j hj => (World.frozen?_of_block (hb.block g hg hr)).trans (h.free j hj)⟩

section
variable {P : Program}

/-- '[]byte(s)': the bytes lie in a new block. -/
theorem wpList_bytes_of_string {ops : Array Oper} {rest : List Oper} {o : Oper} {a : Act} {w : World} {Q : Exit → Act → World → Prop} (hgd : o.guard = none) (src dst e : TypeId) (x : Operand) (ho : o.op = .convert src dst x)
    (s : ByteArray) (hx : a.eval x = .string s) (hs : P.underlying src = some .string) (hd : P.underlying dst = some (.slice e)) (he : P.underlying e = some (.int .u8))
    (h : ∀ (cap : Nat) (w1 : World), Lies w1 w.heap.size s.data.toList → Below w.heap.size w w1 → w.heap.size < w1.heap.size → s.size ≤ cap → wpList P ops Q rest (a.put o.dst (.slice (some ⟨w.heap.size, 0, none⟩) s.size cap)) w1) :
    wpList P ops Q (o :: rest) a w := by
  refine wpList_plain hgd fun K hK => ?_
  unfold Oper.wp execOp
  simp only [ho, hx, Sem.run_bind, Sem.run_pure, Result.andThen_ok, run_bytes_of_string w src dst e s hs hd he]
  refine hK _ _ (h _ _ ⟨fun j b hj => ?_, fun j hj => ?_⟩ ((Below.refl _ _).drew.alloc (Nat.le_refl _) _) (by simp) (grownCap_ge w s.size 0 e))
  · have hlt : j < s.data.size := by
      rcases Nat.lt_or_ge j s.data.size with h1 | h1
      · exact h1
      · rw [List.getElem?_eq_none (by simpa using h1)] at hj; cases hj
    have hb : s.data[j] = b := by
      have : s.data.toList[j]? = some s.data[j] := by simp
      rw [this] at hj
      exact Option.some.inj hj
    have hc := World.cell?_alloc_mark w.drew (bytesRow s (grownCap w s.size 0 e)) e ((bytesRow s (grownCap w s.size 0 e)).size, (bytesRow s (grownCap w s.size 0 e)).size + 1) j
    rw [bytesRow_at s _ j hlt, hb] at hc
    exact hc
  · have hf := World.frozen?_alloc_mark w.drew (bytesRow s (grownCap w s.size 0 e)) e (bytesRow s (grownCap w s.size 0 e)).size ((bytesRow s (grownCap w s.size 0 e)).size + 1) j
    have hlt : j < (bytesRow s (grownCap w s.size 0 e)).size := by
      simp [bytesRow] at hj ⊢
      omega
    rw [show (decide ((bytesRow s (grownCap w s.size 0 e)).size ≤ j) && decide (j < (bytesRow s (grownCap w s.size 0 e)).size + 1)) = false from by simp; omega] at hf
    exact hf

/-- 'string(b)', b's bytes lying at a block's head. -/
theorem run_string_of_lies (w : World) (src e dst : TypeId) (hs : P.underlying src = some (.slice e)) (he : P.underlying e = some (.int .u8)) (hd : P.underlying dst = some .string) (g cap : Nat) (l : List UInt8) (hl : ∀ j b, l[j]? = some b → w.cell? ⟨g, j, none⟩ = some (.int .u8 (b.toNat : Int))) :
    (convert src dst (.slice (some ⟨g, 0, none⟩) l.length cap)).run P w = .ok (.string ⟨l.toArray⟩) w := by
  refine run_convert_bytes_back w src dst e ⟨g, 0, none⟩ cap l hs he hd fun j hj => ?_
  have hadd : (⟨g, 0, none⟩ : Addr).add j = ⟨g, j, none⟩ := by unfold Addr.add; split <;> simp_all
  rw [hadd]
  exact hl j l[j] (List.getElem?_eq_getElem hj)

theorem wpList_string_of_lies {ops : Array Oper} {rest : List Oper} {o : Oper} {a : Act} {w : World} {Q : Exit → Act → World → Prop} (hgd : o.guard = none) (src dst e : TypeId) (x : Operand) (ho : o.op = .convert src dst x)
    (g n cap : Nat) (l : List UInt8) (hn : l.length = n) (hx : a.eval x = .slice (some ⟨g, 0, none⟩) n cap) (hs : P.underlying src = some (.slice e)) (he : P.underlying e = some (.int .u8)) (hd : P.underlying dst = some .string)
    (hl : ∀ j b, l[j]? = some b → w.cell? ⟨g, j, none⟩ = some (.int .u8 (b.toNat : Int)))
    (h : wpList P ops Q rest (a.put o.dst (.string ⟨l.toArray⟩)) w) : wpList P ops Q (o :: rest) a w := by
  subst hn
  refine wpList_plain hgd fun K hK => ?_
  unfold Oper.wp execOp
  simp only [ho, hx, Sem.run_bind, Sem.run_pure, Result.andThen_ok, run_string_of_lies w src e dst hs he hd g cap l hl]
  exact hK _ _ h

/-- The same of a row of bytes that the call owns, nil too. -/
theorem run_string_of_own (w : World) (src e dst : TypeId) (hs : P.underlying src = some (.slice e)) (he : P.underlying e = some (.int .u8)) (hd : P.underlying dst = some .string) (base n : Nat) (v : Value) (l : List UInt8) (hown : w.ownsRow base e 1 v n (bv l)) :
    (convert src dst v).run P w = .ok (.string ⟨l.toArray⟩) w := by
  have hlen : l.length = n := by have := hown.1; rw [bv_length] at this; omega
  rcases hown.2 with ⟨rfl, rfl⟩ | ⟨g, cap, cur, rfl, _⟩
  · rw [run_convert_bytes_nil w src e hs he 0 0 dst hd]
    obtain rfl : l = [] := List.eq_nil_of_length_eq_zero hlen
    rfl
  · subst hlen
    refine run_string_of_lies w src e dst hs he hd g cap l fun j b hj => ?_
    have hc := hown.cells (g := g) rfl j (.int .u8 (b.toNat : Int)) (by rw [bv_get, hj]; rfl)
    rwa [show (⟨g, 0, none⟩ : Addr).add j = ⟨g, j, none⟩ from by unfold Addr.add; split <;> simp_all] at hc

theorem wpList_string_of_own {ops : Array Oper} {rest : List Oper} {o : Oper} {a : Act} {w : World} {Q : Exit → Act → World → Prop} (hgd : o.guard = none) (src dst e : TypeId) (x : Operand) (ho : o.op = .convert src dst x)
    (base n : Nat) (v : Value) (l : List UInt8) (hx : a.eval x = v) (hown : w.ownsRow base e 1 v n (bv l)) (hs : P.underlying src = some (.slice e)) (he : P.underlying e = some (.int .u8)) (hd : P.underlying dst = some .string)
    (h : wpList P ops Q rest (a.put o.dst (.string ⟨l.toArray⟩)) w) : wpList P ops Q (o :: rest) a w := by
  refine wpList_plain hgd fun K hK => ?_
  unfold Oper.wp execOp
  simp only [ho, hx, Sem.run_bind, Sem.run_pure, Result.andThen_ok, run_string_of_own w src e dst hs he hd base n v l hown]
  exact hK _ _ h
end
end Go.Proofs.YthjcifokmcbaoaaGreatDoor
/- The parts of names: a plain function of bytes, and the reference's part, which returns it. No conditions. -/
namespace Go.Proofs.YthjcifokmcbaoaaGreatDoor.gl
open Go.ChangeShapes Go.WideShapes Go.ChangeAt Go.RowKit

/-- A part of a name. -/
def partL : List UInt8 → Bool
  | [] => false
  | c :: r => decide (cls c.toNat = 1) && r.all fun b => decide (cls b.toNat = 1 ∨ cls b.toNat = 3)
/-- The first k bytes do. -/
def partTo (l : List UInt8) (k : Nat) : Prop := ∀ j b, j < k → l[j]? = some b → (cls b.toNat = 1 ∨ (j ≠ 0 ∧ cls b.toNat = 3))
theorem partTo_zero (l : List UInt8) : partTo l 0 := fun j b h => by omega
theorem partTo_succ {l : List UInt8} {k : Nat} {b : UInt8} (h : partTo l k) (hb : l[k]? = some b) (hc : cls b.toNat = 1 ∨ (k ≠ 0 ∧ cls b.toNat = 3)) : partTo l (k + 1) := by
  intro j c hj hc'
  rcases Nat.lt_or_ge j k with h1 | h1
  · exact h j c h1 hc'
  · obtain rfl : j = k := by omega
    rw [hb] at hc'
    obtain rfl := Option.some.inj hc'
    exact hc
theorem part_bad {l : List UInt8} {k : Nat} {b : UInt8} (hb : l[k]? = some b) (h1 : cls b.toNat ≠ 1) (h2 : k = 0 ∨ cls b.toNat ≠ 3) : partL l = false := by
  cases l with
  | nil => rfl
  | cons c r =>
    cases k with
    | zero =>
      simp at hb
      subst hb
      simp [partL, h1]
    | succ k =>
      have hm : b ∈ r := List.mem_of_getElem? (by simpa using hb)
      have h3 : cls b.toNat ≠ 3 := by rcases h2 with h2 | h2; omega; exact h2
      have : (r.all fun b => decide (cls b.toNat = 1 ∨ cls b.toNat = 3)) = false := by
        rw [List.all_eq_false]
        exact ⟨b, hm, by simp [h1, h3]⟩
      simp only [partL, this, Bool.and_false]
theorem part_end {l : List UInt8} (h : partTo l l.length) : partL l = !l.isEmpty := by
  cases l with
  | nil => rfl
  | cons c r =>
    have h0 := h 0 c (by simp) rfl
    have h1 : cls c.toNat = 1 := by rcases h0 with h0 | h0; exact h0; omega
    have h2 : (r.all fun b => decide (cls b.toNat = 1 ∨ cls b.toNat = 3)) = true := by
      rw [List.all_eq_true]
      intro b hb
      obtain ⟨j, hj⟩ := List.mem_iff_getElem?.1 hb
      have hlt : j < r.length := by
        rcases Nat.lt_or_ge j r.length with h | h
        · exact h
        · rw [List.getElem?_eq_none h] at hj; cases hj
      have := h (j + 1) b (by simp; omega) (by simpa using hj)
      simp
      omega
    simp only [partL, h1, h2]
    rfl

end Go.Proofs.YthjcifokmcbaoaaGreatDoor.gl
/- Plain laws on lists of bytes: what stands between the separators, and that the library's split gives just that. No program in sight. -/
namespace Go.Proofs.YthjcifokmcbaoaaGreatDoor

/-- What stands between the separators. -/
def pcs (sep : UInt8) : List UInt8 → List (List UInt8)
  | [] => [[]]
  | c :: r => if c = sep then [] :: pcs sep r else match pcs sep r with
    | [] => [[c]]
    | p :: ps => (c :: p) :: ps
theorem pcs_ne (sep : UInt8) (l : List UInt8) : pcs sep l ≠ [] := by
  cases l with
  | nil => simp [pcs]
  | cons c r => unfold pcs; split; simp; split <;> simp
theorem pcs_other {sep c : UInt8} {r : List UInt8} {p : List UInt8} {ps : List (List UInt8)} (hc : c ≠ sep) (h : pcs sep r = p :: ps) : pcs sep (c :: r) = (c :: p) :: ps := by
  rw [pcs, if_neg hc, h]
theorem pcs_hit (sep : UInt8) : ∀ (m : Nat) (x : List UInt8), (∀ j, j < m → x[j]? ≠ some sep) → x[m]? = some sep → pcs sep x = x.take m :: pcs sep (x.drop (m + 1))
  | 0, [], _, h => by simp at h
  | 0, c :: r, _, h => by simp at h; subst h; simp [pcs]
  | m + 1, [], _, h => by simp at h
  | m + 1, c :: r, hn, h => by
    have hc : c ≠ sep := fun e => hn 0 (by omega) (by simp [e])
    exact pcs_other hc (pcs_hit sep m r (fun j hj => by have := hn (j + 1) (by omega); simpa using this) (by simpa using h))
theorem pcs_none (sep : UInt8) : ∀ (x : List UInt8), (∀ j : Nat, x[j]? ≠ some sep) → pcs sep x = [x]
  | [], _ => rfl
  | c :: r, hn => pcs_other (fun e => hn 0 (by simp [e])) (pcs_none sep r fun j => by have := hn (j + 1); simpa using this)
theorem pcs_length (sep : UInt8) : ∀ l : List UInt8, (pcs sep l).length = l.count sep + 1
  | [] => by simp [pcs]
  | c :: r => by
    have ih := pcs_length sep r
    by_cases h : c = sep
    · subst h
      simp [pcs, ih]
    · rw [List.count_cons_of_ne h]
      cases hp : pcs sep r with
      | nil => exact absurd hp (pcs_ne sep r)
      | cons p ps => rw [pcs_other h hp]; rw [hp] at ih; simpa using ih
theorem mem_pcs_le (sep : UInt8) : ∀ (l p : List UInt8), p ∈ pcs sep l → p.length ≤ l.length
  | [], p, h => by simp [pcs] at h; simp [h]
  | c :: r, p, h => by
    by_cases hc : c = sep
    · subst hc
      simp only [pcs, if_true, List.mem_cons] at h
      rcases h with rfl | h
      · simp
      · have := mem_pcs_le c r p h; simp; omega
    · cases hp : pcs sep r with
      | nil => exact absurd hp (pcs_ne sep r)
      | cons q ps =>
        rw [pcs_other hc hp] at h
        simp only [List.mem_cons] at h
        rcases h with rfl | h
        · have := mem_pcs_le sep r q (by rw [hp]; simp); simp; omega
        · have := mem_pcs_le sep r p (by rw [hp]; simp [h]); simp; omega

theorem index_hit (sep : UInt8) : ∀ (l : List UInt8), sep ∈ l → ∃ m : Nat, Lib.index l [sep] = m ∧ (∀ j, j < m → l[j]? ≠ some sep) ∧ l[m]? = some sep
  | [], h => by simp at h
  | c :: r, h => by
    by_cases hc : c = sep
    · subst hc
      exact ⟨0, by simp [Lib.index], fun j hj => by omega, by simp⟩
    · obtain ⟨m, h1, h2, h3⟩ := index_hit sep r (by simpa [Ne.symm hc] using h)
      refine ⟨m + 1, ?_, fun j hj => ?_, by simpa using h3⟩
      · have hp : ([sep] : List UInt8).isPrefixOf (c :: r) = false := by simp [List.isPrefixOf, Ne.symm hc]
        rw [Lib.index, hp, h1]
        rw [if_neg (by simp), if_neg (by simp)]
        rfl
      · cases j with
        | zero => simp [hc]
        | succ j => simpa using h2 j (by omega)

theorem splitK_pcs (sep : UInt8) : ∀ (k : Nat) (l : List UInt8), l.count sep = k → Lib.splitK [sep] 0 k l = pcs sep l
  | 0, l, h => by
    rw [Lib.splitK, pcs_none]
    intro j hj
    have := List.count_pos_iff.2 (List.mem_of_getElem? hj)
    omega
  | k + 1, l, h => by
    have hm : sep ∈ l := List.count_pos_iff.1 (by omega)
    obtain ⟨m, h1, h2, h3⟩ := index_hit sep l hm
    have hlt : m < l.length := by
      rcases Nat.lt_or_ge m l.length with h | h
      · exact h
      · rw [List.getElem?_eq_none h] at h3; cases h3
    have hcount : (l.drop (m + 1)).count sep = k := by
      have e : l = l.take m ++ sep :: l.drop (m + 1) := by
        conv => lhs; rw [← List.take_append_drop m l]
        congr 1
        rw [List.drop_eq_getElem_cons hlt]
        congr 1
        rw [List.getElem?_eq_getElem hlt] at h3
        exact Option.some.inj h3
      have h0 : (l.take m).count sep = 0 := by
        rw [List.count_eq_zero]
        intro hmem
        obtain ⟨j, hj⟩ := List.mem_iff_getElem?.1 hmem
        rw [List.getElem?_take] at hj
        split at hj
        · rename_i hjm; exact h2 j hjm hj
        · cases hj
      rw [e, List.count_append, h0, List.count_cons_self] at h
      omega
    rw [Lib.splitK, h1, if_neg (by simp)]
    rw [pcs_hit sep m l h2 h3]
    simp only [Int.toNat_natCast, Nat.add_zero, List.length_cons, List.length_nil, Nat.zero_add]
    rw [splitK_pcs sep k _ hcount]

theorem splitB_pcs (sep : UInt8) (s : ByteArray) : (Lib.splitB ⟨#[sep]⟩ 0 (Lib.countB s ⟨#[sep]⟩) s).map (·.data.toList) = pcs sep s.data.toList := by
  have hc : Lib.countB s ⟨#[sep]⟩ = s.data.toList.count sep := by
    show Lib.count s.data.toList [sep] = _
    exact Lib.count_one sep s.data.toList
  rw [Lib.splitB_data, hc]
  exact splitK_pcs sep _ _ rfl
theorem countB_pcs (sep : UInt8) (s : ByteArray) : Lib.countB s ⟨#[sep]⟩ + 1 = (pcs sep s.data.toList).length := by
  rw [← splitB_pcs, List.length_map, Lib.splitB_all _ (by simp [ByteArray.size]) 0 _ s rfl]
end Go.Proofs.YthjcifokmcbaoaaGreatDoor
/- Names: a plain function of bytes, and the reference's IsName, which returns it. Condition: the text is no longer than 2147483647 bytes. -/
namespace Go.Proofs.YthjcifokmcbaoaaGreatDoor.gl
open Go.ChangeShapes Go.WideShapes Go.ChangeAt Go.RowKit

/-- A name. -/
def nameL (l : List UInt8) : Bool := decide (l.length ≤ 32) && decide ((pcs 46 l).length ≤ 3) && (pcs 46 l).all partL

/-- k bytes have been passed, the part that is read begins at f, n - 1 parts have been read and are parts. -/
structure Scan (l : List UInt8) (n f k : Nat) : Prop where
  le : f ≤ k
  all : (pcs 46 l).all partL = (pcs 46 (l.drop f)).all partL
  len : (pcs 46 l).length + 1 = n + (pcs 46 (l.drop f)).length
  free : ∀ j, f ≤ j → j < k → l[j]? ≠ some 46
  many : 1 ≤ n ∧ n ≤ k + 1
theorem Scan.start (l : List UInt8) : Scan l 1 0 0 := ⟨by omega, rfl, by simp; omega, fun j _ h => by omega, by omega⟩
theorem Scan.pass {l : List UInt8} {n f k : Nat} {b : UInt8} (h : Scan l n f k) (hb : l[k]? = some b) (hne : b ≠ 46) : Scan l n f (k + 1) :=
  ⟨by have := h.le; omega, h.all, h.len, fun j h1 h2 => by
    rcases Nat.lt_or_ge j k with h3 | h3
    · exact h.free j h1 h3
    · obtain rfl : j = k := by omega
      rw [hb]; exact fun e => hne (Option.some.inj e), by have := h.many; omega⟩
theorem Scan.piece {l : List UInt8} {n f k : Nat} (h : Scan l n f k) (hb : l[k]? = some 46) : pcs 46 (l.drop f) = (l.drop f).take (k - f) :: pcs 46 (l.drop (k + 1)) := by
  have hle := h.le
  have := pcs_hit 46 (k - f) (l.drop f) (fun j hj => by rw [List.getElem?_drop]; exact h.free (f + j) (by omega) (by omega)) (by rw [List.getElem?_drop, show f + (k - f) = k by omega]; exact hb)
  rw [List.drop_drop, show f + (k - f + 1) = k + 1 by omega] at this
  exact this
theorem Scan.hit {l : List UInt8} {n f k : Nat} (h : Scan l n f k) (hb : l[k]? = some 46) (hp : partL ((l.drop f).take (k - f)) = true) : Scan l (n + 1) (k + 1) (k + 1) := by
  have e := h.piece hb
  refine ⟨Nat.le_refl _, ?_, ?_, fun j h1 h2 => by omega, by have := h.many; omega⟩
  · rw [h.all, e, List.all_cons, hp, Bool.true_and]
  · have := h.len; rw [e, List.length_cons] at this; omega
theorem Scan.bad {l : List UInt8} {n f k : Nat} (h : Scan l n f k) (hb : l[k]? = some 46) (hp : partL ((l.drop f).take (k - f)) = false) : nameL l = false := by
  unfold nameL
  rw [h.all, h.piece hb, List.all_cons, hp, Bool.false_and, Bool.and_false]
theorem Scan.last {l : List UInt8} {n f : Nat} (h : Scan l n f l.length) : nameL l = (decide (l.length ≤ 32) && decide (n ≤ 3) && partL (l.drop f)) := by
  have e : pcs 46 (l.drop f) = [l.drop f] := pcs_none 46 _ fun j => by
    rw [List.getElem?_drop]
    rcases Nat.lt_or_ge (f + j) l.length with h1 | h1
    · exact h.free _ (by omega) h1
    · rw [List.getElem?_eq_none h1]; simp
  have hl := h.len
  rw [e] at hl
  simp at hl
  unfold nameL
  rw [h.all, e]
  simp [hl]

theorem extract_toList (s : ByteArray) (a b : Nat) : (s.extract a b).data.toList = (s.data.toList.drop a).take (b - a) := by
  rw [Lib.extract_data]
theorem extract_size_le (s : ByteArray) (a b : Nat) : (s.extract a b).size ≤ s.size := by
  rw [ByteArray.size_extract]; omega

end Go.Proofs.YthjcifokmcbaoaaGreatDoor.gl
/- glyph.IsName returns the plain function of bytes. Conditions: the tables hold what the text lays; the text is no longer than 2147483647 bytes. -/
namespace Go.Proofs.YthjcifokmcbaoaaGreatDoor.gl
open Go.ChangeShapes Go.WideShapes Go.ChangeAt Go.RowKit

theorem pieceAt {ps : List ByteArray} {L : List (List UInt8)} (h : ps.map (·.data.toList) = L) (k : Nat) (hk : k < ps.length) : ∃ p : ByteArray, ps[k]? = some p ∧ L[k]? = some p.data.toList :=
  ⟨ps[k], List.getElem?_eq_getElem hk, by rw [← h, List.getElem?_map, List.getElem?_eq_getElem hk]; rfl⟩

theorem all_false_of {L : List (List UInt8)} {k : Nat} {p : List UInt8} (h : L[k]? = some p) (hp : partL p = false) : L.all partL = false := by
  rw [List.all_eq_false]
  exact ⟨p, List.mem_of_getElem? h, by simp [hp]⟩
theorem nameL_bad {l : List UInt8} {k : Nat} {p : List UInt8} (h : (pcs 46 l)[k]? = some p) (hp : partL p = false) : nameL l = false := by
  unfold nameL
  rw [all_false_of h hp, Bool.and_false]
def allTo (L : List (List UInt8)) (k : Nat) : Prop := ∀ j p, j < k → L[j]? = some p → partL p = true
theorem allTo_succ {L : List (List UInt8)} {k : Nat} {p : List UInt8} (h : allTo L k) (hp : L[k]? = some p) (ht : partL p = true) : allTo L (k + 1) := by
  intro j q hj hq
  rcases Nat.lt_or_ge j k with h1 | h1
  · exact h j q h1 hq
  · obtain rfl : j = k := by omega
    rw [hp] at hq
    obtain rfl := Option.some.inj hq
    exact ht
theorem allTo_all {L : List (List UInt8)} (h : allTo L L.length) : L.all partL = true := by
  rw [List.all_eq_true]
  intro p hp
  obtain ⟨j, hj⟩ := List.mem_iff_getElem?.1 hp
  exact h j p (by
    rcases Nat.lt_or_ge j L.length with h1 | h1
    · exact h1
    · rw [List.getElem?_eq_none h1] at hj; cases hj) hj
theorem partTo_full {l : List UInt8} {b : UInt8} (h0 : l[0]? = some b) (h1 : cls b.toNat = 1) (h : ∀ (j : Nat) (c : UInt8), l[j]? = some c → cls c.toNat = 1 ∨ cls c.toNat = 3) : partL l = true := by
  have hlen : 0 < l.length := by
    rcases Nat.eq_zero_or_pos l.length with h | h
    · rw [List.getElem?_eq_none (by omega)] at h0; cases h0
    · exact h
  rw [part_end (fun j c _ hc => by
    rcases h j c hc with h2 | h2
    · exact .inl h2
    · refine .inr ⟨?_, h2⟩
      rintro rfl
      rw [h0] at hc
      obtain rfl := Option.some.inj hc
      omega)]
  cases l with
  | nil => simp at hlen
  | cons => rfl

theorem toList_nil {p : ByteArray} (h : p.size = 0) : p.toList = [] := by
  rw [ByteArray.toList_eq]
  exact List.eq_nil_of_length_eq_zero (by simpa using h)
theorem toList_ne {p : ByteArray} (h : p.size ≠ 0) : p.toList.isEmpty = false := by
  rw [ByteArray.toList_eq]
  cases hl : p.data.toList with
  | nil => exact absurd (by have := congrArg List.length hl; simpa using this) h
  | cons => rfl
/-- The bytes before j are small letters or digits. -/
def wordTo (l : List UInt8) (j : Nat) : Prop := ∀ (i : Nat) (c : UInt8), i < j → l[i]? = some c → cls c.toNat = 1 ∨ cls c.toNat = 3
theorem wordTo_succ {l : List UInt8} {j : Nat} {b : UInt8} (h : wordTo l j) (hb : l[j]? = some b) (hc : cls b.toNat = 1 ∨ cls b.toNat = 3) : wordTo l (j + 1) := by
  intro i c hi hic
  rcases Nat.lt_or_ge i j with h1 | h1
  · exact h i c h1 hic
  · obtain rfl : i = j := by omega
    rw [hb] at hic
    obtain rfl := Option.some.inj hic
    exact hc
theorem part_bad' {l : List UInt8} {k : Nat} {b : UInt8} (hb : l[k]? = some b) (h1 : cls b.toNat ≠ 1) (h2 : cls b.toNat ≠ 3) : partL l = false := part_bad hb h1 (.inr h2)
theorem lt_of_get {α : Type} {l : List α} {j : Nat} {c : α} (h : l[j]? = some c) : j < l.length := by
  rcases Nat.lt_or_ge j l.length with h1 | h1
  · exact h1
  · rw [List.getElem?_eq_none h1] at h; cases h

end Go.Proofs.YthjcifokmcbaoaaGreatDoor.gl
/- Folding: a plain function of bytes; glyph.Fold and the reference's Fold return it. Conditions: the tables hold what the text lays; the text is no longer than 2147483647 bytes. -/
namespace Go.Proofs.YthjcifokmcbaoaaGreatDoor.gl
open Go.ChangeShapes Go.WideShapes Go.ChangeAt Go.RowKit

def foldB (b : UInt8) : UInt8 := if 65 ≤ b.toNat ∧ b.toNat ≤ 90 then UInt8.ofNat (b.toNat + 32) else b
def foldL (l : List UInt8) : List UInt8 := l.map foldB
theorem foldB_great {b : UInt8} (h : 65 ≤ b.toNat ∧ b.toNat ≤ 90) : ((foldB b).toNat : Int) = b.toNat + 32 := by
  unfold foldB
  rw [if_pos h, UInt8.toNat_ofNat']
  omega
theorem foldB_other {b : UInt8} (h : ¬ (65 ≤ b.toNat ∧ b.toNat ≤ 90)) : foldB b = b := by unfold foldB; rw [if_neg h]
theorem cls_great (c : Int) : cls c = 2 ↔ 65 ≤ c ∧ c ≤ 90 := by
  unfold cls
  split
  · omega
  · split
    · omega
    · repeat (split; omega)
      omega
/-- The first k bytes have been folded. -/
def foldAt (k j : Nat) (b : UInt8) : UInt8 := if j < k then foldB b else b
structure Folds (w : World) (g k : Nat) (l : List UInt8) : Prop where
  cell : ∀ (j : Nat) (b : UInt8), l[j]? = some b → w.cell? ⟨g, j, none⟩ = some (.int .u8 ((foldAt k j b).toNat : Int))
  free : ∀ (j : Nat), j < l.length → w.frozen? ⟨g, j, none⟩ = false
theorem Folds.start {w : World} {g : Nat} {l : List UInt8} (h : Lies w g l) : Folds w g 0 l := ⟨fun j b hj => h.cell j b hj, h.free⟩
theorem Folds.below {w w' : World} {g k B : Nat} {l : List UInt8} (h : Folds w g k l) (hb : Below B w w') (hg : g < B) : Folds w' g k l :=
  ⟨fun j b hj => (hb.cell (p := ⟨g, j, none⟩) hg).trans (h.cell j b hj), fun j hj => (hb.frozen (p := ⟨g, j, none⟩) hg).trans (h.free j hj)⟩
theorem Folds.skip {w : World} {g k : Nat} {l : List UInt8} {b : UInt8} (h : Folds w g k l) (hb : l[k]? = some b) (hf : foldB b = b) : Folds w g (k + 1) l := by
  refine ⟨fun j c hj => ?_, h.free⟩
  rw [h.cell j c hj]
  unfold foldAt
  by_cases h1 : j < k
  · rw [if_pos h1, if_pos (by omega)]
  · rw [if_neg h1]
    by_cases h2 : j < k + 1
    · obtain rfl : j = k := by omega
      rw [hb] at hj
      obtain rfl := Option.some.inj hj
      rw [if_pos h2, hf]
    · rw [if_neg h2]
theorem Folds.set {w : World} {g k : Nat} {l : List UInt8} {b : UInt8} {n : Int} (h : Folds w g k l) (hb : l[k]? = some b) (hn : n = ((foldB b).toNat : Int)) : Folds (w.setCell ⟨g, k, none⟩ (.int .u8 n)) g (k + 1) l := by
  subst hn
  refine ⟨fun j c hj => ?_, fun j hj => by rw [World.frozen?_setCell]; exact h.free j hj⟩
  by_cases h1 : j = k
  · subst h1
    rw [hb] at hj
    obtain rfl := Option.some.inj hj
    rw [World.cell?_setCell_same w _ _ (h.cell j b hb)]
    unfold foldAt
    rw [if_pos (by omega)]
  · rw [World.cell?_setCell_other w _ _ _ (by intro e; injection e with _ e2 _; exact h1 e2.symm), h.cell j c hj]
    unfold foldAt
    by_cases h2 : j < k
    · rw [if_pos h2, if_pos (by omega)]
    · rw [if_neg h2, if_neg (by omega)]
theorem Folds.done {w : World} {g : Nat} {l : List UInt8} (h : Folds w g l.length l) : ∀ (j : Nat) (b : UInt8), (foldL l)[j]? = some b → w.cell? ⟨g, j, none⟩ = some (.int .u8 (b.toNat : Int)) := by
  intro j b hj
  simp only [foldL, List.getElem?_map, Option.map_eq_some_iff] at hj
  obtain ⟨c, hc, rfl⟩ := hj
  rw [h.cell j c hc]
  unfold foldAt
  rw [if_pos (lt_of_get hc)]
theorem foldL_length (l : List UInt8) : (foldL l).length = l.length := by simp [foldL]

set_option maxHeartbeats 2000000 in
theorem refFold_any (s : ByteArray) (hs : s.size ≤ 2147483647) (w : World) :
    Calls Tryz.prog 81 #[.string s] w fun e w' => e = .returned (.string ⟨(foldL s.data.toList).toArray⟩) ∧ Below w.heap.size w w' := by
  go_enter Tryz.func81, Tryz.ntmps81
  go_wp2_with (with_reducible refine wpList_bytes_of_string rfl 9 87 5 _ rfl s rfl Tryz.underlying9 Tryz.underlying87 Tryz.underlying5 ?_)
  intro bcap w2 hlies hb2 hzz hcap
  have HL := Lib.hid (Folds.start hlies)
  have HB2 := Lib.hid hb2
  have hsz2 := hb2.size
  clear hlies hb2
  go_wp2_with fail
  go_loopw [4] (fun i wr => ∃ k : Nat, k ≤ s.size ∧ i = .int .i64 k ∧ Folds wr w.heap.size k s.data.toList ∧ Below w.heap.size w wr ∧ w.heap.size < wr.heap.size) (fun i _ => s.size - (intOf i).toNat)
  case atStart => exact ⟨0, by omega, rfl, HL.out, HB2.out, hzz⟩
  case round =>
    obtain ⟨k, hk, rfl, hfo, hb, hlt0⟩ := hrel
    have Hfo := Lib.hid hfo
    have Hb := Lib.hid hb
    have hsz := hb.size
    clear hfo hb
    by_cases hlt : k < s.size
    · obtain ⟨b, hbl, _, hb0, hb1⟩ := byteAt s k hlt
      have hcell : wr.cell? ⟨w.heap.size, k, none⟩ = some (.int .u8 (b.toNat : Int)) := by
        rw [Hfo.out.cell k b hbl]; unfold foldAt; rw [if_neg (by omega)]
      have hfz : wr.frozen? ⟨w.heap.size, k, none⟩ = false := Hfo.out.free k (by simpa using hlt)
      have Hbl := Lib.hid hbl
      clear hbl
      by_cases hg : 65 ≤ b.toNat ∧ b.toNat ≤ 90
      · have Hf := Lib.hid (foldB_great hg)
        obtain ⟨g1, g2⟩ := hg
        have g1' : (65 : Int) ≤ (b.toNat : Int) := by omega
        have g2' : (b.toNat : Int) ≤ 90 := by omega
        have HF3 := Lib.hid (Hfo.out.set (n := (b.toNat : Int) + 32) Hbl.out (by rw [Hf.out]))
        have HB3 := Lib.hid (Hb.out.setCell (p := ⟨w.heap.size, k, none⟩) (Nat.le_refl _) (.int .u8 ((b.toNat : Int) + 32)))
        clear g1 g2
        go_wp2_with fail
        go_roundw
        case rel => exact ⟨k + 1, by omega, by go_num, HF3.out, HB3.out, by simp; omega⟩
        case measure => simp [intOf]; omega
      · have Hf := Lib.hid (foldB_other hg)
        have HF3 := Lib.hid (Hfo.out.skip Hbl.out Hf.out)
        rcases (show (b.toNat : Int) < 65 ∨ (90 : Int) < (b.toNat : Int) by omega) with hg' | hg'
        all_goals
          clear hg
          go_wp2_with fail
          go_roundw
          case rel => exact ⟨k + 1, by omega, by go_num, HF3.out, Hb.out, by omega⟩
          case measure => simp [intOf]; omega
    · obtain rfl : k = s.size := by omega
      have hd : ∀ (j : Nat) (b : UInt8), (foldL s.data.toList)[j]? = some b → wr.cell? ⟨w.heap.size, j, none⟩ = some (.int .u8 (b.toNat : Int)) := Folds.done (by simpa using Hfo.out)
      have Hd := Lib.hid hd
      have Hlen : Hid ((foldL s.data.toList).length = s.size) := by show _ = _; rw [foldL_length]; simp
      clear hd
      go_wp2_with (with_reducible refine wpList_string_of_lies rfl 87 9 5 _ rfl w.heap.size s.size _ _ Hlen.out rfl Tryz.underlying87 Tryz.underlying5 Tryz.underlying9 Hd.out ?_)
      go_ret
      exact ⟨rfl, Hb.out⟩
end Go.Proofs.YthjcifokmcbaoaaGreatDoor.gl
/- Words: a plain function of bytes; glyph.IsWord and the reference's IsWord return it. Conditions: the tables hold what the text lays; the text is no longer than 2147483647 bytes. -/
namespace Go.Proofs.YthjcifokmcbaoaaGreatDoor.gl
open Go.ChangeShapes Go.WideShapes Go.ChangeAt Go.RowKit

def wb (c : Int) : Bool := decide (cls c = 1 ∨ cls c = 3 ∨ c = 45 ∨ c = 95 ∨ c = 46)
/-- A word. -/
def wordL (l : List UInt8) : Bool := (l.all fun b => wb b.toNat) && (decide (1 ≤ l.length) && decide (l.length ≤ 32))
def wbTo (l : List UInt8) (k : Nat) : Prop := ∀ (j : Nat) (b : UInt8), j < k → l[j]? = some b → wb b.toNat = true
theorem wbTo_succ {l : List UInt8} {j : Nat} {b : UInt8} (h : wbTo l j) (hb : l[j]? = some b) (hc : wb b.toNat = true) : wbTo l (j + 1) := by
  intro i c hi hic
  rcases Nat.lt_or_ge i j with h1 | h1
  · exact h i c h1 hic
  · obtain rfl : i = j := by omega
    rw [hb] at hic
    obtain rfl := Option.some.inj hic
    exact hc
theorem word_bad {l : List UInt8} {k : Nat} {b : UInt8} (hb : l[k]? = some b) (h : wb b.toNat = false) : wordL l = false := by
  unfold wordL
  have : (l.all fun b => wb b.toNat) = false := by
    rw [List.all_eq_false]
    exact ⟨b, List.mem_of_getElem? hb, by simp [h]⟩
  rw [this, Bool.false_and]
theorem word_end {l : List UInt8} (h : wbTo l l.length) : wordL l = (decide (1 ≤ l.length) && decide (l.length ≤ 32)) := by
  have : (l.all fun b => wb b.toNat) = true := by
    rw [List.all_eq_true]
    intro b hb
    obtain ⟨j, hj⟩ := List.mem_iff_getElem?.1 hb
    exact h j b (lt_of_get hj) hj
  unfold wordL
  rw [this, Bool.true_and]
theorem wb_yes {c : Int} (h : cls c = 1 ∨ cls c = 3 ∨ c = 45 ∨ c = 95 ∨ c = 46) : wb c = true := decide_eq_true h
theorem wb_no {c : Int} (h : ¬ (cls c = 1 ∨ cls c = 3 ∨ c = 45 ∨ c = 95 ∨ c = 46)) : wb c = false := decide_eq_false h

theorem idxWord (b : UInt8) (w : World) :
    Calls Tryz.prog 106 #[.string ⟨#[45, 95, 46]⟩, .int .u8 (b.toNat : Int)] w fun e w' => ∃ r : Int, e = .returned (.int .i64 r) ∧ ((b.toNat = 45 ∨ b.toNat = 95 ∨ b.toNat = 46) → 0 ≤ r) ∧ (¬ (b.toNat = 45 ∨ b.toNat = 95 ∨ b.toNat = 46) → r < 0) ∧ w = w' := by
  refine (Tryz.strings_IndexByte ⟨#[45, 95, 46]⟩ (b.toNat : Int) w).mono ?_
  rintro e w' ⟨rfl, rfl⟩
  refine ⟨_, rfl, fun h => ?_, fun h => ?_, rfl⟩
  · have hb : ((b.toNat : Int).toNat.toUInt8) = b := by simp
    rw [hb]
    rcases h with h | h | h
    · have : b = 45 := UInt8.toNat_inj.1 (by rw [h]; rfl)
      subst this; decide
    · have : b = 95 := UInt8.toNat_inj.1 (by rw [h]; rfl)
      subst this; decide
    · have : b = 46 := UInt8.toNat_inj.1 (by rw [h]; rfl)
      subst this; decide
  · have hb : ((b.toNat : Int).toNat.toUInt8) = b := by simp
    rw [hb]
    have n1 : ¬ (45 == b) = true := by intro e; exact h (.inl (by rw [← eq_of_beq e]; rfl))
    have n2 : ¬ (95 == b) = true := by intro e; exact h (.inr (.inl (by rw [← eq_of_beq e]; rfl)))
    have n3 : ¬ (46 == b) = true := by intro e; exact h (.inr (.inr (by rw [← eq_of_beq e]; rfl)))
    show Lib.indexByte [45, 95, 46] b < 0
    simp [Lib.indexByte, n1, n2, n3]

set_option maxHeartbeats 4000000 in
theorem refIsWord_any (s : ByteArray) (hs : s.size ≤ 2147483647) (w : World) :
    Calls Tryz.prog 68 #[.string s] w fun e w' => e = .returned (.bool (wordL s.data.toList)) ∧ w = w' := by
  go_enter Tryz.func68, Tryz.ntmps68
  go_wp2_with fail
  go_loop [3] (fun i => ∃ k : Nat, k ≤ s.size ∧ i = .int .i64 k ∧ wbTo s.data.toList k) (fun i => s.size - (intOf i).toNat)
  case atStart => exact ⟨0, by omega, rfl, fun j b h => by omega⟩
  case round =>
    obtain ⟨k, hk, rfl, hto⟩ := hrel
    have Hto := Lib.hid hto
    clear hto
    by_cases hlt : k < s.size
    · obtain ⟨b, hb, hbk, hb0, hb1⟩ := byteAt s k hlt
      have Hb := Lib.hid hb
      clear hb
      by_cases h1 : cls b.toNat = 1
      · have H1 := Lib.hid h1
        have h1' : (cls b.toNat != 1) = false := by simp [h1]
        clear h1
        go_wp2_with fail
        refine (refClass_any _ _).mono ?_
        rintro e w1 ⟨rfl, rfl⟩
        go_wp2_with fail
        go_round
        case rel => exact ⟨k + 1, by omega, by go_num, wbTo_succ Hto.out Hb.out (wb_yes (.inl H1.out))⟩
        case measure => simp [intOf]; omega
      · have H1 := Lib.hid h1
        have h1' : (cls b.toNat != 1) = true := by simp [h1]
        clear h1
        by_cases h3 : cls b.toNat = 3
        · have H3 := Lib.hid h3
          have h3' : (cls b.toNat != 3) = false := by simp [h3]
          clear h3
          go_wp2_with fail
          refine (refClass_any _ _).mono ?_
          rintro e w1 ⟨rfl, rfl⟩
          go_wp2_with fail
          go_round
          case rel => exact ⟨k + 1, by omega, by go_num, wbTo_succ Hto.out Hb.out (wb_yes (.inr (.inl H3.out)))⟩
          case measure => simp [intOf]; omega
        · have H3 := Lib.hid h3
          have h3' : (cls b.toNat != 3) = true := by simp [h3]
          clear h3
          by_cases hd : b.toNat = 45 ∨ b.toNat = 95 ∨ b.toNat = 46
          · have Hd : Hid (wb b.toNat = true) := wb_yes (by omega)
            rcases (show ((b.toNat : Int) != 45) = false ∨ (((b.toNat : Int) != 45) = true ∧ ((b.toNat : Int) != 95) = false) ∨ (((b.toNat : Int) != 45) = true ∧ ((b.toNat : Int) != 95) = true ∧ ((b.toNat : Int) != 46) = false) from by
              rcases hd with h | h | h <;> rw [h] <;> decide) with e1 | ⟨e1, e2⟩ | ⟨e1, e2, e3⟩
            all_goals
              clear hd
              go_wp2_with fail
              refine (refClass_any _ _).mono ?_
              rintro e w1 ⟨rfl, rfl⟩
              go_wp2_with fail
              go_round
              case rel => exact ⟨k + 1, by omega, by go_num, wbTo_succ Hto.out Hb.out Hd.out⟩
              case measure => simp [intOf]; omega
          · have Hd : Hid (wb b.toNat = false) := wb_no (by have := H1.out; have := H3.out; omega)
            have e1 : ((b.toNat : Int) != 45) = true := by simp only [bne_iff_ne]; omega
            have e2 : ((b.toNat : Int) != 95) = true := by simp only [bne_iff_ne]; omega
            have e3 : ((b.toNat : Int) != 46) = true := by simp only [bne_iff_ne]; omega
            clear hd
            go_wp2_with fail
            refine (refClass_any _ _).mono ?_
            rintro e w1 ⟨rfl, rfl⟩
            go_wp2_with fail
            go_ret
            exact ⟨ret_bool (word_bad Hb.out Hd.out), rfl⟩
    · obtain rfl : k = s.size := by omega
      have He : Hid (wordL s.data.toList = (decide (1 ≤ s.size) && decide (s.size ≤ 32))) := by
        have := word_end (l := s.data.toList) (by simpa using Hto.out)
        show _ = _
        simpa using this
      rcases (show s.size < 1 ∨ (1 ≤ s.size ∧ s.size ≤ 32) ∨ 32 < s.size by omega) with h | ⟨h, h'⟩ | h
      · go_wp2_with fail
        go_ret
        exact ⟨ret_bool (by rw [He.out, decide_eq_false (p := 1 ≤ s.size) (by omega)]; rfl), rfl⟩
      · go_wp2_with fail
        go_ret
        exact ⟨ret_bool (by rw [He.out, decide_eq_true (p := 1 ≤ s.size) (by omega), decide_eq_true (p := s.size ≤ 32) (by omega)]; first | rfl | exact (decide_eq_true (by omega)).symm), rfl⟩
      · go_wp2_with fail
        go_ret
        exact ⟨ret_bool (by rw [He.out, decide_eq_true (p := 1 ≤ s.size) (by omega), decide_eq_false (p := s.size ≤ 32) (by omega)]; first | rfl | exact (decide_eq_false (by omega)).symm), rfl⟩

set_option maxHeartbeats 4000000 in
theorem IsWord_any (s : ByteArray) (hs : s.size ≤ 2147483647) (w : World) (hG : Glo w) :
    Calls Tryz.prog 66 #[.string s] w fun e w' => e = .returned (.bool (wordL s.data.toList)) ∧ Below w.heap.size w w' := by
  have HG := Lib.hid hG
  clear hG
  go_enter Tryz.func66, Tryz.ntmps66
  go_wp2_with (with_reducible refine wpList_bytes_of_string rfl 9 87 5 _ rfl s rfl Tryz.underlying9 Tryz.underlying87 Tryz.underlying5 ?_)
  intro bcap w2 hlies hb2 hzz hcap
  have HL := Lib.hid hlies
  have HB2 := Lib.hid hb2
  clear hlies hb2
  go_wp2_with fail
  go_loopw [8] (fun i wr => ∃ k : Nat, k ≤ s.size ∧ i = .int .i64 k ∧ wbTo s.data.toList k ∧ Below w2.heap.size w2 wr) (fun i _ => s.size - (intOf i).toNat)
  case atStart => exact ⟨0, by omega, rfl, fun j b h => by omega, Below.refl _ _⟩
  case round =>
    obtain ⟨k, hk, rfl, hto, hb⟩ := hrel
    have Hto := Lib.hid hto
    have Hb := Lib.hid hb
    have hsz := hb.size
    have HG1 := Lib.hid ((HG.out.below HB2.out (Nat.le_refl _)).below hb (Nat.le_refl _))
    clear hto hb
    by_cases hlt : k < s.size
    · obtain ⟨b, hbl, _, hb0, hb1⟩ := byteAt s k hlt
      have hcell : wr.cell? ⟨w.heap.size, k, none⟩ = some (.int .u8 (b.toNat : Int)) := (Hb.out.cell (p := ⟨w.heap.size, k, none⟩) hzz).trans (HL.out.cell k b hbl)
      have Hbl := Lib.hid hbl
      clear hbl
      by_cases h1 : cls b.toNat = 1
      · have H1 := Lib.hid h1
        have h1' : (cls b.toNat != 1) = false := by simp [h1]
        clear h1
        go_wp2_with fail
        refine (class_any _ hb0 hb1 _ HG1.out).mono ?_
        rintro e w3 ⟨rfl, hb3⟩
        have HB3 := Lib.hid (Hb.out.trans (hb3.mono hsz))
        clear hb3
        go_wp2_with fail
        go_roundw
        case rel => exact ⟨k + 1, by omega, by go_num, wbTo_succ Hto.out Hbl.out (wb_yes (.inl H1.out)), HB3.out⟩
        case measure => simp [intOf]; omega
      · have H1 := Lib.hid h1
        have h1' : (cls b.toNat != 1) = true := by simp [h1]
        clear h1
        by_cases h3 : cls b.toNat = 3
        · have H3 := Lib.hid h3
          have h3' : (cls b.toNat != 3) = false := by simp [h3]
          clear h3
          go_wp2_with fail
          refine (class_any _ hb0 hb1 _ HG1.out).mono ?_
          rintro e w3 ⟨rfl, hb3⟩
          have HB3 := Lib.hid (Hb.out.trans (hb3.mono hsz))
          have HG3 := Lib.hid (HG1.out.below hb3 (Nat.le_refl _))
          have hsz3 := hb3.size
          clear hb3
          go_wp2_with fail
          refine (class_any _ hb0 hb1 _ HG3.out).mono ?_
          rintro e w4 ⟨rfl, hb4⟩
          have HB4 := Lib.hid (HB3.out.trans (hb4.mono (by omega)))
          clear hb4
          go_wp2_with fail
          go_roundw
          case rel => exact ⟨k + 1, by omega, by go_num, wbTo_succ Hto.out Hbl.out (wb_yes (.inr (.inl H3.out))), HB4.out⟩
          case measure => simp [intOf]; omega
        · have H3 := Lib.hid h3
          have h3' : (cls b.toNat != 3) = true := by simp [h3]
          clear h3
          by_cases hd : b.toNat = 45 ∨ b.toNat = 95 ∨ b.toNat = 46
          · have Hd : Hid (wb b.toNat = true) := wb_yes (by omega)
            have Hd' := Lib.hid hd
            clear hd
            go_wp2_with fail
            refine (class_any _ hb0 hb1 _ HG1.out).mono ?_
            rintro e w3 ⟨rfl, hb3⟩
            have HB3 := Lib.hid (Hb.out.trans (hb3.mono hsz))
            have HG3 := Lib.hid (HG1.out.below hb3 (Nat.le_refl _))
            have hsz3 := hb3.size
            clear hb3
            go_wp2_with fail
            refine (class_any _ hb0 hb1 _ HG3.out).mono ?_
            rintro e w4 ⟨rfl, hb4⟩
            have HB4 := Lib.hid (HB3.out.trans (hb4.mono (by omega)))
            clear hb4
            go_wp2_with fail
            refine (idxWord b _).mono ?_
            rintro e w5 ⟨r, rfl, hr, _, rfl⟩
            have hr0 := hr Hd'.out
            clear hr
            go_wp2_with fail
            go_roundw
            case rel => exact ⟨k + 1, by omega, by go_num, wbTo_succ Hto.out Hbl.out Hd.out, HB4.out⟩
            case measure => simp [intOf]; omega
          · have Hd : Hid (wb b.toNat = false) := wb_no (by have := H1.out; have := H3.out; omega)
            have Hd' := Lib.hid hd
            clear hd
            go_wp2_with fail
            refine (class_any _ hb0 hb1 _ HG1.out).mono ?_
            rintro e w3 ⟨rfl, hb3⟩
            have HB3 := Lib.hid (Hb.out.trans (hb3.mono hsz))
            have HG3 := Lib.hid (HG1.out.below hb3 (Nat.le_refl _))
            have hsz3 := hb3.size
            clear hb3
            go_wp2_with fail
            refine (class_any _ hb0 hb1 _ HG3.out).mono ?_
            rintro e w4 ⟨rfl, hb4⟩
            have HB4 := Lib.hid (HB3.out.trans (hb4.mono (by omega)))
            clear hb4
            go_wp2_with fail
            refine (idxWord b _).mono ?_
            rintro e w5 ⟨r, rfl, _, hr, rfl⟩
            have hr0 := hr Hd'.out
            clear hr
            go_wp2_with fail
            go_ret
            exact ⟨ret_bool (word_bad Hbl.out Hd.out), HB2.out.trans (HB4.out.mono (by omega))⟩
    · obtain rfl : k = s.size := by omega
      have He : Hid (wordL s.data.toList = (decide (1 ≤ s.size) && decide (s.size ≤ 32))) := by
        have := word_end (l := s.data.toList) (by simpa using Hto.out)
        show _ = _
        simpa using this
      rcases (show s.size < 1 ∨ (1 ≤ s.size ∧ s.size ≤ 32) ∨ 32 < s.size by omega) with h | ⟨h, h'⟩ | h
      · go_wp2_with fail
        go_ret
        exact ⟨ret_bool (by rw [He.out, decide_eq_false (p := 1 ≤ s.size) (by omega)]; rfl), HB2.out.trans (Hb.out.mono (by omega))⟩
      · go_wp2_with fail
        go_ret
        exact ⟨ret_bool (by rw [He.out, decide_eq_true (p := 1 ≤ s.size) (by omega), decide_eq_true (p := s.size ≤ 32) (by omega)]; first | rfl | exact (decide_eq_true (by omega)).symm), HB2.out.trans (Hb.out.mono (by omega))⟩
      · go_wp2_with fail
        go_ret
        exact ⟨ret_bool (by rw [He.out, decide_eq_true (p := 1 ≤ s.size) (by omega), decide_eq_false (p := s.size ≤ 32) (by omega)]; first | rfl | exact (decide_eq_false (by omega)).symm), HB2.out.trans (Hb.out.mono (by omega))⟩
end Go.Proofs.YthjcifokmcbaoaaGreatDoor.gl
