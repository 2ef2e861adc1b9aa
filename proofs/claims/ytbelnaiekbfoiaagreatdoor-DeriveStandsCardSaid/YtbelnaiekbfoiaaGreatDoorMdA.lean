/- Laws and contracts on which the statement rests, part A: each text says what it proves, and its conditions. -/
import Derived.Test.YtbelnaiekbfoiaaGreatDoorRows
import Derived.WalkKit
import Derived.WalkLawsBesides
import Derived.WalkSpells
import Derived.Deep.MidRow
import Derived.Lib.Hide
import Derived.Handy
import Derived.Test.YtbelnaiekbfoiaaGreatDoorCards
import Derived.Test.YtbelnaiekbfoiaaGreatDoorTie
import Derived.ProofKit
import Derived.OpenShut
import Derived.Deep.DeepHandedRow
import Derived.Lib.LaidU8
import Derived.Shelf.Vars
import Derived.Lib.SplitLaws
import Derived.Lib.Strings
import Derived.Lib.AtoiAllCases
import Derived.Lib.ItoaNum
import Derived.Lib.Join
import Derived.Maps.AppendAt
import Derived.Deep.AppendLies
import Derived.Laws.RangeAny
import Derived.Lib.OthersKept
import Derived.Deep.LoopGhost
import Derived.Shelf.Strconv.Itoa3
import Derived.Lib.TrimU
import Derived.Lib.ItoaWalk
/- What the listed tables of package glyph hold, as a fact on a world; the class of a byte as a plain function; glyph.class, glyph.Class, Count and the reference's Class and Count return it. Conditions: the two tables hold what the program's text lays. -/
namespace Go.Proofs.YtbelnaiekbfoiaaGreatDoor.gl
open Go.ChangeShapes Go.WideShapes Go.ChangeAt Go.RowKit

/-- The class of a byte (of any number). -/
def cls (b : Int) : Int :=
  if 97 ≤ b ∧ b ≤ 122 then 1 else if 65 ≤ b ∧ b ≤ 90 then 2 else if 48 ≤ b ∧ b ≤ 57 then 3 else if b = 32 ∨ b = 9 then 4 else if b = 10 ∨ b = 13 then 6 else if 33 ≤ b ∧ b ≤ 126 then 5 else 0

def lettersL : List Value := [.int .u8 97, .int .u8 122, .int .i64 1, .int .u8 65, .int .u8 90, .int .i64 2, .int .u8 48, .int .u8 57, .int .i64 3]
def othersL : List Value := [.int .u8 32, .int .u8 32, .int .i64 4, .int .u8 9, .int .u8 9, .int .i64 4, .int .u8 10, .int .u8 10, .int .i64 6, .int .u8 13, .int .u8 13, .int .i64 6,
  .int .u8 33, .int .u8 47, .int .i64 5, .int .u8 58, .int .u8 64, .int .i64 5, .int .u8 91, .int .u8 96, .int .i64 5, .int .u8 123, .int .u8 126, .int .i64 5]

/-- The two tables lie in the world; the library's own number is some number. -/
structure Glo (w : World) : Prop where
  letters : w.rangeAt 2 0 lettersL
  others : w.rangeAt 3 0 othersL
  maxLen : ∃ m : Int, w.cell? ⟨1, 0, none⟩ = some (.int .i64 m)

theorem Glo.sizes {w : World} (h : Glo w) : 2 < w.heap.size ∧ 3 < w.heap.size ∧ 1 < w.heap.size :=
  ⟨World.block_lt_of_cell? _ _ (h.letters 0 _ rfl), World.block_lt_of_cell? _ _ (h.others 0 _ rfl), by obtain ⟨m, hm⟩ := h.maxLen; exact World.block_lt_of_cell? _ _ hm⟩
theorem Glo.below {w w' : World} {B : Nat} (h : Glo w) (hb : Below B w w') (hB : w.heap.size ≤ B) : Glo w' := by
  obtain ⟨s1, s2, s3⟩ := h.sizes
  obtain ⟨h1, h2, m, hm⟩ := h
  refine ⟨fun j v hv => ?_, fun j v hv => ?_, m, ?_⟩
  · rw [hb.cell (p := ⟨2, 0 + j, none⟩) (by show 2 < B; omega)]; exact h1 j v hv
  · rw [hb.cell (p := ⟨3, 0 + j, none⟩) (by show 3 < B; omega)]; exact h2 j v hv
  · rw [hb.cell (p := ⟨1, 0, none⟩) (by show 1 < B; omega)]; exact hm
theorem Glo.alloc {w : World} (h : Glo w) (o : Obj) : Glo (w.alloc o) := h.below ((Below.refl w.heap.size w).alloc (Nat.le_refl _) o) (Nat.le_refl _)
theorem Glo.drew {w : World} (h : Glo w) : Glo w.drew := h.below ((Below.refl w.heap.size w).drew) (Nat.le_refl _)

theorem Tryz.infoL : (Tryz.prog.info? 234).map (·.size) = some lettersL.length := by kernel_rfl
theorem Tryz.infoO : (Tryz.prog.info? 235).map (·.size) = some othersL.length := by kernel_rfl

theorem ret_int {k : IntKind} {a b : Int} (h : b = a) : Ending.returned (.int k a) = .returned (.int k b) := by rw [h]

def OutL (k : Nat) (c : Int) : Prop := (1 ≤ k → ¬ (97 ≤ c ∧ c ≤ 122)) ∧ (2 ≤ k → ¬ (65 ≤ c ∧ c ≤ 90)) ∧ (3 ≤ k → ¬ (48 ≤ c ∧ c ≤ 57))
def OutO (k : Nat) (c : Int) : Prop := (1 ≤ k → ¬ (32 ≤ c ∧ c ≤ 32)) ∧ (2 ≤ k → ¬ (9 ≤ c ∧ c ≤ 9)) ∧ (3 ≤ k → ¬ (10 ≤ c ∧ c ≤ 10)) ∧ (4 ≤ k → ¬ (13 ≤ c ∧ c ≤ 13)) ∧ (5 ≤ k → ¬ (33 ≤ c ∧ c ≤ 47)) ∧ (6 ≤ k → ¬ (58 ≤ c ∧ c ≤ 64)) ∧ (7 ≤ k → ¬ (91 ≤ c ∧ c ≤ 96)) ∧ (8 ≤ k → ¬ (123 ≤ c ∧ c ≤ 126))
theorem Tryz.ixL0 (w : World) : (Instr.index 234 (.agg lettersL.toArray) (.int .i64 0)).run Tryz.prog w = .ok (.agg #[.int .u8 97, .int .u8 122, .int .i64 1]) w := by kernel_rfl
theorem Tryz.ixL1 (w : World) : (Instr.index 234 (.agg lettersL.toArray) (.int .i64 1)).run Tryz.prog w = .ok (.agg #[.int .u8 65, .int .u8 90, .int .i64 2]) w := by kernel_rfl
theorem Tryz.ixL2 (w : World) : (Instr.index 234 (.agg lettersL.toArray) (.int .i64 2)).run Tryz.prog w = .ok (.agg #[.int .u8 48, .int .u8 57, .int .i64 3]) w := by kernel_rfl
theorem Tryz.ixO0 (w : World) : (Instr.index 235 (.agg othersL.toArray) (.int .i64 0)).run Tryz.prog w = .ok (.agg #[.int .u8 32, .int .u8 32, .int .i64 4]) w := by kernel_rfl
theorem Tryz.ixO1 (w : World) : (Instr.index 235 (.agg othersL.toArray) (.int .i64 1)).run Tryz.prog w = .ok (.agg #[.int .u8 9, .int .u8 9, .int .i64 4]) w := by kernel_rfl
theorem Tryz.ixO2 (w : World) : (Instr.index 235 (.agg othersL.toArray) (.int .i64 2)).run Tryz.prog w = .ok (.agg #[.int .u8 10, .int .u8 10, .int .i64 6]) w := by kernel_rfl
theorem Tryz.ixO3 (w : World) : (Instr.index 235 (.agg othersL.toArray) (.int .i64 3)).run Tryz.prog w = .ok (.agg #[.int .u8 13, .int .u8 13, .int .i64 6]) w := by kernel_rfl
theorem Tryz.ixO4 (w : World) : (Instr.index 235 (.agg othersL.toArray) (.int .i64 4)).run Tryz.prog w = .ok (.agg #[.int .u8 33, .int .u8 47, .int .i64 5]) w := by kernel_rfl
theorem Tryz.ixO5 (w : World) : (Instr.index 235 (.agg othersL.toArray) (.int .i64 5)).run Tryz.prog w = .ok (.agg #[.int .u8 58, .int .u8 64, .int .i64 5]) w := by kernel_rfl
theorem Tryz.ixO6 (w : World) : (Instr.index 235 (.agg othersL.toArray) (.int .i64 6)).run Tryz.prog w = .ok (.agg #[.int .u8 91, .int .u8 96, .int .i64 5]) w := by kernel_rfl
theorem Tryz.ixO7 (w : World) : (Instr.index 235 (.agg othersL.toArray) (.int .i64 7)).run Tryz.prog w = .ok (.agg #[.int .u8 123, .int .u8 126, .int .i64 5]) w := by kernel_rfl

set_option maxHeartbeats 4000000 in
theorem class_any (c : Int) (hc0 : 0 ≤ c) (hc1 : c ≤ 255) (w : World) (hG : Glo w) :
    Calls Tryz.prog 129 #[.int .u8 c] w fun e w' => e = .returned (.int .i64 (cls c)) ∧ Below w.heap.size w w' := by
  have hl := hG.letters
  have hO := Lib.hid (fun W (hb : Below w.heap.size w W) => (hG.below hb (Nat.le_refl _)).others)
  clear hG
  go_enter Tryz.func129, Tryz.ntmps129
  go_wp2_with (with_reducible refine wpList_load_mid rfl 234 _ rfl 2 0 rfl _ _ hl Tryz.underlying234 rfl Tryz.infoL ?_)
  clear hl
  go_loopw [8] (fun i wr => ∃ k : Nat, k ≤ 3 ∧ i = .int .i64 k ∧ OutL k c ∧ Below w.heap.size w wr) (fun i _ => 3 - (intOf i).toNat)
  case atStart => exact ⟨0, by omega, rfl, by unfold OutL; omega, Below.refl _ _⟩
  case round =>
    obtain ⟨k, hk, rfl, hout, hb⟩ := hrel
    have Hout := Lib.hid hout
    have Hb := Lib.hid hb
    have hsz := hb.size
    clear hout hb
    rcases (show k = 0 ∨ k = 1 ∨ k = 2 ∨ k = 3 by omega) with rfl | rfl | rfl | rfl
    · have hix := Tryz.ixL0
      by_cases hin : 97 ≤ c ∧ c ≤ 122
      · obtain ⟨a, b⟩ := hin
        go_wp2
        go_ret
        exact ⟨ret_int (by have := Hout.out; unfold OutL at this; unfold cls; repeat (first | rfl | rw [if_pos (by omega)] | rw [if_neg (by omega)])), Hb.out.alloc (by omega) _⟩
      · have Hnin := Lib.hid hin
        rcases (show c < 97 ∨ 122 < c by omega) with h | h
        all_goals
          clear hin
          go_wp2
          go_roundw
          case rel => exact ⟨1, by omega, by go_num, by have := Hout.out; have := Hnin.out; unfold OutL at *; omega, Hb.out.alloc (by omega) _⟩
          case measure => simp [intOf]
    · have hix := Tryz.ixL1
      by_cases hin : 65 ≤ c ∧ c ≤ 90
      · obtain ⟨a, b⟩ := hin
        go_wp2
        go_ret
        exact ⟨ret_int (by have := Hout.out; unfold OutL at this; unfold cls; repeat (first | rfl | rw [if_pos (by omega)] | rw [if_neg (by omega)])), Hb.out.alloc (by omega) _⟩
      · have Hnin := Lib.hid hin
        rcases (show c < 65 ∨ 90 < c by omega) with h | h
        all_goals
          clear hin
          go_wp2
          go_roundw
          case rel => exact ⟨2, by omega, by go_num, by have := Hout.out; have := Hnin.out; unfold OutL at *; omega, Hb.out.alloc (by omega) _⟩
          case measure => simp [intOf]
    · have hix := Tryz.ixL2
      by_cases hin : 48 ≤ c ∧ c ≤ 57
      · obtain ⟨a, b⟩ := hin
        go_wp2
        go_ret
        exact ⟨ret_int (by have := Hout.out; unfold OutL at this; unfold cls; repeat (first | rfl | rw [if_pos (by omega)] | rw [if_neg (by omega)])), Hb.out.alloc (by omega) _⟩
      · have Hnin := Lib.hid hin
        rcases (show c < 48 ∨ 57 < c by omega) with h | h
        all_goals
          clear hin
          go_wp2
          go_roundw
          case rel => exact ⟨3, by omega, by go_num, by have := Hout.out; have := Hnin.out; unfold OutL at *; omega, Hb.out.alloc (by omega) _⟩
          case measure => simp [intOf]
    · have ho := hO.out wr Hb.out
      go_wp2_with (with_reducible refine wpList_load_mid rfl 235 _ rfl 3 0 rfl _ _ ho Tryz.underlying235 rfl Tryz.infoO ?_)
      clear ho
      obtain ⟨wo, rfl⟩ : ∃ wo : World, wo = wr := ⟨_, rfl⟩
      go_loopw [25] (fun i wr => ∃ k : Nat, k ≤ 8 ∧ i = .int .i64 k ∧ OutO k c ∧ Below w.heap.size w wr) (fun i _ => 8 - (intOf i).toNat)
      case atStart => exact ⟨0, by omega, rfl, by unfold OutO; omega, Hb.out⟩
      case round =>
        obtain ⟨k, hk, rfl, hout, hb⟩ := hrel
        have Hout2 := Lib.hid hout
        have Hb2 := Lib.hid hb
        have hsz2 := hb.size
        clear hout hb
        rcases (show k = 0 ∨ k = 1 ∨ k = 2 ∨ k = 3 ∨ k = 4 ∨ k = 5 ∨ k = 6 ∨ k = 7 ∨ k = 8 by omega) with rfl | rfl | rfl | rfl | rfl | rfl | rfl | rfl | rfl
        · have hix := Tryz.ixO0
          by_cases hin : 32 ≤ c ∧ c ≤ 32
          · obtain ⟨a, b⟩ := hin
            go_wp2
            go_ret
            exact ⟨ret_int (by have := Hout.out; have := Hout2.out; unfold OutL at *; unfold OutO at *; unfold cls; repeat (first | rfl | rw [if_pos (by omega)] | rw [if_neg (by omega)])), Hb2.out.alloc (by omega) _⟩
          · have Hnin := Lib.hid hin
            rcases (show c < 32 ∨ 32 < c by omega) with h | h
            all_goals
              clear hin
              go_wp2
              go_roundw
              case rel => exact ⟨1, by omega, by go_num, by have := Hout2.out; have := Hnin.out; unfold OutO at *; omega, Hb2.out.alloc (by omega) _⟩
              case measure => simp [intOf]
        · have hix := Tryz.ixO1
          by_cases hin : 9 ≤ c ∧ c ≤ 9
          · obtain ⟨a, b⟩ := hin
            go_wp2
            go_ret
            exact ⟨ret_int (by have := Hout.out; have := Hout2.out; unfold OutL at *; unfold OutO at *; unfold cls; repeat (first | rfl | rw [if_pos (by omega)] | rw [if_neg (by omega)])), Hb2.out.alloc (by omega) _⟩
          · have Hnin := Lib.hid hin
            rcases (show c < 9 ∨ 9 < c by omega) with h | h
            all_goals
              clear hin
              go_wp2
              go_roundw
              case rel => exact ⟨2, by omega, by go_num, by have := Hout2.out; have := Hnin.out; unfold OutO at *; omega, Hb2.out.alloc (by omega) _⟩
              case measure => simp [intOf]
        · have hix := Tryz.ixO2
          by_cases hin : 10 ≤ c ∧ c ≤ 10
          · obtain ⟨a, b⟩ := hin
            go_wp2
            go_ret
            exact ⟨ret_int (by have := Hout.out; have := Hout2.out; unfold OutL at *; unfold OutO at *; unfold cls; repeat (first | rfl | rw [if_pos (by omega)] | rw [if_neg (by omega)])), Hb2.out.alloc (by omega) _⟩
          · have Hnin := Lib.hid hin
            rcases (show c < 10 ∨ 10 < c by omega) with h | h
            all_goals
              clear hin
              go_wp2
              go_roundw
              case rel => exact ⟨3, by omega, by go_num, by have := Hout2.out; have := Hnin.out; unfold OutO at *; omega, Hb2.out.alloc (by omega) _⟩
              case measure => simp [intOf]
        · have hix := Tryz.ixO3
          by_cases hin : 13 ≤ c ∧ c ≤ 13
          · obtain ⟨a, b⟩ := hin
            go_wp2
            go_ret
            exact ⟨ret_int (by have := Hout.out; have := Hout2.out; unfold OutL at *; unfold OutO at *; unfold cls; repeat (first | rfl | rw [if_pos (by omega)] | rw [if_neg (by omega)])), Hb2.out.alloc (by omega) _⟩
          · have Hnin := Lib.hid hin
            rcases (show c < 13 ∨ 13 < c by omega) with h | h
            all_goals
              clear hin
              go_wp2
              go_roundw
              case rel => exact ⟨4, by omega, by go_num, by have := Hout2.out; have := Hnin.out; unfold OutO at *; omega, Hb2.out.alloc (by omega) _⟩
              case measure => simp [intOf]
        · have hix := Tryz.ixO4
          by_cases hin : 33 ≤ c ∧ c ≤ 47
          · obtain ⟨a, b⟩ := hin
            go_wp2
            go_ret
            exact ⟨ret_int (by have := Hout.out; have := Hout2.out; unfold OutL at *; unfold OutO at *; unfold cls; repeat (first | rfl | rw [if_pos (by omega)] | rw [if_neg (by omega)])), Hb2.out.alloc (by omega) _⟩
          · have Hnin := Lib.hid hin
            rcases (show c < 33 ∨ 47 < c by omega) with h | h
            all_goals
              clear hin
              go_wp2
              go_roundw
              case rel => exact ⟨5, by omega, by go_num, by have := Hout2.out; have := Hnin.out; unfold OutO at *; omega, Hb2.out.alloc (by omega) _⟩
              case measure => simp [intOf]
        · have hix := Tryz.ixO5
          by_cases hin : 58 ≤ c ∧ c ≤ 64
          · obtain ⟨a, b⟩ := hin
            go_wp2
            go_ret
            exact ⟨ret_int (by have := Hout.out; have := Hout2.out; unfold OutL at *; unfold OutO at *; unfold cls; repeat (first | rfl | rw [if_pos (by omega)] | rw [if_neg (by omega)])), Hb2.out.alloc (by omega) _⟩
          · have Hnin := Lib.hid hin
            rcases (show c < 58 ∨ 64 < c by omega) with h | h
            all_goals
              clear hin
              go_wp2
              go_roundw
              case rel => exact ⟨6, by omega, by go_num, by have := Hout2.out; have := Hnin.out; unfold OutO at *; omega, Hb2.out.alloc (by omega) _⟩
              case measure => simp [intOf]
        · have hix := Tryz.ixO6
          by_cases hin : 91 ≤ c ∧ c ≤ 96
          · obtain ⟨a, b⟩ := hin
            go_wp2
            go_ret
            exact ⟨ret_int (by have := Hout.out; have := Hout2.out; unfold OutL at *; unfold OutO at *; unfold cls; repeat (first | rfl | rw [if_pos (by omega)] | rw [if_neg (by omega)])), Hb2.out.alloc (by omega) _⟩
          · have Hnin := Lib.hid hin
            rcases (show c < 91 ∨ 96 < c by omega) with h | h
            all_goals
              clear hin
              go_wp2
              go_roundw
              case rel => exact ⟨7, by omega, by go_num, by have := Hout2.out; have := Hnin.out; unfold OutO at *; omega, Hb2.out.alloc (by omega) _⟩
              case measure => simp [intOf]
        · have hix := Tryz.ixO7
          by_cases hin : 123 ≤ c ∧ c ≤ 126
          · obtain ⟨a, b⟩ := hin
            go_wp2
            go_ret
            exact ⟨ret_int (by have := Hout.out; have := Hout2.out; unfold OutL at *; unfold OutO at *; unfold cls; repeat (first | rfl | rw [if_pos (by omega)] | rw [if_neg (by omega)])), Hb2.out.alloc (by omega) _⟩
          · have Hnin := Lib.hid hin
            rcases (show c < 123 ∨ 126 < c by omega) with h | h
            all_goals
              clear hin
              go_wp2
              go_roundw
              case rel => exact ⟨8, by omega, by go_num, by have := Hout2.out; have := Hnin.out; unfold OutO at *; omega, Hb2.out.alloc (by omega) _⟩
              case measure => simp [intOf]
        · go_wp2
          go_ret
          exact ⟨ret_int (by have := Hout.out; have := Hout2.out; unfold OutL at *; unfold OutO at *; unfold cls; repeat (first | rfl | rw [if_pos (by omega)] | rw [if_neg (by omega)])), Hb2.out⟩
end Go.Proofs.YtbelnaiekbfoiaaGreatDoor.gl
/- What the row's list gives: the two tables of package glyph lie in the world; the library's own number is some number. And a world for the witness. No conditions. -/
namespace Go.Proofs.YtbelnaiekbfoiaaGreatDoor.gl
open Go.ChangeShapes Go.WideShapes Go.ChangeAt Go.RowKit

def laidL : List (String × DataW Unit) := [("unicode/utf8.acceptRanges", Rows.laid_unicode_utf8_acceptRanges), ("tinderbox/glyph.letters", Rows.laid_tinderbox_glyph_letters), ("tinderbox/glyph.others", Rows.laid_tinderbox_glyph_others), ("unicode/utf8.first", Rows.laid_unicode_utf8_first)]

theorem gLet : Tryz.prog.globalNamed "tinderbox/glyph.letters" = some 2 := by kernel_rfl
theorem gOth : Tryz.prog.globalNamed "tinderbox/glyph.others" = some 3 := by kernel_rfl
theorem gLetT : (Tryz.prog.globals[2]?).map (·.type) = some 234 := by kernel_rfl
theorem gOthT : (Tryz.prog.globals[3]?).map (·.type) = some 235 := by kernel_rfl
theorem cSpan : Tryz.prog.cellsOf 233 = 3 := by kernel_rfl
theorem cU8 : Tryz.prog.cellsOf 5 = 1 := by kernel_rfl
theorem cInt : Tryz.prog.cellsOf 3 = 1 := by kernel_rfl

theorem len3 {α : Type} : ∀ {l : List α}, l.length = 3 → ∃ a b c, l = [a, b, c]
  | [a, b, c], _ => ⟨a, b, c, rfl⟩
theorem span_cells {H : Type} {enc : TypeId × Value → H} {w : World} {base fuel : Nat} {sp : Nat → Bool} {held : Bool} {cs : List Value} {a b c : Int} {p : List MemPlace}
    (h : DataW.trod enc Tryz.prog w base sp held fuel 233 cs = some (.agg [.lit (.int .u8 a), .lit (.int .u8 b), .lit (.int .i64 c)], p)) : cs = [.int .u8 a, .int .u8 b, .int .i64 c] := by
  obtain ⟨xs, n, rfl, hx, hl, hxl, hall⟩ := DataW.trod_struct Tryz.underlying233 h
  rw [cSpan] at hl
  have f0 := hall 0 _ rfl
  have f1 := hall 1 _ rfl
  have f2 := hall 2 _ rfl
  change DataW.trod _ _ _ _ _ _ _ 5 ((cs.drop 0).take (Tryz.prog.cellsOf 5)) = _ at f0
  change DataW.trod _ _ _ _ _ _ _ 5 ((cs.drop 1).take (Tryz.prog.cellsOf 5)) = _ at f1
  change DataW.trod _ _ _ _ _ _ _ 3 ((cs.drop 2).take (Tryz.prog.cellsOf 3)) = _ at f2
  rw [cU8] at f0 f1
  rw [cInt] at f2
  have hxl3 : xs.length = 3 := hxl
  clear hall hxl
  obtain ⟨x0, x1, x2, rfl⟩ := len3 hxl3
  obtain ⟨c0, c1, c2, rfl⟩ := len3 hl
  obtain ⟨z0, e0, y0, _⟩ := DataW.trod_int Tryz.underlying5 f0
  obtain ⟨z1, e1, y1, _⟩ := DataW.trod_int Tryz.underlying5 f1
  obtain ⟨z2, e2, y2, _⟩ := DataW.trod_int Tryz.underlying3 f2
  simp at e0 e1 e2
  simp only [Prod.mk.injEq, DataW.agg.injEq, List.map_cons, List.map_nil, List.cons.injEq, and_true, y0, y1, y2, DataW.lit.injEq, Lit.int.injEq, true_and] at hx
  obtain ⟨⟨rfl, rfl, rfl⟩, _⟩ := hx
  rw [e0, e1, e2]

theorem elem_cells {H : Type} {enc : TypeId × Value → H} {w : World} {base fuel : Nat} {sp : Nat → Bool} {held : Bool} {cs : List Value} {ds : List (DataW H)} {p : List MemPlace} {t : TypeId} {n : Nat}
    (ht : Tryz.prog.underlying t = some (.array n 233)) (h : DataW.trod enc Tryz.prog w base sp held fuel t cs = some (.agg ds, p)) (i : Nat) (hi : i < n) {a b c : Int}
    (hd : ds[i]? = some (.agg [.lit (.int .u8 a), .lit (.int .u8 b), .lit (.int .i64 c)])) (j : Nat) (hj : j < 3) : cs[i * 3 + j]? = [Value.int .u8 a, .int .u8 b, .int .i64 c][j]? := by
  obtain ⟨fuel', d, q, hdi, he⟩ := Lib.array_elem ht h i hi
  obtain rfl := Option.some.inj (hd.symm.trans hdi)
  rw [cSpan] at he
  have hcs := span_cells he
  have := congrArg (·[j]?) hcs
  simp only [List.getElem?_take, List.getElem?_drop] at this
  rw [if_pos hj] at this
  exact this

theorem letters_of {W : World} (h : Lib.VarReads Tryz.prog W "tinderbox/glyph.letters" Rows.laid_tinderbox_glyph_letters) : W.rangeAt 2 0 lettersL := by
  obtain ⟨g, t, cs, fuel, p, hg, hty, hvar, hd⟩ := h
  obtain rfl := Option.some.inj (gLet.symm.trans hg)
  obtain rfl := Option.some.inj (gLetT.symm.trans hty)
  intro k v hv
  have hk : k < 9 := (List.getElem?_eq_some_iff.1 hv).1
  rw [World.var?_cell hg hvar _, ← hv, ← Array.getElem?_toList, Nat.zero_add]
  have e : k = k / 3 * 3 + k % 3 := by omega
  have hq : k / 3 < 3 := by omega
  have hr : k % 3 < 3 := by omega
  rw [e]
  generalize k / 3 = q at hq
  generalize k % 3 = r at hr
  clear e hv hk
  match q, hq with
  | 0, _ => rw [elem_cells Tryz.underlying234 hd 0 (by decide) rfl r hr]; match r, hr with | 0, _ => rfl | 1, _ => rfl | 2, _ => rfl
  | 1, _ => rw [elem_cells Tryz.underlying234 hd 1 (by decide) rfl r hr]; match r, hr with | 0, _ => rfl | 1, _ => rfl | 2, _ => rfl
  | 2, _ => rw [elem_cells Tryz.underlying234 hd 2 (by decide) rfl r hr]; match r, hr with | 0, _ => rfl | 1, _ => rfl | 2, _ => rfl

theorem others_of {W : World} (h : Lib.VarReads Tryz.prog W "tinderbox/glyph.others" Rows.laid_tinderbox_glyph_others) : W.rangeAt 3 0 othersL := by
  obtain ⟨g, t, cs, fuel, p, hg, hty, hvar, hd⟩ := h
  obtain rfl := Option.some.inj (gOth.symm.trans hg)
  obtain rfl := Option.some.inj (gOthT.symm.trans hty)
  intro k v hv
  have hk : k < 24 := (List.getElem?_eq_some_iff.1 hv).1
  rw [World.var?_cell hg hvar _, ← hv, ← Array.getElem?_toList, Nat.zero_add]
  have e : k = k / 3 * 3 + k % 3 := by omega
  have hq : k / 3 < 8 := by omega
  have hr : k % 3 < 3 := by omega
  rw [e]
  generalize k / 3 = q at hq
  generalize k % 3 = r at hr
  clear e hv hk
  match q, hq with
  | 0, _ => rw [elem_cells Tryz.underlying235 hd 0 (by decide) rfl r hr]; match r, hr with | 0, _ => rfl | 1, _ => rfl | 2, _ => rfl
  | 1, _ => rw [elem_cells Tryz.underlying235 hd 1 (by decide) rfl r hr]; match r, hr with | 0, _ => rfl | 1, _ => rfl | 2, _ => rfl
  | 2, _ => rw [elem_cells Tryz.underlying235 hd 2 (by decide) rfl r hr]; match r, hr with | 0, _ => rfl | 1, _ => rfl | 2, _ => rfl
  | 3, _ => rw [elem_cells Tryz.underlying235 hd 3 (by decide) rfl r hr]; match r, hr with | 0, _ => rfl | 1, _ => rfl | 2, _ => rfl
  | 4, _ => rw [elem_cells Tryz.underlying235 hd 4 (by decide) rfl r hr]; match r, hr with | 0, _ => rfl | 1, _ => rfl | 2, _ => rfl
  | 5, _ => rw [elem_cells Tryz.underlying235 hd 5 (by decide) rfl r hr]; match r, hr with | 0, _ => rfl | 1, _ => rfl | 2, _ => rfl
  | 6, _ => rw [elem_cells Tryz.underlying235 hd 6 (by decide) rfl r hr]; match r, hr with | 0, _ => rfl | 1, _ => rfl | 2, _ => rfl
  | 7, _ => rw [elem_cells Tryz.underlying235 hd 7 (by decide) rfl r hr]; match r, hr with | 0, _ => rfl | 1, _ => rfl | 2, _ => rfl

theorem glo_of {W : World} (h : laidMet Tryz.prog laidL W) (hs : W.ShapedOpen Tryz.prog) : Glo W :=
  ⟨letters_of (Lib.laidMet.reads h (.tail _ (.head _))), others_of (Lib.laidMet.reads h (.tail _ (.tail _ (.head _)))),
    cell_of_shapedOpen_int (zero := #[.int .i64 0]) (t := 3) hs (of_decide_eq_true (by kernel_rfl)) (by kernel_rfl) rfl (by kernel_rfl) (by kernel_rfl) Tryz.underlying3⟩

/-- The table of the library as cells. -/
def firstL : List Value := Lib.firstTab.map fun z => .int .u8 z
def acceptL : List Value := [.int .u8 128, .int .u8 191, .int .u8 160, .int .u8 191, .int .u8 128, .int .u8 159, .int .u8 144, .int .u8 191, .int .u8 128, .int .u8 143, .int .u8 0, .int .u8 0, .int .u8 0, .int .u8 0, .int .u8 0, .int .u8 0,
  .int .u8 0, .int .u8 0, .int .u8 0, .int .u8 0, .int .u8 0, .int .u8 0, .int .u8 0, .int .u8 0, .int .u8 0, .int .u8 0, .int .u8 0, .int .u8 0, .int .u8 0, .int .u8 0, .int .u8 0, .int .u8 0]
def World.lay (w : World) (g : Nat) (cs : List Value) : World := { w with heap := w.heap.modify g fun
  | .cells _ t frozen => .cells cs.toArray t frozen
  | o => o }
noncomputable def laidWorld (os : Os) : World :=
  World.lay (World.lay (World.lay (World.lay (World.holding Tryz.prog os ⟨#[], #[], []⟩) 2 lettersL) 3 othersL) 7 firstL) 8 acceptL
set_option maxRecDepth 100000 in
theorem laid_met (os : Os) : laidMet Tryz.prog laidL ((laidWorld os).forCall (fun _ _ => 0) ⟨#[], #[], []⟩).memory :=
  laidMet_of_run' 8 (by kernel_rfl) (by kernel_rfl)
end Go.Proofs.YtbelnaiekbfoiaaGreatDoor.gl
/- Plain laws on lists of bytes: what stands between the separators, and that the library's split gives just that. No program in sight. -/
namespace Go.Proofs.YtbelnaiekbfoiaaGreatDoor

/-- What stands between the separators. -/
def pcs (sep : UInt8) : List UInt8 → List (List UInt8)
  | [] => [[]]
  | c :: r => if c = sep then [] :: pcs sep r else match pcs sep r with
    | [] => [[c]]
    | p :: ps => (c :: p) :: ps
theorem pcs_ne (sep : UInt8) (l : List UInt8) : pcs sep l ≠ [] := by
  cases l with
  | nil => simp [pcs]
  | cons c r => unfold pcs; split; simp; split <;> simp
theorem pcs_other {sep c : UInt8} {r : List UInt8} {p : List UInt8} {ps : List (List UInt8)} (hc : c ≠ sep) (h : pcs sep r = p :: ps) : pcs sep (c :: r) = (c :: p) :: ps := by
  rw [pcs, if_neg hc, h]
theorem pcs_hit (sep : UInt8) : ∀ (m : Nat) (x : List UInt8), (∀ j, j < m → x[j]? ≠ some sep) → x[m]? = some sep → pcs sep x = x.take m :: pcs sep (x.drop (m + 1))
  | 0, [], _, h => by simp at h
  | 0, c :: r, _, h => by simp at h; subst h; simp [pcs]
  | m + 1, [], _, h => by simp at h
  | m + 1, c :: r, hn, h => by
    have hc : c ≠ sep := fun e => hn 0 (by omega) (by simp [e])
    exact pcs_other hc (pcs_hit sep m r (fun j hj => by have := hn (j + 1) (by omega); simpa using this) (by simpa using h))
theorem pcs_none (sep : UInt8) : ∀ (x : List UInt8), (∀ j : Nat, x[j]? ≠ some sep) → pcs sep x = [x]
  | [], _ => rfl
  | c :: r, hn => pcs_other (fun e => hn 0 (by simp [e])) (pcs_none sep r fun j => by have := hn (j + 1); simpa using this)
theorem pcs_length (sep : UInt8) : ∀ l : List UInt8, (pcs sep l).length = l.count sep + 1
  | [] => by simp [pcs]
  | c :: r => by
    have ih := pcs_length sep r
    by_cases h : c = sep
    · subst h
      simp [pcs, ih]
    · rw [List.count_cons_of_ne h]
      cases hp : pcs sep r with
      | nil => exact absurd hp (pcs_ne sep r)
      | cons p ps => rw [pcs_other h hp]; rw [hp] at ih; simpa using ih
theorem mem_pcs_le (sep : UInt8) : ∀ (l p : List UInt8), p ∈ pcs sep l → p.length ≤ l.length
  | [], p, h => by simp [pcs] at h; simp [h]
  | c :: r, p, h => by
    by_cases hc : c = sep
    · subst hc
      simp only [pcs, if_true, List.mem_cons] at h
      rcases h with rfl | h
      · simp
      · have := mem_pcs_le c r p h; simp; omega
    · cases hp : pcs sep r with
      | nil => exact absurd hp (pcs_ne sep r)
      | cons q ps =>
        rw [pcs_other hc hp] at h
        simp only [List.mem_cons] at h
        rcases h with rfl | h
        · have := mem_pcs_le sep r q (by rw [hp]; simp); simp; omega
        · have := mem_pcs_le sep r p (by rw [hp]; simp [h]); simp; omega

theorem index_hit (sep : UInt8) : ∀ (l : List UInt8), sep ∈ l → ∃ m : Nat, Lib.index l [sep] = m ∧ (∀ j, j < m → l[j]? ≠ some sep) ∧ l[m]? = some sep
  | [], h => by simp at h
  | c :: r, h => by
    by_cases hc : c = sep
    · subst hc
      exact ⟨0, by simp [Lib.index], fun j hj => by omega, by simp⟩
    · obtain ⟨m, h1, h2, h3⟩ := index_hit sep r (by simpa [Ne.symm hc] using h)
      refine ⟨m + 1, ?_, fun j hj => ?_, by simpa using h3⟩
      · have hp : ([sep] : List UInt8).isPrefixOf (c :: r) = false := by simp [List.isPrefixOf, Ne.symm hc]
        rw [Lib.index, hp, h1]
        rw [if_neg (by simp), if_neg (by simp)]
        rfl
      · cases j with
        | zero => simp [hc]
        | succ j => simpa using h2 j (by omega)

theorem splitK_pcs (sep : UInt8) : ∀ (k : Nat) (l : List UInt8), l.count sep = k → Lib.splitK [sep] 0 k l = pcs sep l
  | 0, l, h => by
    rw [Lib.splitK, pcs_none]
    intro j hj
    have := List.count_pos_iff.2 (List.mem_of_getElem? hj)
    omega
  | k + 1, l, h => by
    have hm : sep ∈ l := List.count_pos_iff.1 (by omega)
    obtain ⟨m, h1, h2, h3⟩ := index_hit sep l hm
    have hlt : m < l.length := by
      rcases Nat.lt_or_ge m l.length with h | h
      · exact h
      · rw [List.getElem?_eq_none h] at h3; cases h3
    have hcount : (l.drop (m + 1)).count sep = k := by
      have e : l = l.take m ++ sep :: l.drop (m + 1) := by
        conv => lhs; rw [← List.take_append_drop m l]
        congr 1
        rw [List.drop_eq_getElem_cons hlt]
        congr 1
        rw [List.getElem?_eq_getElem hlt] at h3
        exact Option.some.inj h3
      have h0 : (l.take m).count sep = 0 := by
        rw [List.count_eq_zero]
        intro hmem
        obtain ⟨j, hj⟩ := List.mem_iff_getElem?.1 hmem
        rw [List.getElem?_take] at hj
        split at hj
        · rename_i hjm; exact h2 j hjm hj
        · cases hj
      rw [e, List.count_append, h0, List.count_cons_self] at h
      omega
    rw [Lib.splitK, h1, if_neg (by simp)]
    rw [pcs_hit sep m l h2 h3]
    simp only [Int.toNat_natCast, Nat.add_zero, List.length_cons, List.length_nil, Nat.zero_add]
    rw [splitK_pcs sep k _ hcount]

theorem splitB_pcs (sep : UInt8) (s : ByteArray) : (Lib.splitB ⟨#[sep]⟩ 0 (Lib.countB s ⟨#[sep]⟩) s).map (·.data.toList) = pcs sep s.data.toList := by
  have hc : Lib.countB s ⟨#[sep]⟩ = s.data.toList.count sep := by
    show Lib.count s.data.toList [sep] = _
    exact Lib.count_one sep s.data.toList
  rw [Lib.splitB_data, hc]
  exact splitK_pcs sep _ _ rfl
theorem countB_pcs (sep : UInt8) (s : ByteArray) : Lib.countB s ⟨#[sep]⟩ + 1 = (pcs sep s.data.toList).length := by
  rw [← splitB_pcs, List.length_map, Lib.splitB_all _ (by simp [ByteArray.size]) 0 _ s rfl]
end Go.Proofs.YtbelnaiekbfoiaaGreatDoor
/- Plain laws of values: the numbers that digits spell, a value, what a text reads as, what a value prints as, which values may be. No program in sight; no conditions. -/
namespace Go.Proofs.YtbelnaiekbfoiaaGreatDoor.va

abbrev B (l : List UInt8) : ByteArray := ⟨l.toArray⟩
theorem B_toList (s : ByteArray) : B s.data.toList = s := by cases s; rfl
theorem B_inj {a b : List UInt8} (h : B a = B b) : a = b := by
  have := congrArg (fun s : ByteArray => s.data.toList) h
  simpa using this
theorem ba_eq {a b : ByteArray} (h : a.data.toList = b.data.toList) : a = b := by rw [← B_toList a, ← B_toList b, h]
theorem ba_ne {a b : ByteArray} (h : a ≠ b) : a.data.toList ≠ b.data.toList := fun e => h (ba_eq e)

/-! ### Numbers -/
def isDig (b : UInt8) : Bool := decide (48 ≤ b.toNat ∧ b.toNat ≤ 57)
/-- What digits spell, behind what was spelt. -/
def decN (acc : Nat) (l : List UInt8) : Nat := l.foldl (fun a c => a * 10 + (c.toNat - 48)) acc
theorem decN_cons (acc : Nat) (c : UInt8) (r : List UInt8) : decN acc (c :: r) = decN (acc * 10 + (c.toNat - 48)) r := by unfold decN; rw [List.foldl_cons]
theorem decN_nil (acc : Nat) : decN acc [] = acc := by unfold decN; rw [List.foldl_nil]
theorem decN_ge : ∀ (l : List UInt8) (acc : Nat), acc ≤ decN acc l
  | [], acc => Nat.le_refl _
  | c :: r, acc => by
    have := decN_ge r (acc * 10 + (c.toNat - 48))
    rw [decN_cons]
    omega
theorem decN_snoc : ∀ (l : List UInt8) (acc : Nat) (c : UInt8), decN acc (l ++ [c]) = decN acc l * 10 + (c.toNat - 48)
  | l, acc, c => by unfold decN; rw [List.foldl_append, List.foldl_cons, List.foldl_nil]
theorem parse_dec : ∀ (l : List UInt8) (acc : Nat), l.all isDig = true → acc < 18446744073709551616 →
    Lib.parseUint10 acc l = if decN acc l < 18446744073709551616 then .ok (decN acc l) else .range
  | [], acc, _, ha => by
    rw [decN_nil, if_pos ha, Lib.parseUint10]
  | c :: r, acc, h, ha => by
    simp only [List.all_cons, Bool.and_eq_true] at h
    have hc : 48 ≤ c.toNat ∧ c.toNat ≤ 57 := of_decide_eq_true h.1
    have hge := decN_ge r (acc * 10 + (c.toNat - 48))
    rw [Lib.parseUint10, if_pos hc, decN_cons]
    split
    · rw [if_neg (by omega)]
    · split
      · rw [if_neg (by omega)]
      · exact parse_dec r _ h.2 (by omega)

/-- No 0 ahead, and something there. -/
def shaped (l : List UInt8) : Bool := match l with
  | [] => false
  | c :: r => decide (c.toNat ≠ 48) || r.isEmpty
/-- A number; none: it is none. At most one above 2^62. -/
def num (l : List UInt8) : Option Nat := if l.all isDig && shaped l then some (min (decN 0 l) 4611686018427387905) else none
theorem num_le {l : List UInt8} {n : Nat} (h : num l = some n) : n ≤ 4611686018427387905 := by
  unfold num at h
  split at h
  · have := Option.some.inj h; omega
  · cases h
theorem num_bad {l : List UInt8} (h : l.all isDig = false) : num l = none := by unfold num; rw [h]; rfl
theorem num_unshaped {l : List UInt8} (h : shaped l = false) : num l = none := by unfold num; rw [h, Bool.and_false]; rfl
theorem num_some {l : List UInt8} (h : l.all isDig = true) (h2 : shaped l = true) : num l = some (min (decN 0 l) 4611686018427387905) := by unfold num; rw [h, h2]; rfl
theorem num_nil : num [] = none := rfl
/-- Atoi at digits. -/
theorem atoi_dec {l : List UInt8} (h : l.all isDig = true) (h0 : l ≠ []) :
    Lib.atoiAll l = if decN 0 l < 9223372036854775808 then .ok (decN 0 l : Int) else .range := by
  cases l with
  | nil => exact absurd rfl h0
  | cons c r =>
    have hc : 48 ≤ c.toNat ∧ c.toNat ≤ 57 := by
      simp only [List.all_cons, Bool.and_eq_true] at h
      exact of_decide_eq_true h.1
    rw [Lib.atoiAll_plain c r (by omega) (by omega)]
    unfold Lib.parseMag
    rw [if_neg h0, parse_dec _ 0 h (by omega)]
    by_cases h1 : decN 0 (c :: r) < 18446744073709551616
    · rw [if_pos h1]
      show (if _ then _ else _) = _
      by_cases h2 : decN 0 (c :: r) < 9223372036854775808
      · rw [if_pos h2, if_neg (by omega)]
      · rw [if_neg h2, if_pos (by omega)]
    · rw [if_neg h1, if_neg (by omega)]
      rfl

theorem decDigits_lt {u : Nat} (h : u < 10) : Lib.decDigits u = [UInt8.ofNat (48 + u)] := by rw [Lib.decDigits, dif_pos h]
theorem decDigits_ge {u : Nat} (h : ¬ u < 10) : Lib.decDigits u = Lib.decDigits (u / 10) ++ [UInt8.ofNat (48 + u % 10)] := by rw [Lib.decDigits, dif_neg h]
theorem decDigits_all (u : Nat) : (Lib.decDigits u).all isDig = true := by
  induction u using Nat.strongRecOn with
  | _ u ih =>
    rw [Lib.decDigits]
    split
    · rename_i h
      simp only [List.all_cons, List.all_nil, Bool.and_true, isDig]
      have : (UInt8.ofNat (48 + u)).toNat = 48 + u := by simp; omega
      rw [this]
      exact decide_eq_true (by omega)
    · rename_i h
      rw [List.all_append, ih _ (by omega)]
      simp only [List.all_cons, List.all_nil, Bool.and_true, isDig, Bool.true_and]
      have : (UInt8.ofNat (48 + u % 10)).toNat = 48 + u % 10 := by simp; omega
      rw [this]
      exact decide_eq_true (by omega)
theorem decDigits_ne (u : Nat) : Lib.decDigits u ≠ [] := by
  rw [Lib.decDigits]
  split <;> simp
theorem decN_decDigits (u : Nat) : decN 0 (Lib.decDigits u) = u := by
  induction u using Nat.strongRecOn with
  | _ u ih =>
    rw [Lib.decDigits]
    split
    · rename_i h
      have : (UInt8.ofNat (48 + u)).toNat = 48 + u := by simp; omega
      rw [decN_cons, decN_nil, this]
      omega
    · rename_i h
      rw [decN_snoc, ih _ (by omega)]
      have : (UInt8.ofNat (48 + u % 10)).toNat = 48 + u % 10 := by simp; omega
      rw [this]
      omega
theorem shaped_snoc {l : List UInt8} (h : shaped l = true) (c : UInt8) (h0 : l ≠ [48]) : shaped (l ++ [c]) = true := by
  cases l with
  | nil => cases h
  | cons a r =>
    unfold shaped at h ⊢
    simp only [Bool.or_eq_true, decide_eq_true_eq, List.isEmpty_iff] at h
    rcases h with h | rfl
    · simp [h]
    · have : a.toNat ≠ 48 := fun e => h0 (by rw [UInt8.toNat_inj.1 (show a.toNat = (48 : UInt8).toNat from e)])
      simp [this]
theorem decDigits_head (u : Nat) (h : 0 < u) : ∃ c r, Lib.decDigits u = c :: r ∧ c.toNat ≠ 48 := by
  induction u using Nat.strongRecOn with
  | _ u ih =>
    rw [Lib.decDigits]
    split
    · exact ⟨_, _, rfl, by simp; omega⟩
    · obtain ⟨c, r, e, hc⟩ := ih (u / 10) (by omega) (by omega)
      rw [e]
      exact ⟨c, _, rfl, hc⟩
theorem decDigits_shaped (u : Nat) : shaped (Lib.decDigits u) = true := by
  by_cases h : 0 < u
  · obtain ⟨c, r, e, hc⟩ := decDigits_head u h
    rw [e]
    simp [shaped, hc]
  · obtain rfl : u = 0 := by omega
    rw [decDigits_lt (by omega)]
    rfl
theorem num_decDigits {u : Nat} (h : u ≤ 4611686018427387905) : num (Lib.decDigits u) = some u := by
  rw [num_some (decDigits_all u) (decDigits_shaped u), decN_decDigits, Nat.min_eq_left h]

/-- Digits that spell a number without a 0 ahead are that number's digits. -/
theorem decDigits_decN : ∀ (l : List UInt8), l.all isDig = true → shaped l = true → Lib.decDigits (decN 0 l) = l := by
  intro l
  induction hn : l.length using Nat.strongRecOn generalizing l with
  | _ n ih =>
    intro hd hs
    rcases List.eq_nil_or_concat l with rfl | ⟨r, c, rfl⟩
    · cases hs
    · simp only [List.concat_eq_append, List.all_append, List.all_cons, List.all_nil, Bool.and_true, Bool.and_eq_true] at hd
      have hc : 48 ≤ c.toNat ∧ c.toNat ≤ 57 := of_decide_eq_true hd.2
      have hcc : UInt8.ofNat c.toNat = c := by simp
      simp only [List.concat_eq_append] at hs hn ⊢
      rw [decN_snoc]
      cases r with
      | nil =>
        rw [decN_nil, List.nil_append, decDigits_lt (by omega)]
        congr 1
        rw [show 48 + (0 * 10 + (c.toNat - 48)) = c.toNat by omega, hcc]
      | cons a r =>
        have hsa : a.toNat ≠ 48 := by
          simp only [shaped, List.cons_append, Bool.or_eq_true, decide_eq_true_eq, List.isEmpty_iff] at hs
          rcases hs with h | h
          · exact h
          · simp at h
        have hda : 48 ≤ a.toNat ∧ a.toNat ≤ 57 := by
          have := hd.1
          simp only [List.all_cons, Bool.and_eq_true] at this
          exact of_decide_eq_true this.1
        have hge := decN_ge r (0 * 10 + (a.toNat - 48))
        have hpos : 1 ≤ decN 0 (a :: r) := by
          rw [decN_cons]
          omega
        rw [decDigits_ge (by omega), show (decN 0 (a :: r) * 10 + (c.toNat - 48)) / 10 = decN 0 (a :: r) by omega,
          ih (a :: r).length (by simp at hn ⊢; omega) (a :: r) rfl hd.1 (by simp [shaped, hsa]),
          show 48 + (decN 0 (a :: r) * 10 + (c.toNat - 48)) % 10 = c.toNat by omega, hcc]
theorem num_back {l : List UInt8} {n : Nat} (h : num l = some n) (hn : n ≤ 4611686018427387904) : Lib.decDigits n = l := by
  unfold num at h
  split at h
  · rename_i h1
    simp only [Bool.and_eq_true] at h1
    have h2 := Option.some.inj h
    have : decN 0 l = n := by omega
    rw [← this]
    exact decDigits_decN l h1.1 h1.2
  · cases h

/-! ### Values -/
/-- A value. -/
structure Val where
  kind : Int
  int : Int
  text : ByteArray
  words : List ByteArray
  deriving DecidableEq
def zero : Val := ⟨0, 0, ByteArray.empty, []⟩

/-- How many a unit stands for. -/
def unit (k : Int) (l : List UInt8) : Int :=
  if k = 3 then (if l = [] then 1 else if l = [107] then 1024 else if l = [109] then 1048576 else if l = [103] then 1073741824 else 0)
  else if k = 4 then (if l = [115] then 1 else if l = [109] then 60 else if l = [104] then 3600 else if l = [100] then 86400 else 0)
  else 0
theorem unit_nonneg (k : Int) (l : List UInt8) : 0 ≤ unit k l ∧ unit k l ≤ 1073741824 := by
  unfold unit
  repeat' split
  all_goals omega
def least (k : Int) : Int := if k = 2 then -4611686018427387904 else 0
def most (k : Int) : Int := if k = 1 then 1 else if k = 2 then 4611686018427387904 else if k = 3 then 1125899906842624 else if k = 4 then 1099511627776 else 0
def prn (b : UInt8) : Bool := decide (32 ≤ b.toNat ∧ b.toNat ≤ 126)

/-- How many digits stand ahead. -/
def digs : List UInt8 → Nat
  | [] => 0
  | c :: r => if isDig c then digs r + 1 else 0
theorem digs_le : ∀ l : List UInt8, digs l ≤ l.length
  | [] => Nat.le_refl _
  | c :: r => by
    have := digs_le r
    unfold digs
    split <;> simp <;> omega
theorem digs_at {l : List UInt8} {k : Nat} (h : ∀ j b, j < k → l[j]? = some b → isDig b = true) (hk : k ≤ l.length) (he : ∀ b, l[k]? = some b → isDig b = false) : digs l = k := by
  induction l generalizing k with
  | nil => simp at hk; simp [digs, hk]
  | cons c r ih =>
    cases k with
    | zero =>
      have := he c rfl
      simp [digs, this]
    | succ k =>
      have h0 := h 0 c (by omega) rfl
      unfold digs
      rw [if_pos h0, ih (k := k) (fun j b hj hb => h (j + 1) b (by omega) (by simpa using hb)) (by simpa using hk) (fun b hb => he b (by simpa using hb))]
theorem digs_take : ∀ l : List UInt8, (l.take (digs l)).all isDig = true
  | [] => rfl
  | c :: r => by
    unfold digs
    split
    · rename_i h
      simp [h, digs_take r]
    · rfl

/-- A text of a whole number. -/
def parseInt (l : List UInt8) : Val × Int :=
  let neg := l.head? = some 45
  match num (if neg then l.tail else l) with
  | none => (zero, 40)
  | some n => if neg ∧ n = 0 then (zero, 40) else if 4611686018427387904 < n then (zero, 41) else (⟨2, if neg then -(n : Int) else n, ByteArray.empty, []⟩, 0)
/-- How many the unit behind the digits stands for. -/
def tail (k : Int) (l : List UInt8) : Int := if k = 4 ∧ l = [48] then 1 else unit k (l.drop (digs l))
/-- A text of a number with a unit. -/
def parseUnit (k : Int) (l : List UInt8) : Val × Int :=
  match num (l.take (digs l)) with
  | none => (zero, 40)
  | some n => if tail k l = 0 then (zero, 40) else if most k / tail k l < n then (zero, 41) else (⟨k, n * tail k l, ByteArray.empty, []⟩, 0)
def parseText (l : List UInt8) : Val × Int :=
  if l.all prn then (if 200 < l.length then (zero, 42) else (⟨5, 0, B l, []⟩, 0)) else (zero, 40)
/-- isW: what is a word. -/
def parseWords (isW : List UInt8 → Bool) (l : List UInt8) : Val × Int :=
  if l = [] then (⟨6, 0, ByteArray.empty, []⟩, 0)
  else if (pcs 44 l).all isW then (if 200 < l.length ∨ 16 < (pcs 44 l).length then (zero, 42) else (⟨6, 0, ByteArray.empty, (pcs 44 l).map B⟩, 0))
  else (zero, 40)
def yes (l : List UInt8) : Bool := decide (l = [116, 114, 117, 101] ∨ l = [121, 101, 115] ∨ l = [111, 110])
def no (l : List UInt8) : Bool := decide (l = [102, 97, 108, 115, 101] ∨ l = [110, 111] ∨ l = [111, 102, 102])
def parseBool (l : List UInt8) : Val × Int :=
  if yes l then (⟨1, 1, ByteArray.empty, []⟩, 0) else if no l then (⟨1, 0, ByteArray.empty, []⟩, 0) else (zero, 40)
def parse (isW : List UInt8 → Bool) (k : Int) (l : List UInt8) : Val × Int :=
  if k = 1 then parseBool l else if k = 2 then parseInt l else if k = 3 ∨ k = 4 then parseUnit k l else if k = 5 then parseText l else if k = 6 then parseWords isW l else (zero, 1)

def joined (ws : List ByteArray) : List UInt8 := Lib.join (ws.map (·.data.toList)) [44]
/-- May a value be? -/
def right (isW : List UInt8 → Bool) (v : Val) : Bool :=
  (decide (v.kind = 5) || decide (v.text = ByteArray.empty)) && (decide (v.kind = 6) || v.words.isEmpty) &&
  (decide (least v.kind ≤ v.int) && decide (v.int ≤ most v.kind)) &&
  (decide (v.kind = 1 ∨ v.kind = 2 ∨ v.kind = 3 ∨ v.kind = 4) ||
   (decide (v.kind = 5) && (decide (v.text.size ≤ 200) && v.text.data.toList.all prn)) ||
   (decide (v.kind = 6) && (decide (v.words.length ≤ 16) && v.words.all (fun x => isW x.data.toList) && decide ((joined v.words).length ≤ 200))))
/-- The names of the units, the least first. -/
def uname (k : Int) (i : Nat) : List UInt8 :=
  if k = 3 then (match i with | 0 => [] | 1 => [107] | 2 => [109] | _ => [103]) else (match i with | 0 => [115] | 1 => [109] | 2 => [104] | _ => [100])
/-- The greatest unit of which a number is a multiple. -/
def best (k : Int) (n : Int) : Nat :=
  if n = 0 then 0 else if n % unit k (uname k 3) = 0 then 3 else if n % unit k (uname k 2) = 0 then 2 else if n % unit k (uname k 1) = 0 then 1 else 0
def prints (v : Val) : List UInt8 :=
  if v.kind = 1 then (if v.int = 1 then [116, 114, 117, 101] else [102, 97, 108, 115, 101])
  else if v.kind = 2 then Lib.itoa v.int
  else if v.kind = 5 then v.text.data.toList
  else if v.kind = 6 then joined v.words
  else Lib.itoa (v.int / unit v.kind (uname v.kind (best v.kind v.int))) ++ uname v.kind (best v.kind v.int)
def print (isW : List UInt8 → Bool) (v : Val) : List UInt8 × Int := if right isW v then (prints v, 0) else ([], 1)
def within (isW : List UInt8 → Bool) (v : Val) (lo hi : Int) : Bool :=
  right isW v && (if v.kind = 2 ∨ v.kind = 3 ∨ v.kind = 4 then decide (lo ≤ v.int ∧ v.int ≤ hi) else if v.kind = 6 then decide (lo ≤ v.words.length ∧ (v.words.length : Int) ≤ hi) else true)
end Go.Proofs.YtbelnaiekbfoiaaGreatDoor.va
/- Plain laws of values: what is printed of a value that may be is read as it; what is read may be; a text of Int, Text or Words is printed as itself. No program in sight. Condition on words: none is empty, none has a comma. -/
namespace Go.Proofs.YtbelnaiekbfoiaaGreatDoor.va

theorem join_cc (x y : List UInt8) (r : List (List UInt8)) : Lib.join (x :: y :: r) [44] = x ++ 44 :: Lib.join (y :: r) [44] := by
  rw [Lib.join_cons, Lib.join_cons]
  simp [Lib.joinTail]
theorem pcs_append (x l : List UInt8) (h : (44 : UInt8) ∉ x) : pcs 44 (x ++ 44 :: l) = x :: pcs 44 l := by
  have := pcs_hit 44 x.length (x ++ 44 :: l) (fun j hj => by
    rw [List.getElem?_append_left hj]
    intro e
    exact h (List.mem_of_getElem? e)) (by simp)
  rw [this]
  simp
theorem pcs_clean (x : List UInt8) (h : (44 : UInt8) ∉ x) : pcs 44 x = [x] := pcs_none 44 x fun _ e => h (List.mem_of_getElem? e)
theorem pcs_join : ∀ (x : List UInt8) (r : List (List UInt8)), (∀ y ∈ x :: r, (44 : UInt8) ∉ y) → pcs 44 (Lib.join (x :: r) [44]) = x :: r
  | x, [], h => by rw [Lib.join_one]; exact pcs_clean x (h x (by simp))
  | x, y :: r, h => by
    rw [join_cc, pcs_append x _ (h x (by simp)), pcs_join y r (fun z hz => h z (by simp at hz ⊢; right; exact hz))]
theorem join_pcs : ∀ l : List UInt8, Lib.join (pcs 44 l) [44] = l
  | [] => rfl
  | c :: r => by
    have ih := join_pcs r
    cases hp : pcs 44 r with
    | nil => exact absurd hp (pcs_ne 44 r)
    | cons p ps =>
      rw [hp] at ih
      by_cases hc : c = 44
      · subst hc
        rw [pcs, if_pos rfl, hp, join_cc, ih]
        rfl
      · rw [pcs_other hc hp]
        cases ps with
        | nil => rw [Lib.join_one] at ih ⊢; rw [ih]
        | cons q qs => rw [join_cc] at ih ⊢; rw [List.cons_append, ih]

theorem joined_map (L : List (List UInt8)) : joined (L.map B) = Lib.join L [44] := by
  unfold joined
  rw [List.map_map]
  congr 1
  induction L with
  | nil => rfl
  | cons a l ih => simp [ih]
theorem map_B (ws : List ByteArray) : (ws.map (·.data.toList)).map B = ws := by
  rw [List.map_map]
  induction ws with
  | nil => rfl
  | cons a l ih => simp only [List.map_cons, ih, Function.comp, B_toList]

/-- What a word is like. -/
structure IsWord (isW : List UInt8 → Bool) : Prop where
  ne : ∀ l, isW l = true → l ≠ []
  comma : ∀ l, isW l = true → (44 : UInt8) ∉ l
  size : ∀ l, isW l = true → l.length ≤ 32

theorem right_words {isW : List UInt8 → Bool} (hW : IsWord isW) {ws : List ByteArray} (h : ws.all (fun x => isW x.data.toList) = true) (h16 : ws.length ≤ 16) (h200 : (joined ws).length ≤ 200) :
    parseWords isW (joined ws) = (⟨6, 0, ByteArray.empty, ws⟩, 0) := by
  cases ws with
  | nil => rfl
  | cons x r =>
    have hall : ∀ y ∈ (x :: r).map (·.data.toList), isW y = true := by
      intro y hy
      obtain ⟨z, hz, rfl⟩ := List.mem_map.1 hy
      exact List.all_eq_true.1 h z hz
    have hp : pcs 44 (joined (x :: r)) = (x :: r).map (·.data.toList) := pcs_join _ _ fun y hy => hW.comma y (hall y hy)
    have hne : joined (x :: r) ≠ [] := by
      unfold joined
      rw [List.map_cons, Lib.join_cons]
      intro e
      exact hW.ne _ (hall x.data.toList (by simp)) (List.append_eq_nil_iff.1 e).1
    unfold parseWords
    rw [if_neg hne, hp, if_pos (List.all_eq_true.2 hall), if_neg (by rw [List.length_map]; omega), map_B]

theorem head_digits {u : Nat} : ∀ b, (Lib.decDigits u).head? = some b → isDig b = true := by
  intro b hb
  have := decDigits_all u
  rw [List.all_eq_true] at this
  exact this b (List.mem_of_mem_head? hb)
theorem itoa_neg {n : Int} (h : n < 0) : Lib.itoa n = 45 :: Lib.decDigits n.natAbs := by unfold Lib.itoa; rw [if_pos h]
theorem itoa_pos {n : Int} (h : ¬ n < 0) : Lib.itoa n = Lib.decDigits n.toNat := by unfold Lib.itoa; rw [if_neg h]
theorem parseInt_itoa {n : Int} (h0 : -4611686018427387904 ≤ n) (h1 : n ≤ 4611686018427387904) : parseInt (Lib.itoa n) = (⟨2, n, ByteArray.empty, []⟩, 0) := by
  by_cases h : n < 0
  · rw [itoa_neg h]
    unfold parseInt
    simp only [List.head?_cons, if_true, List.tail_cons, true_and]
    rw [num_decDigits (by omega)]
    simp only
    rw [if_neg (by omega), if_neg (by omega)]
    congr 2
    omega
  · rw [itoa_pos h]
    have hh : (Lib.decDigits n.toNat).head? ≠ some 45 := by
      intro e
      have := head_digits 45 e
      simp [isDig] at this
    unfold parseInt
    simp only [hh, if_false, false_and]
    rw [num_decDigits (by omega)]
    simp only
    rw [if_neg (by omega)]
    congr 2
    omega

theorem digs_append {d n : List UInt8} (hd : d.all isDig = true) (hn : ∀ b, n.head? = some b → isDig b = false) : digs (d ++ n) = d.length := by
  refine digs_at (fun j b hj hb => ?_) (by simp) (fun b hb => ?_)
  · rw [List.getElem?_append_left hj] at hb
    exact List.all_eq_true.1 hd b (List.mem_of_getElem? hb)
  · rw [List.getElem?_append_right (Nat.le_refl _), Nat.sub_self] at hb
    exact hn b (by rw [List.head?_eq_getElem?]; exact hb)
theorem uname_head (k : Int) (i : Nat) : ∀ b, (uname k i).head? = some b → isDig b = false := by
  intro b hb
  unfold uname at hb
  split at hb <;> split at hb <;> simp at hb <;> subst hb <;> rfl
theorem best_le (k n : Int) : best k n ≤ 3 := by
  unfold best
  repeat' split
  all_goals omega
theorem best_mod (k n : Int) (hk : k = 3 ∨ k = 4) : n % unit k (uname k (best k n)) = 0 := by
  unfold best
  split
  · rename_i h; subst h; simp
  · split
    · assumption
    · split
      · assumption
      · split
        · assumption
        · rcases hk with rfl | rfl
          · show n % 1 = 0; omega
          · show n % 1 = 0; omega
theorem unit_uname (k : Int) (i : Nat) (hk : k = 3 ∨ k = 4) (hi : i ≤ 3) : 1 ≤ unit k (uname k i) := by
  rcases hk with rfl | rfl <;> rcases (show i = 0 ∨ i = 1 ∨ i = 2 ∨ i = 3 by omega) with rfl | rfl | rfl | rfl <;> decide
theorem uname_ne4 (i : Nat) : uname 4 i ≠ [] := by
  unfold uname
  rw [if_neg (by decide)]
  split <;> simp
theorem parseUnit_print {k n : Int} (hk : k = 3 ∨ k = 4) (h0 : 0 ≤ n) (h1 : n ≤ most k) :
    parseUnit k (Lib.itoa (n / unit k (uname k (best k n))) ++ uname k (best k n)) = (⟨k, n, ByteArray.empty, []⟩, 0) := by
  have hu := unit_uname k (best k n) hk (best_le k n)
  have hm := best_mod k n hk
  have hne : k = 4 → uname k (best k n) ≠ [] := by rintro rfl; exact uname_ne4 _
  have hh := uname_head k (best k n)
  have hmost : most k ≤ 1125899906842624 := by rcases hk with rfl | rfl <;> decide
  generalize hname : uname k (best k n) = nm at *
  generalize hun : unit k nm = u at *
  have hq0 : 0 ≤ n / u := Int.ediv_nonneg h0 (by omega)
  have hqn : n / u * u = n := by have := Int.ediv_mul_add_emod n u; omega
  have hqle : n / u ≤ n := by
    have : n / u * 1 ≤ n / u * u := Int.mul_le_mul_of_nonneg_left hu hq0
    omega
  have hqm : n / u ≤ most k / u := Int.ediv_le_ediv (by omega) h1
  generalize n / u = q at *
  rw [itoa_pos (by omega)]
  have hdg : digs (Lib.decDigits q.toNat ++ nm) = (Lib.decDigits q.toNat).length := digs_append (decDigits_all _) hh
  have ht : tail k (Lib.decDigits q.toNat ++ nm) = u := by
    unfold tail
    rw [if_neg ?_, hdg, List.drop_left, hun]
    rintro ⟨rfl, e⟩
    have h2 := congrArg List.length e
    have h3 : 0 < (Lib.decDigits q.toNat).length := List.length_pos_iff.2 (decDigits_ne _)
    have h4 : 0 < nm.length := List.length_pos_iff.2 (hne rfl)
    simp at h2
    omega
  unfold parseUnit
  rw [ht, hdg, List.take_left, num_decDigits (by omega)]
  simp only
  rw [if_neg (by omega), if_neg (by omega)]
  congr 2
  rw [show ((q.toNat : Nat) : Int) = q by omega]
  exact hqn

theorem right_cases {isW : List UInt8 → Bool} {v : Val} (h : right isW v = true) :
    (v.kind = 1 ∧ 0 ≤ v.int ∧ v.int ≤ 1 ∧ v.text = ByteArray.empty ∧ v.words = []) ∨
    (v.kind = 2 ∧ -4611686018427387904 ≤ v.int ∧ v.int ≤ 4611686018427387904 ∧ v.text = ByteArray.empty ∧ v.words = []) ∨
    ((v.kind = 3 ∨ v.kind = 4) ∧ 0 ≤ v.int ∧ v.int ≤ most v.kind ∧ v.text = ByteArray.empty ∧ v.words = []) ∨
    (v.kind = 5 ∧ v.int = 0 ∧ v.text.size ≤ 200 ∧ v.text.data.toList.all prn = true ∧ v.words = []) ∨
    (v.kind = 6 ∧ v.int = 0 ∧ v.text = ByteArray.empty ∧ v.words.length ≤ 16 ∧ v.words.all (fun x => isW x.data.toList) = true ∧ (joined v.words).length ≤ 200) := by
  obtain ⟨k, n, t, ws⟩ := v
  simp only [right, Bool.and_eq_true, Bool.or_eq_true, decide_eq_true_eq, List.isEmpty_iff] at h
  obtain ⟨⟨⟨h1, h2⟩, h3, h4⟩, h5⟩ := h
  simp only at *
  rcases h5 with (h5 | ⟨h5, h6, h7⟩) | ⟨h5, ⟨h6, h7⟩, h8⟩
  · have h1' : t = ByteArray.empty := by rcases h1 with h1 | h1; omega; exact h1
    have h2' : ws = [] := by rcases h2 with h2 | h2; omega; exact h2
    rcases h5 with rfl | rfl | rfl | rfl
    · exact .inl ⟨rfl, by simpa [least] using h3, by simpa [most] using h4, h1', h2'⟩
    · exact .inr (.inl ⟨rfl, by simpa [least] using h3, by simpa [most] using h4, h1', h2'⟩)
    · exact .inr (.inr (.inl ⟨.inl rfl, by simpa [least] using h3, h4, h1', h2'⟩))
    · exact .inr (.inr (.inl ⟨.inr rfl, by simpa [least] using h3, h4, h1', h2'⟩))
  · subst h5
    have h2' : ws = [] := by rcases h2 with h2 | h2; omega; exact h2
    simp [least, most] at h3 h4
    exact .inr (.inr (.inr (.inl ⟨rfl, by omega, h6, h7, h2'⟩)))
  · subst h5
    have h1' : t = ByteArray.empty := by rcases h1 with h1 | h1; omega; exact h1
    simp [least, most] at h3 h4
    exact .inr (.inr (.inr (.inr ⟨rfl, by omega, h1', h6, h7, h8⟩)))

/-- What is printed of a value that may be is read as it. -/
theorem parse_prints {isW : List UInt8 → Bool} (hW : IsWord isW) {v : Val} (h : right isW v = true) : parse isW v.kind (prints v) = (v, 0) := by
  rcases right_cases h with ⟨hk, h1, h2, h3, h4⟩ | ⟨hk, h1, h2, h3, h4⟩ | ⟨hk, h1, h2, h3, h4⟩ | ⟨hk, h1, h2, h3, h4⟩ | ⟨hk, h1, h2, h3, h4, h5⟩
  · obtain ⟨k, n, t, ws⟩ := v
    simp only at *
    subst hk h3 h4
    rcases (show n = 0 ∨ n = 1 by omega) with rfl | rfl <;> rfl
  · obtain ⟨k, n, t, ws⟩ := v
    simp only at *
    subst hk h3 h4
    simp only [parse, prints]
    exact parseInt_itoa h1 h2
  · obtain ⟨k, n, t, ws⟩ := v
    simp only at *
    subst h3 h4
    have e1 : ¬ k = 1 := by omega
    have e2 : ¬ k = 2 := by omega
    have e5 : ¬ k = 5 := by omega
    have e6 : ¬ k = 6 := by omega
    simp only [parse, prints, e1, e2, e5, e6, hk, if_true, if_false]
    exact parseUnit_print hk h1 h2
  · obtain ⟨k, n, t, ws⟩ := v
    simp only at *
    subst hk h1 h4
    show parseText t.data.toList = _
    unfold parseText
    rw [if_pos h3, if_neg (by rw [Lib.size_eq] at h2; omega), B_toList]
  · obtain ⟨k, n, t, ws⟩ := v
    simp only at *
    subst hk h1 h2
    exact right_words hW h4 h3 h5

theorem right_of {isW : List UInt8 → Bool} {v : Val} (h1 : v.kind = 5 ∨ v.text = ByteArray.empty) (h2 : v.kind = 6 ∨ v.words = []) (h3 : least v.kind ≤ v.int) (h4 : v.int ≤ most v.kind)
    (h5 : (v.kind = 1 ∨ v.kind = 2 ∨ v.kind = 3 ∨ v.kind = 4) ∨ (v.kind = 5 ∧ v.text.size ≤ 200 ∧ v.text.data.toList.all prn = true) ∨ (v.kind = 6 ∧ v.words.length ≤ 16 ∧ v.words.all (fun x => isW x.data.toList) = true ∧ (joined v.words).length ≤ 200)) : right isW v = true := by
  simp only [right, Bool.and_eq_true, Bool.or_eq_true, decide_eq_true_eq, List.isEmpty_iff]
  refine ⟨⟨⟨h1, h2⟩, h3, h4⟩, ?_⟩
  rcases h5 with h5 | ⟨h5, h6, h7⟩ | ⟨h5, h6, h7, h8⟩
  · exact .inl (.inl h5)
  · exact .inl (.inr ⟨h5, h6, h7⟩)
  · exact .inr ⟨h5, ⟨h6, h7⟩, h8⟩

/-- What is read may be, and is of the kind that was asked for. -/
theorem parse_right {isW : List UInt8 → Bool} (_hW : IsWord isW) {k : Int} {l : List UInt8} {v : Val} (h : parse isW k l = (v, 0)) : right isW v = true ∧ v.kind = k := by
  unfold parse at h
  split at h
  · rename_i hk
    subst hk
    unfold parseBool at h
    split at h
    · obtain rfl := (Prod.mk.inj h).1.symm; exact ⟨rfl, rfl⟩
    · split at h
      · obtain rfl := (Prod.mk.inj h).1.symm; exact ⟨rfl, rfl⟩
      · exact absurd (Prod.mk.inj h).2 (by decide)
  · split at h
    · rename_i _ hk
      subst hk
      unfold parseInt at h
      simp only at h
      split at h
      · exact absurd (Prod.mk.inj h).2 (by decide)
      · rename_i n hn
        have := num_le hn
        split at h
        · exact absurd (Prod.mk.inj h).2 (by decide)
        · split at h
          · exact absurd (Prod.mk.inj h).2 (by decide)
          · obtain rfl := (Prod.mk.inj h).1.symm
            refine ⟨right_of (.inr rfl) (.inr rfl) ?_ ?_ (.inl (.inr (.inl rfl))), rfl⟩
            · show (-4611686018427387904 : Int) ≤ if l.head? = some 45 then -(n : Int) else n
              split <;> omega
            · show (if l.head? = some 45 then -(n : Int) else n) ≤ 4611686018427387904
              split <;> omega
    · split at h
      · rename_i hk
        unfold parseUnit at h
        split at h
        · exact absurd (Prod.mk.inj h).2 (by decide)
        · rename_i n hn
          split at h
          · exact absurd (Prod.mk.inj h).2 (by decide)
          · rename_i hu
            split at h
            · exact absurd (Prod.mk.inj h).2 (by decide)
            · rename_i hle
              obtain rfl := (Prod.mk.inj h).1.symm
              have hu0 : 0 ≤ tail k l := by
                unfold tail
                split
                · decide
                · exact (unit_nonneg _ _).1
              have hm0 : 0 ≤ most k := by rcases hk with rfl | rfl <;> decide
              have hmul : (n : Int) * tail k l ≤ most k := by
                have h2 : (n : Int) * tail k l ≤ most k / tail k l * tail k l := Int.mul_le_mul_of_nonneg_right (by omega) hu0
                have h3 := Int.ediv_mul_le (most k) (b := tail k l) hu
                omega
              refine ⟨right_of (.inr rfl) (.inr rfl) ?_ hmul (.inl (.inr (.inr hk))), rfl⟩
              simp only [least]
              rw [if_neg (by omega)]
              exact Int.mul_nonneg (by omega) hu0
      · split at h
        · rename_i hk
          subst hk
          unfold parseText at h
          split at h
          · rename_i hp
            split at h
            · exact absurd (Prod.mk.inj h).2 (by decide)
            · rename_i hl
              obtain rfl := (Prod.mk.inj h).1.symm
              exact ⟨right_of (.inl rfl) (.inr rfl) (Int.le_refl 0) (Int.le_refl 0) (.inr (.inl ⟨rfl, by simp [ByteArray.size]; omega, by simpa using hp⟩)), rfl⟩
          · exact absurd (Prod.mk.inj h).2 (by decide)
        · split at h
          · rename_i hk
            subst hk
            unfold parseWords at h
            split at h
            · obtain rfl := (Prod.mk.inj h).1.symm
              exact ⟨right_of (.inr rfl) (.inl rfl) (Int.le_refl 0) (Int.le_refl 0) (.inr (.inr ⟨rfl, by simp, by simp, by simp [joined, Lib.join]⟩)), rfl⟩
            · split at h
              · rename_i hp
                split at h
                · exact absurd (Prod.mk.inj h).2 (by decide)
                · rename_i hl
                  obtain rfl := (Prod.mk.inj h).1.symm
                  refine ⟨right_of (.inr rfl) (.inl rfl) (Int.le_refl 0) (Int.le_refl 0) (.inr (.inr ⟨rfl, by simp; omega, ?_, ?_⟩)), rfl⟩
                  · rw [List.all_map]; exact hp
                  · show (joined ((pcs 44 l).map B)).length ≤ 200
                    rw [joined_map, join_pcs]; omega
              · exact absurd (Prod.mk.inj h).2 (by decide)
          · exact absurd (Prod.mk.inj h).2 (by decide)

/-- A text of Int, Text or Words is printed as itself. -/
theorem prints_parse {isW : List UInt8 → Bool} {k : Int} {l : List UInt8} {v : Val} (h : parse isW k l = (v, 0)) (hk : k = 2 ∨ k = 5 ∨ k = 6) : prints v = l := by
  unfold parse at h
  rcases hk with rfl | rfl | rfl
  · rw [if_neg (by decide), if_pos rfl] at h
    unfold parseInt at h
    simp only at h
    split at h
    · exact absurd (Prod.mk.inj h).2 (by decide)
    · rename_i n hn
      split at h
      · exact absurd (Prod.mk.inj h).2 (by decide)
      · rename_i hz
        split at h
        · exact absurd (Prod.mk.inj h).2 (by decide)
        · rename_i hle
          obtain rfl := (Prod.mk.inj h).1.symm
          have hb := num_back hn (by omega)
          show Lib.itoa _ = l
          by_cases h45 : l.head? = some 45
          · simp only [h45, if_true] at hb ⊢
            simp only [h45, true_and] at hz
            rw [itoa_neg (by omega), show (-(n : Int)).natAbs = n by omega, hb]
            cases l with
            | nil => cases h45
            | cons c r => simp at h45 ⊢; exact h45.symm
          · simp only [h45, if_false] at hb ⊢
            rw [itoa_pos (by omega), Int.toNat_natCast, hb]
  · rw [if_neg (by decide), if_neg (by decide), if_neg (by decide), if_pos rfl] at h
    unfold parseText at h
    split at h
    · split at h
      · exact absurd (Prod.mk.inj h).2 (by decide)
      · obtain rfl := (Prod.mk.inj h).1.symm
        show (B l).data.toList = l
        simp
    · exact absurd (Prod.mk.inj h).2 (by decide)
  · rw [if_neg (by decide), if_neg (by decide), if_neg (by decide), if_neg (by decide), if_pos rfl] at h
    unfold parseWords at h
    split at h
    · rename_i hl
      obtain rfl := (Prod.mk.inj h).1.symm
      rw [hl]; rfl
    · split at h
      · split at h
        · exact absurd (Prod.mk.inj h).2 (by decide)
        · obtain rfl := (Prod.mk.inj h).1.symm
          show joined ((pcs 44 l).map B) = l
          rw [joined_map, join_pcs]
      · exact absurd (Prod.mk.inj h).2 (by decide)
/-- Two values of one kind that may be are printed alike just if they are the same. -/
theorem prints_inj {isW : List UInt8 → Bool} (hW : IsWord isW) {v w : Val} (hv : right isW v = true) (hw : right isW w = true) (hk : v.kind = w.kind) (h : prints v = prints w) : v = w := by
  have h1 := parse_prints hW hv
  have h2 := parse_prints hW hw
  rw [h, hk, h2] at h1
  exact (Prod.mk.inj h1).1.symm
end Go.Proofs.YtbelnaiekbfoiaaGreatDoor.va
/- Laws on memory for any program: bytes of a string laid as a row, a row of bytes read as a string, appends to a row of bytes that the call owns. No program in sight; no conditions beside those that each theorem states. -/
namespace Go.Proofs.YtbelnaiekbfoiaaGreatDoor
open Go.RowKit

theorem ret_int' {k : IntKind} {a b : Int} (h : b = a) : Ending.returned (.int k a) = .returned (.int k b) := by rw [h]
theorem ret_bool {a b : Bool} (h : b = a) : Ending.returned (.bool a) = .returned (.bool b) := by rw [h]
theorem ret_str {a b : ByteArray} (h : b = a) : Ending.returned (.string a) = .returned (.string b) := by rw [h]

/-- A string of bytes as cells. -/
def bv (l : List UInt8) : List Value := l.map fun b => .int .u8 (b.toNat : Int)
theorem bv_length (l : List UInt8) : (bv l).length = l.length := by simp [bv]
theorem bv_append (a b : List UInt8) : bv (a ++ b) = bv a ++ bv b := by simp [bv]
theorem bv_get (l : List UInt8) (j : Nat) : (bv l)[j]? = l[j]?.map fun b => Value.int .u8 (b.toNat : Int) := by simp [bv]
theorem bv_one (l : List UInt8) : ∀ u ∈ bv l, u.oneCell' = true := by
  intro u hu
  simp only [bv, List.mem_map] at hu
  obtain ⟨b, _, rfl⟩ := hu
  rfl

/-- A string's byte at a place, as a letter. -/
theorem byteAt (s : ByteArray) (k : Nat) (h : k < s.size) : ∃ b : UInt8, s.data.toList[k]? = some b ∧ (∀ h' : k < s.size, ((s[k]'h').toNat : Int) = (b.toNat : Int)) ∧ (0 : Int) ≤ (b.toNat : Int) ∧ (b.toNat : Int) ≤ 255 :=
  ⟨s[k], by
    have : s.data.toList[k]? = some (s.data[k]'h) := by simp [h]
    exact this, fun _ => rfl, by omega, by have := (s[k]).toNat_lt; omega⟩

/-- The bytes l lie at the head of block g, and may be written. -/
structure Lies (w : World) (g : Nat) (l : List UInt8) : Prop where
  cell : ∀ j b, l[j]? = some b → w.cell? ⟨g, j, none⟩ = some (.int .u8 (b.toNat : Int))
  free : ∀ j, j < l.length → w.frozen? ⟨g, j, none⟩ = false

theorem Lies.below {w w' : World} {g B : Nat} {l : List UInt8} (h : Lies w g l) (hb : Below B w w') (hg : g < B) : Lies w' g l :=
  ⟨fun j b hj => (hb.cell (p := ⟨g, j, none⟩) hg).trans (h.cell j b hj), fun j hj => (hb.frozen (p := ⟨g, j, none⟩) hg).trans (h.free j hj)⟩
theorem Lies.grown {w w' : World} {g : Nat} {row : Option Nat} {l : List UInt8} (h : Lies w g l) (hb : w.grownBy w' row) (hg : g < w.heap.size) (hr : some g ≠ row) : Lies w' g l :=
  ⟨fun j b hj => (World.cell?_of_block (hb.block g hg hr)).trans (h.cell j b hj), fun j hj => (World.frozen?_of_block (hb.block g hg hr)).trans (h.free j hj)⟩

section
variable {P : Program}

/-- '[]byte(s)': the bytes lie in a new block. -/
theorem wpList_bytes_of_string {ops : Array Oper} {rest : List Oper} {o : Oper} {a : Act} {w : World} {Q : Exit → Act → World → Prop} (hgd : o.guard = none) (src dst e : TypeId) (x : Operand) (ho : o.op = .convert src dst x)
    (s : ByteArray) (hx : a.eval x = .string s) (hs : P.underlying src = some .string) (hd : P.underlying dst = some (.slice e)) (he : P.underlying e = some (.int .u8))
    (h : ∀ (cap : Nat) (w1 : World), Lies w1 w.heap.size s.data.toList → Below w.heap.size w w1 → w.heap.size < w1.heap.size → s.size ≤ cap → wpList P ops Q rest (a.put o.dst (.slice (some ⟨w.heap.size, 0, none⟩) s.size cap)) w1) :
    wpList P ops Q (o :: rest) a w := by
  refine wpList_plain hgd fun K hK => ?_
  unfold Oper.wp execOp
  simp only [ho, hx, Sem.run_bind, Sem.run_pure, Result.andThen_ok, run_bytes_of_string w src dst e s hs hd he]
  refine hK _ _ (h _ _ ⟨fun j b hj => ?_, fun j hj => ?_⟩ ((Below.refl _ _).drew.alloc (Nat.le_refl _) _) (by simp) (grownCap_ge w s.size 0 e))
  · have hlt : j < s.data.size := by
      rcases Nat.lt_or_ge j s.data.size with h1 | h1
      · exact h1
      · rw [List.getElem?_eq_none (by simpa using h1)] at hj; cases hj
    have hb : s.data[j] = b := by
      have : s.data.toList[j]? = some s.data[j] := by simp
      rw [this] at hj
      exact Option.some.inj hj
    have hc := World.cell?_alloc_mark w.drew (bytesRow s (grownCap w s.size 0 e)) e ((bytesRow s (grownCap w s.size 0 e)).size, (bytesRow s (grownCap w s.size 0 e)).size + 1) j
    rw [bytesRow_at s _ j hlt, hb] at hc
    exact hc
  · have hf := World.frozen?_alloc_mark w.drew (bytesRow s (grownCap w s.size 0 e)) e (bytesRow s (grownCap w s.size 0 e)).size ((bytesRow s (grownCap w s.size 0 e)).size + 1) j
    have hlt : j < (bytesRow s (grownCap w s.size 0 e)).size := by
      simp [bytesRow] at hj ⊢
      omega
    rw [show (decide ((bytesRow s (grownCap w s.size 0 e)).size ≤ j) && decide (j < (bytesRow s (grownCap w s.size 0 e)).size + 1)) = false from by simp; omega] at hf
    exact hf

/-- 'string(b)', b's bytes lying at a block's head. -/
theorem run_string_of_lies (w : World) (src e dst : TypeId) (hs : P.underlying src = some (.slice e)) (he : P.underlying e = some (.int .u8)) (hd : P.underlying dst = some .string) (g cap : Nat) (l : List UInt8) (hl : ∀ j b, l[j]? = some b → w.cell? ⟨g, j, none⟩ = some (.int .u8 (b.toNat : Int))) :
    (convert src dst (.slice (some ⟨g, 0, none⟩) l.length cap)).run P w = .ok (.string ⟨l.toArray⟩) w := by
  refine run_convert_bytes_back w src dst e ⟨g, 0, none⟩ cap l hs he hd fun j hj => ?_
  have hadd : (⟨g, 0, none⟩ : Addr).add j = ⟨g, j, none⟩ := by unfold Addr.add; split <;> simp_all
  rw [hadd]
  exact hl j l[j] (List.getElem?_eq_getElem hj)

theorem wpList_string_of_lies {ops : Array Oper} {rest : List Oper} {o : Oper} {a : Act} {w : World} {Q : Exit → Act → World → Prop} (hgd : o.guard = none) (src dst e : TypeId) (x : Operand) (ho : o.op = .convert src dst x)
    (g n cap : Nat) (l : List UInt8) (hn : l.length = n) (hx : a.eval x = .slice (some ⟨g, 0, none⟩) n cap) (hs : P.underlying src = some (.slice e)) (he : P.underlying e = some (.int .u8)) (hd : P.underlying dst = some .string)
    (hl : ∀ j b, l[j]? = some b → w.cell? ⟨g, j, none⟩ = some (.int .u8 (b.toNat : Int)))
    (h : wpList P ops Q rest (a.put o.dst (.string ⟨l.toArray⟩)) w) : wpList P ops Q (o :: rest) a w := by
  subst hn
  refine wpList_plain hgd fun K hK => ?_
  unfold Oper.wp execOp
  simp only [ho, hx, Sem.run_bind, Sem.run_pure, Result.andThen_ok, run_string_of_lies w src e dst hs he hd g cap l hl]
  exact hK _ _ h

/-- The same of a row of bytes that the call owns, nil too. -/
theorem run_string_of_own (w : World) (src e dst : TypeId) (hs : P.underlying src = some (.slice e)) (he : P.underlying e = some (.int .u8)) (hd : P.underlying dst = some .string) (base n : Nat) (v : Value) (l : List UInt8) (hown : w.ownsRow base e 1 v n (bv l)) :
    (convert src dst v).run P w = .ok (.string ⟨l.toArray⟩) w := by
  have hlen : l.length = n := by have := hown.1; rw [bv_length] at this; omega
  rcases hown.2 with ⟨rfl, rfl⟩ | ⟨g, cap, cur, rfl, _⟩
  · rw [run_convert_bytes_nil w src e hs he 0 0 dst hd]
    obtain rfl : l = [] := List.eq_nil_of_length_eq_zero hlen
    rfl
  · subst hlen
    refine run_string_of_lies w src e dst hs he hd g cap l fun j b hj => ?_
    have hc := hown.cells (g := g) rfl j (.int .u8 (b.toNat : Int)) (by rw [bv_get, hj]; rfl)
    rwa [show (⟨g, 0, none⟩ : Addr).add j = ⟨g, j, none⟩ from by unfold Addr.add; split <;> simp_all] at hc

theorem wpList_string_of_own {ops : Array Oper} {rest : List Oper} {o : Oper} {a : Act} {w : World} {Q : Exit → Act → World → Prop} (hgd : o.guard = none) (src dst e : TypeId) (x : Operand) (ho : o.op = .convert src dst x)
    (base n : Nat) (v : Value) (l : List UInt8) (hx : a.eval x = v) (hown : w.ownsRow base e 1 v n (bv l)) (hs : P.underlying src = some (.slice e)) (he : P.underlying e = some (.int .u8)) (hd : P.underlying dst = some .string)
    (h : wpList P ops Q rest (a.put o.dst (.string ⟨l.toArray⟩)) w) : wpList P ops Q (o :: rest) a w := by
  refine wpList_plain hgd fun K hK => ?_
  unfold Oper.wp execOp
  simp only [ho, hx, Sem.run_bind, Sem.run_pure, Result.andThen_ok, run_string_of_own w src e dst hs he hd base n v l hown]
  exact hK _ _ h
end
end Go.Proofs.YtbelnaiekbfoiaaGreatDoor
/- The memory that package value reads: the listed variables, a slice of strings as a list, a value as a struct; value.Unit, ends, names, printable and the reference's Unit and most return plain functions. Conditions: the tables hold what the program's text lays. -/
namespace Go.Proofs.YtbelnaiekbfoiaaGreatDoor.va
open Go.ChangeShapes Go.WideShapes Go.ChangeAt Go.RowKit gl

theorem seq_true {a b : ByteArray} (h : a = b) : (a.toList == b.toList) = true := by rw [h]; simp
theorem seq_false {a b : ByteArray} (h : a ≠ b) : (a.toList == b.toList) = false := by
  rw [beq_eq_false_iff_ne, ByteArray.toList_eq, ByteArray.toList_eq]
  exact ba_ne h
theorem seq_lit {a : ByteArray} {l : List UInt8} (h : a.data.toList = l) : (a.toList == l) = true := by rw [ByteArray.toList_eq, h]; simp
theorem seq_nlit {a : ByteArray} {l : List UInt8} (h : a.data.toList ≠ l) : (a.toList == l) = false := by
  rw [beq_eq_false_iff_ne, ByteArray.toList_eq]
  exact h

def unitsL : List Value := [.int .i64 3, .string ⟨#[]⟩, .int .i64 1, .int .i64 3, .string ⟨#[107]⟩, .int .i64 1024, .int .i64 3, .string ⟨#[109]⟩, .int .i64 1048576, .int .i64 3, .string ⟨#[103]⟩, .int .i64 1073741824,
  .int .i64 4, .string ⟨#[115]⟩, .int .i64 1, .int .i64 4, .string ⟨#[109]⟩, .int .i64 60, .int .i64 4, .string ⟨#[104]⟩, .int .i64 3600, .int .i64 4, .string ⟨#[100]⟩, .int .i64 86400]

/-- A slice of strings reads as a list. -/
def Strs (w : World) (v : Value) (xs : List ByteArray) : Prop :=
  ∃ (p : Option Addr) (c : Nat), v = .slice p xs.length c ∧ xs.length ≤ c ∧ (xs = [] ∨ ∃ b o, p = some ⟨b, o, none⟩ ∧ b < w.heap.size ∧ ∀ (j : Nat) x, xs[j]? = some x → w.cell? ⟨b, o + j, none⟩ = some (.string x))
theorem Strs.below {w w' : World} {v : Value} {xs : List ByteArray} {B : Nat} (h : Strs w v xs) (hb : Below B w w') (hB : w.heap.size ≤ B) : Strs w' v xs := by
  obtain ⟨p, c, rfl, hc, h⟩ := h
  refine ⟨p, c, rfl, hc, ?_⟩
  rcases h with h | ⟨b, o, rfl, hlt, hat⟩
  · exact .inl h
  · exact .inr ⟨b, o, rfl, by have := hb.size; omega, fun j x hx => (hb.cell (p := ⟨b, o + j, none⟩) (by show b < B; omega)).trans (hat j x hx)⟩
/-- A value as a struct. -/
def rep (v : Val) (sl : Value) : Value := .agg #[.int .i64 v.kind, .int .i64 v.int, .string v.text, sl]

theorem Tryz.infoU : (Tryz.prog.info? 206).map (·.size) = some unitsL.length := by kernel_rfl
theorem Tryz.ixU0 (w : World) : (Instr.index 206 (.agg unitsL.toArray) (.int .i64 0)).run Tryz.prog w = .ok (.agg #[.int .i64 3, .string ⟨#[]⟩, .int .i64 1]) w := by kernel_rfl
theorem Tryz.ixU1 (w : World) : (Instr.index 206 (.agg unitsL.toArray) (.int .i64 1)).run Tryz.prog w = .ok (.agg #[.int .i64 3, .string ⟨#[107]⟩, .int .i64 1024]) w := by kernel_rfl
theorem Tryz.ixU2 (w : World) : (Instr.index 206 (.agg unitsL.toArray) (.int .i64 2)).run Tryz.prog w = .ok (.agg #[.int .i64 3, .string ⟨#[109]⟩, .int .i64 1048576]) w := by kernel_rfl
theorem Tryz.ixU3 (w : World) : (Instr.index 206 (.agg unitsL.toArray) (.int .i64 3)).run Tryz.prog w = .ok (.agg #[.int .i64 3, .string ⟨#[103]⟩, .int .i64 1073741824]) w := by kernel_rfl
theorem Tryz.ixU4 (w : World) : (Instr.index 206 (.agg unitsL.toArray) (.int .i64 4)).run Tryz.prog w = .ok (.agg #[.int .i64 4, .string ⟨#[115]⟩, .int .i64 1]) w := by kernel_rfl
theorem Tryz.ixU5 (w : World) : (Instr.index 206 (.agg unitsL.toArray) (.int .i64 5)).run Tryz.prog w = .ok (.agg #[.int .i64 4, .string ⟨#[109]⟩, .int .i64 60]) w := by kernel_rfl
theorem Tryz.ixU6 (w : World) : (Instr.index 206 (.agg unitsL.toArray) (.int .i64 6)).run Tryz.prog w = .ok (.agg #[.int .i64 4, .string ⟨#[104]⟩, .int .i64 3600]) w := by kernel_rfl
theorem Tryz.ixU7 (w : World) : (Instr.index 206 (.agg unitsL.toArray) (.int .i64 7)).run Tryz.prog w = .ok (.agg #[.int .i64 4, .string ⟨#[100]⟩, .int .i64 86400]) w := by kernel_rfl

/-- The unit at a place of the table: its kind, name, size. -/
def uat : Nat → Int × List UInt8 × Int
  | 0 => (3, [], 1) | 1 => (3, [107], 1024) | 2 => (3, [109], 1048576) | 3 => (3, [103], 1073741824)
  | 4 => (4, [115], 1) | 5 => (4, [109], 60) | 6 => (4, [104], 3600) | _ => (4, [100], 86400)
def unitFrom (k : Int) (l : List UInt8) : Nat → Nat → Int
  | 0, _ => 0
  | f + 1, i => if k = (uat i).1 ∧ l = (uat i).2.1 then (uat i).2.2 else unitFrom k l f (i + 1)
theorem unitFrom_eq (k : Int) (l : List UInt8) : unitFrom k l 8 0 = unit k l := by
  unfold unit
  by_cases h3 : k = 3
  · subst h3
    simp [unitFrom, uat]
  · by_cases h4 : k = 4
    · subst h4
      simp [unitFrom, uat]
    · simp [unitFrom, uat, h3, h4]
theorem uat_ix (i : Nat) (hi : i < 8) (w : World) : (Instr.index 206 (.agg unitsL.toArray) (.int .i64 (i : Int))).run Tryz.prog w = .ok (.agg #[.int .i64 (uat i).1, .string (B (uat i).2.1), .int .i64 (uat i).2.2]) w := by
  rcases (show i = 0 ∨ i = 1 ∨ i = 2 ∨ i = 3 ∨ i = 4 ∨ i = 5 ∨ i = 6 ∨ i = 7 by omega) with rfl | rfl | rfl | rfl | rfl | rfl | rfl | rfl
  · exact Tryz.ixU0 w
  · exact Tryz.ixU1 w
  · exact Tryz.ixU2 w
  · exact Tryz.ixU3 w
  · exact Tryz.ixU4 w
  · exact Tryz.ixU5 w
  · exact Tryz.ixU6 w
  · exact Tryz.ixU7 w

set_option maxHeartbeats 4000000 in
theorem Unit_any (k : Int) (s : ByteArray) (w : World) (hU : w.rangeAt 0 0 unitsL) :
    Calls Tryz.prog 103 #[.int .i64 k, .string s] w fun e w' => e = .returned (.int .i64 (unit k s.data.toList)) ∧ Below w.heap.size w w' := by
  go_enter Tryz.func103, Tryz.ntmps103
  go_wp2_with (with_reducible refine wpList_load_mid rfl 206 _ rfl 0 0 rfl _ _ hU Tryz.underlying206 rfl Tryz.infoU ?_)
  clear hU
  go_loopw [8] (fun i wr => ∃ n : Nat, n ≤ 8 ∧ i = .int .i64 n ∧ unitFrom k s.data.toList (8 - n) n = unit k s.data.toList ∧ Below w.heap.size w wr) (fun i _ => 8 - (intOf i).toNat)
  case atStart => exact ⟨0, by omega, rfl, unitFrom_eq _ _, Below.refl _ _⟩
  case round =>
    obtain ⟨n, hn, rfl, hu, hb⟩ := hrel
    have Hu := Lib.hid hu
    have Hb := Lib.hid hb
    have hsz := hb.size
    clear hu hb
    by_cases hlt : n < 8
    · have hix := uat_ix n hlt
      have Hs : Hid (∀ m, 8 - n = m + 1 → (if k = (uat n).1 ∧ s.data.toList = (uat n).2.1 then (uat n).2.2 else unitFrom k s.data.toList m (n + 1)) = unit k s.data.toList) := Lib.hid (by
        intro m hm
        have := Hu.out
        rw [hm] at this
        exact this)
      obtain ⟨K, hK⟩ : ∃ K, (uat n).1 = K := ⟨_, rfl⟩
      obtain ⟨L, hL⟩ : ∃ L, (uat n).2.1 = L := ⟨_, rfl⟩
      obtain ⟨M, hM⟩ : ∃ M, (uat n).2.2 = M := ⟨_, rfl⟩
      rw [hK, hL, hM] at hix Hs
      clear hK hL hM
      by_cases hk : K = k
      · have hk' : (K == k) = true := by simp [hk]
        by_cases hs : L = s.data.toList
        · have hs' : (L == s.toList) = true := by rw [ByteArray.toList_eq, ← hs]; simp
          have Hs2 := Lib.hid hs
          have Hk2 := Lib.hid hk
          clear hs hk
          go_wp2_with fail
          go_ret
          exact ⟨ret_int' (by
            have := Hs.out (7 - n) (by omega)
            rw [if_pos ⟨Hk2.out.symm, Hs2.out.symm⟩] at this
            exact this.symm), Hb.out.alloc (by omega) _⟩
        · have hs' : (L == s.toList) = false := by rw [ByteArray.toList_eq, beq_eq_false_iff_ne]; exact hs
          have Hs2 := Lib.hid hs
          have Hk2 := Lib.hid hk
          clear hs hk
          go_wp2_with fail
          go_roundw
          case rel => exact ⟨n + 1, by omega, by go_num, by
            have := Hs.out (7 - n) (by omega)
            rw [if_neg (by rintro ⟨_, e⟩; exact Hs2.out e.symm)] at this
            rw [show 8 - (n + 1) = 7 - n by omega]
            exact this, Hb.out.alloc (by omega) _⟩
          case measure => simp [intOf]; omega
      · have hk' : (K == k) = false := by simp [hk]
        have Hk2 := Lib.hid hk
        clear hk
        go_wp2_with fail
        go_roundw
        case rel => exact ⟨n + 1, by omega, by go_num, by
          have := Hs.out (7 - n) (by omega)
          rw [if_neg (by rintro ⟨e, _⟩; exact Hk2.out e.symm)] at this
          rw [show 8 - (n + 1) = 7 - n by omega]
          exact this, Hb.out.alloc (by omega) _⟩
        case measure => simp [intOf]; omega
    · obtain rfl : n = 8 := by omega
      have hN : ((8 : Nat) : Int) = 8 := rfl
      go_wp2_with fail
      go_ret
      exact ⟨ret_int' (by have := Hu.out; exact this.symm), Hb.out⟩

theorem refUnit_any (k : Int) (s : ByteArray) (w : World) :
    Calls Tryz.prog 186 #[.int .i64 k, .string s] w fun e w' => e = .returned (.int .i64 (unit k s.data.toList)) ∧ w' = w := by
  rw [← ByteArray.toList_eq s]
  by_cases h3 : k = 3
  · subst h3
    go_enter Tryz.func186, Tryz.ntmps186
    go_wp2
    all_goals
      go_ret
      refine ⟨ret_int' ?_, rfl⟩
      simp_all [unit]
  · have h3' : (k == 3) = false := by simp [h3]
    by_cases h4 : k = 4
    · subst h4
      clear h3
      go_enter Tryz.func186, Tryz.ntmps186
      go_wp2
      all_goals
        go_ret
        refine ⟨ret_int' ?_, rfl⟩
        simp_all [unit]
    · have h4' : (k == 4) = false := by simp [h4]
      have H3 := Lib.hid h3
      have H4 := Lib.hid h4
      clear h3 h4
      go_enter Tryz.func186, Tryz.ntmps186
      go_wp2
      go_ret
      refine ⟨ret_int' ?_, rfl⟩
      unfold unit
      rw [if_neg H3.out, if_neg H4.out]

theorem kinds (k : Int) : k = 1 ∨ k = 2 ∨ k = 3 ∨ k = 4 ∨ k = 5 ∨ k = 6 ∨ (k ≠ 1 ∧ k ≠ 2 ∧ k ≠ 3 ∧ k ≠ 4 ∧ k ≠ 5 ∧ k ≠ 6) := by omega
theorem ret_two {a b c d : Int} (h : a = c) (h2 : b = d) : Ending.returned (.tuple #[.int .i64 a, .int .i64 b]) = .returned (.tuple #[.int .i64 c, .int .i64 d]) := by rw [h, h2]

theorem ends_any (k : Int) (w : World) :
    Calls Tryz.prog 146 #[.int .i64 k] w fun e w' => e = .returned (.tuple #[.int .i64 (least k), .int .i64 (most k)]) ∧ w' = w := by
  rcases kinds k with rfl | rfl | rfl | rfl | rfl | rfl | ⟨h1, h2, h3, h4, h5, h6⟩
  all_goals
    first
      | (have q1 : (k == 1) = false := by simp [h1]
         have q2 : (k == 2) = false := by simp [h2]
         have q3 : (k == 3) = false := by simp [h3]
         have q4 : (k == 4) = false := by simp [h4])
      | skip
    go_enter Tryz.func146, Tryz.ntmps146
    go_wp2
    go_ret2
    first
      | exact ⟨rfl, rfl⟩
      | (refine ⟨?_, rfl⟩
         show Ending.returned (.tuple #[.int .i64 0, .int .i64 0]) = _
         exact ret_two (by unfold least; rw [if_neg h2]) (by unfold most; rw [if_neg h1, if_neg h2, if_neg h3, if_neg h4]))

theorem most_any (k : Int) (hk : k = 3 ∨ k = 4) (w : World) :
    Calls Tryz.prog 187 #[.int .i64 k] w fun e w' => e = .returned (.int .i64 (most k)) ∧ w' = w := by
  rcases hk with rfl | rfl
  all_goals
    go_enter Tryz.func187, Tryz.ntmps187
    go_wp2
    go_ret
    exact ⟨rfl, rfl⟩

/-- What a range over a string reads at a place: the byte, or a rune above all bytes of ASCII. -/
theorem rune_at (s : ByteArray) (pos : Nat) (h : pos < s.size) : ∃ b : UInt8, s.data.toList[pos]? = some b ∧ ((b.toNat < 128 ∧ Utf8.decode s pos = (b.toNat, 1)) ∨ (128 ≤ b.toNat ∧ 128 ≤ (Utf8.decode s pos).1 ∧ (Utf8.decode s pos).1 ≤ 1114111)) := by
  refine ⟨s[pos]'h, by
    have : s.data.toList[pos]? = some (s.data[pos]'h) := by simp [h]
    exact this, ?_⟩
  by_cases ha : (s[pos]'h).toNat < 128
  · exact .inl ⟨ha, decode_ascii s pos h ha⟩
  · exact .inr ⟨by omega, (decode_high s pos h (by omega)).1, Lib.rune_le s pos⟩

/-- A text of bytes from 32 to 126. -/
def prnAll (l : List UInt8) : Bool := l.all prn
def goodTo (p : UInt8 → Bool) (l : List UInt8) (k : Nat) : Prop := ∀ (j : Nat) (b : UInt8), j < k → l[j]? = some b → p b = true
theorem prn_yes {b : UInt8} (h : 32 ≤ b.toNat) (h2 : b.toNat ≤ 126) : prn b = true := decide_eq_true ⟨h, h2⟩
theorem prn_no {b : UInt8} (h : b.toNat < 32 ∨ 126 < b.toNat) : prn b = false := decide_eq_false (by omega)
theorem dig_yes {b : UInt8} (h : 48 ≤ b.toNat) (h2 : b.toNat ≤ 57) : isDig b = true := decide_eq_true ⟨h, h2⟩
theorem dig_no {b : UInt8} (h : b.toNat < 48 ∨ 57 < b.toNat) : isDig b = false := decide_eq_false (by omega)
theorem goodTo_succ {p : UInt8 → Bool} {l : List UInt8} {k : Nat} {b : UInt8} (h : goodTo p l k) (hb : l[k]? = some b) (hp : p b = true) : goodTo p l (k + 1) := by
  intro j c hj hc
  rcases Nat.lt_or_ge j k with h1 | h1
  · exact h j c h1 hc
  · obtain rfl : j = k := by omega
    rw [hb] at hc
    obtain rfl := Option.some.inj hc
    exact hp
theorem all_good {p : UInt8 → Bool} {l : List UInt8} (h : goodTo p l l.length) : l.all p = true := by
  rw [List.all_eq_true]
  intro b hb
  obtain ⟨j, hj⟩ := List.mem_iff_getElem?.1 hb
  exact h j b (by
    rcases Nat.lt_or_ge j l.length with h1 | h1
    · exact h1
    · rw [List.getElem?_eq_none h1] at hj; cases hj) hj
theorem all_bad {p : UInt8 → Bool} {l : List UInt8} {k : Nat} {b : UInt8} (hb : l[k]? = some b) (hp : p b = false) : l.all p = false := by
  rw [List.all_eq_false]
  exact ⟨b, List.mem_of_getElem? hb, by simp [hp]⟩

set_option maxHeartbeats 2000000 in
theorem printable_any (s : ByteArray) (w : World) :
    Calls Tryz.prog 147 #[.string s] w fun e w' => e = .returned (.bool (prnAll s.data.toList)) ∧ Below w.heap.size w w' := by
  go_enter Tryz.func147, Tryz.ntmps147
  go_wp2_with fail
  go_loopg [] s.size (fun gf wr => ∃ pos : Nat, pos ≤ s.size ∧ wr.heap[w.heap.size]? = some (.stringIter s pos) ∧ Below w.heap.size w wr ∧ goodTo prn s.data.toList pos ∧ s.size ≤ pos + gf)
  case atStart => exact ⟨0, by omega, World.iter_heap w s 0, (Below.refl _ w).alloc (Nat.le_refl _) _, fun j b h => by omega, by omega⟩
  case round =>
    obtain ⟨pos, hps, hit, hbw, hto, hfu⟩ := hrel
    by_cases hp : pos < s.size
    · obtain ⟨g', rfl⟩ : ∃ g', gk = g' + 1 := ⟨gk - 1, by omega⟩
      have hnx : ∀ ty, (Instr.next (.pointer (some ⟨w.heap.size, 0, none⟩)) true ty).run Tryz.prog wr = _ := fun ty => Lib.run_next_any_at wr w.heap.size s pos ty hit hp
      obtain ⟨b, hb, hc⟩ := rune_at s pos hp
      have hit2 := Lib.iterAt_heap wr w.heap.size s pos (pos + (Utf8.decode s pos).2) hit
      have hbw2 := Lib.below_iterAt hbw (k := w.heap.size) (Nat.le_refl _) s (pos + (Utf8.decode s pos).2)
      rcases hc with ⟨h128, he⟩ | ⟨h128, hr, hr2⟩
      · rw [he] at hnx hit2 hbw2
        obtain ⟨W, hW⟩ : ∃ W, wr.iterAt w.heap.size s (pos + (b.toNat, 1).2) = W := ⟨_, rfl⟩
        rw [hW] at hnx hit2 hbw2
        have Hto := Lib.hid hto
        have Hb := Lib.hid hb
        clear hto hb he hW
        rcases (show b.toNat < 32 ∨ (32 ≤ b.toNat ∧ b.toNat ≤ 126) ∨ 126 < b.toNat by omega) with h | ⟨h, h'⟩ | h
        · go_wp2_with fail
          go_ret
          exact ⟨ret_bool (all_bad Hb.out (prn_no (by omega))), hbw2⟩
        · go_wp2_with fail
          go_roundg g'
          case measure => omega
          case rel => exact ⟨pos + 1, by omega, hit2, hbw2, goodTo_succ Hto.out Hb.out (prn_yes h h'), by omega⟩
        · go_wp2_with fail
          go_ret
          exact ⟨ret_bool (all_bad Hb.out (prn_no (by omega))), hbw2⟩
      · have Hb := Lib.hid hb
        clear hb hto
        obtain ⟨W, hW⟩ : ∃ W, wr.iterAt w.heap.size s (pos + (Utf8.decode s pos).2) = W := ⟨_, rfl⟩
        obtain ⟨R, hR⟩ : ∃ R, (Utf8.decode s pos).1 = R := ⟨_, rfl⟩
        rw [hW] at hnx hit2 hbw2
        rw [hR] at hnx hr hr2
        clear hW hR
        go_wp2_with fail
        go_ret
        exact ⟨ret_bool (all_bad Hb.out (prn_no (by omega))), hbw2⟩
    · have hnx : ∀ ty, (Instr.next (.pointer (some ⟨w.heap.size, 0, none⟩)) true ty).run Tryz.prog wr = _ := fun ty => Lib.run_next_end_at wr w.heap.size s pos ty hit hp
      have hall : prnAll s.data.toList = true := all_good (by
        obtain rfl : pos = s.size := by omega
        simpa using hto)
      go_wp2_with fail
      go_ret
      exact ⟨ret_bool hall, hbw⟩
end Go.Proofs.YtbelnaiekbfoiaaGreatDoor.va
/- glyph.Class, glyph.Count and the reference's Class and Count return one function of numbers. Conditions: the two tables hold what the program's text lays. -/
namespace Go.Proofs.YtbelnaiekbfoiaaGreatDoor.gl
open Go.ChangeShapes Go.WideShapes Go.ChangeAt Go.RowKit

theorem refClass_any (b : Int) (w : World) :
    Calls Tryz.prog 183 #[.int .i64 b] w fun e w' => e = .returned (.int .i64 (cls b)) ∧ w = w' := by
  rcases (show b < 9 ∨ b = 9 ∨ b = 10 ∨ (11 ≤ b ∧ b ≤ 12) ∨ b = 13 ∨ (14 ≤ b ∧ b ≤ 31) ∨ b = 32 ∨ (33 ≤ b ∧ b ≤ 47) ∨ (48 ≤ b ∧ b ≤ 57) ∨ (58 ≤ b ∧ b ≤ 64) ∨ (65 ≤ b ∧ b ≤ 90) ∨ (91 ≤ b ∧ b ≤ 96) ∨ (97 ≤ b ∧ b ≤ 122) ∨ (123 ≤ b ∧ b ≤ 126) ∨ 127 ≤ b by omega) with h | rfl | rfl | ⟨h, h'⟩ | rfl | ⟨h, h'⟩ | rfl | ⟨h, h'⟩ | ⟨h, h'⟩ | ⟨h, h'⟩ | ⟨h, h'⟩ | ⟨h, h'⟩ | ⟨h, h'⟩ | ⟨h, h'⟩ | h
  all_goals
    first
      | (have q1 : (b == 32) = false := by simp only [beq_eq_false_iff_ne]; omega
         have q2 : (b == 9) = false := by simp only [beq_eq_false_iff_ne]; omega
         have q3 : (b == 10) = false := by simp only [beq_eq_false_iff_ne]; omega
         have q4 : (b == 13) = false := by simp only [beq_eq_false_iff_ne]; omega)
      | skip
    go_enter Tryz.func183, Tryz.ntmps183
    go_wp2
    go_ret
    exact ⟨ret_int (by unfold cls; repeat (first | rfl | rw [if_pos (by omega)] | rw [if_neg (by omega)])), rfl⟩

theorem cls_low (b : Int) (h : b < 0) : cls b = 0 := by unfold cls; repeat (first | rfl | rw [if_pos (by omega)] | rw [if_neg (by omega)])
theorem cls_high (b : Int) (h : 127 ≤ b) : cls b = 0 := by unfold cls; repeat (first | rfl | rw [if_pos (by omega)] | rw [if_neg (by omega)])

/-- How many of the numbers below k are of a class. -/
def cnt (of : Int) : Nat → Nat
  | 0 => 0
  | k + 1 => if cls k = of then cnt of k + 1 else cnt of k
theorem cnt_le (of : Int) (k : Nat) : cnt of k ≤ k := by
  induction k with
  | zero => exact Nat.le_refl _
  | succ k ih => unfold cnt; split <;> omega

end Go.Proofs.YtbelnaiekbfoiaaGreatDoor.gl
/- The parts of names: a plain function of bytes, and the reference's part, which returns it. No conditions. -/
namespace Go.Proofs.YtbelnaiekbfoiaaGreatDoor.gl
open Go.ChangeShapes Go.WideShapes Go.ChangeAt Go.RowKit

/-- A part of a name. -/
def partL : List UInt8 → Bool
  | [] => false
  | c :: r => decide (cls c.toNat = 1) && r.all fun b => decide (cls b.toNat = 1 ∨ cls b.toNat = 3)
/-- The first k bytes do. -/
def partTo (l : List UInt8) (k : Nat) : Prop := ∀ j b, j < k → l[j]? = some b → (cls b.toNat = 1 ∨ (j ≠ 0 ∧ cls b.toNat = 3))
theorem partTo_zero (l : List UInt8) : partTo l 0 := fun j b h => by omega
theorem partTo_succ {l : List UInt8} {k : Nat} {b : UInt8} (h : partTo l k) (hb : l[k]? = some b) (hc : cls b.toNat = 1 ∨ (k ≠ 0 ∧ cls b.toNat = 3)) : partTo l (k + 1) := by
  intro j c hj hc'
  rcases Nat.lt_or_ge j k with h1 | h1
  · exact h j c h1 hc'
  · obtain rfl : j = k := by omega
    rw [hb] at hc'
    obtain rfl := Option.some.inj hc'
    exact hc
theorem part_bad {l : List UInt8} {k : Nat} {b : UInt8} (hb : l[k]? = some b) (h1 : cls b.toNat ≠ 1) (h2 : k = 0 ∨ cls b.toNat ≠ 3) : partL l = false := by
  cases l with
  | nil => rfl
  | cons c r =>
    cases k with
    | zero =>
      simp at hb
      subst hb
      simp [partL, h1]
    | succ k =>
      have hm : b ∈ r := List.mem_of_getElem? (by simpa using hb)
      have h3 : cls b.toNat ≠ 3 := by rcases h2 with h2 | h2; omega; exact h2
      have : (r.all fun b => decide (cls b.toNat = 1 ∨ cls b.toNat = 3)) = false := by
        rw [List.all_eq_false]
        exact ⟨b, hm, by simp [h1, h3]⟩
      simp only [partL, this, Bool.and_false]
theorem part_end {l : List UInt8} (h : partTo l l.length) : partL l = !l.isEmpty := by
  cases l with
  | nil => rfl
  | cons c r =>
    have h0 := h 0 c (by simp) rfl
    have h1 : cls c.toNat = 1 := by rcases h0 with h0 | h0; exact h0; omega
    have h2 : (r.all fun b => decide (cls b.toNat = 1 ∨ cls b.toNat = 3)) = true := by
      rw [List.all_eq_true]
      intro b hb
      obtain ⟨j, hj⟩ := List.mem_iff_getElem?.1 hb
      have hlt : j < r.length := by
        rcases Nat.lt_or_ge j r.length with h | h
        · exact h
        · rw [List.getElem?_eq_none h] at hj; cases hj
      have := h (j + 1) b (by simp; omega) (by simpa using hj)
      simp
      omega
    simp only [partL, h1, h2]
    rfl

theorem refPart_any (s : ByteArray) (hs : s.size ≤ 2147483647) (w : World) :
    Calls Tryz.prog 130 #[.string s] w fun e w' => e = .returned (.bool (partL s.data.toList)) ∧ w = w' := by
  go_enter Tryz.func130, Tryz.ntmps130
  go_wp2_with fail
  go_loop [3] (fun i => ∃ k : Nat, k ≤ s.size ∧ i = .int .i64 k ∧ partTo s.data.toList k) (fun i => s.size - (intOf i).toNat)
  case atStart => exact ⟨0, by omega, rfl, partTo_zero _⟩
  case round =>
    obtain ⟨k, hk, rfl, hto⟩ := hrel
    have Hto := Lib.hid hto
    clear hto
    by_cases hlt : k < s.size
    · obtain ⟨b, hb, hbk, hb0, hb1⟩ := byteAt s k hlt
      have Hb := Lib.hid hb
      clear hb
      have hwp : True := trivial
      by_cases h1 : cls b.toNat = 1
      · go_wp2_with fail
        refine (refClass_any _ _).mono ?_
        rintro e w1 ⟨rfl, rfl⟩
        go_wp2_with fail
        go_round
        case rel => exact ⟨k + 1, by omega, by go_num, partTo_succ Hto.out Hb.out (.inl (by assumption))⟩
        case measure => simp [intOf]; omega
      · have h1' : (cls b.toNat != 1) = true := by simp [h1]
        by_cases hz : k = 0
        · subst hz
          go_wp2_with fail
          refine (refClass_any _ _).mono ?_
          rintro e w1 ⟨rfl, rfl⟩
          go_wp2_with fail
          go_ret
          exact ⟨ret_bool (part_bad Hb.out h1 (.inl rfl)), rfl⟩
        · have hz' : ((k : Int) == 0) = false := by simp; omega
          by_cases h3 : cls b.toNat = 3
          · have h3' : (cls b.toNat != 3) = false := by simp [h3]
            have H3 := Lib.hid h3
            clear h3
            go_wp2_with fail
            refine (refClass_any _ _).mono ?_
            rintro e w1 ⟨rfl, rfl⟩
            go_wp2_with fail
            go_round
            case rel => exact ⟨k + 1, by omega, by go_num, partTo_succ Hto.out Hb.out (.inr ⟨hz, H3.out⟩)⟩
            case measure => simp [intOf]; omega
          · have h3' : (cls b.toNat != 3) = true := by simp [h3]
            go_wp2_with fail
            refine (refClass_any _ _).mono ?_
            rintro e w1 ⟨rfl, rfl⟩
            go_wp2_with fail
            go_ret
            exact ⟨ret_bool (part_bad Hb.out h1 (.inr h3)), rfl⟩
    · obtain rfl : k = s.size := by omega
      go_wp2_with fail
      go_ret
      exact ⟨ret_bool (by rw [part_end (l := s.data.toList) (by simpa using Hto.out), ByteArray.toList_eq]), rfl⟩
end Go.Proofs.YtbelnaiekbfoiaaGreatDoor.gl
/- Names: a plain function of bytes, and the reference's IsName, which returns it. Condition: the text is no longer than 2147483647 bytes. -/
namespace Go.Proofs.YtbelnaiekbfoiaaGreatDoor.gl
open Go.ChangeShapes Go.WideShapes Go.ChangeAt Go.RowKit

/-- A name. -/
def nameL (l : List UInt8) : Bool := decide (l.length ≤ 32) && decide ((pcs 46 l).length ≤ 3) && (pcs 46 l).all partL

/-- k bytes have been passed, the part that is read begins at f, n - 1 parts have been read and are parts. -/
structure Scan (l : List UInt8) (n f k : Nat) : Prop where
  le : f ≤ k
  all : (pcs 46 l).all partL = (pcs 46 (l.drop f)).all partL
  len : (pcs 46 l).length + 1 = n + (pcs 46 (l.drop f)).length
  free : ∀ j, f ≤ j → j < k → l[j]? ≠ some 46
  many : 1 ≤ n ∧ n ≤ k + 1
theorem Scan.start (l : List UInt8) : Scan l 1 0 0 := ⟨by omega, rfl, by simp; omega, fun j _ h => by omega, by omega⟩
theorem Scan.pass {l : List UInt8} {n f k : Nat} {b : UInt8} (h : Scan l n f k) (hb : l[k]? = some b) (hne : b ≠ 46) : Scan l n f (k + 1) :=
  ⟨by have := h.le; omega, h.all, h.len, fun j h1 h2 => by
    rcases Nat.lt_or_ge j k with h3 | h3
    · exact h.free j h1 h3
    · obtain rfl : j = k := by omega
      rw [hb]; exact fun e => hne (Option.some.inj e), by have := h.many; omega⟩
theorem Scan.piece {l : List UInt8} {n f k : Nat} (h : Scan l n f k) (hb : l[k]? = some 46) : pcs 46 (l.drop f) = (l.drop f).take (k - f) :: pcs 46 (l.drop (k + 1)) := by
  have hle := h.le
  have := pcs_hit 46 (k - f) (l.drop f) (fun j hj => by rw [List.getElem?_drop]; exact h.free (f + j) (by omega) (by omega)) (by rw [List.getElem?_drop, show f + (k - f) = k by omega]; exact hb)
  rw [List.drop_drop, show f + (k - f + 1) = k + 1 by omega] at this
  exact this
theorem Scan.hit {l : List UInt8} {n f k : Nat} (h : Scan l n f k) (hb : l[k]? = some 46) (hp : partL ((l.drop f).take (k - f)) = true) : Scan l (n + 1) (k + 1) (k + 1) := by
  have e := h.piece hb
  refine ⟨Nat.le_refl _, ?_, ?_, fun j h1 h2 => by omega, by have := h.many; omega⟩
  · rw [h.all, e, List.all_cons, hp, Bool.true_and]
  · have := h.len; rw [e, List.length_cons] at this; omega
theorem Scan.bad {l : List UInt8} {n f k : Nat} (h : Scan l n f k) (hb : l[k]? = some 46) (hp : partL ((l.drop f).take (k - f)) = false) : nameL l = false := by
  unfold nameL
  rw [h.all, h.piece hb, List.all_cons, hp, Bool.false_and, Bool.and_false]
theorem Scan.last {l : List UInt8} {n f : Nat} (h : Scan l n f l.length) : nameL l = (decide (l.length ≤ 32) && decide (n ≤ 3) && partL (l.drop f)) := by
  have e : pcs 46 (l.drop f) = [l.drop f] := pcs_none 46 _ fun j => by
    rw [List.getElem?_drop]
    rcases Nat.lt_or_ge (f + j) l.length with h1 | h1
    · exact h.free _ (by omega) h1
    · rw [List.getElem?_eq_none h1]; simp
  have hl := h.len
  rw [e] at hl
  simp at hl
  unfold nameL
  rw [h.all, e]
  simp [hl]

theorem extract_toList (s : ByteArray) (a b : Nat) : (s.extract a b).data.toList = (s.data.toList.drop a).take (b - a) := by
  rw [Lib.extract_data]
theorem extract_size_le (s : ByteArray) (a b : Nat) : (s.extract a b).size ≤ s.size := by
  rw [ByteArray.size_extract]; omega

set_option maxHeartbeats 1000000 in
theorem refIsName_any (s : ByteArray) (hs : s.size ≤ 2147483647) (w : World) :
    Calls Tryz.prog 82 #[.string s] w fun e w' => e = .returned (.bool (nameL s.data.toList)) ∧ w = w' := by
  go_enter Tryz.func82, Tryz.ntmps82
  go_wp2_with fail
  go_loop [3, 4, 5] (fun n f i => ∃ nn ff k : Nat, k ≤ s.size ∧ i = .int .i64 k ∧ n = .int .i64 nn ∧ f = .int .i64 ff ∧ Scan s.data.toList nn ff k) (fun _ _ i => s.size - (intOf i).toNat)
  case atStart => exact ⟨1, 0, 0, by omega, rfl, rfl, rfl, Scan.start _⟩
  case round =>
    obtain ⟨nn, ff, k, hk, rfl, rfl, rfl, hsc⟩ := hrel
    have Hsc := Lib.hid hsc
    have hle := hsc.le
    have hm1 := hsc.many.1
    have hm2 := hsc.many.2
    clear hsc
    by_cases hlt : k < s.size
    · obtain ⟨b, hb, hbk, hb0, hb1⟩ := byteAt s k hlt
      have Hb := Lib.hid hb
      clear hb
      by_cases hdot : b = 46
      · subst hdot
        have Hp : Hid ((s.extract ff k).data.toList = (s.data.toList.drop ff).take (k - ff)) := extract_toList s ff k
        go_wp2_with fail
        refine (refPart_any _ (by have := extract_size_le s ff k; omega) _).mono ?_
        rintro e w1 ⟨rfl, rfl⟩
        rw [Hp.out]
        cases hpp : partL ((s.data.toList.drop ff).take (k - ff))
        · have Hpp := Lib.hid hpp
          clear hpp
          go_wp2_with fail
          go_ret
          exact ⟨ret_bool (Hsc.out.bad Hb.out Hpp.out), rfl⟩
        · have Hpp := Lib.hid hpp
          clear hpp
          go_wp2_with fail
          go_round
          case rel => exact ⟨nn + 1, k + 1, k + 1, by omega, by go_num, by go_num, by go_num, Hsc.out.hit Hb.out Hpp.out⟩
          case measure => simp [intOf]; omega
      · have hd : ((b.toNat : Int) == 46) = false := by
          simp only [beq_eq_false_iff_ne]
          intro e
          exact hdot (UInt8.toNat_inj.1 (by show b.toNat = 46; omega))
        have Hd := Lib.hid hdot
        clear hdot
        go_wp2_with fail
        go_round
        case rel => exact ⟨nn, ff, k + 1, by omega, by go_num, rfl, rfl, Hsc.out.pass Hb.out Hd.out⟩
        case measure => simp [intOf]; omega
    · obtain rfl : k = s.size := by omega
      have hlast : nameL s.data.toList = (decide (s.size ≤ 32) && decide (nn ≤ 3) && partL (s.data.toList.drop ff)) := by
        have := Scan.last (l := s.data.toList) (by simpa using Hsc.out)
        simpa using this
      have Hlast := Lib.hid hlast
      clear hlast
      have Hp : Hid ((s.extract ff s.size).data.toList = s.data.toList.drop ff) := by
        show _ = _
        rw [extract_toList, List.take_of_length_le (by simp)]
      go_wp2_with fail
      refine (refPart_any _ (by have := extract_size_le s ff s.size; omega) _).mono ?_
      rintro e w1 ⟨rfl, rfl⟩
      rw [Hp.out]
      cases hpp : partL (s.data.toList.drop ff)
      · have Hpp := Lib.hid hpp
        clear hpp
        go_wp2_with fail
        go_ret
        exact ⟨ret_bool (by rw [Hlast.out, Hpp.out, Bool.and_false]), rfl⟩
      · have Hpp := Lib.hid hpp
        clear hpp
        by_cases h3 : nn ≤ 3
        · by_cases h32 : s.size ≤ 32
          · go_wp2_with fail
            go_ret
            exact ⟨ret_bool (by rw [Hlast.out, Hpp.out, decide_eq_true h3, decide_eq_true h32]; exact (decide_eq_true (by omega)).symm), rfl⟩
          · go_wp2_with fail
            go_ret
            exact ⟨ret_bool (by rw [Hlast.out, Hpp.out, decide_eq_true h3, decide_eq_false h32]; exact (decide_eq_false (by omega)).symm), rfl⟩
        · go_wp2_with fail
          go_ret
          exact ⟨ret_bool (by rw [Hlast.out, Hpp.out, decide_eq_false h3, Bool.and_false, Bool.false_and]), rfl⟩
end Go.Proofs.YtbelnaiekbfoiaaGreatDoor.gl
