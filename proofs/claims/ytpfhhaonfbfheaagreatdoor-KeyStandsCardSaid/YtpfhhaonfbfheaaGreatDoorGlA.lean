/- What the listed tables of package glyph hold, as a fact on a world; the class of a byte as a plain function; glyph.class, glyph.Class, Count and the reference's Class and Count return it. Conditions: the two tables hold what the program's text lays. -/
import Derived.Test.YtpfhhaonfbfheaaGreatDoorRows
import Derived.WalkKit
import Derived.WalkLawsBesides
import Derived.WalkSpells
import Derived.Deep.MidRow
import Derived.Lib.Hide
import Derived.Handy
namespace Go.Proofs.YtpfhhaonfbfheaaGreatDoor.gl
open Go.ChangeShapes Go.WideShapes Go.ChangeAt Go.RowKit

/-- The class of a byte (of any number). -/
def cls (b : Int) : Int :=
  if 97 ≤ b ∧ b ≤ 122 then 1 else if 65 ≤ b ∧ b ≤ 90 then 2 else if 48 ≤ b ∧ b ≤ 57 then 3 else if b = 32 ∨ b = 9 then 4 else if b = 10 ∨ b = 13 then 6 else if 33 ≤ b ∧ b ≤ 126 then 5 else 0

def lettersL : List Value := [.int .u8 97, .int .u8 122, .int .i64 1, .int .u8 65, .int .u8 90, .int .i64 2, .int .u8 48, .int .u8 57, .int .i64 3]
def othersL : List Value := [.int .u8 32, .int .u8 32, .int .i64 4, .int .u8 9, .int .u8 9, .int .i64 4, .int .u8 10, .int .u8 10, .int .i64 6, .int .u8 13, .int .u8 13, .int .i64 6,
  .int .u8 33, .int .u8 47, .int .i64 5, .int .u8 58, .int .u8 64, .int .i64 5, .int .u8 91, .int .u8 96, .int .i64 5, .int .u8 123, .int .u8 126, .int .i64 5]

/-- The two tables lie in the world; the library's own number is some number. -/
structure Glo (w : World) : Prop where
  letters : w.rangeAt 0 0 lettersL
  others : w.rangeAt 1 0 othersL
  maxLen : ∃ m : Int, w.cell? ⟨2, 0, none⟩ = some (.int .i64 m)

theorem Glo.sizes {w : World} (h : Glo w) : 0 < w.heap.size ∧ 1 < w.heap.size ∧ 2 < w.heap.size :=
  ⟨World.block_lt_of_cell? _ _ (h.letters 0 _ rfl), World.block_lt_of_cell? _ _ (h.others 0 _ rfl), by obtain ⟨m, hm⟩ := h.maxLen; exact World.block_lt_of_cell? _ _ hm⟩
theorem Glo.below {w w' : World} {B : Nat} (h : Glo w) (hb : Below B w w') (hB : w.heap.size ≤ B) : Glo w' := by
  obtain ⟨s1, s2, s3⟩ := h.sizes
  obtain ⟨h1, h2, m, hm⟩ := h
  refine ⟨fun j v hv => ?_, fun j v hv => ?_, m, ?_⟩
  · rw [hb.cell (p := ⟨0, 0 + j, none⟩) (by show 0 < B; omega)]; exact h1 j v hv
  · rw [hb.cell (p := ⟨1, 0 + j, none⟩) (by show 1 < B; omega)]; exact h2 j v hv
  · rw [hb.cell (p := ⟨2, 0, none⟩) (by show 2 < B; omega)]; exact hm
theorem Glo.alloc {w : World} (h : Glo w) (o : Obj) : Glo (w.alloc o) := h.below ((Below.refl w.heap.size w).alloc (Nat.le_refl _) o) (Nat.le_refl _)
theorem Glo.drew {w : World} (h : Glo w) : Glo w.drew := h.below ((Below.refl w.heap.size w).drew) (Nat.le_refl _)

theorem Tryz.infoL : (Tryz.prog.info? 124).map (·.size) = some lettersL.length := by kernel_rfl
theorem Tryz.infoO : (Tryz.prog.info? 125).map (·.size) = some othersL.length := by kernel_rfl

theorem ret_int {k : IntKind} {a b : Int} (h : b = a) : Ending.returned (.int k a) = .returned (.int k b) := by rw [h]

def OutL (k : Nat) (c : Int) : Prop := (1 ≤ k → ¬ (97 ≤ c ∧ c ≤ 122)) ∧ (2 ≤ k → ¬ (65 ≤ c ∧ c ≤ 90)) ∧ (3 ≤ k → ¬ (48 ≤ c ∧ c ≤ 57))
def OutO (k : Nat) (c : Int) : Prop := (1 ≤ k → ¬ (32 ≤ c ∧ c ≤ 32)) ∧ (2 ≤ k → ¬ (9 ≤ c ∧ c ≤ 9)) ∧ (3 ≤ k → ¬ (10 ≤ c ∧ c ≤ 10)) ∧ (4 ≤ k → ¬ (13 ≤ c ∧ c ≤ 13)) ∧ (5 ≤ k → ¬ (33 ≤ c ∧ c ≤ 47)) ∧ (6 ≤ k → ¬ (58 ≤ c ∧ c ≤ 64)) ∧ (7 ≤ k → ¬ (91 ≤ c ∧ c ≤ 96)) ∧ (8 ≤ k → ¬ (123 ≤ c ∧ c ≤ 126))
theorem Tryz.ixL0 (w : World) : (Instr.index 124 (.agg lettersL.toArray) (.int .i64 0)).run Tryz.prog w = .ok (.agg #[.int .u8 97, .int .u8 122, .int .i64 1]) w := by kernel_rfl
theorem Tryz.ixL1 (w : World) : (Instr.index 124 (.agg lettersL.toArray) (.int .i64 1)).run Tryz.prog w = .ok (.agg #[.int .u8 65, .int .u8 90, .int .i64 2]) w := by kernel_rfl
theorem Tryz.ixL2 (w : World) : (Instr.index 124 (.agg lettersL.toArray) (.int .i64 2)).run Tryz.prog w = .ok (.agg #[.int .u8 48, .int .u8 57, .int .i64 3]) w := by kernel_rfl
theorem Tryz.ixO0 (w : World) : (Instr.index 125 (.agg othersL.toArray) (.int .i64 0)).run Tryz.prog w = .ok (.agg #[.int .u8 32, .int .u8 32, .int .i64 4]) w := by kernel_rfl
theorem Tryz.ixO1 (w : World) : (Instr.index 125 (.agg othersL.toArray) (.int .i64 1)).run Tryz.prog w = .ok (.agg #[.int .u8 9, .int .u8 9, .int .i64 4]) w := by kernel_rfl
theorem Tryz.ixO2 (w : World) : (Instr.index 125 (.agg othersL.toArray) (.int .i64 2)).run Tryz.prog w = .ok (.agg #[.int .u8 10, .int .u8 10, .int .i64 6]) w := by kernel_rfl
theorem Tryz.ixO3 (w : World) : (Instr.index 125 (.agg othersL.toArray) (.int .i64 3)).run Tryz.prog w = .ok (.agg #[.int .u8 13, .int .u8 13, .int .i64 6]) w := by kernel_rfl
theorem Tryz.ixO4 (w : World) : (Instr.index 125 (.agg othersL.toArray) (.int .i64 4)).run Tryz.prog w = .ok (.agg #[.int .u8 33, .int .u8 47, .int .i64 5]) w := by kernel_rfl
theorem Tryz.ixO5 (w : World) : (Instr.index 125 (.agg othersL.toArray) (.int .i64 5)).run Tryz.prog w = .ok (.agg #[.int .u8 58, .int .u8 64, .int .i64 5]) w := by kernel_rfl
theorem Tryz.ixO6 (w : World) : (Instr.index 125 (.agg othersL.toArray) (.int .i64 6)).run Tryz.prog w = .ok (.agg #[.int .u8 91, .int .u8 96, .int .i64 5]) w := by kernel_rfl
theorem Tryz.ixO7 (w : World) : (Instr.index 125 (.agg othersL.toArray) (.int .i64 7)).run Tryz.prog w = .ok (.agg #[.int .u8 123, .int .u8 126, .int .i64 5]) w := by kernel_rfl

set_option maxHeartbeats 4000000 in
theorem class_any (c : Int) (hc0 : 0 ≤ c) (hc1 : c ≤ 255) (w : World) (hG : Glo w) :
    Calls Tryz.prog 77 #[.int .u8 c] w fun e w' => e = .returned (.int .i64 (cls c)) ∧ Below w.heap.size w w' := by
  have hl := hG.letters
  have hO := Lib.hid (fun W (hb : Below w.heap.size w W) => (hG.below hb (Nat.le_refl _)).others)
  clear hG
  go_enter Tryz.func77, Tryz.ntmps77
  go_wp2_with (with_reducible refine wpList_load_mid rfl 124 _ rfl 0 0 rfl _ _ hl Tryz.underlying124 rfl Tryz.infoL ?_)
  clear hl
  go_loopw [8] (fun i wr => ∃ k : Nat, k ≤ 3 ∧ i = .int .i64 k ∧ OutL k c ∧ Below w.heap.size w wr) (fun i _ => 3 - (intOf i).toNat)
  case atStart => exact ⟨0, by omega, rfl, by unfold OutL; omega, Below.refl _ _⟩
  case round =>
    obtain ⟨k, hk, rfl, hout, hb⟩ := hrel
    have Hout := Lib.hid hout
    have Hb := Lib.hid hb
    have hsz := hb.size
    clear hout hb
    rcases (show k = 0 ∨ k = 1 ∨ k = 2 ∨ k = 3 by omega) with rfl | rfl | rfl | rfl
    · have hix := Tryz.ixL0
      by_cases hin : 97 ≤ c ∧ c ≤ 122
      · obtain ⟨a, b⟩ := hin
        go_wp2
        go_ret
        exact ⟨ret_int (by have := Hout.out; unfold OutL at this; unfold cls; repeat (first | rfl | rw [if_pos (by omega)] | rw [if_neg (by omega)])), Hb.out.alloc (by omega) _⟩
      · have Hnin := Lib.hid hin
        rcases (show c < 97 ∨ 122 < c by omega) with h | h
        all_goals
          clear hin
          go_wp2
          go_roundw
          case rel => exact ⟨1, by omega, by go_num, by have := Hout.out; have := Hnin.out; unfold OutL at *; omega, Hb.out.alloc (by omega) _⟩
          case measure => simp [intOf]
    · have hix := Tryz.ixL1
      by_cases hin : 65 ≤ c ∧ c ≤ 90
      · obtain ⟨a, b⟩ := hin
        go_wp2
        go_ret
        exact ⟨ret_int (by have := Hout.out; unfold OutL at this; unfold cls; repeat (first | rfl | rw [if_pos (by omega)] | rw [if_neg (by omega)])), Hb.out.alloc (by omega) _⟩
      · have Hnin := Lib.hid hin
        rcases (show c < 65 ∨ 90 < c by omega) with h | h
        all_goals
          clear hin
          go_wp2
          go_roundw
          case rel => exact ⟨2, by omega, by go_num, by have := Hout.out; have := Hnin.out; unfold OutL at *; omega, Hb.out.alloc (by omega) _⟩
          case measure => simp [intOf]
    · have hix := Tryz.ixL2
      by_cases hin : 48 ≤ c ∧ c ≤ 57
      · obtain ⟨a, b⟩ := hin
        go_wp2
        go_ret
        exact ⟨ret_int (by have := Hout.out; unfold OutL at this; unfold cls; repeat (first | rfl | rw [if_pos (by omega)] | rw [if_neg (by omega)])), Hb.out.alloc (by omega) _⟩
      · have Hnin := Lib.hid hin
        rcases (show c < 48 ∨ 57 < c by omega) with h | h
        all_goals
          clear hin
          go_wp2
          go_roundw
          case rel => exact ⟨3, by omega, by go_num, by have := Hout.out; have := Hnin.out; unfold OutL at *; omega, Hb.out.alloc (by omega) _⟩
          case measure => simp [intOf]
    · have ho := hO.out wr Hb.out
      go_wp2_with (with_reducible refine wpList_load_mid rfl 125 _ rfl 1 0 rfl _ _ ho Tryz.underlying125 rfl Tryz.infoO ?_)
      clear ho
      obtain ⟨wo, rfl⟩ : ∃ wo : World, wo = wr := ⟨_, rfl⟩
      go_loopw [25] (fun i wr => ∃ k : Nat, k ≤ 8 ∧ i = .int .i64 k ∧ OutO k c ∧ Below w.heap.size w wr) (fun i _ => 8 - (intOf i).toNat)
      case atStart => exact ⟨0, by omega, rfl, by unfold OutO; omega, Hb.out⟩
      case round =>
        obtain ⟨k, hk, rfl, hout, hb⟩ := hrel
        have Hout2 := Lib.hid hout
        have Hb2 := Lib.hid hb
        have hsz2 := hb.size
        clear hout hb
        rcases (show k = 0 ∨ k = 1 ∨ k = 2 ∨ k = 3 ∨ k = 4 ∨ k = 5 ∨ k = 6 ∨ k = 7 ∨ k = 8 by omega) with rfl | rfl | rfl | rfl | rfl | rfl | rfl | rfl | rfl
        · have hix := Tryz.ixO0
          by_cases hin : 32 ≤ c ∧ c ≤ 32
          · obtain ⟨a, b⟩ := hin
            go_wp2
            go_ret
            exact ⟨ret_int (by have := Hout.out; have := Hout2.out; unfold OutL at *; unfold OutO at *; unfold cls; repeat (first | rfl | rw [if_pos (by omega)] | rw [if_neg (by omega)])), Hb2.out.alloc (by omega) _⟩
          · have Hnin := Lib.hid hin
            rcases (show c < 32 ∨ 32 < c by omega) with h | h
            all_goals
              clear hin
              go_wp2
              go_roundw
              case rel => exact ⟨1, by omega, by go_num, by have := Hout2.out; have := Hnin.out; unfold OutO at *; omega, Hb2.out.alloc (by omega) _⟩
              case measure => simp [intOf]
        · have hix := Tryz.ixO1
          by_cases hin : 9 ≤ c ∧ c ≤ 9
          · obtain ⟨a, b⟩ := hin
            go_wp2
            go_ret
            exact ⟨ret_int (by have := Hout.out; have := Hout2.out; unfold OutL at *; unfold OutO at *; unfold cls; repeat (first | rfl | rw [if_pos (by omega)] | rw [if_neg (by omega)])), Hb2.out.alloc (by omega) _⟩
          · have Hnin := Lib.hid hin
            rcases (show c < 9 ∨ 9 < c by omega) with h | h
            all_goals
              clear hin
              go_wp2
              go_roundw
              case rel => exact ⟨2, by omega, by go_num, by have := Hout2.out; have := Hnin.out; unfold OutO at *; omega, Hb2.out.alloc (by omega) _⟩
              case measure => simp [intOf]
        · have hix := Tryz.ixO2
          by_cases hin : 10 ≤ c ∧ c ≤ 10
          · obtain ⟨a, b⟩ := hin
            go_wp2
            go_ret
            exact ⟨ret_int (by have := Hout.out; have := Hout2.out; unfold OutL at *; unfold OutO at *; unfold cls; repeat (first | rfl | rw [if_pos (by omega)] | rw [if_neg (by omega)])), Hb2.out.alloc (by omega) _⟩
          · have Hnin := Lib.hid hin
            rcases (show c < 10 ∨ 10 < c by omega) with h | h
            all_goals
              clear hin
              go_wp2
              go_roundw
              case rel => exact ⟨3, by omega, by go_num, by have := Hout2.out; have := Hnin.out; unfold OutO at *; omega, Hb2.out.alloc (by omega) _⟩
              case measure => simp [intOf]
        · have hix := Tryz.ixO3
          by_cases hin : 13 ≤ c ∧ c ≤ 13
          · obtain ⟨a, b⟩ := hin
            go_wp2
            go_ret
            exact ⟨ret_int (by have := Hout.out; have := Hout2.out; unfold OutL at *; unfold OutO at *; unfold cls; repeat (first | rfl | rw [if_pos (by omega)] | rw [if_neg (by omega)])), Hb2.out.alloc (by omega) _⟩
          · have Hnin := Lib.hid hin
            rcases (show c < 13 ∨ 13 < c by omega) with h | h
            all_goals
              clear hin
              go_wp2
              go_roundw
              case rel => exact ⟨4, by omega, by go_num, by have := Hout2.out; have := Hnin.out; unfold OutO at *; omega, Hb2.out.alloc (by omega) _⟩
              case measure => simp [intOf]
        · have hix := Tryz.ixO4
          by_cases hin : 33 ≤ c ∧ c ≤ 47
          · obtain ⟨a, b⟩ := hin
            go_wp2
            go_ret
            exact ⟨ret_int (by have := Hout.out; have := Hout2.out; unfold OutL at *; unfold OutO at *; unfold cls; repeat (first | rfl | rw [if_pos (by omega)] | rw [if_neg (by omega)])), Hb2.out.alloc (by omega) _⟩
          · have Hnin := Lib.hid hin
            rcases (show c < 33 ∨ 47 < c by omega) with h | h
            all_goals
              clear hin
              go_wp2
              go_roundw
              case rel => exact ⟨5, by omega, by go_num, by have := Hout2.out; have := Hnin.out; unfold OutO at *; omega, Hb2.out.alloc (by omega) _⟩
              case measure => simp [intOf]
        · have hix := Tryz.ixO5
          by_cases hin : 58 ≤ c ∧ c ≤ 64
          · obtain ⟨a, b⟩ := hin
            go_wp2
            go_ret
            exact ⟨ret_int (by have := Hout.out; have := Hout2.out; unfold OutL at *; unfold OutO at *; unfold cls; repeat (first | rfl | rw [if_pos (by omega)] | rw [if_neg (by omega)])), Hb2.out.alloc (by omega) _⟩
          · have Hnin := Lib.hid hin
            rcases (show c < 58 ∨ 64 < c by omega) with h | h
            all_goals
              clear hin
              go_wp2
              go_roundw
              case rel => exact ⟨6, by omega, by go_num, by have := Hout2.out; have := Hnin.out; unfold OutO at *; omega, Hb2.out.alloc (by omega) _⟩
              case measure => simp [intOf]
        · have hix := Tryz.ixO6
          by_cases hin : 91 ≤ c ∧ c ≤ 96
          · obtain ⟨a, b⟩ := hin
            go_wp2
            go_ret
            exact ⟨ret_int (by have := Hout.out; have := Hout2.out; unfold OutL at *; unfold OutO at *; unfold cls; repeat (first | rfl | rw [if_pos (by omega)] | rw [if_neg (by omega)])), Hb2.out.alloc (by omega) _⟩
          · have Hnin := Lib.hid hin
            rcases (show c < 91 ∨ 96 < c by omega) with h | h
            all_goals
              clear hin
              go_wp2
              go_roundw
              case rel => exact ⟨7, by omega, by go_num, by have := Hout2.out; have := Hnin.out; unfold OutO at *; omega, Hb2.out.alloc (by omega) _⟩
              case measure => simp [intOf]
        · have hix := Tryz.ixO7
          by_cases hin : 123 ≤ c ∧ c ≤ 126
          · obtain ⟨a, b⟩ := hin
            go_wp2
            go_ret
            exact ⟨ret_int (by have := Hout.out; have := Hout2.out; unfold OutL at *; unfold OutO at *; unfold cls; repeat (first | rfl | rw [if_pos (by omega)] | rw [if_neg (by omega)])), Hb2.out.alloc (by omega) _⟩
          · have Hnin := Lib.hid hin
            rcases (show c < 123 ∨ 126 < c by omega) with h | h
            all_goals
              clear hin
              go_wp2
              go_roundw
              case rel => exact ⟨8, by omega, by go_num, by have := Hout2.out; have := Hnin.out; unfold OutO at *; omega, Hb2.out.alloc (by omega) _⟩
              case measure => simp [intOf]
        · go_wp2
          go_ret
          exact ⟨ret_int (by have := Hout.out; have := Hout2.out; unfold OutL at *; unfold OutO at *; unfold cls; repeat (first | rfl | rw [if_pos (by omega)] | rw [if_neg (by omega)])), Hb2.out⟩
end Go.Proofs.YtpfhhaonfbfheaaGreatDoor.gl
