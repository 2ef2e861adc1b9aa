/- glyph.Class, glyph.Count and the reference's Class and Count return one function of numbers. Conditions: the two tables hold what the program's text lays. -/
import Derived.Test.YtpfhhaonfbfheaaGreatDoorGlA
namespace Go.Proofs.YtpfhhaonfbfheaaGreatDoor.gl
open Go.ChangeShapes Go.WideShapes Go.ChangeAt Go.RowKit

theorem refClass_any (b : Int) (w : World) :
    Calls Tryz.prog 110 #[.int .i64 b] w fun e w' => e = .returned (.int .i64 (cls b)) ∧ w = w' := by
  rcases (show b < 9 ∨ b = 9 ∨ b = 10 ∨ (11 ≤ b ∧ b ≤ 12) ∨ b = 13 ∨ (14 ≤ b ∧ b ≤ 31) ∨ b = 32 ∨ (33 ≤ b ∧ b ≤ 47) ∨ (48 ≤ b ∧ b ≤ 57) ∨ (58 ≤ b ∧ b ≤ 64) ∨ (65 ≤ b ∧ b ≤ 90) ∨ (91 ≤ b ∧ b ≤ 96) ∨ (97 ≤ b ∧ b ≤ 122) ∨ (123 ≤ b ∧ b ≤ 126) ∨ 127 ≤ b by omega) with h | rfl | rfl | ⟨h, h'⟩ | rfl | ⟨h, h'⟩ | rfl | ⟨h, h'⟩ | ⟨h, h'⟩ | ⟨h, h'⟩ | ⟨h, h'⟩ | ⟨h, h'⟩ | ⟨h, h'⟩ | ⟨h, h'⟩ | h
  all_goals
    first
      | (have q1 : (b == 32) = false := by simp only [beq_eq_false_iff_ne]; omega
         have q2 : (b == 9) = false := by simp only [beq_eq_false_iff_ne]; omega
         have q3 : (b == 10) = false := by simp only [beq_eq_false_iff_ne]; omega
         have q4 : (b == 13) = false := by simp only [beq_eq_false_iff_ne]; omega)
      | skip
    go_enter Tryz.func110, Tryz.ntmps110
    go_wp2
    go_ret
    exact ⟨ret_int (by unfold cls; repeat (first | rfl | rw [if_pos (by omega)] | rw [if_neg (by omega)])), rfl⟩

theorem cls_low (b : Int) (h : b < 0) : cls b = 0 := by unfold cls; repeat (first | rfl | rw [if_pos (by omega)] | rw [if_neg (by omega)])
theorem cls_high (b : Int) (h : 127 ≤ b) : cls b = 0 := by unfold cls; repeat (first | rfl | rw [if_pos (by omega)] | rw [if_neg (by omega)])

/-- How many of the numbers below k are of a class. -/
def cnt (of : Int) : Nat → Nat
  | 0 => 0
  | k + 1 => if cls k = of then cnt of k + 1 else cnt of k
theorem cnt_le (of : Int) (k : Nat) : cnt of k ≤ k := by
  induction k with
  | zero => exact Nat.le_refl _
  | succ k ih => unfold cnt; split <;> omega

end Go.Proofs.YtpfhhaonfbfheaaGreatDoor.gl
