/- glyph.Class, glyph.Count and the reference's Class and Count return one function of numbers. Conditions: the two tables hold what the program's text lays. -/
import Derived.Test.YtmijkaejdgmplaaDoorGlA
namespace Go.Proofs.YtmijkaejdgmplaaDoor.gl
open Go.ChangeShapes Go.WideShapes Go.ChangeAt Go.RowKit

theorem refClass_any (b : Int) (w : World) :
    Calls Tryd.prog 32 #[.int .i64 b] w fun e w' => e = .returned (.int .i64 (cls b)) ∧ w = w' := by
  rcases (show b < 9 ∨ b = 9 ∨ b = 10 ∨ (11 ≤ b ∧ b ≤ 12) ∨ b = 13 ∨ (14 ≤ b ∧ b ≤ 31) ∨ b = 32 ∨ (33 ≤ b ∧ b ≤ 47) ∨ (48 ≤ b ∧ b ≤ 57) ∨ (58 ≤ b ∧ b ≤ 64) ∨ (65 ≤ b ∧ b ≤ 90) ∨ (91 ≤ b ∧ b ≤ 96) ∨ (97 ≤ b ∧ b ≤ 122) ∨ (123 ≤ b ∧ b ≤ 126) ∨ 127 ≤ b by omega) with h | rfl | rfl | ⟨h, h'⟩ | rfl | ⟨h, h'⟩ | rfl | ⟨h, h'⟩ | ⟨h, h'⟩ | ⟨h, h'⟩ | ⟨h, h'⟩ | ⟨h, h'⟩ | ⟨h, h'⟩ | ⟨h, h'⟩ | h
  all_goals
    first
      | (have q1 : (b == 32) = false := by simp only [beq_eq_false_iff_ne]; omega
         have q2 : (b == 9) = false := by simp only [beq_eq_false_iff_ne]; omega
         have q3 : (b == 10) = false := by simp only [beq_eq_false_iff_ne]; omega
         have q4 : (b == 13) = false := by simp only [beq_eq_false_iff_ne]; omega)
      | skip
    go_enter Tryd.func32, Tryd.ntmps32
    go_wp2
    go_ret
    exact ⟨ret_int (by unfold cls; repeat (first | rfl | rw [if_pos (by omega)] | rw [if_neg (by omega)])), rfl⟩

theorem cls_low (b : Int) (h : b < 0) : cls b = 0 := by unfold cls; repeat (first | rfl | rw [if_pos (by omega)] | rw [if_neg (by omega)])
theorem cls_high (b : Int) (h : 127 ≤ b) : cls b = 0 := by unfold cls; repeat (first | rfl | rw [if_pos (by omega)] | rw [if_neg (by omega)])

theorem Class_any (b : Int) (w : World) (hG : Glo w) :
    Calls Tryd.prog 31 #[.int .i64 b] w fun e w' => e = .returned (.int .i64 (cls b)) ∧ Below w.heap.size w w' := by
  rcases (show b < 0 ∨ 256 ≤ b ∨ (0 ≤ b ∧ b ≤ 255) by omega) with h | h | ⟨h, h'⟩
  · go_enter Tryd.func31, Tryd.ntmps31
    go_wp2_with fail
    go_ret
    exact ⟨ret_int (cls_low b h), Below.refl _ _⟩
  · go_enter Tryd.func31, Tryd.ntmps31
    go_wp2_with fail
    go_ret
    exact ⟨ret_int (cls_high b (by omega)), Below.refl _ _⟩
  · go_enter Tryd.func31, Tryd.ntmps31
    go_wp2_with fail
    refine (class_any b h h' _ hG).mono ?_
    rintro e w1 ⟨rfl, hb⟩
    go_wp2_with fail
    go_ret
    exact ⟨rfl, hb⟩

/-- How many of the numbers below k are of a class. -/
def cnt (of : Int) : Nat → Nat
  | 0 => 0
  | k + 1 => if cls k = of then cnt of k + 1 else cnt of k
theorem cnt_le (of : Int) (k : Nat) : cnt of k ≤ k := by
  induction k with
  | zero => exact Nat.le_refl _
  | succ k ih => unfold cnt; split <;> omega

set_option maxRecDepth 100000 in
theorem Count_any (of : Int) (w : World) (hG : Glo w) :
    Calls Tryd.prog 33 #[.int .i64 of] w fun e w' => e = .returned (.int .i64 (cnt of 256)) ∧ Below w.heap.size w w' := by
  go_enter Tryd.func33, Tryd.ntmps33
  go_wp2_with fail
  go_loopw [3, 5] (fun n i wr => ∃ k : Nat, k ≤ 256 ∧ i = .int .i64 k ∧ n = .int .i64 (cnt of k) ∧ Below w.heap.size w wr) (fun _ i _ => 256 - (intOf i).toNat)
  case atStart => exact ⟨0, by omega, rfl, rfl, Below.refl _ _⟩
  case round =>
    obtain ⟨k, hk, rfl, rfl, hb⟩ := hrel
    have hle := cnt_le of k
    by_cases hlt : k < 256
    · have H : Hid (cnt of (k + 1) = if cls k = of then cnt of k + 1 else cnt of k) := rfl
      generalize cnt of k = m at *
      by_cases hc : cls k = of
      · have hc' : (cls k == of) = true := by simp [hc]
        have Hc := Lib.hid hc
        clear hc
        go_wp2_with fail
        refine (Class_any k _ (hG.below hb (Nat.le_refl _))).mono ?_
        rintro e w1 ⟨rfl, hb1⟩
        go_wp2_with fail
        go_roundw
        case rel => exact ⟨k + 1, by omega, by go_num, by rw [H.out, if_pos Hc.out]; go_num, hb.trans (hb1.mono hb.size)⟩
        case measure => simp [intOf]; omega
      · have hc' : (cls k == of) = false := by simp [hc]
        have Hc := Lib.hid hc
        clear hc
        go_wp2_with fail
        refine (Class_any k _ (hG.below hb (Nat.le_refl _))).mono ?_
        rintro e w1 ⟨rfl, hb1⟩
        go_wp2_with fail
        go_roundw
        case rel => exact ⟨k + 1, by omega, by go_num, by rw [H.out, if_neg Hc.out], hb.trans (hb1.mono hb.size)⟩
        case measure => simp [intOf]; omega
    · obtain rfl : k = 256 := by omega
      go_wp2_with fail
      go_ret
      exact ⟨rfl, hb⟩

set_option maxRecDepth 100000 in
theorem refCount_any (of : Int) (w : World) :
    Calls Tryd.prog 34 #[.int .i64 of] w fun e w' => e = .returned (.int .i64 (cnt of 256)) ∧ w = w' := by
  go_enter Tryd.func34, Tryd.ntmps34
  go_wp2_with fail
  go_loop [3, 4] (fun n i => ∃ k : Nat, k ≤ 256 ∧ i = .int .i64 k ∧ n = .int .i64 (cnt of k)) (fun _ i => 256 - (intOf i).toNat)
  case atStart => exact ⟨0, by omega, rfl, rfl⟩
  case round =>
    obtain ⟨k, hk, rfl, rfl⟩ := hrel
    have hle := cnt_le of k
    by_cases hlt : k < 256
    · have H : Hid (cnt of (k + 1) = if cls k = of then cnt of k + 1 else cnt of k) := rfl
      generalize cnt of k = m at *
      by_cases hc : cls k = of
      · have hc' : (cls k == of) = true := by simp [hc]
        have Hc := Lib.hid hc
        clear hc
        go_wp2_with fail
        refine (refClass_any k _).mono ?_
        rintro e w1 ⟨rfl, rfl⟩
        go_wp2_with fail
        go_round
        case rel => exact ⟨k + 1, by omega, by go_num, by rw [H.out, if_pos Hc.out]; go_num⟩
        case measure => simp [intOf]; omega
      · have hc' : (cls k == of) = false := by simp [hc]
        have Hc := Lib.hid hc
        clear hc
        go_wp2_with fail
        refine (refClass_any k _).mono ?_
        rintro e w1 ⟨rfl, rfl⟩
        go_wp2_with fail
        go_round
        case rel => exact ⟨k + 1, by omega, by go_num, by rw [H.out, if_neg Hc.out]⟩
        case measure => simp [intOf]; omega
    · obtain rfl : k = 256 := by omega
      go_wp2_with fail
      go_ret
      exact ⟨rfl, rfl⟩
end Go.Proofs.YtmijkaejdgmplaaDoor.gl
