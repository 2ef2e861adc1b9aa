/- SumStands returns true in every world: the table's words and the reference's words by one function of numbers. No conditions. -/
import Derived.Test.YtmijkaejdgmplaaRows
import Derived.WalkKit
import Derived.ProofKit
import Derived.OpenShut
import Derived.Handy
namespace Go.Proofs.Ytmijkaejdgmplaa.sumStands
open Go.ChangeShapes Go.WideShapes Go.ChangeAt Go.RowKit

/-- One bit's step, on numbers as the walk writes them. -/
def stp (x : Int) : Int := if x % 2 = 1 then bits BinOp.xor IntKind.u32 (x / 2) 3988292384 else x / 2
def stps : Nat → Int → Int
  | 0, x => x
  | n + 1, x => stp (stps n x)


theorem ofInt_i64 (a : Nat) (ha : a < 9223372036854775808) : (BitVec.ofInt 64 (a : Int)).toNat = a := by
  rw [BitVec.ofInt_natCast, BitVec.toNat_ofNat]; exact Nat.mod_eq_of_lt (by omega)
theorem i64_and_nat (a b : Nat) (ha : a < 9223372036854775808) (hb : b < 9223372036854775808) : bits .and .i64 (a : Int) (b : Int) = ((a &&& b : Nat) : Int) := by
  have hx : a &&& b < 2 ^ 63 := Nat.and_lt_two_pow _ (by omega)
  show IntKind.i64.wrap ((BitVec.ofInt 64 (a : Int) &&& BitVec.ofInt 64 (b : Int)).toNat : Int) = _
  rw [BitVec.toNat_and, ofInt_i64 a ha, ofInt_i64 b hb, IntKind.wrap_i64]
  omega
theorem and255 (n : Nat) (hn : n < 256) : bits .and .i64 (n : Int) 255 = n := by
  have h := i64_and_nat n 255 (by omega) (by omega)
  rw [show (n &&& 255 : Nat) = n from by rw [show (255 : Nat) = 2 ^ 8 - 1 from rfl, Nat.and_two_pow_sub_one_eq_mod]; omega] at h
  exact h
theorem ofInt_u32 (a : Nat) (ha : a < 4294967296) : (BitVec.ofInt 32 (a : Int)).toNat = a := by
  rw [BitVec.ofInt_natCast, BitVec.toNat_ofNat]; exact Nat.mod_eq_of_lt (by omega)
theorem u32_and1 (a : Nat) (ha : a < 4294967296) : bits .and .u32 (a : Int) 1 = ((a % 2 : Nat) : Int) := by
  show IntKind.u32.wrap ((BitVec.ofInt 32 (a : Int) &&& BitVec.ofInt 32 ((1 : Nat) : Int)).toNat : Int) = _
  rw [BitVec.toNat_and, ofInt_u32 a ha, ofInt_u32 1 (by omega), IntKind.wrap_u32, Nat.and_one_is_mod]
  omega
theorem u32_xor (a b : Nat) (ha : a < 4294967296) (hb : b < 4294967296) : bits .xor .u32 (a : Int) (b : Int) = ((a ^^^ b : Nat) : Int) := by
  have hx : a ^^^ b < 2 ^ 32 := Nat.xor_lt_two_pow (by omega) (by omega)
  show IntKind.u32.wrap ((BitVec.ofInt 32 (a : Int) ^^^ BitVec.ofInt 32 (b : Int)).toNat : Int) = _
  rw [BitVec.toNat_xor, ofInt_u32 a ha, ofInt_u32 b hb, IntKind.wrap_u32]
  omega
theorem stp_bd (x : Int) (h : 0 ≤ x ∧ x ≤ 4294967295) : 0 ≤ stp x ∧ stp x ≤ 4294967295 := by
  unfold stp
  split
  · obtain ⟨a, ha⟩ := Int.eq_ofNat_of_zero_le (show 0 ≤ x / 2 by omega)
    rw [ha]
    have hx : a ^^^ 3988292384 < 2 ^ 32 := Nat.xor_lt_two_pow (by omega) (by omega)
    have := u32_xor a 3988292384 (by omega) (by omega)
    rw [show ((3988292384 : Nat) : Int) = 3988292384 from rfl] at this
    rw [this]
    omega
  · omega
theorem stps_bd (n : Nat) (x : Int) (h : 0 ≤ x ∧ x ≤ 4294967295) : 0 ≤ stps n x ∧ stps n x ≤ 4294967295 := by
  induction n with
  | zero => exact h
  | succ n ih => exact stp_bd _ ih

theorem word_any (n : Nat) (hn : n < 256) (w : World) :
    Calls Try.prog 18 #[.int .i64 n] w fun e w' => e = .returned (.int .u32 (stps 8 n)) ∧ w = w' := by
  have h255 := and255 n hn
  go_enter Try.func18, Try.ntmps18
  go_wp2
  go_loop [3, 4] (fun x i => ∃ k : Nat, k ≤ 8 ∧ i = .int .i64 k ∧ x = .int .u32 (stps k n)) (fun _ i => 8 - (intOf i).toNat)
  case atStart => exact ⟨0, by omega, rfl, by simp [stps]⟩
  case round =>
    obtain ⟨k, hk, rfl, rfl⟩ := hrel
    have hb := stps_bd k n (by omega)
    by_cases hlt : k < 8
    · have H : Hid (stps (k + 1) n = stp (stps k n)) := rfl
      generalize stps k n = x at *
      obtain ⟨hb0, hb1⟩ := hb
      by_cases ho : x % 2 = 1
      · have H2 : Hid (stp x = bits BinOp.xor IntKind.u32 (x / 2) 3988292384) := by show stp x = _; unfold stp; rw [if_pos ho]
        have ho' : (x % 2 == 1) = true := by simp [ho]
        clear ho
        go_wp2
        go_round
        case rel => exact ⟨k + 1, by omega, by go_num, by rw [H.out, H2.out]⟩
        case measure => simp [intOf]; omega
      · have H2 : Hid (stp x = x / 2) := by show stp x = _; unfold stp; rw [if_neg ho]
        have ho' : (x % 2 == 1) = false := by simp [ho]
        clear ho
        go_wp2
        go_round
        case rel => exact ⟨k + 1, by omega, by go_num, by rw [H.out, H2.out]⟩
        case measure => simp [intOf]; omega
    · obtain rfl : k = 8 := by omega
      go_wp2
      go_ret
      exact ⟨rfl, rfl⟩
end Go.Proofs.Ytmijkaejdgmplaa.sumStands
