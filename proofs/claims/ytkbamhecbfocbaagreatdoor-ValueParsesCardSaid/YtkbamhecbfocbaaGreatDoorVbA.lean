/- The reference's digits, greatest and Print return the plain functions. Conditions: the value's words lie in memory; it is no greater than 2147483647 bytes and words. -/
import Derived.Test.YtkbamhecbfocbaaGreatDoorVaR
import Derived.Deep.QuietTactic
import Derived.Laws.Concat
namespace Go.Proofs.YtkbamhecbfocbaaGreatDoor.va
open Go.ChangeShapes Go.WideShapes Go.ChangeAt Go.RowKit gl

def ten : ByteArray := ⟨#[48, 49, 50, 51, 52, 53, 54, 55, 56, 57]⟩
theorem ten_at (d : Nat) (h : d < 10) : ten.extract d (d + 1) = B [UInt8.ofNat (48 + d)] := by
  rcases (show d = 0 ∨ d = 1 ∨ d = 2 ∨ d = 3 ∨ d = 4 ∨ d = 5 ∨ d = 6 ∨ d = 7 ∨ d = 8 ∨ d = 9 by omega) with rfl | rfl | rfl | rfl | rfl | rfl | rfl | rfl | rfl | rfl <;> decide +kernel
theorem ten_slice (d : Nat) (h : d < 10) (w : World) : (Instr.slice 9 (.string ⟨#[48, 49, 50, 51, 52, 53, 54, 55, 56, 57]⟩) (some (.int .i64 (d : Int))) (some (.int .i64 ((d : Int) + 1))) none).run Tryz.prog w = .ok (.string (B [UInt8.ofNat (48 + d)])) w := by
  have := run_slice_string (P := Tryz.prog) (w := w) 9 ten .i64 .i64 (d : Int) ((d : Int) + 1) Tryz.underlying9 (by omega) (by omega) (by show (d : Int) + 1 ≤ 10; omega)
  rw [show ((d : Int)).toNat = d by omega, show ((d : Int) + 1).toNat = d + 1 by omega, ten_at d h] at this
  exact this

set_option maxHeartbeats 1000000 in
set_option maxRecDepth 100000 in
theorem digitsN (u : Nat) : ∀ w : World, u ≤ 9223372036854775807 → Calls Tryz.prog 42 #[.int .i64 (u : Int)] w fun e w' => e = .returned (.string (B (Lib.decDigits u))) ∧ ∃ q, w' = w.drewN q := by
  induction u using Nat.strongRecOn with
  | _ u ih =>
    intro w hu
    by_cases h : u < 10
    · have hs := ten_slice u h
      rw [decDigits_lt h]
      generalize B [UInt8.ofNat (48 + u)] = D at *
      clear ih
      go_enter Tryz.func42, Tryz.ntmps42
      go_wp2_with fail
      go_ret
      exact ⟨rfl, 0, rfl⟩
    · have ihq := fun w => ih (u / 10) (by omega) w (by omega)
      have hq : (u : Int).tdiv 10 = ((u / 10 : Nat) : Int) := by rw [tdiv_ediv (by omega)]; omega
      have hr : (u : Int).tmod 10 = ((u % 10 : Nat) : Int) := by rw [Int.tmod_eq_emod_of_nonneg (by omega)]; omega
      have hs := ten_slice (u % 10) (by omega)
      have hlen := len_dec 18 (u / 10) (by omega)
      have hout : B (Lib.decDigits (u / 10)) ++ B [UInt8.ofNat (48 + u % 10)] = B (Lib.decDigits u) := by rw [decDigits_ge h]; exact ba_eq (by simp)
      have hadd : ∀ wx : World, (Op.stringOp .add (B (Lib.decDigits (u / 10))) (B [UInt8.ofNat (48 + u % 10)])).run Tryz.prog wx = .ok (.string (B (Lib.decDigits u))) wx := fun wx => by
        rw [← hout]
        refine run_string_add_sum wx _ _ ?_
        show (Lib.decDigits (u / 10)).toArray.size + 1 ≤ _
        simp
        omega
      have hb1 : ((u % 10 : Nat) : Int) ≤ 9 := by omega
      have hb2 : ((u / 10 : Nat) : Int) ≤ 922337203685477580 := by omega
      clear ih hlen hout
      generalize B (Lib.decDigits (u / 10)) = A1 at *
      generalize B (Lib.decDigits u) = A2 at *
      generalize B [UInt8.ofNat (48 + u % 10)] = D at *
      generalize u / 10 = q at *
      generalize u % 10 = r at *
      have hge : ¬ (u : Int) < 10 := by omega
      go_enter Tryz.func42, Tryz.ntmps42
      go_wp2_with fail
      go_quiet (first | (go_at_call 42; exact Calls.quiet_of (ihq _)))
      go_wp2_with fail
      go_ret
      exact ⟨rfl, nq, rfl⟩

theorem best_at {k n : Int} {j : Nat} (hj : j < 3) (hn : n ≠ 0) (hno : ∀ q, q < j → n % unit k (uname k (3 - q)) ≠ 0) (hyes : n % unit k (uname k (3 - j)) = 0) : best k n = 3 - j := by
  unfold best
  rw [if_neg hn]
  rcases (show j = 0 ∨ j = 1 ∨ j = 2 by omega) with rfl | rfl | rfl
  · rw [if_pos hyes]
  · rw [if_neg (hno 0 (by omega)), if_pos hyes]
  · rw [if_neg (hno 0 (by omega)), if_neg (hno 1 (by omega)), if_pos hyes]
theorem best_none {k n : Int} (hno : n = 0 ∨ ∀ q, q < 3 → n % unit k (uname k (3 - q)) ≠ 0) : best k n = 0 := by
  unfold best
  rcases hno with h | h
  · rw [if_pos h]
  · split
    · rfl
    · rw [if_neg (h 0 (by omega)), if_neg (h 1 (by omega)), if_neg (h 2 (by omega))]
theorem digits_any (n : Int) (h0 : 0 ≤ n) (h1 : n ≤ 9223372036854775807) (w : World) : Calls Tryz.prog 42 #[.int .i64 n] w fun e w' => e = .returned (.string (B (Lib.itoa n))) ∧ ∃ q, w' = w.drewN q := by
  obtain ⟨u, rfl⟩ := Int.eq_ofNat_of_zero_le h0
  have := digitsN u w (by omega)
  rw [itoa_pos (by omega)]
  exact this

set_option maxHeartbeats 1000000 in
set_option maxRecDepth 100000 in
theorem digitsZ (n : Int) (h0 : -4611686018427387904 ≤ n) (h1 : n ≤ 4611686018427387904) (w : World) : Calls Tryz.prog 42 #[.int .i64 n] w fun e w' => e = .returned (.string (B (Lib.itoa n))) ∧ ∃ q, w' = w.drewN q := by
  by_cases h : n < 0
  · have hd := fun w => digits_any (-n) (by omega) (by omega) w
    have hlen := itoa_len (n := -n) (by omega) (by omega)
    have hout : (⟨#[45]⟩ : ByteArray) ++ B (Lib.itoa (-n)) = B (Lib.itoa n) := by
      rw [itoa_neg h, itoa_pos (n := -n) (by omega), show (-n).toNat = n.natAbs by omega]
      exact ba_eq (by simp)
    have hadd : ∀ wx : World, (Op.stringOp .add ⟨#[45]⟩ (B (Lib.itoa (-n)))).run Tryz.prog wx = .ok (.string (B (Lib.itoa n))) wx := fun wx => by
      rw [← hout]
      refine run_string_add_sum wx _ _ ?_
      show 1 + (Lib.itoa (-n)).toArray.size ≤ _
      simp
      omega
    have hng : IntKind.i64.wrap (-n) = -n := by rw [IntKind.wrap_i64]; omega
    clear hlen hout
    generalize B (Lib.itoa (-n)) = A1 at *
    generalize B (Lib.itoa n) = A2 at *
    go_enter Tryz.func42, Tryz.ntmps42
    go_wp2_with fail
    refine (hd _).mono ?_
    rintro e w1 ⟨rfl, q, rfl⟩
    go_wp2_with fail
    go_ret
    exact ⟨rfl, q, rfl⟩
  · exact digits_any n (by omega) (by omega) w

set_option maxHeartbeats 1000000 in
set_option maxRecDepth 100000 in
theorem greatest_any (k n : Int) (hk : k = 3 ∨ k = 4) (h0 : 0 ≤ n) (h1 : n ≤ 1125899906842624) (us : ByteArray) (hus : us.size = 3) (hat : ∀ i, i < 3 → us.extract i (i + 1) = nm k (3 - i)) (w : World) :
    Calls Tryz.prog 43 #[.int .i64 k, .int .i64 n, .string us] w fun e w' => e = .returned (.string (B (Lib.itoa (n / unit k (uname k (best k n))) ++ uname k (best k n)))) ∧ ∃ q, w' = w.drewN q := by
  have Hat := Lib.hid hat
  have Hk := Lib.hid hk
  obtain ⟨X, hX⟩ : ∃ X, B (Lib.itoa (n / unit k (uname k (best k n))) ++ uname k (best k n)) = X := ⟨_, rfl⟩
  rw [hX]
  have HX := Lib.hid hX
  have hk4 : (k = 3 ∧ (k == 4) = false) ∨ (k = 4 ∧ (k == 4) = true) := by
    rcases hk with rfl | rfl
    · exact .inl ⟨rfl, rfl⟩
    · exact .inr ⟨rfl, rfl⟩
  have Hk4 := Lib.hid hk4
  clear hat hX hk hk4
  go_enter Tryz.func43, Tryz.ntmps43
  go_wp2_with fail
  go_loop [7] (fun i => ∃ j : Nat, j ≤ 3 ∧ i = .int .i64 j ∧ (∀ q, q < j → n % unit k (uname k (3 - q)) ≠ 0)) (fun i => 3 - (intOf i).toNat)
  case atStart => exact ⟨0, by omega, rfl, fun q h => by omega⟩
  case round =>
    obtain ⟨j, hj, rfl, hno⟩ := hrel
    have Hno := Lib.hid hno
    clear hno
    by_cases hgo : j < 3 ∧ 0 < n
    · obtain ⟨hlt, hpos⟩ := hgo
      have hs : ∀ wx : World, (Instr.slice 9 (.string us) (some (.int .i64 (j : Int))) (some (.int .i64 ((j : Int) + 1))) none).run Tryz.prog wx = .ok (.string (nm k (3 - j))) wx := fun wx => by
        have := run_slice_string (P := Tryz.prog) (w := wx) 9 us .i64 .i64 (j : Int) ((j : Int) + 1) Tryz.underlying9 (by omega) (by omega) (by omega)
        rw [show ((j : Int)).toNat = j by omega, show ((j : Int) + 1).toNat = j + 1 by omega, Hat.out j hlt] at this
        exact this
      have hU : ∀ W, Calls Tryz.prog 11 #[.int .i64 k, .string (nm k (3 - j))] W fun e w' => e = .returned (.int .i64 (unit k (uname k (3 - j)))) ∧ w' = W := fun W => (refUnit_any k (nm k (3 - j)) W).mono fun e w' ⟨he, hw⟩ => ⟨by rw [he], hw⟩
      have hu := unit_uname k (3 - j) Hk.out (by omega)
      have hub := (unit_nonneg k (uname k (3 - j))).2
      have hnl := uname_len k (3 - j)
      have hB : Hid (∀ r, n % unit k (uname k (3 - j)) = r → r = 0 → B (Lib.itoa (n / unit k (uname k (3 - j)))) ++ nm k (3 - j) = X) := Lib.hid (by
        rintro r hr rfl
        rw [← HX.out, best_at hlt (by omega) Hno.out hr]
        exact ba_eq (by simp))
      have hnx : Hid (∀ r, n % unit k (uname k (3 - j)) = r → r ≠ 0 → ∀ q, q < j + 1 → n % unit k (uname k (3 - q)) ≠ 0) := Lib.hid (by
        rintro r hr h q hq
        rcases Nat.lt_or_ge q j with h2 | h2
        · exact Hno.out q h2
        · obtain rfl : q = j := by omega
          rw [hr]
          exact h)
      have hnm : (nm k (3 - j)).size ≤ 1 := by show (uname k (3 - j)).toArray.size ≤ 1; simpa using hnl
      clear hnl
      generalize nm k (3 - j) = sj at *
      generalize unit k (uname k (3 - j)) = u at *
      have hu0 : ¬ u = 0 := by omega
      have htm : n.tmod u = n % u := Int.tmod_eq_emod_of_nonneg h0
      have htd : n.tdiv u = n / u := tdiv_ediv h0
      have hq0 : 0 ≤ n / u := Int.ediv_nonneg h0 (by omega)
      have hqn : n / u ≤ n := by
        have h2 := Int.mul_le_mul_of_nonneg_left (show (1 : Int) ≤ u by omega) hq0
        have h3 := Int.ediv_mul_le n (b := u) hu0
        omega
      have hr0 := Int.emod_nonneg n hu0
      have hru := Int.emod_lt_of_pos n (show 0 < u by omega)
      have HD := Lib.hid (fun W => digits_any (n / u) hq0 (by omega) W)
      have hlen := itoa_len (n := n / u) (by omega) (by omega)
      have HB2 := Lib.hid (hB.out _ rfl)
      have HN2 := Lib.hid (hnx.out _ rfl)
      have hwq : IntKind.i64.wrap (n / u) = n / u := by rw [IntKind.wrap_i64]; omega
      have hIs : (B (Lib.itoa (n / u))).size ≤ 20 := by show (Lib.itoa (n / u)).toArray.size ≤ _; simpa using hlen
      clear hB hnx hlen
      generalize B (Lib.itoa (n / u)) = I at *
      generalize n / u = q at *
      generalize n % u = r at *
      by_cases hr : r = 0
      · have hr' : (r == 0) = true := by simp [hr]
        have hadd : ∀ wx : World, (Op.stringOp .add I sj).run Tryz.prog wx = .ok (.string X) wx := fun wx => by
          rw [← HB2.out hr]
          exact run_string_add_sum wx _ _ (by omega)
        clear hr
        go_wp2_with fail
        refine (hU _).mono ?_
        rintro e w1 ⟨rfl, rfl⟩
        go_wp2_with fail
        go_quiet (first | (go_at_call 42; exact Calls.quiet_of (HD.out _)))
        go_wp2_with fail
        go_ret
        exact ⟨rfl, nq, rfl⟩
      · have hr' : (r == 0) = false := by simp [hr]
        have HN3 := Lib.hid (HN2.out hr)
        clear hr
        go_wp2_with fail
        refine (hU _).mono ?_
        rintro e w1 ⟨rfl, rfl⟩
        go_wp2_with fail
        go_round
        case rel => exact ⟨j + 1, by omega, by go_num, HN3.out⟩
        case measure => simp [intOf]; omega
    · have hbest : best k n = 0 := best_none (by
        by_cases h : n = 0
        · exact .inl h
        · exact .inr (fun q hq => Hno.out q (by omega)))
      have hX2 := HX.out
      rw [hbest] at hX2
      have HD := Lib.hid (fun W => digits_any n h0 (by omega) W)
      have hlen := itoa_len (n := n) (by omega) (by omega)
      have hIs : (B (Lib.itoa n)).size ≤ 20 := by show (Lib.itoa n).toArray.size ≤ _; simpa using hlen
      have htest : (decide ((j : Int) < 3) && decide (0 < n)) = false := by
        rw [← Bool.decide_and]
        exact decide_eq_false (fun h => hgo ⟨by omega, h.2⟩)
      have hcase : (decide ((j : Int) < 3) = false) ∨ (decide ((j : Int) < 3) = true ∧ decide (0 < n) = false) := by
        by_cases h : j < 3
        · exact .inr ⟨decide_eq_true (by omega), decide_eq_false (fun h2 => hgo ⟨h, h2⟩)⟩
        · exact .inl (decide_eq_false (by omega))
      rcases Hk4.out with ⟨rfl, k4⟩ | ⟨rfl, k4⟩
      · have hX3 : B (Lib.itoa n) = X := by
          rw [← hX2, show unit 3 (uname 3 0) = 1 from rfl, Int.ediv_one]
          exact ba_eq (by simp [uname])
        rw [hX3] at HD hIs
        have hjn : (¬ (j : Int) < 3) ∨ ((j : Int) < 3 ∧ ¬ 0 < n) := by
          by_cases h : j < 3
          · exact .inr ⟨by omega, fun h2 => hgo ⟨h, h2⟩⟩
          · exact .inl (by omega)
        clear hX2 hX3 hbest hlen hgo htest hcase
        rcases hjn with hj3 | ⟨hj3, hn3⟩
        all_goals
          go_wp2_with fail
          refine (HD.out _).mono ?_
          rintro e w1 ⟨rfl, q, rfl⟩
          go_wp2_with fail
          go_ret
          exact ⟨rfl, q, rfl⟩
      · have hX3 : B (Lib.itoa n) ++ ⟨#[115]⟩ = X := by
          rw [← hX2, show unit 4 (uname 4 0) = 1 from rfl, Int.ediv_one]
          exact ba_eq (by simp [uname])
        have hjn : (¬ (j : Int) < 3) ∨ ((j : Int) < 3 ∧ ¬ 0 < n) := by
          by_cases h : j < 3
          · exact .inr ⟨by omega, fun h2 => hgo ⟨h, h2⟩⟩
          · exact .inl (by omega)
        have hadd : ∀ wx : World, (Op.stringOp .add (B (Lib.itoa n)) ⟨#[115]⟩).run Tryz.prog wx = .ok (.string X) wx := fun wx => by
          rw [← hX3]
          refine run_string_add_sum wx _ _ ?_
          show _ + 1 ≤ _
          omega
        clear hX2 hX3 hbest hlen hgo htest hcase
        generalize B (Lib.itoa n) = I at *
        rcases hjn with hj3 | ⟨hj3, hn3⟩
        all_goals
          go_wp2_with fail
          refine (HD.out _).mono ?_
          rintro e w1 ⟨rfl, q, rfl⟩
          go_wp2_with fail
          go_ret
          exact ⟨rfl, q, rfl⟩
end Go.Proofs.YtkbamhecbfocbaaGreatDoor.va
