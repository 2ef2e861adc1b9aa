/- The reference's number, whole and united return the plain functions. Condition: the text is no longer than 2147483647 bytes. -/
import Derived.Test.YtkbamhecbfocbaaGreatDoorVbA
namespace Go.Proofs.YtkbamhecbfocbaaGreatDoor.va
open Go.ChangeShapes Go.WideShapes Go.ChangeAt Go.RowKit gl

def capN (l : List UInt8) : Nat := min (decN 0 l) 4611686018427387905
theorem capN_snoc (l : List UInt8) (j : Nat) (b : UInt8) (hb : l[j]? = some b) : capN (l.take (j + 1)) = if capN (l.take j) ≤ 461168601842738790 then min (capN (l.take j) * 10 + (b.toNat - 48)) 4611686018427387905 else 4611686018427387905 := by
  unfold capN
  rw [List.take_add_one, hb]
  simp only [Option.toList_some]
  rw [decN_snoc]
  generalize decN 0 (l.take j) = d
  split <;> omega
theorem capN_le (l : List UInt8) : capN l ≤ 4611686018427387905 := Nat.min_le_right _ _

set_option maxHeartbeats 1000000 in
set_option maxRecDepth 100000 in
theorem refNumber_any (s : ByteArray) (hs : s.size ≤ 2147483647) (w : World) :
    Calls Tryz.prog 52 #[.string s] w fun e w' => NumOut s.data.toList e ∧ w' = w := by
  have hsz : s.data.toList.length = s.size := by simp
  go_enter Tryz.func52, Tryz.ntmps52
  go_wp2_with fail
  go_loop [4, 5] (fun n i => ∃ (j N : Nat), j ≤ s.size ∧ i = .int .i64 j ∧ n = .int .i64 N ∧ N = capN (s.data.toList.take j) ∧ goodTo isDig s.data.toList j) (fun _ i => s.size - (intOf i).toNat)
  case atStart => exact ⟨0, 0, by omega, rfl, rfl, rfl, fun j b h => by omega⟩
  case round =>
    obtain ⟨j, N, hj, rfl, rfl, hN, hto⟩ := hrel
    have hNb : N ≤ 4611686018427387905 := by rw [hN]; exact capN_le _
    have HN := Lib.hid hN
    clear hN
    by_cases hlt : j < s.size
    · obtain ⟨b, hb, hbk, hb0, hb1⟩ := byteAt s j hlt
      rcases (show b.toNat < 48 ∨ (48 ≤ b.toNat ∧ b.toNat ≤ 57) ∨ 57 < b.toNat by omega) with h | ⟨h, h'⟩ | h
      · have Hbad := Lib.hid (num_bad (all_bad hb (dig_no (.inl h))))
        clear hb hto
        go_wp2_with fail
        go_ret2
        exact ⟨⟨_, _, rfl, okNum_none Hbad.out _, by omega, by omega⟩, rfl⟩
      · have Hst := Lib.hid (capN_snoc s.data.toList j b hb)
        have Hto := Lib.hid (goodTo_succ hto hb (dig_yes h h'))
        have hsub : IntKind.u8.wrap ((b.toNat : Int) - 48) = ((b.toNat - 48 : Nat) : Int) := by rw [IntKind.wrap_u8]; omega
        clear hb hto
        by_cases hle : N ≤ 461168601842738790
        · have HN2 : Hid (min (N * 10 + (b.toNat - 48)) 4611686018427387905 = capN (s.data.toList.take (j + 1))) := Lib.hid (by rw [Hst.out, ← HN.out, if_pos hle])
          by_cases hmin : N * 10 + (b.toNat - 48) ≤ 4611686018427387905
          · have HN3 : Hid (N * 10 + (b.toNat - 48) = capN (s.data.toList.take (j + 1))) := Lib.hid (by rw [← HN2.out, Nat.min_eq_left hmin])
            have hle' : (N : Int) ≤ 461168601842738790 := by omega
            have hmin' : (10 : Int) * N + ((b.toNat - 48 : Nat) : Int) ≤ 4611686018427387905 := by omega
            go_wp2_with fail
            all_goals
              first
                | (exfalso; omega)
                | (go_round
                   case rel => exact ⟨j + 1, N * 10 + (b.toNat - 48), by omega, by go_num, by go_num, HN3.out, Hto.out⟩
                   case measure => simp [intOf]; omega)
          · have HN3 : Hid (4611686018427387905 = capN (s.data.toList.take (j + 1))) := Lib.hid (by rw [← HN2.out, Nat.min_eq_right (by omega)])
            have hle' : (N : Int) ≤ 461168601842738790 := by omega
            have hmin' : ¬ (10 : Int) * N + ((b.toNat - 48 : Nat) : Int) ≤ 4611686018427387905 := by omega
            go_wp2_with fail
            all_goals
              first
                | (exfalso; omega)
                | (go_round
                   case rel => exact ⟨j + 1, 4611686018427387905, by omega, by go_num, by go_num, HN3.out, Hto.out⟩
                   case measure => simp [intOf]; omega)
        · have HN3 : Hid (4611686018427387905 = capN (s.data.toList.take (j + 1))) := Lib.hid (by rw [Hst.out, ← HN.out, if_neg hle])
          have hle' : ¬ (N : Int) ≤ 461168601842738790 := by omega
          go_wp2_with fail
          go_round
          case rel => exact ⟨j + 1, 4611686018427387905, by omega, by go_num, rfl, HN3.out, Hto.out⟩
          case measure => simp [intOf]; omega
      · have Hbad := Lib.hid (num_bad (all_bad hb (dig_no (.inr h))))
        clear hb hto
        go_wp2_with fail
        go_ret2
        exact ⟨⟨_, _, rfl, okNum_none Hbad.out _, by omega, by omega⟩, rfl⟩
    · obtain rfl : j = s.size := by omega
      have hall : s.data.toList.all isDig = true := all_good (by simpa using hto)
      have hN2 : N = capN s.data.toList := by
        have := HN.out
        rwa [List.take_of_length_le (by omega)] at this
      clear hto HN
      have hdec : decide ((s.size : Int) < (s.size : Int)) = false := by simp
      rcases num_cases _ hall with ⟨h0, hn⟩ | ⟨r, h0, hr, hn⟩ | ⟨h0, h48, hn⟩
      · have he : s.toList.isEmpty = true := by rw [ByteArray.toList_eq, h0]; rfl
        have Hn := Lib.hid hn
        clear h0 hn hall hN2
        go_wp2_with fail
        go_ret2
        exact ⟨⟨_, _, rfl, okNum_none Hn.out _, by omega, by omega⟩, rfl⟩
      · have he : s.toList.isEmpty = false := by rw [ByteArray.toList_eq, h0]; rfl
        have h2 : 1 < s.size := by
          have := List.length_pos_iff.2 hr
          rw [h0] at hsz
          simp at hsz
          omega
        have h21 : ((s.size : Int) == 1) = false := by simp; omega
        obtain ⟨b, hb, hbk, _, _⟩ := byteAt s 0 (by omega)
        rw [h0] at hb
        obtain rfl : b = 48 := by simpa using hb.symm
        have Hn := Lib.hid hn
        clear h0 hn hall hb hN2
        go_wp2_with fail
        go_ret2
        exact ⟨⟨_, _, rfl, okNum_none Hn.out _, by omega, by omega⟩, rfl⟩
      · have he : s.toList.isEmpty = false := by
          rw [ByteArray.toList_eq]
          cases hl : s.data.toList with
          | nil => exact absurd hl h0
          | cons => rfl
        have hpos : 0 < s.size := by
          have := List.length_pos_iff.2 h0
          omega
        have Hn : Hid (num s.data.toList = some N) := Lib.hid (by rw [hn, hN2]; rfl)
        obtain ⟨b, hb, hbk, _, _⟩ := byteAt s 0 hpos
        by_cases hb48 : b.toNat = 48
        · have h1 : s.size = 1 := by
            have : b = 48 := UInt8.toNat_inj.1 hb48
            subst this
            cases hl : s.data.toList with
            | nil => exact absurd hl h0
            | cons c r =>
              rw [hl] at hb hsz
              simp at hb
              subst hb
              have := h48 r hl
              subst this
              simpa using hsz.symm
          have hb48' : ((b.toNat : Int) != 48) = false := by simp [hb48]
          have h11 : ((s.size : Int) == 1) = true := by simp [h1]
          clear hb h48 h0 hn hall hN2
          go_wp2_with fail
          go_ret2
          exact ⟨⟨_, _, rfl, okNum_some Hn.out, by omega, by omega⟩, rfl⟩
        · have hb48' : ((b.toNat : Int) != 48) = true := by simp; omega
          clear hb h48 h0 hn hall hN2
          go_wp2_with fail
          go_ret2
          exact ⟨⟨_, _, rfl, okNum_some Hn.out, by omega, by omega⟩, rfl⟩
end Go.Proofs.YtkbamhecbfocbaaGreatDoor.va
