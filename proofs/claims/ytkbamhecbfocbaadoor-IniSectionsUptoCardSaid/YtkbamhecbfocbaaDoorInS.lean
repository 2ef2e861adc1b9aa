/- The reference's functions of chapter 6 (parts, two, bare, meant, given, lines) return plain functions. Conditions: texts of at most 536870911 bytes. -/
import Derived.Test.YtkbamhecbfocbaaDoorInR
import Derived.Test.YtkbamhecbfocbaaDoorInD
import Derived.Test.YtkbamhecbfocbaaDoorLib2
namespace Go.Proofs.YtkbamhecbfocbaaDoor.ini
open Go.ChangeShapes Go.WideShapes Go.ChangeAt Go.RowKit gl

theorem drop_at {l : List UInt8} {k : Nat} {b : UInt8} (h : l[k]? = some b) : l.drop k = b :: l.drop (k + 1) := by
  have hlt := lt_of_get h
  rw [List.drop_eq_getElem_cons hlt]
  rw [List.getElem?_eq_getElem hlt] at h
  rw [Option.some.inj h]
theorem pst_sm {l : List UInt8} {k : Nat} {b : UInt8} {beg : Bool} (h : l[k]? = some b) (h1 : 97 ≤ b.toNat ∧ b.toNat ≤ 122) : pst beg (l.drop k) = pst false (l.drop (k + 1)) := by
  rw [drop_at h, pst, if_pos h1]
theorem pst_dg {l : List UInt8} {k : Nat} {b : UInt8} {beg : Bool} (h : l[k]? = some b) (h1 : 48 ≤ b.toNat ∧ b.toNat ≤ 57) : pst beg (l.drop k) = if beg = true then false else pst false (l.drop (k + 1)) := by
  rw [drop_at h, pst, if_neg (by omega), if_pos h1]
theorem pst_pt {l : List UInt8} {k : Nat} {b : UInt8} {beg : Bool} (h : l[k]? = some b) (h1 : b.toNat = 46) : pst beg (l.drop k) = if beg = true then false else pst true (l.drop (k + 1)) := by
  rw [drop_at h, pst, if_neg (by omega), if_neg (by omega), if_pos h1]
theorem pst_no {l : List UInt8} {k : Nat} {b : UInt8} {beg : Bool} (h : l[k]? = some b) (h1 : ¬ (97 ≤ b.toNat ∧ b.toNat ≤ 122)) (h2 : ¬ (48 ≤ b.toNat ∧ b.toNat ≤ 57)) (h3 : b.toNat ≠ 46) : pst beg (l.drop k) = false := by
  rw [drop_at h, pst, if_neg h1, if_neg h2, if_neg h3]

set_option maxHeartbeats 2000000 in
theorem parts_any (s : ByteArray) (hs : s.size ≤ 2147483647) (w : World) :
    Calls Tryd.prog 95 #[.string s] w fun e w' => e = .returned (.bool ((pcs 46 s.data.toList).all partL)) ∧ w = w' := by
  have HP : Hid ((pcs 46 s.data.toList).all partL = pst true s.data.toList) := Lib.hid (pst_eq _).1.symm
  go_enter Tryd.func95, Tryd.ntmps95
  go_wp2_with fail
  go_loop [3, 4] (fun g i => ∃ (k : Nat) (beg : Bool), k ≤ s.size ∧ i = .int .i64 k ∧ g = .bool beg ∧ pst true s.data.toList = pst beg (s.data.toList.drop k)) (fun _ i => s.size - (intOf i).toNat)
  case atStart => exact ⟨0, true, by omega, rfl, rfl, rfl⟩
  case round =>
    obtain ⟨k, beg, hk, rfl, rfl, hp⟩ := hrel
    have Hp := Lib.hid hp
    clear hp
    by_cases hlt : k < s.size
    · obtain ⟨b, hb, hbk, hb0, hb1⟩ := byteAt s k hlt
      have hbk' := hbk hlt
      have Hb := Lib.hid hb
      clear hb
      rcases (show (97 ≤ b.toNat ∧ b.toNat ≤ 122) ∨ (48 ≤ b.toNat ∧ b.toNat ≤ 57) ∨ b.toNat = 46 ∨ (¬ (97 ≤ b.toNat ∧ b.toNat ≤ 122) ∧ ¬ (48 ≤ b.toNat ∧ b.toNat ≤ 57) ∧ b.toNat ≠ 46) by omega) with h | h | h | ⟨h1, h2, h3⟩
      · have Hn := Lib.hid (pst_sm (beg := beg) Hb.out h)
        obtain ⟨h, h'⟩ := h
        go_wp2_with fail
        go_round
        case rel => exact ⟨k + 1, false, by omega, by go_num, rfl, by rw [Hp.out, Hn.out]⟩
        case measure => simp [intOf]; omega
      · have Hn := Lib.hid (pst_dg (beg := beg) Hb.out h)
        obtain ⟨h, h'⟩ := h
        have q : decide (97 ≤ (b.toNat : Int)) = false := by simp; omega
        cases beg
        · go_wp2_with fail
          go_round
          case rel => exact ⟨k + 1, false, by omega, by go_num, rfl, by rw [Hp.out, Hn.out]; rfl⟩
          case measure => simp [intOf]; omega
        · go_wp2_with fail
          go_ret
          exact ⟨ret_bool (by rw [HP.out, Hp.out, Hn.out]; rfl), rfl⟩
      · have Hn := Lib.hid (pst_pt (beg := beg) Hb.out h)
        have q : ((b.toNat : Int) == 46) = true := by rw [h]; rfl
        have q1 : decide (97 ≤ (b.toNat : Int)) = false := by simp; omega
        have q2 : decide (48 ≤ (b.toNat : Int)) = false := by simp; omega
        clear h
        cases beg
        · go_wp2_with fail
          go_round
          case rel => exact ⟨k + 1, true, by omega, by go_num, rfl, by rw [Hp.out, Hn.out]; rfl⟩
          case measure => simp [intOf]; omega
        · go_wp2_with fail
          go_ret
          exact ⟨ret_bool (by rw [HP.out, Hp.out, Hn.out]; rfl), rfl⟩
      · have Hn := Lib.hid (pst_no (beg := beg) Hb.out h1 h2 h3)
        have q : ((b.toNat : Int) == 46) = false := by simp; omega
        have Hr : Hid ((pcs 46 s.data.toList).all partL = false) := Lib.hid (by rw [HP.out, Hp.out, Hn.out])
        clear h3
        rcases (show b.toNat < 48 ∨ (57 < b.toNat ∧ b.toNat < 97) ∨ 122 < b.toNat by omega) with h | ⟨h, h'⟩ | h
        all_goals
          clear h1 h2
          go_wp2_with fail
          go_ret
          exact ⟨ret_bool Hr.out, rfl⟩
    · obtain rfl : k = s.size := by omega
      have Hr : Hid ((pcs 46 s.data.toList).all partL = !beg) := Lib.hid (by rw [HP.out, Hp.out, List.drop_eq_nil_of_le (by simp)]; rfl)
      go_wp2_with fail
      go_ret
      exact ⟨ret_bool Hr.out, rfl⟩

theorem count_snoc {l : List UInt8} {k : Nat} {b : UInt8} (h : l[k]? = some b) : (l.take (k + 1)).count 46 = (l.take k).count 46 + if b.toNat = 46 then 1 else 0 := by
  have hlt := lt_of_get h
  rw [List.take_succ_eq_append_getElem hlt, List.count_append]
  rw [List.getElem?_eq_getElem hlt] at h
  rw [Option.some.inj h]
  congr 1
  by_cases hb : b.toNat = 46
  · rw [if_pos hb, show b = 46 from UInt8.toNat_inj.1 (by rw [hb]; rfl)]; rfl
  · rw [if_neg hb]
    have : b ≠ 46 := by rintro rfl; exact hb rfl
    simp [this]
theorem secOk_of (l : List UInt8) : secOk l = (decide (l.count 46 < 2) && (pcs 46 l).all partL) := by
  unfold secOk
  rw [pcs_length]
  rw [show decide ((l.count 46) + 1 ≤ 2) = decide (l.count 46 < 2) from by rw [decide_eq_decide]; omega]

set_option maxHeartbeats 2000000 in
theorem two_any (s : ByteArray) (hs : s.size ≤ 2147483647) (w : World) :
    Calls Tryd.prog 67 #[.string s] w fun e w' => e = .returned (.bool (secOk s.data.toList)) ∧ w = w' := by
  have HP := Lib.hid (secOk_of s.data.toList)
  have HC := Lib.hid (parts_any s hs w)
  go_enter Tryd.func67, Tryd.ntmps67
  go_wp2_with fail
  go_loop [3, 4] (fun n i => ∃ k m : Nat, k ≤ s.size ∧ i = .int .i64 k ∧ n = .int .i64 m ∧ m ≤ k ∧ m = (s.data.toList.take k).count 46) (fun _ i => s.size - (intOf i).toNat)
  case atStart => exact ⟨0, 0, by omega, rfl, rfl, by omega, by simp⟩
  case round =>
    obtain ⟨k, m, hk, rfl, rfl, hmk, hm⟩ := hrel
    have Hm := Lib.hid hm
    clear hm
    by_cases hlt : k < s.size
    · obtain ⟨b, hb, hbk, hb0, hb1⟩ := byteAt s k hlt
      have hbk' := hbk hlt
      have Hn := Lib.hid (count_snoc hb)
      clear hb
      by_cases h : b.toNat = 46
      · have q : ((b.toNat : Int) == 46) = true := by rw [h]; rfl
        have Hn2 : Hid ((s.data.toList.take (k + 1)).count 46 = m + 1) := Lib.hid (by rw [Hn.out, if_pos h, ← Hm.out])
        clear h
        go_wp2_with fail
        go_round
        case rel => exact ⟨k + 1, m + 1, by omega, by go_num, by go_num, by omega, Hn2.out.symm⟩
        case measure => simp [intOf]; omega
      · have q : ((b.toNat : Int) == 46) = false := by simp; omega
        have Hn2 : Hid ((s.data.toList.take (k + 1)).count 46 = m) := Lib.hid (by rw [Hn.out, if_neg h, ← Hm.out]; rfl)
        clear h
        go_wp2_with fail
        go_round
        case rel => exact ⟨k + 1, m, by omega, by go_num, rfl, by omega, Hn2.out.symm⟩
        case measure => simp [intOf]; omega
    · obtain rfl : k = s.size := by omega
      have Hc : Hid (s.data.toList.count 46 = m) := Lib.hid (by rw [Hm.out, List.take_of_length_le (by simp)])
      by_cases h2 : m < 2
      · have q : decide ((m : Int) < 2) = true := by simp; omega
        have Hr : Hid (secOk s.data.toList = (pcs 46 s.data.toList).all partL) := Lib.hid (by rw [HP.out, Hc.out, decide_eq_true h2]; rfl)
        go_wp2_with fail
        refine HC.out.mono ?_
        rintro e w1 ⟨rfl, rfl⟩
        go_wp2_with fail
        go_ret
        exact ⟨ret_bool Hr.out, rfl⟩
      · have q : decide ((m : Int) < 2) = false := by simp; omega
        have Hr : Hid (secOk s.data.toList = false) := Lib.hid (by rw [HP.out, Hc.out, decide_eq_false h2]; rfl)
        go_wp2_with fail
        go_ret
        exact ⟨ret_bool Hr.out, rfl⟩

/-- What may stand as it is. -/
def bareR (l : List UInt8) : Bool := prn l && decide (l.head? ≠ some 34)
set_option maxHeartbeats 1000000 in
theorem bareR_any (s : ByteArray) (hs : s.size ≤ 2147483647) (w : World) :
    Calls Tryd.prog 38 #[.string s] w fun e w' => e = .returned (.bool (bareR s.data.toList)) ∧ w = w' := by
  go_enter Tryd.func38, Tryd.ntmps38
  go_wp2_with fail
  go_loop [3] (fun i => ∃ k : Nat, k ≤ s.size ∧ i = .int .i64 k ∧ prnTo s.data.toList k) (fun i => s.size - (intOf i).toNat)
  case atStart => exact ⟨0, by omega, rfl, fun j b h => by omega⟩
  case round =>
    obtain ⟨k, hk, rfl, hto⟩ := hrel
    have Hto := Lib.hid hto
    clear hto
    by_cases hlt : k < s.size
    · obtain ⟨b, hb, hbk, hb0, hb1⟩ := byteAt s k hlt
      have hbk' := hbk hlt
      have Hb := Lib.hid hb
      clear hb
      rcases (show b.toNat < 32 ∨ (32 ≤ b.toNat ∧ b.toNat ≤ 126) ∨ 126 < b.toNat by omega) with h | ⟨h, h'⟩ | h
      · go_wp2_with fail
        go_ret
        exact ⟨ret_bool (by unfold bareR; rw [prn_bad Hb.out (by omega)]; rfl), rfl⟩
      · go_wp2_with fail
        go_round
        case rel => exact ⟨k + 1, by omega, by go_num, prnTo_succ Hto.out Hb.out ⟨h, h'⟩⟩
        case measure => simp [intOf]; omega
      · go_wp2_with fail
        go_ret
        exact ⟨ret_bool (by unfold bareR; rw [prn_bad Hb.out (by omega)]; rfl), rfl⟩
    · have Hall : Hid (prn s.data.toList = true) := Lib.hid (prn_all (by
        have : s.data.toList.length = k := by simp; omega
        rw [this]; exact Hto.out))
      rcases Nat.eq_zero_or_pos s.size with h0 | h0
      · have hnil : s.data.toList = [] := List.eq_nil_of_length_eq_zero (by simpa using h0)
        have q := seq_lit hnil
        have Hr : Hid (bareR s.data.toList = true) := Lib.hid (by unfold bareR; rw [Hall.out, hnil]; rfl)
        clear hnil
        go_wp2_with fail
        go_ret
        exact ⟨ret_bool Hr.out, rfl⟩
      · obtain ⟨b, hb, hbk, hb0, hb1⟩ := byteAt s 0 h0
        have hbk' := hbk h0
        have hne : s.data.toList ≠ [] := by intro e; rw [e] at hb; simp at hb
        have q := seq_nlit hne
        have hh : s.data.toList.head? = some b := by rw [List.head?_eq_getElem?]; exact hb
        by_cases h : b.toNat = 34
        · have q2 : ((b.toNat : Int) != 34) = false := by rw [h]; rfl
          have Hr : Hid (bareR s.data.toList = false) := Lib.hid (by
            unfold bareR
            rw [hh, show b = 34 from UInt8.toNat_inj.1 (by rw [h]; rfl)]
            simp)
          clear hne hh hb h
          go_wp2_with fail
          go_ret
          exact ⟨ret_bool Hr.out, rfl⟩
        · have q2 : ((b.toNat : Int) != 34) = true := by simp; omega
          have Hr : Hid (bareR s.data.toList = true) := Lib.hid (by
            unfold bareR
            have : b ≠ 34 := by rintro rfl; exact h rfl
            rw [hh, Hall.out]
            simp [this])
          clear hne hh hb h
          go_wp2_with fail
          go_ret
          exact ⟨ret_bool Hr.out, rfl⟩
end Go.Proofs.YtkbamhecbfocbaaDoor.ini
