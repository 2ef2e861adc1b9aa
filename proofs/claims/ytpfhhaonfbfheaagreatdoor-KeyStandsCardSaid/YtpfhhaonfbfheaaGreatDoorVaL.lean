/- value.Within returns the plain function. Conditions: as for Right. -/
import Derived.Test.YtpfhhaonfbfheaaGreatDoorVaK
namespace Go.Proofs.YtpfhhaonfbfheaaGreatDoor.va
open Go.ChangeShapes Go.WideShapes Go.ChangeAt Go.RowKit gl

theorem right_kind {v : Val} (h : right wordL v = true) : v.kind = 1 ∨ v.kind = 2 ∨ v.kind = 3 ∨ v.kind = 4 ∨ v.kind = 5 ∨ v.kind = 6 := by
  rcases right_cases h with h | h | h | h | h <;> have := h.1 <;> omega
/-- Within, by kinds. -/
theorem within_f {v : Val} {lo hi : Int} (h : right wordL v = false) : within wordL v lo hi = false := by unfold within; rw [h]; rfl
theorem within_n {v : Val} {lo hi : Int} (h : right wordL v = true) (hk : v.kind = 2 ∨ v.kind = 3 ∨ v.kind = 4) : within wordL v lo hi = decide (lo ≤ v.int ∧ v.int ≤ hi) := by unfold within; rw [h, if_pos hk]; rfl
theorem within_6 {v : Val} {lo hi : Int} (h : right wordL v = true) (hk : v.kind = 6) : within wordL v lo hi = decide (lo ≤ v.words.length ∧ (v.words.length : Int) ≤ hi) := by unfold within; rw [h, if_neg (by omega), if_pos hk]; rfl
theorem within_o {v : Val} {lo hi : Int} (h : right wordL v = true) (hk : v.kind = 1 ∨ v.kind = 5) : within wordL v lo hi = true := by unfold within; rw [h, if_neg (by omega), if_neg (by omega)]; rfl

set_option maxHeartbeats 2000000 in
set_option maxRecDepth 100000 in
theorem Within_any (v : Val) (hb : Vb v) (lo hi : Int) (sl : Value) (w : World) (hV : Vlo w) (hS : Strs w sl v.words) :
    Calls Tryz.prog 72 #[rep v sl, .int .i64 lo, .int .i64 hi] w fun e w' => e = .returned (.bool (within wordL v lo hi)) ∧ Below w.heap.size w w' := by
  have HRi := Lib.hid fun (W : World) (hbW : Below w.heap.size w W) => Right_any v hb sl W (hV.below hbW (Nat.le_refl _)) (hS.below hbW (Nat.le_refl _))
  clear hV hb
  obtain ⟨p, c, rfl, hc, _⟩ := hS
  obtain ⟨k, n, t, ws⟩ := v
  simp only at hc
  obtain ⟨m, hm⟩ : ∃ m, ws.length = m := ⟨_, rfl⟩
  unfold rep at *
  simp only at *
  rw [hm] at HRi hc ⊢
  cases hr : right wordL ⟨k, n, t, ws⟩ with
  | false =>
    have HW := Lib.hid (within_f (lo := lo) (hi := hi) hr)
    rw [hr] at HRi
    clear hr hm
    go_enter Tryz.func72, Tryz.ntmps72
    go_wp2_with fail
    refine (HRi.out _ ((Below.refl _ w).alloc (Nat.le_refl _) _)).mono ?_
    rintro e w1 ⟨rfl, hb⟩
    have Hb := Lib.hid (((Below.refl _ w).alloc (Nat.le_refl _) _).trans (hb.mono (by simp)))
    obtain ⟨⟨b0, b1, b2, b3⟩, _⟩ := res_cells hb
    clear hb
    go_wp2_with fail
    go_ret
    exact ⟨ret_bool (by rw [HW.out]), Hb.out⟩
  | true =>
    have hk := right_kind hr
    simp only at hk
    rw [hr] at HRi
    rcases hk with rfl | rfl | rfl | rfl | rfl | rfl
    · have HW := Lib.hid (within_o (lo := lo) (hi := hi) hr (by simp))
      clear hr hm
      go_enter Tryz.func72, Tryz.ntmps72
      go_wp2_with fail
      refine (HRi.out _ ((Below.refl _ w).alloc (Nat.le_refl _) _)).mono ?_
      rintro e w1 ⟨rfl, hb⟩
      have Hb := Lib.hid (((Below.refl _ w).alloc (Nat.le_refl _) _).trans (hb.mono (by simp)))
      obtain ⟨⟨b0, b1, b2, b3⟩, _⟩ := res_cells hb
      clear hb
      go_wp2_with fail
      go_ret
      exact ⟨ret_bool (by rw [HW.out]), Hb.out⟩
    · have HW := Lib.hid (within_n (lo := lo) (hi := hi) hr (by simp))
      simp only at HW
      clear hr hm
      by_cases h1 : lo ≤ n
      · by_cases h2 : n ≤ hi
        · go_enter Tryz.func72, Tryz.ntmps72
          go_wp2_with fail
          refine (HRi.out _ ((Below.refl _ w).alloc (Nat.le_refl _) _)).mono ?_
          rintro e w1 ⟨rfl, hb⟩
          have Hb := Lib.hid (((Below.refl _ w).alloc (Nat.le_refl _) _).trans (hb.mono (by simp)))
          obtain ⟨⟨b0, b1, b2, b3⟩, _⟩ := res_cells hb
          clear hb
          go_wp2_with fail
          go_ret
          exact ⟨ret_bool (by rw [HW.out]; first | exact decide_eq_true (by omega) | exact (decide_eq_true (by omega)).trans (decide_eq_true (by omega)).symm), Hb.out⟩
        · go_enter Tryz.func72, Tryz.ntmps72
          go_wp2_with fail
          refine (HRi.out _ ((Below.refl _ w).alloc (Nat.le_refl _) _)).mono ?_
          rintro e w1 ⟨rfl, hb⟩
          have Hb := Lib.hid (((Below.refl _ w).alloc (Nat.le_refl _) _).trans (hb.mono (by simp)))
          obtain ⟨⟨b0, b1, b2, b3⟩, _⟩ := res_cells hb
          clear hb
          go_wp2_with fail
          go_ret
          exact ⟨ret_bool (by rw [HW.out]; first | exact decide_eq_false (by omega) | exact (decide_eq_false (by omega)).trans (decide_eq_false (by omega)).symm), Hb.out⟩
      · go_enter Tryz.func72, Tryz.ntmps72
        go_wp2_with fail
        refine (HRi.out _ ((Below.refl _ w).alloc (Nat.le_refl _) _)).mono ?_
        rintro e w1 ⟨rfl, hb⟩
        have Hb := Lib.hid (((Below.refl _ w).alloc (Nat.le_refl _) _).trans (hb.mono (by simp)))
        obtain ⟨⟨b0, b1, b2, b3⟩, _⟩ := res_cells hb
        clear hb
        go_wp2_with fail
        go_ret
        exact ⟨ret_bool (by rw [HW.out]; first | exact decide_eq_false (by omega) | exact (decide_eq_false (by omega)).trans (decide_eq_false (by omega)).symm), Hb.out⟩
    · have HW := Lib.hid (within_n (lo := lo) (hi := hi) hr (by simp))
      simp only at HW
      clear hr hm
      by_cases h1 : lo ≤ n
      · by_cases h2 : n ≤ hi
        · go_enter Tryz.func72, Tryz.ntmps72
          go_wp2_with fail
          refine (HRi.out _ ((Below.refl _ w).alloc (Nat.le_refl _) _)).mono ?_
          rintro e w1 ⟨rfl, hb⟩
          have Hb := Lib.hid (((Below.refl _ w).alloc (Nat.le_refl _) _).trans (hb.mono (by simp)))
          obtain ⟨⟨b0, b1, b2, b3⟩, _⟩ := res_cells hb
          clear hb
          go_wp2_with fail
          go_ret
          exact ⟨ret_bool (by rw [HW.out]; first | exact decide_eq_true (by omega) | exact (decide_eq_true (by omega)).trans (decide_eq_true (by omega)).symm), Hb.out⟩
        · go_enter Tryz.func72, Tryz.ntmps72
          go_wp2_with fail
          refine (HRi.out _ ((Below.refl _ w).alloc (Nat.le_refl _) _)).mono ?_
          rintro e w1 ⟨rfl, hb⟩
          have Hb := Lib.hid (((Below.refl _ w).alloc (Nat.le_refl _) _).trans (hb.mono (by simp)))
          obtain ⟨⟨b0, b1, b2, b3⟩, _⟩ := res_cells hb
          clear hb
          go_wp2_with fail
          go_ret
          exact ⟨ret_bool (by rw [HW.out]; first | exact decide_eq_false (by omega) | exact (decide_eq_false (by omega)).trans (decide_eq_false (by omega)).symm), Hb.out⟩
      · go_enter Tryz.func72, Tryz.ntmps72
        go_wp2_with fail
        refine (HRi.out _ ((Below.refl _ w).alloc (Nat.le_refl _) _)).mono ?_
        rintro e w1 ⟨rfl, hb⟩
        have Hb := Lib.hid (((Below.refl _ w).alloc (Nat.le_refl _) _).trans (hb.mono (by simp)))
        obtain ⟨⟨b0, b1, b2, b3⟩, _⟩ := res_cells hb
        clear hb
        go_wp2_with fail
        go_ret
        exact ⟨ret_bool (by rw [HW.out]; first | exact decide_eq_false (by omega) | exact (decide_eq_false (by omega)).trans (decide_eq_false (by omega)).symm), Hb.out⟩
    · have HW := Lib.hid (within_n (lo := lo) (hi := hi) hr (by simp))
      simp only at HW
      clear hr hm
      by_cases h1 : lo ≤ n
      · by_cases h2 : n ≤ hi
        · go_enter Tryz.func72, Tryz.ntmps72
          go_wp2_with fail
          refine (HRi.out _ ((Below.refl _ w).alloc (Nat.le_refl _) _)).mono ?_
          rintro e w1 ⟨rfl, hb⟩
          have Hb := Lib.hid (((Below.refl _ w).alloc (Nat.le_refl _) _).trans (hb.mono (by simp)))
          obtain ⟨⟨b0, b1, b2, b3⟩, _⟩ := res_cells hb
          clear hb
          go_wp2_with fail
          go_ret
          exact ⟨ret_bool (by rw [HW.out]; first | exact decide_eq_true (by omega) | exact (decide_eq_true (by omega)).trans (decide_eq_true (by omega)).symm), Hb.out⟩
        · go_enter Tryz.func72, Tryz.ntmps72
          go_wp2_with fail
          refine (HRi.out _ ((Below.refl _ w).alloc (Nat.le_refl _) _)).mono ?_
          rintro e w1 ⟨rfl, hb⟩
          have Hb := Lib.hid (((Below.refl _ w).alloc (Nat.le_refl _) _).trans (hb.mono (by simp)))
          obtain ⟨⟨b0, b1, b2, b3⟩, _⟩ := res_cells hb
          clear hb
          go_wp2_with fail
          go_ret
          exact ⟨ret_bool (by rw [HW.out]; first | exact decide_eq_false (by omega) | exact (decide_eq_false (by omega)).trans (decide_eq_false (by omega)).symm), Hb.out⟩
      · go_enter Tryz.func72, Tryz.ntmps72
        go_wp2_with fail
        refine (HRi.out _ ((Below.refl _ w).alloc (Nat.le_refl _) _)).mono ?_
        rintro e w1 ⟨rfl, hb⟩
        have Hb := Lib.hid (((Below.refl _ w).alloc (Nat.le_refl _) _).trans (hb.mono (by simp)))
        obtain ⟨⟨b0, b1, b2, b3⟩, _⟩ := res_cells hb
        clear hb
        go_wp2_with fail
        go_ret
        exact ⟨ret_bool (by rw [HW.out]; first | exact decide_eq_false (by omega) | exact (decide_eq_false (by omega)).trans (decide_eq_false (by omega)).symm), Hb.out⟩
    · have HW := Lib.hid (within_o (lo := lo) (hi := hi) hr (by simp))
      clear hr hm
      go_enter Tryz.func72, Tryz.ntmps72
      go_wp2_with fail
      refine (HRi.out _ ((Below.refl _ w).alloc (Nat.le_refl _) _)).mono ?_
      rintro e w1 ⟨rfl, hb⟩
      have Hb := Lib.hid (((Below.refl _ w).alloc (Nat.le_refl _) _).trans (hb.mono (by simp)))
      obtain ⟨⟨b0, b1, b2, b3⟩, _⟩ := res_cells hb
      clear hb
      go_wp2_with fail
      go_ret
      exact ⟨ret_bool (by rw [HW.out]), Hb.out⟩
    · have HW := Lib.hid (within_6 (lo := lo) (hi := hi) hr rfl)
      simp only [hm] at HW
      clear hr hm
      by_cases h1 : lo ≤ (m : Int)
      · by_cases h2 : (m : Int) ≤ hi
        · go_enter Tryz.func72, Tryz.ntmps72
          go_wp2_with fail
          refine (HRi.out _ ((Below.refl _ w).alloc (Nat.le_refl _) _)).mono ?_
          rintro e w1 ⟨rfl, hb⟩
          have Hb := Lib.hid (((Below.refl _ w).alloc (Nat.le_refl _) _).trans (hb.mono (by simp)))
          obtain ⟨⟨b0, b1, b2, b3⟩, _⟩ := res_cells hb
          clear hb
          go_wp2_with fail
          go_ret
          exact ⟨ret_bool (by rw [HW.out]; first | exact decide_eq_true (by omega) | exact (decide_eq_true (by omega)).trans (decide_eq_true (by omega)).symm), Hb.out⟩
        · go_enter Tryz.func72, Tryz.ntmps72
          go_wp2_with fail
          refine (HRi.out _ ((Below.refl _ w).alloc (Nat.le_refl _) _)).mono ?_
          rintro e w1 ⟨rfl, hb⟩
          have Hb := Lib.hid (((Below.refl _ w).alloc (Nat.le_refl _) _).trans (hb.mono (by simp)))
          obtain ⟨⟨b0, b1, b2, b3⟩, _⟩ := res_cells hb
          clear hb
          go_wp2_with fail
          go_ret
          exact ⟨ret_bool (by rw [HW.out]; first | exact decide_eq_false (by omega) | exact (decide_eq_false (by omega)).trans (decide_eq_false (by omega)).symm), Hb.out⟩
      · go_enter Tryz.func72, Tryz.ntmps72
        go_wp2_with fail
        refine (HRi.out _ ((Below.refl _ w).alloc (Nat.le_refl _) _)).mono ?_
        rintro e w1 ⟨rfl, hb⟩
        have Hb := Lib.hid (((Below.refl _ w).alloc (Nat.le_refl _) _).trans (hb.mono (by simp)))
        obtain ⟨⟨b0, b1, b2, b3⟩, _⟩ := res_cells hb
        clear hb
        go_wp2_with fail
        go_ret
        exact ⟨ret_bool (by rw [HW.out]; first | exact decide_eq_false (by omega) | exact (decide_eq_false (by omega)).trans (decide_eq_false (by omega)).symm), Hb.out⟩
end Go.Proofs.YtpfhhaonfbfheaaGreatDoor.va
