/- value.Right returns the plain function. Conditions: the listed variables hold what the program's text lays; the value's words lie in memory; it is no greater than 2147483647 bytes and words. -/
import Derived.Test.YtpfhhaonfbfheaaGreatDoorVaI
namespace Go.Proofs.YtpfhhaonfbfheaaGreatDoor.va
open Go.ChangeShapes Go.WideShapes Go.ChangeAt Go.RowKit gl

/-- No greater than the bound. -/
structure Vb (v : Val) : Prop where
  int0 : -9223372036854775808 ≤ v.int
  int1 : v.int ≤ 9223372036854775807
  text : v.text.size ≤ 2147483647
  words : v.words.length ≤ 2147483647
  each : ∀ x ∈ v.words, x.size ≤ 2147483647
  joined : (joined v.words).length ≤ 140737488355328

theorem right_c {k n : Int} {t : ByteArray} {ws : List ByteArray} (h5 : k ≠ 5) (h6 : k ≠ 6) : right wordL ⟨k, n, t, ws⟩ = (t.toList.isEmpty && ws.isEmpty && (decide (least k ≤ n) && decide (n ≤ most k)) && decide (k = 1 ∨ k = 2 ∨ k = 3 ∨ k = 4)) := by
  have ht : decide (t = ByteArray.empty) = t.toList.isEmpty := by
    rw [ByteArray.toList_eq, Bool.eq_iff_iff, decide_eq_true_eq, List.isEmpty_iff]
    exact ⟨fun h => by rw [h]; rfl, fun h => ba_eq (by rw [h]; rfl)⟩
  simp only [right, h5, h6, decide_false, Bool.false_or, Bool.false_and, Bool.or_false, ht]
theorem right_5 {n : Int} {t : ByteArray} {ws : List ByteArray} : right wordL ⟨5, n, t, ws⟩ = (ws.isEmpty && (decide (0 ≤ n) && decide (n ≤ 0)) && (decide (t.size ≤ 200) && prnAll t.data.toList)) := by
  simp [right, least, most, prnAll]
theorem right_6 {n : Int} {t : ByteArray} {ws : List ByteArray} : right wordL ⟨6, n, t, ws⟩ = (t.toList.isEmpty && (decide (0 ≤ n) && decide (n ≤ 0)) && (decide (ws.length ≤ 16) && allW ws && decide ((joined ws).length ≤ 200))) := by
  have ht : decide (t = ByteArray.empty) = t.toList.isEmpty := by
    rw [ByteArray.toList_eq, Bool.eq_iff_iff, decide_eq_true_eq, List.isEmpty_iff]
    exact ⟨fun h => by rw [h]; rfl, fun h => ba_eq (by rw [h]; rfl)⟩
  simp [right, least, most, allW, ht]

set_option maxHeartbeats 2000000 in
set_option maxRecDepth 100000 in
theorem Right_any (v : Val) (hb : Vb v) (sl : Value) (w : World) (hV : Vlo w) (hS : Strs w sl v.words) :
    Calls Tryz.prog 96 #[rep v sl] w fun e w' => e = .returned (.bool (right wordL v)) ∧ Below w.heap.size w w' := by
  obtain ⟨k, n, t, ws⟩ := v
  obtain ⟨hn0, hn1, ht, hl, heach, hj⟩ := hb
  simp only at hn0 hn1 ht hl heach hj hS
  have HV := Lib.hid hV
  have HS := Lib.hid hS
  have Heach := Lib.hid heach
  have Hj := Lib.hid hj
  clear hV heach hj
  obtain ⟨p, c, rfl, hc, _⟩ := hS
  obtain ⟨m, hm⟩ : ∃ m, ws.length = m := ⟨_, rfl⟩
  have Hm := Lib.hid hm
  rw [hm] at hl hc HS ⊢
  clear hm
  unfold rep
  simp only
  by_cases h5 : k = 5
  · subst h5
    have hr := right_5 (n := n) (t := t) (ws := ws)
    have hwe : ws.isEmpty = decide (m = 0) := by rw [← Hm.out]; cases ws <;> rfl
    have hp := fun W => printable_any t W
    rw [hwe] at hr
    generalize prnAll t.data.toList = pr at *
    generalize right wordL ⟨5, n, t, ws⟩ = R at *
    have HR := Lib.hid hr
    clear hr hwe
    by_cases hm0 : m = 0
    · subst hm0
      rcases (show n < 0 ∨ n = 0 ∨ 0 < n by omega) with h | rfl | h
      · go_enter Tryz.func96, Tryz.ntmps96
        go_wp2_with fail
        refine (ends_any 5 _).mono ?_
        rintro e w1 ⟨rfl, rfl⟩
        rw [show least 5 = 0 from rfl, show most 5 = 0 from rfl]
        go_wp2_with fail
        go_ret
        exact ⟨ret_bool (by rw [HR.out, decide_eq_false (p := 0 ≤ n) (by omega)]; simp), by go_grown⟩
      · by_cases h200 : t.size ≤ 200
        · go_enter Tryz.func96, Tryz.ntmps96
          go_wp2_with fail
          refine (ends_any 5 _).mono ?_
          rintro e w1 ⟨rfl, rfl⟩
          rw [show least 5 = 0 from rfl, show most 5 = 0 from rfl]
          go_wp2_with fail
          refine (hp _).mono ?_
          rintro e w2 ⟨rfl, hb2⟩
          go_wp2_with fail
          go_ret
          exact ⟨ret_bool (by rw [HR.out, decide_eq_true h200]; simp), ((Below.refl _ w).alloc (Nat.le_refl _) _).trans (hb2.mono (by simp))⟩
        · go_enter Tryz.func96, Tryz.ntmps96
          go_wp2_with fail
          refine (ends_any 5 _).mono ?_
          rintro e w1 ⟨rfl, rfl⟩
          rw [show least 5 = 0 from rfl, show most 5 = 0 from rfl]
          go_wp2_with fail
          go_ret
          exact ⟨ret_bool (by rw [HR.out, decide_eq_false h200]; simp), by go_grown⟩
      · go_enter Tryz.func96, Tryz.ntmps96
        go_wp2_with fail
        refine (ends_any 5 _).mono ?_
        rintro e w1 ⟨rfl, rfl⟩
        rw [show least 5 = 0 from rfl, show most 5 = 0 from rfl]
        go_wp2_with fail
        go_ret
        exact ⟨ret_bool (by rw [HR.out, decide_eq_false (p := n ≤ 0) (by omega)]; simp), by go_grown⟩
    · have hm0' : ((m : Int) != 0) = true := by simp; omega
      go_enter Tryz.func96, Tryz.ntmps96
      go_wp2_with fail
      go_ret
      exact ⟨ret_bool (by rw [HR.out, decide_eq_false hm0]; simp), by go_grown⟩
  · by_cases h6 : k = 6
    · subst h6
      clear h5
      have hr := right_6 (n := n) (t := t) (ws := ws)
      have hcon := containsW_any 121 (enters_of Tryz.func121 (by kernel_rfl) rfl) notW_right (.slice p m c) ws Heach.out (by rw [Hm.out]; omega)
      have hjo := joinW_any (.slice p m c) ws
      have Hcon := Lib.hid fun (W : World) (hb : Below w.heap.size w W) => hcon W (HV.out.below hb (Nat.le_refl _)) (HS.out.below hb (Nat.le_refl _))
      have Hjo := Lib.hid fun (W : World) (hb : Below w.heap.size w W) => hjo W (HS.out.below hb (Nat.le_refl _)) (by rw [Hm.out]; omega) Hj.out
      rw [Hm.out] at hr
      have hJ : (B (joined ws)).size = (joined ws).length := by simp [ByteArray.size]
      have hJb := Hj.out
      rw [← hJ] at hr hJb
      clear hcon hjo hJ
      generalize B (joined ws) = J at *
      generalize allW ws = aw at *
      generalize right wordL ⟨6, n, t, ws⟩ = R at *
      have HR := Lib.hid hr
      clear hr
      cases he : t.toList.isEmpty with
      | false =>
        rw [he] at HR
        go_enter Tryz.func96, Tryz.ntmps96
        go_wp2_with fail
        go_ret
        exact ⟨ret_bool (by rw [HR.out]; simp), by go_grown⟩
      | true =>
        rw [he] at HR
        rcases (show n < 0 ∨ n = 0 ∨ 0 < n by omega) with h | rfl | h
        · go_enter Tryz.func96, Tryz.ntmps96
          go_wp2_with fail
          refine (ends_any 6 _).mono ?_
          rintro e w1 ⟨rfl, rfl⟩
          rw [show least 6 = 0 from rfl, show most 6 = 0 from rfl]
          go_wp2_with fail
          go_ret
          exact ⟨ret_bool (by rw [HR.out, decide_eq_false (p := 0 ≤ n) (by omega)]; simp), by go_grown⟩
        · by_cases h16 : m ≤ 16
          · go_enter Tryz.func96, Tryz.ntmps96
            go_wp2_with fail
            refine (ends_any 6 _).mono ?_
            rintro e w1 ⟨rfl, rfl⟩
            rw [show least 6 = 0 from rfl, show most 6 = 0 from rfl]
            go_wp2_with fail
            refine (Hcon.out _ ((Below.refl _ w).alloc (Nat.le_refl _) _)).mono ?_
            rintro e w2 ⟨rfl, hb2⟩
            have Hb2 := Lib.hid (((Below.refl _ w).alloc (Nat.le_refl _) _).trans (hb2.mono (by simp)))
            obtain ⟨⟨b0, b1, b2, b3⟩, _⟩ := res_cells hb2
            clear hb2
            cases aw with
            | false =>
              go_wp2_with fail
              go_ret
              exact ⟨ret_bool (by rw [HR.out]; simp), Hb2.out⟩
            | true =>
              by_cases hJ2 : J.size ≤ 200
              · go_wp2_with fail
                refine (Hjo.out _ Hb2.out).mono ?_
                rintro e w3 ⟨rfl, hb3⟩
                go_wp2_with fail
                go_ret
                exact ⟨ret_bool (by rw [HR.out, decide_eq_true h16, decide_eq_true hJ2]; simp; try omega), Hb2.out.trans (hb3.mono Hb2.out.size)⟩
              · go_wp2_with fail
                refine (Hjo.out _ Hb2.out).mono ?_
                rintro e w3 ⟨rfl, hb3⟩
                go_wp2_with fail
                go_ret
                exact ⟨ret_bool (by rw [HR.out, decide_eq_true h16, decide_eq_false hJ2]; simp; try omega), Hb2.out.trans (hb3.mono Hb2.out.size)⟩
          · go_enter Tryz.func96, Tryz.ntmps96
            go_wp2_with fail
            refine (ends_any 6 _).mono ?_
            rintro e w1 ⟨rfl, rfl⟩
            rw [show least 6 = 0 from rfl, show most 6 = 0 from rfl]
            go_wp2_with fail
            go_ret
            exact ⟨ret_bool (by rw [HR.out, decide_eq_false h16]; simp), by go_grown⟩
        · go_enter Tryz.func96, Tryz.ntmps96
          go_wp2_with fail
          refine (ends_any 6 _).mono ?_
          rintro e w1 ⟨rfl, rfl⟩
          rw [show least 6 = 0 from rfl, show most 6 = 0 from rfl]
          go_wp2_with fail
          go_ret
          exact ⟨ret_bool (by rw [HR.out, decide_eq_false (p := n ≤ 0) (by omega)]; simp), by go_grown⟩
    · have hr := right_c (n := n) (t := t) (ws := ws) h5 h6
      have hwe : ws.isEmpty = decide (m = 0) := by rw [← Hm.out]; cases ws <;> rfl
      rw [hwe] at hr
      have q5 : (k != 5) = true := by simp [h5]
      have q6 : (k != 6) = true := by simp [h6]
      have q5' : (k == 5) = false := by simp [h5]
      have q6' : (k == 6) = false := by simp [h6]
      have Hends := Lib.hid fun W => ends_any k W
      have hK := kinds k
      have hkd : Hid (decide (k = 1 ∨ k = 2 ∨ k = 3 ∨ k = 4) = ((k == 1) || (k == 2) || (k == 3) || (k == 4))) := Lib.hid (by
        rw [Bool.eq_iff_iff]
        simp only [decide_eq_true_eq, Bool.or_eq_true, beq_iff_eq]
        omega)
      rw [hkd.out] at hr
      generalize least k = L at *
      generalize most k = M at *
      generalize right wordL ⟨k, n, t, ws⟩ = R at *
      have HR := Lib.hid hr
      clear hr hwe hkd h5 h6
      cases he : t.toList.isEmpty with
      | false =>
        rw [he] at HR
        clear hK
        go_enter Tryz.func96, Tryz.ntmps96
        go_wp2_with fail
        go_ret
        exact ⟨ret_bool (by rw [HR.out]; simp), by go_grown⟩
      | true =>
        rw [he] at HR
        by_cases hm0 : m = 0
        · subst hm0
          by_cases hnL : n < L
          · clear hK
            go_enter Tryz.func96, Tryz.ntmps96
            go_wp2_with fail
            refine (Hends.out _).mono ?_
            rintro e w1 ⟨rfl, rfl⟩
            go_wp2_with fail
            go_ret
            exact ⟨ret_bool (by rw [HR.out, decide_eq_false (p := L ≤ n) (by omega)]; simp), by go_grown⟩
          · by_cases hnM : M < n
            · clear hK
              go_enter Tryz.func96, Tryz.ntmps96
              go_wp2_with fail
              refine (Hends.out _).mono ?_
              rintro e w1 ⟨rfl, rfl⟩
              go_wp2_with fail
              go_ret
              exact ⟨ret_bool (by rw [HR.out, decide_eq_false (p := n ≤ M) (by omega)]; simp), by go_grown⟩
            · have HR2 : Hid (R = ((k == 1) || (k == 2) || (k == 3) || (k == 4))) := Lib.hid (by rw [HR.out, decide_eq_true (p := L ≤ n) (by omega), decide_eq_true (p := n ≤ M) (by omega)]; simp)
              have hK2 : k = 1 ∨ k = 2 ∨ k = 3 ∨ k = 4 ∨ ((k == 1) = false ∧ (k == 2) = false ∧ (k == 3) = false ∧ (k == 4) = false) := by
                simp only [beq_eq_false_iff_ne]
                omega
              clear hK HR
              rcases hK2 with rfl | rfl | rfl | rfl | ⟨q1, q2, q3, q4⟩
              all_goals
                go_enter Tryz.func96, Tryz.ntmps96
                go_wp2_with fail
                refine (Hends.out _).mono ?_
                rintro e w1 ⟨rfl, rfl⟩
                go_wp2_with fail
                go_ret
                refine ⟨ret_bool ?_, by go_grown⟩
              · rw [HR2.out]; rfl
              · rw [HR2.out]; rfl
              · rw [HR2.out]; rfl
              · rw [HR2.out]; rfl
              · rw [HR2.out, q1, q2, q3, q4]; rfl
        · have hm0' : ((m : Int) != 0) = true := by simp; omega
          clear hK
          go_enter Tryz.func96, Tryz.ntmps96
          go_wp2_with fail
          go_ret
          exact ⟨ret_bool (by rw [HR.out, decide_eq_false hm0]; simp), by go_grown⟩
end Go.Proofs.YtpfhhaonfbfheaaGreatDoor.va
