/- The reference's text, Right and Within return the plain functions. Conditions: the value's words lie in memory; it is no greater than 2147483647 bytes and words. -/
import Derived.Test.YtkbamhecbfocbaaGreatDoorVaQ
namespace Go.Proofs.YtkbamhecbfocbaaGreatDoor.va
open Go.ChangeShapes Go.WideShapes Go.ChangeAt Go.RowKit gl

theorem pt_bad {s : ByteArray} {k : Nat} {b : UInt8} (hb : s.data.toList[k]? = some b) (hp : prn b = false) : parseText s.data.toList = (zero, 40) := by
  unfold parseText
  rw [all_bad hb hp]
  rfl
theorem pt_good {s : ByteArray} (h : goodTo prn s.data.toList s.size) : parseText s.data.toList = if 200 < s.size then (zero, 42) else (⟨5, 0, s, []⟩, 0) := by
  unfold parseText
  rw [all_good (by simpa using h), if_pos rfl, show s.data.toList.length = s.size by simp, B_toList]
set_option maxHeartbeats 1000000 in
set_option maxRecDepth 100000 in
theorem refText_any (s : ByteArray) (hs : s.size ≤ 2147483647) (w : World) :
    Calls Tryz.prog 29 #[.string s] w fun e w' => e = .returned (res (parseText s.data.toList) (.slice none 0 0)) ∧ Below w.heap.size w w' := by
  go_enter Tryz.func29, Tryz.ntmps29
  go_wp2_with fail
  go_loop [4] (fun i => ∃ k : Nat, k ≤ s.size ∧ i = .int .i64 k ∧ goodTo prn s.data.toList k) (fun i => s.size - (intOf i).toNat)
  case atStart => exact ⟨0, by omega, rfl, fun j b h => by omega⟩
  case round =>
    obtain ⟨k, hk, rfl, hto⟩ := hrel
    by_cases hlt : k < s.size
    · obtain ⟨b, hb, hbk, hb0, hb1⟩ := byteAt s k hlt
      rcases (show b.toNat < 32 ∨ (32 ≤ b.toNat ∧ b.toNat ≤ 126) ∨ 126 < b.toNat by omega) with h | ⟨h, h'⟩ | h
      · have He := Lib.hid (pt_bad hb (prn_no (.inl h)))
        clear hto hb
        go_wp2_with fail
        go_returns
        exact ⟨by rw [He.out]; rfl, by go_grown⟩
      · have Hto := Lib.hid (goodTo_succ hto hb (prn_yes h h'))
        clear hto hb
        go_wp2_with fail
        go_round
        case rel => exact ⟨k + 1, by omega, by go_num, Hto.out⟩
        case measure => simp [intOf]; omega
      · have He := Lib.hid (pt_bad hb (prn_no (.inr h)))
        clear hto hb
        go_wp2_with fail
        go_returns
        exact ⟨by rw [He.out]; rfl, by go_grown⟩
    · obtain rfl : k = s.size := by omega
      have He := Lib.hid (pt_good hto)
      clear hto
      by_cases h200 : 200 < s.size
      · have He2 := Lib.hid (He.out.trans (if_pos h200))
        go_wp2_with fail
        go_returns
        exact ⟨by rw [He2.out]; rfl, by go_grown⟩
      · have He2 := Lib.hid (He.out.trans (if_neg h200))
        go_wp2_with fail
        go_returns
        exact ⟨by rw [He2.out]; rfl, by go_grown⟩

theorem joined_200 (ws : List ByteArray) : decide ((joined ws).length ≤ 200) = decide ((ws.length : Int) - 1 + sz ws ≤ 200) := by
  cases ws with
  | nil => rfl
  | cons x r =>
    have := joined_cons x r
    rw [Bool.eq_iff_iff, decide_eq_true_eq, decide_eq_true_eq, this]
    simp only [List.length_cons]
    omega
theorem sz_take (ws : List ByteArray) (j : Nat) (x : ByteArray) (h : ws[j]? = some x) : sz (ws.take (j + 1)) = sz (ws.take j) + x.size := by
  unfold sz
  rw [List.take_add_one, h]
  simp
theorem sz_take_le (ws : List ByteArray) (j : Nat) : sz (ws.take j) ≤ sz ws := by
  conv => rhs; rw [← List.take_append_drop j ws]
  unfold sz
  rw [List.map_append, List.sum_append]
  omega
theorem sz_joined (ws : List ByteArray) : sz ws ≤ (joined ws).length := by
  cases ws with
  | nil => simp [sz]
  | cons x r =>
    rw [joined_cons]
    omega

set_option maxHeartbeats 2000000 in
set_option maxRecDepth 100000 in
theorem refRight_any (v : Val) (hb : Vb v) (sl : Value) (w : World) (_hV : Vlo w) (hS : Strs w sl v.words) :
    Calls Tryz.prog 21 #[rep v sl] w fun e w' => e = .returned (.bool (right wordL v)) ∧ Below w.heap.size w w' := by
  clear _hV
  obtain ⟨k, n, t, ws⟩ := v
  obtain ⟨hn0, hn1, ht, hl, heach, hj⟩ := hb
  simp only at hn0 hn1 ht hl heach hj hS
  have HS := Lib.hid hS
  have Heach := Lib.hid heach
  have hsz := sz_joined ws
  have Hsz : Hid (sz ws ≤ 140737488355328) := Lib.hid (by omega)
  clear heach hj hsz
  obtain ⟨p, c, rfl, hc, _⟩ := hS
  obtain ⟨m, hm⟩ : ∃ m, ws.length = m := ⟨_, rfl⟩
  have Hm := Lib.hid hm
  rw [hm] at hl hc HS ⊢
  clear hm
  unfold rep
  simp only
  by_cases h5 : k = 5
  · subst h5
    have hr := right_5 (n := n) (t := t) (ws := ws)
    have hwe : ws.isEmpty = decide (m = 0) := by rw [← Hm.out]; cases ws <;> rfl
    have hp := fun W => refText_any t ht W
    rw [hwe] at hr
    generalize right wordL ⟨5, n, t, ws⟩ = R at *
    have HR := Lib.hid hr
    clear hr hwe
    by_cases hm0 : m = 0
    · subst hm0
      have HT : Hid (∃ (a b : Int) (tt : ByteArray) (er : Int), parseText t.data.toList = (⟨a, b, tt, []⟩, er) ∧ (er == 0) = (decide (t.size ≤ 200) && prnAll t.data.toList)) := Lib.hid (by
        have hE : parseText t.data.toList = if prnAll t.data.toList then (if 200 < t.size then (zero, 42) else (⟨5, 0, t, []⟩, 0)) else (zero, 40) := by
          unfold parseText prnAll
          rw [show t.data.toList.length = t.size by simp, B_toList]
        rw [hE]
        cases prnAll t.data.toList with
        | false => exact ⟨0, 0, _, 40, rfl, by simp⟩
        | true =>
          by_cases h : 200 < t.size
          · exact ⟨0, 0, _, 42, by rw [if_pos rfl, if_pos h]; rfl, by rw [decide_eq_false (by omega)]; rfl⟩
          · exact ⟨5, 0, _, 0, by rw [if_pos rfl, if_neg h], by rw [decide_eq_true (by omega)]; rfl⟩)
      obtain ⟨a, b, tt, er, hpt, her⟩ := HT.out
      simp only [hpt] at hp
      have HR2 : Hid (R = ((er == 0) && (n == 0))) := Lib.hid (by
        rw [HR.out, her]
        have : (n == 0) = (decide (0 ≤ n) && decide (n ≤ 0)) := by
          rw [Bool.eq_iff_iff]
          simp only [beq_iff_eq, Bool.and_eq_true, decide_eq_true_eq]
          omega
        rw [this]
        simp [Bool.and_comm])
      clear HR HT hpt her
      unfold res rep at hp
      simp only at hp
      cases he0 : (er == 0) with
      | false =>
        rw [he0] at HR2
        go_enter Tryz.func21, Tryz.ntmps21
        go_wp2_with fail
        refine (hp _).mono ?_
        rintro e w1 ⟨rfl, hb⟩
        obtain ⟨⟨b0, b1, b2, b3⟩, _⟩ := res_cells hb
        have Hb := Lib.hid (((Below.refl _ w).alloc (Nat.le_refl _) _).trans (hb.mono (by simp)))
        clear hb hp
        have d1 := (((Below.refl w1.heap.size w1).alloc (Nat.le_refl _) (.cells #[.int .i64 a, .int .i64 b, .string tt, .slice none 0 0] 28)).cell (p := ⟨w.heap.size, 1, none⟩) (World.block_lt_of_cell? _ _ b1)).trans b1
        go_wp2_with fail
        go_ret
        exact ⟨ret_bool (by rw [HR2.out]; rfl), Hb.out.alloc Hb.out.size _⟩
      | true =>
        rw [he0] at HR2
        cases hn : (n == 0) with
        | false =>
          rw [hn] at HR2
          go_enter Tryz.func21, Tryz.ntmps21
          go_wp2_with fail
          refine (hp _).mono ?_
          rintro e w1 ⟨rfl, hb⟩
          obtain ⟨⟨b0, b1, b2, b3⟩, _⟩ := res_cells hb
          have Hb := Lib.hid (((Below.refl _ w).alloc (Nat.le_refl _) _).trans (hb.mono (by simp)))
          clear hb hp
          have d1 := (((Below.refl w1.heap.size w1).alloc (Nat.le_refl _) (.cells #[.int .i64 a, .int .i64 b, .string tt, .slice none 0 0] 28)).cell (p := ⟨w.heap.size, 1, none⟩) (World.block_lt_of_cell? _ _ b1)).trans b1
          go_wp2_with fail
          go_ret
          exact ⟨ret_bool (by rw [HR2.out]; rfl), Hb.out.alloc Hb.out.size _⟩
        | true =>
          rw [hn] at HR2
          go_enter Tryz.func21, Tryz.ntmps21
          go_wp2_with fail
          refine (hp _).mono ?_
          rintro e w1 ⟨rfl, hb⟩
          obtain ⟨⟨b0, b1, b2, b3⟩, _⟩ := res_cells hb
          have Hb := Lib.hid (((Below.refl _ w).alloc (Nat.le_refl _) _).trans (hb.mono (by simp)))
          clear hb hp
          have d1 := (((Below.refl w1.heap.size w1).alloc (Nat.le_refl _) (.cells #[.int .i64 a, .int .i64 b, .string tt, .slice none 0 0] 28)).cell (p := ⟨w.heap.size, 1, none⟩) (World.block_lt_of_cell? _ _ b1)).trans b1
          go_wp2_with fail
          go_ret
          exact ⟨ret_bool (by rw [HR2.out]; rfl), Hb.out.alloc Hb.out.size _⟩
    · have hm0' : (0 : Int) < (m : Int) := by omega
      go_enter Tryz.func21, Tryz.ntmps21
      go_wp2_with fail
      go_ret
      exact ⟨ret_bool (by rw [HR.out, decide_eq_false hm0]; simp), by go_grown⟩
  · by_cases h6 : k = 6
    · subst h6
      clear h5
      have hr := right_6 (n := n) (t := t) (ws := ws)
      rw [joined_200, Hm.out] at hr
      have HW := Lib.hid fun (x : ByteArray) (hx : x ∈ ws) (W : World) => refIsWord_any x (Heach.out x hx) W
      generalize right wordL ⟨6, n, t, ws⟩ = R at *
      have HR := Lib.hid hr
      clear hr
      cases he : t.toList.isEmpty with
      | false =>
        rw [he] at HR
        go_enter Tryz.func21, Tryz.ntmps21
        go_wp2_with fail
        go_ret
        exact ⟨ret_bool (by rw [HR.out]; simp), by go_grown⟩
      | true =>
        rw [he] at HR
        go_enter Tryz.func21, Tryz.ntmps21
        go_wp2_with fail
        obtain ⟨w2, hw2⟩ : ∃ w2, w2 = w.alloc (.cells #[.int .i64 6, .int .i64 n, .string t, .slice p m c] 28) := ⟨_, rfl⟩
        rw [← hw2]
        have Hb2 : Hid (Below w.heap.size w w2) := Lib.hid (by rw [hw2]; exact (Below.refl _ _).alloc (Nat.le_refl _) _)
        have HS2 := Lib.hid (HS.out.later Hb2.out)
        have hB : w2.heap[w.heap.size]? = some (.cells #[.int .i64 6, .int .i64 n, .string t, .slice p m c] 28) := by rw [hw2]; exact heap_alloc_new w _
        have c3 := cell_of_row w2 w.heap.size 3 _ _ _ hB
        have c1 := cell_of_row w2 w.heap.size 1 _ _ _ hB
        simp only [List.getElem?_toArray, List.getElem?_cons_succ, List.getElem?_cons_zero] at c1 c3
        clear hw2 hB
        go_loop [5, 6] (fun a i => ∃ (j : Nat) (A : Int), j ≤ m ∧ i = .int .i64 j ∧ a = .int .i64 A ∧ A = (m : Int) - 1 + sz (ws.take j) ∧ goodW ws j) (fun _ i => m - (intOf i).toNat)
        case atStart => exact ⟨0, (m : Int) - 1, by omega, rfl, by go_num, by simp [sz], fun j x h => by omega⟩
        case round =>
          obtain ⟨j, A, hj, rfl, rfl, hA, hgo⟩ := hrel
          have HA := Lib.hid hA
          have Hgo := Lib.hid hgo
          have hAb : -1 ≤ A ∧ A ≤ 140739635838975 := by
            have h1 := sz_take_le ws j
            have h2 := Hsz.out
            omega
          obtain ⟨hA0, hA1⟩ := hAb
          clear hA hgo
          by_cases hlt : j < m
          · obtain ⟨b, o, x, rfl, hbl, hx, hcx⟩ := HS2.out.at j hlt
            have hmem := List.mem_of_getElem? hx
            have hxs := Heach.out x hmem
            have Hx := Lib.hid hx
            have hcon := fun W => HW.out x hmem W
            clear hx hmem
            cases hw : wordL x.data.toList with
            | true =>
              rw [hw] at hcon
              have Hw := Lib.hid hw
              clear hw
              go_wp2_with fail
              refine (hcon _).mono ?_
              rintro e w3 ⟨rfl, rfl⟩
              go_wp2_with fail
              go_round
              case rel => exact ⟨j + 1, A + x.size, by omega, by go_num, by go_num, by rw [sz_take ws j x Hx.out, HA.out]; omega, goodW_succ Hgo.out Hx.out Hw.out⟩
              case measure => simp [intOf]; omega
            | false =>
              rw [hw] at hcon
              have Hw := Lib.hid hw
              clear hw
              go_wp2_with fail
              refine (hcon _).mono ?_
              rintro e w3 ⟨rfl, rfl⟩
              go_wp2_with fail
              go_ret
              exact ⟨ret_bool (by rw [HR.out, allW_bad Hx.out Hw.out]; simp), Hb2.out⟩
          · obtain rfl : j = m := by omega
            have hall : allW ws = true := allW_good (by rw [Hm.out]; exact Hgo.out)
            have hA2 : A = (j : Int) - 1 + sz ws := by
              have := HA.out
              rwa [List.take_of_length_le (by rw [Hm.out]; exact Nat.le_refl _)] at this
            have HR2 : Hid (R = ((decide (0 ≤ n) && decide (n ≤ 0)) && (decide (j ≤ 16) && decide (A ≤ 200)))) := Lib.hid (by rw [HR.out, hall, hA2]; simp)
            have hdec : decide ((j : Int) < (j : Int)) = false := by simp
            clear hall hA2
            rcases (show n < 0 ∨ n = 0 ∨ 0 < n by omega) with h | rfl | h
            · have hn : (n == 0) = false := by simp; omega
              go_wp2_with fail
              go_ret
              exact ⟨ret_bool (by rw [HR2.out, decide_eq_false (p := 0 ≤ n) (by omega)]; simp), Hb2.out⟩
            · by_cases h16 : j ≤ 16
              · by_cases h200 : A ≤ 200
                · go_wp2_with fail
                  go_ret
                  exact ⟨ret_bool (by rw [HR2.out, decide_eq_true h16, decide_eq_true h200]; simp; try omega), Hb2.out⟩
                · go_wp2_with fail
                  go_ret
                  exact ⟨ret_bool (by rw [HR2.out, decide_eq_true h16, decide_eq_false (p := A ≤ 200) (by omega)]; simp; try omega), Hb2.out⟩
              · go_wp2_with fail
                go_ret
                exact ⟨ret_bool (by rw [HR2.out, decide_eq_false h16]; simp), Hb2.out⟩
            · have hn : (n == 0) = false := by simp; omega
              go_wp2_with fail
              go_ret
              exact ⟨ret_bool (by rw [HR2.out, decide_eq_false (p := n ≤ 0) (by omega)]; simp), Hb2.out⟩
    · have hr := right_c (n := n) (t := t) (ws := ws) h5 h6
      have hwe : ws.isEmpty = decide (m = 0) := by rw [← Hm.out]; cases ws <;> rfl
      rw [hwe] at hr
      have q5 : (k != 5) = true := by simp [h5]
      have q6 : (k != 6) = true := by simp [h6]
      have q5' : (k == 5) = false := by simp [h5]
      have q6' : (k == 6) = false := by simp [h6]
      cases he : t.toList.isEmpty with
      | false =>
        rw [he] at hr
        generalize right wordL ⟨k, n, t, ws⟩ = R at *
        have HR := Lib.hid hr
        clear hr h5 h6
        go_enter Tryz.func21, Tryz.ntmps21
        go_wp2_with fail
        go_ret
        exact ⟨ret_bool (by rw [HR.out]; simp), by go_grown⟩
      | true =>
        rw [he] at hr
        by_cases hm0 : m = 0
        · subst hm0
          have hK2 : k = 1 ∨ k = 2 ∨ (k = 3 ∨ k = 4) ∨ (k ≠ 1 ∧ k ≠ 2 ∧ k ≠ 3 ∧ k ≠ 4) := by omega
          rcases hK2 with rfl | rfl | hk | ⟨n1, n2, n3, n4⟩
          · have HR : Hid (right wordL ⟨1, n, t, ws⟩ = (decide (0 ≤ n) && decide (n ≤ 1))) := Lib.hid (by rw [hr]; simp [least, most])
            generalize right wordL ⟨1, n, t, ws⟩ = R at *
            clear hr h5 h6
            rcases (show n < 0 ∨ n = 0 ∨ n = 1 ∨ 1 < n by omega) with h | rfl | rfl | h
            · have z0 : (n == 0) = false := by simp; omega
              have z1 : (n == 1) = false := by simp; omega
              go_enter Tryz.func21, Tryz.ntmps21
              go_wp2_with fail
              go_ret
              exact ⟨ret_bool (by rw [HR.out, decide_eq_false (p := 0 ≤ n) (by omega)]; rfl), by go_grown⟩
            · go_enter Tryz.func21, Tryz.ntmps21
              go_wp2_with fail
              go_ret
              exact ⟨ret_bool (by rw [HR.out]; rfl), by go_grown⟩
            · go_enter Tryz.func21, Tryz.ntmps21
              go_wp2_with fail
              go_ret
              exact ⟨ret_bool (by rw [HR.out]; rfl), by go_grown⟩
            · have z0 : (n == 0) = false := by simp; omega
              have z1 : (n == 1) = false := by simp; omega
              go_enter Tryz.func21, Tryz.ntmps21
              go_wp2_with fail
              go_ret
              exact ⟨ret_bool (by rw [HR.out, decide_eq_false (p := n ≤ 1) (by omega)]; simp), by go_grown⟩
          · have HR : Hid (right wordL ⟨2, n, t, ws⟩ = (decide (-4611686018427387904 ≤ n) && decide (n ≤ 4611686018427387904))) := Lib.hid (by rw [hr]; simp [least, most])
            generalize right wordL ⟨2, n, t, ws⟩ = R at *
            clear hr h5 h6
            rcases (show n < -4611686018427387904 ∨ (-4611686018427387904 ≤ n ∧ n ≤ 4611686018427387904) ∨ 4611686018427387904 < n by omega) with h | ⟨h, h'⟩ | h
            · go_enter Tryz.func21, Tryz.ntmps21
              go_wp2_with fail
              go_ret
              exact ⟨ret_bool (by rw [HR.out, decide_eq_false (p := -4611686018427387904 ≤ n) (by omega)]; rfl), by go_grown⟩
            · go_enter Tryz.func21, Tryz.ntmps21
              go_wp2_with fail
              go_ret
              exact ⟨ret_bool (by rw [HR.out, decide_eq_true h, decide_eq_true h']; first | rfl | (simp; try omega)), by go_grown⟩
            · go_enter Tryz.func21, Tryz.ntmps21
              go_wp2_with fail
              go_ret
              exact ⟨ret_bool (by rw [HR.out, decide_eq_false (p := n ≤ 4611686018427387904) (by omega)]; first | (simp; done) | (simp; omega)), by go_grown⟩
          · have HR : Hid (right wordL ⟨k, n, t, ws⟩ = (decide (0 ≤ n) && decide (n ≤ most k))) := Lib.hid (by
              rw [hr, show least k = 0 from by unfold least; rw [if_neg (by omega)], decide_eq_true (p := k = 1 ∨ k = 2 ∨ k = 3 ∨ k = 4) (by omega)]
              simp)
            have Hmo := Lib.hid (most_any k hk)
            have k1 : (k == 1) = false := by simp; omega
            have k2 : (k == 2) = false := by simp; omega
            have k34 : (k == 3) = true ∨ ((k == 3) = false ∧ (k == 4) = true) := by
              rcases hk with rfl | rfl
              · exact .inl rfl
              · exact .inr ⟨rfl, rfl⟩
            generalize right wordL ⟨k, n, t, ws⟩ = R at *
            generalize most k = M at *
            clear hr h5 h6 hk
            rcases k34 with k3 | ⟨k3, k4⟩
            all_goals
              by_cases h0 : 0 ≤ n
              · have hd0 : decide ((0 : Int) ≤ n) = true := decide_eq_true h0
                by_cases hM : n ≤ M
                · go_enter Tryz.func21, Tryz.ntmps21
                  go_wp2_with fail
                  go_quiet (first | (go_at_call 44; exact Calls.quiet_of_same (Hmo.out _)))
                  go_wp2_with fail
                  go_ret
                  exact ⟨ret_bool (by rw [HR.out, hd0, decide_eq_true (p := n ≤ M) (by omega)]; first | rfl | (simp; try omega)), bel_drewN ((Below.refl _ w).alloc (Nat.le_refl _) _) _⟩
                · go_enter Tryz.func21, Tryz.ntmps21
                  go_wp2_with fail
                  go_quiet (first | (go_at_call 44; exact Calls.quiet_of_same (Hmo.out _)))
                  go_wp2_with fail
                  go_ret
                  exact ⟨ret_bool (by rw [HR.out, hd0, decide_eq_false (p := n ≤ M) (by omega)]; first | rfl | (simp; try omega)), bel_drewN ((Below.refl _ w).alloc (Nat.le_refl _) _) _⟩
              · have hd0 : decide ((0 : Int) ≤ n) = false := decide_eq_false h0
                go_enter Tryz.func21, Tryz.ntmps21
                go_wp2_with fail
                go_quiet (fail)
                go_wp2_with fail
                go_ret
                exact ⟨ret_bool (by rw [HR.out, hd0]; simp), bel_drewN ((Below.refl _ w).alloc (Nat.le_refl _) _) _⟩
          · have HR : Hid (right wordL ⟨k, n, t, ws⟩ = false) := Lib.hid (by rw [hr, decide_eq_false (p := k = 1 ∨ k = 2 ∨ k = 3 ∨ k = 4) (by omega)]; simp)
            have k1 : (k == 1) = false := by simp [n1]
            have k2 : (k == 2) = false := by simp [n2]
            have k3 : (k == 3) = false := by simp [n3]
            have k4 : (k == 4) = false := by simp [n4]
            generalize right wordL ⟨k, n, t, ws⟩ = R at *
            clear hr h5 h6 n1 n2 n3 n4
            go_enter Tryz.func21, Tryz.ntmps21
            go_wp2_with fail
            go_ret
            exact ⟨ret_bool (by rw [HR.out]), by go_grown⟩
        · have hm0' : (0 : Int) < (m : Int) := by omega
          generalize right wordL ⟨k, n, t, ws⟩ = R at *
          have HR := Lib.hid hr
          clear hr h5 h6
          go_enter Tryz.func21, Tryz.ntmps21
          go_wp2_with fail
          go_ret
          exact ⟨ret_bool (by rw [HR.out, decide_eq_false hm0]; simp), by go_grown⟩

end Go.Proofs.YtkbamhecbfocbaaGreatDoor.va
