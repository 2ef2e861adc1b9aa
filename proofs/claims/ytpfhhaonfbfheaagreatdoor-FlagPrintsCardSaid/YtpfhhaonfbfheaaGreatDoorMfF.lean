/- Laws and contracts on which the statement rests, part F: each text says what it proves, and its conditions. -/
import Derived.Test.YtpfhhaonfbfheaaGreatDoorMfD
import Derived.Deep.QuietTactic
import Derived.Laws.Concat
import Derived.Deep.Slices
import Derived.Deep.Fields
import Derived.ChangeSame
import Derived.Carry
import Derived.Laws.CopyOwn
import Derived.Laws.MakeOwn
import Derived.Test.YtpfhhaonfbfheaaGreatDoorMfB
import Derived.Deep.RegionHeld3
import Derived.Deep.RegionLaw
import Derived.StillTactics
import Derived.Test.YtpfhhaonfbfheaaGreatDoorMfE
/- The reference's text, Right and Within return the plain functions. Conditions: the value's words lie in memory; it is no greater than 2147483647 bytes and words. -/
namespace Go.Proofs.YtpfhhaonfbfheaaGreatDoor.va
open Go.ChangeShapes Go.WideShapes Go.ChangeAt Go.RowKit gl

theorem pt_bad {s : ByteArray} {k : Nat} {b : UInt8} (hb : s.data.toList[k]? = some b) (hp : prn b = false) : parseText s.data.toList = (zero, 40) := by
  unfold parseText
  rw [all_bad hb hp]
  rfl
theorem pt_good {s : ByteArray} (h : goodTo prn s.data.toList s.size) : parseText s.data.toList = if 200 < s.size then (zero, 42) else (⟨5, 0, s, []⟩, 0) := by
  unfold parseText
  rw [all_good (by simpa using h), if_pos rfl, show s.data.toList.length = s.size by simp, B_toList]
set_option maxHeartbeats 1000000 in
set_option maxRecDepth 100000 in
theorem refText_any (s : ByteArray) (hs : s.size ≤ 2147483647) (w : World) :
    Calls Tryz.prog 126 #[.string s] w fun e w' => e = .returned (res (parseText s.data.toList) (.slice none 0 0)) ∧ Below w.heap.size w w' := by
  go_enter Tryz.func126, Tryz.ntmps126
  go_wp2_with fail
  go_loop [4] (fun i => ∃ k : Nat, k ≤ s.size ∧ i = .int .i64 k ∧ goodTo prn s.data.toList k) (fun i => s.size - (intOf i).toNat)
  case atStart => exact ⟨0, by omega, rfl, fun j b h => by omega⟩
  case round =>
    obtain ⟨k, hk, rfl, hto⟩ := hrel
    by_cases hlt : k < s.size
    · obtain ⟨b, hb, hbk, hb0, hb1⟩ := byteAt s k hlt
      rcases (show b.toNat < 32 ∨ (32 ≤ b.toNat ∧ b.toNat ≤ 126) ∨ 126 < b.toNat by omega) with h | ⟨h, h'⟩ | h
      · have He := Lib.hid (pt_bad hb (prn_no (.inl h)))
        clear hto hb
        go_wp2_with fail
        go_returns
        exact ⟨by rw [He.out]; rfl, by go_grown⟩
      · have Hto := Lib.hid (goodTo_succ hto hb (prn_yes h h'))
        clear hto hb
        go_wp2_with fail
        go_round
        case rel => exact ⟨k + 1, by omega, by go_num, Hto.out⟩
        case measure => simp [intOf]; omega
      · have He := Lib.hid (pt_bad hb (prn_no (.inr h)))
        clear hto hb
        go_wp2_with fail
        go_returns
        exact ⟨by rw [He.out]; rfl, by go_grown⟩
    · obtain rfl : k = s.size := by omega
      have He := Lib.hid (pt_good hto)
      clear hto
      by_cases h200 : 200 < s.size
      · have He2 := Lib.hid (He.out.trans (if_pos h200))
        go_wp2_with fail
        go_returns
        exact ⟨by rw [He2.out]; rfl, by go_grown⟩
      · have He2 := Lib.hid (He.out.trans (if_neg h200))
        go_wp2_with fail
        go_returns
        exact ⟨by rw [He2.out]; rfl, by go_grown⟩

theorem joined_200 (ws : List ByteArray) : decide ((joined ws).length ≤ 200) = decide ((ws.length : Int) - 1 + sz ws ≤ 200) := by
  cases ws with
  | nil => rfl
  | cons x r =>
    have := joined_cons x r
    rw [Bool.eq_iff_iff, decide_eq_true_eq, decide_eq_true_eq, this]
    simp only [List.length_cons]
    omega
theorem sz_take (ws : List ByteArray) (j : Nat) (x : ByteArray) (h : ws[j]? = some x) : sz (ws.take (j + 1)) = sz (ws.take j) + x.size := by
  unfold sz
  rw [List.take_add_one, h]
  simp
theorem sz_take_le (ws : List ByteArray) (j : Nat) : sz (ws.take j) ≤ sz ws := by
  conv => rhs; rw [← List.take_append_drop j ws]
  unfold sz
  rw [List.map_append, List.sum_append]
  omega
theorem sz_joined (ws : List ByteArray) : sz ws ≤ (joined ws).length := by
  cases ws with
  | nil => simp [sz]
  | cons x r =>
    rw [joined_cons]
    omega

set_option maxHeartbeats 2000000 in
set_option maxRecDepth 100000 in
theorem refRight_any (v : Val) (hb : Vb v) (sl : Value) (w : World) (_hV : Vlo w) (hS : Strs w sl v.words) :
    Calls Tryz.prog 128 #[rep v sl] w fun e w' => e = .returned (.bool (right wordL v)) ∧ Below w.heap.size w w' := by
  clear _hV
  obtain ⟨k, n, t, ws⟩ := v
  obtain ⟨hn0, hn1, ht, hl, heach, hj⟩ := hb
  simp only at hn0 hn1 ht hl heach hj hS
  have HS := Lib.hid hS
  have Heach := Lib.hid heach
  have hsz := sz_joined ws
  have Hsz : Hid (sz ws ≤ 140737488355328) := Lib.hid (by omega)
  clear heach hj hsz
  obtain ⟨p, c, rfl, hc, _⟩ := hS
  obtain ⟨m, hm⟩ : ∃ m, ws.length = m := ⟨_, rfl⟩
  have Hm := Lib.hid hm
  rw [hm] at hl hc HS ⊢
  clear hm
  unfold rep
  simp only
  by_cases h5 : k = 5
  · subst h5
    have hr := right_5 (n := n) (t := t) (ws := ws)
    have hwe : ws.isEmpty = decide (m = 0) := by rw [← Hm.out]; cases ws <;> rfl
    have hp := fun W => refText_any t ht W
    rw [hwe] at hr
    generalize right wordL ⟨5, n, t, ws⟩ = R at *
    have HR := Lib.hid hr
    clear hr hwe
    by_cases hm0 : m = 0
    · subst hm0
      have HT : Hid (∃ (a b : Int) (tt : ByteArray) (er : Int), parseText t.data.toList = (⟨a, b, tt, []⟩, er) ∧ (er == 0) = (decide (t.size ≤ 200) && prnAll t.data.toList)) := Lib.hid (by
        have hE : parseText t.data.toList = if prnAll t.data.toList then (if 200 < t.size then (zero, 42) else (⟨5, 0, t, []⟩, 0)) else (zero, 40) := by
          unfold parseText prnAll
          rw [show t.data.toList.length = t.size by simp, B_toList]
        rw [hE]
        cases prnAll t.data.toList with
        | false => exact ⟨0, 0, _, 40, rfl, by simp⟩
        | true =>
          by_cases h : 200 < t.size
          · exact ⟨0, 0, _, 42, by rw [if_pos rfl, if_pos h]; rfl, by rw [decide_eq_false (by omega)]; rfl⟩
          · exact ⟨5, 0, _, 0, by rw [if_pos rfl, if_neg h], by rw [decide_eq_true (by omega)]; rfl⟩)
      obtain ⟨a, b, tt, er, hpt, her⟩ := HT.out
      simp only [hpt] at hp
      have HR2 : Hid (R = ((er == 0) && (n == 0))) := Lib.hid (by
        rw [HR.out, her]
        have : (n == 0) = (decide (0 ≤ n) && decide (n ≤ 0)) := by
          rw [Bool.eq_iff_iff]
          simp only [beq_iff_eq, Bool.and_eq_true, decide_eq_true_eq]
          omega
        rw [this]
        simp [Bool.and_comm])
      clear HR HT hpt her
      unfold res rep at hp
      simp only at hp
      cases he0 : (er == 0) with
      | false =>
        rw [he0] at HR2
        go_enter Tryz.func128, Tryz.ntmps128
        go_wp2_with fail
        refine (hp _).mono ?_
        rintro e w1 ⟨rfl, hb⟩
        obtain ⟨⟨b0, b1, b2, b3⟩, _⟩ := res_cells hb
        have Hb := Lib.hid (((Below.refl _ w).alloc (Nat.le_refl _) _).trans (hb.mono (by simp)))
        clear hb hp
        have d1 := (((Below.refl w1.heap.size w1).alloc (Nat.le_refl _) (.cells #[.int .i64 a, .int .i64 b, .string tt, .slice none 0 0] 98)).cell (p := ⟨w.heap.size, 1, none⟩) (World.block_lt_of_cell? _ _ b1)).trans b1
        go_wp2_with fail
        go_ret
        exact ⟨ret_bool (by rw [HR2.out]; rfl), Hb.out.alloc Hb.out.size _⟩
      | true =>
        rw [he0] at HR2
        cases hn : (n == 0) with
        | false =>
          rw [hn] at HR2
          go_enter Tryz.func128, Tryz.ntmps128
          go_wp2_with fail
          refine (hp _).mono ?_
          rintro e w1 ⟨rfl, hb⟩
          obtain ⟨⟨b0, b1, b2, b3⟩, _⟩ := res_cells hb
          have Hb := Lib.hid (((Below.refl _ w).alloc (Nat.le_refl _) _).trans (hb.mono (by simp)))
          clear hb hp
          have d1 := (((Below.refl w1.heap.size w1).alloc (Nat.le_refl _) (.cells #[.int .i64 a, .int .i64 b, .string tt, .slice none 0 0] 98)).cell (p := ⟨w.heap.size, 1, none⟩) (World.block_lt_of_cell? _ _ b1)).trans b1
          go_wp2_with fail
          go_ret
          exact ⟨ret_bool (by rw [HR2.out]; rfl), Hb.out.alloc Hb.out.size _⟩
        | true =>
          rw [hn] at HR2
          go_enter Tryz.func128, Tryz.ntmps128
          go_wp2_with fail
          refine (hp _).mono ?_
          rintro e w1 ⟨rfl, hb⟩
          obtain ⟨⟨b0, b1, b2, b3⟩, _⟩ := res_cells hb
          have Hb := Lib.hid (((Below.refl _ w).alloc (Nat.le_refl _) _).trans (hb.mono (by simp)))
          clear hb hp
          have d1 := (((Below.refl w1.heap.size w1).alloc (Nat.le_refl _) (.cells #[.int .i64 a, .int .i64 b, .string tt, .slice none 0 0] 98)).cell (p := ⟨w.heap.size, 1, none⟩) (World.block_lt_of_cell? _ _ b1)).trans b1
          go_wp2_with fail
          go_ret
          exact ⟨ret_bool (by rw [HR2.out]; rfl), Hb.out.alloc Hb.out.size _⟩
    · have hm0' : (0 : Int) < (m : Int) := by omega
      go_enter Tryz.func128, Tryz.ntmps128
      go_wp2_with fail
      go_ret
      exact ⟨ret_bool (by rw [HR.out, decide_eq_false hm0]; simp), by go_grown⟩
  · by_cases h6 : k = 6
    · subst h6
      clear h5
      have hr := right_6 (n := n) (t := t) (ws := ws)
      rw [joined_200, Hm.out] at hr
      have HW := Lib.hid fun (x : ByteArray) (hx : x ∈ ws) (W : World) => refIsWord_any x (Heach.out x hx) W
      generalize right wordL ⟨6, n, t, ws⟩ = R at *
      have HR := Lib.hid hr
      clear hr
      cases he : t.toList.isEmpty with
      | false =>
        rw [he] at HR
        go_enter Tryz.func128, Tryz.ntmps128
        go_wp2_with fail
        go_ret
        exact ⟨ret_bool (by rw [HR.out]; simp), by go_grown⟩
      | true =>
        rw [he] at HR
        go_enter Tryz.func128, Tryz.ntmps128
        go_wp2_with fail
        obtain ⟨w2, hw2⟩ : ∃ w2, w2 = w.alloc (.cells #[.int .i64 6, .int .i64 n, .string t, .slice p m c] 98) := ⟨_, rfl⟩
        rw [← hw2]
        have Hb2 : Hid (Below w.heap.size w w2) := Lib.hid (by rw [hw2]; exact (Below.refl _ _).alloc (Nat.le_refl _) _)
        have HS2 := Lib.hid (HS.out.later Hb2.out)
        have hB : w2.heap[w.heap.size]? = some (.cells #[.int .i64 6, .int .i64 n, .string t, .slice p m c] 98) := by rw [hw2]; exact heap_alloc_new w _
        have c3 := cell_of_row w2 w.heap.size 3 _ _ _ hB
        have c1 := cell_of_row w2 w.heap.size 1 _ _ _ hB
        simp only [List.getElem?_toArray, List.getElem?_cons_succ, List.getElem?_cons_zero] at c1 c3
        clear hw2 hB
        go_loop [5, 6] (fun a i => ∃ (j : Nat) (A : Int), j ≤ m ∧ i = .int .i64 j ∧ a = .int .i64 A ∧ A = (m : Int) - 1 + sz (ws.take j) ∧ goodW ws j) (fun _ i => m - (intOf i).toNat)
        case atStart => exact ⟨0, (m : Int) - 1, by omega, rfl, by go_num, by simp [sz], fun j x h => by omega⟩
        case round =>
          obtain ⟨j, A, hj, rfl, rfl, hA, hgo⟩ := hrel
          have HA := Lib.hid hA
          have Hgo := Lib.hid hgo
          have hAb : -1 ≤ A ∧ A ≤ 140739635838975 := by
            have h1 := sz_take_le ws j
            have h2 := Hsz.out
            omega
          obtain ⟨hA0, hA1⟩ := hAb
          clear hA hgo
          by_cases hlt : j < m
          · obtain ⟨b, o, x, rfl, hbl, hx, hcx⟩ := HS2.out.at j hlt
            have hmem := List.mem_of_getElem? hx
            have hxs := Heach.out x hmem
            have Hx := Lib.hid hx
            have hcon := fun W => HW.out x hmem W
            clear hx hmem
            cases hw : wordL x.data.toList with
            | true =>
              rw [hw] at hcon
              have Hw := Lib.hid hw
              clear hw
              go_wp2_with fail
              refine (hcon _).mono ?_
              rintro e w3 ⟨rfl, rfl⟩
              go_wp2_with fail
              go_round
              case rel => exact ⟨j + 1, A + x.size, by omega, by go_num, by go_num, by rw [sz_take ws j x Hx.out, HA.out]; omega, goodW_succ Hgo.out Hx.out Hw.out⟩
              case measure => simp [intOf]; omega
            | false =>
              rw [hw] at hcon
              have Hw := Lib.hid hw
              clear hw
              go_wp2_with fail
              refine (hcon _).mono ?_
              rintro e w3 ⟨rfl, rfl⟩
              go_wp2_with fail
              go_ret
              exact ⟨ret_bool (by rw [HR.out, allW_bad Hx.out Hw.out]; simp), Hb2.out⟩
          · obtain rfl : j = m := by omega
            have hall : allW ws = true := allW_good (by rw [Hm.out]; exact Hgo.out)
            have hA2 : A = (j : Int) - 1 + sz ws := by
              have := HA.out
              rwa [List.take_of_length_le (by rw [Hm.out]; exact Nat.le_refl _)] at this
            have HR2 : Hid (R = ((decide (0 ≤ n) && decide (n ≤ 0)) && (decide (j ≤ 16) && decide (A ≤ 200)))) := Lib.hid (by rw [HR.out, hall, hA2]; simp)
            have hdec : decide ((j : Int) < (j : Int)) = false := by simp
            clear hall hA2
            rcases (show n < 0 ∨ n = 0 ∨ 0 < n by omega) with h | rfl | h
            · have hn : (n == 0) = false := by simp; omega
              go_wp2_with fail
              go_ret
              exact ⟨ret_bool (by rw [HR2.out, decide_eq_false (p := 0 ≤ n) (by omega)]; simp), Hb2.out⟩
            · by_cases h16 : j ≤ 16
              · by_cases h200 : A ≤ 200
                · go_wp2_with fail
                  go_ret
                  exact ⟨ret_bool (by rw [HR2.out, decide_eq_true h16, decide_eq_true h200]; simp; try omega), Hb2.out⟩
                · go_wp2_with fail
                  go_ret
                  exact ⟨ret_bool (by rw [HR2.out, decide_eq_true h16, decide_eq_false (p := A ≤ 200) (by omega)]; simp; try omega), Hb2.out⟩
              · go_wp2_with fail
                go_ret
                exact ⟨ret_bool (by rw [HR2.out, decide_eq_false h16]; simp), Hb2.out⟩
            · have hn : (n == 0) = false := by simp; omega
              go_wp2_with fail
              go_ret
              exact ⟨ret_bool (by rw [HR2.out, decide_eq_false (p := n ≤ 0) (by omega)]; simp), Hb2.out⟩
    · have hr := right_c (n := n) (t := t) (ws := ws) h5 h6
      have hwe : ws.isEmpty = decide (m = 0) := by rw [← Hm.out]; cases ws <;> rfl
      rw [hwe] at hr
      have q5 : (k != 5) = true := by simp [h5]
      have q6 : (k != 6) = true := by simp [h6]
      have q5' : (k == 5) = false := by simp [h5]
      have q6' : (k == 6) = false := by simp [h6]
      cases he : t.toList.isEmpty with
      | false =>
        rw [he] at hr
        generalize right wordL ⟨k, n, t, ws⟩ = R at *
        have HR := Lib.hid hr
        clear hr h5 h6
        go_enter Tryz.func128, Tryz.ntmps128
        go_wp2_with fail
        go_ret
        exact ⟨ret_bool (by rw [HR.out]; simp), by go_grown⟩
      | true =>
        rw [he] at hr
        by_cases hm0 : m = 0
        · subst hm0
          have hK2 : k = 1 ∨ k = 2 ∨ (k = 3 ∨ k = 4) ∨ (k ≠ 1 ∧ k ≠ 2 ∧ k ≠ 3 ∧ k ≠ 4) := by omega
          rcases hK2 with rfl | rfl | hk | ⟨n1, n2, n3, n4⟩
          · have HR : Hid (right wordL ⟨1, n, t, ws⟩ = (decide (0 ≤ n) && decide (n ≤ 1))) := Lib.hid (by rw [hr]; simp [least, most])
            generalize right wordL ⟨1, n, t, ws⟩ = R at *
            clear hr h5 h6
            rcases (show n < 0 ∨ n = 0 ∨ n = 1 ∨ 1 < n by omega) with h | rfl | rfl | h
            · have z0 : (n == 0) = false := by simp; omega
              have z1 : (n == 1) = false := by simp; omega
              go_enter Tryz.func128, Tryz.ntmps128
              go_wp2_with fail
              go_ret
              exact ⟨ret_bool (by rw [HR.out, decide_eq_false (p := 0 ≤ n) (by omega)]; rfl), by go_grown⟩
            · go_enter Tryz.func128, Tryz.ntmps128
              go_wp2_with fail
              go_ret
              exact ⟨ret_bool (by rw [HR.out]; rfl), by go_grown⟩
            · go_enter Tryz.func128, Tryz.ntmps128
              go_wp2_with fail
              go_ret
              exact ⟨ret_bool (by rw [HR.out]; rfl), by go_grown⟩
            · have z0 : (n == 0) = false := by simp; omega
              have z1 : (n == 1) = false := by simp; omega
              go_enter Tryz.func128, Tryz.ntmps128
              go_wp2_with fail
              go_ret
              exact ⟨ret_bool (by rw [HR.out, decide_eq_false (p := n ≤ 1) (by omega)]; simp), by go_grown⟩
          · have HR : Hid (right wordL ⟨2, n, t, ws⟩ = (decide (-4611686018427387904 ≤ n) && decide (n ≤ 4611686018427387904))) := Lib.hid (by rw [hr]; simp [least, most])
            generalize right wordL ⟨2, n, t, ws⟩ = R at *
            clear hr h5 h6
            rcases (show n < -4611686018427387904 ∨ (-4611686018427387904 ≤ n ∧ n ≤ 4611686018427387904) ∨ 4611686018427387904 < n by omega) with h | ⟨h, h'⟩ | h
            · go_enter Tryz.func128, Tryz.ntmps128
              go_wp2_with fail
              go_ret
              exact ⟨ret_bool (by rw [HR.out, decide_eq_false (p := -4611686018427387904 ≤ n) (by omega)]; rfl), by go_grown⟩
            · go_enter Tryz.func128, Tryz.ntmps128
              go_wp2_with fail
              go_ret
              exact ⟨ret_bool (by rw [HR.out, decide_eq_true h, decide_eq_true h']; first | rfl | (simp; try omega)), by go_grown⟩
            · go_enter Tryz.func128, Tryz.ntmps128
              go_wp2_with fail
              go_ret
              exact ⟨ret_bool (by rw [HR.out, decide_eq_false (p := n ≤ 4611686018427387904) (by omega)]; first | (simp; done) | (simp; omega)), by go_grown⟩
          · have HR : Hid (right wordL ⟨k, n, t, ws⟩ = (decide (0 ≤ n) && decide (n ≤ most k))) := Lib.hid (by
              rw [hr, show least k = 0 from by unfold least; rw [if_neg (by omega)], decide_eq_true (p := k = 1 ∨ k = 2 ∨ k = 3 ∨ k = 4) (by omega)]
              simp)
            have Hmo := Lib.hid (most_any k hk)
            have k1 : (k == 1) = false := by simp; omega
            have k2 : (k == 2) = false := by simp; omega
            have k34 : (k == 3) = true ∨ ((k == 3) = false ∧ (k == 4) = true) := by
              rcases hk with rfl | rfl
              · exact .inl rfl
              · exact .inr ⟨rfl, rfl⟩
            generalize right wordL ⟨k, n, t, ws⟩ = R at *
            generalize most k = M at *
            clear hr h5 h6 hk
            rcases k34 with k3 | ⟨k3, k4⟩
            all_goals
              by_cases h0 : 0 ≤ n
              · have hd0 : decide ((0 : Int) ≤ n) = true := decide_eq_true h0
                by_cases hM : n ≤ M
                · go_enter Tryz.func128, Tryz.ntmps128
                  go_wp2_with fail
                  go_quiet (first | (go_at_call 152; exact Calls.quiet_of_same (Hmo.out _)))
                  go_wp2_with fail
                  go_ret
                  exact ⟨ret_bool (by rw [HR.out, hd0, decide_eq_true (p := n ≤ M) (by omega)]; first | rfl | (simp; try omega)), bel_drewN ((Below.refl _ w).alloc (Nat.le_refl _) _) _⟩
                · go_enter Tryz.func128, Tryz.ntmps128
                  go_wp2_with fail
                  go_quiet (first | (go_at_call 152; exact Calls.quiet_of_same (Hmo.out _)))
                  go_wp2_with fail
                  go_ret
                  exact ⟨ret_bool (by rw [HR.out, hd0, decide_eq_false (p := n ≤ M) (by omega)]; first | rfl | (simp; try omega)), bel_drewN ((Below.refl _ w).alloc (Nat.le_refl _) _) _⟩
              · have hd0 : decide ((0 : Int) ≤ n) = false := decide_eq_false h0
                go_enter Tryz.func128, Tryz.ntmps128
                go_wp2_with fail
                go_quiet (fail)
                go_wp2_with fail
                go_ret
                exact ⟨ret_bool (by rw [HR.out, hd0]; simp), bel_drewN ((Below.refl _ w).alloc (Nat.le_refl _) _) _⟩
          · have HR : Hid (right wordL ⟨k, n, t, ws⟩ = false) := Lib.hid (by rw [hr, decide_eq_false (p := k = 1 ∨ k = 2 ∨ k = 3 ∨ k = 4) (by omega)]; simp)
            have k1 : (k == 1) = false := by simp [n1]
            have k2 : (k == 2) = false := by simp [n2]
            have k3 : (k == 3) = false := by simp [n3]
            have k4 : (k == 4) = false := by simp [n4]
            generalize right wordL ⟨k, n, t, ws⟩ = R at *
            clear hr h5 h6 n1 n2 n3 n4
            go_enter Tryz.func128, Tryz.ntmps128
            go_wp2_with fail
            go_ret
            exact ⟨ret_bool (by rw [HR.out]), by go_grown⟩
        · have hm0' : (0 : Int) < (m : Int) := by omega
          generalize right wordL ⟨k, n, t, ws⟩ = R at *
          have HR := Lib.hid hr
          clear hr h5 h6
          go_enter Tryz.func128, Tryz.ntmps128
          go_wp2_with fail
          go_ret
          exact ⟨ret_bool (by rw [HR.out, decide_eq_false hm0]; simp), by go_grown⟩

set_option maxHeartbeats 2000000 in
set_option maxRecDepth 100000 in
theorem refWithin_any (v : Val) (hb : Vb v) (lo hi : Int) (sl : Value) (w : World) (hV : Vlo w) (hS : Strs w sl v.words) :
    Calls Tryz.prog 101 #[rep v sl, .int .i64 lo, .int .i64 hi] w fun e w' => e = .returned (.bool (within wordL v lo hi)) ∧ Below w.heap.size w w' := by
  have HRi := Lib.hid fun (W : World) (hbW : Below w.heap.size w W) => refRight_any v hb sl W (hV.below hbW (Nat.le_refl _)) (hS.below hbW (Nat.le_refl _))
  clear hV hb
  obtain ⟨p, c, rfl, hc, _⟩ := hS
  obtain ⟨k, n, t, ws⟩ := v
  simp only at hc
  obtain ⟨m, hm⟩ : ∃ m, ws.length = m := ⟨_, rfl⟩
  unfold rep at *
  simp only at *
  rw [hm] at HRi hc ⊢
  cases hr : right wordL ⟨k, n, t, ws⟩ with
  | false =>
    have HW := Lib.hid (within_f (lo := lo) (hi := hi) hr)
    rw [hr] at HRi
    clear hr hm
    go_enter Tryz.func101, Tryz.ntmps101
    go_wp2_with fail
    refine (HRi.out _ ((Below.refl _ w).alloc (Nat.le_refl _) _)).mono ?_
    rintro e w1 ⟨rfl, hb⟩
    have Hb := Lib.hid (((Below.refl _ w).alloc (Nat.le_refl _) _).trans (hb.mono (by simp)))
    obtain ⟨⟨b0, b1, b2, b3⟩, _⟩ := res_cells hb
    clear hb
    go_wp2_with fail
    go_ret
    exact ⟨ret_bool (by rw [HW.out]), Hb.out⟩
  | true =>
    have hk := right_kind hr
    simp only at hk
    rw [hr] at HRi
    rcases hk with rfl | rfl | rfl | rfl | rfl | rfl
    · have HW := Lib.hid (within_o (lo := lo) (hi := hi) hr (by simp))
      clear hr hm
      go_enter Tryz.func101, Tryz.ntmps101
      go_wp2_with fail
      refine (HRi.out _ ((Below.refl _ w).alloc (Nat.le_refl _) _)).mono ?_
      rintro e w1 ⟨rfl, hb⟩
      have Hb := Lib.hid (((Below.refl _ w).alloc (Nat.le_refl _) _).trans (hb.mono (by simp)))
      obtain ⟨⟨b0, b1, b2, b3⟩, _⟩ := res_cells hb
      clear hb
      go_wp2_with fail
      go_ret
      exact ⟨ret_bool (by rw [HW.out]), Hb.out⟩
    · have HW := Lib.hid (within_n (lo := lo) (hi := hi) hr (by simp))
      simp only at HW
      clear hr hm
      by_cases h1 : lo ≤ n
      · by_cases h2 : n ≤ hi
        · go_enter Tryz.func101, Tryz.ntmps101
          go_wp2_with fail
          refine (HRi.out _ ((Below.refl _ w).alloc (Nat.le_refl _) _)).mono ?_
          rintro e w1 ⟨rfl, hb⟩
          have Hb := Lib.hid (((Below.refl _ w).alloc (Nat.le_refl _) _).trans (hb.mono (by simp)))
          obtain ⟨⟨b0, b1, b2, b3⟩, _⟩ := res_cells hb
          clear hb
          go_wp2_with fail
          go_ret
          exact ⟨ret_bool (by rw [HW.out]; first | exact decide_eq_true (by omega) | exact (decide_eq_true (by omega)).trans (decide_eq_true (by omega)).symm), Hb.out⟩
        · go_enter Tryz.func101, Tryz.ntmps101
          go_wp2_with fail
          refine (HRi.out _ ((Below.refl _ w).alloc (Nat.le_refl _) _)).mono ?_
          rintro e w1 ⟨rfl, hb⟩
          have Hb := Lib.hid (((Below.refl _ w).alloc (Nat.le_refl _) _).trans (hb.mono (by simp)))
          obtain ⟨⟨b0, b1, b2, b3⟩, _⟩ := res_cells hb
          clear hb
          go_wp2_with fail
          go_ret
          exact ⟨ret_bool (by rw [HW.out]; first | exact decide_eq_false (by omega) | exact (decide_eq_false (by omega)).trans (decide_eq_false (by omega)).symm), Hb.out⟩
      · go_enter Tryz.func101, Tryz.ntmps101
        go_wp2_with fail
        refine (HRi.out _ ((Below.refl _ w).alloc (Nat.le_refl _) _)).mono ?_
        rintro e w1 ⟨rfl, hb⟩
        have Hb := Lib.hid (((Below.refl _ w).alloc (Nat.le_refl _) _).trans (hb.mono (by simp)))
        obtain ⟨⟨b0, b1, b2, b3⟩, _⟩ := res_cells hb
        clear hb
        go_wp2_with fail
        go_ret
        exact ⟨ret_bool (by rw [HW.out]; first | exact decide_eq_false (by omega) | exact (decide_eq_false (by omega)).trans (decide_eq_false (by omega)).symm), Hb.out⟩
    · have HW := Lib.hid (within_n (lo := lo) (hi := hi) hr (by simp))
      simp only at HW
      clear hr hm
      by_cases h1 : lo ≤ n
      · by_cases h2 : n ≤ hi
        · go_enter Tryz.func101, Tryz.ntmps101
          go_wp2_with fail
          refine (HRi.out _ ((Below.refl _ w).alloc (Nat.le_refl _) _)).mono ?_
          rintro e w1 ⟨rfl, hb⟩
          have Hb := Lib.hid (((Below.refl _ w).alloc (Nat.le_refl _) _).trans (hb.mono (by simp)))
          obtain ⟨⟨b0, b1, b2, b3⟩, _⟩ := res_cells hb
          clear hb
          go_wp2_with fail
          go_ret
          exact ⟨ret_bool (by rw [HW.out]; first | exact decide_eq_true (by omega) | exact (decide_eq_true (by omega)).trans (decide_eq_true (by omega)).symm), Hb.out⟩
        · go_enter Tryz.func101, Tryz.ntmps101
          go_wp2_with fail
          refine (HRi.out _ ((Below.refl _ w).alloc (Nat.le_refl _) _)).mono ?_
          rintro e w1 ⟨rfl, hb⟩
          have Hb := Lib.hid (((Below.refl _ w).alloc (Nat.le_refl _) _).trans (hb.mono (by simp)))
          obtain ⟨⟨b0, b1, b2, b3⟩, _⟩ := res_cells hb
          clear hb
          go_wp2_with fail
          go_ret
          exact ⟨ret_bool (by rw [HW.out]; first | exact decide_eq_false (by omega) | exact (decide_eq_false (by omega)).trans (decide_eq_false (by omega)).symm), Hb.out⟩
      · go_enter Tryz.func101, Tryz.ntmps101
        go_wp2_with fail
        refine (HRi.out _ ((Below.refl _ w).alloc (Nat.le_refl _) _)).mono ?_
        rintro e w1 ⟨rfl, hb⟩
        have Hb := Lib.hid (((Below.refl _ w).alloc (Nat.le_refl _) _).trans (hb.mono (by simp)))
        obtain ⟨⟨b0, b1, b2, b3⟩, _⟩ := res_cells hb
        clear hb
        go_wp2_with fail
        go_ret
        exact ⟨ret_bool (by rw [HW.out]; first | exact decide_eq_false (by omega) | exact (decide_eq_false (by omega)).trans (decide_eq_false (by omega)).symm), Hb.out⟩
    · have HW := Lib.hid (within_n (lo := lo) (hi := hi) hr (by simp))
      simp only at HW
      clear hr hm
      by_cases h1 : lo ≤ n
      · by_cases h2 : n ≤ hi
        · go_enter Tryz.func101, Tryz.ntmps101
          go_wp2_with fail
          refine (HRi.out _ ((Below.refl _ w).alloc (Nat.le_refl _) _)).mono ?_
          rintro e w1 ⟨rfl, hb⟩
          have Hb := Lib.hid (((Below.refl _ w).alloc (Nat.le_refl _) _).trans (hb.mono (by simp)))
          obtain ⟨⟨b0, b1, b2, b3⟩, _⟩ := res_cells hb
          clear hb
          go_wp2_with fail
          go_ret
          exact ⟨ret_bool (by rw [HW.out]; first | exact decide_eq_true (by omega) | exact (decide_eq_true (by omega)).trans (decide_eq_true (by omega)).symm), Hb.out⟩
        · go_enter Tryz.func101, Tryz.ntmps101
          go_wp2_with fail
          refine (HRi.out _ ((Below.refl _ w).alloc (Nat.le_refl _) _)).mono ?_
          rintro e w1 ⟨rfl, hb⟩
          have Hb := Lib.hid (((Below.refl _ w).alloc (Nat.le_refl _) _).trans (hb.mono (by simp)))
          obtain ⟨⟨b0, b1, b2, b3⟩, _⟩ := res_cells hb
          clear hb
          go_wp2_with fail
          go_ret
          exact ⟨ret_bool (by rw [HW.out]; first | exact decide_eq_false (by omega) | exact (decide_eq_false (by omega)).trans (decide_eq_false (by omega)).symm), Hb.out⟩
      · go_enter Tryz.func101, Tryz.ntmps101
        go_wp2_with fail
        refine (HRi.out _ ((Below.refl _ w).alloc (Nat.le_refl _) _)).mono ?_
        rintro e w1 ⟨rfl, hb⟩
        have Hb := Lib.hid (((Below.refl _ w).alloc (Nat.le_refl _) _).trans (hb.mono (by simp)))
        obtain ⟨⟨b0, b1, b2, b3⟩, _⟩ := res_cells hb
        clear hb
        go_wp2_with fail
        go_ret
        exact ⟨ret_bool (by rw [HW.out]; first | exact decide_eq_false (by omega) | exact (decide_eq_false (by omega)).trans (decide_eq_false (by omega)).symm), Hb.out⟩
    · have HW := Lib.hid (within_o (lo := lo) (hi := hi) hr (by simp))
      clear hr hm
      go_enter Tryz.func101, Tryz.ntmps101
      go_wp2_with fail
      refine (HRi.out _ ((Below.refl _ w).alloc (Nat.le_refl _) _)).mono ?_
      rintro e w1 ⟨rfl, hb⟩
      have Hb := Lib.hid (((Below.refl _ w).alloc (Nat.le_refl _) _).trans (hb.mono (by simp)))
      obtain ⟨⟨b0, b1, b2, b3⟩, _⟩ := res_cells hb
      clear hb
      go_wp2_with fail
      go_ret
      exact ⟨ret_bool (by rw [HW.out]), Hb.out⟩
    · have HW := Lib.hid (within_6 (lo := lo) (hi := hi) hr rfl)
      simp only [hm] at HW
      clear hr hm
      by_cases h1 : lo ≤ (m : Int)
      · by_cases h2 : (m : Int) ≤ hi
        · go_enter Tryz.func101, Tryz.ntmps101
          go_wp2_with fail
          refine (HRi.out _ ((Below.refl _ w).alloc (Nat.le_refl _) _)).mono ?_
          rintro e w1 ⟨rfl, hb⟩
          have Hb := Lib.hid (((Below.refl _ w).alloc (Nat.le_refl _) _).trans (hb.mono (by simp)))
          obtain ⟨⟨b0, b1, b2, b3⟩, _⟩ := res_cells hb
          clear hb
          go_wp2_with fail
          go_ret
          exact ⟨ret_bool (by rw [HW.out]; first | exact decide_eq_true (by omega) | exact (decide_eq_true (by omega)).trans (decide_eq_true (by omega)).symm), Hb.out⟩
        · go_enter Tryz.func101, Tryz.ntmps101
          go_wp2_with fail
          refine (HRi.out _ ((Below.refl _ w).alloc (Nat.le_refl _) _)).mono ?_
          rintro e w1 ⟨rfl, hb⟩
          have Hb := Lib.hid (((Below.refl _ w).alloc (Nat.le_refl _) _).trans (hb.mono (by simp)))
          obtain ⟨⟨b0, b1, b2, b3⟩, _⟩ := res_cells hb
          clear hb
          go_wp2_with fail
          go_ret
          exact ⟨ret_bool (by rw [HW.out]; first | exact decide_eq_false (by omega) | exact (decide_eq_false (by omega)).trans (decide_eq_false (by omega)).symm), Hb.out⟩
      · go_enter Tryz.func101, Tryz.ntmps101
        go_wp2_with fail
        refine (HRi.out _ ((Below.refl _ w).alloc (Nat.le_refl _) _)).mono ?_
        rintro e w1 ⟨rfl, hb⟩
        have Hb := Lib.hid (((Below.refl _ w).alloc (Nat.le_refl _) _).trans (hb.mono (by simp)))
        obtain ⟨⟨b0, b1, b2, b3⟩, _⟩ := res_cells hb
        clear hb
        go_wp2_with fail
        go_ret
        exact ⟨ret_bool (by rw [HW.out]; first | exact decide_eq_false (by omega) | exact (decide_eq_false (by omega)).trans (decide_eq_false (by omega)).symm), Hb.out⟩
end Go.Proofs.YtpfhhaonfbfheaaGreatDoor.va
/- The reference's digits, greatest and Print return the plain functions. Conditions: the value's words lie in memory; it is no greater than 2147483647 bytes and words. -/
namespace Go.Proofs.YtpfhhaonfbfheaaGreatDoor.va
open Go.ChangeShapes Go.WideShapes Go.ChangeAt Go.RowKit gl

def ten : ByteArray := ⟨#[48, 49, 50, 51, 52, 53, 54, 55, 56, 57]⟩
theorem ten_at (d : Nat) (h : d < 10) : ten.extract d (d + 1) = B [UInt8.ofNat (48 + d)] := by
  rcases (show d = 0 ∨ d = 1 ∨ d = 2 ∨ d = 3 ∨ d = 4 ∨ d = 5 ∨ d = 6 ∨ d = 7 ∨ d = 8 ∨ d = 9 by omega) with rfl | rfl | rfl | rfl | rfl | rfl | rfl | rfl | rfl | rfl <;> decide +kernel
theorem ten_slice (d : Nat) (h : d < 10) (w : World) : (Instr.slice 9 (.string ⟨#[48, 49, 50, 51, 52, 53, 54, 55, 56, 57]⟩) (some (.int .i64 (d : Int))) (some (.int .i64 ((d : Int) + 1))) none).run Tryz.prog w = .ok (.string (B [UInt8.ofNat (48 + d)])) w := by
  have := run_slice_string (P := Tryz.prog) (w := w) 9 ten .i64 .i64 (d : Int) ((d : Int) + 1) Tryz.underlying9 (by omega) (by omega) (by show (d : Int) + 1 ≤ 10; omega)
  rw [show ((d : Int)).toNat = d by omega, show ((d : Int) + 1).toNat = d + 1 by omega, ten_at d h] at this
  exact this

theorem best_at {k n : Int} {j : Nat} (hj : j < 3) (hn : n ≠ 0) (hno : ∀ q, q < j → n % unit k (uname k (3 - q)) ≠ 0) (hyes : n % unit k (uname k (3 - j)) = 0) : best k n = 3 - j := by
  unfold best
  rw [if_neg hn]
  rcases (show j = 0 ∨ j = 1 ∨ j = 2 by omega) with rfl | rfl | rfl
  · rw [if_pos hyes]
  · rw [if_neg (hno 0 (by omega)), if_pos hyes]
  · rw [if_neg (hno 0 (by omega)), if_neg (hno 1 (by omega)), if_pos hyes]
theorem best_none {k n : Int} (hno : n = 0 ∨ ∀ q, q < 3 → n % unit k (uname k (3 - q)) ≠ 0) : best k n = 0 := by
  unfold best
  rcases hno with h | h
  · rw [if_pos h]
  · split
    · rfl
    · rw [if_neg (h 0 (by omega)), if_neg (h 1 (by omega)), if_neg (h 2 (by omega))]
end Go.Proofs.YtpfhhaonfbfheaaGreatDoor.va
/- The reference's number, whole and united return the plain functions. Condition: the text is no longer than 2147483647 bytes. -/
namespace Go.Proofs.YtpfhhaonfbfheaaGreatDoor.va
open Go.ChangeShapes Go.WideShapes Go.ChangeAt Go.RowKit gl

def capN (l : List UInt8) : Nat := min (decN 0 l) 4611686018427387905
theorem capN_snoc (l : List UInt8) (j : Nat) (b : UInt8) (hb : l[j]? = some b) : capN (l.take (j + 1)) = if capN (l.take j) ≤ 461168601842738790 then min (capN (l.take j) * 10 + (b.toNat - 48)) 4611686018427387905 else 4611686018427387905 := by
  unfold capN
  rw [List.take_add_one, hb]
  simp only [Option.toList_some]
  rw [decN_snoc]
  generalize decN 0 (l.take j) = d
  split <;> omega
theorem capN_le (l : List UInt8) : capN l ≤ 4611686018427387905 := Nat.min_le_right _ _

set_option maxHeartbeats 1000000 in
set_option maxRecDepth 100000 in
theorem refNumber_any (s : ByteArray) (hs : s.size ≤ 2147483647) (w : World) :
    Calls Tryz.prog 150 #[.string s] w fun e w' => NumOut s.data.toList e ∧ w' = w := by
  have hsz : s.data.toList.length = s.size := by simp
  go_enter Tryz.func150, Tryz.ntmps150
  go_wp2_with fail
  go_loop [4, 5] (fun n i => ∃ (j N : Nat), j ≤ s.size ∧ i = .int .i64 j ∧ n = .int .i64 N ∧ N = capN (s.data.toList.take j) ∧ goodTo isDig s.data.toList j) (fun _ i => s.size - (intOf i).toNat)
  case atStart => exact ⟨0, 0, by omega, rfl, rfl, rfl, fun j b h => by omega⟩
  case round =>
    obtain ⟨j, N, hj, rfl, rfl, hN, hto⟩ := hrel
    have hNb : N ≤ 4611686018427387905 := by rw [hN]; exact capN_le _
    have HN := Lib.hid hN
    clear hN
    by_cases hlt : j < s.size
    · obtain ⟨b, hb, hbk, hb0, hb1⟩ := byteAt s j hlt
      rcases (show b.toNat < 48 ∨ (48 ≤ b.toNat ∧ b.toNat ≤ 57) ∨ 57 < b.toNat by omega) with h | ⟨h, h'⟩ | h
      · have Hbad := Lib.hid (num_bad (all_bad hb (dig_no (.inl h))))
        clear hb hto
        go_wp2_with fail
        go_ret2
        exact ⟨⟨_, _, rfl, okNum_none Hbad.out _, by omega, by omega⟩, rfl⟩
      · have Hst := Lib.hid (capN_snoc s.data.toList j b hb)
        have Hto := Lib.hid (goodTo_succ hto hb (dig_yes h h'))
        have hsub : IntKind.u8.wrap ((b.toNat : Int) - 48) = ((b.toNat - 48 : Nat) : Int) := by rw [IntKind.wrap_u8]; omega
        clear hb hto
        by_cases hle : N ≤ 461168601842738790
        · have HN2 : Hid (min (N * 10 + (b.toNat - 48)) 4611686018427387905 = capN (s.data.toList.take (j + 1))) := Lib.hid (by rw [Hst.out, ← HN.out, if_pos hle])
          by_cases hmin : N * 10 + (b.toNat - 48) ≤ 4611686018427387905
          · have HN3 : Hid (N * 10 + (b.toNat - 48) = capN (s.data.toList.take (j + 1))) := Lib.hid (by rw [← HN2.out, Nat.min_eq_left hmin])
            have hle' : (N : Int) ≤ 461168601842738790 := by omega
            have hmin' : (10 : Int) * N + ((b.toNat - 48 : Nat) : Int) ≤ 4611686018427387905 := by omega
            go_wp2_with fail
            all_goals
              first
                | (exfalso; omega)
                | (go_round
                   case rel => exact ⟨j + 1, N * 10 + (b.toNat - 48), by omega, by go_num, by go_num, HN3.out, Hto.out⟩
                   case measure => simp [intOf]; omega)
          · have HN3 : Hid (4611686018427387905 = capN (s.data.toList.take (j + 1))) := Lib.hid (by rw [← HN2.out, Nat.min_eq_right (by omega)])
            have hle' : (N : Int) ≤ 461168601842738790 := by omega
            have hmin' : ¬ (10 : Int) * N + ((b.toNat - 48 : Nat) : Int) ≤ 4611686018427387905 := by omega
            go_wp2_with fail
            all_goals
              first
                | (exfalso; omega)
                | (go_round
                   case rel => exact ⟨j + 1, 4611686018427387905, by omega, by go_num, by go_num, HN3.out, Hto.out⟩
                   case measure => simp [intOf]; omega)
        · have HN3 : Hid (4611686018427387905 = capN (s.data.toList.take (j + 1))) := Lib.hid (by rw [Hst.out, ← HN.out, if_neg hle])
          have hle' : ¬ (N : Int) ≤ 461168601842738790 := by omega
          go_wp2_with fail
          go_round
          case rel => exact ⟨j + 1, 4611686018427387905, by omega, by go_num, rfl, HN3.out, Hto.out⟩
          case measure => simp [intOf]; omega
      · have Hbad := Lib.hid (num_bad (all_bad hb (dig_no (.inr h))))
        clear hb hto
        go_wp2_with fail
        go_ret2
        exact ⟨⟨_, _, rfl, okNum_none Hbad.out _, by omega, by omega⟩, rfl⟩
    · obtain rfl : j = s.size := by omega
      have hall : s.data.toList.all isDig = true := all_good (by simpa using hto)
      have hN2 : N = capN s.data.toList := by
        have := HN.out
        rwa [List.take_of_length_le (by omega)] at this
      clear hto HN
      have hdec : decide ((s.size : Int) < (s.size : Int)) = false := by simp
      rcases num_cases _ hall with ⟨h0, hn⟩ | ⟨r, h0, hr, hn⟩ | ⟨h0, h48, hn⟩
      · have he : s.toList.isEmpty = true := by rw [ByteArray.toList_eq, h0]; rfl
        have Hn := Lib.hid hn
        clear h0 hn hall hN2
        go_wp2_with fail
        go_ret2
        exact ⟨⟨_, _, rfl, okNum_none Hn.out _, by omega, by omega⟩, rfl⟩
      · have he : s.toList.isEmpty = false := by rw [ByteArray.toList_eq, h0]; rfl
        have h2 : 1 < s.size := by
          have := List.length_pos_iff.2 hr
          rw [h0] at hsz
          simp at hsz
          omega
        have h21 : ((s.size : Int) == 1) = false := by simp; omega
        obtain ⟨b, hb, hbk, _, _⟩ := byteAt s 0 (by omega)
        rw [h0] at hb
        obtain rfl : b = 48 := by simpa using hb.symm
        have Hn := Lib.hid hn
        clear h0 hn hall hb hN2
        go_wp2_with fail
        go_ret2
        exact ⟨⟨_, _, rfl, okNum_none Hn.out _, by omega, by omega⟩, rfl⟩
      · have he : s.toList.isEmpty = false := by
          rw [ByteArray.toList_eq]
          cases hl : s.data.toList with
          | nil => exact absurd hl h0
          | cons => rfl
        have hpos : 0 < s.size := by
          have := List.length_pos_iff.2 h0
          omega
        have Hn : Hid (num s.data.toList = some N) := Lib.hid (by rw [hn, hN2]; rfl)
        obtain ⟨b, hb, hbk, _, _⟩ := byteAt s 0 hpos
        by_cases hb48 : b.toNat = 48
        · have h1 : s.size = 1 := by
            have : b = 48 := UInt8.toNat_inj.1 hb48
            subst this
            cases hl : s.data.toList with
            | nil => exact absurd hl h0
            | cons c r =>
              rw [hl] at hb hsz
              simp at hb
              subst hb
              have := h48 r hl
              subst this
              simpa using hsz.symm
          have hb48' : ((b.toNat : Int) != 48) = false := by simp [hb48]
          have h11 : ((s.size : Int) == 1) = true := by simp [h1]
          clear hb h48 h0 hn hall hN2
          go_wp2_with fail
          go_ret2
          exact ⟨⟨_, _, rfl, okNum_some Hn.out, by omega, by omega⟩, rfl⟩
        · have hb48' : ((b.toNat : Int) != 48) = true := by simp; omega
          clear hb h48 h0 hn hall hN2
          go_wp2_with fail
          go_ret2
          exact ⟨⟨_, _, rfl, okNum_some Hn.out, by omega, by omega⟩, rfl⟩
end Go.Proofs.YtpfhhaonfbfheaaGreatDoor.va
/- The reference's whole and united return the plain functions. Condition: the text is no longer than 2147483647 bytes. -/
namespace Go.Proofs.YtpfhhaonfbfheaaGreatDoor.va
open Go.ChangeShapes Go.WideShapes Go.ChangeAt Go.RowKit gl

set_option maxHeartbeats 1000000 in
set_option maxRecDepth 100000 in
theorem refWhole_any (s : ByteArray) (hs : s.size ≤ 2147483647) (w : World) :
    Calls Tryz.prog 124 #[.string s] w fun e w' => e = .returned (res (parseInt s.data.toList) (.slice none 0 0)) ∧ Below w.heap.size w w' := by
  have hE := parseInt_eq s.data.toList
  by_cases hneg : s.data.toList.head? = some 45
  · simp only [hneg, if_true, true_and] at hE
    have hpos : 0 < s.size := by
      cases hl : s.data.toList with
      | nil => rw [hl] at hneg; cases hneg
      | cons c r =>
        have := congrArg List.length hl
        simp at this
        omega
    have he : s.toList.isEmpty = false := by
      rw [ByteArray.toList_eq]
      cases hl : s.data.toList with
      | nil => rw [hl] at hneg; cases hneg
      | cons => rfl
    obtain ⟨b, hb, hbk, _, _⟩ := byteAt s 0 hpos
    have hb45 : b = 45 := by
      rw [List.head?_eq_getElem?, hb] at hneg
      exact Option.some.inj hneg
    subst hb45
    have hsl : ∀ wx : World, (Instr.slice 9 (.string s) (some (.int .i64 1)) none none).run Tryz.prog wx = .ok (.string (s.extract 1 s.size)) wx := fun wx => by
      rw [run_slice_string_from_if (h := Tryz.underlying9), if_pos (by omega)]
      rfl
    have htl : (s.extract 1 s.size).data.toList = s.data.toList.tail := by rw [drop_ba, List.drop_one]
    have hne : s.extract 1 s.size ≠ s := by
      intro e
      have h1 := congrArg ByteArray.size e
      rw [ByteArray.size_extract] at h1
      omega
    have hne1 : ((s.extract 1 s.size).toList == s.toList) = false := seq_false hne
    have hne2 : ((s.extract 1 s.size).toList != s.toList) = true := by rw [bne, hne1]; rfl
    have hN := fun W => refNumber_any (s.extract 1 s.size) (by rw [ByteArray.size_extract]; omega) W
    rw [htl] at hN
    have HE := Lib.hid hE
    clear hE hneg hb htl hne
    generalize s.extract 1 s.size = t at *
    go_enter Tryz.func124, Tryz.ntmps124
    go_wp2_with fail
    refine (hN _).mono ?_
    rintro e w1 ⟨⟨n, ok, rfl, hok, hn0, hn1⟩, rfl⟩
    cases ok with
    | false =>
      have He : Hid (parseInt s.data.toList = (zero, 40)) := Lib.hid (by rw [HE.out, okNum_f hok])
      clear hok
      go_wp2_with fail
      go_returns
      exact ⟨by rw [He.out]; rfl, by go_grown⟩
    | true =>
      obtain ⟨m, hm, rfl⟩ := okNum_t hok
      have HE2 := Lib.hid (HE.out.trans (by rw [hm]))
      simp only at HE2
      clear hok hm
      by_cases h0 : m = 0
      · have He : Hid (parseInt s.data.toList = (zero, 40)) := Lib.hid (by rw [HE2.out, if_pos h0])
        subst h0
        go_wp2_with fail
        go_returns
        exact ⟨by rw [He.out]; rfl, by go_grown⟩
      · have h0' : ((m : Int) == 0) = false := by simp; omega
        by_cases h62 : 4611686018427387904 < m
        · have He : Hid (parseInt s.data.toList = (zero, 41)) := Lib.hid (by rw [HE2.out, if_neg h0, if_pos h62])
          go_wp2_with fail
          go_returns
          exact ⟨by rw [He.out]; rfl, by go_grown⟩
        · have He : Hid (parseInt s.data.toList = (⟨2, -(m : Int), ByteArray.empty, []⟩, 0)) := Lib.hid (by rw [HE2.out, if_neg h0, if_neg h62])
          go_wp2_with fail
          go_returns
          exact ⟨by rw [He.out]; rfl, by go_grown⟩
  · simp only [hneg, if_false, false_and] at hE
    have htest : s.toList.isEmpty = true ∨ (s.toList.isEmpty = false ∧ ∃ b : UInt8, 0 < s.size ∧ (∀ h' : 0 < s.size, ((s[0]'h').toNat : Int) = (b.toNat : Int)) ∧ ((b.toNat : Int) == 45) = false) := by
      cases hl : s.data.toList with
      | nil => exact .inl (by rw [ByteArray.toList_eq, hl]; rfl)
      | cons c r =>
        have hpos : 0 < s.size := by
          have := congrArg List.length hl
          simp at this
          omega
        obtain ⟨b, hb, hbk, _, _⟩ := byteAt s 0 hpos
        refine .inr ⟨by rw [ByteArray.toList_eq, hl]; rfl, b, hpos, hbk, ?_⟩
        rw [beq_eq_false_iff_ne]
        intro e
        refine hneg ?_
        rw [List.head?_eq_getElem?, hb]
        congr 1
        exact UInt8.toNat_inj.1 (by show b.toNat = 45; omega)
    have hN := fun W => refNumber_any s hs W
    have heq1 : (s.toList == s.toList) = true := seq_true rfl
    have heq2 : (s.toList != s.toList) = false := by rw [bne, heq1]; rfl
    have HE := Lib.hid hE
    clear hE hneg
    rcases htest with he | ⟨he, b, hpos, hbk, hb45⟩
    all_goals
      go_enter Tryz.func124, Tryz.ntmps124
      go_wp2_with fail
      refine (hN _).mono ?_
      rintro e w1 ⟨⟨n, ok, rfl, hok, hn0, hn1⟩, rfl⟩
      cases ok with
      | false =>
        have He : Hid (parseInt s.data.toList = (zero, 40)) := Lib.hid (by rw [HE.out, okNum_f hok])
        clear hok
        go_wp2_with fail
        go_returns
        exact ⟨by rw [He.out]; rfl, by go_grown⟩
      | true =>
        obtain ⟨m, hm, rfl⟩ := okNum_t hok
        have HE2 := Lib.hid (HE.out.trans (by rw [hm]))
        simp only at HE2
        clear hok hm
        by_cases h62 : 4611686018427387904 < m
        · have He : Hid (parseInt s.data.toList = (zero, 41)) := Lib.hid (by rw [HE2.out, if_pos h62])
          by_cases h0 : m = 0
          · omega
          · have h0' : ((m : Int) == 0) = false := by simp; omega
            go_wp2_with fail
            go_returns
            exact ⟨by rw [He.out]; rfl, by go_grown⟩
        · have He : Hid (parseInt s.data.toList = (⟨2, (m : Int), ByteArray.empty, []⟩, 0)) := Lib.hid (by rw [HE2.out, if_neg h62])
          by_cases h0 : m = 0
          · have h0' : ((m : Int) == 0) = true := by simp [h0]
            clear h0
            go_wp2_with fail
            go_returns
            exact ⟨by rw [He.out]; rfl, by go_grown⟩
          · have h0' : ((m : Int) == 0) = false := by simp; omega
            go_wp2_with fail
            go_returns
            exact ⟨by rw [He.out]; rfl, by go_grown⟩

set_option maxHeartbeats 1000000 in
set_option maxRecDepth 100000 in
theorem refUnited_any (k : Int) (hk : k = 3 ∨ k = 4) (s : ByteArray) (hs : s.size ≤ 2147483647) (w : World) :
    Calls Tryz.prog 125 #[.int .i64 k, .string s] w fun e w' => e = .returned (res (parseUnit k s.data.toList) (.slice none 0 0)) ∧ Below w.heap.size w w' := by
  have hdl : digs s.data.toList ≤ s.size := by have := digs_le s.data.toList; simpa using this
  have hM : 0 ≤ most k ∧ most k ≤ 1125899906842624 := by rcases hk with rfl | rfl <;> decide
  have hmo := most_any k hk
  have hsl1 : ∀ wx : World, (Instr.slice 9 (.string s) none (some (.int .i64 ((digs s.data.toList : Nat) : Int))) none).run Tryz.prog wx = .ok (.string (s.extract 0 (digs s.data.toList))) wx := fun wx => by
    rw [run_slice_string_to_if (h := Tryz.underlying9), if_pos (by omega)]
    rfl
  have hsl2 : ∀ wx : World, (Instr.slice 9 (.string s) (some (.int .i64 ((digs s.data.toList : Nat) : Int))) none none).run Tryz.prog wx = .ok (.string (s.extract (digs s.data.toList) s.size)) wx := fun wx => by
    rw [run_slice_string_from_if (h := Tryz.underlying9), if_pos (by omega)]
    rfl
  have hN := fun W => refNumber_any (s.extract 0 (digs s.data.toList)) (by rw [ByteArray.size_extract]; omega) W
  rw [take_ba] at hN
  have hU : ∀ W, Calls Tryz.prog 151 #[.int .i64 k, .string (s.extract (digs s.data.toList) s.size)] W fun e w' => e = .returned (.int .i64 (unit k (s.data.toList.drop (digs s.data.toList)))) ∧ w' = W := fun W => by
    have := refUnit_any k (s.extract (digs s.data.toList) s.size) W
    rwa [drop_ba] at this
  have HE : Hid (parseUnit k s.data.toList = match num (s.data.toList.take (digs s.data.toList)) with
    | none => (zero, 40)
    | some n => if tail k s.data.toList = 0 then (zero, 40) else if most k / tail k s.data.toList < n then (zero, 41) else (⟨k, n * tail k s.data.toList, ByteArray.empty, []⟩, 0)) := Lib.hid rfl
  have htail : (∃ q : Bool, q = true ∧ ((k == 4) = true ∧ (s.toList == [48]) = true) ∧ tail k s.data.toList = 1) ∨ (((k == 4) = false ∨ ((k == 4) = true ∧ (s.toList == [48]) = false)) ∧ tail k s.data.toList = unit k (s.data.toList.drop (digs s.data.toList))) := by
    by_cases h : k = 4 ∧ s.data.toList = [48]
    · exact .inl ⟨true, rfl, ⟨by simp [h.1], seq_lit h.2⟩, by unfold tail; rw [if_pos h]⟩
    · refine .inr ⟨?_, by unfold tail; rw [if_neg h]⟩
      by_cases h4 : k = 4
      · exact .inr ⟨by simp [h4], seq_nlit fun e => h ⟨h4, e⟩⟩
      · exact .inl (by simp [h4])
  have hub := unit_nonneg k (s.data.toList.drop (digs s.data.toList))
  have HD : Hid (∀ j, j ≤ s.size → goodTo isDig s.data.toList j → (∀ b, s.data.toList[j]? = some b → isDig b = false) → digs s.data.toList = j) := Lib.hid (fun j hj hg he => digs_at (fun i b hi hb => hg i b hi hb) (by simpa using hj) he)
  generalize tail k s.data.toList = u at *
  generalize most k = M at *
  obtain ⟨T1, hT1⟩ : ∃ T, num (s.data.toList.take (digs s.data.toList)) = T := ⟨_, rfl⟩
  rw [hT1] at HE
  have HT1 := Lib.hid hT1
  clear hT1
  have Hall := Lib.hid (And.intro hsl1 (And.intro hsl2 (And.intro hN hU)))
  have Htail := Lib.hid htail
  have Hmo := Lib.hid hmo
  have Hdl := Lib.hid hdl
  generalize unit k (s.data.toList.drop (digs s.data.toList)) = u0 at *
  obtain ⟨hM0, hM1⟩ := hM
  obtain ⟨hub0, hub1⟩ := hub
  clear hsl1 hsl2 hN hU htail hmo hdl hk
  go_enter Tryz.func125, Tryz.ntmps125
  go_wp2_with fail
  go_loop [6] (fun i => ∃ j : Nat, j ≤ s.size ∧ i = .int .i64 j ∧ goodTo isDig s.data.toList j) (fun i => s.size - (intOf i).toNat)
  case atStart => exact ⟨0, by omega, rfl, fun j b h => by omega⟩
  case round =>
    obtain ⟨j, hj, rfl, hto⟩ := hrel
    by_cases hmore : ∃ b, s.data.toList[j]? = some b ∧ isDig b = true
    · obtain ⟨b0, hb0', hd⟩ := hmore
      have hlt : j < s.size := by have := gl.lt_of_get hb0'; simpa using this
      obtain ⟨b, hb, hbk, hb0, hb1⟩ := byteAt s j hlt
      obtain rfl : b = b0 := Option.some.inj (hb.symm.trans hb0')
      have hd' : 48 ≤ b.toNat ∧ b.toNat ≤ 57 := of_decide_eq_true hd
      obtain ⟨hd1, hd2⟩ := hd'
      have Hto := Lib.hid (goodTo_succ hto hb hd)
      clear hto hb hb0' hd
      go_wp2_with fail
      go_round
      case rel => exact ⟨j + 1, by omega, by go_num, Hto.out⟩
      case measure => simp [intOf]; omega
    · have hdig := HD.out j hj hto (fun b hb => by
        cases h : isDig b with
        | false => rfl
        | true => exact absurd ⟨b, hb, h⟩ hmore)
      obtain ⟨hsl1, hsl2, hN, hU⟩ := Hall.out
      rw [hdig] at hsl1 hsl2 hN hU
      have hT1 := HT1.out
      rw [hdig] at hT1
      have hcond : (¬ (j : Int) < (s.size : Int)) ∨ (∃ b : UInt8, j < s.size ∧ (∀ h' : j < s.size, ((s[j]'h').toNat : Int) = (b.toNat : Int)) ∧ ((b.toNat : Int) < 48 ∨ (48 ≤ (b.toNat : Int) ∧ 57 < (b.toNat : Int)))) := by
        by_cases hlt : j < s.size
        · obtain ⟨b, hb, hbk, _, _⟩ := byteAt s j hlt
          refine .inr ⟨b, hlt, hbk, ?_⟩
          have : ¬ (48 ≤ b.toNat ∧ b.toNat ≤ 57) := fun h => hmore ⟨b, hb, decide_eq_true h⟩
          omega
        · exact .inl (by omega)
      have hNT : ∀ W, Calls Tryz.prog 150 #[.string (s.extract 0 j)] W fun e w' => (∃ (n : Int) (b : Bool), e = .returned (.tuple #[.int .i64 n, .bool b]) ∧ okNum T1 n b ∧ 0 ≤ n ∧ n ≤ 4611686018427387905) ∧ w' = W := fun W => (hN W).mono fun e w' ⟨⟨n, b, he, hok, h1, h2⟩, hw⟩ => ⟨⟨n, b, he, by rw [hT1] at hok; exact hok, h1, h2⟩, hw⟩
      have HNT := Lib.hid hNT
      have HU := Lib.hid hU
      clear hN hU hNT hto hmore hdig HD hT1
      generalize s.extract 0 j = t1 at *
      generalize s.extract j s.size = t2 at *
      rcases hcond with hc0 | ⟨b, hlt, hbk, hc1 | ⟨hc1, hc2⟩⟩
      · rcases Htail.out with ⟨_, _, ⟨k4, s48⟩, hu⟩ | ⟨k4 | ⟨k4, s48⟩, hu⟩
        · rw [hu] at HE
          clear Htail hu
          go_wp2_with fail
          refine (HNT.out _).mono ?_
          rintro e w1 ⟨⟨n, ok, rfl, hok, hn0, hn1⟩, rfl⟩
          go_wp2_with fail
          refine (HU.out _).mono ?_
          rintro e w2 ⟨rfl, rfl⟩
          cases ok with
          | false =>
            have He : Hid (parseUnit k s.data.toList = (zero, 40)) := Lib.hid (by rw [HE.out, okNum_f hok])
            clear hok
            go_wp2_with fail
            go_returns
            exact ⟨by rw [He.out]; rfl, by go_grown⟩
          | true =>
            obtain ⟨m, hm, rfl⟩ := okNum_t hok
            have HE2 := Lib.hid (HE.out.trans (by rw [hm]))
            simp only at HE2
            clear hok hm
            have hq1 : M.tdiv 1 = M := by rw [tdiv_ediv hM0, Int.ediv_one]
            by_cases hgt : M < m
            · have He : Hid (parseUnit k s.data.toList = (zero, 41)) := Lib.hid (by rw [HE2.out, if_neg (by decide), Int.ediv_one, if_pos hgt])
              go_wp2_with fail
              refine (Hmo.out _).mono ?_
              rintro e w3 ⟨rfl, rfl⟩
              go_wp2_with fail
              go_returns
              exact ⟨by rw [He.out]; rfl, by go_grown⟩
            · have He : Hid (parseUnit k s.data.toList = (⟨k, (m : Int) * 1, ByteArray.empty, []⟩, 0)) := Lib.hid (by rw [HE2.out, if_neg (by decide), Int.ediv_one, if_neg hgt])
              rw [Int.mul_one] at He
              go_wp2_with fail
              refine (Hmo.out _).mono ?_
              rintro e w3 ⟨rfl, rfl⟩
              go_wp2_with fail
              go_returns
              exact ⟨by rw [He.out]; rfl, by go_grown⟩
        · rw [hu] at HE
          clear Htail hu
          go_wp2_with fail
          refine (HNT.out _).mono ?_
          rintro e w1 ⟨⟨n, ok, rfl, hok, hn0, hn1⟩, rfl⟩
          go_wp2_with fail
          refine (HU.out _).mono ?_
          rintro e w2 ⟨rfl, rfl⟩
          cases ok with
          | false =>
            have He : Hid (parseUnit k s.data.toList = (zero, 40)) := Lib.hid (by rw [HE.out, okNum_f hok])
            clear hok
            go_wp2_with fail
            go_returns
            exact ⟨by rw [He.out]; rfl, by go_grown⟩
          | true =>
            obtain ⟨m, hm, rfl⟩ := okNum_t hok
            have HE2 := Lib.hid (HE.out.trans (by rw [hm]))
            simp only at HE2
            clear hok hm
            by_cases h0 : u0 = 0
            · have He : Hid (parseUnit k s.data.toList = (zero, 40)) := Lib.hid (by rw [HE2.out, if_pos h0])
              subst h0
              go_wp2_with fail
              go_returns
              exact ⟨by rw [He.out]; rfl, by go_grown⟩
            · have h0' : (u0 == 0) = false := by simp [h0]
              have hq : M.tdiv u0 = M / u0 := tdiv_ediv hM0
              have hqm : 0 ≤ M / u0 ∧ M / u0 ≤ M := ⟨Int.ediv_nonneg hM0 hub0, by
                have := Int.mul_le_mul_of_nonneg_left (show (1 : Int) ≤ u0 by omega) (Int.ediv_nonneg hM0 hub0)
                have := Int.ediv_mul_le M (b := u0) h0
                omega⟩
              have Hmul : Hid ((m : Int) ≤ M / u0 → 0 ≤ (m : Int) * u0 ∧ (m : Int) * u0 ≤ M) := Lib.hid (fun h => ⟨Int.mul_nonneg (by omega) hub0, by
                have h2 := Int.mul_le_mul_of_nonneg_right h hub0
                have h3 := Int.ediv_mul_le M (b := u0) h0
                omega⟩)
              generalize M / u0 = q at *
              obtain ⟨hq0, hqM⟩ := hqm
              have hwq : IntKind.i64.wrap q = q := by rw [IntKind.wrap_i64]; omega
              by_cases hgt : q < m
              · have He : Hid (parseUnit k s.data.toList = (zero, 41)) := Lib.hid (by rw [HE2.out, if_neg h0, if_pos hgt])
                go_wp2_with fail
                refine (Hmo.out _).mono ?_
                rintro e w3 ⟨rfl, rfl⟩
                go_wp2_with fail
                go_returns
                exact ⟨by rw [He.out]; rfl, by go_grown⟩
              · have He : Hid (parseUnit k s.data.toList = (⟨k, m * u0, ByteArray.empty, []⟩, 0)) := Lib.hid (by rw [HE2.out, if_neg h0, if_neg hgt])
                obtain ⟨hp0, hp1⟩ := Hmul.out (by omega)
                go_wp2_with fail
                refine (Hmo.out _).mono ?_
                rintro e w3 ⟨rfl, rfl⟩
                go_wp2_with fail
                go_returns
                exact ⟨by rw [He.out]; rfl, by go_grown⟩
        · rw [hu] at HE
          clear Htail hu
          go_wp2_with fail
          refine (HNT.out _).mono ?_
          rintro e w1 ⟨⟨n, ok, rfl, hok, hn0, hn1⟩, rfl⟩
          go_wp2_with fail
          refine (HU.out _).mono ?_
          rintro e w2 ⟨rfl, rfl⟩
          cases ok with
          | false =>
            have He : Hid (parseUnit k s.data.toList = (zero, 40)) := Lib.hid (by rw [HE.out, okNum_f hok])
            clear hok
            go_wp2_with fail
            go_returns
            exact ⟨by rw [He.out]; rfl, by go_grown⟩
          | true =>
            obtain ⟨m, hm, rfl⟩ := okNum_t hok
            have HE2 := Lib.hid (HE.out.trans (by rw [hm]))
            simp only at HE2
            clear hok hm
            by_cases h0 : u0 = 0
            · have He : Hid (parseUnit k s.data.toList = (zero, 40)) := Lib.hid (by rw [HE2.out, if_pos h0])
              subst h0
              go_wp2_with fail
              go_returns
              exact ⟨by rw [He.out]; rfl, by go_grown⟩
            · have h0' : (u0 == 0) = false := by simp [h0]
              have hq : M.tdiv u0 = M / u0 := tdiv_ediv hM0
              have hqm : 0 ≤ M / u0 ∧ M / u0 ≤ M := ⟨Int.ediv_nonneg hM0 hub0, by
                have := Int.mul_le_mul_of_nonneg_left (show (1 : Int) ≤ u0 by omega) (Int.ediv_nonneg hM0 hub0)
                have := Int.ediv_mul_le M (b := u0) h0
                omega⟩
              have Hmul : Hid ((m : Int) ≤ M / u0 → 0 ≤ (m : Int) * u0 ∧ (m : Int) * u0 ≤ M) := Lib.hid (fun h => ⟨Int.mul_nonneg (by omega) hub0, by
                have h2 := Int.mul_le_mul_of_nonneg_right h hub0
                have h3 := Int.ediv_mul_le M (b := u0) h0
                omega⟩)
              generalize M / u0 = q at *
              obtain ⟨hq0, hqM⟩ := hqm
              have hwq : IntKind.i64.wrap q = q := by rw [IntKind.wrap_i64]; omega
              by_cases hgt : q < m
              · have He : Hid (parseUnit k s.data.toList = (zero, 41)) := Lib.hid (by rw [HE2.out, if_neg h0, if_pos hgt])
                go_wp2_with fail
                refine (Hmo.out _).mono ?_
                rintro e w3 ⟨rfl, rfl⟩
                go_wp2_with fail
                go_returns
                exact ⟨by rw [He.out]; rfl, by go_grown⟩
              · have He : Hid (parseUnit k s.data.toList = (⟨k, m * u0, ByteArray.empty, []⟩, 0)) := Lib.hid (by rw [HE2.out, if_neg h0, if_neg hgt])
                obtain ⟨hp0, hp1⟩ := Hmul.out (by omega)
                go_wp2_with fail
                refine (Hmo.out _).mono ?_
                rintro e w3 ⟨rfl, rfl⟩
                go_wp2_with fail
                go_returns
                exact ⟨by rw [He.out]; rfl, by go_grown⟩
      · rcases Htail.out with ⟨_, _, ⟨k4, s48⟩, hu⟩ | ⟨k4 | ⟨k4, s48⟩, hu⟩
        · rw [hu] at HE
          clear Htail hu
          go_wp2_with fail
          refine (HNT.out _).mono ?_
          rintro e w1 ⟨⟨n, ok, rfl, hok, hn0, hn1⟩, rfl⟩
          go_wp2_with fail
          refine (HU.out _).mono ?_
          rintro e w2 ⟨rfl, rfl⟩
          cases ok with
          | false =>
            have He : Hid (parseUnit k s.data.toList = (zero, 40)) := Lib.hid (by rw [HE.out, okNum_f hok])
            clear hok
            go_wp2_with fail
            go_returns
            exact ⟨by rw [He.out]; rfl, by go_grown⟩
          | true =>
            obtain ⟨m, hm, rfl⟩ := okNum_t hok
            have HE2 := Lib.hid (HE.out.trans (by rw [hm]))
            simp only at HE2
            clear hok hm
            have hq1 : M.tdiv 1 = M := by rw [tdiv_ediv hM0, Int.ediv_one]
            by_cases hgt : M < m
            · have He : Hid (parseUnit k s.data.toList = (zero, 41)) := Lib.hid (by rw [HE2.out, if_neg (by decide), Int.ediv_one, if_pos hgt])
              go_wp2_with fail
              refine (Hmo.out _).mono ?_
              rintro e w3 ⟨rfl, rfl⟩
              go_wp2_with fail
              go_returns
              exact ⟨by rw [He.out]; rfl, by go_grown⟩
            · have He : Hid (parseUnit k s.data.toList = (⟨k, (m : Int) * 1, ByteArray.empty, []⟩, 0)) := Lib.hid (by rw [HE2.out, if_neg (by decide), Int.ediv_one, if_neg hgt])
              rw [Int.mul_one] at He
              go_wp2_with fail
              refine (Hmo.out _).mono ?_
              rintro e w3 ⟨rfl, rfl⟩
              go_wp2_with fail
              go_returns
              exact ⟨by rw [He.out]; rfl, by go_grown⟩
        · rw [hu] at HE
          clear Htail hu
          go_wp2_with fail
          refine (HNT.out _).mono ?_
          rintro e w1 ⟨⟨n, ok, rfl, hok, hn0, hn1⟩, rfl⟩
          go_wp2_with fail
          refine (HU.out _).mono ?_
          rintro e w2 ⟨rfl, rfl⟩
          cases ok with
          | false =>
            have He : Hid (parseUnit k s.data.toList = (zero, 40)) := Lib.hid (by rw [HE.out, okNum_f hok])
            clear hok
            go_wp2_with fail
            go_returns
            exact ⟨by rw [He.out]; rfl, by go_grown⟩
          | true =>
            obtain ⟨m, hm, rfl⟩ := okNum_t hok
            have HE2 := Lib.hid (HE.out.trans (by rw [hm]))
            simp only at HE2
            clear hok hm
            by_cases h0 : u0 = 0
            · have He : Hid (parseUnit k s.data.toList = (zero, 40)) := Lib.hid (by rw [HE2.out, if_pos h0])
              subst h0
              go_wp2_with fail
              go_returns
              exact ⟨by rw [He.out]; rfl, by go_grown⟩
            · have h0' : (u0 == 0) = false := by simp [h0]
              have hq : M.tdiv u0 = M / u0 := tdiv_ediv hM0
              have hqm : 0 ≤ M / u0 ∧ M / u0 ≤ M := ⟨Int.ediv_nonneg hM0 hub0, by
                have := Int.mul_le_mul_of_nonneg_left (show (1 : Int) ≤ u0 by omega) (Int.ediv_nonneg hM0 hub0)
                have := Int.ediv_mul_le M (b := u0) h0
                omega⟩
              have Hmul : Hid ((m : Int) ≤ M / u0 → 0 ≤ (m : Int) * u0 ∧ (m : Int) * u0 ≤ M) := Lib.hid (fun h => ⟨Int.mul_nonneg (by omega) hub0, by
                have h2 := Int.mul_le_mul_of_nonneg_right h hub0
                have h3 := Int.ediv_mul_le M (b := u0) h0
                omega⟩)
              generalize M / u0 = q at *
              obtain ⟨hq0, hqM⟩ := hqm
              have hwq : IntKind.i64.wrap q = q := by rw [IntKind.wrap_i64]; omega
              by_cases hgt : q < m
              · have He : Hid (parseUnit k s.data.toList = (zero, 41)) := Lib.hid (by rw [HE2.out, if_neg h0, if_pos hgt])
                go_wp2_with fail
                refine (Hmo.out _).mono ?_
                rintro e w3 ⟨rfl, rfl⟩
                go_wp2_with fail
                go_returns
                exact ⟨by rw [He.out]; rfl, by go_grown⟩
              · have He : Hid (parseUnit k s.data.toList = (⟨k, m * u0, ByteArray.empty, []⟩, 0)) := Lib.hid (by rw [HE2.out, if_neg h0, if_neg hgt])
                obtain ⟨hp0, hp1⟩ := Hmul.out (by omega)
                go_wp2_with fail
                refine (Hmo.out _).mono ?_
                rintro e w3 ⟨rfl, rfl⟩
                go_wp2_with fail
                go_returns
                exact ⟨by rw [He.out]; rfl, by go_grown⟩
        · rw [hu] at HE
          clear Htail hu
          go_wp2_with fail
          refine (HNT.out _).mono ?_
          rintro e w1 ⟨⟨n, ok, rfl, hok, hn0, hn1⟩, rfl⟩
          go_wp2_with fail
          refine (HU.out _).mono ?_
          rintro e w2 ⟨rfl, rfl⟩
          cases ok with
          | false =>
            have He : Hid (parseUnit k s.data.toList = (zero, 40)) := Lib.hid (by rw [HE.out, okNum_f hok])
            clear hok
            go_wp2_with fail
            go_returns
            exact ⟨by rw [He.out]; rfl, by go_grown⟩
          | true =>
            obtain ⟨m, hm, rfl⟩ := okNum_t hok
            have HE2 := Lib.hid (HE.out.trans (by rw [hm]))
            simp only at HE2
            clear hok hm
            by_cases h0 : u0 = 0
            · have He : Hid (parseUnit k s.data.toList = (zero, 40)) := Lib.hid (by rw [HE2.out, if_pos h0])
              subst h0
              go_wp2_with fail
              go_returns
              exact ⟨by rw [He.out]; rfl, by go_grown⟩
            · have h0' : (u0 == 0) = false := by simp [h0]
              have hq : M.tdiv u0 = M / u0 := tdiv_ediv hM0
              have hqm : 0 ≤ M / u0 ∧ M / u0 ≤ M := ⟨Int.ediv_nonneg hM0 hub0, by
                have := Int.mul_le_mul_of_nonneg_left (show (1 : Int) ≤ u0 by omega) (Int.ediv_nonneg hM0 hub0)
                have := Int.ediv_mul_le M (b := u0) h0
                omega⟩
              have Hmul : Hid ((m : Int) ≤ M / u0 → 0 ≤ (m : Int) * u0 ∧ (m : Int) * u0 ≤ M) := Lib.hid (fun h => ⟨Int.mul_nonneg (by omega) hub0, by
                have h2 := Int.mul_le_mul_of_nonneg_right h hub0
                have h3 := Int.ediv_mul_le M (b := u0) h0
                omega⟩)
              generalize M / u0 = q at *
              obtain ⟨hq0, hqM⟩ := hqm
              have hwq : IntKind.i64.wrap q = q := by rw [IntKind.wrap_i64]; omega
              by_cases hgt : q < m
              · have He : Hid (parseUnit k s.data.toList = (zero, 41)) := Lib.hid (by rw [HE2.out, if_neg h0, if_pos hgt])
                go_wp2_with fail
                refine (Hmo.out _).mono ?_
                rintro e w3 ⟨rfl, rfl⟩
                go_wp2_with fail
                go_returns
                exact ⟨by rw [He.out]; rfl, by go_grown⟩
              · have He : Hid (parseUnit k s.data.toList = (⟨k, m * u0, ByteArray.empty, []⟩, 0)) := Lib.hid (by rw [HE2.out, if_neg h0, if_neg hgt])
                obtain ⟨hp0, hp1⟩ := Hmul.out (by omega)
                go_wp2_with fail
                refine (Hmo.out _).mono ?_
                rintro e w3 ⟨rfl, rfl⟩
                go_wp2_with fail
                go_returns
                exact ⟨by rw [He.out]; rfl, by go_grown⟩
      · rcases Htail.out with ⟨_, _, ⟨k4, s48⟩, hu⟩ | ⟨k4 | ⟨k4, s48⟩, hu⟩
        · rw [hu] at HE
          clear Htail hu
          go_wp2_with fail
          refine (HNT.out _).mono ?_
          rintro e w1 ⟨⟨n, ok, rfl, hok, hn0, hn1⟩, rfl⟩
          go_wp2_with fail
          refine (HU.out _).mono ?_
          rintro e w2 ⟨rfl, rfl⟩
          cases ok with
          | false =>
            have He : Hid (parseUnit k s.data.toList = (zero, 40)) := Lib.hid (by rw [HE.out, okNum_f hok])
            clear hok
            go_wp2_with fail
            go_returns
            exact ⟨by rw [He.out]; rfl, by go_grown⟩
          | true =>
            obtain ⟨m, hm, rfl⟩ := okNum_t hok
            have HE2 := Lib.hid (HE.out.trans (by rw [hm]))
            simp only at HE2
            clear hok hm
            have hq1 : M.tdiv 1 = M := by rw [tdiv_ediv hM0, Int.ediv_one]
            by_cases hgt : M < m
            · have He : Hid (parseUnit k s.data.toList = (zero, 41)) := Lib.hid (by rw [HE2.out, if_neg (by decide), Int.ediv_one, if_pos hgt])
              go_wp2_with fail
              refine (Hmo.out _).mono ?_
              rintro e w3 ⟨rfl, rfl⟩
              go_wp2_with fail
              go_returns
              exact ⟨by rw [He.out]; rfl, by go_grown⟩
            · have He : Hid (parseUnit k s.data.toList = (⟨k, (m : Int) * 1, ByteArray.empty, []⟩, 0)) := Lib.hid (by rw [HE2.out, if_neg (by decide), Int.ediv_one, if_neg hgt])
              rw [Int.mul_one] at He
              go_wp2_with fail
              refine (Hmo.out _).mono ?_
              rintro e w3 ⟨rfl, rfl⟩
              go_wp2_with fail
              go_returns
              exact ⟨by rw [He.out]; rfl, by go_grown⟩
        · rw [hu] at HE
          clear Htail hu
          go_wp2_with fail
          refine (HNT.out _).mono ?_
          rintro e w1 ⟨⟨n, ok, rfl, hok, hn0, hn1⟩, rfl⟩
          go_wp2_with fail
          refine (HU.out _).mono ?_
          rintro e w2 ⟨rfl, rfl⟩
          cases ok with
          | false =>
            have He : Hid (parseUnit k s.data.toList = (zero, 40)) := Lib.hid (by rw [HE.out, okNum_f hok])
            clear hok
            go_wp2_with fail
            go_returns
            exact ⟨by rw [He.out]; rfl, by go_grown⟩
          | true =>
            obtain ⟨m, hm, rfl⟩ := okNum_t hok
            have HE2 := Lib.hid (HE.out.trans (by rw [hm]))
            simp only at HE2
            clear hok hm
            by_cases h0 : u0 = 0
            · have He : Hid (parseUnit k s.data.toList = (zero, 40)) := Lib.hid (by rw [HE2.out, if_pos h0])
              subst h0
              go_wp2_with fail
              go_returns
              exact ⟨by rw [He.out]; rfl, by go_grown⟩
            · have h0' : (u0 == 0) = false := by simp [h0]
              have hq : M.tdiv u0 = M / u0 := tdiv_ediv hM0
              have hqm : 0 ≤ M / u0 ∧ M / u0 ≤ M := ⟨Int.ediv_nonneg hM0 hub0, by
                have := Int.mul_le_mul_of_nonneg_left (show (1 : Int) ≤ u0 by omega) (Int.ediv_nonneg hM0 hub0)
                have := Int.ediv_mul_le M (b := u0) h0
                omega⟩
              have Hmul : Hid ((m : Int) ≤ M / u0 → 0 ≤ (m : Int) * u0 ∧ (m : Int) * u0 ≤ M) := Lib.hid (fun h => ⟨Int.mul_nonneg (by omega) hub0, by
                have h2 := Int.mul_le_mul_of_nonneg_right h hub0
                have h3 := Int.ediv_mul_le M (b := u0) h0
                omega⟩)
              generalize M / u0 = q at *
              obtain ⟨hq0, hqM⟩ := hqm
              have hwq : IntKind.i64.wrap q = q := by rw [IntKind.wrap_i64]; omega
              by_cases hgt : q < m
              · have He : Hid (parseUnit k s.data.toList = (zero, 41)) := Lib.hid (by rw [HE2.out, if_neg h0, if_pos hgt])
                go_wp2_with fail
                refine (Hmo.out _).mono ?_
                rintro e w3 ⟨rfl, rfl⟩
                go_wp2_with fail
                go_returns
                exact ⟨by rw [He.out]; rfl, by go_grown⟩
              · have He : Hid (parseUnit k s.data.toList = (⟨k, m * u0, ByteArray.empty, []⟩, 0)) := Lib.hid (by rw [HE2.out, if_neg h0, if_neg hgt])
                obtain ⟨hp0, hp1⟩ := Hmul.out (by omega)
                go_wp2_with fail
                refine (Hmo.out _).mono ?_
                rintro e w3 ⟨rfl, rfl⟩
                go_wp2_with fail
                go_returns
                exact ⟨by rw [He.out]; rfl, by go_grown⟩
        · rw [hu] at HE
          clear Htail hu
          go_wp2_with fail
          refine (HNT.out _).mono ?_
          rintro e w1 ⟨⟨n, ok, rfl, hok, hn0, hn1⟩, rfl⟩
          go_wp2_with fail
          refine (HU.out _).mono ?_
          rintro e w2 ⟨rfl, rfl⟩
          cases ok with
          | false =>
            have He : Hid (parseUnit k s.data.toList = (zero, 40)) := Lib.hid (by rw [HE.out, okNum_f hok])
            clear hok
            go_wp2_with fail
            go_returns
            exact ⟨by rw [He.out]; rfl, by go_grown⟩
          | true =>
            obtain ⟨m, hm, rfl⟩ := okNum_t hok
            have HE2 := Lib.hid (HE.out.trans (by rw [hm]))
            simp only at HE2
            clear hok hm
            by_cases h0 : u0 = 0
            · have He : Hid (parseUnit k s.data.toList = (zero, 40)) := Lib.hid (by rw [HE2.out, if_pos h0])
              subst h0
              go_wp2_with fail
              go_returns
              exact ⟨by rw [He.out]; rfl, by go_grown⟩
            · have h0' : (u0 == 0) = false := by simp [h0]
              have hq : M.tdiv u0 = M / u0 := tdiv_ediv hM0
              have hqm : 0 ≤ M / u0 ∧ M / u0 ≤ M := ⟨Int.ediv_nonneg hM0 hub0, by
                have := Int.mul_le_mul_of_nonneg_left (show (1 : Int) ≤ u0 by omega) (Int.ediv_nonneg hM0 hub0)
                have := Int.ediv_mul_le M (b := u0) h0
                omega⟩
              have Hmul : Hid ((m : Int) ≤ M / u0 → 0 ≤ (m : Int) * u0 ∧ (m : Int) * u0 ≤ M) := Lib.hid (fun h => ⟨Int.mul_nonneg (by omega) hub0, by
                have h2 := Int.mul_le_mul_of_nonneg_right h hub0
                have h3 := Int.ediv_mul_le M (b := u0) h0
                omega⟩)
              generalize M / u0 = q at *
              obtain ⟨hq0, hqM⟩ := hqm
              have hwq : IntKind.i64.wrap q = q := by rw [IntKind.wrap_i64]; omega
              by_cases hgt : q < m
              · have He : Hid (parseUnit k s.data.toList = (zero, 41)) := Lib.hid (by rw [HE2.out, if_neg h0, if_pos hgt])
                go_wp2_with fail
                refine (Hmo.out _).mono ?_
                rintro e w3 ⟨rfl, rfl⟩
                go_wp2_with fail
                go_returns
                exact ⟨by rw [He.out]; rfl, by go_grown⟩
              · have He : Hid (parseUnit k s.data.toList = (⟨k, m * u0, ByteArray.empty, []⟩, 0)) := Lib.hid (by rw [HE2.out, if_neg h0, if_neg hgt])
                obtain ⟨hp0, hp1⟩ := Hmul.out (by omega)
                go_wp2_with fail
                refine (Hmo.out _).mono ?_
                rintro e w3 ⟨rfl, rfl⟩
                go_wp2_with fail
                go_returns
                exact ⟨by rw [He.out]; rfl, by go_grown⟩
end Go.Proofs.YtpfhhaonfbfheaaGreatDoor.va
/- An argument that is a slice of structs whose fields take one cell each, opened: each element's cells and their readings. For any program; no conditions beside those stated. -/
namespace Go.Proofs.YtpfhhaonfbfheaaGreatDoor
open Go.ChangeShapes Go.WideShapes Go.Deep Go.RowKit
section
variable {H : Type} {enc : TypeId × Value → H} {P : Program} {w : World} {base : Nat} {spare : Nat → Bool} {held : Bool}

/-- Each element of a slice of structs: its fields' cells, read. -/
theorem open_rows {t e : TypeId} {fs : Array Field} {v : Value} {d : DataW H} {ps : List MemPlace} (ht : P.underlying t = some (.slice e)) (he : P.underlying e = some (.struct fs))
    (hone : oneCellFields P fs = true) (hC : P.cellsOf e = fs.size) (h : DataW.Trod enc P w base spare held t v d ps) (hv : v.cells.toList = [v]) :
    v = .slice none 0 0 ∨ ∃ (a : Addr) (len cap : Nat), v = .slice (some a) len cap ∧ len ≤ cap ∧ cap ≤ maxLen ∧
      ∀ i, i < len → ∀ (j : Nat) (f : Field), fs[j]? = some f → ∃ (u : Value) (y : DataW H × List MemPlace) (n : Nat), w.cell? (a.add (i * fs.size + j)) = some u ∧ DataW.trod enc P w base spare held n f.type [u] = some y := by
  obtain ⟨fuel, hf⟩ := h
  rw [hv] at hf
  rcases open_slice ht hf with ⟨h0, _⟩ | ⟨a, len, cap, m, n, D, Pl, hcs, hb, hl, hm, hmm, hx, hi⟩
  · simp only [List.cons.injEq, and_true] at h0
    exact .inl h0
  · simp only [List.cons.injEq, and_true] at hcs
    refine .inr ⟨a, len, cap, hcs, hl, hm, fun i him j f hj => ?_⟩
    have him' : i < m := by rw [hmm]; split <;> omega
    obtain ⟨cs', hc, ht'⟩ := hi i him'
    rw [hC] at hc
    obtain ⟨ys, n', hn', hy, hlen, hyl, hf'⟩ := DataW.trod_struct he ht'
    obtain ⟨_, hcl, hat⟩ := World.cells?_some hc
    obtain ⟨ho, hk⟩ := hone_of hone j f hj
    have hjl : j < fs.size := (Array.getElem?_eq_some_iff.1 hj).1
    have hcell := hat j hjl
    have h1 := hf' j f hj
    rw [ho, hk] at h1
    have hone' : (cs'.drop j).take 1 = [cs'[j]'(by omega)] := by
      rw [List.drop_eq_getElem_cons (by omega)]
      rfl
    rw [hone'] at h1
    have hys : ys[j]? = some (ys[j]'(by omega)) := List.getElem?_eq_getElem (by omega)
    exact ⟨_, _, n', by rw [← Go.Deep.add_add, hcell, List.getElem?_eq_getElem (by omega)], h1.trans hys⟩
end

/-- A cell that holds something lies in no view. -/
theorem spot_none {w : World} {a : Addr} {v : Value} (h : w.cell? a = some v) : a.spot = none := by
  unfold World.cell? at h
  split at h
  · split at h
    · cases h
    · rename_i hs
      simpa using hs
  · cases h
theorem add_none {b off k : Nat} : (⟨b, off, none⟩ : Addr).add k = ⟨b, off + k, none⟩ := by
  unfold Addr.add
  split
  · rename_i h; revert h; simp
  · rfl
end Go.Proofs.YtpfhhaonfbfheaaGreatDoor
/- tinderboxlaw04.lent lays a value in new memory, two words behind it; whole tells that it is as it was; ValueWithin returns true. Conditions: the arguments lie in memory; the listed variables hold what the program's text lays. -/
namespace Go.Proofs.YtpfhhaonfbfheaaGreatDoor.va
open Go.ChangeShapes Go.WideShapes Go.ChangeAt Go.RowKit gl

theorem infoStr : (Tryz.prog.info? 9).map (fun i => (i.zero, i.size, i.bytes)) = some (some (.string .empty), 1, 16) := by kernel_rfl
theorem infoSz : (Tryz.prog.info? 9).map (·.size) = some 1 := by kernel_rfl
def blank (n : Nat) : List Value := List.replicate n (.string .empty)
theorem made_blank (n : Nat) : madeCells (Value.cells (.string .empty)) (n * 1) = (blank n).toArray := by
  apply Array.ext_getElem?
  intro i
  simp only [madeCells, Value.cells, blank, List.getElem?_toArray, List.getElem?_replicate, Array.getElem?_map, Nat.mul_one]
  by_cases h : i < n
  · simp [h, Nat.mod_one]
  · simp [h]
theorem makeS (m : Nat) (hm : m ≤ 2147483647) (w : World) : (Instr.makeSlice 38 (.int .i64 ((m : Int) + 2)) (.int .i64 ((m : Int) + 2))).run Tryz.prog w = .ok (.slice (some ⟨w.heap.size, 0, none⟩) (m + 2) (m + 2)) (w.alloc (.cells (blank (m + 2)).toArray 9)) := by
  obtain ⟨i, hi, he⟩ := Option.map_eq_some_iff.1 infoStr
  simp only [Prod.mk.injEq] at he
  obtain ⟨hz, h1, h8⟩ := he
  have h := run_make (P := Tryz.prog) w 38 9 i (.string .empty) Tryz.underlying38 hi hz .i64 .i64 ((m : Int) + 2) ((m : Int) + 2) (by omega) (by omega) (by rw [h8]; omega) (by omega)
  rw [h, h1, show ((m : Int) + 2).toNat = m + 2 by omega, made_blank]
def spare : ByteArray := ⟨#[115, 112, 97, 114, 101]⟩
/-- The words, and what stands behind them. -/
def lentRow (ws : List ByteArray) : List Value := (ws ++ [spare, ByteArray.empty]).map Value.string
theorem splice_lent (ws : List ByteArray) (m : Nat) (hm : ws.length = m) : splice (blank (m + 2)) 0 (ws.map Value.string) = ws.map Value.string ++ blank 2 := by
  unfold splice blank
  rw [List.take_zero, List.nil_append, Nat.zero_add, List.length_map, hm, List.drop_replicate, show m + 2 - m = 2 by omega]
theorem set_lent (ws : List ByteArray) (m : Nat) (hm : ws.length = m) : ((ws.map Value.string ++ blank 2).toArray).setIfInBounds m (.string spare) = (lentRow ws).toArray := by
  rw [List.setIfInBounds_toArray]
  congr 1
  have : m = (ws.map Value.string).length := by simp [hm]
  rw [this, List.set_append_right _ _ (Nat.le_refl _), Nat.sub_self]
  simp [blank, lentRow, List.replicate]
def LentOut (v : Val) (w : World) (e : Ending) (w' : World) : Prop :=
  e = .returned (rep v (.slice (some ⟨w.heap.size + 1 + 1, 0, none⟩) v.words.length (v.words.length + 2))) ∧ w'.heap[w.heap.size + 1 + 1]? = some (.cells (lentRow v.words).toArray 9 (0, 0))

theorem lent_strs {w : World} {g : Nat} {ws : List ByteArray} (h : w.heap[g]? = some (.cells (lentRow ws).toArray 9 (0, 0))) : Strs w (.slice (some ⟨g, 0, none⟩) ws.length (ws.length + 2)) ws :=
  ⟨_, _, rfl, by omega, .inr ⟨g, 0, rfl, lt_of_block h, fun j x hj => by
    have hlt := lt_of_get hj
    rw [cell_of_row w g _ _ _ _ h, Nat.zero_add, List.getElem?_toArray]
    unfold lentRow
    rw [List.getElem?_map, List.getElem?_append_left hlt, hj]
    rfl⟩⟩

end Go.Proofs.YtpfhhaonfbfheaaGreatDoor.va
/- The reference's words returns the plain function. Condition: the text is no longer than 2147483647 bytes. -/
namespace Go.Proofs.YtpfhhaonfbfheaaGreatDoor.va
open Go.ChangeShapes Go.WideShapes Go.ChangeAt Go.RowKit gl

/-- New strings in memory of their own. -/
def FreshR (w w' : World) (sl : Value) (xs : List ByteArray) : Prop :=
  (xs = [] ∧ sl = .slice none 0 0) ∨ ∃ g c cs, sl = .slice (some ⟨g, 0, none⟩) xs.length c ∧ xs.length ≤ c ∧ w.heap.size < g ∧ w'.heap[g]? = some (.cells cs 9 (0, 0)) ∧ ∀ (j : Nat) x, xs[j]? = some x → cs[j]? = some (.string x)
theorem FreshR.strs {w w' : World} {sl : Value} {xs : List ByteArray} (h : FreshR w w' sl xs) : Strs w' sl xs := by
  rcases h with ⟨rfl, rfl⟩ | ⟨g, c, cs, rfl, hc, _, hg, hat⟩
  · exact ⟨none, 0, rfl, Nat.le_refl _, .inl rfl⟩
  · exact ⟨_, c, rfl, hc, .inr ⟨g, 0, rfl, lt_of_block hg, fun j x hj => by rw [Nat.zero_add, cell_of_row _ _ _ _ _ _ hg]; exact hat j x hj⟩⟩
theorem FreshR.out {w w1 W : World} {sl : Value} {xs : List ByteArray} (h : FreshR w w1 sl xs) (_hs : W.heap.size = w1.heap.size) (hW : ∀ k : Nat, k ≠ w.heap.size → W.heap[k]? = w1.heap[k]?) : FreshR w W sl xs := by
  rcases h with h | ⟨g, c, cs, rfl, hc, h1, h2, hat⟩
  · exact .inl h
  · exact .inr ⟨g, c, cs, rfl, hc, h1, (hW g (by omega)).trans h2, hat⟩
def RefOut (r : Val × Int) (w : World) (e : Ending) (w' : World) : Prop := ∃ sl, e = .returned (res r sl) ∧ FreshR w w' sl r.1.words

/-- k bytes have been passed; the piece that is read begins at f; 'done' are the pieces before, words all. -/
structure WS (l : List UInt8) (f k : Nat) (done : List (List UInt8)) : Prop where
  le : f ≤ k
  kl : k ≤ l.length
  eq : pcs 44 l = done ++ pcs 44 (l.drop f)
  free : ∀ j, f ≤ j → j < k → l[j]? ≠ some 44
  ok : done.all wordL = true
  many : done.length ≤ k
theorem WS.start (l : List UInt8) : WS l 0 0 [] := ⟨by omega, by omega, rfl, fun j _ h => by omega, rfl, by simp⟩
theorem WS.pass {l : List UInt8} {f k : Nat} {done : List (List UInt8)} {b : UInt8} (h : WS l f k done) (hb : l[k]? = some b) (hne : b ≠ 44) : WS l f (k + 1) done :=
  ⟨by have := h.le; omega, by have := lt_of_get hb; omega, h.eq, fun j h1 h2 => by
    rcases Nat.lt_or_ge j k with h3 | h3
    · exact h.free j h1 h3
    · obtain rfl : j = k := by omega
      rw [hb]; exact fun e => hne (Option.some.inj e), h.ok, by have := h.many; omega⟩
theorem WS.piece {l : List UInt8} {f k : Nat} {done : List (List UInt8)} (h : WS l f k done) (hb : l[k]? = some 44) : pcs 44 (l.drop f) = (l.drop f).take (k - f) :: pcs 44 (l.drop (k + 1)) := by
  have hle := h.le
  have := pcs_hit 44 (k - f) (l.drop f) (fun j hj => by rw [List.getElem?_drop]; exact h.free (f + j) (by omega) (by omega)) (by rw [List.getElem?_drop, show f + (k - f) = k by omega]; exact hb)
  rw [List.drop_drop, show f + (k - f + 1) = k + 1 by omega] at this
  exact this
theorem WS.lastp {l : List UInt8} {f : Nat} {done : List (List UInt8)} (h : WS l f l.length done) : pcs 44 (l.drop f) = [(l.drop f).take (l.length - f)] := by
  rw [List.take_of_length_le (by simp)]
  exact pcs_none 44 _ fun j => by
    rw [List.getElem?_drop]
    rcases Nat.lt_or_ge (f + j) l.length with h1 | h1
    · exact h.free _ (by omega) h1
    · rw [List.getElem?_eq_none h1]; simp
theorem WS.hit {l : List UInt8} {f k : Nat} {done : List (List UInt8)} (h : WS l f k done) (hb : l[k]? = some 44) (hp : wordL ((l.drop f).take (k - f)) = true) : WS l (k + 1) (k + 1) (done ++ [(l.drop f).take (k - f)]) :=
  ⟨Nat.le_refl _, by have := lt_of_get hb; omega, by rw [h.eq, h.piece hb]; simp, fun j h1 h2 => by omega, by rw [List.all_append, h.ok]; simpa using hp, by have := h.many; simp; omega⟩
theorem WS.fin {l : List UInt8} {f : Nat} {done : List (List UInt8)} (h : WS l f l.length done) (hp : wordL ((l.drop f).take (l.length - f)) = true) : pcs 44 l = done ++ [(l.drop f).take (l.length - f)] ∧ (pcs 44 l).all wordL = true := by
  have e : pcs 44 l = done ++ [(l.drop f).take (l.length - f)] := by rw [h.eq, h.lastp]
  exact ⟨e, by rw [e, List.all_append, h.ok]; simpa using hp⟩
theorem WS.bad {l : List UInt8} {f k : Nat} {done : List (List UInt8)} (h : WS l f k done) (hb : k = l.length ∨ l[k]? = some 44) (hp : wordL ((l.drop f).take (k - f)) = false) (hl : l ≠ []) : parseWords wordL l = (zero, 40) := by
  have hf : (pcs 44 l).all wordL = false := by
    rw [h.eq, List.all_append]
    rcases hb with rfl | hb
    · rw [h.lastp]; simp [hp]
    · rw [h.piece hb]; simp [hp]
  unfold parseWords
  rw [if_neg hl, hf]
  rfl
theorem pw_end {l : List UInt8} {done : List (List UInt8)} (hl : l ≠ []) (h : pcs 44 l = done) (ha : done.all wordL = true) : parseWords wordL l = if 200 < l.length ∨ 16 < done.length then (zero, 42) else (⟨6, 0, ByteArray.empty, done.map B⟩, 0) := by
  unfold parseWords
  rw [if_neg hl, h, ha]
  rfl

/-- What the loop keeps. -/
structure WM (w wr : World) (sl : Value) (done : List (List UInt8)) : Prop where
  res : wr.heap[w.heap.size]? = some (.cells #[.int .i64 0, .int .i64 0, .string ⟨#[]⟩, .slice none 0 0] 98 (0, 0))
  val : wr.heap[w.heap.size + 1]? = some (.cells #[.int .i64 6, .int .i64 0, .string ⟨#[]⟩, sl] 98 (0, 0))
  own : wr.ownsRow (w.heap.size + 1 + 1) 9 1 sl (min done.length 16) (((done.take 16).map B).map Value.string)
  bel : Below w.heap.size w wr
theorem WM.fresh {w wr : World} {sl : Value} {done : List (List UInt8)} (h : WM w wr sl done) (h16 : done.length ≤ 16) : FreshR w wr sl (done.map B) := by
  have ho := h.own
  rw [Nat.min_eq_left h16, List.take_of_length_le h16] at ho
  rcases ho.2 with ⟨rfl, h0⟩ | ⟨g, cap, cur, rfl, hg, hb, hnc, _, _, htake⟩
  · have : done.length = 0 := by omega
    obtain rfl : done = [] := List.eq_nil_of_length_eq_zero this
    exact .inl ⟨rfl, rfl⟩
  · refine .inr ⟨g, cap, cur, by simp, by simpa using hnc, by omega, hb, fun j x hj => ?_⟩
    have hj2 : ((done.map B).map Value.string)[j]? = some (.string x) := by rw [List.getElem?_map, hj]; rfl
    rw [← htake, List.getElem?_take_of_lt (by have := lt_of_get hj; simp at this; omega)] at hj2
    rwa [Array.getElem?_toList] at hj2
theorem take_more {done : List (List UInt8)} {pc : List UInt8} (hlt : done.length < 16) : (((done ++ [pc]).take 16).map B).map Value.string = ((done.take 16).map B).map Value.string ++ [Value.string (B pc)] := by
  rw [List.take_of_length_le (by simp; omega), List.take_of_length_le (by omega)]
  simp
theorem WM.more {w wr w1 : World} {sl : Value} {done : List (List UInt8)} {pc : List UInt8} {n m g cap : Nat} (h : WM w wr sl done) (hn : done.length = n) (hm : min n 16 = m) (hlt : n < 16)
    (hown : w1.ownsRow (w.heap.size + 1 + 1) 9 1 (.slice (some ⟨g, 0, none⟩) (m + 1) cap) (m + 1) (((done.take 16).map B).map Value.string ++ [Value.string (B pc)])) (hgrow : wr.grownBy w1 sl.ownBlock) (hsz : w.heap.size + 1 + 1 ≤ wr.heap.size) :
    WM w (w1.setCell ⟨w.heap.size + 1, 3, none⟩ (.slice (some ⟨g, 0, none⟩) (m + 1) cap)) (.slice (some ⟨g, 0, none⟩) (m + 1) cap) (done ++ [pc]) := by
  have hfar : ∀ k, k < w.heap.size + 1 + 1 → w1.heap[k]? = wr.heap[k]? := fun k hk => hgrow.block k (by omega) fun e => by have := (h.own.lt k e.symm).1; omega
  refine ⟨heap_set_ne ((hfar _ (by omega)).trans h.res) _ (by simp), ?_, ?_, ?_⟩
  · have := heap_set (o := 3) ((hfar (w.heap.size + 1) (by omega)).trans h.val) (.slice (some ⟨g, 0, none⟩) (m + 1) cap)
    exact this
  · rw [take_more (by omega), show min (done ++ [pc]).length 16 = m + 1 by simp; omega]
    exact ownsRow_setCell_below hown (by show w.heap.size + 1 < _; omega) _
  · exact (h.bel.grown hgrow (by omega) fun k hk => by have := (h.own.lt k hk).1; omega).setCell (by show w.heap.size ≤ w.heap.size + 1; omega) _
theorem WM.over {w wr : World} {sl : Value} {done : List (List UInt8)} {pc : List UInt8} (h : WM w wr sl done) (hn : 16 ≤ done.length) : WM w wr sl (done ++ [pc]) := by
  refine ⟨h.res, h.val, ?_, h.bel⟩
  have := h.own
  rw [Nat.min_eq_right hn] at this
  rw [Nat.min_eq_right (by simp; omega), List.take_append_of_le_length hn]
  exact this

set_option maxHeartbeats 1000000 in
set_option maxRecDepth 100000 in
theorem refWords_any (s : ByteArray) (hs : s.size ≤ 2147483647) (w : World) :
    Calls Tryz.prog 127 #[.string s] w fun e w' => RefOut (parseWords wordL s.data.toList) w e w' ∧ Below w.heap.size w w' := by
  obtain ⟨i0, hi, hz0, hz1, hz2⟩ := info_parts infoStr
  have hl0 : s.data.toList.length = s.size := by simp
  have hend : ∀ {F : Nat} {done : List (List UInt8)}, WS s.data.toList F s.size done → s.data.toList ≠ [] → wordL (s.extract F s.size).data.toList = true → (s.size : Nat) + 1 = s.size + 1 ∧ s.data.toList ≠ [] ∧ pcs 44 s.data.toList = done ++ [(s.extract F s.size).data.toList] ∧ (done ++ [(s.extract F s.size).data.toList]).all wordL = true := by
    intro F done h hne hp
    rw [Lib.extract_data] at hp ⊢
    rw [← hl0] at h hp ⊢
    obtain ⟨e1, e2⟩ := h.fin hp
    exact ⟨rfl, hne, e1, e1 ▸ e2⟩
  go_enter Tryz.func127, Tryz.ntmps127
  go_wp2_with fail
  go_loopw [5, 6, 7] (fun f m i wr => ∃ (F k n : Nat) (done : List (List UInt8)) (p : Option Addr) (c : Nat), f = .int .i64 F ∧ m = .int .i64 n ∧ i = .int .i64 k ∧ done.length = n ∧ F ≤ s.size + 1 ∧ k ≤ s.size + 1 ∧ n ≤ s.size + 1 ∧
    (WS s.data.toList F k done ∨ (k = s.size + 1 ∧ s.data.toList ≠ [] ∧ pcs 44 s.data.toList = done ∧ done.all wordL = true)) ∧ WM w wr (.slice p (min n 16) c) done) (fun _ _ i _ => s.size + 1 - (intOf i).toNat)
  case atStart =>
    refine ⟨0, 0, 0, [], none, 0, rfl, rfl, rfl, rfl, by omega, by omega, by omega, .inl (WS.start _), ?_, ?_, ?_, ?_⟩
    · rw [heap_al (heap_alloc_new w _) _]
    · have := heap_alloc_new (w.alloc (.cells #[.int .i64 0, .int .i64 0, .string ⟨#[]⟩, .slice none 0 0] 98)) (.cells #[.int .i64 6, .int .i64 0, .string ⟨#[]⟩, .slice none 0 0] 98)
      simpa using this
    · exact ⟨rfl, .inl ⟨rfl, rfl⟩⟩
    · exact ((Below.refl _ w).alloc (Nat.le_refl _) _).alloc (by simp) _
  case round =>
    obtain ⟨F, k, n, done, p, c, rfl, rfl, rfl, hn, hF, hk, hn1, hst, hM⟩ := hrel
    obtain ⟨m, hm⟩ : ∃ m, min n 16 = m := ⟨_, rfl⟩
    rw [hm] at hM
    have hm16 : m ≤ 16 := by omega
    have hmn : m ≤ n := by omega
    have Hn := Lib.hid hn
    have Hm := Lib.hid hm
    have HM := Lib.hid hM
    have hsz : w.heap.size + 1 + 1 ≤ wr.heap.size := by have := lt_of_block hM.val; omega
    have hc := fun j => cell_of_row wr w.heap.size j _ _ _ hM.res
    have hd := fun j => cell_of_row wr (w.heap.size + 1) j _ _ _ hM.val
    have hf := fun j => frozen_of_row wr w.heap.size j _ _ hM.res
    have he := fun j => frozen_of_row wr (w.heap.size + 1) j _ _ hM.val
    have c0 := hc 0; have c1 := hc 1; have c2 := hc 2; have c3 := hc 3
    have d0 := hd 0; have d1 := hd 1; have d2 := hd 2; have d3 := hd 3
    have f0 := hf 0; have f1 := hf 1; have f2 := hf 2; have f3 := hf 3
    have e0 := he 0; have e1 := he 1; have e2 := he 2; have e3 := he 3
    simp only [List.getElem?_toArray, List.getElem?_cons_succ, List.getElem?_cons_zero] at c0 c1 c2 c3 d0 d1 d2 d3
    have Hst := Lib.hid hst
    clear hn hm hM hc hd hf he hst
    by_cases hnil : s.data.toList = []
    · have hemp : s.toList.isEmpty = true := by rw [ByteArray.toList_eq, hnil]; rfl
      have hsz0 : s.size = 0 := by rw [← hl0, hnil]; rfl
      obtain ⟨rfl, hn0⟩ : k = 0 ∧ n = 0 := by
        rcases Hst.out with h | ⟨_, h, _⟩
        · have h1 := h.kl
          have h2 := h.many
          rw [Hn.out] at h2
          omega
        · exact absurd hnil h
      subst hn0
      have hd0 : done = [] := List.eq_nil_of_length_eq_zero Hn.out
      have Hp : Hid (parseWords wordL s.data.toList = (⟨6, 0, ByteArray.empty, done.map B⟩, 0)) := Lib.hid (by rw [hnil, hd0]; rfl)
      clear hnil hd0
      have Hpw : Hid (parseWords wordL s.data.toList = if 200 < s.data.toList.length ∨ 16 < done.length then (zero, 42) else (⟨6, 0, ByteArray.empty, done.map B⟩, 0)) := Lib.hid (by rw [if_neg (by rw [hl0, Hn.out]; omega)]; exact Hp.out)
      have He := Hp
      go_wp2_with fail
      generalize hW : World.setCell (World.setCell (World.setCell (World.setCell wr _ _) _ _) _ _) _ _ = W
      obtain ⟨⟨g0, g1, g2, g3⟩, hsW, hoth, hbel⟩ := four_done HM.out.res hW
      have HB := Lib.hid (hbel w.heap.size w HM.out.bel (Nat.le_refl _))
      have HO := Lib.hid hoth
      have HsW := Lib.hid hsW
      clear hW hbel hoth hsW
      (try simp only [Exit.inBlock, Exit.then])
      refine bodyPost_ret (by simp [results, Tryz.results127, go_sem, g0, g1, g2, g3]; try rfl) rfl ?_
      exact ⟨⟨_, by rw [He.out]; rfl, by rw [He.out]; exact (HM.out.fresh (by rw [Hn.out]; omega)).out HsW.out HO.out⟩, HB.out⟩
    · have hemp : s.toList.isEmpty = false := by
        rw [ByteArray.toList_eq]
        cases hl : s.data.toList with
        | nil => exact absurd hl hnil
        | cons => rfl
      have Hnil := Lib.hid hnil
      clear hnil
      rcases Hst.out with hst | ⟨rfl, -, hp, hall⟩
      · clear Hst
        have hkl : k ≤ s.size := by have := hst.kl; omega
        have hFk := hst.le
        have hnk : n ≤ k := by have := hst.many; rwa [Hn.out] at this
        have Hst := Lib.hid hst
        clear hst
        have hsl : ∀ wx : World, (Instr.slice 9 (.string s) (some (.int .i64 (F : Int))) (some (.int .i64 (k : Int))) none).run Tryz.prog wx = .ok (.string (s.extract F k)) wx := fun wx => by
          rw [run_slice_string_if (h := Tryz.underlying9), if_pos (by omega), if_pos (by omega)]
          rfl
        rcases (show k = s.size ∨ k < s.size by omega) with hke | hlt
        · have Hk : Hid (k = s.data.toList.length ∨ s.data.toList[k]? = some 44) := Lib.hid (.inl (by rw [hl0]; exact hke))
          have hkt : ((k : Int) == (s.size : Int)) = true := by simp [hke]
          have Hnext : Hid (wordL (s.extract F k).data.toList = true → (WS s.data.toList (k + 1) (k + 1) (done ++ [(s.extract F k).data.toList]) ∨ (k + 1 = s.size + 1 ∧ s.data.toList ≠ [] ∧ pcs 44 s.data.toList = done ++ [(s.extract F k).data.toList] ∧ (done ++ [(s.extract F k).data.toList]).all wordL = true))) := Lib.hid fun h => .inr (by subst hke; exact ⟨rfl, (hend Hst.out Hnil.out h).2⟩)
          clear hend hke
          have hwd := fun W => refIsWord_any (s.extract F k) (by rw [ByteArray.size_extract]; omega) W
          cases hb : wordL (s.extract F k).data.toList with
          | false =>
            rw [hb] at hwd
            have He : Hid (parseWords wordL s.data.toList = (zero, 40)) := Lib.hid (Hst.out.bad Hk.out (by rw [← Lib.extract_data]; exact hb) Hnil.out)
            clear hb
            go_wp2_with fail
            refine (hwd _).mono ?_
            rintro e w1 ⟨rfl, rfl⟩
            go_wp2_with fail
            generalize hW : World.setCell (World.setCell (World.setCell (World.setCell wr _ _) _ _) _ _) _ _ = W
            obtain ⟨⟨g0, g1, g2, g3⟩, hsW, hoth, hbel⟩ := four_done HM.out.res hW
            have HB := Lib.hid (hbel w.heap.size w HM.out.bel (Nat.le_refl _))
            have HO := Lib.hid hoth
            have HsW := Lib.hid hsW
            clear hW hbel hoth hsW
            (try simp only [Exit.inBlock, Exit.then])
            refine bodyPost_ret (by simp [results, Tryz.results127, go_sem, g0, g1, g2, g3]; try rfl) rfl ?_
            exact ⟨⟨_, by rw [He.out]; rfl, .inl ⟨by rw [He.out]; rfl, rfl⟩⟩, HB.out⟩
          | true =>
            rw [hb] at hwd
            obtain ⟨T, hT⟩ : ∃ T, s.extract F k = T := ⟨_, rfl⟩
            have HT := Lib.hid hT
            have hnx := Hnext.out hb
            rw [hT] at hsl hwd hnx
            have Hnx := Lib.hid hnx
            clear hT hb hnx
            by_cases h16 : n < 16
            · have hown := HM.out.own
              rw [Hn.out, Hm.out] at hown
              have Hown := Lib.hid hown
              clear hown
              have q3 : ∀ o : Obj, (wr.alloc o).cell? ⟨w.heap.size + 1, 3, none⟩ = some (.slice p m c) := fun o => (World.cell?_of_block (Below.heap_alloc wr o (w.heap.size + 1) (by omega))).trans d3
              go_wp2_with fail
              refine (hwd _).mono ?_
              rintro e w1 ⟨rfl, rfl⟩
              go_wp2_with fail
              go_region_law ((refine step_append_lit (by rfl) _ _ 38 (by rfl) 9 i0 _ 16 Tryz.underlying38 hi hz0 hz1 hz2 rfl _ 1 (by omega) (by rfl) (by rfl) (w.heap.size + 1 + 1) _ m _ (by rfl) Hown.out (by simp [Value.oneCell']) (by omega) (by omega) (by omega) ?_; intro g' cap' w1 hown1 hgrow hat hz hlt1; have HO1 := Lib.hid hown1; have HG1 := Lib.hid hgrow; have dd3 : w1.cell? ⟨w.heap.size + 1, 3, none⟩ = some (.slice p m c) := (hgrow.cell_far _ (by show w.heap.size + 1 < _; omega) (fun e => by have := (Hown.out.lt _ e.symm).1; have : w.heap.size + 1 + 1 ≤ w.heap.size + 1 := this; omega)).trans d3; have ee3 : w1.frozen? ⟨w.heap.size + 1, 3, none⟩ = false := (hgrow.frozen_far _ (by show w.heap.size + 1 < _; omega) (fun e => by have := (Hown.out.lt _ e.symm).1; have : w.heap.size + 1 + 1 ≤ w.heap.size + 1 := this; omega)).trans e3; clear hown1 hgrow hat))
              all_goals
                have HM2 : Hid (WM w (w1.setCell ⟨w.heap.size + 1, 3, none⟩ (.slice (some ⟨g', 0, none⟩) (m + 1) cap')) (.slice (some ⟨g', 0, none⟩) (m + 1) cap') (done ++ [T.data.toList])) := Lib.hid (HM.out.more Hn.out Hm.out h16 (by rw [B_toList]; exact HO1.out) HG1.out hsz)
                generalize w1.setCell ⟨w.heap.size + 1, 3, none⟩ (.slice (some ⟨g', 0, none⟩) (m + 1) cap') = W2 at *
                clear HO1 HG1 dd3 ee3 hlt1 hz
                go_wp2_with fail
                go_roundw
                case rel => exact ⟨k + 1, k + 1, n + 1, done ++ [T.data.toList], some ⟨g', 0, none⟩, cap', by go_num, by go_num, by go_num, by rw [List.length_append, Hn.out]; rfl, by omega, by omega, by omega, Hnx.out, by rw [show min (n + 1) 16 = m + 1 by have := Hm.out; omega]; exact HM2.out⟩
                case measure => simp [intOf]; omega
            · have hdec : decide ((n : Int) < 16) = false := by simp; omega
              have HM2 := Lib.hid (HM.out.over (pc := T.data.toList) (by rw [Hn.out]; omega))
              go_wp2_with fail
              refine (hwd _).mono ?_
              rintro e w1 ⟨rfl, rfl⟩
              go_wp2_with fail
              go_roundw
              case rel => exact ⟨k + 1, k + 1, n + 1, done ++ [T.data.toList], p, c, by go_num, by go_num, by go_num, by rw [List.length_append, Hn.out]; rfl, by omega, by omega, by omega, Hnx.out, by rw [show min (n + 1) 16 = m by have := Hm.out; omega]; exact HM2.out⟩
              case measure => simp [intOf]; omega
        · obtain ⟨b, hbl, hbk, hb0, hb1⟩ := byteAt s k hlt
          have hkf : ((k : Int) == (s.size : Int)) = false := by simp; omega
          clear hend
          by_cases hb44 : b = 44
          · subst hb44
            have Hk : Hid (k = s.data.toList.length ∨ s.data.toList[k]? = some 44) := Lib.hid (.inr hbl)
            have Hnext : Hid (wordL (s.extract F k).data.toList = true → (WS s.data.toList (k + 1) (k + 1) (done ++ [(s.extract F k).data.toList]) ∨ (k + 1 = s.size + 1 ∧ s.data.toList ≠ [] ∧ pcs 44 s.data.toList = done ++ [(s.extract F k).data.toList] ∧ (done ++ [(s.extract F k).data.toList]).all wordL = true))) := Lib.hid fun h => .inl (by rw [Lib.extract_data] at h ⊢; exact Hst.out.hit hbl h)
            clear hbl
            have hwd := fun W => refIsWord_any (s.extract F k) (by rw [ByteArray.size_extract]; omega) W
            cases hb : wordL (s.extract F k).data.toList with
            | false =>
              rw [hb] at hwd
              have He : Hid (parseWords wordL s.data.toList = (zero, 40)) := Lib.hid (Hst.out.bad Hk.out (by rw [← Lib.extract_data]; exact hb) Hnil.out)
              clear hb
              go_wp2_with fail
              refine (hwd _).mono ?_
              rintro e w1 ⟨rfl, rfl⟩
              go_wp2_with fail
              generalize hW : World.setCell (World.setCell (World.setCell (World.setCell wr _ _) _ _) _ _) _ _ = W
              obtain ⟨⟨g0, g1, g2, g3⟩, hsW, hoth, hbel⟩ := four_done HM.out.res hW
              have HB := Lib.hid (hbel w.heap.size w HM.out.bel (Nat.le_refl _))
              have HO := Lib.hid hoth
              have HsW := Lib.hid hsW
              clear hW hbel hoth hsW
              (try simp only [Exit.inBlock, Exit.then])
              refine bodyPost_ret (by simp [results, Tryz.results127, go_sem, g0, g1, g2, g3]; try rfl) rfl ?_
              exact ⟨⟨_, by rw [He.out]; rfl, .inl ⟨by rw [He.out]; rfl, rfl⟩⟩, HB.out⟩
            | true =>
              rw [hb] at hwd
              obtain ⟨T, hT⟩ : ∃ T, s.extract F k = T := ⟨_, rfl⟩
              have HT := Lib.hid hT
              have hnx := Hnext.out hb
              rw [hT] at hsl hwd hnx
              have Hnx := Lib.hid hnx
              clear hT hb hnx
              by_cases h16 : n < 16
              · have hown := HM.out.own
                rw [Hn.out, Hm.out] at hown
                have Hown := Lib.hid hown
                clear hown
                have q3 : ∀ o : Obj, (wr.alloc o).cell? ⟨w.heap.size + 1, 3, none⟩ = some (.slice p m c) := fun o => (World.cell?_of_block (Below.heap_alloc wr o (w.heap.size + 1) (by omega))).trans d3
                go_wp2_with fail
                refine (hwd _).mono ?_
                rintro e w1 ⟨rfl, rfl⟩
                go_wp2_with fail
                go_region_law ((refine step_append_lit (by rfl) _ _ 38 (by rfl) 9 i0 _ 16 Tryz.underlying38 hi hz0 hz1 hz2 rfl _ 1 (by omega) (by rfl) (by rfl) (w.heap.size + 1 + 1) _ m _ (by rfl) Hown.out (by simp [Value.oneCell']) (by omega) (by omega) (by omega) ?_; intro g' cap' w1 hown1 hgrow hat hz hlt1; have HO1 := Lib.hid hown1; have HG1 := Lib.hid hgrow; have dd3 : w1.cell? ⟨w.heap.size + 1, 3, none⟩ = some (.slice p m c) := (hgrow.cell_far _ (by show w.heap.size + 1 < _; omega) (fun e => by have := (Hown.out.lt _ e.symm).1; have : w.heap.size + 1 + 1 ≤ w.heap.size + 1 := this; omega)).trans d3; have ee3 : w1.frozen? ⟨w.heap.size + 1, 3, none⟩ = false := (hgrow.frozen_far _ (by show w.heap.size + 1 < _; omega) (fun e => by have := (Hown.out.lt _ e.symm).1; have : w.heap.size + 1 + 1 ≤ w.heap.size + 1 := this; omega)).trans e3; clear hown1 hgrow hat))
                all_goals
                  have HM2 : Hid (WM w (w1.setCell ⟨w.heap.size + 1, 3, none⟩ (.slice (some ⟨g', 0, none⟩) (m + 1) cap')) (.slice (some ⟨g', 0, none⟩) (m + 1) cap') (done ++ [T.data.toList])) := Lib.hid (HM.out.more Hn.out Hm.out h16 (by rw [B_toList]; exact HO1.out) HG1.out hsz)
                  generalize w1.setCell ⟨w.heap.size + 1, 3, none⟩ (.slice (some ⟨g', 0, none⟩) (m + 1) cap') = W2 at *
                  clear HO1 HG1 dd3 ee3 hlt1 hz
                  go_wp2_with fail
                  go_roundw
                  case rel => exact ⟨k + 1, k + 1, n + 1, done ++ [T.data.toList], some ⟨g', 0, none⟩, cap', by go_num, by go_num, by go_num, by rw [List.length_append, Hn.out]; rfl, by omega, by omega, by omega, Hnx.out, by rw [show min (n + 1) 16 = m + 1 by have := Hm.out; omega]; exact HM2.out⟩
                  case measure => simp [intOf]; omega
              · have hdec : decide ((n : Int) < 16) = false := by simp; omega
                have HM2 := Lib.hid (HM.out.over (pc := T.data.toList) (by rw [Hn.out]; omega))
                go_wp2_with fail
                refine (hwd _).mono ?_
                rintro e w1 ⟨rfl, rfl⟩
                go_wp2_with fail
                go_roundw
                case rel => exact ⟨k + 1, k + 1, n + 1, done ++ [T.data.toList], p, c, by go_num, by go_num, by go_num, by rw [List.length_append, Hn.out]; rfl, by omega, by omega, by omega, Hnx.out, by rw [show min (n + 1) 16 = m by have := Hm.out; omega]; exact HM2.out⟩
                case measure => simp [intOf]; omega
          · have hb44' : ((b.toNat : Int) == 44) = false := by
              rw [beq_eq_false_iff_ne]
              intro e
              exact hb44 (UInt8.toNat_inj.1 (by show b.toNat = 44; omega))
            have Hnx := Lib.hid (Hst.out.pass hbl hb44)
            clear hbl hb44
            go_wp2_with fail
            go_roundw
            case rel => exact ⟨F, k + 1, n, done, p, c, rfl, rfl, by go_num, Hn.out, hF, by omega, hn1, .inl Hnx.out, by rw [Hm.out]; exact HM.out⟩
            case measure => simp [intOf]; omega
      · have hle : decide ((((s.size + 1 : Nat) : Int)) ≤ (s.size : Int)) = false := by simp; omega
        have Hpw := Lib.hid (pw_end Hnil.out hp hall)
        clear hp hall hend Hst
        by_cases h16 : 16 < n
        · have He : Hid (parseWords wordL s.data.toList = (zero, 42)) := Lib.hid (by rw [Hpw.out, if_pos (.inr (by rw [Hn.out]; exact h16))])
          go_wp2_with fail
          generalize hW : World.setCell (World.setCell (World.setCell (World.setCell wr _ _) _ _) _ _) _ _ = W
          obtain ⟨⟨g0, g1, g2, g3⟩, hsW, hoth, hbel⟩ := four_done HM.out.res hW
          have HB := Lib.hid (hbel w.heap.size w HM.out.bel (Nat.le_refl _))
          have HO := Lib.hid hoth
          have HsW := Lib.hid hsW
          clear hW hbel hoth hsW
          (try simp only [Exit.inBlock, Exit.then])
          refine bodyPost_ret (by simp [results, Tryz.results127, go_sem, g0, g1, g2, g3]; try rfl) rfl ?_
          exact ⟨⟨_, by rw [He.out]; rfl, .inl ⟨by rw [He.out]; rfl, rfl⟩⟩, HB.out⟩
        · by_cases h200 : 200 < s.size
          · have He : Hid (parseWords wordL s.data.toList = (zero, 42)) := Lib.hid (by rw [Hpw.out, if_pos (.inl (by rw [hl0]; exact h200))])
            go_wp2_with fail
            generalize hW : World.setCell (World.setCell (World.setCell (World.setCell wr _ _) _ _) _ _) _ _ = W
            obtain ⟨⟨g0, g1, g2, g3⟩, hsW, hoth, hbel⟩ := four_done HM.out.res hW
            have HB := Lib.hid (hbel w.heap.size w HM.out.bel (Nat.le_refl _))
            have HO := Lib.hid hoth
            have HsW := Lib.hid hsW
            clear hW hbel hoth hsW
            (try simp only [Exit.inBlock, Exit.then])
            refine bodyPost_ret (by simp [results, Tryz.results127, go_sem, g0, g1, g2, g3]; try rfl) rfl ?_
            exact ⟨⟨_, by rw [He.out]; rfl, .inl ⟨by rw [He.out]; rfl, rfl⟩⟩, HB.out⟩
          · have He : Hid (parseWords wordL s.data.toList = (⟨6, 0, ByteArray.empty, done.map B⟩, 0)) := Lib.hid (by rw [Hpw.out, if_neg (by rw [hl0, Hn.out]; omega)])
            go_wp2_with fail
            generalize hW : World.setCell (World.setCell (World.setCell (World.setCell wr _ _) _ _) _ _) _ _ = W
            obtain ⟨⟨g0, g1, g2, g3⟩, hsW, hoth, hbel⟩ := four_done HM.out.res hW
            have HB := Lib.hid (hbel w.heap.size w HM.out.bel (Nat.le_refl _))
            have HO := Lib.hid hoth
            have HsW := Lib.hid hsW
            clear hW hbel hoth hsW
            (try simp only [Exit.inBlock, Exit.then])
            refine bodyPost_ret (by simp [results, Tryz.results127, go_sem, g0, g1, g2, g3]; try rfl) rfl ?_
            exact ⟨⟨_, by rw [He.out]; rfl, by rw [He.out]; exact (HM.out.fresh (by rw [Hn.out]; omega)).out HsW.out HO.out⟩, HB.out⟩
end Go.Proofs.YtpfhhaonfbfheaaGreatDoor.va
