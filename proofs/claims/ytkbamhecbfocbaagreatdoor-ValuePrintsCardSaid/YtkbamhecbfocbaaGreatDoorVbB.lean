/- The reference's Print returns the plain function. Conditions: the value's words lie in memory; it is no greater than 2147483647 bytes and words. -/
import Derived.Test.YtkbamhecbfocbaaGreatDoorVbA
namespace Go.Proofs.YtkbamhecbfocbaaGreatDoor.va
open Go.ChangeShapes Go.WideShapes Go.ChangeAt Go.RowKit gl

theorem join_snoc (x : List UInt8) (r : List (List UInt8)) (y : List UInt8) : Lib.join ((x :: r) ++ [y]) [44] = Lib.join (x :: r) [44] ++ 44 :: y := by
  rw [List.cons_append, Lib.join_cons, Lib.join_cons]
  simp [Lib.joinTail, List.append_assoc]
theorem joined_step (ws : List ByteArray) (j : Nat) (x : ByteArray) (h : ws[j]? = some x) : joined (ws.take (j + 1)) = if j = 0 then x.data.toList else joined (ws.take j) ++ 44 :: x.data.toList := by
  rw [List.take_add_one, h]
  by_cases h0 : j = 0
  · subst h0
    simp [joined, Lib.join_one]
  · rw [if_neg h0]
    unfold joined
    rw [List.map_append]
    cases hw : ws.take j with
    | nil =>
      have := congrArg List.length hw
      have hlt := lt_of_get h
      rw [List.length_take, List.length_nil] at this
      omega
    | cons y r => exact join_snoc _ _ _

set_option maxHeartbeats 2000000 in
set_option maxRecDepth 100000 in
theorem refPrint_any (v : Val) (hb : Vb v) (sl : Value) (w : World) (hV : Vlo w) (hS : Strs w sl v.words) :
    Calls Tryz.prog 20 #[rep v sl] w fun e w' => PrintOut wordL v e ∧ Below w.heap.size w w' := by
  have HRi := Lib.hid fun (W : World) (hbW : Below w.heap.size w W) => refRight_any v hb sl W (hV.below hbW (Nat.le_refl _)) (hS.below hbW (Nat.le_refl _))
  have HS := Lib.hid hS
  clear hb hV
  obtain ⟨p, c, rfl, hc, _⟩ := hS
  unfold PrintOut
  cases hr : right wordL v with
  | false =>
    rw [print_f hr]
    rw [hr] at HRi
    clear hr
    obtain ⟨k, n, t, ws⟩ := v
    unfold rep at *
    simp only at *
    go_enter Tryz.func20, Tryz.ntmps20
    go_wp2_with fail
    refine (HRi.out _ ((Below.refl _ w).alloc (Nat.le_refl _) _)).mono ?_
    rintro e w1 ⟨rfl, hb⟩
    go_wp2_with fail
    go_ret2
    exact ⟨rfl, ((Below.refl _ w).alloc (Nat.le_refl _) _).trans (hb.mono (by simp))⟩
  | true =>
    have hcs := right_cases hr
    rw [print_t hr]
    rw [hr] at HRi
    clear hr
    obtain ⟨k, n, t, ws⟩ := v
    unfold rep at *
    simp only at *
    obtain ⟨m, hm⟩ : ∃ m, ws.length = m := ⟨_, rfl⟩
    have Hm := Lib.hid hm
    rw [hm] at HRi HS hc ⊢
    rcases hcs with ⟨hk, h1, h2, h3, h4⟩ | ⟨hk, h1, h2, h3, h4⟩ | ⟨hk, h1, h2, h3, h4⟩ | ⟨hk, h1, h2, h3, h4⟩ | ⟨hk, h1, h2, h3, h4, h5⟩
    · subst hk
      clear hm h3 h4
      rcases (show n = 0 ∨ n = 1 by omega) with rfl | rfl
      all_goals
        go_enter Tryz.func20, Tryz.ntmps20
        go_wp2_with fail
        refine (HRi.out _ ((Below.refl _ w).alloc (Nat.le_refl _) _)).mono ?_
        rintro e w1 ⟨rfl, hb⟩
        obtain ⟨⟨b0, b1, b2, b3⟩, _⟩ := res_cells hb
        have Hb := Lib.hid (((Below.refl _ w).alloc (Nat.le_refl _) _).trans (hb.mono (by simp)))
        clear hb
        go_wp2_with fail
        go_ret2
        exact ⟨rfl, Hb.out⟩
    · subst hk
      have HF : Hid (∀ W, Calls Tryz.prog 42 #[.int .i64 n] W fun e w' => e = .returned (.string (B (prints ⟨2, n, t, ws⟩))) ∧ ∃ q, w' = W.drewN q) := Lib.hid fun W => digitsZ n h1 h2 W
      generalize B (prints ⟨2, n, t, ws⟩) = X at *
      clear hm h3 h4
      go_enter Tryz.func20, Tryz.ntmps20
      go_wp2_with fail
      refine (HRi.out _ ((Below.refl _ w).alloc (Nat.le_refl _) _)).mono ?_
      rintro e w1 ⟨rfl, hb⟩
      obtain ⟨⟨b0, b1, b2, b3⟩, _⟩ := res_cells hb
      have Hb := Lib.hid (((Below.refl _ w).alloc (Nat.le_refl _) _).trans (hb.mono (by simp)))
      clear hb
      go_wp2_with fail
      refine (HF.out _).mono ?_
      rintro e w2 ⟨rfl, q, rfl⟩
      go_wp2_with fail
      go_ret2
      exact ⟨rfl, bel_drewN Hb.out q⟩
    · have hmost : most k ≤ 1125899906842624 := by rcases hk with rfl | rfl <;> decide
      have hpr : prints ⟨k, n, t, ws⟩ = Lib.itoa (n / unit k (uname k (best k n))) ++ uname k (best k n) := by
        unfold prints
        simp only
        rw [if_neg (by omega), if_neg (by omega), if_neg (by omega), if_neg (by omega)]
      rw [hpr]
      clear hm h3 h4
      rcases hk with rfl | rfl
      · have HF := Lib.hid fun W => greatest_any 3 n (.inl rfl) h1 (by omega) ⟨#[103, 109, 107]⟩ rfl (fun i hi => by rcases (show i = 0 ∨ i = 1 ∨ i = 2 by omega) with rfl | rfl | rfl <;> decide +kernel) W
        generalize B (Lib.itoa (n / unit 3 (uname 3 (best 3 n))) ++ uname 3 (best 3 n)) = X at *
        clear hpr hmost h2
        go_enter Tryz.func20, Tryz.ntmps20
        go_wp2_with fail
        refine (HRi.out _ ((Below.refl _ w).alloc (Nat.le_refl _) _)).mono ?_
        rintro e w1 ⟨rfl, hb⟩
        obtain ⟨⟨b0, b1, b2, b3⟩, _⟩ := res_cells hb
        have Hb := Lib.hid (((Below.refl _ w).alloc (Nat.le_refl _) _).trans (hb.mono (by simp)))
        clear hb
        go_wp2_with fail
        refine (HF.out _).mono ?_
        rintro e w2 ⟨rfl, q, rfl⟩
        go_wp2_with fail
        go_ret2
        exact ⟨rfl, bel_drewN Hb.out q⟩
      · have HF := Lib.hid fun W => greatest_any 4 n (.inr rfl) h1 (by omega) ⟨#[100, 104, 109]⟩ rfl (fun i hi => by rcases (show i = 0 ∨ i = 1 ∨ i = 2 by omega) with rfl | rfl | rfl <;> decide +kernel) W
        generalize B (Lib.itoa (n / unit 4 (uname 4 (best 4 n))) ++ uname 4 (best 4 n)) = X at *
        clear hpr hmost h2
        go_enter Tryz.func20, Tryz.ntmps20
        go_wp2_with fail
        refine (HRi.out _ ((Below.refl _ w).alloc (Nat.le_refl _) _)).mono ?_
        rintro e w1 ⟨rfl, hb⟩
        obtain ⟨⟨b0, b1, b2, b3⟩, _⟩ := res_cells hb
        have Hb := Lib.hid (((Below.refl _ w).alloc (Nat.le_refl _) _).trans (hb.mono (by simp)))
        clear hb
        go_wp2_with fail
        refine (HF.out _).mono ?_
        rintro e w2 ⟨rfl, q, rfl⟩
        go_wp2_with fail
        go_ret2
        exact ⟨rfl, bel_drewN Hb.out q⟩
    · subst hk
      have hX : B (prints ⟨5, n, t, ws⟩) = t := B_toList t
      rw [hX]
      clear hm hX h1 h2 h3 h4
      go_enter Tryz.func20, Tryz.ntmps20
      go_wp2_with fail
      refine (HRi.out _ ((Below.refl _ w).alloc (Nat.le_refl _) _)).mono ?_
      rintro e w1 ⟨rfl, hb⟩
      obtain ⟨⟨b0, b1, b2, b3⟩, _⟩ := res_cells hb
      have Hb := Lib.hid (((Below.refl _ w).alloc (Nat.le_refl _) _).trans (hb.mono (by simp)))
      clear hb
      go_wp2_with fail
      go_ret2
      exact ⟨rfl, Hb.out⟩
    · subst hk
      have hX : B (prints ⟨6, n, t, ws⟩) = B (joined ws) := rfl
      rw [hX]
      have hsz := sz_joined ws
      have Hsz : Hid (sz ws ≤ 200) := Lib.hid (by omega)
      have hm16 : m ≤ 16 := by omega
      have HX : Hid (∀ j A, A = B (joined (ws.take j)) → j = m → A = B (joined ws)) := Lib.hid (by
        rintro j A rfl rfl
        rw [List.take_of_length_le (by rw [Hm.out]; exact Nat.le_refl _)])
      generalize B (joined ws) = X at *
      clear hm hX h1 h2 h3 h4 h5 hsz
      go_enter Tryz.func20, Tryz.ntmps20
      go_wp2_with fail
      refine (HRi.out _ ((Below.refl _ w).alloc (Nat.le_refl _) _)).mono ?_
      rintro e w1 ⟨rfl, hb⟩
      obtain ⟨⟨b0, b1, b2, b3⟩, _⟩ := res_cells hb
      have Hb := Lib.hid (((Below.refl _ w).alloc (Nat.le_refl _) _).trans (hb.mono (by simp)))
      have HS1 := Lib.hid (HS.out.later Hb.out)
      clear hb
      go_wp2_with fail
      go_loop [5, 6] (fun s i => ∃ (j : Nat) (A : ByteArray), j ≤ m ∧ i = .int .i64 j ∧ s = .string A ∧ A = B (joined (ws.take j)) ∧ A.size ≤ 216) (fun _ i => m - (intOf i).toNat)
      case atStart => exact ⟨0, ⟨#[]⟩, by omega, rfl, rfl, by simp [joined, Lib.join], by decide⟩
      case round =>
        obtain ⟨j, A, hj, rfl, rfl, hA, hAs⟩ := hrel
        have HA := Lib.hid hA
        clear hA
        by_cases hlt : j < m
        · obtain ⟨b, o, x, rfl, hbl, hx, hcx⟩ := HS1.out.at j hlt
          have hxs := sz_mem (List.mem_of_getElem? hx)
          have hx200 : x.size ≤ 200 := by have := Hsz.out; omega
          have hnl := joined_len (ws.take (j + 1))
          have hnt := sz_take_le ws (j + 1)
          have hA' : (B (joined (ws.take (j + 1)))).size ≤ 216 := by
            show (joined (ws.take (j + 1))).toArray.size ≤ _
            have := Hsz.out
            have h2 : (ws.take (j + 1)).length ≤ j + 1 := by rw [List.length_take]; omega
            simp only [List.size_toArray]
            omega
          have hst := joined_step ws j x hx
          clear hxs hnl hnt hx
          by_cases h0 : j = 0
          · rw [if_pos h0] at hst
            have HA2 : Hid (x = B (joined (ws.take (j + 1)))) := Lib.hid (by rw [hst, B_toList])
            have hAe : A = ⟨#[]⟩ := by rw [HA.out, h0]; simp [joined, Lib.join]
            have hadd : ∀ wx : World, (Op.stringOp .add A x).run Tryz.prog wx = .ok (.string x) wx := fun wx => by
              have := run_string_add_sum (P := Tryz.prog) wx A x (by omega)
              rwa [show A ++ x = x from by rw [hAe]; exact ba_eq (by simp)] at this
            clear hst hAe
            have hjz : ¬ (0 : Int) < (j : Int) := by omega
            clear h0
            go_wp2_with fail
            go_round
            case rel => exact ⟨j + 1, x, by omega, by go_num, rfl, HA2.out, by rw [HA2.out]; exact hA'⟩
            case measure => simp [intOf]; omega
          · rw [if_neg h0] at hst
            have HA2 : Hid (A ++ ⟨#[44]⟩ ++ x = B (joined (ws.take (j + 1)))) := Lib.hid (by rw [hst, HA.out]; exact ba_eq (by simp))
            have hadd1 : ∀ wx : World, (Op.stringOp .add A ⟨#[44]⟩).run Tryz.prog wx = .ok (.string (A ++ ⟨#[44]⟩)) wx := fun wx => run_string_add_sum (P := Tryz.prog) wx A ⟨#[44]⟩ (by show A.size + 1 ≤ _; omega)
            have hs1 : (A ++ (⟨#[44]⟩ : ByteArray)).size = A.size + 1 := by rw [ByteArray.size_append]; rfl
            generalize A ++ (⟨#[44]⟩ : ByteArray) = A1 at *
            have hadd2 : ∀ wx : World, (Op.stringOp .add A1 x).run Tryz.prog wx = .ok (.string (A1 ++ x)) wx := fun wx => run_string_add_sum (P := Tryz.prog) wx A1 x (by omega)
            generalize A1 ++ x = A2 at *
            clear hst hs1
            have hjz : (0 : Int) < (j : Int) := by omega
            clear h0
            go_wp2_with fail
            go_round
            case rel => exact ⟨j + 1, A2, by omega, by go_num, rfl, HA2.out, by rw [HA2.out]; exact hA'⟩
            case measure => simp [intOf]; omega
        · have hfin := HX.out j A HA.out (by omega)
          have hdec : decide ((j : Int) < (m : Int)) = false := by simp; omega
          clear HX
          go_wp2_with fail
          go_ret2
          exact ⟨by rw [← hfin]; rfl, Hb.out⟩
end Go.Proofs.YtkbamhecbfocbaaGreatDoor.va
