/- The reference's digit, next and Unquote return the plain functions of bytes. Condition: the text is no longer than 2147483647 bytes. -/
import Derived.Test.YtkbamhecbfocbaaDoorGlU
namespace Go.Proofs.YtkbamhecbfocbaaDoor.gl
open Go.ChangeShapes Go.WideShapes Go.ChangeAt Go.RowKit

theorem next1 {l : List UInt8} {a : UInt8} (h0 : l[0]? = some a) (h : a.toNat = 34 ∨ a.toNat < 32 ∨ 126 < a.toNat) : nextL l = (0, 0) := by
  cases l with
  | nil => simp at h0
  | cons x r => simp at h0; subst h0; unfold nextL; simp only; rw [if_pos h]
theorem next2 {l : List UInt8} {a : UInt8} (h0 : l[0]? = some a) (h : ¬ (a.toNat = 34 ∨ a.toNat < 32 ∨ 126 < a.toNat)) (h2 : a.toNat ≠ 92) : nextL l = (a, 1) := by
  cases l with
  | nil => simp at h0
  | cons x r => simp at h0; subst h0; unfold nextL; simp only; rw [if_neg h, if_pos h2]
theorem next3 {l : List UInt8} {a : UInt8} (h0 : l[0]? = some a) (h : a.toNat = 92) (hl : l.length = 1) : nextL l = (0, 0) := by
  match l, hl with
  | [x], _ => simp at h0; subst h0; unfold nextL; simp only; rw [if_neg (by omega), if_neg (by omega)]
theorem next4 {l : List UInt8} {a b : UInt8} (h0 : l[0]? = some a) (h : a.toNat = 92) (h1 : l[1]? = some b) (hb : b.toNat = 34 ∨ b.toNat = 92) : nextL l = (b, 2) := by
  match l, h0, h1 with
  | x :: y :: r, h0, h1 => simp at h0 h1; subst h0 h1; unfold nextL; simp only; rw [if_neg (by omega), if_neg (by omega), if_pos hb]
theorem next5 {l : List UInt8} {a b : UInt8} (h0 : l[0]? = some a) (h : a.toNat = 92) (h1 : l[1]? = some b) (hb : ¬ (b.toNat = 34 ∨ b.toNat = 92)) (h2 : b.toNat ≠ 120) : nextL l = (0, 0) := by
  match l, h0, h1 with
  | x :: y :: r, h0, h1 => simp at h0 h1; subst h0 h1; unfold nextL; simp only; rw [if_neg (by omega), if_neg (by omega), if_neg hb, if_pos h2]
theorem next6 {l : List UInt8} {a b : UInt8} (h0 : l[0]? = some a) (h : a.toNat = 92) (h1 : l[1]? = some b) (hb : ¬ (b.toNat = 34 ∨ b.toNat = 92)) (hl : l.length < 4) : nextL l = (0, 0) := by
  match l, h0, h1, hl with
  | [x, y], h0, h1, _ => simp at h0 h1; subst h0 h1; unfold nextL; simp only; rw [if_neg (by omega), if_neg (by omega), if_neg hb]; split <;> rfl
  | [x, y, z], h0, h1, _ => simp at h0 h1; subst h0 h1; unfold nextL; simp only; rw [if_neg (by omega), if_neg (by omega), if_neg hb]; split <;> rfl
  | x :: y :: z :: u :: r, _, _, hl => simp at hl; omega
theorem next7 {l : List UInt8} {a b c d : UInt8} (h0 : l[0]? = some a) (h : a.toNat = 92) (h1 : l[1]? = some b) (hb : b.toNat = 120) (h2 : l[2]? = some c) (h3 : l[3]? = some d) :
    nextL l = if digv c < 0 ∨ digv d < 0 ∨ (32 ≤ 16 * digv c + digv d ∧ 16 * digv c + digv d ≤ 126) then (0, 0) else (UInt8.ofNat (16 * digv c + digv d).toNat, 4) := by
  match l, h0, h1, h2, h3 with
  | x :: y :: z :: u :: r, h0, h1, h2, h3 =>
    simp at h0 h1 h2 h3; subst h0 h1 h2 h3; unfold nextL; simp only; rw [if_neg (by omega), if_neg (by omega), if_neg (by omega), if_neg (by omega)]

theorem digit_any (c : UInt8) (w : World) :
    Calls Tryd.prog 159 #[.int .u8 (c.toNat : Int)] w fun e w' => e = .returned (.int .i64 (digv c)) ∧ w = w' := by
  go_enter Tryd.func159, Tryd.ntmps159
  go_wp2_with fail
  go_loop [3] (fun i => ∃ k : Nat, k ≤ 16 ∧ i = .int .i64 k ∧ ∀ j, j < k → hexd j ≠ c) (fun i => 16 - (intOf i).toNat)
  case atStart => exact ⟨0, by omega, rfl, fun j h => by omega⟩
  case round =>
    obtain ⟨k, hk, rfl, hto⟩ := hrel
    have Hto := Lib.hid hto
    clear hto
    by_cases hlt : k < 16
    · have x3 := hexIx k hlt
      by_cases he : hexd k = c
      · have Hd : Hid (digv c = k) := by show _ = _; rw [← he]; exact digv_hexd hlt
        have he' : (((hexd k).toNat : Int) == (c.toNat : Int)) = true := by rw [he]; simp
        clear he
        generalize hexd k = u at *
        go_wp2_with fail
        go_ret
        exact ⟨ret_int (by rw [Hd.out]), rfl⟩
      · have he' : (((hexd k).toNat : Int) == (c.toNat : Int)) = false := by
          simp only [beq_eq_false_iff_ne]
          intro e
          exact he (UInt8.toNat_inj.1 (by omega))
        have He := Lib.hid he
        clear he
        have Hn : Hid (∀ j, j < k + 1 → hexd j ≠ c) := fun j hj => by
          rcases Nat.lt_or_ge j k with h | h
          · exact Hto.out j h
          · obtain rfl : j = k := by omega
            exact He.out
        clear He
        generalize hexd k = u at he' x3
        go_wp2_with fail
        go_round
        case rel => exact ⟨k + 1, by omega, by go_num, Hn.out⟩
        case measure => simp [intOf]; omega
    · obtain rfl : k = 16 := by omega
      have Hd : Hid (digv c = -1) := by
        show _ = _
        by_cases h : digv c < 0
        · have := digv_bd c; omega
        · obtain ⟨d, hd⟩ := Int.eq_ofNat_of_zero_le (show 0 ≤ digv c by omega)
          obtain ⟨e1, e2⟩ := hexd_digv hd
          exact absurd e1.symm (Hto.out d e2)
      go_wp2_with fail
      go_ret
      exact ⟨ret_int (by rw [Hd.out]), rfl⟩

theorem ret_next {a b : UInt8 × Nat} (h : b = a) : Ending.returned (.tuple #[.int .u8 (a.1.toNat : Int), .int .i64 (a.2 : Int)]) = .returned (.tuple #[.int .u8 (b.1.toNat : Int), .int .i64 (b.2 : Int)]) := by rw [h]

theorem ret_next2 {l : List UInt8} {x y : Int} {p : UInt8 × Nat} (hp : nextL l = p) (hx : (p.1.toNat : Int) = x) (hy : (p.2 : Int) = y) : Ending.returned (.tuple #[.int .u8 x, .int .i64 y]) = .returned (.tuple #[.int .u8 ((nextL l).1.toNat : Int), .int .i64 ((nextL l).2 : Int)]) := by rw [hp, hx, hy]

set_option maxHeartbeats 4000000 in
theorem next_any (s : ByteArray) (hs0 : 1 ≤ s.size) (hs : s.size ≤ 2147483647) (w : World) :
    Calls Tryd.prog 141 #[.string s] w fun e w' => e = .returned (.tuple #[.int .u8 ((nextL s.data.toList).1.toNat : Int), .int .i64 ((nextL s.data.toList).2 : Int)]) ∧ w = w' := by
  obtain ⟨a, ha, hak, ha0, ha1⟩ := byteAt s 0 (by omega)
  by_cases h1 : a.toNat = 34 ∨ a.toNat < 32 ∨ 126 < a.toNat
  · have Hn : Hid (nextL s.data.toList = (0, 0)) := next1 ha h1
    clear ha
    rcases (show ((a.toNat : Int) == 34) = true ∨ (((a.toNat : Int) == 34) = false ∧ (a.toNat : Int) < 32) ∨ (((a.toNat : Int) == 34) = false ∧ (32 : Int) ≤ (a.toNat : Int) ∧ (126 : Int) < (a.toNat : Int)) from by
      by_cases e : a.toNat = 34
      · exact .inl (by rw [e]; rfl)
      · have : ((a.toNat : Int) == 34) = false := by simp only [beq_eq_false_iff_ne]; omega
        rcases Nat.lt_or_ge a.toNat 32 with h | h
        · exact .inr (.inl ⟨this, by omega⟩)
        · exact .inr (.inr ⟨this, by omega, by omega⟩)) with e | ⟨e, e'⟩ | ⟨e, e', e''⟩
    all_goals
      clear h1
      go_enter Tryd.func141, Tryd.ntmps141
      go_wp2_with fail
      go_ret2
      exact ⟨ret_next (a := (0, 0)) Hn.out, rfl⟩
  · have e1 : ((a.toNat : Int) == 34) = false := by simp only [beq_eq_false_iff_ne]; omega
    have e2 : (32 : Int) ≤ (a.toNat : Int) := by omega
    have e3 : (a.toNat : Int) ≤ 126 := by omega
    by_cases h2 : a.toNat = 92
    · have e4 : ((a.toNat : Int) != 92) = false := by rw [h2]; rfl
      by_cases hl1 : s.size = 1
      · have Hn : Hid (nextL s.data.toList = (0, 0)) := next3 ha h2 (by simpa using hl1)
        have hl1' : s.size ≤ 1 := by omega
        clear ha h1 h2 hl1
        go_enter Tryd.func141, Tryd.ntmps141
        go_wp2_with fail
        go_ret2
        exact ⟨ret_next (a := (0, 0)) Hn.out, rfl⟩
      · obtain ⟨b, hb, hbk, hb0, hb1⟩ := byteAt s 1 (by omega)
        have hl2 : 2 ≤ s.size := by omega
        clear hl1
        by_cases h3 : b.toNat = 34 ∨ b.toNat = 92
        · have Hn : Hid (nextL s.data.toList = (b, 2)) := next4 ha h2 hb h3
          rcases (show ((b.toNat : Int) == 34) = true ∨ (((b.toNat : Int) == 34) = false ∧ ((b.toNat : Int) == 92) = true) from by
            rcases h3 with h | h
            · exact .inl (by rw [h]; rfl)
            · exact .inr ⟨by rw [h]; rfl, by rw [h]; rfl⟩) with q | ⟨q, q'⟩
          all_goals
            clear ha hb h1 h2 h3
            go_enter Tryd.func141, Tryd.ntmps141
            go_wp2_with fail
            go_ret2
            exact ⟨ret_next (a := (b, 2)) Hn.out, rfl⟩
        · have q1 : ((b.toNat : Int) == 34) = false := by simp only [beq_eq_false_iff_ne]; omega
          have q2 : ((b.toNat : Int) == 92) = false := by simp only [beq_eq_false_iff_ne]; omega
          by_cases hl4 : s.size < 4
          · have Hn : Hid (nextL s.data.toList = (0, 0)) := next6 ha h2 hb h3 (by simpa using hl4)
            clear ha hb h1 h2 h3
            go_enter Tryd.func141, Tryd.ntmps141
            go_wp2_with fail
            go_ret2
            exact ⟨ret_next (a := (0, 0)) Hn.out, rfl⟩
          · by_cases h4 : b.toNat = 120
            · have q3 : ((b.toNat : Int) != 120) = false := by rw [h4]; rfl
              obtain ⟨c, hc, hck, hc0, hc1⟩ := byteAt s 2 (by omega)
              obtain ⟨d, hd, hdk, hd0, hd1⟩ := byteAt s 3 (by omega)
              have Hn := Lib.hid (next7 ha h2 hb h4 hc hd)
              have hl4' : 4 ≤ s.size := by omega
              clear ha hb hc hd h1 h2 h3 h4 hl4
              obtain ⟨bx0, bx1⟩ := digv_bd c
              obtain ⟨by0, by1⟩ := digv_bd d
              have Hx : Hid (digv c = digv c) := rfl
              by_cases k1 : digv c < 0 ∨ digv d < 0 ∨ (32 ≤ 16 * digv c + digv d ∧ 16 * digv c + digv d ≤ 126)
              · have Hn' : Hid (nextL s.data.toList = (0, 0)) := by show _ = _; rw [Hn.out, if_pos k1]
                clear Hn
                rcases (show digv c < 0 ∨ (0 ≤ digv c ∧ digv d < 0) ∨ (0 ≤ digv c ∧ 0 ≤ digv d ∧ 32 ≤ 16 * digv c + digv d ∧ 16 * digv c + digv d ≤ 126) by omega) with k | ⟨k, k'⟩ | ⟨k, k', k2, k3⟩
                all_goals
                  clear k1
                  go_enter Tryd.func141, Tryd.ntmps141
                  go_wp2_with fail
                  refine (digit_any c _).mono ?_
                  rintro e w1 ⟨rfl, rfl⟩
                  go_wp2_with fail
                  refine (digit_any d _).mono ?_
                  rintro e w1 ⟨rfl, rfl⟩
                  go_wp2_with fail
                  go_ret2
                  exact ⟨ret_next (a := (0, 0)) Hn'.out, rfl⟩
              · have Hn' : Hid (nextL s.data.toList = (UInt8.ofNat (16 * digv c + digv d).toNat, 4)) := by show _ = _; rw [Hn.out, if_neg k1]
                have Hv : Hid (((UInt8.ofNat (16 * digv c + digv d).toNat).toNat : Int) = 16 * digv c + digv d) := by
                  show _ = _
                  rw [UInt8.toNat_ofNat']; omega
                clear Hn
                rcases (show (0 ≤ digv c ∧ 0 ≤ digv d ∧ 16 * digv c + digv d < 32) ∨ (0 ≤ digv c ∧ 0 ≤ digv d ∧ 126 < 16 * digv c + digv d) by omega) with ⟨k, k', k2⟩ | ⟨k, k', k2⟩
                all_goals
                  clear k1
                  go_enter Tryd.func141, Tryd.ntmps141
                  go_wp2_with fail
                  refine (digit_any c _).mono ?_
                  rintro e w1 ⟨rfl, rfl⟩
                  go_wp2_with fail
                  refine (digit_any d _).mono ?_
                  rintro e w1 ⟨rfl, rfl⟩
                  go_wp2_with fail
                  go_ret2
                  exact ⟨ret_next2 Hn'.out Hv.out rfl, rfl⟩
            · have q3 : ((b.toNat : Int) != 120) = true := by simp only [bne_iff_ne]; omega
              have Hn : Hid (nextL s.data.toList = (0, 0)) := next5 ha h2 hb h3 h4
              have hl4' : 4 ≤ s.size := by omega
              clear ha hb h1 h2 h3 h4 hl4
              go_enter Tryd.func141, Tryd.ntmps141
              go_wp2_with fail
              go_ret2
              exact ⟨ret_next (a := (0, 0)) Hn.out, rfl⟩
    · have e4 : ((a.toNat : Int) != 92) = true := by simp only [bne_iff_ne]; omega
      have Hn : Hid (nextL s.data.toList = (a, 1)) := next2 ha h1 h2
      clear ha h1 h2
      go_enter Tryd.func141, Tryd.ntmps141
      go_wp2_with fail
      go_ret2
      exact ⟨ret_next (a := (a, 1)) Hn.out, rfl⟩
end Go.Proofs.YtkbamhecbfocbaaDoor.gl
