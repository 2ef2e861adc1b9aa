/- The reference's small functions of chapter 6 (blank, trimmed, parts, two, bare, meant, given, lines, there) return plain functions. Conditions: texts of at most 536870911 bytes. -/
import Derived.Test.YtkbamhecbfocbaaDoorInC
import Derived.Test.YtkbamhecbfocbaaDoorGlX
import Derived.Test.YtkbamhecbfocbaaDoorLst
import Derived.Laws.RangeAny
namespace Go.Proofs.YtkbamhecbfocbaaDoor.ini
open Go.ChangeShapes Go.WideShapes Go.ChangeAt Go.RowKit gl

/-! ### Plain laws -/
def strLen : Value → Nat
  | .string t => t.size
  | _ => 0
theorem strLen_str (t : ByteArray) : strLen (.string t) = t.size := rfl
theorem blk_yes {b : UInt8} (h : b.toNat = 32 ∨ b.toNat = 9) : blk b = true := by
  unfold blk
  rcases h with h | h
  · rw [show b = 32 from UInt8.toNat_inj.1 (by rw [h]; rfl)]; rfl
  · rw [show b = 9 from UInt8.toNat_inj.1 (by rw [h]; rfl)]; rfl
theorem blk_no {b : UInt8} (h : b.toNat ≠ 32) (h2 : b.toNat ≠ 9) : blk b = false := by
  unfold blk
  have h1 : b ≠ 32 := by rintro rfl; exact h rfl
  have h3 : b ≠ 9 := by rintro rfl; exact h2 rfl
  simp [h1, h3]
theorem triL_step {l : List UInt8} {b : UInt8} (h : l[0]? = some b) (hb : blk b = true) : triL (l.drop 1) = triL l := by
  cases l with
  | nil => simp at h
  | cons c r =>
    simp at h
    subst h
    unfold triL
    rw [List.dropWhile_cons, if_pos hb]
    rfl
theorem triL_stop {l : List UInt8} {b : UInt8} (h : l[0]? = some b) (hb : blk b = false) : triL l = l := by
  cases l with
  | nil => simp at h
  | cons c r => simp at h; subst h; exact triL_first hb
theorem last_split {l : List UInt8} {b : UInt8} (h : l[l.length - 1]? = some b) : l = l.take (l.length - 1) ++ [b] := by
  have hlt := lt_of_get h
  have e : l = l.take (l.length - 1) ++ l.drop (l.length - 1) := (List.take_append_drop _ _).symm
  rw [List.drop_eq_getElem_cons hlt] at e
  rw [List.getElem?_eq_getElem hlt] at h
  rw [Option.some.inj h, List.drop_eq_nil_of_le (by omega)] at e
  exact e
theorem triR_step {l : List UInt8} {b : UInt8} (h : l[l.length - 1]? = some b) (hb : blk b = true) : triR (l.take (l.length - 1)) = triR l := by
  have e := last_split h
  conv => rhs; rw [e]
  rw [triR_suf (by intro c hc; simp at hc; subst hc; exact hb)]
theorem triR_stop {l : List UInt8} {b : UInt8} (h : l[l.length - 1]? = some b) (hb : blk b = false) : triR l = l := by
  rw [last_split h]; exact triR_last hb

theorem blank_yes {b : UInt8} (h : blk b = true) (w : World) : Calls Tryd.prog 70 #[.int .u8 (b.toNat : Int)] w fun e w' => e = .returned (.bool true) ∧ w = w' := by
  have hb := b.toNat_lt
  rcases (show b.toNat = 32 ∨ b.toNat = 9 ∨ (b.toNat ≠ 32 ∧ b.toNat ≠ 9) by omega) with h1 | h1 | ⟨h1, h2⟩
  · rw [h1]
    go_enter Tryd.func70, Tryd.ntmps70
    go_wp2_with fail
    go_ret
    exact ⟨rfl, rfl⟩
  · rw [h1]
    go_enter Tryd.func70, Tryd.ntmps70
    go_wp2_with fail
    go_ret
    exact ⟨rfl, rfl⟩
  · rw [blk_no h1 h2] at h; cases h
theorem blank_no {b : UInt8} (h : blk b = false) (w : World) : Calls Tryd.prog 70 #[.int .u8 (b.toNat : Int)] w fun e w' => e = .returned (.bool false) ∧ w = w' := by
  have h1 : ((b.toNat : Int) == 32) = false := by
    rw [beq_eq_false_iff_ne]; intro e
    rw [blk_yes (.inl (by omega))] at h; cases h
  have h2 : ((b.toNat : Int) == 9) = false := by
    rw [beq_eq_false_iff_ne]; intro e
    rw [blk_yes (.inr (by omega))] at h; cases h
  clear h
  have hb := b.toNat_lt
  go_enter Tryd.func70, Tryd.ntmps70
  go_wp2_with fail
  go_ret
  exact ⟨rfl, rfl⟩

set_option maxHeartbeats 4000000 in
theorem trimmed_any (s : ByteArray) (hs : s.size ≤ 2147483647) (w : World) :
    Calls Tryd.prog 39 #[.string s] w fun e w' => e = .returned (.string (B (tri s.data.toList))) ∧ w = w' := by
  go_enter Tryd.func39, Tryd.ntmps39
  go_wp2_with fail
  go_loop [0] (fun v => ∃ t : ByteArray, v = .string t ∧ triL t.data.toList = triL s.data.toList ∧ t.size ≤ s.size) (fun v => strLen v)
  case atStart => exact ⟨s, rfl, rfl, Nat.le_refl _⟩
  case round =>
    obtain ⟨t, rfl, ht, hts⟩ := hrel
    have Ht := Lib.hid ht
    clear ht
    by_cases hgo : ∃ b : UInt8, t.data.toList[0]? = some b ∧ blk b = true
    · obtain ⟨b', hb', hbl'⟩ := hgo
      have h0 : 0 < t.size := by have := lt_of_get hb'; rwa [toList_len] at this
      obtain ⟨b, hb, hbk, hb0, hb1⟩ := byteAt t 0 h0
      have hbk' := hbk h0
      obtain rfl : b' = b := by rw [hb] at hb'; exact (Option.some.inj hb').symm
      have Hb := Lib.hid hb
      have HB := Lib.hid fun W => blank_yes hbl' W
      have He : Hid ((t.extract 1 t.size).data.toList = t.data.toList.drop 1) := Lib.hid (drop_data t 1)
      have hes : (t.extract 1 t.size).size = t.size - 1 := by rw [ByteArray.size_extract]; omega
      have H2 := Lib.hid (triL_step Hb.out hbl')
      clear hbl' hb hb'
      go_wp2_with fail
      refine (HB.out _).mono ?_
      rintro e w1 ⟨rfl, rfl⟩
      go_wp2_with fail
      go_round
      case rel => exact ⟨_, rfl, by rw [He.out, H2.out, Ht.out], by omega⟩
      case measure => simp [strLen]; omega
    · have HL : Hid (t.data.toList = triL s.data.toList) := Lib.hid (by
        rw [← Ht.out]
        cases hl : t.data.toList with
        | nil => rfl
        | cons c r =>
          refine (triL_first ?_).symm
          cases hc : blk c with
          | false => rfl
          | true => exact absurd ⟨c, by rw [hl]; rfl, hc⟩ hgo)
      rcases Nat.eq_zero_or_pos t.size with h0 | h0
      case' inl =>
        have h0i : decide (0 < (t.size : Int)) = false := by simpa using h0
        have h0n : decide (0 < t.size) = false := by simpa using h0
        clear hgo Ht h0
        go_wp2_with fail
        clear h0i h0n
      case' inr =>
        obtain ⟨b, hb, hbk, hb0, hb1⟩ := byteAt t 0 h0
        have hbk' := hbk h0
        have HB := Lib.hid fun W => blank_no (b := b) (by
          cases hc : blk b with
          | false => rfl
          | true => exact absurd ⟨b, hb, hc⟩ hgo) W
        clear hgo Ht hb
        go_wp2_with fail
        refine (HB.out _).mono ?_
        rintro e w1 ⟨rfl, rfl⟩
        clear HB hb0 hb1 hbk hbk'
        go_wp2_with fail
      all_goals
        go_loop [0] (fun v => ∃ u : ByteArray, v = .string u ∧ triR u.data.toList = triR t.data.toList ∧ u.size ≤ s.size) (fun v => strLen v)
        case atStart => exact ⟨t, rfl, rfl, hts⟩
        case round =>
          obtain ⟨u, rfl, hu, hus⟩ := hrel
          have Hu := Lib.hid hu
          clear hu
          by_cases hgo : ∃ b : UInt8, u.data.toList[u.size - 1]? = some b ∧ blk b = true
          · obtain ⟨b', hb', hbl'⟩ := hgo
            have h0 : 0 < u.size := by have := lt_of_get hb'; rw [toList_len] at this; omega
            obtain ⟨b, hb, hbk, hb0, hb1⟩ := byteAt u (u.size - 1) (by omega)
            have hbk' := hbk (by omega)
            obtain rfl : b' = b := by rw [hb] at hb'; exact (Option.some.inj hb').symm
            have elen : ((u.size : Int) - 1).toNat = u.size - 1 := by omega
            have HB := Lib.hid fun W => blank_yes hbl' W
            have He : Hid ((u.extract 0 (u.size - 1)).data.toList = u.data.toList.take (u.size - 1)) := Lib.hid (by rw [extract_toList]; simp)
            have hes : (u.extract 0 (u.size - 1)).size = u.size - 1 := by rw [ByteArray.size_extract]; omega
            have H2 : Hid (triR (u.data.toList.take (u.size - 1)) = triR u.data.toList) := Lib.hid (by
              have := triR_step (l := u.data.toList) (b := b') (by rw [toList_len]; exact hb) hbl'
              rwa [toList_len] at this)
            clear hbl' hb hb'
            go_wp2_with fail
            refine (HB.out _).mono ?_
            rintro e w1 ⟨rfl, rfl⟩
            go_wp2_with fail
            go_round
            case rel => exact ⟨_, rfl, by rw [He.out, H2.out, Hu.out], by omega⟩
            case measure => simp [strLen]; omega
          · have HR : Hid (.string u = Value.string (B (tri s.data.toList))) := Lib.hid (by
              have e : u.data.toList = triR t.data.toList := by
                rw [← Hu.out]
                rcases List.eq_nil_or_concat u.data.toList with h | ⟨r, c, h⟩
                · rw [h]; rfl
                · have hl : u.data.toList[u.data.toList.length - 1]? = some c := by rw [h]; simp
                  refine (triR_stop hl ?_).symm
                  cases hc : blk c with
                  | false => rfl
                  | true => exact absurd ⟨c, by rw [toList_len] at hl; exact hl, hc⟩ hgo
              rw [HL.out] at e
              rw [← B_of u, e]
              rfl)
            rcases Nat.eq_zero_or_pos u.size with h0 | h0
            case' inl =>
              have h0i : decide (0 < (u.size : Int)) = false := by simpa using h0
              have h0n : decide (0 < u.size) = false := by simpa using h0
              clear hgo Hu h0
              go_wp2_with fail
            case' inr =>
              obtain ⟨b, hb, hbk, hb0, hb1⟩ := byteAt u (u.size - 1) (by omega)
              have hbk' := hbk (by omega)
              have elen : ((u.size : Int) - 1).toNat = u.size - 1 := by omega
              have HB := Lib.hid fun W => blank_no (b := b) (by
                cases hc : blk b with
                | false => rfl
                | true => exact absurd ⟨b, hb, hc⟩ hgo) W
              clear hgo Hu hb
              go_wp2_with fail
              refine (HB.out _).mono ?_
              rintro e w1 ⟨rfl, rfl⟩
              clear HB hb0 hb1 hbk hbk'
              go_wp2_with fail
            all_goals
              go_ret
              exact ⟨congrArg Ending.returned HR.out, rfl⟩
end Go.Proofs.YtkbamhecbfocbaaDoor.ini
