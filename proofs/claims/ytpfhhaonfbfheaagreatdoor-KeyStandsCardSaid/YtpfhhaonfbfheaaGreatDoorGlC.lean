/- The parts of names: a plain function of bytes, and the reference's part, which returns it. No conditions. -/
import Derived.Test.YtpfhhaonfbfheaaGreatDoorGlB
import Derived.Test.YtpfhhaonfbfheaaGreatDoorLib
namespace Go.Proofs.YtpfhhaonfbfheaaGreatDoor.gl
open Go.ChangeShapes Go.WideShapes Go.ChangeAt Go.RowKit

/-- A part of a name. -/
def partL : List UInt8 → Bool
  | [] => false
  | c :: r => decide (cls c.toNat = 1) && r.all fun b => decide (cls b.toNat = 1 ∨ cls b.toNat = 3)
/-- The first k bytes do. -/
def partTo (l : List UInt8) (k : Nat) : Prop := ∀ j b, j < k → l[j]? = some b → (cls b.toNat = 1 ∨ (j ≠ 0 ∧ cls b.toNat = 3))
theorem partTo_zero (l : List UInt8) : partTo l 0 := fun j b h => by omega
theorem partTo_succ {l : List UInt8} {k : Nat} {b : UInt8} (h : partTo l k) (hb : l[k]? = some b) (hc : cls b.toNat = 1 ∨ (k ≠ 0 ∧ cls b.toNat = 3)) : partTo l (k + 1) := by
  intro j c hj hc'
  rcases Nat.lt_or_ge j k with h1 | h1
  · exact h j c h1 hc'
  · obtain rfl : j = k := by omega
    rw [hb] at hc'
    obtain rfl := Option.some.inj hc'
    exact hc
theorem part_bad {l : List UInt8} {k : Nat} {b : UInt8} (hb : l[k]? = some b) (h1 : cls b.toNat ≠ 1) (h2 : k = 0 ∨ cls b.toNat ≠ 3) : partL l = false := by
  cases l with
  | nil => rfl
  | cons c r =>
    cases k with
    | zero =>
      simp at hb
      subst hb
      simp [partL, h1]
    | succ k =>
      have hm : b ∈ r := List.mem_of_getElem? (by simpa using hb)
      have h3 : cls b.toNat ≠ 3 := by rcases h2 with h2 | h2; omega; exact h2
      have : (r.all fun b => decide (cls b.toNat = 1 ∨ cls b.toNat = 3)) = false := by
        rw [List.all_eq_false]
        exact ⟨b, hm, by simp [h1, h3]⟩
      simp only [partL, this, Bool.and_false]
theorem part_end {l : List UInt8} (h : partTo l l.length) : partL l = !l.isEmpty := by
  cases l with
  | nil => rfl
  | cons c r =>
    have h0 := h 0 c (by simp) rfl
    have h1 : cls c.toNat = 1 := by rcases h0 with h0 | h0; exact h0; omega
    have h2 : (r.all fun b => decide (cls b.toNat = 1 ∨ cls b.toNat = 3)) = true := by
      rw [List.all_eq_true]
      intro b hb
      obtain ⟨j, hj⟩ := List.mem_iff_getElem?.1 hb
      have hlt : j < r.length := by
        rcases Nat.lt_or_ge j r.length with h | h
        · exact h
        · rw [List.getElem?_eq_none h] at hj; cases hj
      have := h (j + 1) b (by simp; omega) (by simpa using hj)
      simp
      omega
    simp only [partL, h1, h2]
    rfl

theorem refPart_any (s : ByteArray) (hs : s.size ≤ 2147483647) (w : World) :
    Calls Tryz.prog 80 #[.string s] w fun e w' => e = .returned (.bool (partL s.data.toList)) ∧ w = w' := by
  go_enter Tryz.func80, Tryz.ntmps80
  go_wp2_with fail
  go_loop [3] (fun i => ∃ k : Nat, k ≤ s.size ∧ i = .int .i64 k ∧ partTo s.data.toList k) (fun i => s.size - (intOf i).toNat)
  case atStart => exact ⟨0, by omega, rfl, partTo_zero _⟩
  case round =>
    obtain ⟨k, hk, rfl, hto⟩ := hrel
    have Hto := Lib.hid hto
    clear hto
    by_cases hlt : k < s.size
    · obtain ⟨b, hb, hbk, hb0, hb1⟩ := byteAt s k hlt
      have Hb := Lib.hid hb
      clear hb
      have hwp : True := trivial
      by_cases h1 : cls b.toNat = 1
      · go_wp2_with fail
        refine (refClass_any _ _).mono ?_
        rintro e w1 ⟨rfl, rfl⟩
        go_wp2_with fail
        go_round
        case rel => exact ⟨k + 1, by omega, by go_num, partTo_succ Hto.out Hb.out (.inl (by assumption))⟩
        case measure => simp [intOf]; omega
      · have h1' : (cls b.toNat != 1) = true := by simp [h1]
        by_cases hz : k = 0
        · subst hz
          go_wp2_with fail
          refine (refClass_any _ _).mono ?_
          rintro e w1 ⟨rfl, rfl⟩
          go_wp2_with fail
          go_ret
          exact ⟨ret_bool (part_bad Hb.out h1 (.inl rfl)), rfl⟩
        · have hz' : ((k : Int) == 0) = false := by simp; omega
          by_cases h3 : cls b.toNat = 3
          · have h3' : (cls b.toNat != 3) = false := by simp [h3]
            have H3 := Lib.hid h3
            clear h3
            go_wp2_with fail
            refine (refClass_any _ _).mono ?_
            rintro e w1 ⟨rfl, rfl⟩
            go_wp2_with fail
            go_round
            case rel => exact ⟨k + 1, by omega, by go_num, partTo_succ Hto.out Hb.out (.inr ⟨hz, H3.out⟩)⟩
            case measure => simp [intOf]; omega
          · have h3' : (cls b.toNat != 3) = true := by simp [h3]
            go_wp2_with fail
            refine (refClass_any _ _).mono ?_
            rintro e w1 ⟨rfl, rfl⟩
            go_wp2_with fail
            go_ret
            exact ⟨ret_bool (part_bad Hb.out h1 (.inr h3)), rfl⟩
    · obtain rfl : k = s.size := by omega
      go_wp2_with fail
      go_ret
      exact ⟨ret_bool (by rw [part_end (l := s.data.toList) (by simpa using Hto.out), ByteArray.toList_eq]), rfl⟩
end Go.Proofs.YtpfhhaonfbfheaaGreatDoor.gl
