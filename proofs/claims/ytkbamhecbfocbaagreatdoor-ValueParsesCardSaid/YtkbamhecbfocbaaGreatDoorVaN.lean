/- value.Print returns the plain function. Conditions: the listed variables hold what the program's text lays; the value's words lie in memory; it is no greater than 2147483647 bytes and words. -/
import Derived.Test.YtkbamhecbfocbaaGreatDoorVaM
namespace Go.Proofs.YtkbamhecbfocbaaGreatDoor.va
open Go.ChangeShapes Go.WideShapes Go.ChangeAt Go.RowKit gl

/-- What Print gives. -/
def PrintOut (isW : List UInt8 → Bool) (v : Val) (e : Ending) : Prop := e = .returned (.tuple #[.string (B (print isW v).1), .int .i64 (print isW v).2])
theorem print_t {v : Val} (h : right wordL v = true) : print wordL v = (prints v, 0) := by unfold print; rw [h]; rfl
theorem print_f {v : Val} (h : right wordL v = false) : print wordL v = ([], 1) := by unfold print; rw [h]; rfl

set_option maxHeartbeats 1000000 in
set_option maxRecDepth 100000 in
theorem Print_any (v : Val) (hb : Vb v) (sl : Value) (w : World) (hV : Vlo w) (hS : Strs w sl v.words) :
    Calls Tryz.prog 17 #[rep v sl] w fun e w' => PrintOut wordL v e ∧ Below w.heap.size w w' := by
  have HRi := Lib.hid fun (W : World) (hbW : Below w.heap.size w W) => Right_any v hb sl W (hV.below hbW (Nat.le_refl _)) (hS.below hbW (Nat.le_refl _))
  have HVb := Lib.hid fun (W : World) (hbW : Below w.heap.size w W) => hV.below hbW (Nat.le_refl _)
  have HJ := Lib.hid fun (W : World) (hbW : Below w.heap.size w W) => joinW_any sl v.words W (hS.below hbW (Nat.le_refl _)) hb.words hb.joined
  have hV' := Lib.hid hV
  clear hb hV
  obtain ⟨p, c, rfl, hc, _⟩ := hS
  unfold PrintOut
  cases hr : right wordL v with
  | false =>
    rw [print_f hr]
    rw [hr] at HRi
    clear hr
    obtain ⟨k, n, t, ws⟩ := v
    unfold rep at *
    simp only at *
    go_enter Tryz.func17, Tryz.ntmps17
    go_wp2_with fail
    refine (HRi.out _ ((Below.refl _ w).alloc (Nat.le_refl _) _)).mono ?_
    rintro e w1 ⟨rfl, hb⟩
    go_wp2_with fail
    go_ret2
    exact ⟨rfl, ((Below.refl _ w).alloc (Nat.le_refl _) _).trans (hb.mono (by simp))⟩
  | true =>
    have hcs := right_cases hr
    rw [print_t hr]
    rw [hr] at HRi
    clear hr
    obtain ⟨k, n, t, ws⟩ := v
    unfold rep at *
    simp only at *
    obtain ⟨m, hm⟩ : ∃ m, ws.length = m := ⟨_, rfl⟩
    rw [hm] at HRi HJ hc ⊢
    rcases hcs with ⟨hk, h1, h2, h3, h4⟩ | ⟨hk, h1, h2, h3, h4⟩ | ⟨hk, h1, h2, h3, h4⟩ | ⟨hk, h1, h2, h3, h4⟩ | ⟨hk, h1, h2, h3, h4, h5⟩
    · subst hk
      obtain ⟨X, hX⟩ : ∃ X, B (prints ⟨1, n, t, ws⟩) = X := ⟨_, rfl⟩
      rw [hX]
      have HF : Hid (∀ W, Calls Tryz.prog 38 #[.bool (n == 1)] W fun e w' => e = .returned (.string X) ∧ w' = W) := Lib.hid fun W => (Tryz.strconv_FormatBool (n == 1) W).mono fun e w' ⟨he, hw⟩ => ⟨by
        rw [he, formatBool_eq, ← hX]
        show Ending.returned (.string (B (if (n == 1) = true then _ else _))) = .returned (.string (B (if n = 1 then _ else _)))
        congr 3
        simp, hw⟩
      clear hX HJ hm h1 h2 h3 h4
      go_enter Tryz.func17, Tryz.ntmps17
      go_wp2_with fail
      refine (HRi.out _ ((Below.refl _ w).alloc (Nat.le_refl _) _)).mono ?_
      rintro e w1 ⟨rfl, hb⟩
      obtain ⟨⟨b0, b1, b2, b3⟩, _⟩ := res_cells hb
      have Hb := Lib.hid (((Below.refl _ w).alloc (Nat.le_refl _) _).trans (hb.mono (by simp)))
      clear hb
      go_wp2_with fail
      refine (HF.out _).mono ?_
      rintro e w2 ⟨rfl, rfl⟩
      go_wp2_with fail
      go_ret2
      exact ⟨rfl, Hb.out⟩
    · subst hk
      have HF : Hid (∀ W, Below w.heap.size w W → Calls Tryz.prog 39 #[.int .i64 n] W fun e w' => e = .returned (.string (B (prints ⟨2, n, t, ws⟩))) ∧ Below W.heap.size W w') := Lib.hid fun W hW => Itoa_any n (by omega) (by omega) W (HVb.out W hW)
      generalize B (prints ⟨2, n, t, ws⟩) = X at *
      clear HJ hm h3 h4
      go_enter Tryz.func17, Tryz.ntmps17
      go_wp2_with fail
      refine (HRi.out _ ((Below.refl _ w).alloc (Nat.le_refl _) _)).mono ?_
      rintro e w1 ⟨rfl, hb⟩
      obtain ⟨⟨b0, b1, b2, b3⟩, _⟩ := res_cells hb
      have Hb := Lib.hid (((Below.refl _ w).alloc (Nat.le_refl _) _).trans (hb.mono (by simp)))
      clear hb
      go_wp2_with fail
      refine (HF.out _ Hb.out).mono ?_
      rintro e w2 ⟨rfl, hb⟩
      go_wp2_with fail
      go_ret2
      exact ⟨rfl, Hb.out.trans (hb.mono Hb.out.size)⟩
    · have hmost : most k ≤ 1125899906842624 := by rcases hk with rfl | rfl <;> decide
      have hpr : prints ⟨k, n, t, ws⟩ = Lib.itoa (n / unit k (uname k (best k n))) ++ uname k (best k n) := by
        unfold prints
        simp only
        rw [if_neg (by omega), if_neg (by omega), if_neg (by omega), if_neg (by omega)]
      rw [hpr]
      exact printU_any k n hk h1 (by omega) t p m c w hV'.out HRi.out
    · subst hk
      have hX : B (prints ⟨5, n, t, ws⟩) = t := B_toList t
      rw [hX]
      clear HJ hm hX h1 h2 h3 h4
      go_enter Tryz.func17, Tryz.ntmps17
      go_wp2_with fail
      refine (HRi.out _ ((Below.refl _ w).alloc (Nat.le_refl _) _)).mono ?_
      rintro e w1 ⟨rfl, hb⟩
      obtain ⟨⟨b0, b1, b2, b3⟩, _⟩ := res_cells hb
      have Hb := Lib.hid (((Below.refl _ w).alloc (Nat.le_refl _) _).trans (hb.mono (by simp)))
      clear hb
      go_wp2_with fail
      go_ret2
      exact ⟨rfl, Hb.out⟩
    · subst hk
      have HF : Hid (∀ W, Below w.heap.size w W → Calls Tryz.prog 37 #[.slice p m c, .string ⟨#[44]⟩] W fun e w' => e = .returned (.string (B (prints ⟨6, n, t, ws⟩))) ∧ Below W.heap.size W w') := HJ
      generalize B (prints ⟨6, n, t, ws⟩) = X at *
      clear HJ hm h1 h2 h3 h4 h5
      go_enter Tryz.func17, Tryz.ntmps17
      go_wp2_with fail
      refine (HRi.out _ ((Below.refl _ w).alloc (Nat.le_refl _) _)).mono ?_
      rintro e w1 ⟨rfl, hb⟩
      obtain ⟨⟨b0, b1, b2, b3⟩, _⟩ := res_cells hb
      have Hb := Lib.hid (((Below.refl _ w).alloc (Nat.le_refl _) _).trans (hb.mono (by simp)))
      clear hb
      go_wp2_with fail
      refine (HF.out _ Hb.out).mono ?_
      rintro e w2 ⟨rfl, hb⟩
      go_wp2_with fail
      go_ret2
      exact ⟨rfl, Hb.out.trans (hb.mono Hb.out.size)⟩
end Go.Proofs.YtkbamhecbfocbaaGreatDoor.va
