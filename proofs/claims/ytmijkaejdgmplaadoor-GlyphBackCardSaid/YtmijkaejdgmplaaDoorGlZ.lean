/- The law's own helpers over glyph: awake is true, GlyphStands is true in every world that holds the tables. -/
import Derived.Test.YtmijkaejdgmplaaDoorGlY
import Derived.Test.YtmijkaejdgmplaaDoorGlF
namespace Go.Proofs.YtmijkaejdgmplaaDoor.gl
open Go.ChangeShapes Go.WideShapes Go.ChangeAt Go.RowKit

theorem Unquote_good (s : ByteArray) (x : List UInt8) (hx : quoteL x = s.data.toList) (hs : s.size ≤ 536870911) (w : World) :
    Calls Tryd.prog 40 #[.string s] w fun e w' => e = .returned (.tuple #[.string ⟨x.toArray⟩, .int .i64 0]) ∧ Below w.heap.size w w' :=
  (Unquote_any s hs w).mono fun _ _ ⟨he, hb⟩ => ⟨by rw [he, unq_good hx], hb⟩
theorem Unquote_bad (s : ByteArray) (hx : ∀ x, quoteL x ≠ s.data.toList) (hs : s.size ≤ 536870911) (w : World) :
    Calls Tryd.prog 40 #[.string s] w fun e w' => e = .returned (.tuple #[.string ⟨#[]⟩, .int .i64 20]) ∧ Below w.heap.size w w' :=
  (Unquote_any s hs w).mono fun _ _ ⟨he, hb⟩ => ⟨by rw [he, unq_bad hx], hb⟩

theorem ex1 : quoteL [97, 34, 10] = [34, 97, 92, 34, 92, 120, 48, 97, 34] := by decide +kernel
theorem ex2 : ∀ x, quoteL x ≠ [34, 97, 34, 98, 34] := fun x hx => by
  have h := (inner_of_quote hx).2.2.2
  have h1 : ([97, 34, 98] : List UInt8) = ([97] : List UInt8).flatMap qB ++ [34, 98] := by decide +kernel
  exact strict_fail h1 (by simp) (by decide +kernel) x h
theorem ex3 : nameL [110, 101, 116, 46, 112, 111, 114, 116] = true := by decide +kernel
theorem ex4 : nameL [97, 46, 46, 98] = false := by decide +kernel
theorem ex5 : wordL [49, 45, 95, 46] = true := by decide +kernel
theorem ex6 : foldL [97, 66, 99] = [97, 98, 99] := by decide +kernel
theorem ex7 : cls 97 = 1 := by decide
set_option maxRecDepth 100000 in
theorem ex8 : cnt 4 256 = 2 := by decide +kernel

set_option maxHeartbeats 4000000 in
set_option maxRecDepth 100000 in
theorem awake_any (w : World) (hG : Glo w) : Calls Tryd.prog 30 #[] w fun e w' => e = .returned (.bool true) ∧ Below w.heap.size w w' := by
  have HG := Lib.hid hG
  clear hG
  go_enter Tryd.func30, Tryd.ntmps30
  go_wp2_with fail
  refine (Unquote_good ⟨#[34, 97, 92, 34, 92, 120, 48, 97, 34]⟩ [97, 34, 10] ex1 (by decide) _).mono ?_
  rintro e w1 ⟨rfl, hb⟩
  have HB1 := Lib.hid hb
  have HG1 := Lib.hid (HG.out.below hb (Nat.le_refl _))
  clear hb
  go_wp2_with fail
  refine (Unquote_bad ⟨#[34, 97, 34, 98, 34]⟩ ex2 (by decide) _).mono ?_
  rintro e w2 ⟨rfl, hb⟩
  have HB2 := Lib.hid (HB1.out.trans (hb.mono HB1.out.size))
  have HG2 := Lib.hid (HG1.out.below hb (Nat.le_refl _))
  clear hb
  go_wp2_with fail
  refine (IsName_any ⟨#[110, 101, 116, 46, 112, 111, 114, 116]⟩ (by decide) _ HG2.out).mono ?_
  rintro e w3 ⟨rfl, hb⟩
  rw [ex3]
  have HB3 := Lib.hid (HB2.out.trans (hb.mono HB2.out.size))
  have HG3 := Lib.hid (HG2.out.below hb (Nat.le_refl _))
  clear hb
  go_wp2_with fail
  refine (IsName_any ⟨#[97, 46, 46, 98]⟩ (by decide) _ HG3.out).mono ?_
  rintro e w4 ⟨rfl, hb⟩
  rw [ex4]
  have HB4 := Lib.hid (HB3.out.trans (hb.mono HB3.out.size))
  have HG4 := Lib.hid (HG3.out.below hb (Nat.le_refl _))
  clear hb
  go_wp2_with fail
  refine (IsWord_any ⟨#[49, 45, 95, 46]⟩ (by decide) _ HG4.out).mono ?_
  rintro e w5 ⟨rfl, hb⟩
  rw [ex5]
  have HB5 := Lib.hid (HB4.out.trans (hb.mono HB4.out.size))
  have HG5 := Lib.hid (HG4.out.below hb (Nat.le_refl _))
  clear hb
  go_wp2_with fail
  refine (Fold_any ⟨#[97, 66, 99]⟩ (by decide) _ HG5.out).mono ?_
  rintro e w6 ⟨rfl, hb⟩
  rw [ex6]
  have HB6 := Lib.hid (HB5.out.trans (hb.mono HB5.out.size))
  have HG6 := Lib.hid (HG5.out.below hb (Nat.le_refl _))
  clear hb
  go_wp2_with fail
  refine (Quote_any ⟨#[97, 34, 10]⟩ (by decide) _).mono ?_
  rintro e w7 ⟨rfl, hb⟩
  rw [ex1]
  have HB7 := Lib.hid (HB6.out.trans (hb.mono HB6.out.size))
  have HG7 := Lib.hid (HG6.out.below hb (Nat.le_refl _))
  clear hb
  go_wp2_with fail
  refine (Class_any 97 _ HG7.out).mono ?_
  rintro e w8 ⟨rfl, hb⟩
  rw [ex7]
  have HB8 := Lib.hid (HB7.out.trans (hb.mono HB7.out.size))
  have HG8 := Lib.hid (HG7.out.below hb (Nat.le_refl _))
  clear hb
  go_wp2_with fail
  refine (Count_any 4 _ HG8.out).mono ?_
  rintro e w9 ⟨rfl, hb⟩
  rw [ex8]
  have HB9 := Lib.hid (HB8.out.trans (hb.mono HB8.out.size))
  clear hb
  go_wp2_with fail
  go_ret
  exact ⟨rfl, HB9.out⟩

set_option maxHeartbeats 4000000 in
set_option maxRecDepth 100000 in
theorem stands_any (w : World) (hG : Glo w) : Calls Tryd.prog 6 #[] w fun e w' => e = .returned (.bool true) ∧ Below w.heap.size w w' := by
  have HG := Lib.hid hG
  clear hG
  go_enter Tryd.func6, Tryd.ntmps6
  go_wp2_with fail
  refine (awake_any _ HG.out).mono ?_
  rintro e w1 ⟨rfl, hb⟩
  have HB1 := Lib.hid hb
  clear hb
  go_wp2_with fail
  go_loopw [2] (fun i wr => ∃ k : Int, -300 ≤ k ∧ k ≤ 600 ∧ i = .int .i64 k ∧ Below w.heap.size w wr) (fun i _ => (600 - intOf i).toNat)
  case atStart => exact ⟨-300, by omega, by omega, rfl, HB1.out⟩
  case round =>
    obtain ⟨k, hk0, hk, rfl, hb⟩ := hrel
    have Hb := Lib.hid hb
    have HG1 := Lib.hid (HG.out.below hb (Nat.le_refl _))
    have hsz := hb.size
    clear hb
    by_cases hlt : k < 600
    · go_wp2_with fail
      refine (Class_any k _ HG1.out).mono ?_
      rintro e w2 ⟨rfl, hb⟩
      have HB2 := Lib.hid (Hb.out.trans (hb.mono hsz))
      clear hb
      go_wp2_with fail
      refine (refClass_any k _).mono ?_
      rintro e w3 ⟨rfl, rfl⟩
      go_wp2_with fail
      go_roundw
      case rel => exact ⟨k + 1, by omega, by omega, rfl, HB2.out⟩
      case measure => simp [intOf]; omega
    · obtain rfl : k = 600 := by omega
      go_wp2_with fail
      obtain ⟨wo, rfl⟩ : ∃ wo : World, wo = wr := ⟨_, rfl⟩
      go_loopw [3] (fun i wr => ∃ k : Int, -3 ≤ k ∧ k ≤ 12 ∧ i = .int .i64 k ∧ Below w.heap.size w wr) (fun i _ => (12 - intOf i).toNat)
      case atStart => exact ⟨-3, by omega, by omega, rfl, Hb.out⟩
      case round =>
        obtain ⟨k, hk0, hk, rfl, hb⟩ := hrel
        have Hb2 := Lib.hid hb
        have HG2 := Lib.hid (HG.out.below hb (Nat.le_refl _))
        have hsz2 := hb.size
        clear hb
        by_cases hlt : k < 12
        · go_wp2_with fail
          refine (Count_any k _ HG2.out).mono ?_
          rintro e w2 ⟨rfl, hb⟩
          have HB2 := Lib.hid (Hb2.out.trans (hb.mono hsz2))
          clear hb
          go_wp2_with fail
          refine (refCount_any k _).mono ?_
          rintro e w3 ⟨rfl, rfl⟩
          generalize cnt k 256 = m
          go_wp2_with fail
          go_roundw
          case rel => exact ⟨k + 1, by omega, by omega, rfl, HB2.out⟩
          case measure => simp [intOf]; omega
        · obtain rfl : k = 12 := by omega
          go_wp2_with fail
          go_ret
          exact ⟨rfl, Hb2.out⟩

theorem numbers_any (b class_ : Int) (w : World) (hG : Glo w) : Calls Tryd.prog 7 #[.int .i64 b, .int .i64 class_] w fun e w' => e = .returned (.bool true) ∧ Below w.heap.size w w' := by
  have HG := Lib.hid hG
  clear hG
  go_enter Tryd.func7, Tryd.ntmps7
  go_wp2_with fail
  refine (awake_any _ HG.out).mono ?_
  rintro e w1 ⟨rfl, hb⟩
  have HB1 := Lib.hid hb
  have HG1 := Lib.hid (HG.out.below hb (Nat.le_refl _))
  clear hb
  go_wp2_with fail
  refine (Class_any b _ HG1.out).mono ?_
  rintro e w2 ⟨rfl, hb⟩
  have HB2 := Lib.hid (HB1.out.trans (hb.mono HB1.out.size))
  have HG2 := Lib.hid (HG1.out.below hb (Nat.le_refl _))
  clear hb
  go_wp2_with fail
  refine (refClass_any b _).mono ?_
  rintro e w3 ⟨rfl, rfl⟩
  generalize cls b = cb
  go_wp2_with fail
  refine (Count_any class_ _ HG2.out).mono ?_
  rintro e w4 ⟨rfl, hb⟩
  have HB4 := Lib.hid (HB2.out.trans (hb.mono HB2.out.size))
  have HG4 := Lib.hid (HG2.out.below hb (Nat.le_refl _))
  clear hb
  go_wp2_with fail
  refine (refCount_any class_ _).mono ?_
  rintro e w5 ⟨rfl, rfl⟩
  generalize cnt class_ 256 = m
  go_wp2_with fail
  refine (stands_any _ HG4.out).mono ?_
  rintro e w6 ⟨rfl, hb⟩
  have HB6 := Lib.hid (HB4.out.trans (hb.mono HB4.out.size))
  clear hb
  go_wp2_with fail
  go_ret
  exact ⟨rfl, HB6.out⟩
end Go.Proofs.YtmijkaejdgmplaaDoor.gl
