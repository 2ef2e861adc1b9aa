/- tinderboxlaw02.addsUp adds, up to the bound; tinderboxlaw02.GlyphTexts returns true of any two texts. Conditions: the two tables of package glyph hold what the program's text lays. -/
import Derived.Test.YtmijkaejdgmplaaDoorGlZ
namespace Go.Proofs.YtmijkaejdgmplaaDoor.gl
open Go.ChangeShapes Go.WideShapes Go.ChangeAt Go.RowKit

def addsV (n m : Int) : Int := if n > 2147483647 ∨ m > 2147483647 then 2147483648 else n + m
theorem addsUp_any (n m : Int) (hn : 0 ≤ n) (hm : 0 ≤ m) (w : World) : Calls Tryd.prog 35 #[.int .i64 n, .int .i64 m] w fun e w' => e = .returned (.int .i64 (addsV n m)) ∧ w = w' := by
  by_cases h : n > 2147483647
  · go_enter Tryd.func35, Tryd.ntmps35
    go_wp2_with fail
    go_ret
    exact ⟨ret_int (by unfold addsV; rw [if_pos (by omega)]), rfl⟩
  · by_cases h2 : m > 2147483647
    · go_enter Tryd.func35, Tryd.ntmps35
      go_wp2_with fail
      go_ret
      exact ⟨ret_int (by unfold addsV; rw [if_pos (by omega)]), rfl⟩
    · go_enter Tryd.func35, Tryd.ntmps35
      go_wp2_with fail
      go_ret
      exact ⟨ret_int (by unfold addsV; rw [if_neg (by omega)]), rfl⟩

set_option maxHeartbeats 4000000 in
set_option maxRecDepth 100000 in
theorem texts_any (s t : ByteArray) (hs : s.size ≤ maxLen) (ht : t.size ≤ maxLen) (w : World) (hG : Glo w) : Calls Tryd.prog 8 #[.string s, .string t] w fun e w' => e = .returned (.bool true) ∧ Below w.heap.size w w' := by
  have HG := Lib.hid hG
  clear hG
  unfold maxLen at hs ht
  go_enter Tryd.func8, Tryd.ntmps8
  go_wp2_with fail
  refine (addsUp_any (s.size : Int) (t.size : Int) (by omega) (by omega) _).mono ?_
  rintro e w0 ⟨rfl, rfl⟩
  by_cases hbig : addsV (s.size : Int) (t.size : Int) > 536870911
  · go_wp2_with fail
    go_ret
    exact ⟨rfl, Below.refl _ _⟩
  have hsz : s.size ≤ 536870911 ∧ t.size ≤ 536870911 := by
    unfold addsV at hbig
    split at hbig <;> omega
  obtain ⟨hs1, ht1⟩ := hsz
  generalize addsV (s.size : Int) (t.size : Int) = av at hbig
  go_wp2_with fail
  refine (awake_any _ HG.out).mono ?_
  rintro e w1 ⟨rfl, hb⟩
  have HB1 := Lib.hid hb
  have HG1 := Lib.hid (HG.out.below hb (Nat.le_refl _))
  clear hb
  go_wp2_with fail
  obtain ⟨w2, hw2⟩ : ∃ w2, w2 = w1.alloc (.cells #[Value.string s, Value.string t, Value.string s] 9) := ⟨_, rfl⟩
  have HB2 : Hid (Below w.heap.size w w2) := Lib.hid (by rw [hw2]; exact HB1.out.alloc HB1.out.size _)
  have HG2 : Hid (Glo w2) := Lib.hid (by rw [hw2]; exact HG1.out.alloc _)
  have Hz : Hid (w1.heap.size < w2.heap.size) := Lib.hid (by rw [hw2, World.size_alloc]; omega)
  have Hc : Hid (∀ k : Nat, k < 3 → ∃ x : ByteArray, x.size ≤ 536870911 ∧ w2.cell? ⟨w1.heap.size, k, none⟩ = some (.string x)) := Lib.hid (by
    intro k hk
    have h0 : w2.heap[w1.heap.size]? = some (.cells #[Value.string s, Value.string t, Value.string s] 9 (0, 0)) := by rw [hw2]; exact heap_alloc_new w1 _
    rcases (show k = 0 ∨ k = 1 ∨ k = 2 by omega) with rfl | rfl | rfl
    · exact ⟨s, hs1, by rw [cell_of_row _ _ _ _ _ _ h0]; rfl⟩
    · exact ⟨t, ht1, by rw [cell_of_row _ _ _ _ _ _ h0]; rfl⟩
    · exact ⟨s, hs1, by rw [cell_of_row _ _ _ _ _ _ h0]; rfl⟩)
  rw [← hw2]
  clear hw2
  go_loopw [7] (fun i wr => ∃ k : Nat, k ≤ 3 ∧ i = .int .i64 (k : Int) ∧ Below w2.heap.size w2 wr) (fun i _ => (3 - intOf i).toNat)
  case atStart => exact ⟨0, by omega, rfl, Below.refl _ _⟩
  case round =>
    obtain ⟨k, hk, rfl, hb⟩ := hrel
    have HR := Lib.hid hb
    have HGr := Lib.hid (HG2.out.below hb (Nat.le_refl _))
    clear hb
    by_cases hlt : k < 3
    · obtain ⟨x, hx, hc⟩ := Hc.out k hlt
      have hcr : wr.cell? ⟨w1.heap.size, k, none⟩ = some (.string x) := (HR.out.cell (p := ⟨w1.heap.size, k, none⟩) Hz.out).trans hc
      clear hc
      go_wp2_with fail
      refine (IsName_any x (by omega) _ HGr.out).mono ?_
      rintro e w3 ⟨rfl, hb⟩
      have HB3 := Lib.hid (HR.out.trans (hb.mono HR.out.size))
      have HG3 := Lib.hid (HGr.out.below hb (Nat.le_refl _))
      clear hb hcr
      go_wp2_with fail
      refine (IsWord_any x (by omega) _ HG3.out).mono ?_
      rintro e w4 ⟨rfl, hb⟩
      have HB4 := Lib.hid (HB3.out.trans (hb.mono HB3.out.size))
      have HG4 := Lib.hid (HG3.out.below hb (Nat.le_refl _))
      clear hb
      go_wp2_with fail
      refine (Fold_any x (by omega) _ HG4.out).mono ?_
      rintro e w5 ⟨rfl, hb⟩
      have HB5 := Lib.hid (HB4.out.trans (hb.mono HB4.out.size))
      have HG5 := Lib.hid (HG4.out.below hb (Nat.le_refl _))
      clear hb
      go_wp2_with fail
      refine (Quote_any x (by omega) _).mono ?_
      rintro e w6 ⟨rfl, hb⟩
      have HB6 := Lib.hid (HB5.out.trans (hb.mono HB5.out.size))
      clear hb
      go_wp2_with fail
      refine (Unquote_any x (by omega) _).mono ?_
      rintro e w7 ⟨rfl, hb⟩
      have HB7 := Lib.hid (HB6.out.trans (hb.mono HB6.out.size))
      clear hb
      unfold unqV
      generalize hu : unqL x.data.toList = u
      generalize hv : unqE x.data.toList = v
      have Hu := Lib.hid hu
      have Hv := Lib.hid hv
      clear hu hv
      go_wp2_with fail
      refine (refUnquote_any x (by omega) _).mono ?_
      rintro e w8 ⟨rfl, hb⟩
      have HB8 := Lib.hid (HB7.out.trans (hb.mono HB7.out.size))
      clear hb
      unfold unqV
      rw [Hu.out, Hv.out]
      go_wp2_with fail
      refine (refIsName_any x (by omega) _).mono ?_
      rintro e w9 ⟨rfl, rfl⟩
      generalize nameL x.data.toList = nm
      go_wp2_with fail
      refine (refIsWord_any x (by omega) _).mono ?_
      rintro e w9 ⟨rfl, rfl⟩
      generalize wordL x.data.toList = wd
      go_wp2_with fail
      refine (refFold_any x (by omega) _).mono ?_
      rintro e w9 ⟨rfl, hb⟩
      have HB9 := Lib.hid (HB8.out.trans (hb.mono HB8.out.size))
      clear hb
      generalize foldL x.data.toList = fd
      go_wp2_with fail
      refine (refQuote_any x (by omega) _).mono ?_
      rintro e w10 ⟨rfl, hb⟩
      have HB10 := Lib.hid (HB9.out.trans (hb.mono HB9.out.size))
      clear hb
      generalize quoteL x.data.toList = qt
      go_wp2_with fail
      go_roundw
      case rel => exact ⟨k + 1, by omega, by simp, HB10.out⟩
      case measure => simp [intOf]; omega
    · obtain rfl : k = 3 := by omega
      go_wp2_with fail
      go_ret
      exact ⟨rfl, HB2.out.trans (HR.out.mono HB2.out.size)⟩
end Go.Proofs.YtmijkaejdgmplaaDoor.gl
