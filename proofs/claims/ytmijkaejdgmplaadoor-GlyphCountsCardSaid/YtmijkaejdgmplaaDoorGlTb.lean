/- tinderboxlaw02.GlyphCounts returns true. Conditions: the two tables of package glyph hold what the program's text lays. -/
import Derived.Test.YtmijkaejdgmplaaDoorGlZ
import Derived.Laws.CopyOwn
import Derived.Deep.RegionHeld3
namespace Go.Proofs.YtmijkaejdgmplaaDoor.gl
open Go.ChangeShapes Go.WideShapes Go.ChangeAt Go.RowKit

theorem cls_bd (b : Int) : 0 ≤ cls b ∧ cls b ≤ 6 := by
  unfold cls
  repeat' split
  all_goals omega
def rowC (k : Nat) : Array Value := ((List.range 7).map fun c : Nat => Value.int .i64 (cnt c k : Nat)).toArray
theorem rowC_size (k : Nat) : (rowC k).size = 7 := by simp [rowC]
theorem rowC_get (k c : Nat) (hc : c < 7) : (rowC k)[c]? = some (.int .i64 (cnt c k : Nat)) := by
  simp [rowC, List.getElem?_range hc]
theorem rowC_set (k c : Nat) (hc : c < 7) (h : cls k = c) : (rowC k).setIfInBounds c (.int .i64 ((cnt c k : Nat) + 1 : Int)) = rowC (k + 1) := by
  apply Array.ext_getElem?
  intro i
  by_cases hi : i < 7
  · rw [rowC_get _ _ hi]
    by_cases e : c = i
    · subst e
      rw [Array.getElem?_setIfInBounds_self_of_lt (by rw [rowC_size]; exact hc)]
      simp [cnt, h]
    · rw [Array.getElem?_setIfInBounds_ne e, rowC_get _ _ hi]
      have : ¬ cls k = (i : Int) := by omega
      simp [cnt, this]
  · rw [Array.getElem?_eq_none (by simp [rowC_size]; omega), Array.getElem?_eq_none (by simp [rowC_size]; omega)]
theorem rowC_zero : rowC 0 = #[.int .i64 0, .int .i64 0, .int .i64 0, .int .i64 0, .int .i64 0, .int .i64 0, .int .i64 0] := by kernel_rfl
def sumC : Nat → Nat
  | 0 => 0
  | k + 1 => sumC k + cnt (k : Int) 256
theorem sumC_le (k : Nat) : sumC k ≤ 256 * k := by
  induction k with
  | zero => exact Nat.le_refl _
  | succ k ih => have := cnt_le (k : Int) 256; unfold sumC; omega
theorem sumC_7 : sumC 7 = 256 := by decide +kernel
theorem cnt_pos : ∀ c : Nat, c < 7 → cnt (c : Int) 256 ≠ 0 := by decide +kernel

def S14 (w1 : World) (k : Nat) (v : Value) (row : Option Obj) (w' : World) : Prop := w'.cell? ⟨w1.heap.size, k, none⟩ = some v ∧ Hid (w'.heap[w1.heap.size]? = row ∧ Below w1.heap.size w1 w')
theorem s14_call {w1 wp w' : World} {k : Nat} {v : Value} {row : Option Obj} (hS : wp.cell? ⟨w1.heap.size, k, none⟩ = some v ∧ Hid (wp.heap[w1.heap.size]? = row ∧ Below w1.heap.size w1 wp)) (hb : Below wp.heap.size wp w') :
    w'.cell? ⟨w1.heap.size, k, none⟩ = some v ∧ Hid (w'.heap[w1.heap.size]? = row ∧ Below w1.heap.size w1 w') :=
  have hlt := World.block_lt_of_cell? _ _ hS.1
  ⟨(hb.cell (p := ⟨w1.heap.size, k, none⟩) hlt).trans hS.1, Lib.hid ⟨(hb.block _ hlt).trans hS.2.out.1, hS.2.out.2.trans (hb.mono hS.2.out.2.size)⟩⟩
theorem s14_drew {w1 wp : World} {k : Nat} {v : Value} {row : Option Obj} (hS : wp.cell? ⟨w1.heap.size, k, none⟩ = some v ∧ Hid (wp.heap[w1.heap.size]? = row ∧ Below w1.heap.size w1 wp)) :
    wp.drew.cell? ⟨w1.heap.size, k, none⟩ = some v ∧ Hid (wp.drew.heap[w1.heap.size]? = row ∧ Below w1.heap.size w1 wp.drew) :=
  ⟨hS.1, Lib.hid ⟨hS.2.out.1, hS.2.out.2.drew⟩⟩
theorem s14_glo {w1 wp : World} {k : Nat} {v : Value} {row : Option Obj} (hG : Glo w1) (hS : wp.cell? ⟨w1.heap.size, k, none⟩ = some v ∧ Hid (wp.heap[w1.heap.size]? = row ∧ Below w1.heap.size w1 wp)) : Glo wp :=
  hG.below hS.2.out.2 (Nat.le_refl _)
theorem infoInt : (Tryd.prog.info? 3).map (fun i => (i.zero, i.size, i.bytes)) = some (some (.int .i64 0), 1, 8) := by kernel_rfl
theorem make7 (w : World) : (Instr.makeSlice 61 (.int .i64 7) (.int .i64 7)).run Tryd.prog w = .ok (.slice (some ⟨w.heap.size, 0, none⟩) 7 7) (w.alloc (.cells (rowC 0) 3)) := by
  obtain ⟨i, hi, he⟩ := Option.map_eq_some_iff.1 infoInt
  simp only [Prod.mk.injEq] at he
  obtain ⟨hz, h1, h8⟩ := he
  have h := run_makeSlice (P := Tryd.prog) w 61 3 i (.int .i64 0) Tryd.underlying61 hi hz .i64 .i64 7 7 (by omega) (by omega) (by rw [h1]; decide) (by rw [h8]; decide) (by omega)
  have e : madeCells (Value.cells (.int .i64 0)) (Int.toNat 7 * 1) = rowC 0 := by kernel_rfl
  rw [h, h1, e]
  rfl

set_option maxHeartbeats 4000000 in
set_option maxRecDepth 100000 in
theorem counts_any (w : World) (hG : Glo w) : Calls Tryd.prog 9 #[] w fun e w' => e = .returned (.bool true) ∧ Below w.heap.size w w' := by
  have HG := Lib.hid hG
  clear hG
  go_enter Tryd.func9, Tryd.ntmps9
  go_wp2_with fail
  refine (awake_any _ HG.out).mono ?_
  rintro e w1 ⟨rfl, hb⟩
  have HB1 := Lib.hid hb
  have HG1 := Lib.hid (HG.out.below hb (Nat.le_refl _))
  clear hb
  have hms := make7 w1
  go_wp2_with fail
  obtain ⟨w2, hw2⟩ : ∃ w2, w2 = w1.alloc (.cells (rowC 0) 3) := ⟨_, rfl⟩
  have HB2 : Hid (Below w.heap.size w w2) := Lib.hid (by rw [hw2]; exact HB1.out.alloc HB1.out.size _)
  have HBa : Hid (Below w1.heap.size w1 w2) := Lib.hid (by rw [hw2]; exact (Below.refl _ _).alloc (Nat.le_refl _) _)
  have Hr : Hid (w2.heap[w1.heap.size]? = some (.cells (rowC 0) 3 (0, 0))) := Lib.hid (by rw [hw2]; exact heap_alloc_new w1 _)
  rw [← hw2]
  clear hw2 hms
  go_loopw [3] (fun i wr => ∃ k : Nat, k ≤ 256 ∧ i = .int .i64 (k : Int) ∧ wr.heap[w1.heap.size]? = some (.cells (rowC k) 3 (0, 0)) ∧ Below w1.heap.size w1 wr) (fun i _ => (256 - intOf i).toNat)
  case atStart => exact ⟨0, by omega, rfl, Hr.out, HBa.out⟩
  case round =>
    obtain ⟨k, hk, rfl, hrow, hb⟩ := hrel
    have HR := Lib.hid hb
    have HGr := Lib.hid (HG1.out.below hb (Nat.le_refl _))
    have Hrow := Lib.hid hrow
    have hlt0 : w1.heap.size < wr.heap.size := by
      rcases Nat.lt_or_ge w1.heap.size wr.heap.size with h | h
      · exact h
      · rw [Array.getElem?_eq_none h] at hrow; cases hrow
    clear hb hrow
    by_cases hlt : k < 256
    · go_wp2_with fail
      refine (Class_any k _ HGr.out).mono ?_
      rintro e w3 ⟨rfl, hb⟩
      have HB3 := Lib.hid (HR.out.trans (hb.mono HR.out.size))
      have Hrow3 : Hid (w3.heap[w1.heap.size]? = some (.cells (rowC k) 3 (0, 0))) := Lib.hid ((hb.block _ hlt0).trans Hrow.out)
      clear hb
      obtain ⟨c, hc⟩ := Int.eq_ofNat_of_zero_le (cls_bd k).1
      have hc7 := (cls_bd k).2
      have Hc := Lib.hid hc
      rw [hc] at hc7
      rw [hc]
      clear hc
      have hcell : w3.cell? ⟨w1.heap.size, c, none⟩ = some (.int .i64 (cnt c k : Nat)) := by rw [cell_of_row _ _ _ _ _ _ Hrow3.out, rowC_get _ _ (by omega)]
      have hf := frozen_of_row w3 w1.heap.size c _ _ Hrow3.out
      have hn := cnt_le (c : Int) k
      have Hset := Lib.hid (rowC_set k c (by omega) Hc.out)
      generalize cnt (c : Int) k = n at *
      go_wp2_with fail
      go_roundw
      case rel =>
        refine ⟨k + 1, by omega, by go_num, ?_, HB3.out.setCell (Nat.le_refl _) _⟩
        rw [heap_setCell_same _ _ _ _ _ _ Hrow3.out, Hset.out]
      case measure => simp [intOf]; omega
    · obtain rfl : k = 256 := by omega
      rw [show ((256 : Nat) : Int) = 256 from rfl]
      go_wp2_with fail
      obtain ⟨wo, hwo⟩ : ∃ wo : World, wo = wr := ⟨_, rfl⟩
      go_loopw [5, 6] (fun a i wr => ∃ k : Nat, k ≤ 7 ∧ i = .int .i64 (k : Int) ∧ a = .int .i64 (sumC k : Nat) ∧ wr.heap[w1.heap.size]? = some (.cells (rowC 256) 3 (0, 0)) ∧ Below w1.heap.size w1 wr) (fun _ i _ => (7 - intOf i).toNat)
      case atStart => exact ⟨0, by omega, rfl, rfl, Hrow.out, HR.out⟩
      case round =>
        obtain ⟨k, hk, rfl, rfl, hrow2, hb⟩ := hrel
        have HR2 := Lib.hid hb
        have HG2 := Lib.hid (HG1.out.below hb (Nat.le_refl _))
        have Hrow2 := Lib.hid hrow2
        have hsum := sumC_le k
        clear hb hrow2
        by_cases hlt : k < 7
        · have hcell := cell_of_row _ _ k _ _ _ Hrow2.out
          rw [rowC_get _ _ hlt] at hcell
          have hn := cnt_le (k : Int) 256
          have hpos := cnt_pos k hlt
          have HC : Hid (∀ w', Glo w' → Calls Tryd.prog 33 #[.int .i64 (k : Int)] w' fun e w'' => e = .returned (.int .i64 (cnt (k : Int) 256 : Nat)) ∧ Below w'.heap.size w' w'') := Lib.hid fun w' h => Count_any (k : Int) w' h
          have Hs : Hid (sumC (k + 1) = sumC k + cnt (k : Int) 256) := Lib.hid rfl
          generalize cnt (k : Int) 256 = n at *
          generalize sumC k = a at *
          have hne : ((n : Int) == 0) = false := by simp; omega
          clear hpos
          go_wp2_with fail
          have hSt : wr.cell? ⟨w1.heap.size, k, none⟩ = some (.int .i64 n) ∧ Hid (wr.heap[w1.heap.size]? = some (.cells (rowC 256) 3 (0, 0)) ∧ Below w1.heap.size w1 wr) := ⟨hcell, Lib.hid ⟨Hrow2.out, HR2.out⟩⟩
          go_region_held3 (fun w' => w'.cell? ⟨w1.heap.size, k, none⟩ = some (.int .i64 n) ∧ Hid (w'.heap[w1.heap.size]? = some (.cells (rowC 256) 3 (0, 0)) ∧ Below w1.heap.size w1 w'))
            (first | assumption | exact s14_drew (by assumption))
            (first | (go_at_call 33; refine (HC.out _ (s14_glo HG1.out (by assumption))).mono ?_; rintro e w' ⟨rfl, hb⟩; have hS' := s14_call (by assumption) hb; clear hb))
          all_goals
            rename_i hH
            obtain ⟨hcell', HR3⟩ := hH
            clear hcell
            go_wp2_with fail
            go_roundw
            case rel => exact ⟨k + 1, by omega, by go_num, by rw [Hs.out]; go_num, HR3.out.1, HR3.out.2⟩
            case measure => simp [intOf]; omega
        · obtain rfl : k = 7 := by omega
          rw [sumC_7]
          go_wp2_with fail
          go_ret
          exact ⟨rfl, HB1.out.trans (HR2.out.mono HB1.out.size)⟩
end Go.Proofs.YtmijkaejdgmplaaDoor.gl
