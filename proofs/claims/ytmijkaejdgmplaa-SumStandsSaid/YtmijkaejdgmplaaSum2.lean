/- The table of sum.made, sum.Table and the loop over all 256 words: what they return and that nothing old is written. No conditions. -/
import Derived.Test.YtmijkaejdgmplaaSum
import Derived.Lib.Hide
import Derived.Laws.CopyOwn
namespace Go.Proofs.Ytmijkaejdgmplaa.sumStands
open Go.ChangeShapes Go.WideShapes Go.ChangeAt Go.RowKit

def row (b : Nat) : Array Value := ((List.range 256).map fun n : Nat => Value.int .u32 (if n < b then stps 8 n else 0)).toArray
theorem row_size (b : Nat) : (row b).size = 256 := by simp [row]
theorem row_get (b k : Nat) (hk : k < 256) : (row b)[k]? = some (.int .u32 (if k < b then stps 8 k else 0)) := by
  simp [row, List.getElem?_range hk]
theorem row_set (k : Nat) (hk : k < 256) : (row k).setIfInBounds k (.int .u32 (stps 8 k)) = row (k + 1) := by
  apply Array.ext_getElem?
  intro i
  by_cases hi : i < 256
  · rw [row_get _ _ hi]
    by_cases h : k = i
    · subst h
      rw [Array.getElem?_setIfInBounds_self_of_lt (by rw [row_size]; exact hk)]
      simp
    · rw [Array.getElem?_setIfInBounds_ne h, row_get _ _ hi]
      congr 2
      by_cases h1 : i < k
      · rw [if_pos h1, if_pos (by omega)]
      · rw [if_neg h1, if_neg (by omega)]
  · rw [Array.getElem?_eq_none (by simp [row_size]; omega), Array.getElem?_eq_none (by simp [row_size]; omega)]
theorem row_zero : row 0 = Try.zeroCells69 := by kernel_rfl
theorem row_one (b : Nat) : (row b).all (·.oneCell') = true := by
  simp [row, List.all_eq_true, Value.oneCell']
theorem Try.size256 : (Try.prog.info? 69).map (·.size) = some 256 := by kernel_rfl

set_option maxRecDepth 100000 in
theorem made_any (w : World) :
    Calls Try.prog 30 #[] w fun e w' => e = .returned (.agg (row 256)) ∧ Below w.heap.size w w' := by
  go_enter Try.func30, Try.ntmps30
  go_wp2_with fail
  go_loopw [5] (fun i wr => ∃ k : Nat, k ≤ 256 ∧ i = .int .i64 k ∧ wr.heap[w.heap.size]? = some (.cells (row 0) 69 (0, 0)) ∧ wr.heap[w.heap.size + 1]? = some (.cells (row k) 69 (0, 0)) ∧ Below w.heap.size w wr) (fun i _ => 256 - (intOf i).toNat)
  case atStart => exact ⟨0, by omega, rfl, by rw [row_zero]; exact heap_alloc2_old w _ _, by rw [row_zero]; exact heap_alloc2_new w _ _, ((Below.refl _ _).alloc (Nat.le_refl _) _).alloc (by simp) _⟩
  case round =>
    obtain ⟨k, hk, rfl, h0, h1, hb⟩ := hrel
    have hc : k < 256 → wr.cell? ⟨w.heap.size + 1, k, none⟩ = some (.int .u32 (if k < k then stps 8 k else 0)) := fun h => by rw [cell_of_row _ _ _ _ _ _ h1, row_get _ _ h]
    have hf := frozen_of_row wr (w.heap.size + 1) k _ _ h1
    have H0 := Lib.hid h0
    have H1 := Lib.hid h1
    clear h0 h1
    by_cases hlt : k < 256
    · have hc' := hc hlt
      clear hc
      rw [if_neg (by omega)] at hc'
      go_wp2
      go_loop [3, 10] (fun x i => ∃ j : Nat, j ≤ 8 ∧ i = .int .i64 j ∧ x = .int .u32 (stps j k)) (fun _ i => 8 - (intOf i).toNat)
      case atStart => exact ⟨0, by omega, rfl, by simp [stps]⟩
      case round =>
        obtain ⟨j, hj, rfl, rfl⟩ := hrel
        have hbd := stps_bd j k (by omega)
        by_cases hjt : j < 8
        · have H : Hid (stps (j + 1) k = stp (stps j k)) := rfl
          generalize stps j k = x at *
          obtain ⟨hb0, hb1⟩ := hbd
          obtain ⟨a, rfl⟩ := Int.eq_ofNat_of_zero_le hb0
          have ha := u32_and1 a (by omega)
          by_cases ho : a % 2 = 1
          · have H2 : Hid (stp a = bits BinOp.xor IntKind.u32 ((a : Int) / 2) 3988292384) := by show stp a = _; unfold stp; rw [if_pos (by omega)]
            have ho' : (((a % 2 : Nat) : Int) == 1) = true := by simp; omega
            rw [ho] at ha
            clear ho
            go_wp2
            go_round
            case rel => exact ⟨j + 1, by omega, by go_num, by rw [H.out, H2.out]⟩
            case measure => simp [intOf]; omega
          · have H2 : Hid (stp a = (a : Int) / 2) := by show stp a = _; unfold stp; rw [if_neg (by omega)]
            have ho0 : a % 2 = 0 := by omega
            rw [ho0] at ha
            clear ho ho0
            go_wp2
            go_round
            case rel => exact ⟨j + 1, by omega, by go_num, by rw [H.out, H2.out]⟩
            case measure => simp [intOf]; omega
        · obtain rfl : j = 8 := by omega
          go_wp2
          go_roundw
          case rel =>
            refine ⟨k + 1, by omega, by go_num, ?_, ?_, hb.setCell (by simp) _⟩
            · rw [heap_setCell_other _ _ _ _ (by simp)]; exact H0.out
            · rw [heap_setCell_same _ _ _ _ _ _ H1.out, row_set k hlt]
          case measure => simp [intOf]; omega
    · obtain rfl : k = 256 := by omega
      go_wp2_with (first
        | (with_reducible refine wpList_load_row rfl 69 _ rfl (w.heap.size + 1) rfl _ _ _ _ H1.out Try.underlying69 rfl (by rw [row_size]; exact Try.size256) ?_)
        | (with_reducible refine wpList_store_row rfl 69 _ _ rfl w.heap.size _ rfl rfl _ _ H0.out (by rw [row_size]; exact Try.size256) (by rw [row_size, row_size]) (row_one _) ?_))
      refine bodyPost_ret (results_cell_row Try.results30 _ _ w.heap.size _ _ _ _ rfl (setRow_heap _ _ _ _ _ _ H0.out) Try.underlying69 rfl (by rw [row_size]; exact Try.size256)) rfl ⟨rfl, ?_⟩
      exact hb.trans ⟨rfl, rfl, rfl, by simp, fun i hi => setRow_other _ _ _ _ (by omega)⟩

theorem table_any (n : Nat) (hn : n < 256) (w : World) :
    Calls Try.prog 17 #[.int .i64 n] w fun e w' => e = .returned (.int .u32 (stps 8 n)) ∧ Below w.heap.size w w' := by
  go_enter Try.func17, Try.ntmps17
  go_wp2_with fail
  refine (made_any _).mono ?_
  rintro e w1 ⟨rfl, hb⟩
  have hcell : (((w1.alloc (.cells Try.zeroCells69 69)).setRow w1.heap.size (row 256))).cell? ⟨w1.heap.size, n, none⟩ = some (.int .u32 (stps 8 n)) := by
    rw [cell_setRow_same _ _ _ _ _ _ _ (heap_alloc_new w1 _), row_get _ _ hn, if_pos hn]
  go_wp2_with (with_reducible refine wpList_store_row rfl 69 _ _ rfl w1.heap.size _ rfl rfl _ _ (heap_alloc_new w1 _) (by rw [row_size]; exact Try.size256) (by rw [row_size, ← row_zero, row_size]) (row_one _) ?_)
  go_ret
  exact ⟨rfl, below_setRow (hb.alloc hb.size _) hb.size _⟩

set_option maxRecDepth 100000 in
theorem stands_any (w : World) :
    Calls Try.prog 6 #[] w fun e w' => e = .returned (.bool true) ∧ Below w.heap.size w w' := by
  go_enter Try.func6, Try.ntmps6
  go_wp2_with fail
  go_loopw [1] (fun i wr => ∃ k : Nat, k ≤ 256 ∧ i = .int .i64 k ∧ Below w.heap.size w wr) (fun i _ => 256 - (intOf i).toNat)
  case atStart => exact ⟨0, by omega, rfl, Below.refl _ _⟩
  case round =>
    obtain ⟨k, hk, rfl, hb⟩ := hrel
    by_cases hlt : k < 256
    · go_wp2_with fail
      refine (table_any k hlt _).mono ?_
      rintro e w1 ⟨rfl, hb1⟩
      go_wp2_with fail
      refine (word_any k hlt _).mono ?_
      rintro e w2 ⟨rfl, rfl⟩
      go_wp2_with fail
      go_roundw
      case rel => exact ⟨k + 1, by omega, by go_num, hb.trans (hb1.mono hb.size)⟩
      case measure => simp [intOf]; omega
    · obtain rfl : k = 256 := by omega
      go_wp2_with fail
      go_ret
      exact ⟨rfl, hb⟩

theorem walk (w : World) :
    Calls Try.prog 3 #[] w fun e w' => e = .returned (.bool true) ∧ Below w.heap.size w w' := by
  go_enter Try.func3, Try.ntmps3
  go_wp2_with fail
  refine (stands_any _).mono ?_
  rintro e w1 ⟨rfl, hb⟩
  go_wp2_with fail
  go_ret
  exact ⟨rfl, hb⟩
end Go.Proofs.Ytmijkaejdgmplaa.sumStands
