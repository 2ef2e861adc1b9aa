/- tinderboxlaw04.ValueStands returns true. Conditions: the listed variables hold what the program's text lays. -/
import Derived.Test.YtkbamhecbfocbaaGreatDoorVaO
namespace Go.Proofs.YtkbamhecbfocbaaGreatDoor.va
open Go.ChangeShapes Go.WideShapes Go.ChangeAt Go.RowKit gl

def txs : List ByteArray := [⟨#[]⟩, ⟨#[115]⟩, ⟨#[109]⟩, ⟨#[104]⟩, ⟨#[100]⟩, ⟨#[107]⟩, ⟨#[103]⟩, ⟨#[75]⟩, ⟨#[77]⟩, ⟨#[116]⟩, ⟨#[98]⟩, ⟨#[107, 107]⟩, ⟨#[109, 115]⟩, ⟨#[32]⟩, ⟨#[48]⟩, ⟨#[119]⟩]
theorem tx_at (i : Nat) (h : i < 16) : ∃ x, (txs.map Value.string).toArray[i]? = some (.string x) := by
  have hi : i < txs.length := h
  exact ⟨txs[i], by simp [hi]⟩
def ST (w0 : World) (b i : Nat) (x : ByteArray) (row : Option Obj) (w' : World) : Prop := w'.cell? ⟨b, i, none⟩ = some (.string x) ∧ Hid (w'.heap[b]? = row ∧ Below w0.heap.size w0 w')
theorem st_drew {w0 wp : World} {b i : Nat} {x : ByteArray} {row : Option Obj} (h : wp.cell? ⟨b, i, none⟩ = some (.string x) ∧ Hid (wp.heap[b]? = row ∧ Below w0.heap.size w0 wp)) :
    wp.drew.cell? ⟨b, i, none⟩ = some (.string x) ∧ Hid (wp.drew.heap[b]? = row ∧ Below w0.heap.size w0 wp.drew) := ⟨h.1, Lib.hid ⟨h.2.out.1, h.2.out.2.drew⟩⟩
theorem st_call {w0 wp w' : World} {b i : Nat} {x : ByteArray} {row : Option Obj} (h : wp.cell? ⟨b, i, none⟩ = some (.string x) ∧ Hid (wp.heap[b]? = row ∧ Below w0.heap.size w0 wp)) (hb : Below wp.heap.size wp w') :
    w'.cell? ⟨b, i, none⟩ = some (.string x) ∧ Hid (w'.heap[b]? = row ∧ Below w0.heap.size w0 w') :=
  have hlt := World.block_lt_of_cell? _ _ h.1
  ⟨(hb.cell (p := ⟨b, i, none⟩) hlt).trans h.1, Lib.hid ⟨(hb.block _ hlt).trans h.2.out.1, then_bel h.2.out.2 hb⟩⟩
theorem st_vlo {w0 wp : World} {b i : Nat} {x : ByteArray} {row : Option Obj} (hV : Vlo w0) (h : wp.cell? ⟨b, i, none⟩ = some (.string x) ∧ Hid (wp.heap[b]? = row ∧ Below w0.heap.size w0 wp)) : Vlo wp := hV.later h.2.out.2

set_option maxHeartbeats 2000000 in
set_option maxRecDepth 100000 in
theorem stands_any (w : World) (hV : Vlo w) : Calls Tryz.prog 13 #[] w fun e w' => e = .returned (.bool true) ∧ Below w.heap.size w w' := by
  have HV := Lib.hid hV
  clear hV
  go_enter Tryz.func13, Tryz.ntmps13
  go_wp2_with fail
  refine (awake_any w HV.out).mono ?_
  rintro e w1 ⟨rfl, hb1⟩
  have Hb1 := Lib.hid hb1
  have HV1 := Lib.hid (HV.out.later hb1)
  clear hb1
  go_wp2_with fail
  obtain ⟨w2, hw2⟩ : ∃ w2, w2 = w1.alloc (.cells (txs.map Value.string).toArray 9) := ⟨_, rfl⟩
  have hw2' : w1.alloc (.cells #[.string ⟨#[]⟩, .string ⟨#[115]⟩, .string ⟨#[109]⟩, .string ⟨#[104]⟩, .string ⟨#[100]⟩, .string ⟨#[107]⟩, .string ⟨#[103]⟩, .string ⟨#[75]⟩, .string ⟨#[77]⟩, .string ⟨#[116]⟩, .string ⟨#[98]⟩, .string ⟨#[107, 107]⟩, .string ⟨#[109, 115]⟩, .string ⟨#[32]⟩, .string ⟨#[48]⟩, .string ⟨#[119]⟩] 9) = w2 := hw2.symm
  rw [hw2']
  have Hr : Hid (w2.heap[w1.heap.size]? = some (.cells (txs.map Value.string).toArray 9 (0, 0))) := Lib.hid (by rw [hw2]; exact heap_alloc_new w1 _)
  have Hb2 : Hid (Below w1.heap.size w1 w2) := Lib.hid (by rw [hw2]; exact (Below.refl _ _).alloc (Nat.le_refl _) _)
  clear hw2 hw2'
  go_loopw [3] (fun i wr => ∃ k : Int, -1 ≤ k ∧ k ≤ 9 ∧ i = .int .i64 k ∧ wr.heap[w1.heap.size]? = some (.cells (txs.map Value.string).toArray 9 (0, 0)) ∧ Below w1.heap.size w1 wr) (fun i _ => (9 - intOf i).toNat)
  case atStart => exact ⟨-1, by omega, by omega, rfl, Hr.out, Hb2.out⟩
  case round =>
    obtain ⟨k, hk0, hk1, rfl, hrow, hb⟩ := hrel
    have Hrow := Lib.hid hrow
    have Hb := Lib.hid hb
    clear hrow hb
    by_cases hlt : k < 9
    · go_wp2_with fail
      obtain ⟨wo, hwo⟩ : ∃ wo : World, wo = wr := ⟨_, rfl⟩
      clear hwo
      go_loopw [4] (fun i wr => ∃ j : Nat, j ≤ 16 ∧ i = .int .i64 (j : Int) ∧ wr.heap[w1.heap.size]? = some (.cells (txs.map Value.string).toArray 9 (0, 0)) ∧ Below w1.heap.size w1 wr) (fun i _ => (16 - intOf i).toNat)
      case atStart => exact ⟨0, by omega, rfl, Hrow.out, Hb.out⟩
      case round =>
        obtain ⟨j, hj, rfl, hrow2, hb⟩ := hrel
        have Hb3 := Lib.hid hb
        have Hrow2 := Lib.hid hrow2
        clear hb hrow2
        by_cases hjl : j < 16
        · obtain ⟨x, hx⟩ := tx_at j hjl
          have hcell : wr.cell? ⟨w1.heap.size, j, none⟩ = some (.string x) := by rw [cell_of_row _ _ _ _ _ _ Hrow2.out, hx]
          have HU := Lib.hid fun (W : World) (hW : Vlo W) => Unit_any k x W hW.units
          have HR := Lib.hid fun (W : World) => refUnit_any k x W
          clear hx
          generalize unit k x.data.toList = u at *
          go_wp2_with fail
          have hSt : wr.cell? ⟨w1.heap.size, j, none⟩ = some (.string x) ∧ Hid (wr.heap[w1.heap.size]? = some (.cells (txs.map Value.string).toArray 9 (0, 0)) ∧ Below w1.heap.size w1 wr) := ⟨hcell, Lib.hid ⟨Hrow2.out, Hb3.out⟩⟩
          go_region_held3 (fun w' => w'.cell? ⟨w1.heap.size, j, none⟩ = some (.string x) ∧ Hid (w'.heap[w1.heap.size]? = some (.cells (txs.map Value.string).toArray 9 (0, 0)) ∧ Below w1.heap.size w1 w'))
            (first | assumption | exact st_drew (by assumption))
            (first
              | (go_at_call 10; refine (HU.out _ (st_vlo HV1.out (by assumption))).mono ?_; rintro e w' ⟨rfl, hb⟩; have hS' := st_call (by assumption) hb; clear hb)
              | (go_at_call 11; refine (HR.out _).mono ?_; rintro e w' ⟨rfl, rfl⟩))
          all_goals
            rename_i hH
            obtain ⟨hc', HS⟩ := hH
            clear hcell hSt
            go_wp2_with fail
            go_roundw
            case rel => exact ⟨j + 1, by omega, by go_num, HS.out.1, HS.out.2⟩
            case measure => simp [intOf]; omega
        · obtain rfl : j = 16 := by omega
          rw [show ((16 : Nat) : Int) = 16 from rfl]
          go_wp2_with fail
          go_roundw
          case rel => exact ⟨k + 1, by omega, by omega, by go_num, Hrow2.out, Hb3.out⟩
          case measure => simp [intOf]; omega
    · obtain rfl : k = 9 := by omega
      go_wp2_with fail
      go_ret
      exact ⟨rfl, then_bel Hb1.out Hb.out⟩
end Go.Proofs.YtkbamhecbfocbaaGreatDoor.va
