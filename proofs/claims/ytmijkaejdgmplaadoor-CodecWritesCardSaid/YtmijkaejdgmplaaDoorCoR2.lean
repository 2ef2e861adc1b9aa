/- codec.row of a uint16, tinderboxref03.Row: a number's row. No conditions beside the number's bounds. -/
import Derived.Test.YtmijkaejdgmplaaDoorCoR
namespace Go.Proofs.YtmijkaejdgmplaaDoor.co
open Go.ChangeShapes Go.WideShapes Go.ChangeAt Go.RowKit

set_option maxHeartbeats 4000000 in
set_option maxRecDepth 100000 in
theorem rowU16_any (n : Nat) (hn : n ≤ 65535) (w : World) :
    Calls Tryd.prog 51 #[.int .u16 (n : Int)] w fun e w' => ∃ g cap, e = .returned (.slice (some ⟨g, 0, none⟩) (rowL n).length cap) ∧ w'.ownsRow w.heap.size 5 1 (.slice (some ⟨g, 0, none⟩) (rowL n).length cap) (rowL n).length (bv (rowL n)) ∧ Below w.heap.size w w' := by
  obtain ⟨i0, hi, hz0, hz1, hz2⟩ := info_parts infoByte
  have hlen := rowL_len n (by omega)
  go_enter Tryd.func51, Tryd.ntmps51
  go_wp2_with fail
  go_loopw [0, 3] (fun x v wr => ∃ (k : Nat) (out : List UInt8), k ≤ n ∧ x = .int .u16 (k : Int) ∧ Hid (out ++ rowL k = rowL n) ∧ Hid (wr.ownsRow w.heap.size 5 1 v out.length (bv out)) ∧ Hid (Below w.heap.size w wr)) (fun x _ _ => (intOf x).toNat)
  case atStart => exact ⟨n, [], Nat.le_refl _, rfl, Lib.hid rfl, Lib.hid (World.ownsRow_nil _ _ _ _), Lib.hid (Below.refl _ _)⟩
  case round =>
    obtain ⟨k, out, hk, rfl, Hrow, Hown, Hb⟩ := hrel
    have hsz := Hb.out.size
    have hol : out.length + (rowL k).length = (rowL n).length := by rw [← Hrow.out, List.length_append]
    have hp := rowL_pos k
    have hol' : out.length + 1 ≤ 9 := by omega
    have Hol := Lib.hid hol
    clear hol
    by_cases hlt : k < 128
    · have hk0 : (k : Int) ≤ 127 := by omega
      go_wp2_with (at_builtin; go_must (refine wpList_append_lit rfl _ _ 62 rfl 5 i0 _ 1 Tryd.underlying62 hi hz0 hz1 hz2 rfl _ 1 (by omega) (by rfl) (by rfl) w.heap.size _ out.length _ (by rfl) Hown.out (by simp [Value.oneCell']) (by omega) (by omega) (by omega) ?_))
      intro g' cap' w1 hown1 hgrow hat hz hlt1
      have HO1 := Lib.hid (own_bv hown1 (bv_low k hlt) (row_last Hrow.out hlt))
      have HB1 := Lib.hid (below_grown_own Hb.out Hown.out hgrow hsz)
      have hlen1 : out.length + 1 = (rowL n).length := by rw [← row_last Hrow.out hlt]; simp
      have Hl := Lib.hid hlen1
      rw [hlen1]
      clear hown1 hgrow hat hlen1
      go_wp2_with fail
      go_ret
      exact ⟨g', cap', rfl, by have := HO1.out; rwa [Hl.out] at this, HB1.out⟩
    · have hk0 : (128 : Int) ≤ k := by omega
      go_wp2_with (at_builtin; go_must (refine wpList_append_lit rfl _ _ 62 rfl 5 i0 _ 1 Tryd.underlying62 hi hz0 hz1 hz2 rfl _ 1 (by omega) (by rfl) (by rfl) w.heap.size _ out.length _ (by rfl) Hown.out (by simp [Value.oneCell']) (by omega) (by omega) (by omega) ?_))
      intro g' cap' w1 hown1 hgrow hat hz hlt1
      have HO1 := Lib.hid (own_bv hown1 (bv_high k) rfl)
      have HB1 := Lib.hid (below_grown_own Hb.out Hown.out hgrow hsz)
      clear hown1 hgrow hat
      go_wp2_with fail
      go_roundw
      case rel => exact ⟨k / 128, out ++ [UInt8.ofNat (k % 128 + 128)], by omega, by go_num, Lib.hid (row_next Hrow.out hlt), Lib.hid (by simpa using HO1.out), HB1⟩
      case measure => simp [intOf]; omega

set_option maxHeartbeats 4000000 in
set_option maxRecDepth 100000 in
theorem refRow_any (n : Nat) (hn : n ≤ 4611686018427387904) (w : World) :
    Calls Tryd.prog 61 #[.int .i64 (n : Int)] w fun e w' => e = .returned (.string ⟨(rowL n).toArray⟩) ∧ Below w.heap.size w w' := by
  obtain ⟨i0, hi, hz0, hz1, hz2⟩ := info_parts infoByte
  have hlen := rowL_len n (by omega)
  go_enter Tryd.func61, Tryd.ntmps61
  go_wp2_with fail
  go_loopw [0, 3] (fun x v wr => ∃ (k : Nat) (out : List UInt8), k ≤ n ∧ x = .int .i64 (k : Int) ∧ Hid (out ++ rowL k = rowL n) ∧ Hid (wr.ownsRow w.heap.size 5 1 v out.length (bv out)) ∧ Hid (Below w.heap.size w wr)) (fun x _ _ => (intOf x).toNat)
  case atStart => exact ⟨n, [], Nat.le_refl _, rfl, Lib.hid rfl, Lib.hid (World.ownsRow_nil _ _ _ _), Lib.hid (Below.refl _ _)⟩
  case round =>
    obtain ⟨k, out, hk, rfl, Hrow, Hown, Hb⟩ := hrel
    have hsz := Hb.out.size
    have hol : out.length + (rowL k).length = (rowL n).length := by rw [← Hrow.out, List.length_append]
    have hp := rowL_pos k
    have hol' : out.length + 1 ≤ 9 := by omega
    have Hol := Lib.hid hol
    clear hol
    by_cases hlt : k < 128
    · have hk0 : (k : Int) ≤ 127 := by omega
      go_wp2_with (at_builtin; go_must (refine wpList_append_lit rfl _ _ 62 rfl 5 i0 _ 1 Tryd.underlying62 hi hz0 hz1 hz2 rfl _ 1 (by omega) (by rfl) (by rfl) w.heap.size _ out.length _ (by rfl) Hown.out (by simp [Value.oneCell']) (by omega) (by omega) (by omega) ?_))
      intro g' cap' w1 hown1 hgrow hat hz hlt1
      have HO1 := Lib.hid (own_bv hown1 (bv_low k hlt) (row_last Hrow.out hlt))
      have HB1 := Lib.hid (below_grown_own Hb.out Hown.out hgrow hsz)
      clear hown1 hgrow hat
      go_wp2_with (refine wpList_string_of_own rfl 62 9 5 (.tmp 20) rfl w.heap.size _ _ _ (by rfl) HO1.out Tryd.underlying62 Tryd.underlying5 Tryd.underlying9 ?_)
      go_ret
      exact ⟨rfl, HB1.out⟩
    · have hk0 : (128 : Int) ≤ k := by omega
      go_wp2_with (at_builtin; go_must (refine wpList_append_lit rfl _ _ 62 rfl 5 i0 _ 1 Tryd.underlying62 hi hz0 hz1 hz2 rfl _ 1 (by omega) (by rfl) (by rfl) w.heap.size _ out.length _ (by rfl) Hown.out (by simp [Value.oneCell']) (by omega) (by omega) (by omega) ?_))
      intro g' cap' w1 hown1 hgrow hat hz hlt1
      have HO1 := Lib.hid (own_bv hown1 ((bv_high k).trans (by rw [Int.add_comm])) rfl)
      have HB1 := Lib.hid (below_grown_own Hb.out Hown.out hgrow hsz)
      clear hown1 hgrow hat
      go_wp2_with fail
      go_roundw
      case rel => exact ⟨k / 128, out ++ [UInt8.ofNat (k % 128 + 128)], by omega, by go_num, Lib.hid (row_next Hrow.out hlt), Lib.hid (by simpa using HO1.out), HB1⟩
      case measure => simp [intOf]; omega
end Go.Proofs.YtmijkaejdgmplaaDoor.co
