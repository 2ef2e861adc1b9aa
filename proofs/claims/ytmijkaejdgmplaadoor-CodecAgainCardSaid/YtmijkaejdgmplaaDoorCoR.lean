/- codec.row lays down a number's row. No conditions beside the number's bounds. -/
import Derived.Test.YtmijkaejdgmplaaDoorRows
import Derived.Test.YtmijkaejdgmplaaDoorCoP
import Derived.Test.YtmijkaejdgmplaaDoorLib2
import Derived.IntWalk
namespace Go.Proofs.YtmijkaejdgmplaaDoor.co
open Go.ChangeShapes Go.WideShapes Go.ChangeAt Go.RowKit

theorem infoByte : (Tryd.prog.info? 5).map (fun i => (i.zero, i.size, i.bytes)) = some (some (.int .u8 0), 1, 1) := by kernel_rfl
theorem info_parts {P : Program} {t : TypeId} {z : Value} {a b : Nat} (h : (P.info? t).map (fun i => (i.zero, i.size, i.bytes)) = some (some z, a, b)) : ∃ i, P.info? t = some i ∧ i.zero = some z ∧ i.size = a ∧ i.bytes = b := by
  obtain ⟨i, hi, he⟩ := Option.map_eq_some_iff.1 h
  simp only [Prod.mk.injEq] at he
  exact ⟨i, hi, he.1, he.2.1, he.2.2⟩

theorem rowL_len (n : Nat) (h : n ≤ 9223372036854775807) : (rowL n).length ≤ 9 := rowL_le 8 n (by omega)
theorem bv_low (k : Nat) (h : k < 128) : bv [UInt8.ofNat k] = [.int .u8 (k : Int)] := by
  simp only [bv, List.map_cons, List.map_nil, UInt8.toNat_ofNat', List.cons.injEq, and_true, Value.int.injEq, true_and]; omega
theorem bv_high (k : Nat) : bv [UInt8.ofNat (k % 128 + 128)] = [.int .u8 ((k : Int) % 128 + 128)] := by
  simp only [bv, List.map_cons, List.map_nil, UInt8.toNat_ofNat', List.cons.injEq, and_true, Value.int.injEq, true_and]; omega
theorem row_next {out : List UInt8} {k n : Nat} (h : out ++ rowL k = rowL n) (hk : ¬ k < 128) : (out ++ [UInt8.ofNat (k % 128 + 128)]) ++ rowL (k / 128) = rowL n := by
  rw [← h, rowL_great hk, List.append_assoc]; rfl
theorem row_last {out : List UInt8} {k n : Nat} (h : out ++ rowL k = rowL n) (hk : k < 128) : out ++ [UInt8.ofNat k] = rowL n := by
  rw [← h, rowL_small hk]
theorem own_bv {w : World} {B : Nat} {t : TypeId} {v : Value} {n : Nat} {a b : List UInt8} {cs : List Value} {c : List UInt8} (h : w.ownsRow B t 1 v n (bv a ++ cs)) (hb : bv b = cs) (hc : a ++ b = c) : w.ownsRow B t 1 v n (bv c) := by
  rw [← hc, bv_append, hb]; exact h

set_option maxHeartbeats 4000000 in
set_option maxRecDepth 100000 in
theorem rowInt_any (n : Nat) (hn : n ≤ 4611686018427387904) (w : World) :
    Calls Tryd.prog 52 #[.int .i64 (n : Int)] w fun e w' => ∃ g cap, e = .returned (.slice (some ⟨g, 0, none⟩) (rowL n).length cap) ∧ w'.ownsRow w.heap.size 5 1 (.slice (some ⟨g, 0, none⟩) (rowL n).length cap) (rowL n).length (bv (rowL n)) ∧ Below w.heap.size w w' := by
  obtain ⟨i0, hi, hz0, hz1, hz2⟩ := info_parts infoByte
  have hlen := rowL_len n (by omega)
  go_enter Tryd.func52, Tryd.ntmps52
  go_wp2_with fail
  go_loopw [0, 3] (fun x v wr => ∃ (k : Nat) (out : List UInt8), k ≤ n ∧ x = .int .i64 (k : Int) ∧ Hid (out ++ rowL k = rowL n) ∧ Hid (wr.ownsRow w.heap.size 5 1 v out.length (bv out)) ∧ Hid (Below w.heap.size w wr)) (fun x _ _ => (intOf x).toNat)
  case atStart => exact ⟨n, [], Nat.le_refl _, rfl, Lib.hid rfl, Lib.hid (World.ownsRow_nil _ _ _ _), Lib.hid (Below.refl _ _)⟩
  case round =>
    obtain ⟨k, out, hk, rfl, Hrow, Hown, Hb⟩ := hrel
    have hsz := Hb.out.size
    have hol : out.length + (rowL k).length = (rowL n).length := by rw [← Hrow.out, List.length_append]
    have hp := rowL_pos k
    have hol' : out.length + 1 ≤ 9 := by omega
    have Hol := Lib.hid hol
    clear hol
    by_cases hlt : k < 128
    · have hk0 : (k : Int) ≤ 127 := by omega
      go_wp2_with (at_builtin; go_must (refine wpList_append_lit rfl _ _ 62 rfl 5 i0 _ 1 Tryd.underlying62 hi hz0 hz1 hz2 rfl _ 1 (by omega) (by rfl) (by rfl) w.heap.size _ out.length _ (by rfl) Hown.out (by simp [Value.oneCell']) (by omega) (by omega) (by omega) ?_))
      intro g' cap' w1 hown1 hgrow hat hz hlt1
      have HO1 := Lib.hid (own_bv hown1 (bv_low k hlt) (row_last Hrow.out hlt))
      have HB1 := Lib.hid (below_grown_own Hb.out Hown.out hgrow hsz)
      have hlen1 : out.length + 1 = (rowL n).length := by rw [← row_last Hrow.out hlt]; simp
      have Hl := Lib.hid hlen1
      rw [hlen1]
      clear hown1 hgrow hat hlen1
      go_wp2_with fail
      go_ret
      exact ⟨g', cap', rfl, by have := HO1.out; rwa [Hl.out] at this, HB1.out⟩
    · have hk0 : (128 : Int) ≤ k := by omega
      go_wp2_with (at_builtin; go_must (refine wpList_append_lit rfl _ _ 62 rfl 5 i0 _ 1 Tryd.underlying62 hi hz0 hz1 hz2 rfl _ 1 (by omega) (by rfl) (by rfl) w.heap.size _ out.length _ (by rfl) Hown.out (by simp [Value.oneCell']) (by omega) (by omega) (by omega) ?_))
      intro g' cap' w1 hown1 hgrow hat hz hlt1
      have HO1 := Lib.hid (own_bv hown1 (bv_high k) rfl)
      have HB1 := Lib.hid (below_grown_own Hb.out Hown.out hgrow hsz)
      clear hown1 hgrow hat
      go_wp2_with fail
      go_roundw
      case rel => exact ⟨k / 128, out ++ [UInt8.ofNat (k % 128 + 128)], by omega, by go_num, Lib.hid (row_next Hrow.out hlt), Lib.hid (by simpa using HO1.out), HB1⟩
      case measure => simp [intOf]; omega
end Go.Proofs.YtmijkaejdgmplaaDoor.co
