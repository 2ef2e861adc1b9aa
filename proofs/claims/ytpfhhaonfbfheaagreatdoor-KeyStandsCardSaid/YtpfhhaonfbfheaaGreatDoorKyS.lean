/- The document's standard set. No conditions. -/
import Derived.Test.YtpfhhaonfbfheaaGreatDoorKyQ
import Derived.Test.YtpfhhaonfbfheaaGreatDoorKyR
namespace Go.Proofs.YtpfhhaonfbfheaaGreatDoor.ky
open Go.ChangeShapes Go.WideShapes Go.ChangeAt Go.RowKit gl va ls

set_option maxHeartbeats 400000 in
set_option maxRecDepth 100000 in
theorem refLetter_nil (b : Nat) (L : List Ky) (w : World) (hR : RefK w b L) (hlen : L.length ≤ 4294967295) :
    Calls Tryz.prog 43 #[.pointer (some ⟨b, 0, none⟩), .string (B [])] w fun e w' => e = .returned (foundV (lettK L [])) ∧ Below w.heap.size w w' := by
  obtain ⟨wA, hA⟩ : ∃ wA, wA = w.alloc (.cells #[.string ⟨#[]⟩, .int .i64 0, .string ⟨#[]⟩, .int .i64 0, .int .i64 0, .string ⟨#[]⟩] 62) := ⟨_, rfl⟩
  have kA : wA.heap[w.heap.size]? = some (.cells #[.string ⟨#[]⟩, .int .i64 0, .string ⟨#[]⟩, .int .i64 0, .int .i64 0, .string ⟨#[]⟩] 62 (0, 0)) := by rw [hA]; exact heap_alloc_new w _
  have hbA : Below w.heap.size w wA := by rw [hA]; exact (Below.refl _ _).alloc (Nat.le_refl _) _
  obtain ⟨p, c, hblk, hrw⟩ := hR
  have HP := Lib.hid hrw.ptr.2.2
  have HR := Lib.hid (hrw.later hbA)
  have HbA := Lib.hid hbA
  have HA := Lib.hid hA
  have hblkA := (hbA.block b (lt_of_block hblk)).trans hblk
  have c0 : wA.cell? ⟨b, 0, none⟩ = some (.slice p L.length c) := cell_in hblkA
  have hbw : b < wA.heap.size := lt_of_block hblkA
  have hk1 := kA
  have Hk1 := Lib.hid hk1
  have a0 : wA.cell? ⟨w.heap.size, 0, none⟩ = some (.string ⟨#[]⟩) := cell_in hk1
  have a1 : wA.cell? ⟨w.heap.size, 1, none⟩ = some (.int .i64 0) := cell_in hk1
  have a2 : wA.cell? ⟨w.heap.size, 2, none⟩ = some (.string ⟨#[]⟩) := cell_in hk1
  have a3 : wA.cell? ⟨w.heap.size, 3, none⟩ = some (.int .i64 0) := cell_in hk1
  have a4 : wA.cell? ⟨w.heap.size, 4, none⟩ = some (.int .i64 0) := cell_in hk1
  have a5 : wA.cell? ⟨w.heap.size, 5, none⟩ = some (.string ⟨#[]⟩) := cell_in hk1
  have f0 : wA.frozen? ⟨w.heap.size, 0, none⟩ = false := free_in hk1
  have f1 : wA.frozen? ⟨w.heap.size, 1, none⟩ = false := free_in hk1
  have f2 : wA.frozen? ⟨w.heap.size, 2, none⟩ = false := free_in hk1
  have f3 : wA.frozen? ⟨w.heap.size, 3, none⟩ = false := free_in hk1
  have f4 : wA.frozen? ⟨w.heap.size, 4, none⟩ = false := free_in hk1
  have f5 : wA.frozen? ⟨w.heap.size, 5, none⟩ = false := free_in hk1
  have hgwA : w.heap.size < wA.heap.size := lt_of_block hk1
  obtain ⟨tt, htt⟩ : ∃ tt, tt = B [] := ⟨_, rfl⟩
  have e2 : (tt.toList == (⟨#[]⟩ : ByteArray).toList) = true := by rw [htt]; exact (str_eq [] []).trans (by decide)
  have e3 : (tt.toList != (⟨#[]⟩ : ByteArray).toList) = false := by rw [bne, e2]; rfl
  have e4 : tt.toList.isEmpty = true := by
    have h : tt.toList = [] := by rw [htt, ByteArray.toList_eq]
    rw [h]
    rfl
  rw [← htt]
  have Hf : Hid (lettK L [] = none) := Lib.hid (by unfold lettK; rw [if_pos rfl])
  clear htt
  clear hbA hA hrw hblk hblkA kA hk1
  have Hb : Hid (∀ x : Ky, x ∈ L → True) := Lib.hid fun _ _ => trivial
  go_enter Tryz.func43, Tryz.ntmps43
  go_wp2_with fail
  go_loopw [6] (fun i wr => i = .int .i64 0 ∧ wr = wA) (fun _ _ => 0)
  case atStart => exact ⟨rfl, HA.out.symm⟩
  case round =>
    obtain ⟨rfl, hwr⟩ := hrel
    obtain rfl : wA = wr := hwr.symm
    have hk1 := Hk1.out
    rcases Nat.eq_zero_or_pos L.length with h0 | h0
    · have q0 : decide ((0 : Int) < (L.length : Int)) = false := by rw [decide_eq_false_iff_not]; omega
      have q0' : ¬ (0 : Int) < (L.length : Int) := by omega
      have q1 : decide (0 < L.length) = false := by rw [decide_eq_false_iff_not]; omega
      have q1' : ¬ 0 < L.length := by omega
      clear h0
      have Hk2 := Lib.hid (stored hk1 (.string ⟨#[]⟩) (.int .i64 0) (.string ⟨#[]⟩) (.int .i64 0) (.int .i64 0) (.string ⟨#[]⟩))
      clear hk1
      go_wp2_with fail
      refine bodyPost_ret (results_cell_row2 rfl _ _ (w.heap.size) 62 _ _ _ rfl Hk2.out Tryz.underlying62 rfl (by kernel_rfl)) rfl ?_
      refine ⟨?_, stored_bel HbA.out (by omega) _ _ _ _ _ _⟩
      rw [Hf.out]
      rfl
    · have q0 : decide ((0 : Int) < (L.length : Int)) = true := by rw [decide_eq_true_iff]; omega
      have q0' : (0 : Int) < (L.length : Int) := by omega
      have q1 : decide (0 < L.length) = true := by rw [decide_eq_true_iff]; omega
      have q1' : 0 < L.length := by omega
      clear h0
      have Hk2 := Lib.hid (stored hk1 (.string ⟨#[]⟩) (.int .i64 0) (.string ⟨#[]⟩) (.int .i64 0) (.int .i64 0) (.string ⟨#[]⟩))
      clear hk1
      go_wp2_with fail
      refine bodyPost_ret (results_cell_row2 rfl _ _ (w.heap.size) 62 _ _ _ rfl Hk2.out Tryz.underlying62 rfl (by kernel_rfl)) rfl ?_
      refine ⟨?_, stored_bel HbA.out (by omega) _ _ _ _ _ _⟩
      rw [Hf.out]
      rfl
theorem refLetter_any (b : Nat) (L : List Ky) (t : List UInt8) (w : World) (hR : RefK w b L) (hlen : L.length ≤ 4294967295) :
    Calls Tryz.prog 43 #[.pointer (some ⟨b, 0, none⟩), .string (B t)] w fun e w' => e = .returned (foundV (lettK L t)) ∧ Below w.heap.size w w' := by
  by_cases ht : t = []
  · subst ht
    exact refLetter_nil b L w hR hlen
  · exact refLetter1_any b L t w hR hlen ht
end Go.Proofs.YtpfhhaonfbfheaaGreatDoor.ky
namespace Go.Proofs.YtpfhhaonfbfheaaGreatDoor.ky
open Go.ChangeShapes Go.WideShapes Go.ChangeAt Go.RowKit gl va ls

theorem std_len : stdK.length = 16 := by decide
set_option maxHeartbeats 2000000 in
set_option maxRecDepth 100000 in
theorem refStandard_any (w : World) : Calls Tryz.prog 9 #[] w fun e w' => (∃ b, e = .returned (.pointer (some ⟨b, 0, none⟩)) ∧ RefK w' b stdK) ∧ Below w.heap.size w w' := by
  have HR : Hid (RefK ((w.alloc (.cells #[.string ⟨#[98, 111, 111, 116, 46, 100, 114, 121]⟩, .int .i64 1, .string ⟨#[102, 97, 108, 115, 101]⟩, .int .i64 0, .int .i64 0, .string ⟨#[110]⟩, .string ⟨#[98, 111, 111, 116, 46, 108, 105, 109, 105, 116]⟩, .int .i64 2, .string ⟨#[48]⟩, .int .i64 0, .int .i64 1024, .string ⟨#[]⟩, .string ⟨#[98, 111, 111, 116, 46, 115, 101, 114, 118, 105, 99, 101, 115]⟩, .int .i64 6, .string ⟨#[108, 111, 103, 44, 110, 101, 116]⟩, .int .i64 0, .int .i64 16, .string ⟨#[115]⟩, .string ⟨#[98, 111, 111, 116, 46, 119, 111, 114, 107, 101, 114, 115]⟩, .int .i64 2, .string ⟨#[48]⟩, .int .i64 0, .int .i64 64, .string ⟨#[119]⟩, .string ⟨#[108, 111, 103, 46, 102, 105, 108, 101]⟩, .int .i64 5, .string ⟨#[36, 123, 115, 116, 111, 114, 101, 46, 100, 105, 114, 125, 47, 108, 111, 103]⟩, .int .i64 0, .int .i64 0, .string ⟨#[]⟩, .string ⟨#[108, 111, 103, 46, 107, 101, 101, 112]⟩, .int .i64 4, .string ⟨#[55, 100]⟩, .int .i64 1, .int .i64 2592000, .string ⟨#[]⟩, .string ⟨#[108, 111, 103, 46, 108, 101, 118, 101, 108]⟩, .int .i64 2, .string ⟨#[50]⟩, .int .i64 0, .int .i64 5, .string ⟨#[118]⟩, .string ⟨#[110, 101, 116, 46, 104, 111, 115, 116]⟩, .int .i64 5, .string ⟨#[108, 111, 99, 97, 108, 104, 111, 115, 116]⟩, .int .i64 0, .int .i64 0, .string ⟨#[]⟩, .string ⟨#[110, 101, 116, 46, 112, 101, 101, 114, 115]⟩, .int .i64 6, .string ⟨#[]⟩, .int .i64 0, .int .i64 16, .string ⟨#[]⟩, .string ⟨#[110, 101, 116, 46, 112, 111, 114, 116]⟩, .int .i64 2, .string ⟨#[56, 48, 56, 48]⟩, .int .i64 1, .int .i64 65535, .string ⟨#[112]⟩, .string ⟨#[110, 101, 116, 46, 116, 105, 109, 101, 111, 117, 116]⟩, .int .i64 4, .string ⟨#[51, 48, 115]⟩, .int .i64 1, .int .i64 3600, .string ⟨#[]⟩, .string ⟨#[110, 101, 116, 46, 117, 114, 108]⟩, .int .i64 5, .string ⟨#[104, 116, 116, 112, 58, 47, 47, 36, 123, 110, 101, 116, 46, 104, 111, 115, 116, 125, 58, 36, 123, 110, 101, 116, 46, 112, 111, 114, 116, 125]⟩, .int .i64 0, .int .i64 0, .string ⟨#[]⟩, .string ⟨#[115, 116, 111, 114, 101, 46, 98, 108, 111, 99, 107, 115]⟩, .int .i64 2, .string ⟨#[54, 52]⟩, .int .i64 8, .int .i64 4096, .string ⟨#[98]⟩, .string ⟨#[115, 116, 111, 114, 101, 46, 99, 97, 99, 104, 101]⟩, .int .i64 3, .string ⟨#[52, 109]⟩, .int .i64 0, .int .i64 1073741824, .string ⟨#[99]⟩, .string ⟨#[115, 116, 111, 114, 101, 46, 100, 105, 114]⟩, .int .i64 5, .string ⟨#[47, 118, 97, 114, 47, 116, 105, 110, 100, 101, 114]⟩, .int .i64 0, .int .i64 0, .string ⟨#[100]⟩, .string ⟨#[115, 116, 111, 114, 101, 46, 112, 97, 103, 101]⟩, .int .i64 3, .string ⟨#[52, 107]⟩, .int .i64 512, .int .i64 65536, .string ⟨#[]⟩] 62)).alloc (.cells #[.slice (some ⟨w.heap.size, 0, none⟩) 16 16] 29)) (w.heap.size + 1) stdK) := Lib.hid (by
    have h := heap_alloc_new (w.alloc (.cells #[.string ⟨#[98, 111, 111, 116, 46, 100, 114, 121]⟩, .int .i64 1, .string ⟨#[102, 97, 108, 115, 101]⟩, .int .i64 0, .int .i64 0, .string ⟨#[110]⟩, .string ⟨#[98, 111, 111, 116, 46, 108, 105, 109, 105, 116]⟩, .int .i64 2, .string ⟨#[48]⟩, .int .i64 0, .int .i64 1024, .string ⟨#[]⟩, .string ⟨#[98, 111, 111, 116, 46, 115, 101, 114, 118, 105, 99, 101, 115]⟩, .int .i64 6, .string ⟨#[108, 111, 103, 44, 110, 101, 116]⟩, .int .i64 0, .int .i64 16, .string ⟨#[115]⟩, .string ⟨#[98, 111, 111, 116, 46, 119, 111, 114, 107, 101, 114, 115]⟩, .int .i64 2, .string ⟨#[48]⟩, .int .i64 0, .int .i64 64, .string ⟨#[119]⟩, .string ⟨#[108, 111, 103, 46, 102, 105, 108, 101]⟩, .int .i64 5, .string ⟨#[36, 123, 115, 116, 111, 114, 101, 46, 100, 105, 114, 125, 47, 108, 111, 103]⟩, .int .i64 0, .int .i64 0, .string ⟨#[]⟩, .string ⟨#[108, 111, 103, 46, 107, 101, 101, 112]⟩, .int .i64 4, .string ⟨#[55, 100]⟩, .int .i64 1, .int .i64 2592000, .string ⟨#[]⟩, .string ⟨#[108, 111, 103, 46, 108, 101, 118, 101, 108]⟩, .int .i64 2, .string ⟨#[50]⟩, .int .i64 0, .int .i64 5, .string ⟨#[118]⟩, .string ⟨#[110, 101, 116, 46, 104, 111, 115, 116]⟩, .int .i64 5, .string ⟨#[108, 111, 99, 97, 108, 104, 111, 115, 116]⟩, .int .i64 0, .int .i64 0, .string ⟨#[]⟩, .string ⟨#[110, 101, 116, 46, 112, 101, 101, 114, 115]⟩, .int .i64 6, .string ⟨#[]⟩, .int .i64 0, .int .i64 16, .string ⟨#[]⟩, .string ⟨#[110, 101, 116, 46, 112, 111, 114, 116]⟩, .int .i64 2, .string ⟨#[56, 48, 56, 48]⟩, .int .i64 1, .int .i64 65535, .string ⟨#[112]⟩, .string ⟨#[110, 101, 116, 46, 116, 105, 109, 101, 111, 117, 116]⟩, .int .i64 4, .string ⟨#[51, 48, 115]⟩, .int .i64 1, .int .i64 3600, .string ⟨#[]⟩, .string ⟨#[110, 101, 116, 46, 117, 114, 108]⟩, .int .i64 5, .string ⟨#[104, 116, 116, 112, 58, 47, 47, 36, 123, 110, 101, 116, 46, 104, 111, 115, 116, 125, 58, 36, 123, 110, 101, 116, 46, 112, 111, 114, 116, 125]⟩, .int .i64 0, .int .i64 0, .string ⟨#[]⟩, .string ⟨#[115, 116, 111, 114, 101, 46, 98, 108, 111, 99, 107, 115]⟩, .int .i64 2, .string ⟨#[54, 52]⟩, .int .i64 8, .int .i64 4096, .string ⟨#[98]⟩, .string ⟨#[115, 116, 111, 114, 101, 46, 99, 97, 99, 104, 101]⟩, .int .i64 3, .string ⟨#[52, 109]⟩, .int .i64 0, .int .i64 1073741824, .string ⟨#[99]⟩, .string ⟨#[115, 116, 111, 114, 101, 46, 100, 105, 114]⟩, .int .i64 5, .string ⟨#[47, 118, 97, 114, 47, 116, 105, 110, 100, 101, 114]⟩, .int .i64 0, .int .i64 0, .string ⟨#[100]⟩, .string ⟨#[115, 116, 111, 114, 101, 46, 112, 97, 103, 101]⟩, .int .i64 3, .string ⟨#[52, 107]⟩, .int .i64 512, .int .i64 65536, .string ⟨#[]⟩] 62)) (.cells #[.slice (some ⟨w.heap.size, 0, none⟩) 16 16] 29)
    rw [World.size_alloc] at h
    exact ⟨_, 16, h, (kys_lit (l := stdK) (heap_alloc_new w _) rfl).later ((Below.refl _ _).alloc (Nat.le_refl _) _)⟩)
  have Hb : Hid (Below w.heap.size w ((w.alloc (.cells #[.string ⟨#[98, 111, 111, 116, 46, 100, 114, 121]⟩, .int .i64 1, .string ⟨#[102, 97, 108, 115, 101]⟩, .int .i64 0, .int .i64 0, .string ⟨#[110]⟩, .string ⟨#[98, 111, 111, 116, 46, 108, 105, 109, 105, 116]⟩, .int .i64 2, .string ⟨#[48]⟩, .int .i64 0, .int .i64 1024, .string ⟨#[]⟩, .string ⟨#[98, 111, 111, 116, 46, 115, 101, 114, 118, 105, 99, 101, 115]⟩, .int .i64 6, .string ⟨#[108, 111, 103, 44, 110, 101, 116]⟩, .int .i64 0, .int .i64 16, .string ⟨#[115]⟩, .string ⟨#[98, 111, 111, 116, 46, 119, 111, 114, 107, 101, 114, 115]⟩, .int .i64 2, .string ⟨#[48]⟩, .int .i64 0, .int .i64 64, .string ⟨#[119]⟩, .string ⟨#[108, 111, 103, 46, 102, 105, 108, 101]⟩, .int .i64 5, .string ⟨#[36, 123, 115, 116, 111, 114, 101, 46, 100, 105, 114, 125, 47, 108, 111, 103]⟩, .int .i64 0, .int .i64 0, .string ⟨#[]⟩, .string ⟨#[108, 111, 103, 46, 107, 101, 101, 112]⟩, .int .i64 4, .string ⟨#[55, 100]⟩, .int .i64 1, .int .i64 2592000, .string ⟨#[]⟩, .string ⟨#[108, 111, 103, 46, 108, 101, 118, 101, 108]⟩, .int .i64 2, .string ⟨#[50]⟩, .int .i64 0, .int .i64 5, .string ⟨#[118]⟩, .string ⟨#[110, 101, 116, 46, 104, 111, 115, 116]⟩, .int .i64 5, .string ⟨#[108, 111, 99, 97, 108, 104, 111, 115, 116]⟩, .int .i64 0, .int .i64 0, .string ⟨#[]⟩, .string ⟨#[110, 101, 116, 46, 112, 101, 101, 114, 115]⟩, .int .i64 6, .string ⟨#[]⟩, .int .i64 0, .int .i64 16, .string ⟨#[]⟩, .string ⟨#[110, 101, 116, 46, 112, 111, 114, 116]⟩, .int .i64 2, .string ⟨#[56, 48, 56, 48]⟩, .int .i64 1, .int .i64 65535, .string ⟨#[112]⟩, .string ⟨#[110, 101, 116, 46, 116, 105, 109, 101, 111, 117, 116]⟩, .int .i64 4, .string ⟨#[51, 48, 115]⟩, .int .i64 1, .int .i64 3600, .string ⟨#[]⟩, .string ⟨#[110, 101, 116, 46, 117, 114, 108]⟩, .int .i64 5, .string ⟨#[104, 116, 116, 112, 58, 47, 47, 36, 123, 110, 101, 116, 46, 104, 111, 115, 116, 125, 58, 36, 123, 110, 101, 116, 46, 112, 111, 114, 116, 125]⟩, .int .i64 0, .int .i64 0, .string ⟨#[]⟩, .string ⟨#[115, 116, 111, 114, 101, 46, 98, 108, 111, 99, 107, 115]⟩, .int .i64 2, .string ⟨#[54, 52]⟩, .int .i64 8, .int .i64 4096, .string ⟨#[98]⟩, .string ⟨#[115, 116, 111, 114, 101, 46, 99, 97, 99, 104, 101]⟩, .int .i64 3, .string ⟨#[52, 109]⟩, .int .i64 0, .int .i64 1073741824, .string ⟨#[99]⟩, .string ⟨#[115, 116, 111, 114, 101, 46, 100, 105, 114]⟩, .int .i64 5, .string ⟨#[47, 118, 97, 114, 47, 116, 105, 110, 100, 101, 114]⟩, .int .i64 0, .int .i64 0, .string ⟨#[100]⟩, .string ⟨#[115, 116, 111, 114, 101, 46, 112, 97, 103, 101]⟩, .int .i64 3, .string ⟨#[52, 107]⟩, .int .i64 512, .int .i64 65536, .string ⟨#[]⟩] 62)).alloc (.cells #[.slice (some ⟨w.heap.size, 0, none⟩) 16 16] 29))) := Lib.hid (((Below.refl _ _).alloc (Nat.le_refl _) _).alloc (by simp) _)
  go_enter Tryz.func9, Tryz.ntmps9
  go_wp2_with fail
  go_ret
  exact ⟨⟨_, rfl, HR.out⟩, Hb.out⟩

end Go.Proofs.YtpfhhaonfbfheaaGreatDoor.ky
