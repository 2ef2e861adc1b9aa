/- Package key: the definition of a letter. Conditions: the set lies in memory as its list. -/
import Derived.Test.YtpfhhaonfbfheaaGreatDoorKyE
namespace Go.Proofs.YtpfhhaonfbfheaaGreatDoor.ky
open Go.ChangeShapes Go.WideShapes Go.ChangeAt Go.RowKit gl va ls

set_option maxHeartbeats 4000000 in
set_option maxRecDepth 100000 in
theorem Letter_any (M b : Nat) (S : List Ky) (t : List UInt8) (w : World) (hS : SetK M w b S) :
    Calls Tryz.prog 42 #[.pointer (some ⟨b, 0, none⟩), .string (B t)] w fun e w' => e = .returned (foundV (lettK S t)) ∧ Below w.heap.size w w' := by
  rw [lett_find]
  obtain ⟨wA, hA⟩ : ∃ wA, wA = (w.alloc (.cells #[.string (B t)] 9)).alloc (.cells #[.string ⟨#[]⟩, .int .i64 0, .string ⟨#[]⟩, .int .i64 0, .int .i64 0, .string ⟨#[]⟩] 62) := ⟨_, rfl⟩
  have tA : wA.heap[w.heap.size]? = some (.cells #[.string (B t)] 9 (0, 0)) := by
    rw [hA]
    exact (((Below.refl _ (w.alloc (.cells #[.string (B t)] 9))).alloc (Nat.le_refl _) _).block w.heap.size (by simp)).trans (heap_alloc_new w _)
  have kA : wA.heap[w.heap.size + 1]? = some (.cells #[.string ⟨#[]⟩, .int .i64 0, .string ⟨#[]⟩, .int .i64 0, .int .i64 0, .string ⟨#[]⟩] 62 (0, 0)) := by
    have h := heap_alloc_new (w.alloc (.cells #[.string (B t)] 9)) (.cells #[.string ⟨#[]⟩, .int .i64 0, .string ⟨#[]⟩, .int .i64 0, .int .i64 0, .string ⟨#[]⟩] 62)
    rw [World.size_alloc] at h
    rw [hA]; exact h
  have hbA : Below w.heap.size w wA := by rw [hA]; exact ((Below.refl _ _).alloc (Nat.le_refl _) _).alloc (by simp) _
  obtain ⟨p, c, hblk, hrw⟩ := hS.form
  have HF := Lib.hid (idx_any (fL t) 65 #[.pointer (some ⟨w.heap.size, 0, none⟩)] eg65 p S.length c S (by have := hS.len; omega) wA (hrw.later hbA) (fun W x hW => by
    have hc : W.cell? ⟨w.heap.size, 0, none⟩ = some (.string (B t)) := (hW.cell (p := ⟨w.heap.size, 0, none⟩) (lt_of_block tA)).trans (cell_in tA)
    exact (letter1_any x t w.heap.size W hc).mono fun e w' h => ⟨h.1, then_bel hW h.2⟩))
  have HP := Lib.hid hrw.ptr.2.2
  have HR := Lib.hid hrw
  have HkA := Lib.hid kA
  have HbA := Lib.hid hbA
  have HA := Lib.hid hA
  have Hblk := Lib.hid hblk
  have HFI := Lib.hid (find_idx (fL t) S)
  have c00 : w.cell? ⟨b, 0, none⟩ = some (.slice p S.length c) := cell_in hblk
  have hbA' : b < w.heap.size := lt_of_block hblk
  have hlen := hS.len
  clear kA hbA hA hrw hblk hS tA
  generalize htt : B t = tt at *
  clear htt
  go_enter Tryz.func42, Tryz.ntmps42
  go_wp2_with fail
  rw [← HA.out]
  refine HF.out.mono ?_
  rintro e w1 ⟨rfl, hb1⟩
  have Hb1 := Lib.hid (then_bel HbA.out hb1)
  have hk1 := (hb1.block _ (lt_of_block HkA.out)).trans HkA.out
  clear c00
  have a0 : w1.cell? ⟨w.heap.size + 1, 0, none⟩ = some (.string ⟨#[]⟩) := cell_in hk1
  have a1 : w1.cell? ⟨w.heap.size + 1, 1, none⟩ = some (.int .i64 0) := cell_in hk1
  have a2 : w1.cell? ⟨w.heap.size + 1, 2, none⟩ = some (.string ⟨#[]⟩) := cell_in hk1
  have a3 : w1.cell? ⟨w.heap.size + 1, 3, none⟩ = some (.int .i64 0) := cell_in hk1
  have a4 : w1.cell? ⟨w.heap.size + 1, 4, none⟩ = some (.int .i64 0) := cell_in hk1
  have a5 : w1.cell? ⟨w.heap.size + 1, 5, none⟩ = some (.string ⟨#[]⟩) := cell_in hk1
  have f0 : w1.frozen? ⟨w.heap.size + 1, 0, none⟩ = false := free_in hk1
  have f1 : w1.frozen? ⟨w.heap.size + 1, 1, none⟩ = false := free_in hk1
  have f2 : w1.frozen? ⟨w.heap.size + 1, 2, none⟩ = false := free_in hk1
  have f3 : w1.frozen? ⟨w.heap.size + 1, 3, none⟩ = false := free_in hk1
  have f4 : w1.frozen? ⟨w.heap.size + 1, 4, none⟩ = false := free_in hk1
  have f5 : w1.frozen? ⟨w.heap.size + 1, 5, none⟩ = false := free_in hk1
  have hgw1 : w.heap.size + 1 < w1.heap.size := lt_of_block hk1
  rcases hi : S.findIdx? (fL t) with _ | k
  · have Hf := Lib.hid (HFI.out.1 hi)
    have hz : idxI (none : Option Nat) = -1 := rfl
    rw [hz]
    clear hi hz
    have Hk2 := Lib.hid (stored hk1 (.string ⟨#[]⟩) (.int .i64 0) (.string ⟨#[]⟩) (.int .i64 0) (.int .i64 0) (.string ⟨#[]⟩))
    clear hk1 hb1
    go_wp2_with fail
    refine bodyPost_ret (results_cell_row2 rfl _ _ (w.heap.size + 1) 62 _ _ _ rfl Hk2.out Tryz.underlying62 rfl (by kernel_rfl)) rfl ?_
    refine ⟨?_, stored_bel Hb1.out (by omega) _ _ _ _ _ _⟩
    rw [Hf.out]
    rfl
  · obtain ⟨x, hx, hf⟩ := HFI.out.2 k hi
    have Hf := Lib.hid hf
    have hz : idxI (some k) = (k : Int) := rfl
    rw [hz]
    clear hf hi hz
    have hkl : k < S.length := lt_get hx
    obtain ⟨bp, op, rfl, hbp⟩ := HP.out (by omega)
    obtain ⟨k0, k1, k2, k3, k4, k5⟩ := ky_cells (HR.out.later Hb1.out) hx
    have c0 : w1.cell? ⟨b, 0, none⟩ = some (.slice (some ⟨bp, op, none⟩) S.length c) := cell_in ((Hb1.out.block b (lt_of_block Hblk.out)).trans Hblk.out)
    have hbw : b < w1.heap.size := by have := lt_of_block Hblk.out; have := Hb1.out.size; omega
    have hbr : bp < w1.heap.size := by have := Hb1.out.size; omega
    have hki : (k : Int) < (S.length : Int) := by omega
    have hk5 : (0 : Int) ≤ (k : Int) := by omega
    have hlt0 : decide ((k : Int) < 0) = false := by simp
    have hlt1 : ¬ ((k : Int) < 0) := by omega
    have Hk2 := Lib.hid (stored hk1 (.string (B x.name)) (.int .i64 x.kind) (.string (B x.dflt)) (.int .i64 x.least) (.int .i64 x.most) (.string (B x.letter)))
    have HV : Hid (foundV (some x) = .tuple #[.agg #[.string (B x.name), .int .i64 x.kind, .string (B x.dflt), .int .i64 x.least, .int .i64 x.most, .string (B x.letter)], .bool true]) := Lib.hid rfl
    clear hk1 hb1 hx hkl
    generalize B x.name = nm at *
    generalize B x.dflt = df at *
    generalize B x.letter = lt at *
    generalize x.kind = kk at *
    generalize x.least = le at *
    generalize x.most = mo at *
    go_wp2_with fail
    refine bodyPost_ret (results_cell_row2 rfl _ _ (w.heap.size + 1) 62 _ _ _ rfl Hk2.out Tryz.underlying62 rfl (by kernel_rfl)) rfl ?_
    refine ⟨?_, stored_bel Hb1.out (by omega) _ _ _ _ _ _⟩
    rw [Hf.out, HV.out]
    rfl
end Go.Proofs.YtpfhhaonfbfheaaGreatDoor.ky
