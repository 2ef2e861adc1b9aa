/- The document's set of definitions: Find, Letter. Conditions: it lies in memory as its list. -/
import Derived.Test.YtpfhhaonfbfheaaGreatDoorKyL
namespace Go.Proofs.YtpfhhaonfbfheaaGreatDoor.ky
open Go.ChangeShapes Go.WideShapes Go.ChangeAt Go.RowKit gl va ls

/-- The document's set at block b. -/
def RefK (w : World) (b : Nat) (L : List Ky) : Prop := ∃ p c, w.heap[b]? = some (.cells #[.slice p L.length c] 29 (0, 0)) ∧ Kys w (.slice p L.length c) L
theorem RefK.later {w w' : World} {b : Nat} {L : List Ky} (h : RefK w b L) (hb : Below w.heap.size w w') : RefK w' b L := by
  obtain ⟨p, c, h1, h2⟩ := h
  exact ⟨p, c, (hb.block b (lt_of_block h1)).trans h1, h2.later hb⟩
theorem find_hit {p : Ky → Bool} {L : List Ky} {j : Nat} {x : Ky} (h : (L.take j).find? p = none) (hx : L[j]? = some x) (hp : p x = true) : L.find? p = some x := by
  have hlt := lt_get hx
  rw [List.getElem?_eq_getElem hlt] at hx
  have e : L = L.take j ++ x :: L.drop (j + 1) := by
    rw [← Option.some.inj hx, ← List.drop_eq_getElem_cons hlt, List.take_append_drop]
  rw [e, List.find?_append, h, List.find?_cons, hp]
  rfl
theorem find_next {p : Ky → Bool} {L : List Ky} {j : Nat} {x : Ky} (h : (L.take j).find? p = none) (hx : L[j]? = some x) (hp : p x = false) : (L.take (j + 1)).find? p = none := by
  have hlt := lt_get hx
  rw [List.getElem?_eq_getElem hlt] at hx
  rw [List.take_succ_eq_append_getElem hlt, Option.some.inj hx, List.find?_append, h, List.find?_cons, hp]
  rfl
set_option maxHeartbeats 4000000 in
set_option maxRecDepth 100000 in
theorem refFind_any (b : Nat) (L : List Ky) (t : List UInt8) (w : World) (hR : RefK w b L) (hlen : L.length ≤ 4294967295) :
    Calls Tryz.prog 41 #[.pointer (some ⟨b, 0, none⟩), .string (B t)] w fun e w' => e = .returned (foundV (findK L t)) ∧ Below w.heap.size w w' := by
  obtain ⟨wA, hA⟩ : ∃ wA, wA = w.alloc (.cells #[.string ⟨#[]⟩, .int .i64 0, .string ⟨#[]⟩, .int .i64 0, .int .i64 0, .string ⟨#[]⟩] 62) := ⟨_, rfl⟩
  have kA : wA.heap[w.heap.size]? = some (.cells #[.string ⟨#[]⟩, .int .i64 0, .string ⟨#[]⟩, .int .i64 0, .int .i64 0, .string ⟨#[]⟩] 62 (0, 0)) := by rw [hA]; exact heap_alloc_new w _
  have hbA : Below w.heap.size w wA := by rw [hA]; exact (Below.refl _ _).alloc (Nat.le_refl _) _
  obtain ⟨p, c, hblk, hrw⟩ := hR
  have HP := Lib.hid hrw.ptr.2.2
  have HR := Lib.hid (hrw.later hbA)
  have HbA := Lib.hid hbA
  have HA := Lib.hid hA
  have hblkA := (hbA.block b (lt_of_block hblk)).trans hblk
  have c0 : wA.cell? ⟨b, 0, none⟩ = some (.slice p L.length c) := cell_in hblkA
  have hbw : b < wA.heap.size := lt_of_block hblkA
  have hk1 := kA
  have Hk1 := Lib.hid hk1
  have a0 : wA.cell? ⟨w.heap.size, 0, none⟩ = some (.string ⟨#[]⟩) := cell_in hk1
  have a1 : wA.cell? ⟨w.heap.size, 1, none⟩ = some (.int .i64 0) := cell_in hk1
  have a2 : wA.cell? ⟨w.heap.size, 2, none⟩ = some (.string ⟨#[]⟩) := cell_in hk1
  have a3 : wA.cell? ⟨w.heap.size, 3, none⟩ = some (.int .i64 0) := cell_in hk1
  have a4 : wA.cell? ⟨w.heap.size, 4, none⟩ = some (.int .i64 0) := cell_in hk1
  have a5 : wA.cell? ⟨w.heap.size, 5, none⟩ = some (.string ⟨#[]⟩) := cell_in hk1
  have f0 : wA.frozen? ⟨w.heap.size, 0, none⟩ = false := free_in hk1
  have f1 : wA.frozen? ⟨w.heap.size, 1, none⟩ = false := free_in hk1
  have f2 : wA.frozen? ⟨w.heap.size, 2, none⟩ = false := free_in hk1
  have f3 : wA.frozen? ⟨w.heap.size, 3, none⟩ = false := free_in hk1
  have f4 : wA.frozen? ⟨w.heap.size, 4, none⟩ = false := free_in hk1
  have f5 : wA.frozen? ⟨w.heap.size, 5, none⟩ = false := free_in hk1
  have hgwA : w.heap.size < wA.heap.size := lt_of_block hk1

  clear hbA hA hrw hblk hblkA kA hk1
  have Hb : Hid (∀ x : Ky, x ∈ L → True) := Lib.hid fun _ _ => trivial
  go_enter Tryz.func41, Tryz.ntmps41
  go_wp2_with fail
  go_loopw [6] (fun i wr => ∃ j : Nat, j ≤ L.length ∧ i = .int .i64 j ∧ Hid ((L.take j).find? (fun y => decide (y.name = t)) = none) ∧ wr = wA) (fun i _ => L.length - (intOf i).toNat)
  case atStart => exact ⟨0, by omega, rfl, Lib.hid rfl, HA.out.symm⟩
  case round =>
    obtain ⟨j, hj, rfl, HN, hwr⟩ := hrel
    obtain rfl : wA = wr := hwr.symm
    by_cases hlt : j < L.length
    · obtain ⟨bp, op, rfl, hbp⟩ := HP.out (by omega)
      obtain ⟨x, hx⟩ : ∃ x, L[j]? = some x := ⟨_, List.getElem?_eq_getElem hlt⟩
      obtain ⟨k0, k1, k2, k3, k4, k5⟩ := ky_cells HR.out hx
      have hbr : bp < wA.heap.size := by have := HbA.out.size; omega
      have hki : (j : Int) < (L.length : Int) := by omega
      have hk5 : (0 : Int) ≤ (j : Int) := by omega
      by_cases hq : x.name = t
      · have q1 : ((B x.name).toList == (B t).toList) = true := by rw [str_eq, decide_eq_true hq]
        have Hf : Hid (findK L t = some x) := Lib.hid (find_hit HN.out hx (by rw [decide_eq_true hq]))
        clear hq
        generalize B t = tt at *
        have hk1 := Hk1.out
        clear hx
        have Hk2 := Lib.hid (stored hk1 (.string (B x.name)) (.int .i64 x.kind) (.string (B x.dflt)) (.int .i64 x.least) (.int .i64 x.most) (.string (B x.letter)))
        have HV : Hid (foundV (some x) = .tuple #[.agg #[.string (B x.name), .int .i64 x.kind, .string (B x.dflt), .int .i64 x.least, .int .i64 x.most, .string (B x.letter)], .bool true]) := Lib.hid rfl
        clear hk1
        generalize B x.name = nm at *
        generalize B x.dflt = df at *
        generalize B x.letter = lt at *
        generalize x.kind = kk at *
        generalize x.least = le at *
        generalize x.most = mo at *
        go_wp2_with fail
        refine bodyPost_ret (results_cell_row2 rfl _ _ (w.heap.size) 62 _ _ _ rfl Hk2.out Tryz.underlying62 rfl (by kernel_rfl)) rfl ?_
        refine ⟨?_, stored_bel HbA.out (by omega) _ _ _ _ _ _⟩
        rw [Hf.out, HV.out]
        rfl
      · have q1 : ((B x.name).toList == (B t).toList) = false := by rw [str_eq, decide_eq_false hq]
        have HN2 := Lib.hid (find_next HN.out hx (by rw [decide_eq_false hq]))
        clear hq hx
        generalize B t = tt at *
        generalize B x.name = nm at *
        generalize B x.dflt = df at *
        generalize B x.letter = lt at *
        generalize x.kind = kk at *
        generalize x.least = le at *
        generalize x.most = mo at *
        go_wp2_with fail
        go_roundw
        case rel => exact ⟨j + 1, by omega, by go_num, HN2, trivial⟩
        case measure => simp [intOf]; omega
    · obtain rfl : j = L.length := by omega
      have Hf : Hid (findK L t = none) := Lib.hid (by
        have h := HN.out
        rw [List.take_of_length_le (Nat.le_refl _)] at h
        exact h)
      have hd1 : decide ((L.length : Int) < (L.length : Int)) = false := by simp
      have hk1 := Hk1.out
      have Hk2 := Lib.hid (stored hk1 (.string ⟨#[]⟩) (.int .i64 0) (.string ⟨#[]⟩) (.int .i64 0) (.int .i64 0) (.string ⟨#[]⟩))
      clear hk1
      go_wp2_with fail
      refine bodyPost_ret (results_cell_row2 rfl _ _ (w.heap.size) 62 _ _ _ rfl Hk2.out Tryz.underlying62 rfl (by kernel_rfl)) rfl ?_
      refine ⟨?_, stored_bel HbA.out (by omega) _ _ _ _ _ _⟩
      rw [Hf.out]
      rfl
set_option maxHeartbeats 4000000 in
set_option maxRecDepth 100000 in
theorem refLetter1_any (b : Nat) (L : List Ky) (t : List UInt8) (w : World) (hR : RefK w b L) (hlen : L.length ≤ 4294967295) (ht : t ≠ []) :
    Calls Tryz.prog 43 #[.pointer (some ⟨b, 0, none⟩), .string (B t)] w fun e w' => e = .returned (foundV (lettK L t)) ∧ Below w.heap.size w w' := by
  obtain ⟨wA, hA⟩ : ∃ wA, wA = w.alloc (.cells #[.string ⟨#[]⟩, .int .i64 0, .string ⟨#[]⟩, .int .i64 0, .int .i64 0, .string ⟨#[]⟩] 62) := ⟨_, rfl⟩
  have kA : wA.heap[w.heap.size]? = some (.cells #[.string ⟨#[]⟩, .int .i64 0, .string ⟨#[]⟩, .int .i64 0, .int .i64 0, .string ⟨#[]⟩] 62 (0, 0)) := by rw [hA]; exact heap_alloc_new w _
  have hbA : Below w.heap.size w wA := by rw [hA]; exact (Below.refl _ _).alloc (Nat.le_refl _) _
  obtain ⟨p, c, hblk, hrw⟩ := hR
  have HP := Lib.hid hrw.ptr.2.2
  have HR := Lib.hid (hrw.later hbA)
  have HbA := Lib.hid hbA
  have HA := Lib.hid hA
  have hblkA := (hbA.block b (lt_of_block hblk)).trans hblk
  have c0 : wA.cell? ⟨b, 0, none⟩ = some (.slice p L.length c) := cell_in hblkA
  have hbw : b < wA.heap.size := lt_of_block hblkA
  have hk1 := kA
  have Hk1 := Lib.hid hk1
  have a0 : wA.cell? ⟨w.heap.size, 0, none⟩ = some (.string ⟨#[]⟩) := cell_in hk1
  have a1 : wA.cell? ⟨w.heap.size, 1, none⟩ = some (.int .i64 0) := cell_in hk1
  have a2 : wA.cell? ⟨w.heap.size, 2, none⟩ = some (.string ⟨#[]⟩) := cell_in hk1
  have a3 : wA.cell? ⟨w.heap.size, 3, none⟩ = some (.int .i64 0) := cell_in hk1
  have a4 : wA.cell? ⟨w.heap.size, 4, none⟩ = some (.int .i64 0) := cell_in hk1
  have a5 : wA.cell? ⟨w.heap.size, 5, none⟩ = some (.string ⟨#[]⟩) := cell_in hk1
  have f0 : wA.frozen? ⟨w.heap.size, 0, none⟩ = false := free_in hk1
  have f1 : wA.frozen? ⟨w.heap.size, 1, none⟩ = false := free_in hk1
  have f2 : wA.frozen? ⟨w.heap.size, 2, none⟩ = false := free_in hk1
  have f3 : wA.frozen? ⟨w.heap.size, 3, none⟩ = false := free_in hk1
  have f4 : wA.frozen? ⟨w.heap.size, 4, none⟩ = false := free_in hk1
  have f5 : wA.frozen? ⟨w.heap.size, 5, none⟩ = false := free_in hk1
  have hgwA : w.heap.size < wA.heap.size := lt_of_block hk1
  have e2 : ((B t).toList == (⟨#[]⟩ : ByteArray).toList) = false := by rw [show (⟨#[]⟩ : ByteArray) = B [] from rfl, str_eq, decide_eq_false ht]
  have e3 : ((B t).toList != (⟨#[]⟩ : ByteArray).toList) = true := by rw [bne, e2]; rfl
  have e4 : (B t).toList.isEmpty = false := by rw [ByteArray.toList_eq]; cases t <;> simp_all
  clear hbA hA hrw hblk hblkA kA hk1
  have Hb : Hid (∀ x : Ky, x ∈ L → True) := Lib.hid fun _ _ => trivial
  go_enter Tryz.func43, Tryz.ntmps43
  go_wp2_with fail
  go_loopw [6] (fun i wr => ∃ j : Nat, j ≤ L.length ∧ i = .int .i64 j ∧ Hid ((L.take j).find? (fun y => decide (y.letter = t)) = none) ∧ wr = wA) (fun i _ => L.length - (intOf i).toNat)
  case atStart => exact ⟨0, by omega, rfl, Lib.hid rfl, HA.out.symm⟩
  case round =>
    obtain ⟨j, hj, rfl, HN, hwr⟩ := hrel
    obtain rfl : wA = wr := hwr.symm
    by_cases hlt : j < L.length
    · obtain ⟨bp, op, rfl, hbp⟩ := HP.out (by omega)
      obtain ⟨x, hx⟩ : ∃ x, L[j]? = some x := ⟨_, List.getElem?_eq_getElem hlt⟩
      obtain ⟨k0, k1, k2, k3, k4, k5⟩ := ky_cells HR.out hx
      have hbr : bp < wA.heap.size := by have := HbA.out.size; omega
      have hki : (j : Int) < (L.length : Int) := by omega
      have hk5 : (0 : Int) ≤ (j : Int) := by omega
      by_cases hq : x.letter = t
      · have q1 : ((B x.letter).toList == (B t).toList) = true := by rw [str_eq, decide_eq_true hq]
        have Hf : Hid (lettK L t = some x) := Lib.hid (by unfold lettK; rw [if_neg ht]; exact find_hit HN.out hx (by rw [decide_eq_true hq]))
        clear hq
        generalize B t = tt at *
        have hk1 := Hk1.out
        clear hx
        have Hk2 := Lib.hid (stored hk1 (.string (B x.name)) (.int .i64 x.kind) (.string (B x.dflt)) (.int .i64 x.least) (.int .i64 x.most) (.string (B x.letter)))
        have HV : Hid (foundV (some x) = .tuple #[.agg #[.string (B x.name), .int .i64 x.kind, .string (B x.dflt), .int .i64 x.least, .int .i64 x.most, .string (B x.letter)], .bool true]) := Lib.hid rfl
        clear hk1
        generalize B x.name = nm at *
        generalize B x.dflt = df at *
        generalize B x.letter = lt at *
        generalize x.kind = kk at *
        generalize x.least = le at *
        generalize x.most = mo at *
        go_wp2_with fail
        refine bodyPost_ret (results_cell_row2 rfl _ _ (w.heap.size) 62 _ _ _ rfl Hk2.out Tryz.underlying62 rfl (by kernel_rfl)) rfl ?_
        refine ⟨?_, stored_bel HbA.out (by omega) _ _ _ _ _ _⟩
        rw [Hf.out, HV.out]
        rfl
      · have q1 : ((B x.letter).toList == (B t).toList) = false := by rw [str_eq, decide_eq_false hq]
        have HN2 := Lib.hid (find_next HN.out hx (by rw [decide_eq_false hq]))
        clear hq hx
        generalize B t = tt at *
        generalize B x.name = nm at *
        generalize B x.dflt = df at *
        generalize B x.letter = lt at *
        generalize x.kind = kk at *
        generalize x.least = le at *
        generalize x.most = mo at *
        go_wp2_with fail
        go_roundw
        case rel => exact ⟨j + 1, by omega, by go_num, HN2, trivial⟩
        case measure => simp [intOf]; omega
    · obtain rfl : j = L.length := by omega
      have Hf : Hid (lettK L t = none) := Lib.hid (by
        have h := HN.out
        rw [List.take_of_length_le (Nat.le_refl _)] at h
        unfold lettK; rw [if_neg ht]; exact h)
      have hd1 : decide ((L.length : Int) < (L.length : Int)) = false := by simp
      have hk1 := Hk1.out
      have Hk2 := Lib.hid (stored hk1 (.string ⟨#[]⟩) (.int .i64 0) (.string ⟨#[]⟩) (.int .i64 0) (.int .i64 0) (.string ⟨#[]⟩))
      clear hk1
      go_wp2_with fail
      refine bodyPost_ret (results_cell_row2 rfl _ _ (w.heap.size) 62 _ _ _ rfl Hk2.out Tryz.underlying62 rfl (by kernel_rfl)) rfl ?_
      refine ⟨?_, stored_bel HbA.out (by omega) _ _ _ _ _ _⟩
      rw [Hf.out]
      rfl
end Go.Proofs.YtpfhhaonfbfheaaGreatDoor.ky
