/- Package key: where a name stands among definitions that ascend. Conditions: at most 4294967295 definitions. -/
import Derived.Test.YtpfhhaonfbfheaaGreatDoorKyK
import Derived.Test.YtpfhhaonfbfheaaGreatDoorShelf
namespace Go.Proofs.YtpfhhaonfbfheaaGreatDoor.ky
open Go.ChangeShapes Go.WideShapes Go.ChangeAt Go.RowKit gl va ls

theorem then_bel {w w' w'' : World} (h : Below w.heap.size w w') (h2 : Below w'.heap.size w' w'') : Below w.heap.size w w'' := h.trans (h2.mono h.size)
theorem B_list (l : List UInt8) : (B l).data.toList = l := by simp
theorem ky_cells {w : World} {b o n c : Nat} {R : List Ky} (h : rw.Rw kyC 6 w (.slice (some ⟨b, o, none⟩) n c) R) {j : Nat} {x : Ky} (hx : R[j]? = some x) :
    w.cell? ⟨b, o + j * 6, none⟩ = some (.string (B x.name)) ∧ w.cell? ⟨b, o + j * 6 + 1, none⟩ = some (.int .i64 x.kind) ∧ w.cell? ⟨b, o + j * 6 + 2, none⟩ = some (.string (B x.dflt)) ∧ w.cell? ⟨b, o + j * 6 + 3, none⟩ = some (.int .i64 x.least) ∧ w.cell? ⟨b, o + j * 6 + 4, none⟩ = some (.int .i64 x.most) ∧ w.cell? ⟨b, o + j * 6 + 5, none⟩ = some (.string (B x.letter)) :=
  ⟨rw.Rw.cell h hx (i := 0) rfl, rw.Rw.cell h hx (i := 1) rfl, rw.Rw.cell h hx (i := 2) rfl, rw.Rw.cell h hx (i := 3) rfl, rw.Rw.cell h hx (i := 4) rfl, rw.Rw.cell h hx (i := 5) rfl⟩
theorem found1_any (x : Ky) (t : ByteArray) (w : World) :
    Calls Tryz.prog 85 #[.agg #[.string (B x.name), .int .i64 x.kind, .string (B x.dflt), .int .i64 x.least, .int .i64 x.most, .string (B x.letter)], .string t] w fun e w' => e = .returned (.int .i64 (cmpL (B x.name).data.toList t.data.toList)) ∧ Below w.heap.size w w' := by
  have hb : Below w.heap.size w (w.alloc (.cells #[.string (B x.name), .int .i64 x.kind, .string (B x.dflt), .int .i64 x.least, .int .i64 x.most, .string (B x.letter)] 62)) := (Below.refl _ _).alloc (Nat.le_refl _) _
  have Hb := Lib.hid hb
  have HC := Lib.hid (Tryz.strings_Compare (B x.name) t)
  clear hb
  generalize B x.name = nm at *
  generalize B x.dflt = df at *
  generalize B x.letter = lt at *
  go_enter Tryz.func85, Tryz.ntmps85
  go_wp2_with fail
  refine (HC.out _).mono ?_
  rintro e w1 ⟨rfl, rfl⟩
  go_wp2_with fail
  go_ret
  exact ⟨by rw [cmpB_eq]; rfl, Hb.out⟩
set_option maxHeartbeats 2000000 in
set_option maxRecDepth 100000 in
theorem bsearch_any (p : Option Addr) (m c : Nat) (R : List Ky) (t : List UInt8) (hm : m ≤ 4294967295) (ha : (R.map (·.name)).Pairwise fun a b => ltL a b = true) (w : World) (h : rw.Rw kyC 6 w (.slice p m c) R) :
    Calls Tryz.prog 84 #[.slice p m c, .string (B t), .func (.func 85) #[] #[]] w fun e w' =>
      (∃ k b, e = .returned (.tuple #[.int .i64 (k : Nat), .bool b]) ∧ FoundAt (R.map (·.name)) t k b) ∧ Below w.heap.size w w' := by
  have HR := Lib.hid h
  have Hptr := Lib.hid h.ptr
  have Ha := Lib.hid ha
  have Ht := Lib.hid (show (B t).data.toList = t from by simp)
  have HC := Lib.hid fun (x : Ky) W => found1_any x (B t) W
  generalize B t = tt at *
  clear h ha
  go_enter Tryz.func84, Tryz.ntmps84
  go_wp2_with fail
  go_loopw [9, 10] (fun vi vj wr => ∃ i j : Nat, i ≤ j ∧ j ≤ m ∧ vi = .int .i64 i ∧ vj = .int .i64 j ∧ Hid (Betw (R.map (·.name)) t i j) ∧ Hid (Below w.heap.size w wr)) (fun vi vj _ => (intOf vj).toNat - (intOf vi).toNat)
  case atStart => exact ⟨0, m, by omega, by omega, rfl, rfl, Lib.hid fun k x hx => ⟨fun hk => by omega, fun hk => by
    have := lt_get hx
    rw [List.length_map, Hptr.out.1] at this
    omega⟩, Lib.hid (Below.refl _ _)⟩
  case round =>
    obtain ⟨i, j, hij, hj, rfl, rfl, HB, Hb⟩ := hrel
    have hzr := Hb.out.size
    by_cases hlt : i < j
    · have hhm : (i + j) / 2 < m := by omega
      obtain ⟨b, o, rfl, hbl⟩ := Hptr.out.2.2 (by omega)
      obtain ⟨x, hx⟩ : ∃ x, R[(i + j) / 2]? = some x := ⟨_, List.getElem?_eq_getElem (by rw [Hptr.out.1]; exact hhm)⟩
      obtain ⟨k0, k1, k2, k3, k4, k5⟩ := ky_cells (HR.out.later Hb.out) hx
      have hxi : (R.map (·.name))[(i + j) / 2]? = some x.name := by rw [List.getElem?_map, hx]; rfl
      have HCx := Lib.hid (HC.out x)
      rw [B_list] at HCx
      have hbr : b < wr.heap.size := by omega
      cases hl : ltL x.name t with
      | true =>
        have HB2 := Lib.hid (betw_up Ha.out HB.out hxi hl)
        have hc : cmpL x.name t = -1 := by unfold cmpL; rw [if_pos hl]
        rw [Ht.out, hc] at HCx
        clear hl hxi hc hx HB
        generalize B x.name = nm at *
        generalize B x.dflt = df at *
        generalize B x.letter = lt at *
        generalize x.kind = kk at *
        generalize x.least = le at *
        generalize x.most = mo at *
        go_wp2_with fail
        refine (HCx.out _).mono ?_
        rintro e w1 ⟨rfl, hb1⟩
        have Hb1 := Lib.hid (then_bel Hb.out hb1)
        clear hb1
        go_wp2_with fail
        go_roundw
        case rel => exact ⟨(i + j) / 2 + 1, j, by omega, hj, by go_num, rfl, HB2, Hb1⟩
        case measure => simp [intOf]; omega
      | false =>
        have HB2 := Lib.hid (betw_dn Ha.out HB.out hxi hl)
        have hc : ∃ z : Int, cmpL x.name t = z ∧ 0 ≤ z := by
          unfold cmpL; rw [if_neg (by rw [hl]; simp)]; split
          · exact ⟨0, rfl, by omega⟩
          · exact ⟨1, rfl, by omega⟩
        obtain ⟨z, hc, hz0⟩ := hc
        rw [Ht.out, hc] at HCx
        clear hl hxi hc hx HB
        generalize B x.name = nm at *
        generalize B x.dflt = df at *
        generalize B x.letter = lt at *
        generalize x.kind = kk at *
        generalize x.least = le at *
        generalize x.most = mo at *
        have hz1 : decide (z < 0) = false := by rw [decide_eq_false_iff_not]; omega
        have hz2 : ¬ (z < 0) := by omega
        go_wp2_with fail
        refine (HCx.out _).mono ?_
        rintro e w1 ⟨rfl, hb1⟩
        have Hb1 := Lib.hid (then_bel Hb.out hb1)
        clear hb1
        go_wp2_with fail
        go_roundw
        case rel => exact ⟨i, (i + j) / 2, by omega, by omega, rfl, by go_num, HB2, Hb1⟩
        case measure => simp [intOf]; omega
    · obtain rfl : i = j := by omega
      have hF := betw_end (by rw [List.length_map, Hptr.out.1]; exact hj) HB.out
      by_cases h5 : i < m
      · obtain ⟨b, o, rfl, hbl⟩ := Hptr.out.2.2 (by omega)
        obtain ⟨x, hx⟩ : ∃ x, R[i]? = some x := ⟨_, List.getElem?_eq_getElem (by rw [Hptr.out.1]; exact h5)⟩
        obtain ⟨k0, k1, k2, k3, k4, k5⟩ := ky_cells (HR.out.later Hb.out) hx
        have hxi : (R.map (·.name))[i]? = some x.name := by rw [List.getElem?_map, hx]; rfl
        have HCx := Lib.hid (HC.out x)
        rw [B_list] at HCx
        have hbr : b < wr.heap.size := by omega
        rw [hxi] at hF
        have hl := (HB.out i _ hxi).2 (Nat.le_refl _)
        have hc : ∃ z : Int, cmpL x.name t = z ∧ decide (z = 0) = decide (some x.name = some t) := by
          unfold cmpL; rw [if_neg (by rw [hl]; simp)]; split
          · exact ⟨0, rfl, by simp [*]⟩
          · exact ⟨1, rfl, by simp [*]⟩
        obtain ⟨z, hc, hz0⟩ := hc
        rw [Ht.out, hc] at HCx
        rw [← hz0] at hF
        have HF := Lib.hid hF
        clear hl hxi hc hx HB hF hz0
        generalize B x.name = nm at *
        generalize B x.dflt = df at *
        generalize B x.letter = lt at *
        generalize x.kind = kk at *
        generalize x.least = le at *
        generalize x.most = mo at *
        have h5' : decide ((i : Int) < (m : Int)) = true := by simp; omega
        have h5i : (i : Int) < (m : Int) := by omega
        have h50 : (0 : Int) ≤ (i : Int) := by omega
        go_wp2_with fail
        refine (HCx.out _).mono ?_
        rintro e w1 ⟨rfl, hb1⟩
        have Hb1 := Lib.hid (then_bel Hb.out hb1)
        clear hb1
        go_wp2_with fail
        go_ret2
        exact ⟨⟨_, _, rfl, HF.out⟩, Hb1.out⟩
      · obtain rfl : i = m := by omega
        have h5' : decide ((i : Int) < (i : Int)) = false := by simp
        rw [List.getElem?_eq_none (by rw [List.length_map, Hptr.out.1]; exact Nat.le_refl _)] at hF
        have HF := Lib.hid hF
        clear HB hF
        go_wp2_with fail
        go_ret2
        exact ⟨⟨_, _, rfl, HF.out⟩, Hb.out⟩
/-- A set of definitions at block b: they ascend, and lie in a block of their own. -/
structure SetK (M : Nat) (w : World) (b : Nat) (S : List Ky) : Prop where
  lo : M ≤ b
  len : S.length ≤ 64
  asc : AscK S
  ok : ∀ x ∈ S, KyOk x
  blk : ∃ v, w.heap[b]? = some (.cells #[v] 85 (0, 0)) ∧ Blk 62 6 M w v S.length (rw.flat kyC S)
theorem SetK.later {M : Nat} {w w' : World} {b : Nat} {S : List Ky} (h : SetK M w b S) (hb : Below w.heap.size w w') : SetK M w' b S := by
  obtain ⟨h1, h2, h3, h4, v, hv, hB⟩ := h
  exact ⟨h1, h2, h3, h4, v, (hb.block b (lt_of_block hv)).trans hv, hB.later hb⟩
theorem SetK.lt {M : Nat} {w : World} {b : Nat} {S : List Ky} (h : SetK M w b S) : b < w.heap.size := by
  obtain ⟨_, _, _, _, v, hv, _⟩ := h
  exact lt_of_block hv
set_option maxHeartbeats 4000000 in
set_option maxRecDepth 100000 in
theorem found_any (M b : Nat) (S : List Ky) (t : List UInt8) (w : World) (hS : SetK M w b S) :
    Calls Tryz.prog 63 #[.pointer (some ⟨b, 0, none⟩), .string (B t)] w fun e w' => (∃ k is, e = .returned (.tuple #[.int .i64 (k : Nat), .bool is]) ∧ FoundAt (S.map (·.name)) t k is) ∧ Below w.heap.size w w' := by
  obtain ⟨_, hlen, hasc, _, v, hb, hB⟩ := hS
  obtain ⟨p, c, rfl⟩ := hB.form
  have c0 : w.cell? ⟨b, 0, none⟩ = some (.slice p S.length c) := cell_in hb
  have HS := Lib.hid (bsearch_any p S.length c S t (by omega) hasc w (blk_rw hB))
  clear hb hlen hB
  generalize S.length = n at *
  generalize B t = tt at *
  go_enter Tryz.func63, Tryz.ntmps63
  go_wp2_with fail
  refine HS.out.mono ?_
  rintro e w1 ⟨⟨k, is, rfl, hF⟩, hb1⟩
  have HF := Lib.hid hF
  have Hb1 := Lib.hid hb1
  clear hF hb1
  go_wp2_with fail
  go_ret2
  exact ⟨⟨_, _, rfl, HF.out⟩, Hb1.out⟩
end Go.Proofs.YtpfhhaonfbfheaaGreatDoor.ky
