/- value.names, and Print at numbers with units, return plain functions. Conditions: the listed variables hold what the program's text lays; the value's words lie in memory; it is no greater than 2147483647 bytes and words. -/
import Derived.Test.YtkbamhecbfocbaaGreatDoorVaL
import Derived.Deep.RegionHeld3
import Derived.Laws.Concat
namespace Go.Proofs.YtkbamhecbfocbaaGreatDoor.va
open Go.ChangeShapes Go.WideShapes Go.ChangeAt Go.RowKit gl

abbrev nm (k : Int) (i : Nat) : ByteArray := B (uname k i)
theorem names_3 (w : World) : Calls Tryz.prog 40 #[.int .i64 3] w fun e w' => e = .returned (.agg #[.string (nm 3 0), .string (nm 3 1), .string (nm 3 2), .string (nm 3 3)]) ∧ Below w.heap.size w w' := by
  go_enter Tryz.func40, Tryz.ntmps40
  go_wp2
  go_returns
  exact ⟨rfl, by go_grown⟩
theorem names_4 (w : World) : Calls Tryz.prog 40 #[.int .i64 4] w fun e w' => e = .returned (.agg #[.string (nm 4 0), .string (nm 4 1), .string (nm 4 2), .string (nm 4 3)]) ∧ Below w.heap.size w w' := by
  go_enter Tryz.func40, Tryz.ntmps40
  go_wp2
  go_returns
  exact ⟨rfl, by go_grown⟩
theorem names_u (k : Int) (hk : k = 3 ∨ k = 4) (w : World) : Calls Tryz.prog 40 #[.int .i64 k] w fun e w' => e = .returned (.agg #[.string (nm k 0), .string (nm k 1), .string (nm k 2), .string (nm k 3)]) ∧ Below w.heap.size w w' := by
  rcases hk with rfl | rfl
  · exact names_3 w
  · exact names_4 w
theorem ix0 (a b c d : Value) (w : World) : (Instr.index 55 (.agg #[a, b, c, d]) (.int .i64 0)).run Tryz.prog w = (Instr.index 55 (.agg #[a, b, c, d]) (.int .i64 0)).run Tryz.prog w := rfl
theorem ixs (a b c d : ByteArray) (w : World) : (Instr.index 55 (.agg #[.string a, .string b, .string c, .string d]) (.int .i64 0)).run Tryz.prog w = .ok (.string a) w ∧ (Instr.index 55 (.agg #[.string a, .string b, .string c, .string d]) (.int .i64 1)).run Tryz.prog w = .ok (.string b) w ∧
    (Instr.index 55 (.agg #[.string a, .string b, .string c, .string d]) (.int .i64 2)).run Tryz.prog w = .ok (.string c) w ∧ (Instr.index 55 (.agg #[.string a, .string b, .string c, .string d]) (.int .i64 3)).run Tryz.prog w = .ok (.string d) w :=
  ⟨by kernel_rfl, by kernel_rfl, by kernel_rfl, by kernel_rfl⟩

/-- The greatest of the first units of which a number is a multiple. -/
def bt (k n : Int) : Nat → Nat
  | 0 => 0
  | i + 1 => if n ≠ 0 ∧ n % unit k (uname k i) = 0 then i else bt k n i
theorem bt_le (k n : Int) (i : Nat) : bt k n i ≤ i := by
  induction i with
  | zero => exact Nat.le_refl _
  | succ i ih => unfold bt; split <;> omega
theorem bt_best (k n : Int) : bt k n 4 = best k n := by
  unfold best
  by_cases h : n = 0
  · simp [bt, h]
  · rw [if_neg h]
    simp only [bt, h, ne_eq, not_false_eq_true, true_and]
    repeat' split
    all_goals rfl
theorem decDigits_len (u : Nat) : (Lib.decDigits u).length ≤ u + 1 := by
  induction u using Nat.strongRecOn with
  | _ u ih =>
    by_cases h : u < 10
    · rw [decDigits_lt h]; simp
    · rw [decDigits_ge h]
      have := ih (u / 10) (by omega)
      simp
      omega
theorem uname_len (k : Int) (i : Nat) : (uname k i).length ≤ 1 := by
  unfold uname
  repeat' split
  all_goals simp
theorem formatBool_eq (b : Bool) : (⟨(Lib.formatBool b).toArray⟩ : ByteArray) = B (if b then [116, 114, 117, 101] else [102, 97, 108, 115, 101]) := by cases b <;> decide +kernel

/-- What the loop over the units' names keeps. -/
def S16 (w0 : World) (b : Nat) (k n : Int) (w' : World) : Prop := w'.cell? ⟨b, 0, none⟩ = some (.int .i64 k) ∧ w'.cell? ⟨b, 1, none⟩ = some (.int .i64 n) ∧ Hid (Below w0.heap.size w0 w')
theorem s16_drew {w0 wp : World} {b : Nat} {k n : Int} (h : wp.cell? ⟨b, 0, none⟩ = some (.int .i64 k) ∧ wp.cell? ⟨b, 1, none⟩ = some (.int .i64 n) ∧ Hid (Below w0.heap.size w0 wp)) :
    wp.drew.cell? ⟨b, 0, none⟩ = some (.int .i64 k) ∧ wp.drew.cell? ⟨b, 1, none⟩ = some (.int .i64 n) ∧ Hid (Below w0.heap.size w0 wp.drew) := ⟨h.1, h.2.1, Lib.hid h.2.2.out.drew⟩
theorem s16_call {w0 wp w' : World} {b : Nat} {k n : Int} (h : wp.cell? ⟨b, 0, none⟩ = some (.int .i64 k) ∧ wp.cell? ⟨b, 1, none⟩ = some (.int .i64 n) ∧ Hid (Below w0.heap.size w0 wp)) (hb : Below wp.heap.size wp w') :
    w'.cell? ⟨b, 0, none⟩ = some (.int .i64 k) ∧ w'.cell? ⟨b, 1, none⟩ = some (.int .i64 n) ∧ Hid (Below w0.heap.size w0 w') :=
  have hlt := World.block_lt_of_cell? _ _ h.1
  ⟨(hb.cell (p := ⟨b, 0, none⟩) hlt).trans h.1, (hb.cell (p := ⟨b, 1, none⟩) hlt).trans h.2.1, Lib.hid (h.2.2.out.trans (hb.mono h.2.2.out.size))⟩
theorem s16_vlo {w0 wp : World} {b : Nat} {k n : Int} (hV : Vlo w0) (h : wp.cell? ⟨b, 0, none⟩ = some (.int .i64 k) ∧ wp.cell? ⟨b, 1, none⟩ = some (.int .i64 n) ∧ Hid (Below w0.heap.size w0 wp)) : Vlo wp := hV.below h.2.2.out (Nat.le_refl _)

theorem Itoa_any (n : Int) (h0 : -9223372036854775808 ≤ n) (h1 : n ≤ 9223372036854775807) (w : World) (hV : Vlo w) :
    Calls Tryz.prog 39 #[.int .i64 n] w fun e w' => e = .returned (.string (B (Lib.itoa n))) ∧ Below w.heap.size w w' :=
  (Tryz.strconv_Itoa n h0 h1 w hV.pow).mono fun _ _ ⟨he, k, os, hw⟩ => ⟨he, hw ▸ Lib.below_grow _ w (Nat.le_refl _) k os⟩

set_option maxHeartbeats 2000000 in
set_option maxRecDepth 100000 in
theorem printU_any (k n : Int) (hk : k = 3 ∨ k = 4) (hn0 : 0 ≤ n) (hn1 : n ≤ 1125899906842624) (t : ByteArray) (p : Option Addr) (m c : Nat) (w : World) (hV : Vlo w)
    (hR : ∀ W, Below w.heap.size w W → Calls Tryz.prog 16 #[.agg #[.int .i64 k, .int .i64 n, .string t, .slice p m c]] W fun e w' => e = .returned (.bool true) ∧ Below W.heap.size W w') :
    Calls Tryz.prog 17 #[.agg #[.int .i64 k, .int .i64 n, .string t, .slice p m c]] w fun e w' => e = .returned (.tuple #[.string (B (Lib.itoa (n / unit k (uname k (best k n))) ++ uname k (best k n))), .int .i64 0]) ∧ Below w.heap.size w w' := by
  obtain ⟨X, hX⟩ : ∃ X, B (Lib.itoa (n / unit k (uname k (best k n))) ++ uname k (best k n)) = X := ⟨_, rfl⟩
  rw [hX]
  have HXX := Lib.hid hX
  clear hX
  have HV := Lib.hid hV
  have HR := Lib.hid hR
  have Hk := Lib.hid hk
  have hq1 : (k == 1) = false := by simp; omega
  have hq2 : (k == 2) = false := by simp; omega
  have hq5 : (k == 5) = false := by simp; omega
  have hq6 : (k == 6) = false := by simp; omega
  have HX := Lib.hid (fun w => ixs (nm k 0) (nm k 1) (nm k 2) (nm k 3) w)
  clear hV hR hk
  have hx0 := fun w => (HX.out w).1
  go_enter Tryz.func17, Tryz.ntmps17
  go_wp2_with fail
  refine (HR.out _ ((Below.refl _ w).alloc (Nat.le_refl _) _)).mono ?_
  rintro e w1 ⟨rfl, hb⟩
  obtain ⟨⟨b0, b1, b2, b3⟩, _⟩ := res_cells hb
  have Hb1 := Lib.hid (((Below.refl _ w).alloc (Nat.le_refl _) _).trans (hb.mono (by simp)))
  have hlt1 : w.heap.size < w1.heap.size := World.block_lt_of_cell? _ _ b0
  clear hb
  go_wp2_with fail
  refine (names_u k Hk.out w1).mono ?_
  rintro e w2 ⟨rfl, hb⟩
  have c0 := (hb.cell (p := ⟨w.heap.size, 0, none⟩) hlt1).trans b0
  have c1 := (hb.cell (p := ⟨w.heap.size, 1, none⟩) hlt1).trans b1
  have Hb2 := Lib.hid (Hb1.out.trans (hb.mono Hb1.out.size))
  have hlt2 : w.heap.size < w2.heap.size := World.block_lt_of_cell? _ _ c0
  clear hb b0 b1 b2 b3
  go_wp2_with fail
  refine (names_u k Hk.out w2).mono ?_
  rintro e w3 ⟨rfl, hb⟩
  have d0 := (hb.cell (p := ⟨w.heap.size, 0, none⟩) hlt2).trans c0
  have d1 := (hb.cell (p := ⟨w.heap.size, 1, none⟩) hlt2).trans c1
  have Hb3 := Lib.hid (Hb2.out.trans (hb.mono Hb2.out.size))
  have HV3 := Lib.hid (HV.out.below Hb3.out (Nat.le_refl _))
  have Hd := Lib.hid (And.intro d0 d1)
  have hlt3 : w.heap.size < w3.heap.size := World.block_lt_of_cell? _ _ d0
  clear hb c0 c1 hx0 d0 d1
  go_wp2_with fail
  go_loopw [4, 39] (fun nme i wr => ∃ j : Nat, j ≤ 4 ∧ i = .int .i64 j ∧ nme = .string (nm k (bt k n j)) ∧ wr.cell? ⟨w.heap.size, 0, none⟩ = some (.int .i64 k) ∧ wr.cell? ⟨w.heap.size, 1, none⟩ = some (.int .i64 n) ∧ Below w3.heap.size w3 wr) (fun _ i _ => 4 - (intOf i).toNat)
  case atStart => exact ⟨0, by omega, rfl, rfl, Hd.out.1, Hd.out.2, Below.refl _ _⟩
  case round =>
    obtain ⟨j, hj, rfl, rfl, r0, r1, hb⟩ := hrel
    have Hb := Lib.hid hb
    have hltr := World.block_lt_of_cell? _ _ r0
    clear hb
    by_cases hlt : j < 4
    · have HB : Hid (∀ i, bt k n (i + 1) = if n ≠ 0 ∧ n % unit k (uname k i) = 0 then i else bt k n i) := Lib.hid fun _ => rfl
      have hu := unit_uname k j Hk.out (by omega)
      have hub := (unit_nonneg k (uname k j)).2
      have hix : ∀ wx : World, (Instr.index 55 (.agg #[.string (nm k 0), .string (nm k 1), .string (nm k 2), .string (nm k 3)]) (.int .i64 (j : Int))).run Tryz.prog wx = .ok (.string (nm k j)) wx := by
        intro wx
        rcases (show j = 0 ∨ j = 1 ∨ j = 2 ∨ j = 3 by omega) with rfl | rfl | rfl | rfl
        · exact (HX.out wx).1
        · exact (HX.out wx).2.1
        · exact (HX.out wx).2.2.1
        · exact (HX.out wx).2.2.2
      have HU : Hid (∀ W, Vlo W → Calls Tryz.prog 10 #[.int .i64 k, .string (nm k j)] W fun e w' => e = .returned (.int .i64 (unit k (uname k j))) ∧ Below W.heap.size W w') := Lib.hid fun W hW => (Unit_any k (nm k j) W hW.units).mono fun e w' ⟨he, hb⟩ => ⟨by rw [he], hb⟩
      have HBj := Lib.hid (HB.out j)
      clear HB
      generalize bt k n j = cur at *
      generalize nm k 0 = s0 at *
      generalize nm k 1 = s1 at *
      generalize nm k 2 = s2 at *
      generalize nm k 3 = s3 at *
      generalize hnj : nm k j = sj at *
      generalize unit k (uname k j) = u at *
      by_cases hz : n = 0
      · have Hz := Lib.hid hz
        subst hz
        go_wp2_with fail
        go_quiet (fail)
        go_wp2_with fail
        go_roundw
        case rel => exact ⟨j + 1, by omega, by go_num, by rw [HBj.out, if_neg (by simp)], r0, r1, bel_drewN Hb.out _⟩
        case measure => simp [intOf]; omega
      · have hz' : (n != 0) = true := by simp [hz]
        have hu0 : ¬ u = 0 := by omega
        have htm : n.tmod u = n % u := Int.tmod_eq_emod_of_nonneg hn0
        have hr0 := Int.emod_nonneg n hu0
        have hru := Int.emod_lt_of_pos n (show 0 < u by omega)
        have Hif : Hid (∀ r, n % u = r → bt k n (j + 1) = if r = 0 then j else cur) := Lib.hid (by
          rintro r rfl
          rw [HBj.out]
          by_cases h : n % u = 0
          · rw [if_pos ⟨hz, h⟩, if_pos h]
          · rw [if_neg (fun e => h e.2), if_neg h])
        generalize hrr : n % u = r at *
        have Hif2 := Lib.hid (Hif.out r rfl)
        clear Hif HBj hrr
        by_cases hr : r = 0
        · have Hn : Hid (bt k n (j + 1) = j) := Lib.hid (by rw [Hif2.out, if_pos hr])
          have hr' : (r == 0) = true := by simp [hr]
          clear hr
          go_wp2_with fail
          have hSt : wr.cell? ⟨w.heap.size, 0, none⟩ = some (.int .i64 k) ∧ wr.cell? ⟨w.heap.size, 1, none⟩ = some (.int .i64 n) ∧ Hid (Below w3.heap.size w3 wr) := ⟨r0, r1, Hb⟩
          go_region_held3 (fun w' => w'.cell? ⟨w.heap.size, 0, none⟩ = some (.int .i64 k) ∧ w'.cell? ⟨w.heap.size, 1, none⟩ = some (.int .i64 n) ∧ Hid (Below w3.heap.size w3 w'))
            (first | assumption | exact s16_drew (by assumption))
            (first | (go_at_call 10; refine (HU.out _ (s16_vlo HV3.out (by assumption))).mono ?_; rintro e w' ⟨rfl, hb⟩; have hS' := s16_call (by assumption) hb; clear hb))
          all_goals
            rename_i hH
            obtain ⟨e0, e1, hbH⟩ := hH
            clear r0 r1 hSt
            go_wp2_with fail
            go_roundw
            case rel => exact ⟨j + 1, by omega, by go_num, by rw [Hn.out, hnj], e0, e1, hbH.out⟩
            case measure => simp [intOf]; omega
        · have Hn : Hid (bt k n (j + 1) = cur) := Lib.hid (by rw [Hif2.out, if_neg hr])
          have hr' : (r == 0) = false := by simp [hr]
          clear hr
          go_wp2_with fail
          have hSt : wr.cell? ⟨w.heap.size, 0, none⟩ = some (.int .i64 k) ∧ wr.cell? ⟨w.heap.size, 1, none⟩ = some (.int .i64 n) ∧ Hid (Below w3.heap.size w3 wr) := ⟨r0, r1, Hb⟩
          go_region_held3 (fun w' => w'.cell? ⟨w.heap.size, 0, none⟩ = some (.int .i64 k) ∧ w'.cell? ⟨w.heap.size, 1, none⟩ = some (.int .i64 n) ∧ Hid (Below w3.heap.size w3 w'))
            (first | assumption | exact s16_drew (by assumption))
            (first | (go_at_call 10; refine (HU.out _ (s16_vlo HV3.out (by assumption))).mono ?_; rintro e w' ⟨rfl, hb⟩; have hS' := s16_call (by assumption) hb; clear hb))
          all_goals
            rename_i hH
            obtain ⟨e0, e1, hbH⟩ := hH
            clear r0 r1 hSt
            go_wp2_with fail
            go_roundw
            case rel => exact ⟨j + 1, by omega, by go_num, by rw [Hn.out], e0, e1, hbH.out⟩
            case measure => simp [intOf]; omega
    · obtain rfl : j = 4 := by omega
      have hbest := bt_best k n
      rw [hbest]
      have hu := unit_uname k (best k n) Hk.out (best_le k n)
      have hub := (unit_nonneg k (uname k (best k n))).2
      have hnl := uname_len k (best k n)
      have HU : Hid (∀ W, Vlo W → Calls Tryz.prog 10 #[.int .i64 k, .string (nm k (best k n))] W fun e w' => e = .returned (.int .i64 (unit k (uname k (best k n)))) ∧ Below W.heap.size W w') := Lib.hid fun W hW => (Unit_any k (nm k (best k n)) W hW.units).mono fun e w' ⟨he, hb⟩ => ⟨by rw [he], hb⟩
      have HO : Hid (B (Lib.itoa (n / unit k (uname k (best k n)))) ++ nm k (best k n) = X) := Lib.hid ((show _ = B (Lib.itoa (n / unit k (uname k (best k n))) ++ uname k (best k n)) from ba_eq (by simp)).trans HXX.out)
      clear HXX
      have hnsz : (nm k (best k n)).size ≤ 1 := by show (uname k (best k n)).toArray.size ≤ 1; simpa using hnl
      generalize unit k (uname k (best k n)) = u at *
      generalize hname : nm k (best k n) = nmv at *
      have hu0 : ¬ u = 0 := by omega
      have htd : n.tdiv u = n / u := tdiv_ediv hn0
      have hq0 : 0 ≤ n / u := Int.ediv_nonneg hn0 (by omega)
      have hqn : n / u ≤ n := by
        have h1 := Int.mul_le_mul_of_nonneg_left (show (1 : Int) ≤ u by omega) hq0
        have h2 := Int.ediv_mul_le n (b := u) hu0
        omega
      generalize n / u = q at *
      have hwq : IntKind.i64.wrap q = q := by rw [IntKind.wrap_i64]; omega
      have HI := Lib.hid (fun (W : World) (hW : Vlo W) => Itoa_any q (by omega) (by omega) W hW)
      have hIs : (B (Lib.itoa q)).size ≤ 2251799813685248 := by
        have := decDigits_len q.toNat
        rw [itoa_pos (by omega)]
        show (Lib.decDigits q.toNat).toArray.size ≤ _
        simp
        omega
      generalize B (Lib.itoa q) = I at *
      have hadd : ∀ wx : World, (Op.stringOp .add I nmv).run Tryz.prog wx = .ok (.string (I ++ nmv)) wx := fun wx => run_string_add_sum wx I nmv (by omega)
      rw [show ((4 : Nat) : Int) = 4 from rfl]
      go_wp2_with fail
      have hSt : wr.cell? ⟨w.heap.size, 0, none⟩ = some (.int .i64 k) ∧ wr.cell? ⟨w.heap.size, 1, none⟩ = some (.int .i64 n) ∧ Hid (Below w3.heap.size w3 wr) := ⟨r0, r1, Hb⟩
      go_region_held3 (fun w' => w'.cell? ⟨w.heap.size, 0, none⟩ = some (.int .i64 k) ∧ w'.cell? ⟨w.heap.size, 1, none⟩ = some (.int .i64 n) ∧ Hid (Below w3.heap.size w3 w'))
        (first | assumption | exact s16_drew (by assumption))
        (first
          | (go_at_call 10; refine (HU.out _ (s16_vlo HV3.out (by assumption))).mono ?_; rintro e w' ⟨rfl, hb⟩; have hS' := s16_call (by assumption) hb; clear hb)
          | (go_at_call 39; refine (HI.out _ (s16_vlo HV3.out (by assumption))).mono ?_; rintro e w' ⟨rfl, hb⟩; have hS' := s16_call (by assumption) hb; clear hb))
      all_goals
        rename_i hH
        obtain ⟨e0, e1, hbH⟩ := hH
        go_wp2_with fail
        go_ret2
        exact ⟨by rw [← HO.out]; rfl, Hb3.out.trans (hbH.out.mono Hb3.out.size)⟩

end Go.Proofs.YtkbamhecbfocbaaGreatDoor.va
