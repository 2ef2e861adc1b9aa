/- tinderboxlaw05.alike tells that a set and the document's that have the same answer the same. Conditions: both lie in memory as one list that ascends. -/
import Derived.Test.YtpfhhaonfbfheaaGreatDoorKyS
namespace Go.Proofs.YtpfhhaonfbfheaaGreatDoor.ky
open Go.ChangeShapes Go.WideShapes Go.ChangeAt Go.RowKit gl va ls

theorem go_name2 {K : Act → World → Prop} {a : Act} {W : World} (h : ∀ W', W' = W → K a W') : K a W := h W rfl
set_option maxHeartbeats 8000000 in
set_option maxRecDepth 100000 in
/-- A set and the document's that have the same, one behind the other. -/
theorem alike_any (M b b' : Nat) (L : List Ky) (p : Option Addr) (c : Nat) (more : List UInt8) (hl0 : 1 ≤ L.length) (w : World) (hS : SetK M w b L) (hR : RefK w b' L) (hL : Kys w (.slice p L.length c) L) :
    Calls Tryz.prog 10 #[.pointer (some ⟨b, 0, none⟩), .pointer (some ⟨b', 0, none⟩), .slice p L.length c, .string (B more)] w fun e w' => e = .returned (.bool true) ∧ Below w.heap.size w w' := by
  obtain ⟨i0, si, sz0, sz1, sz2⟩ := info_parts infoK
  have HS := Lib.hid hS
  have HR := Lib.hid hR
  have HL := Lib.hid hL
  have hlen := hS.len
  have HA := Lib.hid fun W (h : Below w.heap.size w W) => All_any M b L W (hS.later h)
  have HRA := Lib.hid fun W (h : Below w.heap.size w W) => refAll_any b' L W (hR.later h) (by omega) hl0 hS.asc
  have HF : Hid (∀ W, Below w.heap.size w W → ∀ t : List UInt8, Calls Tryz.prog 40 #[.pointer (some ⟨b, 0, none⟩), .string (B t)] W fun e w' => e = .returned (foundV (findK L t)) ∧ Below W.heap.size W w') := Lib.hid fun W h t => Find_any M b L t W (hS.later h)
  have HRF : Hid (∀ W, Below w.heap.size w W → ∀ t : List UInt8, Calls Tryz.prog 41 #[.pointer (some ⟨b', 0, none⟩), .string (B t)] W fun e w' => e = .returned (foundV (findK L t)) ∧ Below W.heap.size W w') := Lib.hid fun W h t => refFind_any b' L t W (hR.later h) (by omega)
  have HE : Hid (∀ W, Below w.heap.size w W → ∀ t : List UInt8, Calls Tryz.prog 42 #[.pointer (some ⟨b, 0, none⟩), .string (B t)] W fun e w' => e = .returned (foundV (lettK L t)) ∧ Below W.heap.size W w') := Lib.hid fun W h t => Letter_any M b L t W (hS.later h)
  have HRE : Hid (∀ W, Below w.heap.size w W → ∀ t : List UInt8, Calls Tryz.prog 43 #[.pointer (some ⟨b', 0, none⟩), .string (B t)] W fun e w' => e = .returned (foundV (lettK L t)) ∧ Below W.heap.size W w') := Lib.hid fun W h t => refLetter_any b' L t W (hR.later h) (by omega)
  have H1 := Lib.hid (rw.flat_one kyC_one L)
  have Hfl := Lib.hid (rw.flat_len kyC_len L)
  have hneq := neq_ky_same
  obtain ⟨more', hm⟩ : ∃ more', more' = B more := ⟨_, rfl⟩
  have Hm := Lib.hid hm
  rw [← hm]
  clear hS hR hL hm
  go_enter Tryz.func10, Tryz.ntmps10
  go_wp2_with fail
  refine (HA.out _ (Below.refl _ _)).mono ?_
  rintro e w1 ⟨⟨p1, rfl, hn1⟩, hb1⟩
  have HK1 := Lib.hid (hn1.rw kyC_len)
  have Hb1 := Lib.hid hb1
  clear hn1 hb1
  go_wp2_with fail
  refine (HRA.out _ Hb1.out).mono ?_
  rintro e w2 ⟨⟨p2, c2, rfl, hk2⟩, hb2⟩
  have HK12 := Lib.hid (HK1.out.later hb2)
  have HK2 := Lib.hid hk2
  have Hb2 := Lib.hid (then_bel Hb1.out hb2)
  clear hk2 hb2
  go_wp2_with fail
  refine (same_any p1 p2 L.length L.length c2 L (by omega) w2 HK12.out HK2.out).mono ?_
  rintro e w3 ⟨rfl, hb3⟩
  have Hb3 := Lib.hid (then_bel Hb2.out hb3)
  have hz3 : w.heap.size ≤ w3.heap.size := Hb3.out.size
  clear hb3 HK12 HK2 HK1
  have Hsrc := Lib.hid (src_of (HL.out.later Hb3.out))
  focus
    go_wp2_with (at_builtin; go_must (refine wpList_append_any rfl _ _ 27 rfl 62 i0 _ 6 72 Tryz.underlying27 si sz0 sz1 sz2 rfl (by decide) w3.heap.size (.slice none 0 0) 0 [] (by rfl) ⟨rfl, .inl ⟨rfl, rfl⟩⟩ _ L.length _ (by rfl) Hsrc.out Hfl.out H1.out (by omega) (by omega) (Nat.le_refl _) ?_))
  intro p4 cap4 w4 hown4 hgrow4
  have HO4 : Hid (w4.ownsRow w3.heap.size 62 6 (.slice p4 L.length cap4) L.length (rw.flat kyC L)) := Lib.hid (by
    have h := hown4
    first | exact h | (rw [Nat.zero_add, List.nil_append] at h; exact h))
  have Hb4 : Hid (Below w3.heap.size w3 w4) := Lib.hid ⟨hgrow4.os, hgrow4.tape, hgrow4.output, hgrow4.size, fun k hk => hgrow4.block k hk (by simp [Value.ownBlock])⟩
  try rw [Nat.zero_add]
  clear hown4 hgrow4 Hsrc
  obtain ⟨l3, hl3⟩ : ∃ l3 : List Ky, l3 = [⟨more, 0, [], 0, 0, more⟩, ⟨[110, 101, 116, 46, 112, 111, 114, 116], 0, [], 0, 0, [112]⟩, zK] := ⟨_, rfl⟩
  have Hl3 := Lib.hid hl3
  obtain ⟨w5, hw5⟩ : ∃ w5, w5 = w4.alloc (.cells #[.string more', .int .i64 0, .string ⟨#[]⟩, .int .i64 0, .int .i64 0, .string more', .string ⟨#[110, 101, 116, 46, 112, 111, 114, 116]⟩, .int .i64 0, .string ⟨#[]⟩, .int .i64 0, .int .i64 0, .string ⟨#[112]⟩, .string ⟨#[]⟩, .int .i64 0, .string ⟨#[]⟩, .int .i64 0, .int .i64 0, .string ⟨#[]⟩] 62) := ⟨_, rfl⟩
  have hb45 : Below w4.heap.size w4 w5 := by rw [hw5]; exact (Below.refl _ _).alloc (Nat.le_refl _) _
  have HK5 : Hid (Kys w5 (.slice (some ⟨w4.heap.size, 0, none⟩) 3 3) l3) := Lib.hid (by
    have h := heap_alloc_new w4 (.cells #[.string more', .int .i64 0, .string ⟨#[]⟩, .int .i64 0, .int .i64 0, .string more', .string ⟨#[110, 101, 116, 46, 112, 111, 114, 116]⟩, .int .i64 0, .string ⟨#[]⟩, .int .i64 0, .int .i64 0, .string ⟨#[112]⟩, .string ⟨#[]⟩, .int .i64 0, .string ⟨#[]⟩, .int .i64 0, .int .i64 0, .string ⟨#[]⟩] 62)
    rw [← hw5] at h
    rw [hl3]
    exact kys_lit (l := [⟨more, 0, [], 0, 0, more⟩, ⟨[110, 101, 116, 46, 112, 111, 114, 116], 0, [], 0, 0, [112]⟩, zK]) h (by rw [Hm.out]; rfl))
  have HO5 := Lib.hid (own_kept HO4.out hb45)
  have Hb5 := Lib.hid (then_bel Hb4.out hb45)
  have hz5 : w3.heap.size ≤ w5.heap.size := Hb5.out.size
  have Hsrc5 := Lib.hid (src_of HK5.out)
  have H15 := Lib.hid (rw.flat_one kyC_one l3)
  have Hfl5 : Hid ((rw.flat kyC l3).length = 3 * 6) := Lib.hid (by rw [hl3]; rfl)
  clear hb45 hl3
  subst hw5
  focus
    go_wp2_with (at_builtin; go_must (refine wpList_append_any rfl _ _ 27 rfl 62 i0 _ 6 72 Tryz.underlying27 si sz0 sz1 sz2 rfl (by decide) w3.heap.size _ L.length _ (by rfl) HO5.out _ 3 _ (by rfl) Hsrc5.out Hfl5.out H15.out (by omega) (by omega) hz5 ?_))
  intro p6 cap6 w6 hown6 hgrow6
  have Hb6 : Hid (Below w3.heap.size w3 w6) := Lib.hid (below_grown_own Hb5.out HO5.out hgrow6 hz5)
  rw [← rw.flat_append] at hown6
  have hK6 : Kys w6 (.slice p6 (L.length + 3) cap6) (L ++ l3) := rw.own_rw kyC_len (by decide) hown6
  obtain ⟨N, hN⟩ : ∃ N, N = L.length + 3 := ⟨_, rfl⟩
  rw [← hN] at hK6
  rw [← hN]
  have hNb : N ≤ 100 := by omega
  obtain ⟨bp, op, rfl, hbp⟩ := hK6.ptr.2.2 (by omega)
  have hNc := hK6.ptr.2.1
  have HN := Lib.hid hK6.ptr.1
  have HK6 := Lib.hid hK6
  have Hw6 := Lib.hid (then_bel Hb3.out Hb6.out)
  clear hown6 hgrow6 hK6 hN HO5 HO4 Hsrc5 H15 Hfl5 HK5 Hb5 Hb4
  generalize L ++ l3 = l4 at *
  go_wp2_with fail
  go_loopw [11] (fun i wr => ∃ j : Nat, j ≤ N ∧ i = .int .i64 j ∧ Hid (Below w6.heap.size w6 wr)) (fun i _ => N - (intOf i).toNat)
  case atStart => exact ⟨0, by omega, rfl, Lib.hid (Below.refl _ _)⟩
  case round =>
    obtain ⟨wo, rfl⟩ : ∃ wo, wo = wr := ⟨_, rfl⟩
    obtain ⟨j, hj, rfl, Hb⟩ := hrel
    by_cases hlt : j < N
    · obtain ⟨x, hx⟩ : ∃ x, l4[j]? = some x := ⟨_, List.getElem?_eq_getElem (by rw [HN.out]; exact hlt)⟩
      have HC : Hid (∀ W, Below w6.heap.size w6 W → W.cell? ⟨bp, op + j * 6, none⟩ = some (.string (B x.name)) ∧ W.cell? ⟨bp, op + j * 6 + 5, none⟩ = some (.string (B x.letter)) ∧ bp < W.heap.size) := Lib.hid fun W hW => by
        obtain ⟨d0, _, _, _, _, d5⟩ := ky_cells (HK6.out.later hW) hx
        exact ⟨d0, d5, by have := hW.size; omega⟩
      have HF1 := Lib.hid fun W h => HF.out W h x.name
      have HF2 := Lib.hid fun W h => HRF.out W h x.name
      have HE1 := Lib.hid fun W h => HE.out W h x.letter
      have HE2 := Lib.hid fun W h => HRE.out W h x.letter
      rw [foundV_form] at HF1 HF2 HE1 HE2
      generalize (findK L x.name).getD zK = y1 at *
      generalize (findK L x.name).isSome = b1 at *
      generalize (lettK L x.letter).getD zK = y2 at *
      generalize (lettK L x.letter).isSome = b2 at *
      generalize B x.name = nm at *
      generalize B x.letter = lt at *
      generalize B y1.name = n1 at *
      generalize B y1.dflt = f1 at *
      generalize B y1.letter = l1 at *
      generalize y1.kind = kk1 at *
      generalize y1.least = le1 at *
      generalize y1.most = mo1 at *
      generalize B y2.name = n2 at *
      generalize B y2.dflt = f2 at *
      generalize B y2.letter = l2 at *
      generalize y2.kind = kk2 at *
      generalize y2.least = le2 at *
      generalize y2.most = mo2 at *
      have hji : (j : Int) < (N : Int) := by omega
      have hj0 : (0 : Int) ≤ (j : Int) := by omega
      clear hx
      have HbA := Hb
      have m1 := (HC.out _ HbA.out).1
      have s1 := (HC.out _ HbA.out).2.2
      go_wp2_with fail
      refine (HF1.out _ (then_bel Hw6.out HbA.out)).mono ?_
      rintro e x1 ⟨rfl, hx1⟩
      have Hx1 := Lib.hid (then_bel HbA.out hx1)
      clear m1 s1

      clear hx1
      go_upto_region 10 with fail
      refine go_name2 (fun z1 hz1 => ?_)
      have kz1 : z1.heap[x1.heap.size]? = some (.cells #[.string n1, .int .i64 kk1, .string f1, .int .i64 le1, .int .i64 mo1, .string l1] 62 (0, 0)) := by rw [hz1]; exact heap_alloc_new x1 _
      have bz1 : Below x1.heap.size x1 z1 := by
        rw [hz1]
        exact (Below.refl _ _).alloc (Nat.le_refl _) _
      have HbB := Lib.hid (then_bel Hx1.out bz1)

      have HKz1 := Lib.hid kz1
      clear hz1 kz1 bz1

      have m2 := (HC.out _ HbB.out).1
      have s2 := (HC.out _ HbB.out).2.2
      go_wp2_with fail
      refine (HF2.out _ (then_bel Hw6.out HbB.out)).mono ?_
      rintro e x2 ⟨rfl, hx2⟩
      have Hx2 := Lib.hid (then_bel HbB.out hx2)
      clear m2 s2
      have HKx12 := Lib.hid ((hx2.block _ (lt_of_block HKz1.out)).trans HKz1.out)
      clear hx2
      go_upto_region 11 with fail
      refine go_name2 (fun z2 hz2 => ?_)
      have kz2 : z2.heap[x2.heap.size]? = some (.cells #[.string n1, .int .i64 kk1, .string f1, .int .i64 le1, .int .i64 mo1, .string l1] 62 (0, 0)) := by rw [hz2]; exact heap_alloc_new x2 _
      have bz2 : Below x2.heap.size x2 z2 := by
        rw [hz2]
        exact (Below.refl _ _).alloc (Nat.le_refl _) _
      have HbC := Lib.hid (then_bel Hx2.out bz2)
      have HKy12 := Lib.hid ((bz2.block _ (lt_of_block HKx12.out)).trans HKx12.out)
      replace HKz1 := HKy12
      clear HKx12 HKy12
      have HKz2 := Lib.hid kz2
      clear hz2 kz2 bz2

      have m3 := (HC.out _ HbC.out).2.1
      have s3 := (HC.out _ HbC.out).2.2
      go_wp2_with fail
      refine (HE1.out _ (then_bel Hw6.out HbC.out)).mono ?_
      rintro e x3 ⟨rfl, hx3⟩
      have Hx3 := Lib.hid (then_bel HbC.out hx3)
      clear m3 s3
      have HKx13 := Lib.hid ((hx3.block _ (lt_of_block HKz1.out)).trans HKz1.out)
      have HKx23 := Lib.hid ((hx3.block _ (lt_of_block HKz2.out)).trans HKz2.out)
      clear hx3
      go_upto_region 12 with fail
      refine go_name2 (fun z3 hz3 => ?_)
      have kz3 : z3.heap[x3.heap.size]? = some (.cells #[.string n2, .int .i64 kk2, .string f2, .int .i64 le2, .int .i64 mo2, .string l2] 62 (0, 0)) := by rw [hz3]; exact heap_alloc_new x3 _
      have bz3 : Below x3.heap.size x3 z3 := by
        rw [hz3]
        exact (Below.refl _ _).alloc (Nat.le_refl _) _
      have HbD := Lib.hid (then_bel Hx3.out bz3)
      have HKy13 := Lib.hid ((bz3.block _ (lt_of_block HKx13.out)).trans HKx13.out)
      replace HKz1 := HKy13
      clear HKx13 HKy13
      have HKy23 := Lib.hid ((bz3.block _ (lt_of_block HKx23.out)).trans HKx23.out)
      replace HKz2 := HKy23
      clear HKx23 HKy23
      have HKz3 := Lib.hid kz3
      clear hz3 kz3 bz3

      have m4 := (HC.out _ HbD.out).2.1
      have s4 := (HC.out _ HbD.out).2.2
      go_wp2_with fail
      refine (HE2.out _ (then_bel Hw6.out HbD.out)).mono ?_
      rintro e x4 ⟨rfl, hx4⟩
      have Hx4 := Lib.hid (then_bel HbD.out hx4)
      clear m4 s4
      have HKx14 := Lib.hid ((hx4.block _ (lt_of_block HKz1.out)).trans HKz1.out)
      have HKx24 := Lib.hid ((hx4.block _ (lt_of_block HKz2.out)).trans HKz2.out)
      have HKx34 := Lib.hid ((hx4.block _ (lt_of_block HKz3.out)).trans HKz3.out)
      clear hx4
      go_upto_region 13 with fail
      refine go_name2 (fun z4 hz4 => ?_)
      have kz4 : z4.heap[x4.heap.size]? = some (.cells #[.string n2, .int .i64 kk2, .string f2, .int .i64 le2, .int .i64 mo2, .string l2] 62 (0, 0)) := by rw [hz4]; exact heap_alloc_new x4 _
      have bz4 : Below x4.heap.size x4 z4 := by
        rw [hz4]
        exact (Below.refl _ _).alloc (Nat.le_refl _) _
      have HbE := Lib.hid (then_bel Hx4.out bz4)
      have HKy14 := Lib.hid ((bz4.block _ (lt_of_block HKx14.out)).trans HKx14.out)
      replace HKz1 := HKy14
      clear HKx14 HKy14
      have HKy24 := Lib.hid ((bz4.block _ (lt_of_block HKx24.out)).trans HKx24.out)
      replace HKz2 := HKy24
      clear HKx24 HKy24
      have HKy34 := Lib.hid ((bz4.block _ (lt_of_block HKx34.out)).trans HKx34.out)
      replace HKz3 := HKy34
      clear HKx34 HKy34
      have HKz4 := Lib.hid kz4
      clear hz4 kz4 bz4
      have g10 : z4.cell? ⟨x1.heap.size, 0, none⟩ = some (.string n1) := cell_in HKz1.out
      have g11 : z4.cell? ⟨x1.heap.size, 1, none⟩ = some (.int .i64 kk1) := cell_in HKz1.out
      have g12 : z4.cell? ⟨x1.heap.size, 2, none⟩ = some (.string f1) := cell_in HKz1.out
      have g13 : z4.cell? ⟨x1.heap.size, 3, none⟩ = some (.int .i64 le1) := cell_in HKz1.out
      have g14 : z4.cell? ⟨x1.heap.size, 4, none⟩ = some (.int .i64 mo1) := cell_in HKz1.out
      have g15 : z4.cell? ⟨x1.heap.size, 5, none⟩ = some (.string l1) := cell_in HKz1.out
      have gl1 : x1.heap.size < z4.heap.size := lt_of_block HKz1.out
      have g20 : z4.cell? ⟨x2.heap.size, 0, none⟩ = some (.string n1) := cell_in HKz2.out
      have g21 : z4.cell? ⟨x2.heap.size, 1, none⟩ = some (.int .i64 kk1) := cell_in HKz2.out
      have g22 : z4.cell? ⟨x2.heap.size, 2, none⟩ = some (.string f1) := cell_in HKz2.out
      have g23 : z4.cell? ⟨x2.heap.size, 3, none⟩ = some (.int .i64 le1) := cell_in HKz2.out
      have g24 : z4.cell? ⟨x2.heap.size, 4, none⟩ = some (.int .i64 mo1) := cell_in HKz2.out
      have g25 : z4.cell? ⟨x2.heap.size, 5, none⟩ = some (.string l1) := cell_in HKz2.out
      have gl2 : x2.heap.size < z4.heap.size := lt_of_block HKz2.out
      have g30 : z4.cell? ⟨x3.heap.size, 0, none⟩ = some (.string n2) := cell_in HKz3.out
      have g31 : z4.cell? ⟨x3.heap.size, 1, none⟩ = some (.int .i64 kk2) := cell_in HKz3.out
      have g32 : z4.cell? ⟨x3.heap.size, 2, none⟩ = some (.string f2) := cell_in HKz3.out
      have g33 : z4.cell? ⟨x3.heap.size, 3, none⟩ = some (.int .i64 le2) := cell_in HKz3.out
      have g34 : z4.cell? ⟨x3.heap.size, 4, none⟩ = some (.int .i64 mo2) := cell_in HKz3.out
      have g35 : z4.cell? ⟨x3.heap.size, 5, none⟩ = some (.string l2) := cell_in HKz3.out
      have gl3 : x3.heap.size < z4.heap.size := lt_of_block HKz3.out
      have g40 : z4.cell? ⟨x4.heap.size, 0, none⟩ = some (.string n2) := cell_in HKz4.out
      have g41 : z4.cell? ⟨x4.heap.size, 1, none⟩ = some (.int .i64 kk2) := cell_in HKz4.out
      have g42 : z4.cell? ⟨x4.heap.size, 2, none⟩ = some (.string f2) := cell_in HKz4.out
      have g43 : z4.cell? ⟨x4.heap.size, 3, none⟩ = some (.int .i64 le2) := cell_in HKz4.out
      have g44 : z4.cell? ⟨x4.heap.size, 4, none⟩ = some (.int .i64 mo2) := cell_in HKz4.out
      have g45 : z4.cell? ⟨x4.heap.size, 5, none⟩ = some (.string l2) := cell_in HKz4.out
      have gl4 : x4.heap.size < z4.heap.size := lt_of_block HKz4.out
      have r1 : (b1 != b1) = false := by simp
      have r2 : (b2 != b2) = false := by simp
      have r3 : (b1 == b1) = true := by simp
      have r4 : (b2 == b2) = true := by simp
      go_wp2_with fail
      go_roundw
      case rel => exact ⟨j + 1, by omega, by go_num, HbE⟩
      case measure => simp [intOf]; omega
    · obtain rfl : j = N := by omega
      have hd1 : decide ((j : Int) < (j : Int)) = false := by simp
      go_wp2_with fail
      go_ret
      exact ⟨rfl, then_bel Hw6.out Hb.out⟩
end Go.Proofs.YtpfhhaonfbfheaaGreatDoor.ky
namespace Go.Proofs.YtpfhhaonfbfheaaGreatDoor.ky
open Go.ChangeShapes Go.WideShapes Go.ChangeAt Go.RowKit gl va ls

set_option maxHeartbeats 1000000 in
set_option maxRecDepth 100000 in
theorem keyStands_any (w : World) (hV : Vlo w) : Calls Tryz.prog 3 #[] w fun e w' => e = .returned (.bool true) ∧ Below w.heap.size w w' := by
  have HSt := Lib.hid (Standard_any w hV)
  clear hV
  go_enter Tryz.func3, Tryz.ntmps3
  go_wp2_with fail
  refine HSt.out.mono ?_
  rintro e w1 ⟨⟨b, rfl, hs⟩, hb1⟩
  have Hs := Lib.hid hs
  have Hb1 := Lib.hid hb1
  clear hs hb1
  go_wp2_with fail
  refine (refStandard_any w1).mono ?_
  rintro e w2 ⟨⟨b', rfl, hr⟩, hb2⟩
  have Hs2 := Lib.hid (Hs.out.later hb2)
  have Hb2 := Lib.hid (then_bel Hb1.out hb2)
  have Hr := Lib.hid hr
  obtain ⟨p, c, hblk, hk⟩ := hr
  rw [std_len] at hblk hk
  have c0 : w2.cell? ⟨b', 0, none⟩ = some (.slice p 16 c) := cell_in hblk
  have hbw : b' < w2.heap.size := lt_of_block hblk
  have Hk := Lib.hid hk
  clear hb2 hblk hk
  have HAl := Lib.hid (alike_any _ b b' stdK p c [110, 111, 110, 101] (by rw [std_len]; decide) w2 Hs2.out Hr.out (by rw [std_len]; exact Hk.out))
  rw [std_len] at HAl
  go_wp2_with fail
  refine HAl.out.mono ?_
  rintro e w3 ⟨rfl, hb3⟩
  have Hb3 := Lib.hid (then_bel Hb2.out hb3)
  clear hb3
  go_wp2_with fail
  go_ret
  exact ⟨rfl, Hb3.out⟩
end Go.Proofs.YtpfhhaonfbfheaaGreatDoor.ky
