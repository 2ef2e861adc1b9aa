/- tinderboxlaw04.ValueBack returns true. Conditions: the arguments lie in memory; the listed variables hold what the program's text lays. -/
import Derived.Test.YtkbamhecbfocbaaDoorVaQ
import Derived.Deep.RegionHeld3
namespace Go.Proofs.YtkbamhecbfocbaaDoor.va
open Go.ChangeShapes Go.WideShapes Go.ChangeAt Go.RowKit gl

theorem adds_le {n m : Int} (h0 : 0 ≤ n) (g0 : 0 ≤ m) (h : adds n m ≤ 2147483647) : n ≤ 2147483647 ∧ m ≤ 2147483647 := by
  unfold adds at h
  split at h <;> omega
theorem s8_drew {w0 wp : World} {b c : Nat} {x0 x1 x2 x3 y0 y1 y2 y3 : Value} (h : (wp.cell? ⟨b, 0, none⟩ = some x0 ∧ wp.cell? ⟨b, 1, none⟩ = some x1 ∧ wp.cell? ⟨b, 2, none⟩ = some x2 ∧ wp.cell? ⟨b, 3, none⟩ = some x3 ∧ wp.cell? ⟨c, 0, none⟩ = some y0 ∧ wp.cell? ⟨c, 1, none⟩ = some y1 ∧ wp.cell? ⟨c, 2, none⟩ = some y2 ∧ wp.cell? ⟨c, 3, none⟩ = some y3 ∧ Hid (Below w0.heap.size w0 wp))) :
    wp.drew.cell? ⟨b, 0, none⟩ = some x0 ∧ wp.drew.cell? ⟨b, 1, none⟩ = some x1 ∧ wp.drew.cell? ⟨b, 2, none⟩ = some x2 ∧ wp.drew.cell? ⟨b, 3, none⟩ = some x3 ∧ wp.drew.cell? ⟨c, 0, none⟩ = some y0 ∧ wp.drew.cell? ⟨c, 1, none⟩ = some y1 ∧ wp.drew.cell? ⟨c, 2, none⟩ = some y2 ∧ wp.drew.cell? ⟨c, 3, none⟩ = some y3 ∧ Hid (Below w0.heap.size w0 wp.drew) :=
  ⟨h.1, h.2.1, h.2.2.1, h.2.2.2.1, h.2.2.2.2.1, h.2.2.2.2.2.1, h.2.2.2.2.2.2.1, h.2.2.2.2.2.2.2.1, Lib.hid h.2.2.2.2.2.2.2.2.out.drew⟩
theorem s8_call {w0 wp w' : World} {b c : Nat} {x0 x1 x2 x3 y0 y1 y2 y3 : Value} (h : (wp.cell? ⟨b, 0, none⟩ = some x0 ∧ wp.cell? ⟨b, 1, none⟩ = some x1 ∧ wp.cell? ⟨b, 2, none⟩ = some x2 ∧ wp.cell? ⟨b, 3, none⟩ = some x3 ∧ wp.cell? ⟨c, 0, none⟩ = some y0 ∧ wp.cell? ⟨c, 1, none⟩ = some y1 ∧ wp.cell? ⟨c, 2, none⟩ = some y2 ∧ wp.cell? ⟨c, 3, none⟩ = some y3 ∧ Hid (Below w0.heap.size w0 wp))) (hb : Below wp.heap.size wp w') :
    w'.cell? ⟨b, 0, none⟩ = some x0 ∧ w'.cell? ⟨b, 1, none⟩ = some x1 ∧ w'.cell? ⟨b, 2, none⟩ = some x2 ∧ w'.cell? ⟨b, 3, none⟩ = some x3 ∧ w'.cell? ⟨c, 0, none⟩ = some y0 ∧ w'.cell? ⟨c, 1, none⟩ = some y1 ∧ w'.cell? ⟨c, 2, none⟩ = some y2 ∧ w'.cell? ⟨c, 3, none⟩ = some y3 ∧ Hid (Below w0.heap.size w0 w') :=
  have k : ∀ {p : Addr} {x : Value}, wp.cell? p = some x → w'.cell? p = some x := fun hp => (hb.cell (World.block_lt_of_cell? _ _ hp)).trans hp
  ⟨k h.1, k h.2.1, k h.2.2.1, k h.2.2.2.1, k h.2.2.2.2.1, k h.2.2.2.2.2.1, k h.2.2.2.2.2.2.1, k h.2.2.2.2.2.2.2.1, Lib.hid (then_bel h.2.2.2.2.2.2.2.2.out hb)⟩
theorem s8_bel {w0 wp : World} {b c : Nat} {x0 x1 x2 x3 y0 y1 y2 y3 : Value} (h : (wp.cell? ⟨b, 0, none⟩ = some x0 ∧ wp.cell? ⟨b, 1, none⟩ = some x1 ∧ wp.cell? ⟨b, 2, none⟩ = some x2 ∧ wp.cell? ⟨b, 3, none⟩ = some x3 ∧ wp.cell? ⟨c, 0, none⟩ = some y0 ∧ wp.cell? ⟨c, 1, none⟩ = some y1 ∧ wp.cell? ⟨c, 2, none⟩ = some y2 ∧ wp.cell? ⟨c, 3, none⟩ = some y3 ∧ Hid (Below w0.heap.size w0 wp))) : Below w0.heap.size w0 wp := h.2.2.2.2.2.2.2.2.out

set_option maxHeartbeats 4000000 in
set_option maxRecDepth 100000 in
theorem valueBack_any (k : Int) (s : ByteArray) (hs : s.size ≤ 9223372036854775807) (v : Val) (hv : Vh v) (sl : Value) (u : Val) (hu : Vh u) (sl' : Value) (w : World) (hSv : Strs w sl v.words) (hSu : Strs w sl' u.words) (hV : Vlo w) :
    Calls Tryd.prog 10 #[.int .i64 k, .string s, rep v sl, rep u sl'] w fun e w' => e = .returned (.bool true) ∧ Below w.heap.size w w' := by
  have HV := Lib.hid hV
  have HWv := Lib.hid fun (W : World) (hb : Below w.heap.size w W) => weighs_any v hv sl W (hSv.later hb)
  have HWu := Lib.hid fun (W : World) (hb : Below w.heap.size w W) => weighs_any u hu sl' W (hSu.later hb)
  have HBv : Hid (weighs v ≤ 2147483647 → Vb v) := Lib.hid (vb_of hv)
  have HBu : Hid (weighs u ≤ 2147483647 → Vb u) := Lib.hid (vb_of hu)
  have hav := weighs_bd v
  have hau := weighs_bd u
  generalize weighs v = av at *
  generalize weighs u = au at *
  clear hV hv hu
  have hs0 : (0 : Int) ≤ s.size := by omega
  have hab := adds_bd hav.1 hau.1
  have HA1 := Lib.hid fun W => addsUp_any av au hav.1 (by omega) hau.1 (by omega) W
  have HA2 := Lib.hid fun W => addsUp_any s.size (adds av au) hs0 (by omega) hab.1 (by omega) W
  have HL1 : Hid (adds s.size (adds av au) ≤ 2147483647 → s.size ≤ 2147483647 ∧ av ≤ 2147483647 ∧ au ≤ 2147483647) := Lib.hid fun h => by
    have h1 := adds_le hs0 hab.1 h
    have h2 := adds_le hav.1 hau.1 h1.2
    omega
  generalize adds av au = a1 at *
  generalize adds (s.size : Int) a1 = a2 at *
  clear hs0 hab hav hau
  obtain ⟨vk, vi, vt, vs⟩ := v
  obtain ⟨uk, ui, ut, us⟩ := u
  simp only at hSv hSu
  have HSv := Lib.hid hSv
  have HSu := Lib.hid hSu
  obtain ⟨p, c, rfl, hc, _⟩ := hSv
  obtain ⟨p', c', rfl, hc', _⟩ := hSu
  unfold rep at *
  simp only at *
  generalize hm : vs.length = m at *
  generalize hm' : us.length = m' at *
  have Hm := Lib.hid (And.intro hm hm')
  clear hm hm' hc hc'
  go_enter Tryd.func10, Tryd.ntmps10
  go_wp2_with fail
  obtain ⟨w2, hw2⟩ : ∃ w2, w2 = (w.alloc (.cells #[.int .i64 vk, .int .i64 vi, .string vt, .slice p m c] 45)).alloc (.cells #[.int .i64 uk, .int .i64 ui, .string ut, .slice p' m' c'] 45) := ⟨_, rfl⟩
  rw [← hw2]
  have Hb2 : Hid (Below w.heap.size w w2) := Lib.hid (by rw [hw2]; exact ((Below.refl _ w).alloc (Nat.le_refl _) _).alloc (by simp) _)
  obtain ⟨hB0, hB1⟩ : w2.heap[w.heap.size]? = some (.cells #[.int .i64 vk, .int .i64 vi, .string vt, .slice p m c] 45) ∧ w2.heap[w.heap.size + 1]? = some (.cells #[.int .i64 uk, .int .i64 ui, .string ut, .slice p' m' c'] 45) := by
    obtain ⟨h1, h2⟩ := two_blocks (Below.refl ((w.alloc (.cells #[.int .i64 vk, .int .i64 vi, .string vt, .slice p m c] 45)).alloc (.cells #[.int .i64 uk, .int .i64 ui, .string ut, .slice p' m' c'] 45)).heap.size _)
    rw [heap_alloc_new] at h1
    rw [hw2]
    exact ⟨h1, h2⟩
  clear hw2
  have ha := fun j => cell_of_row w2 w.heap.size j _ _ _ hB0
  have hb := fun j => cell_of_row w2 (w.heap.size + 1) j _ _ _ hB1
  have a0 := ha 0; have a1' := ha 1; have a2' := ha 2; have a3 := ha 3
  have b0 := hb 0; have b1 := hb 1; have b2 := hb 2; have b3 := hb 3
  simp only [List.getElem?_toArray, List.getElem?_cons_succ, List.getElem?_cons_zero] at a0 a1' a2' a3 b0 b1 b2 b3
  have HB0 := Lib.hid hB0
  have HB1 := Lib.hid hB1
  clear ha hb hB0 hB1
  have hSt : w2.cell? ⟨w.heap.size, 0, none⟩ = some (.int .i64 vk) ∧ w2.cell? ⟨w.heap.size, 1, none⟩ = some (.int .i64 vi) ∧ w2.cell? ⟨w.heap.size, 2, none⟩ = some (.string vt) ∧ w2.cell? ⟨w.heap.size, 3, none⟩ = some (.slice p m c) ∧ w2.cell? ⟨w.heap.size + 1, 0, none⟩ = some (.int .i64 uk) ∧ w2.cell? ⟨w.heap.size + 1, 1, none⟩ = some (.int .i64 ui) ∧ w2.cell? ⟨w.heap.size + 1, 2, none⟩ = some (.string ut) ∧ w2.cell? ⟨w.heap.size + 1, 3, none⟩ = some (.slice p' m' c') ∧ Hid (Below w2.heap.size w2 w2) := ⟨a0, a1', a2', a3, b0, b1, b2, b3, Lib.hid (Below.refl _ _)⟩
  go_region_held3 (fun w' => w'.cell? ⟨w.heap.size, 0, none⟩ = some (.int .i64 vk) ∧ w'.cell? ⟨w.heap.size, 1, none⟩ = some (.int .i64 vi) ∧ w'.cell? ⟨w.heap.size, 2, none⟩ = some (.string vt) ∧ w'.cell? ⟨w.heap.size, 3, none⟩ = some (.slice p m c) ∧ w'.cell? ⟨w.heap.size + 1, 0, none⟩ = some (.int .i64 uk) ∧ w'.cell? ⟨w.heap.size + 1, 1, none⟩ = some (.int .i64 ui) ∧ w'.cell? ⟨w.heap.size + 1, 2, none⟩ = some (.string ut) ∧ w'.cell? ⟨w.heap.size + 1, 3, none⟩ = some (.slice p' m' c') ∧ Hid (Below w2.heap.size w2 w'))
    (first | assumption | exact s8_drew (by assumption))
    (first
      | (go_at_call 24; (first | (with_reducible refine Calls.mono (HWv.out _ (then_bel Hb2.out (s8_bel (by assumption)))) ?_) | (with_reducible refine Calls.mono (HWu.out _ (then_bel Hb2.out (s8_bel (by assumption)))) ?_)); rintro e w' ⟨rfl, hb⟩; have hS' := s8_call (by assumption) hb; clear hb)
      | (go_at_call 29; (first | (with_reducible refine Calls.mono (HA1.out _) ?_) | (with_reducible refine Calls.mono (HA2.out _) ?_)); rintro e w' ⟨rfl, rfl⟩))
  have hH := hS'
  obtain ⟨w3, rfl⟩ : ∃ w3, w3 = w' := ⟨_, rfl⟩
  have Hb3 := Lib.hid (then_bel Hb2.out (s8_bel hH))
  have HKA3 := Lib.hid (keep HB0.out (s8_bel hH))
  have HKB3 := Lib.hid (keep HB1.out (s8_bel hH))
  have HSA3 := Lib.hid (HSv.out.later Hb3.out)
  have HSB3 := Lib.hid (HSu.out.later Hb3.out)
  clear hSt a0 a1' a2' a3 b0 b1 b2 b3 hH HSv HSu HB0 HB1
  by_cases hbig : 2147483647 < a2
  · go_wp2_with fail
    go_ret
    exact ⟨rfl, Hb3.out⟩
  · obtain ⟨hs2, hv2, hu2⟩ := HL1.out (by omega)
    have HbV := Lib.hid (HBv.out hv2)
    have HbU := Lib.hid (HBu.out hu2)
    obtain ⟨⟨⟨xk, xi, xt, xs⟩, gx⟩, hX⟩ : ∃ r, parse wordL k s.data.toList = r := ⟨_, rfl⟩
    have HX := Lib.hid hX
    have HX0 : Hid (gx = 0 → right wordL ⟨xk, xi, xt, xs⟩ = true ∧ xk = k) := Lib.hid (by
      rintro rfl
      exact parse_right wordL_is hX)
    have HX1 : Hid (gx = 0 → (k = 2 ∨ k = 5 ∨ k = 6) → prints ⟨xk, xi, xt, xs⟩ = s.data.toList) := Lib.hid (by
      rintro rfl hk
      exact prints_parse hX hk)
    clear hX HL1 HBv HBu HWv HWu HA1 HA2 hv2 hu2
    have hA := fun j => cell_of_row w3 w.heap.size j _ _ _ HKA3.out
    have A0 := hA 0; have A1 := hA 1; have A2 := hA 2; have A3 := hA 3
    have hB := fun j => cell_of_row w3 (w.heap.size + 1) j _ _ _ HKB3.out
    have B0 := hB 0; have B1 := hB 1; have B2 := hB 2; have B3 := hB 3
    simp only [List.getElem?_toArray, List.getElem?_cons_succ, List.getElem?_cons_zero] at A0 A1 A2 A3 B0 B1 B2 B3
    clear hA hB
    cases hrv : right wordL ⟨vk, vi, vt, vs⟩ with
    | false =>
      have HRv := Lib.hid hrv
      have HPv := Lib.hid (print_f hrv)
      obtain ⟨⟨TU, FU⟩, hPu⟩ : ∃ r, print wordL ⟨uk, ui, ut, us⟩ = r := ⟨_, rfl⟩
      have HPu := Lib.hid hPu
      clear hPu hrv
      go_wp2_with fail
      refine (awake_any w3 (HV.out.later Hb3.out)).mono ?_
      rintro e w4 ⟨rfl, hb⟩
      have HKA4 := Lib.hid (keep HKA3.out hb)
      have HSA4 := Lib.hid (HSA3.out.later hb)
      have HKB4 := Lib.hid (keep HKB3.out hb)
      have HSB4 := Lib.hid (HSB3.out.later hb)
      have Hb4 := Lib.hid (then_bel Hb3.out hb)
      clear hb HKA3 HSA3 HKB3 HSB3 A0 A1 A2 A3 B0 B1 B2 B3
      have hA := fun j => cell_of_row w4 w.heap.size j _ _ _ HKA4.out
      have A0 := hA 0; have A1 := hA 1; have A2 := hA 2; have A3 := hA 3
      have hB := fun j => cell_of_row w4 (w.heap.size + 1) j _ _ _ HKB4.out
      have B0 := hB 0; have B1 := hB 1; have B2 := hB 2; have B3 := hB 3
      simp only [List.getElem?_toArray, List.getElem?_cons_succ, List.getElem?_cons_zero] at A0 A1 A2 A3 B0 B1 B2 B3
      clear hA hB
      go_wp2_with fail
      refine (Print_any ⟨vk, vi, vt, vs⟩ HbV.out (.slice p m c) w4 (HV.out.later Hb4.out) HSA4.out).mono ?_
      rintro e w5 ⟨he, hb⟩
      unfold PrintOut at he
      rw [HPv.out] at he
      subst he
      have HKA5 := Lib.hid (keep HKA4.out hb)
      have HSA5 := Lib.hid (HSA4.out.later hb)
      have HKB5 := Lib.hid (keep HKB4.out hb)
      have HSB5 := Lib.hid (HSB4.out.later hb)
      have Hb5 := Lib.hid (then_bel Hb4.out hb)
      clear hb HKA4 HSA4 HKB4 HSB4 A0 A1 A2 A3 B0 B1 B2 B3
      have hA := fun j => cell_of_row w5 w.heap.size j _ _ _ HKA5.out
      have A0 := hA 0; have A1 := hA 1; have A2 := hA 2; have A3 := hA 3
      have hB := fun j => cell_of_row w5 (w.heap.size + 1) j _ _ _ HKB5.out
      have B0 := hB 0; have B1 := hB 1; have B2 := hB 2; have B3 := hB 3
      simp only [List.getElem?_toArray, List.getElem?_cons_succ, List.getElem?_cons_zero] at A0 A1 A2 A3 B0 B1 B2 B3
      clear hA hB
      go_wp2_with fail
      refine (Print_any ⟨uk, ui, ut, us⟩ HbU.out (.slice p' m' c') w5 (HV.out.later Hb5.out) HSB5.out).mono ?_
      rintro e w6 ⟨he, hb⟩
      unfold PrintOut at he
      rw [HPu.out] at he
      subst he
      have HKA6 := Lib.hid (keep HKA5.out hb)
      have HSA6 := Lib.hid (HSA5.out.later hb)
      have HKB6 := Lib.hid (keep HKB5.out hb)
      have HSB6 := Lib.hid (HSB5.out.later hb)
      have Hb6 := Lib.hid (then_bel Hb5.out hb)
      clear hb HKA5 HSA5 HKB5 HSB5 A0 A1 A2 A3 B0 B1 B2 B3
      have hA := fun j => cell_of_row w6 w.heap.size j _ _ _ HKA6.out
      have A0 := hA 0; have A1 := hA 1; have A2 := hA 2; have A3 := hA 3
      have hB := fun j => cell_of_row w6 (w.heap.size + 1) j _ _ _ HKB6.out
      have B0 := hB 0; have B1 := hB 1; have B2 := hB 2; have B3 := hB 3
      simp only [List.getElem?_toArray, List.getElem?_cons_succ, List.getElem?_cons_zero] at A0 A1 A2 A3 B0 B1 B2 B3
      clear hA hB
      go_wp2_with fail
      refine (Right_any ⟨vk, vi, vt, vs⟩ HbV.out (.slice p m c) w6 (HV.out.later Hb6.out) HSA6.out).mono ?_
      rintro e w7 ⟨rfl, hb⟩
      rw [HRv.out]
      have HKA7 := Lib.hid (keep HKA6.out hb)
      have HSA7 := Lib.hid (HSA6.out.later hb)
      have HKB7 := Lib.hid (keep HKB6.out hb)
      have HSB7 := Lib.hid (HSB6.out.later hb)
      have Hb7 := Lib.hid (then_bel Hb6.out hb)
      clear hb HKA6 HSA6 HKB6 HSB6 A0 A1 A2 A3 B0 B1 B2 B3
      have hA := fun j => cell_of_row w7 w.heap.size j _ _ _ HKA7.out
      have A0 := hA 0; have A1 := hA 1; have A2 := hA 2; have A3 := hA 3
      have hB := fun j => cell_of_row w7 (w.heap.size + 1) j _ _ _ HKB7.out
      have B0 := hB 0; have B1 := hB 1; have B2 := hB 2; have B3 := hB 3
      simp only [List.getElem?_toArray, List.getElem?_cons_succ, List.getElem?_cons_zero] at A0 A1 A2 A3 B0 B1 B2 B3
      clear hA hB
      by_cases hg : gx = 0
      · subst hg
        obtain ⟨hr, hk⟩ := HX0.out rfl
        have hX1 := HX1.out rfl
        rw [hk] at hr hX1
        have HX2 : Hid (parse wordL k s.data.toList = (⟨k, xi, xt, xs⟩, 0)) := Lib.hid (by rw [HX.out, hk])
        have HrX := Lib.hid hr
        have HbX := Lib.hid (vb_right hr)
        obtain ⟨PL, hPL⟩ : ∃ PL, prints ⟨k, xi, xt, xs⟩ = PL := ⟨_, rfl⟩
        have HpX : Hid (print wordL ⟨k, xi, xt, xs⟩ = (PL, 0)) := Lib.hid (by rw [print_t hr, hPL])
        have HyX : Hid (parse wordL k (B PL).data.toList = (⟨k, xi, xt, xs⟩, 0)) := Lib.hid (by
          have := parse_prints wordL_is hr
          rw [hPL] at this
          exact this)
        have HlX : Hid ((B PL).size ≤ 2147483647) := Lib.hid (by
          have := prints_len hr
          rw [hPL] at this
          show PL.toArray.size ≤ _
          simp
          omega)
        have HexX : Hid (((k != 2) = true ∧ (k != 5) = true ∧ (k != 6) = true) ∨ ((k = 2 ∨ k = 5 ∨ k = 6) ∧ (PL == s.toList) = true)) := Lib.hid (by
          by_cases h : k = 2 ∨ k = 5 ∨ k = 6
          · refine .inr ⟨h, ?_⟩
            rw [ByteArray.toList_eq, ← hX1 h, hPL]
            simp
          · exact .inl ⟨by simp; omega, by simp; omega, by simp; omega⟩)
        clear hr hk hX1 hPL
        go_wp2_with fail
        refine (Parse_any k s hs2 w7 (HV.out.later Hb7.out)).mono ?_
        rintro e w8 ⟨⟨slx, rfl, hfx⟩, hb⟩
        rw [HX2.out] at hfx ⊢
        obtain ⟨px, mx, cx, rfl⟩ := hfx.shape
        have HSx := Lib.hid hfx.strs
        clear hfx
        unfold res rep
        simp only
        have HKA8 := Lib.hid (keep HKA7.out hb)
        have HSA8 := Lib.hid (HSA7.out.later hb)
        have HKB8 := Lib.hid (keep HKB7.out hb)
        have HSB8 := Lib.hid (HSB7.out.later hb)
        have Hb8 := Lib.hid (then_bel Hb7.out hb)
        clear hb HKA7 HSA7 HKB7 HSB7 A0 A1 A2 A3 B0 B1 B2 B3
        have hA := fun j => cell_of_row w8 w.heap.size j _ _ _ HKA8.out
        have A0 := hA 0; have A1 := hA 1; have A2 := hA 2; have A3 := hA 3
        have hB := fun j => cell_of_row w8 (w.heap.size + 1) j _ _ _ HKB8.out
        have B0 := hB 0; have B1 := hB 1; have B2 := hB 2; have B3 := hB 3
        simp only [List.getElem?_toArray, List.getElem?_cons_succ, List.getElem?_cons_zero] at A0 A1 A2 A3 B0 B1 B2 B3
        clear hA hB
        obtain ⟨w9, hw9⟩ : ∃ w9, w9 = w8.alloc (.cells #[.int .i64 k, .int .i64 xi, .string xt, .slice px mx cx] 45) := ⟨_, rfl⟩
        have hal : Below w8.heap.size w8 w9 := by rw [hw9]; exact (Below.refl _ _).alloc (Nat.le_refl _) _
        have HKA9 := Lib.hid (keep HKA8.out hal)
        have HSA9 := Lib.hid (HSA8.out.later hal)
        have HKB9 := Lib.hid (keep HKB8.out hal)
        have HSB9 := Lib.hid (HSB8.out.later hal)
        have Hb9 := Lib.hid (then_bel Hb8.out hal)
        have HKX9 : Hid (w9.heap[w8.heap.size]? = some (.cells #[.int .i64 k, .int .i64 xi, .string xt, .slice px mx cx] 45)) := Lib.hid (by rw [hw9]; exact heap_alloc_new w8 _)
        have HSX9 := Lib.hid (HSx.out.later hal)
        clear hal HKA8 HSA8 HKB8 HSB8 A0 A1 A2 A3 B0 B1 B2 B3
        have hA := fun j => cell_of_row w9 w.heap.size j _ _ _ HKA9.out
        have A0 := hA 0; have A1 := hA 1; have A2 := hA 2; have A3 := hA 3
        have hB := fun j => cell_of_row w9 (w.heap.size + 1) j _ _ _ HKB9.out
        have B0 := hB 0; have B1 := hB 1; have B2 := hB 2; have B3 := hB 3
        have hX := fun j => cell_of_row w9 w8.heap.size j _ _ _ HKX9.out
        have X0 := hX 0; have X1 := hX 1; have X2 := hX 2; have X3 := hX 3
        simp only [List.getElem?_toArray, List.getElem?_cons_succ, List.getElem?_cons_zero] at A0 A1 A2 A3 B0 B1 B2 B3 X0 X1 X2 X3
        clear hA hB hX
        have HW9 := Lib.hid hw9
        rw [hw9] at A0 A1 A2 A3 B0 B1 B2 B3 X0 X1 X2 X3
        clear hw9
        go_wp2_with fail
        rw [← HW9.out]
        refine (Right_any ⟨k, xi, xt, xs⟩ HbX.out (.slice px mx cx) w9 (HV.out.later Hb9.out) HSX9.out).mono ?_
        rintro e w10 ⟨rfl, hb⟩
        rw [HrX.out]
        have HKA10 := Lib.hid (keep HKA9.out hb)
        have HSA10 := Lib.hid (HSA9.out.later hb)
        have HKB10 := Lib.hid (keep HKB9.out hb)
        have HSB10 := Lib.hid (HSB9.out.later hb)
        have HKX10 := Lib.hid (keep HKX9.out hb)
        have HSX10 := Lib.hid (HSX9.out.later hb)
        have Hb10 := Lib.hid (then_bel Hb9.out hb)
        clear hb HKA9 HSA9 HKB9 HSB9 HKX9 HSX9 A0 A1 A2 A3 B0 B1 B2 B3 X0 X1 X2 X3
        have hA := fun j => cell_of_row w10 w.heap.size j _ _ _ HKA10.out
        have A0 := hA 0; have A1 := hA 1; have A2 := hA 2; have A3 := hA 3
        have hB := fun j => cell_of_row w10 (w.heap.size + 1) j _ _ _ HKB10.out
        have B0 := hB 0; have B1 := hB 1; have B2 := hB 2; have B3 := hB 3
        have hX := fun j => cell_of_row w10 w8.heap.size j _ _ _ HKX10.out
        have X0 := hX 0; have X1 := hX 1; have X2 := hX 2; have X3 := hX 3
        simp only [List.getElem?_toArray, List.getElem?_cons_succ, List.getElem?_cons_zero] at A0 A1 A2 A3 B0 B1 B2 B3 X0 X1 X2 X3
        clear hA hB hX
        go_wp2_with fail
        refine (Print_any ⟨k, xi, xt, xs⟩ HbX.out (.slice px mx cx) w10 (HV.out.later Hb10.out) HSX10.out).mono ?_
        rintro e w11 ⟨he, hb⟩
        unfold PrintOut at he
        rw [HpX.out] at he
        subst he
        have HKA11 := Lib.hid (keep HKA10.out hb)
        have HSA11 := Lib.hid (HSA10.out.later hb)
        have HKB11 := Lib.hid (keep HKB10.out hb)
        have HSB11 := Lib.hid (HSB10.out.later hb)
        have HKX11 := Lib.hid (keep HKX10.out hb)
        have HSX11 := Lib.hid (HSX10.out.later hb)
        have Hb11 := Lib.hid (then_bel Hb10.out hb)
        clear hb HKA10 HSA10 HKB10 HSB10 HKX10 HSX10 A0 A1 A2 A3 B0 B1 B2 B3 X0 X1 X2 X3
        have hA := fun j => cell_of_row w11 w.heap.size j _ _ _ HKA11.out
        have A0 := hA 0; have A1 := hA 1; have A2 := hA 2; have A3 := hA 3
        have hB := fun j => cell_of_row w11 (w.heap.size + 1) j _ _ _ HKB11.out
        have B0 := hB 0; have B1 := hB 1; have B2 := hB 2; have B3 := hB 3
        have hX := fun j => cell_of_row w11 w8.heap.size j _ _ _ HKX11.out
        have X0 := hX 0; have X1 := hX 1; have X2 := hX 2; have X3 := hX 3
        simp only [List.getElem?_toArray, List.getElem?_cons_succ, List.getElem?_cons_zero] at A0 A1 A2 A3 B0 B1 B2 B3 X0 X1 X2 X3
        clear hA hB hX
        go_wp2_with fail
        refine (Parse_any k (B PL) HlX.out w11 (HV.out.later Hb11.out)).mono ?_
        rintro e w12 ⟨⟨sly, rfl, hfy⟩, hb⟩
        rw [HyX.out] at hfy ⊢
        obtain ⟨py, my, cy, rfl⟩ := hfy.shape
        have HSy := Lib.hid hfy.strs
        clear hfy
        unfold res rep
        simp only
        have HKA12 := Lib.hid (keep HKA11.out hb)
        have HSA12 := Lib.hid (HSA11.out.later hb)
        have HKB12 := Lib.hid (keep HKB11.out hb)
        have HSB12 := Lib.hid (HSB11.out.later hb)
        have HKX12 := Lib.hid (keep HKX11.out hb)
        have HSX12 := Lib.hid (HSX11.out.later hb)
        have Hb12 := Lib.hid (then_bel Hb11.out hb)
        clear hb HKA11 HSA11 HKB11 HSB11 HKX11 HSX11 A0 A1 A2 A3 B0 B1 B2 B3 X0 X1 X2 X3
        have hA := fun j => cell_of_row w12 w.heap.size j _ _ _ HKA12.out
        have A0 := hA 0; have A1 := hA 1; have A2 := hA 2; have A3 := hA 3
        have hB := fun j => cell_of_row w12 (w.heap.size + 1) j _ _ _ HKB12.out
        have B0 := hB 0; have B1 := hB 1; have B2 := hB 2; have B3 := hB 3
        have hX := fun j => cell_of_row w12 w8.heap.size j _ _ _ HKX12.out
        have X0 := hX 0; have X1 := hX 1; have X2 := hX 2; have X3 := hX 3
        simp only [List.getElem?_toArray, List.getElem?_cons_succ, List.getElem?_cons_zero] at A0 A1 A2 A3 B0 B1 B2 B3 X0 X1 X2 X3
        clear hA hB hX
        obtain ⟨w13, hw13⟩ : ∃ w13, w13 = w12.alloc (.cells #[.int .i64 k, .int .i64 xi, .string xt, .slice py my cy] 45) := ⟨_, rfl⟩
        have hal : Below w12.heap.size w12 w13 := by rw [hw13]; exact (Below.refl _ _).alloc (Nat.le_refl _) _
        have HKA13 := Lib.hid (keep HKA12.out hal)
        have HSA13 := Lib.hid (HSA12.out.later hal)
        have HKB13 := Lib.hid (keep HKB12.out hal)
        have HSB13 := Lib.hid (HSB12.out.later hal)
        have HKX13 := Lib.hid (keep HKX12.out hal)
        have HSX13 := Lib.hid (HSX12.out.later hal)
        have Hb13 := Lib.hid (then_bel Hb12.out hal)
        have HKY13 : Hid (w13.heap[w12.heap.size]? = some (.cells #[.int .i64 k, .int .i64 xi, .string xt, .slice py my cy] 45)) := Lib.hid (by rw [hw13]; exact heap_alloc_new w12 _)
        have HSY13 := Lib.hid (HSy.out.later hal)
        clear hal HKA12 HSA12 HKB12 HSB12 HKX12 HSX12 A0 A1 A2 A3 B0 B1 B2 B3 X0 X1 X2 X3
        have hA := fun j => cell_of_row w13 w.heap.size j _ _ _ HKA13.out
        have A0 := hA 0; have A1 := hA 1; have A2 := hA 2; have A3 := hA 3
        have hB := fun j => cell_of_row w13 (w.heap.size + 1) j _ _ _ HKB13.out
        have B0 := hB 0; have B1 := hB 1; have B2 := hB 2; have B3 := hB 3
        have hX := fun j => cell_of_row w13 w8.heap.size j _ _ _ HKX13.out
        have X0 := hX 0; have X1 := hX 1; have X2 := hX 2; have X3 := hX 3
        have hY := fun j => cell_of_row w13 w12.heap.size j _ _ _ HKY13.out
        have Y0 := hY 0; have Y1 := hY 1; have Y2 := hY 2; have Y3 := hY 3
        simp only [List.getElem?_toArray, List.getElem?_cons_succ, List.getElem?_cons_zero] at A0 A1 A2 A3 B0 B1 B2 B3 X0 X1 X2 X3 Y0 Y1 Y2 Y3
        clear hA hB hX hY
        have HW13 := Lib.hid hw13
        rw [hw13] at A0 A1 A2 A3 B0 B1 B2 B3 X0 X1 X2 X3 Y0 Y1 Y2 Y3
        clear hw13
        go_wp2_with fail
        rw [← HW13.out]
        refine (Print_any ⟨k, xi, xt, xs⟩ HbX.out (.slice py my cy) w13 (HV.out.later Hb13.out) HSY13.out).mono ?_
        rintro e w14 ⟨he, hb⟩
        unfold PrintOut at he
        rw [HpX.out] at he
        subst he
        have HKA14 := Lib.hid (keep HKA13.out hb)
        have HSA14 := Lib.hid (HSA13.out.later hb)
        have HKB14 := Lib.hid (keep HKB13.out hb)
        have HSB14 := Lib.hid (HSB13.out.later hb)
        have HKX14 := Lib.hid (keep HKX13.out hb)
        have HSX14 := Lib.hid (HSX13.out.later hb)
        have HKY14 := Lib.hid (keep HKY13.out hb)
        have HSY14 := Lib.hid (HSY13.out.later hb)
        have Hb14 := Lib.hid (then_bel Hb13.out hb)
        clear hb HKA13 HSA13 HKB13 HSB13 HKX13 HSX13 HKY13 HSY13 A0 A1 A2 A3 B0 B1 B2 B3 X0 X1 X2 X3 Y0 Y1 Y2 Y3
        have hA := fun j => cell_of_row w14 w.heap.size j _ _ _ HKA14.out
        have A0 := hA 0; have A1 := hA 1; have A2 := hA 2; have A3 := hA 3
        have hB := fun j => cell_of_row w14 (w.heap.size + 1) j _ _ _ HKB14.out
        have B0 := hB 0; have B1 := hB 1; have B2 := hB 2; have B3 := hB 3
        have hX := fun j => cell_of_row w14 w8.heap.size j _ _ _ HKX14.out
        have X0 := hX 0; have X1 := hX 1; have X2 := hX 2; have X3 := hX 3
        have hY := fun j => cell_of_row w14 w12.heap.size j _ _ _ HKY14.out
        have Y0 := hY 0; have Y1 := hY 1; have Y2 := hY 2; have Y3 := hY 3
        simp only [List.getElem?_toArray, List.getElem?_cons_succ, List.getElem?_cons_zero] at A0 A1 A2 A3 B0 B1 B2 B3 X0 X1 X2 X3 Y0 Y1 Y2 Y3
        clear hA hB hX hY
        go_wp2_with fail
        refine (Same_any ⟨k, xi, xt, xs⟩ ⟨k, xi, xt, xs⟩ (.slice px mx cx) (.slice py my cy) w14 HSX14.out HSY14.out HbX.out.words HbX.out.words).mono ?_
        rintro e w15 ⟨rfl, hb⟩
        rw [decide_eq_true (rfl : (⟨k, xi, xt, xs⟩ : Val) = _)]
        have HKA15 := Lib.hid (keep HKA14.out hb)
        have HSA15 := Lib.hid (HSA14.out.later hb)
        have HKB15 := Lib.hid (keep HKB14.out hb)
        have HSB15 := Lib.hid (HSB14.out.later hb)
        have HKX15 := Lib.hid (keep HKX14.out hb)
        have HSX15 := Lib.hid (HSX14.out.later hb)
        have HKY15 := Lib.hid (keep HKY14.out hb)
        have HSY15 := Lib.hid (HSY14.out.later hb)
        have Hb15 := Lib.hid (then_bel Hb14.out hb)
        clear hb HKA14 HSA14 HKB14 HSB14 HKX14 HSX14 HKY14 HSY14 A0 A1 A2 A3 B0 B1 B2 B3 X0 X1 X2 X3 Y0 Y1 Y2 Y3
        have hA := fun j => cell_of_row w15 w.heap.size j _ _ _ HKA15.out
        have A0 := hA 0; have A1 := hA 1; have A2 := hA 2; have A3 := hA 3
        have hB := fun j => cell_of_row w15 (w.heap.size + 1) j _ _ _ HKB15.out
        have B0 := hB 0; have B1 := hB 1; have B2 := hB 2; have B3 := hB 3
        have hX := fun j => cell_of_row w15 w8.heap.size j _ _ _ HKX15.out
        have X0 := hX 0; have X1 := hX 1; have X2 := hX 2; have X3 := hX 3
        have hY := fun j => cell_of_row w15 w12.heap.size j _ _ _ HKY15.out
        have Y0 := hY 0; have Y1 := hY 1; have Y2 := hY 2; have Y3 := hY 3
        simp only [List.getElem?_toArray, List.getElem?_cons_succ, List.getElem?_cons_zero] at A0 A1 A2 A3 B0 B1 B2 B3 X0 X1 X2 X3 Y0 Y1 Y2 Y3
        clear hA hB hX hY
        rcases HexX.out with ⟨q2, q5, q6⟩ | ⟨qk, hps⟩
        · go_wp2_with fail
          go_ret
          exact ⟨rfl, Hb15.out⟩
        · rcases qk with rfl | rfl | rfl
          · go_wp2_with fail
            go_ret
            exact ⟨rfl, Hb15.out⟩
          · go_wp2_with fail
            go_ret
            exact ⟨rfl, Hb15.out⟩
          · go_wp2_with fail
            go_ret
            exact ⟨rfl, Hb15.out⟩
      · have hg' : (gx != 0) = true := by simp [hg]
        go_wp2_with fail
        refine (Parse_any k s hs2 w7 (HV.out.later Hb7.out)).mono ?_
        rintro e w8 ⟨⟨slx, rfl, hfx⟩, hb⟩
        rw [HX.out] at hfx ⊢
        obtain ⟨px, mx, cx, rfl⟩ := hfx.shape
        unfold res rep
        simp only
        clear hfx
        have HKA8 := Lib.hid (keep HKA7.out hb)
        have HSA8 := Lib.hid (HSA7.out.later hb)
        have HKB8 := Lib.hid (keep HKB7.out hb)
        have HSB8 := Lib.hid (HSB7.out.later hb)
        have Hb8 := Lib.hid (then_bel Hb7.out hb)
        clear hb HKA7 HSA7 HKB7 HSB7 A0 A1 A2 A3 B0 B1 B2 B3
        have hA := fun j => cell_of_row w8 w.heap.size j _ _ _ HKA8.out
        have A0 := hA 0; have A1 := hA 1; have A2 := hA 2; have A3 := hA 3
        have hB := fun j => cell_of_row w8 (w.heap.size + 1) j _ _ _ HKB8.out
        have B0 := hB 0; have B1 := hB 1; have B2 := hB 2; have B3 := hB 3
        simp only [List.getElem?_toArray, List.getElem?_cons_succ, List.getElem?_cons_zero] at A0 A1 A2 A3 B0 B1 B2 B3
        clear hA hB
        go_wp2_with fail
        go_ret
        exact ⟨rfl, (Hb8.out).alloc (Hb8.out).size _⟩
    | true =>
      have HRv := Lib.hid hrv
      obtain ⟨TV, hTV⟩ : ∃ TV, prints ⟨vk, vi, vt, vs⟩ = TV := ⟨_, rfl⟩
      have HPv : Hid (print wordL ⟨vk, vi, vt, vs⟩ = (TV, 0)) := Lib.hid (by rw [print_t hrv, hTV])
      have HyV : Hid (parse wordL vk (B TV).data.toList = (⟨vk, vi, vt, vs⟩, 0)) := Lib.hid (by
        have := parse_prints wordL_is hrv
        rw [hTV] at this
        exact this)
      have HlV : Hid ((B TV).size ≤ 2147483647) := Lib.hid (by
        have := prints_len hrv
        rw [hTV] at this
        show TV.toArray.size ≤ _
        simp
        omega)
      cases hru : right wordL ⟨uk, ui, ut, us⟩ with
      | false =>
        have HPu := Lib.hid (print_f hru)
        clear hrv hru hTV
        go_wp2_with fail
        refine (awake_any w3 (HV.out.later Hb3.out)).mono ?_
        rintro e w4 ⟨rfl, hb⟩
        have HKA4 := Lib.hid (keep HKA3.out hb)
        have HSA4 := Lib.hid (HSA3.out.later hb)
        have HKB4 := Lib.hid (keep HKB3.out hb)
        have HSB4 := Lib.hid (HSB3.out.later hb)
        have Hb4 := Lib.hid (then_bel Hb3.out hb)
        clear hb HKA3 HSA3 HKB3 HSB3 A0 A1 A2 A3 B0 B1 B2 B3
        have hA := fun j => cell_of_row w4 w.heap.size j _ _ _ HKA4.out
        have A0 := hA 0; have A1 := hA 1; have A2 := hA 2; have A3 := hA 3
        have hB := fun j => cell_of_row w4 (w.heap.size + 1) j _ _ _ HKB4.out
        have B0 := hB 0; have B1 := hB 1; have B2 := hB 2; have B3 := hB 3
        simp only [List.getElem?_toArray, List.getElem?_cons_succ, List.getElem?_cons_zero] at A0 A1 A2 A3 B0 B1 B2 B3
        clear hA hB
        go_wp2_with fail
        refine (Print_any ⟨vk, vi, vt, vs⟩ HbV.out (.slice p m c) w4 (HV.out.later Hb4.out) HSA4.out).mono ?_
        rintro e w5 ⟨he, hb⟩
        unfold PrintOut at he
        rw [HPv.out] at he
        subst he
        have HKA5 := Lib.hid (keep HKA4.out hb)
        have HSA5 := Lib.hid (HSA4.out.later hb)
        have HKB5 := Lib.hid (keep HKB4.out hb)
        have HSB5 := Lib.hid (HSB4.out.later hb)
        have Hb5 := Lib.hid (then_bel Hb4.out hb)
        clear hb HKA4 HSA4 HKB4 HSB4 A0 A1 A2 A3 B0 B1 B2 B3
        have hA := fun j => cell_of_row w5 w.heap.size j _ _ _ HKA5.out
        have A0 := hA 0; have A1 := hA 1; have A2 := hA 2; have A3 := hA 3
        have hB := fun j => cell_of_row w5 (w.heap.size + 1) j _ _ _ HKB5.out
        have B0 := hB 0; have B1 := hB 1; have B2 := hB 2; have B3 := hB 3
        simp only [List.getElem?_toArray, List.getElem?_cons_succ, List.getElem?_cons_zero] at A0 A1 A2 A3 B0 B1 B2 B3
        clear hA hB
        go_wp2_with fail
        refine (Print_any ⟨uk, ui, ut, us⟩ HbU.out (.slice p' m' c') w5 (HV.out.later Hb5.out) HSB5.out).mono ?_
        rintro e w6 ⟨he, hb⟩
        unfold PrintOut at he
        rw [HPu.out] at he
        subst he
        have HKA6 := Lib.hid (keep HKA5.out hb)
        have HSA6 := Lib.hid (HSA5.out.later hb)
        have HKB6 := Lib.hid (keep HKB5.out hb)
        have HSB6 := Lib.hid (HSB5.out.later hb)
        have Hb6 := Lib.hid (then_bel Hb5.out hb)
        clear hb HKA5 HSA5 HKB5 HSB5 A0 A1 A2 A3 B0 B1 B2 B3
        have hA := fun j => cell_of_row w6 w.heap.size j _ _ _ HKA6.out
        have A0 := hA 0; have A1 := hA 1; have A2 := hA 2; have A3 := hA 3
        have hB := fun j => cell_of_row w6 (w.heap.size + 1) j _ _ _ HKB6.out
        have B0 := hB 0; have B1 := hB 1; have B2 := hB 2; have B3 := hB 3
        simp only [List.getElem?_toArray, List.getElem?_cons_succ, List.getElem?_cons_zero] at A0 A1 A2 A3 B0 B1 B2 B3
        clear hA hB
        go_wp2_with fail
        refine (Right_any ⟨vk, vi, vt, vs⟩ HbV.out (.slice p m c) w6 (HV.out.later Hb6.out) HSA6.out).mono ?_
        rintro e w7 ⟨rfl, hb⟩
        rw [HRv.out]
        have HKA7 := Lib.hid (keep HKA6.out hb)
        have HSA7 := Lib.hid (HSA6.out.later hb)
        have HKB7 := Lib.hid (keep HKB6.out hb)
        have HSB7 := Lib.hid (HSB6.out.later hb)
        have Hb7 := Lib.hid (then_bel Hb6.out hb)
        clear hb HKA6 HSA6 HKB6 HSB6 A0 A1 A2 A3 B0 B1 B2 B3
        have hA := fun j => cell_of_row w7 w.heap.size j _ _ _ HKA7.out
        have A0 := hA 0; have A1 := hA 1; have A2 := hA 2; have A3 := hA 3
        have hB := fun j => cell_of_row w7 (w.heap.size + 1) j _ _ _ HKB7.out
        have B0 := hB 0; have B1 := hB 1; have B2 := hB 2; have B3 := hB 3
        simp only [List.getElem?_toArray, List.getElem?_cons_succ, List.getElem?_cons_zero] at A0 A1 A2 A3 B0 B1 B2 B3
        clear hA hB
        go_wp2_with fail
        refine (Parse_any vk (B TV) HlV.out w7 (HV.out.later Hb7.out)).mono ?_
        rintro e w8 ⟨⟨slz, rfl, hfz⟩, hb⟩
        rw [HyV.out] at hfz ⊢
        obtain ⟨pz, mz, cz, rfl⟩ := hfz.shape
        have HSz := Lib.hid hfz.strs
        clear hfz
        unfold res rep
        simp only
        have HKA8 := Lib.hid (keep HKA7.out hb)
        have HSA8 := Lib.hid (HSA7.out.later hb)
        have HKB8 := Lib.hid (keep HKB7.out hb)
        have HSB8 := Lib.hid (HSB7.out.later hb)
        have Hb8 := Lib.hid (then_bel Hb7.out hb)
        clear hb HKA7 HSA7 HKB7 HSB7 A0 A1 A2 A3 B0 B1 B2 B3
        have hA := fun j => cell_of_row w8 w.heap.size j _ _ _ HKA8.out
        have A0 := hA 0; have A1 := hA 1; have A2 := hA 2; have A3 := hA 3
        have hB := fun j => cell_of_row w8 (w.heap.size + 1) j _ _ _ HKB8.out
        have B0 := hB 0; have B1 := hB 1; have B2 := hB 2; have B3 := hB 3
        simp only [List.getElem?_toArray, List.getElem?_cons_succ, List.getElem?_cons_zero] at A0 A1 A2 A3 B0 B1 B2 B3
        clear hA hB
        obtain ⟨w9, hw9⟩ : ∃ w9, w9 = w8.alloc (.cells #[.int .i64 vk, .int .i64 vi, .string vt, .slice pz mz cz] 45) := ⟨_, rfl⟩
        have hal : Below w8.heap.size w8 w9 := by rw [hw9]; exact (Below.refl _ _).alloc (Nat.le_refl _) _
        have HKA9 := Lib.hid (keep HKA8.out hal)
        have HSA9 := Lib.hid (HSA8.out.later hal)
        have HKB9 := Lib.hid (keep HKB8.out hal)
        have HSB9 := Lib.hid (HSB8.out.later hal)
        have Hb9 := Lib.hid (then_bel Hb8.out hal)
        have HKZ9 : Hid (w9.heap[w8.heap.size]? = some (.cells #[.int .i64 vk, .int .i64 vi, .string vt, .slice pz mz cz] 45)) := Lib.hid (by rw [hw9]; exact heap_alloc_new w8 _)
        have HSZ9 := Lib.hid (HSz.out.later hal)
        clear hal HKA8 HSA8 HKB8 HSB8 A0 A1 A2 A3 B0 B1 B2 B3
        have hA := fun j => cell_of_row w9 w.heap.size j _ _ _ HKA9.out
        have A0 := hA 0; have A1 := hA 1; have A2 := hA 2; have A3 := hA 3
        have hB := fun j => cell_of_row w9 (w.heap.size + 1) j _ _ _ HKB9.out
        have B0 := hB 0; have B1 := hB 1; have B2 := hB 2; have B3 := hB 3
        have hZ := fun j => cell_of_row w9 w8.heap.size j _ _ _ HKZ9.out
        have Z0 := hZ 0; have Z1 := hZ 1; have Z2 := hZ 2; have Z3 := hZ 3
        simp only [List.getElem?_toArray, List.getElem?_cons_succ, List.getElem?_cons_zero] at A0 A1 A2 A3 B0 B1 B2 B3 Z0 Z1 Z2 Z3
        clear hA hB hZ
        have HW9 := Lib.hid hw9
        rw [hw9] at A0 A1 A2 A3 B0 B1 B2 B3 Z0 Z1 Z2 Z3
        clear hw9
        go_wp2_with fail
        rw [← HW9.out]
        refine (Same_any ⟨vk, vi, vt, vs⟩ ⟨vk, vi, vt, vs⟩ (.slice pz mz cz) (.slice p m c) w9 HSZ9.out HSA9.out HbV.out.words HbV.out.words).mono ?_
        rintro e w10 ⟨rfl, hb⟩
        rw [decide_eq_true (rfl : (⟨vk, vi, vt, vs⟩ : Val) = _)]
        have HKA10 := Lib.hid (keep HKA9.out hb)
        have HSA10 := Lib.hid (HSA9.out.later hb)
        have HKB10 := Lib.hid (keep HKB9.out hb)
        have HSB10 := Lib.hid (HSB9.out.later hb)
        have HKZ10 := Lib.hid (keep HKZ9.out hb)
        have HSZ10 := Lib.hid (HSZ9.out.later hb)
        have Hb10 := Lib.hid (then_bel Hb9.out hb)
        clear hb HKA9 HSA9 HKB9 HSB9 HKZ9 HSZ9 A0 A1 A2 A3 B0 B1 B2 B3 Z0 Z1 Z2 Z3
        have hA := fun j => cell_of_row w10 w.heap.size j _ _ _ HKA10.out
        have A0 := hA 0; have A1 := hA 1; have A2 := hA 2; have A3 := hA 3
        have hB := fun j => cell_of_row w10 (w.heap.size + 1) j _ _ _ HKB10.out
        have B0 := hB 0; have B1 := hB 1; have B2 := hB 2; have B3 := hB 3
        have hZ := fun j => cell_of_row w10 w8.heap.size j _ _ _ HKZ10.out
        have Z0 := hZ 0; have Z1 := hZ 1; have Z2 := hZ 2; have Z3 := hZ 3
        simp only [List.getElem?_toArray, List.getElem?_cons_succ, List.getElem?_cons_zero] at A0 A1 A2 A3 B0 B1 B2 B3 Z0 Z1 Z2 Z3
        clear hA hB hZ
        by_cases hg : gx = 0
        · subst hg
          obtain ⟨hr, hk⟩ := HX0.out rfl
          have hX1 := HX1.out rfl
          rw [hk] at hr hX1
          have HX2 : Hid (parse wordL k s.data.toList = (⟨k, xi, xt, xs⟩, 0)) := Lib.hid (by rw [HX.out, hk])
          have HrX := Lib.hid hr
          have HbX := Lib.hid (vb_right hr)
          obtain ⟨PL, hPL⟩ : ∃ PL, prints ⟨k, xi, xt, xs⟩ = PL := ⟨_, rfl⟩
          have HpX : Hid (print wordL ⟨k, xi, xt, xs⟩ = (PL, 0)) := Lib.hid (by rw [print_t hr, hPL])
          have HyX : Hid (parse wordL k (B PL).data.toList = (⟨k, xi, xt, xs⟩, 0)) := Lib.hid (by
            have := parse_prints wordL_is hr
            rw [hPL] at this
            exact this)
          have HlX : Hid ((B PL).size ≤ 2147483647) := Lib.hid (by
            have := prints_len hr
            rw [hPL] at this
            show PL.toArray.size ≤ _
            simp
            omega)
          have HexX : Hid (((k != 2) = true ∧ (k != 5) = true ∧ (k != 6) = true) ∨ ((k = 2 ∨ k = 5 ∨ k = 6) ∧ (PL == s.toList) = true)) := Lib.hid (by
            by_cases h : k = 2 ∨ k = 5 ∨ k = 6
            · refine .inr ⟨h, ?_⟩
              rw [ByteArray.toList_eq, ← hX1 h, hPL]
              simp
            · exact .inl ⟨by simp; omega, by simp; omega, by simp; omega⟩)
          clear hr hk hX1 hPL
          go_wp2_with fail
          refine (Parse_any k s hs2 w10 (HV.out.later Hb10.out)).mono ?_
          rintro e w11 ⟨⟨slx, rfl, hfx⟩, hb⟩
          rw [HX2.out] at hfx ⊢
          obtain ⟨px, mx, cx, rfl⟩ := hfx.shape
          have HSx := Lib.hid hfx.strs
          clear hfx
          unfold res rep
          simp only
          have HKA11 := Lib.hid (keep HKA10.out hb)
          have HSA11 := Lib.hid (HSA10.out.later hb)
          have HKB11 := Lib.hid (keep HKB10.out hb)
          have HSB11 := Lib.hid (HSB10.out.later hb)
          have HKZ11 := Lib.hid (keep HKZ10.out hb)
          have HSZ11 := Lib.hid (HSZ10.out.later hb)
          have Hb11 := Lib.hid (then_bel Hb10.out hb)
          clear hb HKA10 HSA10 HKB10 HSB10 HKZ10 HSZ10 A0 A1 A2 A3 B0 B1 B2 B3 Z0 Z1 Z2 Z3
          have hA := fun j => cell_of_row w11 w.heap.size j _ _ _ HKA11.out
          have A0 := hA 0; have A1 := hA 1; have A2 := hA 2; have A3 := hA 3
          have hB := fun j => cell_of_row w11 (w.heap.size + 1) j _ _ _ HKB11.out
          have B0 := hB 0; have B1 := hB 1; have B2 := hB 2; have B3 := hB 3
          have hZ := fun j => cell_of_row w11 w8.heap.size j _ _ _ HKZ11.out
          have Z0 := hZ 0; have Z1 := hZ 1; have Z2 := hZ 2; have Z3 := hZ 3
          simp only [List.getElem?_toArray, List.getElem?_cons_succ, List.getElem?_cons_zero] at A0 A1 A2 A3 B0 B1 B2 B3 Z0 Z1 Z2 Z3
          clear hA hB hZ
          obtain ⟨w12, hw12⟩ : ∃ w12, w12 = w11.alloc (.cells #[.int .i64 k, .int .i64 xi, .string xt, .slice px mx cx] 45) := ⟨_, rfl⟩
          have hal : Below w11.heap.size w11 w12 := by rw [hw12]; exact (Below.refl _ _).alloc (Nat.le_refl _) _
          have HKA12 := Lib.hid (keep HKA11.out hal)
          have HSA12 := Lib.hid (HSA11.out.later hal)
          have HKB12 := Lib.hid (keep HKB11.out hal)
          have HSB12 := Lib.hid (HSB11.out.later hal)
          have HKZ12 := Lib.hid (keep HKZ11.out hal)
          have HSZ12 := Lib.hid (HSZ11.out.later hal)
          have Hb12 := Lib.hid (then_bel Hb11.out hal)
          have HKX12 : Hid (w12.heap[w11.heap.size]? = some (.cells #[.int .i64 k, .int .i64 xi, .string xt, .slice px mx cx] 45)) := Lib.hid (by rw [hw12]; exact heap_alloc_new w11 _)
          have HSX12 := Lib.hid (HSx.out.later hal)
          clear hal HKA11 HSA11 HKB11 HSB11 HKZ11 HSZ11 A0 A1 A2 A3 B0 B1 B2 B3 Z0 Z1 Z2 Z3
          have hA := fun j => cell_of_row w12 w.heap.size j _ _ _ HKA12.out
          have A0 := hA 0; have A1 := hA 1; have A2 := hA 2; have A3 := hA 3
          have hB := fun j => cell_of_row w12 (w.heap.size + 1) j _ _ _ HKB12.out
          have B0 := hB 0; have B1 := hB 1; have B2 := hB 2; have B3 := hB 3
          have hZ := fun j => cell_of_row w12 w8.heap.size j _ _ _ HKZ12.out
          have Z0 := hZ 0; have Z1 := hZ 1; have Z2 := hZ 2; have Z3 := hZ 3
          have hX := fun j => cell_of_row w12 w11.heap.size j _ _ _ HKX12.out
          have X0 := hX 0; have X1 := hX 1; have X2 := hX 2; have X3 := hX 3
          simp only [List.getElem?_toArray, List.getElem?_cons_succ, List.getElem?_cons_zero] at A0 A1 A2 A3 B0 B1 B2 B3 Z0 Z1 Z2 Z3 X0 X1 X2 X3
          clear hA hB hZ hX
          have HW12 := Lib.hid hw12
          rw [hw12] at A0 A1 A2 A3 B0 B1 B2 B3 Z0 Z1 Z2 Z3 X0 X1 X2 X3
          clear hw12
          go_wp2_with fail
          rw [← HW12.out]
          refine (Right_any ⟨k, xi, xt, xs⟩ HbX.out (.slice px mx cx) w12 (HV.out.later Hb12.out) HSX12.out).mono ?_
          rintro e w13 ⟨rfl, hb⟩
          rw [HrX.out]
          have HKA13 := Lib.hid (keep HKA12.out hb)
          have HSA13 := Lib.hid (HSA12.out.later hb)
          have HKB13 := Lib.hid (keep HKB12.out hb)
          have HSB13 := Lib.hid (HSB12.out.later hb)
          have HKZ13 := Lib.hid (keep HKZ12.out hb)
          have HSZ13 := Lib.hid (HSZ12.out.later hb)
          have HKX13 := Lib.hid (keep HKX12.out hb)
          have HSX13 := Lib.hid (HSX12.out.later hb)
          have Hb13 := Lib.hid (then_bel Hb12.out hb)
          clear hb HKA12 HSA12 HKB12 HSB12 HKZ12 HSZ12 HKX12 HSX12 A0 A1 A2 A3 B0 B1 B2 B3 Z0 Z1 Z2 Z3 X0 X1 X2 X3
          have hA := fun j => cell_of_row w13 w.heap.size j _ _ _ HKA13.out
          have A0 := hA 0; have A1 := hA 1; have A2 := hA 2; have A3 := hA 3
          have hB := fun j => cell_of_row w13 (w.heap.size + 1) j _ _ _ HKB13.out
          have B0 := hB 0; have B1 := hB 1; have B2 := hB 2; have B3 := hB 3
          have hZ := fun j => cell_of_row w13 w8.heap.size j _ _ _ HKZ13.out
          have Z0 := hZ 0; have Z1 := hZ 1; have Z2 := hZ 2; have Z3 := hZ 3
          have hX := fun j => cell_of_row w13 w11.heap.size j _ _ _ HKX13.out
          have X0 := hX 0; have X1 := hX 1; have X2 := hX 2; have X3 := hX 3
          simp only [List.getElem?_toArray, List.getElem?_cons_succ, List.getElem?_cons_zero] at A0 A1 A2 A3 B0 B1 B2 B3 Z0 Z1 Z2 Z3 X0 X1 X2 X3
          clear hA hB hZ hX
          go_wp2_with fail
          refine (Print_any ⟨k, xi, xt, xs⟩ HbX.out (.slice px mx cx) w13 (HV.out.later Hb13.out) HSX13.out).mono ?_
          rintro e w14 ⟨he, hb⟩
          unfold PrintOut at he
          rw [HpX.out] at he
          subst he
          have HKA14 := Lib.hid (keep HKA13.out hb)
          have HSA14 := Lib.hid (HSA13.out.later hb)
          have HKB14 := Lib.hid (keep HKB13.out hb)
          have HSB14 := Lib.hid (HSB13.out.later hb)
          have HKZ14 := Lib.hid (keep HKZ13.out hb)
          have HSZ14 := Lib.hid (HSZ13.out.later hb)
          have HKX14 := Lib.hid (keep HKX13.out hb)
          have HSX14 := Lib.hid (HSX13.out.later hb)
          have Hb14 := Lib.hid (then_bel Hb13.out hb)
          clear hb HKA13 HSA13 HKB13 HSB13 HKZ13 HSZ13 HKX13 HSX13 A0 A1 A2 A3 B0 B1 B2 B3 Z0 Z1 Z2 Z3 X0 X1 X2 X3
          have hA := fun j => cell_of_row w14 w.heap.size j _ _ _ HKA14.out
          have A0 := hA 0; have A1 := hA 1; have A2 := hA 2; have A3 := hA 3
          have hB := fun j => cell_of_row w14 (w.heap.size + 1) j _ _ _ HKB14.out
          have B0 := hB 0; have B1 := hB 1; have B2 := hB 2; have B3 := hB 3
          have hZ := fun j => cell_of_row w14 w8.heap.size j _ _ _ HKZ14.out
          have Z0 := hZ 0; have Z1 := hZ 1; have Z2 := hZ 2; have Z3 := hZ 3
          have hX := fun j => cell_of_row w14 w11.heap.size j _ _ _ HKX14.out
          have X0 := hX 0; have X1 := hX 1; have X2 := hX 2; have X3 := hX 3
          simp only [List.getElem?_toArray, List.getElem?_cons_succ, List.getElem?_cons_zero] at A0 A1 A2 A3 B0 B1 B2 B3 Z0 Z1 Z2 Z3 X0 X1 X2 X3
          clear hA hB hZ hX
          go_wp2_with fail
          refine (Parse_any k (B PL) HlX.out w14 (HV.out.later Hb14.out)).mono ?_
          rintro e w15 ⟨⟨sly, rfl, hfy⟩, hb⟩
          rw [HyX.out] at hfy ⊢
          obtain ⟨py, my, cy, rfl⟩ := hfy.shape
          have HSy := Lib.hid hfy.strs
          clear hfy
          unfold res rep
          simp only
          have HKA15 := Lib.hid (keep HKA14.out hb)
          have HSA15 := Lib.hid (HSA14.out.later hb)
          have HKB15 := Lib.hid (keep HKB14.out hb)
          have HSB15 := Lib.hid (HSB14.out.later hb)
          have HKZ15 := Lib.hid (keep HKZ14.out hb)
          have HSZ15 := Lib.hid (HSZ14.out.later hb)
          have HKX15 := Lib.hid (keep HKX14.out hb)
          have HSX15 := Lib.hid (HSX14.out.later hb)
          have Hb15 := Lib.hid (then_bel Hb14.out hb)
          clear hb HKA14 HSA14 HKB14 HSB14 HKZ14 HSZ14 HKX14 HSX14 A0 A1 A2 A3 B0 B1 B2 B3 Z0 Z1 Z2 Z3 X0 X1 X2 X3
          have hA := fun j => cell_of_row w15 w.heap.size j _ _ _ HKA15.out
          have A0 := hA 0; have A1 := hA 1; have A2 := hA 2; have A3 := hA 3
          have hB := fun j => cell_of_row w15 (w.heap.size + 1) j _ _ _ HKB15.out
          have B0 := hB 0; have B1 := hB 1; have B2 := hB 2; have B3 := hB 3
          have hZ := fun j => cell_of_row w15 w8.heap.size j _ _ _ HKZ15.out
          have Z0 := hZ 0; have Z1 := hZ 1; have Z2 := hZ 2; have Z3 := hZ 3
          have hX := fun j => cell_of_row w15 w11.heap.size j _ _ _ HKX15.out
          have X0 := hX 0; have X1 := hX 1; have X2 := hX 2; have X3 := hX 3
          simp only [List.getElem?_toArray, List.getElem?_cons_succ, List.getElem?_cons_zero] at A0 A1 A2 A3 B0 B1 B2 B3 Z0 Z1 Z2 Z3 X0 X1 X2 X3
          clear hA hB hZ hX
          obtain ⟨w16, hw16⟩ : ∃ w16, w16 = w15.alloc (.cells #[.int .i64 k, .int .i64 xi, .string xt, .slice py my cy] 45) := ⟨_, rfl⟩
          have hal : Below w15.heap.size w15 w16 := by rw [hw16]; exact (Below.refl _ _).alloc (Nat.le_refl _) _
          have HKA16 := Lib.hid (keep HKA15.out hal)
          have HSA16 := Lib.hid (HSA15.out.later hal)
          have HKB16 := Lib.hid (keep HKB15.out hal)
          have HSB16 := Lib.hid (HSB15.out.later hal)
          have HKZ16 := Lib.hid (keep HKZ15.out hal)
          have HSZ16 := Lib.hid (HSZ15.out.later hal)
          have HKX16 := Lib.hid (keep HKX15.out hal)
          have HSX16 := Lib.hid (HSX15.out.later hal)
          have Hb16 := Lib.hid (then_bel Hb15.out hal)
          have HKY16 : Hid (w16.heap[w15.heap.size]? = some (.cells #[.int .i64 k, .int .i64 xi, .string xt, .slice py my cy] 45)) := Lib.hid (by rw [hw16]; exact heap_alloc_new w15 _)
          have HSY16 := Lib.hid (HSy.out.later hal)
          clear hal HKA15 HSA15 HKB15 HSB15 HKZ15 HSZ15 HKX15 HSX15 A0 A1 A2 A3 B0 B1 B2 B3 Z0 Z1 Z2 Z3 X0 X1 X2 X3
          have hA := fun j => cell_of_row w16 w.heap.size j _ _ _ HKA16.out
          have A0 := hA 0; have A1 := hA 1; have A2 := hA 2; have A3 := hA 3
          have hB := fun j => cell_of_row w16 (w.heap.size + 1) j _ _ _ HKB16.out
          have B0 := hB 0; have B1 := hB 1; have B2 := hB 2; have B3 := hB 3
          have hZ := fun j => cell_of_row w16 w8.heap.size j _ _ _ HKZ16.out
          have Z0 := hZ 0; have Z1 := hZ 1; have Z2 := hZ 2; have Z3 := hZ 3
          have hX := fun j => cell_of_row w16 w11.heap.size j _ _ _ HKX16.out
          have X0 := hX 0; have X1 := hX 1; have X2 := hX 2; have X3 := hX 3
          have hY := fun j => cell_of_row w16 w15.heap.size j _ _ _ HKY16.out
          have Y0 := hY 0; have Y1 := hY 1; have Y2 := hY 2; have Y3 := hY 3
          simp only [List.getElem?_toArray, List.getElem?_cons_succ, List.getElem?_cons_zero] at A0 A1 A2 A3 B0 B1 B2 B3 Z0 Z1 Z2 Z3 X0 X1 X2 X3 Y0 Y1 Y2 Y3
          clear hA hB hZ hX hY
          have HW16 := Lib.hid hw16
          rw [hw16] at A0 A1 A2 A3 B0 B1 B2 B3 Z0 Z1 Z2 Z3 X0 X1 X2 X3 Y0 Y1 Y2 Y3
          clear hw16
          go_wp2_with fail
          rw [← HW16.out]
          refine (Print_any ⟨k, xi, xt, xs⟩ HbX.out (.slice py my cy) w16 (HV.out.later Hb16.out) HSY16.out).mono ?_
          rintro e w17 ⟨he, hb⟩
          unfold PrintOut at he
          rw [HpX.out] at he
          subst he
          have HKA17 := Lib.hid (keep HKA16.out hb)
          have HSA17 := Lib.hid (HSA16.out.later hb)
          have HKB17 := Lib.hid (keep HKB16.out hb)
          have HSB17 := Lib.hid (HSB16.out.later hb)
          have HKZ17 := Lib.hid (keep HKZ16.out hb)
          have HSZ17 := Lib.hid (HSZ16.out.later hb)
          have HKX17 := Lib.hid (keep HKX16.out hb)
          have HSX17 := Lib.hid (HSX16.out.later hb)
          have HKY17 := Lib.hid (keep HKY16.out hb)
          have HSY17 := Lib.hid (HSY16.out.later hb)
          have Hb17 := Lib.hid (then_bel Hb16.out hb)
          clear hb HKA16 HSA16 HKB16 HSB16 HKZ16 HSZ16 HKX16 HSX16 HKY16 HSY16 A0 A1 A2 A3 B0 B1 B2 B3 Z0 Z1 Z2 Z3 X0 X1 X2 X3 Y0 Y1 Y2 Y3
          have hA := fun j => cell_of_row w17 w.heap.size j _ _ _ HKA17.out
          have A0 := hA 0; have A1 := hA 1; have A2 := hA 2; have A3 := hA 3
          have hB := fun j => cell_of_row w17 (w.heap.size + 1) j _ _ _ HKB17.out
          have B0 := hB 0; have B1 := hB 1; have B2 := hB 2; have B3 := hB 3
          have hZ := fun j => cell_of_row w17 w8.heap.size j _ _ _ HKZ17.out
          have Z0 := hZ 0; have Z1 := hZ 1; have Z2 := hZ 2; have Z3 := hZ 3
          have hX := fun j => cell_of_row w17 w11.heap.size j _ _ _ HKX17.out
          have X0 := hX 0; have X1 := hX 1; have X2 := hX 2; have X3 := hX 3
          have hY := fun j => cell_of_row w17 w15.heap.size j _ _ _ HKY17.out
          have Y0 := hY 0; have Y1 := hY 1; have Y2 := hY 2; have Y3 := hY 3
          simp only [List.getElem?_toArray, List.getElem?_cons_succ, List.getElem?_cons_zero] at A0 A1 A2 A3 B0 B1 B2 B3 Z0 Z1 Z2 Z3 X0 X1 X2 X3 Y0 Y1 Y2 Y3
          clear hA hB hZ hX hY
          go_wp2_with fail
          refine (Same_any ⟨k, xi, xt, xs⟩ ⟨k, xi, xt, xs⟩ (.slice px mx cx) (.slice py my cy) w17 HSX17.out HSY17.out HbX.out.words HbX.out.words).mono ?_
          rintro e w18 ⟨rfl, hb⟩
          rw [decide_eq_true (rfl : (⟨k, xi, xt, xs⟩ : Val) = _)]
          have HKA18 := Lib.hid (keep HKA17.out hb)
          have HSA18 := Lib.hid (HSA17.out.later hb)
          have HKB18 := Lib.hid (keep HKB17.out hb)
          have HSB18 := Lib.hid (HSB17.out.later hb)
          have HKZ18 := Lib.hid (keep HKZ17.out hb)
          have HSZ18 := Lib.hid (HSZ17.out.later hb)
          have HKX18 := Lib.hid (keep HKX17.out hb)
          have HSX18 := Lib.hid (HSX17.out.later hb)
          have HKY18 := Lib.hid (keep HKY17.out hb)
          have HSY18 := Lib.hid (HSY17.out.later hb)
          have Hb18 := Lib.hid (then_bel Hb17.out hb)
          clear hb HKA17 HSA17 HKB17 HSB17 HKZ17 HSZ17 HKX17 HSX17 HKY17 HSY17 A0 A1 A2 A3 B0 B1 B2 B3 Z0 Z1 Z2 Z3 X0 X1 X2 X3 Y0 Y1 Y2 Y3
          have hA := fun j => cell_of_row w18 w.heap.size j _ _ _ HKA18.out
          have A0 := hA 0; have A1 := hA 1; have A2 := hA 2; have A3 := hA 3
          have hB := fun j => cell_of_row w18 (w.heap.size + 1) j _ _ _ HKB18.out
          have B0 := hB 0; have B1 := hB 1; have B2 := hB 2; have B3 := hB 3
          have hZ := fun j => cell_of_row w18 w8.heap.size j _ _ _ HKZ18.out
          have Z0 := hZ 0; have Z1 := hZ 1; have Z2 := hZ 2; have Z3 := hZ 3
          have hX := fun j => cell_of_row w18 w11.heap.size j _ _ _ HKX18.out
          have X0 := hX 0; have X1 := hX 1; have X2 := hX 2; have X3 := hX 3
          have hY := fun j => cell_of_row w18 w15.heap.size j _ _ _ HKY18.out
          have Y0 := hY 0; have Y1 := hY 1; have Y2 := hY 2; have Y3 := hY 3
          simp only [List.getElem?_toArray, List.getElem?_cons_succ, List.getElem?_cons_zero] at A0 A1 A2 A3 B0 B1 B2 B3 Z0 Z1 Z2 Z3 X0 X1 X2 X3 Y0 Y1 Y2 Y3
          clear hA hB hZ hX hY
          rcases HexX.out with ⟨q2, q5, q6⟩ | ⟨qk, hps⟩
          · go_wp2_with fail
            go_ret
            exact ⟨rfl, Hb18.out⟩
          · rcases qk with rfl | rfl | rfl
            · go_wp2_with fail
              go_ret
              exact ⟨rfl, Hb18.out⟩
            · go_wp2_with fail
              go_ret
              exact ⟨rfl, Hb18.out⟩
            · go_wp2_with fail
              go_ret
              exact ⟨rfl, Hb18.out⟩
        · have hg' : (gx != 0) = true := by simp [hg]
          go_wp2_with fail
          refine (Parse_any k s hs2 w10 (HV.out.later Hb10.out)).mono ?_
          rintro e w11 ⟨⟨slx, rfl, hfx⟩, hb⟩
          rw [HX.out] at hfx ⊢
          obtain ⟨px, mx, cx, rfl⟩ := hfx.shape
          unfold res rep
          simp only
          clear hfx
          have HKA11 := Lib.hid (keep HKA10.out hb)
          have HSA11 := Lib.hid (HSA10.out.later hb)
          have HKB11 := Lib.hid (keep HKB10.out hb)
          have HSB11 := Lib.hid (HSB10.out.later hb)
          have HKZ11 := Lib.hid (keep HKZ10.out hb)
          have HSZ11 := Lib.hid (HSZ10.out.later hb)
          have Hb11 := Lib.hid (then_bel Hb10.out hb)
          clear hb HKA10 HSA10 HKB10 HSB10 HKZ10 HSZ10 A0 A1 A2 A3 B0 B1 B2 B3 Z0 Z1 Z2 Z3
          have hA := fun j => cell_of_row w11 w.heap.size j _ _ _ HKA11.out
          have A0 := hA 0; have A1 := hA 1; have A2 := hA 2; have A3 := hA 3
          have hB := fun j => cell_of_row w11 (w.heap.size + 1) j _ _ _ HKB11.out
          have B0 := hB 0; have B1 := hB 1; have B2 := hB 2; have B3 := hB 3
          have hZ := fun j => cell_of_row w11 w8.heap.size j _ _ _ HKZ11.out
          have Z0 := hZ 0; have Z1 := hZ 1; have Z2 := hZ 2; have Z3 := hZ 3
          simp only [List.getElem?_toArray, List.getElem?_cons_succ, List.getElem?_cons_zero] at A0 A1 A2 A3 B0 B1 B2 B3 Z0 Z1 Z2 Z3
          clear hA hB hZ
          go_wp2_with fail
          go_ret
          exact ⟨rfl, (Hb11.out).alloc (Hb11.out).size _⟩
      | true =>
        obtain ⟨TU, hTU⟩ : ∃ TU, prints ⟨uk, ui, ut, us⟩ = TU := ⟨_, rfl⟩
        have HPu : Hid (print wordL ⟨uk, ui, ut, us⟩ = (TU, 0)) := Lib.hid (by rw [print_t hru, hTU])
        have HInj : Hid (vk = uk → TV = TU → (⟨vk, vi, vt, vs⟩ : Val) = ⟨uk, ui, ut, us⟩) := Lib.hid (fun hk h => prints_inj wordL_is hrv hru hk (by rw [hTV, hTU, h]))
        have HBack : Hid ((⟨vk, vi, vt, vs⟩ : Val) = ⟨uk, ui, ut, us⟩ → TV = TU) := Lib.hid (fun h => by rw [← hTV, ← hTU, h])
        clear hrv hru hTV hTU
        by_cases hku : vk = uk
        · have hku' : (vk == uk) = true := by simp [hku]
          by_cases heq : (⟨vk, vi, vt, vs⟩ : Val) = ⟨uk, ui, ut, us⟩
          · have HEq : Hid (decide ((⟨vk, vi, vt, vs⟩ : Val) = ⟨uk, ui, ut, us⟩) = true) := Lib.hid (decide_eq_true heq)
            have hTT : (TV == TU) = true := by simp [HBack.out heq]
            clear heq hku
            go_wp2_with fail
            refine (awake_any w3 (HV.out.later Hb3.out)).mono ?_
            rintro e w4 ⟨rfl, hb⟩
            have HKA4 := Lib.hid (keep HKA3.out hb)
            have HSA4 := Lib.hid (HSA3.out.later hb)
            have HKB4 := Lib.hid (keep HKB3.out hb)
            have HSB4 := Lib.hid (HSB3.out.later hb)
            have Hb4 := Lib.hid (then_bel Hb3.out hb)
            clear hb HKA3 HSA3 HKB3 HSB3 A0 A1 A2 A3 B0 B1 B2 B3
            have hA := fun j => cell_of_row w4 w.heap.size j _ _ _ HKA4.out
            have A0 := hA 0; have A1 := hA 1; have A2 := hA 2; have A3 := hA 3
            have hB := fun j => cell_of_row w4 (w.heap.size + 1) j _ _ _ HKB4.out
            have B0 := hB 0; have B1 := hB 1; have B2 := hB 2; have B3 := hB 3
            simp only [List.getElem?_toArray, List.getElem?_cons_succ, List.getElem?_cons_zero] at A0 A1 A2 A3 B0 B1 B2 B3
            clear hA hB
            go_wp2_with fail
            refine (Print_any ⟨vk, vi, vt, vs⟩ HbV.out (.slice p m c) w4 (HV.out.later Hb4.out) HSA4.out).mono ?_
            rintro e w5 ⟨he, hb⟩
            unfold PrintOut at he
            rw [HPv.out] at he
            subst he
            have HKA5 := Lib.hid (keep HKA4.out hb)
            have HSA5 := Lib.hid (HSA4.out.later hb)
            have HKB5 := Lib.hid (keep HKB4.out hb)
            have HSB5 := Lib.hid (HSB4.out.later hb)
            have Hb5 := Lib.hid (then_bel Hb4.out hb)
            clear hb HKA4 HSA4 HKB4 HSB4 A0 A1 A2 A3 B0 B1 B2 B3
            have hA := fun j => cell_of_row w5 w.heap.size j _ _ _ HKA5.out
            have A0 := hA 0; have A1 := hA 1; have A2 := hA 2; have A3 := hA 3
            have hB := fun j => cell_of_row w5 (w.heap.size + 1) j _ _ _ HKB5.out
            have B0 := hB 0; have B1 := hB 1; have B2 := hB 2; have B3 := hB 3
            simp only [List.getElem?_toArray, List.getElem?_cons_succ, List.getElem?_cons_zero] at A0 A1 A2 A3 B0 B1 B2 B3
            clear hA hB
            go_wp2_with fail
            refine (Print_any ⟨uk, ui, ut, us⟩ HbU.out (.slice p' m' c') w5 (HV.out.later Hb5.out) HSB5.out).mono ?_
            rintro e w6 ⟨he, hb⟩
            unfold PrintOut at he
            rw [HPu.out] at he
            subst he
            have HKA6 := Lib.hid (keep HKA5.out hb)
            have HSA6 := Lib.hid (HSA5.out.later hb)
            have HKB6 := Lib.hid (keep HKB5.out hb)
            have HSB6 := Lib.hid (HSB5.out.later hb)
            have Hb6 := Lib.hid (then_bel Hb5.out hb)
            clear hb HKA5 HSA5 HKB5 HSB5 A0 A1 A2 A3 B0 B1 B2 B3
            have hA := fun j => cell_of_row w6 w.heap.size j _ _ _ HKA6.out
            have A0 := hA 0; have A1 := hA 1; have A2 := hA 2; have A3 := hA 3
            have hB := fun j => cell_of_row w6 (w.heap.size + 1) j _ _ _ HKB6.out
            have B0 := hB 0; have B1 := hB 1; have B2 := hB 2; have B3 := hB 3
            simp only [List.getElem?_toArray, List.getElem?_cons_succ, List.getElem?_cons_zero] at A0 A1 A2 A3 B0 B1 B2 B3
            clear hA hB
            go_wp2_with fail
            refine (Right_any ⟨vk, vi, vt, vs⟩ HbV.out (.slice p m c) w6 (HV.out.later Hb6.out) HSA6.out).mono ?_
            rintro e w7 ⟨rfl, hb⟩
            rw [HRv.out]
            have HKA7 := Lib.hid (keep HKA6.out hb)
            have HSA7 := Lib.hid (HSA6.out.later hb)
            have HKB7 := Lib.hid (keep HKB6.out hb)
            have HSB7 := Lib.hid (HSB6.out.later hb)
            have Hb7 := Lib.hid (then_bel Hb6.out hb)
            clear hb HKA6 HSA6 HKB6 HSB6 A0 A1 A2 A3 B0 B1 B2 B3
            have hA := fun j => cell_of_row w7 w.heap.size j _ _ _ HKA7.out
            have A0 := hA 0; have A1 := hA 1; have A2 := hA 2; have A3 := hA 3
            have hB := fun j => cell_of_row w7 (w.heap.size + 1) j _ _ _ HKB7.out
            have B0 := hB 0; have B1 := hB 1; have B2 := hB 2; have B3 := hB 3
            simp only [List.getElem?_toArray, List.getElem?_cons_succ, List.getElem?_cons_zero] at A0 A1 A2 A3 B0 B1 B2 B3
            clear hA hB
            go_wp2_with fail
            refine (Parse_any vk (B TV) HlV.out w7 (HV.out.later Hb7.out)).mono ?_
            rintro e w8 ⟨⟨slz, rfl, hfz⟩, hb⟩
            rw [HyV.out] at hfz ⊢
            obtain ⟨pz, mz, cz, rfl⟩ := hfz.shape
            have HSz := Lib.hid hfz.strs
            clear hfz
            unfold res rep
            simp only
            have HKA8 := Lib.hid (keep HKA7.out hb)
            have HSA8 := Lib.hid (HSA7.out.later hb)
            have HKB8 := Lib.hid (keep HKB7.out hb)
            have HSB8 := Lib.hid (HSB7.out.later hb)
            have Hb8 := Lib.hid (then_bel Hb7.out hb)
            clear hb HKA7 HSA7 HKB7 HSB7 A0 A1 A2 A3 B0 B1 B2 B3
            have hA := fun j => cell_of_row w8 w.heap.size j _ _ _ HKA8.out
            have A0 := hA 0; have A1 := hA 1; have A2 := hA 2; have A3 := hA 3
            have hB := fun j => cell_of_row w8 (w.heap.size + 1) j _ _ _ HKB8.out
            have B0 := hB 0; have B1 := hB 1; have B2 := hB 2; have B3 := hB 3
            simp only [List.getElem?_toArray, List.getElem?_cons_succ, List.getElem?_cons_zero] at A0 A1 A2 A3 B0 B1 B2 B3
            clear hA hB
            obtain ⟨w9, hw9⟩ : ∃ w9, w9 = w8.alloc (.cells #[.int .i64 vk, .int .i64 vi, .string vt, .slice pz mz cz] 45) := ⟨_, rfl⟩
            have hal : Below w8.heap.size w8 w9 := by rw [hw9]; exact (Below.refl _ _).alloc (Nat.le_refl _) _
            have HKA9 := Lib.hid (keep HKA8.out hal)
            have HSA9 := Lib.hid (HSA8.out.later hal)
            have HKB9 := Lib.hid (keep HKB8.out hal)
            have HSB9 := Lib.hid (HSB8.out.later hal)
            have Hb9 := Lib.hid (then_bel Hb8.out hal)
            have HKZ9 : Hid (w9.heap[w8.heap.size]? = some (.cells #[.int .i64 vk, .int .i64 vi, .string vt, .slice pz mz cz] 45)) := Lib.hid (by rw [hw9]; exact heap_alloc_new w8 _)
            have HSZ9 := Lib.hid (HSz.out.later hal)
            clear hal HKA8 HSA8 HKB8 HSB8 A0 A1 A2 A3 B0 B1 B2 B3
            have hA := fun j => cell_of_row w9 w.heap.size j _ _ _ HKA9.out
            have A0 := hA 0; have A1 := hA 1; have A2 := hA 2; have A3 := hA 3
            have hB := fun j => cell_of_row w9 (w.heap.size + 1) j _ _ _ HKB9.out
            have B0 := hB 0; have B1 := hB 1; have B2 := hB 2; have B3 := hB 3
            have hZ := fun j => cell_of_row w9 w8.heap.size j _ _ _ HKZ9.out
            have Z0 := hZ 0; have Z1 := hZ 1; have Z2 := hZ 2; have Z3 := hZ 3
            simp only [List.getElem?_toArray, List.getElem?_cons_succ, List.getElem?_cons_zero] at A0 A1 A2 A3 B0 B1 B2 B3 Z0 Z1 Z2 Z3
            clear hA hB hZ
            have HW9 := Lib.hid hw9
            rw [hw9] at A0 A1 A2 A3 B0 B1 B2 B3 Z0 Z1 Z2 Z3
            clear hw9
            go_wp2_with fail
            rw [← HW9.out]
            refine (Same_any ⟨vk, vi, vt, vs⟩ ⟨vk, vi, vt, vs⟩ (.slice pz mz cz) (.slice p m c) w9 HSZ9.out HSA9.out HbV.out.words HbV.out.words).mono ?_
            rintro e w10 ⟨rfl, hb⟩
            rw [decide_eq_true (rfl : (⟨vk, vi, vt, vs⟩ : Val) = _)]
            have HKA10 := Lib.hid (keep HKA9.out hb)
            have HSA10 := Lib.hid (HSA9.out.later hb)
            have HKB10 := Lib.hid (keep HKB9.out hb)
            have HSB10 := Lib.hid (HSB9.out.later hb)
            have HKZ10 := Lib.hid (keep HKZ9.out hb)
            have HSZ10 := Lib.hid (HSZ9.out.later hb)
            have Hb10 := Lib.hid (then_bel Hb9.out hb)
            clear hb HKA9 HSA9 HKB9 HSB9 HKZ9 HSZ9 A0 A1 A2 A3 B0 B1 B2 B3 Z0 Z1 Z2 Z3
            have hA := fun j => cell_of_row w10 w.heap.size j _ _ _ HKA10.out
            have A0 := hA 0; have A1 := hA 1; have A2 := hA 2; have A3 := hA 3
            have hB := fun j => cell_of_row w10 (w.heap.size + 1) j _ _ _ HKB10.out
            have B0 := hB 0; have B1 := hB 1; have B2 := hB 2; have B3 := hB 3
            have hZ := fun j => cell_of_row w10 w8.heap.size j _ _ _ HKZ10.out
            have Z0 := hZ 0; have Z1 := hZ 1; have Z2 := hZ 2; have Z3 := hZ 3
            simp only [List.getElem?_toArray, List.getElem?_cons_succ, List.getElem?_cons_zero] at A0 A1 A2 A3 B0 B1 B2 B3 Z0 Z1 Z2 Z3
            clear hA hB hZ
            go_wp2_with fail
            refine (Same_any ⟨vk, vi, vt, vs⟩ ⟨uk, ui, ut, us⟩ (.slice p m c) (.slice p' m' c') w10 HSA10.out HSB10.out HbV.out.words HbU.out.words).mono ?_
            rintro e w11 ⟨rfl, hb⟩
            rw [HEq.out]
            have HKA11 := Lib.hid (keep HKA10.out hb)
            have HSA11 := Lib.hid (HSA10.out.later hb)
            have HKB11 := Lib.hid (keep HKB10.out hb)
            have HSB11 := Lib.hid (HSB10.out.later hb)
            have HKZ11 := Lib.hid (keep HKZ10.out hb)
            have HSZ11 := Lib.hid (HSZ10.out.later hb)
            have Hb11 := Lib.hid (then_bel Hb10.out hb)
            clear hb HKA10 HSA10 HKB10 HSB10 HKZ10 HSZ10 A0 A1 A2 A3 B0 B1 B2 B3 Z0 Z1 Z2 Z3
            have hA := fun j => cell_of_row w11 w.heap.size j _ _ _ HKA11.out
            have A0 := hA 0; have A1 := hA 1; have A2 := hA 2; have A3 := hA 3
            have hB := fun j => cell_of_row w11 (w.heap.size + 1) j _ _ _ HKB11.out
            have B0 := hB 0; have B1 := hB 1; have B2 := hB 2; have B3 := hB 3
            have hZ := fun j => cell_of_row w11 w8.heap.size j _ _ _ HKZ11.out
            have Z0 := hZ 0; have Z1 := hZ 1; have Z2 := hZ 2; have Z3 := hZ 3
            simp only [List.getElem?_toArray, List.getElem?_cons_succ, List.getElem?_cons_zero] at A0 A1 A2 A3 B0 B1 B2 B3 Z0 Z1 Z2 Z3
            clear hA hB hZ
            by_cases hg : gx = 0
            · subst hg
              obtain ⟨hr, hk⟩ := HX0.out rfl
              have hX1 := HX1.out rfl
              rw [hk] at hr hX1
              have HX2 : Hid (parse wordL k s.data.toList = (⟨k, xi, xt, xs⟩, 0)) := Lib.hid (by rw [HX.out, hk])
              have HrX := Lib.hid hr
              have HbX := Lib.hid (vb_right hr)
              obtain ⟨PL, hPL⟩ : ∃ PL, prints ⟨k, xi, xt, xs⟩ = PL := ⟨_, rfl⟩
              have HpX : Hid (print wordL ⟨k, xi, xt, xs⟩ = (PL, 0)) := Lib.hid (by rw [print_t hr, hPL])
              have HyX : Hid (parse wordL k (B PL).data.toList = (⟨k, xi, xt, xs⟩, 0)) := Lib.hid (by
                have := parse_prints wordL_is hr
                rw [hPL] at this
                exact this)
              have HlX : Hid ((B PL).size ≤ 2147483647) := Lib.hid (by
                have := prints_len hr
                rw [hPL] at this
                show PL.toArray.size ≤ _
                simp
                omega)
              have HexX : Hid (((k != 2) = true ∧ (k != 5) = true ∧ (k != 6) = true) ∨ ((k = 2 ∨ k = 5 ∨ k = 6) ∧ (PL == s.toList) = true)) := Lib.hid (by
                by_cases h : k = 2 ∨ k = 5 ∨ k = 6
                · refine .inr ⟨h, ?_⟩
                  rw [ByteArray.toList_eq, ← hX1 h, hPL]
                  simp
                · exact .inl ⟨by simp; omega, by simp; omega, by simp; omega⟩)
              clear hr hk hX1 hPL
              go_wp2_with fail
              refine (Parse_any k s hs2 w11 (HV.out.later Hb11.out)).mono ?_
              rintro e w12 ⟨⟨slx, rfl, hfx⟩, hb⟩
              rw [HX2.out] at hfx ⊢
              obtain ⟨px, mx, cx, rfl⟩ := hfx.shape
              have HSx := Lib.hid hfx.strs
              clear hfx
              unfold res rep
              simp only
              have HKA12 := Lib.hid (keep HKA11.out hb)
              have HSA12 := Lib.hid (HSA11.out.later hb)
              have HKB12 := Lib.hid (keep HKB11.out hb)
              have HSB12 := Lib.hid (HSB11.out.later hb)
              have HKZ12 := Lib.hid (keep HKZ11.out hb)
              have HSZ12 := Lib.hid (HSZ11.out.later hb)
              have Hb12 := Lib.hid (then_bel Hb11.out hb)
              clear hb HKA11 HSA11 HKB11 HSB11 HKZ11 HSZ11 A0 A1 A2 A3 B0 B1 B2 B3 Z0 Z1 Z2 Z3
              have hA := fun j => cell_of_row w12 w.heap.size j _ _ _ HKA12.out
              have A0 := hA 0; have A1 := hA 1; have A2 := hA 2; have A3 := hA 3
              have hB := fun j => cell_of_row w12 (w.heap.size + 1) j _ _ _ HKB12.out
              have B0 := hB 0; have B1 := hB 1; have B2 := hB 2; have B3 := hB 3
              have hZ := fun j => cell_of_row w12 w8.heap.size j _ _ _ HKZ12.out
              have Z0 := hZ 0; have Z1 := hZ 1; have Z2 := hZ 2; have Z3 := hZ 3
              simp only [List.getElem?_toArray, List.getElem?_cons_succ, List.getElem?_cons_zero] at A0 A1 A2 A3 B0 B1 B2 B3 Z0 Z1 Z2 Z3
              clear hA hB hZ
              obtain ⟨w13, hw13⟩ : ∃ w13, w13 = w12.alloc (.cells #[.int .i64 k, .int .i64 xi, .string xt, .slice px mx cx] 45) := ⟨_, rfl⟩
              have hal : Below w12.heap.size w12 w13 := by rw [hw13]; exact (Below.refl _ _).alloc (Nat.le_refl _) _
              have HKA13 := Lib.hid (keep HKA12.out hal)
              have HSA13 := Lib.hid (HSA12.out.later hal)
              have HKB13 := Lib.hid (keep HKB12.out hal)
              have HSB13 := Lib.hid (HSB12.out.later hal)
              have HKZ13 := Lib.hid (keep HKZ12.out hal)
              have HSZ13 := Lib.hid (HSZ12.out.later hal)
              have Hb13 := Lib.hid (then_bel Hb12.out hal)
              have HKX13 : Hid (w13.heap[w12.heap.size]? = some (.cells #[.int .i64 k, .int .i64 xi, .string xt, .slice px mx cx] 45)) := Lib.hid (by rw [hw13]; exact heap_alloc_new w12 _)
              have HSX13 := Lib.hid (HSx.out.later hal)
              clear hal HKA12 HSA12 HKB12 HSB12 HKZ12 HSZ12 A0 A1 A2 A3 B0 B1 B2 B3 Z0 Z1 Z2 Z3
              have hA := fun j => cell_of_row w13 w.heap.size j _ _ _ HKA13.out
              have A0 := hA 0; have A1 := hA 1; have A2 := hA 2; have A3 := hA 3
              have hB := fun j => cell_of_row w13 (w.heap.size + 1) j _ _ _ HKB13.out
              have B0 := hB 0; have B1 := hB 1; have B2 := hB 2; have B3 := hB 3
              have hZ := fun j => cell_of_row w13 w8.heap.size j _ _ _ HKZ13.out
              have Z0 := hZ 0; have Z1 := hZ 1; have Z2 := hZ 2; have Z3 := hZ 3
              have hX := fun j => cell_of_row w13 w12.heap.size j _ _ _ HKX13.out
              have X0 := hX 0; have X1 := hX 1; have X2 := hX 2; have X3 := hX 3
              simp only [List.getElem?_toArray, List.getElem?_cons_succ, List.getElem?_cons_zero] at A0 A1 A2 A3 B0 B1 B2 B3 Z0 Z1 Z2 Z3 X0 X1 X2 X3
              clear hA hB hZ hX
              have HW13 := Lib.hid hw13
              rw [hw13] at A0 A1 A2 A3 B0 B1 B2 B3 Z0 Z1 Z2 Z3 X0 X1 X2 X3
              clear hw13
              go_wp2_with fail
              rw [← HW13.out]
              refine (Right_any ⟨k, xi, xt, xs⟩ HbX.out (.slice px mx cx) w13 (HV.out.later Hb13.out) HSX13.out).mono ?_
              rintro e w14 ⟨rfl, hb⟩
              rw [HrX.out]
              have HKA14 := Lib.hid (keep HKA13.out hb)
              have HSA14 := Lib.hid (HSA13.out.later hb)
              have HKB14 := Lib.hid (keep HKB13.out hb)
              have HSB14 := Lib.hid (HSB13.out.later hb)
              have HKZ14 := Lib.hid (keep HKZ13.out hb)
              have HSZ14 := Lib.hid (HSZ13.out.later hb)
              have HKX14 := Lib.hid (keep HKX13.out hb)
              have HSX14 := Lib.hid (HSX13.out.later hb)
              have Hb14 := Lib.hid (then_bel Hb13.out hb)
              clear hb HKA13 HSA13 HKB13 HSB13 HKZ13 HSZ13 HKX13 HSX13 A0 A1 A2 A3 B0 B1 B2 B3 Z0 Z1 Z2 Z3 X0 X1 X2 X3
              have hA := fun j => cell_of_row w14 w.heap.size j _ _ _ HKA14.out
              have A0 := hA 0; have A1 := hA 1; have A2 := hA 2; have A3 := hA 3
              have hB := fun j => cell_of_row w14 (w.heap.size + 1) j _ _ _ HKB14.out
              have B0 := hB 0; have B1 := hB 1; have B2 := hB 2; have B3 := hB 3
              have hZ := fun j => cell_of_row w14 w8.heap.size j _ _ _ HKZ14.out
              have Z0 := hZ 0; have Z1 := hZ 1; have Z2 := hZ 2; have Z3 := hZ 3
              have hX := fun j => cell_of_row w14 w12.heap.size j _ _ _ HKX14.out
              have X0 := hX 0; have X1 := hX 1; have X2 := hX 2; have X3 := hX 3
              simp only [List.getElem?_toArray, List.getElem?_cons_succ, List.getElem?_cons_zero] at A0 A1 A2 A3 B0 B1 B2 B3 Z0 Z1 Z2 Z3 X0 X1 X2 X3
              clear hA hB hZ hX
              go_wp2_with fail
              refine (Print_any ⟨k, xi, xt, xs⟩ HbX.out (.slice px mx cx) w14 (HV.out.later Hb14.out) HSX14.out).mono ?_
              rintro e w15 ⟨he, hb⟩
              unfold PrintOut at he
              rw [HpX.out] at he
              subst he
              have HKA15 := Lib.hid (keep HKA14.out hb)
              have HSA15 := Lib.hid (HSA14.out.later hb)
              have HKB15 := Lib.hid (keep HKB14.out hb)
              have HSB15 := Lib.hid (HSB14.out.later hb)
              have HKZ15 := Lib.hid (keep HKZ14.out hb)
              have HSZ15 := Lib.hid (HSZ14.out.later hb)
              have HKX15 := Lib.hid (keep HKX14.out hb)
              have HSX15 := Lib.hid (HSX14.out.later hb)
              have Hb15 := Lib.hid (then_bel Hb14.out hb)
              clear hb HKA14 HSA14 HKB14 HSB14 HKZ14 HSZ14 HKX14 HSX14 A0 A1 A2 A3 B0 B1 B2 B3 Z0 Z1 Z2 Z3 X0 X1 X2 X3
              have hA := fun j => cell_of_row w15 w.heap.size j _ _ _ HKA15.out
              have A0 := hA 0; have A1 := hA 1; have A2 := hA 2; have A3 := hA 3
              have hB := fun j => cell_of_row w15 (w.heap.size + 1) j _ _ _ HKB15.out
              have B0 := hB 0; have B1 := hB 1; have B2 := hB 2; have B3 := hB 3
              have hZ := fun j => cell_of_row w15 w8.heap.size j _ _ _ HKZ15.out
              have Z0 := hZ 0; have Z1 := hZ 1; have Z2 := hZ 2; have Z3 := hZ 3
              have hX := fun j => cell_of_row w15 w12.heap.size j _ _ _ HKX15.out
              have X0 := hX 0; have X1 := hX 1; have X2 := hX 2; have X3 := hX 3
              simp only [List.getElem?_toArray, List.getElem?_cons_succ, List.getElem?_cons_zero] at A0 A1 A2 A3 B0 B1 B2 B3 Z0 Z1 Z2 Z3 X0 X1 X2 X3
              clear hA hB hZ hX
              go_wp2_with fail
              refine (Parse_any k (B PL) HlX.out w15 (HV.out.later Hb15.out)).mono ?_
              rintro e w16 ⟨⟨sly, rfl, hfy⟩, hb⟩
              rw [HyX.out] at hfy ⊢
              obtain ⟨py, my, cy, rfl⟩ := hfy.shape
              have HSy := Lib.hid hfy.strs
              clear hfy
              unfold res rep
              simp only
              have HKA16 := Lib.hid (keep HKA15.out hb)
              have HSA16 := Lib.hid (HSA15.out.later hb)
              have HKB16 := Lib.hid (keep HKB15.out hb)
              have HSB16 := Lib.hid (HSB15.out.later hb)
              have HKZ16 := Lib.hid (keep HKZ15.out hb)
              have HSZ16 := Lib.hid (HSZ15.out.later hb)
              have HKX16 := Lib.hid (keep HKX15.out hb)
              have HSX16 := Lib.hid (HSX15.out.later hb)
              have Hb16 := Lib.hid (then_bel Hb15.out hb)
              clear hb HKA15 HSA15 HKB15 HSB15 HKZ15 HSZ15 HKX15 HSX15 A0 A1 A2 A3 B0 B1 B2 B3 Z0 Z1 Z2 Z3 X0 X1 X2 X3
              have hA := fun j => cell_of_row w16 w.heap.size j _ _ _ HKA16.out
              have A0 := hA 0; have A1 := hA 1; have A2 := hA 2; have A3 := hA 3
              have hB := fun j => cell_of_row w16 (w.heap.size + 1) j _ _ _ HKB16.out
              have B0 := hB 0; have B1 := hB 1; have B2 := hB 2; have B3 := hB 3
              have hZ := fun j => cell_of_row w16 w8.heap.size j _ _ _ HKZ16.out
              have Z0 := hZ 0; have Z1 := hZ 1; have Z2 := hZ 2; have Z3 := hZ 3
              have hX := fun j => cell_of_row w16 w12.heap.size j _ _ _ HKX16.out
              have X0 := hX 0; have X1 := hX 1; have X2 := hX 2; have X3 := hX 3
              simp only [List.getElem?_toArray, List.getElem?_cons_succ, List.getElem?_cons_zero] at A0 A1 A2 A3 B0 B1 B2 B3 Z0 Z1 Z2 Z3 X0 X1 X2 X3
              clear hA hB hZ hX
              obtain ⟨w17, hw17⟩ : ∃ w17, w17 = w16.alloc (.cells #[.int .i64 k, .int .i64 xi, .string xt, .slice py my cy] 45) := ⟨_, rfl⟩
              have hal : Below w16.heap.size w16 w17 := by rw [hw17]; exact (Below.refl _ _).alloc (Nat.le_refl _) _
              have HKA17 := Lib.hid (keep HKA16.out hal)
              have HSA17 := Lib.hid (HSA16.out.later hal)
              have HKB17 := Lib.hid (keep HKB16.out hal)
              have HSB17 := Lib.hid (HSB16.out.later hal)
              have HKZ17 := Lib.hid (keep HKZ16.out hal)
              have HSZ17 := Lib.hid (HSZ16.out.later hal)
              have HKX17 := Lib.hid (keep HKX16.out hal)
              have HSX17 := Lib.hid (HSX16.out.later hal)
              have Hb17 := Lib.hid (then_bel Hb16.out hal)
              have HKY17 : Hid (w17.heap[w16.heap.size]? = some (.cells #[.int .i64 k, .int .i64 xi, .string xt, .slice py my cy] 45)) := Lib.hid (by rw [hw17]; exact heap_alloc_new w16 _)
              have HSY17 := Lib.hid (HSy.out.later hal)
              clear hal HKA16 HSA16 HKB16 HSB16 HKZ16 HSZ16 HKX16 HSX16 A0 A1 A2 A3 B0 B1 B2 B3 Z0 Z1 Z2 Z3 X0 X1 X2 X3
              have hA := fun j => cell_of_row w17 w.heap.size j _ _ _ HKA17.out
              have A0 := hA 0; have A1 := hA 1; have A2 := hA 2; have A3 := hA 3
              have hB := fun j => cell_of_row w17 (w.heap.size + 1) j _ _ _ HKB17.out
              have B0 := hB 0; have B1 := hB 1; have B2 := hB 2; have B3 := hB 3
              have hZ := fun j => cell_of_row w17 w8.heap.size j _ _ _ HKZ17.out
              have Z0 := hZ 0; have Z1 := hZ 1; have Z2 := hZ 2; have Z3 := hZ 3
              have hX := fun j => cell_of_row w17 w12.heap.size j _ _ _ HKX17.out
              have X0 := hX 0; have X1 := hX 1; have X2 := hX 2; have X3 := hX 3
              have hY := fun j => cell_of_row w17 w16.heap.size j _ _ _ HKY17.out
              have Y0 := hY 0; have Y1 := hY 1; have Y2 := hY 2; have Y3 := hY 3
              simp only [List.getElem?_toArray, List.getElem?_cons_succ, List.getElem?_cons_zero] at A0 A1 A2 A3 B0 B1 B2 B3 Z0 Z1 Z2 Z3 X0 X1 X2 X3 Y0 Y1 Y2 Y3
              clear hA hB hZ hX hY
              have HW17 := Lib.hid hw17
              rw [hw17] at A0 A1 A2 A3 B0 B1 B2 B3 Z0 Z1 Z2 Z3 X0 X1 X2 X3 Y0 Y1 Y2 Y3
              clear hw17
              go_wp2_with fail
              rw [← HW17.out]
              refine (Print_any ⟨k, xi, xt, xs⟩ HbX.out (.slice py my cy) w17 (HV.out.later Hb17.out) HSY17.out).mono ?_
              rintro e w18 ⟨he, hb⟩
              unfold PrintOut at he
              rw [HpX.out] at he
              subst he
              have HKA18 := Lib.hid (keep HKA17.out hb)
              have HSA18 := Lib.hid (HSA17.out.later hb)
              have HKB18 := Lib.hid (keep HKB17.out hb)
              have HSB18 := Lib.hid (HSB17.out.later hb)
              have HKZ18 := Lib.hid (keep HKZ17.out hb)
              have HSZ18 := Lib.hid (HSZ17.out.later hb)
              have HKX18 := Lib.hid (keep HKX17.out hb)
              have HSX18 := Lib.hid (HSX17.out.later hb)
              have HKY18 := Lib.hid (keep HKY17.out hb)
              have HSY18 := Lib.hid (HSY17.out.later hb)
              have Hb18 := Lib.hid (then_bel Hb17.out hb)
              clear hb HKA17 HSA17 HKB17 HSB17 HKZ17 HSZ17 HKX17 HSX17 HKY17 HSY17 A0 A1 A2 A3 B0 B1 B2 B3 Z0 Z1 Z2 Z3 X0 X1 X2 X3 Y0 Y1 Y2 Y3
              have hA := fun j => cell_of_row w18 w.heap.size j _ _ _ HKA18.out
              have A0 := hA 0; have A1 := hA 1; have A2 := hA 2; have A3 := hA 3
              have hB := fun j => cell_of_row w18 (w.heap.size + 1) j _ _ _ HKB18.out
              have B0 := hB 0; have B1 := hB 1; have B2 := hB 2; have B3 := hB 3
              have hZ := fun j => cell_of_row w18 w8.heap.size j _ _ _ HKZ18.out
              have Z0 := hZ 0; have Z1 := hZ 1; have Z2 := hZ 2; have Z3 := hZ 3
              have hX := fun j => cell_of_row w18 w12.heap.size j _ _ _ HKX18.out
              have X0 := hX 0; have X1 := hX 1; have X2 := hX 2; have X3 := hX 3
              have hY := fun j => cell_of_row w18 w16.heap.size j _ _ _ HKY18.out
              have Y0 := hY 0; have Y1 := hY 1; have Y2 := hY 2; have Y3 := hY 3
              simp only [List.getElem?_toArray, List.getElem?_cons_succ, List.getElem?_cons_zero] at A0 A1 A2 A3 B0 B1 B2 B3 Z0 Z1 Z2 Z3 X0 X1 X2 X3 Y0 Y1 Y2 Y3
              clear hA hB hZ hX hY
              go_wp2_with fail
              refine (Same_any ⟨k, xi, xt, xs⟩ ⟨k, xi, xt, xs⟩ (.slice px mx cx) (.slice py my cy) w18 HSX18.out HSY18.out HbX.out.words HbX.out.words).mono ?_
              rintro e w19 ⟨rfl, hb⟩
              rw [decide_eq_true (rfl : (⟨k, xi, xt, xs⟩ : Val) = _)]
              have HKA19 := Lib.hid (keep HKA18.out hb)
              have HSA19 := Lib.hid (HSA18.out.later hb)
              have HKB19 := Lib.hid (keep HKB18.out hb)
              have HSB19 := Lib.hid (HSB18.out.later hb)
              have HKZ19 := Lib.hid (keep HKZ18.out hb)
              have HSZ19 := Lib.hid (HSZ18.out.later hb)
              have HKX19 := Lib.hid (keep HKX18.out hb)
              have HSX19 := Lib.hid (HSX18.out.later hb)
              have HKY19 := Lib.hid (keep HKY18.out hb)
              have HSY19 := Lib.hid (HSY18.out.later hb)
              have Hb19 := Lib.hid (then_bel Hb18.out hb)
              clear hb HKA18 HSA18 HKB18 HSB18 HKZ18 HSZ18 HKX18 HSX18 HKY18 HSY18 A0 A1 A2 A3 B0 B1 B2 B3 Z0 Z1 Z2 Z3 X0 X1 X2 X3 Y0 Y1 Y2 Y3
              have hA := fun j => cell_of_row w19 w.heap.size j _ _ _ HKA19.out
              have A0 := hA 0; have A1 := hA 1; have A2 := hA 2; have A3 := hA 3
              have hB := fun j => cell_of_row w19 (w.heap.size + 1) j _ _ _ HKB19.out
              have B0 := hB 0; have B1 := hB 1; have B2 := hB 2; have B3 := hB 3
              have hZ := fun j => cell_of_row w19 w8.heap.size j _ _ _ HKZ19.out
              have Z0 := hZ 0; have Z1 := hZ 1; have Z2 := hZ 2; have Z3 := hZ 3
              have hX := fun j => cell_of_row w19 w12.heap.size j _ _ _ HKX19.out
              have X0 := hX 0; have X1 := hX 1; have X2 := hX 2; have X3 := hX 3
              have hY := fun j => cell_of_row w19 w16.heap.size j _ _ _ HKY19.out
              have Y0 := hY 0; have Y1 := hY 1; have Y2 := hY 2; have Y3 := hY 3
              simp only [List.getElem?_toArray, List.getElem?_cons_succ, List.getElem?_cons_zero] at A0 A1 A2 A3 B0 B1 B2 B3 Z0 Z1 Z2 Z3 X0 X1 X2 X3 Y0 Y1 Y2 Y3
              clear hA hB hZ hX hY
              rcases HexX.out with ⟨q2, q5, q6⟩ | ⟨qk, hps⟩
              · go_wp2_with fail
                go_ret
                exact ⟨rfl, Hb19.out⟩
              · rcases qk with rfl | rfl | rfl
                · go_wp2_with fail
                  go_ret
                  exact ⟨rfl, Hb19.out⟩
                · go_wp2_with fail
                  go_ret
                  exact ⟨rfl, Hb19.out⟩
                · go_wp2_with fail
                  go_ret
                  exact ⟨rfl, Hb19.out⟩
            · have hg' : (gx != 0) = true := by simp [hg]
              go_wp2_with fail
              refine (Parse_any k s hs2 w11 (HV.out.later Hb11.out)).mono ?_
              rintro e w12 ⟨⟨slx, rfl, hfx⟩, hb⟩
              rw [HX.out] at hfx ⊢
              obtain ⟨px, mx, cx, rfl⟩ := hfx.shape
              unfold res rep
              simp only
              clear hfx
              have HKA12 := Lib.hid (keep HKA11.out hb)
              have HSA12 := Lib.hid (HSA11.out.later hb)
              have HKB12 := Lib.hid (keep HKB11.out hb)
              have HSB12 := Lib.hid (HSB11.out.later hb)
              have HKZ12 := Lib.hid (keep HKZ11.out hb)
              have HSZ12 := Lib.hid (HSZ11.out.later hb)
              have Hb12 := Lib.hid (then_bel Hb11.out hb)
              clear hb HKA11 HSA11 HKB11 HSB11 HKZ11 HSZ11 A0 A1 A2 A3 B0 B1 B2 B3 Z0 Z1 Z2 Z3
              have hA := fun j => cell_of_row w12 w.heap.size j _ _ _ HKA12.out
              have A0 := hA 0; have A1 := hA 1; have A2 := hA 2; have A3 := hA 3
              have hB := fun j => cell_of_row w12 (w.heap.size + 1) j _ _ _ HKB12.out
              have B0 := hB 0; have B1 := hB 1; have B2 := hB 2; have B3 := hB 3
              have hZ := fun j => cell_of_row w12 w8.heap.size j _ _ _ HKZ12.out
              have Z0 := hZ 0; have Z1 := hZ 1; have Z2 := hZ 2; have Z3 := hZ 3
              simp only [List.getElem?_toArray, List.getElem?_cons_succ, List.getElem?_cons_zero] at A0 A1 A2 A3 B0 B1 B2 B3 Z0 Z1 Z2 Z3
              clear hA hB hZ
              go_wp2_with fail
              go_ret
              exact ⟨rfl, (Hb12.out).alloc (Hb12.out).size _⟩
          · have HEq : Hid (decide ((⟨vk, vi, vt, vs⟩ : Val) = ⟨uk, ui, ut, us⟩) = false) := Lib.hid (decide_eq_false heq)
            have hTT : (TV == TU) = false := by
              rw [beq_eq_false_iff_ne]
              exact fun h => heq (HInj.out hku h)
            clear heq hku
            go_wp2_with fail
            refine (awake_any w3 (HV.out.later Hb3.out)).mono ?_
            rintro e w4 ⟨rfl, hb⟩
            have HKA4 := Lib.hid (keep HKA3.out hb)
            have HSA4 := Lib.hid (HSA3.out.later hb)
            have HKB4 := Lib.hid (keep HKB3.out hb)
            have HSB4 := Lib.hid (HSB3.out.later hb)
            have Hb4 := Lib.hid (then_bel Hb3.out hb)
            clear hb HKA3 HSA3 HKB3 HSB3 A0 A1 A2 A3 B0 B1 B2 B3
            have hA := fun j => cell_of_row w4 w.heap.size j _ _ _ HKA4.out
            have A0 := hA 0; have A1 := hA 1; have A2 := hA 2; have A3 := hA 3
            have hB := fun j => cell_of_row w4 (w.heap.size + 1) j _ _ _ HKB4.out
            have B0 := hB 0; have B1 := hB 1; have B2 := hB 2; have B3 := hB 3
            simp only [List.getElem?_toArray, List.getElem?_cons_succ, List.getElem?_cons_zero] at A0 A1 A2 A3 B0 B1 B2 B3
            clear hA hB
            go_wp2_with fail
            refine (Print_any ⟨vk, vi, vt, vs⟩ HbV.out (.slice p m c) w4 (HV.out.later Hb4.out) HSA4.out).mono ?_
            rintro e w5 ⟨he, hb⟩
            unfold PrintOut at he
            rw [HPv.out] at he
            subst he
            have HKA5 := Lib.hid (keep HKA4.out hb)
            have HSA5 := Lib.hid (HSA4.out.later hb)
            have HKB5 := Lib.hid (keep HKB4.out hb)
            have HSB5 := Lib.hid (HSB4.out.later hb)
            have Hb5 := Lib.hid (then_bel Hb4.out hb)
            clear hb HKA4 HSA4 HKB4 HSB4 A0 A1 A2 A3 B0 B1 B2 B3
            have hA := fun j => cell_of_row w5 w.heap.size j _ _ _ HKA5.out
            have A0 := hA 0; have A1 := hA 1; have A2 := hA 2; have A3 := hA 3
            have hB := fun j => cell_of_row w5 (w.heap.size + 1) j _ _ _ HKB5.out
            have B0 := hB 0; have B1 := hB 1; have B2 := hB 2; have B3 := hB 3
            simp only [List.getElem?_toArray, List.getElem?_cons_succ, List.getElem?_cons_zero] at A0 A1 A2 A3 B0 B1 B2 B3
            clear hA hB
            go_wp2_with fail
            refine (Print_any ⟨uk, ui, ut, us⟩ HbU.out (.slice p' m' c') w5 (HV.out.later Hb5.out) HSB5.out).mono ?_
            rintro e w6 ⟨he, hb⟩
            unfold PrintOut at he
            rw [HPu.out] at he
            subst he
            have HKA6 := Lib.hid (keep HKA5.out hb)
            have HSA6 := Lib.hid (HSA5.out.later hb)
            have HKB6 := Lib.hid (keep HKB5.out hb)
            have HSB6 := Lib.hid (HSB5.out.later hb)
            have Hb6 := Lib.hid (then_bel Hb5.out hb)
            clear hb HKA5 HSA5 HKB5 HSB5 A0 A1 A2 A3 B0 B1 B2 B3
            have hA := fun j => cell_of_row w6 w.heap.size j _ _ _ HKA6.out
            have A0 := hA 0; have A1 := hA 1; have A2 := hA 2; have A3 := hA 3
            have hB := fun j => cell_of_row w6 (w.heap.size + 1) j _ _ _ HKB6.out
            have B0 := hB 0; have B1 := hB 1; have B2 := hB 2; have B3 := hB 3
            simp only [List.getElem?_toArray, List.getElem?_cons_succ, List.getElem?_cons_zero] at A0 A1 A2 A3 B0 B1 B2 B3
            clear hA hB
            go_wp2_with fail
            refine (Right_any ⟨vk, vi, vt, vs⟩ HbV.out (.slice p m c) w6 (HV.out.later Hb6.out) HSA6.out).mono ?_
            rintro e w7 ⟨rfl, hb⟩
            rw [HRv.out]
            have HKA7 := Lib.hid (keep HKA6.out hb)
            have HSA7 := Lib.hid (HSA6.out.later hb)
            have HKB7 := Lib.hid (keep HKB6.out hb)
            have HSB7 := Lib.hid (HSB6.out.later hb)
            have Hb7 := Lib.hid (then_bel Hb6.out hb)
            clear hb HKA6 HSA6 HKB6 HSB6 A0 A1 A2 A3 B0 B1 B2 B3
            have hA := fun j => cell_of_row w7 w.heap.size j _ _ _ HKA7.out
            have A0 := hA 0; have A1 := hA 1; have A2 := hA 2; have A3 := hA 3
            have hB := fun j => cell_of_row w7 (w.heap.size + 1) j _ _ _ HKB7.out
            have B0 := hB 0; have B1 := hB 1; have B2 := hB 2; have B3 := hB 3
            simp only [List.getElem?_toArray, List.getElem?_cons_succ, List.getElem?_cons_zero] at A0 A1 A2 A3 B0 B1 B2 B3
            clear hA hB
            go_wp2_with fail
            refine (Parse_any vk (B TV) HlV.out w7 (HV.out.later Hb7.out)).mono ?_
            rintro e w8 ⟨⟨slz, rfl, hfz⟩, hb⟩
            rw [HyV.out] at hfz ⊢
            obtain ⟨pz, mz, cz, rfl⟩ := hfz.shape
            have HSz := Lib.hid hfz.strs
            clear hfz
            unfold res rep
            simp only
            have HKA8 := Lib.hid (keep HKA7.out hb)
            have HSA8 := Lib.hid (HSA7.out.later hb)
            have HKB8 := Lib.hid (keep HKB7.out hb)
            have HSB8 := Lib.hid (HSB7.out.later hb)
            have Hb8 := Lib.hid (then_bel Hb7.out hb)
            clear hb HKA7 HSA7 HKB7 HSB7 A0 A1 A2 A3 B0 B1 B2 B3
            have hA := fun j => cell_of_row w8 w.heap.size j _ _ _ HKA8.out
            have A0 := hA 0; have A1 := hA 1; have A2 := hA 2; have A3 := hA 3
            have hB := fun j => cell_of_row w8 (w.heap.size + 1) j _ _ _ HKB8.out
            have B0 := hB 0; have B1 := hB 1; have B2 := hB 2; have B3 := hB 3
            simp only [List.getElem?_toArray, List.getElem?_cons_succ, List.getElem?_cons_zero] at A0 A1 A2 A3 B0 B1 B2 B3
            clear hA hB
            obtain ⟨w9, hw9⟩ : ∃ w9, w9 = w8.alloc (.cells #[.int .i64 vk, .int .i64 vi, .string vt, .slice pz mz cz] 45) := ⟨_, rfl⟩
            have hal : Below w8.heap.size w8 w9 := by rw [hw9]; exact (Below.refl _ _).alloc (Nat.le_refl _) _
            have HKA9 := Lib.hid (keep HKA8.out hal)
            have HSA9 := Lib.hid (HSA8.out.later hal)
            have HKB9 := Lib.hid (keep HKB8.out hal)
            have HSB9 := Lib.hid (HSB8.out.later hal)
            have Hb9 := Lib.hid (then_bel Hb8.out hal)
            have HKZ9 : Hid (w9.heap[w8.heap.size]? = some (.cells #[.int .i64 vk, .int .i64 vi, .string vt, .slice pz mz cz] 45)) := Lib.hid (by rw [hw9]; exact heap_alloc_new w8 _)
            have HSZ9 := Lib.hid (HSz.out.later hal)
            clear hal HKA8 HSA8 HKB8 HSB8 A0 A1 A2 A3 B0 B1 B2 B3
            have hA := fun j => cell_of_row w9 w.heap.size j _ _ _ HKA9.out
            have A0 := hA 0; have A1 := hA 1; have A2 := hA 2; have A3 := hA 3
            have hB := fun j => cell_of_row w9 (w.heap.size + 1) j _ _ _ HKB9.out
            have B0 := hB 0; have B1 := hB 1; have B2 := hB 2; have B3 := hB 3
            have hZ := fun j => cell_of_row w9 w8.heap.size j _ _ _ HKZ9.out
            have Z0 := hZ 0; have Z1 := hZ 1; have Z2 := hZ 2; have Z3 := hZ 3
            simp only [List.getElem?_toArray, List.getElem?_cons_succ, List.getElem?_cons_zero] at A0 A1 A2 A3 B0 B1 B2 B3 Z0 Z1 Z2 Z3
            clear hA hB hZ
            have HW9 := Lib.hid hw9
            rw [hw9] at A0 A1 A2 A3 B0 B1 B2 B3 Z0 Z1 Z2 Z3
            clear hw9
            go_wp2_with fail
            rw [← HW9.out]
            refine (Same_any ⟨vk, vi, vt, vs⟩ ⟨vk, vi, vt, vs⟩ (.slice pz mz cz) (.slice p m c) w9 HSZ9.out HSA9.out HbV.out.words HbV.out.words).mono ?_
            rintro e w10 ⟨rfl, hb⟩
            rw [decide_eq_true (rfl : (⟨vk, vi, vt, vs⟩ : Val) = _)]
            have HKA10 := Lib.hid (keep HKA9.out hb)
            have HSA10 := Lib.hid (HSA9.out.later hb)
            have HKB10 := Lib.hid (keep HKB9.out hb)
            have HSB10 := Lib.hid (HSB9.out.later hb)
            have HKZ10 := Lib.hid (keep HKZ9.out hb)
            have HSZ10 := Lib.hid (HSZ9.out.later hb)
            have Hb10 := Lib.hid (then_bel Hb9.out hb)
            clear hb HKA9 HSA9 HKB9 HSB9 HKZ9 HSZ9 A0 A1 A2 A3 B0 B1 B2 B3 Z0 Z1 Z2 Z3
            have hA := fun j => cell_of_row w10 w.heap.size j _ _ _ HKA10.out
            have A0 := hA 0; have A1 := hA 1; have A2 := hA 2; have A3 := hA 3
            have hB := fun j => cell_of_row w10 (w.heap.size + 1) j _ _ _ HKB10.out
            have B0 := hB 0; have B1 := hB 1; have B2 := hB 2; have B3 := hB 3
            have hZ := fun j => cell_of_row w10 w8.heap.size j _ _ _ HKZ10.out
            have Z0 := hZ 0; have Z1 := hZ 1; have Z2 := hZ 2; have Z3 := hZ 3
            simp only [List.getElem?_toArray, List.getElem?_cons_succ, List.getElem?_cons_zero] at A0 A1 A2 A3 B0 B1 B2 B3 Z0 Z1 Z2 Z3
            clear hA hB hZ
            go_wp2_with fail
            refine (Same_any ⟨vk, vi, vt, vs⟩ ⟨uk, ui, ut, us⟩ (.slice p m c) (.slice p' m' c') w10 HSA10.out HSB10.out HbV.out.words HbU.out.words).mono ?_
            rintro e w11 ⟨rfl, hb⟩
            rw [HEq.out]
            have HKA11 := Lib.hid (keep HKA10.out hb)
            have HSA11 := Lib.hid (HSA10.out.later hb)
            have HKB11 := Lib.hid (keep HKB10.out hb)
            have HSB11 := Lib.hid (HSB10.out.later hb)
            have HKZ11 := Lib.hid (keep HKZ10.out hb)
            have HSZ11 := Lib.hid (HSZ10.out.later hb)
            have Hb11 := Lib.hid (then_bel Hb10.out hb)
            clear hb HKA10 HSA10 HKB10 HSB10 HKZ10 HSZ10 A0 A1 A2 A3 B0 B1 B2 B3 Z0 Z1 Z2 Z3
            have hA := fun j => cell_of_row w11 w.heap.size j _ _ _ HKA11.out
            have A0 := hA 0; have A1 := hA 1; have A2 := hA 2; have A3 := hA 3
            have hB := fun j => cell_of_row w11 (w.heap.size + 1) j _ _ _ HKB11.out
            have B0 := hB 0; have B1 := hB 1; have B2 := hB 2; have B3 := hB 3
            have hZ := fun j => cell_of_row w11 w8.heap.size j _ _ _ HKZ11.out
            have Z0 := hZ 0; have Z1 := hZ 1; have Z2 := hZ 2; have Z3 := hZ 3
            simp only [List.getElem?_toArray, List.getElem?_cons_succ, List.getElem?_cons_zero] at A0 A1 A2 A3 B0 B1 B2 B3 Z0 Z1 Z2 Z3
            clear hA hB hZ
            by_cases hg : gx = 0
            · subst hg
              obtain ⟨hr, hk⟩ := HX0.out rfl
              have hX1 := HX1.out rfl
              rw [hk] at hr hX1
              have HX2 : Hid (parse wordL k s.data.toList = (⟨k, xi, xt, xs⟩, 0)) := Lib.hid (by rw [HX.out, hk])
              have HrX := Lib.hid hr
              have HbX := Lib.hid (vb_right hr)
              obtain ⟨PL, hPL⟩ : ∃ PL, prints ⟨k, xi, xt, xs⟩ = PL := ⟨_, rfl⟩
              have HpX : Hid (print wordL ⟨k, xi, xt, xs⟩ = (PL, 0)) := Lib.hid (by rw [print_t hr, hPL])
              have HyX : Hid (parse wordL k (B PL).data.toList = (⟨k, xi, xt, xs⟩, 0)) := Lib.hid (by
                have := parse_prints wordL_is hr
                rw [hPL] at this
                exact this)
              have HlX : Hid ((B PL).size ≤ 2147483647) := Lib.hid (by
                have := prints_len hr
                rw [hPL] at this
                show PL.toArray.size ≤ _
                simp
                omega)
              have HexX : Hid (((k != 2) = true ∧ (k != 5) = true ∧ (k != 6) = true) ∨ ((k = 2 ∨ k = 5 ∨ k = 6) ∧ (PL == s.toList) = true)) := Lib.hid (by
                by_cases h : k = 2 ∨ k = 5 ∨ k = 6
                · refine .inr ⟨h, ?_⟩
                  rw [ByteArray.toList_eq, ← hX1 h, hPL]
                  simp
                · exact .inl ⟨by simp; omega, by simp; omega, by simp; omega⟩)
              clear hr hk hX1 hPL
              go_wp2_with fail
              refine (Parse_any k s hs2 w11 (HV.out.later Hb11.out)).mono ?_
              rintro e w12 ⟨⟨slx, rfl, hfx⟩, hb⟩
              rw [HX2.out] at hfx ⊢
              obtain ⟨px, mx, cx, rfl⟩ := hfx.shape
              have HSx := Lib.hid hfx.strs
              clear hfx
              unfold res rep
              simp only
              have HKA12 := Lib.hid (keep HKA11.out hb)
              have HSA12 := Lib.hid (HSA11.out.later hb)
              have HKB12 := Lib.hid (keep HKB11.out hb)
              have HSB12 := Lib.hid (HSB11.out.later hb)
              have HKZ12 := Lib.hid (keep HKZ11.out hb)
              have HSZ12 := Lib.hid (HSZ11.out.later hb)
              have Hb12 := Lib.hid (then_bel Hb11.out hb)
              clear hb HKA11 HSA11 HKB11 HSB11 HKZ11 HSZ11 A0 A1 A2 A3 B0 B1 B2 B3 Z0 Z1 Z2 Z3
              have hA := fun j => cell_of_row w12 w.heap.size j _ _ _ HKA12.out
              have A0 := hA 0; have A1 := hA 1; have A2 := hA 2; have A3 := hA 3
              have hB := fun j => cell_of_row w12 (w.heap.size + 1) j _ _ _ HKB12.out
              have B0 := hB 0; have B1 := hB 1; have B2 := hB 2; have B3 := hB 3
              have hZ := fun j => cell_of_row w12 w8.heap.size j _ _ _ HKZ12.out
              have Z0 := hZ 0; have Z1 := hZ 1; have Z2 := hZ 2; have Z3 := hZ 3
              simp only [List.getElem?_toArray, List.getElem?_cons_succ, List.getElem?_cons_zero] at A0 A1 A2 A3 B0 B1 B2 B3 Z0 Z1 Z2 Z3
              clear hA hB hZ
              obtain ⟨w13, hw13⟩ : ∃ w13, w13 = w12.alloc (.cells #[.int .i64 k, .int .i64 xi, .string xt, .slice px mx cx] 45) := ⟨_, rfl⟩
              have hal : Below w12.heap.size w12 w13 := by rw [hw13]; exact (Below.refl _ _).alloc (Nat.le_refl _) _
              have HKA13 := Lib.hid (keep HKA12.out hal)
              have HSA13 := Lib.hid (HSA12.out.later hal)
              have HKB13 := Lib.hid (keep HKB12.out hal)
              have HSB13 := Lib.hid (HSB12.out.later hal)
              have HKZ13 := Lib.hid (keep HKZ12.out hal)
              have HSZ13 := Lib.hid (HSZ12.out.later hal)
              have Hb13 := Lib.hid (then_bel Hb12.out hal)
              have HKX13 : Hid (w13.heap[w12.heap.size]? = some (.cells #[.int .i64 k, .int .i64 xi, .string xt, .slice px mx cx] 45)) := Lib.hid (by rw [hw13]; exact heap_alloc_new w12 _)
              have HSX13 := Lib.hid (HSx.out.later hal)
              clear hal HKA12 HSA12 HKB12 HSB12 HKZ12 HSZ12 A0 A1 A2 A3 B0 B1 B2 B3 Z0 Z1 Z2 Z3
              have hA := fun j => cell_of_row w13 w.heap.size j _ _ _ HKA13.out
              have A0 := hA 0; have A1 := hA 1; have A2 := hA 2; have A3 := hA 3
              have hB := fun j => cell_of_row w13 (w.heap.size + 1) j _ _ _ HKB13.out
              have B0 := hB 0; have B1 := hB 1; have B2 := hB 2; have B3 := hB 3
              have hZ := fun j => cell_of_row w13 w8.heap.size j _ _ _ HKZ13.out
              have Z0 := hZ 0; have Z1 := hZ 1; have Z2 := hZ 2; have Z3 := hZ 3
              have hX := fun j => cell_of_row w13 w12.heap.size j _ _ _ HKX13.out
              have X0 := hX 0; have X1 := hX 1; have X2 := hX 2; have X3 := hX 3
              simp only [List.getElem?_toArray, List.getElem?_cons_succ, List.getElem?_cons_zero] at A0 A1 A2 A3 B0 B1 B2 B3 Z0 Z1 Z2 Z3 X0 X1 X2 X3
              clear hA hB hZ hX
              have HW13 := Lib.hid hw13
              rw [hw13] at A0 A1 A2 A3 B0 B1 B2 B3 Z0 Z1 Z2 Z3 X0 X1 X2 X3
              clear hw13
              go_wp2_with fail
              rw [← HW13.out]
              refine (Right_any ⟨k, xi, xt, xs⟩ HbX.out (.slice px mx cx) w13 (HV.out.later Hb13.out) HSX13.out).mono ?_
              rintro e w14 ⟨rfl, hb⟩
              rw [HrX.out]
              have HKA14 := Lib.hid (keep HKA13.out hb)
              have HSA14 := Lib.hid (HSA13.out.later hb)
              have HKB14 := Lib.hid (keep HKB13.out hb)
              have HSB14 := Lib.hid (HSB13.out.later hb)
              have HKZ14 := Lib.hid (keep HKZ13.out hb)
              have HSZ14 := Lib.hid (HSZ13.out.later hb)
              have HKX14 := Lib.hid (keep HKX13.out hb)
              have HSX14 := Lib.hid (HSX13.out.later hb)
              have Hb14 := Lib.hid (then_bel Hb13.out hb)
              clear hb HKA13 HSA13 HKB13 HSB13 HKZ13 HSZ13 HKX13 HSX13 A0 A1 A2 A3 B0 B1 B2 B3 Z0 Z1 Z2 Z3 X0 X1 X2 X3
              have hA := fun j => cell_of_row w14 w.heap.size j _ _ _ HKA14.out
              have A0 := hA 0; have A1 := hA 1; have A2 := hA 2; have A3 := hA 3
              have hB := fun j => cell_of_row w14 (w.heap.size + 1) j _ _ _ HKB14.out
              have B0 := hB 0; have B1 := hB 1; have B2 := hB 2; have B3 := hB 3
              have hZ := fun j => cell_of_row w14 w8.heap.size j _ _ _ HKZ14.out
              have Z0 := hZ 0; have Z1 := hZ 1; have Z2 := hZ 2; have Z3 := hZ 3
              have hX := fun j => cell_of_row w14 w12.heap.size j _ _ _ HKX14.out
              have X0 := hX 0; have X1 := hX 1; have X2 := hX 2; have X3 := hX 3
              simp only [List.getElem?_toArray, List.getElem?_cons_succ, List.getElem?_cons_zero] at A0 A1 A2 A3 B0 B1 B2 B3 Z0 Z1 Z2 Z3 X0 X1 X2 X3
              clear hA hB hZ hX
              go_wp2_with fail
              refine (Print_any ⟨k, xi, xt, xs⟩ HbX.out (.slice px mx cx) w14 (HV.out.later Hb14.out) HSX14.out).mono ?_
              rintro e w15 ⟨he, hb⟩
              unfold PrintOut at he
              rw [HpX.out] at he
              subst he
              have HKA15 := Lib.hid (keep HKA14.out hb)
              have HSA15 := Lib.hid (HSA14.out.later hb)
              have HKB15 := Lib.hid (keep HKB14.out hb)
              have HSB15 := Lib.hid (HSB14.out.later hb)
              have HKZ15 := Lib.hid (keep HKZ14.out hb)
              have HSZ15 := Lib.hid (HSZ14.out.later hb)
              have HKX15 := Lib.hid (keep HKX14.out hb)
              have HSX15 := Lib.hid (HSX14.out.later hb)
              have Hb15 := Lib.hid (then_bel Hb14.out hb)
              clear hb HKA14 HSA14 HKB14 HSB14 HKZ14 HSZ14 HKX14 HSX14 A0 A1 A2 A3 B0 B1 B2 B3 Z0 Z1 Z2 Z3 X0 X1 X2 X3
              have hA := fun j => cell_of_row w15 w.heap.size j _ _ _ HKA15.out
              have A0 := hA 0; have A1 := hA 1; have A2 := hA 2; have A3 := hA 3
              have hB := fun j => cell_of_row w15 (w.heap.size + 1) j _ _ _ HKB15.out
              have B0 := hB 0; have B1 := hB 1; have B2 := hB 2; have B3 := hB 3
              have hZ := fun j => cell_of_row w15 w8.heap.size j _ _ _ HKZ15.out
              have Z0 := hZ 0; have Z1 := hZ 1; have Z2 := hZ 2; have Z3 := hZ 3
              have hX := fun j => cell_of_row w15 w12.heap.size j _ _ _ HKX15.out
              have X0 := hX 0; have X1 := hX 1; have X2 := hX 2; have X3 := hX 3
              simp only [List.getElem?_toArray, List.getElem?_cons_succ, List.getElem?_cons_zero] at A0 A1 A2 A3 B0 B1 B2 B3 Z0 Z1 Z2 Z3 X0 X1 X2 X3
              clear hA hB hZ hX
              go_wp2_with fail
              refine (Parse_any k (B PL) HlX.out w15 (HV.out.later Hb15.out)).mono ?_
              rintro e w16 ⟨⟨sly, rfl, hfy⟩, hb⟩
              rw [HyX.out] at hfy ⊢
              obtain ⟨py, my, cy, rfl⟩ := hfy.shape
              have HSy := Lib.hid hfy.strs
              clear hfy
              unfold res rep
              simp only
              have HKA16 := Lib.hid (keep HKA15.out hb)
              have HSA16 := Lib.hid (HSA15.out.later hb)
              have HKB16 := Lib.hid (keep HKB15.out hb)
              have HSB16 := Lib.hid (HSB15.out.later hb)
              have HKZ16 := Lib.hid (keep HKZ15.out hb)
              have HSZ16 := Lib.hid (HSZ15.out.later hb)
              have HKX16 := Lib.hid (keep HKX15.out hb)
              have HSX16 := Lib.hid (HSX15.out.later hb)
              have Hb16 := Lib.hid (then_bel Hb15.out hb)
              clear hb HKA15 HSA15 HKB15 HSB15 HKZ15 HSZ15 HKX15 HSX15 A0 A1 A2 A3 B0 B1 B2 B3 Z0 Z1 Z2 Z3 X0 X1 X2 X3
              have hA := fun j => cell_of_row w16 w.heap.size j _ _ _ HKA16.out
              have A0 := hA 0; have A1 := hA 1; have A2 := hA 2; have A3 := hA 3
              have hB := fun j => cell_of_row w16 (w.heap.size + 1) j _ _ _ HKB16.out
              have B0 := hB 0; have B1 := hB 1; have B2 := hB 2; have B3 := hB 3
              have hZ := fun j => cell_of_row w16 w8.heap.size j _ _ _ HKZ16.out
              have Z0 := hZ 0; have Z1 := hZ 1; have Z2 := hZ 2; have Z3 := hZ 3
              have hX := fun j => cell_of_row w16 w12.heap.size j _ _ _ HKX16.out
              have X0 := hX 0; have X1 := hX 1; have X2 := hX 2; have X3 := hX 3
              simp only [List.getElem?_toArray, List.getElem?_cons_succ, List.getElem?_cons_zero] at A0 A1 A2 A3 B0 B1 B2 B3 Z0 Z1 Z2 Z3 X0 X1 X2 X3
              clear hA hB hZ hX
              obtain ⟨w17, hw17⟩ : ∃ w17, w17 = w16.alloc (.cells #[.int .i64 k, .int .i64 xi, .string xt, .slice py my cy] 45) := ⟨_, rfl⟩
              have hal : Below w16.heap.size w16 w17 := by rw [hw17]; exact (Below.refl _ _).alloc (Nat.le_refl _) _
              have HKA17 := Lib.hid (keep HKA16.out hal)
              have HSA17 := Lib.hid (HSA16.out.later hal)
              have HKB17 := Lib.hid (keep HKB16.out hal)
              have HSB17 := Lib.hid (HSB16.out.later hal)
              have HKZ17 := Lib.hid (keep HKZ16.out hal)
              have HSZ17 := Lib.hid (HSZ16.out.later hal)
              have HKX17 := Lib.hid (keep HKX16.out hal)
              have HSX17 := Lib.hid (HSX16.out.later hal)
              have Hb17 := Lib.hid (then_bel Hb16.out hal)
              have HKY17 : Hid (w17.heap[w16.heap.size]? = some (.cells #[.int .i64 k, .int .i64 xi, .string xt, .slice py my cy] 45)) := Lib.hid (by rw [hw17]; exact heap_alloc_new w16 _)
              have HSY17 := Lib.hid (HSy.out.later hal)
              clear hal HKA16 HSA16 HKB16 HSB16 HKZ16 HSZ16 HKX16 HSX16 A0 A1 A2 A3 B0 B1 B2 B3 Z0 Z1 Z2 Z3 X0 X1 X2 X3
              have hA := fun j => cell_of_row w17 w.heap.size j _ _ _ HKA17.out
              have A0 := hA 0; have A1 := hA 1; have A2 := hA 2; have A3 := hA 3
              have hB := fun j => cell_of_row w17 (w.heap.size + 1) j _ _ _ HKB17.out
              have B0 := hB 0; have B1 := hB 1; have B2 := hB 2; have B3 := hB 3
              have hZ := fun j => cell_of_row w17 w8.heap.size j _ _ _ HKZ17.out
              have Z0 := hZ 0; have Z1 := hZ 1; have Z2 := hZ 2; have Z3 := hZ 3
              have hX := fun j => cell_of_row w17 w12.heap.size j _ _ _ HKX17.out
              have X0 := hX 0; have X1 := hX 1; have X2 := hX 2; have X3 := hX 3
              have hY := fun j => cell_of_row w17 w16.heap.size j _ _ _ HKY17.out
              have Y0 := hY 0; have Y1 := hY 1; have Y2 := hY 2; have Y3 := hY 3
              simp only [List.getElem?_toArray, List.getElem?_cons_succ, List.getElem?_cons_zero] at A0 A1 A2 A3 B0 B1 B2 B3 Z0 Z1 Z2 Z3 X0 X1 X2 X3 Y0 Y1 Y2 Y3
              clear hA hB hZ hX hY
              have HW17 := Lib.hid hw17
              rw [hw17] at A0 A1 A2 A3 B0 B1 B2 B3 Z0 Z1 Z2 Z3 X0 X1 X2 X3 Y0 Y1 Y2 Y3
              clear hw17
              go_wp2_with fail
              rw [← HW17.out]
              refine (Print_any ⟨k, xi, xt, xs⟩ HbX.out (.slice py my cy) w17 (HV.out.later Hb17.out) HSY17.out).mono ?_
              rintro e w18 ⟨he, hb⟩
              unfold PrintOut at he
              rw [HpX.out] at he
              subst he
              have HKA18 := Lib.hid (keep HKA17.out hb)
              have HSA18 := Lib.hid (HSA17.out.later hb)
              have HKB18 := Lib.hid (keep HKB17.out hb)
              have HSB18 := Lib.hid (HSB17.out.later hb)
              have HKZ18 := Lib.hid (keep HKZ17.out hb)
              have HSZ18 := Lib.hid (HSZ17.out.later hb)
              have HKX18 := Lib.hid (keep HKX17.out hb)
              have HSX18 := Lib.hid (HSX17.out.later hb)
              have HKY18 := Lib.hid (keep HKY17.out hb)
              have HSY18 := Lib.hid (HSY17.out.later hb)
              have Hb18 := Lib.hid (then_bel Hb17.out hb)
              clear hb HKA17 HSA17 HKB17 HSB17 HKZ17 HSZ17 HKX17 HSX17 HKY17 HSY17 A0 A1 A2 A3 B0 B1 B2 B3 Z0 Z1 Z2 Z3 X0 X1 X2 X3 Y0 Y1 Y2 Y3
              have hA := fun j => cell_of_row w18 w.heap.size j _ _ _ HKA18.out
              have A0 := hA 0; have A1 := hA 1; have A2 := hA 2; have A3 := hA 3
              have hB := fun j => cell_of_row w18 (w.heap.size + 1) j _ _ _ HKB18.out
              have B0 := hB 0; have B1 := hB 1; have B2 := hB 2; have B3 := hB 3
              have hZ := fun j => cell_of_row w18 w8.heap.size j _ _ _ HKZ18.out
              have Z0 := hZ 0; have Z1 := hZ 1; have Z2 := hZ 2; have Z3 := hZ 3
              have hX := fun j => cell_of_row w18 w12.heap.size j _ _ _ HKX18.out
              have X0 := hX 0; have X1 := hX 1; have X2 := hX 2; have X3 := hX 3
              have hY := fun j => cell_of_row w18 w16.heap.size j _ _ _ HKY18.out
              have Y0 := hY 0; have Y1 := hY 1; have Y2 := hY 2; have Y3 := hY 3
              simp only [List.getElem?_toArray, List.getElem?_cons_succ, List.getElem?_cons_zero] at A0 A1 A2 A3 B0 B1 B2 B3 Z0 Z1 Z2 Z3 X0 X1 X2 X3 Y0 Y1 Y2 Y3
              clear hA hB hZ hX hY
              go_wp2_with fail
              refine (Same_any ⟨k, xi, xt, xs⟩ ⟨k, xi, xt, xs⟩ (.slice px mx cx) (.slice py my cy) w18 HSX18.out HSY18.out HbX.out.words HbX.out.words).mono ?_
              rintro e w19 ⟨rfl, hb⟩
              rw [decide_eq_true (rfl : (⟨k, xi, xt, xs⟩ : Val) = _)]
              have HKA19 := Lib.hid (keep HKA18.out hb)
              have HSA19 := Lib.hid (HSA18.out.later hb)
              have HKB19 := Lib.hid (keep HKB18.out hb)
              have HSB19 := Lib.hid (HSB18.out.later hb)
              have HKZ19 := Lib.hid (keep HKZ18.out hb)
              have HSZ19 := Lib.hid (HSZ18.out.later hb)
              have HKX19 := Lib.hid (keep HKX18.out hb)
              have HSX19 := Lib.hid (HSX18.out.later hb)
              have HKY19 := Lib.hid (keep HKY18.out hb)
              have HSY19 := Lib.hid (HSY18.out.later hb)
              have Hb19 := Lib.hid (then_bel Hb18.out hb)
              clear hb HKA18 HSA18 HKB18 HSB18 HKZ18 HSZ18 HKX18 HSX18 HKY18 HSY18 A0 A1 A2 A3 B0 B1 B2 B3 Z0 Z1 Z2 Z3 X0 X1 X2 X3 Y0 Y1 Y2 Y3
              have hA := fun j => cell_of_row w19 w.heap.size j _ _ _ HKA19.out
              have A0 := hA 0; have A1 := hA 1; have A2 := hA 2; have A3 := hA 3
              have hB := fun j => cell_of_row w19 (w.heap.size + 1) j _ _ _ HKB19.out
              have B0 := hB 0; have B1 := hB 1; have B2 := hB 2; have B3 := hB 3
              have hZ := fun j => cell_of_row w19 w8.heap.size j _ _ _ HKZ19.out
              have Z0 := hZ 0; have Z1 := hZ 1; have Z2 := hZ 2; have Z3 := hZ 3
              have hX := fun j => cell_of_row w19 w12.heap.size j _ _ _ HKX19.out
              have X0 := hX 0; have X1 := hX 1; have X2 := hX 2; have X3 := hX 3
              have hY := fun j => cell_of_row w19 w16.heap.size j _ _ _ HKY19.out
              have Y0 := hY 0; have Y1 := hY 1; have Y2 := hY 2; have Y3 := hY 3
              simp only [List.getElem?_toArray, List.getElem?_cons_succ, List.getElem?_cons_zero] at A0 A1 A2 A3 B0 B1 B2 B3 Z0 Z1 Z2 Z3 X0 X1 X2 X3 Y0 Y1 Y2 Y3
              clear hA hB hZ hX hY
              rcases HexX.out with ⟨q2, q5, q6⟩ | ⟨qk, hps⟩
              · go_wp2_with fail
                go_ret
                exact ⟨rfl, Hb19.out⟩
              · rcases qk with rfl | rfl | rfl
                · go_wp2_with fail
                  go_ret
                  exact ⟨rfl, Hb19.out⟩
                · go_wp2_with fail
                  go_ret
                  exact ⟨rfl, Hb19.out⟩
                · go_wp2_with fail
                  go_ret
                  exact ⟨rfl, Hb19.out⟩
            · have hg' : (gx != 0) = true := by simp [hg]
              go_wp2_with fail
              refine (Parse_any k s hs2 w11 (HV.out.later Hb11.out)).mono ?_
              rintro e w12 ⟨⟨slx, rfl, hfx⟩, hb⟩
              rw [HX.out] at hfx ⊢
              obtain ⟨px, mx, cx, rfl⟩ := hfx.shape
              unfold res rep
              simp only
              clear hfx
              have HKA12 := Lib.hid (keep HKA11.out hb)
              have HSA12 := Lib.hid (HSA11.out.later hb)
              have HKB12 := Lib.hid (keep HKB11.out hb)
              have HSB12 := Lib.hid (HSB11.out.later hb)
              have HKZ12 := Lib.hid (keep HKZ11.out hb)
              have HSZ12 := Lib.hid (HSZ11.out.later hb)
              have Hb12 := Lib.hid (then_bel Hb11.out hb)
              clear hb HKA11 HSA11 HKB11 HSB11 HKZ11 HSZ11 A0 A1 A2 A3 B0 B1 B2 B3 Z0 Z1 Z2 Z3
              have hA := fun j => cell_of_row w12 w.heap.size j _ _ _ HKA12.out
              have A0 := hA 0; have A1 := hA 1; have A2 := hA 2; have A3 := hA 3
              have hB := fun j => cell_of_row w12 (w.heap.size + 1) j _ _ _ HKB12.out
              have B0 := hB 0; have B1 := hB 1; have B2 := hB 2; have B3 := hB 3
              have hZ := fun j => cell_of_row w12 w8.heap.size j _ _ _ HKZ12.out
              have Z0 := hZ 0; have Z1 := hZ 1; have Z2 := hZ 2; have Z3 := hZ 3
              simp only [List.getElem?_toArray, List.getElem?_cons_succ, List.getElem?_cons_zero] at A0 A1 A2 A3 B0 B1 B2 B3 Z0 Z1 Z2 Z3
              clear hA hB hZ
              go_wp2_with fail
              go_ret
              exact ⟨rfl, (Hb12.out).alloc (Hb12.out).size _⟩
        · have hku' : (vk == uk) = false := by simp [hku]
          clear hku
          go_wp2_with fail
          refine (awake_any w3 (HV.out.later Hb3.out)).mono ?_
          rintro e w4 ⟨rfl, hb⟩
          have HKA4 := Lib.hid (keep HKA3.out hb)
          have HSA4 := Lib.hid (HSA3.out.later hb)
          have HKB4 := Lib.hid (keep HKB3.out hb)
          have HSB4 := Lib.hid (HSB3.out.later hb)
          have Hb4 := Lib.hid (then_bel Hb3.out hb)
          clear hb HKA3 HSA3 HKB3 HSB3 A0 A1 A2 A3 B0 B1 B2 B3
          have hA := fun j => cell_of_row w4 w.heap.size j _ _ _ HKA4.out
          have A0 := hA 0; have A1 := hA 1; have A2 := hA 2; have A3 := hA 3
          have hB := fun j => cell_of_row w4 (w.heap.size + 1) j _ _ _ HKB4.out
          have B0 := hB 0; have B1 := hB 1; have B2 := hB 2; have B3 := hB 3
          simp only [List.getElem?_toArray, List.getElem?_cons_succ, List.getElem?_cons_zero] at A0 A1 A2 A3 B0 B1 B2 B3
          clear hA hB
          go_wp2_with fail
          refine (Print_any ⟨vk, vi, vt, vs⟩ HbV.out (.slice p m c) w4 (HV.out.later Hb4.out) HSA4.out).mono ?_
          rintro e w5 ⟨he, hb⟩
          unfold PrintOut at he
          rw [HPv.out] at he
          subst he
          have HKA5 := Lib.hid (keep HKA4.out hb)
          have HSA5 := Lib.hid (HSA4.out.later hb)
          have HKB5 := Lib.hid (keep HKB4.out hb)
          have HSB5 := Lib.hid (HSB4.out.later hb)
          have Hb5 := Lib.hid (then_bel Hb4.out hb)
          clear hb HKA4 HSA4 HKB4 HSB4 A0 A1 A2 A3 B0 B1 B2 B3
          have hA := fun j => cell_of_row w5 w.heap.size j _ _ _ HKA5.out
          have A0 := hA 0; have A1 := hA 1; have A2 := hA 2; have A3 := hA 3
          have hB := fun j => cell_of_row w5 (w.heap.size + 1) j _ _ _ HKB5.out
          have B0 := hB 0; have B1 := hB 1; have B2 := hB 2; have B3 := hB 3
          simp only [List.getElem?_toArray, List.getElem?_cons_succ, List.getElem?_cons_zero] at A0 A1 A2 A3 B0 B1 B2 B3
          clear hA hB
          go_wp2_with fail
          refine (Print_any ⟨uk, ui, ut, us⟩ HbU.out (.slice p' m' c') w5 (HV.out.later Hb5.out) HSB5.out).mono ?_
          rintro e w6 ⟨he, hb⟩
          unfold PrintOut at he
          rw [HPu.out] at he
          subst he
          have HKA6 := Lib.hid (keep HKA5.out hb)
          have HSA6 := Lib.hid (HSA5.out.later hb)
          have HKB6 := Lib.hid (keep HKB5.out hb)
          have HSB6 := Lib.hid (HSB5.out.later hb)
          have Hb6 := Lib.hid (then_bel Hb5.out hb)
          clear hb HKA5 HSA5 HKB5 HSB5 A0 A1 A2 A3 B0 B1 B2 B3
          have hA := fun j => cell_of_row w6 w.heap.size j _ _ _ HKA6.out
          have A0 := hA 0; have A1 := hA 1; have A2 := hA 2; have A3 := hA 3
          have hB := fun j => cell_of_row w6 (w.heap.size + 1) j _ _ _ HKB6.out
          have B0 := hB 0; have B1 := hB 1; have B2 := hB 2; have B3 := hB 3
          simp only [List.getElem?_toArray, List.getElem?_cons_succ, List.getElem?_cons_zero] at A0 A1 A2 A3 B0 B1 B2 B3
          clear hA hB
          go_wp2_with fail
          refine (Right_any ⟨vk, vi, vt, vs⟩ HbV.out (.slice p m c) w6 (HV.out.later Hb6.out) HSA6.out).mono ?_
          rintro e w7 ⟨rfl, hb⟩
          rw [HRv.out]
          have HKA7 := Lib.hid (keep HKA6.out hb)
          have HSA7 := Lib.hid (HSA6.out.later hb)
          have HKB7 := Lib.hid (keep HKB6.out hb)
          have HSB7 := Lib.hid (HSB6.out.later hb)
          have Hb7 := Lib.hid (then_bel Hb6.out hb)
          clear hb HKA6 HSA6 HKB6 HSB6 A0 A1 A2 A3 B0 B1 B2 B3
          have hA := fun j => cell_of_row w7 w.heap.size j _ _ _ HKA7.out
          have A0 := hA 0; have A1 := hA 1; have A2 := hA 2; have A3 := hA 3
          have hB := fun j => cell_of_row w7 (w.heap.size + 1) j _ _ _ HKB7.out
          have B0 := hB 0; have B1 := hB 1; have B2 := hB 2; have B3 := hB 3
          simp only [List.getElem?_toArray, List.getElem?_cons_succ, List.getElem?_cons_zero] at A0 A1 A2 A3 B0 B1 B2 B3
          clear hA hB
          go_wp2_with fail
          refine (Parse_any vk (B TV) HlV.out w7 (HV.out.later Hb7.out)).mono ?_
          rintro e w8 ⟨⟨slz, rfl, hfz⟩, hb⟩
          rw [HyV.out] at hfz ⊢
          obtain ⟨pz, mz, cz, rfl⟩ := hfz.shape
          have HSz := Lib.hid hfz.strs
          clear hfz
          unfold res rep
          simp only
          have HKA8 := Lib.hid (keep HKA7.out hb)
          have HSA8 := Lib.hid (HSA7.out.later hb)
          have HKB8 := Lib.hid (keep HKB7.out hb)
          have HSB8 := Lib.hid (HSB7.out.later hb)
          have Hb8 := Lib.hid (then_bel Hb7.out hb)
          clear hb HKA7 HSA7 HKB7 HSB7 A0 A1 A2 A3 B0 B1 B2 B3
          have hA := fun j => cell_of_row w8 w.heap.size j _ _ _ HKA8.out
          have A0 := hA 0; have A1 := hA 1; have A2 := hA 2; have A3 := hA 3
          have hB := fun j => cell_of_row w8 (w.heap.size + 1) j _ _ _ HKB8.out
          have B0 := hB 0; have B1 := hB 1; have B2 := hB 2; have B3 := hB 3
          simp only [List.getElem?_toArray, List.getElem?_cons_succ, List.getElem?_cons_zero] at A0 A1 A2 A3 B0 B1 B2 B3
          clear hA hB
          obtain ⟨w9, hw9⟩ : ∃ w9, w9 = w8.alloc (.cells #[.int .i64 vk, .int .i64 vi, .string vt, .slice pz mz cz] 45) := ⟨_, rfl⟩
          have hal : Below w8.heap.size w8 w9 := by rw [hw9]; exact (Below.refl _ _).alloc (Nat.le_refl _) _
          have HKA9 := Lib.hid (keep HKA8.out hal)
          have HSA9 := Lib.hid (HSA8.out.later hal)
          have HKB9 := Lib.hid (keep HKB8.out hal)
          have HSB9 := Lib.hid (HSB8.out.later hal)
          have Hb9 := Lib.hid (then_bel Hb8.out hal)
          have HKZ9 : Hid (w9.heap[w8.heap.size]? = some (.cells #[.int .i64 vk, .int .i64 vi, .string vt, .slice pz mz cz] 45)) := Lib.hid (by rw [hw9]; exact heap_alloc_new w8 _)
          have HSZ9 := Lib.hid (HSz.out.later hal)
          clear hal HKA8 HSA8 HKB8 HSB8 A0 A1 A2 A3 B0 B1 B2 B3
          have hA := fun j => cell_of_row w9 w.heap.size j _ _ _ HKA9.out
          have A0 := hA 0; have A1 := hA 1; have A2 := hA 2; have A3 := hA 3
          have hB := fun j => cell_of_row w9 (w.heap.size + 1) j _ _ _ HKB9.out
          have B0 := hB 0; have B1 := hB 1; have B2 := hB 2; have B3 := hB 3
          have hZ := fun j => cell_of_row w9 w8.heap.size j _ _ _ HKZ9.out
          have Z0 := hZ 0; have Z1 := hZ 1; have Z2 := hZ 2; have Z3 := hZ 3
          simp only [List.getElem?_toArray, List.getElem?_cons_succ, List.getElem?_cons_zero] at A0 A1 A2 A3 B0 B1 B2 B3 Z0 Z1 Z2 Z3
          clear hA hB hZ
          have HW9 := Lib.hid hw9
          rw [hw9] at A0 A1 A2 A3 B0 B1 B2 B3 Z0 Z1 Z2 Z3
          clear hw9
          go_wp2_with fail
          rw [← HW9.out]
          refine (Same_any ⟨vk, vi, vt, vs⟩ ⟨vk, vi, vt, vs⟩ (.slice pz mz cz) (.slice p m c) w9 HSZ9.out HSA9.out HbV.out.words HbV.out.words).mono ?_
          rintro e w10 ⟨rfl, hb⟩
          rw [decide_eq_true (rfl : (⟨vk, vi, vt, vs⟩ : Val) = _)]
          have HKA10 := Lib.hid (keep HKA9.out hb)
          have HSA10 := Lib.hid (HSA9.out.later hb)
          have HKB10 := Lib.hid (keep HKB9.out hb)
          have HSB10 := Lib.hid (HSB9.out.later hb)
          have HKZ10 := Lib.hid (keep HKZ9.out hb)
          have HSZ10 := Lib.hid (HSZ9.out.later hb)
          have Hb10 := Lib.hid (then_bel Hb9.out hb)
          clear hb HKA9 HSA9 HKB9 HSB9 HKZ9 HSZ9 A0 A1 A2 A3 B0 B1 B2 B3 Z0 Z1 Z2 Z3
          have hA := fun j => cell_of_row w10 w.heap.size j _ _ _ HKA10.out
          have A0 := hA 0; have A1 := hA 1; have A2 := hA 2; have A3 := hA 3
          have hB := fun j => cell_of_row w10 (w.heap.size + 1) j _ _ _ HKB10.out
          have B0 := hB 0; have B1 := hB 1; have B2 := hB 2; have B3 := hB 3
          have hZ := fun j => cell_of_row w10 w8.heap.size j _ _ _ HKZ10.out
          have Z0 := hZ 0; have Z1 := hZ 1; have Z2 := hZ 2; have Z3 := hZ 3
          simp only [List.getElem?_toArray, List.getElem?_cons_succ, List.getElem?_cons_zero] at A0 A1 A2 A3 B0 B1 B2 B3 Z0 Z1 Z2 Z3
          clear hA hB hZ
          by_cases hg : gx = 0
          · subst hg
            obtain ⟨hr, hk⟩ := HX0.out rfl
            have hX1 := HX1.out rfl
            rw [hk] at hr hX1
            have HX2 : Hid (parse wordL k s.data.toList = (⟨k, xi, xt, xs⟩, 0)) := Lib.hid (by rw [HX.out, hk])
            have HrX := Lib.hid hr
            have HbX := Lib.hid (vb_right hr)
            obtain ⟨PL, hPL⟩ : ∃ PL, prints ⟨k, xi, xt, xs⟩ = PL := ⟨_, rfl⟩
            have HpX : Hid (print wordL ⟨k, xi, xt, xs⟩ = (PL, 0)) := Lib.hid (by rw [print_t hr, hPL])
            have HyX : Hid (parse wordL k (B PL).data.toList = (⟨k, xi, xt, xs⟩, 0)) := Lib.hid (by
              have := parse_prints wordL_is hr
              rw [hPL] at this
              exact this)
            have HlX : Hid ((B PL).size ≤ 2147483647) := Lib.hid (by
              have := prints_len hr
              rw [hPL] at this
              show PL.toArray.size ≤ _
              simp
              omega)
            have HexX : Hid (((k != 2) = true ∧ (k != 5) = true ∧ (k != 6) = true) ∨ ((k = 2 ∨ k = 5 ∨ k = 6) ∧ (PL == s.toList) = true)) := Lib.hid (by
              by_cases h : k = 2 ∨ k = 5 ∨ k = 6
              · refine .inr ⟨h, ?_⟩
                rw [ByteArray.toList_eq, ← hX1 h, hPL]
                simp
              · exact .inl ⟨by simp; omega, by simp; omega, by simp; omega⟩)
            clear hr hk hX1 hPL
            go_wp2_with fail
            refine (Parse_any k s hs2 w10 (HV.out.later Hb10.out)).mono ?_
            rintro e w11 ⟨⟨slx, rfl, hfx⟩, hb⟩
            rw [HX2.out] at hfx ⊢
            obtain ⟨px, mx, cx, rfl⟩ := hfx.shape
            have HSx := Lib.hid hfx.strs
            clear hfx
            unfold res rep
            simp only
            have HKA11 := Lib.hid (keep HKA10.out hb)
            have HSA11 := Lib.hid (HSA10.out.later hb)
            have HKB11 := Lib.hid (keep HKB10.out hb)
            have HSB11 := Lib.hid (HSB10.out.later hb)
            have HKZ11 := Lib.hid (keep HKZ10.out hb)
            have HSZ11 := Lib.hid (HSZ10.out.later hb)
            have Hb11 := Lib.hid (then_bel Hb10.out hb)
            clear hb HKA10 HSA10 HKB10 HSB10 HKZ10 HSZ10 A0 A1 A2 A3 B0 B1 B2 B3 Z0 Z1 Z2 Z3
            have hA := fun j => cell_of_row w11 w.heap.size j _ _ _ HKA11.out
            have A0 := hA 0; have A1 := hA 1; have A2 := hA 2; have A3 := hA 3
            have hB := fun j => cell_of_row w11 (w.heap.size + 1) j _ _ _ HKB11.out
            have B0 := hB 0; have B1 := hB 1; have B2 := hB 2; have B3 := hB 3
            have hZ := fun j => cell_of_row w11 w8.heap.size j _ _ _ HKZ11.out
            have Z0 := hZ 0; have Z1 := hZ 1; have Z2 := hZ 2; have Z3 := hZ 3
            simp only [List.getElem?_toArray, List.getElem?_cons_succ, List.getElem?_cons_zero] at A0 A1 A2 A3 B0 B1 B2 B3 Z0 Z1 Z2 Z3
            clear hA hB hZ
            obtain ⟨w12, hw12⟩ : ∃ w12, w12 = w11.alloc (.cells #[.int .i64 k, .int .i64 xi, .string xt, .slice px mx cx] 45) := ⟨_, rfl⟩
            have hal : Below w11.heap.size w11 w12 := by rw [hw12]; exact (Below.refl _ _).alloc (Nat.le_refl _) _
            have HKA12 := Lib.hid (keep HKA11.out hal)
            have HSA12 := Lib.hid (HSA11.out.later hal)
            have HKB12 := Lib.hid (keep HKB11.out hal)
            have HSB12 := Lib.hid (HSB11.out.later hal)
            have HKZ12 := Lib.hid (keep HKZ11.out hal)
            have HSZ12 := Lib.hid (HSZ11.out.later hal)
            have Hb12 := Lib.hid (then_bel Hb11.out hal)
            have HKX12 : Hid (w12.heap[w11.heap.size]? = some (.cells #[.int .i64 k, .int .i64 xi, .string xt, .slice px mx cx] 45)) := Lib.hid (by rw [hw12]; exact heap_alloc_new w11 _)
            have HSX12 := Lib.hid (HSx.out.later hal)
            clear hal HKA11 HSA11 HKB11 HSB11 HKZ11 HSZ11 A0 A1 A2 A3 B0 B1 B2 B3 Z0 Z1 Z2 Z3
            have hA := fun j => cell_of_row w12 w.heap.size j _ _ _ HKA12.out
            have A0 := hA 0; have A1 := hA 1; have A2 := hA 2; have A3 := hA 3
            have hB := fun j => cell_of_row w12 (w.heap.size + 1) j _ _ _ HKB12.out
            have B0 := hB 0; have B1 := hB 1; have B2 := hB 2; have B3 := hB 3
            have hZ := fun j => cell_of_row w12 w8.heap.size j _ _ _ HKZ12.out
            have Z0 := hZ 0; have Z1 := hZ 1; have Z2 := hZ 2; have Z3 := hZ 3
            have hX := fun j => cell_of_row w12 w11.heap.size j _ _ _ HKX12.out
            have X0 := hX 0; have X1 := hX 1; have X2 := hX 2; have X3 := hX 3
            simp only [List.getElem?_toArray, List.getElem?_cons_succ, List.getElem?_cons_zero] at A0 A1 A2 A3 B0 B1 B2 B3 Z0 Z1 Z2 Z3 X0 X1 X2 X3
            clear hA hB hZ hX
            have HW12 := Lib.hid hw12
            rw [hw12] at A0 A1 A2 A3 B0 B1 B2 B3 Z0 Z1 Z2 Z3 X0 X1 X2 X3
            clear hw12
            go_wp2_with fail
            rw [← HW12.out]
            refine (Right_any ⟨k, xi, xt, xs⟩ HbX.out (.slice px mx cx) w12 (HV.out.later Hb12.out) HSX12.out).mono ?_
            rintro e w13 ⟨rfl, hb⟩
            rw [HrX.out]
            have HKA13 := Lib.hid (keep HKA12.out hb)
            have HSA13 := Lib.hid (HSA12.out.later hb)
            have HKB13 := Lib.hid (keep HKB12.out hb)
            have HSB13 := Lib.hid (HSB12.out.later hb)
            have HKZ13 := Lib.hid (keep HKZ12.out hb)
            have HSZ13 := Lib.hid (HSZ12.out.later hb)
            have HKX13 := Lib.hid (keep HKX12.out hb)
            have HSX13 := Lib.hid (HSX12.out.later hb)
            have Hb13 := Lib.hid (then_bel Hb12.out hb)
            clear hb HKA12 HSA12 HKB12 HSB12 HKZ12 HSZ12 HKX12 HSX12 A0 A1 A2 A3 B0 B1 B2 B3 Z0 Z1 Z2 Z3 X0 X1 X2 X3
            have hA := fun j => cell_of_row w13 w.heap.size j _ _ _ HKA13.out
            have A0 := hA 0; have A1 := hA 1; have A2 := hA 2; have A3 := hA 3
            have hB := fun j => cell_of_row w13 (w.heap.size + 1) j _ _ _ HKB13.out
            have B0 := hB 0; have B1 := hB 1; have B2 := hB 2; have B3 := hB 3
            have hZ := fun j => cell_of_row w13 w8.heap.size j _ _ _ HKZ13.out
            have Z0 := hZ 0; have Z1 := hZ 1; have Z2 := hZ 2; have Z3 := hZ 3
            have hX := fun j => cell_of_row w13 w11.heap.size j _ _ _ HKX13.out
            have X0 := hX 0; have X1 := hX 1; have X2 := hX 2; have X3 := hX 3
            simp only [List.getElem?_toArray, List.getElem?_cons_succ, List.getElem?_cons_zero] at A0 A1 A2 A3 B0 B1 B2 B3 Z0 Z1 Z2 Z3 X0 X1 X2 X3
            clear hA hB hZ hX
            go_wp2_with fail
            refine (Print_any ⟨k, xi, xt, xs⟩ HbX.out (.slice px mx cx) w13 (HV.out.later Hb13.out) HSX13.out).mono ?_
            rintro e w14 ⟨he, hb⟩
            unfold PrintOut at he
            rw [HpX.out] at he
            subst he
            have HKA14 := Lib.hid (keep HKA13.out hb)
            have HSA14 := Lib.hid (HSA13.out.later hb)
            have HKB14 := Lib.hid (keep HKB13.out hb)
            have HSB14 := Lib.hid (HSB13.out.later hb)
            have HKZ14 := Lib.hid (keep HKZ13.out hb)
            have HSZ14 := Lib.hid (HSZ13.out.later hb)
            have HKX14 := Lib.hid (keep HKX13.out hb)
            have HSX14 := Lib.hid (HSX13.out.later hb)
            have Hb14 := Lib.hid (then_bel Hb13.out hb)
            clear hb HKA13 HSA13 HKB13 HSB13 HKZ13 HSZ13 HKX13 HSX13 A0 A1 A2 A3 B0 B1 B2 B3 Z0 Z1 Z2 Z3 X0 X1 X2 X3
            have hA := fun j => cell_of_row w14 w.heap.size j _ _ _ HKA14.out
            have A0 := hA 0; have A1 := hA 1; have A2 := hA 2; have A3 := hA 3
            have hB := fun j => cell_of_row w14 (w.heap.size + 1) j _ _ _ HKB14.out
            have B0 := hB 0; have B1 := hB 1; have B2 := hB 2; have B3 := hB 3
            have hZ := fun j => cell_of_row w14 w8.heap.size j _ _ _ HKZ14.out
            have Z0 := hZ 0; have Z1 := hZ 1; have Z2 := hZ 2; have Z3 := hZ 3
            have hX := fun j => cell_of_row w14 w11.heap.size j _ _ _ HKX14.out
            have X0 := hX 0; have X1 := hX 1; have X2 := hX 2; have X3 := hX 3
            simp only [List.getElem?_toArray, List.getElem?_cons_succ, List.getElem?_cons_zero] at A0 A1 A2 A3 B0 B1 B2 B3 Z0 Z1 Z2 Z3 X0 X1 X2 X3
            clear hA hB hZ hX
            go_wp2_with fail
            refine (Parse_any k (B PL) HlX.out w14 (HV.out.later Hb14.out)).mono ?_
            rintro e w15 ⟨⟨sly, rfl, hfy⟩, hb⟩
            rw [HyX.out] at hfy ⊢
            obtain ⟨py, my, cy, rfl⟩ := hfy.shape
            have HSy := Lib.hid hfy.strs
            clear hfy
            unfold res rep
            simp only
            have HKA15 := Lib.hid (keep HKA14.out hb)
            have HSA15 := Lib.hid (HSA14.out.later hb)
            have HKB15 := Lib.hid (keep HKB14.out hb)
            have HSB15 := Lib.hid (HSB14.out.later hb)
            have HKZ15 := Lib.hid (keep HKZ14.out hb)
            have HSZ15 := Lib.hid (HSZ14.out.later hb)
            have HKX15 := Lib.hid (keep HKX14.out hb)
            have HSX15 := Lib.hid (HSX14.out.later hb)
            have Hb15 := Lib.hid (then_bel Hb14.out hb)
            clear hb HKA14 HSA14 HKB14 HSB14 HKZ14 HSZ14 HKX14 HSX14 A0 A1 A2 A3 B0 B1 B2 B3 Z0 Z1 Z2 Z3 X0 X1 X2 X3
            have hA := fun j => cell_of_row w15 w.heap.size j _ _ _ HKA15.out
            have A0 := hA 0; have A1 := hA 1; have A2 := hA 2; have A3 := hA 3
            have hB := fun j => cell_of_row w15 (w.heap.size + 1) j _ _ _ HKB15.out
            have B0 := hB 0; have B1 := hB 1; have B2 := hB 2; have B3 := hB 3
            have hZ := fun j => cell_of_row w15 w8.heap.size j _ _ _ HKZ15.out
            have Z0 := hZ 0; have Z1 := hZ 1; have Z2 := hZ 2; have Z3 := hZ 3
            have hX := fun j => cell_of_row w15 w11.heap.size j _ _ _ HKX15.out
            have X0 := hX 0; have X1 := hX 1; have X2 := hX 2; have X3 := hX 3
            simp only [List.getElem?_toArray, List.getElem?_cons_succ, List.getElem?_cons_zero] at A0 A1 A2 A3 B0 B1 B2 B3 Z0 Z1 Z2 Z3 X0 X1 X2 X3
            clear hA hB hZ hX
            obtain ⟨w16, hw16⟩ : ∃ w16, w16 = w15.alloc (.cells #[.int .i64 k, .int .i64 xi, .string xt, .slice py my cy] 45) := ⟨_, rfl⟩
            have hal : Below w15.heap.size w15 w16 := by rw [hw16]; exact (Below.refl _ _).alloc (Nat.le_refl _) _
            have HKA16 := Lib.hid (keep HKA15.out hal)
            have HSA16 := Lib.hid (HSA15.out.later hal)
            have HKB16 := Lib.hid (keep HKB15.out hal)
            have HSB16 := Lib.hid (HSB15.out.later hal)
            have HKZ16 := Lib.hid (keep HKZ15.out hal)
            have HSZ16 := Lib.hid (HSZ15.out.later hal)
            have HKX16 := Lib.hid (keep HKX15.out hal)
            have HSX16 := Lib.hid (HSX15.out.later hal)
            have Hb16 := Lib.hid (then_bel Hb15.out hal)
            have HKY16 : Hid (w16.heap[w15.heap.size]? = some (.cells #[.int .i64 k, .int .i64 xi, .string xt, .slice py my cy] 45)) := Lib.hid (by rw [hw16]; exact heap_alloc_new w15 _)
            have HSY16 := Lib.hid (HSy.out.later hal)
            clear hal HKA15 HSA15 HKB15 HSB15 HKZ15 HSZ15 HKX15 HSX15 A0 A1 A2 A3 B0 B1 B2 B3 Z0 Z1 Z2 Z3 X0 X1 X2 X3
            have hA := fun j => cell_of_row w16 w.heap.size j _ _ _ HKA16.out
            have A0 := hA 0; have A1 := hA 1; have A2 := hA 2; have A3 := hA 3
            have hB := fun j => cell_of_row w16 (w.heap.size + 1) j _ _ _ HKB16.out
            have B0 := hB 0; have B1 := hB 1; have B2 := hB 2; have B3 := hB 3
            have hZ := fun j => cell_of_row w16 w8.heap.size j _ _ _ HKZ16.out
            have Z0 := hZ 0; have Z1 := hZ 1; have Z2 := hZ 2; have Z3 := hZ 3
            have hX := fun j => cell_of_row w16 w11.heap.size j _ _ _ HKX16.out
            have X0 := hX 0; have X1 := hX 1; have X2 := hX 2; have X3 := hX 3
            have hY := fun j => cell_of_row w16 w15.heap.size j _ _ _ HKY16.out
            have Y0 := hY 0; have Y1 := hY 1; have Y2 := hY 2; have Y3 := hY 3
            simp only [List.getElem?_toArray, List.getElem?_cons_succ, List.getElem?_cons_zero] at A0 A1 A2 A3 B0 B1 B2 B3 Z0 Z1 Z2 Z3 X0 X1 X2 X3 Y0 Y1 Y2 Y3
            clear hA hB hZ hX hY
            have HW16 := Lib.hid hw16
            rw [hw16] at A0 A1 A2 A3 B0 B1 B2 B3 Z0 Z1 Z2 Z3 X0 X1 X2 X3 Y0 Y1 Y2 Y3
            clear hw16
            go_wp2_with fail
            rw [← HW16.out]
            refine (Print_any ⟨k, xi, xt, xs⟩ HbX.out (.slice py my cy) w16 (HV.out.later Hb16.out) HSY16.out).mono ?_
            rintro e w17 ⟨he, hb⟩
            unfold PrintOut at he
            rw [HpX.out] at he
            subst he
            have HKA17 := Lib.hid (keep HKA16.out hb)
            have HSA17 := Lib.hid (HSA16.out.later hb)
            have HKB17 := Lib.hid (keep HKB16.out hb)
            have HSB17 := Lib.hid (HSB16.out.later hb)
            have HKZ17 := Lib.hid (keep HKZ16.out hb)
            have HSZ17 := Lib.hid (HSZ16.out.later hb)
            have HKX17 := Lib.hid (keep HKX16.out hb)
            have HSX17 := Lib.hid (HSX16.out.later hb)
            have HKY17 := Lib.hid (keep HKY16.out hb)
            have HSY17 := Lib.hid (HSY16.out.later hb)
            have Hb17 := Lib.hid (then_bel Hb16.out hb)
            clear hb HKA16 HSA16 HKB16 HSB16 HKZ16 HSZ16 HKX16 HSX16 HKY16 HSY16 A0 A1 A2 A3 B0 B1 B2 B3 Z0 Z1 Z2 Z3 X0 X1 X2 X3 Y0 Y1 Y2 Y3
            have hA := fun j => cell_of_row w17 w.heap.size j _ _ _ HKA17.out
            have A0 := hA 0; have A1 := hA 1; have A2 := hA 2; have A3 := hA 3
            have hB := fun j => cell_of_row w17 (w.heap.size + 1) j _ _ _ HKB17.out
            have B0 := hB 0; have B1 := hB 1; have B2 := hB 2; have B3 := hB 3
            have hZ := fun j => cell_of_row w17 w8.heap.size j _ _ _ HKZ17.out
            have Z0 := hZ 0; have Z1 := hZ 1; have Z2 := hZ 2; have Z3 := hZ 3
            have hX := fun j => cell_of_row w17 w11.heap.size j _ _ _ HKX17.out
            have X0 := hX 0; have X1 := hX 1; have X2 := hX 2; have X3 := hX 3
            have hY := fun j => cell_of_row w17 w15.heap.size j _ _ _ HKY17.out
            have Y0 := hY 0; have Y1 := hY 1; have Y2 := hY 2; have Y3 := hY 3
            simp only [List.getElem?_toArray, List.getElem?_cons_succ, List.getElem?_cons_zero] at A0 A1 A2 A3 B0 B1 B2 B3 Z0 Z1 Z2 Z3 X0 X1 X2 X3 Y0 Y1 Y2 Y3
            clear hA hB hZ hX hY
            go_wp2_with fail
            refine (Same_any ⟨k, xi, xt, xs⟩ ⟨k, xi, xt, xs⟩ (.slice px mx cx) (.slice py my cy) w17 HSX17.out HSY17.out HbX.out.words HbX.out.words).mono ?_
            rintro e w18 ⟨rfl, hb⟩
            rw [decide_eq_true (rfl : (⟨k, xi, xt, xs⟩ : Val) = _)]
            have HKA18 := Lib.hid (keep HKA17.out hb)
            have HSA18 := Lib.hid (HSA17.out.later hb)
            have HKB18 := Lib.hid (keep HKB17.out hb)
            have HSB18 := Lib.hid (HSB17.out.later hb)
            have HKZ18 := Lib.hid (keep HKZ17.out hb)
            have HSZ18 := Lib.hid (HSZ17.out.later hb)
            have HKX18 := Lib.hid (keep HKX17.out hb)
            have HSX18 := Lib.hid (HSX17.out.later hb)
            have HKY18 := Lib.hid (keep HKY17.out hb)
            have HSY18 := Lib.hid (HSY17.out.later hb)
            have Hb18 := Lib.hid (then_bel Hb17.out hb)
            clear hb HKA17 HSA17 HKB17 HSB17 HKZ17 HSZ17 HKX17 HSX17 HKY17 HSY17 A0 A1 A2 A3 B0 B1 B2 B3 Z0 Z1 Z2 Z3 X0 X1 X2 X3 Y0 Y1 Y2 Y3
            have hA := fun j => cell_of_row w18 w.heap.size j _ _ _ HKA18.out
            have A0 := hA 0; have A1 := hA 1; have A2 := hA 2; have A3 := hA 3
            have hB := fun j => cell_of_row w18 (w.heap.size + 1) j _ _ _ HKB18.out
            have B0 := hB 0; have B1 := hB 1; have B2 := hB 2; have B3 := hB 3
            have hZ := fun j => cell_of_row w18 w8.heap.size j _ _ _ HKZ18.out
            have Z0 := hZ 0; have Z1 := hZ 1; have Z2 := hZ 2; have Z3 := hZ 3
            have hX := fun j => cell_of_row w18 w11.heap.size j _ _ _ HKX18.out
            have X0 := hX 0; have X1 := hX 1; have X2 := hX 2; have X3 := hX 3
            have hY := fun j => cell_of_row w18 w15.heap.size j _ _ _ HKY18.out
            have Y0 := hY 0; have Y1 := hY 1; have Y2 := hY 2; have Y3 := hY 3
            simp only [List.getElem?_toArray, List.getElem?_cons_succ, List.getElem?_cons_zero] at A0 A1 A2 A3 B0 B1 B2 B3 Z0 Z1 Z2 Z3 X0 X1 X2 X3 Y0 Y1 Y2 Y3
            clear hA hB hZ hX hY
            rcases HexX.out with ⟨q2, q5, q6⟩ | ⟨qk, hps⟩
            · go_wp2_with fail
              go_ret
              exact ⟨rfl, Hb18.out⟩
            · rcases qk with rfl | rfl | rfl
              · go_wp2_with fail
                go_ret
                exact ⟨rfl, Hb18.out⟩
              · go_wp2_with fail
                go_ret
                exact ⟨rfl, Hb18.out⟩
              · go_wp2_with fail
                go_ret
                exact ⟨rfl, Hb18.out⟩
          · have hg' : (gx != 0) = true := by simp [hg]
            go_wp2_with fail
            refine (Parse_any k s hs2 w10 (HV.out.later Hb10.out)).mono ?_
            rintro e w11 ⟨⟨slx, rfl, hfx⟩, hb⟩
            rw [HX.out] at hfx ⊢
            obtain ⟨px, mx, cx, rfl⟩ := hfx.shape
            unfold res rep
            simp only
            clear hfx
            have HKA11 := Lib.hid (keep HKA10.out hb)
            have HSA11 := Lib.hid (HSA10.out.later hb)
            have HKB11 := Lib.hid (keep HKB10.out hb)
            have HSB11 := Lib.hid (HSB10.out.later hb)
            have HKZ11 := Lib.hid (keep HKZ10.out hb)
            have HSZ11 := Lib.hid (HSZ10.out.later hb)
            have Hb11 := Lib.hid (then_bel Hb10.out hb)
            clear hb HKA10 HSA10 HKB10 HSB10 HKZ10 HSZ10 A0 A1 A2 A3 B0 B1 B2 B3 Z0 Z1 Z2 Z3
            have hA := fun j => cell_of_row w11 w.heap.size j _ _ _ HKA11.out
            have A0 := hA 0; have A1 := hA 1; have A2 := hA 2; have A3 := hA 3
            have hB := fun j => cell_of_row w11 (w.heap.size + 1) j _ _ _ HKB11.out
            have B0 := hB 0; have B1 := hB 1; have B2 := hB 2; have B3 := hB 3
            have hZ := fun j => cell_of_row w11 w8.heap.size j _ _ _ HKZ11.out
            have Z0 := hZ 0; have Z1 := hZ 1; have Z2 := hZ 2; have Z3 := hZ 3
            simp only [List.getElem?_toArray, List.getElem?_cons_succ, List.getElem?_cons_zero] at A0 A1 A2 A3 B0 B1 B2 B3 Z0 Z1 Z2 Z3
            clear hA hB hZ
            go_wp2_with fail
            go_ret
            exact ⟨rfl, (Hb11.out).alloc (Hb11.out).size _⟩
end Go.Proofs.YtkbamhecbfocbaaDoor.va
