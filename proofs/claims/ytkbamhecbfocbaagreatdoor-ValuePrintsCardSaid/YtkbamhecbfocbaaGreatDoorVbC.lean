/- tinderboxlaw04.ValuePrints returns true. Conditions: the arguments lie in memory; the listed variables hold what the program's text lays. -/
import Derived.Test.YtkbamhecbfocbaaGreatDoorVbB
import Derived.Test.YtkbamhecbfocbaaGreatDoorVaS
import Derived.Test.YtkbamhecbfocbaaGreatDoorMem
import Derived.Deep.RegionHeld3
namespace Go.Proofs.YtkbamhecbfocbaaGreatDoor.va
open Go.ChangeShapes Go.WideShapes Go.ChangeAt Go.RowKit gl

theorem adds_le {n m : Int} (h0 : 0 ≤ n) (g0 : 0 ≤ m) (h : adds n m ≤ 2147483647) : n ≤ 2147483647 ∧ m ≤ 2147483647 := by
  unfold adds at h
  split at h <;> omega
theorem s8_drew {w0 wp : World} {b c : Nat} {x0 x1 x2 x3 y0 y1 y2 y3 : Value} (h : (wp.cell? ⟨b, 0, none⟩ = some x0 ∧ wp.cell? ⟨b, 1, none⟩ = some x1 ∧ wp.cell? ⟨b, 2, none⟩ = some x2 ∧ wp.cell? ⟨b, 3, none⟩ = some x3 ∧ wp.cell? ⟨c, 0, none⟩ = some y0 ∧ wp.cell? ⟨c, 1, none⟩ = some y1 ∧ wp.cell? ⟨c, 2, none⟩ = some y2 ∧ wp.cell? ⟨c, 3, none⟩ = some y3 ∧ Hid (Below w0.heap.size w0 wp))) :
    wp.drew.cell? ⟨b, 0, none⟩ = some x0 ∧ wp.drew.cell? ⟨b, 1, none⟩ = some x1 ∧ wp.drew.cell? ⟨b, 2, none⟩ = some x2 ∧ wp.drew.cell? ⟨b, 3, none⟩ = some x3 ∧ wp.drew.cell? ⟨c, 0, none⟩ = some y0 ∧ wp.drew.cell? ⟨c, 1, none⟩ = some y1 ∧ wp.drew.cell? ⟨c, 2, none⟩ = some y2 ∧ wp.drew.cell? ⟨c, 3, none⟩ = some y3 ∧ Hid (Below w0.heap.size w0 wp.drew) :=
  ⟨h.1, h.2.1, h.2.2.1, h.2.2.2.1, h.2.2.2.2.1, h.2.2.2.2.2.1, h.2.2.2.2.2.2.1, h.2.2.2.2.2.2.2.1, Lib.hid h.2.2.2.2.2.2.2.2.out.drew⟩
theorem s8_call {w0 wp w' : World} {b c : Nat} {x0 x1 x2 x3 y0 y1 y2 y3 : Value} (h : (wp.cell? ⟨b, 0, none⟩ = some x0 ∧ wp.cell? ⟨b, 1, none⟩ = some x1 ∧ wp.cell? ⟨b, 2, none⟩ = some x2 ∧ wp.cell? ⟨b, 3, none⟩ = some x3 ∧ wp.cell? ⟨c, 0, none⟩ = some y0 ∧ wp.cell? ⟨c, 1, none⟩ = some y1 ∧ wp.cell? ⟨c, 2, none⟩ = some y2 ∧ wp.cell? ⟨c, 3, none⟩ = some y3 ∧ Hid (Below w0.heap.size w0 wp))) (hb : Below wp.heap.size wp w') :
    w'.cell? ⟨b, 0, none⟩ = some x0 ∧ w'.cell? ⟨b, 1, none⟩ = some x1 ∧ w'.cell? ⟨b, 2, none⟩ = some x2 ∧ w'.cell? ⟨b, 3, none⟩ = some x3 ∧ w'.cell? ⟨c, 0, none⟩ = some y0 ∧ w'.cell? ⟨c, 1, none⟩ = some y1 ∧ w'.cell? ⟨c, 2, none⟩ = some y2 ∧ w'.cell? ⟨c, 3, none⟩ = some y3 ∧ Hid (Below w0.heap.size w0 w') :=
  have k : ∀ {p : Addr} {x : Value}, wp.cell? p = some x → w'.cell? p = some x := fun hp => (hb.cell (World.block_lt_of_cell? _ _ hp)).trans hp
  ⟨k h.1, k h.2.1, k h.2.2.1, k h.2.2.2.1, k h.2.2.2.2.1, k h.2.2.2.2.2.1, k h.2.2.2.2.2.2.1, k h.2.2.2.2.2.2.2.1, Lib.hid (then_bel h.2.2.2.2.2.2.2.2.out hb)⟩
theorem s8_bel {w0 wp : World} {b c : Nat} {x0 x1 x2 x3 y0 y1 y2 y3 : Value} (h : (wp.cell? ⟨b, 0, none⟩ = some x0 ∧ wp.cell? ⟨b, 1, none⟩ = some x1 ∧ wp.cell? ⟨b, 2, none⟩ = some x2 ∧ wp.cell? ⟨b, 3, none⟩ = some x3 ∧ wp.cell? ⟨c, 0, none⟩ = some y0 ∧ wp.cell? ⟨c, 1, none⟩ = some y1 ∧ wp.cell? ⟨c, 2, none⟩ = some y2 ∧ wp.cell? ⟨c, 3, none⟩ = some y3 ∧ Hid (Below w0.heap.size w0 wp))) : Below w0.heap.size w0 wp := h.2.2.2.2.2.2.2.2.out

set_option maxHeartbeats 1000000 in
set_option maxRecDepth 100000 in
theorem whole_upd (v : Val) (hb : Vb v) (g : Nat) (sl : Value) (w : World) (hrow : w.heap[g]? = some (.cells (lentRow v.words).toArray 9 (0, 0))) (hS : Strs w sl v.words) :
    Calls Tryz.prog 19 #[rep v (.slice (some ⟨g, 0, none⟩) v.words.length (v.words.length + 2)), rep v sl] w fun e w' => e = .returned (.bool true) ∧ Upd [g] w w' := by
  have hSo := lent_strs hrow
  have hsame := fun (W : World) (hbW : Below w.heap.size w W) => refSame_any v v _ sl W (hSo.later hbW) (hS.later hbW) hb.words hb.words
  rw [decide_eq_true (rfl : v = v)] at hsame
  have HSame := Lib.hid hsame
  obtain ⟨k, n, t, ws⟩ := v
  obtain ⟨_, _, _, hl, _, _⟩ := hb
  simp only at hl hrow hS
  obtain ⟨p, c, rfl, hc, _⟩ := hS
  obtain ⟨m, hm⟩ : ∃ m, ws.length = m := ⟨_, rfl⟩
  have Hm := Lib.hid hm
  have Hrow := Lib.hid hrow
  have hglt := lt_of_block hrow
  unfold rep at *
  simp only at *
  rw [hm] at HSame hl hc ⊢
  clear hm hsame hSo hrow
  go_enter Tryz.func19, Tryz.ntmps19
  go_wp2_with fail
  refine (HSame.out _ (((Below.refl _ w).alloc (Nat.le_refl _) _).alloc (by simp) _)).mono ?_
  rintro e w1 ⟨rfl, hb⟩
  obtain ⟨hB0, hB1⟩ := two_blocks hb
  rw [heap_alloc_new] at hB0
  have hbw : Below w.heap.size w w1 := (((Below.refl _ w).alloc (Nat.le_refl _) _).alloc (by simp) _).trans (hb.mono (by simp; omega))
  have Hrow1 := Lib.hid (keep Hrow.out hbw)
  have Hbw := Lib.hid (Upd.of_below hbw [g])
  have hsz1 := hbw.size
  have hc0 := fun j => cell_of_row w1 w.heap.size j _ _ _ hB0
  have hd0 := fun j => cell_of_row w1 (w.heap.size + 1) j _ _ _ hB1
  have c3 := hc0 3
  have d3 := hd0 3
  simp only [List.getElem?_toArray, List.getElem?_cons_succ, List.getElem?_cons_zero] at c3 d3
  have gm : w1.cell? ⟨g, m, none⟩ = some (.string spare) := by
    rw [cell_of_row w1 g m _ _ _ Hrow1.out, List.getElem?_toArray, ← Hm.out]
    simp [lentRow]
  have gm1 : w1.cell? ⟨g, m + 1, none⟩ = some (.string .empty) := by
    rw [cell_of_row w1 g (m + 1) _ _ _ Hrow1.out, List.getElem?_toArray, ← Hm.out]
    simp [lentRow]
  have hsp : (spare.toList == [115, 112, 97, 114, 101]) = true := seq_lit rfl
  have hsp2 : (ByteArray.empty).toList.isEmpty = true := by rw [ByteArray.toList_eq]; rfl
  clear hb hB0 hB1 hbw hc0 hd0
  go_wp2_with fail
  go_loopw [7] (fun i wr => ∃ (j : Nat) (cur : Array Value), j ≤ m + 2 ∧ i = .int .i64 j ∧ wr.heap[g]? = some (.cells cur 9 (0, 0)) ∧ cur.size = m + 2 ∧ (∀ q, q < m + 2 → ∃ x, cur[q]? = some (.string x)) ∧ Upd [g] w wr) (fun i _ => m + 2 - (intOf i).toNat)
  case atStart => exact ⟨0, (lentRow ws).toArray, by omega, rfl, Hrow1.out, by simp [lentRow, Hm.out], fun q hq => by
    rw [List.getElem?_toArray]
    unfold lentRow
    rw [List.getElem?_map, List.getElem?_eq_getElem (by simp [Hm.out]; omega)]
    exact ⟨_, rfl⟩, Hbw.out⟩
  case round =>
    obtain ⟨j, cur, hj, rfl, hr, hcs, hall, hb⟩ := hrel
    have Hr := Lib.hid hr
    have Hb := Lib.hid hb
    have Hall := Lib.hid hall
    have Hcs := Lib.hid hcs
    by_cases hlt : j < m + 2
    · obtain ⟨x, hx⟩ := hall j hlt
      have hcell : wr.cell? ⟨g, j, none⟩ = some (.string x) := by rw [cell_of_row wr g j _ _ _ hr, hx]
      have hfr := frozen_of_row wr g j _ _ hr
      have hji : (j : Int) < (m : Int) + 2 := by omega
      clear hr hcs hall hb hx
      go_wp2_with fail
      go_roundw
      case rel =>
        refine ⟨j + 1, cur.setIfInBounds j (.string ⟨#[111, 118, 101, 114]⟩), by omega, by go_num, heap_set Hr.out _, by simp [Hcs.out], fun q hq => ?_, Hb.out.setCell (.inl (by simp)) _⟩
        by_cases hqj : j = q
        · subst hqj
          exact ⟨_, Array.getElem?_setIfInBounds_self_of_lt (by rw [Hcs.out]; exact hq)⟩
        · obtain ⟨y, hy⟩ := Hall.out q hq
          exact ⟨y, by rw [Array.getElem?_setIfInBounds_ne hqj]; exact hy⟩
      case measure => simp [intOf]; omega
    · obtain rfl : j = m + 2 := by omega
      have hdec : decide (((m + 2 : Nat) : Int) < (m : Int) + 2) = false := by simp
      clear hr hcs hall hb
      go_wp2_with fail
      go_ret
      exact ⟨rfl, Hb.out⟩
theorem upd_keep {w w' : World} {b g : Nat} {x : Obj} (h : w.heap[b]? = some x) (hu : Upd [g] w w') (hne : b ≠ g) : w'.heap[b]? = some x := (hu.block _ (lt_of_block h) (by simpa using hne)).trans h

set_option maxHeartbeats 4000000 in
set_option maxRecDepth 100000 in
theorem valuePrints_any (v : Val) (hv : Vh v) (sl : Value) (u : Val) (hu : Vh u) (sl' : Value) (w : World) (hSv : Strs w sl v.words) (hSu : Strs w sl' u.words) (hV : Vlo w) :
    Calls Tryz.prog 4 #[rep v sl, rep u sl'] w fun e w' => e = .returned (.bool true) ∧ Below w.heap.size w w' := by
  have HV := Lib.hid hV
  have HWv := Lib.hid fun (W : World) (hb : Below w.heap.size w W) => weighs_any v hv sl W (hSv.later hb)
  have HWu := Lib.hid fun (W : World) (hb : Below w.heap.size w W) => weighs_any u hu sl' W (hSu.later hb)
  have HBv : Hid (weighs v ≤ 2147483647 → Vb v) := Lib.hid (vb_of hv)
  have HBu : Hid (weighs u ≤ 2147483647 → Vb u) := Lib.hid (vb_of hu)
  have hav := weighs_bd v
  have hau := weighs_bd u
  generalize weighs v = av at *
  generalize weighs u = au at *
  clear hV hv hu
  have HA1 := Lib.hid fun W => addsUp_any av au hav.1 (by omega) hau.1 (by omega) W
  have HL1 : Hid (adds av au ≤ 2147483647 → av ≤ 2147483647 ∧ au ≤ 2147483647) := Lib.hid fun h => adds_le hav.1 hau.1 h
  generalize adds av au = a2 at *
  clear hav hau
  obtain ⟨vk, vi, vt, vs⟩ := v
  obtain ⟨uk, ui, ut, us⟩ := u
  simp only at hSv hSu
  have HSv := Lib.hid hSv
  have HSu := Lib.hid hSu
  obtain ⟨p, c, rfl, hc, _⟩ := hSv
  obtain ⟨p', c', rfl, hc', _⟩ := hSu
  unfold rep at *
  simp only at *
  generalize hm : vs.length = m at *
  generalize hm' : us.length = m' at *
  have Hm := Lib.hid hm
  have Hm' := Lib.hid hm'
  clear hm hm' hc hc'
  go_enter Tryz.func4, Tryz.ntmps4
  go_wp2_with fail
  obtain ⟨w2, hw2⟩ : ∃ w2, w2 = (w.alloc (.cells #[.int .i64 vk, .int .i64 vi, .string vt, .slice p m c] 28)).alloc (.cells #[.int .i64 uk, .int .i64 ui, .string ut, .slice p' m' c'] 28) := ⟨_, rfl⟩
  rw [← hw2]
  have Hb2 : Hid (Below w.heap.size w w2) := Lib.hid (by rw [hw2]; exact ((Below.refl _ w).alloc (Nat.le_refl _) _).alloc (by simp) _)
  obtain ⟨hB0, hB1⟩ : w2.heap[w.heap.size]? = some (.cells #[.int .i64 vk, .int .i64 vi, .string vt, .slice p m c] 28) ∧ w2.heap[w.heap.size + 1]? = some (.cells #[.int .i64 uk, .int .i64 ui, .string ut, .slice p' m' c'] 28) := by
    obtain ⟨h1, h2⟩ := two_blocks (Below.refl ((w.alloc (.cells #[.int .i64 vk, .int .i64 vi, .string vt, .slice p m c] 28)).alloc (.cells #[.int .i64 uk, .int .i64 ui, .string ut, .slice p' m' c'] 28)).heap.size _)
    rw [heap_alloc_new] at h1
    rw [hw2]
    exact ⟨h1, h2⟩
  clear hw2
  have ha := fun j => cell_of_row w2 w.heap.size j _ _ _ hB0
  have hb := fun j => cell_of_row w2 (w.heap.size + 1) j _ _ _ hB1
  have a0 := ha 0; have a1' := ha 1; have a2' := ha 2; have a3 := ha 3
  have b0 := hb 0; have b1 := hb 1; have b2 := hb 2; have b3 := hb 3
  simp only [List.getElem?_toArray, List.getElem?_cons_succ, List.getElem?_cons_zero] at a0 a1' a2' a3 b0 b1 b2 b3
  have HB0 := Lib.hid hB0
  have HB1 := Lib.hid hB1
  clear ha hb hB0 hB1
  have hSt : w2.cell? ⟨w.heap.size, 0, none⟩ = some (.int .i64 vk) ∧ w2.cell? ⟨w.heap.size, 1, none⟩ = some (.int .i64 vi) ∧ w2.cell? ⟨w.heap.size, 2, none⟩ = some (.string vt) ∧ w2.cell? ⟨w.heap.size, 3, none⟩ = some (.slice p m c) ∧ w2.cell? ⟨w.heap.size + 1, 0, none⟩ = some (.int .i64 uk) ∧ w2.cell? ⟨w.heap.size + 1, 1, none⟩ = some (.int .i64 ui) ∧ w2.cell? ⟨w.heap.size + 1, 2, none⟩ = some (.string ut) ∧ w2.cell? ⟨w.heap.size + 1, 3, none⟩ = some (.slice p' m' c') ∧ Hid (Below w2.heap.size w2 w2) := ⟨a0, a1', a2', a3, b0, b1, b2, b3, Lib.hid (Below.refl _ _)⟩
  go_region_held3 (fun w' => w'.cell? ⟨w.heap.size, 0, none⟩ = some (.int .i64 vk) ∧ w'.cell? ⟨w.heap.size, 1, none⟩ = some (.int .i64 vi) ∧ w'.cell? ⟨w.heap.size, 2, none⟩ = some (.string vt) ∧ w'.cell? ⟨w.heap.size, 3, none⟩ = some (.slice p m c) ∧ w'.cell? ⟨w.heap.size + 1, 0, none⟩ = some (.int .i64 uk) ∧ w'.cell? ⟨w.heap.size + 1, 1, none⟩ = some (.int .i64 ui) ∧ w'.cell? ⟨w.heap.size + 1, 2, none⟩ = some (.string ut) ∧ w'.cell? ⟨w.heap.size + 1, 3, none⟩ = some (.slice p' m' c') ∧ Hid (Below w2.heap.size w2 w'))
    (first | assumption | exact s8_drew (by assumption))
    (first
      | (go_at_call 14; (first | (with_reducible refine Calls.mono (HWv.out _ (then_bel Hb2.out (s8_bel (by assumption)))) ?_) | (with_reducible refine Calls.mono (HWu.out _ (then_bel Hb2.out (s8_bel (by assumption)))) ?_)); rintro e w' ⟨rfl, hb⟩; have hS' := s8_call (by assumption) hb; clear hb)
      | (go_at_call 5; refine Calls.mono (HA1.out _) ?_; rintro e w' ⟨rfl, rfl⟩))
  have hH := hS'
  obtain ⟨w3, rfl⟩ : ∃ w3, w3 = w' := ⟨_, rfl⟩
  have Hb3 := Lib.hid (then_bel Hb2.out (s8_bel hH))
  have HKA3 := Lib.hid (keep HB0.out (s8_bel hH))
  have HKB3 := Lib.hid (keep HB1.out (s8_bel hH))
  clear hSt a0 a1' a2' a3 b0 b1 b2 b3 hH HB0 HB1
  by_cases hbig : 2147483647 < a2
  · go_wp2_with fail
    go_ret
    exact ⟨rfl, Hb3.out⟩
  · obtain ⟨hv2, hu2⟩ := HL1.out (by omega)
    have HbV := Lib.hid (HBv.out hv2)
    have HbU := Lib.hid (HBu.out hu2)
    clear HL1 HBv HBu HWv HWu HA1 hv2 hu2
    have hss : w.heap.size + 1 < w3.heap.size := lt_of_block HKB3.out
    obtain ⟨⟨TV, FV⟩, hPv⟩ : ∃ r, print wordL ⟨vk, vi, vt, vs⟩ = r := ⟨_, rfl⟩
    obtain ⟨⟨TU, FU⟩, hPu⟩ : ∃ r, print wordL ⟨uk, ui, ut, us⟩ = r := ⟨_, rfl⟩
    have HPv := Lib.hid hPv
    have HPu := Lib.hid hPu
    obtain ⟨E, hE⟩ : ∃ E, decide ((⟨vk, vi, vt, vs⟩ : Val) = ⟨uk, ui, ut, us⟩) = E := ⟨_, rfl⟩
    have HE1 := Lib.hid hE
    have HE2 : Hid (decide ((⟨uk, ui, ut, us⟩ : Val) = ⟨vk, vi, vt, vs⟩) = E) := Lib.hid (by rw [← hE, Bool.eq_iff_iff, decide_eq_true_eq, decide_eq_true_eq]; exact eq_comm)
    clear hPv hPu hE
    have hA := fun j => cell_of_row w3 w.heap.size j _ _ _ HKA3.out
    have A0 := hA 0; have A1 := hA 1; have A2 := hA 2; have A3 := hA 3
    have hB := fun j => cell_of_row w3 (w.heap.size + 1) j _ _ _ HKB3.out
    have B0 := hB 0; have B1 := hB 1; have B2 := hB 2; have B3 := hB 3
    simp only [List.getElem?_toArray, List.getElem?_cons_succ, List.getElem?_cons_zero] at A0 A1 A2 A3 B0 B1 B2 B3
    clear hA hB
    go_wp2_with fail
    refine (awake_any w3 (HV.out.later Hb3.out)).mono ?_
    rintro e w4 ⟨rfl, hb⟩
    have HKA4 := Lib.hid (keep HKA3.out hb)
    have HKB4 := Lib.hid (keep HKB3.out hb)
    have Hb4 := Lib.hid (then_bel Hb3.out hb)
    have hs4 := hb.size
    clear hb HKA3 HKB3  A0 A1 A2 A3 B0 B1 B2 B3
    have hA := fun j => cell_of_row w4 w.heap.size j _ _ _ HKA4.out
    have A0 := hA 0; have A1 := hA 1; have A2 := hA 2; have A3 := hA 3
    have hB := fun j => cell_of_row w4 (w.heap.size + 1) j _ _ _ HKB4.out
    have B0 := hB 0; have B1 := hB 1; have B2 := hB 2; have B3 := hB 3
    simp only [List.getElem?_toArray, List.getElem?_cons_succ, List.getElem?_cons_zero] at A0 A1 A2 A3 B0 B1 B2 B3
    clear hA hB
    go_wp2_with fail
    refine (lent_any ⟨vk, vi, vt, vs⟩ HbV.out (.slice p m c) w4 (HSv.out.later Hb4.out)).mono ?_
    rintro e w5 ⟨⟨rfl, hrow⟩, hb⟩
    simp only at hrow
    have HRP5 := Lib.hid hrow
    have hgP := lt_of_block hrow
    clear hrow
    unfold rep
    simp only
    rw [Hm.out]
    have HKA5 := Lib.hid (keep HKA4.out hb)
    have HKB5 := Lib.hid (keep HKB4.out hb)
    have Hb5 := Lib.hid (then_bel Hb4.out hb)
    have hs5 := hb.size
    clear hb HKA4 HKB4  A0 A1 A2 A3 B0 B1 B2 B3
    have hA := fun j => cell_of_row w5 w.heap.size j _ _ _ HKA5.out
    have A0 := hA 0; have A1 := hA 1; have A2 := hA 2; have A3 := hA 3
    have hB := fun j => cell_of_row w5 (w.heap.size + 1) j _ _ _ HKB5.out
    have B0 := hB 0; have B1 := hB 1; have B2 := hB 2; have B3 := hB 3
    simp only [List.getElem?_toArray, List.getElem?_cons_succ, List.getElem?_cons_zero] at A0 A1 A2 A3 B0 B1 B2 B3
    clear hA hB
    obtain ⟨w6, hw6⟩ : ∃ w6, w6 = w5.alloc (.cells #[.int .i64 vk, .int .i64 vi, .string vt, .slice (some ⟨w4.heap.size + 1 + 1, 0, none⟩) m (m + 2)] 28) := ⟨_, rfl⟩
    have hal : Below w5.heap.size w5 w6 := by rw [hw6]; exact (Below.refl _ _).alloc (Nat.le_refl _) _
    have HKA6 := Lib.hid (keep HKA5.out hal)
    have HKB6 := Lib.hid (keep HKB5.out hal)
    have HRP6 := Lib.hid (keep HRP5.out hal)
    have HKP6 : Hid (w6.heap[w5.heap.size]? = some (.cells #[.int .i64 vk, .int .i64 vi, .string vt, .slice (some ⟨w4.heap.size + 1 + 1, 0, none⟩) m (m + 2)] 28)) := Lib.hid (by rw [hw6]; exact heap_alloc_new w5 _)
    have Hb6 := Lib.hid (then_bel Hb5.out hal)
    have hs6 : w5.heap.size < w6.heap.size := lt_of_block HKP6.out
    clear hal HKA5 HKB5 HRP5 A0 A1 A2 A3 B0 B1 B2 B3
    have hA := fun j => cell_of_row w6 w.heap.size j _ _ _ HKA6.out
    have A0 := hA 0; have A1 := hA 1; have A2 := hA 2; have A3 := hA 3
    have hB := fun j => cell_of_row w6 (w.heap.size + 1) j _ _ _ HKB6.out
    have B0 := hB 0; have B1 := hB 1; have B2 := hB 2; have B3 := hB 3
    have hP := fun j => cell_of_row w6 w5.heap.size j _ _ _ HKP6.out
    have P0 := hP 0; have P1 := hP 1; have P2 := hP 2; have P3 := hP 3
    simp only [List.getElem?_toArray, List.getElem?_cons_succ, List.getElem?_cons_zero] at A0 A1 A2 A3 B0 B1 B2 B3 P0 P1 P2 P3
    clear hA hB hP
    have HW6 := Lib.hid hw6
    rw [hw6] at A0 A1 A2 A3 B0 B1 B2 B3 P0 P1 P2 P3
    clear hw6
    go_wp2_with fail
    rw [← HW6.out]
    refine (lent_any ⟨uk, ui, ut, us⟩ HbU.out (.slice p' m' c') w6 (HSu.out.later Hb6.out)).mono ?_
    rintro e w7 ⟨⟨rfl, hrow⟩, hb⟩
    simp only at hrow
    have HRQ7 := Lib.hid hrow
    have hgQ := lt_of_block hrow
    clear hrow
    unfold rep
    simp only
    rw [Hm'.out]
    have HKA7 := Lib.hid (keep HKA6.out hb)
    have HKB7 := Lib.hid (keep HKB6.out hb)
    have HKP7 := Lib.hid (keep HKP6.out hb)
    have HRP7 := Lib.hid (keep HRP6.out hb)
    have Hb7 := Lib.hid (then_bel Hb6.out hb)
    have hs7 := hb.size
    clear hb HKA6 HKB6 HKP6 HRP6 A0 A1 A2 A3 B0 B1 B2 B3 P0 P1 P2 P3
    have hA := fun j => cell_of_row w7 w.heap.size j _ _ _ HKA7.out
    have A0 := hA 0; have A1 := hA 1; have A2 := hA 2; have A3 := hA 3
    have hB := fun j => cell_of_row w7 (w.heap.size + 1) j _ _ _ HKB7.out
    have B0 := hB 0; have B1 := hB 1; have B2 := hB 2; have B3 := hB 3
    have hP := fun j => cell_of_row w7 w5.heap.size j _ _ _ HKP7.out
    have P0 := hP 0; have P1 := hP 1; have P2 := hP 2; have P3 := hP 3
    simp only [List.getElem?_toArray, List.getElem?_cons_succ, List.getElem?_cons_zero] at A0 A1 A2 A3 B0 B1 B2 B3 P0 P1 P2 P3
    clear hA hB hP
    obtain ⟨w8, hw8⟩ : ∃ w8, w8 = w7.alloc (.cells #[.int .i64 uk, .int .i64 ui, .string ut, .slice (some ⟨w6.heap.size + 1 + 1, 0, none⟩) m' (m' + 2)] 28) := ⟨_, rfl⟩
    have hal : Below w7.heap.size w7 w8 := by rw [hw8]; exact (Below.refl _ _).alloc (Nat.le_refl _) _
    have HKA8 := Lib.hid (keep HKA7.out hal)
    have HKB8 := Lib.hid (keep HKB7.out hal)
    have HKP8 := Lib.hid (keep HKP7.out hal)
    have HRP8 := Lib.hid (keep HRP7.out hal)
    have HRQ8 := Lib.hid (keep HRQ7.out hal)
    have HKQ8 : Hid (w8.heap[w7.heap.size]? = some (.cells #[.int .i64 uk, .int .i64 ui, .string ut, .slice (some ⟨w6.heap.size + 1 + 1, 0, none⟩) m' (m' + 2)] 28)) := Lib.hid (by rw [hw8]; exact heap_alloc_new w7 _)
    have Hb8 := Lib.hid (then_bel Hb7.out hal)
    have hs8 : w7.heap.size < w8.heap.size := lt_of_block HKQ8.out
    clear hal HKA7 HKB7 HKP7 HRP7 HRQ7 A0 A1 A2 A3 B0 B1 B2 B3 P0 P1 P2 P3
    have hA := fun j => cell_of_row w8 w.heap.size j _ _ _ HKA8.out
    have A0 := hA 0; have A1 := hA 1; have A2 := hA 2; have A3 := hA 3
    have hB := fun j => cell_of_row w8 (w.heap.size + 1) j _ _ _ HKB8.out
    have B0 := hB 0; have B1 := hB 1; have B2 := hB 2; have B3 := hB 3
    have hP := fun j => cell_of_row w8 w5.heap.size j _ _ _ HKP8.out
    have P0 := hP 0; have P1 := hP 1; have P2 := hP 2; have P3 := hP 3
    have hQ := fun j => cell_of_row w8 w7.heap.size j _ _ _ HKQ8.out
    have Q0 := hQ 0; have Q1 := hQ 1; have Q2 := hQ 2; have Q3 := hQ 3
    simp only [List.getElem?_toArray, List.getElem?_cons_succ, List.getElem?_cons_zero] at A0 A1 A2 A3 B0 B1 B2 B3 P0 P1 P2 P3 Q0 Q1 Q2 Q3
    clear hA hB hP hQ
    have HW8 := Lib.hid hw8
    rw [hw8] at A0 A1 A2 A3 B0 B1 B2 B3 P0 P1 P2 P3 Q0 Q1 Q2 Q3
    clear hw8
    go_wp2_with fail
    rw [← HW8.out]
    refine (Right_any ⟨vk, vi, vt, vs⟩ HbV.out (.slice (some ⟨w4.heap.size + 1 + 1, 0, none⟩) m (m + 2)) w8 (HV.out.later Hb8.out) (by have := lent_strs HRP8.out; rwa [Hm.out] at this)).mono ?_
    rintro e w9 ⟨rfl, hb⟩
    have HKA9 := Lib.hid (keep HKA8.out hb)
    have HKB9 := Lib.hid (keep HKB8.out hb)
    have HKP9 := Lib.hid (keep HKP8.out hb)
    have HKQ9 := Lib.hid (keep HKQ8.out hb)
    have HRP9 := Lib.hid (keep HRP8.out hb)
    have HRQ9 := Lib.hid (keep HRQ8.out hb)
    have Hb9 := Lib.hid (then_bel Hb8.out hb)
    have hs9 := hb.size
    clear hb HKA8 HKB8 HKP8 HKQ8 HRP8 HRQ8 A0 A1 A2 A3 B0 B1 B2 B3 P0 P1 P2 P3 Q0 Q1 Q2 Q3
    have hA := fun j => cell_of_row w9 w.heap.size j _ _ _ HKA9.out
    have A0 := hA 0; have A1 := hA 1; have A2 := hA 2; have A3 := hA 3
    have hB := fun j => cell_of_row w9 (w.heap.size + 1) j _ _ _ HKB9.out
    have B0 := hB 0; have B1 := hB 1; have B2 := hB 2; have B3 := hB 3
    have hP := fun j => cell_of_row w9 w5.heap.size j _ _ _ HKP9.out
    have P0 := hP 0; have P1 := hP 1; have P2 := hP 2; have P3 := hP 3
    have hQ := fun j => cell_of_row w9 w7.heap.size j _ _ _ HKQ9.out
    have Q0 := hQ 0; have Q1 := hQ 1; have Q2 := hQ 2; have Q3 := hQ 3
    simp only [List.getElem?_toArray, List.getElem?_cons_succ, List.getElem?_cons_zero] at A0 A1 A2 A3 B0 B1 B2 B3 P0 P1 P2 P3 Q0 Q1 Q2 Q3
    clear hA hB hP hQ
    go_wp2_with fail
    refine (Right_any ⟨uk, ui, ut, us⟩ HbU.out (.slice (some ⟨w6.heap.size + 1 + 1, 0, none⟩) m' (m' + 2)) w9 (HV.out.later Hb9.out) (by have := lent_strs HRQ9.out; rwa [Hm'.out] at this)).mono ?_
    rintro e w10 ⟨rfl, hb⟩
    have HKA10 := Lib.hid (keep HKA9.out hb)
    have HKB10 := Lib.hid (keep HKB9.out hb)
    have HKP10 := Lib.hid (keep HKP9.out hb)
    have HKQ10 := Lib.hid (keep HKQ9.out hb)
    have HRP10 := Lib.hid (keep HRP9.out hb)
    have HRQ10 := Lib.hid (keep HRQ9.out hb)
    have Hb10 := Lib.hid (then_bel Hb9.out hb)
    have hs10 := hb.size
    clear hb HKA9 HKB9 HKP9 HKQ9 HRP9 HRQ9 A0 A1 A2 A3 B0 B1 B2 B3 P0 P1 P2 P3 Q0 Q1 Q2 Q3
    have hA := fun j => cell_of_row w10 w.heap.size j _ _ _ HKA10.out
    have A0 := hA 0; have A1 := hA 1; have A2 := hA 2; have A3 := hA 3
    have hB := fun j => cell_of_row w10 (w.heap.size + 1) j _ _ _ HKB10.out
    have B0 := hB 0; have B1 := hB 1; have B2 := hB 2; have B3 := hB 3
    have hP := fun j => cell_of_row w10 w5.heap.size j _ _ _ HKP10.out
    have P0 := hP 0; have P1 := hP 1; have P2 := hP 2; have P3 := hP 3
    have hQ := fun j => cell_of_row w10 w7.heap.size j _ _ _ HKQ10.out
    have Q0 := hQ 0; have Q1 := hQ 1; have Q2 := hQ 2; have Q3 := hQ 3
    simp only [List.getElem?_toArray, List.getElem?_cons_succ, List.getElem?_cons_zero] at A0 A1 A2 A3 B0 B1 B2 B3 P0 P1 P2 P3 Q0 Q1 Q2 Q3
    clear hA hB hP hQ
    go_wp2_with fail
    refine (Print_any ⟨vk, vi, vt, vs⟩ HbV.out (.slice (some ⟨w4.heap.size + 1 + 1, 0, none⟩) m (m + 2)) w10 (HV.out.later Hb10.out) (by have := lent_strs HRP10.out; rwa [Hm.out] at this)).mono ?_
    rintro e w11 ⟨he, hb⟩
    unfold PrintOut at he
    rw [HPv.out] at he
    subst he
    have HKA11 := Lib.hid (keep HKA10.out hb)
    have HKB11 := Lib.hid (keep HKB10.out hb)
    have HKP11 := Lib.hid (keep HKP10.out hb)
    have HKQ11 := Lib.hid (keep HKQ10.out hb)
    have HRP11 := Lib.hid (keep HRP10.out hb)
    have HRQ11 := Lib.hid (keep HRQ10.out hb)
    have Hb11 := Lib.hid (then_bel Hb10.out hb)
    have hs11 := hb.size
    clear hb HKA10 HKB10 HKP10 HKQ10 HRP10 HRQ10 A0 A1 A2 A3 B0 B1 B2 B3 P0 P1 P2 P3 Q0 Q1 Q2 Q3
    have hA := fun j => cell_of_row w11 w.heap.size j _ _ _ HKA11.out
    have A0 := hA 0; have A1 := hA 1; have A2 := hA 2; have A3 := hA 3
    have hB := fun j => cell_of_row w11 (w.heap.size + 1) j _ _ _ HKB11.out
    have B0 := hB 0; have B1 := hB 1; have B2 := hB 2; have B3 := hB 3
    have hP := fun j => cell_of_row w11 w5.heap.size j _ _ _ HKP11.out
    have P0 := hP 0; have P1 := hP 1; have P2 := hP 2; have P3 := hP 3
    have hQ := fun j => cell_of_row w11 w7.heap.size j _ _ _ HKQ11.out
    have Q0 := hQ 0; have Q1 := hQ 1; have Q2 := hQ 2; have Q3 := hQ 3
    simp only [List.getElem?_toArray, List.getElem?_cons_succ, List.getElem?_cons_zero] at A0 A1 A2 A3 B0 B1 B2 B3 P0 P1 P2 P3 Q0 Q1 Q2 Q3
    clear hA hB hP hQ
    go_wp2_with fail
    refine (Print_any ⟨uk, ui, ut, us⟩ HbU.out (.slice (some ⟨w6.heap.size + 1 + 1, 0, none⟩) m' (m' + 2)) w11 (HV.out.later Hb11.out) (by have := lent_strs HRQ11.out; rwa [Hm'.out] at this)).mono ?_
    rintro e w12 ⟨he, hb⟩
    unfold PrintOut at he
    rw [HPu.out] at he
    subst he
    have HKA12 := Lib.hid (keep HKA11.out hb)
    have HKB12 := Lib.hid (keep HKB11.out hb)
    have HKP12 := Lib.hid (keep HKP11.out hb)
    have HKQ12 := Lib.hid (keep HKQ11.out hb)
    have HRP12 := Lib.hid (keep HRP11.out hb)
    have HRQ12 := Lib.hid (keep HRQ11.out hb)
    have Hb12 := Lib.hid (then_bel Hb11.out hb)
    have hs12 := hb.size
    clear hb HKA11 HKB11 HKP11 HKQ11 HRP11 HRQ11 A0 A1 A2 A3 B0 B1 B2 B3 P0 P1 P2 P3 Q0 Q1 Q2 Q3
    have hA := fun j => cell_of_row w12 w.heap.size j _ _ _ HKA12.out
    have A0 := hA 0; have A1 := hA 1; have A2 := hA 2; have A3 := hA 3
    have hB := fun j => cell_of_row w12 (w.heap.size + 1) j _ _ _ HKB12.out
    have B0 := hB 0; have B1 := hB 1; have B2 := hB 2; have B3 := hB 3
    have hP := fun j => cell_of_row w12 w5.heap.size j _ _ _ HKP12.out
    have P0 := hP 0; have P1 := hP 1; have P2 := hP 2; have P3 := hP 3
    have hQ := fun j => cell_of_row w12 w7.heap.size j _ _ _ HKQ12.out
    have Q0 := hQ 0; have Q1 := hQ 1; have Q2 := hQ 2; have Q3 := hQ 3
    simp only [List.getElem?_toArray, List.getElem?_cons_succ, List.getElem?_cons_zero] at A0 A1 A2 A3 B0 B1 B2 B3 P0 P1 P2 P3 Q0 Q1 Q2 Q3
    clear hA hB hP hQ
    go_wp2_with fail
    refine (Same_any ⟨vk, vi, vt, vs⟩ ⟨uk, ui, ut, us⟩ (.slice (some ⟨w4.heap.size + 1 + 1, 0, none⟩) m (m + 2)) (.slice (some ⟨w6.heap.size + 1 + 1, 0, none⟩) m' (m' + 2)) w12 (by have := lent_strs HRP12.out; rwa [Hm.out] at this) (by have := lent_strs HRQ12.out; rwa [Hm'.out] at this) HbV.out.words HbU.out.words).mono ?_
    rintro e w13 ⟨rfl, hb⟩
    rw [HE1.out]
    have HKA13 := Lib.hid (keep HKA12.out hb)
    have HKB13 := Lib.hid (keep HKB12.out hb)
    have HKP13 := Lib.hid (keep HKP12.out hb)
    have HKQ13 := Lib.hid (keep HKQ12.out hb)
    have HRP13 := Lib.hid (keep HRP12.out hb)
    have HRQ13 := Lib.hid (keep HRQ12.out hb)
    have Hb13 := Lib.hid (then_bel Hb12.out hb)
    have hs13 := hb.size
    clear hb HKA12 HKB12 HKP12 HKQ12 HRP12 HRQ12 A0 A1 A2 A3 B0 B1 B2 B3 P0 P1 P2 P3 Q0 Q1 Q2 Q3
    have hA := fun j => cell_of_row w13 w.heap.size j _ _ _ HKA13.out
    have A0 := hA 0; have A1 := hA 1; have A2 := hA 2; have A3 := hA 3
    have hB := fun j => cell_of_row w13 (w.heap.size + 1) j _ _ _ HKB13.out
    have B0 := hB 0; have B1 := hB 1; have B2 := hB 2; have B3 := hB 3
    have hP := fun j => cell_of_row w13 w5.heap.size j _ _ _ HKP13.out
    have P0 := hP 0; have P1 := hP 1; have P2 := hP 2; have P3 := hP 3
    have hQ := fun j => cell_of_row w13 w7.heap.size j _ _ _ HKQ13.out
    have Q0 := hQ 0; have Q1 := hQ 1; have Q2 := hQ 2; have Q3 := hQ 3
    simp only [List.getElem?_toArray, List.getElem?_cons_succ, List.getElem?_cons_zero] at A0 A1 A2 A3 B0 B1 B2 B3 P0 P1 P2 P3 Q0 Q1 Q2 Q3
    clear hA hB hP hQ
    go_wp2_with fail
    refine (Same_any ⟨uk, ui, ut, us⟩ ⟨vk, vi, vt, vs⟩ (.slice (some ⟨w6.heap.size + 1 + 1, 0, none⟩) m' (m' + 2)) (.slice (some ⟨w4.heap.size + 1 + 1, 0, none⟩) m (m + 2)) w13 (by have := lent_strs HRQ13.out; rwa [Hm'.out] at this) (by have := lent_strs HRP13.out; rwa [Hm.out] at this) HbU.out.words HbV.out.words).mono ?_
    rintro e w14 ⟨rfl, hb⟩
    rw [HE2.out]
    have HKA14 := Lib.hid (keep HKA13.out hb)
    have HKB14 := Lib.hid (keep HKB13.out hb)
    have HKP14 := Lib.hid (keep HKP13.out hb)
    have HKQ14 := Lib.hid (keep HKQ13.out hb)
    have HRP14 := Lib.hid (keep HRP13.out hb)
    have HRQ14 := Lib.hid (keep HRQ13.out hb)
    have Hb14 := Lib.hid (then_bel Hb13.out hb)
    have hs14 := hb.size
    clear hb HKA13 HKB13 HKP13 HKQ13 HRP13 HRQ13 A0 A1 A2 A3 B0 B1 B2 B3 P0 P1 P2 P3 Q0 Q1 Q2 Q3
    have hA := fun j => cell_of_row w14 w.heap.size j _ _ _ HKA14.out
    have A0 := hA 0; have A1 := hA 1; have A2 := hA 2; have A3 := hA 3
    have hB := fun j => cell_of_row w14 (w.heap.size + 1) j _ _ _ HKB14.out
    have B0 := hB 0; have B1 := hB 1; have B2 := hB 2; have B3 := hB 3
    have hP := fun j => cell_of_row w14 w5.heap.size j _ _ _ HKP14.out
    have P0 := hP 0; have P1 := hP 1; have P2 := hP 2; have P3 := hP 3
    have hQ := fun j => cell_of_row w14 w7.heap.size j _ _ _ HKQ14.out
    have Q0 := hQ 0; have Q1 := hQ 1; have Q2 := hQ 2; have Q3 := hQ 3
    simp only [List.getElem?_toArray, List.getElem?_cons_succ, List.getElem?_cons_zero] at A0 A1 A2 A3 B0 B1 B2 B3 P0 P1 P2 P3 Q0 Q1 Q2 Q3
    clear hA hB hP hQ
    go_wp2_with fail
    refine (Same_any ⟨vk, vi, vt, vs⟩ ⟨vk, vi, vt, vs⟩ (.slice (some ⟨w4.heap.size + 1 + 1, 0, none⟩) m (m + 2)) (.slice p m c) w14 (by have := lent_strs HRP14.out; rwa [Hm.out] at this) (HSv.out.later Hb14.out) HbV.out.words HbV.out.words).mono ?_
    rintro e w15 ⟨rfl, hb⟩
    rw [decide_eq_true (rfl : (⟨vk, vi, vt, vs⟩ : Val) = _)]
    have HKA15 := Lib.hid (keep HKA14.out hb)
    have HKB15 := Lib.hid (keep HKB14.out hb)
    have HKP15 := Lib.hid (keep HKP14.out hb)
    have HKQ15 := Lib.hid (keep HKQ14.out hb)
    have HRP15 := Lib.hid (keep HRP14.out hb)
    have HRQ15 := Lib.hid (keep HRQ14.out hb)
    have Hb15 := Lib.hid (then_bel Hb14.out hb)
    have hs15 := hb.size
    clear hb HKA14 HKB14 HKP14 HKQ14 HRP14 HRQ14 A0 A1 A2 A3 B0 B1 B2 B3 P0 P1 P2 P3 Q0 Q1 Q2 Q3
    have hA := fun j => cell_of_row w15 w.heap.size j _ _ _ HKA15.out
    have A0 := hA 0; have A1 := hA 1; have A2 := hA 2; have A3 := hA 3
    have hB := fun j => cell_of_row w15 (w.heap.size + 1) j _ _ _ HKB15.out
    have B0 := hB 0; have B1 := hB 1; have B2 := hB 2; have B3 := hB 3
    have hP := fun j => cell_of_row w15 w5.heap.size j _ _ _ HKP15.out
    have P0 := hP 0; have P1 := hP 1; have P2 := hP 2; have P3 := hP 3
    have hQ := fun j => cell_of_row w15 w7.heap.size j _ _ _ HKQ15.out
    have Q0 := hQ 0; have Q1 := hQ 1; have Q2 := hQ 2; have Q3 := hQ 3
    simp only [List.getElem?_toArray, List.getElem?_cons_succ, List.getElem?_cons_zero] at A0 A1 A2 A3 B0 B1 B2 B3 P0 P1 P2 P3 Q0 Q1 Q2 Q3
    clear hA hB hP hQ
    go_wp2_with fail
    have hwh := whole_upd ⟨vk, vi, vt, vs⟩ HbV.out (w4.heap.size + 1 + 1) (.slice p m c) w15 HRP15.out (HSv.out.later Hb15.out)
    simp only [rep, Hm.out] at hwh
    refine hwh.mono ?_
    rintro e w16 ⟨rfl, hup⟩
    clear hwh
    have HKA16 := Lib.hid (upd_keep HKA15.out hup (by omega))
    have HKB16 := Lib.hid (upd_keep HKB15.out hup (by omega))
    have HKP16 := Lib.hid (upd_keep HKP15.out hup (by omega))
    have HKQ16 := Lib.hid (upd_keep HKQ15.out hup (by omega))
    have HRQ16 := Lib.hid (upd_keep HRQ15.out hup (by omega))
    have Hb16 := Lib.hid ((Hb15.out).trans (hup.below (B := w.heap.size) (by intro k hk; simp at hk; omega) (Hb15.out).size))
    have hs16 := hup.size
    clear hup HKA15 HKB15 HKP15 HKQ15 HRP15 HRQ15 A0 A1 A2 A3 B0 B1 B2 B3 P0 P1 P2 P3 Q0 Q1 Q2 Q3
    have hA := fun j => cell_of_row w16 w.heap.size j _ _ _ HKA16.out
    have A0 := hA 0; have A1 := hA 1; have A2 := hA 2; have A3 := hA 3
    have hB := fun j => cell_of_row w16 (w.heap.size + 1) j _ _ _ HKB16.out
    have B0 := hB 0; have B1 := hB 1; have B2 := hB 2; have B3 := hB 3
    have hP := fun j => cell_of_row w16 w5.heap.size j _ _ _ HKP16.out
    have P0 := hP 0; have P1 := hP 1; have P2 := hP 2; have P3 := hP 3
    have hQ := fun j => cell_of_row w16 w7.heap.size j _ _ _ HKQ16.out
    have Q0 := hQ 0; have Q1 := hQ 1; have Q2 := hQ 2; have Q3 := hQ 3
    simp only [List.getElem?_toArray, List.getElem?_cons_succ, List.getElem?_cons_zero] at A0 A1 A2 A3 B0 B1 B2 B3 P0 P1 P2 P3 Q0 Q1 Q2 Q3
    clear hA hB hP hQ
    go_wp2_with fail
    have hwh := whole_upd ⟨uk, ui, ut, us⟩ HbU.out (w6.heap.size + 1 + 1) (.slice p' m' c') w16 HRQ16.out (HSu.out.later Hb16.out)
    simp only [rep, Hm'.out] at hwh
    refine hwh.mono ?_
    rintro e w17 ⟨rfl, hup⟩
    clear hwh
    have HKA17 := Lib.hid (upd_keep HKA16.out hup (by omega))
    have HKB17 := Lib.hid (upd_keep HKB16.out hup (by omega))
    have HKP17 := Lib.hid (upd_keep HKP16.out hup (by omega))
    have HKQ17 := Lib.hid (upd_keep HKQ16.out hup (by omega))
    have Hb17 := Lib.hid ((Hb16.out).trans (hup.below (B := w.heap.size) (by intro k hk; simp at hk; omega) (Hb16.out).size))
    have hs17 := hup.size
    clear hup HKA16 HKB16 HKP16 HKQ16 HRQ16 A0 A1 A2 A3 B0 B1 B2 B3 P0 P1 P2 P3 Q0 Q1 Q2 Q3
    have hA := fun j => cell_of_row w17 w.heap.size j _ _ _ HKA17.out
    have A0 := hA 0; have A1 := hA 1; have A2 := hA 2; have A3 := hA 3
    have hB := fun j => cell_of_row w17 (w.heap.size + 1) j _ _ _ HKB17.out
    have B0 := hB 0; have B1 := hB 1; have B2 := hB 2; have B3 := hB 3
    have hP := fun j => cell_of_row w17 w5.heap.size j _ _ _ HKP17.out
    have P0 := hP 0; have P1 := hP 1; have P2 := hP 2; have P3 := hP 3
    have hQ := fun j => cell_of_row w17 w7.heap.size j _ _ _ HKQ17.out
    have Q0 := hQ 0; have Q1 := hQ 1; have Q2 := hQ 2; have Q3 := hQ 3
    simp only [List.getElem?_toArray, List.getElem?_cons_succ, List.getElem?_cons_zero] at A0 A1 A2 A3 B0 B1 B2 B3 P0 P1 P2 P3 Q0 Q1 Q2 Q3
    clear hA hB hP hQ
    go_wp2_with fail
    refine (refPrint_any ⟨vk, vi, vt, vs⟩ HbV.out (.slice p m c) w17 (HV.out.later Hb17.out) (HSv.out.later Hb17.out)).mono ?_
    rintro e w18 ⟨he, hb⟩
    unfold PrintOut at he
    rw [HPv.out] at he
    subst he
    have HKA18 := Lib.hid (keep HKA17.out hb)
    have HKB18 := Lib.hid (keep HKB17.out hb)
    have HKP18 := Lib.hid (keep HKP17.out hb)
    have HKQ18 := Lib.hid (keep HKQ17.out hb)
    have Hb18 := Lib.hid (then_bel Hb17.out hb)
    have hs18 := hb.size
    clear hb HKA17 HKB17 HKP17 HKQ17  A0 A1 A2 A3 B0 B1 B2 B3 P0 P1 P2 P3 Q0 Q1 Q2 Q3
    have hA := fun j => cell_of_row w18 w.heap.size j _ _ _ HKA18.out
    have A0 := hA 0; have A1 := hA 1; have A2 := hA 2; have A3 := hA 3
    have hB := fun j => cell_of_row w18 (w.heap.size + 1) j _ _ _ HKB18.out
    have B0 := hB 0; have B1 := hB 1; have B2 := hB 2; have B3 := hB 3
    have hP := fun j => cell_of_row w18 w5.heap.size j _ _ _ HKP18.out
    have P0 := hP 0; have P1 := hP 1; have P2 := hP 2; have P3 := hP 3
    have hQ := fun j => cell_of_row w18 w7.heap.size j _ _ _ HKQ18.out
    have Q0 := hQ 0; have Q1 := hQ 1; have Q2 := hQ 2; have Q3 := hQ 3
    simp only [List.getElem?_toArray, List.getElem?_cons_succ, List.getElem?_cons_zero] at A0 A1 A2 A3 B0 B1 B2 B3 P0 P1 P2 P3 Q0 Q1 Q2 Q3
    clear hA hB hP hQ
    go_wp2_with fail
    refine (refPrint_any ⟨uk, ui, ut, us⟩ HbU.out (.slice p' m' c') w18 (HV.out.later Hb18.out) (HSu.out.later Hb18.out)).mono ?_
    rintro e w19 ⟨he, hb⟩
    unfold PrintOut at he
    rw [HPu.out] at he
    subst he
    have HKA19 := Lib.hid (keep HKA18.out hb)
    have HKB19 := Lib.hid (keep HKB18.out hb)
    have HKP19 := Lib.hid (keep HKP18.out hb)
    have HKQ19 := Lib.hid (keep HKQ18.out hb)
    have Hb19 := Lib.hid (then_bel Hb18.out hb)
    have hs19 := hb.size
    clear hb HKA18 HKB18 HKP18 HKQ18  A0 A1 A2 A3 B0 B1 B2 B3 P0 P1 P2 P3 Q0 Q1 Q2 Q3
    have hA := fun j => cell_of_row w19 w.heap.size j _ _ _ HKA19.out
    have A0 := hA 0; have A1 := hA 1; have A2 := hA 2; have A3 := hA 3
    have hB := fun j => cell_of_row w19 (w.heap.size + 1) j _ _ _ HKB19.out
    have B0 := hB 0; have B1 := hB 1; have B2 := hB 2; have B3 := hB 3
    have hP := fun j => cell_of_row w19 w5.heap.size j _ _ _ HKP19.out
    have P0 := hP 0; have P1 := hP 1; have P2 := hP 2; have P3 := hP 3
    have hQ := fun j => cell_of_row w19 w7.heap.size j _ _ _ HKQ19.out
    have Q0 := hQ 0; have Q1 := hQ 1; have Q2 := hQ 2; have Q3 := hQ 3
    simp only [List.getElem?_toArray, List.getElem?_cons_succ, List.getElem?_cons_zero] at A0 A1 A2 A3 B0 B1 B2 B3 P0 P1 P2 P3 Q0 Q1 Q2 Q3
    clear hA hB hP hQ
    go_wp2_with fail
    refine (refRight_any ⟨vk, vi, vt, vs⟩ HbV.out (.slice p m c) w19 (HV.out.later Hb19.out) (HSv.out.later Hb19.out)).mono ?_
    rintro e w20 ⟨rfl, hb⟩
    have HKA20 := Lib.hid (keep HKA19.out hb)
    have HKB20 := Lib.hid (keep HKB19.out hb)
    have HKP20 := Lib.hid (keep HKP19.out hb)
    have HKQ20 := Lib.hid (keep HKQ19.out hb)
    have Hb20 := Lib.hid (then_bel Hb19.out hb)
    have hs20 := hb.size
    clear hb HKA19 HKB19 HKP19 HKQ19  A0 A1 A2 A3 B0 B1 B2 B3 P0 P1 P2 P3 Q0 Q1 Q2 Q3
    have hA := fun j => cell_of_row w20 w.heap.size j _ _ _ HKA20.out
    have A0 := hA 0; have A1 := hA 1; have A2 := hA 2; have A3 := hA 3
    have hB := fun j => cell_of_row w20 (w.heap.size + 1) j _ _ _ HKB20.out
    have B0 := hB 0; have B1 := hB 1; have B2 := hB 2; have B3 := hB 3
    have hP := fun j => cell_of_row w20 w5.heap.size j _ _ _ HKP20.out
    have P0 := hP 0; have P1 := hP 1; have P2 := hP 2; have P3 := hP 3
    have hQ := fun j => cell_of_row w20 w7.heap.size j _ _ _ HKQ20.out
    have Q0 := hQ 0; have Q1 := hQ 1; have Q2 := hQ 2; have Q3 := hQ 3
    simp only [List.getElem?_toArray, List.getElem?_cons_succ, List.getElem?_cons_zero] at A0 A1 A2 A3 B0 B1 B2 B3 P0 P1 P2 P3 Q0 Q1 Q2 Q3
    clear hA hB hP hQ
    go_wp2_with fail
    refine (refRight_any ⟨uk, ui, ut, us⟩ HbU.out (.slice p' m' c') w20 (HV.out.later Hb20.out) (HSu.out.later Hb20.out)).mono ?_
    rintro e w21 ⟨rfl, hb⟩
    have HKA21 := Lib.hid (keep HKA20.out hb)
    have HKB21 := Lib.hid (keep HKB20.out hb)
    have HKP21 := Lib.hid (keep HKP20.out hb)
    have HKQ21 := Lib.hid (keep HKQ20.out hb)
    have Hb21 := Lib.hid (then_bel Hb20.out hb)
    have hs21 := hb.size
    clear hb HKA20 HKB20 HKP20 HKQ20  A0 A1 A2 A3 B0 B1 B2 B3 P0 P1 P2 P3 Q0 Q1 Q2 Q3
    have hA := fun j => cell_of_row w21 w.heap.size j _ _ _ HKA21.out
    have A0 := hA 0; have A1 := hA 1; have A2 := hA 2; have A3 := hA 3
    have hB := fun j => cell_of_row w21 (w.heap.size + 1) j _ _ _ HKB21.out
    have B0 := hB 0; have B1 := hB 1; have B2 := hB 2; have B3 := hB 3
    have hP := fun j => cell_of_row w21 w5.heap.size j _ _ _ HKP21.out
    have P0 := hP 0; have P1 := hP 1; have P2 := hP 2; have P3 := hP 3
    have hQ := fun j => cell_of_row w21 w7.heap.size j _ _ _ HKQ21.out
    have Q0 := hQ 0; have Q1 := hQ 1; have Q2 := hQ 2; have Q3 := hQ 3
    simp only [List.getElem?_toArray, List.getElem?_cons_succ, List.getElem?_cons_zero] at A0 A1 A2 A3 B0 B1 B2 B3 P0 P1 P2 P3 Q0 Q1 Q2 Q3
    clear hA hB hP hQ
    go_wp2_with fail
    refine (refSame_any ⟨vk, vi, vt, vs⟩ ⟨uk, ui, ut, us⟩ (.slice p m c) (.slice p' m' c') w21 (HSv.out.later Hb21.out) (HSu.out.later Hb21.out) HbV.out.words HbU.out.words).mono ?_
    rintro e w22 ⟨rfl, hb⟩
    rw [HE1.out]
    have HKA22 := Lib.hid (keep HKA21.out hb)
    have HKB22 := Lib.hid (keep HKB21.out hb)
    have HKP22 := Lib.hid (keep HKP21.out hb)
    have HKQ22 := Lib.hid (keep HKQ21.out hb)
    have Hb22 := Lib.hid (then_bel Hb21.out hb)
    have hs22 := hb.size
    clear hb HKA21 HKB21 HKP21 HKQ21  A0 A1 A2 A3 B0 B1 B2 B3 P0 P1 P2 P3 Q0 Q1 Q2 Q3
    have hA := fun j => cell_of_row w22 w.heap.size j _ _ _ HKA22.out
    have A0 := hA 0; have A1 := hA 1; have A2 := hA 2; have A3 := hA 3
    have hB := fun j => cell_of_row w22 (w.heap.size + 1) j _ _ _ HKB22.out
    have B0 := hB 0; have B1 := hB 1; have B2 := hB 2; have B3 := hB 3
    have hP := fun j => cell_of_row w22 w5.heap.size j _ _ _ HKP22.out
    have P0 := hP 0; have P1 := hP 1; have P2 := hP 2; have P3 := hP 3
    have hQ := fun j => cell_of_row w22 w7.heap.size j _ _ _ HKQ22.out
    have Q0 := hQ 0; have Q1 := hQ 1; have Q2 := hQ 2; have Q3 := hQ 3
    simp only [List.getElem?_toArray, List.getElem?_cons_succ, List.getElem?_cons_zero] at A0 A1 A2 A3 B0 B1 B2 B3 P0 P1 P2 P3 Q0 Q1 Q2 Q3
    clear hA hB hP hQ
    go_wp2_with fail
    go_ret
    exact ⟨rfl, Hb22.out⟩
end Go.Proofs.YtkbamhecbfocbaaGreatDoor.va
