/- Laws and contracts on which the statement rests, part H: each text says what it proves, and its conditions. -/
import Derived.Test.YtbelnaiekbfoiaaGreatDoorMdG
import Derived.Test.YtbelnaiekbfoiaaGreatDoorMdB
import Derived.Deep.QuietTactic
import Derived.BigQuiet
import Derived.Test.YtbelnaiekbfoiaaGreatDoorMdE
import Derived.Laws.EntriesVeiled
import Derived.Laws.MakeOwn
/- Package derive: named, of the three standard rules. Conditions: the kinds of the settings that a rule speaks of. -/
namespace Go.Proofs.YtbelnaiekbfoiaaGreatDoor.dr
open Go.ChangeShapes Go.WideShapes Go.ChangeAt Go.RowKit gl va ls ky ly

set_option maxHeartbeats 4000000 in
set_option maxRecDepth 100000 in
theorem named1_wk (M b g1 g2 : Nat) (hs : Value) (R : List Hd) (x : Hd) (hx : R[2]? = some x) (hv : x.v.kind = 6) (hm : x.v.words.length ≤ 4294967295) (tg : ByteArray) (vn : Value) (w : World) (h : LSet M w b hs stdK R) (h1 : w.cell? ⟨g1, 0, none⟩ = some (.pointer (some ⟨b, 0, none⟩))) (_hg1 : g1 < w.heap.size) (h2 : w.heap[g2]? = some (.cells #[.string tg, vn, .int .i64 6, .int .i64 1] 59 (0, 0))) :
    Calls Tryz.prog 156 (#[.string (B tSv)] ++ #[.pointer (some ⟨g1, 0, none⟩), .pointer (some ⟨g2, 0, none⟩)]) w fun e w' => e = .returned (.bool false) ∧ Below w.heap.size w w' := by
  show Calls Tryz.prog 156 #[.string (B tSv), .pointer (some ⟨g1, 0, none⟩), .pointer (some ⟨g2, 0, none⟩)] w _
  obtain ⟨k, hk, hkn⟩ : ∃ k, stdK[2]? = some k ∧ k.name = tSv := ⟨_, rfl, rfl⟩
  have HG := Lib.hid (Get_any M b hs stdK R 2 k x hk hx std_asc (by decide) hm w h)
  unfold sgV at HG
  rw [hkn, hv] at HG
  have HR := Lib.hid fun (W : World) (hW : Below w.heap.size w W) => (hW.block _ (lt_of_block h2)).trans h2
  have hg2 := lt_of_block h2
  clear h hk hkn hx hv hm h2
  obtain ⟨⟨vk, vi, vt, vw⟩, xp, xc, xs⟩ := x
  simp only at HG
  generalize B tSv = nd at *
  go_enter Tryz.func156, Tryz.ntmps156
  go_wp2_with fail
  refine HG.out.mono ?_
  rintro e w2 ⟨⟨p1, rfl, _⟩, hb2⟩
  have Hb2 := Lib.hid hb2
  have hz2 : w.heap.size ≤ w2.heap.size := hb2.size
  clear hb2 HG
  go_upto_region 2 with fail
  refine go_nm (fun wB hB => ?_)
  have kS : wB.heap[w2.heap.size]? = some (.cells #[.string nd, .int .i64 6, .int .i64 vi, .string vt, .slice p1 vw.length vw.length, .int .i64 xs] 47 (0, 0)) := by rw [hB]; exact heap_alloc_new w2 _
  have hbB : Below w2.heap.size w2 wB := by rw [hB]; exact (Below.refl _ _).alloc (Nat.le_refl _) _
  have HbB := Lib.hid (Hb2.out.trans (hbB.mono hz2))
  have a2 : wB.cell? ⟨g2, 2, none⟩ = some (.int .i64 6) := cell_in (HR.out _ HbB.out)
  have s0 : wB.cell? ⟨w2.heap.size, 1, none⟩ = some (.int .i64 6) := cell_in kS
  have hl2 := lt_of_block kS
  have hg2B : g2 < wB.heap.size := by have := HbB.out.size; omega
  clear hB kS hbB
  go_wp2_with fail
  go_ret
  exact ⟨rfl, HbB.out⟩
set_option maxHeartbeats 4000000 in
set_option maxRecDepth 100000 in
theorem named_wk (M b : Nat) (hs : Value) (R : List Hd) (x t : Hd) (hx : R[2]? = some x) (hv : x.v.kind = 6) (hm : x.v.words.length ≤ 4294967295) (ht : R[3]? = some t) (hvt : t.v.kind = 2) (hmt : t.v.words.length ≤ 4294967295) (pn : Option Addr) (cn : Nat) (w : World) (h : LSet M w b hs stdK R) (hn : Txs w (.slice pn 1 cn) [tSv]) :
    Calls Tryz.prog 108 #[.pointer (some ⟨b, 0, none⟩), .agg #[.string (B tWk), .slice pn 1 cn, .int .i64 6, .int .i64 1]] w fun e w' => e = .returned (.bool true) ∧ Below w.heap.size w w' := by
  obtain ⟨k, hk, hkn⟩ : ∃ k, stdK[3]? = some k ∧ k.name = tWk := ⟨_, rfl, rfl⟩
  have HG := Lib.hid fun (W : World) (hW : Below w.heap.size w W) => Get_any M b hs stdK R 3 k t hk ht std_asc (by decide) hmt W (h.later hW)
  unfold sgV at HG
  rw [hkn, hvt] at HG
  obtain ⟨gn, on, rfl, hgn⟩ := hn.ptr.2.2 (by omega)
  have n0 := tx_cell hn (j := 0) rfl
  rw [Nat.add_zero] at n0
  have eg : ∀ args w, (callFunc 156 args).run Tryz.prog w = .ok (.enter 156 args) w := enters Tryz.func156 (by kernel_rfl) (by kernel_rfl)
  have HCn := Lib.hid fun (g1 g2 : Nat) (tg : ByteArray) (vn : Value) (W : World) (hW : Below w.heap.size w W) (h1 : W.cell? ⟨g1, 0, none⟩ = some (.pointer (some ⟨b, 0, none⟩))) (hg1 : g1 < W.heap.size) (h2 : W.heap[g2]? = some (.cells #[.string tg, vn, .int .i64 6, .int .i64 1] 59 (0, 0))) =>
    contains1_any 156 #[.pointer (some ⟨g1, 0, none⟩), .pointer (some ⟨g2, 0, none⟩)] eg (B tSv) false gn on cn W ((hW.cell (p := ⟨gn, on, none⟩) hgn).trans n0) (Nat.lt_of_lt_of_le hgn hW.size) (named1_wk M b g1 g2 hs R x hx hv hm tg vn W (h.later hW) h1 hg1 h2)
  clear h hn hk hkn hx hv hm ht hvt hmt eg n0
  obtain ⟨⟨vk, vi, vt, vw⟩, xp, xc, xs⟩ := t
  simp only at HG
  generalize B tWk = tg at *
  go_enter Tryz.func108, Tryz.ntmps108
  go_upto_region 1 with fail
  refine go_nm (fun wA hA => ?_)
  have hbA : Below w.heap.size w wA := by rw [hA]; exact ((Below.refl _ _).alloc (Nat.le_refl _) _).alloc (by simp) _
  have kX : wA.heap[w.heap.size]? = some (.cells #[.pointer (some ⟨b, 0, none⟩)] 35 (0, 0)) := by rw [hA]; exact heap_al (heap_alloc_new w _) _
  have kR : wA.heap[w.heap.size + 1]? = some (.cells #[.string tg, .slice (some ⟨gn, on, none⟩) 1 cn, .int .i64 6, .int .i64 1] 59 (0, 0)) := by rw [hA]; exact new_at (by simp) _
  have a0 : wA.cell? ⟨w.heap.size, 0, none⟩ = some (.pointer (some ⟨b, 0, none⟩)) := cell_in kX
  have a1 : wA.cell? ⟨w.heap.size + 1, 0, none⟩ = some (.string tg) := cell_in kR
  have hl0 := lt_of_block kX
  have hl1 := lt_of_block kR
  have HX := Lib.hid fun (W : World) (hW : Below wA.heap.size wA W) => (hW.block _ hl0).trans kX
  have HR := Lib.hid fun (W : World) (hW : Below wA.heap.size wA W) => (hW.block _ hl1).trans kR
  have HbA := Lib.hid hbA
  clear hA kX kR hbA
  go_wp2_with fail
  refine (HG.out wA HbA.out).mono ?_
  rintro e w2 ⟨⟨p1, rfl, _⟩, hb2⟩
  have Hb2 := Lib.hid (HbA.out.trans (hb2.mono HbA.out.size))
  have HX2 := Lib.hid hb2
  have hz2 : w.heap.size ≤ w2.heap.size := Hb2.out.size
  clear hb2 a0 a1 HG
  go_upto_region 2 with fail
  refine go_nm (fun wB hB => ?_)
  have kS : wB.heap[w2.heap.size]? = some (.cells #[.string tg, .int .i64 2, .int .i64 vi, .string vt, .slice p1 vw.length vw.length, .int .i64 xs] 47 (0, 0)) := by rw [hB]; exact heap_alloc_new w2 _
  have hbB : Below w2.heap.size w2 wB := by rw [hB]; exact (Below.refl _ _).alloc (Nat.le_refl _) _
  have HbB := Lib.hid (Hb2.out.trans (hbB.mono hz2))
  have HXB := Lib.hid (HX2.out.trans (hbB.mono HX2.out.size))
  have s0 : wB.cell? ⟨w2.heap.size, 1, none⟩ = some (.int .i64 2) := cell_in kS
  have a3 : wB.cell? ⟨w.heap.size + 1, 1, none⟩ = some (.slice (some ⟨gn, on, none⟩) 1 cn) := cell_in (HR.out _ HXB.out)
  have hl2 := lt_of_block kS
  have hl3 : w.heap.size + 1 < wB.heap.size := by have := HXB.out.size; omega
  clear hB kS hbB
  go_wp2_with fail
  refine (isNumber_2 wB).mono ?_
  rintro e w3 ⟨rfl, rfl⟩
  go_wp2_with fail
  refine (HCn.out w.heap.size (w.heap.size + 1) tg _ w3 HbB.out (cell_in (HX.out _ HXB.out)) (by have := HXB.out.size; omega) (HR.out _ HXB.out)).mono ?_
  rintro e w4 ⟨rfl, hb4⟩
  have Hb4 := Lib.hid (HbB.out.trans (hb4.mono HbB.out.size))
  clear hb4
  go_wp2_with fail
  go_ret
  exact ⟨rfl, Hb4.out⟩
set_option maxHeartbeats 4000000 in
set_option maxRecDepth 100000 in
theorem named1_lm (M b g1 g2 : Nat) (hs : Value) (R : List Hd) (x : Hd) (hx : R[3]? = some x) (hv : x.v.kind = 2) (hm : x.v.words.length ≤ 4294967295) (tg : ByteArray) (vn : Value) (w : World) (h : LSet M w b hs stdK R) (h1 : w.cell? ⟨g1, 0, none⟩ = some (.pointer (some ⟨b, 0, none⟩))) (_hg1 : g1 < w.heap.size) (h2 : w.heap[g2]? = some (.cells #[.string tg, vn, .int .i64 4, .int .i64 16] 59 (0, 0))) :
    Calls Tryz.prog 156 (#[.string (B tWk)] ++ #[.pointer (some ⟨g1, 0, none⟩), .pointer (some ⟨g2, 0, none⟩)]) w fun e w' => e = .returned (.bool false) ∧ Below w.heap.size w w' := by
  show Calls Tryz.prog 156 #[.string (B tWk), .pointer (some ⟨g1, 0, none⟩), .pointer (some ⟨g2, 0, none⟩)] w _
  obtain ⟨k, hk, hkn⟩ : ∃ k, stdK[3]? = some k ∧ k.name = tWk := ⟨_, rfl, rfl⟩
  have HG := Lib.hid (Get_any M b hs stdK R 3 k x hk hx std_asc (by decide) hm w h)
  unfold sgV at HG
  rw [hkn, hv] at HG
  have HR := Lib.hid fun (W : World) (hW : Below w.heap.size w W) => (hW.block _ (lt_of_block h2)).trans h2
  have hg2 := lt_of_block h2
  clear h hk hkn hx hv hm h2
  obtain ⟨⟨vk, vi, vt, vw⟩, xp, xc, xs⟩ := x
  simp only at HG
  generalize B tWk = nd at *
  go_enter Tryz.func156, Tryz.ntmps156
  go_wp2_with fail
  refine HG.out.mono ?_
  rintro e w2 ⟨⟨p1, rfl, _⟩, hb2⟩
  have Hb2 := Lib.hid hb2
  have hz2 : w.heap.size ≤ w2.heap.size := hb2.size
  clear hb2 HG
  go_upto_region 2 with fail
  refine go_nm (fun wB hB => ?_)
  have kS : wB.heap[w2.heap.size]? = some (.cells #[.string nd, .int .i64 2, .int .i64 vi, .string vt, .slice p1 vw.length vw.length, .int .i64 xs] 47 (0, 0)) := by rw [hB]; exact heap_alloc_new w2 _
  have hbB : Below w2.heap.size w2 wB := by rw [hB]; exact (Below.refl _ _).alloc (Nat.le_refl _) _
  have HbB := Lib.hid (Hb2.out.trans (hbB.mono hz2))
  have a2 : wB.cell? ⟨g2, 2, none⟩ = some (.int .i64 4) := cell_in (HR.out _ HbB.out)
  have s0 : wB.cell? ⟨w2.heap.size, 1, none⟩ = some (.int .i64 2) := cell_in kS
  have hl2 := lt_of_block kS
  have hg2B : g2 < wB.heap.size := by have := HbB.out.size; omega
  clear hB kS hbB
  go_wp2_with fail
  refine (isNumber_2 wB).mono ?_
  rintro e w3 ⟨rfl, rfl⟩
  go_wp2_with fail
  go_ret
  exact ⟨rfl, HbB.out⟩
set_option maxHeartbeats 4000000 in
set_option maxRecDepth 100000 in
theorem named_lm (M b : Nat) (hs : Value) (R : List Hd) (x t : Hd) (hx : R[3]? = some x) (hv : x.v.kind = 2) (hm : x.v.words.length ≤ 4294967295) (ht : R[1]? = some t) (hvt : t.v.kind = 2) (hmt : t.v.words.length ≤ 4294967295) (pn : Option Addr) (cn : Nat) (w : World) (h : LSet M w b hs stdK R) (hn : Txs w (.slice pn 1 cn) [tWk]) :
    Calls Tryz.prog 108 #[.pointer (some ⟨b, 0, none⟩), .agg #[.string (B tLm), .slice pn 1 cn, .int .i64 4, .int .i64 16]] w fun e w' => e = .returned (.bool true) ∧ Below w.heap.size w w' := by
  obtain ⟨k, hk, hkn⟩ : ∃ k, stdK[1]? = some k ∧ k.name = tLm := ⟨_, rfl, rfl⟩
  have HG := Lib.hid fun (W : World) (hW : Below w.heap.size w W) => Get_any M b hs stdK R 1 k t hk ht std_asc (by decide) hmt W (h.later hW)
  unfold sgV at HG
  rw [hkn, hvt] at HG
  obtain ⟨gn, on, rfl, hgn⟩ := hn.ptr.2.2 (by omega)
  have n0 := tx_cell hn (j := 0) rfl
  rw [Nat.add_zero] at n0
  have eg : ∀ args w, (callFunc 156 args).run Tryz.prog w = .ok (.enter 156 args) w := enters Tryz.func156 (by kernel_rfl) (by kernel_rfl)
  have HCn := Lib.hid fun (g1 g2 : Nat) (tg : ByteArray) (vn : Value) (W : World) (hW : Below w.heap.size w W) (h1 : W.cell? ⟨g1, 0, none⟩ = some (.pointer (some ⟨b, 0, none⟩))) (hg1 : g1 < W.heap.size) (h2 : W.heap[g2]? = some (.cells #[.string tg, vn, .int .i64 4, .int .i64 16] 59 (0, 0))) =>
    contains1_any 156 #[.pointer (some ⟨g1, 0, none⟩), .pointer (some ⟨g2, 0, none⟩)] eg (B tWk) false gn on cn W ((hW.cell (p := ⟨gn, on, none⟩) hgn).trans n0) (Nat.lt_of_lt_of_le hgn hW.size) (named1_lm M b g1 g2 hs R x hx hv hm tg vn W (h.later hW) h1 hg1 h2)
  clear h hn hk hkn hx hv hm ht hvt hmt eg n0
  obtain ⟨⟨vk, vi, vt, vw⟩, xp, xc, xs⟩ := t
  simp only at HG
  generalize B tLm = tg at *
  go_enter Tryz.func108, Tryz.ntmps108
  go_upto_region 1 with fail
  refine go_nm (fun wA hA => ?_)
  have hbA : Below w.heap.size w wA := by rw [hA]; exact ((Below.refl _ _).alloc (Nat.le_refl _) _).alloc (by simp) _
  have kX : wA.heap[w.heap.size]? = some (.cells #[.pointer (some ⟨b, 0, none⟩)] 35 (0, 0)) := by rw [hA]; exact heap_al (heap_alloc_new w _) _
  have kR : wA.heap[w.heap.size + 1]? = some (.cells #[.string tg, .slice (some ⟨gn, on, none⟩) 1 cn, .int .i64 4, .int .i64 16] 59 (0, 0)) := by rw [hA]; exact new_at (by simp) _
  have a0 : wA.cell? ⟨w.heap.size, 0, none⟩ = some (.pointer (some ⟨b, 0, none⟩)) := cell_in kX
  have a1 : wA.cell? ⟨w.heap.size + 1, 0, none⟩ = some (.string tg) := cell_in kR
  have hl0 := lt_of_block kX
  have hl1 := lt_of_block kR
  have HX := Lib.hid fun (W : World) (hW : Below wA.heap.size wA W) => (hW.block _ hl0).trans kX
  have HR := Lib.hid fun (W : World) (hW : Below wA.heap.size wA W) => (hW.block _ hl1).trans kR
  have HbA := Lib.hid hbA
  clear hA kX kR hbA
  go_wp2_with fail
  refine (HG.out wA HbA.out).mono ?_
  rintro e w2 ⟨⟨p1, rfl, _⟩, hb2⟩
  have Hb2 := Lib.hid (HbA.out.trans (hb2.mono HbA.out.size))
  have HX2 := Lib.hid hb2
  have hz2 : w.heap.size ≤ w2.heap.size := Hb2.out.size
  clear hb2 a0 a1 HG
  go_upto_region 2 with fail
  refine go_nm (fun wB hB => ?_)
  have kS : wB.heap[w2.heap.size]? = some (.cells #[.string tg, .int .i64 2, .int .i64 vi, .string vt, .slice p1 vw.length vw.length, .int .i64 xs] 47 (0, 0)) := by rw [hB]; exact heap_alloc_new w2 _
  have hbB : Below w2.heap.size w2 wB := by rw [hB]; exact (Below.refl _ _).alloc (Nat.le_refl _) _
  have HbB := Lib.hid (Hb2.out.trans (hbB.mono hz2))
  have HXB := Lib.hid (HX2.out.trans (hbB.mono HX2.out.size))
  have s0 : wB.cell? ⟨w2.heap.size, 1, none⟩ = some (.int .i64 2) := cell_in kS
  have a3 : wB.cell? ⟨w.heap.size + 1, 1, none⟩ = some (.slice (some ⟨gn, on, none⟩) 1 cn) := cell_in (HR.out _ HXB.out)
  have hl2 := lt_of_block kS
  have hl3 : w.heap.size + 1 < wB.heap.size := by have := HXB.out.size; omega
  clear hB kS hbB
  go_wp2_with fail
  refine (isNumber_2 wB).mono ?_
  rintro e w3 ⟨rfl, rfl⟩
  go_wp2_with fail
  refine (HCn.out w.heap.size (w.heap.size + 1) tg _ w3 HbB.out (cell_in (HX.out _ HXB.out)) (by have := HXB.out.size; omega) (HR.out _ HXB.out)).mono ?_
  rintro e w4 ⟨rfl, hb4⟩
  have Hb4 := Lib.hid (HbB.out.trans (hb4.mono HbB.out.size))
  clear hb4
  go_wp2_with fail
  go_ret
  exact ⟨rfl, Hb4.out⟩
set_option maxHeartbeats 4000000 in
set_option maxRecDepth 100000 in
theorem named1_pg (M b g1 g2 : Nat) (hs : Value) (R : List Hd) (x : Hd) (hx : R[13]? = some x) (hv : x.v.kind = 3) (hm : x.v.words.length ≤ 4294967295) (tg : ByteArray) (vn : Value) (w : World) (h : LSet M w b hs stdK R) (h1 : w.cell? ⟨g1, 0, none⟩ = some (.pointer (some ⟨b, 0, none⟩))) (_hg1 : g1 < w.heap.size) (h2 : w.heap[g2]? = some (.cells #[.string tg, vn, .int .i64 5, .int .i64 1024] 59 (0, 0))) :
    Calls Tryz.prog 156 (#[.string (B tCh)] ++ #[.pointer (some ⟨g1, 0, none⟩), .pointer (some ⟨g2, 0, none⟩)]) w fun e w' => e = .returned (.bool false) ∧ Below w.heap.size w w' := by
  show Calls Tryz.prog 156 #[.string (B tCh), .pointer (some ⟨g1, 0, none⟩), .pointer (some ⟨g2, 0, none⟩)] w _
  obtain ⟨k, hk, hkn⟩ : ∃ k, stdK[13]? = some k ∧ k.name = tCh := ⟨_, rfl, rfl⟩
  have HG := Lib.hid (Get_any M b hs stdK R 13 k x hk hx std_asc (by decide) hm w h)
  unfold sgV at HG
  rw [hkn, hv] at HG
  have HR := Lib.hid fun (W : World) (hW : Below w.heap.size w W) => (hW.block _ (lt_of_block h2)).trans h2
  have hg2 := lt_of_block h2
  clear h hk hkn hx hv hm h2
  obtain ⟨⟨vk, vi, vt, vw⟩, xp, xc, xs⟩ := x
  simp only at HG
  generalize B tCh = nd at *
  go_enter Tryz.func156, Tryz.ntmps156
  go_wp2_with fail
  refine HG.out.mono ?_
  rintro e w2 ⟨⟨p1, rfl, _⟩, hb2⟩
  have Hb2 := Lib.hid hb2
  have hz2 : w.heap.size ≤ w2.heap.size := hb2.size
  clear hb2 HG
  go_upto_region 2 with fail
  refine go_nm (fun wB hB => ?_)
  have kS : wB.heap[w2.heap.size]? = some (.cells #[.string nd, .int .i64 3, .int .i64 vi, .string vt, .slice p1 vw.length vw.length, .int .i64 xs] 47 (0, 0)) := by rw [hB]; exact heap_alloc_new w2 _
  have hbB : Below w2.heap.size w2 wB := by rw [hB]; exact (Below.refl _ _).alloc (Nat.le_refl _) _
  have HbB := Lib.hid (Hb2.out.trans (hbB.mono hz2))
  have a2 : wB.cell? ⟨g2, 2, none⟩ = some (.int .i64 5) := cell_in (HR.out _ HbB.out)
  have s0 : wB.cell? ⟨w2.heap.size, 1, none⟩ = some (.int .i64 3) := cell_in kS
  have hl2 := lt_of_block kS
  have hg2B : g2 < wB.heap.size := by have := HbB.out.size; omega
  clear hB kS hbB
  go_wp2_with fail
  refine (isNumber_3 wB).mono ?_
  rintro e w3 ⟨rfl, rfl⟩
  go_wp2_with fail
  go_ret
  exact ⟨rfl, HbB.out⟩
set_option maxHeartbeats 4000000 in
set_option maxRecDepth 100000 in
theorem named_pg (M b : Nat) (hs : Value) (R : List Hd) (x t : Hd) (hx : R[13]? = some x) (hv : x.v.kind = 3) (hm : x.v.words.length ≤ 4294967295) (ht : R[15]? = some t) (hvt : t.v.kind = 3) (hmt : t.v.words.length ≤ 4294967295) (pn : Option Addr) (cn : Nat) (w : World) (h : LSet M w b hs stdK R) (hn : Txs w (.slice pn 1 cn) [tCh]) :
    Calls Tryz.prog 108 #[.pointer (some ⟨b, 0, none⟩), .agg #[.string (B tPg), .slice pn 1 cn, .int .i64 5, .int .i64 1024]] w fun e w' => e = .returned (.bool true) ∧ Below w.heap.size w w' := by
  obtain ⟨k, hk, hkn⟩ : ∃ k, stdK[15]? = some k ∧ k.name = tPg := ⟨_, rfl, rfl⟩
  have HG := Lib.hid fun (W : World) (hW : Below w.heap.size w W) => Get_any M b hs stdK R 15 k t hk ht std_asc (by decide) hmt W (h.later hW)
  unfold sgV at HG
  rw [hkn, hvt] at HG
  obtain ⟨gn, on, rfl, hgn⟩ := hn.ptr.2.2 (by omega)
  have n0 := tx_cell hn (j := 0) rfl
  rw [Nat.add_zero] at n0
  have eg : ∀ args w, (callFunc 156 args).run Tryz.prog w = .ok (.enter 156 args) w := enters Tryz.func156 (by kernel_rfl) (by kernel_rfl)
  have HCn := Lib.hid fun (g1 g2 : Nat) (tg : ByteArray) (vn : Value) (W : World) (hW : Below w.heap.size w W) (h1 : W.cell? ⟨g1, 0, none⟩ = some (.pointer (some ⟨b, 0, none⟩))) (hg1 : g1 < W.heap.size) (h2 : W.heap[g2]? = some (.cells #[.string tg, vn, .int .i64 5, .int .i64 1024] 59 (0, 0))) =>
    contains1_any 156 #[.pointer (some ⟨g1, 0, none⟩), .pointer (some ⟨g2, 0, none⟩)] eg (B tCh) false gn on cn W ((hW.cell (p := ⟨gn, on, none⟩) hgn).trans n0) (Nat.lt_of_lt_of_le hgn hW.size) (named1_pg M b g1 g2 hs R x hx hv hm tg vn W (h.later hW) h1 hg1 h2)
  clear h hn hk hkn hx hv hm ht hvt hmt eg n0
  obtain ⟨⟨vk, vi, vt, vw⟩, xp, xc, xs⟩ := t
  simp only at HG
  generalize B tPg = tg at *
  go_enter Tryz.func108, Tryz.ntmps108
  go_upto_region 1 with fail
  refine go_nm (fun wA hA => ?_)
  have hbA : Below w.heap.size w wA := by rw [hA]; exact ((Below.refl _ _).alloc (Nat.le_refl _) _).alloc (by simp) _
  have kX : wA.heap[w.heap.size]? = some (.cells #[.pointer (some ⟨b, 0, none⟩)] 35 (0, 0)) := by rw [hA]; exact heap_al (heap_alloc_new w _) _
  have kR : wA.heap[w.heap.size + 1]? = some (.cells #[.string tg, .slice (some ⟨gn, on, none⟩) 1 cn, .int .i64 5, .int .i64 1024] 59 (0, 0)) := by rw [hA]; exact new_at (by simp) _
  have a0 : wA.cell? ⟨w.heap.size, 0, none⟩ = some (.pointer (some ⟨b, 0, none⟩)) := cell_in kX
  have a1 : wA.cell? ⟨w.heap.size + 1, 0, none⟩ = some (.string tg) := cell_in kR
  have hl0 := lt_of_block kX
  have hl1 := lt_of_block kR
  have HX := Lib.hid fun (W : World) (hW : Below wA.heap.size wA W) => (hW.block _ hl0).trans kX
  have HR := Lib.hid fun (W : World) (hW : Below wA.heap.size wA W) => (hW.block _ hl1).trans kR
  have HbA := Lib.hid hbA
  clear hA kX kR hbA
  go_wp2_with fail
  refine (HG.out wA HbA.out).mono ?_
  rintro e w2 ⟨⟨p1, rfl, _⟩, hb2⟩
  have Hb2 := Lib.hid (HbA.out.trans (hb2.mono HbA.out.size))
  have HX2 := Lib.hid hb2
  have hz2 : w.heap.size ≤ w2.heap.size := Hb2.out.size
  clear hb2 a0 a1 HG
  go_upto_region 2 with fail
  refine go_nm (fun wB hB => ?_)
  have kS : wB.heap[w2.heap.size]? = some (.cells #[.string tg, .int .i64 3, .int .i64 vi, .string vt, .slice p1 vw.length vw.length, .int .i64 xs] 47 (0, 0)) := by rw [hB]; exact heap_alloc_new w2 _
  have hbB : Below w2.heap.size w2 wB := by rw [hB]; exact (Below.refl _ _).alloc (Nat.le_refl _) _
  have HbB := Lib.hid (Hb2.out.trans (hbB.mono hz2))
  have HXB := Lib.hid (HX2.out.trans (hbB.mono HX2.out.size))
  have s0 : wB.cell? ⟨w2.heap.size, 1, none⟩ = some (.int .i64 3) := cell_in kS
  have a3 : wB.cell? ⟨w.heap.size + 1, 1, none⟩ = some (.slice (some ⟨gn, on, none⟩) 1 cn) := cell_in (HR.out _ HXB.out)
  have hl2 := lt_of_block kS
  have hl3 : w.heap.size + 1 < wB.heap.size := by have := HXB.out.size; omega
  clear hB kS hbB
  go_wp2_with fail
  refine (isNumber_3 wB).mono ?_
  rintro e w3 ⟨rfl, rfl⟩
  go_wp2_with fail
  refine (HCn.out w.heap.size (w.heap.size + 1) tg _ w3 HbB.out (cell_in (HX.out _ HXB.out)) (by have := HXB.out.size; omega) (HR.out _ HXB.out)).mono ?_
  rintro e w4 ⟨rfl, hb4⟩
  have Hb4 := Lib.hid (HbB.out.trans (hb4.mono HbB.out.size))
  clear hb4
  go_wp2_with fail
  go_ret
  exact ⟨rfl, Hb4.out⟩
end Go.Proofs.YtbelnaiekbfoiaaGreatDoor.dr
/- Package derive: Right, of the three standard rules. Conditions: the listed variables hold what the program's text lays. -/
namespace Go.Proofs.YtbelnaiekbfoiaaGreatDoor.dr
open Go.ChangeShapes Go.WideShapes Go.ChangeAt Go.RowKit gl va ls ky ly

set_option maxHeartbeats 4000000 in
set_option maxRecDepth 100000 in
theorem right1_wk (w : World) (hG : Glo w) : Calls Tryz.prog 159 (#[.string (B tSv)] ++ #[]) w fun e w' => e = .returned (.bool false) ∧ Below w.heap.size w w' := by
  show Calls Tryz.prog 159 #[.string (B tSv)] w _
  have HN := Lib.hid (IsName_any (B tSv) (by decide) w hG)
  rw [show nameL (B tSv).data.toList = true from by decide +kernel] at HN
  clear hG
  generalize B tSv = nd at *
  go_enter Tryz.func159, Tryz.ntmps159
  go_wp2_with fail
  refine HN.out.mono ?_
  rintro e w1 ⟨rfl, hb1⟩
  have Hb1 := Lib.hid hb1
  clear hb1
  go_wp2_with fail
  go_ret
  exact ⟨rfl, Hb1.out⟩
set_option maxHeartbeats 4000000 in
set_option maxRecDepth 100000 in
theorem right_wk (pn : Option Addr) (cn : Nat) (w : World) (hG : Glo w) (hn : Txs w (.slice pn 1 cn) [tSv]) :
    Calls Tryz.prog 112 #[.agg #[.string (B tWk), .slice pn 1 cn, .int .i64 6, .int .i64 1]] w fun e w' => e = .returned (.bool true) ∧ Below w.heap.size w w' := by
  obtain ⟨gn, on, rfl, hgn⟩ := hn.ptr.2.2 (by omega)
  have n0 := tx_cell hn (j := 0) rfl
  rw [Nat.add_zero] at n0
  have eg : ∀ args w, (callFunc 159 args).run Tryz.prog w = .ok (.enter 159 args) w := enters Tryz.func159 (by kernel_rfl) (by kernel_rfl)
  have HN := Lib.hid fun (W : World) (hW : Below w.heap.size w W) => IsName_any (B tWk) (by decide) W (hG.below hW (Nat.le_refl _))
  rw [show nameL (B tWk).data.toList = true from by decide +kernel] at HN
  have HC := Lib.hid fun (W : World) (hW : Below w.heap.size w W) => contains1_any 159 #[] eg (B tSv) false gn on cn W ((hW.cell (p := ⟨gn, on, none⟩) hgn).trans n0) (Nat.lt_of_lt_of_le hgn hW.size) (right1_wk W (hG.below hW (Nat.le_refl _)))
  clear hG hn n0 eg
  generalize B tWk = tg at *
  go_enter Tryz.func112, Tryz.ntmps112
  go_upto_region 1 with fail
  refine go_nm (fun wA hA => ?_)
  have hbA : Below w.heap.size w wA := by rw [hA]; exact (Below.refl _ _).alloc (Nat.le_refl _) _
  have kR : wA.heap[w.heap.size]? = some (.cells #[.string tg, .slice (some ⟨gn, on, none⟩) 1 cn, .int .i64 6, .int .i64 1] 59 (0, 0)) := by rw [hA]; exact heap_alloc_new w _
  have a0 : wA.cell? ⟨w.heap.size, 0, none⟩ = some (.string tg) := cell_in kR
  have hl0 := lt_of_block kR
  have HR := Lib.hid fun (W : World) (hW : Below wA.heap.size wA W) => (hW.block _ hl0).trans kR
  have HbA := Lib.hid hbA
  clear hA kR hbA
  go_wp2_with fail
  refine (HN.out wA HbA.out).mono ?_
  rintro e w2 ⟨rfl, hb2⟩
  have Hb2 := Lib.hid (HbA.out.trans (hb2.mono HbA.out.size))
  have HX2 := Lib.hid hb2
  have a1 : w2.cell? ⟨w.heap.size, 1, none⟩ = some (.slice (some ⟨gn, on, none⟩) 1 cn) := cell_in (HR.out _ hb2)
  have hl2 : w.heap.size < w2.heap.size := by have := hb2.size; omega
  clear hb2 a0 HN
  go_wp2_with fail
  refine (HC.out w2 Hb2.out).mono ?_
  rintro e w3 ⟨rfl, hb3⟩
  have Hb3 := Lib.hid (Hb2.out.trans (hb3.mono Hb2.out.size))
  have HX3 := HX2.out.trans (hb3.mono HX2.out.size)
  have e1 : w3.cell? ⟨w.heap.size, 1, none⟩ = some (.slice (some ⟨gn, on, none⟩) 1 cn) := cell_in (HR.out _ HX3)
  have e2 : w3.cell? ⟨w.heap.size, 2, none⟩ = some (.int .i64 6) := cell_in (HR.out _ HX3)
  have e3 : w3.cell? ⟨w.heap.size, 3, none⟩ = some (.int .i64 1) := cell_in (HR.out _ HX3)
  have hl3 : w.heap.size < w3.heap.size := by have := HX3.size; omega
  clear hb3 HX3 a1 HC
  go_wp2_with fail
  go_ret
  exact ⟨rfl, Hb3.out⟩
set_option maxHeartbeats 4000000 in
set_option maxRecDepth 100000 in
theorem right1_lm (w : World) (hG : Glo w) : Calls Tryz.prog 159 (#[.string (B tWk)] ++ #[]) w fun e w' => e = .returned (.bool false) ∧ Below w.heap.size w w' := by
  show Calls Tryz.prog 159 #[.string (B tWk)] w _
  have HN := Lib.hid (IsName_any (B tWk) (by decide) w hG)
  rw [show nameL (B tWk).data.toList = true from by decide +kernel] at HN
  clear hG
  generalize B tWk = nd at *
  go_enter Tryz.func159, Tryz.ntmps159
  go_wp2_with fail
  refine HN.out.mono ?_
  rintro e w1 ⟨rfl, hb1⟩
  have Hb1 := Lib.hid hb1
  clear hb1
  go_wp2_with fail
  go_ret
  exact ⟨rfl, Hb1.out⟩
set_option maxHeartbeats 4000000 in
set_option maxRecDepth 100000 in
theorem right_lm (pn : Option Addr) (cn : Nat) (w : World) (hG : Glo w) (hn : Txs w (.slice pn 1 cn) [tWk]) :
    Calls Tryz.prog 112 #[.agg #[.string (B tLm), .slice pn 1 cn, .int .i64 4, .int .i64 16]] w fun e w' => e = .returned (.bool true) ∧ Below w.heap.size w w' := by
  obtain ⟨gn, on, rfl, hgn⟩ := hn.ptr.2.2 (by omega)
  have n0 := tx_cell hn (j := 0) rfl
  rw [Nat.add_zero] at n0
  have eg : ∀ args w, (callFunc 159 args).run Tryz.prog w = .ok (.enter 159 args) w := enters Tryz.func159 (by kernel_rfl) (by kernel_rfl)
  have HN := Lib.hid fun (W : World) (hW : Below w.heap.size w W) => IsName_any (B tLm) (by decide) W (hG.below hW (Nat.le_refl _))
  rw [show nameL (B tLm).data.toList = true from by decide +kernel] at HN
  have HC := Lib.hid fun (W : World) (hW : Below w.heap.size w W) => contains1_any 159 #[] eg (B tWk) false gn on cn W ((hW.cell (p := ⟨gn, on, none⟩) hgn).trans n0) (Nat.lt_of_lt_of_le hgn hW.size) (right1_lm W (hG.below hW (Nat.le_refl _)))
  clear hG hn n0 eg
  generalize B tLm = tg at *
  go_enter Tryz.func112, Tryz.ntmps112
  go_upto_region 1 with fail
  refine go_nm (fun wA hA => ?_)
  have hbA : Below w.heap.size w wA := by rw [hA]; exact (Below.refl _ _).alloc (Nat.le_refl _) _
  have kR : wA.heap[w.heap.size]? = some (.cells #[.string tg, .slice (some ⟨gn, on, none⟩) 1 cn, .int .i64 4, .int .i64 16] 59 (0, 0)) := by rw [hA]; exact heap_alloc_new w _
  have a0 : wA.cell? ⟨w.heap.size, 0, none⟩ = some (.string tg) := cell_in kR
  have hl0 := lt_of_block kR
  have HR := Lib.hid fun (W : World) (hW : Below wA.heap.size wA W) => (hW.block _ hl0).trans kR
  have HbA := Lib.hid hbA
  clear hA kR hbA
  go_wp2_with fail
  refine (HN.out wA HbA.out).mono ?_
  rintro e w2 ⟨rfl, hb2⟩
  have Hb2 := Lib.hid (HbA.out.trans (hb2.mono HbA.out.size))
  have HX2 := Lib.hid hb2
  have a1 : w2.cell? ⟨w.heap.size, 1, none⟩ = some (.slice (some ⟨gn, on, none⟩) 1 cn) := cell_in (HR.out _ hb2)
  have hl2 : w.heap.size < w2.heap.size := by have := hb2.size; omega
  clear hb2 a0 HN
  go_wp2_with fail
  refine (HC.out w2 Hb2.out).mono ?_
  rintro e w3 ⟨rfl, hb3⟩
  have Hb3 := Lib.hid (Hb2.out.trans (hb3.mono Hb2.out.size))
  have HX3 := HX2.out.trans (hb3.mono HX2.out.size)
  have e1 : w3.cell? ⟨w.heap.size, 1, none⟩ = some (.slice (some ⟨gn, on, none⟩) 1 cn) := cell_in (HR.out _ HX3)
  have e2 : w3.cell? ⟨w.heap.size, 2, none⟩ = some (.int .i64 4) := cell_in (HR.out _ HX3)
  have e3 : w3.cell? ⟨w.heap.size, 3, none⟩ = some (.int .i64 16) := cell_in (HR.out _ HX3)
  have hl3 : w.heap.size < w3.heap.size := by have := HX3.size; omega
  clear hb3 HX3 a1 HC
  go_wp2_with fail
  go_ret
  exact ⟨rfl, Hb3.out⟩
set_option maxHeartbeats 4000000 in
set_option maxRecDepth 100000 in
theorem right1_pg (w : World) (hG : Glo w) : Calls Tryz.prog 159 (#[.string (B tCh)] ++ #[]) w fun e w' => e = .returned (.bool false) ∧ Below w.heap.size w w' := by
  show Calls Tryz.prog 159 #[.string (B tCh)] w _
  have HN := Lib.hid (IsName_any (B tCh) (by decide) w hG)
  rw [show nameL (B tCh).data.toList = true from by decide +kernel] at HN
  clear hG
  generalize B tCh = nd at *
  go_enter Tryz.func159, Tryz.ntmps159
  go_wp2_with fail
  refine HN.out.mono ?_
  rintro e w1 ⟨rfl, hb1⟩
  have Hb1 := Lib.hid hb1
  clear hb1
  go_wp2_with fail
  go_ret
  exact ⟨rfl, Hb1.out⟩
set_option maxHeartbeats 4000000 in
set_option maxRecDepth 100000 in
theorem right_pg (pn : Option Addr) (cn : Nat) (w : World) (hG : Glo w) (hn : Txs w (.slice pn 1 cn) [tCh]) :
    Calls Tryz.prog 112 #[.agg #[.string (B tPg), .slice pn 1 cn, .int .i64 5, .int .i64 1024]] w fun e w' => e = .returned (.bool true) ∧ Below w.heap.size w w' := by
  obtain ⟨gn, on, rfl, hgn⟩ := hn.ptr.2.2 (by omega)
  have n0 := tx_cell hn (j := 0) rfl
  rw [Nat.add_zero] at n0
  have eg : ∀ args w, (callFunc 159 args).run Tryz.prog w = .ok (.enter 159 args) w := enters Tryz.func159 (by kernel_rfl) (by kernel_rfl)
  have HN := Lib.hid fun (W : World) (hW : Below w.heap.size w W) => IsName_any (B tPg) (by decide) W (hG.below hW (Nat.le_refl _))
  rw [show nameL (B tPg).data.toList = true from by decide +kernel] at HN
  have HC := Lib.hid fun (W : World) (hW : Below w.heap.size w W) => contains1_any 159 #[] eg (B tCh) false gn on cn W ((hW.cell (p := ⟨gn, on, none⟩) hgn).trans n0) (Nat.lt_of_lt_of_le hgn hW.size) (right1_pg W (hG.below hW (Nat.le_refl _)))
  clear hG hn n0 eg
  generalize B tPg = tg at *
  go_enter Tryz.func112, Tryz.ntmps112
  go_upto_region 1 with fail
  refine go_nm (fun wA hA => ?_)
  have hbA : Below w.heap.size w wA := by rw [hA]; exact (Below.refl _ _).alloc (Nat.le_refl _) _
  have kR : wA.heap[w.heap.size]? = some (.cells #[.string tg, .slice (some ⟨gn, on, none⟩) 1 cn, .int .i64 5, .int .i64 1024] 59 (0, 0)) := by rw [hA]; exact heap_alloc_new w _
  have a0 : wA.cell? ⟨w.heap.size, 0, none⟩ = some (.string tg) := cell_in kR
  have hl0 := lt_of_block kR
  have HR := Lib.hid fun (W : World) (hW : Below wA.heap.size wA W) => (hW.block _ hl0).trans kR
  have HbA := Lib.hid hbA
  clear hA kR hbA
  go_wp2_with fail
  refine (HN.out wA HbA.out).mono ?_
  rintro e w2 ⟨rfl, hb2⟩
  have Hb2 := Lib.hid (HbA.out.trans (hb2.mono HbA.out.size))
  have HX2 := Lib.hid hb2
  have a1 : w2.cell? ⟨w.heap.size, 1, none⟩ = some (.slice (some ⟨gn, on, none⟩) 1 cn) := cell_in (HR.out _ hb2)
  have hl2 : w.heap.size < w2.heap.size := by have := hb2.size; omega
  clear hb2 a0 HN
  go_wp2_with fail
  refine (HC.out w2 Hb2.out).mono ?_
  rintro e w3 ⟨rfl, hb3⟩
  have Hb3 := Lib.hid (Hb2.out.trans (hb3.mono Hb2.out.size))
  have HX3 := HX2.out.trans (hb3.mono HX2.out.size)
  have e1 : w3.cell? ⟨w.heap.size, 1, none⟩ = some (.slice (some ⟨gn, on, none⟩) 1 cn) := cell_in (HR.out _ HX3)
  have e2 : w3.cell? ⟨w.heap.size, 2, none⟩ = some (.int .i64 5) := cell_in (HR.out _ HX3)
  have e3 : w3.cell? ⟨w.heap.size, 3, none⟩ = some (.int .i64 1024) := cell_in (HR.out _ HX3)
  have hl3 : w.heap.size < w3.heap.size := by have := HX3.size; omega
  clear hb3 HX3 a1 HC
  go_wp2_with fail
  go_ret
  exact ⟨rfl, Hb3.out⟩
end Go.Proofs.YtbelnaiekbfoiaaGreatDoor.dr
/- Package derive: the standard rules as an argument: their parts; none may not be. Conditions: the rules lie in memory; the listed variables hold what the program's text lays. -/
namespace Go.Proofs.YtbelnaiekbfoiaaGreatDoor.dr
open Go.ChangeShapes Go.WideShapes Go.ChangeAt Go.RowKit gl va ls ky ly

/-- The three rules' cells, the places of their lists. -/
structure Pl where
  p0 : Option Addr
  c0 : Nat
  p1 : Option Addr
  c1 : Nat
  p2 : Option Addr
  c2 : Nat
def Pl.rr (q : Pl) : List RuR := [⟨tLm, q.p0, 1, q.c0, 4, 16⟩, ⟨tWk, q.p1, 1, q.c1, 6, 1⟩, ⟨tPg, q.p2, 1, q.c2, 5, 1024⟩]
structure Std3 (w : World) (v : Value) (q : Pl) : Prop where
  row : rw.Rw ruC 4 w v q.rr
  n0 : Txs w (.slice q.p0 1 q.c0) [tWk]
  n1 : Txs w (.slice q.p1 1 q.c1) [tSv]
  n2 : Txs w (.slice q.p2 1 q.c2) [tCh]
theorem Std3.later {w w' : World} {v : Value} {q : Pl} (h : Std3 w v q) (hb : Below w.heap.size w w') : Std3 w' v q := ⟨h.row.later hb, h.n0.later hb, h.n1.later hb, h.n2.later hb⟩
theorem rus_parts {w : World} {v : Value} {RR : List RuR} (h : Rus w v RR stdRu) : ∃ q : Pl, RR = q.rr ∧ Std3 w v q := by
  obtain ⟨h1, h2, h3⟩ := h
  match RR, h2 with
  | [a, b, c], _ =>
    have ra := h3 0 a ruLm rfl rfl
    have rb := h3 1 b ruWk rfl rfl
    have rc := h3 2 c ruPg rfl rfl
    obtain ⟨at_, ap, an, ac, ao, ad⟩ := a
    obtain ⟨bt, bp, bn, bc, bo, bd⟩ := b
    obtain ⟨ct, cp, cn, cc, co, cd⟩ := c
    obtain ⟨e1, e2, e3, ta⟩ := ra
    obtain ⟨f1, f2, f3, tb⟩ := rb
    obtain ⟨g1, g2, g3, tc⟩ := rc
    simp only at e1 e2 e3 f1 f2 f3 g1 g2 g3
    obtain rfl : 1 = an := ta.ptr.1
    obtain rfl : 1 = bn := tb.ptr.1
    obtain rfl : 1 = cn := tc.ptr.1
    subst e1 e2 e3 f1 f2 f3 g1 g2 g3
    exact ⟨⟨ap, ac, bp, bc, cp, cc⟩, rfl, h1, ta, tb, tc⟩
/-- Right says so of each. -/
theorem right3 {w : World} {v : Value} {q : Pl} (h : Std3 w v q) (hG : Glo w) (i : Fin 3) : Calls Tryz.prog 112 #[.agg (ruC (q.rr[i.val]'(by have := i.isLt; show i.val < 3; exact this))).toArray] w fun e w' => e = .returned (.bool true) ∧ Below w.heap.size w w' := by
  match i with
  | ⟨0, _⟩ => exact right_lm q.p0 q.c0 w hG h.n0
  | ⟨1, _⟩ => exact right_wk q.p1 q.c1 w hG h.n1
  | ⟨2, _⟩ => exact right_pg q.p2 q.c2 w hG h.n2
theorem ordRu_any (r : RuR) (w : World) (hR : ∀ W, Below w.heap.size w W → Calls Tryz.prog 112 #[.agg (ruC r).toArray] W fun e w' => e = .returned (.bool true) ∧ Below W.heap.size W w') :
    Calls Tryz.prog 111 (#[.agg (ruC r).toArray] ++ #[]) w fun e w' => e = .returned (.bool false) ∧ Below w.heap.size w w' := by
  show Calls Tryz.prog 111 #[.agg #[.string (B r.target), r.vn, .int .i64 r.op, .int .i64 r.add]] w _
  have HR := Lib.hid hR
  have hb0 : Below w.heap.size w (w.alloc (.cells #[.string (B r.target), r.vn, .int .i64 r.op, .int .i64 r.add] 59)) := (Below.refl _ _).alloc (Nat.le_refl _) _
  have HRA := Lib.hid (hR _ hb0)
  have Hb0 := Lib.hid hb0
  clear hR HR hb0
  have HRB : Hid (Calls Tryz.prog 112 #[.agg #[.string (B r.target), .slice r.p r.n r.c, .int .i64 r.op, .int .i64 r.add]] (w.alloc (.cells #[.string (B r.target), .slice r.p r.n r.c, .int .i64 r.op, .int .i64 r.add] 59)) fun e w' => e = .returned (.bool true) ∧ Below (w.alloc (.cells #[.string (B r.target), .slice r.p r.n r.c, .int .i64 r.op, .int .i64 r.add] 59)).heap.size (w.alloc (.cells #[.string (B r.target), .slice r.p r.n r.c, .int .i64 r.op, .int .i64 r.add] 59)) w') := HRA
  clear HRA
  show Calls Tryz.prog 111 #[.agg #[.string (B r.target), .slice r.p r.n r.c, .int .i64 r.op, .int .i64 r.add]] w _
  go_enter Tryz.func111, Tryz.ntmps111
  go_wp2_with fail
  refine HRB.out.mono ?_
  rintro e w2 ⟨rfl, hb2⟩
  have Hb2 := Lib.hid (Hb0.out.trans (hb2.mono Hb0.out.size))
  clear hb2
  go_wp2_with fail
  go_ret
  exact ⟨rfl, Hb2.out⟩
theorem hasRu_any {w : World} {p : Option Addr} {c : Nat} {q : Pl} (h : Std3 w (.slice p 3 c) q) (hG : Glo w) :
    Calls Tryz.prog 110 #[.slice p 3 c, .func (.func 111) #[] #[]] w fun e w' => e = .returned (.bool false) ∧ Below w.heap.size w w' := by
  obtain ⟨b, o, rfl, hb⟩ := h.row.ptr.2.2 (by omega)
  refine (AnyQ.slices_ContainsFunc Tryz.hasRu 4 Tryz.isAgg59 Tryz.sizeOf59 (fun i : Fin 3 => ruC (q.rr[i.val]'(by have := i.isLt; show i.val < 3; exact this))) (fun _ => rfl) (fun _ => false) 111 #[] (enters Tryz.func111 (by kernel_rfl) (by kernel_rfl)) b o 3 c [0, 1, 2] w (fun W i hW => ?_) (by decide) (by omega) hb (fun j hj i v hv => ?_)).mono ?_
  · exact (ordRu_any _ W fun W' hW' => right3 (h.later (hW.trans (hW'.mono hW.size))) (hG.below (hW.trans (hW'.mono hW.size)) (Nat.le_refl _)) i).mono fun e w' h => ⟨h.1, hW.trans (h.2.mono hW.size)⟩
  · have hj3 : j < 3 := hj
    rcases (show j = 0 ∨ j = 1 ∨ j = 2 by omega) with rfl | rfl | rfl
    · have := rw.Rw.cell h.row (j := 0) rfl hv; rwa [← Nat.add_assoc] at this
    · have := rw.Rw.cell h.row (j := 1) rfl hv; rwa [← Nat.add_assoc] at this
    · have := rw.Rw.cell h.row (j := 2) rfl hv; rwa [← Nat.add_assoc] at this
  · rintro e w' ⟨rfl, hb'⟩
    exact ⟨rfl, hb'⟩
end Go.Proofs.YtbelnaiekbfoiaaGreatDoor.dr
/- Package derive: what next's closures tell of the standard rules. Conditions: the rules and the numbers that are left lie in memory. -/
namespace Go.Proofs.YtbelnaiekbfoiaaGreatDoor.dr
open Go.ChangeShapes Go.WideShapes Go.ChangeAt Go.RowKit gl va ls ky ly

theorem drN_bel (w : World) (n : Nat) : Below w.heap.size w (w.drewN n) := ⟨rfl, rfl, rfl, Nat.le_refl _, fun _ _ => rfl⟩
def tgtL (i : Fin 3) : List UInt8 := match i with | ⟨0, _⟩ => tLm | ⟨1, _⟩ => tWk | ⟨2, _⟩ => tPg
theorem tgt_cell {w : World} {b o c : Nat} {q : Pl} (h : Std3 w (.slice (some ⟨b, o, none⟩) 3 c) q) (i : Fin 3) : w.cell? ⟨b, o + i.val * 4, none⟩ = some (.string (B (tgtL i))) := by
  match i with
  | ⟨0, _⟩ => exact (ru_cells h.row (j := 0) rfl).1
  | ⟨1, _⟩ => exact (ru_cells h.row (j := 1) rfl).1
  | ⟨2, _⟩ => exact (ru_cells h.row (j := 2) rfl).1
set_option maxHeartbeats 4000000 in
set_option maxRecDepth 100000 in
theorem next11_any (x0 xn b o c : Nat) (i : Fin 3) (t tg : ByteArray) (w : World) (hT : w.cell? ⟨b, o + i.val * 4, none⟩ = some (.string tg)) (_hb : b < w.heap.size) (h0 : w.cell? ⟨x0, 0, none⟩ = some (.slice (some ⟨b, o, none⟩) 3 c)) (_hx0 : x0 < w.heap.size) (hn : w.cell? ⟨xn, 0, none⟩ = some (.string t)) (_hxn : xn < w.heap.size) :
    Calls Tryz.prog 163 #[.int .i64 (i.val : Nat), .pointer (some ⟨x0, 0, none⟩), .pointer (some ⟨xn, 0, none⟩)] w fun e w' => e = .returned (.bool (tg.toList == t.toList)) ∧ ∃ q, w' = w.drewN q := by
  have hi : i.val < 3 := i.isLt
  generalize i.val = j at *
  have hj : (j : Int) < 3 := by omega
  have hj0 : (0 : Int) ≤ (j : Int) := by omega
  clear i
  go_enter Tryz.func163, Tryz.ntmps163
  go_wp2_with fail
  go_quiet (fail)
  rename_i nq
  go_wp2_with fail
  go_ret
  exact ⟨rfl, nq, rfl⟩
/-- The numbers that are left lie in memory. -/
def Left (w : World) (bl : Nat) (zs : List (Fin 3)) : Prop := bl < w.heap.size ∧ ∀ (j : Nat) (i : Fin 3), zs[j]? = some i → w.cell? ⟨bl, j, none⟩ = some (.int .i64 (i.val : Nat))
theorem Left.later {w w' : World} {bl : Nat} {zs : List (Fin 3)} (h : Left w bl zs) (hb : Below w.heap.size w w') : Left w' bl zs := ⟨by have := hb.size; have := h.1; omega, fun j i hi => (hb.cell (p := ⟨bl, j, none⟩) h.1).trans (h.2 j i hi)⟩
/-- Does a rule that is left make this setting? -/
def waitsL (zs : List (Fin 3)) (t : ByteArray) : Bool := zs.any fun i => (B (tgtL i)).toList == t.toList
set_option maxHeartbeats 4000000 in
set_option maxRecDepth 100000 in
theorem next1_any (x0 x1 bl cl : Nat) (p : Option Addr) (c : Nat) (q : Pl) (zs : List (Fin 3)) (hz : zs.length ≤ 3) (t : ByteArray) (w : World) (hS : Std3 w (.slice p 3 c) q) (h0 : w.cell? ⟨x0, 0, none⟩ = some (.slice p 3 c)) (hx0 : x0 < w.heap.size) (h1 : w.cell? ⟨x1, 0, none⟩ = some (.slice (some ⟨bl, 0, none⟩) zs.length cl)) (hx1 : x1 < w.heap.size) (hL : Left w bl zs) :
    Calls Tryz.prog 161 (#[.string t] ++ #[.pointer (some ⟨x1, 0, none⟩), .pointer (some ⟨x0, 0, none⟩)]) w fun e w' => e = .returned (.bool (waitsL zs t)) ∧ Below w.heap.size w w' := by
  show Calls Tryz.prog 161 #[.string t, .pointer (some ⟨x1, 0, none⟩), .pointer (some ⟨x0, 0, none⟩)] w _
  obtain ⟨b, o, rfl, hb⟩ := hS.row.ptr.2.2 (by omega)
  have hbA : Below w.heap.size w (w.alloc (.cells #[.string t] 9)) := (Below.refl _ _).alloc (Nat.le_refl _) _
  have kn : (w.alloc (.cells #[.string t] 9)).heap[w.heap.size]? = some (.cells #[.string t] 9 (0, 0)) := heap_alloc_new w _
  have HC := Lib.hid (AnyE.slices_ContainsFunc Tryz.hasInt (fun i : Fin 3 => Value.int .i64 (i.val : Nat)) (fun i => (B (tgtL i)).toList == t.toList) 163 #[.pointer (some ⟨x0, 0, none⟩), .pointer (some ⟨w.heap.size, 0, none⟩)] (enters Tryz.func163 (by kernel_rfl) (by kernel_rfl)) bl 0 zs.length cl zs (w.alloc (.cells #[.string t] 9))
    (fun W i hW => next11_any x0 w.heap.size b o c i t (B (tgtL i)) W (tgt_cell (hS.later (hbA.trans (hW.mono hbA.size))) i) (by have := (hbA.trans (hW.mono hbA.size)).size; omega) (((hbA.trans (hW.mono hbA.size)).cell (p := ⟨x0, 0, none⟩) hx0).trans h0) (by have := (hbA.trans (hW.mono hbA.size)).size; omega) (cell_in ((hW.block _ (lt_of_block kn)).trans kn)) (by have := hW.size; have := lt_of_block kn; omega))
    (Nat.le_refl _) (by omega) (fun j hj => by
      rw [Nat.zero_add, getElem!_pos zs j hj]
      exact (hbA.cell (p := ⟨bl, j, none⟩) hL.1).trans (hL.2 j _ (List.getElem?_eq_getElem hj))))
  rw [List.take_of_length_le (Nat.le_refl _)] at HC
  have HbA := Lib.hid hbA
  have a1 : (w.alloc (.cells #[.string t] 9)).cell? ⟨x1, 0, none⟩ = some (.slice (some ⟨bl, 0, none⟩) zs.length cl) := (hbA.cell (p := ⟨x1, 0, none⟩) hx1).trans h1
  unfold waitsL
  generalize (zs.any fun i => (B (tgtL i)).toList == t.toList) = r at *
  clear hS h0 hL kn hbA
  generalize zs.length = n at *
  go_enter Tryz.func161, Tryz.ntmps161
  go_wp2_with fail
  refine HC.out.mono ?_
  rintro e w2 ⟨rfl, q2, rfl⟩
  go_wp2_with fail
  go_ret
  exact ⟨rfl, HbA.out.trans ((drN_bel _ _).mono HbA.out.size)⟩
end Go.Proofs.YtbelnaiekbfoiaaGreatDoor.dr
/- Package derive: next, of the standard rules. Conditions: the rules and the numbers that are left lie in memory. -/
namespace Go.Proofs.YtbelnaiekbfoiaaGreatDoor.dr
open Go.ChangeShapes Go.WideShapes Go.ChangeAt Go.RowKit gl va ls ky ly

def needL (i : Fin 3) : List UInt8 := match i with | ⟨0, _⟩ => tWk | ⟨1, _⟩ => tSv | ⟨2, _⟩ => tCh
def Pl.pn (q : Pl) (i : Fin 3) : Option Addr := match i with | ⟨0, _⟩ => q.p0 | ⟨1, _⟩ => q.p1 | ⟨2, _⟩ => q.p2
def Pl.cn (q : Pl) (i : Fin 3) : Nat := match i with | ⟨0, _⟩ => q.c0 | ⟨1, _⟩ => q.c1 | ⟨2, _⟩ => q.c2
theorem need_cell {w : World} {b o c : Nat} {q : Pl} (h : Std3 w (.slice (some ⟨b, o, none⟩) 3 c) q) (i : Fin 3) : w.cell? ⟨b, o + i.val * 4 + 1, none⟩ = some (.slice (q.pn i) 1 (q.cn i)) ∧ Txs w (.slice (q.pn i) 1 (q.cn i)) [needL i] := by
  match i with
  | ⟨0, _⟩ => exact ⟨(ru_cells h.row (j := 0) rfl).2.1, h.n0⟩
  | ⟨1, _⟩ => exact ⟨(ru_cells h.row (j := 1) rfl).2.1, h.n1⟩
  | ⟨2, _⟩ => exact ⟨(ru_cells h.row (j := 2) rfl).2.1, h.n2⟩
set_option maxHeartbeats 4000000 in
set_option maxRecDepth 100000 in
theorem next2_any (x0 x1 x2 bl cl : Nat) (p : Option Addr) (c : Nat) (q : Pl) (zs : List (Fin 3)) (hz : zs.length ≤ 3) (i : Fin 3) (w : World) (hS : Std3 w (.slice p 3 c) q) (h0 : w.cell? ⟨x0, 0, none⟩ = some (.slice p 3 c)) (hx0 : x0 < w.heap.size) (h1 : w.cell? ⟨x1, 0, none⟩ = some (.slice (some ⟨bl, 0, none⟩) zs.length cl)) (hx1 : x1 < w.heap.size) (hL : Left w bl zs)
    (h2 : w.cell? ⟨x2, 0, none⟩ = some (.func (.func 161) #[] #[.pointer (some ⟨x1, 0, none⟩), .pointer (some ⟨x0, 0, none⟩)])) (hx2 : x2 < w.heap.size) :
    Calls Tryz.prog 165 (#[.int .i64 (i.val : Nat)] ++ #[.pointer (some ⟨x0, 0, none⟩), .pointer (some ⟨x2, 0, none⟩)]) w fun e w' => e = .returned (.bool (!waitsL zs (B (needL i)))) ∧ Below w.heap.size w w' := by
  show Calls Tryz.prog 165 #[.int .i64 (i.val : Nat), .pointer (some ⟨x0, 0, none⟩), .pointer (some ⟨x2, 0, none⟩)] w _
  obtain ⟨b, o, rfl, hb⟩ := hS.row.ptr.2.2 (by omega)
  obtain ⟨hc, hn⟩ := need_cell hS i
  obtain ⟨gn, on, hpn, hgn⟩ := hn.ptr.2.2 (by omega)
  have n0 := hn
  rw [hpn] at hc n0
  have n1 := tx_cell n0 (j := 0) rfl
  rw [Nat.add_zero] at n1
  have HC := Lib.hid fun (W : World) (hW : Below w.heap.size w W) => contains1_any 161 #[.pointer (some ⟨x1, 0, none⟩), .pointer (some ⟨x0, 0, none⟩)] (enters Tryz.func161 (by kernel_rfl) (by kernel_rfl)) (B (needL i)) (waitsL zs (B (needL i))) gn on (q.cn i) W ((hW.cell (p := ⟨gn, on, none⟩) hgn).trans n1) (Nat.lt_of_lt_of_le hgn hW.size)
    (next1_any x0 x1 bl cl (some ⟨b, o, none⟩) c q zs hz (B (needL i)) W (hS.later hW) ((hW.cell (p := ⟨x0, 0, none⟩) hx0).trans h0) (Nat.lt_of_lt_of_le hx0 hW.size) ((hW.cell (p := ⟨x1, 0, none⟩) hx1).trans h1) (Nat.lt_of_lt_of_le hx1 hW.size) (hL.later hW))
  have hi : i.val < 3 := i.isLt
  generalize waitsL zs (B (needL i)) = r at *
  generalize q.cn i = cn at *
  generalize i.val = j at *
  have hj : (j : Int) < 3 := by omega
  have hj0 : (0 : Int) ≤ (j : Int) := by omega
  clear hS hL h1 hn n0 n1 hpn
  go_enter Tryz.func165, Tryz.ntmps165
  go_upto_region 1 with fail
  refine wp_region_held_drew (S := (fun W => W.cell? ⟨x0, 0, none⟩ = some (.slice (some ⟨b, o, none⟩) 3 c) ∧ W.cell? ⟨b, o + j * 4 + 1, none⟩ = some (.slice (some ⟨gn, on, none⟩) 1 cn) ∧ W.cell? ⟨x2, 0, none⟩ = some (.func (.func 161) #[] #[.pointer (some ⟨x1, 0, none⟩), .pointer (some ⟨x0, 0, none⟩)]))) (by kernel_rfl) ⟨h0, hc, h2⟩ (fun hH0 => ?_)
  try dsimp only at hH0
  refine hk_take (i := 0) (d := some 5) (v := ?_) (by kernel_rfl) (by kernel_rfl) (by kernel_rfl) (by kernel_rfl) (fun _ _ _ h => h) (by kernel_rfl) ?hy (by assumption) ?_
  case hy => (intro w hSw; (try dsimp only at hSw); simp only [List.getElem?_toArray, List.getElem?_cons_zero]; go_simp; all_goals (with_reducible rfl))
  try simp only [Act.put, List.setIfInBounds_toArray, List.set_cons_zero, List.set_cons_succ]
  refine hk_take (i := 1) (d := some 6) (v := ?_) (by kernel_rfl) (by kernel_rfl) (by kernel_rfl) (by kernel_rfl) (fun _ _ _ h => h) (by kernel_rfl) ?hy (by assumption) ?_
  case hy => (intro w hSw; (try dsimp only at hSw); simp only [List.getElem?_toArray, List.getElem?_cons_succ, List.getElem?_cons_zero]; go_simp; all_goals (with_reducible rfl))
  try simp only [Act.put, List.setIfInBounds_toArray, List.set_cons_zero, List.set_cons_succ]
  refine hk_take (i := 2) (d := some 7) (v := ?_) (by kernel_rfl) (by kernel_rfl) (by kernel_rfl) (by kernel_rfl) (fun _ _ _ h => h) (by kernel_rfl) ?hy (by assumption) ?_
  case hy => (intro w hSw; (try dsimp only at hSw); simp only [List.getElem?_toArray, List.getElem?_cons_succ, List.getElem?_cons_zero]; go_simp; all_goals (with_reducible rfl))
  try simp only [Act.put, List.setIfInBounds_toArray, List.set_cons_zero, List.set_cons_succ]
  refine hk_take (i := 3) (d := some 8) (v := ?_) (by kernel_rfl) (by kernel_rfl) (by kernel_rfl) (by kernel_rfl) (fun _ _ _ h => h) (by kernel_rfl) ?hy (by assumption) ?_
  case hy => (intro w hSw; (try dsimp only at hSw); simp only [List.getElem?_toArray, List.getElem?_cons_succ, List.getElem?_cons_zero]; go_simp; all_goals (with_reducible rfl))
  try simp only [Act.put, List.setIfInBounds_toArray, List.set_cons_zero, List.set_cons_succ]
  refine hk_take (i := 4) (d := some 9) (v := ?_) (by kernel_rfl) (by kernel_rfl) (by kernel_rfl) (by kernel_rfl) (fun _ _ _ h => h) (by kernel_rfl) ?hy (by assumption) ?_
  case hy => (intro w hSw; (try dsimp only at hSw); simp only [List.getElem?_toArray, List.getElem?_cons_succ, List.getElem?_cons_zero]; go_simp; all_goals (with_reducible rfl))
  try simp only [Act.put, List.setIfInBounds_toArray, List.set_cons_zero, List.set_cons_succ]
  refine hk_take (i := 5) (d := some 10) (v := ?_) (by kernel_rfl) (by kernel_rfl) (by kernel_rfl) (by kernel_rfl) (fun _ _ _ h => h) (by kernel_rfl) ?hy (by assumption) ?_
  case hy => (intro w hSw; (try dsimp only at hSw); simp only [List.getElem?_toArray, List.getElem?_cons_succ, List.getElem?_cons_zero]; go_simp; all_goals (with_reducible rfl))
  try simp only [Act.put, List.setIfInBounds_toArray, List.set_cons_zero, List.set_cons_succ]
  refine hk_call (i := 6) (by kernel_rfl) (by kernel_rfl) (fun K hK => ?_)
  simp only [List.getElem?_toArray, List.getElem?_cons_succ, List.getElem?_cons_zero]
  go_simp
  (with_reducible refine Calls.mono (HC.out _ (Below.refl _ _).drew) ?_)
  rintro e w2 ⟨rfl, hb2⟩
  have hbw2 : Below w.heap.size w w2 := (Below.refl _ _).drew.trans hb2
  have Hb2 := Lib.hid hbw2
  clear hb2 hH0
  go_wp2_with fail
  refine hK.out _ _ ⟨(hbw2.cell (p := ⟨x0, 0, none⟩) hx0).trans h0, (hbw2.cell (p := ⟨b, o + j * 4 + 1, none⟩) hb).trans hc, (hbw2.cell (p := ⟨x2, 0, none⟩) hx2).trans h2⟩ (fun hH1 => ?_)
  clear hK K hbw2
  try simp only [Act.put, List.setIfInBounds_toArray, List.set_cons_zero, List.set_cons_succ]
  refine hk_take (i := 7) (d := some 12) (v := ?_) (by kernel_rfl) (by kernel_rfl) (by kernel_rfl) (by kernel_rfl) (fun _ _ _ h => h) (by kernel_rfl) ?hy (by assumption) ?_
  case hy => (intro w hSw; (try dsimp only at hSw); simp only [List.getElem?_toArray, List.getElem?_cons_succ, List.getElem?_cons_zero]; go_simp; all_goals (with_reducible rfl))
  try simp only [Act.put, List.setIfInBounds_toArray, List.set_cons_zero, List.set_cons_succ]
  refine hk_take (i := 8) (d := some 4) (v := ?_) (by kernel_rfl) (by kernel_rfl) (by kernel_rfl) (by kernel_rfl) (fun _ _ _ h => h) (by kernel_rfl) ?hy (by assumption) ?_
  case hy => (intro w hSw; (try dsimp only at hSw); simp only [List.getElem?_toArray, List.getElem?_cons_succ, List.getElem?_cons_zero]; go_simp; all_goals (with_reducible rfl))
  try simp only [Act.put, List.setIfInBounds_toArray, List.set_cons_zero, List.set_cons_succ]
  refine wpAnyH_done (by kernel_rfl) ?_ _
  go_wp2_with fail
  go_ret
  exact ⟨rfl, Hb2.out⟩
set_option maxHeartbeats 2000000 in
set_option maxRecDepth 100000 in
theorem idxI_first (g : Nat) (lb : Array Value) (eg : ∀ args w, (callFunc g args).run Tryz.prog w = .ok (.enter g args) w) (v : Int) (b n c : Nat) (w : World) (hn : 1 ≤ n) (hn3 : n ≤ 3) (h0 : w.cell? ⟨b, 0, none⟩ = some (.int .i64 v)) (_hb : b < w.heap.size)
    (hp : Calls Tryz.prog g (#[.int .i64 v] ++ lb) w fun e w' => e = .returned (.bool true) ∧ Below w.heap.size w w') :
    Calls Tryz.prog 164 #[.slice (some ⟨b, 0, none⟩) n c, .func (.func g) #[] lb] w fun e w' => e = .returned (.int .i64 0) ∧ Below w.heap.size w w' := by
  have hcall := hp
  clear hp
  have q1 : decide ((0 : Int) < (n : Int)) = true := by rw [decide_eq_true_iff]; omega
  have q2 : decide (0 < n) = true := by rw [decide_eq_true_iff]; omega
  have q3 : (0 : Int) < (n : Int) := by omega
  go_enter Tryz.func164, Tryz.ntmps164
  go_wp2_with fail
  refine wp_loop_rounds 3 ?_
  rw [rounds_succ]
  go_wp2_with (go_at_fn g; refine hcall.mono ?_; rintro e w' ⟨rfl, hb'⟩; have Hb' := Lib.hid hb'; clear hb')
  go_ret
  exact ⟨rfl, Hb'.out⟩
set_option maxHeartbeats 2000000 in
set_option maxRecDepth 100000 in
theorem idxI_second (g : Nat) (lb : Array Value) (eg : ∀ args w, (callFunc g args).run Tryz.prog w = .ok (.enter g args) w) (v0 v1 : Int) (b n c : Nat) (w : World) (hn : 2 ≤ n) (hn3 : n ≤ 3) (h0 : w.cell? ⟨b, 0, none⟩ = some (.int .i64 v0)) (h1 : w.cell? ⟨b, 1, none⟩ = some (.int .i64 v1)) (hb : b < w.heap.size)
    (hp0 : Calls Tryz.prog g (#[.int .i64 v0] ++ lb) w fun e w' => e = .returned (.bool false) ∧ Below w.heap.size w w')
    (hp1 : ∀ W, Below w.heap.size w W → Calls Tryz.prog g (#[.int .i64 v1] ++ lb) W fun e w' => e = .returned (.bool true) ∧ Below W.heap.size W w') :
    Calls Tryz.prog 164 #[.slice (some ⟨b, 0, none⟩) n c, .func (.func g) #[] lb] w fun e w' => e = .returned (.int .i64 1) ∧ Below w.heap.size w w' := by
  have hcall := hp0
  have HP1 := Lib.hid hp1
  clear hp0 hp1
  have q1 : decide ((0 : Int) < (n : Int)) = true := by rw [decide_eq_true_iff]; omega
  have q2 : decide (0 < n) = true := by rw [decide_eq_true_iff]; omega
  have q3 : (0 : Int) < (n : Int) := by omega
  have q4 : decide ((1 : Int) < (n : Int)) = true := by rw [decide_eq_true_iff]; omega
  have q5 : decide (1 < n) = true := by rw [decide_eq_true_iff]; omega
  have q6 : (1 : Int) < (n : Int) := by omega
  go_enter Tryz.func164, Tryz.ntmps164
  go_wp2_with fail
  refine wp_loop_rounds 3 ?_
  rw [rounds_succ]
  go_wp2_with (go_at_fn g; refine hcall.mono ?_; rintro e w1 ⟨rfl, hb1⟩; have Hb1 := Lib.hid hb1; clear hb1)
  have hcall2 := HP1.out _ Hb1.out
  have e1 : w1.cell? ⟨b, 1, none⟩ = some (.int .i64 v1) := (Hb1.out.cell (p := ⟨b, 1, none⟩) hb).trans h1
  have hb2 : b < w1.heap.size := Nat.lt_of_lt_of_le hb Hb1.out.size
  rw [rounds_succ]
  go_wp2_with (go_at_fn g; refine hcall2.mono ?_; rintro e w2 ⟨rfl, hb2'⟩; have Hb2 := Lib.hid hb2'; clear hb2')
  go_ret
  exact ⟨rfl, Hb1.out.trans (Hb2.out.mono Hb1.out.size)⟩
set_option maxHeartbeats 4000000 in
set_option maxRecDepth 100000 in
theorem next_any (p : Option Addr) (c bl cl : Nat) (q : Pl) (zs : List (Fin 3)) (k : Nat) (hz : zs.length ≤ 3) (w : World) (hS : Std3 w (.slice p 3 c) q) (hL : Left w bl zs)
    (hk : (k = 0 ∧ ∃ i, zs[0]? = some i ∧ waitsL zs (B (needL i)) = false) ∨ (k = 1 ∧ ∃ i i', zs[0]? = some i ∧ zs[1]? = some i' ∧ waitsL zs (B (needL i)) = true ∧ waitsL zs (B (needL i')) = false)) :
    Calls Tryz.prog 115 #[.slice p 3 c, .slice (some ⟨bl, 0, none⟩) zs.length cl] w fun e w' => e = .returned (.int .i64 (k : Nat)) ∧ Below w.heap.size w w' := by
  have HN2 := Lib.hid fun (x0 x1 x2 : Nat) (i : Fin 3) (W : World) (hW : Below w.heap.size w W) h0 hx0 h1 hx1 h2 hx2 => next2_any x0 x1 x2 bl cl p c q zs hz i W (hS.later hW) h0 hx0 h1 hx1 (hL.later hW) h2 hx2
  have eg2 : ∀ args w, (callFunc 165 args).run Tryz.prog w = .ok (.enter 165 args) w := enters Tryz.func165 (by kernel_rfl) (by kernel_rfl)
  have HI : Hid (∀ (x0 x1 x2 : Nat) (W : World), Below w.heap.size w W → W.cell? ⟨x0, 0, none⟩ = some (.slice p 3 c) → x0 < W.heap.size → W.cell? ⟨x1, 0, none⟩ = some (.slice (some ⟨bl, 0, none⟩) zs.length cl) → x1 < W.heap.size → W.cell? ⟨x2, 0, none⟩ = some (.func (.func 161) #[] #[.pointer (some ⟨x1, 0, none⟩), .pointer (some ⟨x0, 0, none⟩)]) → x2 < W.heap.size →
      Calls Tryz.prog 164 #[.slice (some ⟨bl, 0, none⟩) zs.length cl, .func (.func 165) #[] #[.pointer (some ⟨x0, 0, none⟩), .pointer (some ⟨x2, 0, none⟩)]] W fun e w' => e = .returned (.int .i64 (k : Nat)) ∧ Below W.heap.size W w') := Lib.hid fun x0 x1 x2 W hW h0 hx0 h1 hx1 h2 hx2 => by
    have hLW := hL.later hW
    rcases hk with ⟨rfl, i, hi, hw⟩ | ⟨rfl, i, i', hi, hi', hw, hw'⟩
    · have hlen := lt_get hi
      refine idxI_first _ _ eg2 _ bl zs.length cl W (by omega) hz (hLW.2 0 i hi) hLW.1 ((HN2.out x0 x1 x2 i W hW h0 hx0 h1 hx1 h2 hx2).mono ?_)
      rintro e w' ⟨rfl, hb⟩
      exact ⟨by rw [hw]; rfl, hb⟩
    · have hlen := lt_get hi'
      refine idxI_second _ _ eg2 _ _ bl zs.length cl W (by omega) hz (hLW.2 0 i hi) (hLW.2 1 i' hi') hLW.1 ((HN2.out x0 x1 x2 i W hW h0 hx0 h1 hx1 h2 hx2).mono ?_) (fun W' hW' => (HN2.out x0 x1 x2 i' W' (hW.trans (hW'.mono hW.size)) ((hW'.cell (p := ⟨x0, 0, none⟩) hx0).trans h0) (Nat.lt_of_lt_of_le hx0 hW'.size) ((hW'.cell (p := ⟨x1, 0, none⟩) hx1).trans h1) (Nat.lt_of_lt_of_le hx1 hW'.size) ((hW'.cell (p := ⟨x2, 0, none⟩) hx2).trans h2) (Nat.lt_of_lt_of_le hx2 hW'.size)).mono ?_)
      · rintro e w' ⟨rfl, hb⟩
        exact ⟨by rw [hw]; rfl, hb⟩
      · rintro e w' ⟨rfl, hb⟩
        exact ⟨by rw [hw']; rfl, hb⟩
  clear hS hL hk HN2 eg2
  generalize zs.length = n at *
  go_enter Tryz.func115, Tryz.ntmps115
  go_upto_region 2 with fail
  refine go_nm (fun wA hA => ?_)
  have hbA : Below w.heap.size w wA := by rw [hA]; exact (((Below.refl _ _).alloc (Nat.le_refl _) _).alloc (by simp) _).alloc (by simp; omega) _
  have k0 : wA.heap[w.heap.size]? = some (.cells #[.slice p 3 c] 55 (0, 0)) := by rw [hA]; exact heap_al (heap_al (heap_alloc_new w _) _) _
  have k1 : wA.heap[w.heap.size + 1]? = some (.cells #[.slice (some ⟨bl, 0, none⟩) n cl] 114 (0, 0)) := by rw [hA]; exact heap_al (new_at (by simp) _) _
  have k2 : wA.heap[w.heap.size + 1 + 1]? = some (.cells #[.func (.func 161) #[] #[.pointer (some ⟨w.heap.size + 1, 0, none⟩), .pointer (some ⟨w.heap.size, 0, none⟩)]] 146 (0, 0)) := by rw [hA]; exact new_at (by simp) _
  have a1 : wA.cell? ⟨w.heap.size + 1, 0, none⟩ = some (.slice (some ⟨bl, 0, none⟩) n cl) := cell_in k1
  have HIx := Lib.hid (HI.out w.heap.size (w.heap.size + 1) (w.heap.size + 1 + 1) wA hbA (cell_in k0) (lt_of_block k0) (cell_in k1) (lt_of_block k1) (cell_in k2) (lt_of_block k2))
  have hl1 := lt_of_block k1
  have HbA := Lib.hid hbA
  clear hA hbA k0 k1 k2 HI
  go_wp2_with fail
  refine HIx.out.mono ?_
  rintro e w2 ⟨rfl, hb2⟩
  have Hb2 := Lib.hid (HbA.out.trans (hb2.mono HbA.out.size))
  clear hb2
  go_wp2_with fail
  go_ret
  exact ⟨rfl, Hb2.out⟩
end Go.Proofs.YtbelnaiekbfoiaaGreatDoor.dr
/- Package derive: the numbers of the standard rules, sorted by their targets. Conditions: the rules lie in memory. -/
namespace Go.Proofs.YtbelnaiekbfoiaaGreatDoor.dr
open Go.ChangeShapes Go.WideShapes Go.ChangeAt Go.RowKit Go.Sort Go.Lib gl va ls ky ly

def cfI (x y : Fin 3) : Int := Lib.compareBytes (B (tgtL x)).data.toList (B (tgtL y)).data.toList
set_option maxHeartbeats 4000000 in
set_option maxRecDepth 100000 in
theorem cmp2_any (x0 b o c : Nat) (i k : Fin 3) (ti tk : ByteArray) (w : World) (hi : w.cell? ⟨b, o + i.val * 4, none⟩ = some (.string ti)) (hk : w.cell? ⟨b, o + k.val * 4, none⟩ = some (.string tk)) (_hb : b < w.heap.size) (h0 : w.cell? ⟨x0, 0, none⟩ = some (.slice (some ⟨b, o, none⟩) 3 c)) (_hx0 : x0 < w.heap.size) :
    Calls Tryz.prog 114 #[.int .i64 (i.val : Nat), .int .i64 (k.val : Nat), .pointer (some ⟨x0, 0, none⟩)] w fun e w' => e = .returned (.int .i64 (Lib.compareBytes ti.data.toList tk.data.toList)) ∧ ∃ q, w' = w.drewN q := by
  have hi3 := i.isLt
  have hk3 := k.isLt
  have HC := Lib.hid fun W => Tryz.strings_Compare ti tk W
  generalize Lib.compareBytes ti.data.toList tk.data.toList = r at *
  generalize i.val = j at *
  generalize k.val = l at *
  have hj : (j : Int) < 3 := by omega
  have hj0 : (0 : Int) ≤ (j : Int) := by omega
  have hl : (l : Int) < 3 := by omega
  have hl0 : (0 : Int) ≤ (l : Int) := by omega
  clear i k
  go_enter Tryz.func114, Tryz.ntmps114
  go_wp2_with fail
  go_quiet ((go_at_call 65; with_reducible exact Calls.quiet_of_same (HC.out _)))
  rename_i nq
  go_wp2_with fail
  go_ret
  exact ⟨rfl, nq, rfl⟩
theorem sort1_upd {enc : Fin 3 → Value} {w : World} {blk off m : Nat} {dk : Array (Fin 3)} {os : Array Obj} : Upd [blk] w (sortWorld enc w blk off m dk os) := by
  refine ⟨rfl, rfl, rfl, ?_, fun i hi hn => ?_⟩
  · show w.heap.size ≤ (w.heap.modify blk _ ++ os).size
    simp
  · show (w.heap.modify blk _ ++ os)[i]? = _
    rw [Array.getElem?_append_left (by simp; omega), Array.getElem?_modify, if_neg (by rintro rfl; exact hn (List.mem_singleton.2 rfl))]
theorem ordSort_any (x0 bl cap c : Nat) (p : Option Addr) (q : Pl) (w : World) (hA : ∀ W, Upd [bl] w W → Std3 W (.slice p 3 c) q ∧ W.cell? ⟨x0, 0, none⟩ = some (.slice p 3 c) ∧ x0 < W.heap.size) (hH : Holds (fun i : Fin 3 => Value.int .i64 (i.val : Nat)) w bl 0 #[0, 1, 2]) :
    Calls Tryz.prog 113 #[.slice (some ⟨bl, 0, none⟩) 3 cap, .func (.func 114) #[] #[.pointer (some ⟨x0, 0, none⟩)]] w fun e w' => e = .returned (.tuple #[]) ∧ ∃ n, w' = w.drewN n := by
  refine (Any.slices_SortFunc_small Tryz.sortInt (fun i : Fin 3 => Value.int .i64 (i.val : Nat)) (fun _ => rfl) cfI 114 #[.pointer (some ⟨x0, 0, none⟩)] bl 0 cap #[0, 1, 2] w
    (enters_of Tryz.func114 (by kernel_rfl) rfl) (fun m os dk _ x y => ?_) hH (by decide) len_any).mono ?_
  · obtain ⟨h1, h2, h3⟩ := hA _ (sort1_upd (enc := fun i : Fin 3 => Value.int .i64 (i.val : Nat)) (w := w) (blk := bl) (off := 0) (m := m) (dk := dk) (os := os))
    obtain ⟨b, o, rfl, hb⟩ := h1.row.ptr.2.2 (by omega)
    exact cmp2_any x0 b o c x y (B (tgtL x)) (B (tgtL y)) _ (tgt_cell h1 x) (tgt_cell h1 y) hb h2 h3
  · rintro e w' ⟨rfl, n, hw⟩
    have hs : Sort.insertionSort (ltOf cfI) #[0, 1, 2] 0 (#[0, 1, 2] : Array (Fin 3)).size = #[0, 1, 2] := by kernel_rfl
    rw [hs, putRow_self _ _ _ _ _ hH] at hw
    exact ⟨rfl, n, hw⟩
end Go.Proofs.YtbelnaiekbfoiaaGreatDoor.dr
/- Package derive: Order of the standard rules. Conditions: the rules lie in memory; the listed variables hold what the program's text lays. -/
namespace Go.Proofs.YtbelnaiekbfoiaaGreatDoor.dr
open Go.ChangeShapes Go.WideShapes Go.ChangeAt Go.RowKit Go.Sort Go.Lib gl va ls ky ly

/-- The numbers that are left, in a block of their own. -/
def LeftB (w : World) (bl cl : Nat) (zs : List (Fin 3)) : Prop := ∃ cs, w.heap[bl]? = some (.cells cs 3 (0, 0)) ∧ 3 ≤ cs.size ∧ zs.length ≤ 3 ∧ 3 ≤ cl ∧ ∀ (j : Nat) (i : Fin 3), zs[j]? = some i → cs[j]? = some (.int .i64 (i.val : Nat))
theorem LeftB.lt {w : World} {bl cl : Nat} {zs : List (Fin 3)} (h : LeftB w bl cl zs) : bl < w.heap.size := by obtain ⟨cs, h1, _⟩ := h; exact lt_of_block h1
theorem LeftB.left {w : World} {bl cl : Nat} {zs : List (Fin 3)} (h : LeftB w bl cl zs) : Left w bl zs := by
  obtain ⟨cs, h1, _, _, _, h4⟩ := h
  exact ⟨lt_of_block h1, fun j i hi => by rw [cell_in h1]; exact h4 j i hi⟩
theorem LeftB.obj {w w' : World} {bl cl : Nat} {zs : List (Fin 3)} (h : LeftB w bl cl zs) (hb : w'.heap[bl]? = w.heap[bl]?) : LeftB w' bl cl zs := by
  obtain ⟨cs, h1, h2⟩ := h
  exact ⟨cs, hb.trans h1, h2⟩
theorem LeftB.later {w w' : World} {bl cl : Nat} {zs : List (Fin 3)} (h : LeftB w bl cl zs) (hb : Below w.heap.size w w') : LeftB w' bl cl zs := h.obj (hb.block _ h.lt)
theorem own_mono9 {M M' k n : Nat} {T : TypeId} {w : World} {v : Value} {xs : List Value} (h : w.ownsRow M T k v n xs) (hM : M' ≤ M) : w.ownsRow M' T k v n xs := by
  refine ⟨h.1, h.2.imp id fun ⟨g, cap, cur, e, hb, r⟩ => ⟨g, cap, cur, e, Nat.le_trans hM hb, r⟩⟩
def rangeI (j : Nat) : List Int := (List.range j).map fun (k : Nat) => (k : Int)
theorem rangeI_succ (j : Nat) : rangeI (j + 1) = rangeI j ++ [(j : Int)] := by unfold rangeI; rw [List.range_succ]; simp
set_option maxHeartbeats 4000000 in
set_option maxRecDepth 100000 in
theorem order_any (p : Option Addr) (c : Nat) (q : Pl) (w : World) (hS : Std3 w (.slice p 3 c) q) (hG : Glo w) :
    Calls Tryz.prog 59 #[.slice p 3 c] w fun e w' => (∃ po co, e = .returned (.tuple #[.slice po 3 co, .int .i64 0]) ∧ rw.Rw ixC 1 w' (.slice po 3 co) [1, 0, 2]) ∧ Below w.heap.size w w' := by
  obtain ⟨i1, si, sz0, sz1, sz2⟩ := info_parts infoIx
  have HS := Lib.hid fun (W : World) (hW : Below w.heap.size w W) => hS.later hW
  have HG := Lib.hid fun (W : World) (hW : Below w.heap.size w W) => hG.below hW (Nat.le_refl _)
  clear hS hG
  go_enter Tryz.func59, Tryz.ntmps59
  go_upto_region 1 with fail
  refine go_nm (fun wA hA => ?_)
  have hbA : Below w.heap.size w wA := by rw [hA]; exact (Below.refl _ _).alloc (Nat.le_refl _) _
  have kX : wA.heap[w.heap.size]? = some (.cells #[.slice p 3 c] 55 (0, 0)) := by rw [hA]; exact heap_alloc_new w _
  have a0 : wA.cell? ⟨w.heap.size, 0, none⟩ = some (.slice p 3 c) := cell_in kX
  have hl0 := lt_of_block kX
  have HX := Lib.hid fun (W : World) (hW : Below wA.heap.size wA W) => (hW.block _ hl0).trans kX
  have HbA := Lib.hid hbA
  clear hA hbA kX
  go_wp2_with fail
  refine (hasRu_any (HS.out _ HbA.out) (HG.out _ HbA.out)).mono ?_
  rintro e w2 ⟨rfl, hb2⟩
  have Hb2 := Lib.hid (HbA.out.trans (hb2.mono HbA.out.size))
  have HX2 := Lib.hid hb2
  have b0 : w2.cell? ⟨w.heap.size, 0, none⟩ = some (.slice p 3 c) := cell_in (HX.out _ hb2)
  have hl2 : w.heap.size < w2.heap.size := by have := hb2.size; omega
  clear hb2 a0
  go_wp2_with fail
  go_loopw [4, 16] (fun vo vi wr => ∃ (j co : Nat) (po : Option Addr), j ≤ 3 ∧ vi = .int .i64 j ∧ vo = .slice po j co ∧ Hid (wr.ownsRow w2.heap.size 3 1 (.slice po j co) j (rw.flat ixC (rangeI j))) ∧ Hid (Below w2.heap.size w2 wr)) (fun _ vi _ => 3 - (intOf vi).toNat)
  case atStart => exact ⟨0, 0, none, by omega, rfl, rfl, Lib.hid (World.ownsRow_nil _ _ _ _), Lib.hid (Below.refl _ _)⟩
  case round =>
    obtain ⟨wo, rfl⟩ : ∃ wo, wo = wr := ⟨_, rfl⟩
    obtain ⟨j, co, po, hj, rfl, rfl, HO, Hb⟩ := hrel
    have hzo : w2.heap.size ≤ wo.heap.size := Hb.out.size
    by_cases hlt : j < 3
    · have q1 : decide ((j : Int) < 3) = true := by rw [decide_eq_true_iff]; omega
      have q2 : decide (j < 3) = true := by rw [decide_eq_true_iff]; omega
      have q3 : (j : Int) < 3 := by omega
      have hbL : Below wo.heap.size wo (wo.alloc (.cells #[.int .i64 (j : Int)] 3)) := (Below.refl _ _).alloc (Nat.le_refl _) _
      have HO3 := Lib.hid (ls.own_kept HO.out hbL)
      have Hb3 := Lib.hid (Hb.out.trans (hbL.mono hzo))
      have Hsrc : Hid (SrcV (wo.alloc (.cells #[.int .i64 (j : Int)] 3)) (.slice (some ⟨wo.heap.size, 0, none⟩) 1 1) 1 (ixC (j : Int))) := Lib.hid (.inr ⟨by decide, _, _, rfl, fun i u hi => by
        rw [addN, cell_in (heap_alloc_new wo (.cells #[.int .i64 (j : Int)] 3)), Nat.zero_add, List.getElem?_toArray]
        exact hi⟩)
      have hz3 : w2.heap.size ≤ (wo.alloc (.cells #[.int .i64 (j : Int)] 3)).heap.size := Hb3.out.size
      clear hbL HO
      focus
        go_wp2_with (at_builtin; go_must (refine wpList_append_any rfl _ _ 114 rfl 3 i1 _ 1 8 Tryz.underlying114 si sz0 sz1 sz2 rfl (by decide) w2.heap.size _ j _ (by rfl) HO3.out _ 1 _ (by rfl) Hsrc.out (by rfl) (ixC_one _) (by omega) (by omega) hz3 ?_))
      intro p5 c5 w5 hown5 hgrow5
      have Hb5 := Lib.hid (below_grown_own Hb3.out HO3.out hgrow5 hz3)
      have HO5 : Hid (w5.ownsRow w2.heap.size 3 1 (.slice p5 (j + 1) c5) (j + 1) (rw.flat ixC (rangeI (j + 1)))) := Lib.hid (by rw [rangeI_succ, rw.flat_snoc]; exact hown5)
      clear hown5 hgrow5
      go_wp2_with fail
      go_roundw
      case rel => exact ⟨j + 1, c5, p5, by omega, by go_num, rfl, HO5, Hb5⟩
      case measure => simp [intOf]; omega
    · obtain rfl : j = 3 := by omega
      obtain ⟨bl, rfl, hbl, ⟨hcl, hcm⟩, LB⟩ : ∃ bl, po = some ⟨bl, 0, none⟩ ∧ w2.heap.size ≤ bl ∧ (3 ≤ co ∧ co ≤ maxLen) ∧ LeftB wo bl co [0, 1, 2] := by
        rcases HO.out.2 with ⟨_, h0⟩ | ⟨g, cap, cur, e, hg, hgb, hnc, hcm, hcs, htk⟩
        · omega
        · cases e
          refine ⟨g, rfl, hg, ⟨hnc, hcm⟩, cur, hgb, by omega, by decide, hnc, fun j i hi => ?_⟩
          have hj3 : j < 3 := lt_get hi
          have h1 := congrArg (·[j]?) htk
          simp only [List.getElem?_take, if_pos (show j < 3 * 1 by omega), Array.getElem?_toList] at h1
          rw [h1]
          rcases (show j = 0 ∨ j = 1 ∨ j = 2 by omega) with rfl | rfl | rfl <;> (obtain rfl := Option.some.inj hi; rfl)
      have HCo0 : Hid (co ≤ 9223372036854775807) := Lib.hid hcm
      clear hcm
      have HLB := Lib.hid LB
      have hHo : Holds (fun i : Fin 3 => Value.int .i64 (i.val : Nat)) wo bl 0 #[0, 1, 2] := by
        obtain ⟨cs, k1, _, _, _, k2⟩ := LB
        intro j hj
        have hj3 : j < 3 := hj
        rw [Nat.zero_add, cell_in k1]
        refine ⟨?_, free_in k1⟩
        rcases (show j = 0 ∨ j = 1 ∨ j = 2 by omega) with rfl | rfl | rfl
        · exact k2 0 0 rfl
        · exact k2 1 1 rfl
        · exact k2 2 2 rfl
      have Hbw := Lib.hid (Hb2.out.trans (Hb.out.mono Hb2.out.size))
      have HSo := Lib.hid (ordSort_any w.heap.size bl co c p q wo (fun W hW => by
        have hb1 : Below w2.heap.size wo W := hW.below (fun k hk => by rw [List.mem_singleton] at hk; omega) hzo
        have hb3 := Hb.out.trans hb1
        exact ⟨HS.out _ (Hb2.out.trans (hb3.mono Hb2.out.size)), (hb3.cell (p := ⟨w.heap.size, 0, none⟩) hl2).trans b0, by have := hb3.size; omega⟩) hHo)
      clear LB hHo HO
      go_wp2_with fail
      refine HSo.out.mono ?_
      rintro e w6 ⟨rfl, n6, hw6⟩
      have hbw6 : Below wo.heap.size wo w6 := by rw [hw6]; exact drN_bel _ _
      have HL6 := Lib.hid (HLB.out.later hbw6)
      have HB6 := Lib.hid (Hb.out.trans (hbw6.mono hzo))
      clear hw6 hbw6 HSo HLB
      have hq0 : ((B tWk).toList == (B tLm).toList) = false := by decide +kernel
      have hq1 : ((B tPg).toList == (B tWk).toList) = false := by decide +kernel
      have hbw6' : Below w.heap.size w w6 := Hb2.out.trans (HB6.out.mono Hb2.out.size)
      have hS6 := HS.out _ hbw6'
      obtain ⟨b, o, rfl, hb⟩ := hS6.row.ptr.2.2 (by omega)
      have t0 : w6.cell? ⟨b, o, none⟩ = some (.string (B tLm)) := by have := tgt_cell hS6 0; rwa [show o + (0 : Fin 3).val * 4 = o from rfl] at this
      have t1 : w6.cell? ⟨b, o + 4, none⟩ = some (.string (B tWk)) := tgt_cell hS6 1
      have t2 : w6.cell? ⟨b, o + 8, none⟩ = some (.string (B tPg)) := tgt_cell hS6 2
      have l0 : w6.cell? ⟨bl, 0, none⟩ = some (.int .i64 0) := HL6.out.left.2 0 0 rfl
      have l1 : w6.cell? ⟨bl, 1, none⟩ = some (.int .i64 1) := HL6.out.left.2 1 1 rfl
      have l2 : w6.cell? ⟨bl, 2, none⟩ = some (.int .i64 2) := HL6.out.left.2 2 2 rfl
      have x0 : w6.cell? ⟨w.heap.size, 0, none⟩ = some (.slice (some ⟨b, o, none⟩) 3 c) := (HB6.out.cell (p := ⟨w.heap.size, 0, none⟩) hl2).trans b0
      have hx6 : w.heap.size < w6.heap.size := by have := HB6.out.size; omega
      have hbl6 : bl < w6.heap.size := HL6.out.lt
      have Hbw6 := Lib.hid hbw6'
      clear hbw6' hS6 b0
      generalize B tLm = TL at *
      generalize B tWk = TW at *
      generalize B tPg = TP at *
      go_wp2_with fail
      refine wp_loop_rounds 3 ?_
      rw [rounds_succ]
      go_wp2_with fail
      go_quiet (fail)
      go_wp2_with fail
      rw [rounds_succ]
      go_wp2_with fail
      go_quiet (fail)
      go_wp2_with fail
      rw [rounds_succ]
      go_upto_region 17 with fail
      refine go_nm (fun w7 hw7 => ?_)
      have hb7 : Below w6.heap.size w6 w7 := by rw [hw7]; exact drN_bel _ _
      have HL7 := Lib.hid (HL6.out.later hb7)
      have HB7 := Lib.hid (HB6.out.trans (hb7.mono HB6.out.size))
      have y0 : w7.cell? ⟨w.heap.size, 0, none⟩ = some (.slice (some ⟨b, o, none⟩) 3 c) := (hb7.cell (p := ⟨w.heap.size, 0, none⟩) hx6).trans x0
      have hx7 : w.heap.size < w7.heap.size := by have := hb7.size; omega
      have hbl7 : bl < w7.heap.size := HL7.out.lt
      have HXb := Lib.hid x0
      clear hw7 hb7 t0 t1 t2 l0 l1 l2 x0 hq0 hq1 hx6 hbl6 HL6
      obtain ⟨wM, hmk, hownM, hgrM⟩ := run_make_own (P := Tryz.prog) (w := w7) w7.heap.size 114 3 i1 _ 1 Tryz.underlying114 si sz0 sz1 .i64 .i64 3 (by rw [sz2]; omega) (by unfold maxLen; omega) (Nat.le_refl _)
      have hmk3 : (Instr.makeSlice 114 (.int .i64 0) (.int .i64 3)).run Tryz.prog w7 = .ok (.slice (some ⟨w7.heap.size, 0, none⟩) 0 3) wM := hmk
      have hbM := below_none hgrM
      have HLw0 := Lib.hid (HL7.out.later hbM)
      have HOw0 : Hid (wM.ownsRow w7.heap.size 3 1 (.slice (some ⟨w7.heap.size, 0, none⟩) 0 3) 0 (rw.flat ixC [])) := Lib.hid hownM
      have HBw0 := Lib.hid (HB7.out.trans (hbM.mono HB7.out.size))
      have HY := Lib.hid fun (W : World) (hW : Below w2.heap.size w2 W) => (hW.cell (p := ⟨w.heap.size, 0, none⟩) hl2).trans (show w2.cell? ⟨w.heap.size, 0, none⟩ = some (.slice (some ⟨b, o, none⟩) 3 c) from by rw [← HXb.out]; exact ((HB6.out.cell (p := ⟨w.heap.size, 0, none⟩) hl2)).symm)
      have hzw0 : w7.heap.size ≤ wM.heap.size := hbM.size
      have HCo : Hid (co ≤ 9223372036854775807) := HCo0
      have HC3 := Lib.hid hcl
      clear hownM hgrM hbM HL7 hmk
      go_wp2_with fail
      refine wp_loop_rounds 4 ?_
      -- round 0
      rw [rounds_succ]
      have y01 : wM.cell? ⟨w.heap.size, 0, none⟩ = some (.slice (some ⟨b, o, none⟩) 3 c) := HY.out _ HBw0.out
      have hx01 : w.heap.size < wM.heap.size := by have := HBw0.out.size; omega
      have HNx0 := Lib.hid (next_any (some ⟨b, o, none⟩) c bl co q [0, 1, 2] 1 (by decide) wM (HS.out _ (Hb2.out.trans (HBw0.out.mono Hb2.out.size))) HLw0.out.left (.inr ⟨rfl, 0, 1, rfl, rfl, by decide +kernel, by decide +kernel⟩))
      go_wp2_with fail
      refine HNx0.out.mono ?_
      rintro e wn0 ⟨rfl, hbn0⟩
      have HLn0 := Lib.hid (HLw0.out.later hbn0)
      have HOn0 := Lib.hid (ls.own_kept HOw0.out hbn0)
      have hzn0 : w2.heap.size ≤ wM.heap.size := HBw0.out.size
      have HBn0 := Lib.hid (HBw0.out.trans (hbn0.mono hzn0))
      have hz7n0 : w7.heap.size ≤ wn0.heap.size := by have := hbn0.size; omega
      have e01 : wn0.cell? ⟨bl, 1, none⟩ = some (.int .i64 1) := HLn0.out.left.2 1 1 rfl
      have hbl01 : bl < wn0.heap.size := HLn0.out.lt
      have hbL0 : Below wn0.heap.size wn0 (wn0.alloc (.cells #[.int .i64 1] 3)) := (Below.refl _ _).alloc (Nat.le_refl _) _
      have HOl0 := Lib.hid (ls.own_kept HOn0.out hbL0)
      have HLl0 := Lib.hid (HLn0.out.later hbL0)
      have HBl0 := Lib.hid (HBn0.out.trans (hbL0.mono HBn0.out.size))
      have Hsrc0 : Hid (SrcV (wn0.alloc (.cells #[.int .i64 1] 3)) (.slice (some ⟨wn0.heap.size, 0, none⟩) 1 1) 1 (ixC 1)) := Lib.hid (.inr ⟨by decide, _, _, rfl, fun i u hi => by
        rw [addN, cell_in (heap_alloc_new wn0 (.cells #[.int .i64 1] 3)), Nat.zero_add, List.getElem?_toArray]
        exact hi⟩)
      have hzl0 : w7.heap.size ≤ (wn0.alloc (.cells #[.int .i64 1] 3)).heap.size := by have := hbL0.size; omega
      clear hbn0 hbL0 y01
      focus
        go_wp2_with (at_builtin; go_must (refine wpList_append_any rfl _ _ 114 rfl 3 i1 _ 1 8 Tryz.underlying114 si sz0 sz1 sz2 rfl (by decide) w7.heap.size _ 0 _ (by rfl) HOl0.out _ 1 _ (by rfl) Hsrc0.out (by rfl) (ixC_one _) (by omega) (by omega) hzl0 ?_))
      intro pp0 cc0 wa0 hown0 hgrow0
      have hne0 : some bl ≠ (Value.slice (some ⟨w7.heap.size, 0, none⟩) 0 3).ownBlock := fun e => by
        have := (World.ownsRow.lt HOl0.out bl e.symm).1
        omega
      have hz7a0 : w7.heap.size ≤ wa0.heap.size := Nat.le_trans hzl0 hgrow0.size
      have HLa0 := Lib.hid (HLl0.out.obj (hgrow0.block bl HLl0.out.lt hne0))
      have HBa0 := Lib.hid (below_grown_own HBl0.out (own_mono9 HOl0.out (show w2.heap.size ≤ w7.heap.size from HB7.out.size)) hgrow0 (by have := HBl0.out.size; omega))
      have hba0 : bl < wa0.heap.size := HLa0.out.lt
      have HDl0 := Lib.hid (Tryz.slices_Delete_int_cells bl 0 3 co 1 2 [0, 1, 2] wa0 (by decide) (by omega) HCo.out (by decide) (by decide) (fun j hj => by
        rw [Nat.zero_add]
        have hj3 : j < 3 := hj
        rcases (show j = 0 ∨ j = 1 ∨ j = 2 by omega) with rfl | rfl | rfl <;> first | exact HLa0.out.left.2 0 0 rfl | exact HLa0.out.left.2 1 1 rfl | exact HLa0.out.left.2 2 2 rfl) (fun j hj => by obtain ⟨cs, k1, _⟩ := HLa0.out; exact free_in k1))
      have HOa0 : Hid (wa0.ownsRow w7.heap.size 3 1 (.slice pp0 1 cc0) 1 (rw.flat ixC [1])) := Lib.hid hown0
      clear hown0 hgrow0 hne0 e01 Hsrc0
      go_wp2_with fail
      refine HDl0.out.mono ?_
      rintro e wd0 ⟨rfl, qd0, hwd0⟩
      have hU0 : Upd [bl] wa0 wd0 := by rw [hwd0]; exact upd_setCells (.inl (by simp)) _ _ _ ((Upd.refl _ _).drewN _)
      have HLw1 : Hid (LeftB wd0 bl co [0, 2]) := Lib.hid (by
        obtain ⟨cs, k1, k2, _⟩ := HLa0.out
        have k3 := heap_setCells ((([0, 2, 0] : List Int).map (Value.int .i64))) (wa0.drewN qd0) cs 0 (show (wa0.drewN qd0).heap[bl]? = _ from k1)
        rw [show ((wa0.drewN qd0).setCells bl 0 (([0, 2, 0] : List Int).map (Value.int .i64))) = wd0 from hwd0.symm] at k3
        refine ⟨_, k3, by rw [setR_size]; exact k2, by decide, HC3.out, fun j i hi => ?_⟩
        have hj3 : j < 2 := lt_get hi
        have := setR_in (([0, 2, 0] : List Int).map (Value.int .i64)) cs 0 (by simp; omega) j (.int .i64 (i.val : Nat)) (by rcases (show j = 0 ∨ j = 1 by omega) with rfl | rfl <;> (obtain rfl := Option.some.inj hi; rfl))
        rwa [Nat.zero_add] at this)
      have HOw1 := Lib.hid (hU0.row HOa0.out (fun g hg hm => by rw [List.mem_singleton] at hm; have := (World.ownsRow.lt HOa0.out g hg).1; omega))
      have HBw1 := Lib.hid (HBa0.out.trans (hU0.below (B := w2.heap.size) (fun k hk => by rw [List.mem_singleton] at hk; omega) HBa0.out.size))
      have hz7w1 : w7.heap.size ≤ wd0.heap.size := by have := hU0.size; have := HLa0.out; have := hzl0; have := HBa0.out.size; exact Nat.le_trans hz7a0 hU0.size
      clear hwd0 hU0 HDl0
      rw [show 3 - (2 - 1) = 2 from rfl]
      go_wp2_with fail
      -- round 1
      rw [rounds_succ]
      have y11 : wd0.cell? ⟨w.heap.size, 0, none⟩ = some (.slice (some ⟨b, o, none⟩) 3 c) := HY.out _ HBw1.out
      have hx11 : w.heap.size < wd0.heap.size := by have := HBw1.out.size; omega
      have HNx1 := Lib.hid (next_any (some ⟨b, o, none⟩) c bl co q [0, 2] 0 (by decide) wd0 (HS.out _ (Hb2.out.trans (HBw1.out.mono Hb2.out.size))) HLw1.out.left (.inl ⟨rfl, 0, rfl, by decide +kernel⟩))
      go_wp2_with fail
      refine HNx1.out.mono ?_
      rintro e wn1 ⟨rfl, hbn1⟩
      have HLn1 := Lib.hid (HLw1.out.later hbn1)
      have HOn1 := Lib.hid (ls.own_kept HOw1.out hbn1)
      have hzn1 : w2.heap.size ≤ wd0.heap.size := HBw1.out.size
      have HBn1 := Lib.hid (HBw1.out.trans (hbn1.mono hzn1))
      have hz7n1 : w7.heap.size ≤ wn1.heap.size := by have := hbn1.size; omega
      have e11 : wn1.cell? ⟨bl, 0, none⟩ = some (.int .i64 0) := HLn1.out.left.2 0 0 rfl
      have hbl11 : bl < wn1.heap.size := HLn1.out.lt
      have hbL1 : Below wn1.heap.size wn1 (wn1.alloc (.cells #[.int .i64 0] 3)) := (Below.refl _ _).alloc (Nat.le_refl _) _
      have HOl1 := Lib.hid (ls.own_kept HOn1.out hbL1)
      have HLl1 := Lib.hid (HLn1.out.later hbL1)
      have HBl1 := Lib.hid (HBn1.out.trans (hbL1.mono HBn1.out.size))
      have Hsrc1 : Hid (SrcV (wn1.alloc (.cells #[.int .i64 0] 3)) (.slice (some ⟨wn1.heap.size, 0, none⟩) 1 1) 1 (ixC 0)) := Lib.hid (.inr ⟨by decide, _, _, rfl, fun i u hi => by
        rw [addN, cell_in (heap_alloc_new wn1 (.cells #[.int .i64 0] 3)), Nat.zero_add, List.getElem?_toArray]
        exact hi⟩)
      have hzl1 : w7.heap.size ≤ (wn1.alloc (.cells #[.int .i64 0] 3)).heap.size := by have := hbL1.size; omega
      clear hbn1 hbL1 y11
      focus
        go_wp2_with (at_builtin; go_must (refine wpList_append_any rfl _ _ 114 rfl 3 i1 _ 1 8 Tryz.underlying114 si sz0 sz1 sz2 rfl (by decide) w7.heap.size _ 1 _ (by rfl) HOl1.out _ 1 _ (by rfl) Hsrc1.out (by rfl) (ixC_one _) (by omega) (by omega) hzl1 ?_))
      intro pp1 cc1 wa1 hown1 hgrow1
      have hne1 : some bl ≠ (Value.slice (pp0) 1 cc0).ownBlock := fun e => by
        have := (World.ownsRow.lt HOl1.out bl e.symm).1
        omega
      have hz7a1 : w7.heap.size ≤ wa1.heap.size := Nat.le_trans hzl1 hgrow1.size
      have HLa1 := Lib.hid (HLl1.out.obj (hgrow1.block bl HLl1.out.lt hne1))
      have HBa1 := Lib.hid (below_grown_own HBl1.out (own_mono9 HOl1.out (show w2.heap.size ≤ w7.heap.size from HB7.out.size)) hgrow1 (by have := HBl1.out.size; omega))
      have hba1 : bl < wa1.heap.size := HLa1.out.lt
      have HDl1 := Lib.hid (Tryz.slices_Delete_int_cells bl 0 2 co 0 1 [0, 2] wa1 (by decide) (by omega) HCo.out (by decide) (by decide) (fun j hj => by
        rw [Nat.zero_add]
        have hj3 : j < 2 := hj
        rcases (show j = 0 ∨ j = 1 by omega) with rfl | rfl <;> first | exact HLa1.out.left.2 0 0 rfl | exact HLa1.out.left.2 1 2 rfl) (fun j hj => by obtain ⟨cs, k1, _⟩ := HLa1.out; exact free_in k1))
      have HOa1 : Hid (wa1.ownsRow w7.heap.size 3 1 (.slice pp1 2 cc1) 2 (rw.flat ixC [1, 0])) := Lib.hid hown1
      clear hown1 hgrow1 hne1 e11 Hsrc1
      go_wp2_with fail
      refine HDl1.out.mono ?_
      rintro e wd1 ⟨rfl, qd1, hwd1⟩
      have hU1 : Upd [bl] wa1 wd1 := by rw [hwd1]; exact upd_setCells (.inl (by simp)) _ _ _ ((Upd.refl _ _).drewN _)
      have HLw2 : Hid (LeftB wd1 bl co [2]) := Lib.hid (by
        obtain ⟨cs, k1, k2, _⟩ := HLa1.out
        have k3 := heap_setCells ((([2, 0] : List Int).map (Value.int .i64))) (wa1.drewN qd1) cs 0 (show (wa1.drewN qd1).heap[bl]? = _ from k1)
        rw [show ((wa1.drewN qd1).setCells bl 0 (([2, 0] : List Int).map (Value.int .i64))) = wd1 from hwd1.symm] at k3
        refine ⟨_, k3, by rw [setR_size]; exact k2, by decide, HC3.out, fun j i hi => ?_⟩
        have hj3 : j < 1 := lt_get hi
        have := setR_in (([2, 0] : List Int).map (Value.int .i64)) cs 0 (by simp; omega) j (.int .i64 (i.val : Nat)) (by rcases (show j = 0 by omega) with rfl <;> (obtain rfl := Option.some.inj hi; rfl))
        rwa [Nat.zero_add] at this)
      have HOw2 := Lib.hid (hU1.row HOa1.out (fun g hg hm => by rw [List.mem_singleton] at hm; have := (World.ownsRow.lt HOa1.out g hg).1; omega))
      have HBw2 := Lib.hid (HBa1.out.trans (hU1.below (B := w2.heap.size) (fun k hk => by rw [List.mem_singleton] at hk; omega) HBa1.out.size))
      have hz7w2 : w7.heap.size ≤ wd1.heap.size := by have := hU1.size; have := HLa1.out; have := hzl1; have := HBa1.out.size; exact Nat.le_trans hz7a1 hU1.size
      clear hwd1 hU1 HDl1
      rw [show 2 - (1 - 0) = 1 from rfl]
      go_wp2_with fail
      -- round 2
      rw [rounds_succ]
      have y21 : wd1.cell? ⟨w.heap.size, 0, none⟩ = some (.slice (some ⟨b, o, none⟩) 3 c) := HY.out _ HBw2.out
      have hx21 : w.heap.size < wd1.heap.size := by have := HBw2.out.size; omega
      have HNx2 := Lib.hid (next_any (some ⟨b, o, none⟩) c bl co q [2] 0 (by decide) wd1 (HS.out _ (Hb2.out.trans (HBw2.out.mono Hb2.out.size))) HLw2.out.left (.inl ⟨rfl, 2, rfl, by decide +kernel⟩))
      go_wp2_with fail
      refine HNx2.out.mono ?_
      rintro e wn2 ⟨rfl, hbn2⟩
      have HLn2 := Lib.hid (HLw2.out.later hbn2)
      have HOn2 := Lib.hid (ls.own_kept HOw2.out hbn2)
      have hzn2 : w2.heap.size ≤ wd1.heap.size := HBw2.out.size
      have HBn2 := Lib.hid (HBw2.out.trans (hbn2.mono hzn2))
      have hz7n2 : w7.heap.size ≤ wn2.heap.size := by have := hbn2.size; omega
      have e21 : wn2.cell? ⟨bl, 0, none⟩ = some (.int .i64 2) := HLn2.out.left.2 0 2 rfl
      have hbl21 : bl < wn2.heap.size := HLn2.out.lt
      have hbL2 : Below wn2.heap.size wn2 (wn2.alloc (.cells #[.int .i64 2] 3)) := (Below.refl _ _).alloc (Nat.le_refl _) _
      have HOl2 := Lib.hid (ls.own_kept HOn2.out hbL2)
      have HLl2 := Lib.hid (HLn2.out.later hbL2)
      have HBl2 := Lib.hid (HBn2.out.trans (hbL2.mono HBn2.out.size))
      have Hsrc2 : Hid (SrcV (wn2.alloc (.cells #[.int .i64 2] 3)) (.slice (some ⟨wn2.heap.size, 0, none⟩) 1 1) 1 (ixC 2)) := Lib.hid (.inr ⟨by decide, _, _, rfl, fun i u hi => by
        rw [addN, cell_in (heap_alloc_new wn2 (.cells #[.int .i64 2] 3)), Nat.zero_add, List.getElem?_toArray]
        exact hi⟩)
      have hzl2 : w7.heap.size ≤ (wn2.alloc (.cells #[.int .i64 2] 3)).heap.size := by have := hbL2.size; omega
      clear hbn2 hbL2 y21
      focus
        go_wp2_with (at_builtin; go_must (refine wpList_append_any rfl _ _ 114 rfl 3 i1 _ 1 8 Tryz.underlying114 si sz0 sz1 sz2 rfl (by decide) w7.heap.size _ 2 _ (by rfl) HOl2.out _ 1 _ (by rfl) Hsrc2.out (by rfl) (ixC_one _) (by omega) (by omega) hzl2 ?_))
      intro pp2 cc2 wa2 hown2 hgrow2
      have hne2 : some bl ≠ (Value.slice (pp1) 2 cc1).ownBlock := fun e => by
        have := (World.ownsRow.lt HOl2.out bl e.symm).1
        omega
      have hz7a2 : w7.heap.size ≤ wa2.heap.size := Nat.le_trans hzl2 hgrow2.size
      have HLa2 := Lib.hid (HLl2.out.obj (hgrow2.block bl HLl2.out.lt hne2))
      have HBa2 := Lib.hid (below_grown_own HBl2.out (own_mono9 HOl2.out (show w2.heap.size ≤ w7.heap.size from HB7.out.size)) hgrow2 (by have := HBl2.out.size; omega))
      have hba2 : bl < wa2.heap.size := HLa2.out.lt
      have HDl2 := Lib.hid (Tryz.slices_Delete_int_cells bl 0 1 co 0 1 [2] wa2 (by decide) (by omega) HCo.out (by decide) (by decide) (fun j hj => by
        rw [Nat.zero_add]
        have hj3 : j < 1 := hj
        rcases (show j = 0 by omega) with rfl <;> first | exact HLa2.out.left.2 0 2 rfl) (fun j hj => by obtain ⟨cs, k1, _⟩ := HLa2.out; exact free_in k1))
      have HOa2 : Hid (wa2.ownsRow w7.heap.size 3 1 (.slice pp2 3 cc2) 3 (rw.flat ixC [1, 0, 2])) := Lib.hid hown2
      clear hown2 hgrow2 hne2 e21 Hsrc2
      go_wp2_with fail
      refine HDl2.out.mono ?_
      rintro e wd2 ⟨rfl, qd2, hwd2⟩
      have hU2 : Upd [bl] wa2 wd2 := by rw [hwd2]; exact upd_setCells (.inl (by simp)) _ _ _ ((Upd.refl _ _).drewN _)
      have HLw3 : Hid (LeftB wd2 bl co []) := Lib.hid (by
        obtain ⟨cs, k1, k2, _⟩ := HLa2.out
        have k3 := heap_setCells ((([0] : List Int).map (Value.int .i64))) (wa2.drewN qd2) cs 0 (show (wa2.drewN qd2).heap[bl]? = _ from k1)
        rw [show ((wa2.drewN qd2).setCells bl 0 (([0] : List Int).map (Value.int .i64))) = wd2 from hwd2.symm] at k3
        refine ⟨_, k3, by rw [setR_size]; exact k2, by decide, HC3.out, fun j i hi => ?_⟩
        have hj3 : j < 0 := lt_get hi
        have := setR_in (([0] : List Int).map (Value.int .i64)) cs 0 (by simp; omega) j (.int .i64 (i.val : Nat)) (by omega)
        rwa [Nat.zero_add] at this)
      have HOw3 := Lib.hid (hU2.row HOa2.out (fun g hg hm => by rw [List.mem_singleton] at hm; have := (World.ownsRow.lt HOa2.out g hg).1; omega))
      have HBw3 := Lib.hid (HBa2.out.trans (hU2.below (B := w2.heap.size) (fun k hk => by rw [List.mem_singleton] at hk; omega) HBa2.out.size))
      have hz7w3 : w7.heap.size ≤ wd2.heap.size := by have := hU2.size; have := HLa2.out; have := hzl2; have := HBa2.out.size; exact Nat.le_trans hz7a2 hU2.size
      clear hwd2 hU2 HDl2
      rw [show 1 - (1 - 0) = 0 from rfl]
      go_wp2_with fail
      rw [rounds_succ]
      go_wp2_with fail
      have HRes := Lib.hid ((rw.own_new ixC_len (by decide) (l := [1, 0, 2]) HOw3.out).rw ixC_len)
      have HBf := Lib.hid (Hb2.out.trans (HBw3.out.mono Hb2.out.size))
      go_ret2
      exact ⟨⟨_, _, rfl, HRes.out⟩, HBf.out⟩
end Go.Proofs.YtbelnaiekbfoiaaGreatDoor.dr
/- Package derive: what Run asks of settings: a setting's number told, a number held, a setting held as another's. Conditions: the settings lie in memory. -/
namespace Go.Proofs.YtbelnaiekbfoiaaGreatDoor.dr
open Go.ChangeShapes Go.WideShapes Go.ChangeAt Go.RowKit gl va ls ky ly

/-- What stands at a place, known by its value. -/
theorem held_at {R : List Hd} {V : List Vs} (h : R.map Hd.vs = V) {i : Nat} {v : Val} {s : Int} (hv : V[i]? = some ⟨v, s⟩) : ∃ p c, R[i]? = some ⟨v, p, c, s⟩ := by
  rw [← h, List.getElem?_map, Option.map_eq_some_iff] at hv
  obtain ⟨⟨v', p, c, s'⟩, hx, e⟩ := hv
  unfold Hd.vs at e
  injection e with e1 e2
  subst e1 e2
  exact ⟨p, c, hx⟩
theorem get_at (M b : Nat) (hs : Value) (R : List Hd) {V : List Vs} (hR : R.map Hd.vs = V) (i : Nat) (t : List UInt8) (k n s : Int) (hv : V[i]? = some ⟨vInt k n, s⟩) (hk : ∃ d, stdK[i]? = some d ∧ d.name = t) (w : World) (h : LSet M w b hs stdK R) :
    Calls Tryz.prog 30 #[.pointer (some ⟨b, 0, none⟩), .string (B t)] w fun e w' => (∃ p, e = .returned (.tuple #[.agg #[.string (B t), .int .i64 k, .int .i64 n, .string ByteArray.empty, .slice p 0 0, .int .i64 s], .bool true])) ∧ Below w.heap.size w w' := by
  obtain ⟨d, hd, rfl⟩ := hk
  obtain ⟨p, c, hx⟩ := held_at hR hv
  refine (Get_any M b hs stdK R i d ⟨vInt k n, p, c, s⟩ hd hx std_asc (by decide) (Nat.zero_le _) w h).mono ?_
  rintro e w' ⟨⟨q, rfl, _⟩, hb⟩
  exact ⟨⟨q, rfl⟩, hb⟩
theorem put_row (M b : Nat) (hs : Value) (R : List Hd) (i : Nat) (k : Ky) (hk : stdK[i]? = some k) (v : Vs) (hv : vs3[i]? = some v) (sl : Value) (w : World) (h : LSet M w b hs stdK R) (hM : M ≤ w.heap.size) (hS : Strs w sl v.v.words) (hV : Vlo w) :
    Calls Tryz.prog 23 #[.pointer (some ⟨b, 0, none⟩), .string (B k.name), rep v.v sl, .int .i64 v.src] w fun e w' => e = .returned (.int .i64 0) ∧ (∃ R', LSet M w' b hs stdK R' ∧ R'.map Hd.vs = (R.map Hd.vs).set i v) ∧ Upd hs.ownBlock.toList w w' := by
  obtain ⟨hb, h0, h5⟩ := vb_at vb3 hv
  refine (Put_yes M b hs stdK R i k hk std_asc (by decide) v.v hb ((mayAll_at may3).2 i k v hk hv) v.src h0 h5 sl w h hM hS hV).mono ?_
  rintro e w' ⟨rfl, ⟨y, hy, hL⟩, hu⟩
  refine ⟨rfl, ⟨_, hL, ?_⟩, hu⟩
  rw [List.map_set, hy]
theorem put_at (M b : Nat) (hs : Value) (R : List Hd) {V : List Vs} (hR : R.map Hd.vs = V) (i : Nat) (t : List UInt8) (k n : Int) (hv : vs3[i]? = some ⟨vInt k n, 5⟩) (hk : ∃ d, stdK[i]? = some d ∧ d.name = t) (w : World) (h : LSet M w b hs stdK R) (hM : M ≤ w.heap.size) (hV : Vlo w) :
    Calls Tryz.prog 23 #[.pointer (some ⟨b, 0, none⟩), .string (B t), .agg #[.int .i64 k, .int .i64 n, .string ⟨#[]⟩, .slice none 0 0], .int .i64 5] w fun e w' => e = .returned (.int .i64 0) ∧ (∃ R', LSet M w' b hs stdK R' ∧ R'.map Hd.vs = V.set i ⟨vInt k n, 5⟩) ∧ Below M w w' := by
  obtain ⟨d, hd, rfl⟩ := hk
  refine (put_row M b hs R i d hd ⟨vInt k n, 5⟩ hv (.slice none 0 0) w h hM ⟨none, 0, rfl, Nat.le_refl _, .inl rfl⟩ hV).mono ?_
  rintro e w' ⟨rfl, ⟨R', hL, hm⟩, hu⟩
  rw [hR] at hm
  exact ⟨rfl, ⟨R', hL, hm⟩, hu.below (fun g hg => (blk_owned h.held g (by simpa [Option.mem_toList] using hg)).1) hM⟩
end Go.Proofs.YtbelnaiekbfoiaaGreatDoor.dr
/- Package derive: Run of the standard settings by the standard rules. Conditions: the settings and the rules lie in memory; the listed variables hold what the program's text lays. -/
namespace Go.Proofs.YtbelnaiekbfoiaaGreatDoor.dr
open Go.ChangeShapes Go.WideShapes Go.ChangeAt Go.RowKit gl va ls ky ly

theorem set_step {α : Type} (A B : List α) (j : Nat) (hl : A.length = B.length) (v : α) (h : A[j]? = some v) : (A.take j ++ B.drop j).set j v = A.take (j + 1) ++ B.drop (j + 1) := by
  have hj := lt_get h
  rw [List.set_append_right _ _ (by rw [List.length_take]; omega), List.length_take, Nat.min_eq_left (by omega), Nat.sub_self, List.drop_eq_getElem_cons (by omega), List.set_cons_zero, List.take_add_one, h]
  simp
theorem rule_cells {w : World} {b o c : Nat} {q : Pl} (h : Std3 w (.slice (some ⟨b, o, none⟩) 3 c) q) {j : Nat} {r : RuR} (hr : q.rr[j]? = some r) : w.cell? ⟨b, o + j * 4, none⟩ = some (.string (B r.target)) ∧ w.cell? ⟨b, o + j * 4 + 1, none⟩ = some r.vn ∧ w.cell? ⟨b, o + j * 4 + 2, none⟩ = some (.int .i64 r.op) ∧ w.cell? ⟨b, o + j * 4 + 3, none⟩ = some (.int .i64 r.add) := ru_cells h.row hr
set_option maxHeartbeats 8000000 in
set_option maxRecDepth 100000 in
theorem run_any (M b : Nat) (hs : Value) (R : List Hd) (hR : R.map Hd.vs = vs0) (p : Option Addr) (c : Nat) (q : Pl) (w : World) (h : LSet M w b hs stdK R) (hM : M ≤ w.heap.size) (hS : Std3 w (.slice p 3 c) q) (hV : ∀ W, Below M w W → Vlo W) :
    Calls Tryz.prog 58 #[.pointer (some ⟨b, 0, none⟩), .slice p 3 c] w fun e w' => (e = .returned (.tuple #[.int .i64 0, .string ⟨#[]⟩]) ∧ ∃ R', LSet M w' b hs stdK R' ∧ R'.map Hd.vs = vs3) ∧ Upd hs.ownBlock.toList w w' := by
  have HL := Lib.hid fun (W : World) (hW : Below w.heap.size w W) => h.later hW
  have HS := Lib.hid fun (W : World) (hW : Below w.heap.size w W) => hS.later hW
  have HV := Lib.hid hV
  have HR := Lib.hid hR
  obtain ⟨z1, c1, hx1⟩ := held_at hR at1
  obtain ⟨z2, c2, hx2⟩ := held_at hR at2
  obtain ⟨z3, c3, hx3⟩ := held_at hR at3
  obtain ⟨z13, c13, hx13⟩ := held_at hR at13
  obtain ⟨z15, c15, hx15⟩ := held_at hR at15
  obtain ⟨b0, o0, rfl, hb0⟩ := hS.row.ptr.2.2 (by omega)
  have HNwk := Lib.hid fun (W : World) (hW : Below w.heap.size w W) => named_wk M b hs R _ _ hx2 rfl (words_le hR vb0 _ (List.mem_of_getElem? hx2)) hx3 rfl (words_le hR vb0 _ (List.mem_of_getElem? hx3)) q.p1 q.c1 W (h.later hW) (hS.later hW).n1
  have HNlm := Lib.hid fun (W : World) (hW : Below w.heap.size w W) => named_lm M b hs R _ _ hx3 rfl (words_le hR vb0 _ (List.mem_of_getElem? hx3)) hx1 rfl (words_le hR vb0 _ (List.mem_of_getElem? hx1)) q.p0 q.c0 W (h.later hW) (hS.later hW).n0
  have HNpg := Lib.hid fun (W : World) (hW : Below w.heap.size w W) => named_pg M b hs R _ _ hx13 rfl (words_le hR vb0 _ (List.mem_of_getElem? hx13)) hx15 rfl (words_le hR vb0 _ (List.mem_of_getElem? hx15)) q.p2 q.c2 W (h.later hW) (hS.later hW).n2
  have HOr := Lib.hid (order_any (some ⟨b0, o0, none⟩) c q w hS (hV w (Below.refl _ _)).glo)
  have HCo := Lib.hid fun (W : World) (hW : Below w.heap.size w W) => Copy_any M b hs stdK R (by decide) (words_le hR vb0) W (h.later hW)
  clear h hS hV hR hx1 hx2 hx3 hx13 hx15
  go_enter Tryz.func58, Tryz.ntmps58
  go_wp2_with fail
  refine HOr.out.mono ?_
  rintro e w1 ⟨⟨po, co, rfl, hro⟩, hb1⟩
  obtain ⟨bo, oo, rfl, hbo⟩ := hro.ptr.2.2 (by omega)
  have HI := Lib.hid fun (W : World) (hW : Below w1.heap.size w1 W) (j : Nat) (v : Int) (hv : ([1, 0, 2] : List Int)[j]? = some v) => (by
    have := rw.Rw.cell (hro.later hW) hv (i := 0) rfl
    rwa [Nat.mul_one, Nat.add_zero] at this : W.cell? ⟨bo, oo + j, none⟩ = some (.int .i64 v))
  have Hb1 := Lib.hid hb1
  have HX1 : Hid (Below w1.heap.size w1 w1) := Lib.hid (Below.refl _ _)
  clear hro hb1 HOr
  go_wp2_with fail
  refine wp_loop_rounds 4 ?_
  -- named wk
  rw [rounds_succ]
  have i0 := HI.out _ HX1.out 0 1 rfl
  obtain ⟨k00, k01, k02, k03⟩ := rule_cells (HS.out _ Hb1.out) (j := 1) rfl
  simp only [RuR.vn, Nat.one_mul, Nat.add_zero] at i0 k00 k01 k02 k03
  have hbo0 : bo < w1.heap.size := Nat.lt_of_lt_of_le hbo HX1.out.size
  have hb00 : b0 < w1.heap.size := Nat.lt_of_lt_of_le hb0 Hb1.out.size
  go_wp2_with fail
  refine (HNwk.out _ Hb1.out).mono ?_
  rintro e w2 ⟨rfl, hb2⟩
  have Hb2 := Lib.hid (Hb1.out.trans (hb2.mono Hb1.out.size))
  have HX2 := Lib.hid (HX1.out.trans (hb2.mono HX1.out.size))
  clear hb2 i0 k00 k01 k02 k03
  go_wp2_with fail
  -- named lm
  rw [rounds_succ]
  have i1 := HI.out _ HX2.out 1 0 rfl
  obtain ⟨k10, k11, k12, k13⟩ := rule_cells (HS.out _ Hb2.out) (j := 0) rfl
  simp only [RuR.vn, Nat.zero_mul, Nat.add_zero] at i1 k10 k11 k12 k13
  have hbo1 : bo < w2.heap.size := Nat.lt_of_lt_of_le hbo HX2.out.size
  have hb01 : b0 < w2.heap.size := Nat.lt_of_lt_of_le hb0 Hb2.out.size
  go_wp2_with fail
  refine (HNlm.out _ Hb2.out).mono ?_
  rintro e w3 ⟨rfl, hb3⟩
  have Hb3 := Lib.hid (Hb2.out.trans (hb3.mono Hb2.out.size))
  have HX3 := Lib.hid (HX2.out.trans (hb3.mono HX2.out.size))
  clear hb3 i1 k10 k11 k12 k13
  go_wp2_with fail
  -- named pg
  rw [rounds_succ]
  have i2 := HI.out _ HX3.out 2 2 rfl
  obtain ⟨k20, k21, k22, k23⟩ := rule_cells (HS.out _ Hb3.out) (j := 2) rfl
  simp only [RuR.vn] at i2 k20 k21 k22 k23
  have hbo2 : bo < w3.heap.size := Nat.lt_of_lt_of_le hbo HX3.out.size
  have hb02 : b0 < w3.heap.size := Nat.lt_of_lt_of_le hb0 Hb3.out.size
  go_wp2_with fail
  refine (HNpg.out _ Hb3.out).mono ?_
  rintro e w4 ⟨rfl, hb4⟩
  have Hb4 := Lib.hid (Hb3.out.trans (hb4.mono Hb3.out.size))
  have HX4 := Lib.hid (HX3.out.trans (hb4.mono HX3.out.size))
  clear hb4 i2 k20 k21 k22 k23
  go_wp2_with fail
  rw [rounds_succ]
  go_wp2_with fail
  refine (HCo.out _ Hb4.out).mono ?_
  rintro e w5 ⟨⟨y, hsy, Ry, rfl, hLy, hRy⟩, hb5⟩
  have hyL : w4.heap.size ≤ y := hLy.lo
  have HM5 : w4.heap.size ≤ w5.heap.size := hb5.size
  have HY5 : Hid (LSet w4.heap.size w5 y hsy stdK Ry) := Lib.hid hLy
  have HR5 : Hid (Ry.map Hd.vs = vs0) := Lib.hid (hRy.trans HR.out)
  have H45 : Hid (Below w4.heap.size w4 w5) := Lib.hid hb5
  have Hb5 := Lib.hid (Hb4.out.trans (hb5.mono Hb4.out.size))
  have HX5 := Lib.hid (HX4.out.trans (hb5.mono HX4.out.size))
  clear hb5 hLy hRy
  go_wp2_with fail
  refine wp_loop_rounds 4 ?_
  -- wk
  rw [rounds_succ]
  have i0 := HI.out _ HX5.out 0 1 rfl
  obtain ⟨k0, k1, k2, k3⟩ := rule_cells (HS.out _ Hb5.out) (j := 1) rfl
  simp only [RuR.vn, Nat.one_mul, Nat.add_zero] at i0 k0 k1 k2 k3
  have l0 : bo < w5.heap.size := Nat.lt_of_lt_of_le hbo HX5.out.size
  have l1 : b0 < w5.heap.size := Nat.lt_of_lt_of_le hb0 Hb5.out.size
  have HG := Lib.hid (get_at w4.heap.size y hsy Ry HR5.out 3 tWk 2 0 0 at3 ⟨_, rfl, rfl⟩ w5 HY5.out)
  go_wp2_with fail
  refine HG.out.mono ?_
  rintro e w6 ⟨⟨pv, rfl⟩, hb⟩
  have Hb6 := Lib.hid (Hb5.out.trans (hb.mono Hb5.out.size))
  have HX6 := Lib.hid (HX5.out.trans (hb.mono HX5.out.size))
  have H46 := Lib.hid (H45.out.trans (hb.mono H45.out.size))
  have HY6 := Lib.hid (HY5.out.later hb)
  clear HY5 HG i0 k0 k1 k2 k3 l0 l1 hb
  have HBa : ∀ o : Obj, Below w6.heap.size w6 (w6.alloc o) := fun o => (Below.refl _ _).alloc (Nat.le_refl _) _
  have l1 : b0 < w6.heap.size := Nat.lt_of_lt_of_le hb0 Hb6.out.size
  obtain ⟨k0, k1, k2, k3⟩ := rule_cells (HS.out _ Hb6.out) (j := 1) rfl
  simp only [RuR.vn, Nat.one_mul] at k0 k1 k2 k3
  have HMd : Hid (∀ W, Below w6.heap.size w6 W → _) := Lib.hid fun (W : World) (hW : Below w6.heap.size w6 W) => by
    obtain ⟨zf, cf, hf⟩ := held_at HR5.out at2
    exact made_wk w4.heap.size y hsy Ry _ hf rfl (words_le HR5.out vb0 _ (List.mem_of_getElem? hf)) q.p1 q.c1 W (HY6.out.later hW) (HS.out _ (Hb6.out.trans (hW.mono Hb6.out.size))).n1
  go_wp2_with fail
  refine (HMd.out _ (HBa _)).mono ?_
  rintro e w7 ⟨rfl, hb⟩
  have hz : (w6.alloc (.cells #[.string (B tWk), .int .i64 2, .int .i64 0, .string ByteArray.empty, .slice pv 0 0, .int .i64 0] 47)).heap.size = w6.heap.size + 1 := Array.size_push _
  have y0 : w7.cell? ⟨w6.heap.size, 0, none⟩ = some (.string (B tWk)) := (hb.cell (p := ⟨w6.heap.size, 0, none⟩) (by show w6.heap.size < _; omega)).trans (cell_in (heap_alloc_new w6 _))
  have y1 : w7.cell? ⟨w6.heap.size, 1, none⟩ = some (.int .i64 2) := (hb.cell (p := ⟨w6.heap.size, 1, none⟩) (by show w6.heap.size < _; omega)).trans (cell_in (heap_alloc_new w6 _))
  have hz2 : w6.heap.size < w7.heap.size := by have := hb.size; omega
  have hb2 : Below w6.heap.size w6 w7 := (HBa _).trans (hb.mono (by omega))
  clear hb hz k0 k1 k2 k3 l1 HMd HBa
  have Hb7 := Lib.hid (Hb6.out.trans (hb2.mono Hb6.out.size))
  have HX7 := Lib.hid (HX6.out.trans (hb2.mono HX6.out.size))
  have H47 := Lib.hid (H46.out.trans (hb2.mono H46.out.size))
  have HP := Lib.hid (put_at w4.heap.size y hsy Ry HR5.out 3 tWk 2 3 at3d ⟨_, rfl, rfl⟩ w7 (HY6.out.later hb2) H47.out.size (HV.out _ (Hb7.out.mono hM)))
  clear hb2 HY6
  go_wp2_with fail
  refine HP.out.mono ?_
  rintro e w8 ⟨rfl, ⟨R8, hL, hR8⟩, hb⟩
  have HY8 := Lib.hid hL
  have HR8 : Hid (R8.map Hd.vs = vs1) := Lib.hid hR8
  have Hb8 := Lib.hid (Hb7.out.trans (hb.mono Hb4.out.size))
  have HX8 := Lib.hid (HX7.out.trans (hb.mono HX4.out.size))
  have H48 := Lib.hid (H47.out.trans hb)
  clear hb hL hR8 y0 y1 hz2 HP
  go_wp2_with fail
  -- lm
  rw [rounds_succ]
  have i0 := HI.out _ HX8.out 1 0 rfl
  obtain ⟨k0, k1, k2, k3⟩ := rule_cells (HS.out _ Hb8.out) (j := 0) rfl
  simp only [RuR.vn, Nat.zero_mul, Nat.add_zero] at i0 k0 k1 k2 k3
  have l0 : bo < w8.heap.size := Nat.lt_of_lt_of_le hbo HX8.out.size
  have l1 : b0 < w8.heap.size := Nat.lt_of_lt_of_le hb0 Hb8.out.size
  have HG := Lib.hid (get_at w4.heap.size y hsy R8 HR8.out 1 tLm 2 0 0 at1b ⟨_, rfl, rfl⟩ w8 HY8.out)
  go_wp2_with fail
  refine HG.out.mono ?_
  rintro e w9 ⟨⟨pv, rfl⟩, hb⟩
  have Hb9 := Lib.hid (Hb8.out.trans (hb.mono Hb8.out.size))
  have HX9 := Lib.hid (HX8.out.trans (hb.mono HX8.out.size))
  have H49 := Lib.hid (H48.out.trans (hb.mono H48.out.size))
  have HY9 := Lib.hid (HY8.out.later hb)
  clear HY8 HG i0 k0 k1 k2 k3 l0 l1 hb
  have HBa : ∀ o : Obj, Below w9.heap.size w9 (w9.alloc o) := fun o => (Below.refl _ _).alloc (Nat.le_refl _) _
  have l1 : b0 < w9.heap.size := Nat.lt_of_lt_of_le hb0 Hb9.out.size
  obtain ⟨k0, k1, k2, k3⟩ := rule_cells (HS.out _ Hb9.out) (j := 0) rfl
  simp only [RuR.vn, Nat.zero_mul, Nat.add_zero] at k0 k1 k2 k3
  have HMd : Hid (∀ W, Below w9.heap.size w9 W → _) := Lib.hid fun (W : World) (hW : Below w9.heap.size w9 W) => by
    obtain ⟨zf, cf, hf⟩ := held_at HR8.out at3b
    exact made_lm w4.heap.size y hsy R8 _ hf rfl (words_le HR8.out vb1 _ (List.mem_of_getElem? hf)) q.p0 q.c0 W (HY9.out.later hW) (HS.out _ (Hb9.out.trans (hW.mono Hb9.out.size))).n0
  go_wp2_with fail
  refine (HMd.out _ (HBa _)).mono ?_
  rintro e w10 ⟨rfl, hb⟩
  have hz : (w9.alloc (.cells #[.string (B tLm), .int .i64 2, .int .i64 0, .string ByteArray.empty, .slice pv 0 0, .int .i64 0] 47)).heap.size = w9.heap.size + 1 := Array.size_push _
  have y0 : w10.cell? ⟨w9.heap.size, 0, none⟩ = some (.string (B tLm)) := (hb.cell (p := ⟨w9.heap.size, 0, none⟩) (by show w9.heap.size < _; omega)).trans (cell_in (heap_alloc_new w9 _))
  have y1 : w10.cell? ⟨w9.heap.size, 1, none⟩ = some (.int .i64 2) := (hb.cell (p := ⟨w9.heap.size, 1, none⟩) (by show w9.heap.size < _; omega)).trans (cell_in (heap_alloc_new w9 _))
  have hz2 : w9.heap.size < w10.heap.size := by have := hb.size; omega
  have hb2 : Below w9.heap.size w9 w10 := (HBa _).trans (hb.mono (by omega))
  clear hb hz k0 k1 k2 k3 l1 HMd HBa
  have Hb10 := Lib.hid (Hb9.out.trans (hb2.mono Hb9.out.size))
  have HX10 := Lib.hid (HX9.out.trans (hb2.mono HX9.out.size))
  have H410 := Lib.hid (H49.out.trans (hb2.mono H49.out.size))
  have HP := Lib.hid (put_at w4.heap.size y hsy R8 HR8.out 1 tLm 2 48 at1d ⟨_, rfl, rfl⟩ w10 (HY9.out.later hb2) H410.out.size (HV.out _ (Hb10.out.mono hM)))
  clear hb2 HY9
  go_wp2_with fail
  refine HP.out.mono ?_
  rintro e w11 ⟨rfl, ⟨R11, hL, hR11⟩, hb⟩
  have HY11 := Lib.hid hL
  have HR11 : Hid (R11.map Hd.vs = vs2) := Lib.hid hR11
  have Hb11 := Lib.hid (Hb10.out.trans (hb.mono Hb4.out.size))
  have HX11 := Lib.hid (HX10.out.trans (hb.mono HX4.out.size))
  have H411 := Lib.hid (H410.out.trans hb)
  clear hb hL hR11 y0 y1 hz2 HP
  go_wp2_with fail
  -- pg
  rw [rounds_succ]
  have i0 := HI.out _ HX11.out 2 2 rfl
  obtain ⟨k0, k1, k2, k3⟩ := rule_cells (HS.out _ Hb11.out) (j := 2) rfl
  simp only [RuR.vn] at i0 k0 k1 k2 k3
  have l0 : bo < w11.heap.size := Nat.lt_of_lt_of_le hbo HX11.out.size
  have l1 : b0 < w11.heap.size := Nat.lt_of_lt_of_le hb0 Hb11.out.size
  have HG := Lib.hid (get_at w4.heap.size y hsy R11 HR11.out 15 tPg 3 4096 0 at15c ⟨_, rfl, rfl⟩ w11 HY11.out)
  go_wp2_with fail
  refine HG.out.mono ?_
  rintro e w12 ⟨⟨pv, rfl⟩, hb⟩
  have Hb12 := Lib.hid (Hb11.out.trans (hb.mono Hb11.out.size))
  have HX12 := Lib.hid (HX11.out.trans (hb.mono HX11.out.size))
  have H412 := Lib.hid (H411.out.trans (hb.mono H411.out.size))
  have HY12 := Lib.hid (HY11.out.later hb)
  clear HY11 HG i0 k0 k1 k2 k3 l0 l1 hb
  have HBa : ∀ o : Obj, Below w12.heap.size w12 (w12.alloc o) := fun o => (Below.refl _ _).alloc (Nat.le_refl _) _
  have l1 : b0 < w12.heap.size := Nat.lt_of_lt_of_le hb0 Hb12.out.size
  obtain ⟨k0, k1, k2, k3⟩ := rule_cells (HS.out _ Hb12.out) (j := 2) rfl
  simp only [RuR.vn] at k0 k1 k2 k3
  have HMd : Hid (∀ W, Below w12.heap.size w12 W → _) := Lib.hid fun (W : World) (hW : Below w12.heap.size w12 W) => by
    obtain ⟨zf, cf, hf⟩ := held_at HR11.out at13c
    exact made_pg w4.heap.size y hsy R11 _ hf rfl (words_le HR11.out vb2 _ (List.mem_of_getElem? hf)) q.p2 q.c2 W (HY12.out.later hW) (HS.out _ (Hb12.out.trans (hW.mono Hb12.out.size))).n2
  go_wp2_with fail
  refine (HMd.out _ (HBa _)).mono ?_
  rintro e w13 ⟨rfl, hb⟩
  have hz : (w12.alloc (.cells #[.string (B tPg), .int .i64 3, .int .i64 4096, .string ByteArray.empty, .slice pv 0 0, .int .i64 0] 47)).heap.size = w12.heap.size + 1 := Array.size_push _
  have y0 : w13.cell? ⟨w12.heap.size, 0, none⟩ = some (.string (B tPg)) := (hb.cell (p := ⟨w12.heap.size, 0, none⟩) (by show w12.heap.size < _; omega)).trans (cell_in (heap_alloc_new w12 _))
  have y1 : w13.cell? ⟨w12.heap.size, 1, none⟩ = some (.int .i64 3) := (hb.cell (p := ⟨w12.heap.size, 1, none⟩) (by show w12.heap.size < _; omega)).trans (cell_in (heap_alloc_new w12 _))
  have hz2 : w12.heap.size < w13.heap.size := by have := hb.size; omega
  have hb2 : Below w12.heap.size w12 w13 := (HBa _).trans (hb.mono (by omega))
  clear hb hz k0 k1 k2 k3 l1 HMd HBa
  have Hb13 := Lib.hid (Hb12.out.trans (hb2.mono Hb12.out.size))
  have HX13 := Lib.hid (HX12.out.trans (hb2.mono HX12.out.size))
  have H413 := Lib.hid (H412.out.trans (hb2.mono H412.out.size))
  have HP := Lib.hid (put_at w4.heap.size y hsy R11 HR11.out 15 tPg 3 4096 at15d ⟨_, rfl, rfl⟩ w13 (HY12.out.later hb2) H413.out.size (HV.out _ (Hb13.out.mono hM)))
  clear hb2 HY12
  go_wp2_with fail
  refine HP.out.mono ?_
  rintro e w14 ⟨rfl, ⟨R14, hL, hR14⟩, hb⟩
  have HY14 := Lib.hid hL
  have HR14 : Hid (R14.map Hd.vs = vs3) := Lib.hid hR14
  have Hb14 := Lib.hid (Hb13.out.trans (hb.mono Hb4.out.size))
  have HX14 := Lib.hid (HX13.out.trans (hb.mono HX4.out.size))
  have H414 := Lib.hid (H413.out.trans hb)
  clear hb hL hR14 y0 y1 hz2 HP
  go_wp2_with fail
  rw [rounds_succ]
  have HA := Lib.hid (All_any w4.heap.size y hsy stdK R14 (by decide) (words_le HR14.out vb3) w14 HY14.out)
  go_wp2_with fail
  refine HA.out.mono ?_
  rintro e w15 ⟨⟨pa, ca, L, rfl, hL, hLl, hT⟩, hb⟩
  have hLn : L.length = 16 := hLl
  obtain ⟨ba, rfl, hba⟩ : ∃ ba, pa = some ⟨ba, 0, none⟩ ∧ ba < w15.heap.size := by
    rcases hL with ⟨rfl, _⟩ | ⟨g, c', cs, e, _, _, h3, _⟩
    · simp at hLn
    · injection e with e1 e2 e3
      exact ⟨g, e1, lt_of_block h3⟩
  have hLx : Hid (LSet M w15 b hs stdK R) := Lib.hid (HL.out _ (Hb14.out.trans (hb.mono Hb14.out.size)))
  have HU : Hid (Upd hs.ownBlock.toList w w15) := Lib.hid (Upd.of_below (Hb14.out.trans (hb.mono Hb14.out.size)) _)
  have HRw := Lib.hid hL
  have HTo := Lib.hid hT
  have HLn := Lib.hid hLn
  have HBm : Hid (Below M w w15) := Lib.hid ((Hb14.out.trans (hb.mono Hb14.out.size)).mono hM)
  clear hb hL hT hLl hLn HA HY14 H414 HX14 Hb14
  rw [show stdK.length = 16 from rfl] at *
  go_wp2_with fail
  go_loopw [101] (fun vi wr => ∃ (j : Nat) (Rk : List Hd), j ≤ 16 ∧ vi = .int .i64 j ∧ Hid (LSet M wr b hs stdK Rk) ∧ Hid (Rk.map Hd.vs = vs3.take j ++ vs0.drop j) ∧ Hid (rw.NewRw sgC 6 47 w14.heap.size wr (.slice (some ⟨ba, 0, none⟩) 16 ca) L) ∧ Hid (ly.Told w14.heap.size wr stdK R14 L) ∧ Hid (Upd hs.ownBlock.toList w wr) ∧ Hid (Below M w wr)) (fun vi _ => 16 - (intOf vi).toNat)
  case atStart => exact ⟨0, R, by omega, rfl, hLx, HR, HRw, HTo, HU, HBm⟩
  case round =>
    obtain ⟨wo, rfl⟩ : ∃ wo, wo = wr := ⟨_, rfl⟩
    obtain ⟨j, Rk, hj, rfl, HLk, HRk, HRo, HT, HUo, HBo⟩ := hrel
    by_cases hlt : j < 16
    · have q1 : decide ((j : Int) < 16) = true := by rw [decide_eq_true_iff]; omega
      have q2 : decide (j < 16) = true := by rw [decide_eq_true_iff]; omega
      have hLj : j < L.length := by rw [HLn.out]; exact hlt
      obtain ⟨⟨nm, sv, sp, sc, ss⟩, hs0⟩ : ∃ s, L[j]? = some s := ⟨_, List.getElem?_eq_getElem hLj⟩
      obtain ⟨k, x, hk, hx, rfl, hvs, hnw⟩ := HT.out j _ hs0
      have hv : vs3[j]? = some ⟨sv, ss⟩ := by
        rw [← HR14.out, List.getElem?_map, hx]
        exact congrArg some hvs.symm
      have hc := fun i u => rw.Rw.cell (HRo.out.rw sgC_len) hs0 (i := i) (u := u)
      have c0 := hc 0 _ rfl
      have c1 := hc 1 _ rfl
      have c2 := hc 2 _ rfl
      have c3 := hc 3 _ rfl
      have c4 := hc 4 _ rfl
      have c5 := hc 5 _ rfl
      simp only [Nat.zero_add, Nat.add_zero] at c0 c1 c2 c3 c4 c5
      have HBa : ∀ o : Obj, Below wo.heap.size wo (wo.alloc o) := fun o => (Below.refl _ _).alloc (Nat.le_refl _) _
      have hMo : M ≤ wo.heap.size := Nat.le_trans hM HUo.out.size
      have HP : Hid (∀ W, Below wo.heap.size wo W → _) := Lib.hid fun (W : World) (hW : Below wo.heap.size wo W) => put_row M b hs Rk j k hk ⟨sv, ss⟩ hv (.slice sp sv.words.length sc) W (HLk.out.later hW) (Nat.le_trans hMo hW.size) (NewWd.strs (hnw.later hW)) (HV.out _ (HBo.out.trans (hW.mono hMo)))
      have Hk := Lib.hid hk
      have Hv := Lib.hid hv
      unfold rep at HP
      simp only at HP
      clear hc hk hx hvs hnw hv hs0 hLj
      go_wp2_with fail
      refine (HP.out _ (HBa _)).mono ?_
      rintro e wP ⟨rfl, ⟨R2, hL2, hR2⟩, hu⟩
      have hal := HBa (.cells #[.string (B k.name), .int .i64 sv.kind, .int .i64 sv.int, .string sv.text, .slice sp sv.words.length sc, .int .i64 ss] 47)
      have hown := blk_owned (HLk.out.later hal).held
      have hSk : ∀ g ∈ hs.ownBlock.toList, ∃ cs, (wo.alloc (.cells #[.string (B k.name), .int .i64 sv.kind, .int .i64 sv.int, .string sv.text, .slice sp sv.words.length sc, .int .i64 ss] 47)).heap[g]? = some (.cells cs 107 (0, 0)) := fun g hg => (hown g (by simpa [Option.mem_toList] using hg)).2
      have HL2 := Lib.hid hL2
      have HR2 : Hid (R2.map Hd.vs = vs3.take (j + 1) ++ vs0.drop (j + 1)) := Lib.hid (by rw [hR2, HRk.out, set_step vs3 vs0 j rfl _ Hv.out])
      have HRo2 := Lib.hid (rw.NewRw.keep (rw.NewRw.later HRo.out hal) (sk_upd hu hSk (by decide)))
      have HT2 := Lib.hid (Told.keep (Told.later HT.out hal) (sk_upd hu hSk (by decide)))
      have HU2 : Hid (Upd hs.ownBlock.toList w wP) := Lib.hid ((HUo.out.then_below hal).trans hu fun g hg => .inl hg)
      have HB2 : Hid (Below M w wP) := Lib.hid ((HBo.out.trans (hal.mono hMo)).trans (hu.below (fun g hg => (hown g (by simpa [Option.mem_toList] using hg)).1) (Nat.le_trans hMo hal.size)))
      clear hL2 hR2 hu hal hown hSk HP HBa HLk HRk HRo HT HUo HBo c0 c1 c2 c3 c4 c5
      go_wp2_with fail
      go_roundw
      case rel => exact ⟨j + 1, R2, by omega, by go_num, HL2, HR2, HRo2, HT2, HU2, HB2⟩
      case measure => simp [intOf]; omega
    · obtain rfl : j = 16 := by omega
      have q1 : decide (((16 : Nat) : Int) < 16) = false := by decide
      have q2 : decide (16 < 16) = false := by decide
      have HR2 : Hid (Rk.map Hd.vs = vs3) := Lib.hid (HRk.out.trans (by kernel_rfl))
      go_wp2_with fail
      go_ret2
      exact ⟨⟨rfl, Rk, HLk.out, HR2.out⟩, HUo.out⟩
end Go.Proofs.YtbelnaiekbfoiaaGreatDoor.dr

