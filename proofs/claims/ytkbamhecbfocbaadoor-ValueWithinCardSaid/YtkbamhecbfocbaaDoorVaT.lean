/- tinderboxlaw04.ValueWithin returns true. Conditions: the arguments lie in memory; the listed variables hold what the program's text lays. -/
import Derived.Test.YtkbamhecbfocbaaDoorVaS
namespace Go.Proofs.YtkbamhecbfocbaaDoor.va
open Go.ChangeShapes Go.WideShapes Go.ChangeAt Go.RowKit gl

set_option maxHeartbeats 1000000 in
set_option maxRecDepth 100000 in
theorem valueWithin_any (v : Val) (hv : Vh v) (sl : Value) (lo hi : Int) (w : World) (hS : Strs w sl v.words) (hV : Vlo w) :
    Calls Tryd.prog 9 #[rep v sl, .int .i64 lo, .int .i64 hi] w fun e w' => e = .returned (.bool true) ∧ Below w.heap.size w w' := by
  have HV := Lib.hid hV
  have HWv := Lib.hid fun (W : World) (hb : Below w.heap.size w W) => weighs_any v hv sl W (hS.later hb)
  have HBv : Hid (weighs v ≤ 2147483647 → Vb v) := Lib.hid (vb_of hv)
  have hbd := weighs_bd v
  generalize weighs v = av at *
  clear hV hv
  obtain ⟨vk, vi, vt, vs⟩ := v
  simp only at hS
  have HSv := Lib.hid hS
  obtain ⟨p, c, rfl, hc, _⟩ := hS
  unfold rep at *
  simp only at *
  generalize hm : vs.length = m at *
  have Hm := Lib.hid hm
  clear hm hc
  go_enter Tryd.func9, Tryd.ntmps9
  go_wp2_with fail
  refine (HWv.out _ ((Below.refl _ w).alloc (Nat.le_refl _) _)).mono ?_
  rintro e w1 ⟨rfl, hb⟩
  have Hb1 := Lib.hid (((Below.refl _ w).alloc (Nat.le_refl _) _).trans (hb.mono (by simp)))
  have HKA1 := Lib.hid ((new_block hb).trans (heap_alloc_new w _))
  have HSA1 := Lib.hid (HSv.out.later Hb1.out)
  clear hb
  have hA := fun j => cell_of_row w1 w.heap.size j _ _ _ HKA1.out
  have A0 := hA 0; have A1 := hA 1; have A2 := hA 2; have A3 := hA 3
  simp only [List.getElem?_toArray, List.getElem?_cons_succ, List.getElem?_cons_zero] at A0 A1 A2 A3
  clear hA
  by_cases hbig : 2147483647 < av
  · go_wp2_with fail
    go_ret
    exact ⟨rfl, Hb1.out⟩
  · have HbV := Lib.hid (HBv.out (by omega))
    go_wp2_with fail
    refine (awake_any w1 (HV.out.later Hb1.out)).mono ?_
    rintro e w2 ⟨rfl, hb⟩
    have HKA2 := Lib.hid (keep HKA1.out hb)
    have HSA2 := Lib.hid (HSA1.out.later hb)
    have Hb2 := Lib.hid (then_bel Hb1.out hb)
    clear hb HKA1 HSA1 A0 A1 A2 A3
    have hA := fun j => cell_of_row w2 w.heap.size j _ _ _ HKA2.out
    have A0 := hA 0; have A1 := hA 1; have A2 := hA 2; have A3 := hA 3
    simp only [List.getElem?_toArray, List.getElem?_cons_succ, List.getElem?_cons_zero] at A0 A1 A2 A3
    clear hA
    go_wp2_with fail
    refine (lent_any ⟨vk, vi, vt, vs⟩ HbV.out (.slice p m c) w2 HSA2.out).mono ?_
    rintro e w3 ⟨⟨rfl, hrow⟩, hb⟩
    simp only at hrow
    have Hrow := Lib.hid hrow
    clear hrow
    unfold rep
    simp only
    rw [Hm.out]
    have HKA3 := Lib.hid (keep HKA2.out hb)
    have HSA3 := Lib.hid (HSA2.out.later hb)
    have Hb3 := Lib.hid (then_bel Hb2.out hb)
    clear hb HKA2 HSA2 A0 A1 A2 A3
    have hA := fun j => cell_of_row w3 w.heap.size j _ _ _ HKA3.out
    have A0 := hA 0; have A1 := hA 1; have A2 := hA 2; have A3 := hA 3
    simp only [List.getElem?_toArray, List.getElem?_cons_succ, List.getElem?_cons_zero] at A0 A1 A2 A3
    clear hA
    have HSL := Lib.hid (lent_strs Hrow.out)
    rw [Hm.out] at HSL
    obtain ⟨w4, hw4⟩ : ∃ w4, w4 = w3.alloc (.cells #[.int .i64 vk, .int .i64 vi, .string vt, .slice (some ⟨w2.heap.size + 1 + 1, 0, none⟩) m (m + 2)] 45) := ⟨_, rfl⟩
    have hal : Below w3.heap.size w3 w4 := by rw [hw4]; exact (Below.refl _ _).alloc (Nat.le_refl _) _
    have HKA4 := Lib.hid (keep HKA3.out hal)
    have HSA4 := Lib.hid (HSA3.out.later hal)
    have Hb4 := Lib.hid (then_bel Hb3.out hal)
    have HKL4 : Hid (w4.heap[w3.heap.size]? = some (.cells #[.int .i64 vk, .int .i64 vi, .string vt, .slice (some ⟨w2.heap.size + 1 + 1, 0, none⟩) m (m + 2)] 45)) := Lib.hid (by rw [hw4]; exact heap_alloc_new w3 _)
    have HSL4 := Lib.hid (HSL.out.later hal)
    clear hal HKA3 HSA3 A0 A1 A2 A3
    have hA := fun j => cell_of_row w4 w.heap.size j _ _ _ HKA4.out
    have A0 := hA 0; have A1 := hA 1; have A2 := hA 2; have A3 := hA 3
    have hL := fun j => cell_of_row w4 w3.heap.size j _ _ _ HKL4.out
    have L0 := hL 0; have L1 := hL 1; have L2 := hL 2; have L3 := hL 3
    simp only [List.getElem?_toArray, List.getElem?_cons_succ, List.getElem?_cons_zero] at A0 A1 A2 A3 L0 L1 L2 L3
    clear hA hL
    have HW4 := Lib.hid hw4
    rw [hw4] at A0 A1 A2 A3 L0 L1 L2 L3
    clear hw4
    have Hrow4 := Lib.hid (keep Hrow.out (by rw [HW4.out]; exact (Below.refl _ _).alloc (Nat.le_refl _) _ : Below w3.heap.size w3 w4))
    go_wp2_with fail
    rw [← HW4.out]
    refine (Within_any ⟨vk, vi, vt, vs⟩ HbV.out lo hi (.slice (some ⟨w2.heap.size + 1 + 1, 0, none⟩) m (m + 2)) w4 (HV.out.later Hb4.out) HSL4.out).mono ?_
    rintro e w5 ⟨rfl, hb⟩
    have Hrow5 := Lib.hid (keep Hrow4.out hb)
    have HKA5 := Lib.hid (keep HKA4.out hb)
    have HSA5 := Lib.hid (HSA4.out.later hb)
    have HKL5 := Lib.hid (keep HKL4.out hb)
    have HSL5 := Lib.hid (HSL4.out.later hb)
    have Hb5 := Lib.hid (then_bel Hb4.out hb)
    clear hb HKA4 HSA4 HKL4 HSL4 A0 A1 A2 A3 L0 L1 L2 L3
    have hA := fun j => cell_of_row w5 w.heap.size j _ _ _ HKA5.out
    have A0 := hA 0; have A1 := hA 1; have A2 := hA 2; have A3 := hA 3
    have hL := fun j => cell_of_row w5 w3.heap.size j _ _ _ HKL5.out
    have L0 := hL 0; have L1 := hL 1; have L2 := hL 2; have L3 := hL 3
    simp only [List.getElem?_toArray, List.getElem?_cons_succ, List.getElem?_cons_zero] at A0 A1 A2 A3 L0 L1 L2 L3
    clear hA hL
    go_wp2_with fail
    have hwh := whole_any ⟨vk, vi, vt, vs⟩ HbV.out (w2.heap.size + 1 + 1) (.slice p m c) w5 Hrow5.out HSA5.out (w2.heap.size + 1 + 1) (Nat.le_refl _) (Nat.le_of_lt (lt_of_block Hrow5.out))
    simp only [rep, Hm.out] at hwh
    refine hwh.mono ?_
    rintro e w6 ⟨rfl, hb⟩
    have hsz : w.heap.size < w2.heap.size + 1 + 1 := by have := (Hb2.out).size; omega
    have Hb6 := Lib.hid ((Hb5.out).trans (hb.mono (Nat.le_of_lt hsz)))
    have hkA := (hb.block w.heap.size hsz).trans HKA5.out
    clear A0 A1 A2 A3 L0 L1 L2 L3
    have hA := fun j => cell_of_row w6 w.heap.size j _ _ _ hkA
    have A0 := hA 0; have A1 := hA 1; have A2 := hA 2; have A3 := hA 3
    simp only [List.getElem?_toArray, List.getElem?_cons_succ, List.getElem?_cons_zero] at A0 A1 A2 A3
    clear hA hkA hb hwh hsz
    have hRW := refWithin_any ⟨vk, vi, vt, vs⟩ HbV.out lo hi (.slice p m c) w6 (HV.out.later Hb6.out) (HSv.out.later Hb6.out)
    generalize within wordL ⟨vk, vi, vt, vs⟩ lo hi = R at *
    go_wp2_with fail
    refine hRW.mono ?_
    rintro e w7 ⟨rfl, hb⟩
    go_wp2_with fail
    go_ret
    exact ⟨ret_bool (by simp), then_bel Hb6.out hb⟩
end Go.Proofs.YtkbamhecbfocbaaDoor.va
