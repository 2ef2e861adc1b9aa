/- tinderboxlaw06.IniPrints returns true. Conditions: the lines lie in memory as their list; the tables hold what the text lays. -/
import Derived.Test.YtkbamhecbfocbaaDoorIwP
import Derived.Test.YtkbamhecbfocbaaDoorIwJ
import Derived.Deep.RegionLaw
import Derived.Deep.DeepCutAuto
import Derived.StillTailTactics
namespace Go.Proofs.YtkbamhecbfocbaaDoor.ini
open Go.ChangeShapes Go.WideShapes Go.ChangeAt Go.RowKit gl

theorem egW (args : Array Value) (w : World) : (callFunc 14 args).run Tryd.prog w = .ok (.enter 14 args) w := enters Tryd.func14 (by kernel_rfl) (by kernel_rfl) args w
theorem egA (args : Array Value) (w : World) : (callFunc 11 args).run Tryd.prog w = .ok (.enter 11 args) w := enters Tryd.func11 (by kernel_rfl) (by kernel_rfl) args w
theorem wt_few {l : List Ln} {m : Nat} (hm : l.length = m) (h : wtV l 0 ≤ 2147483647) : m ≤ 214748364 ∧ ∀ x ∈ l, x.name.length ≤ 2147483647 ∧ x.text.length ≤ 2147483647 := by
  have h1 := wt_sum l 0 (by omega) h
  have h2 := ws_len l
  refine ⟨by omega, fun x hx => ?_⟩
  have := ws_mem hx
  omega
theorem go_name {K : Act → World → Prop} {a : Act} {W : World} (h : ∀ W', W' = W → K a W') : K a W := h W rfl
/-- What the lines may weigh. -/
theorem two_small {l : List Ln} {x : Ln} {m : Nat} (hm : l.length = m) (h1 : wtV l 0 ≤ 2147483647) (h2 : wtV [x] 0 ≤ 2147483647) : m ≤ 214748364 ∧ (∀ y ∈ l, y.name.length ≤ 2147483647 ∧ y.text.length ≤ 2147483647) ∧ x.name.length ≤ 2147483647 ∧ x.text.length ≤ 2147483647 := by
  have a := wt_few hm h1
  have b := wt_few (l := [x]) rfl h2
  exact ⟨a.1, a.2, b.2 x (by simp)⟩

set_option maxHeartbeats 4000000 in
set_option maxRecDepth 100000 in
theorem iniPrints_any (p : Option Addr) (c : Nat) (l : List Ln) (hl : l.length ≤ 9223372036854775807) (at_ : Int) (ha1 : -9223372036854775808 ≤ at_) (ha2 : at_ ≤ 9223372036854775807) (x : Ln) (hx : LnOk x) (w : World) (hf : LinesOk w p c l) (hG : Glo w) :
    Calls Tryd.prog 5 #[.slice p l.length c, .int .i64 at_, .agg #[.string (B x.name), .string (B x.text), .int .i64 x.num]] w fun e w' => e = .returned (.bool true) ∧ Below w.heap.size w w' := by
  obtain ⟨m, hm⟩ : ∃ m, m = l.length := ⟨_, rfl⟩
  rw [← hm]
  rw [← hm] at hl
  have Hm := Lib.hid hm
  have hLns := hf.1
  rw [← hm] at hLns
  have hok := hf.2
  have hw0 := wtV_ge l 0 (by omega)
  have hw1 := wtV_le l 0 (by omega) (by omega)
  have hv0 := wtV_ge [x] 0 (by omega)
  have hv1 := wtV_le [x] 0 (by omega) (by omega)
  obtain ⟨w0, hw0e⟩ : ∃ w0, w0 = w.alloc (.cells #[.string (B x.name), .string (B x.text), .int .i64 x.num] 35) := ⟨_, rfl⟩
  have hb0 : Below w.heap.size w w0 := by rw [hw0e]; exact (Below.refl _ _).alloc (Nat.le_refl _) _
  have hz0 : w.heap.size < w0.heap.size := by rw [hw0e]; simp
  have hblk0 : w0.heap[w.heap.size]? = some (.cells #[.string (B x.name), .string (B x.text), .int .i64 x.num] 35 (0, 0)) := by rw [hw0e]; exact heap_alloc_new w _
  have Hw0e := Lib.hid hw0e
  have Hb0 := Lib.hid hb0
  have Hblk0 := Lib.hid hblk0
  have H := Lib.hid (hLns.later hb0)
  have HG := Lib.hid (hG.below hb0 (Nat.le_refl _))
  clear hw0e hb0 hblk0
  have hwx : ∀ y ∈ l, y.name.length ≤ 9223372036854775807 ∧ y.text.length ≤ 9223372036854775807 := fun y hy => ⟨(hok y hy).1, (hok y hy).2.1⟩
  have hxx : ∀ y ∈ [x], y.name.length ≤ 9223372036854775807 ∧ y.text.length ≤ 9223372036854775807 := fun y hy => by
    obtain rfl := List.mem_singleton.1 hy
    exact ⟨hx.1, hx.2.1⟩
  -- the two weights, in any order: the first call of each, and the second
  have HWl : Hid (∀ W, Below w0.heap.size w0 W → Calls Tryd.prog 14 #[.slice p m c] W fun e w' => e = .returned (.int .i64 (wtV l 0)) ∧ ∃ q, w' = W.drewN q) := Lib.hid fun W hW => weight_any p m c l W hl hwx (H.out.later hW)
  have HWx : Hid (∀ (g : Nat) (W : World), W.heap[g]? = some (.cells #[.string (B x.name), .string (B x.text), .int .i64 x.num] 35 (0, 0)) → Calls Tryd.prog 14 #[.slice (some ⟨g, 0, none⟩) 1 1] W fun e w' => e = .returned (.int .i64 (wtV [x] 0)) ∧ ∃ q, w' = W.drewN q) := Lib.hid fun g W hW => weight_any _ 1 1 [x] W (by omega) hxx (lns_lit (l := [x]) hW rfl)
  have HSm : Hid (wtV l 0 ≤ 2147483647 → wtV [x] 0 ≤ 2147483647 → m ≤ 214748364 ∧ (∀ y ∈ l, y.name.length ≤ 2147483647 ∧ y.text.length ≤ 2147483647) ∧ x.name.length ≤ 2147483647 ∧ x.text.length ≤ 2147483647) := Lib.hid fun h1 h2 => two_small hm.symm h1 h2
  generalize wtV l 0 = wt at *
  generalize wtV [x] 0 = vt at *
  have HA1 := Lib.hid fun W => add_any wt vt hw0 (by omega) hv0 (by omega) W
  have L1 : Hid (addV wt vt ≤ 2147483647 → wt ≤ 2147483647 ∧ vt ≤ 2147483647) := Lib.hid fun h => by have := (addV_lo hw0 hv0 h); omega
  have b1 := addV_bd wt vt hw0 hv0
  generalize addV wt vt = a1 at *
  have g0 := cell_in (o := 0) Hblk0.out
  have g1 := cell_in (o := 1) Hblk0.out
  have g2 := cell_in (o := 2) Hblk0.out
  simp only [List.getElem?_toArray, List.getElem?_cons_succ, List.getElem?_cons_zero] at g0 g1 g2
  have HX0 := Lib.hid (show (lnC x) = [.string (B x.name), .string (B x.text), .int .i64 x.num] from rfl)
  generalize B x.name = N1 at *
  generalize B x.text = X1 at *
  generalize x.num = nu at *
  clear hf hG hok hLns hwx hxx hx hm
  go_enter Tryd.func5, Tryd.ntmps5
  go_upto_region 1 with fail
  rw [← Hw0e.out]
  have e0 : ∀ q, (w0.drew.drewN q).cell? ⟨w.heap.size, 0, none⟩ = some (.string N1) := fun q => g0
  have e1 : ∀ q, (w0.drew.drewN q).cell? ⟨w.heap.size, 1, none⟩ = some (.string X1) := fun q => g1
  have e2 : ∀ q, (w0.drew.drewN q).cell? ⟨w.heap.size, 2, none⟩ = some (.int .i64 nu) := fun q => g2
  go_cut [20] (fun b wx => b = .bool (decide (2147483647 < a1)) ∧ Hid (Below w0.heap.size w0 wx))
  case first =>
    go_region_law
      (first
        | (refine step_call (by rfl) 14 _ _ (by rfl) egW #[.slice p m c] (by rfl) _ _ (HWl.out _ (by first | exact Below.refl _ _ | exact (Below.refl _ _).drew | exact ((Below.refl _ _).alloc (Nat.le_refl _) _).drew | exact ((Below.refl _ _).alloc (Nat.le_refl _) _))) ?_; intro wz hwz; obtain ⟨qa, rfl⟩ := hwz)
        | (refine step_call (by rfl) 14 _ _ (by rfl) egW _ (by rfl) _ _ (HWx.out _ _ (by exact heap_alloc_new w0 _)) ?_; intro wz hwz; obtain ⟨qb, rfl⟩ := hwz)
        | (refine step_call (by rfl) 11 _ _ (by rfl) egA _ (by rfl) _ _ (HA1.out _) ?_; intro wz hwz; obtain rfl := hwz))
    all_goals
      refine go_name (fun wA hwA => ?_)
      have hbA : Below w0.heap.size w0 wA := by
        rw [hwA]
        repeat (first | exact Below.refl _ _ | refine then_bel ?_ (drewN_bel _ _) | refine Below.drew ?_ | refine Below.alloc ?_ (by simp) _)
      have HbA := Lib.hid hbA
      clear hwA hbA e0 e1 e2
      go_wp2_with fail
      go_meet
      exact ⟨rfl, HbA⟩
  case rest =>
    obtain ⟨rfl, HbA'⟩ := hcut
    obtain ⟨wA, hwA⟩ : ∃ wA, wA = wc := ⟨_, rfl⟩
    rw [← hwA] at HbA' ⊢
    have HbA := HbA'
    clear hwA HbA' e0 e1 e2
    by_cases hbig : 2147483647 < a1
    · go_wp2_with fail
      go_ret
      exact ⟨rfl, Hb0.out.trans (HbA.out.mono (by omega))⟩
    · obtain ⟨hwt, hvt⟩ := L1.out (by omega)
      obtain ⟨hm2, hlx, hxs⟩ := HSm.out hwt hvt
      have Hlx := Lib.hid hlx
      have Hxs := Lib.hid hxs
      clear hlx hxs HSm L1 HA1 HWl HWx
      go_wp2_with fail
      refine (awake_any _ (HG.out.below HbA.out (Nat.le_refl _))).mono ?_
      rintro e w2 ⟨rfl, hb2⟩
      have Hb2 := Lib.hid (then_bel HbA.out hb2)
      clear hb2
      have hmk := makeLn m (by omega) w2
      obtain ⟨w3, hw3⟩ : ∃ w3, w3 = w2.alloc (.cells (blanksL (m + 2)) 35) := ⟨_, rfl⟩
      have hb23 : Below w2.heap.size w2 w3 := by rw [hw3]; exact (Below.refl _ _).alloc (Nat.le_refl _) _
      have hblk : w3.heap[w2.heap.size]? = some (.cells (blanksL (m + 2)) 35 (0, 0)) := by rw [hw3]; exact heap_alloc_new w2 _
      have hz3 : w2.heap.size < w3.heap.size := by rw [hw3]; simp
      have hz2 : w0.heap.size ≤ w2.heap.size := Hb2.out.size
      obtain ⟨gb, hgb⟩ : ∃ gb, gb = w2.heap.size := ⟨_, rfl⟩
      obtain ⟨w4, hcopy, hO4, hb34, hz34⟩ := copy_ln H.out (by omega) hblk hz2 (then_bel Hb2.out hb23)
      have Hb4 : Hid (Below w0.heap.size w0 w4) := Lib.hid ((then_bel Hb2.out hb23).trans (hb34.mono hz2))
      rw [hw3] at hcopy
      rw [← hgb] at hmk hcopy hO4
      have hgo : goInt (m : Int) = .int .i64 m := rfl
      have hxm : (l ++ [zL, zL])[m]? = some zL := by rw [List.getElem?_append_right (by rw [← Hm.out]; exact Nat.le_refl _), ← Hm.out, Nat.sub_self]; rfl
      have hO5 := hO4.name hxm [115, 112, 97, 114, 101]
      rw [show (l ++ [zL, zL]).set m ⟨[115, 112, 97, 114, 101], zL.text, zL.num⟩ = l ++ [spL, zL] by rw [List.set_append_right _ _ (by rw [← Hm.out]; exact Nat.le_refl _), ← Hm.out, Nat.sub_self]; rfl] at hO5
      have hxm1 : (l ++ [spL, zL])[m + 1]? = some zL := by rw [List.getElem?_append_right (by rw [← Hm.out]; omega), ← Hm.out, show m + 1 - m = 1 by omega]; rfl
      have hO6 := hO5.name hxm1 [115, 112, 97, 114, 101]
      rw [show (l ++ [spL, zL]).set (m + 1) ⟨[115, 112, 97, 114, 101], zL.text, zL.num⟩ = l ++ [spL, spL] by rw [List.set_append_right _ _ (by rw [← Hm.out]; omega), ← Hm.out, show m + 1 - m = 1 by omega]; rfl] at hO6
      have hgw : w0.heap.size ≤ gb := by omega
      have hg4 : gb < w4.heap.size := hO4.lt
      have f4 := hO4.free (m * 3)
      have f5 := hO5.free ((m + 1) * 3)
      obtain ⟨k4, _, _⟩ := hO4.cell hxm
      obtain ⟨k5, _, _⟩ := hO5.cell hxm1
      have Hb6 : Hid (Below w0.heap.size w0 ((w4.setCell ⟨gb, m * 3, none⟩ (.string (B [115, 112, 97, 114, 101]))).setCell ⟨gb, (m + 1) * 3, none⟩ (.string (B [115, 112, 97, 114, 101])))) := Lib.hid ((Hb4.out.setCell (p := ⟨gb, m * 3, none⟩) hgw _).setCell (p := ⟨gb, (m + 1) * 3, none⟩) hgw _)
      replace hO5 := Lib.hid hO5
      replace hO6 := Lib.hid hO6
      have HO4 := Lib.hid hO4
      have hB : B [115, 112, 97, 114, 101] = ⟨#[115, 112, 97, 114, 101]⟩ := rfl
      rw [hB] at hO5 hO6 Hb6 f5 k5
      have hm64 : (m : Int) + 2 ≤ 9223372036854775807 := by omega
      have hms : (0 : Int) ≤ (m : Int) := by omega
      clear hblk hxm hxm1 hO4 hb23 hb34 hz34 hgb hB
      go_wp2_with fail
      obtain ⟨w6, hw6⟩ : ∃ w6, w6 = (w4.setCell ⟨gb, m * 3, none⟩ (.string ⟨#[115, 112, 97, 114, 101]⟩)).setCell ⟨gb, (m + 1) * 3, none⟩ (.string ⟨#[115, 112, 97, 114, 101]⟩) := ⟨_, rfl⟩
      rw [← hw6]
      rw [← hw6] at hO6 Hb6
      clear hw6 k4 k5 f4 f5 hO5 HO4 hcopy hmk hgo
      have hlen2 : (l ++ [spL, spL]).length = m + 2 := by rw [List.length_append, ← Hm.out]; rfl
      have htk : (l ++ [spL, spL]).take m = l := by rw [List.take_append_of_le_length (by rw [← Hm.out]; exact Nat.le_refl _), List.take_of_length_le (by rw [← Hm.out]; exact Nat.le_refl _)]
      have HL6 := hO6.out.lns m (by rw [hlen2]; omega)
      rw [hlen2, htk] at HL6
      have HL6' := Lib.hid HL6
      have Hlen2 := Lib.hid hlen2
      have HP := Lib.hid (print_any _ m (m + 2) l w6 (by omega) Hlx.out HL6 (HG.out.below Hb6.out (Nat.le_refl _)))
      clear HL6 hlen2 htk
      refine HP.out.mono ?_
      rintro e w7 ⟨rfl, hb7⟩
      dsimp only
      have hO7 := Lib.hid (hO6.out.later hb7)
      have Hb7 := Lib.hid (then_bel Hb6.out hb7)
      have HL7 := Lib.hid (HL6'.out.later hb7)
      have HR := Lib.hid (refPrint_any p m c l w7 (by omega) Hlx.out (H.out.later Hb7.out))
      clear hb7 HP
      go_wp2_with fail
      refine HR.out.mono ?_
      rintro e w8 ⟨rfl, hb8⟩
      dsimp only
      have hO8 := Lib.hid (hO7.out.later hb8)
      have Hb8 := Lib.hid (then_bel Hb7.out hb8)
      have HL8 := Lib.hid (HL7.out.later hb8)
      have HS := Lib.hid (same_any _ p m m (m + 2) c l l (by omega) (by omega) w8 HL8.out (H.out.later Hb8.out))
      obtain ⟨T, hT⟩ : ∃ T, T = B (printL l).1 := ⟨_, rfl⟩
      obtain ⟨E, hE⟩ : ∃ E, E = (printL l).2 := ⟨_, rfl⟩
      rw [← hT, ← hE]
      clear hb8 HR hT hE
      go_wp2_with fail
      refine HS.out.mono ?_
      rintro e w9 ⟨r, rfl, hr, q, hw9⟩
      obtain rfl : r = true := by first | exact hr rfl | exact hr trivial | exact hr
      have hb9 : Below w8.heap.size w8 w9 := by rw [hw9]; exact drewN_bel w8 q
      have hO9 := Lib.hid (hO8.out.later hb9)
      have Hb9 := Lib.hid (then_bel Hb8.out hb9)
      clear hw9 hb9 HS hr
      have hxm : (l ++ [spL, spL])[m]? = some spL := by rw [List.getElem?_append_right (by rw [← Hm.out]; exact Nat.le_refl _), ← Hm.out, Nat.sub_self]; rfl
      have hxm1 : (l ++ [spL, spL])[m + 1]? = some spL := by rw [List.getElem?_append_right (by rw [← Hm.out]; omega), ← Hm.out, show m + 1 - m = 1 by omega]; rfl
      obtain ⟨k4, _, _⟩ := hO9.out.cell hxm
      obtain ⟨k5, _, _⟩ := hO9.out.cell hxm1
      rw [show B [115, 112, 97, 114, 101] = ⟨#[115, 112, 97, 114, 101]⟩ from rfl] at k4 k5
      have hg9 : gb < w9.heap.size := hO9.out.lt
      have s1 : (T.toList == T.toList) = true := by simp
      have s2 : (T.toList != T.toList) = false := by simp
      have s3 : (E == E) = true := by simp
      have s4 : (E != E) = false := by simp
      clear hxm hxm1 hO6 hO7 hO8 HL6' HL7 HL8 Hb6 Hb7 Hb8
      clear hm64 hms hz2 hw0 hw1 hv0 hv1 b1 hwt hvt hl hg4 hz3
      go_upto_if 96 with (fail)
      go_cut [] (fun wx => ∃ LB : List Ln, Hid (Lns wx (.slice (some ⟨gb, 0, none⟩) m (m + 2)) LB) ∧ Hid (∀ z ∈ LB, z.name.length ≤ 2147483647 ∧ z.text.length ≤ 2147483647) ∧ Hid (Below w0.heap.size w0 wx))
      case first =>
        by_cases hm0 : m = 0
        · have hmi : ¬ (0 : Int) < (m : Int) := by omega
          clear hm0
          obtain ⟨wB, hwB⟩ : ∃ wB, wB = w9 := ⟨_, rfl⟩
          have HLB : Hid (Lns wB (.slice (some ⟨gb, 0, none⟩) m (m + 2)) l) := Lib.hid (by
            rw [hwB]
            have h := hO9.out.lns m (by rw [Hlen2.out]; omega)
            rwa [Hlen2.out, List.take_append_of_le_length (by rw [← Hm.out]; exact Nat.le_refl _), List.take_of_length_le (by rw [← Hm.out]; exact Nat.le_refl _)] at h)
          have HbB : Hid (Below w0.heap.size w0 wB) := Lib.hid (by rw [hwB]; exact Hb9.out)
          obtain ⟨LB, hLB⟩ : ∃ LB, LB = l := ⟨_, rfl⟩
          have HlB := Hlx
          rw [← hLB] at HLB HlB
          go_wp2_with fail
          go_meet
          rw [hwB] at HLB HbB
          exact ⟨LB, HLB, HlB, HbB⟩
        · have hmi : (0 : Int) < (m : Int) := by omega
          have hpb := pickV_bd at_ m (by omega)
          have HK := Lib.hid fun W => pick_any at_ m (by omega) (by omega) ha1 ha2 W
          obtain ⟨k, hk⟩ : ∃ k : Nat, pickV at_ (m : Int) = (k : Int) := ⟨(pickV at_ (m : Int)).toNat, by omega⟩
          rw [hk] at HK hpb
          clear hk
          have hkm : k < m := by omega
          have hkm2 : (k : Int) < (m : Int) + 2 := by omega
          have u0 := (Hb9.out.cell (p := ⟨w.heap.size, 0, none⟩) hz0).trans g0
          have u1 := (Hb9.out.cell (p := ⟨w.heap.size, 1, none⟩) hz0).trans g1
          have u2 := (Hb9.out.cell (p := ⟨w.heap.size, 2, none⟩) hz0).trans g2
          have hz9 : w.heap.size < w9.heap.size := by have := Hb9.out.size; omega
          go_wp2_with fail
          refine wp_region_still_tail 7 (by kernel_rfl) (by kernel_rfl) ?_
          simp only [List.take_succ_cons, List.take_zero, List.drop_succ_cons, List.drop_zero]
          still_step
          still_step
          still_step
          still_step
          still_call (HK.out _)
          still_step
          still_step
          refine wpStill_nil ?_
          refine go_name (fun wC hwC => ?_)
          have hb9C : Below w9.heap.size w9 wC := by rw [hwC]; exact Below.drew (Below.refl _ w9)
          have hOC := hO9.out.later hb9C
          have HbC := Lib.hid (then_bel Hb9.out hb9C)
          obtain ⟨y, hy⟩ : ∃ y, (l ++ [spL, spL])[k]? = some y := ⟨_, List.getElem?_eq_getElem (by rw [Hlen2.out]; omega)⟩
          obtain ⟨y0, y1, y2⟩ := hOC.cell hy
          have z0 := hOC.free (k * 3)
          have z1 := hOC.free (k * 3 + 1)
          have z2 := hOC.free (k * 3 + 2)
          have hOD := hOC.put hy x
          have hgC : gb < wC.heap.size := hOC.lt
          generalize B y.name = yn at *
          generalize B y.text = yt at *
          generalize y.num = yi at *
          obtain ⟨wB, hwB⟩ : ∃ wB, wB = ((wC.setCell ⟨gb, k * 3, none⟩ (.string N1)).setCell ⟨gb, k * 3 + 1, none⟩ (.string X1)).setCell ⟨gb, k * 3 + 2, none⟩ (.int .i64 nu) := ⟨_, rfl⟩
          obtain ⟨LB, hLB⟩ : ∃ LB, LB = l.set k x := ⟨_, rfl⟩
          have HLB : Hid (Lns wB (.slice (some ⟨gb, 0, none⟩) m (m + 2)) LB) := Lib.hid (by
            have e : wC.setCells gb (k * 3) (lnC x) = wB := by rw [HX0.out, hwB]; rfl
            rw [e] at hOD
            have h := hOD.lns m (by rw [List.length_set, Hlen2.out]; omega)
            have h3 : ((l ++ [spL, spL]).set k x).take m = LB := by
              rw [hLB, List.set_append_left _ _ (by rw [← Hm.out]; exact hkm), List.take_append_of_le_length (by rw [List.length_set, ← Hm.out]; exact Nat.le_refl _), List.take_of_length_le (by rw [List.length_set, ← Hm.out]; exact Nat.le_refl _)]
            rwa [List.length_set, Hlen2.out, h3] at h)
          have HbB : Hid (Below w0.heap.size w0 wB) := Lib.hid (by rw [hwB]; exact ((HbC.out.setCell (p := ⟨gb, k * 3, none⟩) hgw _).setCell (p := ⟨gb, k * 3 + 1, none⟩) hgw _).setCell (p := ⟨gb, k * 3 + 2, none⟩) hgw _)
          have HlB : Hid (∀ z ∈ LB, z.name.length ≤ 2147483647 ∧ z.text.length ≤ 2147483647) := Lib.hid (by
            intro z hz
            rw [hLB] at hz
            rcases List.mem_or_eq_of_mem_set hz with h | rfl
            · exact Hlx.out z h
            · exact Hxs.out)
          clear hOD hOC hb9C hwC hy hLB HK
          go_wp2_with fail
          go_meet
          rw [hwB] at HLB HbB
          exact ⟨LB, HLB, HlB, HbB⟩
      case rest =>
        obtain ⟨LB, HLB', HlB, HbB'⟩ := hcut
        obtain ⟨wB, hwB⟩ : ∃ wB, wB = wc := ⟨_, rfl⟩
        rw [← hwB] at HLB' HbB' ⊢
        have HLB := HLB'
        have HbB := HbB'
        clear hwB HLB' HbB' s1 s2 s3 s4 k4 k5
        go_wp2_with fail
        refine (print_any (some ⟨gb, 0, none⟩) m (m + 2) LB wB (by omega) HlB.out HLB.out (HG.out.below HbB.out (Nat.le_refl _))).mono ?_
        rintro e wE ⟨rfl, hbE⟩
        dsimp only
        have HbE := Lib.hid (then_bel HbB.out hbE)
        have HLE := Lib.hid (HLB.out.later hbE)
        have HRE := Lib.hid (refPrint_any (some ⟨gb, 0, none⟩) m (m + 2) LB wE (by omega) HlB.out HLE.out)
        clear hbE
        go_wp2_with fail
        refine HRE.out.mono ?_
        rintro e wF ⟨rfl, hbF⟩
        dsimp only
        have HbF := Lib.hid (then_bel HbE.out hbF)
        obtain ⟨T2, hT2⟩ : ∃ T2, T2 = B (printL LB).1 := ⟨_, rfl⟩
        obtain ⟨E2, hE2⟩ : ∃ E2, E2 = (printL LB).2 := ⟨_, rfl⟩
        rw [← hT2, ← hE2]
        clear hbF HRE hT2 hE2
        have s1 : (T2.toList == T2.toList) = true := by simp
        have s3 : (E2 == E2) = true := by simp
        go_wp2_with fail
        go_ret
        exact ⟨rfl, Hb0.out.trans (HbF.out.mono (by omega))⟩
end Go.Proofs.YtkbamhecbfocbaaDoor.ini
