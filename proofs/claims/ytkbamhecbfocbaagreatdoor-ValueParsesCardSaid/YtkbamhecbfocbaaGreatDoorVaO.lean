/- tinderboxlaw04.awake and ValueStands return true. Conditions: the listed variables hold what the program's text lays. -/
import Derived.Test.YtkbamhecbfocbaaGreatDoorVaN
namespace Go.Proofs.YtkbamhecbfocbaaGreatDoor.va
open Go.ChangeShapes Go.WideShapes Go.ChangeAt Go.RowKit gl

theorem keep {w w' : World} {b : Nat} {o : Obj} (h : w.heap[b]? = some o) (hb : Below w.heap.size w w') : w'.heap[b]? = some o := (hb.block _ (lt_of_block h)).trans h
theorem Strs.later {w w' : World} {v : Value} {xs : List ByteArray} (h : Strs w v xs) (hb : Below w.heap.size w w') : Strs w' v xs := h.below hb (Nat.le_refl _)
theorem Vlo.later {w w' : World} (h : Vlo w) (hb : Below w.heap.size w w') : Vlo w' := h.below hb (Nat.le_refl _)
theorem then_bel {w a b : World} (h : Below w.heap.size w a) (hb : Below a.heap.size a b) : Below w.heap.size w b := h.trans (hb.mono h.size)
theorem then_al {w a : World} (h : Below w.heap.size w a) (o : Obj) : Below w.heap.size w (a.alloc o) := h.alloc h.size o

/-- Parse where its answer is known. -/
theorem parsed (k : Int) (s : ByteArray) (hs : s.size ≤ 2147483647) {a b : Int} {t : ByteArray} {ws : List ByteArray} {er : Int} (h : parse wordL k s.data.toList = (⟨a, b, t, ws⟩, er)) (w : World) (hV : Vlo w) :
    Calls Tryz.prog 7 #[.int .i64 k, .string s] w fun e w' => (∃ (p : Option Addr) (n c : Nat), e = .returned (.tuple #[.agg #[.int .i64 a, .int .i64 b, .string t, .slice p n c], .int .i64 er]) ∧ Strs w' (.slice p n c) ws ∧ n = ws.length) ∧ Below w.heap.size w w' :=
  (Parse_any k s hs w hV).mono fun e w' ⟨⟨sl, he, hf⟩, hb⟩ => by
    rw [h] at he hf
    have hst := hf.strs
    obtain ⟨p, c, rfl, hc⟩ := hst
    exact ⟨⟨p, _, c, he, hf.strs, rfl⟩, hb⟩

theorem e1 : parse wordL 3 (⟨#[50, 48, 52, 56, 107]⟩ : ByteArray).data.toList = (⟨3, 2097152, ByteArray.empty, []⟩, 0) := by kernel_rfl
theorem e2 : parse wordL 6 (⟨#[108, 111, 103, 44, 110, 101, 116]⟩ : ByteArray).data.toList = (⟨6, 0, ByteArray.empty, [⟨#[108, 111, 103]⟩, ⟨#[110, 101, 116]⟩]⟩, 0) := by kernel_rfl
theorem e3 : parse wordL 4 (⟨#[53]⟩ : ByteArray).data.toList = (⟨0, 0, ByteArray.empty, []⟩, 40) := by kernel_rfl
theorem e4 : parse wordL 7 (⟨#[111, 110]⟩ : ByteArray).data.toList = (⟨0, 0, ByteArray.empty, []⟩, 1) := by kernel_rfl
theorem e5 : parse wordL 2 (⟨#[52, 54, 49, 49, 54, 56, 54, 48, 49, 56, 52, 50, 55, 51, 56, 55, 57, 48, 53]⟩ : ByteArray).data.toList = (⟨0, 0, ByteArray.empty, []⟩, 41) := by kernel_rfl
def vA : Val := ⟨3, 2097152, ByteArray.empty, []⟩
def vB : Val := ⟨6, 0, ByteArray.empty, [⟨#[108, 111, 103]⟩, ⟨#[110, 101, 116]⟩]⟩
theorem vA_b : Vb vA := ⟨by decide, by decide, by decide, by decide, by decide, by decide⟩
theorem vB_b : Vb vB := ⟨by decide, by decide, by decide, by decide, by decide, by decide⟩
theorem vA_r : right wordL vA = true := by kernel_rfl
theorem vB_r : right wordL vB = true := by kernel_rfl
theorem vA_p : print wordL vA = ([50, 109], 0) := by
  rw [print_t vA_r]
  have hb : best 3 2097152 = 2 := by kernel_rfl
  have hp : prints vA = Lib.itoa (2097152 / unit 3 (uname 3 (best 3 2097152))) ++ uname 3 (best 3 2097152) := rfl
  rw [hp, hb]
  have h2 : (2097152 : Int) / unit 3 (uname 3 2) = 2 := by kernel_rfl
  rw [h2, itoa_pos (by decide), decDigits_lt (by decide)]
  rfl
theorem vB_w1 : within wordL vB 0 2 = true := by kernel_rfl
theorem vB_w2 : within wordL vB 0 1 = false := by kernel_rfl
theorem vAB : decide (vA = vB) = false := by decide
theorem u_d : unit 4 [100] = 86400 := by decide

set_option maxHeartbeats 2000000 in
set_option maxRecDepth 100000 in
theorem awake_any (w : World) (hV : Vlo w) : Calls Tryz.prog 6 #[] w fun e w' => e = .returned (.bool true) ∧ Below w.heap.size w w' := by
  have HV := Lib.hid hV
  clear hV
  go_enter Tryz.func6, Tryz.ntmps6
  go_wp2_with fail
  refine (parsed 3 _ (by decide) e1 w HV.out).mono ?_
  rintro e w1 ⟨⟨p1, n1, c1, rfl, hs1, hn1⟩, hb1⟩
  obtain rfl : n1 = 0 := hn1
  have Hs1 := Lib.hid hs1
  have Hb1 := Lib.hid hb1
  have HV1 := Lib.hid (HV.out.later hb1)
  clear hs1 hb1
  go_wp2_with fail
  have HbA := Lib.hid (then_al Hb1.out (.cells #[.int .i64 3, .int .i64 2097152, .string ByteArray.empty, .slice p1 0 c1] 28))
  refine (Print_any vA vA_b (.slice p1 0 c1) _ (HV.out.later HbA.out) (Hs1.out.later ((Below.refl _ _).alloc (Nat.le_refl _) _))).mono ?_
  rintro e w2 ⟨he2, hb2⟩
  unfold PrintOut at he2
  rw [vA_p] at he2
  subst he2
  have hA2 := Lib.hid (keep (heap_alloc_new w1 _) hb2)
  have Hb2 := Lib.hid (then_bel HbA.out hb2)
  have HV2 := Lib.hid (HV.out.later Hb2.out)
  have Hs2 := Lib.hid (Hs1.out.later (then_bel ((Below.refl _ _).alloc (Nat.le_refl _) _) hb2))
  clear hb2 Hs1
  go_wp2_with fail
  refine (parsed 6 _ (by decide) e2 w2 HV2.out).mono ?_
  rintro e w3 ⟨⟨p3, n3, c3, rfl, hs3, hn3⟩, hb3⟩
  obtain rfl : n3 = 2 := hn3
  have Hs3 := Lib.hid hs3
  have Hb3 := Lib.hid (then_bel Hb2.out hb3)
  have HA3 := Lib.hid (keep hA2.out hb3)
  have HsA3 := Lib.hid (Hs2.out.later hb3)
  clear hs3 hb3 Hs2 hA2
  go_wp2_with fail
  have Hb3a := Lib.hid (then_al Hb3.out (.cells #[.int .i64 6, .int .i64 0, .string ByteArray.empty, .slice p3 2 c3] 28))
  refine (parsed 4 _ (by decide) e3 _ (HV.out.later Hb3a.out)).mono ?_
  rintro e w4 ⟨⟨p4, n4, c4, rfl, _, hn4⟩, hb4⟩
  obtain rfl : n4 = 0 := hn4
  have hal : Below w3.heap.size w3 w4 := then_bel ((Below.refl _ _).alloc (Nat.le_refl _) _) hb4
  have HB4 := Lib.hid (keep (heap_alloc_new w3 _) hb4)
  have HA4 := Lib.hid (keep HA3.out hal)
  have HsA4 := Lib.hid (HsA3.out.later hal)
  have HsB4 := Lib.hid (Hs3.out.later hal)
  have Hb4 := Lib.hid (then_bel Hb3a.out hb4)
  clear hal hb4 HA3 HsA3 Hs3
  go_wp2_with fail
  have Hb4a := Lib.hid (then_al Hb4.out (.cells #[.int .i64 0, .int .i64 0, .string ByteArray.empty, .slice p4 0 c4] 28))
  refine (parsed 7 _ (by decide) e4 _ (HV.out.later Hb4a.out)).mono ?_
  rintro e w5 ⟨⟨p5, n5, c5, rfl, _, hn5⟩, hb5⟩
  obtain rfl : n5 = 0 := hn5
  have hal : Below w4.heap.size w4 w5 := then_bel ((Below.refl _ _).alloc (Nat.le_refl _) _) hb5
  have HB5 := Lib.hid (keep HB4.out hal)
  have HA5 := Lib.hid (keep HA4.out hal)
  have HsA5 := Lib.hid (HsA4.out.later hal)
  have HsB5 := Lib.hid (HsB4.out.later hal)
  have Hb5 := Lib.hid (then_bel Hb4a.out hb5)
  clear hal hb5 HA4 HsA4 HsB4 HB4
  go_wp2_with fail
  have Hb5a := Lib.hid (then_al Hb5.out (.cells #[.int .i64 0, .int .i64 0, .string ByteArray.empty, .slice p5 0 c5] 28))
  refine (parsed 2 _ (by decide) e5 _ (HV.out.later Hb5a.out)).mono ?_
  rintro e w6 ⟨⟨p6, n6, c6, rfl, _, hn6⟩, hb6⟩
  obtain rfl : n6 = 0 := hn6
  have hal : Below w5.heap.size w5 w6 := then_bel ((Below.refl _ _).alloc (Nat.le_refl _) _) hb6
  have HB6 := Lib.hid (keep HB5.out hal)
  have HA6 := Lib.hid (keep HA5.out hal)
  have HsA6 := Lib.hid (HsA5.out.later hal)
  have HsB6 := Lib.hid (HsB5.out.later hal)
  have Hb6 := Lib.hid (then_bel Hb5a.out hb6)
  clear hal hb6 HA5 HsA5 HsB5 HB5
  -- the block of the last value, laid behind w6
  obtain ⟨w7, hw7⟩ : ∃ w7, w7 = w6.alloc (.cells #[.int .i64 0, .int .i64 0, .string ByteArray.empty, .slice p6 0 c6] 28) := ⟨_, rfl⟩
  have hal : Below w6.heap.size w6 w7 := by rw [hw7]; exact (Below.refl _ _).alloc (Nat.le_refl _) _
  have HB7 := Lib.hid (keep HB6.out hal)
  have HA7 := Lib.hid (keep HA6.out hal)
  have HsA7 := Lib.hid (HsA6.out.later hal)
  have HsB7 := Lib.hid (HsB6.out.later hal)
  have Hb7 := Lib.hid (then_bel Hb6.out hal)
  have HW7 := Lib.hid hw7
  clear hal HA6 HsA6 HsB6 HB6
  have hb7 := fun j => cell_of_row w7 w3.heap.size j _ _ _ HB7.out
  have b0 := hb7 0; have b1 := hb7 1; have b2 := hb7 2; have b3 := hb7 3
  have ha7 := fun j => cell_of_row w7 w1.heap.size j _ _ _ HA7.out
  simp only [List.getElem?_toArray, List.getElem?_cons_succ, List.getElem?_cons_zero] at b0 b1 b2 b3
  clear hb7 ha7
  rw [hw7] at b0 b1 b2 b3
  clear hw7
  go_wp2_with fail
  rw [← HW7.out]
  refine (Right_any vB vB_b (.slice p3 2 c3) w7 (HV.out.later Hb7.out) HsB7.out).mono ?_
  rintro e w8 ⟨rfl, hb⟩
  rw [vB_r]
  have HB8 := Lib.hid (keep HB7.out hb)
  have HA8 := Lib.hid (keep HA7.out hb)
  have HsA8 := Lib.hid (HsA7.out.later hb)
  have HsB8 := Lib.hid (HsB7.out.later hb)
  have Hb8 := Lib.hid (then_bel Hb7.out hb)
  clear hb b0 b1 b2 b3 HB7 HA7 HsA7 HsB7
  have hbl := fun j => cell_of_row w8 w3.heap.size j _ _ _ HB8.out
  have b0 := hbl 0; have b1 := hbl 1; have b2 := hbl 2; have b3 := hbl 3
  have hal := fun j => cell_of_row w8 w1.heap.size j _ _ _ HA8.out
  have a0 := hal 0; have a1 := hal 1; have a2 := hal 2; have a3 := hal 3
  simp only [List.getElem?_toArray, List.getElem?_cons_succ, List.getElem?_cons_zero] at b0 b1 b2 b3 a0 a1 a2 a3
  clear hbl hal
  go_wp2_with fail
  refine (Within_any vB vB_b 0 2 (.slice p3 2 c3) w8 (HV.out.later Hb8.out) HsB8.out).mono ?_
  rintro e w9 ⟨rfl, hb⟩
  rw [vB_w1]
  have HB9 := Lib.hid (keep HB8.out hb)
  have HA9 := Lib.hid (keep HA8.out hb)
  have HsA9 := Lib.hid (HsA8.out.later hb)
  have HsB9 := Lib.hid (HsB8.out.later hb)
  have Hb9 := Lib.hid (then_bel Hb8.out hb)
  clear hb b0 b1 b2 b3 a0 a1 a2 a3 HB8 HA8 HsA8 HsB8
  have hbl := fun j => cell_of_row w9 w3.heap.size j _ _ _ HB9.out
  have b0 := hbl 0; have b1 := hbl 1; have b2 := hbl 2; have b3 := hbl 3
  have hal := fun j => cell_of_row w9 w1.heap.size j _ _ _ HA9.out
  have a0 := hal 0; have a1 := hal 1; have a2 := hal 2; have a3 := hal 3
  simp only [List.getElem?_toArray, List.getElem?_cons_succ, List.getElem?_cons_zero] at b0 b1 b2 b3 a0 a1 a2 a3
  clear hbl hal
  go_wp2_with fail
  refine (Within_any vB vB_b 0 1 (.slice p3 2 c3) w9 (HV.out.later Hb9.out) HsB9.out).mono ?_
  rintro e w10 ⟨rfl, hb⟩
  rw [vB_w2]
  have HB10 := Lib.hid (keep HB9.out hb)
  have HA10 := Lib.hid (keep HA9.out hb)
  have HsA10 := Lib.hid (HsA9.out.later hb)
  have HsB10 := Lib.hid (HsB9.out.later hb)
  have Hb10 := Lib.hid (then_bel Hb9.out hb)
  clear hb b0 b1 b2 b3 a0 a1 a2 a3 HB9 HA9 HsA9 HsB9
  have hbl := fun j => cell_of_row w10 w3.heap.size j _ _ _ HB10.out
  have b0 := hbl 0; have b1 := hbl 1; have b2 := hbl 2; have b3 := hbl 3
  have hal := fun j => cell_of_row w10 w1.heap.size j _ _ _ HA10.out
  have a0 := hal 0; have a1 := hal 1; have a2 := hal 2; have a3 := hal 3
  simp only [List.getElem?_toArray, List.getElem?_cons_succ, List.getElem?_cons_zero] at b0 b1 b2 b3 a0 a1 a2 a3
  clear hbl hal
  go_wp2_with fail
  refine (Same_any vA vB (.slice p1 0 c1) (.slice p3 2 c3) w10 HsA10.out HsB10.out (by decide) (by decide)).mono ?_
  rintro e w11 ⟨rfl, hb⟩
  rw [vAB]
  have HB11 := Lib.hid (keep HB10.out hb)
  have HA11 := Lib.hid (keep HA10.out hb)
  have HsA11 := Lib.hid (HsA10.out.later hb)
  have HsB11 := Lib.hid (HsB10.out.later hb)
  have Hb11 := Lib.hid (then_bel Hb10.out hb)
  clear hb b0 b1 b2 b3 a0 a1 a2 a3 HB10 HA10 HsA10 HsB10
  have hbl := fun j => cell_of_row w11 w3.heap.size j _ _ _ HB11.out
  have b0 := hbl 0; have b1 := hbl 1; have b2 := hbl 2; have b3 := hbl 3
  have hal := fun j => cell_of_row w11 w1.heap.size j _ _ _ HA11.out
  have a0 := hal 0; have a1 := hal 1; have a2 := hal 2; have a3 := hal 3
  simp only [List.getElem?_toArray, List.getElem?_cons_succ, List.getElem?_cons_zero] at b0 b1 b2 b3 a0 a1 a2 a3
  clear hbl hal
  obtain ⟨bb, oo, x, rfl, hblt, hx, hcx⟩ := HsB11.out.at 1 (by decide)
  obtain rfl : x = ⟨#[110, 101, 116]⟩ := (Option.some.inj hx).symm
  have hcx' : w11.cell? ⟨bb, oo + 1, none⟩ = some (.string ⟨#[110, 101, 116]⟩) := hcx
  clear hx hcx
  have hU := Unit_any 4 ⟨#[100]⟩ w11 (HV.out.later Hb11.out).units
  rw [u_d] at hU
  have hlen : 2 ≤ c3 := by
    obtain ⟨p', c', e, hc, _⟩ := HsB11.out
    simp only [Value.slice.injEq] at e
    obtain ⟨_, _, rfl⟩ := e
    exact hc
  go_wp2_with fail
  refine hU.mono ?_
  rintro e w12 ⟨rfl, hb⟩
  go_wp2_with fail
  go_ret
  exact ⟨rfl, then_bel Hb11.out hb⟩
end Go.Proofs.YtkbamhecbfocbaaGreatDoor.va
