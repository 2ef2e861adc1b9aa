/- Laws and contracts on which the statement rests, part I: each text says what it proves, and its conditions. -/
import Derived.Test.YthjcifokmcbaoaaGreatDoorMgH
import Derived.WalkLawsBesides
/- StepAlone returns true. Condition: the listed variables hold what the program's text lays. -/
namespace Go.Proofs.YthjcifokmcbaoaaGreatDoor.st
open Go.ChangeShapes Go.WideShapes Go.ChangeAt Go.RowKit gl ls

theorem butS_true (s : Sp) (l : List Pr) : butS s true l = l.filter (spk s) := by unfold butS; congr 1; funext p; simp
theorem butS_false (s : Sp) (l : List Pr) : butS s false l = l.filter fun p => !spk s p := by unfold butS; congr 1; funext p; cases spk s p <;> rfl
theorem alone_facts {l R Rb : List Pr} {s : Sp} {E Eb : Int} (h : applyL l s = (R, E)) (h2 : applyL (butS s true l) s = (Rb, Eb)) (h1 : E ≠ 1) (h3 : E ≠ 163) : Eb = E ∧ (E = 0 → butS s true R = Rb ∧ butS s false R = butS s false l) := by
  have := alone (l := l) (s := s) (by rw [h]; exact h1) (by rw [h]; exact h3)
  rw [← butS_true, h2, h] at this
  simp only at this
  rw [butS_true, butS_false, butS_false]
  exact this
theorem asc_facts {l R : List Pr} {s : Sp} {E : Int} (h : applyL l s = (R, E)) (h0 : E = 0) : Asc R ∧ mayL R = true := by
  have h1 : (applyL l s).2 = 0 := by rw [h]; exact h0
  have h2 := apply_may h1
  obtain ⟨_, _, _, _, ha, _⟩ := apply_ok h1
  rw [h] at h2 ha
  exact ⟨ha, h2⟩
def noneS : Sp := ⟨2, [110, 111, 110, 101], [110, 111, 110, 101], [], []⟩
theorem none_right : rightL noneS = true := by kernel_rfl
theorem none_apply {R : List Pr} (h : mayL R = true) : (applyL R noneS).2 = 0 := by
  rcases apply_made h none_right with ⟨h1, _⟩ | ⟨_, h2, _⟩ | ⟨_, _, h3, _⟩
  · exact absurd rfl h1
  · have : (madeL R noneS).1.length ≤ R.length := List.length_filter_le _ _
    have := may_len' h
    omega
  · exact h3
theorem out_err {l R : List Pr} {s : Sp} {E : Int} (h : applyL l s = (R, E)) (h0 : E ≠ 0) : R = [] := by
  have := apply_err (l := l) (s := s) (by rw [h]; exact h0)
  rw [h] at this
  exact this
theorem lt_parts {y x : Pr} (h : ltP y x = true) : (Op.bytesLess (B y.table).toList (B x.table).toList = true ∧ ((B y.table).toList == (B x.table).toList) = false) ∨ (Op.bytesLess (B y.table).toList (B x.table).toList = false ∧ ((B y.table).toList == (B x.table).toList) = true ∧ Op.bytesLess (B y.key).toList (B x.key).toList = true) := by
  have l1 := lt_bool (B y.table) (B x.table)
  have l2 := lt_bool (B y.key) (B x.key)
  simp only at l1 l2
  unfold ltP at h
  simp only [Bool.or_eq_true, Bool.and_eq_true, decide_eq_true_eq] at h
  cases ht : ltL y.table x.table with
  | true =>
    left
    refine ⟨by rw [l1, ht], ?_⟩
    rw [seq_dec, decide_eq_false_iff_not]
    intro e
    rw [e, ltL_irrefl] at ht
    cases ht
  | false =>
    right
    rcases h with h | ⟨h3, h4⟩
    · rw [ht] at h; cases h
    · exact ⟨by rw [l1, ht], by rw [seq_dec, decide_eq_true h3], by rw [l2, h4]⟩
theorem keepP {w w' : World} {v : Value} {l : List Pr} (h : Hid (Prs w v l)) (hb : Below w.heap.size w w') : Hid (Prs w' v l) := Lib.hid (h.out.later hb)
set_option maxHeartbeats 16000000 in
set_option maxRecDepth 100000 in
theorem stepAlone_any (p : Option Addr) (c : Nat) (l : List Pr) (hm : l.length ≤ 9223372036854775807) (s : Sp) (w : World) (h : Prs w (.slice p l.length c) l) (hS : Slo w) :
    Calls Tryz.prog 7 #[.slice p l.length c, spA s] w fun e w' => e = .returned (.bool true) ∧ Below w.heap.size w w' := by
  have HSW := Lib.hid fun (W : World) => stepWeighs_any s W
  have hsw0 : 0 ≤ stepW s := addU_nn _ _
  have Hsz : Hid (stepW s ≤ 2147483647 → SpSz s) := Lib.hid stepW_sz
  obtain ⟨wA, hA⟩ : ∃ wA, wA = w.alloc (.cells #[.int .i64 s.kind, .string (B s.table), .string (B s.key), .string (B s.to), .string (B s.text)] 42) := ⟨_, rfl⟩
  obtain ⟨hbA, c0, c1, c2, c3, c4⟩ := box1 hA
  have HW := Lib.hid fun (W : World) (hb : Hid (Below wA.heap.size wA W)) => pairsWeigh_any p l.length c l hm W ((h.later hbA).later hb.out)
  have HAw := Lib.hid fun (W : World) (hb : Below wA.heap.size wA W) => awake_any W ((hS.later hbA).later hb)
  have HApp := Lib.hid fun (p' : Option Addr) (m' c' : Nat) (L R : List Pr) (E : Int) (hR : applyL L s = (R, E)) (hm' : m' ≤ 4294967295) (hsz : ∀ x ∈ L, PrSz x) (hs : SpSz s) (W : World) (hb : Below wA.heap.size wA W) (hP : Prs W (.slice p' m' c') L) =>
    (Apply_any p' m' c' L s hm' hsz hs W ((hS.later hbA).later hb) hP).mono (R' := fun e w' => (∃ v, e = .returned (.tuple #[v, .int .i64 E]) ∧ NewPrs W.heap.size w' v R) ∧ Below W.heap.size W w') (by rw [hR]; exact fun e w' h => h)
  have HNo := Lib.hid fun (p' : Option Addr) (m' c' : Nat) (L : List Pr) (hm' : m' ≤ 4294967295) (hmay : mayL L = true) (W : World) (hb : Below wA.heap.size wA W) (hP : Prs W (.slice p' m' c') L) =>
    (Apply_any p' m' c' L noneS hm' (may_sz hmay).1 ⟨by decide, by decide, by decide, by decide⟩ W ((hS.later hbA).later hb) hP).mono (R' := fun e w' => (∃ v, e = .returned (.tuple #[v, .int .i64 0])) ∧ Below W.heap.size W w') (by
      rw [none_apply hmay]
      rintro e w' ⟨⟨v, he, _⟩, hb⟩
      exact ⟨⟨v, he⟩, hb⟩)
  have HBu := Lib.hid fun (p' : Option Addr) (m' c' : Nat) (L : List Pr) (sp : Bool) (hm' : m' ≤ 2147483647) (W : World) (hP : Prs W (.slice p' m' c') L) => but_any p' m' c' L s sp hm' W hP
  have HL := Lib.hid (h.later hbA)
  have HA := Lib.hid hA
  have HbA := Lib.hid hbA
  unfold spA at *
  obtain ⟨m, hlen⟩ : ∃ m, m = l.length := ⟨_, rfl⟩
  rw [← hlen] at hm HW HL ⊢
  have Hlen := Lib.hid hlen
  have C0 := Lib.hid c0
  have C1 := Lib.hid c1
  have C2 := Lib.hid c2
  have C3 := Lib.hid c3
  have C4 := Lib.hid c4
  have hSt := s5_of c0 c1 c2 c3 c4 (Below.refl _ wA)
  clear h hA hbA hS hlen
  obtain ⟨sw, hsw⟩ : ∃ sw, sw = stepW s := ⟨_, rfl⟩
  rw [← hsw] at HSW hsw0 Hsz
  clear hsw
  generalize B s.table = x1 at *
  generalize B s.key = x2 at *
  generalize B s.to = x3 at *
  generalize B s.text = x4 at *
  go_enter Tryz.func7, Tryz.ntmps7
  go_upto_region 1 with (fail)
  rw [← HA.out]
  go_region_held3 (fun w' => w'.cell? ⟨w.heap.size, 0, none⟩ = some (.int .i64 s.kind) ∧ w'.cell? ⟨w.heap.size, 1, none⟩ = some (.string x1) ∧ w'.cell? ⟨w.heap.size, 2, none⟩ = some (.string x2) ∧ w'.cell? ⟨w.heap.size, 3, none⟩ = some (.string x3) ∧ w'.cell? ⟨w.heap.size, 4, none⟩ = some (.string x4) ∧ Hid (Below wA.heap.size wA w'))
    (first | assumption | (with_reducible exact s5_drew (by assumption)))
    (first
      | ((go_at_call 30; (with_reducible refine Calls.mono (HW.out _ (s5_bel (by assumption))) ?_); rintro e w' ⟨⟨N, rfl, hN⟩, hb⟩; have hS' := s5_of c0 c1 c2 c3 c4 (then_bel (s5_bel (by assumption)).out hb); have hN0 := hN.1; have HN := Lib.hid hN; clear hN hb))
      | ((go_at_call 31; (with_reducible refine Calls.mono (HSW.out _) ?_); rintro e w' ⟨rfl, hb⟩; have hS' := s5_of c0 c1 c2 c3 c4 (then_bel (s5_bel (by assumption)).out hb); clear hb))
      | ((go_at_call 29; (with_reducible refine Calls.mono (addsUp_any _ _ _ (by omega) (by omega)) ?_); rintro e w' ⟨rfl, rfl⟩)))
  all_goals
    rename_i hH
    have HB1 := Lib.hid (s5_bel hH).out
    clear hH hSt hS' c0 c1 c2 c3 c4
    have HSum : Hid (addU N sw ≤ 2147483647 → (l.length ≤ 2147483647 ∧ ∀ x ∈ l, PrSz x) ∧ SpSz s) := Lib.hid (fun h => ⟨HN.out.2.2 (addU_parts h).1, Hsz.out (addU_parts h).2⟩)
    generalize addU N sw = S at *
    by_cases hbig : 2147483647 < S
    · have q1 : decide (2147483647 < S) = true := by rw [decide_eq_true_iff]; exact hbig
      rw [q1]
      go_wp2_with fail
      go_ret
      exact ⟨rfl, HbA.out.trans (HB1.out.mono HbA.out.size)⟩
    have q1 : decide (2147483647 < S) = false := by rw [decide_eq_false_iff_not]; exact hbig
    have HZ := Lib.hid (HSum.out (by omega)).1
    have Hs := Lib.hid (HSum.out (by omega)).2
    have hm2 : m ≤ 2147483647 := by rw [Hlen.out]; exact HZ.out.1
    clear HSum hbig HN Hsz
    obtain ⟨R, E, hR⟩ : ∃ R E, applyL l s = (R, E) := ⟨_, _, rfl⟩
    have HR := Lib.hid hR
    have HZR := Lib.hid (out_sz hR)
    obtain ⟨Rb, Eb, hRb⟩ : ∃ Rb Eb, applyL (butS s true l) s = (Rb, Eb) := ⟨_, _, rfl⟩
    have HRb := Lib.hid hRb
    have HZb := Lib.hid (out_sz hRb)
    clear hR hRb
    have Hbl : Hid ((butS s true l).length ≤ m ∧ ∀ x ∈ butS s true l, PrSz x) := Lib.hid ⟨by rw [Hlen.out]; exact List.length_filter_le _ _, fun x hx => HZ.out.2 x (List.mem_filter.1 hx).1⟩
    rw [q1]
    go_wp2_with fail
    refine (HAw.out _ HB1.out).mono ?_
    rintro e w2 ⟨rfl, hb2⟩
    have HB2 := Lib.hid (then_bel HB1.out hb2)
    clear hb2 q1
    have d0 := cell_then C0.out HB2.out
    have d1 := cell_then C1.out HB2.out
    have d2 := cell_then C2.out HB2.out
    have d3 := cell_then C3.out HB2.out
    have d4 := cell_then C4.out HB2.out
    go_wp2_with fail
    refine (HApp.out _ _ _ l R E HR.out (by omega) HZ.out.2 Hs.out _ HB2.out (HL.out.later HB2.out)).mono ?_
    rintro e w3 ⟨⟨v3, rfl, h3⟩, hb3⟩
    obtain ⟨p3, c3, rfl⟩ := h3.form
    have HP3 := Lib.hid (h3.rw prC_len)
    have HB3 := Lib.hid (then_bel HB2.out hb3)
    clear h3 hb3
    clear d0 d1 d2 d3 d4
    have d0 := cell_then C0.out HB3.out
    have d1 := cell_then C1.out HB3.out
    have d2 := cell_then C2.out HB3.out
    have d3 := cell_then C3.out HB3.out
    have d4 := cell_then C4.out HB3.out
    go_wp2_with fail
    refine (HBu.out _ _ _ l true (by omega) _ (HL.out.later HB3.out)).mono ?_
    rintro e w4 ⟨v4, rfl, ho4, hb4⟩
    obtain ⟨p4, c4, rfl⟩ := ho4.prs.form
    have HP4 := Lib.hid ho4.prs
    have HP34 := Lib.hid (HP3.out.later hb4)
    have HB4 := Lib.hid (then_bel HB3.out hb4)
    clear ho4 hb4
    clear d0 d1 d2 d3 d4
    have d0 := cell_then C0.out HB4.out
    have d1 := cell_then C1.out HB4.out
    have d2 := cell_then C2.out HB4.out
    have d3 := cell_then C3.out HB4.out
    have d4 := cell_then C4.out HB4.out
    go_wp2_with fail
    refine (HApp.out _ _ _ (butS s true l) Rb Eb HRb.out (by have := Hbl.out.1; omega) Hbl.out.2 Hs.out _ HB4.out HP4.out).mono ?_
    rintro e w5 ⟨⟨v5, rfl, h5⟩, hb5⟩
    obtain ⟨p5, c5, rfl⟩ := h5.form
    have HP5 := Lib.hid (h5.rw prC_len)
    have HP35 := Lib.hid (HP34.out.later hb5)
    have HB5 := Lib.hid (then_bel HB4.out hb5)
    clear h5 hb5
    clear d0 d1 d2 d3 d4
    by_cases hE1 : E = 1 ∨ E = 163
    · have hR0 : R = [] := out_err HR.out (by rcases hE1 with h | h <;> rw [h] <;> decide)
      subst hR0
      rcases hE1 with rfl | rfl
      all_goals
        go_wp2_with fail
        go_ret
        exact ⟨rfl, HbA.out.trans (HB5.out.mono HbA.out.size)⟩
    have HF := Lib.hid (alone_facts HR.out HRb.out (fun h => hE1 (.inl h)) (fun h => hE1 (.inr h)))
    have q2 : (E == 1) = false := by rw [beq_eq_false_iff_ne]; exact fun h => hE1 (.inl h)
    have q3 : (E == 163) = false := by rw [beq_eq_false_iff_ne]; exact fun h => hE1 (.inr h)
    obtain rfl : Eb = E := HF.out.1
    have q4 : (Eb != Eb) = false := by simp
    clear hE1
    by_cases hE : Eb = 0
    · have q5 : (Eb != 0) = false := by rw [bne_eq_false_iff_eq]; exact hE
      obtain ⟨hF1, hF2⟩ := HF.out.2 hE
      have HF1 := Lib.hid hF1
      have HF2 := Lib.hid hF2
      have HAs := Lib.hid (asc_facts HR.out hE)
      have hzr := HZR.out.2
      have hzb := HZb.out.2
      have Hr : Hid (∀ sp, (butS s sp R).length ≤ R.length) := Lib.hid fun sp => List.length_filter_le _ _
      clear hE hF1 hF2 HF
      have d0 := cell_then C0.out HB5.out
      have d1 := cell_then C1.out HB5.out
      have d2 := cell_then C2.out HB5.out
      have d3 := cell_then C3.out HB5.out
      have d4 := cell_then C4.out HB5.out
      go_wp2_with fail
      refine (HBu.out _ _ _ R true (by omega) _ HP35.out).mono ?_
      rintro e w6 ⟨v6, rfl, ho6, hb6⟩
      obtain ⟨p6, c6, rfl⟩ := ho6.prs.form
      rw [HF1.out] at ho6 ⊢
      have HP6 := Lib.hid ho6.prs
      have HP56 := Lib.hid (HP5.out.later hb6)
      have HP36 := Lib.hid (HP35.out.later hb6)
      have HB6 := Lib.hid (then_bel HB5.out hb6)
      clear ho6 hb6
      go_wp2_with fail
      refine (same_true _ _ _ _ _ _ Rb (by omega) (by omega) _ HP6.out HP56.out).mono ?_
      rintro e w7 ⟨rfl, hb7⟩
      have HP37 := Lib.hid (HP36.out.later hb7)
      have HB7 := Lib.hid (then_bel HB6.out hb7)
      clear hb7
      clear d0 d1 d2 d3 d4
      have d0 := cell_then C0.out HB7.out
      have d1 := cell_then C1.out HB7.out
      have d2 := cell_then C2.out HB7.out
      have d3 := cell_then C3.out HB7.out
      have d4 := cell_then C4.out HB7.out
      go_wp2_with fail
      obtain ⟨X, hX⟩ : ∃ X, X = butS s false l := ⟨_, rfl⟩
      have hXl : X.length ≤ m := by rw [hX, Hlen.out]; exact List.length_filter_le _ _
      have HBR := Lib.hid fun (W : World) (hb : Hid (Below w7.heap.size w7 W)) => (HBu.out p3 R.length c3 R false (by omega) W (HP37.out.later hb.out)).mono (R' := fun e w' => ∃ p8 c8, e = .returned (.slice p8 X.length c8) ∧ Hid (Prs w' (.slice p8 X.length c8) X) ∧ Below W.heap.size W w') (by
        rintro e w' ⟨v, rfl, ho, hb⟩
        rw [HF2.out, ← hX] at ho
        obtain ⟨p8, c8, rfl⟩ := ho.prs.form
        exact ⟨p8, c8, rfl, Lib.hid ho.prs, hb⟩)
      have HBl := Lib.hid fun (W : World) (hb : Hid (Below w7.heap.size w7 W)) => (HBu.out p m c l false (by omega) W (HL.out.later (then_bel HB7.out hb.out))).mono (R' := fun e w' => ∃ p8 c8, e = .returned (.slice p8 X.length c8) ∧ Hid (Prs w' (.slice p8 X.length c8) X) ∧ Below W.heap.size W w') (by
        rintro e w' ⟨v, rfl, ho, hb⟩
        rw [← hX] at ho
        obtain ⟨p8, c8, rfl⟩ := ho.prs.form
        exact ⟨p8, c8, rfl, Lib.hid ho.prs, hb⟩)
      have HSm := Lib.hid fun (W : World) (p8 p9 : Option Addr) (c8 c9 : Nat) (h8 : Hid (Prs W (.slice p8 X.length c8) X)) (h9 : Hid (Prs W (.slice p9 X.length c9) X)) => same_true p8 p9 X.length X.length c8 c9 X (by omega) (by omega) W h8.out h9.out
      generalize hXn : X.length = nx at *
      clear hX hXn
      have hSt := s5_of d0 d1 d2 d3 d4 (Below.refl _ w7)
      go_region_held3 (fun w' => w'.cell? ⟨w.heap.size, 0, none⟩ = some (.int .i64 s.kind) ∧ w'.cell? ⟨w.heap.size, 1, none⟩ = some (.string x1) ∧ w'.cell? ⟨w.heap.size, 2, none⟩ = some (.string x2) ∧ w'.cell? ⟨w.heap.size, 3, none⟩ = some (.string x3) ∧ w'.cell? ⟨w.heap.size, 4, none⟩ = some (.string x4) ∧ Hid (Below w7.heap.size w7 w'))
        (first | assumption | (with_reducible exact s5_drew (by assumption)))
        (first
          | ((go_at_call 38; (with_reducible refine Calls.mono (HBR.out _ (s5_bel (by assumption))) ?_); rintro e w' ⟨p8, c8, rfl, HP8, hb⟩; have hS' := s5_of d0 d1 d2 d3 d4 (then_bel (s5_bel (by assumption)).out hb); clear hb))
          | ((go_at_call 38; (with_reducible refine Calls.mono (HBl.out _ (s5_bel (by assumption))) ?_); rintro e w' ⟨p9, c9, rfl, HP9, hb⟩; have HP8' := keepP (by assumption) hb; have hS' := s5_of d0 d1 d2 d3 d4 (then_bel (s5_bel (by assumption)).out hb); clear hb))
          | ((go_at_call 37; (with_reducible refine Calls.mono (HSm.out _ _ _ _ _ (by assumption) (by assumption)) ?_); rintro e w' ⟨rfl, hb⟩; have hS' := s5_of d0 d1 d2 d3 d4 (then_bel (s5_bel (by assumption)).out hb); clear hb)))
      all_goals
        rename_i hH
        have HB8 := Lib.hid (then_bel HB7.out (s5_bel hH).out)
        have HP38 := keepP HP37 (s5_bel hH).out
        clear hH hSt d0 d1 d2 d3 d4 hS'
        have HRl := Lib.hid (Eq.refl R.length)
        obtain ⟨rn, hrn⟩ : ∃ rn, rn = R.length := ⟨_, rfl⟩
        rw [← hrn] at HP38 hzr ⊢
        have Hrn := Lib.hid hrn
        clear hrn HRl
        go_wp2_with fail
        go_loopw [13] (fun i wr => ∃ n : Nat, 1 ≤ n ∧ n ≤ rn + 1 ∧ i = .int .i64 n ∧ Hid (Prs wr (.slice p3 rn c3) R) ∧ Hid (Below wA.heap.size wA wr)) (fun i _ => rn + 1 - (intOf i).toNat)
        case atStart => exact ⟨1, by omega, by omega, rfl, HP38, HB8⟩
        case round =>
          obtain ⟨n, hn1, hn2, rfl, HPr, Hb⟩ := hrel
          by_cases hlt : n < rn
          · obtain ⟨b, o, rfl, hbl⟩ := HPr.out.ptr.2.2 (by omega)
            obtain ⟨x, hx⟩ : ∃ x, R[n]? = some x := ⟨_, List.getElem?_eq_getElem (by rw [← Hrn.out]; exact hlt)⟩
            obtain ⟨y, hy⟩ : ∃ y, R[n - 1]? = some y := ⟨_, List.getElem?_eq_getElem (by rw [← Hrn.out]; omega)⟩
            obtain ⟨c0, c1, c2⟩ := prs_cells HPr.out hx
            obtain ⟨d0, d1, d2⟩ := prs_cells HPr.out hy
            have hlt2 : ltP y x = true := asc_next HAs.out.1 hy (by rw [show n - 1 + 1 = n by omega]; exact hx)
            have hn3 : IntKind.i64.wrap ((n : Int) - 1) = (n : Int) - 1 := IntWalk.i64_in _ (by omega)
            have hn4 : 0 ≤ (n : Int) - 1 := by omega
            have hn5 : (n : Int) - 1 < (rn : Int) := by omega
            have hn6 : ((n : Int) - 1).toNat = n - 1 := by omega
            have hn7 : (0 : Int) ≤ (n : Int) := by omega
            have hn8 : (n : Int) < (rn : Int) := by omega
            have hn9 : (1 : Int) ≤ (n : Int) := by omega
            have hn10 : (n : Int) < (rn : Int) + 1 := by omega
            clear hx hy
            rcases lt_parts hlt2 with ⟨l1, l2⟩ | ⟨l1, l2, l3⟩
            · clear hlt2
              generalize B x.table = y1 at *
              generalize B x.key = y2 at *
              generalize B x.value = y3 at *
              generalize B y.table = z1 at *
              generalize B y.key = z2 at *
              generalize B y.value = z3 at *
              go_wp2_with fail
              go_quiet (fail)
              go_wp2_with fail
              go_roundw
              case rel => exact ⟨n + 1, by omega, by omega, by go_num, Lib.hid (HPr.out.later (drewN_bel wr _)), Lib.hid (Hb.out.trans ((drewN_bel wr _).mono Hb.out.size))⟩
              case measure => simp [intOf]; omega
            · clear hlt2
              generalize B x.table = y1 at *
              generalize B x.key = y2 at *
              generalize B x.value = y3 at *
              generalize B y.table = z1 at *
              generalize B y.key = z2 at *
              generalize B y.value = z3 at *
              go_wp2_with fail
              go_quiet (fail)
              go_wp2_with fail
              go_roundw
              case rel => exact ⟨n + 1, by omega, by omega, by go_num, Lib.hid (HPr.out.later (drewN_bel wr _)), Lib.hid (Hb.out.trans ((drewN_bel wr _).mono Hb.out.size))⟩
              case measure => simp [intOf]; omega
          · have hn8 : ¬ (n : Int) < (rn : Int) := by omega
            go_wp2_with fail
            refine (HNo.out _ _ _ R (by omega) HAs.out.2 _ Hb.out HPr.out).mono ?_
            rintro e w9 ⟨⟨v9, rfl⟩, hb9⟩
            have HB9 := Lib.hid (then_bel Hb.out hb9)
            clear hb9
            go_wp2_with fail
            go_ret
            exact ⟨rfl, HbA.out.trans (HB9.out.mono HbA.out.size)⟩
    · have q5 : (Eb != 0) = true := by rw [bne_iff_ne]; exact hE
      have hR0 : R = [] := out_err HR.out hE
      have hRb0 : Rb = [] := out_err HRb.out hE
      subst hR0 hRb0
      clear hE
      go_wp2_with fail
      go_ret
      exact ⟨rfl, HbA.out.trans (HB5.out.mono HbA.out.size)⟩
end Go.Proofs.YthjcifokmcbaoaaGreatDoor.st
