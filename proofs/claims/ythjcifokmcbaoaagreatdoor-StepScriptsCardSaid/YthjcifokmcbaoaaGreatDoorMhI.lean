/- Laws and contracts on which the statement rests, part I: each text says what it proves, and its conditions. -/
import Derived.Test.YthjcifokmcbaoaaGreatDoorMhH
import Derived.WalkLawsBesides
/- StepApplies returns true. Condition: the listed variables hold what the program's text lays. -/
namespace Go.Proofs.YthjcifokmcbaoaaGreatDoor.st
open Go.ChangeShapes Go.WideShapes Go.ChangeAt Go.RowKit gl ls

theorem NewPrs.upd {M : Nat} {w w' : World} {S : List Nat} {v : Value} {l : List Pr} (h : NewPrs M w v l) (hu : Upd S w w') (hn : ∀ g ∈ S, g < M) : NewPrs M w' v l := by
  rcases h with h | ⟨g, c, cs, rfl, hc, hg, hbk, h2⟩
  · exact .inl h
  · exact .inr ⟨g, c, cs, rfl, hc, hg, (hu.block g (lt_of_block hbk) fun e => by have := hn g e; omega).trans hbk, h2⟩
theorem s10_of {w0 w' : World} {b d : Nat} {u0 u1 u2 u3 u4 v0 v1 v2 v3 v4 : Value} (h0 : w0.cell? ⟨b, 0, none⟩ = some u0) (h1 : w0.cell? ⟨b, 1, none⟩ = some u1) (h2 : w0.cell? ⟨b, 2, none⟩ = some u2) (h3 : w0.cell? ⟨b, 3, none⟩ = some u3) (h4 : w0.cell? ⟨b, 4, none⟩ = some u4) (h5 : w0.cell? ⟨d, 0, none⟩ = some v0) (h6 : w0.cell? ⟨d, 1, none⟩ = some v1) (h7 : w0.cell? ⟨d, 2, none⟩ = some v2) (h8 : w0.cell? ⟨d, 3, none⟩ = some v3) (h9 : w0.cell? ⟨d, 4, none⟩ = some v4) (hb : Below w0.heap.size w0 w') :
    w'.cell? ⟨b, 0, none⟩ = some u0 ∧ w'.cell? ⟨b, 1, none⟩ = some u1 ∧ w'.cell? ⟨b, 2, none⟩ = some u2 ∧ w'.cell? ⟨b, 3, none⟩ = some u3 ∧ w'.cell? ⟨b, 4, none⟩ = some u4 ∧ w'.cell? ⟨d, 0, none⟩ = some v0 ∧ w'.cell? ⟨d, 1, none⟩ = some v1 ∧ w'.cell? ⟨d, 2, none⟩ = some v2 ∧ w'.cell? ⟨d, 3, none⟩ = some v3 ∧ w'.cell? ⟨d, 4, none⟩ = some v4 ∧ Hid (Below w0.heap.size w0 w') :=
  ⟨cell_then h0 hb, cell_then h1 hb, cell_then h2 hb, cell_then h3 hb, cell_then h4 hb, cell_then h5 hb, cell_then h6 hb, cell_then h7 hb, cell_then h8 hb, cell_then h9 hb, Lib.hid hb⟩
theorem s10_drew {w0 wp : World} {b d : Nat} {u0 u1 u2 u3 u4 v0 v1 v2 v3 v4 : Value} (h : wp.cell? ⟨b, 0, none⟩ = some u0 ∧ wp.cell? ⟨b, 1, none⟩ = some u1 ∧ wp.cell? ⟨b, 2, none⟩ = some u2 ∧ wp.cell? ⟨b, 3, none⟩ = some u3 ∧ wp.cell? ⟨b, 4, none⟩ = some u4 ∧ wp.cell? ⟨d, 0, none⟩ = some v0 ∧ wp.cell? ⟨d, 1, none⟩ = some v1 ∧ wp.cell? ⟨d, 2, none⟩ = some v2 ∧ wp.cell? ⟨d, 3, none⟩ = some v3 ∧ wp.cell? ⟨d, 4, none⟩ = some v4 ∧ Hid (Below w0.heap.size w0 wp)) :
    wp.drew.cell? ⟨b, 0, none⟩ = some u0 ∧ wp.drew.cell? ⟨b, 1, none⟩ = some u1 ∧ wp.drew.cell? ⟨b, 2, none⟩ = some u2 ∧ wp.drew.cell? ⟨b, 3, none⟩ = some u3 ∧ wp.drew.cell? ⟨b, 4, none⟩ = some u4 ∧ wp.drew.cell? ⟨d, 0, none⟩ = some v0 ∧ wp.drew.cell? ⟨d, 1, none⟩ = some v1 ∧ wp.drew.cell? ⟨d, 2, none⟩ = some v2 ∧ wp.drew.cell? ⟨d, 3, none⟩ = some v3 ∧ wp.drew.cell? ⟨d, 4, none⟩ = some v4 ∧ Hid (Below w0.heap.size w0 wp.drew) := by
  obtain ⟨h0, h1, h2, h3, h4, h5, h6, h7, h8, h9, hb⟩ := h
  exact ⟨h0, h1, h2, h3, h4, h5, h6, h7, h8, h9, Lib.hid hb.out.drew⟩
theorem s10_bel {w0 wp : World} {b d : Nat} {u0 u1 u2 u3 u4 v0 v1 v2 v3 v4 : Value} (h : wp.cell? ⟨b, 0, none⟩ = some u0 ∧ wp.cell? ⟨b, 1, none⟩ = some u1 ∧ wp.cell? ⟨b, 2, none⟩ = some u2 ∧ wp.cell? ⟨b, 3, none⟩ = some u3 ∧ wp.cell? ⟨b, 4, none⟩ = some u4 ∧ wp.cell? ⟨d, 0, none⟩ = some v0 ∧ wp.cell? ⟨d, 1, none⟩ = some v1 ∧ wp.cell? ⟨d, 2, none⟩ = some v2 ∧ wp.cell? ⟨d, 3, none⟩ = some v3 ∧ wp.cell? ⟨d, 4, none⟩ = some v4 ∧ Hid (Below w0.heap.size w0 wp)) : Hid (Below w0.heap.size w0 wp) := h.2.2.2.2.2.2.2.2.2.2
theorem s5o_drew {w0 wp : World} {b n : Nat} {u0 u1 u2 u3 u4 : Value} (h : wp.cell? ⟨b, n, none⟩ = some u0 ∧ wp.cell? ⟨b, n + 1, none⟩ = some u1 ∧ wp.cell? ⟨b, n + 2, none⟩ = some u2 ∧ wp.cell? ⟨b, n + 3, none⟩ = some u3 ∧ wp.cell? ⟨b, n + 4, none⟩ = some u4 ∧ Hid (Below w0.heap.size w0 wp)) :
    wp.drew.cell? ⟨b, n, none⟩ = some u0 ∧ wp.drew.cell? ⟨b, n + 1, none⟩ = some u1 ∧ wp.drew.cell? ⟨b, n + 2, none⟩ = some u2 ∧ wp.drew.cell? ⟨b, n + 3, none⟩ = some u3 ∧ wp.drew.cell? ⟨b, n + 4, none⟩ = some u4 ∧ Hid (Below w0.heap.size w0 wp.drew) := ⟨h.1, h.2.1, h.2.2.1, h.2.2.2.1, h.2.2.2.2.1, Lib.hid h.2.2.2.2.2.out.drew⟩
theorem s5o_bel {w0 wp : World} {b n : Nat} {u0 u1 u2 u3 u4 : Value} (h : wp.cell? ⟨b, n, none⟩ = some u0 ∧ wp.cell? ⟨b, n + 1, none⟩ = some u1 ∧ wp.cell? ⟨b, n + 2, none⟩ = some u2 ∧ wp.cell? ⟨b, n + 3, none⟩ = some u3 ∧ wp.cell? ⟨b, n + 4, none⟩ = some u4 ∧ Hid (Below w0.heap.size w0 wp)) : Hid (Below w0.heap.size w0 wp) := h.2.2.2.2.2
theorem s5o_of {w0 wp : World} {b n : Nat} {u0 u1 u2 u3 u4 : Value} (h0 : w0.cell? ⟨b, n, none⟩ = some u0) (h1 : w0.cell? ⟨b, n + 1, none⟩ = some u1) (h2 : w0.cell? ⟨b, n + 2, none⟩ = some u2) (h3 : w0.cell? ⟨b, n + 3, none⟩ = some u3) (h4 : w0.cell? ⟨b, n + 4, none⟩ = some u4) (hb : Below w0.heap.size w0 wp) :
    wp.cell? ⟨b, n, none⟩ = some u0 ∧ wp.cell? ⟨b, n + 1, none⟩ = some u1 ∧ wp.cell? ⟨b, n + 2, none⟩ = some u2 ∧ wp.cell? ⟨b, n + 3, none⟩ = some u3 ∧ wp.cell? ⟨b, n + 4, none⟩ = some u4 ∧ Hid (Below w0.heap.size w0 wp) :=
  ⟨cell_then h0 hb, cell_then h1 hb, cell_then h2 hb, cell_then h3 hb, cell_then h4 hb, Lib.hid hb⟩
set_option maxHeartbeats 16000000 in
set_option maxRecDepth 100000 in
theorem stepApplies_any (p : Option Addr) (c : Nat) (l : List Pr) (hm : l.length ≤ 9223372036854775807) (s o : Sp) (w : World) (h : Prs w (.slice p l.length c) l) (hS : Slo w) :
    Calls Tryz.prog 5 #[.slice p l.length c, spA s, spA o] w fun e w' => e = .returned (.bool true) ∧ Below w.heap.size w w' := by
  have HSW := Lib.hid fun (W : World) => stepWeighs_any s W
  have HOW := Lib.hid fun (W : World) => stepWeighs_any o W
  have hsw0 : 0 ≤ stepW s := addU_nn _ _
  have how0 : 0 ≤ stepW o := addU_nn _ _
  have hso0 : 0 ≤ addU (stepW s) (stepW o) := addU_nn _ _
  have Hsz : Hid (stepW s ≤ 2147483647 → SpSz s) := Lib.hid stepW_sz
  have Hoz : Hid (stepW o ≤ 2147483647 → SpSz o) := Lib.hid stepW_sz
  obtain ⟨wA, hA⟩ : ∃ wA, wA = w.alloc (.cells #[.int .i64 s.kind, .string (B s.table), .string (B s.key), .string (B s.to), .string (B s.text)] 42) := ⟨_, rfl⟩
  obtain ⟨hbA, c0, c1, c2, c3, c4⟩ := box1 hA
  obtain ⟨wB, hB⟩ : ∃ wB, wB = wA.alloc (.cells #[.int .i64 o.kind, .string (B o.table), .string (B o.key), .string (B o.to), .string (B o.text)] 42) := ⟨_, rfl⟩
  obtain ⟨hbB, f0, f1, f2, f3, f4⟩ := box1 hB
  have hzA : wA.heap.size = w.heap.size + 1 := by rw [hA]; simp
  rw [hzA] at f0 f1 f2 f3 f4
  replace c0 := cell_then c0 hbB
  replace c1 := cell_then c1 hbB
  replace c2 := cell_then c2 hbB
  replace c3 := cell_then c3 hbB
  replace c4 := cell_then c4 hbB
  have hbAB := then_bel hbA hbB
  have HW := Lib.hid fun (W : World) (hb : Hid (Below wB.heap.size wB W)) => pairsWeigh_any p l.length c l hm W ((h.later hbAB).later hb.out)
  have HAw := Lib.hid fun (W : World) (hb : Below wB.heap.size wB W) => awake_any W ((hS.later hbAB).later hb)
  have HApp := Lib.hid fun (p' : Option Addr) (m' c' : Nat) (x : Sp) (R : List Pr) (E : Int) (hR : applyL l x = (R, E)) (hm' : m' ≤ 4294967295) (hsz : ∀ x ∈ l, PrSz x) (hs : SpSz x) (W : World) (hb : Below wB.heap.size wB W) (hP : Prs W (.slice p' m' c') l) =>
    (Apply_any p' m' c' l x hm' hsz hs W ((hS.later hbAB).later hb) hP).mono (R' := fun e w' => (∃ v, e = .returned (.tuple #[v, .int .i64 E]) ∧ NewPrs W.heap.size w' v R) ∧ Below W.heap.size W w') (by rw [hR]; exact fun e w' h => h)
  have HRef := Lib.hid fun (p' : Option Addr) (m' c' : Nat) (x : Sp) (R : List Pr) (E : Int) (hR : applyL l x = (R, E)) (hm' : m' ≤ 4294967295) (hsz : ∀ x ∈ l, PrSz x) (hs : SpSz x) (W : World) (hP : Prs W (.slice p' m' c') l) =>
    (refApply_any p' m' c' l x hm' hsz hs W hP).mono (R' := fun e w' => (∃ v, e = .returned (.tuple #[v, .int .i64 E]) ∧ RefP (.slice p' m' c') W.heap.size w' v R) ∧ Below W.heap.size W w') (by rw [hR]; exact fun e w' h => h)
  obtain ⟨ask, has⟩ : ∃ ask : List Sp, ask = [s, s, o, s] := ⟨_, rfl⟩
  have hasl : ask.length = 4 := by rw [has]; rfl
  have Has : Hid (SpSz s → SpSz o → ∀ x ∈ ask, SpSz x) := Lib.hid fun h1 h2 x hx => by
    rw [has] at hx
    simp only [List.mem_cons, List.not_mem_nil, or_false] at hx
    rcases hx with rfl | rfl | rfl | rfl <;> assumption
  have HLit : Hid (∀ W : World, Sps (W.alloc (.cells #[.int .i64 s.kind, .string (B s.table), .string (B s.key), .string (B s.to), .string (B s.text), .int .i64 s.kind, .string (B s.table), .string (B s.key), .string (B s.to), .string (B s.text), .int .i64 o.kind, .string (B o.table), .string (B o.key), .string (B o.to), .string (B o.text), .int .i64 s.kind, .string (B s.table), .string (B s.key), .string (B s.to), .string (B s.text)] 42)) (.slice (some ⟨W.heap.size, 0, none⟩) 4 4) ask) := Lib.hid fun W => by
    rw [has]
    exact rw.rw_lit spC_len (l := [s, s, o, s]) (heap_alloc_new W _) rfl
  have HL := Lib.hid (h.later hbAB)
  have HA := Lib.hid hA
  have HB := Lib.hid hB
  have HbA := Lib.hid hbAB
  have hzB : wB.heap.size = w.heap.size + 2 := by rw [hB]; simp [hzA]
  have Hasl := Lib.hid hasl
  unfold spA at *
  obtain ⟨m, hlen⟩ : ∃ m, m = l.length := ⟨_, rfl⟩
  rw [← hlen] at hm HW HL ⊢
  have Hlen := Lib.hid hlen
  have HI1 := info_parts infoPs
  obtain ⟨i1, hi, hz0, hz1, hz2'⟩ := HI1

  have C0 := Lib.hid c0
  have F0 := Lib.hid f0
  have C1 := Lib.hid c1
  have F1 := Lib.hid f1
  have C2 := Lib.hid c2
  have F2 := Lib.hid f2
  have C3 := Lib.hid c3
  have F3 := Lib.hid f3
  have C4 := Lib.hid c4
  have F4 := Lib.hid f4
  have hSt := s10_of c0 c1 c2 c3 c4 f0 f1 f2 f3 f4 (Below.refl _ wB)
  clear h hA hB hbA hbB hbAB hS hlen has hasl
  obtain ⟨sw, hsw⟩ : ∃ sw, sw = stepW s := ⟨_, rfl⟩
  obtain ⟨ow, how⟩ : ∃ ow, ow = stepW o := ⟨_, rfl⟩
  rw [← hsw] at HSW hsw0 Hsz hso0
  rw [← how] at HOW how0 Hoz hso0
  clear hsw how
  generalize B s.table = x1 at *
  generalize B o.table = y1 at *
  generalize B s.key = x2 at *
  generalize B o.key = y2 at *
  generalize B s.to = x3 at *
  generalize B o.to = y3 at *
  generalize B s.text = x4 at *
  generalize B o.text = y4 at *
  go_enter Tryz.func5, Tryz.ntmps5
  go_upto_region 1 with (fail)
  try rw [← HA.out]
  try rw [← HB.out]
  go_region_held3 (fun w' => w'.cell? ⟨w.heap.size, 0, none⟩ = some (.int .i64 s.kind) ∧ w'.cell? ⟨w.heap.size, 1, none⟩ = some (.string x1) ∧ w'.cell? ⟨w.heap.size, 2, none⟩ = some (.string x2) ∧ w'.cell? ⟨w.heap.size, 3, none⟩ = some (.string x3) ∧ w'.cell? ⟨w.heap.size, 4, none⟩ = some (.string x4) ∧ w'.cell? ⟨w.heap.size + 1, 0, none⟩ = some (.int .i64 o.kind) ∧ w'.cell? ⟨w.heap.size + 1, 1, none⟩ = some (.string y1) ∧ w'.cell? ⟨w.heap.size + 1, 2, none⟩ = some (.string y2) ∧ w'.cell? ⟨w.heap.size + 1, 3, none⟩ = some (.string y3) ∧ w'.cell? ⟨w.heap.size + 1, 4, none⟩ = some (.string y4) ∧ Hid (Below wB.heap.size wB w'))
    (first | assumption | (with_reducible exact s10_drew (by assumption)))
    (first
      | ((go_at_call 30; (with_reducible refine Calls.mono (HW.out _ (s10_bel (by assumption))) ?_); rintro e w' ⟨⟨N, rfl, hN⟩, hb⟩; have hS' := s10_of c0 c1 c2 c3 c4 f0 f1 f2 f3 f4 (then_bel (s10_bel (by assumption)).out hb); have hN0 := hN.1; have HN := Lib.hid hN; clear hN hb))
      | ((go_at_call 31; (with_reducible refine Calls.mono (HSW.out _) ?_); rintro e w' ⟨rfl, hb⟩; have hS' := s10_of c0 c1 c2 c3 c4 f0 f1 f2 f3 f4 (then_bel (s10_bel (by assumption)).out hb); clear hb))
      | ((go_at_call 31; (with_reducible refine Calls.mono (HOW.out _) ?_); rintro e w' ⟨rfl, hb⟩; have hS' := s10_of c0 c1 c2 c3 c4 f0 f1 f2 f3 f4 (then_bel (s10_bel (by assumption)).out hb); clear hb))
      | ((go_at_call 29; (with_reducible refine Calls.mono (addsUp_any _ _ _ (by omega) (by omega)) ?_); rintro e w' ⟨rfl, rfl⟩)))
  all_goals
    rename_i hH
    have HB1 := Lib.hid (s10_bel hH).out
    clear hH hSt hS' c0 c1 c2 c3 c4 f0 f1 f2 f3 f4
    have HSum : Hid (addU N (addU sw ow) ≤ 2147483647 → (l.length ≤ 2147483647 ∧ ∀ x ∈ l, PrSz x) ∧ ∀ x ∈ ask, SpSz x) := Lib.hid (fun h => ⟨HN.out.2.2 (addU_parts h).1, Has.out (Hsz.out (addU_parts (addU_parts h).2).1) (Hoz.out (addU_parts (addU_parts h).2).2)⟩)
    generalize addU N (addU sw ow) = S at *
    by_cases hbig : 2147483647 < S
    · have q1 : decide (2147483647 < S) = true := by rw [decide_eq_true_iff]; exact hbig
      rw [q1]
      go_wp2_with fail
      go_ret
      exact ⟨rfl, HbA.out.trans (HB1.out.mono HbA.out.size)⟩
    have q1 : decide (2147483647 < S) = false := by rw [decide_eq_false_iff_not]; exact hbig
    have HZ := Lib.hid (HSum.out (by omega)).1
    have Hs := Lib.hid (HSum.out (by omega)).2
    have hm2 : m ≤ 2147483647 := by rw [Hlen.out]; exact HZ.out.1
    clear HSum hbig HN Hsz Hoz Has
    rw [q1]
    go_wp2_with fail
    refine (HAw.out _ HB1.out).mono ?_
    rintro e w2 ⟨rfl, hb2⟩
    have HB2 := Lib.hid (then_bel HB1.out hb2)
    clear hb2 q1
    have d0 := cell_then C0.out HB2.out
    have e0 := cell_then F0.out HB2.out
    have d1 := cell_then C1.out HB2.out
    have e1 := cell_then F1.out HB2.out
    have d2 := cell_then C2.out HB2.out
    have e2 := cell_then F2.out HB2.out
    have d3 := cell_then C3.out HB2.out
    have e3 := cell_then F3.out HB2.out
    have d4 := cell_then C4.out HB2.out
    have e4 := cell_then F4.out HB2.out
    have hz2 := HB2.out.size
    have hSps := HLit.out w2
    obtain ⟨wL, hwL⟩ : ∃ wL, wL = w2.alloc (.cells #[.int .i64 s.kind, .string x1, .string x2, .string x3, .string x4, .int .i64 s.kind, .string x1, .string x2, .string x3, .string x4, .int .i64 o.kind, .string y1, .string y2, .string y3, .string y4, .int .i64 s.kind, .string x1, .string x2, .string x3, .string x4] 42) := ⟨_, rfl⟩
    have hbL : Below w2.heap.size w2 wL := by rw [hwL]; exact (Below.refl _ _).alloc (Nat.le_refl _) _
    have hzL : w2.heap.size < wL.heap.size := by rw [hwL]; simp
    go_wp2_with fail
    rw [← hwL] at hSps ⊢
    have HSps := Lib.hid hSps
    have HBL := Lib.hid (then_bel HB2.out hbL)
    have hzBL := HBL.out.size
    clear hSps hwL hbL HLit d0 d1 d2 d3 d4 e0 e1 e2 e3 e4
    go_loopw [9, 10, 11] (fun lv wv i wr => ∃ (j : Nat) (pl pw : Option Addr) (cl cw : Nat) (rs : List ls.LR) (lss : List (List Pr)) (vw : List Value), j ≤ 4 ∧ i = .int .i64 j ∧ lv = .slice pl j cl ∧ wv = .slice pw j cw ∧ Hid (PL wL.heap.size (.slice p m c) l wr j pl cl pw cw rs lss vw) ∧ Hid (Below wL.heap.size wL wr)) (fun _ _ i _ => 4 - (intOf i).toNat)
    case atStart => exact ⟨0, none, none, 0, 0, [], [], [], by omega, rfl, rfl, rfl, Lib.hid (PL.start _ _ _ _), Lib.hid (Below.refl _ _)⟩
    case round =>
      obtain ⟨j, pl, pw, cl, cw, rs, lss, vw, hj, rfl, rfl, rfl, Hpl, Hb⟩ := hrel
      have hzr := Hb.out.size
      have HBr := Lib.hid (then_bel HBL.out Hb.out)
      have HLr := Lib.hid (HL.out.later HBr.out)
      by_cases hlt : j < 4
      · obtain ⟨x, hx⟩ : ∃ x, ask[j]? = some x := ⟨_, List.getElem?_eq_getElem (by rw [Hasl.out]; exact hlt)⟩
        have Hxs := Lib.hid (Hs.out x (List.mem_of_getElem? hx))
        obtain ⟨k0, k1, k2, k3, k4⟩ := sps_cells (HSps.out.later Hb.out) hx
        simp only [Nat.zero_add] at k0 k1 k2 k3 k4
        have hgs : w2.heap.size < wr.heap.size := by omega
        obtain ⟨R, E, hR⟩ : ∃ R E, applyL l x = (R, E) := ⟨_, _, rfl⟩
        have HAx := Lib.hid fun (p' : Option Addr) (c' : Nat) (W : World) (hb : Below wB.heap.size wB W) (hP : Prs W (.slice p' m c') l) => HApp.out p' m c' x R E hR (by omega) HZ.out.2 Hxs.out W hb hP
        have HRx := Lib.hid fun (W : World) (hP : Prs W (.slice p m c) l) => HRef.out p m c x R E hR (by omega) HZ.out.2 Hxs.out W hP
        have hn5 := (out_sz hR).2
        clear hx hR Hxs
        generalize B x.table = z1 at *
        generalize B x.key = z2 at *
        generalize B x.to = z3 at *
        generalize B x.text = z4 at *
        have hji : (j : Int) < 4 := by omega
        have hj5 : (0 : Int) ≤ (j : Int) := by omega
        go_wp2_with fail
        refine (lent_any p m c l hm2 wr HLr.out).mono ?_
        rintro e w3 ⟨rfl, hL3, hb3⟩
        have HL3 := Lib.hid hL3
        have Hb3 := Lib.hid hb3
        have hg3 : wr.heap.size < w3.heap.size := hL3.lt
        have r0 := cell_then k0 hb3
        have r1 := cell_then k1 hb3
        have r2 := cell_then k2 hb3
        have r3 := cell_then k3 hb3
        have r4 := cell_then k4 hb3
        have K0 := Lib.hid k0
        have K1 := Lib.hid k1
        have K2 := Lib.hid k2
        have K3 := Lib.hid k3
        have K4 := Lib.hid k4
        have hmi : (m : Int) ≤ (m : Int) + 3 := by omega
        clear hL3 hb3 k0 k1 k2 k3 k4
        have HB3 := Lib.hid (then_bel HBr.out Hb3.out)
        have hSt := s5o_of r0 r1 r2 r3 r4 (Below.refl _ w3)
        go_upto_region 11 with (fail)
        go_region_held3 (fun w' => w'.cell? ⟨w2.heap.size, j * 5, none⟩ = some (.int .i64 x.kind) ∧ w'.cell? ⟨w2.heap.size, j * 5 + 1, none⟩ = some (.string z1) ∧ w'.cell? ⟨w2.heap.size, j * 5 + 2, none⟩ = some (.string z2) ∧ w'.cell? ⟨w2.heap.size, j * 5 + 3, none⟩ = some (.string z3) ∧ w'.cell? ⟨w2.heap.size, j * 5 + 4, none⟩ = some (.string z4) ∧ Hid (Below w3.heap.size w3 w'))
          (first | assumption | (with_reducible exact s5o_drew (by assumption)))
          (first
            | ((go_at_call 33; (with_reducible refine Calls.mono (HAx.out _ _ _ (then_bel HB3.out (s5o_bel (by assumption)).out) (lent_take Hlen.out.symm (HL3.out.later (s5o_bel (by assumption)).out))) ?_); rintro e w' ⟨⟨v4, rfl, hn4⟩, hb4⟩; obtain ⟨p4, c4, rfl⟩ := NewPrs.form hn4; have HN4 : Hid (NewPrs w3.heap.size _ (.slice p4 R.length c4) R) := Lib.hid (rw.NewRw.mono hn4 (s5o_bel (by assumption)).out.size); have Hb34 := Lib.hid (then_bel (s5o_bel (by assumption)).out hb4); have hS' := s5o_of r0 r1 r2 r3 r4 Hb34.out; clear hn4 hb4)))
        rename_i hH
        have Hb4 := Lib.hid (then_bel Hb3.out Hb34.out)
        have hz4 := Hb4.out.size
        clear hSt hS' hH r0 r1 r2 r3 r4
        go_wp2_with fail
        refine (whole_any wr.heap.size p m c l hm2 _ (HL3.out.later Hb34.out) (HLr.out.later Hb4.out)).mono ?_
        rintro e w5 ⟨rfl, hu5⟩
        have hb5 : Below wr.heap.size wr w5 := Hb4.out.trans (hu5.below (fun k hk => by rw [List.mem_singleton.1 hk]; exact Nat.le_refl _) hz4)
        have HN5 := Lib.hid (NewPrs.upd HN4.out hu5 (fun k hk => by rw [List.mem_singleton.1 hk]; exact hg3))
        have Hb5 := Lib.hid hb5
        have r0 := cell_then K0.out hb5
        have r1 := cell_then K1.out hb5
        have r2 := cell_then K2.out hb5
        have r3 := cell_then K3.out hb5
        have r4 := cell_then K4.out hb5
        have hz5 := hb5.size
        clear hu5 hb5 HN4 HL3 Hb34 K0 K1 K2 K3 K4
        go_wp2_with fail
        refine (HRx.out w5 (HLr.out.later Hb5.out)).mono ?_
        rintro e w6 ⟨⟨v6, rfl, hr6⟩, hb6⟩
        obtain ⟨p6, c6, rfl⟩ := hr6.prs.form
        have HW6 := Lib.hid (Want.of (M := wL.heap.size) (a0 := .slice p m c) (l0 := l) hr6 (by omega) (.inr ⟨rfl, rfl⟩) (HLr.out.later Hb5.out) hb6)
        have HN6 := Lib.hid ((NewPrs.keep HN5.out (ls.SK.of_below hb6)).mono (show wr.heap.size ≤ w3.heap.size by omega))
        have Hb6 := Lib.hid (then_bel Hb5.out hb6)
        have hz6 := Hb6.out.size
        have Hpl6 := Lib.hid (Hpl.out.keep Hb6.out)
        have HbL6 := Lib.hid (Hb.out.trans (Hb6.out.mono hzr))
        have Hfr := Lib.hid (Hpl.out.fresh (R := ⟨p4, R.length, c4⟩) (l := R) HN6.out)
        have hE : (E != E) = false := by simp
        clear hr6 hb6 r0 r1 r2 r3 r4
        focus
          go_wp2_with (at_builtin; go_must (refine wpList_append_lit rfl _ _ 47 rfl 44 i1 _ 24 Tryz.underlying47 hi hz0 hz1 hz2' rfl _ 1 (by omega) (by rfl) (by rfl) wL.heap.size _ j _ (by rfl) Hpl6.out.ownl (by simp [Value.oneCell']) (by omega) (by omega) (by omega) ?_))
        intro ga ca wa hown hgrow hat hza hlta
        have Hown := Lib.hid hown
        have Hgrow := Lib.hid hgrow
        have Hat := Lib.hid hat
        have HWa := Lib.hid (Hpl6.out.wantAt hgrow)
        have hzwa : wL.heap.size ≤ wa.heap.size := by have := hgrow.size; omega
        have Hbwa := Lib.hid (below_grown_own HbL6.out Hpl6.out.ownl hgrow (by omega))
        clear hown hgrow hat
        focus
          go_wp2_with (at_builtin; go_must (refine wpList_append_lit rfl _ _ 47 rfl 44 i1 _ 24 Tryz.underlying47 hi hz0 hz1 hz2' rfl _ 1 (by omega) (by rfl) (by rfl) wL.heap.size _ j _ (by rfl) HWa.out (by simp [Value.oneCell']) (by omega) (by omega) (by omega) ?_))
        intro gb cb wb hown2 hgrow2 hat2 hzb hltb
        have HNx := Lib.hid (Hpl6.out.next (R := ⟨p4, R.length, c4⟩) (l := R) (v := .slice p6 R.length c6) (HN6.out.mono hzr) (by omega) Hfr.out HW6.out Hown.out Hgrow.out Hat.out hlta hown2 hgrow2 hat2)
        have Hbwb := Lib.hid (below_grown_own Hbwa.out HWa.out hgrow2 hzwa)
        clear hown2 hgrow2 hat2
        go_wp2_with fail
        go_roundw
        case rel => exact ⟨j + 1, _, _, ca, cb, _, _, _, by omega, by go_num, rfl, rfl, HNx, Hbwb⟩
        case measure => simp [intOf]; omega
      · obtain rfl : j = 4 := by omega
        obtain ⟨gl, rfl, hcl, hgl, hrow⟩ := Hpl.out.rowL (by omega)
        obtain ⟨gw, rfl, hcw, hgw, hWw⟩ := Hpl.out.rowW (by omega) HLr.out
        have hrl : rs.length = 4 := by have := Hpl.out.ownl.1; simpa using this
        have HOw := Lib.hid (owned_any wL.heap.size rs lss 4 (by omega) hrl Hpl.out.len gl cl gw cw hcl hcw wr hzr Hpl.out.holds Hpl.out.dist hrow Hpl.out.lists hWw)
        clear hrow hWw hrl
        go_wp2_with fail
        refine HOw.out.mono ?_
        rintro e w9 ⟨rfl, hb9⟩
        have Hb9 := Lib.hid (Hb.out.trans hb9)
        clear hb9
        go_wp2_with fail
        go_ret
        exact ⟨rfl, then_bel HbA.out (then_bel HBL.out Hb9.out)⟩
end Go.Proofs.YthjcifokmcbaoaaGreatDoor.st
