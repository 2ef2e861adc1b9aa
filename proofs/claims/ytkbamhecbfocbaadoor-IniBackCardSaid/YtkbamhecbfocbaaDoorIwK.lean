/- tinderboxlaw06.IniBack returns true. Conditions: the lines lie in memory as their list; the tables hold what the text lays. -/
import Derived.Test.YtkbamhecbfocbaaDoorIwJ
import Derived.Test.YtkbamhecbfocbaaDoorIwO
namespace Go.Proofs.YtkbamhecbfocbaaDoor.ini
open Go.ChangeShapes Go.WideShapes Go.ChangeAt Go.RowKit gl

theorem bytes_lit (l : List UInt8) (a : List UInt8) (vs : List Value) (h : vs = Lib.byteCells a) : Lib.byteCells l ++ vs = Lib.byteCells (l ++ a) := by
  subst h
  simp [Lib.byteCells]
theorem flat_snoc (s : List UInt8) (k : Nat) (b : UInt8) (h : s[k]? = some b) : (s.take (k + 1)).flatMap blankB = (s.take k).flatMap blankB ++ blankB b := by
  rw [take_snoc h, List.flatMap_append]
  simp
theorem flat_len (s : List UInt8) : (s.flatMap blankB).length ≤ 3 * s.length := by
  induction s with
  | nil => simp
  | cons b r ih =>
    have : (blankB b).length ≤ 3 := by unfold blankB; split <;> simp
    simp only [List.flatMap_cons, List.length_append, List.length_cons]
    omega
theorem print_len (l : List Ln) : (printL l).1.length ≤ 8000 := by
  rcases printL_two l with h | ⟨h, _, h2⟩
  · rw [h]; simp
  · rw [h]; exact h2
theorem wt_small' {l : List Ln} {m : Nat} (hm : l.length = m) (h : wtV l 0 ≤ 2147483647) : m ≤ 214748364 ∧ ∀ x ∈ l, x.name.length ≤ 2147483647 ∧ x.text.length ≤ 2147483647 := by
  have h1 := wt_sum l 0 (by omega) h
  have h2 := ws_len l
  refine ⟨by omega, fun x hx => ?_⟩
  have := ws_mem hx
  omega

set_option maxHeartbeats 4000000 in
set_option maxRecDepth 100000 in
theorem iniBack_any (p : Option Addr) (c : Nat) (l : List Ln) (hl : l.length ≤ 9223372036854775807) (s : ByteArray) (hs : s.size ≤ 9223372036854775807) (w : World) (hf : LinesOk w p c l) (hG : Glo w) :
    Calls Tryd.prog 6 #[.slice p l.length c, .string s] w fun e w' => e = .returned (.bool true) ∧ Below w.heap.size w w' := by
  obtain ⟨i0, hi, hz0, hz1, hz2⟩ := info_parts Tryd.infoByte
  obtain ⟨m, hm⟩ : ∃ m, m = l.length := ⟨_, rfl⟩
  rw [← hm]
  rw [← hm] at hl
  have hLns := hf.1
  rw [← hm] at hLns
  have H := Lib.hid hLns
  have HG := Lib.hid hG
  have hok := hf.2
  have hw0 := wtV_ge l 0 (by omega)
  have hw1 := wtV_le l 0 (by omega) (by omega)
  have HW : Hid (∀ W, Below w.heap.size w W → Calls Tryd.prog 14 #[.slice p m c] W fun e w' => e = .returned (.int .i64 (wtV l 0)) ∧ Below W.heap.size W w') := Lib.hid fun W hW => (weight_any p m c l W hl (fun x hx => ⟨(hok x hx).1, (hok x hx).2.1⟩) (hLns.later hW)).mono fun e w' ⟨h1, q, h2⟩ => ⟨h1, by rw [h2]; exact drewN_bel W q⟩
  have HSm : Hid (wtV l 0 ≤ 2147483647 → m ≤ 214748364 ∧ ∀ x ∈ l, x.name.length ≤ 2147483647 ∧ x.text.length ≤ 2147483647) := Lib.hid fun h => wt_small' hm.symm h
  generalize wtV l 0 = wt at *
  obtain ⟨mv, hmv⟩ : ∃ mv : Int, min (s.size : Int) 2147483647 = mv := ⟨_, rfl⟩
  have hmv0 : 0 ≤ mv := by omega
  have hmv1 : mv ≤ 2147483647 := by omega
  have HMv : Hid (mv ≤ 536870911 → s.size ≤ 536870911) := Lib.hid fun h => by omega
  have b1 := addV_bd wt (4 * mv) hw0 (by omega)
  have HA1 := Lib.hid fun W => add_any wt (4 * mv) hw0 (by omega) (by omega) (by omega) W
  have L1 : Hid (addV wt (4 * mv) ≤ 2147483647 → wt ≤ 2147483647 ∧ mv ≤ 536870911) := Lib.hid fun h => by have := (addV_lo hw0 (by omega) h); omega
  generalize addV wt (4 * mv) = a1 at *
  clear hf hG hok hm hLns
  go_enter Tryd.func6, Tryd.ntmps6
  go_wp2_with fail
  refine (HW.out _ (Below.refl _ _)).mono ?_
  rintro e w1 ⟨rfl, hb1⟩
  have Hb1 := Lib.hid hb1
  clear hb1
  go_wp2_with fail
  refine (HA1.out _).mono ?_
  rintro e w0 ⟨rfl, hw0'⟩
  obtain rfl : w1 = w0 := hw0'.symm
  by_cases hbig : 2147483647 < a1
  · go_wp2_with fail
    go_ret
    exact ⟨rfl, Hb1.out⟩
  · obtain ⟨hwt, hmv2⟩ := L1.out (by omega)
    obtain ⟨hm2, hlx⟩ := HSm.out hwt
    have hs5 := HMv.out hmv2
    have Hlx := Lib.hid hlx
    clear hlx HSm L1 HA1 HMv HW
    go_wp2_with fail
    refine (awake_any _ (HG.out.below Hb1.out (Nat.le_refl _))).mono ?_
    rintro e w2 ⟨rfl, hb2⟩
    have Hb2 := Lib.hid (then_bel Hb1.out hb2)
    clear hb2 hmv
    go_wp2_with fail
    have HP := Lib.hid (print_any p m c l w2 (by omega) Hlx.out (H.out.later Hb2.out) (HG.out.below Hb2.out (Nat.le_refl _)))
    refine HP.out.mono ?_
    rintro e w3 ⟨rfl, hb3⟩
    dsimp only
    have Hb3 := Lib.hid (then_bel Hb2.out hb3)
    have HPP := Lib.hid (parse_any (B (printL l).1) (by rw [B_size]; have := print_len l; omega) w3 (HG.out.below Hb3.out (Nat.le_refl _)))
    clear hb3 HP
    -- the two ways of Print
    have Htwo : Hid ((printL l = ([], 1)) ∨ ((printL l).2 = 0 ∧ (printL l).1.length ≤ 8000 ∧ parseL (printL l).1 = (numb 0 l, 0, 0))) := Lib.hid (by
      rcases printL_two l with h | ⟨h, _, h2⟩
      · exact .inl h
      · exact .inr ⟨by rw [h], by rw [h]; exact h2, (print_parse (by rw [h])).1⟩)
    obtain ⟨⟨tl, E⟩, hP⟩ : ∃ r, printL l = r := ⟨_, rfl⟩
    rw [hP] at HPP Htwo ⊢
    clear hP
    simp only [Prod.mk.injEq, B_list] at Htwo HPP
    dsimp only
    obtain ⟨T, hT⟩ : ∃ T : ByteArray, T = B tl := ⟨_, rfl⟩
    have HT := Lib.hid hT
    have hTz : Hid (T.size = tl.length) := Lib.hid (by rw [hT, B_size])
    rw [← hT] at HPP
    rw [← hT]
    clear hT
    obtain ⟨⟨L, F, N⟩, hQ⟩ : ∃ r, parseL tl = r := ⟨_, rfl⟩
    have hLl := parseL_len tl
    rw [hQ] at HPP Htwo hLl
    clear hQ
    simp only [Prod.mk.injEq] at Htwo hLl
    go_wp2_with fail
    refine HPP.out.mono ?_
    rintro e w4 ⟨⟨v4, rfl, hn4⟩, hb4⟩
    obtain ⟨p4, c4, rfl⟩ := hn4.form
    dsimp only
    have Hb4 := Lib.hid (then_bel Hb3.out hb4)
    have HBR := Lib.hid (lawBare_any p4 p L.length m c4 c L l (by omega) (by omega) w4 hn4.lns (H.out.later Hb4.out))
    clear hb4 hn4 HPP
    go_wp2_with fail
    refine HBR.out.mono ?_
    rintro e w5 ⟨r5, rfl, hr5, q5, hw5⟩
    have Hb5 : Hid (Below w.heap.size w w5) := Lib.hid (then_bel Hb4.out (by rw [hw5]; exact drewN_bel w4 q5))
    have Hr5 := Lib.hid hr5
    clear hw5 hr5 HBR
    rcases Htwo.out with ⟨ht0, hE⟩ | ⟨hE, ht8, hL, hF, hN⟩
    · subst hE
      obtain rfl : T = ⟨#[]⟩ := by rw [HT.out, ht0]
      clear Htwo HT hTz ht0
      go_wp2_with fail
      have HSP := Lib.hid (parse_any s hs w5 (HG.out.below Hb5.out (Nat.le_refl _)))
      have hSl := parseL_len s.data.toList
      have HSok := Lib.hid (parseL_ok s.data.toList)
      have HS3 := Lib.hid (parseL_two s.data.toList)
      have HBl0 : Hid ((blankL s.data.toList).length ≤ 8000 → s.data.toList.length ≤ 8000 → parseL (blankL s.data.toList) = parseL s.data.toList) := Lib.hid parse_blank
      obtain ⟨⟨L6, F6, N6⟩, hQ6⟩ : ∃ r, parseL s.data.toList = r := ⟨_, rfl⟩
      rw [hQ6] at HSP hSl HSok HS3 HBl0
      clear hQ6
      simp only [Prod.mk.injEq, toList_len] at hSl HSok HS3 HBl0
      refine HSP.out.mono ?_
      rintro e w6 ⟨⟨v6, rfl, hn6⟩, hb6⟩
      obtain ⟨p6, c6, rfl⟩ := hn6.form
      dsimp only
      have Hb6 := Lib.hid (then_bel Hb5.out hb6)
      have Hn6 := Lib.hid hn6
      clear hb6 hn6 HSP
      rcases HS3.out with ⟨⟨hF, hN⟩, hs8⟩ | ⟨hL0, hF, hN⟩ | ⟨⟨hL0, hF, hN⟩, hs8⟩
      · subst hF hN
        have HBl : Hid ((blankL s.data.toList).length ≤ 8000 → parseL (blankL s.data.toList) = (L6, 0, 0)) := Lib.hid fun h => HBl0.out h hs8
        clear HBl0 HS3
        have HP7 := Lib.hid (print_any p6 L6.length c6 L6 w6 (by omega) HSok.out Hn6.out.lns (HG.out.below Hb6.out (Nat.le_refl _)))
        go_wp2_with fail
        refine HP7.out.mono ?_
        rintro e w7 ⟨rfl, hb7⟩
        dsimp only
        have Hb7 := Lib.hid (then_bel Hb6.out hb7)
        have Hn7 := Lib.hid (Hn6.out.later hb7)
        have HPU := Lib.hid (parse_any (B (printL L6).1) (by rw [B_size]; have := print_len L6; omega) w7 (HG.out.below Hb7.out (Nat.le_refl _)))
        clear hb7 HP7
        have Htwo7 : Hid ((printL L6 = ([], 1)) ∨ ((printL L6).2 = 0 ∧ parseL (printL L6).1 = (numb 0 L6, 0, 0))) := Lib.hid (by
          rcases printL_two L6 with h | ⟨h, _, h2⟩
          · exact .inl h
          · exact .inr ⟨by rw [h], (print_parse (by rw [h])).1⟩)
        obtain ⟨⟨ul, E7⟩, hP7⟩ : ∃ r, printL L6 = r := ⟨_, rfl⟩
        rw [hP7] at HPU Htwo7 ⊢
        clear hP7
        simp only [Prod.mk.injEq, B_list] at Htwo7 HPU
        dsimp only
        obtain ⟨U, hU⟩ : ∃ U : ByteArray, U = B ul := ⟨_, rfl⟩
        rw [← hU] at HPU
        rw [← hU]
        clear hU
        have hLl8 := parseL_len ul
        obtain ⟨⟨L8, F8, N8⟩, hQ8⟩ : ∃ r, parseL ul = r := ⟨_, rfl⟩
        rw [hQ8] at HPU Htwo7 hLl8
        clear hQ8
        simp only [Prod.mk.injEq] at Htwo7 hLl8
        go_wp2_with fail
        refine HPU.out.mono ?_
        rintro e w8 ⟨⟨v8, rfl, hn8⟩, hb8⟩
        obtain ⟨p8, c8, rfl⟩ := hn8.form
        dsimp only
        have Hb8 := Lib.hid (then_bel Hb7.out hb8)
        have Hn8 := Lib.hid (Hn7.out.later hb8)
        have HBR8 := Lib.hid (lawBare_any p8 p6 L8.length L6.length c8 c6 L8 L6 (by omega) (by omega) w8 hn8.lns Hn8.out.lns)
        clear hb8 hn8 HPU
        go_wp2_with fail
        refine HBR8.out.mono ?_
        rintro e WA ⟨r8, rfl, hr8, q8, hwA⟩
        have hb8A : Below w8.heap.size w8 WA := by rw [hwA]; exact drewN_bel w8 q8
        have HbA : Hid (Below w.heap.size w WA) := Lib.hid (then_bel Hb8.out hb8A)
        have HnA := Lib.hid (Hn8.out.later hb8A)
        have Hr8 := Lib.hid hr8
        clear hwA hr8 HBR8 hb8A
        rcases Htwo7.out with ⟨_, hE7⟩ | ⟨hE7, hL8, hF8, hN8⟩
        · subst hE7
          clear Htwo7
          have hWz : w.heap.size ≤ WA.heap.size := HbA.out.size
          focus
            go_wp2_with (at_builtin; go_must (refine wpList_append_lit rfl _ _ 32 rfl 5 i0 _ 1 Tryd.underlying32 hi hz0 hz1 hz2 rfl _ 2 (by omega) (by rfl) (by rfl) WA.heap.size (.slice none 0 0) 0 [] (by rfl) ⟨rfl, .inl ⟨rfl, rfl⟩⟩ (by simp [Value.oneCell']) (by omega) (by omega) (Nat.le_refl _) ?_))
          intro gA cA wB hownB hgrowB hatB hzB hltB
          have HOB : Hid (wB.ownsRow WA.heap.size 5 1 (.slice (some ⟨gA, 0, none⟩) 2 cA) 2 (Lib.byteCells ([32, 9] ++ (s.data.toList.take 0).flatMap blankB))) := Lib.hid hownB
          have HbB : Hid (Below WA.heap.size WA wB) := Lib.hid ((Below.refl _ _).grown hgrowB (Nat.le_refl _) fun q hq => by cases hq)
          clear hownB hgrowB hatB hzB
          go_wp2_with fail
          go_loopw [21, 22] (fun o i wr => ∃ (k n : Nat) (q : Option Addr) (cq : Nat), k ≤ s.size ∧ i = .int .i64 k ∧ o = .slice q n cq ∧ n ≤ 3 * k + 2 ∧ Hid (wr.ownsRow WA.heap.size 5 1 (.slice q n cq) n (Lib.byteCells ([32, 9] ++ (s.data.toList.take k).flatMap blankB))) ∧ Hid (Below WA.heap.size WA wr)) (fun _ i _ => s.size - (intOf i).toNat)
          case atStart => exact ⟨0, 2, _, cA, by omega, rfl, rfl, by omega, HOB, HbB⟩
          case round =>
            clear HOB HbB
            obtain ⟨k, n, q, cq, hk, rfl, rfl, hn3, HO, HbR⟩ := hrel
            have hzr := HbR.out.size
            by_cases hlt : k < s.size
            · obtain ⟨b, hb, hbk, hb0, hb1⟩ := byteAt s k hlt
              have hbk' := hbk hlt
              have Hfl := Lib.hid (flat_snoc s.data.toList k b hb)
              clear hb
              by_cases h10 : b.toNat = 10
              · have q1 : ((b.toNat : Int) == 10) = true := by rw [h10]; rfl
                have Hbb : Hid (blankB b = [9, 10, 32]) := Lib.hid (by unfold blankB; rw [if_pos (UInt8.toNat_inj.1 (by rw [h10]; rfl))])
                clear h10
                focus
                  go_wp2_with (at_builtin; go_must (refine wpList_append_lit rfl _ _ 32 rfl 5 i0 _ 1 Tryd.underlying32 hi hz0 hz1 hz2 rfl _ 3 (by omega) (by rfl) (by rfl) WA.heap.size _ n _ (by rfl) HO.out (by simp [Value.oneCell']) (by omega) (by omega) (by omega) ?_))
                intro g2 c2 w2' hown2 hgrow2 hat2 hz2' hlt2
                have HO2 : Hid (w2'.ownsRow WA.heap.size 5 1 (.slice (some ⟨g2, 0, none⟩) (n + 3) c2) (n + 3) (Lib.byteCells ([32, 9] ++ (s.data.toList.take (k + 1)).flatMap blankB))) := Lib.hid (by
                  rw [Hfl.out, Hbb.out, ← List.append_assoc, ← bytes_lit _ [9, 10, 32] _ rfl]
                  exact hown2)
                have HbR2 := Lib.hid (below_grown_own HbR.out HO.out hgrow2 hzr)
                clear hown2 hgrow2 hat2 hz2'
                go_wp2_with fail
                go_roundw
                case rel => exact ⟨k + 1, n + 3, _, c2, by omega, by go_num, rfl, by omega, HO2, HbR2⟩
                case measure => simp [intOf]; omega
              · have q1 : ((b.toNat : Int) == 10) = false := by simp; omega
                have Hbb : Hid (blankB b = [b]) := Lib.hid (by unfold blankB; rw [if_neg (by rintro rfl; exact h10 rfl)])
                clear h10
                focus
                  go_wp2_with (at_builtin; go_must (refine wpList_append_lit rfl _ _ 32 rfl 5 i0 _ 1 Tryd.underlying32 hi hz0 hz1 hz2 rfl _ 1 (by omega) (by rfl) (by rfl) WA.heap.size _ n _ (by rfl) HO.out (by simp [Value.oneCell']) (by omega) (by omega) (by omega) ?_))
                intro g2 c2 w2' hown2 hgrow2 hat2 hz2' hlt2
                have HO2 : Hid (w2'.ownsRow WA.heap.size 5 1 (.slice (some ⟨g2, 0, none⟩) (n + 1) c2) (n + 1) (Lib.byteCells ([32, 9] ++ (s.data.toList.take (k + 1)).flatMap blankB))) := Lib.hid (by
                  rw [Hfl.out, Hbb.out, ← List.append_assoc, ← bytes_lit _ [b] _ rfl]
                  exact hown2)
                have HbR2 := Lib.hid (below_grown_own HbR.out HO.out hgrow2 hzr)
                clear hown2 hgrow2 hat2 hz2'
                go_wp2_with fail
                go_roundw
                case rel => exact ⟨k + 1, n + 1, _, c2, by omega, by go_num, rfl, by omega, HO2, HbR2⟩
                case measure => simp [intOf]; omega
            · obtain rfl : k = s.size := by omega
              focus
                go_wp2_with (at_builtin; go_must (refine wpList_append_lit rfl _ _ 32 rfl 5 i0 _ 1 Tryd.underlying32 hi hz0 hz1 hz2 rfl _ 1 (by omega) (by rfl) (by rfl) WA.heap.size _ n _ (by rfl) HO.out (by simp [Value.oneCell']) (by omega) (by omega) (by omega) ?_))
              intro g2 c2 wC hown2 hgrow2 hat2 hz2' hlt2
              have HOC : Hid (wC.ownsRow WA.heap.size 5 1 (.slice (some ⟨g2, 0, none⟩) (n + 1) c2) (n + 1) (Lib.byteCells (blankL s.data.toList))) := Lib.hid (by
                have e : s.data.toList.take s.size = s.data.toList := List.take_of_length_le (by rw [toList_len]; exact Nat.le_refl _)
                have h := hown2
                rw [e] at h
                unfold blankL
                rw [← bytes_lit _ [32] _ rfl]
                exact h)
              have HbC := Lib.hid (below_grown_own HbR.out HO.out hgrow2 hzr)
              have Hnl : Hid ((blankL s.data.toList).length = n + 1) := Lib.hid (by have := HOC.out.1; rw [Lib.byteCells_length] at this; omega)
              have hnc : n + 1 ≤ c2 := by
                rcases HOC.out.2 with ⟨h, _⟩ | ⟨g, cap, cur, h, _, _, h2, _⟩
                · cases h
                · cases h; exact h2
              have HbCw := Lib.hid (HbA.out.trans (HbC.out.mono hWz))
              have HnC := Lib.hid (HnA.out.later HbC.out)
              clear hown2 hgrow2 hat2 hz2'
              go_wp2_with (refine wpList_string_of_own rfl 32 9 5 (.tmp 175) rfl WA.heap.size _ _ _ (by rfl) HOC.out Tryd.underlying32 Tryd.underlying5 Tryd.underlying9 ?_)
              have HPD := Lib.hid (parse_any (B (blankL s.data.toList)) (by rw [B_size, Hnl.out]; omega) wC (HG.out.below HbCw.out (Nat.le_refl _)))
              rw [B_list] at HPD
              by_cases hlong : 8000 < n + 1
              · have hlong' : (8000 : Int) < (n : Int) + 1 := by omega
                have hDl := parseL_len (blankL s.data.toList)
                obtain ⟨⟨LD, FD, ND⟩, hD⟩ : ∃ r, parseL (blankL s.data.toList) = r := ⟨_, rfl⟩
                rw [hD] at HPD hDl
                clear hD
                simp only at hDl
                refine HPD.out.mono ?_
                rintro e wD ⟨⟨vD, rfl, hnD⟩, hbD⟩
                obtain ⟨pD, cD, rfl⟩ := hnD.form
                dsimp only
                have HbD := Lib.hid (then_bel HbCw.out hbD)
                have HSD := Lib.hid (same_any p6 pD L6.length LD.length c6 cD L6 LD (by omega) (by omega) wD (HnC.out.later hbD).lns hnD.lns)
                clear hbD hnD HPD
                go_wp2_with fail
                refine HSD.out.mono ?_
                rintro e wE ⟨rE, rfl, _, qE, hwE⟩
                have HbE : Hid (Below w.heap.size w wE) := Lib.hid (then_bel HbD.out (by rw [hwE]; exact drewN_bel wD qE))
                clear hwE
                go_wp2_with fail
                go_ret
                exact ⟨rfl, HbE.out⟩
              · have hlong' : ¬ (8000 : Int) < (n : Int) + 1 := by omega
                rw [HBl.out (by rw [Hnl.out]; omega)] at HPD
                refine HPD.out.mono ?_
                rintro e wD ⟨⟨vD, rfl, hnD⟩, hbD⟩
                obtain ⟨pD, cD, rfl⟩ := hnD.form
                dsimp only
                have HbD := Lib.hid (then_bel HbCw.out hbD)
                have HSD := Lib.hid (same_eq p6 pD L6.length c6 cD L6 (by omega) wD (HnC.out.later hbD).lns hnD.lns)
                clear hbD hnD HPD
                go_wp2_with fail
                refine HSD.out.mono ?_
                rintro e wE ⟨rfl, qE, hwE⟩
                have HbE : Hid (Below w.heap.size w wE) := Lib.hid (then_bel HbD.out (by rw [hwE]; exact drewN_bel wD qE))
                clear hwE
                go_wp2_with fail
                go_ret
                exact ⟨rfl, HbE.out⟩
        · have hr : r8 = true := Hr8.out (by rw [hL8]; exact bare_numb L6)
          subst hE7 hF8 hr
          clear Htwo7 hL8 Hr8
          have hWz : w.heap.size ≤ WA.heap.size := HbA.out.size
          focus
            go_wp2_with (at_builtin; go_must (refine wpList_append_lit rfl _ _ 32 rfl 5 i0 _ 1 Tryd.underlying32 hi hz0 hz1 hz2 rfl _ 2 (by omega) (by rfl) (by rfl) WA.heap.size (.slice none 0 0) 0 [] (by rfl) ⟨rfl, .inl ⟨rfl, rfl⟩⟩ (by simp [Value.oneCell']) (by omega) (by omega) (Nat.le_refl _) ?_))
          intro gA cA wB hownB hgrowB hatB hzB hltB
          have HOB : Hid (wB.ownsRow WA.heap.size 5 1 (.slice (some ⟨gA, 0, none⟩) 2 cA) 2 (Lib.byteCells ([32, 9] ++ (s.data.toList.take 0).flatMap blankB))) := Lib.hid hownB
          have HbB : Hid (Below WA.heap.size WA wB) := Lib.hid ((Below.refl _ _).grown hgrowB (Nat.le_refl _) fun q hq => by cases hq)
          clear hownB hgrowB hatB hzB
          go_wp2_with fail
          go_loopw [21, 22] (fun o i wr => ∃ (k n : Nat) (q : Option Addr) (cq : Nat), k ≤ s.size ∧ i = .int .i64 k ∧ o = .slice q n cq ∧ n ≤ 3 * k + 2 ∧ Hid (wr.ownsRow WA.heap.size 5 1 (.slice q n cq) n (Lib.byteCells ([32, 9] ++ (s.data.toList.take k).flatMap blankB))) ∧ Hid (Below WA.heap.size WA wr)) (fun _ i _ => s.size - (intOf i).toNat)
          case atStart => exact ⟨0, 2, _, cA, by omega, rfl, rfl, by omega, HOB, HbB⟩
          case round =>
            clear HOB HbB
            obtain ⟨k, n, q, cq, hk, rfl, rfl, hn3, HO, HbR⟩ := hrel
            have hzr := HbR.out.size
            by_cases hlt : k < s.size
            · obtain ⟨b, hb, hbk, hb0, hb1⟩ := byteAt s k hlt
              have hbk' := hbk hlt
              have Hfl := Lib.hid (flat_snoc s.data.toList k b hb)
              clear hb
              by_cases h10 : b.toNat = 10
              · have q1 : ((b.toNat : Int) == 10) = true := by rw [h10]; rfl
                have Hbb : Hid (blankB b = [9, 10, 32]) := Lib.hid (by unfold blankB; rw [if_pos (UInt8.toNat_inj.1 (by rw [h10]; rfl))])
                clear h10
                focus
                  go_wp2_with (at_builtin; go_must (refine wpList_append_lit rfl _ _ 32 rfl 5 i0 _ 1 Tryd.underlying32 hi hz0 hz1 hz2 rfl _ 3 (by omega) (by rfl) (by rfl) WA.heap.size _ n _ (by rfl) HO.out (by simp [Value.oneCell']) (by omega) (by omega) (by omega) ?_))
                intro g2 c2 w2' hown2 hgrow2 hat2 hz2' hlt2
                have HO2 : Hid (w2'.ownsRow WA.heap.size 5 1 (.slice (some ⟨g2, 0, none⟩) (n + 3) c2) (n + 3) (Lib.byteCells ([32, 9] ++ (s.data.toList.take (k + 1)).flatMap blankB))) := Lib.hid (by
                  rw [Hfl.out, Hbb.out, ← List.append_assoc, ← bytes_lit _ [9, 10, 32] _ rfl]
                  exact hown2)
                have HbR2 := Lib.hid (below_grown_own HbR.out HO.out hgrow2 hzr)
                clear hown2 hgrow2 hat2 hz2'
                go_wp2_with fail
                go_roundw
                case rel => exact ⟨k + 1, n + 3, _, c2, by omega, by go_num, rfl, by omega, HO2, HbR2⟩
                case measure => simp [intOf]; omega
              · have q1 : ((b.toNat : Int) == 10) = false := by simp; omega
                have Hbb : Hid (blankB b = [b]) := Lib.hid (by unfold blankB; rw [if_neg (by rintro rfl; exact h10 rfl)])
                clear h10
                focus
                  go_wp2_with (at_builtin; go_must (refine wpList_append_lit rfl _ _ 32 rfl 5 i0 _ 1 Tryd.underlying32 hi hz0 hz1 hz2 rfl _ 1 (by omega) (by rfl) (by rfl) WA.heap.size _ n _ (by rfl) HO.out (by simp [Value.oneCell']) (by omega) (by omega) (by omega) ?_))
                intro g2 c2 w2' hown2 hgrow2 hat2 hz2' hlt2
                have HO2 : Hid (w2'.ownsRow WA.heap.size 5 1 (.slice (some ⟨g2, 0, none⟩) (n + 1) c2) (n + 1) (Lib.byteCells ([32, 9] ++ (s.data.toList.take (k + 1)).flatMap blankB))) := Lib.hid (by
                  rw [Hfl.out, Hbb.out, ← List.append_assoc, ← bytes_lit _ [b] _ rfl]
                  exact hown2)
                have HbR2 := Lib.hid (below_grown_own HbR.out HO.out hgrow2 hzr)
                clear hown2 hgrow2 hat2 hz2'
                go_wp2_with fail
                go_roundw
                case rel => exact ⟨k + 1, n + 1, _, c2, by omega, by go_num, rfl, by omega, HO2, HbR2⟩
                case measure => simp [intOf]; omega
            · obtain rfl : k = s.size := by omega
              focus
                go_wp2_with (at_builtin; go_must (refine wpList_append_lit rfl _ _ 32 rfl 5 i0 _ 1 Tryd.underlying32 hi hz0 hz1 hz2 rfl _ 1 (by omega) (by rfl) (by rfl) WA.heap.size _ n _ (by rfl) HO.out (by simp [Value.oneCell']) (by omega) (by omega) (by omega) ?_))
              intro g2 c2 wC hown2 hgrow2 hat2 hz2' hlt2
              have HOC : Hid (wC.ownsRow WA.heap.size 5 1 (.slice (some ⟨g2, 0, none⟩) (n + 1) c2) (n + 1) (Lib.byteCells (blankL s.data.toList))) := Lib.hid (by
                have e : s.data.toList.take s.size = s.data.toList := List.take_of_length_le (by rw [toList_len]; exact Nat.le_refl _)
                have h := hown2
                rw [e] at h
                unfold blankL
                rw [← bytes_lit _ [32] _ rfl]
                exact h)
              have HbC := Lib.hid (below_grown_own HbR.out HO.out hgrow2 hzr)
              have Hnl : Hid ((blankL s.data.toList).length = n + 1) := Lib.hid (by have := HOC.out.1; rw [Lib.byteCells_length] at this; omega)
              have hnc : n + 1 ≤ c2 := by
                rcases HOC.out.2 with ⟨h, _⟩ | ⟨g, cap, cur, h, _, _, h2, _⟩
                · cases h
                · cases h; exact h2
              have HbCw := Lib.hid (HbA.out.trans (HbC.out.mono hWz))
              have HnC := Lib.hid (HnA.out.later HbC.out)
              clear hown2 hgrow2 hat2 hz2'
              go_wp2_with (refine wpList_string_of_own rfl 32 9 5 (.tmp 175) rfl WA.heap.size _ _ _ (by rfl) HOC.out Tryd.underlying32 Tryd.underlying5 Tryd.underlying9 ?_)
              have HPD := Lib.hid (parse_any (B (blankL s.data.toList)) (by rw [B_size, Hnl.out]; omega) wC (HG.out.below HbCw.out (Nat.le_refl _)))
              rw [B_list] at HPD
              by_cases hlong : 8000 < n + 1
              · have hlong' : (8000 : Int) < (n : Int) + 1 := by omega
                have hDl := parseL_len (blankL s.data.toList)
                obtain ⟨⟨LD, FD, ND⟩, hD⟩ : ∃ r, parseL (blankL s.data.toList) = r := ⟨_, rfl⟩
                rw [hD] at HPD hDl
                clear hD
                simp only at hDl
                refine HPD.out.mono ?_
                rintro e wD ⟨⟨vD, rfl, hnD⟩, hbD⟩
                obtain ⟨pD, cD, rfl⟩ := hnD.form
                dsimp only
                have HbD := Lib.hid (then_bel HbCw.out hbD)
                have HSD := Lib.hid (same_any p6 pD L6.length LD.length c6 cD L6 LD (by omega) (by omega) wD (HnC.out.later hbD).lns hnD.lns)
                clear hbD hnD HPD
                go_wp2_with fail
                refine HSD.out.mono ?_
                rintro e wE ⟨rE, rfl, _, qE, hwE⟩
                have HbE : Hid (Below w.heap.size w wE) := Lib.hid (then_bel HbD.out (by rw [hwE]; exact drewN_bel wD qE))
                clear hwE
                go_wp2_with fail
                go_ret
                exact ⟨rfl, HbE.out⟩
              · have hlong' : ¬ (8000 : Int) < (n : Int) + 1 := by omega
                rw [HBl.out (by rw [Hnl.out]; omega)] at HPD
                refine HPD.out.mono ?_
                rintro e wD ⟨⟨vD, rfl, hnD⟩, hbD⟩
                obtain ⟨pD, cD, rfl⟩ := hnD.form
                dsimp only
                have HbD := Lib.hid (then_bel HbCw.out hbD)
                have HSD := Lib.hid (same_eq p6 pD L6.length c6 cD L6 (by omega) wD (HnC.out.later hbD).lns hnD.lns)
                clear hbD hnD HPD
                go_wp2_with fail
                refine HSD.out.mono ?_
                rintro e wE ⟨rfl, qE, hwE⟩
                have HbE : Hid (Below w.heap.size w wE) := Lib.hid (then_bel HbD.out (by rw [hwE]; exact drewN_bel wD qE))
                clear hwE
                go_wp2_with fail
                go_ret
                exact ⟨rfl, HbE.out⟩
      · subst hL0 hF
        go_wp2_with fail
        go_ret
        exact ⟨rfl, Hb6.out⟩
      · subst hL0 hF hN
        have hs9 : (8000 : Int) < (s.size : Int) := by omega
        go_wp2_with fail
        go_ret
        exact ⟨rfl, Hb6.out⟩
    · have hr : r5 = true := Hr5.out (by rw [hL]; exact bare_numb l)
      subst hE hF hN hr
      have ht9 : ¬ (8000 : Int) < (T.size : Int) := by have := hTz.out; omega
      clear Htwo HT hTz ht8 hL Hr5
      go_wp2_with fail
      have HSP := Lib.hid (parse_any s hs w5 (HG.out.below Hb5.out (Nat.le_refl _)))
      have hSl := parseL_len s.data.toList
      have HSok := Lib.hid (parseL_ok s.data.toList)
      have HS3 := Lib.hid (parseL_two s.data.toList)
      have HBl0 : Hid ((blankL s.data.toList).length ≤ 8000 → s.data.toList.length ≤ 8000 → parseL (blankL s.data.toList) = parseL s.data.toList) := Lib.hid parse_blank
      obtain ⟨⟨L6, F6, N6⟩, hQ6⟩ : ∃ r, parseL s.data.toList = r := ⟨_, rfl⟩
      rw [hQ6] at HSP hSl HSok HS3 HBl0
      clear hQ6
      simp only [Prod.mk.injEq, toList_len] at hSl HSok HS3 HBl0
      refine HSP.out.mono ?_
      rintro e w6 ⟨⟨v6, rfl, hn6⟩, hb6⟩
      obtain ⟨p6, c6, rfl⟩ := hn6.form
      dsimp only
      have Hb6 := Lib.hid (then_bel Hb5.out hb6)
      have Hn6 := Lib.hid hn6
      clear hb6 hn6 HSP
      rcases HS3.out with ⟨⟨hF, hN⟩, hs8⟩ | ⟨hL0, hF, hN⟩ | ⟨⟨hL0, hF, hN⟩, hs8⟩
      · subst hF hN
        have HBl : Hid ((blankL s.data.toList).length ≤ 8000 → parseL (blankL s.data.toList) = (L6, 0, 0)) := Lib.hid fun h => HBl0.out h hs8
        clear HBl0 HS3
        have HP7 := Lib.hid (print_any p6 L6.length c6 L6 w6 (by omega) HSok.out Hn6.out.lns (HG.out.below Hb6.out (Nat.le_refl _)))
        go_wp2_with fail
        refine HP7.out.mono ?_
        rintro e w7 ⟨rfl, hb7⟩
        dsimp only
        have Hb7 := Lib.hid (then_bel Hb6.out hb7)
        have Hn7 := Lib.hid (Hn6.out.later hb7)
        have HPU := Lib.hid (parse_any (B (printL L6).1) (by rw [B_size]; have := print_len L6; omega) w7 (HG.out.below Hb7.out (Nat.le_refl _)))
        clear hb7 HP7
        have Htwo7 : Hid ((printL L6 = ([], 1)) ∨ ((printL L6).2 = 0 ∧ parseL (printL L6).1 = (numb 0 L6, 0, 0))) := Lib.hid (by
          rcases printL_two L6 with h | ⟨h, _, h2⟩
          · exact .inl h
          · exact .inr ⟨by rw [h], (print_parse (by rw [h])).1⟩)
        obtain ⟨⟨ul, E7⟩, hP7⟩ : ∃ r, printL L6 = r := ⟨_, rfl⟩
        rw [hP7] at HPU Htwo7 ⊢
        clear hP7
        simp only [Prod.mk.injEq, B_list] at Htwo7 HPU
        dsimp only
        obtain ⟨U, hU⟩ : ∃ U : ByteArray, U = B ul := ⟨_, rfl⟩
        rw [← hU] at HPU
        rw [← hU]
        clear hU
        have hLl8 := parseL_len ul
        obtain ⟨⟨L8, F8, N8⟩, hQ8⟩ : ∃ r, parseL ul = r := ⟨_, rfl⟩
        rw [hQ8] at HPU Htwo7 hLl8
        clear hQ8
        simp only [Prod.mk.injEq] at Htwo7 hLl8
        go_wp2_with fail
        refine HPU.out.mono ?_
        rintro e w8 ⟨⟨v8, rfl, hn8⟩, hb8⟩
        obtain ⟨p8, c8, rfl⟩ := hn8.form
        dsimp only
        have Hb8 := Lib.hid (then_bel Hb7.out hb8)
        have Hn8 := Lib.hid (Hn7.out.later hb8)
        have HBR8 := Lib.hid (lawBare_any p8 p6 L8.length L6.length c8 c6 L8 L6 (by omega) (by omega) w8 hn8.lns Hn8.out.lns)
        clear hb8 hn8 HPU
        go_wp2_with fail
        refine HBR8.out.mono ?_
        rintro e WA ⟨r8, rfl, hr8, q8, hwA⟩
        have hb8A : Below w8.heap.size w8 WA := by rw [hwA]; exact drewN_bel w8 q8
        have HbA : Hid (Below w.heap.size w WA) := Lib.hid (then_bel Hb8.out hb8A)
        have HnA := Lib.hid (Hn8.out.later hb8A)
        have Hr8 := Lib.hid hr8
        clear hwA hr8 HBR8 hb8A
        rcases Htwo7.out with ⟨_, hE7⟩ | ⟨hE7, hL8, hF8, hN8⟩
        · subst hE7
          clear Htwo7
          have hWz : w.heap.size ≤ WA.heap.size := HbA.out.size
          focus
            go_wp2_with (at_builtin; go_must (refine wpList_append_lit rfl _ _ 32 rfl 5 i0 _ 1 Tryd.underlying32 hi hz0 hz1 hz2 rfl _ 2 (by omega) (by rfl) (by rfl) WA.heap.size (.slice none 0 0) 0 [] (by rfl) ⟨rfl, .inl ⟨rfl, rfl⟩⟩ (by simp [Value.oneCell']) (by omega) (by omega) (Nat.le_refl _) ?_))
          intro gA cA wB hownB hgrowB hatB hzB hltB
          have HOB : Hid (wB.ownsRow WA.heap.size 5 1 (.slice (some ⟨gA, 0, none⟩) 2 cA) 2 (Lib.byteCells ([32, 9] ++ (s.data.toList.take 0).flatMap blankB))) := Lib.hid hownB
          have HbB : Hid (Below WA.heap.size WA wB) := Lib.hid ((Below.refl _ _).grown hgrowB (Nat.le_refl _) fun q hq => by cases hq)
          clear hownB hgrowB hatB hzB
          go_wp2_with fail
          go_loopw [21, 22] (fun o i wr => ∃ (k n : Nat) (q : Option Addr) (cq : Nat), k ≤ s.size ∧ i = .int .i64 k ∧ o = .slice q n cq ∧ n ≤ 3 * k + 2 ∧ Hid (wr.ownsRow WA.heap.size 5 1 (.slice q n cq) n (Lib.byteCells ([32, 9] ++ (s.data.toList.take k).flatMap blankB))) ∧ Hid (Below WA.heap.size WA wr)) (fun _ i _ => s.size - (intOf i).toNat)
          case atStart => exact ⟨0, 2, _, cA, by omega, rfl, rfl, by omega, HOB, HbB⟩
          case round =>
            clear HOB HbB
            obtain ⟨k, n, q, cq, hk, rfl, rfl, hn3, HO, HbR⟩ := hrel
            have hzr := HbR.out.size
            by_cases hlt : k < s.size
            · obtain ⟨b, hb, hbk, hb0, hb1⟩ := byteAt s k hlt
              have hbk' := hbk hlt
              have Hfl := Lib.hid (flat_snoc s.data.toList k b hb)
              clear hb
              by_cases h10 : b.toNat = 10
              · have q1 : ((b.toNat : Int) == 10) = true := by rw [h10]; rfl
                have Hbb : Hid (blankB b = [9, 10, 32]) := Lib.hid (by unfold blankB; rw [if_pos (UInt8.toNat_inj.1 (by rw [h10]; rfl))])
                clear h10
                focus
                  go_wp2_with (at_builtin; go_must (refine wpList_append_lit rfl _ _ 32 rfl 5 i0 _ 1 Tryd.underlying32 hi hz0 hz1 hz2 rfl _ 3 (by omega) (by rfl) (by rfl) WA.heap.size _ n _ (by rfl) HO.out (by simp [Value.oneCell']) (by omega) (by omega) (by omega) ?_))
                intro g2 c2 w2' hown2 hgrow2 hat2 hz2' hlt2
                have HO2 : Hid (w2'.ownsRow WA.heap.size 5 1 (.slice (some ⟨g2, 0, none⟩) (n + 3) c2) (n + 3) (Lib.byteCells ([32, 9] ++ (s.data.toList.take (k + 1)).flatMap blankB))) := Lib.hid (by
                  rw [Hfl.out, Hbb.out, ← List.append_assoc, ← bytes_lit _ [9, 10, 32] _ rfl]
                  exact hown2)
                have HbR2 := Lib.hid (below_grown_own HbR.out HO.out hgrow2 hzr)
                clear hown2 hgrow2 hat2 hz2'
                go_wp2_with fail
                go_roundw
                case rel => exact ⟨k + 1, n + 3, _, c2, by omega, by go_num, rfl, by omega, HO2, HbR2⟩
                case measure => simp [intOf]; omega
              · have q1 : ((b.toNat : Int) == 10) = false := by simp; omega
                have Hbb : Hid (blankB b = [b]) := Lib.hid (by unfold blankB; rw [if_neg (by rintro rfl; exact h10 rfl)])
                clear h10
                focus
                  go_wp2_with (at_builtin; go_must (refine wpList_append_lit rfl _ _ 32 rfl 5 i0 _ 1 Tryd.underlying32 hi hz0 hz1 hz2 rfl _ 1 (by omega) (by rfl) (by rfl) WA.heap.size _ n _ (by rfl) HO.out (by simp [Value.oneCell']) (by omega) (by omega) (by omega) ?_))
                intro g2 c2 w2' hown2 hgrow2 hat2 hz2' hlt2
                have HO2 : Hid (w2'.ownsRow WA.heap.size 5 1 (.slice (some ⟨g2, 0, none⟩) (n + 1) c2) (n + 1) (Lib.byteCells ([32, 9] ++ (s.data.toList.take (k + 1)).flatMap blankB))) := Lib.hid (by
                  rw [Hfl.out, Hbb.out, ← List.append_assoc, ← bytes_lit _ [b] _ rfl]
                  exact hown2)
                have HbR2 := Lib.hid (below_grown_own HbR.out HO.out hgrow2 hzr)
                clear hown2 hgrow2 hat2 hz2'
                go_wp2_with fail
                go_roundw
                case rel => exact ⟨k + 1, n + 1, _, c2, by omega, by go_num, rfl, by omega, HO2, HbR2⟩
                case measure => simp [intOf]; omega
            · obtain rfl : k = s.size := by omega
              focus
                go_wp2_with (at_builtin; go_must (refine wpList_append_lit rfl _ _ 32 rfl 5 i0 _ 1 Tryd.underlying32 hi hz0 hz1 hz2 rfl _ 1 (by omega) (by rfl) (by rfl) WA.heap.size _ n _ (by rfl) HO.out (by simp [Value.oneCell']) (by omega) (by omega) (by omega) ?_))
              intro g2 c2 wC hown2 hgrow2 hat2 hz2' hlt2
              have HOC : Hid (wC.ownsRow WA.heap.size 5 1 (.slice (some ⟨g2, 0, none⟩) (n + 1) c2) (n + 1) (Lib.byteCells (blankL s.data.toList))) := Lib.hid (by
                have e : s.data.toList.take s.size = s.data.toList := List.take_of_length_le (by rw [toList_len]; exact Nat.le_refl _)
                have h := hown2
                rw [e] at h
                unfold blankL
                rw [← bytes_lit _ [32] _ rfl]
                exact h)
              have HbC := Lib.hid (below_grown_own HbR.out HO.out hgrow2 hzr)
              have Hnl : Hid ((blankL s.data.toList).length = n + 1) := Lib.hid (by have := HOC.out.1; rw [Lib.byteCells_length] at this; omega)
              have hnc : n + 1 ≤ c2 := by
                rcases HOC.out.2 with ⟨h, _⟩ | ⟨g, cap, cur, h, _, _, h2, _⟩
                · cases h
                · cases h; exact h2
              have HbCw := Lib.hid (HbA.out.trans (HbC.out.mono hWz))
              have HnC := Lib.hid (HnA.out.later HbC.out)
              clear hown2 hgrow2 hat2 hz2'
              go_wp2_with (refine wpList_string_of_own rfl 32 9 5 (.tmp 175) rfl WA.heap.size _ _ _ (by rfl) HOC.out Tryd.underlying32 Tryd.underlying5 Tryd.underlying9 ?_)
              have HPD := Lib.hid (parse_any (B (blankL s.data.toList)) (by rw [B_size, Hnl.out]; omega) wC (HG.out.below HbCw.out (Nat.le_refl _)))
              rw [B_list] at HPD
              by_cases hlong : 8000 < n + 1
              · have hlong' : (8000 : Int) < (n : Int) + 1 := by omega
                have hDl := parseL_len (blankL s.data.toList)
                obtain ⟨⟨LD, FD, ND⟩, hD⟩ : ∃ r, parseL (blankL s.data.toList) = r := ⟨_, rfl⟩
                rw [hD] at HPD hDl
                clear hD
                simp only at hDl
                refine HPD.out.mono ?_
                rintro e wD ⟨⟨vD, rfl, hnD⟩, hbD⟩
                obtain ⟨pD, cD, rfl⟩ := hnD.form
                dsimp only
                have HbD := Lib.hid (then_bel HbCw.out hbD)
                have HSD := Lib.hid (same_any p6 pD L6.length LD.length c6 cD L6 LD (by omega) (by omega) wD (HnC.out.later hbD).lns hnD.lns)
                clear hbD hnD HPD
                go_wp2_with fail
                refine HSD.out.mono ?_
                rintro e wE ⟨rE, rfl, _, qE, hwE⟩
                have HbE : Hid (Below w.heap.size w wE) := Lib.hid (then_bel HbD.out (by rw [hwE]; exact drewN_bel wD qE))
                clear hwE
                go_wp2_with fail
                go_ret
                exact ⟨rfl, HbE.out⟩
              · have hlong' : ¬ (8000 : Int) < (n : Int) + 1 := by omega
                rw [HBl.out (by rw [Hnl.out]; omega)] at HPD
                refine HPD.out.mono ?_
                rintro e wD ⟨⟨vD, rfl, hnD⟩, hbD⟩
                obtain ⟨pD, cD, rfl⟩ := hnD.form
                dsimp only
                have HbD := Lib.hid (then_bel HbCw.out hbD)
                have HSD := Lib.hid (same_eq p6 pD L6.length c6 cD L6 (by omega) wD (HnC.out.later hbD).lns hnD.lns)
                clear hbD hnD HPD
                go_wp2_with fail
                refine HSD.out.mono ?_
                rintro e wE ⟨rfl, qE, hwE⟩
                have HbE : Hid (Below w.heap.size w wE) := Lib.hid (then_bel HbD.out (by rw [hwE]; exact drewN_bel wD qE))
                clear hwE
                go_wp2_with fail
                go_ret
                exact ⟨rfl, HbE.out⟩
        · have hr : r8 = true := Hr8.out (by rw [hL8]; exact bare_numb L6)
          subst hE7 hF8 hr
          clear Htwo7 hL8 Hr8
          have hWz : w.heap.size ≤ WA.heap.size := HbA.out.size
          focus
            go_wp2_with (at_builtin; go_must (refine wpList_append_lit rfl _ _ 32 rfl 5 i0 _ 1 Tryd.underlying32 hi hz0 hz1 hz2 rfl _ 2 (by omega) (by rfl) (by rfl) WA.heap.size (.slice none 0 0) 0 [] (by rfl) ⟨rfl, .inl ⟨rfl, rfl⟩⟩ (by simp [Value.oneCell']) (by omega) (by omega) (Nat.le_refl _) ?_))
          intro gA cA wB hownB hgrowB hatB hzB hltB
          have HOB : Hid (wB.ownsRow WA.heap.size 5 1 (.slice (some ⟨gA, 0, none⟩) 2 cA) 2 (Lib.byteCells ([32, 9] ++ (s.data.toList.take 0).flatMap blankB))) := Lib.hid hownB
          have HbB : Hid (Below WA.heap.size WA wB) := Lib.hid ((Below.refl _ _).grown hgrowB (Nat.le_refl _) fun q hq => by cases hq)
          clear hownB hgrowB hatB hzB
          go_wp2_with fail
          go_loopw [21, 22] (fun o i wr => ∃ (k n : Nat) (q : Option Addr) (cq : Nat), k ≤ s.size ∧ i = .int .i64 k ∧ o = .slice q n cq ∧ n ≤ 3 * k + 2 ∧ Hid (wr.ownsRow WA.heap.size 5 1 (.slice q n cq) n (Lib.byteCells ([32, 9] ++ (s.data.toList.take k).flatMap blankB))) ∧ Hid (Below WA.heap.size WA wr)) (fun _ i _ => s.size - (intOf i).toNat)
          case atStart => exact ⟨0, 2, _, cA, by omega, rfl, rfl, by omega, HOB, HbB⟩
          case round =>
            clear HOB HbB
            obtain ⟨k, n, q, cq, hk, rfl, rfl, hn3, HO, HbR⟩ := hrel
            have hzr := HbR.out.size
            by_cases hlt : k < s.size
            · obtain ⟨b, hb, hbk, hb0, hb1⟩ := byteAt s k hlt
              have hbk' := hbk hlt
              have Hfl := Lib.hid (flat_snoc s.data.toList k b hb)
              clear hb
              by_cases h10 : b.toNat = 10
              · have q1 : ((b.toNat : Int) == 10) = true := by rw [h10]; rfl
                have Hbb : Hid (blankB b = [9, 10, 32]) := Lib.hid (by unfold blankB; rw [if_pos (UInt8.toNat_inj.1 (by rw [h10]; rfl))])
                clear h10
                focus
                  go_wp2_with (at_builtin; go_must (refine wpList_append_lit rfl _ _ 32 rfl 5 i0 _ 1 Tryd.underlying32 hi hz0 hz1 hz2 rfl _ 3 (by omega) (by rfl) (by rfl) WA.heap.size _ n _ (by rfl) HO.out (by simp [Value.oneCell']) (by omega) (by omega) (by omega) ?_))
                intro g2 c2 w2' hown2 hgrow2 hat2 hz2' hlt2
                have HO2 : Hid (w2'.ownsRow WA.heap.size 5 1 (.slice (some ⟨g2, 0, none⟩) (n + 3) c2) (n + 3) (Lib.byteCells ([32, 9] ++ (s.data.toList.take (k + 1)).flatMap blankB))) := Lib.hid (by
                  rw [Hfl.out, Hbb.out, ← List.append_assoc, ← bytes_lit _ [9, 10, 32] _ rfl]
                  exact hown2)
                have HbR2 := Lib.hid (below_grown_own HbR.out HO.out hgrow2 hzr)
                clear hown2 hgrow2 hat2 hz2'
                go_wp2_with fail
                go_roundw
                case rel => exact ⟨k + 1, n + 3, _, c2, by omega, by go_num, rfl, by omega, HO2, HbR2⟩
                case measure => simp [intOf]; omega
              · have q1 : ((b.toNat : Int) == 10) = false := by simp; omega
                have Hbb : Hid (blankB b = [b]) := Lib.hid (by unfold blankB; rw [if_neg (by rintro rfl; exact h10 rfl)])
                clear h10
                focus
                  go_wp2_with (at_builtin; go_must (refine wpList_append_lit rfl _ _ 32 rfl 5 i0 _ 1 Tryd.underlying32 hi hz0 hz1 hz2 rfl _ 1 (by omega) (by rfl) (by rfl) WA.heap.size _ n _ (by rfl) HO.out (by simp [Value.oneCell']) (by omega) (by omega) (by omega) ?_))
                intro g2 c2 w2' hown2 hgrow2 hat2 hz2' hlt2
                have HO2 : Hid (w2'.ownsRow WA.heap.size 5 1 (.slice (some ⟨g2, 0, none⟩) (n + 1) c2) (n + 1) (Lib.byteCells ([32, 9] ++ (s.data.toList.take (k + 1)).flatMap blankB))) := Lib.hid (by
                  rw [Hfl.out, Hbb.out, ← List.append_assoc, ← bytes_lit _ [b] _ rfl]
                  exact hown2)
                have HbR2 := Lib.hid (below_grown_own HbR.out HO.out hgrow2 hzr)
                clear hown2 hgrow2 hat2 hz2'
                go_wp2_with fail
                go_roundw
                case rel => exact ⟨k + 1, n + 1, _, c2, by omega, by go_num, rfl, by omega, HO2, HbR2⟩
                case measure => simp [intOf]; omega
            · obtain rfl : k = s.size := by omega
              focus
                go_wp2_with (at_builtin; go_must (refine wpList_append_lit rfl _ _ 32 rfl 5 i0 _ 1 Tryd.underlying32 hi hz0 hz1 hz2 rfl _ 1 (by omega) (by rfl) (by rfl) WA.heap.size _ n _ (by rfl) HO.out (by simp [Value.oneCell']) (by omega) (by omega) (by omega) ?_))
              intro g2 c2 wC hown2 hgrow2 hat2 hz2' hlt2
              have HOC : Hid (wC.ownsRow WA.heap.size 5 1 (.slice (some ⟨g2, 0, none⟩) (n + 1) c2) (n + 1) (Lib.byteCells (blankL s.data.toList))) := Lib.hid (by
                have e : s.data.toList.take s.size = s.data.toList := List.take_of_length_le (by rw [toList_len]; exact Nat.le_refl _)
                have h := hown2
                rw [e] at h
                unfold blankL
                rw [← bytes_lit _ [32] _ rfl]
                exact h)
              have HbC := Lib.hid (below_grown_own HbR.out HO.out hgrow2 hzr)
              have Hnl : Hid ((blankL s.data.toList).length = n + 1) := Lib.hid (by have := HOC.out.1; rw [Lib.byteCells_length] at this; omega)
              have hnc : n + 1 ≤ c2 := by
                rcases HOC.out.2 with ⟨h, _⟩ | ⟨g, cap, cur, h, _, _, h2, _⟩
                · cases h
                · cases h; exact h2
              have HbCw := Lib.hid (HbA.out.trans (HbC.out.mono hWz))
              have HnC := Lib.hid (HnA.out.later HbC.out)
              clear hown2 hgrow2 hat2 hz2'
              go_wp2_with (refine wpList_string_of_own rfl 32 9 5 (.tmp 175) rfl WA.heap.size _ _ _ (by rfl) HOC.out Tryd.underlying32 Tryd.underlying5 Tryd.underlying9 ?_)
              have HPD := Lib.hid (parse_any (B (blankL s.data.toList)) (by rw [B_size, Hnl.out]; omega) wC (HG.out.below HbCw.out (Nat.le_refl _)))
              rw [B_list] at HPD
              by_cases hlong : 8000 < n + 1
              · have hlong' : (8000 : Int) < (n : Int) + 1 := by omega
                have hDl := parseL_len (blankL s.data.toList)
                obtain ⟨⟨LD, FD, ND⟩, hD⟩ : ∃ r, parseL (blankL s.data.toList) = r := ⟨_, rfl⟩
                rw [hD] at HPD hDl
                clear hD
                simp only at hDl
                refine HPD.out.mono ?_
                rintro e wD ⟨⟨vD, rfl, hnD⟩, hbD⟩
                obtain ⟨pD, cD, rfl⟩ := hnD.form
                dsimp only
                have HbD := Lib.hid (then_bel HbCw.out hbD)
                have HSD := Lib.hid (same_any p6 pD L6.length LD.length c6 cD L6 LD (by omega) (by omega) wD (HnC.out.later hbD).lns hnD.lns)
                clear hbD hnD HPD
                go_wp2_with fail
                refine HSD.out.mono ?_
                rintro e wE ⟨rE, rfl, _, qE, hwE⟩
                have HbE : Hid (Below w.heap.size w wE) := Lib.hid (then_bel HbD.out (by rw [hwE]; exact drewN_bel wD qE))
                clear hwE
                go_wp2_with fail
                go_ret
                exact ⟨rfl, HbE.out⟩
              · have hlong' : ¬ (8000 : Int) < (n : Int) + 1 := by omega
                rw [HBl.out (by rw [Hnl.out]; omega)] at HPD
                refine HPD.out.mono ?_
                rintro e wD ⟨⟨vD, rfl, hnD⟩, hbD⟩
                obtain ⟨pD, cD, rfl⟩ := hnD.form
                dsimp only
                have HbD := Lib.hid (then_bel HbCw.out hbD)
                have HSD := Lib.hid (same_eq p6 pD L6.length c6 cD L6 (by omega) wD (HnC.out.later hbD).lns hnD.lns)
                clear hbD hnD HPD
                go_wp2_with fail
                refine HSD.out.mono ?_
                rintro e wE ⟨rfl, qE, hwE⟩
                have HbE : Hid (Below w.heap.size w wE) := Lib.hid (then_bel HbD.out (by rw [hwE]; exact drewN_bel wD qE))
                clear hwE
                go_wp2_with fail
                go_ret
                exact ⟨rfl, HbE.out⟩
      · subst hL0 hF
        go_wp2_with fail
        go_ret
        exact ⟨rfl, Hb6.out⟩
      · subst hL0 hF hN
        have hs9 : (8000 : Int) < (s.size : Int) := by omega
        go_wp2_with fail
        go_ret
        exact ⟨rfl, Hb6.out⟩
end Go.Proofs.YtkbamhecbfocbaaDoor.ini
