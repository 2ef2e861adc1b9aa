/- (*reader).line reads a line, or panics: the plain function. Conditions: as stated. -/
import Derived.Test.YtkbamhecbfocbaaDoorInF
namespace Go.Proofs.YtkbamhecbfocbaaDoor.ini
open Go.ChangeShapes Go.WideShapes Go.ChangeAt Go.RowKit gl
open Go.Maps

set_option maxHeartbeats 8000000 in
set_option maxRecDepth 100000 in
theorem line_any (s : ByteArray) (hs : s.size ≤ 8000) (N : Int) (hN : 1 ≤ N ∧ N ≤ 8001) (M b m : Nat) (a : List UInt8) (ha : a.length ≤ 8001) (out : List Ln) (hout : out.length ≤ 8001) (w : World) (h : RD M w b m a out) :
    Calls Tryd.prog 49 #[.pointer (some ⟨b, 0, none⟩), .string s, .int .i64 N] w fun e w' => LnOut M b m out N (lineL a out s.data.toList) w e w' := by
  have HR := Lib.hid h
  obtain ⟨i0, hi, hz0, hz1, hz2⟩ := info_parts infoLn
  obtain ⟨T, hT⟩ : ∃ T : ByteArray, T = B (tri s.data.toList) := ⟨_, rfl⟩
  have HT : Hid (Calls Tryd.prog 73 #[.string s, .string ⟨#[32, 9]⟩] w fun e w' => e = .returned (.string T) ∧ Below w.heap.size w w') := Lib.hid (by rw [hT]; exact Trim_any s (by omega) w)
  have HTl : Hid (T.data.toList = tri s.data.toList) := Lib.hid (by rw [hT])
  have hTs : T.size ≤ 8000 := by
    have := tri_len s.data.toList
    rw [← HTl.out, toList_len, toList_len] at this
    omega
  have hMw := h.hM
  clear h hT
  cases htx : tri s.data.toList with
  | nil =>
    have q := seq_lit (HTl.out.trans htx)
    have Hr : Hid (lineL a out s.data.toList = some (a, none)) := Lib.hid (lineT_nil htx)
    clear htx
    go_enter Tryd.func49, Tryd.ntmps49
    go_wp2_with fail
    refine HT.out.mono ?_
    rintro e w1 ⟨rfl, hb⟩
    have Hb := Lib.hid hb
    clear hb
    go_wp2_with fail
    go_returns
    rw [Hr.out]
    exact ⟨rfl, HR.out.later Hb.out, Hb.out.mono hMw, ls.SK.of_below Hb.out⟩
  | cons c r =>
    have hTl2 := HTl.out.trans htx
    have hT0 : 0 < T.size := by have := congrArg List.length hTl2; rw [toList_len] at this; simp at this; omega
    have q := seq_nlit (a := T) (l := []) (by rw [hTl2]; simp)
    obtain ⟨c', hc, hck, hc0, hc1⟩ := byteAt T 0 hT0
    have hck' := hck hT0
    obtain rfl : c' = c := by rw [hTl2] at hc; simpa using hc.symm
    have Htx := Lib.hid htx
    have HTl2 := Lib.hid hTl2
    clear hc htx hTl2
    by_cases h59 : c'.toNat = 59 ∨ c'.toNat = 35
    · have Hr : Hid (lineL a out s.data.toList = some (a, none)) := Lib.hid (lineT_skip Htx.out (by
        rcases h59 with h | h
        · exact .inl (UInt8.toNat_inj.1 (by rw [h]; rfl))
        · exact .inr (UInt8.toNat_inj.1 (by rw [h]; rfl))))
      rcases h59 with h | h
      · have q2 : ((c'.toNat : Int) == 59) = true := by rw [h]; rfl
        clear h
        go_enter Tryd.func49, Tryd.ntmps49
        go_wp2_with fail
        refine HT.out.mono ?_
        rintro e w1 ⟨rfl, hb⟩
        have Hb := Lib.hid hb
        clear hb
        go_wp2_with fail
        go_returns
        rw [Hr.out]
        exact ⟨rfl, HR.out.later Hb.out, Hb.out.mono hMw, ls.SK.of_below Hb.out⟩
      · have q2 : ((c'.toNat : Int) == 59) = false := by rw [h]; rfl
        have q3 : ((c'.toNat : Int) == 35) = true := by rw [h]; rfl
        clear h
        go_enter Tryd.func49, Tryd.ntmps49
        go_wp2_with fail
        refine HT.out.mono ?_
        rintro e w1 ⟨rfl, hb⟩
        have Hb := Lib.hid hb
        clear hb
        go_wp2_with fail
        go_returns
        rw [Hr.out]
        exact ⟨rfl, HR.out.later Hb.out, Hb.out.mono hMw, ls.SK.of_below Hb.out⟩
    · have q2 : ((c'.toNat : Int) == 59) = false := by simp; omega
      have q3 : ((c'.toNat : Int) == 35) = false := by simp; omega
      by_cases h91 : c'.toNat = 91
      · have q4 : ((c'.toNat : Int) == 91) = true := by rw [h91]; rfl
        have hc91 : c' = 91 := UInt8.toNat_inj.1 (by rw [h91]; rfl)
        have Hsl : Hid (lineL a out s.data.toList = (secL r).map fun y => (y, none)) := Lib.hid (lineT_sec (by rw [Htx.out, hc91]))
        have HS := Lib.hid fun (W : World) (hW : Below w.heap.size w W) => sections_any T hTs r (by rw [HTl2.out, hc91]) M b m a out W (HR.out.later hW)
        clear h59 h91 hc91
        go_enter Tryd.func49, Tryd.ntmps49
        go_wp2_with fail
        refine HT.out.mono ?_
        rintro e w1 ⟨rfl, hb⟩
        have Hb := Lib.hid hb
        clear hb
        cases hso : secL r with
        | some a2 =>
          have Hso := Lib.hid hso
          clear hso
          go_wp2_with fail
          refine (HS.out _ Hb.out).mono ?_
          intro e w2 hso2
          rw [Hso.out] at hso2
          obtain ⟨rfl, hrd, hb2, hss⟩ := hso2
          have Hss := Lib.hid hss
          have Hrd := Lib.hid hrd
          have Hb2 := Lib.hid hb2
          clear hrd hb2 hss
          go_wp2_with fail
          go_returns
          rw [Hsl.out, Hso.out]
          exact ⟨rfl, Hrd.out, (Hb.out.mono hMw).trans Hb2.out, (ls.SK.of_below Hb.out).trans Hss.out⟩
        | none =>
          have Hso := Lib.hid hso
          clear hso
          go_wp2_with fail
          refine (HS.out _ Hb.out).mono ?_
          intro e w2 hso2
          rw [Hso.out] at hso2
          obtain ⟨rfl, hb2⟩ := hso2
          have Hb2 := Lib.hid hb2
          clear hb2
          unfold pan
          go_wp2_with fail
          refine ⟨rfl, ?_⟩
          rw [Hsl.out, Hso.out]
          exact ⟨rfl, (Hb.out.mono hMw).trans Hb2.out⟩
      · have q4 : ((c'.toNat : Int) == 91) = false := by simp; omega
        have Hgl : Hid (lineL a out s.data.toList = (givenL a out T.data.toList).map fun p => (a, some p)) := Lib.hid (by
          rw [HTl2.out]
          exact line_giv Htx.out (by rintro rfl; exact h59 (.inl rfl)) (by rintro rfl; exact h59 (.inr rfl)) (by rintro rfl; exact h91 rfl))
        obtain ⟨mx, hmx⟩ := (HR.out.glo.glo).maxLen
        have HC := Lib.hid fun (W : World) (hW : Below w.heap.size w W) => (by
          obtain ⟨my, hmy⟩ := ((HR.out.later hW).glo.glo).maxLen
          exact Tryd.strings_Cut T ⟨#[61]⟩ my W (by omega) hmy)
        clear h59 h91 hmx
        obtain ⟨xl, yl, isb, hcut, hyes, hno, hxl, hyl⟩ := cut_parts61 T.data.toList
        rw [toList_len] at hxl hyl
        have Hcut := Lib.hid hcut
        have Hyes := Lib.hid hyes
        have Hno := Lib.hid hno
        obtain ⟨X, hX⟩ : ∃ X : ByteArray, X = (⟨xl.toArray⟩ : ByteArray) := ⟨_, rfl⟩
        obtain ⟨Y, hY⟩ : ∃ Y : ByteArray, Y = (⟨yl.toArray⟩ : ByteArray) := ⟨_, rfl⟩
        have HXl : Hid (X.data.toList = xl) := Lib.hid (by rw [hX])
        have HYl : Hid (Y.data.toList = yl) := Lib.hid (by rw [hY])
        have hXs : X.size ≤ 8000 := by have := toList_len X; rw [HXl.out] at this; omega
        have hYs : Y.size ≤ 8000 := by have := toList_len Y; rw [HYl.out] at this; omega
        obtain ⟨X2, hX2⟩ : ∃ X2 : ByteArray, X2 = B (triR X.data.toList) := ⟨_, rfl⟩
        have hX2s : X2.size ≤ 8000 := by rw [hX2, B_size]; have := triR_len X.data.toList; rw [toList_len] at this; omega
        have HX2 : Hid (X2.data.toList = triR xl) := Lib.hid (by rw [hX2, B_list, HXl.out])
        have HTR : Hid (∀ W, Calls Tryd.prog 78 #[.string X, .string ⟨#[32, 9]⟩] W fun e w' => e = .returned (.string X2) ∧ Below W.heap.size W w') := Lib.hid (by rw [hX2]; exact fun W => TrimRight_any X (by omega) W)
        obtain ⟨A, hA⟩ : ∃ A : ByteArray, A = B a := ⟨_, rfl⟩
        have hAs : A.size ≤ 8001 := by rw [hA, B_size]; exact ha
        have HA : Hid (A.data.toList = a) := Lib.hid (by rw [hA, B_list])
        have HAe := Lib.hid hA
        obtain ⟨N1, hN1⟩ : ∃ N1 : ByteArray, N1 = A ++ X2 := ⟨_, rfl⟩
        have hN1s : N1.size ≤ 16001 := by rw [hN1, ByteArray.size_append]; omega
        have HN1 : Hid (N1.data.toList = a ++ triR xl) := Lib.hid (by rw [hN1, app_list, HA.out, HX2.out])
        have hsum : ∀ wx : World, (Op.stringOp .add A X2).run Tryd.prog wx = .ok (.string N1) wx := fun wx => by
          rw [hN1]
          exact run_string_add_sum wx _ _ (by omega)
        have HXe : Hid ((⟨xl.toArray⟩ : ByteArray) = X) := Lib.hid hX.symm
        have HYe : Hid ((⟨yl.toArray⟩ : ByteArray) = Y) := Lib.hid hY.symm
        clear hcut hyes hno hX hY hX2 hA hN1
        go_enter Tryd.func49, Tryd.ntmps49
        go_wp2_with fail
        refine HT.out.mono ?_
        rintro e w1 ⟨rfl, hb⟩
        have Hb := Lib.hid hb
        clear hb
        go_wp2_with fail
        refine (HC.out _ Hb.out).mono ?_
        rintro e w2 ⟨rfl, nd, hw2⟩
        have hb2 : Below w.heap.size w w2 := by rw [hw2]; exact then_bel Hb.out (drewN_bel _ _)
        have Hb2 := Lib.hid hb2
        have HR2 := Lib.hid (HR.out.later hb2)
        clear hw2 hb2
        rw [Hcut.out]
        simp only
        rw [HXe.out, HYe.out]
        obtain ⟨c0, f0, hbw⟩ := HR2.out.cells
        rw [← HAe.out] at c0
        have hMw2 := HR2.out.hM
        go_wp2_with fail
        have hSt : w2.cell? ⟨b, 0, none⟩ = some (.string A) ∧ Hid (Below w2.heap.size w2 w2) := ⟨c0, Lib.hid (Below.refl _ _)⟩
        go_region_held3 (fun w' => w'.cell? ⟨b, 0, none⟩ = some (.string A) ∧ Hid (Below w2.heap.size w2 w'))
          (first | assumption | (with_reducible exact c1_drew (by assumption)))
          ((go_at_call 78; refine (HTR.out _).mono ?_; rintro e w' ⟨rfl, hb⟩; have hS' := c1_call (by assumption) hb; clear hb))
        obtain ⟨w3, rfl⟩ : ∃ w3, w3 = w' := ⟨_, rfl⟩
        have HR3 := Lib.hid (HR2.out.later hS'.2.out)
        have Hb3 := Lib.hid (then_bel Hb2.out hS'.2.out)
        clear hSt hS' c0 f0
        obtain ⟨p, c, hblk, hown⟩ := HR3.out.blk
        obtain ⟨D, hmap, hgiv⟩ := HR3.out.mp
        have Hmap := Lib.hid hmap
        have Hgiv := Lib.hid hgiv
        have Hblk := Lib.hid hblk
        have Hown := Lib.hid hown
        have e2 := cell_in (o := 2) hblk
        simp only [List.getElem?_toArray, List.getElem?_cons_succ, List.getElem?_cons_zero] at e2
        have HI := Lib.hid fun (W : World) (hW : Below w3.heap.size w3 W) => IsName_any N1 (by omega) W (HR3.out.later hW).glo.glo
        have hkey : keyOf Tryd.prog 9 (.string N1) = some (.string N1.data.toList) := Go.WideMaps.keyOf_string_mk Tryd.underlying9 (by unfold maxLen; omega)
        have Hkey := Lib.hid hkey
        clear hmap hgiv hblk hown hkey
        cases isb with
        | false =>
          have Hr : Hid (lineL a out s.data.toList = none) := Lib.hid (by rw [Hgl.out, giv_no1 (Hno.out rfl)]; rfl)
          go_wp2_with fail
          refine (want_no _).mono ?_
          rintro e w9 ⟨rfl, rfl⟩
          unfold pan
          go_wp2_with fail
          refine ⟨rfl, ?_⟩
          rw [Hr.out]
          exact ⟨rfl, Hb3.out.mono hMw⟩
        | true =>
          obtain ⟨h61, hxe, hye⟩ := Hyes.out rfl
          have Hxe := Lib.hid hxe
          have Hye := Lib.hid hye
          have H61 := Lib.hid h61
          clear h61 hxe hye
          cases hnm : nameL N1.data.toList with
          | false =>
            have Hr : Hid (lineL a out s.data.toList = none) := Lib.hid (by rw [Hgl.out, giv_no2 (by rw [← Hxe.out, ← HN1.out]; exact hnm)]; rfl)
            have Hnm := Lib.hid hnm
            clear hnm
            go_wp2_with fail
            refine (HI.out _ (Below.refl _ _)).mono ?_
            rintro e w4 ⟨rfl, hb4⟩
            rw [Hnm.out]
            have Hb4 := Lib.hid (then_bel Hb3.out hb4)
            clear hb4
            go_wp2_with fail
            refine (want_no _).mono ?_
            rintro e w9 ⟨rfl, rfl⟩
            unfold pan
            go_wp2_with fail
            refine ⟨rfl, ?_⟩
            rw [Hr.out]
            exact ⟨rfl, Hb4.out.mono hMw⟩
          | true =>
            have Hnm := Lib.hid hnm
            clear hnm
            go_wp2_with fail
            refine (HI.out _ (Below.refl _ _)).mono ?_
            rintro e w4 ⟨rfl, hb4⟩
            rw [Hnm.out]
            have Hb4 := Lib.hid (then_bel Hb3.out hb4)
            have Hmap4 := Lib.hid (map_upd Hmap.out (Upd.of_below hb4 []) (by simp))
            have e24 := (hb4.cell (p := ⟨b, 2, none⟩) (lt_of_block Hblk.out)).trans e2
            have hbl4 : b < w4.heap.size := by have := hb4.size; have := lt_of_block Hblk.out; omega
            have HR4 := Lib.hid (HR3.out.later hb4)
            have Hblk4 := Lib.hid ((hb4.block b (lt_of_block Hblk.out)).trans Hblk.out)
            have Hown4 := Lib.hid (ls.own_kept Hown.out hb4)
            clear hb4 e2
            obtain ⟨cv, hrun, hat, hwc⟩ := Hmap4.out.lookup_int lawS Tryd.underlying62 Tryd.underlying3 (zeroI _) Hkey.out
            have Hat := Lib.hid hat
            clear hat hwc
            go_wp2_with fail
            cases hth : there out N1.data.toList with
            | true =>
              have hcv : (cv == 0) = false := by
                rw [beq_eq_false_iff_ne]
                intro e
                have := (Hgiv.out.2 _ _ Hat.out).1 e
                rw [hth] at this
                cases this
              have Hr : Hid (lineL a out s.data.toList = none) := Lib.hid (by rw [Hgl.out, giv_no3 (by rw [← Hxe.out, ← HN1.out]; exact hth)]; rfl)
              clear hth
              rw [hcv]
              refine (want_no _).mono ?_
              rintro e w9 ⟨rfl, rfl⟩
              unfold pan
              go_wp2_with fail
              refine ⟨rfl, ?_⟩
              rw [Hr.out]
              exact ⟨rfl, Hb4.out.mono hMw⟩
            | false =>
              have hcv : (cv == 0) = true := by
                rw [beq_iff_eq]
                exact (Hgiv.out.2 _ _ Hat.out).2 hth
              have Hgy : Hid (lineL a out s.data.toList = (meantL (triL yl)).map fun t => (a, some (N1.data.toList, t))) := Lib.hid (by
                rw [Hgl.out, giv_yes H61.out (by rw [← Hxe.out, ← HN1.out]; exact Hnm.out) (by rw [← Hxe.out, ← HN1.out]; exact hth), ← Hxe.out, ← Hye.out, ← HN1.out]
                cases meantL (triL yl) <;> rfl)
              clear hth
              rw [hcv]
              refine (want_yes _).mono ?_
              rintro e w9 ⟨rfl, rfl⟩
              clear hrun hcv
              go_wp2_with (at_mapUpdate; refine wpList_mapUpdate_own _ rfl _ _ _ 62 rfl 9 3 lawS Tryd.underlying62 _ m out.length _ rfl Hmap4.out (by unfold maxLen; omega) _ _ _ rfl rfl Hkey.out _ [] (plainElem_int Tryd.underlying3 (WalkArith.wf_i64 (by omega))) ?_; intro w5 hmap5 hgrow5)
              have hblk4 := (show w4.heap[b]? = some (.cells #[.string (B a), .slice p out.length c, .map (some m)] 73 (0, 0)) from Hblk4.out)
              have hne : some b ≠ some m := by
                intro e
                have := Option.some.inj e
                exact map_ne Hmap4.out hblk4 this.symm
              have hblk5 := (hgrow5.block b (lt_of_block hblk4) hne).trans hblk4
              have hown5 : w5.ownsRow M 35 3 (.slice p out.length c) out.length (lnsC out) := by
                refine (Upd.of_grown (S := [m]) hgrow5 (fun k hk => by cases hk; simp)).row Hown4.out fun g hg hm => ?_
                obtain rfl : g = m := by simpa using hm
                rcases Hown4.out.2 with ⟨h1, _⟩ | ⟨q, cap, cur, h1, _, hq, _⟩
                · rw [h1] at hg; cases hg
                · rw [h1] at hg
                  cases hg
                  exact map_ne Hmap4.out hq rfl
              have hb45 : Below M w4 w5 := (Below.refl _ _).grown hgrow5 HR4.out.hM fun k hk => by cases hk; exact HR4.out.mM
              have Hb5 := Lib.hid ((Hb4.out.mono hMw).trans hb45)
              have Hss5 : Hid (ls.SK 9 w w5) := Lib.hid ((ls.SK.of_below Hb4.out).trans fun g cs hg => (hgrow5.block g (lt_of_block hg) fun e => map_ne Hmap4.out hg (Option.some.inj e).symm).trans hg)
              have hM5 : M ≤ w5.heap.size := by have := hb45.size; have := HR4.out.hM; omega
              have Hglo5 := Lib.hid (HR4.out.glo.later hb45)
              have Hgiv5 := Lib.hid (giv_put (x := ⟨N1.data.toList, [], N⟩) Hgiv.out (by show N ≠ 0; omega))
              have Hmap5 := Lib.hid hmap5
              have Hblk5 := Lib.hid hblk5
              have Hown5 := Lib.hid hown5
              have hbM := HR4.out.bM
              have hmM := HR4.out.mM
              have c1 := cell_in (o := 1) hblk5
              have f1 : w5.frozen? ⟨b, 1, none⟩ = false := free_in hblk5
              simp only [List.getElem?_toArray, List.getElem?_cons_succ, List.getElem?_cons_zero] at c1
              have hbl5 := lt_of_block hblk5
              obtain ⟨n, hn⟩ : ∃ n, n = out.length := ⟨_, rfl⟩
              rw [← hn] at c1 hout Hown5 Hblk5 Hmap5
              have hnc : n ≤ c := by
                rcases Hown5.out.2 with ⟨h, h0⟩ | ⟨g, cap, cur, h, _, _, h2, _⟩
                · cases h; omega
                · cases h; exact h2
              have Hn := Lib.hid hn
              obtain ⟨Y2, hY2⟩ : ∃ Y2 : ByteArray, Y2 = B (triL Y.data.toList) := ⟨_, rfl⟩
              have hY2s : Y2.size ≤ 8000 := by rw [hY2, B_size]; have := triL_len Y.data.toList; rw [toList_len] at this; omega
              have HY2 : Hid (Y2.data.toList = triL yl) := Lib.hid (by rw [hY2, B_list, HYl.out])
              have HTL : Hid (∀ W, Calls Tryd.prog 81 #[.string Y, .string ⟨#[32, 9]⟩] W fun e w' => e = .returned (.string Y2) ∧ Below W.heap.size W w') := Lib.hid (by rw [hY2]; exact fun W => TrimLeft_any Y W)
              have HM0 := Lib.hid fun W => meant_any Y2 (by omega) W
              clear hblk4 hne hmap5 hgrow5 hblk5 hown5 hb45 hn hY2 e24
              obtain ⟨U0, hU0⟩ : ∃ U0, U0 = (meantL Y2.data.toList).getD [] := ⟨_, rfl⟩
              obtain ⟨U, hU⟩ : ∃ U : ByteArray, U = B U0 := ⟨_, rfl⟩
              have HMs : Hid (∀ W, Calls Tryd.prog 80 #[.string Y2] W fun e w' => (e = pan ∧ Below W.heap.size W w' ∧ meantL Y2.data.toList = none) ∨ (e = .returned (.string U) ∧ Below W.heap.size W w' ∧ meantL Y2.data.toList = some U0)) := Lib.hid fun W => (HM0.out W).mono fun e w' ⟨h1, h2⟩ => by
                cases hmt : meantL Y2.data.toList with
                | none =>
                  rw [hmt] at h1
                  exact .inl ⟨h1, h2, rfl⟩
                | some x =>
                  rw [hmt] at h1 hU0
                  obtain rfl : U0 = x := hU0
                  exact .inr ⟨by rw [hU]; exact h1, h2, rfl⟩
              have HU := Lib.hid hU
              clear HM0 hU hU0
              have hSt : Hid (Below M w5 w5) := Lib.hid (Below.refl _ _)
              go_region_law
                (first
                  | (refine step_call (by rfl) 81 _ _ (by rfl) egTL _ (by rfl) _ _ (HTL.out _) ?_; intro wt hbt; have HBt : Hid (Below w5.heap.size w5 wt) := Lib.hid ⟨hbt.os, hbt.tape, hbt.output, hbt.size, hbt.block⟩; have t1 := (HBt.out.cell (p := ⟨b, 1, none⟩) hbl5).trans c1; have t2 := (HBt.out.frozen (p := ⟨b, 1, none⟩) hbl5).trans f1; clear hbt)
                  | (refine step_call_or (by rfl) 80 _ _ (by rfl) egMe _ (by rfl) pan _ rfl _ _ _ (HMs.out _) (fun wm hbm => ⟨rfl, by rw [Hgy.out, ← HY2.out, hbm.2]; exact ⟨rfl, Hb5.out.trans ((then_bel HBt.out hbm.1).mono hM5)⟩⟩) ?_; intro wm hbm2; have hbm := hbm2.1; have Hmt := Lib.hid hbm2.2; clear hbm2; have HBm : Hid (Below w5.heap.size w5 wm) := Lib.hid (then_bel HBt.out hbm); have m1 := (HBm.out.cell (p := ⟨b, 1, none⟩) hbl5).trans c1; have m2 := (HBm.out.frozen (p := ⟨b, 1, none⟩) hbl5).trans f1; have m3 : b < wm.heap.size := (by have := HBm.out.size; omega); have m4 : M ≤ wm.heap.size := (by have := HBm.out.size; omega); have HOm := Lib.hid (ls.own_kept Hown5.out HBm.out); clear hbm)
                  | (refine step_append_k0 (by rfl) _ _ 27 (by rfl) 35 i0 _ 3 40 Tryd.underlying27 hi hz0 hz1 hz2 rfl (by omega) _ (by rfl) (by rfl) M _ n _ (by rfl) HOm.out (by simp [Value.oneCell']) (by omega) (by omega) (by omega) ?_; intro g' cap' w7 hown7 hgrow7 hat7 hz7 hlt7; have HO7 := Lib.hid hown7; have HG7 := Lib.hid hgrow7; have hfar := own_far HOm.out hgrow7 m3 m1 m2 (line_far HBm.out Hblk5.out HOm.out); obtain ⟨n1, n2, n3⟩ := hfar; clear hown7 hgrow7 hat7))
              all_goals
                go_wp2_with fail
                go_end0
                have hp := RD.push (x := ⟨N1.data.toList, U0, N⟩) Hglo5.out hM5 hbM hmM Hn.out.symm Hblk5.out Hmap5.out (giv_put (x := ⟨N1.data.toList, U0, N⟩) Hgiv.out (by show N ≠ 0; omega)) HBm.out HOm.out HG7.out (lns_snoc (x := ⟨N1.data.toList, U0, N⟩) (B_of N1).symm HU.out HO7.out)
                rw [Hgy.out, ← HY2.out, Hmt.out]
                exact ⟨rfl, hp.1, Hb5.out.trans hp.2.1, Hss5.out.trans hp.2.2⟩
end Go.Proofs.YtkbamhecbfocbaaDoor.ini
