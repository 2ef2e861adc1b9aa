/- Laws and contracts on which the statement rests, part K: each text says what it proves, and its conditions. -/
import Derived.Test.YthjcifokmcbaoaaGreatDoorMgJ
import Derived.Test.YthjcifokmcbaoaaGreatDoorMgI
/- BaseStands returns true. Condition: the listed variables hold what the program's text lays. -/
namespace Go.Proofs.YthjcifokmcbaoaaGreatDoor.st
open Go.ChangeShapes Go.WideShapes Go.ChangeAt Go.RowKit gl ls

theorem new_upd {α : Type} {enc : α → List Value} {k : Nat} {T : TypeId} {M : Nat} {w w' : World} {v : Value} {l : List α} {S : List Nat} (h : rw.NewRw enc k T M w v l) (hu : Upd S w w') (hn : ∀ g ∈ S, g < M) : rw.NewRw enc k T M w' v l := by
  rcases h with h | ⟨g, c, cs, rfl, hc, hg, hbk, h2⟩
  · exact .inl h
  · exact .inr ⟨g, c, cs, rfl, hc, hg, (hu.block g (lt_of_block hbk) fun e => by have := hn g e; omega).trans hbk, h2⟩
theorem NewMv.upd {M : Nat} {w w' : World} {v : Value} {R : List MvR} {l : List Mv} {S : List Nat} (h : NewMv M w v R l) (hu : Upd S w w') (hn : ∀ g ∈ S, g < M) : NewMv M w' v R l :=
  ⟨new_upd h.1 hu hn, h.2.1, fun i r m h1 h2 => ⟨(h.2.2 i r m h1 h2).1, new_upd (h.2.2 i r m h1 h2).2.1 hu hn, new_upd (h.2.2 i r m h1 h2).2.2 hu hn⟩⟩
theorem upd_bel {S : List Nat} {w w' : World} {B : Nat} (h : Upd S w w') (hS : ∀ k ∈ S, B ≤ k) (hB : B ≤ w.heap.size) : Below B w w' := h.below hS hB
theorem new_apart {α : Type} {enc : α → List Value} {k : Nat} {T : TypeId} {M : Nat} {w0 w w' : World} {v : Value} {l : List α} {S : List Nat} (h : rw.NewRw enc k T M w0 v l) (hb : Below w0.heap.size w0 w) (hu : Upd S w w') (hS : ∀ g ∈ S, g < M ∨ w0.heap.size ≤ g) : rw.NewRw enc k T M w' v l := by
  rcases h with h | ⟨g, c, cs, rfl, hc, hg, hbk, h2⟩
  · exact .inl h
  · have hlt := lt_of_block hbk
    refine .inr ⟨g, c, cs, rfl, hc, hg, (hu.block g (by have := hb.size; omega) fun e => ?_).trans ((hb.block g hlt).trans hbk), h2⟩
    rcases hS g e with h | h <;> omega
theorem NewMv.apart {M : Nat} {w0 w w' : World} {v : Value} {R : List MvR} {l : List Mv} {S : List Nat} (h : NewMv M w0 v R l) (hb : Below w0.heap.size w0 w) (hu : Upd S w w') (hS : ∀ g ∈ S, g < M ∨ w0.heap.size ≤ g) : NewMv M w' v R l :=
  ⟨new_apart h.1 hb hu hS, h.2.1, fun i r m h1 h2 => ⟨(h.2.2 i r m h1 h2).1, new_apart (h.2.2 i r m h1 h2).2.1 hb hu hS, new_apart (h.2.2 i r m h1 h2).2.2 hb hu hS⟩⟩
set_option maxHeartbeats 16000000 in
set_option maxRecDepth 100000 in
theorem baseStands_any (times : Int) (ht1 : -9223372036854775808 ≤ times) (ht2 : times ≤ 9223372036854775807) (w : World) (hS : Slo w) :
    Calls Tryz.prog 3 #[.int .i64 times] w fun e w' => e = .returned (.bool true) ∧ Below w.heap.size w w' := by
  have HSl := Lib.hid fun (W : World) (hb : Below w.heap.size w W) => hS.later hb
  obtain ⟨i0, hi, hz0, hz1, hz2⟩ := info_parts infoTx
  clear hS
  go_enter Tryz.func3, Tryz.ntmps3
  go_wp2_with fail
  refine (base_any w).mono ?_
  rintro e w1 ⟨⟨vw, Rw, rfl, h1⟩, hb1⟩
  obtain ⟨pw, cw, rfl⟩ := h1.1.form
  have hlw : Rw.length = 6 := h1.2.1
  rw [hlw] at h1 ⊢
  have H1 := Lib.hid h1
  have HB1 := Lib.hid hb1
  clear h1 hb1
  go_wp2_with fail
  refine (refTables_any w1).mono ?_
  rintro e w2 ⟨⟨vT, rfl, h2⟩, hb2⟩
  obtain ⟨pT, cT, rfl⟩ := h2.form
  rw [show tabL.length = 3 from rfl] at h2 ⊢
  have HT2 := Lib.hid h2
  have HW2 := Lib.hid (H1.out.later hb2)
  have HB2 := Lib.hid (then_bel HB1.out hb2)
  clear h2 hb2
  go_wp2_with fail
  go_loopw [5] (fun i wr => ∃ k : Nat, k ≤ 4 ∧ i = .int .i64 k ∧ Hid (Below w2.heap.size w2 wr)) (fun i _ => 5 - (intOf i).toNat)
  case atStart => exact ⟨0, by omega, rfl, Lib.hid (Below.refl _ _)⟩
  case round =>
    obtain ⟨k, hk, rfl, Hb⟩ := hrel
    obtain ⟨wO, hwO⟩ : ∃ wO, wO = wr := ⟨_, rfl⟩
    subst hwO
    have hzr := Hb.out.size
    have hk5 : (0 : Int) ≤ (k : Int) := by omega
    go_wp2_with fail
    refine (pick18_any times 3 (by omega) (by omega) ht1 ht2 wO).mono ?_
    rintro e wP ⟨⟨rz, rfl, hr0, hr1⟩, hwP⟩
    obtain rfl : wO = wP := hwP.symm
    clear hwP
    by_cases hlt : (k : Int) < 2 + rz
    · have hk4 : k < 4 := by omega
      go_wp2_with fail
      -- a
      refine (moves_any wO).mono ?_
      rintro e wa ⟨⟨va, Ra, rfl, ha⟩, hba⟩
      obtain ⟨pa, ca, rfl⟩ := ha.1.form
      have hla : Ra.length = 6 := ha.2.1
      rw [hla] at ha ⊢
      obtain ⟨ga, rfl, hLa⟩ := LeftMv.start ha (Nat.le_refl _) (by omega) low_1000
      have HLa := Lib.hid hLa
      have HA := Lib.hid ha
      have HBa := Lib.hid hba
      have hza := hba.size
      clear ha hba hLa
      go_wp2_with fail
      refine (moves_any wa).mono ?_
      rintro e wb ⟨⟨vb, Rb, rfl, hb⟩, hbb⟩
      obtain ⟨pb, cb, rfl⟩ := hb.1.form
      have hlb : Rb.length = 6 := hb.2.1
      rw [hlb] at hb ⊢
      have HBm := Lib.hid hb
      have HBb := Lib.hid hbb
      have hzb := hbb.size
      clear hb hbb
      go_wp2_with fail
      refine (tables_any wb).mono ?_
      rintro e wt ⟨⟨vt, rfl, ht⟩, hbt⟩
      obtain ⟨pt, ct, rfl⟩ := ht.form
      rw [show tabL.length = 3 from rfl] at ht ⊢
      obtain ⟨gt, cst, rfl, hgt1, hgt2, hkt, hst, _⟩ := (Blk.of_new txC_len ht).at_ (by decide)
      have hgt3 := lt_of_block hkt
      have HT := Lib.hid ht
      have HBt := Lib.hid hbt
      have hzt := hbt.size
      clear ht hbt hkt hst
      go_wp2_with fail
      refine (tables_any wt).mono ?_
      rintro e wu ⟨⟨vu, rfl, hu⟩, hbu⟩
      obtain ⟨pu, cu, rfl⟩ := hu.form
      rw [show tabL.length = 3 from rfl] at hu ⊢
      have HUt := Lib.hid hu
      have HBu := Lib.hid hbu
      have hzu := hbu.size
      clear hu hbu
      have B1 := Lib.hid (then_bel (then_bel HBb.out HBt.out) HBu.out)
      have B0 := Lib.hid (then_bel HBa.out B1.out)
      have B2 := Lib.hid (then_bel HBt.out HBu.out)
      have HWu := Lib.hid ((HW2.out.later (Hb.out.trans (B0.out.mono hzr))))
      have HTu := Lib.hid ((HT2.out.later (Hb.out.trans (B0.out.mono hzr))))
      have HAu := Lib.hid (HA.out.later B1.out)
      have HBmu := Lib.hid (HBm.out.later B2.out)
      have HTt := Lib.hid (HT.out.later HBu.out)
      go_wp2_with fail
      refine (moves18_any _ _ _ pw 6 ca cw Ra Rw baseL (by omega) low_base wu HAu.out HWu.out).mono ?_
      rintro e w3 ⟨rfl, hb3⟩
      have Hb3 := Lib.hid hb3
      clear hb3
      go_wp2_with fail
      refine (moves18_any _ _ pb pw 6 cb cw Rb Rw baseL (by omega) low_base w3 (HBmu.out.later Hb3.out) (HWu.out.later Hb3.out)).mono ?_
      rintro e w4 ⟨rfl, hb4⟩
      have Hb4 := Lib.hid (then_bel Hb3.out hb4)
      clear hb4
      go_wp2_with fail
      refine (texts18_same _ pT 3 ct cT tabL (by omega) w4 ((HTt.out.later Hb4.out).rw txC_len) ((HTu.out.later Hb4.out).rw txC_len)).mono ?_
      rintro e w5 ⟨rfl, q5, hw5⟩
      have hd5 : Below w4.heap.size w4 w5 := by rw [hw5]; exact drewN_bel w4 q5
      have Hb5 := Lib.hid (then_bel Hb4.out hd5)
      clear hw5 hd5
      -- over(a)
      have hba5 := then_bel B1.out Hb5.out
      have hga : ga < wa.heap.size := HLa.out.2.1
      go_wp2_with fail
      refine (over18_any wO.heap.size wa.heap.size ga 6 ca (by omega) w5 hba5.size (HLa.out.keep (Sh.of_below hba5) (hba5.block ga hga))).mono ?_
      rintro e w6 ⟨rfl, hU6⟩
      have HU6 : Hid (Upd (span wO.heap.size wa.heap.size ++ span wb.heap.size wt.heap.size) w5 w6) := Lib.hid (hU6.mono fun g hg => List.mem_append.2 (.inl hg))
      have hbt5 := then_bel HBu.out Hb5.out
      have HT6 : Hid (NewTx wb.heap.size w6 (.slice (some ⟨gt, 0, none⟩) 3 ct) tabL) := Lib.hid (new_upd (HT.out.later hbt5) hU6 fun g hg => by have := (mem_span.1 hg).2; omega)
      have hz6 := hU6.size
      have hz5 := hbt5.size
      clear hba5 hU6
      go_wp2_with fail
      go_loopw [13] (fun iv wx => ∃ j : Nat, j ≤ 3 ∧ iv = .int .i64 j ∧ Hid (∃ xs, Blk 9 1 wb.heap.size wx (.slice (some ⟨gt, 0, none⟩) 3 ct) 3 xs) ∧ Hid (Upd (span wO.heap.size wa.heap.size ++ span wb.heap.size wt.heap.size) w5 wx)) (fun iv _ => 3 - (intOf iv).toNat)
      case atStart => exact ⟨0, by omega, rfl, Lib.hid ⟨_, Blk.of_new txC_len HT6.out⟩, HU6⟩
      case round =>
        obtain ⟨j, hj, rfl, HBk, HUx⟩ := hrel
        obtain ⟨xs, hbk⟩ := HBk.out
        obtain ⟨gt', cst, he, _, _, hkt, hst, htk⟩ := hbk.at_ (by omega)
        cases he
        have hzx := HUx.out.size
        by_cases hltj : j < 3
        · have hl1 := hbk.1
          have c3 : wr.cell? ⟨gt, j, none⟩ = some (xs[j]'(by omega)) := hbk.cell (List.getElem?_eq_getElem _)
          have c4 : wr.frozen? ⟨gt, j, none⟩ = false := free_in hkt
          generalize xs[j]'(by omega) = old at c3
          have hgtr : gt < wr.heap.size := lt_of_block hkt
          have HB2 : Hid (∃ ys, Blk 9 1 wb.heap.size (wr.setCell ⟨gt, j, none⟩ (.string ovB)) (.slice (some ⟨gt, 0, none⟩) 3 ct) 3 ys) := Lib.hid ⟨_, blk_set1 hbk j (.string ovB)⟩
          have HU2 := Lib.hid (HUx.out.setCell (p := ⟨gt, j, none⟩) (.inl (List.mem_append.2 (.inr (mem_span.2 ⟨hgt1, hgt3⟩)))) (.string ovB))
          have hji : (j : Int) < 3 := by omega
          have hj5 : (0 : Int) ≤ (j : Int) := by omega
          clear hbk hkt hst htk hl1
          go_wp2_with fail
          go_roundw
          case rel => exact ⟨j + 1, by omega, by go_num, HB2, HU2⟩
          case measure => simp [intOf]; omega
        · obtain rfl : j = 3 := by omega
          obtain ⟨wx, hwx⟩ : ∃ wx, wx = wr := ⟨_, rfl⟩
          subst hwx
          have hbA : Below wx.heap.size wx (wx.alloc (.cells #[.string ovB] 9)) := (Below.refl _ _).alloc (Nat.le_refl _) _
          have HBA := Lib.hid (hbk.later hbA)
          have HsrcA : Hid (SrcV (wx.alloc (.cells #[.string ovB] 9)) (.slice (some ⟨wx.heap.size, 0, none⟩) 1 1) 1 (#[.string ovB] : Array Value).toList) := Lib.hid (lit_src2 (n := 1) (by decide) (heap_alloc_new wx (.cells #[.string ovB] 9)))
          have HUA := Lib.hid (HUx.out.alloc (.cells #[.string ovB] 9))
          have Hoa : Hid (∀ u ∈ (#[.string ovB] : Array Value).toList, u.oneCell' = true) := Lib.hid (by simp [Value.oneCell'])
          have hzA : wb.heap.size ≤ (wx.alloc (.cells #[.string ovB] 9)).heap.size := by have := hbA.size; omega
          clear hbk hkt hst htk hbA
          focus
            go_wp2_with (at_builtin; go_must (refine wpList_append_blk rfl _ _ 24 rfl 9 i0 _ 1 16 Tryz.underlying24 hi hz0 hz1 hz2 rfl (by decide) wb.heap.size _ 3 xs (by rfl) HBA.out _ 1 _ (by decide) (by rfl) HsrcA.out (by rfl) Hoa.out (by omega) (by omega) hzA ?_))
          intro p8 c8 w8 hb8 hg8 hs8
          have hU8 := HUA.out.grown hg8 (fun q hq => .inl (List.mem_append.2 (.inr (mem_span.2 ⟨blk_lo HBA.out q hq, by cases hq; exact hgt3⟩))))
          clear hb8 hg8 hs8
          have hz8 := hU8.size
          have hzO5 : wO.heap.size ≤ w5.heap.size := by omega
          have hb58 : Below wO.heap.size w5 w8 := upd_bel hU8 (fun g hg => by rcases List.mem_append.1 hg with h | h <;> have := (mem_span.1 h).1 <;> omega) hzO5
          have hO8 : Below wO.heap.size wO w8 := (B0.out.trans (Hb5.out.mono (by have := B0.out.size; omega))).trans hb58
          have HW8 := Lib.hid ((HW2.out.later Hb.out).later hO8)
          have HT8 := Lib.hid ((HT2.out.later Hb.out).later hO8)
          have HB8 : Hid (NewMv wa.heap.size w8 (.slice pb 6 cb) Rb baseL) := Lib.hid (HBm.out.apart (then_bel B2.out Hb5.out) hU8 (fun g hg => by rcases List.mem_append.1 hg with h | h <;> have := mem_span.1 h <;> omega))
          have HU8 : Hid (NewTx wt.heap.size w8 (.slice pu 3 cu) tabL) := Lib.hid (new_apart HUt.out Hb5.out hU8 (fun g hg => by rcases List.mem_append.1 hg with h | h <;> have := mem_span.1 h <;> omega))
          have HO8x := Lib.hid (HB2.out.trans ((Hb.out.trans (hO8.mono hzr)).mono HB2.out.size))
          have HX8 := Lib.hid (Hb.out.trans (hO8.mono hzr))
          have hn8 : ((3 + 1 : Nat) : Int) = 4 := by decide
          clear hU8 hb58 hO8
          go_wp2_with fail
          refine (moves18_any _ _ pb pw 6 cb cw Rb Rw baseL (by omega) low_base w8 HB8.out HW8.out).mono ?_
          rintro e w9 ⟨rfl, hb9⟩
          have Hb9 := Lib.hid hb9
          clear hb9
          go_wp2_with fail
          refine (texts18_same pu pT 3 cu cT tabL (by omega) w9 ((HU8.out.later Hb9.out).rw txC_len) ((HT8.out.later Hb9.out).rw txC_len)).mono ?_
          rintro e w10 ⟨rfl, q10, hw10⟩
          have hd10 : Below w9.heap.size w9 w10 := by rw [hw10]; exact drewN_bel w9 q10
          have Hb10 := Lib.hid (then_bel Hb9.out hd10)
          clear hw10 hd10
          go_wp2_with fail
          refine (new_any w10).mono ?_
          rintro e w11 ⟨rfl, hset, hb11, hz11⟩
          have HSet := Lib.hid hset
          have Hb11 := Lib.hid hb11
          clear hset hb11
          go_wp2_with fail
          have hB11 := then_bel (then_bel HO8x.out Hb10.out) Hb11.out
          have HBel11 := Lib.hid hB11
          have HB11 := Lib.hid ((HB8.out.later Hb10.out).later Hb11.out)
          have HW11 := Lib.hid ((HW8.out.later Hb10.out).later Hb11.out)
          have hbl11 := (HB11.out.1.rw mvC_len).ptr.2.2
          obtain ⟨bb, ob, rfl, hbb⟩ := hbl11 (by omega)
          clear hB11 hbl11
          go_loopw [17] (fun iv wx => ∃ i : Nat, i ≤ 6 ∧ iv = .int .i64 i ∧ Hid (SetIs w10.heap.size wx w10.heap.size (baseL.take i)) ∧ Hid (Below w10.heap.size w11 wx) ∧ w11.heap.size ≤ wx.heap.size) (fun iv _ => 6 - (intOf iv).toNat)
          case atStart => exact ⟨0, by omega, rfl, HSet, Lib.hid (Below.refl _ _), Nat.le_refl _⟩
          case round =>
            clear HSet
            obtain ⟨i, hi', rfl, HSet, HBx, hzx'⟩ := hrel
            have h1011 := Hb11.out.size
            have hBx : Below w10.heap.size w10 wr := Hb11.out.trans HBx.out
            have HX10 := Lib.hid hBx
            have hbx : ∀ {M : Nat} {v : Value} {R : List MvR}, NewMv M w10 v R baseL → NewMv M wr v R baseL := fun h => h.later hBx
            have HBr := Lib.hid (hbx (HB8.out.later Hb10.out))
            have HWr := Lib.hid (hbx (HW8.out.later Hb10.out))
            clear hbx hBx
            by_cases hlti : i < 6
            · obtain ⟨x, hx⟩ : ∃ x, Rb[i]? = some x := ⟨_, List.getElem?_eq_getElem (by rw [hlb]; exact hlti)⟩
              obtain ⟨m, hm⟩ : ∃ m, baseL[i]? = some m := ⟨_, List.getElem?_eq_getElem (by exact hlti)⟩
              obtain ⟨k0, k1, k2⟩ := mv_cells (HBr.out.1.rw mvC_len) hx
              have hg := HBr.out.2.2 i x m hx hm
              obtain ⟨tx, sp⟩ := goes_txt hg
              rw [hg.1] at k0
              obtain ⟨xi, pn, nn, cn, ps, ns, cs⟩ := x
              simp only [MvR.vn, MvR.vs] at k1 k2 tx sp
              obtain ⟨ha1, ha2⟩ := asc_take base_asc hm
              have hbw : Below w.heap.size w wr := HB2.out.trans ((HX8.out.trans ((Hb10.out.trans (HX10.out.mono Hb10.out.size)).mono HX8.out.size)).mono HB2.out.size)
              have HAdd := Lib.hid (add_any w10.heap.size w10.heap.size (baseL.take i) m (base_good m (List.mem_of_getElem? hm)) ha1 ha2 (by rw [List.length_take]; omega) pn ps nn cn ns cs wr HX10.out.size tx sp (HSl.out wr hbw) HSet.out)
              have Htk := Lib.hid (take_at hm)
              have hbbr : bb < wr.heap.size := by omega
              have hii : (i : Int) < 6 := by omega
              have hi5 : (0 : Int) ≤ (i : Int) := by omega
              clear hg tx sp hx hm ha1 ha2 hbw
              generalize B m.id = nm at *
              go_wp2_with fail
              refine HAdd.out.mono ?_
              rintro e w12 ⟨rfl, hset, hb12⟩
              have HS12 : Hid (SetIs w10.heap.size w12 w10.heap.size (baseL.take (i + 1))) := Lib.hid (by rw [Htk.out]; exact hset)
              have HB12 := Lib.hid (HBx.out.trans hb12)
              have hz12 := hb12.size
              clear hset hb12
              go_wp2_with fail
              go_roundw
              case rel => exact ⟨i + 1, by omega, by go_num, HS12, HB12, by omega⟩
              case measure => simp [intOf]; omega
            · obtain rfl : i = 6 := by omega
              have hs6 : SetIs w10.heap.size wr w10.heap.size baseL := HSet.out
              have HAll := Lib.hid (all_any w10.heap.size w10.heap.size baseL (by decide) low_base wr hs6)
              clear hs6
              go_wp2_with fail
              refine HAll.out.mono ?_
              rintro e w13 ⟨⟨v13, R13, rfl, hr13⟩, hb13⟩
              obtain ⟨p13, c13, rfl⟩ := hr13.form
              have hl13 : R13.length = 6 := hr13.2.1
              rw [hl13] at hr13 ⊢
              have H13 := Lib.hid hr13.new
              have Hb13 := Lib.hid hb13
              clear hr13 hb13
              go_wp2_with fail
              refine (moves18_any _ _ p13 pw 6 c13 cw R13 Rw baseL (by omega) low_base w13 H13.out (HWr.out.later Hb13.out)).mono ?_
              rintro e w14 ⟨rfl, hb14⟩
              have HB14 := Lib.hid (HX8.out.trans (((Hb10.out.trans (HX10.out.mono Hb10.out.size)).trans ((then_bel Hb13.out hb14).mono (by have := Hb10.out.size; have := HX10.out.size; omega))).mono HX8.out.size))
              clear hb14
              go_wp2_with fail
              go_roundw
              case rel => exact ⟨k + 1, by omega, by go_num, HB14⟩
              case measure => simp [intOf]; omega
    · go_wp2_with fail
      go_ret
      exact ⟨rfl, HB2.out.trans (Hb.out.mono HB2.out.size)⟩
end Go.Proofs.YthjcifokmcbaoaaGreatDoor.st
