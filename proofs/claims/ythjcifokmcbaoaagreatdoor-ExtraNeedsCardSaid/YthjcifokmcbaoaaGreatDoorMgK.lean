/- Laws and contracts on which the statement rests, part K: each text says what it proves, and its conditions. -/
import Derived.Test.YthjcifokmcbaoaaGreatDoorMgJ
import Derived.Test.YthjcifokmcbaoaaGreatDoorMgI
import Derived.Test.YthjcifokmcbaoaaGreatDoorMgF
import Derived.Sort.Row
import Derived.Sort.Grow
import Derived.WalkKit
import Derived.Maps.RangeWalk
import Derived.Maps.OwnSet
import Derived.Carry
import Derived.Test.YthjcifokmcbaoaaGreatDoorMgH
import Derived.Test.YthjcifokmcbaoaaGreatDoorMgG
import Derived.RangeFuncNested
import Derived.RangeFuncBound
import Derived.RangeFuncCalls
import Derived.RangeFuncLeaves
import Derived.Shelf.Abstract
import Derived.Shelf.RegionOpen
import Derived.OwnWalkIn
import Derived.TacticsInMore
import Derived.LoopNIn
import Derived.LoopIn
/- BaseStands returns true. Condition: the listed variables hold what the program's text lays. -/
namespace Go.Proofs.YthjcifokmcbaoaaGreatDoor.st
open Go.ChangeShapes Go.WideShapes Go.ChangeAt Go.RowKit gl ls

theorem new_upd {α : Type} {enc : α → List Value} {k : Nat} {T : TypeId} {M : Nat} {w w' : World} {v : Value} {l : List α} {S : List Nat} (h : rw.NewRw enc k T M w v l) (hu : Upd S w w') (hn : ∀ g ∈ S, g < M) : rw.NewRw enc k T M w' v l := by
  rcases h with h | ⟨g, c, cs, rfl, hc, hg, hbk, h2⟩
  · exact .inl h
  · exact .inr ⟨g, c, cs, rfl, hc, hg, (hu.block g (lt_of_block hbk) fun e => by have := hn g e; omega).trans hbk, h2⟩
theorem NewMv.upd {M : Nat} {w w' : World} {v : Value} {R : List MvR} {l : List Mv} {S : List Nat} (h : NewMv M w v R l) (hu : Upd S w w') (hn : ∀ g ∈ S, g < M) : NewMv M w' v R l :=
  ⟨new_upd h.1 hu hn, h.2.1, fun i r m h1 h2 => ⟨(h.2.2 i r m h1 h2).1, new_upd (h.2.2 i r m h1 h2).2.1 hu hn, new_upd (h.2.2 i r m h1 h2).2.2 hu hn⟩⟩
theorem upd_bel {S : List Nat} {w w' : World} {B : Nat} (h : Upd S w w') (hS : ∀ k ∈ S, B ≤ k) (hB : B ≤ w.heap.size) : Below B w w' := h.below hS hB
theorem new_apart {α : Type} {enc : α → List Value} {k : Nat} {T : TypeId} {M : Nat} {w0 w w' : World} {v : Value} {l : List α} {S : List Nat} (h : rw.NewRw enc k T M w0 v l) (hb : Below w0.heap.size w0 w) (hu : Upd S w w') (hS : ∀ g ∈ S, g < M ∨ w0.heap.size ≤ g) : rw.NewRw enc k T M w' v l := by
  rcases h with h | ⟨g, c, cs, rfl, hc, hg, hbk, h2⟩
  · exact .inl h
  · have hlt := lt_of_block hbk
    refine .inr ⟨g, c, cs, rfl, hc, hg, (hu.block g (by have := hb.size; omega) fun e => ?_).trans ((hb.block g hlt).trans hbk), h2⟩
    rcases hS g e with h | h <;> omega
theorem NewMv.apart {M : Nat} {w0 w w' : World} {v : Value} {R : List MvR} {l : List Mv} {S : List Nat} (h : NewMv M w0 v R l) (hb : Below w0.heap.size w0 w) (hu : Upd S w w') (hS : ∀ g ∈ S, g < M ∨ w0.heap.size ≤ g) : NewMv M w' v R l :=
  ⟨new_apart h.1 hb hu hS, h.2.1, fun i r m h1 h2 => ⟨(h.2.2 i r m h1 h2).1, new_apart (h.2.2 i r m h1 h2).2.1 hb hu hS, new_apart (h.2.2 i r m h1 h2).2.2 hb hu hS⟩⟩
set_option maxHeartbeats 16000000 in
set_option maxRecDepth 100000 in
theorem baseStands_any (times : Int) (ht1 : -9223372036854775808 ≤ times) (ht2 : times ≤ 9223372036854775807) (w : World) (hS : Slo w) :
    Calls Tryz.prog 3 #[.int .i64 times] w fun e w' => e = .returned (.bool true) ∧ Below w.heap.size w w' := by
  have HSl := Lib.hid fun (W : World) (hb : Below w.heap.size w W) => hS.later hb
  obtain ⟨i0, hi, hz0, hz1, hz2⟩ := info_parts infoTx
  clear hS
  go_enter Tryz.func3, Tryz.ntmps3
  go_wp2_with fail
  refine (base_any w).mono ?_
  rintro e w1 ⟨⟨vw, Rw, rfl, h1⟩, hb1⟩
  obtain ⟨pw, cw, rfl⟩ := h1.1.form
  have hlw : Rw.length = 6 := h1.2.1
  rw [hlw] at h1 ⊢
  have H1 := Lib.hid h1
  have HB1 := Lib.hid hb1
  clear h1 hb1
  go_wp2_with fail
  refine (refTables_any w1).mono ?_
  rintro e w2 ⟨⟨vT, rfl, h2⟩, hb2⟩
  obtain ⟨pT, cT, rfl⟩ := h2.form
  rw [show tabL.length = 3 from rfl] at h2 ⊢
  have HT2 := Lib.hid h2
  have HW2 := Lib.hid (H1.out.later hb2)
  have HB2 := Lib.hid (then_bel HB1.out hb2)
  clear h2 hb2
  go_wp2_with fail
  go_loopw [5] (fun i wr => ∃ k : Nat, k ≤ 4 ∧ i = .int .i64 k ∧ Hid (Below w2.heap.size w2 wr)) (fun i _ => 5 - (intOf i).toNat)
  case atStart => exact ⟨0, by omega, rfl, Lib.hid (Below.refl _ _)⟩
  case round =>
    obtain ⟨k, hk, rfl, Hb⟩ := hrel
    obtain ⟨wO, hwO⟩ : ∃ wO, wO = wr := ⟨_, rfl⟩
    subst hwO
    have hzr := Hb.out.size
    have hk5 : (0 : Int) ≤ (k : Int) := by omega
    go_wp2_with fail
    refine (pick18_any times 3 (by omega) (by omega) ht1 ht2 wO).mono ?_
    rintro e wP ⟨⟨rz, rfl, hr0, hr1⟩, hwP⟩
    obtain rfl : wO = wP := hwP.symm
    clear hwP
    by_cases hlt : (k : Int) < 2 + rz
    · have hk4 : k < 4 := by omega
      go_wp2_with fail
      -- a
      refine (moves_any wO).mono ?_
      rintro e wa ⟨⟨va, Ra, rfl, ha⟩, hba⟩
      obtain ⟨pa, ca, rfl⟩ := ha.1.form
      have hla : Ra.length = 6 := ha.2.1
      rw [hla] at ha ⊢
      obtain ⟨ga, rfl, hLa⟩ := LeftMv.start ha (Nat.le_refl _) (by omega) low_1000
      have HLa := Lib.hid hLa
      have HA := Lib.hid ha
      have HBa := Lib.hid hba
      have hza := hba.size
      clear ha hba hLa
      go_wp2_with fail
      refine (moves_any wa).mono ?_
      rintro e wb ⟨⟨vb, Rb, rfl, hb⟩, hbb⟩
      obtain ⟨pb, cb, rfl⟩ := hb.1.form
      have hlb : Rb.length = 6 := hb.2.1
      rw [hlb] at hb ⊢
      have HBm := Lib.hid hb
      have HBb := Lib.hid hbb
      have hzb := hbb.size
      clear hb hbb
      go_wp2_with fail
      refine (tables_any wb).mono ?_
      rintro e wt ⟨⟨vt, rfl, ht⟩, hbt⟩
      obtain ⟨pt, ct, rfl⟩ := ht.form
      rw [show tabL.length = 3 from rfl] at ht ⊢
      obtain ⟨gt, cst, rfl, hgt1, hgt2, hkt, hst, _⟩ := (Blk.of_new txC_len ht).at_ (by decide)
      have hgt3 := lt_of_block hkt
      have HT := Lib.hid ht
      have HBt := Lib.hid hbt
      have hzt := hbt.size
      clear ht hbt hkt hst
      go_wp2_with fail
      refine (tables_any wt).mono ?_
      rintro e wu ⟨⟨vu, rfl, hu⟩, hbu⟩
      obtain ⟨pu, cu, rfl⟩ := hu.form
      rw [show tabL.length = 3 from rfl] at hu ⊢
      have HUt := Lib.hid hu
      have HBu := Lib.hid hbu
      have hzu := hbu.size
      clear hu hbu
      have B1 := Lib.hid (then_bel (then_bel HBb.out HBt.out) HBu.out)
      have B0 := Lib.hid (then_bel HBa.out B1.out)
      have B2 := Lib.hid (then_bel HBt.out HBu.out)
      have HWu := Lib.hid ((HW2.out.later (Hb.out.trans (B0.out.mono hzr))))
      have HTu := Lib.hid ((HT2.out.later (Hb.out.trans (B0.out.mono hzr))))
      have HAu := Lib.hid (HA.out.later B1.out)
      have HBmu := Lib.hid (HBm.out.later B2.out)
      have HTt := Lib.hid (HT.out.later HBu.out)
      go_wp2_with fail
      refine (moves18_any _ _ _ pw 6 ca cw Ra Rw baseL (by omega) low_base wu HAu.out HWu.out).mono ?_
      rintro e w3 ⟨rfl, hb3⟩
      have Hb3 := Lib.hid hb3
      clear hb3
      go_wp2_with fail
      refine (moves18_any _ _ pb pw 6 cb cw Rb Rw baseL (by omega) low_base w3 (HBmu.out.later Hb3.out) (HWu.out.later Hb3.out)).mono ?_
      rintro e w4 ⟨rfl, hb4⟩
      have Hb4 := Lib.hid (then_bel Hb3.out hb4)
      clear hb4
      go_wp2_with fail
      refine (texts18_same _ pT 3 ct cT tabL (by omega) w4 ((HTt.out.later Hb4.out).rw txC_len) ((HTu.out.later Hb4.out).rw txC_len)).mono ?_
      rintro e w5 ⟨rfl, q5, hw5⟩
      have hd5 : Below w4.heap.size w4 w5 := by rw [hw5]; exact drewN_bel w4 q5
      have Hb5 := Lib.hid (then_bel Hb4.out hd5)
      clear hw5 hd5
      -- over(a)
      have hba5 := then_bel B1.out Hb5.out
      have hga : ga < wa.heap.size := HLa.out.2.1
      go_wp2_with fail
      refine (over18_any wO.heap.size wa.heap.size ga 6 ca (by omega) w5 hba5.size (HLa.out.keep (Sh.of_below hba5) (hba5.block ga hga))).mono ?_
      rintro e w6 ⟨rfl, hU6⟩
      have HU6 : Hid (Upd (span wO.heap.size wa.heap.size ++ span wb.heap.size wt.heap.size) w5 w6) := Lib.hid (hU6.mono fun g hg => List.mem_append.2 (.inl hg))
      have hbt5 := then_bel HBu.out Hb5.out
      have HT6 : Hid (NewTx wb.heap.size w6 (.slice (some ⟨gt, 0, none⟩) 3 ct) tabL) := Lib.hid (new_upd (HT.out.later hbt5) hU6 fun g hg => by have := (mem_span.1 hg).2; omega)
      have hz6 := hU6.size
      have hz5 := hbt5.size
      clear hba5 hU6
      go_wp2_with fail
      go_loopw [13] (fun iv wx => ∃ j : Nat, j ≤ 3 ∧ iv = .int .i64 j ∧ Hid (∃ xs, Blk 9 1 wb.heap.size wx (.slice (some ⟨gt, 0, none⟩) 3 ct) 3 xs) ∧ Hid (Upd (span wO.heap.size wa.heap.size ++ span wb.heap.size wt.heap.size) w5 wx)) (fun iv _ => 3 - (intOf iv).toNat)
      case atStart => exact ⟨0, by omega, rfl, Lib.hid ⟨_, Blk.of_new txC_len HT6.out⟩, HU6⟩
      case round =>
        obtain ⟨j, hj, rfl, HBk, HUx⟩ := hrel
        obtain ⟨xs, hbk⟩ := HBk.out
        obtain ⟨gt', cst, he, _, _, hkt, hst, htk⟩ := hbk.at_ (by omega)
        cases he
        have hzx := HUx.out.size
        by_cases hltj : j < 3
        · have hl1 := hbk.1
          have c3 : wr.cell? ⟨gt, j, none⟩ = some (xs[j]'(by omega)) := hbk.cell (List.getElem?_eq_getElem _)
          have c4 : wr.frozen? ⟨gt, j, none⟩ = false := free_in hkt
          generalize xs[j]'(by omega) = old at c3
          have hgtr : gt < wr.heap.size := lt_of_block hkt
          have HB2 : Hid (∃ ys, Blk 9 1 wb.heap.size (wr.setCell ⟨gt, j, none⟩ (.string ovB)) (.slice (some ⟨gt, 0, none⟩) 3 ct) 3 ys) := Lib.hid ⟨_, blk_set1 hbk j (.string ovB)⟩
          have HU2 := Lib.hid (HUx.out.setCell (p := ⟨gt, j, none⟩) (.inl (List.mem_append.2 (.inr (mem_span.2 ⟨hgt1, hgt3⟩)))) (.string ovB))
          have hji : (j : Int) < 3 := by omega
          have hj5 : (0 : Int) ≤ (j : Int) := by omega
          clear hbk hkt hst htk hl1
          go_wp2_with fail
          go_roundw
          case rel => exact ⟨j + 1, by omega, by go_num, HB2, HU2⟩
          case measure => simp [intOf]; omega
        · obtain rfl : j = 3 := by omega
          obtain ⟨wx, hwx⟩ : ∃ wx, wx = wr := ⟨_, rfl⟩
          subst hwx
          have hbA : Below wx.heap.size wx (wx.alloc (.cells #[.string ovB] 9)) := (Below.refl _ _).alloc (Nat.le_refl _) _
          have HBA := Lib.hid (hbk.later hbA)
          have HsrcA : Hid (SrcV (wx.alloc (.cells #[.string ovB] 9)) (.slice (some ⟨wx.heap.size, 0, none⟩) 1 1) 1 (#[.string ovB] : Array Value).toList) := Lib.hid (lit_src2 (n := 1) (by decide) (heap_alloc_new wx (.cells #[.string ovB] 9)))
          have HUA := Lib.hid (HUx.out.alloc (.cells #[.string ovB] 9))
          have Hoa : Hid (∀ u ∈ (#[.string ovB] : Array Value).toList, u.oneCell' = true) := Lib.hid (by simp [Value.oneCell'])
          have hzA : wb.heap.size ≤ (wx.alloc (.cells #[.string ovB] 9)).heap.size := by have := hbA.size; omega
          clear hbk hkt hst htk hbA
          focus
            go_wp2_with (at_builtin; go_must (refine wpList_append_blk rfl _ _ 24 rfl 9 i0 _ 1 16 Tryz.underlying24 hi hz0 hz1 hz2 rfl (by decide) wb.heap.size _ 3 xs (by rfl) HBA.out _ 1 _ (by decide) (by rfl) HsrcA.out (by rfl) Hoa.out (by omega) (by omega) hzA ?_))
          intro p8 c8 w8 hb8 hg8 hs8
          have hU8 := HUA.out.grown hg8 (fun q hq => .inl (List.mem_append.2 (.inr (mem_span.2 ⟨blk_lo HBA.out q hq, by cases hq; exact hgt3⟩))))
          clear hb8 hg8 hs8
          have hz8 := hU8.size
          have hzO5 : wO.heap.size ≤ w5.heap.size := by omega
          have hb58 : Below wO.heap.size w5 w8 := upd_bel hU8 (fun g hg => by rcases List.mem_append.1 hg with h | h <;> have := (mem_span.1 h).1 <;> omega) hzO5
          have hO8 : Below wO.heap.size wO w8 := (B0.out.trans (Hb5.out.mono (by have := B0.out.size; omega))).trans hb58
          have HW8 := Lib.hid ((HW2.out.later Hb.out).later hO8)
          have HT8 := Lib.hid ((HT2.out.later Hb.out).later hO8)
          have HB8 : Hid (NewMv wa.heap.size w8 (.slice pb 6 cb) Rb baseL) := Lib.hid (HBm.out.apart (then_bel B2.out Hb5.out) hU8 (fun g hg => by rcases List.mem_append.1 hg with h | h <;> have := mem_span.1 h <;> omega))
          have HU8 : Hid (NewTx wt.heap.size w8 (.slice pu 3 cu) tabL) := Lib.hid (new_apart HUt.out Hb5.out hU8 (fun g hg => by rcases List.mem_append.1 hg with h | h <;> have := mem_span.1 h <;> omega))
          have HO8x := Lib.hid (HB2.out.trans ((Hb.out.trans (hO8.mono hzr)).mono HB2.out.size))
          have HX8 := Lib.hid (Hb.out.trans (hO8.mono hzr))
          have hn8 : ((3 + 1 : Nat) : Int) = 4 := by decide
          clear hU8 hb58 hO8
          go_wp2_with fail
          refine (moves18_any _ _ pb pw 6 cb cw Rb Rw baseL (by omega) low_base w8 HB8.out HW8.out).mono ?_
          rintro e w9 ⟨rfl, hb9⟩
          have Hb9 := Lib.hid hb9
          clear hb9
          go_wp2_with fail
          refine (texts18_same pu pT 3 cu cT tabL (by omega) w9 ((HU8.out.later Hb9.out).rw txC_len) ((HT8.out.later Hb9.out).rw txC_len)).mono ?_
          rintro e w10 ⟨rfl, q10, hw10⟩
          have hd10 : Below w9.heap.size w9 w10 := by rw [hw10]; exact drewN_bel w9 q10
          have Hb10 := Lib.hid (then_bel Hb9.out hd10)
          clear hw10 hd10
          go_wp2_with fail
          refine (new_any w10).mono ?_
          rintro e w11 ⟨rfl, hset, hb11, hz11⟩
          have HSet := Lib.hid hset
          have Hb11 := Lib.hid hb11
          clear hset hb11
          go_wp2_with fail
          have hB11 := then_bel (then_bel HO8x.out Hb10.out) Hb11.out
          have HBel11 := Lib.hid hB11
          have HB11 := Lib.hid ((HB8.out.later Hb10.out).later Hb11.out)
          have HW11 := Lib.hid ((HW8.out.later Hb10.out).later Hb11.out)
          have hbl11 := (HB11.out.1.rw mvC_len).ptr.2.2
          obtain ⟨bb, ob, rfl, hbb⟩ := hbl11 (by omega)
          clear hB11 hbl11
          go_loopw [17] (fun iv wx => ∃ i : Nat, i ≤ 6 ∧ iv = .int .i64 i ∧ Hid (SetIs w10.heap.size wx w10.heap.size (baseL.take i)) ∧ Hid (Below w10.heap.size w11 wx) ∧ w11.heap.size ≤ wx.heap.size) (fun iv _ => 6 - (intOf iv).toNat)
          case atStart => exact ⟨0, by omega, rfl, HSet, Lib.hid (Below.refl _ _), Nat.le_refl _⟩
          case round =>
            clear HSet
            obtain ⟨i, hi', rfl, HSet, HBx, hzx'⟩ := hrel
            have h1011 := Hb11.out.size
            have hBx : Below w10.heap.size w10 wr := Hb11.out.trans HBx.out
            have HX10 := Lib.hid hBx
            have hbx : ∀ {M : Nat} {v : Value} {R : List MvR}, NewMv M w10 v R baseL → NewMv M wr v R baseL := fun h => h.later hBx
            have HBr := Lib.hid (hbx (HB8.out.later Hb10.out))
            have HWr := Lib.hid (hbx (HW8.out.later Hb10.out))
            clear hbx hBx
            by_cases hlti : i < 6
            · obtain ⟨x, hx⟩ : ∃ x, Rb[i]? = some x := ⟨_, List.getElem?_eq_getElem (by rw [hlb]; exact hlti)⟩
              obtain ⟨m, hm⟩ : ∃ m, baseL[i]? = some m := ⟨_, List.getElem?_eq_getElem (by exact hlti)⟩
              obtain ⟨k0, k1, k2⟩ := mv_cells (HBr.out.1.rw mvC_len) hx
              have hg := HBr.out.2.2 i x m hx hm
              obtain ⟨tx, sp⟩ := goes_txt hg
              rw [hg.1] at k0
              obtain ⟨xi, pn, nn, cn, ps, ns, cs⟩ := x
              simp only [MvR.vn, MvR.vs] at k1 k2 tx sp
              obtain ⟨ha1, ha2⟩ := asc_take base_asc hm
              have hbw : Below w.heap.size w wr := HB2.out.trans ((HX8.out.trans ((Hb10.out.trans (HX10.out.mono Hb10.out.size)).mono HX8.out.size)).mono HB2.out.size)
              have HAdd := Lib.hid (add_any w10.heap.size w10.heap.size (baseL.take i) m (base_good m (List.mem_of_getElem? hm)) ha1 ha2 (by rw [List.length_take]; omega) pn ps nn cn ns cs wr HX10.out.size tx sp (HSl.out wr hbw) HSet.out)
              have Htk := Lib.hid (take_at hm)
              have hbbr : bb < wr.heap.size := by omega
              have hii : (i : Int) < 6 := by omega
              have hi5 : (0 : Int) ≤ (i : Int) := by omega
              clear hg tx sp hx hm ha1 ha2 hbw
              generalize B m.id = nm at *
              go_wp2_with fail
              refine HAdd.out.mono ?_
              rintro e w12 ⟨rfl, hset, hb12⟩
              have HS12 : Hid (SetIs w10.heap.size w12 w10.heap.size (baseL.take (i + 1))) := Lib.hid (by rw [Htk.out]; exact hset)
              have HB12 := Lib.hid (HBx.out.trans hb12)
              have hz12 := hb12.size
              clear hset hb12
              go_wp2_with fail
              go_roundw
              case rel => exact ⟨i + 1, by omega, by go_num, HS12, HB12, by omega⟩
              case measure => simp [intOf]; omega
            · obtain rfl : i = 6 := by omega
              have hs6 : SetIs w10.heap.size wr w10.heap.size baseL := HSet.out
              have HAll := Lib.hid (all_any w10.heap.size w10.heap.size baseL (by decide) low_base wr hs6)
              clear hs6
              go_wp2_with fail
              refine HAll.out.mono ?_
              rintro e w13 ⟨⟨v13, R13, rfl, hr13⟩, hb13⟩
              obtain ⟨p13, c13, rfl⟩ := hr13.form
              have hl13 : R13.length = 6 := hr13.2.1
              rw [hl13] at hr13 ⊢
              have H13 := Lib.hid hr13.new
              have Hb13 := Lib.hid hb13
              clear hr13 hb13
              go_wp2_with fail
              refine (moves18_any _ _ p13 pw 6 c13 cw R13 Rw baseL (by omega) low_base w13 H13.out (HWr.out.later Hb13.out)).mono ?_
              rintro e w14 ⟨rfl, hb14⟩
              have HB14 := Lib.hid (HX8.out.trans (((Hb10.out.trans (HX10.out.mono Hb10.out.size)).trans ((then_bel Hb13.out hb14).mono (by have := Hb10.out.size; have := HX10.out.size; omega))).mono HX8.out.size))
              clear hb14
              go_wp2_with fail
              go_roundw
              case rel => exact ⟨k + 1, by omega, by go_num, HB14⟩
              case measure => simp [intOf]; omega
    · go_wp2_with fail
      go_ret
      exact ⟨rfl, HB2.out.trans (Hb.out.mono HB2.out.size)⟩
end Go.Proofs.YthjcifokmcbaoaaGreatDoor.st
/- Package extra: what its five moves are, in plain words; whether a move speaks of a table; a list of texts sorted. Conditions: lists of at most 4294967295 elements. -/
namespace Go.Proofs.YthjcifokmcbaoaaGreatDoor.st
open Go.ChangeShapes Go.WideShapes Go.ChangeAt Go.RowKit gl ls
open Go.Sort (grow putRow putCells Holds)

/-! ### Plain -/
def spkS (t : List UInt8) (s : Sp) : Bool := decide (s.table = t) || (decide (s.kind = 4) && decide (s.to = t))
def spkM (m : Mv) (t : List UInt8) : Bool := m.steps.any (spkS t)
def stepsX : List (List UInt8 × Sp) := [([120, 48, 49], ⟨6, [117, 115, 101, 114, 115], [97, 100, 109, 105, 110], [111, 119, 110, 101, 114], []⟩), ([120, 48, 50], ⟨1, [101, 118, 101, 110, 116, 115], [115, 101, 99, 111, 110, 100], [], [97, 103, 97, 105, 110]⟩), ([120, 48, 51], ⟨1, [109, 101, 116, 97], [116, 104, 101, 109, 101], [], [112, 108, 97, 105, 110]⟩), ([120, 48, 52], ⟨5, [101, 118, 101, 110, 116, 115], [], [], [114, 101, 118, 101, 114, 115, 101]⟩), ([120, 48, 53], ⟨2, [117, 115, 101, 114, 115], [103, 117, 101, 115, 116], [], []⟩)]
def needsX (out : List Mv) (t : List UInt8) : List (List UInt8) := ((baseL ++ out).filter fun m => spkM m t).map (·.id)
def nextX (out : List Mv) (x : List UInt8 × Sp) : Mv := ⟨x.1, needsX out x.2.table, [x.2]⟩
def extraTo : List (List UInt8 × Sp) → List Mv → List Mv
  | [], out => out
  | x :: r, out => extraTo r (out ++ [nextX out x])
def extraL : List Mv := extraTo stepsX []
theorem extra_len : extraL.length = 5 := by decide +kernel
theorem le_tr (a b c : List UInt8) (h : decide (a ≤ b) = true) (h2 : decide (b ≤ c) = true) : decide (a ≤ c) = true := by
  simp only [decide_eq_true_eq] at *
  exact List.le_trans h h2
theorem le_tot (a b : List UInt8) : (decide (a ≤ b) || decide (b ≤ a)) = true := by
  simp only [Bool.or_eq_true, decide_eq_true_eq]
  exact List.le_total a b
theorem sort_is {l T : List (List UInt8)} (hp : l.Perm T) (hT : T.Pairwise fun a b => decide (a ≤ b) = true) : l.mergeSort (fun x y => decide (x ≤ y)) = T := by
  have h1 := List.pairwise_mergeSort (le := fun x y => decide (x ≤ y)) le_tr le_tot l
  refine List.Perm.eq_of_pairwise ?_ h1 hT ((List.mergeSort_perm _ _).trans hp)
  intro a b _ _ h h2
  simp only [decide_eq_true_eq] at *
  exact List.le_antisymm h h2

theorem seq_decX (a b : List UInt8) : ((B a).toList == (B b).toList) = decide (a = b) := by
  by_cases h : a = b
  · rw [decide_eq_true h]; exact seq_true (by rw [h])
  · rw [decide_eq_false h]; exact seq_false (fun e => h (B_inj e))
theorem spC_oneX : ∀ (x : Sp), ∀ v ∈ spC x, v.oneCell' = true := by
  intro x v hv
  simp only [spC, List.mem_cons, List.not_mem_nil, or_false] at hv
  rcases hv with rfl | rfl | rfl | rfl | rfl <;> rfl
/-! ### Walks -/
set_option maxHeartbeats 2000000 in
set_option maxRecDepth 100000 in
theorem spk1_any (s : Sp) (t : List UInt8) (bx : Nat) (w : World) (hc : w.cell? ⟨bx, 0, none⟩ = some (.string (B t))) :
    Calls Tryz.prog 136 #[spA s, .pointer (some ⟨bx, 0, none⟩)] w fun e w' => e = .returned (.bool (spkS t s)) ∧ Below w.heap.size w w' := by
  unfold spA
  obtain ⟨wA, hA⟩ : ∃ wA, wA = w.alloc (.cells #[.int .i64 s.kind, .string (B s.table), .string (B s.key), .string (B s.to), .string (B s.text)] 42) := ⟨_, rfl⟩
  obtain ⟨hbA, c0, c1, c2, c3, c4⟩ := box1 hA
  have d0 := cell_then hc hbA
  have Hr : Hid (spkS t s = (decide (s.table = t) || (decide (s.kind = 4) && decide (s.to = t)))) := Lib.hid rfl
  have q1 := seq_decX s.table t
  have q2 := seq_decX s.to t
  have q3 : (s.kind == 4) = decide (s.kind = 4) := rfl
  have HA := Lib.hid hA
  have HbA := Lib.hid hbA
  clear hA hbA hc
  generalize spkS t s = r at *
  generalize decide (s.table = t) = d1 at *
  generalize decide (s.to = t) = d2 at *
  generalize hd3 : decide (s.kind = 4) = d3 at *
  clear hd3
  generalize B s.table = x1 at *
  generalize B s.key = x2 at *
  generalize B s.to = x3 at *
  generalize B s.text = x4 at *
  generalize B t = tt at *
  cases d1
  · cases d3
    · go_enter Tryz.func136, Tryz.ntmps136
      go_upto_region 1 with (fail)
      try rw [← HA.out]
      go_wp2_with fail
      go_ret
      exact ⟨ret_bool (by rw [Hr.out]; rfl), HbA.out⟩
    · go_enter Tryz.func136, Tryz.ntmps136
      go_upto_region 1 with (fail)
      try rw [← HA.out]
      go_wp2_with fail
      go_ret
      exact ⟨ret_bool (by rw [Hr.out]; simp), HbA.out⟩
  · go_enter Tryz.func136, Tryz.ntmps136
    go_upto_region 1 with (fail)
    try rw [← HA.out]
    go_wp2_with fail
    go_ret
    exact ⟨ret_bool (by rw [Hr.out]; rfl), HbA.out⟩
theorem egSpk (args : Array Value) (w : World) : (callFunc 136 args).run Tryz.prog w = .ok (.enter 136 args) w := enters Tryz.func136 (by kernel_rfl) (by kernel_rfl) args w
theorem hasSp_any (f : Sp → Bool) (g : Nat) (lb : Array Value) (eg : ∀ args w, (callFunc g args).run Tryz.prog w = .ok (.enter g args) w) (p : Option Addr) (m c : Nat) (l : List Sp) (hm0 : 0 < m) (hm : m ≤ 4294967295) (w : World) (h : Sps w (.slice p m c) l)
    (hp : ∀ (W : World) (x : Sp), Below w.heap.size w W → Calls Tryz.prog g (#[spA x] ++ lb) W fun e w' => e = .returned (.bool (f x)) ∧ Below w.heap.size w w') :
    Calls Tryz.prog 98 #[.slice p m c, .func (.func g) #[] lb] w fun e w' => e = .returned (.bool (l.any f)) ∧ Below w.heap.size w w' := by
  obtain ⟨hlen, hmc, hptr⟩ := h.ptr
  obtain ⟨b, o, rfl, hb⟩ := hptr hm0
  haveI : Inhabited Sp := ⟨⟨0, [], [], [], []⟩⟩
  refine (AnyQ.slices_ContainsFunc Tryz.hasSp 5 Tryz.isAgg42 Tryz.sizeOf42 spC spC_len f g lb eg b o m c l w hp (by omega) (by omega) hb (fun j hj i v hv => ?_)).mono ?_
  · rw [getElem!_pos l j hj] at hv
    have := h.cell (List.getElem?_eq_getElem hj) hv
    rw [Nat.add_assoc]
    exact this
  · rintro e w' ⟨rfl, hb'⟩
    refine ⟨?_, hb'⟩
    have ht : l.take m = l := by rw [← hlen]; exact List.take_length
    rw [ht]
set_option maxHeartbeats 2000000 in
set_option maxRecDepth 100000 in
theorem speaksX_any (m : Mv) (t : List UInt8) (pn ps : Option Addr) (nn cn ns cs : Nat) (hs0 : 0 < ns) (hs : ns ≤ 4294967295) (w : World) (h2 : Sps w (.slice ps ns cs) m.steps) :
    Calls Tryz.prog 89 #[.agg #[.string (B m.id), .slice pn nn cn, .slice ps ns cs], .string (B t)] w fun e w' => e = .returned (.bool (spkM m t)) ∧ Below w.heap.size w w' := by
  obtain ⟨wA, hA⟩ : ∃ wA, wA = w.alloc (.cells #[.string (B m.id), .slice pn nn cn, .slice ps ns cs] 36) := ⟨_, rfl⟩
  obtain ⟨wB, hB⟩ : ∃ wB, wB = wA.alloc (.cells #[.string (B t)] 9) := ⟨_, rfl⟩
  have zA : wA.heap.size = w.heap.size + 1 := by rw [hA]; simp
  have kA : wA.heap[w.heap.size]? = some (.cells #[.string (B m.id), .slice pn nn cn, .slice ps ns cs] 36 (0, 0)) := by rw [hA]; exact heap_alloc_new w _
  have kB : wB.heap[w.heap.size + 1]? = some (.cells #[.string (B t)] 9 (0, 0)) := by rw [hB, ← zA]; exact heap_alloc_new wA _
  have kA' : wB.heap[w.heap.size]? = some (.cells #[.string (B m.id), .slice pn nn cn, .slice ps ns cs] 36 (0, 0)) := by rw [hB]; exact heap_al kA _
  have hbA : Below w.heap.size w wA := by rw [hA]; exact (Below.refl _ _).alloc (Nat.le_refl _) _
  have hbB : Below w.heap.size w wB := by rw [hB]; exact hbA.alloc (by omega) _
  have c2 : wB.cell? ⟨w.heap.size, 2, none⟩ = some (.slice ps ns cs) := cell_in kA'
  have cb : wB.cell? ⟨w.heap.size + 1, 0, none⟩ = some (.string (B t)) := cell_in kB
  have HH := Lib.hid (hasSp_any (spkS t) 136 #[.pointer (some ⟨w.heap.size + 1, 0, none⟩)] egSpk ps ns cs m.steps hs0 hs wB (h2.later hbB) (fun W x hW => (spk1_any x t (w.heap.size + 1) W (cell_then cb hW)).mono fun e w' ⟨h1, h2⟩ => ⟨h1, hW.trans (h2.mono hW.size)⟩))
  have HA := Lib.hid hA
  have HB := Lib.hid hB
  have HbB := Lib.hid hbB
  clear h2 hA hB kA kB kA' hbA hbB cb
  generalize B m.id = nm at *
  generalize B t = tt at *
  go_enter Tryz.func89, Tryz.ntmps89
  go_upto_region 1 with (fail)
  try rw [← HA.out]
  try rw [← HB.out]
  go_wp2_with fail
  refine HH.out.mono ?_
  rintro e w1 ⟨rfl, hb1⟩
  have Hb1 := Lib.hid (then_bel HbB.out hb1)
  clear hb1
  go_wp2_with fail
  go_ret
  exact ⟨rfl, Hb1.out⟩
/-- slices.Sort of texts that lie in a block of their own. -/
theorem sortTx_any (M : Nat) (v : Value) (l T : List (List UInt8)) (hp : l.Perm T) (hT : T.Pairwise fun a b => decide (a ≤ b) = true) (hl : l.length ≤ 4294967295) (w : World) (h : NewTx M w v l) :
    Calls Tryz.prog 134 #[v] w fun e w' => e = .returned (.tuple #[]) ∧ NewTx M w' v T ∧ w.grownBy w' v.ownBlock := by
  have hlT : T.length = l.length := hp.symm.length_eq
  rcases h with ⟨rfl, rfl⟩ | ⟨g, c, cs, rfl, hc, hg, hb, hcs, hat⟩
  · obtain rfl : T = [] := List.eq_nil_of_length_eq_zero (by rw [hlT]; rfl)
    refine (Tryz.slices_Sort_string_none none 0 w).mono ?_
    rintro e w' ⟨rfl, rfl⟩
    exact ⟨rfl, .inl ⟨rfl, rfl⟩, ⟨rfl, rfl, rfl, Nat.le_refl _, fun _ _ _ => rfl⟩⟩
  · have hH : Holds encStr w g 0 l.toArray := by
      intro j hj
      have hj' : j < l.length := by simpa using hj
      rw [Nat.zero_add, cell_in hb]
      refine ⟨?_, free_in hb⟩
      have h1 := hat (j * 1 + 0) _ (rw.flat_at txC_len l j l[j] 0 _ (List.getElem?_eq_getElem hj') rfl)
      rw [Nat.zero_add, Nat.mul_one, Nat.add_zero] at h1
      rw [h1, getElem!_pos l.toArray j hj]
      rfl
    refine (Tryz.slices_Sort_string g 0 c l w hH (lt_of_block hb) (by omega)).mono ?_
    rintro e w' ⟨rfl, n, os, rfl⟩
    rw [sort_is hp hT]
    have hsz : (putCells encStr 0 T.toArray cs).size = cs.size := by simp [putCells]
    have hlt := lt_of_block hb
    have hget : w.heap[g] = .cells cs 9 (0, 0) := by simpa [Array.getElem?_eq_getElem hlt] using hb
    have hblk : (grow (putRow encStr (Sort.ahead w n) g 0 T.toArray) os).heap[g]? = some (.cells (putCells encStr 0 T.toArray cs) 9 (0, 0)) := by
      show (w.heap.modify g _ ++ os)[g]? = _
      rw [Array.getElem?_append_left (by simpa using hlt), Array.getElem?_eq_getElem (by simpa using hlt), Array.getElem_modify_self, hget]
      rfl
    refine ⟨rfl, .inr ⟨g, c, _, by rw [hlT], by rw [hlT]; exact hc, hg, hblk, by rw [hsz]; exact hcs, fun i v hi => ?_⟩, ⟨rfl, rfl, rfl, ?_, fun k hk hne => ?_⟩⟩
    · have hi1 := lt_get hi
      rw [rw.flat_len txC_len, Nat.mul_one] at hi1
      have h2 := rw.flat_at txC_len T i T[i] 0 _ (List.getElem?_eq_getElem hi1) rfl
      rw [Nat.mul_one, Nat.add_zero] at h2
      rw [Nat.zero_add]
      have hics : i < cs.size := by omega
      unfold putCells
      rw [Array.getElem?_mapIdx, Array.getElem?_eq_getElem hics]
      simp only [Option.map_some, Nat.zero_le, Nat.zero_add, true_and, List.size_toArray, hi1, if_true, Nat.sub_zero]
      rw [getElem!_pos T.toArray i (by simpa using hi1)]
      rw [h2] at hi
      exact hi
    · show w.heap.size ≤ (w.heap.modify g _ ++ os).size
      simp
    · show (w.heap.modify g _ ++ os)[k]? = _
      rw [Array.getElem?_append_left (by simpa using hk), Array.getElem?_modify, if_neg (fun e => hne (by rw [e]; rfl))]
end Go.Proofs.YthjcifokmcbaoaaGreatDoor.st
/- Laws on maps for any program: an entry of a map's literal. No program in sight; no conditions beside those stated. -/
namespace Go.Proofs.YthjcifokmcbaoaaGreatDoor
open Go.RowKit Go.Maps
/-- An entry of a map's literal, at the operation. -/
theorem wpList_insert_own {H : Type} {P : Program} (w : World) {ops : Array Oper} {rest : List Oper} {o : Oper} {a : Act} {Q : Exit → Act → World → Prop}
    (hg : o.guard = none) (m x v : Operand) (t : TypeId) (hop : o.op = Op.insert t m x v)
    (k e : TypeId) (K : Keyed P k) (ht : P.underlying t = some (.map k e)) (R : Value → Option (DataW H × List MemPlace)) (b n : Nat) (D : DataW H)
    (hm : a.eval m = .map (some b)) (hown : w.ownsMap P k R b n D) (hn : n < maxLen) (key val : Value) (kl : Lit) (hx : a.eval x = key) (hv : a.eval v = val) (hkey : keyOf P k key = some kl)
    (d : DataW H) (ps : List MemPlace) (hval : R val = some (d, ps))
    (hK : ∀ w', w'.ownsMap P k R b (n + 1) (D.put kl d) → w.grownBy w' (some b) → wpList P ops Q rest (a.put o.dst undef) w') :
    wpList P ops Q (o :: rest) a w := by
  refine wpList_plain hg fun K' hK' => ?_
  obtain ⟨w', hrun, r1, r2⟩ := hown.update K ht hn hkey hval
  unfold Oper.wp
  simp [execOp, hop, hm, hx, hv, hrun, Result.andThen]
  exact hK' _ _ (hK w' r1 r2)
end Go.Proofs.YthjcifokmcbaoaaGreatDoor
/- Package extra: the map of its steps. No conditions. -/
namespace Go.Proofs.YthjcifokmcbaoaaGreatDoor.st
open Go.ChangeShapes Go.WideShapes Go.WideMaps Go.ChangeMaps Go.ChangeAt Go.RowKit Go.Maps gl ls

/-- A step, as a map's element. -/
def stepD (s : Sp) : DataW Unit := .agg [.lit (.int .i64 s.kind), .lit (.string s.table), .lit (.string s.key), .lit (.string s.to), .lit (.string s.text)]
def stepR : Value → Option (DataW Unit × List MemPlace)
  | .agg ⟨[.int .i64 k, .string a, .string b, .string c, .string d]⟩ => some (.agg [.lit (.int .i64 k), .lit (.string a.data.toList), .lit (.string b.data.toList), .lit (.string c.data.toList), .lit (.string d.data.toList)], [])
  | _ => none
theorem stepR_spA (s : Sp) : stepR (spA s) = some (stepD s, []) := by
  unfold spA stepD stepR
  simp
theorem stepR_shape {v : Value} {y : DataW Unit × List MemPlace} (h : stepR v = some y) : ∃ s : Sp, v = spA s ∧ y = (stepD s, []) := by
  unfold stepR at h
  split at h
  · rename_i k a b c d
    refine ⟨⟨k, a.data.toList, b.data.toList, c.data.toList, d.data.toList⟩, ?_, (Option.some.inj h).symm⟩
    unfold spA
    simp only [B_of]
  · cases h
theorem stepD_inj {s t : Sp} (h : stepD s = stepD t) : s = t := by
  obtain ⟨k, a, b, c, d⟩ := s
  obtain ⟨k', a', b', c', d'⟩ := t
  unfold stepD at h
  simp only [DataW.agg.injEq, List.cons.injEq, DataW.lit.injEq, Lit.int.injEq, Lit.string.injEq, true_and, and_true] at h
  obtain ⟨rfl, rfl, rfl, rfl, rfl⟩ := h
  rfl
theorem lawX : Keyed Tryz.prog 9 := string_keyed Tryz.underlying9
theorem keyX (s : ByteArray) (h : s.size ≤ maxLen) : keyOf Tryz.prog 9 (.string s) = some (.string s.data.toList) := keyOf_string_mk Tryz.underlying9 h
def mapX : DataW Unit := stepsX.foldl (fun D x => D.put (.string x.1) (stepD x.2)) (.map [])
theorem mapX_at : ∀ x ∈ stepsX, ∀ z, mapX.atKey (.string x.1) z = stepD x.2 := by
  intro x hx z
  simp only [stepsX, List.mem_cons, List.not_mem_nil, or_false] at hx
  rcases hx with rfl | rfl | rfl | rfl | rfl <;> rfl
theorem mapX_has (k : List UInt8) (h : Maps.has mapX (.string k) = true) : ∃ x ∈ stepsX, x.1 = k := by
  have hm : mapX = .map [(.string [120, 48, 49], stepD stepsX[0].2), (.string [120, 48, 50], stepD stepsX[1].2), (.string [120, 48, 51], stepD stepsX[2].2), (.string [120, 48, 52], stepD stepsX[3].2), (.string [120, 48, 53], stepD stepsX[4].2)] := rfl
  rw [hm, has_eq] at h
  simp only [List.any_cons, List.any_nil, Bool.or_false, Bool.or_eq_true] at h
  have hk : ∀ a : List UInt8, Lit.sameKey (.string a) (.string k) = true → a = k := by
    intro a ha
    by_cases he : (Lit.string a) = .string k
    · injection he
    · rw [sameKey_ne he] at ha
      cases ha
  rcases h with h | h | h | h | h
  · exact ⟨stepsX[0], by simp [stepsX], hk _ h⟩
  · exact ⟨stepsX[1], by simp [stepsX], hk _ h⟩
  · exact ⟨stepsX[2], by simp [stepsX], hk _ h⟩
  · exact ⟨stepsX[3], by simp [stepsX], hk _ h⟩
  · exact ⟨stepsX[4], by simp [stepsX], hk _ h⟩
theorem zeroSp (w : World) : (zeroValue 42).run Tryz.prog w = .ok (.agg #[.int .i64 0, .string .empty, .string .empty, .string .empty, .string .empty]) w := by kernel_rfl
/-- The map, in memory. -/
abbrev MapIs (w : World) (b : Nat) : Prop := w.ownsMap Tryz.prog 9 stepR b 5 mapX
theorem lookX {w : World} {b : Nat} (h : MapIs w b) {x : List UInt8 × Sp} (hx : x ∈ stepsX) (hl : x.1.length ≤ 100) : (Instr.lookup 129 (.map (some b)) (.string (B x.1)) false).run Tryz.prog w = .ok (spA x.2) w := by
  obtain ⟨v, ps, hr, hv⟩ := World.ownsMap.lookup h lawX Tryz.underlying129 (zeroSp w) (zd := stepD ⟨0, [], [], [], []⟩) (zp := []) (by
    have := stepR_spA ⟨0, [], [], [], []⟩
    exact this) (keyX (B x.1) (by rw [B_size]; unfold maxLen; omega))
  rw [B_list, mapX_at x hx] at hv
  obtain ⟨s, rfl, hy⟩ := stepR_shape hv
  obtain rfl := stepD_inj (congrArg Prod.fst hy)
  exact hr
set_option maxRecDepth 100000 in
theorem fld1 (k : Int) (a b c d : ByteArray) (w : World) : (Instr.field 42 (.agg #[.int .i64 k, .string a, .string b, .string c, .string d]) 1).run Tryz.prog w = .ok (.string a) w := by kernel_rfl
set_option maxHeartbeats 4000000 in
set_option maxRecDepth 100000 in
theorem stepsX_any (w : World) : Calls Tryz.prog 133 #[] w fun e w' => e = .returned (.map (some w.heap.size)) ∧ MapIs w' w.heap.size ∧ Below w.heap.size w w' ∧ w.heap.size < w'.heap.size := by
  have hmm := @run_makeMap Tryz.prog
  have H0 : Hid ((w.alloc (.map #[] 0)).ownsMap Tryz.prog 9 stepR w.heap.size 0 (.map [])) := Lib.hid (World.ownsMap_made _ _ _ _)
  have Hb0 : Hid (Below w.heap.size w (w.alloc (.map #[] 0))) := Lib.hid ((Below.refl _ _).alloc (Nat.le_refl _) _)
  have hz0 : w.heap.size < (w.alloc (.map #[] 0)).heap.size := by simp
  have h5 : ∀ k : ByteArray, k.size ≤ 100 → k.size ≤ maxLen := fun k hk => by unfold maxLen; omega
  have K1 := Lib.hid (keyX ⟨#[120, 48, 49]⟩ (h5 _ (by decide)))
  have K2 := Lib.hid (keyX ⟨#[120, 48, 50]⟩ (h5 _ (by decide)))
  have K3 := Lib.hid (keyX ⟨#[120, 48, 51]⟩ (h5 _ (by decide)))
  have K4 := Lib.hid (keyX ⟨#[120, 48, 52]⟩ (h5 _ (by decide)))
  have K5 := Lib.hid (keyX ⟨#[120, 48, 53]⟩ (h5 _ (by decide)))
  have R1 := Lib.hid (stepR_spA stepsX[0].2)
  have R2 := Lib.hid (stepR_spA stepsX[1].2)
  have R3 := Lib.hid (stepR_spA stepsX[2].2)
  have R4 := Lib.hid (stepR_spA stepsX[3].2)
  have R5 := Lib.hid (stepR_spA stepsX[4].2)
  clear h5
  go_enter Tryz.func133, Tryz.ntmps133
  focus
    go_wp2_with (refine wpList_insert_own _ rfl _ _ _ 129 rfl 9 42 lawX Tryz.underlying129 stepR w.heap.size 0 _ rfl H0.out (by unfold maxLen; omega) _ _ _ rfl rfl K1.out _ [] R1.out ?_)
  intro w1 h1 g1
  have H1 := Lib.hid h1
  have Hb1 := Lib.hid (Hb0.out.grown g1 (Nat.le_of_lt hz0) (fun k hk => by cases hk; exact Nat.le_refl _))
  have hz1 := Nat.lt_of_lt_of_le hz0 g1.size
  clear h1 g1
  focus
    go_wp2_with (refine wpList_insert_own _ rfl _ _ _ 129 rfl 9 42 lawX Tryz.underlying129 stepR w.heap.size 1 _ rfl H1.out (by unfold maxLen; omega) _ _ _ rfl rfl K2.out _ [] R2.out ?_)
  intro w2 h2 g2
  have H2 := Lib.hid h2
  have Hb2 := Lib.hid (Hb1.out.grown g2 (Nat.le_of_lt hz1) (fun k hk => by cases hk; exact Nat.le_refl _))
  have hz2 := Nat.lt_of_lt_of_le hz1 g2.size
  clear h2 g2
  focus
    go_wp2_with (refine wpList_insert_own _ rfl _ _ _ 129 rfl 9 42 lawX Tryz.underlying129 stepR w.heap.size 2 _ rfl H2.out (by unfold maxLen; omega) _ _ _ rfl rfl K3.out _ [] R3.out ?_)
  intro w3 h3 g3
  have H3 := Lib.hid h3
  have Hb3 := Lib.hid (Hb2.out.grown g3 (Nat.le_of_lt hz2) (fun k hk => by cases hk; exact Nat.le_refl _))
  have hz3 := Nat.lt_of_lt_of_le hz2 g3.size
  clear h3 g3
  focus
    go_wp2_with (refine wpList_insert_own _ rfl _ _ _ 129 rfl 9 42 lawX Tryz.underlying129 stepR w.heap.size 3 _ rfl H3.out (by unfold maxLen; omega) _ _ _ rfl rfl K4.out _ [] R4.out ?_)
  intro w4 h4 g4
  have H4 := Lib.hid h4
  have Hb4 := Lib.hid (Hb3.out.grown g4 (Nat.le_of_lt hz3) (fun k hk => by cases hk; exact Nat.le_refl _))
  have hz4 := Nat.lt_of_lt_of_le hz3 g4.size
  clear h4 g4
  focus
    go_wp2_with (refine wpList_insert_own _ rfl _ _ _ 129 rfl 9 42 lawX Tryz.underlying129 stepR w.heap.size 4 _ rfl H4.out (by unfold maxLen; omega) _ _ _ rfl rfl K5.out _ [] R5.out ?_)
  intro w5 h5 g5
  have H5 := Lib.hid h5
  have Hb5 := Lib.hid (Hb4.out.grown g5 (Nat.le_of_lt hz4) (fun k hk => by cases hk; exact Nat.le_refl _))
  have hz5 := Nat.lt_of_lt_of_le hz4 g5.size
  clear h5 g5
  go_wp2_with fail
  go_ret
  exact ⟨rfl, H5.out, Hb5.out, hz5⟩
end Go.Proofs.YthjcifokmcbaoaaGreatDoor.st
/- Laws for any program: append of any elements, none too, to a slice at a block's head. No program in sight; no conditions beside those stated. -/
namespace Go.Proofs.YthjcifokmcbaoaaGreatDoor
open Go.RowKit ls

section
variable {P : Program}
theorem run_append_blk0 (w : World) (t ty : TypeId) (M : Nat) (e : TypeId) (i : TypeInfo) (z : Value) (size bytes : Nat) (ht : P.underlying t = some (.slice e)) (hi : P.info? e = some i) (hz : i.zero = some z)
    (hsize : i.size = size) (hby : i.bytes = bytes) (hzs : z.cells.size = size) (hsz : 0 < size)
    (v : Value) (n : Nat) (xs : List Value) (hB : Blk e size M w v n xs) (y : Value) (m : Nat) (news : List Value) (hy : SrcV w y m news) (hl : news.length = m * size) (h1 : ∀ u ∈ news, u.oneCell' = true)
    (h63 : n + m ≤ maxLen) (hbytes : (n + m) * bytes ≤ 140737488355328) (hM : M ≤ w.heap.size) :
    ∃ p c w', (Builtin.append_ #[t, t] ty #[v, y]).run P w = .ok (.slice p (n + m) c) w' ∧ Blk e size M w' (.slice p (n + m) c) (n + m) (xs ++ news) ∧ w.grownBy w' v.ownBlock ∧ Sh w w' := by
  rcases Nat.eq_zero_or_pos m with rfl | hm
  · rcases hy with ⟨_, rfl, q, c, rfl⟩ | ⟨h, _⟩
    · obtain ⟨p, cap, hv, hle⟩ : ∃ p cap, v = .slice p n cap ∧ n ≤ cap := by
        rcases hB.2 with ⟨rfl, rfl⟩ | ⟨g, c', cs, rfl, h3, _⟩
        · exact ⟨_, _, rfl, Nat.le_refl _⟩
        · exact ⟨_, _, rfl, h3⟩
      subst hv
      have hsrc : Src P i.size t (.slice q 0 c) 0 [] w := by
        cases q with
        | none => exact Src.ofNil w ht c
        | some ad => exact Src.ofSlice w ht ad 0 c [] (by simp) (fun j u h => by simp at h) (fun u h => by simp at h)
      refine ⟨p, cap, w, run_append_nothing w t t ty e i ht hi p n cap hle _ hsrc, ?_, ⟨rfl, rfl, rfl, Nat.le_refl _, fun _ _ _ => rfl⟩, Sh.refl w⟩
      rw [List.append_nil]
      exact hB
    · omega
  · exact run_append_blk w t ty M e i z size bytes ht hi hz hsize hby hzs hsz v n xs hB y m news hm hy hl h1 h63 hbytes hM
theorem wpList_append_blk0 {ops : Array Oper} {rest : List Oper} {o : Oper} {a : Act} {w : World} {Q : Exit → Act → World → Prop} (hgd : o.guard = none) (s x : Operand) (t : TypeId)
    (ho : o.op = .call { callee := .builtin .append, args := #[s, x], argTypes := #[t, t] })
    (e : TypeId) (i : TypeInfo) (z : Value) (size bytes : Nat) (ht : P.underlying t = some (.slice e)) (hi : P.info? e = some i) (hz : i.zero = some z)
    (hsize : i.size = size) (hby : i.bytes = bytes) (hzs : z.cells.size = size) (hsz : 0 < size)
    (M : Nat) (v : Value) (n : Nat) (xs : List Value) (hs : a.eval s = v) (hB : Blk e size M w v n xs) (y : Value) (m : Nat) (news : List Value) (hx : a.eval x = y) (hy : SrcV w y m news) (hl : news.length = m * size)
    (h1 : ∀ u ∈ news, u.oneCell' = true) (h63 : n + m ≤ 9223372036854775807) (hbytes : (n + m) * bytes ≤ 140737488355328) (hM : M ≤ w.heap.size)
    (h : ∀ p c w', Blk e size M w' (.slice p (n + m) c) (n + m) (xs ++ news) → w.grownBy w' v.ownBlock → Sh w w' → wpList P ops Q rest (a.put o.dst (.slice p (n + m) c)) w') :
    wpList P ops Q (o :: rest) a w := by
  refine wpList_plain hgd fun K hK => ?_
  obtain ⟨p, c, w', hr, h2, h3, h4⟩ := run_append_blk0 (P := P) w t o.type M e i z size bytes ht hi hz hsize hby hzs hsz v n xs hB y m news hy hl h1 (by unfold maxLen; omega) hbytes hM
  unfold Oper.wp execOp
  simp only [ho, resolve, invoke, builtin, Sem.run_bind, Sem.run_pure, Result.andThen_ok, List.map_toArray, List.map_cons, List.map_nil, hs, hx, hr]
  exact hK _ _ (h p c w' h2 h3 h4)
end
theorem Blk.rw {α : Type} {enc : α → List Value} {k : Nat} (hk : ∀ x, (enc x).length = k) {T : TypeId} {M n : Nat} {w : World} {v : Value} {l : List α} (h : Blk T k M w v n (rw.flat enc l)) (hl : l.length = n) : rw.Rw enc k w v l := by
  subst hl
  obtain ⟨_, ⟨rfl, h0⟩ | ⟨g, c, cs, rfl, hc, _, hb, _, ht⟩⟩ := h
  · exact ⟨none, 0, by rw [h0], by omega, .inl (List.eq_nil_of_length_eq_zero h0)⟩
  · refine ⟨_, c, rfl, hc, .inr ⟨g, 0, rfl, lt_of_block hb, fun j x hx i u hu => ?_⟩⟩
    have h2 := rw.flat_at hk l j x i u hx hu
    rw [cell_in hb, Nat.zero_add, ← Array.getElem?_toList]
    rw [← ht, List.getElem?_take] at h2
    split at h2
    · exact h2
    · cases h2
end Go.Proofs.YthjcifokmcbaoaaGreatDoor
/- Package extra: its moves, reckoned. No conditions. -/
namespace Go.Proofs.YthjcifokmcbaoaaGreatDoor.st
open Go.ChangeShapes Go.WideShapes Go.WideMaps Go.ChangeMaps Go.ChangeAt Go.RowKit Go.Maps gl ls

/-! ### Plain -/
def keysX : List (List UInt8) := stepsX.map (·.1)
/-- What has come of a map's keys. -/
def Got (got : List (List UInt8)) (left : Lit → Bool) : Prop := got.Nodup ∧ (∀ k ∈ got, k ∈ keysX) ∧ ∀ k ∈ keysX, left (.string k) = !got.contains k
theorem got_start : Got [] (Maps.has mapX) := by
  refine ⟨List.nodup_nil, (fun k h => by cases h), fun k hk => ?_⟩
  simp only [keysX, stepsX, List.map_cons, List.map_nil, List.mem_cons, List.not_mem_nil, or_false] at hk
  rcases hk with rfl | rfl | rfl | rfl | rfl <;> rfl
theorem sameKey_self (t : List UInt8) : Lit.sameKey (.string t) (.string t) = true := by simp [Lit.sameKey]
theorem got_step {got : List (List UInt8)} {left : Lit → Bool} {t : List UInt8} (h : Got got left) (ht : t ∈ keysX) (hl : left (.string t) = true) : Got (got ++ [t]) (fun z => left z && !z.sameKey (.string t)) := by
  obtain ⟨h1, h2, h3⟩ := h
  have hn : t ∉ got := by
    have := h3 t ht
    rw [hl] at this
    simpa using this
  refine ⟨List.nodup_append.2 ⟨h1, by simp, fun a ha b hb => ?_⟩, fun k hk => ?_, fun k hk => ?_⟩
  · obtain rfl := List.mem_singleton.1 hb
    rintro rfl
    exact hn ha
  · rcases List.mem_append.1 hk with h | h
    · exact h2 k h
    · rw [List.mem_singleton.1 h]; exact ht
  · show (left (.string k) && !Lit.sameKey (.string k) (.string t)) = _
    rw [h3 k hk]
    by_cases he : k = t
    · subst he
      rw [sameKey_self]
      simp
    · rw [sameKey_ne (fun e => he (by injection e))]
      simp [he]
theorem got_end {got : List (List UInt8)} {left : Lit → Bool} (h : Got got left) (hl : ∀ k, left k = false) : got.Perm keysX := by
  obtain ⟨h1, h2, h3⟩ := h
  refine (List.perm_ext_iff_of_nodup h1 (by decide)).2 fun a => ⟨h2 a, fun ha => ?_⟩
  have := h3 a ha
  rw [hl] at this
  simpa using this
theorem keysX_asc : keysX.Pairwise fun a b => decide (a ≤ b) = true := by decide
theorem needsX_asc : ∀ i, i < 5 → (needsX (extraTo (stepsX.take i) []) ((stepsX[i]?).getD ([], ⟨0, [], [], [], []⟩)).2.table).Pairwise fun a b => decide (a ≤ b) = true := by decide +kernel
theorem extraTo_snoc : ∀ (l : List (List UInt8 × Sp)) (x : List UInt8 × Sp) (out : List Mv), extraTo (l ++ [x]) out = extraTo l out ++ [nextX (extraTo l out) x]
  | [], _, _ => rfl
  | _y :: r, x, _out => extraTo_snoc r x _
theorem extraTo_len : ∀ (l : List (List UInt8 × Sp)) (out : List Mv), (extraTo l out).length = out.length + l.length
  | [], out => by simp [extraTo]
  | y :: r, out => by rw [extraTo, extraTo_len r]; simp; omega
theorem extra_steps1 : ∀ (l : List (List UInt8 × Sp)) (out : List Mv), (∀ m ∈ out, m.steps.length = 1) → ∀ m ∈ extraTo l out, m.steps.length = 1
  | [], _, h => h
  | x :: r, out, h => extra_steps1 r _ fun m hm => by
    rcases List.mem_append.1 hm with h1 | h1
    · exact h m h1
    · rw [List.mem_singleton.1 h1]; rfl
/-- A row of moves, in blocks from M on. -/
def RowX (M : Nat) (w : World) (v : Value) (R : List MvR) (l : List Mv) : Prop := w.ownsRow M 36 3 v R.length (rw.flat mvC R) ∧ R.length = l.length ∧ ∀ (i : Nat) (r : MvR) (m : Mv), R[i]? = some r → l[i]? = some m → Goes M w r m
theorem own_laterX {w w' : World} {base n size : Nat} {e : TypeId} {v : Value} {xs : List Value} (h : w.ownsRow base e size v n xs) (hb : Below w.heap.size w w') : w'.ownsRow base e size v n xs := (Upd.of_below hb []).row h (fun _ _ hn => by cases hn)
theorem RowX.later {M : Nat} {w w' : World} {v : Value} {R : List MvR} {l : List Mv} (h : RowX M w v R l) (hb : Below w.heap.size w w') : RowX M w' v R l := ⟨own_laterX h.1 hb, h.2.1, fun i r m hr hm => (h.2.2 i r m hr hm).later hb⟩
theorem RowX.new {M : Nat} {w : World} {v : Value} {R : List MvR} {l : List Mv} (h : RowX M w v R l) : NewMv M w v R l := ⟨rw.own_new mvC_len (by decide) h.1, h.2.1, h.2.2⟩
theorem goes_farX {M : Nat} {w : World} {r : MvR} {m : Mv} (h : Goes M w r m) {k : Nat} {cs : Array Value} {T : TypeId} {f : Nat × Nat} (hk : w.heap[k]? = some (.cells cs T f)) (h1 : T ≠ 9) (h2 : T ≠ 42) {w' : World} (hg : w.grownBy w' (some k)) : Goes M w' r m := by
  obtain ⟨e, a, b⟩ := h
  refine ⟨e, ?_, ?_⟩
  · rcases a with a | ⟨g, c, cs', e1, e2, e3, e4, e5⟩
    · exact .inl a
    · refine .inr ⟨g, c, cs', e1, e2, e3, (hg.block g (lt_of_block e4) ?_).trans e4, e5⟩
      intro hh
      obtain rfl := Option.some.inj hh
      rw [e4] at hk
      cases hk
      exact h1 rfl
  · rcases b with a | ⟨g, c, cs', e1, e2, e3, e4, e5⟩
    · exact .inl a
    · refine .inr ⟨g, c, cs', e1, e2, e3, (hg.block g (lt_of_block e4) ?_).trans e4, e5⟩
      intro hh
      obtain rfl := Option.some.inj hh
      rw [e4] at hk
      cases hk
      exact h2 rfl
theorem goes_blk {M B : Nat} {w w' : World} {v : Value} {n : Nat} {xs : List Value} {r : MvR} {m : Mv} (h : Goes M w r m) (ho : Blk 36 3 B w v n xs) (hg : w.grownBy w' v.ownBlock) : Goes M w' r m := by
  rcases ho.2 with ⟨rfl, _⟩ | ⟨g, cap, cur, rfl, _, _, hb, _⟩
  · exact h.later ⟨hg.os, hg.tape, hg.output, hg.size, fun k hk => hg.block k hk (by simp [Value.ownBlock])⟩
  · exact goes_farX h hb (by decide) (by decide) hg
theorem RowX.push {M : Nat} {w w' : World} {v v' : Value} {R : List MvR} {l : List Mv} {r : MvR} {m : Mv} (h : RowX M w v R l) (hg : Goes M w r m) (ho : w'.ownsRow M 36 3 v' (R.length + 1) (rw.flat mvC R ++ mvC r)) (hgr : w.grownBy w' v.ownBlock) : RowX M w' v' (R ++ [r]) (l ++ [m]) := by
  refine ⟨?_, ?_, ?_⟩
  · rw [rw.flat_snoc, List.length_append]
    exact ho
  · rw [List.length_append, List.length_append, h.2.1]
    rfl
  · intro i r' m' hr' hm'
    by_cases hi : i < R.length
    · rw [List.getElem?_append_left hi] at hr'
      rw [List.getElem?_append_left (by rw [← h.2.1]; exact hi)] at hm'
      exact goes_blk (h.2.2 i r' m' hr' hm') (Blk.of_own h.1) hgr
    · rw [List.getElem?_append_right (by omega)] at hr'
      rw [List.getElem?_append_right (by rw [← h.2.1]; omega), ← h.2.1] at hm'
      have h0 := lt_get hr'
      simp only [List.length_singleton] at h0
      rw [show i - R.length = 0 by omega] at hr' hm'
      obtain rfl := Option.some.inj hr'
      obtain rfl := Option.some.inj hm'
      exact goes_blk hg (Blk.of_own h.1) hgr
theorem MapIs.later {w w' : World} {b : Nat} (h : MapIs w b) (hb : Below w.heap.size w w') : MapIs w' b := h.kept (row := none) ⟨hb.os, hb.tape, hb.output, hb.size, fun k hk _ => hb.block k hk⟩ (by simp)
theorem map_cells {w w' : World} {b M n : Nat} {T : TypeId} {k : Nat} {v : Value} {xs : List Value} (h : MapIs w b) (ho : Blk T k M w v n xs) (hg : w.grownBy w' v.ownBlock) : MapIs w' b := by
  refine h.kept hg ?_
  intro hh
  obtain ⟨es, clock, hb, _⟩ := h
  rcases ho.2 with ⟨rfl, _⟩ | ⟨g, cap, cur, rfl, _, _, hg', _⟩
  · cases hh
  · obtain rfl := Option.some.inj hh
    rw [hg'] at hb
    cases hb
theorem infoTxX : (Tryz.prog.info? 9).map (fun i => (i.zero, i.size, i.bytes)) = some (some (.string .empty), 1, 16) := by kernel_rfl
theorem kept_own {w w' : World} {base n size r : Nat} {e : TypeId} {v : Value} {xs : List Value} (h : w.ownsRow base e size v n xs) (hg : w.grownBy w' (some r)) (hr : r < base) : w'.ownsRow base e size v n xs := by
  refine ⟨h.1, ?_⟩
  rcases h.2 with h2 | ⟨g, cap, cur, e1, hb, hg', r'⟩
  · exact .inl h2
  · exact .inr ⟨g, cap, cur, e1, hb, (hg.block g (lt_of_block hg') (fun e => by have := Option.some.inj e; omega)).trans hg', r'⟩
/-- What the first j of some moves need not know: the IDs of those that speak of a table. -/
def needTo (l : List Mv) (t : List UInt8) (j : Nat) : List (List UInt8) := ((l.take j).filter fun m => spkM m t).map (·.id)
theorem need_step {l : List Mv} {t : List UInt8} {j : Nat} {m : Mv} (h : l[j]? = some m) : needTo l t (j + 1) = if spkM m t = true then needTo l t j ++ [m.id] else needTo l t j := by
  unfold needTo
  rw [take_at h, List.filter_append]
  cases hs : spkM m t <;> simp [hs]
theorem need_le (l : List Mv) (t : List UInt8) (j : Nat) : (needTo l t j).length ≤ j := by
  unfold needTo
  rw [List.length_map]
  exact Nat.le_trans (List.length_filter_le _ _) (by rw [List.length_take]; omega)
theorem base_stepsB : (baseL.all fun m => decide (1 ≤ m.steps.length) && decide (m.steps.length ≤ 1000)) = true := by decide +kernel
theorem base_stepsX : ∀ m ∈ baseL, 1 ≤ m.steps.length ∧ m.steps.length ≤ 1000 := by
  intro m hm
  have := List.all_eq_true.1 base_stepsB m hm
  simpa using this
theorem blk_loX {T : TypeId} {k M n : Nat} {w : World} {v : Value} {xs : List Value} (h : Blk T k M w v n xs) (q : Nat) (hq : v.ownBlock = some q) : M ≤ q := by
  rcases h.2 with ⟨rfl, _⟩ | ⟨b, c, cs', rfl, _, hM, _⟩
  · cases hq
  · cases hq
    exact hM
theorem own_formX {w : World} {v : Value} {n : Nat} {xs : List Value} {e : TypeId} {base size : Nat} (h : w.ownsRow base e size v n xs) : ∃ p c, v = .slice p n c := by
  rcases h.2 with ⟨rfl, rfl⟩ | ⟨g, cap, cur, hv, _⟩
  · exact ⟨_, _, rfl⟩
  · exact ⟨_, _, hv⟩
set_option maxHeartbeats 16000000 in
set_option maxRecDepth 100000 in
theorem reckoned_any (w : World) : Calls Tryz.prog 83 #[] w fun e w' => (∃ v R, e = .returned v ∧ NewMv w.heap.size w' v R extraL) ∧ Below w.heap.size w w' := by
  obtain ⟨i0, hi, hz0, hz1, hz2⟩ := info_parts infoTxX
  obtain ⟨i1, si, sz0, sz1, sz2⟩ := info_parts infoMv
  go_enter Tryz.func83, Tryz.ntmps83
  go_wp2_with fail
  refine (stepsX_any w).mono ?_
  rintro e w1 ⟨rfl, hm1, hb1, hz1'⟩
  have HM1 := Lib.hid hm1
  have HB1 := Lib.hid hb1
  clear hm1 hb1
  focus
    go_wp2_with (refine wpList_range_own _ rfl _ 129 rfl 9 42 lawX Tryz.underlying129 stepR w.heap.size 5 mapX rfl HM1.out ?_)
  intro w2 hr2 hg2 hs2
  have HR2 := Lib.hid hr2
  have HB2 : Hid (Below w.heap.size w w2) := Lib.hid (HB1.out.grown hg2 (Nat.le_of_lt hz1') (fun k hk => by cases hk))
  have hz2' : w1.heap.size < w2.heap.size := by omega
  clear hr2 hg2 hs2
  go_wp2_with fail
  go_loopw [2] (fun iv wr => ∃ (got : List (List UInt8)) (v : Value) (left : Lit → Bool) (cnt : Nat), v = iv ∧ Hid (wr.ranges Tryz.prog 9 stepR w.heap.size w1.heap.size 5 mapX left cnt) ∧ Hid (wr.ownsRow w2.heap.size 9 1 v got.length (rw.flat txC got)) ∧ Hid (Got got left) ∧ Hid (Below w.heap.size w wr) ∧ w2.heap.size ≤ wr.heap.size) (fun _ wr => wr.rangeLeft w.heap.size w1.heap.size)
  case atStart => exact ⟨[], _, _, _, rfl, HR2, Lib.hid ⟨rfl, .inl ⟨rfl, rfl⟩⟩, Lib.hid got_start, HB2, Nat.le_refl _⟩
  case round =>
    clear HR2
    obtain ⟨got, v, left, cnt, rfl, HR, HO, HG, HB, hzr⟩ := hrel
    obtain ⟨wO, hwO⟩ : ∃ wO, wO = wr := ⟨_, rfl⟩
    subst hwO
    focus
      go_wp2_with (refine wpList_next_ranges _ rfl _ rfl 9 lawX stepR Value.string spA (fun key kl h => by obtain ⟨s, hs, _⟩ := string_of_keyOf Tryz.underlying9 h; exact ⟨s, hs⟩) (fun v y h => by obtain ⟨s, hs, _⟩ := stepR_shape h; exact ⟨s, hs⟩) w.heap.size w1.heap.size 5 mapX left cnt (by rfl) HR.out ?_ ?_)
    · intro hc0 hl0
      have HP := Lib.hid (got_end HG.out hl0)
      clear hl0 hc0
      have hlg : got.length = 5 := HP.out.length_eq
      have HN0 := Lib.hid (rw.own_new txC_len (by decide) HO.out)
      have HMO := Lib.hid HR.out.owns
      obtain ⟨pI, cI, rfl⟩ := HN0.out.form
      rw [hlg] at HN0 ⊢
      have hlg2 : got.length ≤ 4294967295 := by omega
      clear HO HR HG hlg
      go_wp2_with fail
      refine (sortTx_any w2.heap.size _ got keysX HP.out keysX_asc hlg2 wO HN0.out).mono ?_
      rintro e w4 ⟨rfl, hs4, hg4⟩
      have HS4 := Lib.hid hs4
      have HB4 : Hid (Below w.heap.size w w4) := Lib.hid (HB.out.grown hg4 (by omega) (fun k hk => by have := blk_loX (Blk.of_new txC_len HN0.out) k hk; omega))
      have HM4 : Hid (MapIs w4 w.heap.size) := Lib.hid (map_cells HMO.out (Blk.of_new txC_len HN0.out) hg4)
      have HpI := Lib.hid (hs4.rw txC_len).ptr.2.2
      have hz4 := hg4.size
      have hwz4 : w.heap.size < w4.heap.size := by omega
      clear hs4 hg4
      go_wp2_with fail
      go_loopw [4, 25] (fun ov iv wr => ∃ (i : Nat) (v : Value) (R : List MvR), i ≤ 5 ∧ iv = .int .i64 i ∧ v = ov ∧ Hid (R.length = i) ∧ Hid (RowX w4.heap.size wr v R (extraTo (stepsX.take i) [])) ∧ Hid (Below w4.heap.size w4 wr)) (fun _ iv _ => 5 - (intOf iv).toNat)
      case atStart => exact ⟨0, _, [], by omega, rfl, rfl, Lib.hid rfl, Lib.hid ⟨⟨rfl, .inl ⟨rfl, rfl⟩⟩, rfl, fun i r m h => by simp at h⟩, Lib.hid (Below.refl _ _)⟩
      case round =>
        obtain ⟨i, v, R, hi5, rfl, rfl, HRn, HRow, Hb⟩ := hrel
        obtain ⟨wP, hwP⟩ : ∃ wP, wP = wr := ⟨_, rfl⟩
        subst hwP
        have hzP := Hb.out.size
        have hi50 : (0 : Int) ≤ (i : Int) := by omega
        by_cases hlt : i < 5
        · obtain ⟨x, hx⟩ : ∃ x, stepsX[i]? = some x := ⟨_, List.getElem?_eq_getElem (by exact hlt)⟩
          have hkx : keysX[i]? = some x.1 := by unfold keysX; rw [List.getElem?_map, hx]; rfl
          have hxm := List.mem_of_getElem? hx
          have hxl : x.1.length ≤ 100 := by
            simp only [stepsX, List.mem_cons, List.not_mem_nil, or_false] at hxm
            rcases hxm with rfl | rfl | rfl | rfl | rfl <;> decide
          obtain ⟨bI, oI, rfl, hbI⟩ := HpI.out (by omega)
          have cI' := txt_cell ((HS4.out.later Hb.out).rw txC_len) hkx
          have hasc := needsX_asc i hlt
          rw [hx] at hasc
          simp only [Option.getD_some] at hasc
          obtain ⟨outL, hout⟩ : ∃ outL, outL = extraTo (stepsX.take i) [] := ⟨_, rfl⟩
          have hnext : extraTo (stepsX.take (i + 1)) [] = outL ++ [nextX outL x] := by rw [take_at hx, extraTo_snoc, hout]
          have hone : ∀ m ∈ outL, m.steps.length = 1 := by rw [hout]; exact extra_steps1 _ _ (fun m h => by cases h)
          have houtn : outL.length = i := by
            rw [hout, extraTo_len, List.length_take]
            have : stepsX.length = 5 := rfl
            simp; omega
          rw [← hout] at HRow hasc
          have Hasc := Lib.hid hasc
          have Hnext := Lib.hid hnext
          have Hone := Lib.hid hone
          have Houtn := Lib.hid houtn
          have HMP := Lib.hid (HM4.out.later (Hb.out.mono (Nat.le_refl _)))
          have HLk := Lib.hid fun (W : World) (hW : Below wP.heap.size wP W) => lookX (HMP.out.later hW) hxm hxl
          have hii : (i : Int) < 5 := by omega
          have hbIr : bI < wP.heap.size := by omega
          obtain ⟨nid, hnid⟩ : ∃ nid, nid = B x.1 := ⟨_, rfl⟩
          rw [← hnid] at cI' HLk
          have Hnid := Lib.hid hnid
          clear hx hkx hxm hasc hout hnext hone houtn hnid
          go_wp2_with fail
          refine (moves_any wP).mono ?_
          rintro e w5 ⟨⟨vb, Rb, rfl, h5⟩, hb5⟩
          obtain ⟨pb, cb, rfl⟩ := h5.1.form
          have hlb : Rb.length = 6 := h5.2.1
          have hB5 := Blk.of_new mvC_len h5.1
          rw [hlb] at h5 hB5 ⊢
          have HB5 := Lib.hid hB5
          have H5 := Lib.hid h5
          have Hb5 := Lib.hid hb5
          have HRow5 := Lib.hid (HRow.out.later hb5)
          have hfr := own_formX HRow.out.1
          obtain ⟨pv, cv, rfl⟩ := hfr
          have Hsrc := Lib.hid (rw_src mvC_len (by decide) (rw.own_rw mvC_len (by decide) HRow5.out.1))
          have Hfl : Hid ((rw.flat mvC R).length = i * 3) := Lib.hid (by rw [rw.flat_len mvC_len, HRn.out])
          have Hone5 := Lib.hid (rw.flat_one mvC_one R)
          rw [HRn.out] at Hsrc ⊢
          have hz5 := hb5.size
          clear h5 hb5 hB5
          focus
            go_wp2_with (at_builtin; go_must (refine wpList_append_blk0 rfl _ _ 22 rfl 36 i1 _ 3 64 Tryz.underlying22 si sz0 sz1 sz2 rfl (by decide) wP.heap.size _ 6 _ (by rfl) HB5.out _ i _ (by rfl) Hsrc.out Hfl.out Hone5.out (by omega) (by omega) hz5 ?_))
          intro p6 c6 w6 hb6 hg6 _
          have hP6 : Below wP.heap.size wP w6 := Hb5.out.grown hg6 hz5 (fun k hk => blk_loX HB5.out k hk)
          rw [← rw.flat_append] at hb6
          have hRA : (Rb ++ R).length = 6 + i := by rw [List.length_append, hlb, HRn.out]
          have hrw6 := hb6.rw mvC_len hRA
          have hGA : ∀ (j : Nat) (r : MvR) (m : Mv), (Rb ++ R)[j]? = some r → (baseL ++ outL)[j]? = some m → Goes 0 w6 r m := by
            intro j r m hr hm
            by_cases hj : j < 6
            · rw [List.getElem?_append_left (by omega)] at hr
              rw [List.getElem?_append_left (by exact hj)] at hm
              exact goes_blk ((H5.out.2.2 j r m hr hm).mono (Nat.zero_le _)) HB5.out hg6
            · rw [List.getElem?_append_right (by omega), hlb] at hr
              rw [List.getElem?_append_right (by exact Nat.le_of_not_lt hj)] at hm
              exact goes_blk ((HRow5.out.2.2 _ r m hr hm).mono (Nat.zero_le _)) HB5.out hg6
          have hst : ∀ m ∈ baseL ++ outL, 1 ≤ m.steps.length ∧ m.steps.length ≤ 1000 := by
            intro m hm
            rcases List.mem_append.1 hm with h | h
            · exact base_stepsX m h
            · have := Hone.out m h
              omega
          have HLA : Hid ((baseL ++ outL).length = 6 + i) := Lib.hid (by rw [List.length_append, Houtn.out]; rfl)
          have HRA := Lib.hid hRA
          have HGA := Lib.hid hGA
          have Hst := Lib.hid hst
          have HRW := Lib.hid hrw6
          have HP6 := Lib.hid hP6
          have Hp6 := Lib.hid hrw6.ptr.2.2
          have hzp6 := hP6.size
          clear hb6 hg6 hP6 hRA hrw6 hGA hst Hsrc Hfl Hone5
          go_wp2_with fail
          go_loopw [7, 33] (fun nvv jv wr => ∃ (j : Nat) (nv : Value), j ≤ 6 + i ∧ jv = .int .i64 j ∧ nv = nvv ∧ Hid (wr.ownsRow w6.heap.size 9 1 nv (needTo (baseL ++ outL) x.2.table j).length (rw.flat txC (needTo (baseL ++ outL) x.2.table j))) ∧ Hid (Below w6.heap.size w6 wr)) (fun _ jv _ => 6 + i - (intOf jv).toNat)
          case atStart => exact ⟨0, _, by omega, rfl, rfl, Lib.hid ⟨rfl, .inl ⟨rfl, rfl⟩⟩, Lib.hid (Below.refl _ _)⟩
          case round =>
            obtain ⟨j, nv, hj, rfl, rfl, HOj, Hbj⟩ := hrel
            obtain ⟨wQ, hwQ⟩ : ∃ wQ, wQ = wr := ⟨_, rfl⟩
            subst hwQ
            have hzQ := Hbj.out.size
            have HPQ := Lib.hid (HP6.out.trans (Hbj.out.mono hzp6))
            by_cases hltj : j < 6 + i
            · obtain ⟨r, hr⟩ : ∃ r, (Rb ++ R)[j]? = some r := ⟨_, List.getElem?_eq_getElem (by rw [HRA.out]; exact hltj)⟩
              obtain ⟨m, hm⟩ : ∃ m, (baseL ++ outL)[j]? = some m := ⟨_, List.getElem?_eq_getElem (by rw [HLA.out]; exact hltj)⟩
              obtain ⟨b6, o6, rfl, hb6l⟩ := Hp6.out (by omega)
              obtain ⟨k0, k1, k2⟩ := mv_cells (HRW.out.later Hbj.out) hr
              have hg := (HGA.out j r m hr hm).later Hbj.out
              have sp := hg.2.2.rw spC_len
              have hsl := sp.ptr.1
              obtain ⟨st1, st2⟩ := Hst.out m (List.mem_of_getElem? hm)
              rw [hg.1] at k0
              have hnext := need_step (t := x.2.table) hm
              have hnl : (needTo (baseL ++ outL) x.2.table j).length ≤ j := need_le _ _ _
              obtain ⟨xi, pn, nn, cn, ps, ns, cs⟩ := r
              simp only [MvR.vn, MvR.vs] at k1 k2 sp hsl
              obtain ⟨wB, hB⟩ : ∃ wB, wB = wQ.alloc (.cells #[.string (B m.id), .slice pn nn cn, .slice ps ns cs] 36) := ⟨_, rfl⟩
              have hbB : Below wQ.heap.size wQ wB := by rw [hB]; exact (Below.refl _ _).alloc (Nat.le_refl _) _
              have kB : wB.heap[wQ.heap.size]? = some (.cells #[.string (B m.id), .slice pn nn cn, .slice ps ns cs] 36 (0, 0)) := by rw [hB]; exact heap_alloc_new wQ _
              have b0 : wB.cell? ⟨wQ.heap.size, 0, none⟩ = some (.string (B m.id)) := cell_in kB
              have b1 : wB.cell? ⟨wQ.heap.size, 1, none⟩ = some (.slice pn nn cn) := cell_in kB
              have b2 : wB.cell? ⟨wQ.heap.size, 2, none⟩ = some (.slice ps ns cs) := cell_in kB
              have hlk := HLk.out wB (HPQ.out.trans (hbB.mono HPQ.out.size))
              have HSpk := Lib.hid (speaksX_any m x.2.table pn ps nn cn ns cs (by omega) (by omega) wB (sp.later hbB))
              have HB := Lib.hid hB
              have HbB := Lib.hid hbB
              have HkB := Lib.hid kB
              have Hnext := Lib.hid hnext
              have hb6r : b6 < wQ.heap.size := by omega
              have hji : (j : Int) < ((6 + i : Nat) : Int) := by omega
              have hji2 : (j : Int) < 6 + (i : Int) := by omega
              have hj50 : (0 : Int) ≤ (j : Int) := by omega
              have hcast : ((6 + i : Nat) : Int) = 6 + (i : Int) := by omega
              unfold spA at hlk
              rw [hB] at hlk
              clear hg sp hsl st1 st2 hr hm hnext hB hbB kB hcast
              obtain ⟨n0, hn0⟩ : ∃ n0, n0 = (needTo (baseL ++ outL) x.2.table j).length := ⟨_, rfl⟩
              have HOn := HOj
              rw [← hn0] at HOn hnl
              have Hn0 := Lib.hid hn0
              clear hn0
              cases hsp : spkM m x.2.table with
              | false =>
                rw [hsp] at HSpk
                have Hsp := Lib.hid hsp
                clear hsp
                generalize B m.id = nm at *
                generalize B x.2.table = z1 at *
                generalize B x.2.key = z2 at *
                generalize B x.2.to = z3 at *
                generalize B x.2.text = z4 at *
                have hfld := fun W => fld1 x.2.kind z1 z2 z3 z4 W
                go_wp2_with fail
                rw [← HB.out]
                refine HSpk.out.mono ?_
                rintro e w7 ⟨rfl, hb7⟩
                have HO7 := Lib.hid (own_laterX HOj.out (then_bel HbB.out hb7))
                have Hb7 := Lib.hid (Hbj.out.trans ((then_bel HbB.out hb7).mono hzQ))
                have HN7 := Lib.hid (Hnext.out)
                rw [Hsp.out] at HN7
                simp only [Bool.false_eq_true, if_false] at HN7
                clear hb7
                go_wp2_with fail
                go_roundw
                case rel => exact ⟨j + 1, _, by omega, by go_num, rfl, by rw [HN7.out]; exact HO7, Hb7⟩
                case measure => simp [intOf]; omega
              | true =>
                rw [hsp] at HSpk
                have Hsp := Lib.hid hsp
                clear hsp
                obtain ⟨nm, hnm⟩ : ∃ nm, nm = B m.id := ⟨_, rfl⟩
                rw [← hnm] at b0 k0 HB HSpk HkB hlk
                have HNm := Lib.hid hnm
                clear hnm
                generalize B x.2.table = z1 at *
                generalize B x.2.key = z2 at *
                generalize B x.2.to = z3 at *
                generalize B x.2.text = z4 at *
                have hfld := fun W => fld1 x.2.kind z1 z2 z3 z4 W
                go_wp2_with fail
                rw [← HB.out]
                refine HSpk.out.mono ?_
                rintro e w7 ⟨rfl, hb7⟩
                have d0 : w7.cell? ⟨wQ.heap.size, 0, none⟩ = some (.string nm) := cell_then b0 hb7
                have HO7 := Lib.hid (own_laterX HOn.out (then_bel HbB.out hb7))
                have Hb7 := Lib.hid (Hbj.out.trans ((then_bel HbB.out hb7).mono hzQ))
                have HN7 := Lib.hid (Hnext.out)
                rw [Hsp.out] at HN7
                simp only [if_true] at HN7
                have hz7 := Hb7.out.size
                clear hb7 b0 b1 b2 k0 k1 k2
                focus
                  go_wp2_with (at_builtin; go_must (refine wpList_append_lit rfl _ _ 24 rfl 9 i0 _ 16 Tryz.underlying24 hi hz0 hz1 hz2 rfl _ 1 (by omega) (by rfl) (by rfl) w6.heap.size _ n0 _ (by rfl) HO7.out (by simp [Value.oneCell']) (by omega) (by omega) (by omega) ?_))
                intro g cap w8 hown hgrow _ _ _
                have HB8 := Lib.hid (below_grown_own Hb7.out HO7.out hgrow hz7)
                have HO8 : Hid (w8.ownsRow w6.heap.size 9 1 (.slice (some ⟨g, 0, none⟩) (n0 + 1) cap) (needTo (baseL ++ outL) x.2.table (j + 1)).length (rw.flat txC (needTo (baseL ++ outL) x.2.table (j + 1)))) := Lib.hid (by
                  rw [HN7.out, List.length_append, ← Hn0.out, rw.flat_snoc]
                  rw [show txC m.id = [.string nm] by unfold txC; rw [HNm.out]]
                  exact hown)
                clear hown hgrow
                go_wp2_with fail
                go_roundw
                case rel => exact ⟨j + 1, _, by omega, by go_num, rfl, HO8, HB8⟩
                case measure => simp [intOf]; omega
            · obtain rfl : j = 6 + i := by omega
              have hfull : needTo (baseL ++ outL) x.2.table (6 + i) = needsX outL x.2.table := by
                unfold needTo needsX
                rw [List.take_of_length_le (by rw [HLA.out]; exact Nat.le_refl _)]
              rw [hfull] at HOj
              have hnl : (needsX outL x.2.table).length ≤ 11 := by
                rw [← hfull]
                exact Nat.le_trans (need_le _ _ _) (by omega)
              have HNn := Lib.hid (rw.own_new txC_len (by decide) HOj.out)
              obtain ⟨pn, cn, rfl⟩ := HNn.out.form
              have Hnl := Lib.hid hnl
              obtain ⟨nn, hnn⟩ : ∃ nn, nn = (needsX outL x.2.table).length := ⟨_, rfl⟩
              have hnn2 : (needsX outL x.2.table).length ≤ 4294967295 := by omega
              rw [← hnn] at HNn ⊢
              have Hnn := Lib.hid hnn
              clear hfull HOj hnl hnn
              go_wp2_with fail
              refine (sortTx_any w6.heap.size _ (needsX outL x.2.table) (needsX outL x.2.table) (List.Perm.refl _) Hasc.out hnn2 wQ HNn.out).mono ?_
              rintro e w8 ⟨rfl, hs8, hg8⟩
              have hP8 : Below wP.heap.size wP w8 := HPQ.out.grown hg8 (by have := HPQ.out.size; omega) (fun k hk => by have := blk_loX (Blk.of_new txC_len HNn.out) k hk; omega)
              obtain ⟨w9, hw9⟩ : ∃ w9, w9 = w8.alloc (.cells #[.int .i64 x.2.kind, .string (B x.2.table), .string (B x.2.key), .string (B x.2.to), .string (B x.2.text)] 42) := ⟨_, rfl⟩
              obtain ⟨r, hr⟩ : ∃ r : MvR, r = ⟨x.1, pn, nn, cn, some ⟨w8.heap.size, 0, none⟩, 1, 1⟩ := ⟨_, rfl⟩
              have hz9 : w9.heap.size = w8.heap.size + 1 := by rw [hw9]; simp
              have hb9 : Below w8.heap.size w8 w9 := by rw [hw9]; exact (Below.refl _ _).alloc (Nat.le_refl _) _
              have hb10 : Below w9.heap.size w9 (w9.alloc (.cells #[.string (B r.id), r.vn, r.vs] 36)) := (Below.refl _ _).alloc (Nat.le_refl _) _
              have hk10 := heap_alloc_new w9 (.cells #[.string (B r.id), r.vn, r.vs] 36)
              have hks : w9.heap[w8.heap.size]? = some (.cells #[.int .i64 x.2.kind, .string (B x.2.table), .string (B x.2.key), .string (B x.2.to), .string (B x.2.text)] 42 (0, 0)) := by rw [hw9]; exact heap_alloc_new w8 _
              have hgo : Goes w4.heap.size (w9.alloc (.cells #[.string (B r.id), r.vn, r.vs] 36)) r (nextX outL x) := by
                have hvn : r.vn = .slice pn nn cn := by rw [hr]
                have hvs : r.vs = .slice (some ⟨w8.heap.size, 0, none⟩) 1 1 := by rw [hr]
                refine ⟨by rw [hr]; rfl, ?_, ?_⟩
                · have h := ((hs8.later hb9).later hb10).mono (M' := w4.heap.size) (by omega)
                  rw [← hvn] at h
                  exact h
                · have h := (new_lit spC_len (M := w4.heap.size) (l := [x.2]) (by have := hP8.size; omega) hks rfl).later hb10
                  rw [List.length_singleton, ← hvs] at h
                  exact h
              have hr10 := ((HRow.out.later hP8).later hb9).later hb10
              have Hsrc10 : Hid (SrcV (w9.alloc (.cells #[.string (B r.id), r.vn, r.vs] 36)) (.slice (some ⟨w9.heap.size, 0, none⟩) 1 1) 1 (mvC r)) := Lib.hid (.inr ⟨by decide, _, _, rfl, fun j u hj => by
                rw [addN, cell_in hk10]
                have hl := lt_get hj
                rw [mvC_len] at hl
                match j, hl with
                | 0, _ => exact hj
                | 1, _ => exact hj
                | 2, _ => exact hj⟩)
              have HRow10 := Lib.hid hr10
              have HOw10 := Lib.hid hr10.1
              rw [HRn.out] at HOw10
              have HGo := Lib.hid hgo
              have Hone10 := Lib.hid (mvC_one r)
              have HB10 := Lib.hid (Hb.out.trans ((then_bel hP8 (then_bel hb9 hb10)).mono hzP))
              have hlk := HLk.out w8 hP8
              unfold spA at hlk
              have hz10 : w4.heap.size ≤ (w9.alloc (.cells #[.string (B r.id), r.vn, r.vs] 36)).heap.size := HB10.out.size
              have hbI8 : bI < w8.heap.size := by have := hP8.size; omega
              have HEnd : Hid (∀ (v : Value) (w11 : World), w11.ownsRow w4.heap.size 36 3 v (i + 1) (rw.flat mvC R ++ mvC r) → (w9.alloc (.cells #[.string (B r.id), r.vn, r.vs] 36)).grownBy w11 (Value.slice pv i cv).ownBlock → RowX w4.heap.size w11 v (R ++ [r]) (outL ++ [nextX outL x]) ∧ Below w4.heap.size w4 w11) := Lib.hid (fun v w11 ho hg => by
                have hg' : (w9.alloc (.cells #[.string (B r.id), r.vn, r.vs] 36)).grownBy w11 (Value.slice pv R.length cv).ownBlock := by rw [HRn.out]; exact hg
                exact ⟨RowX.push HRow10.out HGo.out (by rw [HRn.out]; exact ho) hg', below_grown_own HB10.out HRow10.out.1 hg' hz10⟩)
              rw [hw9] at Hsrc10 HOw10 hz10 HEnd
              have hs9 : (w8.alloc (.cells #[.int .i64 x.2.kind, .string (B x.2.table), .string (B x.2.key), .string (B x.2.to), .string (B x.2.text)] 42)).heap.size = w8.heap.size + 1 := by simp
              rw [hs9] at Hsrc10
              rw [hr] at Hsrc10 HOw10 hz10 HEnd
              rw [hr] at Hone10
              simp only [MvR.vn, MvR.vs] at Hsrc10 HOw10 hz10 HEnd
              rw [← Hnid.out] at Hsrc10 HOw10 hz10 HEnd
              have Hr := Lib.hid hr
              have Hw9 := Lib.hid hw9
              clear hs8 hg8 hb9 hb10 hk10 hks hgo hr10 hz9 hr hw9 hs9 hP8
              generalize B x.2.table = z1 at *
              generalize B x.2.key = z2 at *
              generalize B x.2.to = z3 at *
              generalize B x.2.text = z4 at *
              focus
                go_wp2_with (at_builtin; go_must (refine wpList_append_any rfl _ _ 22 rfl 36 i1 _ 3 64 Tryz.underlying22 si sz0 sz1 sz2 rfl (by decide) w4.heap.size _ i _ (by rfl) HOw10.out _ 1 _ (by rfl) Hsrc10.out (by rfl) Hone10.out (by omega) (by omega) hz10 ?_))
              intro p11 c11 w11 hown hgrow
              have hend := HEnd.out _ _ hown hgrow
              have H11 := Lib.hid (hend.1)
              have Hb11 := Lib.hid (hend.2)
              rw [← Hnext.out] at H11
              clear hend hown hgrow
              go_wp2_with fail
              go_roundw
              case rel => exact ⟨i + 1, _, _, by omega, by go_num, rfl, Lib.hid (by rw [List.length_append, HRn.out]; rfl), H11, Hb11⟩
              case measure => simp [intOf]; omega
        · obtain rfl : i = 5 := by omega
          have hx5 : extraTo (stepsX.take 5) [] = extraL := rfl
          rw [hx5] at HRow
          have HN := Lib.hid (HRow.out.new.mono (M' := w.heap.size) (by omega))
          have HBf := Lib.hid (HB4.out.trans (Hb.out.mono (by omega)))
          clear hx5
          go_wp2_with fail
          go_ret
          exact ⟨⟨_, _, rfl, HN.out⟩, HBf.out⟩
    · intro x c kl y yp w3 cnt3 hkl hlk hRy hat hrg3 hlt hg3 hs3 hen
      obtain ⟨s0, hs0, rfl, hsz⟩ := string_of_keyOf Tryz.underlying9 hkl
      injection hs0 with hs0
      subst hs0
      have hkey : x.data.toList ∈ keysX := by
        obtain ⟨q, hq1, hq2⟩ := mapX_has _ (has_true_of_atKey hat)
        rw [← hq2]
        exact List.mem_map_of_mem hq1
      have HG3 := Lib.hid (got_step HG.out hkey hlk)
      have HR3 := Lib.hid hrg3
      have hown3 := kept_own HO.out hg3 (by omega)
      have hb3 : Below w.heap.size w w3 := HB.out.grown hg3 (by omega) (fun k hk => by cases hk; omega)
      have HO3 := Lib.hid hown3
      have HB3 := Lib.hid hb3
      have hl5 : got.length ≤ 5 := List.Nodup.length_le_of_subset HG.out.1 (fun a ha => HG.out.2.1 a ha)
      have hz3 : w2.heap.size ≤ w3.heap.size := by omega
      have HR0 := Lib.hid HR.out
      obtain ⟨n0, hn0⟩ : ∃ n0, n0 = got.length := ⟨_, rfl⟩
      rw [← hn0] at HO3 hl5
      have Hn0 := Lib.hid hn0
      clear hkl hRy hat hrg3 hg3 hkey hlk hown3 hb3 hn0 HO HG HR HB hs3
      focus
        go_wp2_with (at_builtin; go_must (refine wpList_append_lit rfl _ _ 24 rfl 9 i0 _ 16 Tryz.underlying24 hi hz0 hz1 hz2 rfl _ 1 (by omega) (by rfl) (by rfl) w2.heap.size _ n0 _ (by rfl) HO3.out (by simp [Value.oneCell']) (by omega) (by omega) (by omega) ?_))
      intro g cap w5 hown hgrow _ hz5 _
      have HR5 := Lib.hid (HR3.out.kept hgrow (fun e => by have := (HO3.out.lt _ e.symm).1; omega) (fun e => by have := (HO3.out.lt _ e.symm).1; omega))
      have HB5 : Hid (Below w.heap.size w w5) := Lib.hid (HB3.out.grown hgrow (by omega) (fun k hk => by have := (HO3.out.lt k hk).1; omega))
      have HO5 : Hid (w5.ownsRow w2.heap.size 9 1 (.slice (some ⟨g, 0, none⟩) (n0 + 1) cap) (got ++ [x.data.toList]).length (rw.flat txC (got ++ [x.data.toList]))) := Lib.hid (by
        rw [List.length_append, ← Hn0.out, rw.flat_snoc]
        have := hown
        rw [show txC x.data.toList = [.string x] by unfold txC; rw [B_of]]
        exact this)
      clear hown hgrow
      go_wp2_with fail
      go_roundw
      case rel => exact ⟨_, _, _, _, rfl, HR5, HO5, HG3, HB5, by omega⟩
      case measure => rw [HR5.out.left_eq, HR0.out.left_eq]; exact hlt
end Go.Proofs.YthjcifokmcbaoaaGreatDoor.st
/- Package extra: its moves, in memory of their own. No conditions. -/
namespace Go.Proofs.YthjcifokmcbaoaaGreatDoor.st
open Go.ChangeShapes Go.WideShapes Go.ChangeAt Go.RowKit gl ls

theorem extra_lowB : (extraL.all fun m => decide (m.needs.length ≤ 1000) && decide (m.steps.length ≤ 1000)) = true := by decide +kernel
theorem extra_low : ∀ m ∈ extraL, m.needs.length ≤ 1000 ∧ m.steps.length ≤ 1000 := by
  intro m hm
  have := List.all_eq_true.1 extra_lowB m hm
  simpa using this
set_option maxRecDepth 100000 in
theorem clipMv_any (p : Option Addr) (n c : Nat) (hn : n ≤ c) (hc : n ≤ 4294967295) (w : World) : Calls Tryz.prog 87 #[.slice p n c] w fun e w' => ∃ v, e = .returned v ∧ v = .slice p n n ∧ w = w' := by
  have h1 : (n : Int) ≤ (c : Int) := by omega
  have h2 : (0 : Int) ≤ (n : Int) := by omega
  go_enter Tryz.func87, Tryz.ntmps87
  go_wp2_with fail
  go_ret
  exact ⟨_, rfl, rfl, rfl⟩
/-- A row of moves of their own, each with no room behind its lists. -/
def RowT (M : Nat) (w : World) (v : Value) (R : List MvR) (l : List Mv) : Prop := RowX M w v R l ∧ ∀ r ∈ R, Tight r
theorem RowX.clip {M : Nat} {w : World} {p : Option Addr} {n c : Nat} {R : List MvR} {l : List Mv} (h : RowX M w (.slice p n c) R l) : NewMv M w (.slice p n n) R l := ⟨h.new.1.clip, h.2.1, h.2.2⟩
set_option maxHeartbeats 16000000 in
set_option maxRecDepth 100000 in
theorem extraMoves_any (w : World) : Calls Tryz.prog 44 #[] w fun e w' => (∃ p R, e = .returned (.slice p 5 5) ∧ NewMv w.heap.size w' (.slice p 5 5) R extraL ∧ ∀ r ∈ R, Tight r) ∧ Below w.heap.size w w' := by
  obtain ⟨i1, si, sz0, sz1, sz2⟩ := info_parts infoMv
  go_enter Tryz.func44, Tryz.ntmps44
  go_wp2_with fail
  refine (reckoned_any w).mono ?_
  rintro e w1 ⟨⟨v1, R1, rfl, h1⟩, hb1⟩
  obtain ⟨p1, c1, rfl⟩ := h1.1.form
  have hl1 : R1.length = 5 := h1.2.1
  have hp1 := (h1.1.rw mvC_len).ptr.2.2
  rw [hl1] at h1 hp1 ⊢
  have H1 := Lib.hid h1
  have HB1 := Lib.hid hb1
  have Hp1 := Lib.hid hp1
  have hz1 := hb1.size
  clear h1 hb1 hp1
  go_wp2_with fail
  go_loopw [1, 6] (fun ov iv wr => ∃ (i : Nat) (v : Value) (R : List MvR), i ≤ 5 ∧ iv = .int .i64 i ∧ v = ov ∧ Hid (R.length = i) ∧ Hid (RowT w1.heap.size wr v R (extraL.take i)) ∧ Hid (Below w1.heap.size w1 wr)) (fun _ iv _ => 5 - (intOf iv).toNat)
  case atStart => exact ⟨0, _, [], by omega, rfl, rfl, Lib.hid rfl, Lib.hid ⟨⟨⟨rfl, .inl ⟨rfl, rfl⟩⟩, rfl, fun i r m h => by simp at h⟩, fun r h => by cases h⟩, Lib.hid (Below.refl _ _)⟩
  case round =>
    obtain ⟨i, v, R, hi5, rfl, rfl, HRn, HRow, Hb⟩ := hrel
    obtain ⟨wP, hwP⟩ : ∃ wP, wP = wr := ⟨_, rfl⟩
    subst hwP
    have hzP := Hb.out.size
    have hi50 : (0 : Int) ≤ (i : Int) := by omega
    by_cases hlt : i < 5
    · obtain ⟨x, hx⟩ : ∃ x, R1[i]? = some x := ⟨_, List.getElem?_eq_getElem (by rw [hl1]; exact hlt)⟩
      obtain ⟨m, hm⟩ : ∃ m, extraL[i]? = some m := ⟨_, List.getElem?_eq_getElem (by exact hlt)⟩
      obtain ⟨b1, o1, rfl, hbl⟩ := Hp1.out (by omega)
      have hmv := H1.out.later Hb.out
      obtain ⟨k0, k1, k2⟩ := mv_cells (hmv.1.rw mvC_len) hx
      have hg := hmv.2.2 i x m hx hm
      obtain ⟨tx, sp⟩ : Txt wP (.slice _ _ _) m.needs ∧ Sps wP (.slice _ _ _) m.steps := ⟨hg.2.1.rw txC_len, hg.2.2.rw spC_len⟩
      obtain ⟨lo1, lo2⟩ := extra_low m (List.mem_of_getElem? hm)
      have hnl := tx.ptr.1
      have hsl := sp.ptr.1
      rw [hg.1] at k0
      obtain ⟨xi, pn, nn, cn, ps, ns, cs⟩ := x
      simp only [MvR.vn, MvR.vs] at k1 k2 tx sp hnl hsl
      have hfr := own_formX HRow.out.1.1
      obtain ⟨pv, cv, rfl⟩ := hfr
      have Htk := Lib.hid (take_at hm)
      have HTi := Lib.hid HRow.out.2
      have HRx := Lib.hid HRow.out.1
      rw [HRn.out] at HRx ⊢
      obtain ⟨wA, hA⟩ : ∃ wA, wA = wP.alloc (.cells #[.string (B m.id), .slice pn nn cn, .slice ps ns cs] 36) := ⟨_, rfl⟩
      have kA : wA.heap[wP.heap.size]? = some (.cells #[.string (B m.id), .slice pn nn cn, .slice ps ns cs] 36 (0, 0)) := by rw [hA]; exact heap_alloc_new wP _
      have hbA : Below wP.heap.size wP wA := by rw [hA]; exact (Below.refl _ _).alloc (Nat.le_refl _) _
      have hA0 : wA.cell? ⟨wP.heap.size, 0, none⟩ = some (.string (B m.id)) := cell_in kA
      have hA1 : wA.cell? ⟨wP.heap.size, 1, none⟩ = some (.slice pn nn cn) := cell_in kA
      have hA2 : wA.cell? ⟨wP.heap.size, 2, none⟩ = some (.slice ps ns cs) := cell_in kA
      have HbA := Lib.hid hbA
      have HT := Lib.hid (tx.later hbA)
      have HS := Lib.hid (sp.later hbA)
      have HCT := Lib.hid fun (W : World) (hb : Below wA.heap.size wA W) => cloneTx_any pn nn cn m.needs (by omega) W (HT.out.later hb)
      have HCS := Lib.hid fun (W : World) (hb : Below wA.heap.size wA W) => cloneSp_any ps ns cs m.steps (by omega) W (HS.out.later hb)
      have hzA : wP.heap.size < wA.heap.size := by rw [hA]; simp
      have hb1r : b1 < wP.heap.size := by omega
      have hii : (i : Int) < 5 := by omega
      have hnc : nn ≤ 4294967295 := by omega
      have hsc : ns ≤ 4294967295 := by omega
      have HA := Lib.hid hA
      clear hmv hg tx sp hx hm kA hbA hA hnl hsl lo1 lo2 HRow
      obtain ⟨nm, hnm⟩ : ∃ nm, nm = B m.id := ⟨_, rfl⟩
      rw [← hnm] at k0 hA0 HA
      have HNm := Lib.hid hnm
      clear hnm
      go_upto_region 5 with (fail)
      try rw [← HA.out]
      go_region_law
        (first
          | (refine step_callE (by rfl) 79 _ _ (by rfl) egCT _ (by rfl) _ (HCT.out _ (Below.refl _ _).drew) ?_; rintro v w6 ⟨⟨p6, c6, rfl, hc6, hn6⟩, hb6⟩; have HN6 := Lib.hid hn6; have hbw6 := (Below.refl wA.heap.size wA).drew.trans hb6; have HBw6 := Lib.hid hbw6; have e0 := cell_then hA0 hbw6; have e1 := cell_then hA1 hbw6; have e2 := cell_then hA2 hbw6; clear hn6 hb6 hbw6)
          | (refine step_callE (by rfl) 86 _ _ (by rfl) egCS _ (by rfl) _ (HCS.out _ HBw6.out) ?_; rintro v w7 ⟨⟨p7, c7, rfl, hc7, hn7⟩, hb7⟩; have HN7 := Lib.hid hn7; have HN67 := Lib.hid (HN6.out.later hb7); have hbw7 := then_bel HBw6.out hb7; have HBw7 := Lib.hid hbw7; have f0 := cell_then hA0 hbw7; have f1 := cell_then hA1 hbw7; have f2 := cell_then hA2 hbw7; have HPw7 := Lib.hid (then_bel HbA.out hbw7); have HR7 := Lib.hid (HRx.out.later HPw7.out); have HOw7 := Lib.hid HR7.out.1; rw [HRn.out] at HOw7; have hz7 : w1.heap.size ≤ w7.heap.size := Nat.le_trans hzP HPw7.out.size; clear hn7 hb7 hbw7)
          | (refine step_callE (by rfl) 84 _ _ (by rfl) egKT _ (by rfl) _ (clipTx_any _ _ _ (by assumption) (by omega) _) ?_; rintro v wq ⟨rfl, rfl⟩)
          | (refine step_callE (by rfl) 85 _ _ (by rfl) egKS _ (by rfl) _ (clipSp_any _ _ _ (by assumption) (by omega) _) ?_; rintro v wq ⟨rfl, rfl⟩)
          | (refine step_append_k (by rfl) _ _ 22 (by rfl) 36 i1 _ 3 64 Tryz.underlying22 si sz0 sz1 sz2 rfl (by omega) _ (by rfl) (by rfl) w1.heap.size _ i _ (by rfl) HOw7.out (by simp [Value.oneCell']) (by omega) (by omega) hz7 ?_; intro g8 c8 w8 hown8 hgrow8 _ _ _; have HO8 := Lib.hid hown8; have HG8 := Lib.hid hgrow8; clear hown8 hgrow8)
          | (refine step_append_k0 (by rfl) _ _ 22 (by rfl) 36 i1 _ 3 64 Tryz.underlying22 si sz0 sz1 sz2 rfl (by omega) _ (by rfl) (by rfl) w1.heap.size _ i _ (by rfl) HOw7.out (by simp [Value.oneCell']) (by omega) (by omega) hz7 ?_; intro g8 c8 w8 hown8 hgrow8 _ _ _; have HO8 := Lib.hid hown8; have HG8 := Lib.hid hgrow8; clear hown8 hgrow8)
          | fail)
      all_goals
        have hz8 : w1.heap.size ≤ wA.heap.size := by omega
        have hz9 : w1.heap.size ≤ w6.heap.size := Nat.le_trans hz8 HBw6.out.size
        have hgo : Goes w1.heap.size w7 ⟨m.id, p6, nn, nn, p7, ns, ns⟩ m := ⟨rfl, HN67.out.mono hz8, HN7.out.mono hz9⟩
        have ho8 := HO8.out
        rw [HNm.out] at ho8
        have hg8 := HG8.out
        have hpush := RowX.push HR7.out hgo (by rw [HRn.out]; exact ho8) hg8
        rw [← Htk.out] at hpush
        have HRow8 : Hid (RowT w1.heap.size w8 (.slice (some ⟨g8, 0, none⟩) (i + 1) c8) (R ++ [⟨m.id, p6, nn, nn, p7, ns, ns⟩]) (extraL.take (i + 1))) := Lib.hid ⟨hpush, fun r hr => by
          rcases List.mem_append.1 hr with h | h
          · exact HTi.out r h
          · rw [List.mem_singleton.1 h]; exact ⟨rfl, rfl⟩⟩
        have HB8 := Lib.hid (below_grown_own (Hb.out.trans (HPw7.out.mono hzP)) HR7.out.1 hg8 hz7)
        have HL8 : Hid ((R ++ [(⟨m.id, p6, nn, nn, p7, ns, ns⟩ : MvR)]).length = i + 1) := Lib.hid (by rw [List.length_append, HRn.out]; rfl)
        clear hgo ho8 hg8 hpush hA0 hA1 hA2 e0 e1 e2
        go_wp2_with fail
        go_roundw
        case rel => exact ⟨i + 1, _, _, by omega, by go_num, rfl, HL8, HRow8, HB8⟩
        case measure => simp [intOf]; omega
    · obtain rfl : i = 5 := by omega
      have hfr := own_formX HRow.out.1.1
      obtain ⟨pv, cv, rfl⟩ := hfr
      rw [HRn.out] at HRow ⊢
      have hcv := (HRow.out.1.new.1.rw mvC_len).ptr.2.1
      go_wp2_with fail
      refine (clipMv_any _ _ _ hcv (by omega) wP).mono ?_
      rintro e w' ⟨v, rfl, rfl, rfl⟩
      have HN := Lib.hid (HRow.out.1.clip.mono (M' := w.heap.size) (by omega))
      have HT := Lib.hid HRow.out.2
      have HBf := Lib.hid (HB1.out.trans (Hb.out.mono (by omega)))
      go_wp2_with fail
      go_ret
      exact ⟨⟨_, _, rfl, HN.out, HT.out⟩, HBf.out⟩
end Go.Proofs.YthjcifokmcbaoaaGreatDoor.st
/- slices.Backward over moves: its contract, for a range over it. Conditions: those stated. -/
namespace Go.Proofs.YthjcifokmcbaoaaGreatDoor.st
open Go.ChangeShapes Go.WideShapes Go.ChangeAt Go.RowKit gl ls Go.Shelf

attribute [local go_sem] Oper.semAt_some

/-- A move in memory, the move that it is, and its place. -/
abbrev MvX := Nat × MvR × Mv
def mvX (x : MvX) : Array Value := #[.int .i64 x.1, .agg #[.string (B x.2.1.id), x.2.1.vn, x.2.1.vs]]
theorem drop_back {α : Type} {l : List α} {j : Nat} {x : α} (h : l[j]? = some x) : (l.drop j).reverse = (l.drop (j + 1)).reverse ++ [x] := by
  obtain ⟨hj, rfl⟩ := List.getElem?_eq_some_iff.1 h
  rw [List.drop_eq_getElem_cons hj, List.reverse_cons]
set_option maxHeartbeats 2000000 in
set_option maxRecDepth 100000 in
theorem back1_in {α : Type} (sub : α → MvX) (F : Fence) (n : Nat) (hf : F.fn 135) (hro : F.round = none) (hn : 1 ≤ n) (l Bs n₀ b off len cap : Nat) (zs : List α) (hlen : zs.length = len) (hl32 : len ≤ 4294967295) (hb : b < n₀) (J Jx : List α → World → Prop)
    (hY : ∀ pre x W, J pre W → pre.length < len → YieldAt F (n - 1) Tryz.prog l (mvX (sub x)) W fun e W' =>
      (e = .returned (.bool true) ∧ J (pre ++ [x]) W' ∧ Below n₀ W W') ∨ (e = .returned (.bool false) ∧ Jx (pre ++ [x]) W'))
    (W : World) (hBn : Bs < n₀) (hBs : W.cell? ⟨Bs, 0, none⟩ = some (.slice (some ⟨b, off, none⟩) len cap))
    (hc : ∀ j x, zs[j]? = some x → (sub x).1 = j ∧ W.cell? ⟨b, off + j * 3, none⟩ = some (.string (B (sub x).2.1.id)) ∧ W.cell? ⟨b, off + j * 3 + 1, none⟩ = some (sub x).2.1.vn ∧ W.cell? ⟨b, off + j * 3 + 2, none⟩ = some (sub x).2.1.vs) (h0 : J [] W) :
    CallsIn F n Tryz.prog 135 #[.func (.yield l) #[] #[], .pointer (some ⟨Bs, 0, none⟩)] W fun e W' => (∃ v, e = .returned v) ∧
      ((∃ ys, ys = zs.reverse ∧ J ys W') ∨ (∃ pre, (∃ j, j ≤ len ∧ pre = (zs.drop j).reverse) ∧ Jx pre W')) := by
  refine callsIn_of_wp Tryz.func135 rfl hf ?_ hro
  simp only [Tryz.ntmps135, List.size_toArray, List.length_cons, List.length_nil, Nat.reduceAdd, Nat.reduceSub, Array.replicate_succ, Array.replicate_zero, List.push_toArray, List.append_toArray, List.nil_append, List.cons_append]
  have Hc := Lib.hid hc
  have HY := Lib.hid hY
  clear hc hY
  gi_wp2
  gi_loopw [3] (fun i wr => ∃ j : Nat, j ≤ len ∧ i = .int .i64 ((j : Int) - 1) ∧ Hid (J (zs.drop j).reverse wr) ∧ Hid (Below n₀ W wr))
    (fun i _ => (intOf i + 1).toNat)
  case atStart => exact ⟨len, Nat.le_refl _, by go_num, Lib.hid (by rw [List.drop_of_length_le (by omega)]; exact h0), Lib.hid (Below.refl _ _)⟩
  case round =>
    obtain ⟨j, hj, rfl, HJ, Hnx⟩ := hrel
    have hBs' : wr.cell? ⟨Bs, 0, none⟩ = some (.slice (some ⟨b, off, none⟩) len cap) := (Hnx.out.cell (p := ⟨Bs, 0, none⟩) hBn).trans hBs
    cases j with
    | zero =>
      gi_wp2
      go_end0
      exact ⟨⟨_, rfl⟩, .inl ⟨_, rfl, HJ.out⟩⟩
    | succ j =>
      obtain ⟨x, hx⟩ : ∃ x, zs[j]? = some x := ⟨_, List.getElem?_eq_getElem (by omega)⟩
      obtain ⟨hxj, k0, k1, k2⟩ := Hc.out j x hx
      have d0 := (Hnx.out.cell (p := ⟨b, off + j * 3, none⟩) hb).trans k0
      have d1 := (Hnx.out.cell (p := ⟨b, off + j * 3 + 1, none⟩) hb).trans k1
      have d2 := (Hnx.out.cell (p := ⟨b, off + j * 3 + 2, none⟩) hb).trans k2
      have Hdr := Lib.hid (drop_back hx)
      rw [show ((j + 1 : Nat) : Int) - 1 = (j : Int) by omega]
      obtain ⟨fn, tmps, assign, body, hy, hR⟩ := HY.out _ x wr HJ.out (by rw [List.length_reverse, List.length_drop]; omega)
      have HR := Lib.hid hR
      unfold mvX at hy
      rw [hxj] at hy
      have hj5 : (0 : Int) ≤ (j : Int) := by omega
      have hjl : (j : Int) < (len : Int) := by omega
      clear k0 k1 k2 hx hR
      generalize B (sub x).2.1.id = nm at *
      generalize (sub x).2.1.vn = vn at *
      generalize (sub x).2.1.vs = vs at *
      gi_wp2
      refine HR.out.mono ?_
      rintro e W3 (⟨rfl, hJ3, hk3⟩ | ⟨rfl, hJx3⟩)
      · have HJ3 := Lib.hid hJ3
        rw [← Hdr.out] at HJ3
        have HK3 := Lib.hid (Hnx.out.trans hk3)
        clear hJ3 hk3
        gi_wp2
        go_roundw
        case rel => exact ⟨j, by omega, by go_num, HJ3, HK3⟩
        case measure => simp [intOf]
      · gi_wp2
        refine bodyPost_ret (results_none rfl _ _ _) rfl ?_
        exact ⟨⟨_, rfl⟩, .inr ⟨_, ⟨j, by omega, Hdr.out.symm⟩, hJx3⟩⟩
set_option maxRecDepth 100000 in
theorem back_in (F : Fence) (n : Nat) (hf : F.fn 88) (hro : F.round = none) (a : Option Addr) (len cap : Nat) (w : World) :
    CallsIn F n Tryz.prog 88 #[.slice a len cap] w fun e w' => e = .returned (.func (.func 135) #[] #[.pointer (some ⟨w.heap.size, 0, none⟩)]) ∧ w' = w.alloc (.cells #[.slice a len cap] 22) := by
  refine callsIn_of_wp Tryz.func88 rfl hf ?_ hro
  simp only [Tryz.ntmps88, List.size_toArray, List.length_cons, List.length_nil, Nat.reduceAdd, Nat.reduceSub, Array.replicate_succ, Array.replicate_zero, List.push_toArray, List.append_toArray, List.nil_append, List.cons_append]
  gi_wp2
  go_ret
  exact ⟨rfl, rfl⟩
/-- What slices.Backward gives goes over its moves from the last on. -/
theorem back_stops {α : Type} (sub : α → MvX) (F : Fence) (n : Nat) (hf : F.fn 135) (hro : F.round = none) (hn : 1 ≤ n) (Bs n₀ b off len cap : Nat) (zs : List α) (hlen : zs.length = len) (hl32 : len ≤ 4294967295) (hb : b < n₀) (w : World) (hBs : Bs < n₀) (hn₀ : n₀ ≤ w.heap.size)
    (hs : w.cell? ⟨Bs, 0, none⟩ = some (.slice (some ⟨b, off, none⟩) len cap))
    (hc : ∀ j x, zs[j]? = some x → (sub x).1 = j ∧ w.cell? ⟨b, off + j * 3, none⟩ = some (.string (B (sub x).2.1.id)) ∧ w.cell? ⟨b, off + j * 3 + 1, none⟩ = some (sub x).2.1.vn ∧ w.cell? ⟨b, off + j * 3 + 2, none⟩ = some (sub x).2.1.vs) :
    SeqStopsK F n Tryz.prog 135 #[.pointer (some ⟨Bs, 0, none⟩)] (fun x : α => mvX (sub x)) (Below n₀) (fun ys => ys = zs.reverse) (fun pre => ∃ j, j ≤ len ∧ pre = (zs.drop j).reverse) len w := fun l J Jx W hW _ _ hY h0 => by
  have hW' := hW.mono hn₀
  exact back1_in sub F n hf hro hn l Bs n₀ b off len cap zs hlen hl32 hb J Jx hY W hBs ((hW'.cell (p := ⟨Bs, 0, none⟩) hBs).trans hs) (fun j x hx => by
    obtain ⟨h1, h2, h3, h4⟩ := hc j x hx
    exact ⟨h1, (hW'.cell (p := ⟨b, off + j * 3, none⟩) hb).trans h2, (hW'.cell (p := ⟨b, off + j * 3 + 1, none⟩) hb).trans h3, (hW'.cell (p := ⟨b, off + j * 3 + 2, none⟩) hb).trans h4⟩) h0
theorem keepsFrom_below {W W' : World} (h : Below W.heap.size W W') (C : Nat) : KeepsFrom C W W' := ⟨h.size, fun k _o _ hk _ => (h.block k (lt_of_block hk)).trans hk⟩
end Go.Proofs.YthjcifokmcbaoaaGreatDoor.st
/- extra.Index: the last move that speaks of a table. Condition: none beside the text's length. -/
namespace Go.Proofs.YthjcifokmcbaoaaGreatDoor.st
open Go.ChangeShapes Go.WideShapes Go.ChangeAt Go.RowKit gl ls Go.Shelf

attribute [local go_sem] Oper.semAt_some

/-- The last move that speaks of a table, by its ID. -/
def indexX (t : List UInt8) : List UInt8 := ((extraL.reverse.find? fun m => spkM m t).map (·.id)).getD []
theorem find_back {β : Type} (f : β → Bool) (l : List β) (ini : List β) (x : β) (rest : List β) (h : l = ini ++ x :: rest) (h1 : ∀ y ∈ ini, f y = false) (h2 : f x = true) : l.find? f = some x := by
  subst h
  rw [List.find?_append, List.find?_eq_none.2 (fun y hy => by rw [h1 y hy]; simp)]
  simp [h2]
theorem indexX_is {β : Type} (t : List UInt8) (g : β → Mv) (zs : List β) (h : zs.map g = extraL) : indexX t = ((zs.reverse.find? fun x => spkM (g x) t).map fun x => (g x).id).getD [] := by
  unfold indexX
  rw [← h, ← List.map_reverse, List.find?_map, Option.map_map]
  rfl
/-- Moves in memory, each with its place: those of a row. -/
theorem rowX_list {R : List MvR} {l : List Mv} (hl : R.length = l.length) (Pr : MvX → Prop) (hP : ∀ i r m, R[i]? = some r → l[i]? = some m → Pr (i, r, m)) : ∃ zs : List { x : MvX // Pr x }, zs.length = R.length ∧ zs.map (fun (x : { x : MvX // Pr x }) => x.1.2.2) = l ∧ ∀ (j : Nat) (x : { x : MvX // Pr x }), zs[j]? = some x → x.1.1 = j ∧ R[j]? = some x.1.2.1 := by
  refine ⟨List.ofFn (n := R.length) fun i => ⟨(i.1, R[i.1], l[i.1]'(by rw [← hl]; exact i.2)), hP _ _ _ (List.getElem?_eq_getElem _) (List.getElem?_eq_getElem _)⟩, by simp, ?_, ?_⟩
  · refine List.ext_getElem (by simp [hl]) fun i h1 h2 => ?_
    simp
  · intro j x hx
    have hj : j < R.length := by simpa using lt_get hx
    rw [List.getElem?_ofFn, dif_pos hj] at hx
    obtain rfl := Option.some.inj hx
    exact ⟨rfl, List.getElem?_eq_getElem hj⟩
theorem extra_stepsB : (extraL.all fun m => decide (1 ≤ m.steps.length) && decide (m.steps.length ≤ 1000)) = true := by decide +kernel
theorem extra_stepsX : ∀ m ∈ extraL, 1 ≤ m.steps.length ∧ m.steps.length ≤ 1000 := by
  intro m hm
  have := List.all_eq_true.1 extra_stepsB m hm
  simpa using this
/-- A box of three cells. -/
def Box3 (W : World) (b : Nat) (r : MvR) : Prop := W.heap[b]? = some (.cells #[.string (B r.id), r.vn, r.vs] 36 (0, 0))
theorem box3_own {β : Type} (b : Nat) (f : β → MvR) : Own (fun s W => Box3 W b (f s)) := fun s X Y row hs hg hrow => by
  refine (hg.block b (lt_of_block hs) fun e' => ?_).trans hs
  obtain ⟨o, ho, hc⟩ := hrow b e'.symm
  rw [show X.heap[b]? = _ from hs] at ho
  cases ho
  cases hc
set_option maxHeartbeats 4000000 in
set_option maxRecDepth 100000 in
theorem index_any (t : List UInt8) (w : World) : Calls Tryz.prog 49 #[.string (B t)] w fun e w' => e = .returned (.string (B (indexX t))) ∧ Below w.heap.size w w' := by
  refine (callsIn_wide (n := 9)).1 ?_
  refine callsIn_of_wp_marks Tryz.func49 rfl trivial ?_ rfl
  simp only [Tryz.ntmps49, List.size_toArray, List.length_cons, List.length_nil, Nat.reduceAdd, Nat.reduceSub, Array.replicate_succ, Array.replicate_zero, List.push_toArray, List.append_toArray, List.nil_append, List.cons_append]
  obtain ⟨wa, hwa⟩ : ∃ wa, wa = (w.alloc (.cells #[.string (B t)] 9)).alloc (.cells #[.string ⟨#[]⟩] 9) := ⟨_, rfl⟩
  have hba : Below w.heap.size w wa := by rw [hwa]; exact ((Below.refl _ _).alloc (Nat.le_refl _) _).alloc (by simp) _
  have x1 : Boxed wa w.heap.size 9 (.string (B t)) := by rw [hwa]; exact (Boxed.new w _ _).alloc _
  have x2 : Boxed wa (w.heap.size + 1) 9 (.string ⟨#[]⟩) := by
    have := Boxed.new (w.alloc (.cells #[.string (B t)] 9)) 9 (.string ⟨#[]⟩)
    rw [World.size_alloc] at this
    rw [hwa]; exact this
  have hza : wa.heap.size = w.heap.size + 2 := by rw [hwa]; simp
  have HA := Lib.hid hwa
  clear hwa
  gi_wp2_with fail
  rw [← HA.out]
  refine ⟨trivial, ?_⟩
  refine (callsIn_wide.2 (reckoned_any wa)).mono ?_
  rintro e w1 ⟨⟨v1, R1, rfl, h1⟩, hb1⟩
  obtain ⟨p1, c1, rfl⟩ := h1.1.form
  have hl1 : R1.length = 5 := h1.2.1
  have hp1 := (h1.1.rw mvC_len).ptr.2.2
  rw [hl1] at hp1
  obtain ⟨bb, ob, rfl, hbb⟩ := hp1 (by omega)
  obtain ⟨zs, hz1, hz2, hz3⟩ := rowX_list h1.2.1 (fun x => Goes wa.heap.size w1 x.2.1 x.2.2 ∧ x.2.2 ∈ extraL) (fun i r m hr hm => ⟨h1.2.2 i r m hr hm, List.mem_of_getElem? hm⟩)
  have hmv := fun j x hx => mv_cells (h1.1.rw mvC_len) (hz3 j x hx).2
  rw [hl1] at hz1 ⊢
  have Hz2 := Lib.hid hz2
  have Hz3 := Lib.hid hz3
  have Hmv := Lib.hid hmv
  clear hz2 hz3 hmv h1 hl1 hp1
  gi_wp2_with fail
  refine ⟨trivial, ?_⟩
  refine (back_in Fence.wide _ trivial rfl _ _ _ _).mono ?_
  rintro e w2 ⟨rfl, hw2⟩
  have hb2 : Below w1.heap.size w1 w2 := by rw [hw2]; exact (Below.refl _ _).alloc (Nat.le_refl _) _
  have x3 : Boxed w2 w1.heap.size 22 (.slice (some ⟨bb, ob, none⟩) 5 c1) := by rw [hw2]; exact Boxed.new w1 _ _
  have hz2' : w2.heap.size = w1.heap.size + 1 := by rw [hw2]; simp
  have hz1' := hb1.size
  have hba2 : Below wa.heap.size wa w2 := then_bel hb1 hb2
  have y1 : Boxed w2 w.heap.size 9 (.string (B t)) := (hba2.block _ x1.lt).trans x1
  have y2 : Boxed w2 (w.heap.size + 1) 9 (.string ⟨#[]⟩) := (hba2.block _ x2.lt).trans x2
  have hbw2 : Below w.heap.size w w2 := then_bel hba hba2
  clear hw2 x1 x2
  gi_wp2_with fail
  refine wpIn_rangeFunc_ownH rfl (by omega) (gf := 135) (lb := #[.pointer (some ⟨w1.heap.size, 0, none⟩)]) rfl trivial (enters_of Tryz.func135 (by kernel_rfl) rfl)
    (back_stops (fun x => x.1) Fence.wide 8 trivial rfl (by omega) w1.heap.size w2.heap.size bb ob 5 c1 zs hz1 (by omega) (by omega) w2 (by omega) (Nat.le_refl _) x3.cell (fun j x hx => ⟨(Hz3.out j x hx).1, cell_then (Hmv.out j x hx).1 hb2, cell_then (Hmv.out j x hx).2.1 hb2, cell_then (Hmv.out j x hx).2.2 hb2⟩)) belowK_t (belowK_b (Nat.le_refl _)) (Below.refl _ _) (fun _ => rfl)
    (fun pre W => ((∀ x ∈ pre, spkM x.1.2.2 t = false) ∧ (Boxed W w.heap.size 9 (.string (B t)) ∧ Boxed W (w.heap.size + 1) 9 (.string ⟨#[]⟩))) ∧ Below w2.heap.size w2 W)
    (fun c pre W => (c = .ret ∧ ∃ ini last, pre = ini ++ [last] ∧ (∀ x ∈ ini, spkM x.1.2.2 t = false) ∧ spkM last.1.2.2 t = true ∧ Boxed W (w.heap.size + 1) 9 (.string (B last.1.2.2.id))) ∧ Below w.heap.size w W)
    (OwnFrom.and (Own.from (fun s A C row hs hg hr => ⟨hs.1, boxed_own _ _ (fun (_ : Unit) => _) () A C row hs.2.1 hg hr, boxed_own _ _ (fun (_ : Unit) => _) () A C row hs.2.2 hg hr⟩) _) (ownFrom_below (Nat.le_refl _) (Nat.le_refl _)))
    (fun c => OwnFrom.and (Own.from (fun s A C row hs hg hr => by obtain ⟨hc, ini, last, e1, e2, e3, e4⟩ := hs; exact ⟨hc, ini, last, e1, e2, e3, boxed_own _ _ (fun (_ : Unit) => _) () A C row e4 hg hr⟩) _) (ownFrom_below (Nat.le_refl _) (by omega)))
    ⟨⟨by simp, y1, y2⟩, Below.refl _ _⟩
    (fun x a' W => ∃ Bx, w2.heap.size ≤ Bx ∧ Box3 W Bx x.1.2.1 ∧ a' = { tmps := #[.string (B t), .pointer (some ⟨w.heap.size, 0, none⟩), .pointer (some ⟨w.heap.size + 1, 0, none⟩), undef, .pointer (some ⟨Bx, 0, none⟩), .slice (some ⟨bb, ob, none⟩) 5 c1, .func (.func 135) #[] #[.pointer (some ⟨w1.heap.size, 0, none⟩)], .int .i64 x.1.1, .agg #[.string (B x.1.2.1.id), x.1.2.1.vn, x.1.2.1.vs], undef, undef, undef, undef, undef], defers := [] })
    (fun x a' _ X Y row hs hg hr => by obtain ⟨Bx, h1, h2, h3⟩ := hs; exact ⟨Bx, h1, box3_own Bx (fun (_ : Unit) => x.1.2.1) () X Y row h2 hg (fun r e => (hr r e).2), h3⟩)
    ?assign ?body ?done ?stop
  case assign =>
    rintro l pre x W K ⟨⟨hp, bx1, bx2⟩, hB⟩ hK
    unfold mvX
    have HK := Lib.hid hK
    clear hK
    gi_wp2_with fail
    exact HK.out _ _ ((KeepsOthers.alloc _ _).from _) ((Below.refl _ W).alloc hB.size _) ⟨⟨hp, bx1.alloc _, bx2.alloc _⟩, hB.alloc hB.size _⟩ ⟨W.heap.size, hB.size, heap_alloc_new W _, rfl⟩
  case body =>
    rintro l pre ⟨⟨ix, r, m⟩, hg, hmem⟩ a' W hl hr ⟨⟨hp, bx1, bx2⟩, hB⟩ ⟨Bx, hbx, hBx, rfl⟩ hlt
    simp only at hg hmem hBx
    obtain ⟨st1, st2⟩ := extra_stepsX m hmem
    have hzW := hB.size
    have hgW := (hg.later hb2).later (hB.mono (by omega))
    have sp := hgW.2.2.rw spC_len
    have hsl := sp.ptr.1
    have hid := hgW.1
    obtain ⟨xi, pn, nn, cn, ps, ns, cs⟩ := r
    simp only [MvR.vs] at sp hsl
    simp only at hid
    subst hid
    unfold Box3 at hBx
    simp only [MvR.vn, MvR.vs] at hBx
    have b0 : W.cell? ⟨Bx, 0, none⟩ = some (.string (B m.id)) := cell_in hBx
    have b1 : W.cell? ⟨Bx, 1, none⟩ = some (.slice pn nn cn) := cell_in hBx
    have b2 : W.cell? ⟨Bx, 2, none⟩ = some (.slice ps ns cs) := cell_in hBx
    have t1 := bx1.cell
    have HS := Lib.hid (speaksX_any m t pn ps nn cn ns cs (by omega) (by omega) W sp)
    have HBW := Lib.hid (hbw2.trans (hB.mono (by omega)))
    have HI := Lib.hid (And.intro hp (And.intro bx1 bx2))
    have HB' := Lib.hid hB
    clear hgW sp hsl st1 st2 hBx hp bx1 bx2 hB hbx
    cases hsp : spkM m t with
    | false =>
      rw [hsp] at HS
      have Hsp := Lib.hid hsp
      clear hsp
      gi_wp2_with fail
      refine ⟨trivial, ?_⟩
      refine (CallsIn.inRound l (callsIn_wide.2 HS.out)).mono ?_
      rintro e w5 ⟨rfl, hb5⟩
      have HB5 := Lib.hid hb5
      clear hb5
      gi_wp2_with fail
      obtain ⟨i1, i2, i3⟩ := HI.out
      refine ⟨keepsFrom_below HB5.out _, HB5.out.mono hzW, ⟨fun y hy => ?_, (HB5.out.block _ i2.lt).trans i2, (HB5.out.block _ i3.lt).trans i3⟩, HB'.out.trans (HB5.out.mono hzW)⟩
      rcases List.mem_append.1 hy with h | h
      · exact i1 y h
      · rw [List.mem_singleton.1 h]
        exact Hsp.out
    | true =>
      rw [hsp] at HS
      have Hsp := Lib.hid hsp
      clear hsp
      gi_wp2_with fail
      refine ⟨trivial, ?_⟩
      refine (CallsIn.inRound l (callsIn_wide.2 HS.out)).mono ?_
      rintro e w5 ⟨rfl, hb5⟩
      have d0 := cell_then b0 hb5
      have d3 : w5.cell? ⟨w.heap.size + 1, 0, none⟩ = some (.string ⟨#[]⟩) := cell_then HI.out.2.2.cell hb5
      have i3 : Boxed w5 (w.heap.size + 1) 9 (.string ⟨#[]⟩) := (hb5.block _ HI.out.2.2.lt).trans HI.out.2.2
      have d4 := i3.frozen
      have HB5 := Lib.hid hb5
      have I3 := Lib.hid i3
      clear hb5 i3
      gi_wp2_with fail
      exact ⟨(keepsFrom_below HB5.out _).trans ((KeepsOthers.setCell _ _ _).from _), ⟨rfl, pre, _, rfl, HI.out.1, Hsp.out, I3.out.set _⟩, (HBW.out.trans (HB5.out.mono HBW.out.size)).setCell (p := ⟨w.heap.size + 1, 0, none⟩) (by simp) _⟩
  case done =>
    rintro D ys W hD rfl ⟨⟨hne, bx1, bx2⟩, hB⟩ hK
    have hfr := bx2.frozen
    have hcr := bx2.cell
    gi_wp2_with fail
    have hK' := (KeepsOthers.setCell W ⟨w.heap.size + 1, 0, none⟩ (.string ⟨#[]⟩)).same D _ hK rfl
    refine ⟨by simp, .inl ⟨_, _, rfl, run_takeDeferred hK', ?_⟩⟩
    have hc5 := cell_kept (World.cell?_setCell_same' W ⟨w.heap.size + 1, 0, none⟩ (.string ⟨#[]⟩) (by rw [hcr]; rfl)) (grownBy_putObj' _ D (.deferred none)) (fun r e => by cases e; exact ⟨_, hK', rfl⟩)
    have hid : indexX t = [] := by
      rw [indexX_is t _ _ Hz2.out, List.find?_eq_none.2 (fun y hy => by
        have := hne y hy
        rw [this]; simp)]
      rfl
    refine ⟨.string (B (indexX t)), ?_, rfl, ((hbw2.trans (hB.mono (by omega))).setCell (p := ⟨w.heap.size + 1, 0, none⟩) (by simp) _).trans (belowK_b (w := w) (Nat.le_refl _) _ D _ _ (by omega) hK' rfl rfl)⟩
    rw [hid]
    simp [results, Tryz.f49, go_sem, hc5, B]
  case stop =>
    rintro D c pre W hD ⟨j, hj, rfl⟩ ⟨⟨rfl, ini, last, e1, e2, e3, bxr⟩, hB⟩ hK
    have hcr := bxr.cell
    gi_wp2_with fail
    refine ⟨by simp, .inl ⟨_, _, rfl, run_takeDeferred hK, ?_⟩⟩
    have hc5 := cell_kept hcr (grownBy_putObj' _ D (.deferred none)) (fun r e => by cases e; exact ⟨_, hK, rfl⟩)
    have hid : indexX t = last.1.2.2.id := by
      have hrev : zs.reverse = ini ++ last :: (zs.take j).reverse := by
        rw [show ini ++ last :: (zs.take j).reverse = (ini ++ [last]) ++ (zs.take j).reverse by simp, ← e1, ← List.reverse_append, List.take_append_drop]
      rw [indexX_is t _ _ Hz2.out, find_back _ _ ini last _ hrev e2 e3]
      rfl
    refine ⟨.string (B (indexX t)), ?_, rfl, hB.trans (belowK_b (w := w) (Nat.le_refl _) W D _ _ (by omega) hK rfl rfl)⟩
    rw [hid]
    simp [results, Tryz.f49, go_sem, hc5]
end Go.Proofs.YthjcifokmcbaoaaGreatDoor.st
