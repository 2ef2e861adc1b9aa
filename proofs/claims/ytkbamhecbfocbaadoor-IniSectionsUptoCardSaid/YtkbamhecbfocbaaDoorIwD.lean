/- tinderboxlaw06.apart returns true: lists of lines in blocks of their own, apart from each other. Conditions: at most seven lists, and as many to be compared with them, in rows. -/
import Derived.Test.YtkbamhecbfocbaaDoorIwC
import Derived.Test.YtkbamhecbfocbaaDoorInF
namespace Go.Proofs.YtkbamhecbfocbaaDoor.ini
open Go.ChangeShapes Go.WideShapes Go.ChangeAt Go.RowKit gl

def markC (i : Nat) : List Value := [.string ⟨#[]⟩, .string ⟨#[]⟩, .int .i64 (-1 - (i : Int))]
theorem markC_len (i : Nat) : (markC i).length = 3 := rfl
abbrev HoldL := ls.Hold 35 3 markC
abbrev PhL := ls.Ph 35 27 3 markC 5
abbrev GrL := ls.Gr 35 3 markC
theorem infoLs : (Tryd.prog.info? 27).map (fun i => (i.zero, i.size, i.bytes)) = some (some (.slice none 0 0), 1, 24) := by kernel_rfl
theorem neq_mark (u : Int) (w : World) : (binOp .neq 35 (.agg #[.string ⟨#[]⟩, .string ⟨#[]⟩, .int .i64 u]) (.agg #[.string ⟨#[]⟩, .string ⟨#[]⟩, .int .i64 u])).run Tryd.prog w = .ok (.bool false) w := by
  rw [neq_ln]
  simp
theorem same_eq (p p' : Option Addr) (m c c' : Nat) (l : List Ln) (hl : m ≤ 4294967295) (w : World) (h : Lns w (.slice p m c) l) (h' : Lns w (.slice p' m c') l) :
    Calls Tryd.prog 18 #[.slice p m c, .slice p' m c'] w fun e w' => e = .returned (.bool true) ∧ ∃ q, w' = w.drewN q :=
  (same_any p p' m m c c' l l hl hl w h h').mono fun e w' ⟨r, h1, h2, h3⟩ => ⟨by rw [h1, h2 rfl], h3⟩

set_option maxHeartbeats 4000000 in
set_option maxRecDepth 100000 in
theorem apart_any (B0 : Nat) (rs : List ls.LR) (lss : List (List Ln)) (n : Nat) (hn7 : n ≤ 7) (hlen : rs.length = n) (hxl : lss.length = n) (gl cl gw cw : Nat) (hcl : n ≤ cl) (hcw : n ≤ cw) (w : World) (hB : B0 ≤ w.heap.size) (hH : HoldL B0 w.heap.size w rs 0 (ls.cntAt 0 0)) (hD : ls.Dist rs) (hL : ls.LRow 27 w gl rs)
    (hSt : ∀ (i : Nat) (R : ls.LR) (l : List Ln), rs[i]? = some R → lss[i]? = some l → Lns w R.v l) (hW : ∀ (i : Nat) (l : List Ln), lss[i]? = some l → ∃ p c, w.cell? ⟨gw, i, none⟩ = some (.slice p l.length c) ∧ Lns w (.slice p l.length c) l) :
    Calls Tryd.prog 35 #[.slice (some ⟨gl, 0, none⟩) n cl, .slice (some ⟨gw, 0, none⟩) n cw] w fun e w' => e = .returned (.bool true) ∧ Below B0 w w' := by
  have HH := Lib.hid hH
  have HD := Lib.hid hD
  have HL := Lib.hid hL
  have HSt := Lib.hid hSt
  have HW := Lib.hid hW
  have Hlen := Lib.hid hlen
  have Hxl := Lib.hid hxl
  obtain ⟨i0, si, sz0, sz1, sz2⟩ := info_parts infoLn
  obtain ⟨i1, hi, hz0, hz1, hz2⟩ := info_parts infoLs
  have hgl : gl < w.heap.size := hL.lt
  clear hH hD hL hSt hW hlen hxl
  go_enter Tryd.func35, Tryd.ntmps35
  go_wp2_with fail
  go_loopw [5] (fun i wr => ∃ k q : Nat, k ≤ n ∧ i = .int .i64 k ∧ wr = w.drewN q) (fun i _ => n - (intOf i).toNat)
  case atStart => exact ⟨0, 0, by omega, rfl, rfl⟩
  case round =>
    obtain ⟨k, q, hk, rfl, rfl⟩ := hrel
    by_cases hlt : k < n
    · obtain ⟨R, hR⟩ : ∃ R, rs[k]? = some R := ⟨_, List.getElem?_eq_getElem (by rw [Hlen.out]; exact hlt)⟩
      obtain ⟨xs, hxs⟩ : ∃ xs, lss[k]? = some xs := ⟨_, List.getElem?_eq_getElem (by rw [Hxl.out]; exact hlt)⟩
      have c1 := HL.out.cell hR
      obtain ⟨pw, cc, c2, hs2⟩ := HW.out k xs hxs
      have hs1 := HSt.out k R xs hR hxs
      have hn := (HH.out k R (Nat.zero_le _) hR).1
      obtain ⟨pR, nR, cR⟩ := R
      simp only [ls.LR.v] at c1 hn hs1
      obtain ⟨hRn, hncR, _⟩ := hs1.ptr
      obtain ⟨_, hncc, _⟩ := hs2.ptr
      rw [hRn] at c2 hs2 hncc
      replace c1 : (w.drewN q).cell? ⟨gl, k, none⟩ = some (.slice pR nR cR) := c1
      replace c2 : (w.drewN q).cell? ⟨gw, k, none⟩ = some (.slice pw nR cc) := c2
      have HC := Lib.hid fun W (hq : ∃ d, W = w.drewN d) => same_eq pR pw nR cR cc xs hn W (by obtain ⟨d, rfl⟩ := hq; exact hs1.later (drewN_bel w d)) (by obtain ⟨d, rfl⟩ := hq; exact hs2.later (drewN_bel w d))
      clear hR hxs hs1 hs2 hRn
      generalize hq : w.drewN q = wr at *
      have HQ := Lib.hid hq
      clear hq
      go_wp2_with fail
      go_quiet ((go_at_call 18; exact Calls.quiet_of (HC.out _ (by rw [← HQ.out, World.drewN_drewN]; exact ⟨_, rfl⟩))))
      go_wp2_with fail
      go_roundw
      case rel => exact ⟨k + 1, _, by omega, by go_num, by rw [← HQ.out, World.drewN_drewN]⟩
      case measure => simp [intOf]; omega
    · obtain rfl : k = n := by omega
      obtain ⟨w1, hw1⟩ : ∃ w1, w1 = w.drewN q := ⟨_, rfl⟩
      have hb1 : Below w.heap.size w w1 := by rw [hw1]; exact drewN_bel w q
      have hz1' : w1.heap.size = w.heap.size := by rw [hw1]; rfl
      have HH1 : Hid (HoldL B0 w.heap.size w1 rs 0 (ls.cntAt 0 0)) := Lib.hid (HH.out.keep (ls.SK.of_below hb1))
      have HL1 : Hid (ls.LRow 27 w1 gl rs) := Lib.hid (HL.out.below hb1)
      have HB1 : Hid (Below B0 w w1) := Lib.hid (hb1.mono hB)
      rw [← hw1]
      clear HSt HW Hxl HH HL hb1 hw1
      go_wp2_with fail
      go_loopw [7] (fun i wr => ∃ k2 : Nat, k2 ≤ k ∧ i = .int .i64 k2 ∧ Hid (HoldL B0 w.heap.size wr rs 0 (ls.cntAt k2 0)) ∧ Hid (ls.LRow 27 wr gl rs) ∧ Hid (Below B0 w wr)) (fun i _ => k - (intOf i).toNat)
      case atStart => exact ⟨0, by omega, rfl, HH1, HL1, HB1⟩
      case round =>
        clear HH1 HL1 HB1
        obtain ⟨k2, hk2, rfl, HHr, HLr, HBr⟩ := hrel
        by_cases hlt2 : k2 < k
        · obtain ⟨R, hR⟩ : ∃ R, rs[k2]? = some R := ⟨_, List.getElem?_eq_getElem (by rw [Hlen.out]; exact hlt2)⟩
          have HR := Lib.hid hR
          have hnr := (HHr.out k2 R (Nat.zero_le _) hR).1
          obtain ⟨pR, nR, cR⟩ := R
          simp only at hnr
          clear hR
          go_wp2_with fail
          go_loopw [8] (fun i wr => ∃ j : Nat, j ≤ nR ∧ i = .int .i64 j ∧ Hid (HoldL B0 w.heap.size wr rs 0 (ls.cntAt k2 j)) ∧ Hid (ls.LRow 27 wr gl rs) ∧ Hid (Below B0 w wr)) (fun i _ => nR - (intOf i).toNat)
          case atStart => exact ⟨0, by omega, rfl, HHr, HLr, HBr⟩
          case round =>
            clear HHr HLr HBr
            obtain ⟨j, hj, rfl, HHr, HLr, HBr⟩ := hrel
            have c1 := HLr.out.cell HR.out
            have hglr : gl < wr.heap.size := HLr.out.lt
            simp only at c1
            by_cases hltj : j < nR
            · obtain ⟨g, cs, hpR, hgB, hgM, hsb, hcs, hnc⟩ : ∃ g cs, pR = some ⟨g, 0, none⟩ ∧ B0 ≤ g ∧ g < w.heap.size ∧ ls.SB 35 wr g cs ∧ cR * 3 ≤ cs.size ∧ nR ≤ cR := by
                obtain ⟨_, h2, h3⟩ := HHr.out k2 _ (Nat.zero_le _) HR.out
                rcases h3 with ⟨_, h, _⟩ | ⟨g, cs, h1, h2', h3, h4, h5, _⟩
                · simp only at h; omega
                · exact ⟨g, cs, h1, h2', h3, h4, h5, h2⟩
              subst hpR
              have hgr : g < wr.heap.size := by have := HBr.out.size; omega
              have hat : ∀ i, i < 3 → wr.cell? ⟨g, j * 3 + i, none⟩ = some (cs[j * 3 + i]?.getD undef) := fun i hi => by
                rw [cell_in hsb, Array.getElem?_eq_getElem (by omega)]
                rfl
              have d0 := hat 0 (by omega)
              have d1 := hat 1 (by omega)
              have d2 := hat 2 (by omega)
              have e0 : wr.frozen? ⟨g, j * 3, none⟩ = false := free_in hsb
              have e1 : wr.frozen? ⟨g, j * 3 + 1, none⟩ = false := free_in hsb
              have e2 : wr.frozen? ⟨g, j * 3 + 2, none⟩ = false := free_in hsb
              rw [Nat.add_zero] at d0
              generalize cs[j * 3]?.getD undef = o0 at d0
              generalize cs[j * 3 + 1]?.getD undef = o1 at d1
              generalize cs[j * 3 + 2]?.getD undef = o2 at d2
              have HX : Hid (HoldL B0 w.heap.size (wr.setCells g (j * 3) (markC k2)) rs 0 (ls.cntAt k2 (j + 1)) ∧ ls.LRow 27 (wr.setCells g (j * 3) (markC k2)) gl rs ∧ Below B0 w (wr.setCells g (j * 3) (markC k2))) := Lib.hid
                ⟨HHr.out.mark (markC_len _) HD.out HR.out rfl hltj, HLr.out.set (by decide) hsb, ls.below_setCells hgB _ _ _ HBr.out⟩
              clear hat hsb hcs
              go_wp2_with fail
              go_roundw
              case rel => exact ⟨j + 1, by omega, by go_num, Lib.hid HX.out.1, Lib.hid HX.out.2.1, Lib.hid HX.out.2.2⟩
              case measure => simp [intOf]; omega
            · obtain rfl : j = nR := by omega
              go_wp2_with fail
              go_roundw
              case rel => exact ⟨k2 + 1, by omega, by go_num, Lib.hid (HHr.out.next (fun S hS => by rw [HR.out] at hS; obtain rfl := Option.some.inj hS; exact Nat.le_refl _)), HLr, HBr⟩
              case measure => simp [intOf]; omega
        · obtain rfl : k2 = k := by omega
          obtain ⟨w3, hw3⟩ : ∃ w3, w3 = wr := ⟨_, rfl⟩
          have hz3 : w.heap.size ≤ w3.heap.size := by rw [hw3]; exact HBr.out.size
          have HP3 : Hid (PhL B0 w3.heap.size rs gl w w3 0 0 (.slice none 0 0) []) := Lib.hid (by
            subst hw3
            exact ⟨⟨rfl, .inl ⟨rfl, rfl⟩⟩, fun t v h => by simp at h, fun t g n c h => by simp at h, by rw [Hlen.out]; exact HHr.out.upM HBr.out.size, HLr.out, HBr.out, Nat.le_refl _⟩)
          rw [← hw3]
          clear HHr HLr HBr hw3
          have hB3 : B0 ≤ w3.heap.size := by omega
          have hgl3 : gl < w3.heap.size := by omega
          go_wp2_with fail
          go_loopw [9, 10] (fun al i wr => ∃ (k mm : Nat) (pa : Option Addr) (ca : Nat) (vals : List Value), k ≤ k2 ∧ i = .int .i64 k ∧ mm = 5 * k ∧ al = .slice pa mm ca ∧ Hid (PhL B0 w3.heap.size rs gl w wr k mm (.slice pa mm ca) vals)) (fun _ i _ => k2 - (intOf i).toNat)
          case atStart => exact ⟨0, 0, none, 0, [], by omega, rfl, rfl, rfl, HP3⟩
          case round =>
            clear HP3
            obtain ⟨k, mm, pa, ca, vals, hk, rfl, hmm, rfl, HP⟩ := hrel
            have hvl : vals.length = mm := by have := HP.out.own.1; simpa using this
            have Hvl := Lib.hid hvl
            have Hmm := Lib.hid hmm
            have hmb : mm ≤ 35 := by omega
            clear hvl hmm
            by_cases hlt : k < k2
            · obtain ⟨R, hR⟩ : ∃ R, rs[k]? = some R := ⟨_, List.getElem?_eq_getElem (by rw [Hlen.out]; exact hlt)⟩
              have c1 := HP.out.row.cell hR
              have hglr := HP.out.row.lt
              have hnr := (HP.out.rest k R (Nat.le_refl _) hR).1
              obtain ⟨h1, h2⟩ := HP.out.begin hR HD.out Hmm.out Hvl.out (by omega)
              obtain ⟨pR, nR, cR⟩ := R
              simp only at c1 hnr h2
              have HPk := Lib.hid h1
              have HGk := Lib.hid h2
              clear hR h1 h2
              go_wp2_with fail
              go_loopw [9, 11, 12] (fun al x i wr => ∃ (t m nx : Nat) (pa : Option Addr) (ca : Nat) (vals : List Value) (px : Option Addr) (cx : Nat), t ≤ 5 ∧ i = .int .i64 t ∧ m = 5 * k + t ∧ nx = nR + t ∧ x = .slice px nx cx ∧ al = .slice pa m ca ∧ Hid (PhL B0 w3.heap.size rs gl w wr (k + 1) m (.slice pa m ca) vals) ∧ Hid (GrL B0 w3.heap.size rs wr k vals px nx cx)) (fun _ _ i _ => 5 - (intOf i).toNat)
              case atStart => exact ⟨0, mm, nR, pa, ca, vals, pR, cR, by omega, rfl, Hmm.out, rfl, rfl, rfl, HPk, HGk⟩
              case round =>
                clear HPk HGk HP
                obtain ⟨t, m, nx, pa, ca, vals, px, cx, ht, rfl, hm, hnx, rfl, rfl, HP, HG⟩ := hrel
                have hmb2 : m ≤ 40 := by omega
                have hnb : nx ≤ 4294967300 := by omega
                have hm5 : m / 5 = k ∨ t = 5 := by omega
                have Hm := Lib.hid hm
                have Hnx := Lib.hid hnx
                have Hm5 := Lib.hid hm5
                clear hm hnx hm5
                by_cases hltt : t < 5
                · have hltt' : (t : Int) < 5 := by omega
                  obtain ⟨W, hW⟩ : ∃ W, W = wr.alloc (.cells #[.string ⟨#[]⟩, .string ⟨#[]⟩, .int .i64 (-1 - (k : Int))] 35) := ⟨_, rfl⟩
                  have hbW : Below wr.heap.size wr W := by rw [hW]; exact (Below.refl _ _).alloc (Nat.le_refl _) _
                  have hszW : W.heap.size = wr.heap.size + 1 := by rw [hW]; simp
                  have hnew : ∀ (j : Nat) (u : Value), (markC k)[j]? = some u → W.cell? ((⟨wr.heap.size, 0, none⟩ : Addr).add j) = some u := fun j u hj => by
                    rw [ls.addN, Nat.zero_add, hW, cell_in (heap_alloc_new wr _)]
                    show (markC k).toArray[j]? = some u
                    rw [List.getElem?_toArray]
                    exact hj
                  have HW2 := Lib.hid hW
                  have Hnew := Lib.hid hnew
                  have HP2 := Lib.hid (HP.out.below hbW hB3)
                  have HG2 := Lib.hid (HG.out.below hbW)
                  have hzr := HP.out.size
                  clear hW hnew hbW HP HG
                  obtain ⟨olds, hol1, hol2, hol3, hol4⟩ := HG2.out.xs.olds markC_len (by omega)
                  have Hol1 := Lib.hid hol1
                  have Hol2 := Lib.hid hol2
                  have Hol3 := Lib.hid hol3
                  have Hol4 := Lib.hid hol4
                  have hcx := HG2.out.xs.le
                  clear hol1 hol2 hol3 hol4
                  rcases (show nx + 1 ≤ cx ∨ cx < nx + 1 by omega) with hroom | hfull
                  · obtain ⟨gx, cs, rfl, hsb, hcs⟩ : ∃ gx cs, px = some ⟨gx, 0, none⟩ ∧ ls.SB 35 W gx cs ∧ cx * 3 ≤ cs.size := by
                      rcases HG2.out.xs with ⟨_, _, h⟩ | ⟨g, cs, h1, h2, _, h3, _⟩
                      · omega
                      · exact ⟨g, cs, h1, h2, h3⟩
                    have HSB := Lib.hid hsb
                    have Hroom := Lib.hid hroom
                    obtain ⟨r1, r2⟩ := HP2.out.room (by decide) markC_len HD.out HG2.out hroom
                    have HP3 := Lib.hid r1
                    have HG3 := Lib.hid r2
                    clear hsb hroom r1 r2
                    focus
                      go_wp2_with (at_builtin; go_must (refine wpList_append_arg _ rfl (.tmp 70) (.tmp 74) 27 rfl 35 i0 (.agg #[.string .empty, .string .empty, .int .i64 0]) 3 40 Tryd.underlying27 si sz0 sz1 sz2 rfl (by decide) gx 0 nx cx olds rfl Hol1.out ?c0 ⟨wr.heap.size, 0, none⟩ 1 1 (markC k) rfl rfl ?c1 ?c2 ?c3 (by unfold maxLen; omega) (by omega) ?room ?grow))
                    case c0 => rw [← HW2.out]; exact fun j u hj => by have := Hol3.out _ rfl j u hj; rwa [ls.addN] at this
                    case c1 => rw [← HW2.out]; exact Hnew.out
                    case c2 => simp [markC, Value.oneCell']
                    case c3 =>
                      rw [← HW2.out]
                      intro _ j hj
                      rw [markC_len] at hj
                      have hr := Hroom.out
                      rw [cell_in HSB.out, Array.getElem?_eq_getElem (by omega)]
                      exact ⟨rfl, free_in HSB.out⟩
                    case grow => intro h; have := Hroom.out; omega
                    case room =>
                      intro _
                      rw [← HW2.out]
                      try rw [Nat.zero_add]
                      generalize W.setCells gx (nx * 3) (markC k) = W3 at *
                      have hz3r := HP3.out.size
                      focus
                        go_wp2_with (at_builtin; go_must (refine wpList_append_lit rfl _ _ 55 rfl 27 i1 _ 24 Tryd.underlying55 hi hz0 hz1 hz2 rfl _ 1 (by omega) (by rfl) (by rfl) w3.heap.size _ m _ (by rfl) HP3.out.own (by simp [Value.oneCell']) (by omega) (by omega) (by omega) ?_))
                      intro ga' ca' w5 hown5 hgrow5 hat5 hz5 hlt5
                      obtain ⟨s1, s2⟩ := HP3.out.push (by decide) HG3.out hown5 hgrow5 (by rcases Hm5.out with h | h <;> omega) (by omega) hgl3 hB3
                      have HP5 := Lib.hid s1
                      have HG5 := Lib.hid s2
                      clear hown5 hgrow5 hat5 s1 s2
                      go_wp2_with fail
                      go_roundw
                      case rel => exact ⟨t + 1, m + 1, nx + 1, some ⟨ga', 0, none⟩, ca', _, _, _, by omega, by go_num, by have := Hm.out; omega, by have := Hnx.out; omega, rfl, rfl, HP5, HG5⟩
                      case measure => simp [intOf]; omega
                  · focus
                      go_wp2_with (at_builtin; go_must (refine wpList_append_grows _ rfl (.tmp 70) (.tmp 74) 27 rfl 35 i0 (.agg #[.string .empty, .string .empty, .int .i64 0]) 3 40 Tryd.underlying27 si sz0 sz1 sz2 rfl (by decide) px nx cx olds rfl (fun h => Hol4.out h) Hol1.out ?d0 ⟨wr.heap.size, 0, none⟩ 1 1 (markC k) rfl rfl ?d1 ?d2 hfull (by unfold maxLen; omega) (by omega) ?dgrow))
                    case d0 => rw [← HW2.out]; exact fun b hb j u hj => Hol3.out b hb j u hj
                    case d1 => rw [← HW2.out]; exact Hnew.out
                    case d2 => simp [markC, Value.oneCell']
                    case dgrow =>
                      rw [← HW2.out]
                      intro v' w' hown hgrow
                      rw [← hszW] at hown
                      obtain ⟨gx, cx', rfl, hg3⟩ := HG2.out.grow markC_len (by omega) HP2.out.ents hown (Nat.le_refl _) HP2.out.size hB3 Hol1.out Hol2.out
                      have HP3 := Lib.hid (HP2.out.below (ls.below_none hgrow) hB3)
                      have HG3 := Lib.hid hg3
                      have hz3r := HP3.out.size
                      clear hown hgrow hg3
                      focus
                        go_wp2_with (at_builtin; go_must (refine wpList_append_lit rfl _ _ 55 rfl 27 i1 _ 24 Tryd.underlying55 hi hz0 hz1 hz2 rfl _ 1 (by omega) (by rfl) (by rfl) w3.heap.size _ m _ (by rfl) HP3.out.own (by simp [Value.oneCell']) (by omega) (by omega) (by omega) ?_))
                      intro ga' ca' w5 hown5 hgrow5 hat5 hz5 hlt5
                      obtain ⟨s1, s2⟩ := HP3.out.push (by decide) HG3.out hown5 hgrow5 (by rcases Hm5.out with h | h <;> omega) (by omega) hgl3 hB3
                      have HP5 := Lib.hid s1
                      have HG5 := Lib.hid s2
                      clear hown5 hgrow5 hat5 s1 s2
                      go_wp2_with fail
                      go_roundw
                      case rel => exact ⟨t + 1, m + 1, nx + 1, some ⟨ga', 0, none⟩, ca', _, _, _, by omega, by go_num, by have := Hm.out; omega, by have := Hnx.out; omega, rfl, rfl, HP5, HG5⟩
                      case measure => simp [intOf]; omega
                · obtain rfl : t = 5 := by omega
                  go_wp2_with fail
                  go_roundw
                  case rel => exact ⟨k + 1, m, pa, ca, vals, by omega, by go_num, by have := Hm.out; omega, rfl, HP⟩
                  case measure => simp [intOf]; omega
            · obtain rfl : k = k2 := by omega
              obtain ⟨w4, hw4⟩ : ∃ w4, w4 = wr := ⟨_, rfl⟩
              have HP4 : Hid (PhL B0 w3.heap.size rs gl w w4 k mm (.slice pa mm ca) vals) := by rw [hw4]; exact HP
              rw [← hw4]
              clear HP hw4
              have hmca : mm ≤ ca := by
                rcases HP4.out.own.2 with ⟨h, h0⟩ | ⟨g, cap, cur, h, _, _, h2, _⟩
                · cases h; omega
                · cases h; exact h2
              have HPA : Hid (0 < mm → ∃ ga, pa = some ⟨ga, 0, none⟩ ∧ ∀ (i : Nat) v, vals[i]? = some v → w4.cell? ⟨ga, i, none⟩ = some v) := Lib.hid fun h0 => by
                rcases HP4.out.own.2 with ⟨_, h⟩ | ⟨g, cap, cur, h, _⟩
                · omega
                · cases h
                  refine ⟨g, rfl, fun i v hv => ?_⟩
                  have := HP4.out.own.cells (g := g) rfl i v hv
                  rwa [ls.addN, Nat.zero_add] at this
              go_wp2_with fail
              go_loopw [13] (fun i wr => ∃ t : Nat, t ≤ mm ∧ i = .int .i64 t ∧ wr = w4) (fun i _ => mm - (intOf i).toNat)
              case atStart => exact ⟨0, by omega, rfl, rfl⟩
              case round =>
                obtain ⟨t, ht, rfl, rfl⟩ := hrel
                by_cases hltt : t < mm
                · obtain ⟨ga, rfl, hvals⟩ := HPA.out (by omega)
                  obtain ⟨v, hv⟩ : ∃ v, vals[t]? = some v := ⟨_, List.getElem?_eq_getElem (by rw [Hvl.out]; exact hltt)⟩
                  have hcv := hvals t v hv
                  have hent := HP4.out.ents t v hv
                  obtain ⟨p, nv, cv, rfl, hnv, hncv, hall⟩ := hent
                  have Hall := Lib.hid hall
                  have hga : ga < wr.heap.size := World.block_lt_of_cell? _ _ hcv
                  clear hv hall hvals
                  go_wp2_with fail
                  go_loopw [14] (fun i wx => ∃ j : Nat, j ≤ nv ∧ i = .int .i64 j ∧ wx = wr) (fun i _ => nv - (intOf i).toNat)
                  case atStart => exact ⟨0, by omega, rfl, rfl⟩
                  case round =>
                    obtain ⟨j, hj, rfl, rfl⟩ := hrel
                    by_cases hltj : j < nv
                    · obtain ⟨g, cs, rfl, hsb, hat⟩ : ∃ g cs, p = some ⟨g, 0, none⟩ ∧ ls.SB 35 wr g cs ∧ ls.At cs (j * 3) (markC (t / 5)) := by
                        rcases Hall.out with h | ⟨g, cs, h1, h2, h3⟩
                        · omega
                        · exact ⟨g, cs, h1, h2, h3 j hltj⟩
                      have hlg : g < wr.heap.size := lt_of_block hsb
                      have d0 : wr.cell? ⟨g, j * 3, none⟩ = some (.string ⟨#[]⟩) := by rw [cell_in hsb]; exact hat 0 _ rfl
                      have d1 : wr.cell? ⟨g, j * 3 + 1, none⟩ = some (.string ⟨#[]⟩) := by rw [cell_in hsb]; exact hat 1 _ rfl
                      have d2 : wr.cell? ⟨g, j * 3 + 2, none⟩ = some (.int .i64 (-1 - ((t / 5 : Nat) : Int))) := by rw [cell_in hsb]; exact hat 2 _ rfl
                      have hdiv : (t : Int).tdiv 5 = ((t / 5 : Nat) : Int) := by rw [Int.tdiv_eq_ediv_of_nonneg (by omega)]; omega
                      have hdiv2 : (t : Int) / 5 = ((t / 5 : Nat) : Int) := by omega
                      have hk64 : IntKind.i64.wrap (((t / 5 : Nat) : Int)) = ((t / 5 : Nat) : Int) := IntWalk.i64_in _ (by omega)
                      have hne := neq_mark (-1 - ((t / 5 : Nat) : Int))
                      have hk5 : t / 5 ≤ 8 := by omega
                      clear hsb hat
                      generalize t / 5 = t5 at *
                      go_wp2_with fail
                      go_roundw
                      case rel => exact ⟨j + 1, by omega, by go_num, by first | rfl | trivial⟩
                      case measure => simp [intOf]; omega
                    · obtain rfl : j = nv := by omega
                      go_wp2_with fail
                      go_roundw
                      case rel => exact ⟨t + 1, by omega, by go_num, by first | rfl | trivial⟩
                      case measure => simp [intOf]; omega
                · obtain rfl : t = mm := by omega
                  go_wp2_with fail
                  go_ret
                  exact ⟨rfl, HP4.out.bel⟩
end Go.Proofs.YtkbamhecbfocbaaDoor.ini
