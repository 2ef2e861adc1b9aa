/- tinderboxlaw04.owned returns true: lists of texts in blocks of their own, apart from each other. Conditions: five lists, five to be compared with them, in rows. -/
import Derived.Test.YtkbamhecbfocbaaGreatDoorVbH
import Derived.Deep.RegionHeld3
import Derived.BigQuiet
namespace Go.Proofs.YtkbamhecbfocbaaGreatDoor.va
open Go.ChangeShapes Go.WideShapes Go.ChangeAt Go.RowKit gl

set_option maxHeartbeats 1000000 in
set_option maxRecDepth 100000 in
theorem same_any (p p' : Option Addr) (m c c' : Nat) (xs : List ByteArray) (hl : m ≤ 4294967295) (hc : m ≤ c) (hc' : m ≤ c') (w : World) (hS : Strs w (.slice p m c) xs) (hS' : Strs w (.slice p' m c') xs) (hm : xs.length = m) :
    Calls Tryz.prog 31 #[.slice p m c, .slice p' m c'] w fun e w' => e = .returned (.bool true) ∧ ∃ q, w' = w.drewN q := by
  have HS := Lib.hid hS
  have HS' := Lib.hid hS'
  have Hm := Lib.hid hm
  clear hS hS' hm
  go_enter Tryz.func31, Tryz.ntmps31
  go_wp2_with fail
  go_loopw [5] (fun i wr => ∃ j q : Nat, j ≤ m ∧ i = .int .i64 j ∧ wr = w.drewN q) (fun i _ => m - (intOf i).toNat)
  case atStart => exact ⟨0, 0, by omega, rfl, rfl⟩
  case round =>
    obtain ⟨j, q, hj, rfl, rfl⟩ := hrel
    by_cases hlt : j < m
    · obtain ⟨b, o, x, rfl, hbl, hx, hcx⟩ := HS.out.at j hlt
      obtain ⟨b', o', y, rfl, hbl', hy, hcy⟩ := HS'.out.at j hlt
      obtain rfl : x = y := by rw [hx] at hy; exact Option.some.inj hy
      have hxy' : (x.toList == x.toList) = true := seq_true rfl
      have hxy2 : (x.toList != x.toList) = false := by rw [bne, hxy']; rfl
      replace hcx : (w.drewN q).cell? ⟨b, o + j, none⟩ = some (.string x) := hcx
      replace hcy : (w.drewN q).cell? ⟨b', o' + j, none⟩ = some (.string x) := hcy
      clear hx hy
      generalize hq : w.drewN q = wr at *
      go_wp2_with fail
      go_quiet (fail)
      go_wp2_with fail
      go_roundw
      case rel => exact ⟨j + 1, _, by omega, by go_num, by rw [← hq, World.drewN_drewN]⟩
      case measure => simp [intOf]; omega
    · obtain rfl : j = m := by omega
      go_wp2_with fail
      go_ret
      exact ⟨rfl, q, rfl⟩

theorem infoLs : (Tryz.prog.info? 25).map (fun i => (i.zero, i.size, i.bytes)) = some (some (.slice none 0 0), 1, 24) := by kernel_rfl

set_option maxHeartbeats 1000000 in
set_option maxRecDepth 100000 in
theorem owned_any (B : Nat) (rs : List LR) (xss : List (List ByteArray)) (hlen : rs.length = 5) (hxl : xss.length = 5) (gl cl gw cw : Nat) (hcl : 5 ≤ cl) (hcw : 5 ≤ cw) (w : World) (hB : B ≤ w.heap.size) (hH : Hold B w.heap.size w rs (cntAt 0 0)) (hD : Dist rs) (hL : LRow w gl rs)
    (hSt : ∀ (i : Nat) (R : LR) (xs : List ByteArray), rs[i]? = some R → xss[i]? = some xs → Strs w R.v xs) (hW : ∀ (i : Nat) (xs : List ByteArray), xss[i]? = some xs → ∃ p c, w.cell? ⟨gw, i, none⟩ = some (.slice p xs.length c) ∧ Strs w (.slice p xs.length c) xs) :
    Calls Tryz.prog 12 #[.slice (some ⟨gl, 0, none⟩) 5 cl, .slice (some ⟨gw, 0, none⟩) 5 cw] w fun e w' => e = .returned (.bool true) ∧ Below B w w' := by
  have HH := Lib.hid hH
  have HD := Lib.hid hD
  have HL := Lib.hid hL
  have HSt := Lib.hid hSt
  have HW := Lib.hid hW
  have Hlen := Lib.hid hlen
  have Hxl := Lib.hid hxl
  obtain ⟨i0, si, sz0, sz1, sz2⟩ := info_parts infoStr
  obtain ⟨i1, hi, hz0, hz1, hz2⟩ := info_parts infoLs
  have hgl : gl < w.heap.size := by obtain ⟨_, h, _⟩ := hL; exact lt_of_block h
  clear hH hD hL hSt hW hlen hxl
  go_enter Tryz.func12, Tryz.ntmps12
  go_wp2_with fail
  go_loopw [5] (fun i wr => ∃ k q : Nat, k ≤ 5 ∧ i = .int .i64 k ∧ wr = w.drewN q) (fun i _ => 5 - (intOf i).toNat)
  case atStart => exact ⟨0, 0, by omega, rfl, rfl⟩
  case round =>
    obtain ⟨k, q, hk, rfl, rfl⟩ := hrel
    by_cases hlt : k < 5
    · obtain ⟨R, hR⟩ : ∃ R, rs[k]? = some R := ⟨_, List.getElem?_eq_getElem (by rw [Hlen.out]; exact hlt)⟩
      obtain ⟨xs, hxs⟩ : ∃ xs, xss[k]? = some xs := ⟨_, List.getElem?_eq_getElem (by rw [Hxl.out]; exact hlt)⟩
      have c1 := HL.out.cell hR
      obtain ⟨pw, cc, c2, hs2⟩ := HW.out k xs hxs
      have hs1 := HSt.out k R xs hR hxs
      have hn := (HH.out k R hR).1
      have hRn : xs.length = R.n := by
        obtain ⟨_, _, h, _⟩ := hs1
        simp only [LR.v, Value.slice.injEq] at h
        exact h.2.1.symm
      obtain ⟨pR, nR⟩ := R
      simp only [LR.v] at c1 hn hRn hs1
      rw [hRn] at c2 hs2
      have hcc : nR ≤ cc := by
        obtain ⟨_, _, h, h2, _⟩ := hs2
        simp only [Value.slice.injEq] at h
        rw [h.2.2, h.2.1]; exact h2
      replace c1 : (w.drewN q).cell? ⟨gl, k, none⟩ = some (.slice pR nR nR) := c1
      replace c2 : (w.drewN q).cell? ⟨gw, k, none⟩ = some (.slice pw nR cc) := c2
      have HC := Lib.hid fun W (hq : ∃ d, W = w.drewN d) => same_any pR pw nR nR cc xs hn (Nat.le_refl _) hcc W (by obtain ⟨d, rfl⟩ := hq; exact hs1) (by obtain ⟨d, rfl⟩ := hq; exact hs2) hRn
      clear hR hxs hs1 hs2 hRn
      generalize hq : w.drewN q = wr at *
      have HQ := Lib.hid hq
      clear hq
      go_wp2_with fail
      go_quiet ((go_at_call 31; exact Calls.quiet_of (HC.out _ (by rw [← HQ.out, World.drewN_drewN]; exact ⟨_, rfl⟩))))
      go_wp2_with fail
      go_roundw
      case rel => exact ⟨k + 1, _, by omega, by go_num, by rw [← HQ.out, World.drewN_drewN]⟩
      case measure => simp [intOf]; omega
    · obtain rfl : k = 5 := by omega
      rw [show (((5 : Nat) : Int)) = 5 from rfl]
      have HH1 : Hid (Hold B w.heap.size (w.drewN q) rs (cntAt 0 0)) := Lib.hid (HH.out.keep (SK.of_below ⟨rfl, rfl, rfl, Nat.le_refl _, fun _ _ => rfl⟩))
      have HL1 : Hid (LRow (w.drewN q) gl rs) := Lib.hid (HL.out.below ⟨rfl, rfl, rfl, Nat.le_refl _, fun _ _ => rfl⟩)
      have HB1 : Hid (Below B w (w.drewN q)) := Lib.hid ⟨rfl, rfl, rfl, Nat.le_refl _, fun _ _ => rfl⟩
      clear HSt HW Hxl
      go_wp2_with fail
      go_loopw [7] (fun i wr => ∃ k : Nat, k ≤ 5 ∧ i = .int .i64 k ∧ Hold B w.heap.size wr rs (cntAt k 0) ∧ LRow wr gl rs ∧ Below B w wr) (fun i _ => 5 - (intOf i).toNat)
      case atStart => exact ⟨0, by omega, rfl, HH1.out, HL1.out, HB1.out⟩
      case round =>
        clear HH1 HL1 HB1
        obtain ⟨k, hk, rfl, hHr, hLr, hbr⟩ := hrel
        have HHr := Lib.hid hHr
        have HLr := Lib.hid hLr
        have HBr := Lib.hid hbr
        clear hHr hLr hbr
        by_cases hlt : k < 5
        · have hlt' : (k : Int) < 5 := by omega
          obtain ⟨R, hR⟩ : ∃ R, rs[k]? = some R := ⟨_, List.getElem?_eq_getElem (by rw [Hlen.out]; exact hlt)⟩
          have HR := Lib.hid hR
          have hn := (HHr.out k R hR).1
          obtain ⟨pR, nR⟩ := R
          simp only at hn
          clear hR
          have hk8 : IntKind.u8.wrap (k : Int) = (k : Int) := by rw [IntKind.wrap_u8]; omega
          go_wp2_with fail
          go_loopw [8] (fun i wr => ∃ j : Nat, j ≤ nR ∧ i = .int .i64 j ∧ Hold B w.heap.size wr rs (cntAt k j) ∧ LRow wr gl rs ∧ Below B w wr) (fun i _ => nR - (intOf i).toNat)
          case atStart => exact ⟨0, by omega, rfl, HHr.out, HLr.out, HBr.out⟩
          case round =>
            clear HHr HLr HBr
            obtain ⟨j, hj, rfl, hHr, hLr, hbr⟩ := hrel
            have c1 := hLr.cell HR.out
            have HLr := Lib.hid hLr
            have HHr := Lib.hid hHr
            have HBr := Lib.hid hbr
            have hglr : gl < wr.heap.size := by have := hbr.size; omega
            clear hLr hHr hbr
            by_cases hltj : j < nR
            · have hltj' : (j : Int) < (nR : Int) := by omega
              obtain ⟨g, cs, hpR, hgB, hgM, hsb, hcs⟩ : ∃ g cs, pR = some ⟨g, 0, none⟩ ∧ B ≤ g ∧ g < w.heap.size ∧ SB wr g cs ∧ cs.size = nR := by
                rcases (HHr.out k _ HR.out).2 with ⟨_, h⟩ | ⟨g, cs, h1, h2, h3, h4, h5, _⟩
                · simp only at h; omega
                · exact ⟨g, cs, h1, h2, h3, h4, h5⟩
              subst hpR
              have hgr : g < wr.heap.size := by have := HBr.out.size; omega
              have d1 : wr.cell? ⟨g, j, none⟩ = some (cs[j]'(by omega)) := by rw [cell_in hsb, Array.getElem?_eq_getElem]
              have e1 : wr.frozen? ⟨g, j, none⟩ = false := free_in hsb
              have HSB := Lib.hid hsb
              generalize cs[j] = old at d1
              clear hsb hcs
              have hcv : (convert 47 9 (.slice (some ⟨wr.heap.size, 0, none⟩) 1 1)).run Tryz.prog (wr.alloc (.cells #[.int .u8 k] 5)).drew = .ok (.string ⟨#[UInt8.ofNat k]⟩) (wr.alloc (.cells #[.int .u8 k] 5)).drew := convB k (by omega) wr 1
              have hadd : ∀ wx : World, (Op.stringOp .add ⟨#[109, 97, 114, 107]⟩ ⟨#[UInt8.ofNat k]⟩).run Tryz.prog wx = .ok (.string (mkB k)) wx := fun wx => by
                rw [← mkB_add]
                exact run_string_add_sum wx _ _ (by simp [ByteArray.size])
              go_wp2_with fail
              go_region_law (fail)
              all_goals
                clear hcv hadd
                have HX : Hid (Hold B w.heap.size (((wr.setCell ⟨g, j, none⟩ (mkV k)).alloc (.cells #[.int .u8 k] 5)).drew) rs (cntAt k (j + 1)) ∧ LRow (((wr.setCell ⟨g, j, none⟩ (mkV k)).alloc (.cells #[.int .u8 k] 5)).drew) gl rs ∧ Below B w (((wr.setCell ⟨g, j, none⟩ (mkV k)).alloc (.cells #[.int .u8 k] 5)).drew)) := Lib.hid (by
                  have hb2 : Below (wr.setCell ⟨g, j, none⟩ (mkV k)).heap.size (wr.setCell ⟨g, j, none⟩ (mkV k)) (((wr.setCell ⟨g, j, none⟩ (mkV k)).alloc (.cells #[.int .u8 k] 5)).drew) := ((Below.refl _ _).alloc (Nat.le_refl _) _).drew
                  have hz : (wr.setCell ⟨g, j, none⟩ (mkV k)).heap.size = wr.heap.size := by simp [World.setCell]
                  exact ⟨(HHr.out.mark HD.out HR.out rfl).keep (SK.of_below hb2), (HLr.out.set HSB.out _).below hb2, (HBr.out.setCell hgB _).trans (hb2.mono (by rw [hz]; omega))⟩)
                generalize hWn : (((wr.setCell ⟨g, j, none⟩ (.string (mkB k))).alloc (.cells #[.int .u8 k] 5)).drew) = Wn
                have HX2 : Hid (Hold B w.heap.size Wn rs (cntAt k (j + 1)) ∧ LRow Wn gl rs ∧ Below B w Wn) := Lib.hid (by rw [← hWn]; exact HX.out)
                clear HX hWn
                go_wp2_with fail
                go_roundw
                case rel => exact ⟨j + 1, by omega, by go_num, HX2.out.1, HX2.out.2.1, HX2.out.2.2⟩
                case measure => simp [intOf]; omega
            · obtain rfl : j = nR := by omega
              go_wp2_with fail
              go_roundw
              case rel => exact ⟨k + 1, by omega, by go_num, HHr.out.next (fun S hS => by rw [HR.out] at hS; obtain rfl := Option.some.inj hS; exact Nat.le_refl _), HLr.out, HBr.out⟩
              case measure => simp [intOf]; omega
        · obtain rfl : k = 5 := by omega
          rw [show (((5 : Nat) : Int)) = 5 from rfl]
          obtain ⟨w3, hw3⟩ : ∃ w3, w3 = wr := ⟨_, rfl⟩
          have hz3 : w.heap.size ≤ w3.heap.size := by rw [hw3]; exact HBr.out.size
          have HH3 : Hid (Hold B w3.heap.size w3 rs (cntAt rs.length 0)) := Lib.hid (by rw [Hlen.out, hw3]; exact HHr.out.upM HBr.out.size)
          have HL3 : Hid (LRow w3 gl rs) := by rw [hw3]; exact HLr
          have HB3 : Hid (Below B w w3) := by rw [hw3]; exact HBr
          rw [← hw3]
          clear HHr HLr HBr hw3
          go_wp2_with fail
          go_loopw [9, 10] (fun al i wr => ∃ (k : Nat) (pa : Option Addr) (ca : Nat) (vals : List Value), k ≤ 5 ∧ i = .int .i64 k ∧ al = .slice pa (6 * k) ca ∧ wr.ownsRow w3.heap.size 25 1 (.slice pa (6 * k) ca) (6 * k) vals ∧ Ents wr vals ∧ Below w3.heap.size w3 wr) (fun _ i _ => 5 - (intOf i).toNat)
          case atStart => exact ⟨0, none, 0, [], by omega, rfl, rfl, ⟨rfl, .inl ⟨rfl, rfl⟩⟩, fun t v h => by simp at h, Below.refl _ _⟩
          case round =>
            obtain ⟨k, pa, ca, vals, hk, rfl, rfl, hown, hen, hbr⟩ := hrel
            have hglr : gl < wr.heap.size := by have := hbr.size; omega
            have Hown := Lib.hid hown
            have Hen := Lib.hid hen
            have HBr := Lib.hid hbr
            clear hown hen hbr
            by_cases hlt : k < 5
            · have hlt' : (k : Int) < 5 := by omega
              obtain ⟨R, hR⟩ : ∃ R, rs[k]? = some R := ⟨_, List.getElem?_eq_getElem (by rw [Hlen.out]; exact hlt)⟩
              have HR := Lib.hid hR
              have hn := (HH3.out k R hR).1
              have c1 := (HL3.out.below HBr.out).cell hR
              have HX := Lib.hid ((XS.start HH3.out hR).keep (SK.of_below HBr.out))
              obtain ⟨pR, nR⟩ := R
              simp only at hn c1 HX
              have HM : Hid (Share w3.heap.size vals pR nR) := Lib.hid fun t g n' c' _ hp hM => by
                rcases (HH3.out k _ hR).2 with ⟨h, _⟩ | ⟨g', cs, h1, h2, h3, _⟩
                · simp only at h; rw [h] at hp; cases hp
                · simp only at h1
                  rw [hp] at h1
                  cases h1
                  omega
              clear hR
              have hk8 : IntKind.u8.wrap (k : Int) = (k : Int) := by rw [IntKind.wrap_u8]; omega
              have hadd : ∀ wx : World, (Op.stringOp .add ⟨#[109, 97, 114, 107]⟩ ⟨#[UInt8.ofNat k]⟩).run Tryz.prog wx = .ok (.string (mkB k)) wx := fun wx => by
                rw [← mkB_add]
                exact run_string_add_sum wx _ _ (by simp [ByteArray.size])
              go_wp2_with fail
              go_loopw [9, 11, 12] (fun al x i wr => ∃ (t n : Nat) (pa : Option Addr) (ca : Nat) (vals : List Value) (px : Option Addr) (cx : Nat), t ≤ 6 ∧ i = .int .i64 t ∧ n = nR + t ∧ x = .slice px n cx ∧ al = .slice pa (6 * k + t) ca ∧ wr.ownsRow w3.heap.size 25 1 (.slice pa (6 * k + t) ca) (6 * k + t) vals ∧ Ents wr vals ∧ XS wr w3.heap.size px n cx k ∧ Share w3.heap.size vals px n ∧ Below w3.heap.size w3 wr) (fun _ _ i _ => 6 - (intOf i).toNat)
              case atStart => exact ⟨0, nR, pa, ca, vals, pR, nR, by omega, rfl, rfl, rfl, rfl, Hown.out, Hen.out, HX.out, HM.out, HBr.out⟩
              case round =>
                clear Hown Hen HBr HX HM
                obtain ⟨t, n, pa, ca, vals, px, cx, ht, rfl, hnt, rfl, rfl, hown, hen, hx, hsh, hbr⟩ := hrel
                have hvl : vals.length = 6 * k + t := by have := hown.1; simpa using this
                have hglr : gl < wr.heap.size := by have := hbr.size; omega
                have hz3r := hbr.size
                have Hown := Lib.hid hown
                have Hen := Lib.hid hen
                have HBr := Lib.hid hbr
                have HX := Lib.hid hx
                have HS := Lib.hid hsh
                have Hvl := Lib.hid hvl
                have Hnt := Lib.hid hnt
                have hnb : n ≤ 4294967301 := by omega
                clear hown hen hbr hx hsh hvl hnt
                by_cases hltt : t < 6
                · have hltt' : (t : Int) < 6 := by omega
                  focus
                    go_wp2_with (at_builtin; go_must (refine wpList_append_lit rfl _ _ 26 rfl 25 i1 _ 24 Tryz.underlying26 hi hz0 hz1 hz2 rfl _ 1 (by omega) (by rfl) (by rfl) w3.heap.size _ (6 * k + t) _ (by rfl) Hown.out (by simp [Value.oneCell']) (by omega) (by omega) (by omega) ?_))
                  intro ga' ca' w1 hown1 hgrow hat hz hlt1
                  have hsk : SK wr w1 := SK.own Hown.out hgrow
                  have Hown1 := Lib.hid hown1
                  have Hen1 := Lib.hid ((Hen.out.keep hsk).snoc ((HX.out.keep hsk).ent (by omega)) (by rw [Hvl.out]; omega))
                  have HX1 := Lib.hid (HX.out.keep hsk)
                  have HS1 := Lib.hid (HS.out.snoc (c := cx))
                  have HB1 := Lib.hid (below_grown_own HBr.out Hown.out hgrow hz3r)
                  clear hown1 hgrow hat hsk Hown Hen HX HS HBr
                  have hcv : (convert 47 9 (.slice (some ⟨w1.heap.size, 0, none⟩) 1 1)).run Tryz.prog (w1.alloc (.cells #[.int .u8 k] 5)) = .ok (.string ⟨#[UInt8.ofNat k]⟩) (w1.alloc (.cells #[.int .u8 k] 5)) := convB k (by omega) w1 0
                  obtain ⟨W, hW⟩ : ∃ W, W = (w1.alloc (.cells #[.int .u8 k] 5)).alloc (.cells #[.string (mkB k)] 9) := ⟨_, rfl⟩
                  have hbW : Below w1.heap.size w1 W := by rw [hW]; exact ((Below.refl _ _).alloc (Nat.le_refl _) _).alloc (by simp) _
                  have hszW : W.heap.size = w1.heap.size + 1 + 1 := by rw [hW]; simp
                  have hnew : W.cell? ⟨w1.heap.size + 1, 0, none⟩ = some (.string (mkB k)) := by
                    have h := heap_alloc_new (w1.alloc (.cells #[.int .u8 k] 5)) (.cells #[.string (mkB k)] 9)
                    rw [← hW] at h
                    simp only [World.size_alloc] at h
                    rw [cell_in h]
                    rfl
                  have HW2 := Lib.hid hW
                  have Hnew := Lib.hid hnew
                  have HbW := Lib.hid hbW
                  have HX2 := Lib.hid (HX1.out.keep (SK.of_below hbW))
                  have Hown2 := Lib.hid (own_kept Hown1.out hbW)
                  have Hen2 := Lib.hid (Hen1.out.keep (SK.of_below hbW))
                  have HB2 := Lib.hid (HB1.out.trans (hbW.mono (by omega)))
                  clear hW hnew hbW HX1 Hown1 Hen1 HB1
                  obtain ⟨olds, hol1, hol2, hol3, hol4⟩ := HX2.out.olds
                  have Hol1 := Lib.hid hol1
                  have Hol2 := Lib.hid hol2
                  have Hol3 := Lib.hid hol3
                  have Hol4 := Lib.hid hol4
                  clear hol1 hol2 hol3 hol4
                  rcases (show n + 1 ≤ cx ∨ cx < n + 1 by omega) with hroom | hfull
                  · obtain ⟨gx, cs, rfl, hsb, hcs⟩ : ∃ gx cs, px = some ⟨gx, 0, none⟩ ∧ SB W gx cs ∧ cx ≤ cs.size := by
                      rcases HX2.out with ⟨_, _, h⟩ | ⟨g, cs, h1, h2, _, h3, _⟩
                      · omega
                      · exact ⟨g, cs, h1, h2, h3⟩
                    have HSB := Lib.hid hsb
                    have hM : w3.heap.size ≤ gx := by
                      rcases HX2.out with ⟨h, _⟩ | ⟨g, cs, h1, _, _, _, _, h4⟩
                      · cases h
                      · cases h1; omega
                    have Hroom := Lib.hid hroom
                    clear hsb hroom
                    focus
                      go_wp2_with (at_builtin; go_must (refine wpList_append_arg _ rfl (.tmp 76) (.tmp 82) 25 rfl 9 i0 (.string .empty) 1 16 Tryz.underlying25 si sz0 sz1 sz2 rfl (by decide) gx 0 n cx olds rfl Hol1.out ?c0 ⟨w1.heap.size + 1, 0, none⟩ 1 1 [.string (mkB k)] rfl rfl ?c1 ?c2 ?c3 (by unfold maxLen; omega) (by omega) ?room ?grow))
                    case c0 => rw [← HW2.out]; exact fun j u hj => by have := Hol3.out _ rfl j u hj; rwa [add_none] at this
                    case c1 =>
                      rw [← HW2.out]
                      intro j u hj
                      match j, hj with
                      | 0, hj => obtain rfl := Option.some.inj hj; rw [add_none]; exact Hnew.out
                    case c2 => simp [Value.oneCell']
                    case c3 =>
                      rw [← HW2.out]
                      intro _ j hj
                      have : j = 0 := by simp at hj; omega
                      subst this
                      rw [cell_in HSB.out, Array.getElem?_eq_getElem (by have := Hroom.out; omega)]
                      exact ⟨rfl, free_in HSB.out⟩
                    case grow => intro h; have := Hroom.out; omega
                    case room =>
                      intro _
                      rw [← HW2.out]
                      have he : W.setCells gx (0 + n * 1) [.string (mkB k)] = W.setCell ⟨gx, n, none⟩ (mkV k) := by
                        rw [show 0 + n * 1 = n by omega]; rfl
                      have he2 : W.setCells gx n [.string (mkB k)] = W.setCell ⟨gx, n, none⟩ (mkV k) := rfl
                      have he3 : W.setCells gx (0 + n) [.string (mkB k)] = W.setCell ⟨gx, n, none⟩ (mkV k) := by rw [Nat.zero_add]; rfl
                      first | rw [he] | rw [he2] | rw [he3]
                      have HX3 := Lib.hid (HX2.out.room Hroom.out)
                      have Hen3 := Lib.hid (Hen2.out.room (u := mkV k) HS1.out HX2.out Hroom.out)
                      have Hown3 := Lib.hid (own_setStr (j := n) (u := mkV k) Hown2.out HSB.out)
                      have HB3' : Hid (Below w3.heap.size w3 (W.setCell ⟨gx, n, none⟩ (mkV k))) := Lib.hid (HB2.out.setCell hM _)
                      generalize W.setCell ⟨gx, n, none⟩ (mkV k) = W3 at *
                      clear he he2 he3
                      go_wp2_with fail
                      go_roundw
                      case rel => exact ⟨t + 1, n + 1, some ⟨ga', 0, none⟩, ca', _, some ⟨gx, 0, none⟩, cx, by omega, by go_num, by have := Hnt.out; omega, rfl, rfl, Hown3.out, Hen3.out, HX3.out, HS1.out.room, HB3'.out⟩
                      case measure => simp [intOf]; omega
                  · focus
                      go_wp2_with (at_builtin; go_must (refine wpList_append_grows _ rfl (.tmp 76) (.tmp 82) 25 rfl 9 i0 (.string .empty) 1 16 Tryz.underlying25 si sz0 sz1 sz2 rfl (by decide) px n cx olds rfl (fun h => Hol4.out h) Hol1.out ?c0 ⟨w1.heap.size + 1, 0, none⟩ 1 1 [.string (mkB k)] rfl rfl ?c1 ?c2 hfull (by unfold maxLen; omega) (by omega) ?grow))
                    case c0 => rw [← HW2.out]; exact fun b hb j u hj => Hol3.out b hb j u hj
                    case c1 =>
                      rw [← HW2.out]
                      intro j u hj
                      match j, hj with
                      | 0, hj => obtain rfl := Option.some.inj hj; rw [add_none]; exact Hnew.out
                    case c2 => simp [Value.oneCell']
                    case grow =>
                      rw [← HW2.out]
                      intro v' w' hown hgrow
                      have hzW : w3.heap.size ≤ W.heap.size := HB2.out.size
                      obtain ⟨gx, cx', rfl, hgx, hx3⟩ := XS.grown hown (by rw [← hszW]; exact hzW) (by have := Hol1.out; omega) Hol2.out
                      have hbn := below_none hgrow
                      have HX3 := Lib.hid hx3
                      have Hen3 := Lib.hid (Hen2.out.keep (SK.of_below hbn))
                      have HS3 : Hid (Share w3.heap.size (vals ++ [.slice px n cx]) (some ⟨gx, 0, none⟩) (n + 1)) := Lib.hid (Share.grown Hen2.out (by rw [hszW]; exact hgx))
                      have Hown3 := Lib.hid (own_kept Hown2.out hbn)
                      have HB3' := Lib.hid (HB2.out.trans (hbn.mono hzW))
                      clear hown hgrow hx3 hbn
                      go_wp2_with fail
                      go_roundw
                      case rel => exact ⟨t + 1, n + 1, some ⟨ga', 0, none⟩, ca', _, some ⟨gx, 0, none⟩, cx', by omega, by go_num, by have := Hnt.out; omega, rfl, rfl, Hown3.out, Hen3.out, HX3.out, HS3.out, HB3'.out⟩
                      case measure => simp [intOf]; omega
                · obtain rfl : t = 6 := by omega
                  go_wp2_with fail
                  go_roundw
                  case rel => exact ⟨k + 1, pa, ca, vals, by omega, by go_num, rfl, Hown.out, Hen.out, HBr.out⟩
                  case measure => simp [intOf]; omega
            · obtain rfl : k = 5 := by omega
              rw [show (((5 : Nat) : Int)) = 5 from rfl, show 6 * 5 = 30 from rfl]
              obtain ⟨w4, hw4⟩ : ∃ w4, w4 = wr := ⟨_, rfl⟩
              have Hen4 : Hid (Ents w4 vals) := by rw [hw4]; exact Hen
              have Hown4 : Hid (w4.ownsRow w3.heap.size 25 1 (.slice pa 30 ca) 30 vals) := by rw [hw4]; exact Hown
              have HB4 : Hid (Below B w w4) := Lib.hid (by rw [hw4]; exact HB3.out.trans (HBr.out.mono (by omega)))
              obtain ⟨ga, rfl, hvals⟩ : ∃ ga, pa = some ⟨ga, 0, none⟩ ∧ ∀ (i : Nat) v, vals[i]? = some v → w4.cell? ⟨ga, i, none⟩ = some v := by
                rcases Hown4.out.2 with ⟨_, h⟩ | ⟨g, cap, cur, h, _⟩
                · omega
                · cases h
                  refine ⟨g, rfl, fun i v hv => ?_⟩
                  have := Hown4.out.cells (g := g) rfl i v hv
                  rwa [add_none, Nat.zero_add] at this
              have hca : 30 ≤ ca := by
                rcases Hown4.out.2 with ⟨h, _⟩ | ⟨g, cap, cur, h, _, _, h2, _⟩
                · cases h
                · cases h; exact h2
              have Hvals := Lib.hid hvals
              have Hvl : Hid (vals.length = 30) := Lib.hid (by have := Hown4.out.1; simpa using this)
              have hz4 : w3.heap.size ≤ w4.heap.size := by rw [hw4]; exact HBr.out.size
              rw [← hw4]
              clear Hen Hown HBr hw4 hvals
              go_wp2_with fail
              go_loopw [13] (fun i wr => ∃ k : Nat, k ≤ 30 ∧ i = .int .i64 k ∧ Below w4.heap.size w4 wr) (fun i _ => 30 - (intOf i).toNat)
              case atStart => exact ⟨0, by omega, rfl, Below.refl _ _⟩
              case round =>
                obtain ⟨k, hk, rfl, hbr⟩ := hrel
                have HBr := Lib.hid hbr
                clear hbr
                by_cases hlt : k < 30
                · have hlt' : (k : Int) < 30 := by omega
                  obtain ⟨v, hv⟩ : ∃ v, vals[k]? = some v := ⟨_, List.getElem?_eq_getElem (by rw [Hvl.out]; exact hlt)⟩
                  have hcv := Hvals.out k v hv
                  obtain ⟨p, n, c, rfl, hn, hall⟩ := Hen4.out k v hv
                  have Hcv := Lib.hid hcv
                  have Hall := Lib.hid hall
                  clear hv hcv hall
                  go_wp2_with fail
                  go_loopw [14] (fun i wr => ∃ j : Nat, j ≤ n ∧ i = .int .i64 j ∧ Below w4.heap.size w4 wr) (fun i _ => n - (intOf i).toNat)
                  case atStart => exact ⟨0, by omega, rfl, HBr.out⟩
                  case round =>
                    clear HBr
                    obtain ⟨j, hj, rfl, hbr⟩ := hrel
                    have hgar : ga < w4.heap.size := cellLt Hcv.out
                    have c1 : wr.cell? ⟨ga, k, none⟩ = some (.slice p n c) := (hbr.cell (p := ⟨ga, k, none⟩) hgar).trans Hcv.out
                    have hgr : ga < wr.heap.size := by have := hbr.size; omega
                    have HBr := Lib.hid hbr
                    clear hbr
                    by_cases hltj : j < n
                    · have hltj' : (j : Int) < (n : Int) := by omega
                      obtain ⟨g, rfl, hlg, d1⟩ : ∃ g, p = some ⟨g, 0, none⟩ ∧ g < wr.heap.size ∧ wr.cell? ⟨g, j, none⟩ = some (.string (mkB (k / 6))) := by
                        rcases Hall.out with h | ⟨g, cs, h1, h2, h3⟩
                        · omega
                        · have hlg := lt_of_block h2
                          refine ⟨g, h1, by have := HBr.out.size; omega, (HBr.out.cell (p := ⟨g, j, none⟩) hlg).trans ?_⟩
                          rw [cell_in h2]
                          exact h3 j hltj
                      have hk8 : IntKind.u8.wrap (((k / 6 : Nat) : Int)) = ((k / 6 : Nat) : Int) := by rw [IntKind.wrap_u8]; omega
                      have hdiv : (k : Int).tdiv 6 = ((k / 6 : Nat) : Int) := by rw [tdiv_ediv (by omega)]; omega
                      have hdiv2 : (k : Int) / 6 = ((k / 6 : Nat) : Int) := by omega
                      have hk6 : k / 6 < 256 := by omega
                      have hk64 : IntKind.i64.wrap (((k / 6 : Nat) : Int)) = ((k / 6 : Nat) : Int) := IntWalk.i64_in _ (by omega)
                      generalize k / 6 = k6 at *
                      have hcv : (convert 47 9 (.slice (some ⟨wr.heap.size, 0, none⟩) 1 1)).run Tryz.prog (wr.alloc (.cells #[.int .u8 k6] 5)).drew = .ok (.string ⟨#[UInt8.ofNat k6]⟩) (wr.alloc (.cells #[.int .u8 k6] 5)).drew := convB k6 hk6 wr 1
                      have hadd : ∀ wx : World, (Op.stringOp .add ⟨#[109, 97, 114, 107]⟩ ⟨#[UInt8.ofNat k6]⟩).run Tryz.prog wx = .ok (.string (mkB k6)) wx := fun wx => by
                        rw [← mkB_add]
                        exact run_string_add_sum wx _ _ (by simp [ByteArray.size])
                      have q1 : ∀ o : Obj, (wr.alloc o).cell? ⟨ga, k, none⟩ = some (.slice (some ⟨g, 0, none⟩) n c) := fun o => (World.cell?_of_block (Below.heap_alloc wr o ga hgr)).trans c1
                      have q2 : ∀ o : Obj, (wr.alloc o).cell? ⟨g, j, none⟩ = some (.string (mkB k6)) := fun o => (World.cell?_of_block (Below.heap_alloc wr o g hlg)).trans d1
                      have hxy2 : ((mkB k6).toList != (mkB k6).toList) = false := by simp
                      generalize mkB k6 = X at *
                      go_wp2_with fail
                      go_region_law (fail)
                      all_goals
                        clear hcv hadd q1 q2
                        have HX : Hid (Below w4.heap.size w4 (wr.alloc (.cells #[.int .u8 k6] 5)).drew) := Lib.hid ((HBr.out.alloc HBr.out.size _).drew)
                        generalize (wr.alloc (.cells #[.int .u8 k6] 5)).drew = Wn at *
                        go_wp2_with fail
                        go_roundw
                        case rel => exact ⟨j + 1, by omega, by go_num, HX.out⟩
                        case measure => simp [intOf]; omega
                    · obtain rfl : j = n := by omega
                      go_wp2_with fail
                      go_roundw
                      case rel => exact ⟨k + 1, by omega, by go_num, HBr.out⟩
                      case measure => simp [intOf]; omega
                · obtain rfl : k = 30 := by omega
                  rw [show (((30 : Nat) : Int)) = 30 from rfl]
                  go_wp2_with fail
                  go_ret
                  exact ⟨rfl, HB4.out.trans (HBr.out.mono (by have := HB4.out.size; omega))⟩
end Go.Proofs.YtkbamhecbfocbaaGreatDoor.va
