/- Laws and contracts on which the statement rests, part G: each text says what it proves, and its conditions. -/
import Derived.Test.YtpfhhaonfbfheaaGreatDoorMgF
import Derived.Test.YtpfhhaonfbfheaaGreatDoorMgD
import Derived.ArgAppend
import Derived.Laws.IdiomStrings
import Derived.Deep.QuietTactic
import Derived.BigQuiet
import Derived.Deep.Slices
import Derived.Deep.Fields
import Derived.ChangeSame
import Derived.Carry
import Derived.Lib.SmallJoins
import Derived.Deep.Strs
/- law 08's given tells lists that are the same; owned returns true: lists that were given lie in blocks of their own, apart from each other. Conditions: at most seven lists, in a row. -/
namespace Go.Proofs.YtpfhhaonfbfheaaGreatDoor.en
open Go.ChangeShapes Go.WideShapes Go.ChangeAt Go.RowKit gl va

theorem neq_gv_same (a b : ByteArray) (n : Int) (w : World) : (binOp .neq 35 (.agg #[.string a, .string b, .int .i64 n]) (.agg #[.string a, .string b, .int .i64 n])).run Tryz.prog w = .ok (.bool false) w := by
  rw [neq_gv]
  simp
set_option maxHeartbeats 2000000 in
set_option maxRecDepth 100000 in
/-- Lists that are the same. -/
theorem given_any (p p' : Option Addr) (m c c' : Nat) (l : List Gv) (hm : m ≤ 4294967295) (w : World) (h : Gvs w (.slice p m c) l) (h' : Gvs w (.slice p' m c') l) :
    Calls Tryz.prog 30 #[.slice p m c, .slice p' m c'] w fun e w' => e = .returned (.bool true) ∧ ∃ q, w' = w.drewN q := by
  obtain ⟨hlen, hmc, hptr⟩ := h.ptr
  obtain ⟨_, hmc', hptr'⟩ := h'.ptr
  have HS := Lib.hid h
  have HS' := Lib.hid h'
  have Hlen := Lib.hid hlen
  have Hptr := Lib.hid hptr
  have Hptr' := Lib.hid hptr'
  have hneq := neq_gv_same
  clear h h' hlen hptr hptr'
  go_enter Tryz.func30, Tryz.ntmps30
  go_wp2_with fail
  go_loopw [5] (fun i wr => ∃ j q : Nat, j ≤ m ∧ i = .int .i64 j ∧ wr = w.drewN q) (fun i _ => m - (intOf i).toNat)
  case atStart => exact ⟨0, 0, by omega, rfl, rfl⟩
  case round =>
    obtain ⟨j, q, hj, rfl, hwr⟩ := hrel
    have Hq := Lib.hid hwr
    have hbq : Below w.heap.size w wr := by rw [hwr]; exact drewN_bel w q
    have Hbq := Lib.hid hbq
    clear hwr hbq
    by_cases hlt : j < m
    · obtain ⟨b, o, rfl, hbl⟩ := Hptr.out (by omega)
      obtain ⟨b', o', rfl, hbl'⟩ := Hptr'.out (by omega)
      obtain ⟨x, hx⟩ : ∃ x, l[j]? = some x := ⟨_, List.getElem?_eq_getElem (by rw [Hlen.out]; exact hlt)⟩
      obtain ⟨c0, c1, c2⟩ := gv_cells (HS.out.later Hbq.out) hx
      obtain ⟨d0, d1, d2⟩ := gv_cells (HS'.out.later Hbq.out) hx
      have hzq := Hbq.out.size
      have hbr : b < wr.heap.size := by omega
      have hbr' : b' < wr.heap.size := by omega
      have hji : (j : Int) < (m : Int) := by omega
      have hj0 : (0 : Int) ≤ (j : Int) := by omega
      clear hx
      generalize B x.name = nm at *
      generalize B x.text = tx at *
      generalize (x.pos : Int) = ps at *
      go_wp2_with fail
      go_quiet (fail)
      rename_i nq
      go_wp2_with fail
      go_roundw
      case rel => exact ⟨j + 1, q + nq, by omega, by go_num, by rw [Hq.out, World.drewN_drewN]⟩
      case measure => simp [intOf]; omega
    · obtain rfl : j = m := by omega
      go_wp2_with fail
      go_ret
      exact ⟨rfl, q, Hq.out⟩

def markG (i : Nat) : List Value := [.string ⟨#[]⟩, .string ⟨#[]⟩, .int .i64 (-1 - (i : Int))]
theorem markG_len (i : Nat) : (markG i).length = 3 := rfl
abbrev HoldG := ls.Hold 35 3 markG
abbrev PhG := ls.Ph 35 31 3 markG 6
abbrev GrG := ls.Gr 35 3 markG
theorem infoGs : (Tryz.prog.info? 31).map (fun i => (i.zero, i.size, i.bytes)) = some (some (.slice none 0 0), 1, 24) := by kernel_rfl

set_option maxHeartbeats 8000000 in
set_option maxRecDepth 100000 in
theorem owned_any (B0 : Nat) (rs : List ls.LR) (n : Nat) (hn7 : n ≤ 7) (hlen : rs.length = n) (gl cl : Nat) (hcl : n ≤ cl) (w : World) (hB : B0 ≤ w.heap.size) (hH : HoldG B0 w.heap.size w rs 0 (ls.cntAt 0 0)) (hD : ls.Dist rs) (hL : ls.LRow 31 w gl rs) :
    Calls Tryz.prog 31 #[.slice (some ⟨gl, 0, none⟩) n cl] w fun e w' => e = .returned (.bool true) ∧ Below B0 w w' := by
  have HD := Lib.hid hD
  have Hlen := Lib.hid hlen
  obtain ⟨i0, si, sz0, sz1, sz2⟩ := info_parts infoGv
  obtain ⟨i1, hi, hz0, hz1, hz2⟩ := info_parts infoGs
  have hgl : gl < w.heap.size := hL.lt
  have HH1 := Lib.hid hH
  have HL1 := Lib.hid hL
  have HB1 : Hid (Below B0 w w) := Lib.hid (Below.refl _ _)
  clear hH hD hL hlen
  go_enter Tryz.func31, Tryz.ntmps31
  go_wp2_with fail
  go_loopw [3] (fun i wr => ∃ k2 : Nat, k2 ≤ n ∧ i = .int .i64 k2 ∧ Hid (HoldG B0 w.heap.size wr rs 0 (ls.cntAt k2 0)) ∧ Hid (ls.LRow 31 wr gl rs) ∧ Hid (Below B0 w wr)) (fun i _ => n - (intOf i).toNat)
  case atStart => exact ⟨0, by omega, rfl, HH1, HL1, HB1⟩
  case round =>
    clear HH1 HL1 HB1
    obtain ⟨k2, hk2, rfl, HHr, HLr, HBr⟩ := hrel
    by_cases hlt2 : k2 < n
    · obtain ⟨R, hR⟩ : ∃ R, rs[k2]? = some R := ⟨_, List.getElem?_eq_getElem (by rw [Hlen.out]; exact hlt2)⟩
      have HR := Lib.hid hR
      have hnr := (HHr.out k2 R (Nat.zero_le _) hR).1
      obtain ⟨pR, nR, cR⟩ := R
      simp only at hnr
      clear hR
      go_wp2_with fail
      go_loopw [4] (fun i wr => ∃ j : Nat, j ≤ nR ∧ i = .int .i64 j ∧ Hid (HoldG B0 w.heap.size wr rs 0 (ls.cntAt k2 j)) ∧ Hid (ls.LRow 31 wr gl rs) ∧ Hid (Below B0 w wr)) (fun i _ => nR - (intOf i).toNat)
      case atStart => exact ⟨0, by omega, rfl, HHr, HLr, HBr⟩
      case round =>
        clear HHr HLr HBr
        obtain ⟨j, hj, rfl, HHr, HLr, HBr⟩ := hrel
        have c1 := HLr.out.cell HR.out
        have hglr : gl < wr.heap.size := HLr.out.lt
        simp only at c1
        have hki : (k2 : Int) < (n : Int) := by omega
        have hk5 : (0 : Int) ≤ (k2 : Int) := by omega
        by_cases hltj : j < nR
        · obtain ⟨g, cs, hpR, hgB, hgM, hsb, hcs, hnc⟩ : ∃ g cs, pR = some ⟨g, 0, none⟩ ∧ B0 ≤ g ∧ g < w.heap.size ∧ ls.SB 35 wr g cs ∧ cR * 3 ≤ cs.size ∧ nR ≤ cR := by
            obtain ⟨_, h2, h3⟩ := HHr.out k2 _ (Nat.zero_le _) HR.out
            rcases h3 with ⟨_, h, _⟩ | ⟨g, cs, h1, h2', h3, h4, h5, _⟩
            · simp only at h; omega
            · exact ⟨g, cs, h1, h2', h3, h4, h5, h2⟩
          subst hpR
          have hgr : g < wr.heap.size := by have := HBr.out.size; omega
          have hat : ∀ i, i < 3 → wr.cell? ⟨g, j * 3 + i, none⟩ = some (cs[j * 3 + i]?.getD undef) := fun i hi => by
            rw [cell_in hsb, Array.getElem?_eq_getElem (by omega)]
            rfl
          have d0 := hat 0 (by omega)
          have d1 := hat 1 (by omega)
          have d2 := hat 2 (by omega)
          have e0 : wr.frozen? ⟨g, j * 3, none⟩ = false := free_in hsb
          have e1 : wr.frozen? ⟨g, j * 3 + 1, none⟩ = false := free_in hsb
          have e2 : wr.frozen? ⟨g, j * 3 + 2, none⟩ = false := free_in hsb
          rw [Nat.add_zero] at d0
          generalize cs[j * 3]?.getD undef = o0 at d0
          generalize cs[j * 3 + 1]?.getD undef = o1 at d1
          generalize cs[j * 3 + 2]?.getD undef = o2 at d2
          have HX : Hid (HoldG B0 w.heap.size (wr.setCells g (j * 3) (markG k2)) rs 0 (ls.cntAt k2 (j + 1)) ∧ ls.LRow 31 (wr.setCells g (j * 3) (markG k2)) gl rs ∧ Below B0 w (wr.setCells g (j * 3) (markG k2))) := Lib.hid
            ⟨HHr.out.mark (markG_len _) HD.out HR.out rfl hltj, HLr.out.set (by decide) hsb, ls.below_setCells hgB _ _ _ HBr.out⟩
          have hji : (j : Int) < (nR : Int) := by omega
          have hj5 : (0 : Int) ≤ (j : Int) := by omega
          clear hat hsb hcs
          go_wp2_with fail
          go_roundw
          case rel => exact ⟨j + 1, by omega, by go_num, Lib.hid HX.out.1, Lib.hid HX.out.2.1, Lib.hid HX.out.2.2⟩
          case measure => simp [intOf]; omega
        · obtain rfl : j = nR := by omega
          go_wp2_with fail
          go_roundw
          case rel => exact ⟨k2 + 1, by omega, by go_num, Lib.hid (HHr.out.next (fun S hS => by rw [HR.out] at hS; obtain rfl := Option.some.inj hS; exact Nat.le_refl _)), HLr, HBr⟩
          case measure => simp [intOf]; omega
    · obtain rfl : k2 = n := by omega
      obtain ⟨w3, hw3⟩ : ∃ w3, w3 = wr := ⟨_, rfl⟩
      have hz3 : w.heap.size ≤ w3.heap.size := by rw [hw3]; exact HBr.out.size
      have HP3 : Hid (PhG B0 w3.heap.size rs gl w w3 0 0 (.slice none 0 0) []) := Lib.hid (by
        subst hw3
        exact ⟨⟨rfl, .inl ⟨rfl, rfl⟩⟩, fun t v h => by simp at h, fun t g n c h => by simp at h, by rw [Hlen.out]; exact HHr.out.upM HBr.out.size, HLr.out, HBr.out, Nat.le_refl _⟩)
      rw [← hw3]
      clear HHr HLr HBr hw3
      have hB3 : B0 ≤ w3.heap.size := by omega
      have hgl3 : gl < w3.heap.size := by omega
      go_wp2_with fail
      go_loopw [5, 6] (fun al i wr => ∃ (k mm : Nat) (pa : Option Addr) (ca : Nat) (vals : List Value), k ≤ k2 ∧ i = .int .i64 k ∧ mm = 6 * k ∧ al = .slice pa mm ca ∧ Hid (PhG B0 w3.heap.size rs gl w wr k mm (.slice pa mm ca) vals)) (fun _ i _ => k2 - (intOf i).toNat)
      case atStart => exact ⟨0, 0, none, 0, [], by omega, rfl, rfl, rfl, HP3⟩
      case round =>
        clear HP3
        obtain ⟨k, mm, pa, ca, vals, hk, rfl, hmm, rfl, HP⟩ := hrel
        have hvl : vals.length = mm := by have := HP.out.own.1; simpa using this
        have Hvl := Lib.hid hvl
        have Hmm := Lib.hid hmm
        have hmb : mm ≤ 42 := by omega
        clear hvl hmm
        by_cases hlt : k < k2
        · obtain ⟨R, hR⟩ : ∃ R, rs[k]? = some R := ⟨_, List.getElem?_eq_getElem (by rw [Hlen.out]; exact hlt)⟩
          have c1 := HP.out.row.cell hR
          have hglr := HP.out.row.lt
          have hnr := (HP.out.rest k R (Nat.le_refl _) hR).1
          obtain ⟨h1, h2⟩ := HP.out.begin hR HD.out Hmm.out Hvl.out (by omega)
          obtain ⟨pR, nR, cR⟩ := R
          simp only at c1 hnr h2
          have HPk := Lib.hid h1
          have HGk := Lib.hid h2
          have hki : (k : Int) < (k2 : Int) := by omega
          have hk5 : (0 : Int) ≤ (k : Int) := by omega
          clear hR h1 h2
          go_wp2_with fail
          go_loopw [5, 7, 8] (fun al x i wr => ∃ (t m nx : Nat) (pa : Option Addr) (ca : Nat) (vals : List Value) (px : Option Addr) (cx : Nat), t ≤ 6 ∧ i = .int .i64 t ∧ m = 6 * k + t ∧ nx = nR + t ∧ x = .slice px nx cx ∧ al = .slice pa m ca ∧ Hid (PhG B0 w3.heap.size rs gl w wr (k + 1) m (.slice pa m ca) vals) ∧ Hid (GrG B0 w3.heap.size rs wr k vals px nx cx)) (fun _ _ i _ => 6 - (intOf i).toNat)
          case atStart => exact ⟨0, mm, nR, pa, ca, vals, pR, cR, by omega, rfl, Hmm.out, rfl, rfl, rfl, HPk, HGk⟩
          case round =>
            clear HPk HGk HP
            obtain ⟨t, m, nx, pa, ca, vals, px, cx, ht, rfl, hm, hnx, rfl, rfl, HP, HG⟩ := hrel
            have hmb2 : m ≤ 48 := by omega
            have hnb : nx ≤ 4294967310 := by omega
            have hm5 : m / 6 = k ∨ t = 6 := by omega
            have Hm := Lib.hid hm
            have Hnx := Lib.hid hnx
            have Hm5 := Lib.hid hm5
            clear hm hnx hm5
            by_cases hltt : t < 6
            · have hltt' : (t : Int) < 6 := by omega
              have hzr := HP.out.size
              focus
                go_wp2_with (at_builtin; go_must (refine wpList_append_lit rfl _ _ 54 rfl 31 i1 _ 24 Tryz.underlying54 hi hz0 hz1 hz2 rfl _ 1 (by omega) (by rfl) (by rfl) w3.heap.size _ m _ (by rfl) HP.out.own (by simp [Value.oneCell']) (by omega) (by omega) (by omega) ?_))
              intro ga' ca' w5 hown5 hgrow5 hat5 hz5 hlt5
              obtain ⟨s1, s2⟩ := HP.out.push (by decide) HG.out hown5 hgrow5 (by rcases Hm5.out with h | h <;> omega) (by omega) hgl3 hB3
              have HP5 := Lib.hid s1
              have HG5 := Lib.hid s2
              clear hown5 hgrow5 hat5 s1 s2 HP HG
              have hzr5 := HP5.out.size
              obtain ⟨W, hW⟩ : ∃ W, W = w5.alloc (.cells #[.string ⟨#[]⟩, .string ⟨#[]⟩, .int .i64 (-1 - (k : Int))] 35) := ⟨_, rfl⟩
              have hbW : Below w5.heap.size w5 W := by rw [hW]; exact (Below.refl _ _).alloc (Nat.le_refl _) _
              have hszW : W.heap.size = w5.heap.size + 1 := by rw [hW]; simp
              have hnew : ∀ (j : Nat) (u : Value), (markG k)[j]? = some u → W.cell? ((⟨w5.heap.size, 0, none⟩ : Addr).add j) = some u := fun j u hj => by
                rw [ls.addN, Nat.zero_add, hW, cell_in (heap_alloc_new w5 _)]
                show (markG k).toArray[j]? = some u
                rw [List.getElem?_toArray]
                exact hj
              have HW2 := Lib.hid hW
              have Hnew := Lib.hid hnew
              have HP2 := Lib.hid (HP5.out.below hbW hB3)
              have HG2 := Lib.hid (HG5.out.below hbW)
              clear hW hnew hbW HP5 HG5
              obtain ⟨olds, hol1, hol2, hol3, hol4⟩ := HG2.out.xs.olds markG_len (by omega)
              have Hol1 := Lib.hid hol1
              have Hol2 := Lib.hid hol2
              have Hol3 := Lib.hid hol3
              have Hol4 := Lib.hid hol4
              have hcx := HG2.out.xs.le
              clear hol1 hol2 hol3 hol4
              rcases (show nx + 1 ≤ cx ∨ cx < nx + 1 by omega) with hroom | hfull
              · obtain ⟨gx, cs, rfl, hsb, hcs⟩ : ∃ gx cs, px = some ⟨gx, 0, none⟩ ∧ ls.SB 35 W gx cs ∧ cx * 3 ≤ cs.size := by
                  rcases HG2.out.xs with ⟨_, _, h⟩ | ⟨g, cs, h1, h2, _, h3, _⟩
                  · omega
                  · exact ⟨g, cs, h1, h2, h3⟩
                have HSB := Lib.hid hsb
                have Hroom := Lib.hid hroom
                obtain ⟨r1, r2⟩ := HP2.out.room (by decide) markG_len HD.out HG2.out hroom
                have HP3 := Lib.hid r1
                have HG3 := Lib.hid r2
                clear hsb hroom r1 r2
                focus
                  go_wp2_with (at_builtin; go_must (refine wpList_append_arg _ rfl (.tmp 53) (.tmp 57) 31 rfl 35 i0 (.agg #[.string .empty, .string .empty, .int .i64 0]) 3 40 Tryz.underlying31 si sz0 sz1 sz2 rfl (by decide) gx 0 nx cx olds rfl Hol1.out ?c0 ⟨w5.heap.size, 0, none⟩ 1 1 (markG k) rfl rfl ?c1 ?c2 ?c3 (by unfold maxLen; omega) (by omega) ?room ?grow))
                case c0 => rw [← HW2.out]; exact fun j u hj => by have := Hol3.out _ rfl j u hj; rwa [ls.addN] at this
                case c1 => rw [← HW2.out]; exact Hnew.out
                case c2 => simp [markG, Value.oneCell']
                case c3 =>
                  rw [← HW2.out]
                  intro _ j hj
                  rw [markG_len] at hj
                  have hr := Hroom.out
                  rw [cell_in HSB.out, Array.getElem?_eq_getElem (by omega)]
                  exact ⟨rfl, free_in HSB.out⟩
                case grow => intro h; have := Hroom.out; omega
                case room =>
                  intro _
                  rw [← HW2.out]
                  try rw [Nat.zero_add]
                  generalize W.setCells gx (nx * 3) (markG k) = W3 at *
                  go_wp2_with fail
                  go_roundw
                  case rel => exact ⟨t + 1, m + 1, nx + 1, some ⟨ga', 0, none⟩, ca', _, _, _, by omega, by go_num, by have := Hm.out; omega, by have := Hnx.out; omega, rfl, rfl, HP3, HG3⟩
                  case measure => simp [intOf]; omega
              · focus
                  go_wp2_with (at_builtin; go_must (refine wpList_append_grows _ rfl (.tmp 53) (.tmp 57) 31 rfl 35 i0 (.agg #[.string .empty, .string .empty, .int .i64 0]) 3 40 Tryz.underlying31 si sz0 sz1 sz2 rfl (by decide) px nx cx olds rfl (fun h => Hol4.out h) Hol1.out ?d0 ⟨w5.heap.size, 0, none⟩ 1 1 (markG k) rfl rfl ?d1 ?d2 hfull (by unfold maxLen; omega) (by omega) ?dgrow))
                case d0 => rw [← HW2.out]; exact fun b hb j u hj => Hol3.out b hb j u hj
                case d1 => rw [← HW2.out]; exact Hnew.out
                case d2 => simp [markG, Value.oneCell']
                case dgrow =>
                  rw [← HW2.out]
                  intro v' w' hown hgrow
                  try rw [← hszW] at hown
                  have hown' : w'.ownsRow W.heap.size 35 3 v' (nx + 1) (olds ++ markG k) := by first | exact hown | (rw [hszW]; exact hown)
                  obtain ⟨gx, cx', rfl, hg3⟩ := HG2.out.grow markG_len (by omega) HP2.out.ents hown' (Nat.le_refl _) HP2.out.size hB3 Hol1.out Hol2.out
                  have HP3 := Lib.hid (HP2.out.below (ls.below_none hgrow) hB3)
                  have HG3 := Lib.hid hg3
                  clear hown hown' hgrow hg3
                  go_wp2_with fail
                  go_roundw
                  case rel => exact ⟨t + 1, m + 1, nx + 1, some ⟨ga', 0, none⟩, ca', _, _, _, by omega, by go_num, by have := Hm.out; omega, by have := Hnx.out; omega, rfl, rfl, HP3, HG3⟩
                  case measure => simp [intOf]; omega
            · obtain rfl : t = 6 := by omega
              go_wp2_with fail
              go_roundw
              case rel => exact ⟨k + 1, m, pa, ca, vals, by omega, by go_num, by have := Hm.out; omega, rfl, HP⟩
              case measure => simp [intOf]; omega
        · obtain rfl : k = k2 := by omega
          obtain ⟨w4, hw4⟩ : ∃ w4, w4 = wr := ⟨_, rfl⟩
          have HP4 : Hid (PhG B0 w3.heap.size rs gl w w4 k mm (.slice pa mm ca) vals) := by rw [hw4]; exact HP
          rw [← hw4]
          clear HP hw4
          have hmca : mm ≤ ca := by
            rcases HP4.out.own.2 with ⟨h, h0⟩ | ⟨g, cap, cur, h, _, _, h2, _⟩
            · cases h; omega
            · cases h; exact h2
          have HPA : Hid (0 < mm → ∃ ga, pa = some ⟨ga, 0, none⟩ ∧ ∀ (i : Nat) v, vals[i]? = some v → w4.cell? ⟨ga, i, none⟩ = some v) := Lib.hid fun h0 => by
            rcases HP4.out.own.2 with ⟨_, h⟩ | ⟨g, cap, cur, h, _⟩
            · omega
            · cases h
              refine ⟨g, rfl, fun i v hv => ?_⟩
              have := HP4.out.own.cells (g := g) rfl i v hv
              rwa [ls.addN, Nat.zero_add] at this
          go_wp2_with fail
          go_loopw [9] (fun i wr => ∃ t : Nat, t ≤ mm ∧ i = .int .i64 t ∧ wr = w4) (fun i _ => mm - (intOf i).toNat)
          case atStart => exact ⟨0, by omega, rfl, rfl⟩
          case round =>
            obtain ⟨t, ht, rfl, rfl⟩ := hrel
            by_cases hltt : t < mm
            · obtain ⟨ga, rfl, hvals⟩ := HPA.out (by omega)
              obtain ⟨v, hv⟩ : ∃ v, vals[t]? = some v := ⟨_, List.getElem?_eq_getElem (by rw [Hvl.out]; exact hltt)⟩
              have hcv := hvals t v hv
              have hent := HP4.out.ents t v hv
              obtain ⟨p, nv, cv, rfl, hnv, hncv, hall⟩ := hent
              have Hall := Lib.hid hall
              have hga : ga < wr.heap.size := World.block_lt_of_cell? _ _ hcv
              have hti : (t : Int) < (mm : Int) := by omega
              have ht5 : (0 : Int) ≤ (t : Int) := by omega
              clear hv hall hvals
              go_wp2_with fail
              go_loopw [10] (fun i wx => ∃ j : Nat, j ≤ nv ∧ i = .int .i64 j ∧ wx = wr) (fun i _ => nv - (intOf i).toNat)
              case atStart => exact ⟨0, by omega, rfl, rfl⟩
              case round =>
                obtain ⟨j, hj, rfl, rfl⟩ := hrel
                by_cases hltj : j < nv
                · obtain ⟨g, cs, rfl, hsb, hat⟩ : ∃ g cs, p = some ⟨g, 0, none⟩ ∧ ls.SB 35 wr g cs ∧ ls.At cs (j * 3) (markG (t / 6)) := by
                    rcases Hall.out with h | ⟨g, cs, h1, h2, h3⟩
                    · omega
                    · exact ⟨g, cs, h1, h2, h3 j hltj⟩
                  have hlg : g < wr.heap.size := lt_of_block hsb
                  have d2 : wr.cell? ⟨g, j * 3 + 2, none⟩ = some (.int .i64 (-1 - ((t / 6 : Nat) : Int))) := by rw [cell_in hsb]; exact hat 2 _ rfl
                  have hdiv : (t : Int).tdiv 6 = ((t / 6 : Nat) : Int) := by rw [Int.tdiv_eq_ediv_of_nonneg (by omega)]; omega
                  have hdiv2 : (t : Int) / 6 = ((t / 6 : Nat) : Int) := by omega
                  have hk64 : IntKind.i64.wrap (((t / 6 : Nat) : Int)) = ((t / 6 : Nat) : Int) := IntWalk.i64_in _ (by omega)
                  have hk5 : t / 6 ≤ 8 := by omega
                  have hji : (j : Int) < (nv : Int) := by omega
                  have hj5 : (0 : Int) ≤ (j : Int) := by omega
                  clear hsb hat
                  generalize t / 6 = t5 at *
                  go_wp2_with fail
                  go_roundw
                  case rel => exact ⟨j + 1, by omega, by go_num, by first | rfl | trivial⟩
                  case measure => simp [intOf]; omega
                · obtain rfl : j = nv := by omega
                  go_wp2_with fail
                  go_roundw
                  case rel => exact ⟨t + 1, by omega, by go_num, by first | rfl | trivial⟩
                  case measure => simp [intOf]; omega
            · obtain rfl : t = mm := by omega
              go_wp2_with fail
              go_ret
              exact ⟨rfl, HP4.out.bel⟩
end Go.Proofs.YtpfhhaonfbfheaaGreatDoor.en
/- law 08: textsWeigh, keysWeigh: what weighs little has short texts. Conditions: lists of at most 9223372036854775807 elements. -/
namespace Go.Proofs.YtpfhhaonfbfheaaGreatDoor.en
open Go.ChangeShapes Go.WideShapes Go.ChangeAt Go.RowKit gl va ls ky

def addU (n m : Int) : Int := if 2147483647 < n ∨ 2147483647 < m then 2147483648 else n + m
theorem addU_nn {n m : Int} (hn : 0 ≤ n) (hm : 0 ≤ m) : 0 ≤ addU n m := by unfold addU; split <;> omega
theorem addU_bd (n m : Int) : addU n m ≤ 4294967294 := by unfold addU; split <;> omega
theorem addU_sum {n m : Int} (h : addU n m ≤ 2147483647) : addU n m = n + m ∧ n ≤ 2147483647 ∧ m ≤ 2147483647 := by
  unfold addU at h ⊢
  split at h
  · omega
  · rename_i h2
    rw [if_neg h2]
    omega
def WT (l : List (List UInt8)) (N : Int) : Prop := 0 ≤ N ∧ N ≤ 4294967294 ∧ (N ≤ 2147483647 → (l.length : Int) ≤ N ∧ ∀ x ∈ l, (x.length : Int) ≤ N)
def WTo (l : List (List UInt8)) (k : Nat) (N : Int) : Prop := N ≤ 2147483647 → (l.length : Int) ≤ N ∧ ∀ (j : Nat) (x : List UInt8), j < k → l[j]? = some x → (x.length : Int) ≤ N
theorem WTo.next {l : List (List UInt8)} {k : Nat} {N : Int} {x : List UInt8} (h : WTo l k N) (h0 : 0 ≤ N) (hx : l[k]? = some x) : WTo l (k + 1) (addU N ((B x).size : Int)) := by
  intro hN
  obtain ⟨h1, h2, h3⟩ := addU_sum hN
  rw [h1, B_size]
  obtain ⟨h4, h5⟩ := h h2
  refine ⟨by omega, fun j y hj hy => ?_⟩
  rcases Nat.lt_or_ge j k with h7 | h7
  · have := h5 j y h7 hy; omega
  · obtain rfl : j = k := by omega
    rw [hx] at hy
    obtain rfl := Option.some.inj hy
    omega
theorem WTo.done {l : List (List UInt8)} {k : Nat} {N : Int} (h : WTo l k N) (hk : l.length ≤ k ∨ 2147483647 < N) (h0 : 0 ≤ N) (h1 : N ≤ 4294967294) : WT l N := by
  refine ⟨h0, h1, fun hN => ⟨(h hN).1, fun x hx => ?_⟩⟩
  obtain ⟨j, hj⟩ := List.mem_iff_getElem?.1 hx
  exact (h hN).2 j x (by have := lt_get hj; omega) hj
set_option maxHeartbeats 4000000 in
set_option maxRecDepth 100000 in
theorem textsWeigh_any (p : Option Addr) (m c : Nat) (l : List (List UInt8)) (hm : m ≤ 9223372036854775807) (w : World) (h : Sts w (.slice p m c) l) :
    Calls Tryz.prog 24 #[.slice p m c] w fun e w' => (∃ N : Int, e = .returned (.int .i64 N) ∧ WT l N) ∧ w' = w := by
  obtain ⟨hlen, hmc, hptr⟩ := h.ptr
  have HL := Lib.hid h
  have Hlen := Lib.hid hlen
  have HP := Lib.hid hptr
  have HA : Hid (∀ (a b : Int) W, 0 ≤ a → 0 ≤ b → Calls Tryz.prog 19 #[.int .i64 a, .int .i64 b] W fun e w' => e = .returned (.int .i64 (addU a b)) ∧ w' = W) := Lib.hid fun a b W ha hb => sumUp_any a b ha hb W
  have H0 : Hid (WTo l 0 (addU 0 (m : Int))) := Lib.hid (fun hN => ⟨by have := addU_sum hN; omega, fun j x hj => by omega⟩)
  have hb0 := addU_nn (n := 0) (m := (m : Int)) (by omega) (by omega)
  have hb1 := addU_bd 0 (m : Int)
  have HA0 := Lib.hid (HA.out 0 (m : Int) w (by omega) (by omega))
  clear h hlen hptr
  generalize addU 0 (m : Int) = N0 at *
  go_enter Tryz.func24, Tryz.ntmps24
  go_wp2_with fail
  refine HA0.out.mono ?_
  rintro e w1 ⟨rfl, hw⟩
  obtain rfl : w = w1 := hw.symm
  go_wp2_with fail
  go_loopw [3, 4] (fun v i wr => ∃ (k : Nat) (N : Int), k ≤ m ∧ i = .int .i64 k ∧ v = .int .i64 N ∧ 0 ≤ N ∧ N ≤ 4294967294 ∧ Hid (WTo l k N) ∧ wr = w) (fun _ i _ => m - (intOf i).toNat)
  case atStart => exact ⟨0, _, by omega, rfl, rfl, hb0, hb1, H0, rfl⟩
  case round =>
    clear hb0 hb1 H0 HA0
    obtain ⟨k, N, hk, rfl, rfl, hN0, hN1, HW, hwr⟩ := hrel
    obtain rfl : w = wr := hwr.symm
    by_cases hlt : k < m
    · have q1 : decide ((k : Int) < (m : Int)) = true := by rw [decide_eq_true_iff]; omega
      have q2 : decide (k < m) = true := by rw [decide_eq_true_iff]; omega
      by_cases hNb : N ≤ 2147483647
      · have q3 : decide (N ≤ 2147483647) = true := by rw [decide_eq_true_iff]; omega
        obtain ⟨b, o, rfl, hbl⟩ := HP.out (by omega)
        obtain ⟨x, hx⟩ : ∃ x, l[k]? = some x := ⟨_, List.getElem?_eq_getElem (by rw [Hlen.out]; exact hlt)⟩
        have e0 := st_cell HL.out hx
        have hki : (k : Int) < (m : Int) := by omega
        have hk5 : (0 : Int) ≤ (k : Int) := by omega
        have HX := Lib.hid (HW.out.next hN0 hx)
        have HAx := Lib.hid (HA.out N ((B x).size : Int) w hN0 (by omega))
        have hn0 := addU_nn (n := N) (m := ((B x).size : Int)) hN0 (by omega)
        have hn1 := addU_bd N ((B x).size : Int)
        clear hx
        generalize addU N ((B x).size : Int) = N2 at *
        generalize B x = y1 at *
        go_wp2_with fail
        refine HAx.out.mono ?_
        rintro e w2 ⟨rfl, hw2⟩
        obtain rfl : w = w2 := hw2.symm
        go_wp2_with fail
        go_roundw
        case rel => exact ⟨k + 1, _, by omega, by go_num, rfl, hn0, hn1, HX, by first | rfl | trivial⟩
        case measure => simp [intOf]; omega
      · have q3 : decide (N ≤ 2147483647) = false := by rw [decide_eq_false_iff_not]; omega
        go_wp2_with fail
        go_ret
        exact ⟨⟨_, rfl, HW.out.done (.inr (by omega)) hN0 hN1⟩, rfl⟩
    · have q1 : decide ((k : Int) < (m : Int)) = false := by rw [decide_eq_false_iff_not]; omega
      have q2 : decide (k < m) = false := by rw [decide_eq_false_iff_not]; omega
      go_wp2_with fail
      go_ret
      exact ⟨⟨_, rfl, HW.out.done (.inl (by rw [Hlen.out]; omega)) hN0 hN1⟩, rfl⟩

def KySz (x : Ky) (N : Int) : Prop := (x.name.length : Int) ≤ N ∧ (x.dflt.length : Int) ≤ N ∧ (x.letter.length : Int) ≤ N
def WK (l : List Ky) (N : Int) : Prop := 0 ≤ N ∧ N ≤ 4294967294 ∧ (N ≤ 2147483647 → (l.length : Int) ≤ N ∧ ∀ x ∈ l, KySz x N)
def WKo (l : List Ky) (k : Nat) (N : Int) : Prop := N ≤ 2147483647 → (l.length : Int) ≤ N ∧ ∀ (j : Nat) (x : Ky), j < k → l[j]? = some x → KySz x N
theorem WKo.next {l : List Ky} {k : Nat} {N : Int} {x : Ky} (h : WKo l k N) (_h0 : 0 ≤ N) (hx : l[k]? = some x) : WKo l (k + 1) (addU N (addU ((B x.name).size : Int) (addU ((B x.dflt).size : Int) ((B x.letter).size : Int)))) := by
  intro hN
  obtain ⟨h1, h2, h3⟩ := addU_sum hN
  obtain ⟨h4, h5, h6⟩ := addU_sum h3
  obtain ⟨h7, h8, h9⟩ := addU_sum h6
  rw [h1, h4, h7, B_size, B_size, B_size]
  obtain ⟨h10, h11⟩ := h h2
  refine ⟨by omega, fun j y hj hy => ?_⟩
  rcases Nat.lt_or_ge j k with h12 | h12
  · obtain ⟨a, b, c⟩ := h11 j y h12 hy
    exact ⟨by omega, by omega, by omega⟩
  · obtain rfl : j = k := by omega
    rw [hx] at hy
    obtain rfl := Option.some.inj hy
    exact ⟨by omega, by omega, by omega⟩
theorem WKo.done {l : List Ky} {k : Nat} {N : Int} (h : WKo l k N) (hk : l.length ≤ k ∨ 2147483647 < N) (h0 : 0 ≤ N) (h1 : N ≤ 4294967294) : WK l N := by
  refine ⟨h0, h1, fun hN => ⟨(h hN).1, fun x hx => ?_⟩⟩
  obtain ⟨j, hj⟩ := List.mem_iff_getElem?.1 hx
  exact (h hN).2 j x (by have := lt_get hj; omega) hj
theorem sum_same (a b : Int) (W : World) (ha : 0 ≤ a) (hb : 0 ≤ b) : Calls Tryz.prog 19 #[.int .i64 a, .int .i64 b] W fun e w' => e = .returned (.int .i64 (addU a b)) ∧ w' = W := sumUp_any a b ha hb W
set_option maxHeartbeats 4000000 in
set_option maxRecDepth 100000 in
theorem keysWeigh_any (p : Option Addr) (m c : Nat) (l : List Ky) (hm : m ≤ 9223372036854775807) (w : World) (h : Kys w (.slice p m c) l) :
    Calls Tryz.prog 23 #[.slice p m c] w fun e w' => (∃ N : Int, e = .returned (.int .i64 N) ∧ WK l N) ∧ Below w.heap.size w w' := by
  obtain ⟨hlen, hmc, hptr⟩ := h.ptr
  have HL := Lib.hid h
  have Hlen := Lib.hid hlen
  have HP := Lib.hid hptr
  have H0 : Hid (WKo l 0 (addU 0 (m : Int))) := Lib.hid (fun hN => ⟨by have := addU_sum hN; omega, fun j x hj => by omega⟩)
  have hb0 := addU_nn (n := 0) (m := (m : Int)) (by omega) (by omega)
  have hb1 := addU_bd 0 (m : Int)
  have HA0 := Lib.hid (sum_same 0 (m : Int) w (by omega) (by omega))
  clear h hlen hptr
  generalize addU 0 (m : Int) = N0 at *
  go_enter Tryz.func23, Tryz.ntmps23
  go_wp2_with fail
  refine HA0.out.mono ?_
  rintro e w1 ⟨rfl, hw⟩
  obtain rfl : w = w1 := hw.symm
  go_wp2_with fail
  go_loopw [3, 4] (fun v i wr => ∃ (k : Nat) (N : Int), k ≤ m ∧ i = .int .i64 k ∧ v = .int .i64 N ∧ 0 ≤ N ∧ N ≤ 4294967294 ∧ Hid (WKo l k N) ∧ Hid (Below w.heap.size w wr)) (fun _ i _ => m - (intOf i).toNat)
  case atStart => exact ⟨0, _, by omega, rfl, rfl, hb0, hb1, H0, Lib.hid (Below.refl _ _)⟩
  case round =>
    clear hb0 hb1 H0 HA0
    obtain ⟨k, N, hk, rfl, rfl, hN0, hN1, HW, Hb⟩ := hrel
    by_cases hlt : k < m
    · have q1 : decide ((k : Int) < (m : Int)) = true := by rw [decide_eq_true_iff]; omega
      have q2 : decide (k < m) = true := by rw [decide_eq_true_iff]; omega
      by_cases hNb : N ≤ 2147483647
      · have q3 : decide (N ≤ 2147483647) = true := by rw [decide_eq_true_iff]; omega
        obtain ⟨b, o, rfl, hbl⟩ := HP.out (by omega)
        obtain ⟨x, hx⟩ : ∃ x, l[k]? = some x := ⟨_, List.getElem?_eq_getElem (by rw [Hlen.out]; exact hlt)⟩
        obtain ⟨e0, e1, e2, e3, e4, e5⟩ := ky_cells (HL.out.later Hb.out) hx
        have hki : (k : Int) < (m : Int) := by omega
        have hk5 : (0 : Int) ≤ (k : Int) := by omega
        have hzr := Hb.out.size
        have hbr : b < wr.heap.size := by omega
        have HX := Lib.hid (HW.out.next hN0 hx)
        have g2 := addU_nn (n := ((B x.dflt).size : Int)) (m := ((B x.letter).size : Int)) (by omega) (by omega)
        have g1 := addU_nn (n := ((B x.name).size : Int)) (by omega) g2
        have hn0 := addU_nn hN0 g1
        clear hx
        generalize B x.name = y1 at *
        generalize B x.dflt = y2 at *
        generalize B x.letter = y3 at *
        go_wp2_with fail
        go_quiet ((go_at_call 19; exact Calls.quiet_of_same (sum_same _ _ _ (by first | omega | assumption) (by first | omega | assumption))))
        go_wp2_with fail
        go_roundw
        case rel => exact ⟨k + 1, _, by omega, by go_num, rfl, hn0, addU_bd _ _, HX, Lib.hid (Hb.out.trans ((drewN_bel _ _).mono Hb.out.size))⟩
        case measure => simp [intOf]; omega
      · have q3 : decide (N ≤ 2147483647) = false := by rw [decide_eq_false_iff_not]; omega
        go_wp2_with fail
        go_ret
        exact ⟨⟨_, rfl, HW.out.done (.inr (by omega)) hN0 hN1⟩, Hb.out⟩
    · have q1 : decide ((k : Int) < (m : Int)) = false := by rw [decide_eq_false_iff_not]; omega
      have q2 : decide (k < m) = false := by rw [decide_eq_false_iff_not]; omega
      go_wp2_with fail
      go_ret
      exact ⟨⟨_, rfl, HW.out.done (.inl (by rw [Hlen.out]; omega)) hN0 hN1⟩, Hb.out⟩
end Go.Proofs.YtpfhhaonfbfheaaGreatDoor.en
/- EnvParses returns true: any pairs, of any set or of the standard one. Conditions: arguments that lie in memory as their lists; the listed variables hold what the program's text lays. -/
namespace Go.Proofs.YtpfhhaonfbfheaaGreatDoor.en
open Go.ChangeShapes Go.WideShapes Go.ChangeAt Go.RowKit gl va ls ky

theorem parse_len (names : List (List UInt8)) : ∀ (pairs : List (List UInt8)) (k : Nat) (out : List Gv), (parseL names k pairs out).1.length ≤ out.length + pairs.length
  | [], _, _ => by simp [parseL]
  | p :: r, k, out => by
    rw [parseL]
    split
    · simp
    · refine Nat.le_trans (parse_len names r _ _) ?_
      simp only [List.length_cons]; omega
    · refine Nat.le_trans (parse_len names r _ _) ?_
      simp only [List.length_cons, List.length_append, List.length_nil]; omega
theorem newG_upd {M : Nat} {w w' : World} {S : List Nat} {v : Value} {l : List Gv} (h : NewGvs M w v l) (hu : Upd S w w') (hS : ∀ k ∈ S, k < M) : NewGvs M w' v l := by
  rcases h with h | ⟨g, c, cs, h1, h2, h3, h4, h5⟩
  · exact .inl h
  · exact .inr ⟨g, c, cs, h1, h2, h3, hu.obj h4 (fun hm => by have := hS g hm; omega), h5⟩
/-- Numbers that may be. -/
def KyI (x : Ky) : Prop := (-9223372036854775808 ≤ x.kind ∧ x.kind ≤ 9223372036854775807) ∧ (-9223372036854775808 ≤ x.least ∧ x.least ≤ 9223372036854775807) ∧ (-9223372036854775808 ≤ x.most ∧ x.most ≤ 9223372036854775807)
theorem ky_ok {x : Ky} {N : Int} (h : KyI x) (hs : KySz x N) (hN : N ≤ 2147483647) : KyOk x := ⟨by have := hs.1; omega, by have := hs.2.1; omega, by have := hs.2.2; omega, h.1, h.2.1, h.2.2⟩
/-- A list that is asked for. -/
structure Ask where
  p : Option Addr
  n : Nat
  c : Nat
  l : List (List UInt8)
theorem infoSs : (Tryz.prog.info? 38).map (fun i => (i.zero, i.size, i.bytes)) = some (some (.slice none 0 0), 1, 24) := by kernel_rfl
theorem neq_same (x : ByteArray) : (x.toList != x.toList) = false := by simp

set_option maxHeartbeats 16000000 in
set_option maxRecDepth 100000 in
theorem parses_walk (pk : Option Addr) (nk ck : Nat) (l : List Ky) (hnk : l.length = nk) (hnk63 : nk ≤ 9223372036854775807) (hKi : ∀ x ∈ l, KyI x) (std : Bool) (pp : Option Addr) (np cp : Nat) (pairs : List (List UInt8)) (hnp : pairs.length = np) (hnp63 : np ≤ 9223372036854775807)
    (po : Option Addr) (no co : Nat) (other : List (List UInt8)) (hno : other.length = no) (hno63 : no ≤ 9223372036854775807) (w : World) (hK : Kys w (.slice pk nk ck) l) (hP : Sts w (.slice pp np cp) pairs) (hO : Sts w (.slice po no co) other) (hV : Vlo w) :
    Calls Tryz.prog 6 #[.slice pk nk ck, .bool std, .slice pp np cp, .slice po no co] w fun e w' => e = .returned (.bool true) ∧ Below w.heap.size w w' := by
  obtain ⟨i1, hi, hz0, hz1, hz2⟩ := info_parts infoGs
  have HV := Lib.hid fun W (h : Below w.heap.size w W) => hV.below h (Nat.le_refl _)
  have HK := Lib.hid hK
  have HP := Lib.hid hP
  have HO := Lib.hid hO
  have Hnk := Lib.hid hnk
  have Hnp := Lib.hid hnp
  have Hno := Lib.hid hno
  have HKi := Lib.hid hKi
  have HWk := Lib.hid (keysWeigh_any pk nk ck l hnk63 w hK)
  have HWp := Lib.hid fun W (h : Below w.heap.size w W) => textsWeigh_any pp np cp pairs hnp63 W (hP.later h)
  have HWo := Lib.hid fun W (h : Below w.heap.size w W) => textsWeigh_any po no co other hno63 W (hO.later h)
  have HAw := Lib.hid fun W (h : Below w.heap.size w W) => awoke_any W (hV.below h (Nat.le_refl _))
  clear hK hP hO hV hnk hnp hno hKi
  go_enter Tryz.func6, Tryz.ntmps6
  go_wp2_with fail
  refine HWk.out.mono ?_
  rintro e w1 ⟨⟨N1, rfl, hN1⟩, hb1⟩
  have Hb1 := Lib.hid hb1
  have HN1 := Lib.hid hN1
  have n10 := hN1.1
  clear hb1 hN1 HWk
  go_wp2_with fail
  refine (HWp.out _ Hb1.out).mono ?_
  rintro e w2 ⟨⟨N2, rfl, hN2⟩, rfl⟩
  have HN2 := Lib.hid hN2
  have n20 := hN2.1
  clear hN2 HWp
  go_wp2_with fail
  refine (HWo.out _ Hb1.out).mono ?_
  rintro e w3 ⟨⟨N3, rfl, hN3⟩, rfl⟩
  have HN3 := Lib.hid hN3
  have n30 := hN3.1
  clear hN3 HWo
  go_wp2_with fail
  refine (sum_same N2 N3 _ n20 n30).mono ?_
  rintro e w4 ⟨rfl, rfl⟩
  have n40 := addU_nn n20 n30
  have HS2 := Lib.hid (@addU_sum N2 N3)
  generalize addU N2 N3 = S2 at *
  go_wp2_with fail
  refine (sum_same N1 S2 _ n10 n40).mono ?_
  rintro e w5 ⟨rfl, rfl⟩
  have n50 := addU_nn n10 n40
  have HS1 := Lib.hid (@addU_sum N1 S2)
  generalize addU N1 S2 = S1 at *
  by_cases hbig : 2147483647 < S1
  · go_wp2_with fail
    go_ret
    exact ⟨rfl, Hb1.out⟩
  have hS1 : S1 ≤ 2147483647 := by omega
  have hsz : Hid (N1 ≤ 2147483647 ∧ N2 ≤ 2147483647 ∧ N3 ≤ 2147483647) := Lib.hid (by
    obtain ⟨_, h1, h2⟩ := HS1.out hS1
    obtain ⟨_, h3, h4⟩ := HS2.out h2
    exact ⟨h1, h3, h4⟩)
  have HZk := Lib.hid (HN1.out.2.2 hsz.out.1)
  have HZp := Lib.hid (HN2.out.2.2 hsz.out.2.1)
  have HZo := Lib.hid (HN3.out.2.2 hsz.out.2.2)
  have hnp31 : np ≤ 2147483647 := by have := HZp.out.1; rw [Hnp.out] at this; have := hsz.out.2.1; omega
  have hno31 : no ≤ 2147483647 := by have := HZo.out.1; rw [Hno.out] at this; have := hsz.out.2.2; omega
  have hnk31 : nk ≤ 2147483647 := by have := HZk.out.1; rw [Hnk.out] at this; have := hsz.out.1; omega
  have Hpl : Hid (∀ x ∈ pairs, x.length ≤ 2147483647) := Lib.hid fun x hx => by have := HZp.out.2 x hx; have := hsz.out.2.1; omega
  have Hol : Hid (∀ x ∈ other, x.length ≤ 2147483647) := Lib.hid fun x hx => by have := HZo.out.2 x hx; have := hsz.out.2.2; omega
  have HMd := Lib.hid fun W (h : Below w.heap.size w W) => made_any pk nk ck l std Hnk.out hnk31 (fun x hx => ky_ok (HKi.out x hx) (HZk.out.2 x hx) hsz.out.1) W (HK.out.later h) (HV.out W h)
  clear HZk HZp HZo HS1 HS2 HN1 HN2 HN3 hbig n10 n20 n30 n40 n50
  go_wp2_with fail
  refine (HAw.out _ Hb1.out).mono ?_
  rintro e w6 ⟨rfl, hb6⟩
  have Hb6 := Lib.hid (then_bel Hb1.out Hb1.out.size hb6)
  clear hb6 hS1
  go_wp2_with fail
  refine (HMd.out _ Hb6.out).mono ?_
  rintro e w7 ⟨⟨b, v7, rfl, hS7, hn7⟩, hb7⟩
  have HNm := Lib.hid (named_made std l)
  obtain ⟨S, hS⟩ : ∃ S, S = madeS std l := ⟨_, rfl⟩
  rw [← hS] at hS7 hn7 HNm
  clear hS HMd
  have hlen := hS7.len
  obtain ⟨pv, cv, hv7⟩ := hn7.form
  rw [List.length_map] at hv7
  obtain ⟨n, hn⟩ : ∃ n, n = S.length := ⟨_, rfl⟩
  rw [← hn] at hv7 hlen
  obtain rfl := hv7
  have HSn := Lib.hid hn
  have HS7 := Lib.hid hS7
  have Hb7 := Lib.hid (then_bel Hb6.out Hb6.out.size hb7)
  obtain ⟨nms, hnms⟩ : ∃ nms, nms = S.map (·.name) := ⟨_, rfl⟩
  rw [← hnms] at hn7
  have Hnms := Lib.hid hnms
  have HnS : Hid (Sts w7 (.slice pv n cv) nms) := Lib.hid (hn7.rw stC_len)
  have Hnl : Hid (nms.length = n) := Lib.hid (by rw [hnms, List.length_map, hn])
  have Hn32 : Hid (∀ x ∈ nms, x.length ≤ 2147483646) := Lib.hid fun x hx => by
    rw [hnms] at hx
    obtain ⟨y, hy, rfl⟩ := List.mem_map.1 hx
    have := name_len (HNm.out y hy)
    omega
  clear hn hS7 hn7 hb7 hnms
  obtain ⟨g0, hg0⟩ : ∃ g0, g0 = w7.heap.size := ⟨_, rfl⟩
  obtain ⟨wL, hwL⟩ : ∃ wL, wL = w7.alloc (.cells #[.slice pp np cp, .slice pp np cp, .slice po no co, .slice pp np cp] 38) := ⟨_, rfl⟩
  have hkL : wL.heap[w7.heap.size]? = some (.cells #[.slice pp np cp, .slice pp np cp, .slice po no co, .slice pp np cp] 38 (0, 0)) := by rw [hwL]; exact heap_alloc_new w7 _
  have hbL : Below w7.heap.size w7 wL := by rw [hwL]; exact (Below.refl _ _).alloc (Nat.le_refl _) _
  go_upto_region 8 with fail
  refine go_name2 (fun wM hwM => ?_)
  obtain rfl : wL = wM := hwL.trans hwM.symm
  rw [← hg0] at hkL ⊢
  have HkL := Lib.hid hkL
  have HbL := Lib.hid (then_bel Hb7.out Hb7.out.size hbL)
  have HSL := Lib.hid (HS7.out.later hbL)
  have HnL := Lib.hid (HnS.out.later hbL)
  have hgL : g0 < wL.heap.size := lt_of_block hkL
  clear hwL hkL hbL hwM hg0 HS7 HnS
  obtain ⟨asks, hasks⟩ : ∃ asks : List Ask, asks = [⟨pp, np, cp, pairs⟩, ⟨pp, np, cp, pairs⟩, ⟨po, no, co, other⟩, ⟨pp, np, cp, pairs⟩] := ⟨_, rfl⟩
  have Hcell : Hid (∀ (j : Nat) (a : Ask), asks[j]? = some a → ∀ W, Below wL.heap.size wL W → W.cell? ⟨g0, j, none⟩ = some (.slice a.p a.n a.c)) := Lib.hid fun j a hja W hW => by
    rw [(hW.cell (p := ⟨g0, j, none⟩) hgL), cell_in HkL.out]
    rw [hasks] at hja
    match j, hja with
    | 0, h => cases h; rfl
    | 1, h => cases h; rfl
    | 2, h => cases h; rfl
    | 3, h => cases h; rfl
    | k + 4, h => simp at h
  have HAsk : Hid (∀ a ∈ asks, a.l.length = a.n ∧ a.n ≤ 2147483647 ∧ (∀ x ∈ a.l, x.length ≤ 2147483647) ∧ ∀ W, Below wL.heap.size wL W → Sts W (.slice a.p a.n a.c) a.l) := Lib.hid fun a ha => by
    have hW := fun W (h : Below wL.heap.size wL W) => then_bel HbL.out HbL.out.size h
    rw [hasks] at ha
    simp only [List.mem_cons, List.not_mem_nil, or_false] at ha
    rcases ha with rfl | rfl | rfl | rfl
    · exact ⟨Hnp.out, hnp31, Hpl.out, fun W h => HP.out.later (hW W h)⟩
    · exact ⟨Hnp.out, hnp31, Hpl.out, fun W h => HP.out.later (hW W h)⟩
    · exact ⟨Hno.out, hno31, Hol.out, fun W h => HO.out.later (hW W h)⟩
    · exact ⟨Hnp.out, hnp31, Hpl.out, fun W h => HP.out.later (hW W h)⟩
  have Hal : Hid (asks.length = 4) := Lib.hid (by rw [hasks]; rfl)
  clear hasks HP HO Hnp Hno Hpl Hol HkL HK Hnk HKi
  go_wp2_with fail
  go_loopw [13, 14, 15] (fun lv wv i wr => ∃ (j : Nat) (pl pw : Option Addr) (cl cw : Nat) (rs : List ls.LR) (lss : List (List Gv)) (vw : List Value), j ≤ 4 ∧ i = .int .i64 j ∧ lv = .slice pl j cl ∧ wv = .slice pw j cw ∧ Hid (PL wL.heap.size wr j pl cl pw cw rs lss vw) ∧ Hid (Below wL.heap.size wL wr)) (fun _ _ i _ => 4 - (intOf i).toNat)
  case atStart => exact ⟨0, none, none, 0, 0, [], [], [], by omega, rfl, rfl, rfl, Lib.hid (PL.start _ _), Lib.hid (Below.refl _ _)⟩
  case round =>
    obtain ⟨wo, rfl⟩ : ∃ wo, wo = wr := ⟨_, rfl⟩
    obtain ⟨j, pl, pw, cl, cw, rs, lss, vw, hj, rfl, rfl, rfl, Hpl, Hb⟩ := hrel
    have hzr := Hb.out.size
    by_cases hlt : j < 4
    · obtain ⟨a, ha⟩ : ∃ a, asks[j]? = some a := ⟨_, List.getElem?_eq_getElem (by rw [Hal.out]; exact hlt)⟩
      have Hc := Lib.hid (Hcell.out j a ha)
      obtain ⟨hal, han, hax, hasts⟩ := HAsk.out a (List.mem_of_getElem? ha)
      obtain ⟨ap, an, ac, al⟩ := a
      simp only at hal han hax hasts Hc
      have HAs := Lib.hid hasts
      have hlenr := parse_len nms al 0 []
      obtain ⟨⟨L, E, N⟩, hR⟩ : ∃ r, parseL nms 0 al [] = r := ⟨_, rfl⟩
      rw [hR, hal] at hlenr
      have HPr : Hid (∀ (W : World) (q : Option Addr) (c : Nat), Below wL.heap.size wL W → Sts W (.slice q an c) al → Calls Tryz.prog 27 #[.pointer (some ⟨b, 0, none⟩), .slice q an c] W fun e w' => (∃ v, e = .returned (.tuple #[v, .int .i64 E, .int .i64 (N : Nat)]) ∧ NewGvs W.heap.size w' v L) ∧ Below W.heap.size W w') := Lib.hid fun W q c hW hq => by
        have h := Parse_any w6.heap.size b S q c an al hal han hax HNm.out W (HSL.out.later hW) hq ((HV.out W (then_bel HbL.out HbL.out.size hW)).glo)
        rw [← Hnms.out, hR] at h
        exact h
      have HRf : Hid (∀ (W : World), Below wL.heap.size wL W → Calls Tryz.prog 29 #[.slice pv n cv, .slice ap an ac] W fun e w' => (∃ v, e = .returned (.tuple #[v, .int .i64 E, .int .i64 (N : Nat)]) ∧ NewGvs W.heap.size w' v L) ∧ Below W.heap.size W w') := Lib.hid fun W hW => by
        have h := refParse_any nms al pv ap n cv an ac Hnl.out hal (by omega) han Hn32.out hax W (HnL.out.later hW) (hasts W hW)
        rw [hR] at h
        exact h
      have HLe := Lib.hid fun W (hW : Below wL.heap.size wL W) => lent_any ap an ac al han W (hasts W hW)
      have Hal2 := Lib.hid hal
      have c0 := Hc.out _ Hb.out
      have hgo : g0 < wo.heap.size := by omega
      have hji : (j : Int) < 4 := by omega
      have hj5 : (0 : Int) ≤ (j : Int) := by omega
      have hmi : (an : Int) ≤ (an : Int) + 2 := by omega
      have hm0 : (0 : Int) ≤ (an : Int) := by omega
      have hLn : L.length ≤ 2147483647 := by simp at hlenr; omega
      clear ha hal hax hasts hR hlenr
      go_wp2_with fail
      refine (HLe.out _ Hb.out).mono ?_
      rintro e w8 ⟨rfl, hL8, hb8⟩
      have HL8 := Lib.hid hL8
      have Hb8 := Lib.hid (then_bel Hb.out hzr hb8)
      have Hb8' := Lib.hid hb8
      have hg8 := hL8.lt
      have c8 := Hc.out _ Hb8.out
      have hgo8 : g0 < w8.heap.size := by omega
      clear hL8 hb8 c0 HLe
      go_wp2_with fail
      refine (HPr.out w8 _ _ Hb8.out (lent_take Hal2.out HL8.out)).mono ?_
      rintro e w9 ⟨⟨v9, rfl, hn9⟩, hb9⟩
      obtain ⟨p9, c9, rfl⟩ := hn9.form
      have HN9 := Lib.hid hn9
      have Hb9 := Lib.hid (then_bel Hb8.out Hb8.out.size hb9)
      have HL9 := Lib.hid (HL8.out.later hb9)
      have Hbo9 := Lib.hid (then_bel Hb8'.out Hb8'.out.size hb9)
      have hz9 := Hb9.out.size
      have c9' := Hc.out _ Hb9.out
      have hgo9 : g0 < w9.heap.size := by omega
      clear hn9 hb9 c8 HPr HL8 Hb8'
      go_wp2_with fail
      refine (whole_any wo.heap.size ap an ac al han w9 HL9.out (HAs.out _ Hb9.out)).mono ?_
      rintro e w10 ⟨rfl, hu10⟩
      have hbo : Below wo.heap.size wo w10 := Hbo9.out.trans (hu10.below (fun k hk => by rw [List.mem_singleton.1 hk]; exact Nat.le_refl _) Hbo9.out.size)
      have Hbo := Lib.hid hbo
      have Hb10 := Lib.hid (then_bel Hb.out hzr hbo)
      have HN10 := Lib.hid (newG_upd HN9.out hu10 (fun k hk => by rw [List.mem_singleton.1 hk]; exact hg8))
      have c10 := Hc.out _ Hb10.out
      have hz10 := hbo.size
      have hgo10 : g0 < w10.heap.size := by omega
      clear hu10 hbo HN9 HL9 Hbo9 Hb9 c9'
      go_wp2_with fail
      refine (HRf.out w10 Hb10.out).mono ?_
      rintro e w11 ⟨⟨v11, rfl, hn11⟩, hb11⟩
      obtain ⟨p11, c11, rfl⟩ := hn11.form
      have HN11 := Lib.hid (hn11.mono (show wL.heap.size ≤ w10.heap.size by omega))
      have HN10' := Lib.hid ((HN10.out.later hb11).mono (show wo.heap.size ≤ w8.heap.size by omega))
      have Hbo11 := Lib.hid (then_bel Hbo.out Hbo.out.size hb11)
      have hz11 := Hbo11.out.size
      have Hpl11 := Lib.hid (Hpl.out.keep Hbo11.out)
      have HbL11 := Lib.hid (then_bel Hb.out hzr Hbo11.out)
      have Hfr := Lib.hid (Hpl.out.fresh (R := ⟨p9, L.length, c9⟩) (l := L) HN10'.out)
      have hE : (E != E) = false := by simp
      have hN : (((N : Nat) : Int) != ((N : Nat) : Int)) = false := by simp
      clear hn11 hb11 c10 HRf HN10 Hbo Hc HAs
      focus
        go_wp2_with (at_builtin; go_must (refine wpList_append_lit rfl _ _ 54 rfl 31 i1 _ 24 Tryz.underlying54 hi hz0 hz1 hz2 rfl _ 1 (by omega) (by rfl) (by rfl) wL.heap.size _ j _ (by rfl) Hpl11.out.ownl (by simp [Value.oneCell']) (by omega) (by omega) (by omega) ?_))
      intro ga ca wa hown hgrow hat hza hlta
      have Hown := Lib.hid hown
      have Hgrow := Lib.hid hgrow
      have Hat := Lib.hid hat
      have HWa := Lib.hid (Hpl11.out.wantAt hgrow)
      have hzwa : wL.heap.size ≤ wa.heap.size := by have := hgrow.size; omega
      have Hbwa := Lib.hid (below_grown_own HbL11.out Hpl11.out.ownl hgrow (by omega))
      clear hown hgrow hat
      focus
        go_wp2_with (at_builtin; go_must (refine wpList_append_lit rfl _ _ 54 rfl 31 i1 _ 24 Tryz.underlying54 hi hz0 hz1 hz2 rfl _ 1 (by omega) (by rfl) (by rfl) wL.heap.size _ j _ (by rfl) HWa.out (by simp [Value.oneCell']) (by omega) (by omega) (by omega) ?_))
      intro gb cb wb hown2 hgrow2 hat2 hzb hltb
      have HNx := Lib.hid (Hpl11.out.next (R := ⟨p9, L.length, c9⟩) (l := L) (v := .slice p11 L.length c11) (HN10'.out.mono hzr) (by omega) Hfr.out HN11.out Hown.out Hgrow.out Hat.out hlta hown2 hgrow2 hat2)
      have Hbwb := Lib.hid (below_grown_own Hbwa.out HWa.out hgrow2 hzwa)
      clear hown2 hgrow2 hat2
      go_wp2_with fail
      go_roundw
      case rel => exact ⟨j + 1, _, _, ca, cb, _, _, _, by omega, by go_num, rfl, rfl, HNx, Hbwb⟩
      case measure => simp [intOf]; omega
    · obtain rfl : j = 4 := by omega
      rw [show ((4 : Nat) : Int) = 4 from rfl]
      obtain ⟨gl, rfl, hcl, hgl, hrow⟩ := Hpl.out.rowL (by omega)
      obtain ⟨gw, rfl, hcw, hgw, hWw⟩ := Hpl.out.rowW (by omega)
      have hrl : rs.length = 4 := by have := Hpl.out.ownl.1; simpa using this
      have Hrl := Lib.hid hrl
      have Hxl := Lib.hid Hpl.out.len
      have HRow := Lib.hid hrow
      have HWw := Lib.hid hWw
      have HHo : Hid (HoldG wL.heap.size wo.heap.size wo rs 0 (ls.cntAt 0 0)) := Lib.hid Hpl.out.holds
      have HDi := Lib.hid Hpl.out.dist
      have HLi := Lib.hid Hpl.out.lists
      have hgl2 : gl < wo.heap.size := hrow.lt
      clear hrow hWw hrl Hpl
      go_wp2_with fail
      go_loopw [24] (fun i wr => ∃ k q : Nat, k ≤ 4 ∧ i = .int .i64 k ∧ wr = wo.drewN q) (fun i _ => 4 - (intOf i).toNat)
      case atStart => exact ⟨0, 0, by omega, rfl, rfl⟩
      case round =>
        obtain ⟨k, q, hk, rfl, rfl⟩ := hrel
        by_cases hlt : k < 4
        · obtain ⟨R, hR⟩ : ∃ R, rs[k]? = some R := ⟨_, List.getElem?_eq_getElem (by rw [Hrl.out]; exact hlt)⟩
          obtain ⟨xs, hxs⟩ : ∃ xs, lss[k]? = some xs := ⟨_, List.getElem?_eq_getElem (by rw [Hxl.out]; exact hlt)⟩
          have c1 := HRow.out.cell hR
          obtain ⟨pw, cc, c2, hs2⟩ := HWw.out k xs hxs
          have hs1 := HLi.out k R xs hR hxs
          have hn := (HHo.out k R (Nat.zero_le _) hR).1
          obtain ⟨pR, nR, cR⟩ := R
          simp only [ls.LR.v] at c1 hn hs1
          obtain ⟨hRn, hncR, _⟩ := hs1.ptr
          obtain ⟨_, hncc, _⟩ := hs2.ptr
          rw [hRn] at c2 hs2 hncc
          replace c1 : (wo.drewN q).cell? ⟨gl, k, none⟩ = some (.slice pR nR cR) := c1
          replace c2 : (wo.drewN q).cell? ⟨gw, k, none⟩ = some (.slice pw nR cc) := c2
          have HC := Lib.hid fun W (hq : ∃ d, W = wo.drewN d) => given_any pR pw nR cR cc xs hn W (by obtain ⟨d, rfl⟩ := hq; exact hs1.later (drewN_bel wo d)) (by obtain ⟨d, rfl⟩ := hq; exact hs2.later (drewN_bel wo d))
          clear hR hxs hs1 hs2 hRn
          generalize hq : wo.drewN q = wr at *
          have HQ := Lib.hid hq
          have hki : (k : Int) < 4 := by omega
          have hk5 : (0 : Int) ≤ (k : Int) := by omega
          clear hq
          go_wp2_with fail
          go_quiet ((go_at_call 30; exact Calls.quiet_of (HC.out _ (by rw [← HQ.out, World.drewN_drewN]; exact ⟨_, rfl⟩))))
          go_wp2_with fail
          go_roundw
          case rel => exact ⟨k + 1, _, by omega, by go_num, by rw [← HQ.out, World.drewN_drewN]⟩
          case measure => simp [intOf]; omega
        · obtain rfl : k = 4 := by omega
          obtain ⟨wq, hwq⟩ : ∃ wq, wq = wo.drewN q := ⟨_, rfl⟩
          have hbq : Below wo.heap.size wo wq := by rw [hwq]; exact drewN_bel wo q
          have hzq' : wq.heap.size = wo.heap.size := by rw [hwq]; rfl
          have Hbq := Lib.hid (then_bel Hb.out hzr hbq)
          have HOw := Lib.hid (owned_any wL.heap.size rs 4 (by omega) Hrl.out gl cl hcl wq (by omega) (by rw [hzq']; exact HHo.out.keep (ls.SK.of_below hbq)) HDi.out (HRow.out.below hbq))
          rw [← hwq]
          clear hwq hbq hzq' HHo HRow HWw HLi HDi
          go_wp2_with fail
          refine HOw.out.mono ?_
          rintro e w12 ⟨rfl, hb12⟩
          have Hb12 := Lib.hid (Hbq.out.trans hb12)
          have HAl := Lib.hid (All_any w6.heap.size b S w12 (HSL.out.later Hb12.out))
          rw [← HSn.out] at HAl
          clear hb12 HOw
          go_wp2_with fail
          refine HAl.out.mono ?_
          rintro e w13 ⟨⟨pa, rfl, hn13⟩, hb13⟩
          have HK13 : Hid (Kys w13 (.slice pa n n) S) := Lib.hid (hn13.rw kyC_len)
          have Hb13 := Lib.hid (then_bel Hb12.out Hb12.out.size hb13)
          have Hw13 := Lib.hid (then_bel HbL.out HbL.out.size Hb13.out)
          clear hn13 hb13 HAl
          go_wp2_with fail
          refine (HAw.out _ Hw13.out).mono ?_
          rintro e w14 ⟨rfl, hb14⟩
          have Hb14 := Lib.hid (then_bel Hb13.out Hb13.out.size hb14)
          have HK14 := Lib.hid (HK13.out.later hb14)
          have Hw14 := Lib.hid (then_bel Hw13.out Hw13.out.size hb14)
          have HS14 := Lib.hid (HnL.out.later Hb14.out)
          have Hpk := Lib.hid HK14.out.ptr.2.2
          have Hpn := Lib.hid HS14.out.ptr.2.2
          clear hb14 HK13
          go_wp2_with fail
          go_loopw [29] (fun i wr => ∃ t d : Nat, t ≤ n ∧ i = .int .i64 t ∧ wr = w14.drewN d) (fun i _ => n - (intOf i).toNat)
          case atStart => exact ⟨0, 0, by omega, rfl, rfl⟩
          case round =>
            obtain ⟨t, d, ht, rfl, hwr⟩ := hrel
            have Hq := Lib.hid hwr
            have hbr : Below w14.heap.size w14 wr := by rw [hwr]; exact drewN_bel w14 d
            have Hbr := Lib.hid hbr
            have hzr2 := hbr.size
            clear hwr hbr
            by_cases hltt : t < n
            · obtain ⟨bk, ok, rfl, hbk⟩ := Hpk.out (by omega)
              obtain ⟨bn, on, rfl, hbn⟩ := Hpn.out (by omega)
              obtain ⟨y, hy⟩ : ∃ y, S[t]? = some y := ⟨_, List.getElem?_eq_getElem (by rw [← HSn.out]; exact hltt)⟩
              have c0 := (ky_cells (HK14.out.later Hbr.out) hy).1
              have d0 := st_cell (HS14.out.later Hbr.out) (j := t) (x := y.name) (by rw [Hnms.out, List.getElem?_map, hy]; rfl)
              have hkr : bk < wr.heap.size := by omega
              have hnr : bn < wr.heap.size := by omega
              have hti : (t : Int) < (n : Int) := by omega
              have ht5 : (0 : Int) ≤ (t : Int) := by omega
              clear hy
              generalize B y.name = yb at *
              have hns := neq_same yb
              go_wp2_with fail
              go_quiet (fail)
              rename_i nq
              go_wp2_with fail
              go_roundw
              case rel => exact ⟨t + 1, d + nq, by omega, by go_num, by rw [Hq.out, World.drewN_drewN]⟩
              case measure => simp [intOf]; omega
            · obtain rfl : t = n := by omega
              have Hwr := Lib.hid (then_bel Hw14.out Hw14.out.size Hbr.out)
              go_wp2_with fail
              go_ret
              exact ⟨rfl, Hwr.out⟩
end Go.Proofs.YtpfhhaonfbfheaaGreatDoor.en
/- An argument that is a slice of structs whose fields take one cell each, opened: each element's cells and their readings. For any program; no conditions beside those stated. -/
namespace Go.Proofs.YtpfhhaonfbfheaaGreatDoor
open Go.ChangeShapes Go.WideShapes Go.Deep Go.RowKit
section
variable {H : Type} {enc : TypeId × Value → H} {P : Program} {w : World} {base : Nat} {spare : Nat → Bool} {held : Bool}

/-- Each element of a slice of structs: its fields' cells, read. -/
theorem open_rows {t e : TypeId} {fs : Array Field} {v : Value} {d : DataW H} {ps : List MemPlace} (ht : P.underlying t = some (.slice e)) (he : P.underlying e = some (.struct fs))
    (hone : oneCellFields P fs = true) (hC : P.cellsOf e = fs.size) (h : DataW.Trod enc P w base spare held t v d ps) (hv : v.cells.toList = [v]) :
    v = .slice none 0 0 ∨ ∃ (a : Addr) (len cap : Nat), v = .slice (some a) len cap ∧ len ≤ cap ∧ cap ≤ maxLen ∧
      ∀ i, i < len → ∀ (j : Nat) (f : Field), fs[j]? = some f → ∃ (u : Value) (y : DataW H × List MemPlace) (n : Nat), w.cell? (a.add (i * fs.size + j)) = some u ∧ DataW.trod enc P w base spare held n f.type [u] = some y := by
  obtain ⟨fuel, hf⟩ := h
  rw [hv] at hf
  rcases open_slice ht hf with ⟨h0, _⟩ | ⟨a, len, cap, m, n, D, Pl, hcs, hb, hl, hm, hmm, hx, hi⟩
  · simp only [List.cons.injEq, and_true] at h0
    exact .inl h0
  · simp only [List.cons.injEq, and_true] at hcs
    refine .inr ⟨a, len, cap, hcs, hl, hm, fun i him j f hj => ?_⟩
    have him' : i < m := by rw [hmm]; split <;> omega
    obtain ⟨cs', hc, ht'⟩ := hi i him'
    rw [hC] at hc
    obtain ⟨ys, n', hn', hy, hlen, hyl, hf'⟩ := DataW.trod_struct he ht'
    obtain ⟨_, hcl, hat⟩ := World.cells?_some hc
    obtain ⟨ho, hk⟩ := hone_of hone j f hj
    have hjl : j < fs.size := (Array.getElem?_eq_some_iff.1 hj).1
    have hcell := hat j hjl
    have h1 := hf' j f hj
    rw [ho, hk] at h1
    have hone' : (cs'.drop j).take 1 = [cs'[j]'(by omega)] := by
      rw [List.drop_eq_getElem_cons (by omega)]
      rfl
    rw [hone'] at h1
    have hys : ys[j]? = some (ys[j]'(by omega)) := List.getElem?_eq_getElem (by omega)
    exact ⟨_, _, n', by rw [← Go.Deep.add_add, hcell, List.getElem?_eq_getElem (by omega)], h1.trans hys⟩
end

/-- A cell that holds something lies in no view. -/
theorem spot_none {w : World} {a : Addr} {v : Value} (h : w.cell? a = some v) : a.spot = none := by
  unfold World.cell? at h
  split at h
  · split at h
    · cases h
    · rename_i hs
      simpa using hs
  · cases h
theorem add_none {b off k : Nat} : (⟨b, off, none⟩ : Addr).add k = ⟨b, off + k, none⟩ := by
  unfold Addr.add
  split
  · rename_i h; revert h; simp
  · rfl
end Go.Proofs.YtpfhhaonfbfheaaGreatDoor
/- Arguments that are definitions or texts, opened: what they hold, and their cells in memory. No conditions. -/
namespace Go.Proofs.YtpfhhaonfbfheaaGreatDoor.en
open Go.ChangeShapes Go.WideShapes Go.Deep Go.RowKit gl va ls ky

theorem wf_b {n : Int} (h : (Lit.int .i64 n).wf = true) : -9223372036854775808 ≤ n ∧ n ≤ 9223372036854775807 := by
  have := h
  simp [Lit.wf, IntKind.min, IntKind.max, IntKind.signed, IntKind.bits] at this
  exact this
def KeysOk (W : World) (p : Option Addr) (cap : Nat) (l : List Ky) : Prop := Kys W (.slice p l.length cap) l ∧ ∀ x ∈ l, KyI x
def TxtsOk (W : World) (p : Option Addr) (cap : Nat) (l : List (List UInt8)) : Prop := Sts W (.slice p l.length cap) l
theorem cStrE : Tryz.prog.cellsOf 9 = 1 := by kernel_rfl
instance : Inhabited Ky := ⟨⟨[], 0, [], 0, 0, []⟩⟩
theorem keys_of {H : Type} {enc : TypeId × Value → H} {W : World} {v : Value} {d : DataW H} {ps : List MemPlace} (h : DataW.Trod enc Tryz.prog W 0 (fun _ => true) true 27 v d ps) (hv : v.cells.toList = [v]) :
    ∃ p cap l, v = .slice p l.length cap ∧ l.length ≤ maxLen ∧ KeysOk W p cap l := by
  rcases open_rows Tryz.underlying27 Tryz.underlying62 (by kernel_rfl) (by kernel_rfl) h hv with h | ⟨a, len, cap, hs, hl, hm, hat⟩
  · exact ⟨none, 0, [], h, Nat.zero_le _, ⟨none, 0, rfl, Nat.le_refl _, .inl rfl⟩, fun x hx => by cases hx⟩
  · have hall : ∀ i, i < len → ∃ x : Ky, KyI x ∧ ∃ b off, a = ⟨b, off, none⟩ ∧ b < W.heap.size ∧ ∀ (j : Nat) (u : Value), (kyC x)[j]? = some u → W.cell? ⟨b, off + (i * 6 + j), none⟩ = some u := by
      intro i hi
      obtain ⟨u0, y0, n0, c0, t0⟩ := hat i hi 0 _ rfl
      obtain ⟨u1, y1, n1, c1, t1⟩ := hat i hi 1 _ rfl
      obtain ⟨u2, y2, n2, c2, t2⟩ := hat i hi 2 _ rfl
      obtain ⟨u3, y3, n3, c3, t3⟩ := hat i hi 3 _ rfl
      obtain ⟨u4, y4, n4, c4, t4⟩ := hat i hi 4 _ rfl
      obtain ⟨u5, y5, n5, c5, t5⟩ := hat i hi 5 _ rfl
      obtain ⟨s0, e0, _, _⟩ := DataW.trod_string Tryz.underlying9 t0
      obtain ⟨z1, e1, _, w1⟩ := DataW.trod_int Tryz.underlying3 t1
      obtain ⟨s2, e2, _, _⟩ := DataW.trod_string Tryz.underlying9 t2
      obtain ⟨z3, e3, _, w3⟩ := DataW.trod_int Tryz.underlying3 t3
      obtain ⟨z4, e4, _, w4⟩ := DataW.trod_int Tryz.underlying3 t4
      obtain ⟨s5, e5, _, _⟩ := DataW.trod_string Tryz.underlying9 t5
      simp only [List.cons.injEq, and_true] at e0 e1 e2 e3 e4 e5
      subst e0 e1 e2 e3 e4 e5
      obtain ⟨v0, y0', n0', z, _⟩ := hat 0 (by omega) 0 _ rfl
      have hsp : a.spot = none := by
        have := spot_none z
        simpa [Addr.add] using this
      obtain ⟨b, off, sp⟩ := a
      simp only at hsp
      subst hsp
      rw [add_none] at c0 c1 c2 c3 c4 c5
      change W.cell? ⟨b, off + (i * 6 + 0), none⟩ = _ at c0
      change W.cell? ⟨b, off + (i * 6 + 1), none⟩ = _ at c1
      change W.cell? ⟨b, off + (i * 6 + 2), none⟩ = _ at c2
      change W.cell? ⟨b, off + (i * 6 + 3), none⟩ = _ at c3
      change W.cell? ⟨b, off + (i * 6 + 4), none⟩ = _ at c4
      change W.cell? ⟨b, off + (i * 6 + 5), none⟩ = _ at c5
      refine ⟨⟨s0.data.toList, z1, s2.data.toList, z3, z4, s5.data.toList⟩, ⟨wf_b w1, wf_b w3, wf_b w4⟩, b, off, rfl, World.block_lt_of_cell? _ _ c0, fun j u hu => ?_⟩
      match j, hu with
      | 0, hu => obtain rfl := Option.some.inj hu; simp only [B_of]; exact c0
      | 1, hu => obtain rfl := Option.some.inj hu; exact c1
      | 2, hu => obtain rfl := Option.some.inj hu; simp only [B_of]; exact c2
      | 3, hu => obtain rfl := Option.some.inj hu; exact c3
      | 4, hu => obtain rfl := Option.some.inj hu; exact c4
      | 5, hu => obtain rfl := Option.some.inj hu; simp only [B_of]; exact c5
    obtain ⟨f, hf⟩ := Deep.choose_lt hall
    refine ⟨some a, cap, (List.range len).map f, by simpa using hs, by simp; omega, ⟨some a, cap, rfl, by simpa using hl, ?_⟩, fun x hx => ?_⟩
    · by_cases h0 : len = 0
      · subst h0
        exact .inl rfl
      · obtain ⟨_, b, off, rfl, hb, _⟩ := hf 0 (by omega)
        refine .inr ⟨b, off, rfl, hb, fun j x hx i u hu => ?_⟩
        simp only [List.getElem?_map, Option.map_eq_some_iff] at hx
        obtain ⟨k, hk, rfl⟩ := hx
        obtain ⟨hk1, rfl⟩ := List.getElem?_eq_some_iff.1 hk
        simp only [List.getElem_range] at hu
        obtain ⟨_, b', off', he, _, h2⟩ := hf j (by simpa using hk1)
        cases he
        exact h2 i u hu
    · obtain ⟨i, hi, rfl⟩ := List.mem_map.1 hx
      exact (hf i (List.mem_range.1 hi)).1
theorem txts_of {H : Type} {enc : TypeId × Value → H} {W : World} {v : Value} {d : DataW H} {ps : List MemPlace} (h : DataW.Trod enc Tryz.prog W 0 (fun _ => true) true 38 v d ps) (hv : v.cells.toList = [v]) :
    ∃ p cap l, v = .slice p l.length cap ∧ l.length ≤ maxLen ∧ TxtsOk W p cap l := by
  obtain ⟨fuel, hfu⟩ := h
  rw [hv] at hfu
  rcases open_slice1 Tryz.underlying38 cStrE hfu with ⟨hcs, _⟩ | ⟨a, len, cap, m, n, V, D, Pl, hcs, hb, hl, hm, hmm, _, hat⟩
  · simp only [List.cons.injEq, and_true] at hcs
    exact ⟨none, 0, [], hcs, Nat.zero_le _, ⟨none, 0, rfl, Nat.le_refl _, .inl rfl⟩⟩
  · simp only [List.cons.injEq, and_true] at hcs
    have hall : ∀ i, i < len → ∃ x : List UInt8, V i = .string (B x) := by
      intro i hi
      obtain ⟨hc, ht⟩ := hat i (by rw [hmm]; split <;> omega)
      obtain ⟨s, e3, _, w3⟩ := DataW.trod_string Tryz.underlying9 ht
      simp only [List.cons.injEq, and_true] at e3
      exact ⟨s.data.toList, by rw [B_of]; exact e3⟩
    obtain ⟨f, hf⟩ := Deep.choose_lt hall
    refine ⟨some a, cap, (List.range len).map f, by simpa using hcs, by simp; omega, some a, cap, rfl, by simpa using hl, ?_⟩
    by_cases h0 : len = 0
    · subst h0
      exact .inl rfl
    · have h1 := (hat 0 (by rw [hmm]; split <;> omega)).1
      have hsp : a.spot = none := by
        have := spot_none h1
        simpa [Addr.add] using this
      obtain ⟨b, off, s⟩ := a
      simp only at hsp
      subst hsp
      refine .inr ⟨b, off, rfl, ?_, fun j x hj i u hu => ?_⟩
      · rw [add_none] at h1
        exact World.block_lt_of_cell? _ _ h1
      · simp only [List.getElem?_map, Option.map_eq_some_iff] at hj
        obtain ⟨k, hk, rfl⟩ := hj
        obtain ⟨hk1, rfl⟩ := List.getElem?_eq_some_iff.1 hk
        simp only [List.getElem_range] at hu
        have hjl : j < len := by simpa using hk1
        have h2 := (hat j (by rw [hmm]; split <;> omega)).1
        rw [add_none, hf j hjl] at h2
        obtain rfl : i = 0 := by have := ls.lt_get hu; simp [stC] at this; omega
        have hu' : u = .string (B (f j)) := by simpa [stC] using hu.symm
        rw [hu', Nat.mul_one, Nat.add_zero]
        exact h2
end Go.Proofs.YtpfhhaonfbfheaaGreatDoor.en
