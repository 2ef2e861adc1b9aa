/- Laws and contracts on which the statement rests, part G: each text says what it proves, and its conditions. -/
import Derived.Test.YtpfhhaonfbfheaaGreatDoorMgF
import Derived.Test.YtpfhhaonfbfheaaGreatDoorMgD
import Derived.ArgAppend
import Derived.Laws.IdiomStrings
import Derived.Deep.QuietTactic
import Derived.BigQuiet
import Derived.Deep.Slices
import Derived.Deep.Fields
import Derived.ChangeSame
import Derived.Carry
import Derived.Lib.SmallJoins
import Derived.Deep.Strs
import Derived.Test.YtpfhhaonfbfheaaGreatDoorMgC
/- law 08's given tells lists that are the same; owned returns true: lists that were given lie in blocks of their own, apart from each other. Conditions: at most seven lists, in a row. -/
namespace Go.Proofs.YtpfhhaonfbfheaaGreatDoor.en
open Go.ChangeShapes Go.WideShapes Go.ChangeAt Go.RowKit gl va

theorem neq_gv_same (a b : ByteArray) (n : Int) (w : World) : (binOp .neq 35 (.agg #[.string a, .string b, .int .i64 n]) (.agg #[.string a, .string b, .int .i64 n])).run Tryz.prog w = .ok (.bool false) w := by
  rw [neq_gv]
  simp
set_option maxHeartbeats 2000000 in
set_option maxRecDepth 100000 in
/-- Lists that are the same. -/
theorem given_any (p p' : Option Addr) (m c c' : Nat) (l : List Gv) (hm : m ≤ 4294967295) (w : World) (h : Gvs w (.slice p m c) l) (h' : Gvs w (.slice p' m c') l) :
    Calls Tryz.prog 30 #[.slice p m c, .slice p' m c'] w fun e w' => e = .returned (.bool true) ∧ ∃ q, w' = w.drewN q := by
  obtain ⟨hlen, hmc, hptr⟩ := h.ptr
  obtain ⟨_, hmc', hptr'⟩ := h'.ptr
  have HS := Lib.hid h
  have HS' := Lib.hid h'
  have Hlen := Lib.hid hlen
  have Hptr := Lib.hid hptr
  have Hptr' := Lib.hid hptr'
  have hneq := neq_gv_same
  clear h h' hlen hptr hptr'
  go_enter Tryz.func30, Tryz.ntmps30
  go_wp2_with fail
  go_loopw [5] (fun i wr => ∃ j q : Nat, j ≤ m ∧ i = .int .i64 j ∧ wr = w.drewN q) (fun i _ => m - (intOf i).toNat)
  case atStart => exact ⟨0, 0, by omega, rfl, rfl⟩
  case round =>
    obtain ⟨j, q, hj, rfl, hwr⟩ := hrel
    have Hq := Lib.hid hwr
    have hbq : Below w.heap.size w wr := by rw [hwr]; exact drewN_bel w q
    have Hbq := Lib.hid hbq
    clear hwr hbq
    by_cases hlt : j < m
    · obtain ⟨b, o, rfl, hbl⟩ := Hptr.out (by omega)
      obtain ⟨b', o', rfl, hbl'⟩ := Hptr'.out (by omega)
      obtain ⟨x, hx⟩ : ∃ x, l[j]? = some x := ⟨_, List.getElem?_eq_getElem (by rw [Hlen.out]; exact hlt)⟩
      obtain ⟨c0, c1, c2⟩ := gv_cells (HS.out.later Hbq.out) hx
      obtain ⟨d0, d1, d2⟩ := gv_cells (HS'.out.later Hbq.out) hx
      have hzq := Hbq.out.size
      have hbr : b < wr.heap.size := by omega
      have hbr' : b' < wr.heap.size := by omega
      have hji : (j : Int) < (m : Int) := by omega
      have hj0 : (0 : Int) ≤ (j : Int) := by omega
      clear hx
      generalize B x.name = nm at *
      generalize B x.text = tx at *
      generalize (x.pos : Int) = ps at *
      go_wp2_with fail
      go_quiet (fail)
      rename_i nq
      go_wp2_with fail
      go_roundw
      case rel => exact ⟨j + 1, q + nq, by omega, by go_num, by rw [Hq.out, World.drewN_drewN]⟩
      case measure => simp [intOf]; omega
    · obtain rfl : j = m := by omega
      go_wp2_with fail
      go_ret
      exact ⟨rfl, q, Hq.out⟩

def markG (i : Nat) : List Value := [.string ⟨#[]⟩, .string ⟨#[]⟩, .int .i64 (-1 - (i : Int))]
theorem markG_len (i : Nat) : (markG i).length = 3 := rfl
abbrev HoldG := ls.Hold 35 3 markG
abbrev PhG := ls.Ph 35 31 3 markG 6
abbrev GrG := ls.Gr 35 3 markG
theorem infoGs : (Tryz.prog.info? 31).map (fun i => (i.zero, i.size, i.bytes)) = some (some (.slice none 0 0), 1, 24) := by kernel_rfl

set_option maxHeartbeats 8000000 in
set_option maxRecDepth 100000 in
theorem owned_any (B0 : Nat) (rs : List ls.LR) (n : Nat) (hn7 : n ≤ 7) (hlen : rs.length = n) (gl cl : Nat) (hcl : n ≤ cl) (w : World) (hB : B0 ≤ w.heap.size) (hH : HoldG B0 w.heap.size w rs 0 (ls.cntAt 0 0)) (hD : ls.Dist rs) (hL : ls.LRow 31 w gl rs) :
    Calls Tryz.prog 31 #[.slice (some ⟨gl, 0, none⟩) n cl] w fun e w' => e = .returned (.bool true) ∧ Below B0 w w' := by
  have HD := Lib.hid hD
  have Hlen := Lib.hid hlen
  obtain ⟨i0, si, sz0, sz1, sz2⟩ := info_parts infoGv
  obtain ⟨i1, hi, hz0, hz1, hz2⟩ := info_parts infoGs
  have hgl : gl < w.heap.size := hL.lt
  have HH1 := Lib.hid hH
  have HL1 := Lib.hid hL
  have HB1 : Hid (Below B0 w w) := Lib.hid (Below.refl _ _)
  clear hH hD hL hlen
  go_enter Tryz.func31, Tryz.ntmps31
  go_wp2_with fail
  go_loopw [3] (fun i wr => ∃ k2 : Nat, k2 ≤ n ∧ i = .int .i64 k2 ∧ Hid (HoldG B0 w.heap.size wr rs 0 (ls.cntAt k2 0)) ∧ Hid (ls.LRow 31 wr gl rs) ∧ Hid (Below B0 w wr)) (fun i _ => n - (intOf i).toNat)
  case atStart => exact ⟨0, by omega, rfl, HH1, HL1, HB1⟩
  case round =>
    clear HH1 HL1 HB1
    obtain ⟨k2, hk2, rfl, HHr, HLr, HBr⟩ := hrel
    by_cases hlt2 : k2 < n
    · obtain ⟨R, hR⟩ : ∃ R, rs[k2]? = some R := ⟨_, List.getElem?_eq_getElem (by rw [Hlen.out]; exact hlt2)⟩
      have HR := Lib.hid hR
      have hnr := (HHr.out k2 R (Nat.zero_le _) hR).1
      obtain ⟨pR, nR, cR⟩ := R
      simp only at hnr
      clear hR
      go_wp2_with fail
      go_loopw [4] (fun i wr => ∃ j : Nat, j ≤ nR ∧ i = .int .i64 j ∧ Hid (HoldG B0 w.heap.size wr rs 0 (ls.cntAt k2 j)) ∧ Hid (ls.LRow 31 wr gl rs) ∧ Hid (Below B0 w wr)) (fun i _ => nR - (intOf i).toNat)
      case atStart => exact ⟨0, by omega, rfl, HHr, HLr, HBr⟩
      case round =>
        clear HHr HLr HBr
        obtain ⟨j, hj, rfl, HHr, HLr, HBr⟩ := hrel
        have c1 := HLr.out.cell HR.out
        have hglr : gl < wr.heap.size := HLr.out.lt
        simp only at c1
        have hki : (k2 : Int) < (n : Int) := by omega
        have hk5 : (0 : Int) ≤ (k2 : Int) := by omega
        by_cases hltj : j < nR
        · obtain ⟨g, cs, hpR, hgB, hgM, hsb, hcs, hnc⟩ : ∃ g cs, pR = some ⟨g, 0, none⟩ ∧ B0 ≤ g ∧ g < w.heap.size ∧ ls.SB 35 wr g cs ∧ cR * 3 ≤ cs.size ∧ nR ≤ cR := by
            obtain ⟨_, h2, h3⟩ := HHr.out k2 _ (Nat.zero_le _) HR.out
            rcases h3 with ⟨_, h, _⟩ | ⟨g, cs, h1, h2', h3, h4, h5, _⟩
            · simp only at h; omega
            · exact ⟨g, cs, h1, h2', h3, h4, h5, h2⟩
          subst hpR
          have hgr : g < wr.heap.size := by have := HBr.out.size; omega
          have hat : ∀ i, i < 3 → wr.cell? ⟨g, j * 3 + i, none⟩ = some (cs[j * 3 + i]?.getD undef) := fun i hi => by
            rw [cell_in hsb, Array.getElem?_eq_getElem (by omega)]
            rfl
          have d0 := hat 0 (by omega)
          have d1 := hat 1 (by omega)
          have d2 := hat 2 (by omega)
          have e0 : wr.frozen? ⟨g, j * 3, none⟩ = false := free_in hsb
          have e1 : wr.frozen? ⟨g, j * 3 + 1, none⟩ = false := free_in hsb
          have e2 : wr.frozen? ⟨g, j * 3 + 2, none⟩ = false := free_in hsb
          rw [Nat.add_zero] at d0
          generalize cs[j * 3]?.getD undef = o0 at d0
          generalize cs[j * 3 + 1]?.getD undef = o1 at d1
          generalize cs[j * 3 + 2]?.getD undef = o2 at d2
          have HX : Hid (HoldG B0 w.heap.size (wr.setCells g (j * 3) (markG k2)) rs 0 (ls.cntAt k2 (j + 1)) ∧ ls.LRow 31 (wr.setCells g (j * 3) (markG k2)) gl rs ∧ Below B0 w (wr.setCells g (j * 3) (markG k2))) := Lib.hid
            ⟨HHr.out.mark (markG_len _) HD.out HR.out rfl hltj, HLr.out.set (by decide) hsb, ls.below_setCells hgB _ _ _ HBr.out⟩
          have hji : (j : Int) < (nR : Int) := by omega
          have hj5 : (0 : Int) ≤ (j : Int) := by omega
          clear hat hsb hcs
          go_wp2_with fail
          go_roundw
          case rel => exact ⟨j + 1, by omega, by go_num, Lib.hid HX.out.1, Lib.hid HX.out.2.1, Lib.hid HX.out.2.2⟩
          case measure => simp [intOf]; omega
        · obtain rfl : j = nR := by omega
          go_wp2_with fail
          go_roundw
          case rel => exact ⟨k2 + 1, by omega, by go_num, Lib.hid (HHr.out.next (fun S hS => by rw [HR.out] at hS; obtain rfl := Option.some.inj hS; exact Nat.le_refl _)), HLr, HBr⟩
          case measure => simp [intOf]; omega
    · obtain rfl : k2 = n := by omega
      obtain ⟨w3, hw3⟩ : ∃ w3, w3 = wr := ⟨_, rfl⟩
      have hz3 : w.heap.size ≤ w3.heap.size := by rw [hw3]; exact HBr.out.size
      have HP3 : Hid (PhG B0 w3.heap.size rs gl w w3 0 0 (.slice none 0 0) []) := Lib.hid (by
        subst hw3
        exact ⟨⟨rfl, .inl ⟨rfl, rfl⟩⟩, fun t v h => by simp at h, fun t g n c h => by simp at h, by rw [Hlen.out]; exact HHr.out.upM HBr.out.size, HLr.out, HBr.out, Nat.le_refl _⟩)
      rw [← hw3]
      clear HHr HLr HBr hw3
      have hB3 : B0 ≤ w3.heap.size := by omega
      have hgl3 : gl < w3.heap.size := by omega
      go_wp2_with fail
      go_loopw [5, 6] (fun al i wr => ∃ (k mm : Nat) (pa : Option Addr) (ca : Nat) (vals : List Value), k ≤ k2 ∧ i = .int .i64 k ∧ mm = 6 * k ∧ al = .slice pa mm ca ∧ Hid (PhG B0 w3.heap.size rs gl w wr k mm (.slice pa mm ca) vals)) (fun _ i _ => k2 - (intOf i).toNat)
      case atStart => exact ⟨0, 0, none, 0, [], by omega, rfl, rfl, rfl, HP3⟩
      case round =>
        clear HP3
        obtain ⟨k, mm, pa, ca, vals, hk, rfl, hmm, rfl, HP⟩ := hrel
        have hvl : vals.length = mm := by have := HP.out.own.1; simpa using this
        have Hvl := Lib.hid hvl
        have Hmm := Lib.hid hmm
        have hmb : mm ≤ 42 := by omega
        clear hvl hmm
        by_cases hlt : k < k2
        · obtain ⟨R, hR⟩ : ∃ R, rs[k]? = some R := ⟨_, List.getElem?_eq_getElem (by rw [Hlen.out]; exact hlt)⟩
          have c1 := HP.out.row.cell hR
          have hglr := HP.out.row.lt
          have hnr := (HP.out.rest k R (Nat.le_refl _) hR).1
          obtain ⟨h1, h2⟩ := HP.out.begin hR HD.out Hmm.out Hvl.out (by omega)
          obtain ⟨pR, nR, cR⟩ := R
          simp only at c1 hnr h2
          have HPk := Lib.hid h1
          have HGk := Lib.hid h2
          have hki : (k : Int) < (k2 : Int) := by omega
          have hk5 : (0 : Int) ≤ (k : Int) := by omega
          clear hR h1 h2
          go_wp2_with fail
          go_loopw [5, 7, 8] (fun al x i wr => ∃ (t m nx : Nat) (pa : Option Addr) (ca : Nat) (vals : List Value) (px : Option Addr) (cx : Nat), t ≤ 6 ∧ i = .int .i64 t ∧ m = 6 * k + t ∧ nx = nR + t ∧ x = .slice px nx cx ∧ al = .slice pa m ca ∧ Hid (PhG B0 w3.heap.size rs gl w wr (k + 1) m (.slice pa m ca) vals) ∧ Hid (GrG B0 w3.heap.size rs wr k vals px nx cx)) (fun _ _ i _ => 6 - (intOf i).toNat)
          case atStart => exact ⟨0, mm, nR, pa, ca, vals, pR, cR, by omega, rfl, Hmm.out, rfl, rfl, rfl, HPk, HGk⟩
          case round =>
            clear HPk HGk HP
            obtain ⟨t, m, nx, pa, ca, vals, px, cx, ht, rfl, hm, hnx, rfl, rfl, HP, HG⟩ := hrel
            have hmb2 : m ≤ 48 := by omega
            have hnb : nx ≤ 4294967310 := by omega
            have hm5 : m / 6 = k ∨ t = 6 := by omega
            have Hm := Lib.hid hm
            have Hnx := Lib.hid hnx
            have Hm5 := Lib.hid hm5
            clear hm hnx hm5
            by_cases hltt : t < 6
            · have hltt' : (t : Int) < 6 := by omega
              have hzr := HP.out.size
              focus
                go_wp2_with (at_builtin; go_must (refine wpList_append_lit rfl _ _ 54 rfl 31 i1 _ 24 Tryz.underlying54 hi hz0 hz1 hz2 rfl _ 1 (by omega) (by rfl) (by rfl) w3.heap.size _ m _ (by rfl) HP.out.own (by simp [Value.oneCell']) (by omega) (by omega) (by omega) ?_))
              intro ga' ca' w5 hown5 hgrow5 hat5 hz5 hlt5
              obtain ⟨s1, s2⟩ := HP.out.push (by decide) HG.out hown5 hgrow5 (by rcases Hm5.out with h | h <;> omega) (by omega) hgl3 hB3
              have HP5 := Lib.hid s1
              have HG5 := Lib.hid s2
              clear hown5 hgrow5 hat5 s1 s2 HP HG
              have hzr5 := HP5.out.size
              obtain ⟨W, hW⟩ : ∃ W, W = w5.alloc (.cells #[.string ⟨#[]⟩, .string ⟨#[]⟩, .int .i64 (-1 - (k : Int))] 35) := ⟨_, rfl⟩
              have hbW : Below w5.heap.size w5 W := by rw [hW]; exact (Below.refl _ _).alloc (Nat.le_refl _) _
              have hszW : W.heap.size = w5.heap.size + 1 := by rw [hW]; simp
              have hnew : ∀ (j : Nat) (u : Value), (markG k)[j]? = some u → W.cell? ((⟨w5.heap.size, 0, none⟩ : Addr).add j) = some u := fun j u hj => by
                rw [ls.addN, Nat.zero_add, hW, cell_in (heap_alloc_new w5 _)]
                show (markG k).toArray[j]? = some u
                rw [List.getElem?_toArray]
                exact hj
              have HW2 := Lib.hid hW
              have Hnew := Lib.hid hnew
              have HP2 := Lib.hid (HP5.out.below hbW hB3)
              have HG2 := Lib.hid (HG5.out.below hbW)
              clear hW hnew hbW HP5 HG5
              obtain ⟨olds, hol1, hol2, hol3, hol4⟩ := HG2.out.xs.olds markG_len (by omega)
              have Hol1 := Lib.hid hol1
              have Hol2 := Lib.hid hol2
              have Hol3 := Lib.hid hol3
              have Hol4 := Lib.hid hol4
              have hcx := HG2.out.xs.le
              clear hol1 hol2 hol3 hol4
              rcases (show nx + 1 ≤ cx ∨ cx < nx + 1 by omega) with hroom | hfull
              · obtain ⟨gx, cs, rfl, hsb, hcs⟩ : ∃ gx cs, px = some ⟨gx, 0, none⟩ ∧ ls.SB 35 W gx cs ∧ cx * 3 ≤ cs.size := by
                  rcases HG2.out.xs with ⟨_, _, h⟩ | ⟨g, cs, h1, h2, _, h3, _⟩
                  · omega
                  · exact ⟨g, cs, h1, h2, h3⟩
                have HSB := Lib.hid hsb
                have Hroom := Lib.hid hroom
                obtain ⟨r1, r2⟩ := HP2.out.room (by decide) markG_len HD.out HG2.out hroom
                have HP3 := Lib.hid r1
                have HG3 := Lib.hid r2
                clear hsb hroom r1 r2
                focus
                  go_wp2_with (at_builtin; go_must (refine wpList_append_arg _ rfl (.tmp 53) (.tmp 57) 31 rfl 35 i0 (.agg #[.string .empty, .string .empty, .int .i64 0]) 3 40 Tryz.underlying31 si sz0 sz1 sz2 rfl (by decide) gx 0 nx cx olds rfl Hol1.out ?c0 ⟨w5.heap.size, 0, none⟩ 1 1 (markG k) rfl rfl ?c1 ?c2 ?c3 (by unfold maxLen; omega) (by omega) ?room ?grow))
                case c0 => rw [← HW2.out]; exact fun j u hj => by have := Hol3.out _ rfl j u hj; rwa [ls.addN] at this
                case c1 => rw [← HW2.out]; exact Hnew.out
                case c2 => simp [markG, Value.oneCell']
                case c3 =>
                  rw [← HW2.out]
                  intro _ j hj
                  rw [markG_len] at hj
                  have hr := Hroom.out
                  rw [cell_in HSB.out, Array.getElem?_eq_getElem (by omega)]
                  exact ⟨rfl, free_in HSB.out⟩
                case grow => intro h; have := Hroom.out; omega
                case room =>
                  intro _
                  rw [← HW2.out]
                  try rw [Nat.zero_add]
                  generalize W.setCells gx (nx * 3) (markG k) = W3 at *
                  go_wp2_with fail
                  go_roundw
                  case rel => exact ⟨t + 1, m + 1, nx + 1, some ⟨ga', 0, none⟩, ca', _, _, _, by omega, by go_num, by have := Hm.out; omega, by have := Hnx.out; omega, rfl, rfl, HP3, HG3⟩
                  case measure => simp [intOf]; omega
              · focus
                  go_wp2_with (at_builtin; go_must (refine wpList_append_grows _ rfl (.tmp 53) (.tmp 57) 31 rfl 35 i0 (.agg #[.string .empty, .string .empty, .int .i64 0]) 3 40 Tryz.underlying31 si sz0 sz1 sz2 rfl (by decide) px nx cx olds rfl (fun h => Hol4.out h) Hol1.out ?d0 ⟨w5.heap.size, 0, none⟩ 1 1 (markG k) rfl rfl ?d1 ?d2 hfull (by unfold maxLen; omega) (by omega) ?dgrow))
                case d0 => rw [← HW2.out]; exact fun b hb j u hj => Hol3.out b hb j u hj
                case d1 => rw [← HW2.out]; exact Hnew.out
                case d2 => simp [markG, Value.oneCell']
                case dgrow =>
                  rw [← HW2.out]
                  intro v' w' hown hgrow
                  try rw [← hszW] at hown
                  have hown' : w'.ownsRow W.heap.size 35 3 v' (nx + 1) (olds ++ markG k) := by first | exact hown | (rw [hszW]; exact hown)
                  obtain ⟨gx, cx', rfl, hg3⟩ := HG2.out.grow markG_len (by omega) HP2.out.ents hown' (Nat.le_refl _) HP2.out.size hB3 Hol1.out Hol2.out
                  have HP3 := Lib.hid (HP2.out.below (ls.below_none hgrow) hB3)
                  have HG3 := Lib.hid hg3
                  clear hown hown' hgrow hg3
                  go_wp2_with fail
                  go_roundw
                  case rel => exact ⟨t + 1, m + 1, nx + 1, some ⟨ga', 0, none⟩, ca', _, _, _, by omega, by go_num, by have := Hm.out; omega, by have := Hnx.out; omega, rfl, rfl, HP3, HG3⟩
                  case measure => simp [intOf]; omega
            · obtain rfl : t = 6 := by omega
              go_wp2_with fail
              go_roundw
              case rel => exact ⟨k + 1, m, pa, ca, vals, by omega, by go_num, by have := Hm.out; omega, rfl, HP⟩
              case measure => simp [intOf]; omega
        · obtain rfl : k = k2 := by omega
          obtain ⟨w4, hw4⟩ : ∃ w4, w4 = wr := ⟨_, rfl⟩
          have HP4 : Hid (PhG B0 w3.heap.size rs gl w w4 k mm (.slice pa mm ca) vals) := by rw [hw4]; exact HP
          rw [← hw4]
          clear HP hw4
          have hmca : mm ≤ ca := by
            rcases HP4.out.own.2 with ⟨h, h0⟩ | ⟨g, cap, cur, h, _, _, h2, _⟩
            · cases h; omega
            · cases h; exact h2
          have HPA : Hid (0 < mm → ∃ ga, pa = some ⟨ga, 0, none⟩ ∧ ∀ (i : Nat) v, vals[i]? = some v → w4.cell? ⟨ga, i, none⟩ = some v) := Lib.hid fun h0 => by
            rcases HP4.out.own.2 with ⟨_, h⟩ | ⟨g, cap, cur, h, _⟩
            · omega
            · cases h
              refine ⟨g, rfl, fun i v hv => ?_⟩
              have := HP4.out.own.cells (g := g) rfl i v hv
              rwa [ls.addN, Nat.zero_add] at this
          go_wp2_with fail
          go_loopw [9] (fun i wr => ∃ t : Nat, t ≤ mm ∧ i = .int .i64 t ∧ wr = w4) (fun i _ => mm - (intOf i).toNat)
          case atStart => exact ⟨0, by omega, rfl, rfl⟩
          case round =>
            obtain ⟨t, ht, rfl, rfl⟩ := hrel
            by_cases hltt : t < mm
            · obtain ⟨ga, rfl, hvals⟩ := HPA.out (by omega)
              obtain ⟨v, hv⟩ : ∃ v, vals[t]? = some v := ⟨_, List.getElem?_eq_getElem (by rw [Hvl.out]; exact hltt)⟩
              have hcv := hvals t v hv
              have hent := HP4.out.ents t v hv
              obtain ⟨p, nv, cv, rfl, hnv, hncv, hall⟩ := hent
              have Hall := Lib.hid hall
              have hga : ga < wr.heap.size := World.block_lt_of_cell? _ _ hcv
              have hti : (t : Int) < (mm : Int) := by omega
              have ht5 : (0 : Int) ≤ (t : Int) := by omega
              clear hv hall hvals
              go_wp2_with fail
              go_loopw [10] (fun i wx => ∃ j : Nat, j ≤ nv ∧ i = .int .i64 j ∧ wx = wr) (fun i _ => nv - (intOf i).toNat)
              case atStart => exact ⟨0, by omega, rfl, rfl⟩
              case round =>
                obtain ⟨j, hj, rfl, rfl⟩ := hrel
                by_cases hltj : j < nv
                · obtain ⟨g, cs, rfl, hsb, hat⟩ : ∃ g cs, p = some ⟨g, 0, none⟩ ∧ ls.SB 35 wr g cs ∧ ls.At cs (j * 3) (markG (t / 6)) := by
                    rcases Hall.out with h | ⟨g, cs, h1, h2, h3⟩
                    · omega
                    · exact ⟨g, cs, h1, h2, h3 j hltj⟩
                  have hlg : g < wr.heap.size := lt_of_block hsb
                  have d2 : wr.cell? ⟨g, j * 3 + 2, none⟩ = some (.int .i64 (-1 - ((t / 6 : Nat) : Int))) := by rw [cell_in hsb]; exact hat 2 _ rfl
                  have hdiv : (t : Int).tdiv 6 = ((t / 6 : Nat) : Int) := by rw [Int.tdiv_eq_ediv_of_nonneg (by omega)]; omega
                  have hdiv2 : (t : Int) / 6 = ((t / 6 : Nat) : Int) := by omega
                  have hk64 : IntKind.i64.wrap (((t / 6 : Nat) : Int)) = ((t / 6 : Nat) : Int) := IntWalk.i64_in _ (by omega)
                  have hk5 : t / 6 ≤ 8 := by omega
                  have hji : (j : Int) < (nv : Int) := by omega
                  have hj5 : (0 : Int) ≤ (j : Int) := by omega
                  clear hsb hat
                  generalize t / 6 = t5 at *
                  go_wp2_with fail
                  go_roundw
                  case rel => exact ⟨j + 1, by omega, by go_num, by first | rfl | trivial⟩
                  case measure => simp [intOf]; omega
                · obtain rfl : j = nv := by omega
                  go_wp2_with fail
                  go_roundw
                  case rel => exact ⟨t + 1, by omega, by go_num, by first | rfl | trivial⟩
                  case measure => simp [intOf]; omega
            · obtain rfl : t = mm := by omega
              go_wp2_with fail
              go_ret
              exact ⟨rfl, HP4.out.bel⟩
end Go.Proofs.YtpfhhaonfbfheaaGreatDoor.en
/- law 08: textsWeigh, keysWeigh: what weighs little has short texts. Conditions: lists of at most 9223372036854775807 elements. -/
namespace Go.Proofs.YtpfhhaonfbfheaaGreatDoor.en
open Go.ChangeShapes Go.WideShapes Go.ChangeAt Go.RowKit gl va ls ky

def addU (n m : Int) : Int := if 2147483647 < n ∨ 2147483647 < m then 2147483648 else n + m
theorem addU_nn {n m : Int} (hn : 0 ≤ n) (hm : 0 ≤ m) : 0 ≤ addU n m := by unfold addU; split <;> omega
theorem addU_bd (n m : Int) : addU n m ≤ 4294967294 := by unfold addU; split <;> omega
theorem addU_sum {n m : Int} (h : addU n m ≤ 2147483647) : addU n m = n + m ∧ n ≤ 2147483647 ∧ m ≤ 2147483647 := by
  unfold addU at h ⊢
  split at h
  · omega
  · rename_i h2
    rw [if_neg h2]
    omega
def WT (l : List (List UInt8)) (N : Int) : Prop := 0 ≤ N ∧ N ≤ 4294967294 ∧ (N ≤ 2147483647 → (l.length : Int) ≤ N ∧ ∀ x ∈ l, (x.length : Int) ≤ N)
def WTo (l : List (List UInt8)) (k : Nat) (N : Int) : Prop := N ≤ 2147483647 → (l.length : Int) ≤ N ∧ ∀ (j : Nat) (x : List UInt8), j < k → l[j]? = some x → (x.length : Int) ≤ N
theorem WTo.next {l : List (List UInt8)} {k : Nat} {N : Int} {x : List UInt8} (h : WTo l k N) (h0 : 0 ≤ N) (hx : l[k]? = some x) : WTo l (k + 1) (addU N ((B x).size : Int)) := by
  intro hN
  obtain ⟨h1, h2, h3⟩ := addU_sum hN
  rw [h1, B_size]
  obtain ⟨h4, h5⟩ := h h2
  refine ⟨by omega, fun j y hj hy => ?_⟩
  rcases Nat.lt_or_ge j k with h7 | h7
  · have := h5 j y h7 hy; omega
  · obtain rfl : j = k := by omega
    rw [hx] at hy
    obtain rfl := Option.some.inj hy
    omega
theorem WTo.done {l : List (List UInt8)} {k : Nat} {N : Int} (h : WTo l k N) (hk : l.length ≤ k ∨ 2147483647 < N) (h0 : 0 ≤ N) (h1 : N ≤ 4294967294) : WT l N := by
  refine ⟨h0, h1, fun hN => ⟨(h hN).1, fun x hx => ?_⟩⟩
  obtain ⟨j, hj⟩ := List.mem_iff_getElem?.1 hx
  exact (h hN).2 j x (by have := lt_get hj; omega) hj
set_option maxHeartbeats 4000000 in
set_option maxRecDepth 100000 in
theorem textsWeigh_any (p : Option Addr) (m c : Nat) (l : List (List UInt8)) (hm : m ≤ 9223372036854775807) (w : World) (h : Sts w (.slice p m c) l) :
    Calls Tryz.prog 24 #[.slice p m c] w fun e w' => (∃ N : Int, e = .returned (.int .i64 N) ∧ WT l N) ∧ w' = w := by
  obtain ⟨hlen, hmc, hptr⟩ := h.ptr
  have HL := Lib.hid h
  have Hlen := Lib.hid hlen
  have HP := Lib.hid hptr
  have HA : Hid (∀ (a b : Int) W, 0 ≤ a → 0 ≤ b → Calls Tryz.prog 19 #[.int .i64 a, .int .i64 b] W fun e w' => e = .returned (.int .i64 (addU a b)) ∧ w' = W) := Lib.hid fun a b W ha hb => sumUp_any a b ha hb W
  have H0 : Hid (WTo l 0 (addU 0 (m : Int))) := Lib.hid (fun hN => ⟨by have := addU_sum hN; omega, fun j x hj => by omega⟩)
  have hb0 := addU_nn (n := 0) (m := (m : Int)) (by omega) (by omega)
  have hb1 := addU_bd 0 (m : Int)
  have HA0 := Lib.hid (HA.out 0 (m : Int) w (by omega) (by omega))
  clear h hlen hptr
  generalize addU 0 (m : Int) = N0 at *
  go_enter Tryz.func24, Tryz.ntmps24
  go_wp2_with fail
  refine HA0.out.mono ?_
  rintro e w1 ⟨rfl, hw⟩
  obtain rfl : w = w1 := hw.symm
  go_wp2_with fail
  go_loopw [3, 4] (fun v i wr => ∃ (k : Nat) (N : Int), k ≤ m ∧ i = .int .i64 k ∧ v = .int .i64 N ∧ 0 ≤ N ∧ N ≤ 4294967294 ∧ Hid (WTo l k N) ∧ wr = w) (fun _ i _ => m - (intOf i).toNat)
  case atStart => exact ⟨0, _, by omega, rfl, rfl, hb0, hb1, H0, rfl⟩
  case round =>
    clear hb0 hb1 H0 HA0
    obtain ⟨k, N, hk, rfl, rfl, hN0, hN1, HW, hwr⟩ := hrel
    obtain rfl : w = wr := hwr.symm
    by_cases hlt : k < m
    · have q1 : decide ((k : Int) < (m : Int)) = true := by rw [decide_eq_true_iff]; omega
      have q2 : decide (k < m) = true := by rw [decide_eq_true_iff]; omega
      by_cases hNb : N ≤ 2147483647
      · have q3 : decide (N ≤ 2147483647) = true := by rw [decide_eq_true_iff]; omega
        obtain ⟨b, o, rfl, hbl⟩ := HP.out (by omega)
        obtain ⟨x, hx⟩ : ∃ x, l[k]? = some x := ⟨_, List.getElem?_eq_getElem (by rw [Hlen.out]; exact hlt)⟩
        have e0 := st_cell HL.out hx
        have hki : (k : Int) < (m : Int) := by omega
        have hk5 : (0 : Int) ≤ (k : Int) := by omega
        have HX := Lib.hid (HW.out.next hN0 hx)
        have HAx := Lib.hid (HA.out N ((B x).size : Int) w hN0 (by omega))
        have hn0 := addU_nn (n := N) (m := ((B x).size : Int)) hN0 (by omega)
        have hn1 := addU_bd N ((B x).size : Int)
        clear hx
        generalize addU N ((B x).size : Int) = N2 at *
        generalize B x = y1 at *
        go_wp2_with fail
        refine HAx.out.mono ?_
        rintro e w2 ⟨rfl, hw2⟩
        obtain rfl : w = w2 := hw2.symm
        go_wp2_with fail
        go_roundw
        case rel => exact ⟨k + 1, _, by omega, by go_num, rfl, hn0, hn1, HX, by first | rfl | trivial⟩
        case measure => simp [intOf]; omega
      · have q3 : decide (N ≤ 2147483647) = false := by rw [decide_eq_false_iff_not]; omega
        go_wp2_with fail
        go_ret
        exact ⟨⟨_, rfl, HW.out.done (.inr (by omega)) hN0 hN1⟩, rfl⟩
    · have q1 : decide ((k : Int) < (m : Int)) = false := by rw [decide_eq_false_iff_not]; omega
      have q2 : decide (k < m) = false := by rw [decide_eq_false_iff_not]; omega
      go_wp2_with fail
      go_ret
      exact ⟨⟨_, rfl, HW.out.done (.inl (by rw [Hlen.out]; omega)) hN0 hN1⟩, rfl⟩

def KySz (x : Ky) (N : Int) : Prop := (x.name.length : Int) ≤ N ∧ (x.dflt.length : Int) ≤ N ∧ (x.letter.length : Int) ≤ N
def WK (l : List Ky) (N : Int) : Prop := 0 ≤ N ∧ N ≤ 4294967294 ∧ (N ≤ 2147483647 → (l.length : Int) ≤ N ∧ ∀ x ∈ l, KySz x N)
def WKo (l : List Ky) (k : Nat) (N : Int) : Prop := N ≤ 2147483647 → (l.length : Int) ≤ N ∧ ∀ (j : Nat) (x : Ky), j < k → l[j]? = some x → KySz x N
theorem WKo.next {l : List Ky} {k : Nat} {N : Int} {x : Ky} (h : WKo l k N) (_h0 : 0 ≤ N) (hx : l[k]? = some x) : WKo l (k + 1) (addU N (addU ((B x.name).size : Int) (addU ((B x.dflt).size : Int) ((B x.letter).size : Int)))) := by
  intro hN
  obtain ⟨h1, h2, h3⟩ := addU_sum hN
  obtain ⟨h4, h5, h6⟩ := addU_sum h3
  obtain ⟨h7, h8, h9⟩ := addU_sum h6
  rw [h1, h4, h7, B_size, B_size, B_size]
  obtain ⟨h10, h11⟩ := h h2
  refine ⟨by omega, fun j y hj hy => ?_⟩
  rcases Nat.lt_or_ge j k with h12 | h12
  · obtain ⟨a, b, c⟩ := h11 j y h12 hy
    exact ⟨by omega, by omega, by omega⟩
  · obtain rfl : j = k := by omega
    rw [hx] at hy
    obtain rfl := Option.some.inj hy
    exact ⟨by omega, by omega, by omega⟩
theorem WKo.done {l : List Ky} {k : Nat} {N : Int} (h : WKo l k N) (hk : l.length ≤ k ∨ 2147483647 < N) (h0 : 0 ≤ N) (h1 : N ≤ 4294967294) : WK l N := by
  refine ⟨h0, h1, fun hN => ⟨(h hN).1, fun x hx => ?_⟩⟩
  obtain ⟨j, hj⟩ := List.mem_iff_getElem?.1 hx
  exact (h hN).2 j x (by have := lt_get hj; omega) hj
theorem sum_same (a b : Int) (W : World) (ha : 0 ≤ a) (hb : 0 ≤ b) : Calls Tryz.prog 19 #[.int .i64 a, .int .i64 b] W fun e w' => e = .returned (.int .i64 (addU a b)) ∧ w' = W := sumUp_any a b ha hb W
set_option maxHeartbeats 4000000 in
set_option maxRecDepth 100000 in
theorem keysWeigh_any (p : Option Addr) (m c : Nat) (l : List Ky) (hm : m ≤ 9223372036854775807) (w : World) (h : Kys w (.slice p m c) l) :
    Calls Tryz.prog 23 #[.slice p m c] w fun e w' => (∃ N : Int, e = .returned (.int .i64 N) ∧ WK l N) ∧ Below w.heap.size w w' := by
  obtain ⟨hlen, hmc, hptr⟩ := h.ptr
  have HL := Lib.hid h
  have Hlen := Lib.hid hlen
  have HP := Lib.hid hptr
  have H0 : Hid (WKo l 0 (addU 0 (m : Int))) := Lib.hid (fun hN => ⟨by have := addU_sum hN; omega, fun j x hj => by omega⟩)
  have hb0 := addU_nn (n := 0) (m := (m : Int)) (by omega) (by omega)
  have hb1 := addU_bd 0 (m : Int)
  have HA0 := Lib.hid (sum_same 0 (m : Int) w (by omega) (by omega))
  clear h hlen hptr
  generalize addU 0 (m : Int) = N0 at *
  go_enter Tryz.func23, Tryz.ntmps23
  go_wp2_with fail
  refine HA0.out.mono ?_
  rintro e w1 ⟨rfl, hw⟩
  obtain rfl : w = w1 := hw.symm
  go_wp2_with fail
  go_loopw [3, 4] (fun v i wr => ∃ (k : Nat) (N : Int), k ≤ m ∧ i = .int .i64 k ∧ v = .int .i64 N ∧ 0 ≤ N ∧ N ≤ 4294967294 ∧ Hid (WKo l k N) ∧ Hid (Below w.heap.size w wr)) (fun _ i _ => m - (intOf i).toNat)
  case atStart => exact ⟨0, _, by omega, rfl, rfl, hb0, hb1, H0, Lib.hid (Below.refl _ _)⟩
  case round =>
    clear hb0 hb1 H0 HA0
    obtain ⟨k, N, hk, rfl, rfl, hN0, hN1, HW, Hb⟩ := hrel
    by_cases hlt : k < m
    · have q1 : decide ((k : Int) < (m : Int)) = true := by rw [decide_eq_true_iff]; omega
      have q2 : decide (k < m) = true := by rw [decide_eq_true_iff]; omega
      by_cases hNb : N ≤ 2147483647
      · have q3 : decide (N ≤ 2147483647) = true := by rw [decide_eq_true_iff]; omega
        obtain ⟨b, o, rfl, hbl⟩ := HP.out (by omega)
        obtain ⟨x, hx⟩ : ∃ x, l[k]? = some x := ⟨_, List.getElem?_eq_getElem (by rw [Hlen.out]; exact hlt)⟩
        obtain ⟨e0, e1, e2, e3, e4, e5⟩ := ky_cells (HL.out.later Hb.out) hx
        have hki : (k : Int) < (m : Int) := by omega
        have hk5 : (0 : Int) ≤ (k : Int) := by omega
        have hzr := Hb.out.size
        have hbr : b < wr.heap.size := by omega
        have HX := Lib.hid (HW.out.next hN0 hx)
        have g2 := addU_nn (n := ((B x.dflt).size : Int)) (m := ((B x.letter).size : Int)) (by omega) (by omega)
        have g1 := addU_nn (n := ((B x.name).size : Int)) (by omega) g2
        have hn0 := addU_nn hN0 g1
        clear hx
        generalize B x.name = y1 at *
        generalize B x.dflt = y2 at *
        generalize B x.letter = y3 at *
        go_wp2_with fail
        go_quiet ((go_at_call 19; exact Calls.quiet_of_same (sum_same _ _ _ (by first | omega | assumption) (by first | omega | assumption))))
        go_wp2_with fail
        go_roundw
        case rel => exact ⟨k + 1, _, by omega, by go_num, rfl, hn0, addU_bd _ _, HX, Lib.hid (Hb.out.trans ((drewN_bel _ _).mono Hb.out.size))⟩
        case measure => simp [intOf]; omega
      · have q3 : decide (N ≤ 2147483647) = false := by rw [decide_eq_false_iff_not]; omega
        go_wp2_with fail
        go_ret
        exact ⟨⟨_, rfl, HW.out.done (.inr (by omega)) hN0 hN1⟩, Hb.out⟩
    · have q1 : decide ((k : Int) < (m : Int)) = false := by rw [decide_eq_false_iff_not]; omega
      have q2 : decide (k < m) = false := by rw [decide_eq_false_iff_not]; omega
      go_wp2_with fail
      go_ret
      exact ⟨⟨_, rfl, HW.out.done (.inl (by rw [Hlen.out]; omega)) hN0 hN1⟩, Hb.out⟩
end Go.Proofs.YtpfhhaonfbfheaaGreatDoor.en
/- EnvParses returns true: any pairs, of any set or of the standard one. Conditions: arguments that lie in memory as their lists; the listed variables hold what the program's text lays. -/
namespace Go.Proofs.YtpfhhaonfbfheaaGreatDoor.en
open Go.ChangeShapes Go.WideShapes Go.ChangeAt Go.RowKit gl va ls ky

theorem parse_len (names : List (List UInt8)) : ∀ (pairs : List (List UInt8)) (k : Nat) (out : List Gv), (parseL names k pairs out).1.length ≤ out.length + pairs.length
  | [], _, _ => by simp [parseL]
  | p :: r, k, out => by
    rw [parseL]
    split
    · simp
    · refine Nat.le_trans (parse_len names r _ _) ?_
      simp only [List.length_cons]; omega
    · refine Nat.le_trans (parse_len names r _ _) ?_
      simp only [List.length_cons, List.length_append, List.length_nil]; omega
theorem newG_upd {M : Nat} {w w' : World} {S : List Nat} {v : Value} {l : List Gv} (h : NewGvs M w v l) (hu : Upd S w w') (hS : ∀ k ∈ S, k < M) : NewGvs M w' v l := by
  rcases h with h | ⟨g, c, cs, h1, h2, h3, h4, h5⟩
  · exact .inl h
  · exact .inr ⟨g, c, cs, h1, h2, h3, hu.obj h4 (fun hm => by have := hS g hm; omega), h5⟩
/-- Numbers that may be. -/
def KyI (x : Ky) : Prop := (-9223372036854775808 ≤ x.kind ∧ x.kind ≤ 9223372036854775807) ∧ (-9223372036854775808 ≤ x.least ∧ x.least ≤ 9223372036854775807) ∧ (-9223372036854775808 ≤ x.most ∧ x.most ≤ 9223372036854775807)
theorem ky_ok {x : Ky} {N : Int} (h : KyI x) (hs : KySz x N) (hN : N ≤ 2147483647) : KyOk x := ⟨by have := hs.1; omega, by have := hs.2.1; omega, by have := hs.2.2; omega, h.1, h.2.1, h.2.2⟩
/-- A list that is asked for. -/
structure Ask where
  p : Option Addr
  n : Nat
  c : Nat
  l : List (List UInt8)
theorem infoSs : (Tryz.prog.info? 38).map (fun i => (i.zero, i.size, i.bytes)) = some (some (.slice none 0 0), 1, 24) := by kernel_rfl
theorem neq_same (x : ByteArray) : (x.toList != x.toList) = false := by simp

set_option maxHeartbeats 16000000 in
set_option maxRecDepth 100000 in
theorem parses_walk (pk : Option Addr) (nk ck : Nat) (l : List Ky) (hnk : l.length = nk) (hnk63 : nk ≤ 9223372036854775807) (hKi : ∀ x ∈ l, KyI x) (std : Bool) (pp : Option Addr) (np cp : Nat) (pairs : List (List UInt8)) (hnp : pairs.length = np) (hnp63 : np ≤ 9223372036854775807)
    (po : Option Addr) (no co : Nat) (other : List (List UInt8)) (hno : other.length = no) (hno63 : no ≤ 9223372036854775807) (w : World) (hK : Kys w (.slice pk nk ck) l) (hP : Sts w (.slice pp np cp) pairs) (hO : Sts w (.slice po no co) other) (hV : Vlo w) :
    Calls Tryz.prog 6 #[.slice pk nk ck, .bool std, .slice pp np cp, .slice po no co] w fun e w' => e = .returned (.bool true) ∧ Below w.heap.size w w' := by
  obtain ⟨i1, hi, hz0, hz1, hz2⟩ := info_parts infoGs
  have HV := Lib.hid fun W (h : Below w.heap.size w W) => hV.below h (Nat.le_refl _)
  have HK := Lib.hid hK
  have HP := Lib.hid hP
  have HO := Lib.hid hO
  have Hnk := Lib.hid hnk
  have Hnp := Lib.hid hnp
  have Hno := Lib.hid hno
  have HKi := Lib.hid hKi
  have HWk := Lib.hid (keysWeigh_any pk nk ck l hnk63 w hK)
  have HWp := Lib.hid fun W (h : Below w.heap.size w W) => textsWeigh_any pp np cp pairs hnp63 W (hP.later h)
  have HWo := Lib.hid fun W (h : Below w.heap.size w W) => textsWeigh_any po no co other hno63 W (hO.later h)
  have HAw := Lib.hid fun W (h : Below w.heap.size w W) => awoke_any W (hV.below h (Nat.le_refl _))
  clear hK hP hO hV hnk hnp hno hKi
  go_enter Tryz.func6, Tryz.ntmps6
  go_wp2_with fail
  refine HWk.out.mono ?_
  rintro e w1 ⟨⟨N1, rfl, hN1⟩, hb1⟩
  have Hb1 := Lib.hid hb1
  have HN1 := Lib.hid hN1
  have n10 := hN1.1
  clear hb1 hN1 HWk
  go_wp2_with fail
  refine (HWp.out _ Hb1.out).mono ?_
  rintro e w2 ⟨⟨N2, rfl, hN2⟩, rfl⟩
  have HN2 := Lib.hid hN2
  have n20 := hN2.1
  clear hN2 HWp
  go_wp2_with fail
  refine (HWo.out _ Hb1.out).mono ?_
  rintro e w3 ⟨⟨N3, rfl, hN3⟩, rfl⟩
  have HN3 := Lib.hid hN3
  have n30 := hN3.1
  clear hN3 HWo
  go_wp2_with fail
  refine (sum_same N2 N3 _ n20 n30).mono ?_
  rintro e w4 ⟨rfl, rfl⟩
  have n40 := addU_nn n20 n30
  have HS2 := Lib.hid (@addU_sum N2 N3)
  generalize addU N2 N3 = S2 at *
  go_wp2_with fail
  refine (sum_same N1 S2 _ n10 n40).mono ?_
  rintro e w5 ⟨rfl, rfl⟩
  have n50 := addU_nn n10 n40
  have HS1 := Lib.hid (@addU_sum N1 S2)
  generalize addU N1 S2 = S1 at *
  by_cases hbig : 2147483647 < S1
  · go_wp2_with fail
    go_ret
    exact ⟨rfl, Hb1.out⟩
  have hS1 : S1 ≤ 2147483647 := by omega
  have hsz : Hid (N1 ≤ 2147483647 ∧ N2 ≤ 2147483647 ∧ N3 ≤ 2147483647) := Lib.hid (by
    obtain ⟨_, h1, h2⟩ := HS1.out hS1
    obtain ⟨_, h3, h4⟩ := HS2.out h2
    exact ⟨h1, h3, h4⟩)
  have HZk := Lib.hid (HN1.out.2.2 hsz.out.1)
  have HZp := Lib.hid (HN2.out.2.2 hsz.out.2.1)
  have HZo := Lib.hid (HN3.out.2.2 hsz.out.2.2)
  have hnp31 : np ≤ 2147483647 := by have := HZp.out.1; rw [Hnp.out] at this; have := hsz.out.2.1; omega
  have hno31 : no ≤ 2147483647 := by have := HZo.out.1; rw [Hno.out] at this; have := hsz.out.2.2; omega
  have hnk31 : nk ≤ 2147483647 := by have := HZk.out.1; rw [Hnk.out] at this; have := hsz.out.1; omega
  have Hpl : Hid (∀ x ∈ pairs, x.length ≤ 2147483647) := Lib.hid fun x hx => by have := HZp.out.2 x hx; have := hsz.out.2.1; omega
  have Hol : Hid (∀ x ∈ other, x.length ≤ 2147483647) := Lib.hid fun x hx => by have := HZo.out.2 x hx; have := hsz.out.2.2; omega
  have HMd := Lib.hid fun W (h : Below w.heap.size w W) => made_any pk nk ck l std Hnk.out hnk31 (fun x hx => ky_ok (HKi.out x hx) (HZk.out.2 x hx) hsz.out.1) W (HK.out.later h) (HV.out W h)
  clear HZk HZp HZo HS1 HS2 HN1 HN2 HN3 hbig n10 n20 n30 n40 n50
  go_wp2_with fail
  refine (HAw.out _ Hb1.out).mono ?_
  rintro e w6 ⟨rfl, hb6⟩
  have Hb6 := Lib.hid (then_bel Hb1.out Hb1.out.size hb6)
  clear hb6 hS1
  go_wp2_with fail
  refine (HMd.out _ Hb6.out).mono ?_
  rintro e w7 ⟨⟨b, v7, rfl, hS7, hn7⟩, hb7⟩
  have HNm := Lib.hid (named_made std l)
  obtain ⟨S, hS⟩ : ∃ S, S = madeS std l := ⟨_, rfl⟩
  rw [← hS] at hS7 hn7 HNm
  clear hS HMd
  have hlen := hS7.len
  obtain ⟨pv, cv, hv7⟩ := hn7.form
  rw [List.length_map] at hv7
  obtain ⟨n, hn⟩ : ∃ n, n = S.length := ⟨_, rfl⟩
  rw [← hn] at hv7 hlen
  obtain rfl := hv7
  have HSn := Lib.hid hn
  have HS7 := Lib.hid hS7
  have Hb7 := Lib.hid (then_bel Hb6.out Hb6.out.size hb7)
  obtain ⟨nms, hnms⟩ : ∃ nms, nms = S.map (·.name) := ⟨_, rfl⟩
  rw [← hnms] at hn7
  have Hnms := Lib.hid hnms
  have HnS : Hid (Sts w7 (.slice pv n cv) nms) := Lib.hid (hn7.rw stC_len)
  have Hnl : Hid (nms.length = n) := Lib.hid (by rw [hnms, List.length_map, hn])
  have Hn32 : Hid (∀ x ∈ nms, x.length ≤ 2147483646) := Lib.hid fun x hx => by
    rw [hnms] at hx
    obtain ⟨y, hy, rfl⟩ := List.mem_map.1 hx
    have := name_len (HNm.out y hy)
    omega
  clear hn hS7 hn7 hb7 hnms
  obtain ⟨g0, hg0⟩ : ∃ g0, g0 = w7.heap.size := ⟨_, rfl⟩
  obtain ⟨wL, hwL⟩ : ∃ wL, wL = w7.alloc (.cells #[.slice pp np cp, .slice pp np cp, .slice po no co, .slice pp np cp] 38) := ⟨_, rfl⟩
  have hkL : wL.heap[w7.heap.size]? = some (.cells #[.slice pp np cp, .slice pp np cp, .slice po no co, .slice pp np cp] 38 (0, 0)) := by rw [hwL]; exact heap_alloc_new w7 _
  have hbL : Below w7.heap.size w7 wL := by rw [hwL]; exact (Below.refl _ _).alloc (Nat.le_refl _) _
  go_upto_region 8 with fail
  refine go_name2 (fun wM hwM => ?_)
  obtain rfl : wL = wM := hwL.trans hwM.symm
  rw [← hg0] at hkL ⊢
  have HkL := Lib.hid hkL
  have HbL := Lib.hid (then_bel Hb7.out Hb7.out.size hbL)
  have HSL := Lib.hid (HS7.out.later hbL)
  have HnL := Lib.hid (HnS.out.later hbL)
  have hgL : g0 < wL.heap.size := lt_of_block hkL
  clear hwL hkL hbL hwM hg0 HS7 HnS
  obtain ⟨asks, hasks⟩ : ∃ asks : List Ask, asks = [⟨pp, np, cp, pairs⟩, ⟨pp, np, cp, pairs⟩, ⟨po, no, co, other⟩, ⟨pp, np, cp, pairs⟩] := ⟨_, rfl⟩
  have Hcell : Hid (∀ (j : Nat) (a : Ask), asks[j]? = some a → ∀ W, Below wL.heap.size wL W → W.cell? ⟨g0, j, none⟩ = some (.slice a.p a.n a.c)) := Lib.hid fun j a hja W hW => by
    rw [(hW.cell (p := ⟨g0, j, none⟩) hgL), cell_in HkL.out]
    rw [hasks] at hja
    match j, hja with
    | 0, h => cases h; rfl
    | 1, h => cases h; rfl
    | 2, h => cases h; rfl
    | 3, h => cases h; rfl
    | k + 4, h => simp at h
  have HAsk : Hid (∀ a ∈ asks, a.l.length = a.n ∧ a.n ≤ 2147483647 ∧ (∀ x ∈ a.l, x.length ≤ 2147483647) ∧ ∀ W, Below wL.heap.size wL W → Sts W (.slice a.p a.n a.c) a.l) := Lib.hid fun a ha => by
    have hW := fun W (h : Below wL.heap.size wL W) => then_bel HbL.out HbL.out.size h
    rw [hasks] at ha
    simp only [List.mem_cons, List.not_mem_nil, or_false] at ha
    rcases ha with rfl | rfl | rfl | rfl
    · exact ⟨Hnp.out, hnp31, Hpl.out, fun W h => HP.out.later (hW W h)⟩
    · exact ⟨Hnp.out, hnp31, Hpl.out, fun W h => HP.out.later (hW W h)⟩
    · exact ⟨Hno.out, hno31, Hol.out, fun W h => HO.out.later (hW W h)⟩
    · exact ⟨Hnp.out, hnp31, Hpl.out, fun W h => HP.out.later (hW W h)⟩
  have Hal : Hid (asks.length = 4) := Lib.hid (by rw [hasks]; rfl)
  clear hasks HP HO Hnp Hno Hpl Hol HkL HK Hnk HKi
  go_wp2_with fail
  go_loopw [13, 14, 15] (fun lv wv i wr => ∃ (j : Nat) (pl pw : Option Addr) (cl cw : Nat) (rs : List ls.LR) (lss : List (List Gv)) (vw : List Value), j ≤ 4 ∧ i = .int .i64 j ∧ lv = .slice pl j cl ∧ wv = .slice pw j cw ∧ Hid (PL wL.heap.size wr j pl cl pw cw rs lss vw) ∧ Hid (Below wL.heap.size wL wr)) (fun _ _ i _ => 4 - (intOf i).toNat)
  case atStart => exact ⟨0, none, none, 0, 0, [], [], [], by omega, rfl, rfl, rfl, Lib.hid (PL.start _ _), Lib.hid (Below.refl _ _)⟩
  case round =>
    obtain ⟨wo, rfl⟩ : ∃ wo, wo = wr := ⟨_, rfl⟩
    obtain ⟨j, pl, pw, cl, cw, rs, lss, vw, hj, rfl, rfl, rfl, Hpl, Hb⟩ := hrel
    have hzr := Hb.out.size
    by_cases hlt : j < 4
    · obtain ⟨a, ha⟩ : ∃ a, asks[j]? = some a := ⟨_, List.getElem?_eq_getElem (by rw [Hal.out]; exact hlt)⟩
      have Hc := Lib.hid (Hcell.out j a ha)
      obtain ⟨hal, han, hax, hasts⟩ := HAsk.out a (List.mem_of_getElem? ha)
      obtain ⟨ap, an, ac, al⟩ := a
      simp only at hal han hax hasts Hc
      have HAs := Lib.hid hasts
      have hlenr := parse_len nms al 0 []
      obtain ⟨⟨L, E, N⟩, hR⟩ : ∃ r, parseL nms 0 al [] = r := ⟨_, rfl⟩
      rw [hR, hal] at hlenr
      have HPr : Hid (∀ (W : World) (q : Option Addr) (c : Nat), Below wL.heap.size wL W → Sts W (.slice q an c) al → Calls Tryz.prog 27 #[.pointer (some ⟨b, 0, none⟩), .slice q an c] W fun e w' => (∃ v, e = .returned (.tuple #[v, .int .i64 E, .int .i64 (N : Nat)]) ∧ NewGvs W.heap.size w' v L) ∧ Below W.heap.size W w') := Lib.hid fun W q c hW hq => by
        have h := Parse_any w6.heap.size b S q c an al hal han hax HNm.out W (HSL.out.later hW) hq ((HV.out W (then_bel HbL.out HbL.out.size hW)).glo)
        rw [← Hnms.out, hR] at h
        exact h
      have HRf : Hid (∀ (W : World), Below wL.heap.size wL W → Calls Tryz.prog 29 #[.slice pv n cv, .slice ap an ac] W fun e w' => (∃ v, e = .returned (.tuple #[v, .int .i64 E, .int .i64 (N : Nat)]) ∧ NewGvs W.heap.size w' v L) ∧ Below W.heap.size W w') := Lib.hid fun W hW => by
        have h := refParse_any nms al pv ap n cv an ac Hnl.out hal (by omega) han Hn32.out hax W (HnL.out.later hW) (hasts W hW)
        rw [hR] at h
        exact h
      have HLe := Lib.hid fun W (hW : Below wL.heap.size wL W) => lent_any ap an ac al han W (hasts W hW)
      have Hal2 := Lib.hid hal
      have c0 := Hc.out _ Hb.out
      have hgo : g0 < wo.heap.size := by omega
      have hji : (j : Int) < 4 := by omega
      have hj5 : (0 : Int) ≤ (j : Int) := by omega
      have hmi : (an : Int) ≤ (an : Int) + 2 := by omega
      have hm0 : (0 : Int) ≤ (an : Int) := by omega
      have hLn : L.length ≤ 2147483647 := by simp at hlenr; omega
      clear ha hal hax hasts hR hlenr
      go_wp2_with fail
      refine (HLe.out _ Hb.out).mono ?_
      rintro e w8 ⟨rfl, hL8, hb8⟩
      have HL8 := Lib.hid hL8
      have Hb8 := Lib.hid (then_bel Hb.out hzr hb8)
      have Hb8' := Lib.hid hb8
      have hg8 := hL8.lt
      have c8 := Hc.out _ Hb8.out
      have hgo8 : g0 < w8.heap.size := by omega
      clear hL8 hb8 c0 HLe
      go_wp2_with fail
      refine (HPr.out w8 _ _ Hb8.out (lent_take Hal2.out HL8.out)).mono ?_
      rintro e w9 ⟨⟨v9, rfl, hn9⟩, hb9⟩
      obtain ⟨p9, c9, rfl⟩ := hn9.form
      have HN9 := Lib.hid hn9
      have Hb9 := Lib.hid (then_bel Hb8.out Hb8.out.size hb9)
      have HL9 := Lib.hid (HL8.out.later hb9)
      have Hbo9 := Lib.hid (then_bel Hb8'.out Hb8'.out.size hb9)
      have hz9 := Hb9.out.size
      have c9' := Hc.out _ Hb9.out
      have hgo9 : g0 < w9.heap.size := by omega
      clear hn9 hb9 c8 HPr HL8 Hb8'
      go_wp2_with fail
      refine (whole_any wo.heap.size ap an ac al han w9 HL9.out (HAs.out _ Hb9.out)).mono ?_
      rintro e w10 ⟨rfl, hu10⟩
      have hbo : Below wo.heap.size wo w10 := Hbo9.out.trans (hu10.below (fun k hk => by rw [List.mem_singleton.1 hk]; exact Nat.le_refl _) Hbo9.out.size)
      have Hbo := Lib.hid hbo
      have Hb10 := Lib.hid (then_bel Hb.out hzr hbo)
      have HN10 := Lib.hid (newG_upd HN9.out hu10 (fun k hk => by rw [List.mem_singleton.1 hk]; exact hg8))
      have c10 := Hc.out _ Hb10.out
      have hz10 := hbo.size
      have hgo10 : g0 < w10.heap.size := by omega
      clear hu10 hbo HN9 HL9 Hbo9 Hb9 c9'
      go_wp2_with fail
      refine (HRf.out w10 Hb10.out).mono ?_
      rintro e w11 ⟨⟨v11, rfl, hn11⟩, hb11⟩
      obtain ⟨p11, c11, rfl⟩ := hn11.form
      have HN11 := Lib.hid (hn11.mono (show wL.heap.size ≤ w10.heap.size by omega))
      have HN10' := Lib.hid ((HN10.out.later hb11).mono (show wo.heap.size ≤ w8.heap.size by omega))
      have Hbo11 := Lib.hid (then_bel Hbo.out Hbo.out.size hb11)
      have hz11 := Hbo11.out.size
      have Hpl11 := Lib.hid (Hpl.out.keep Hbo11.out)
      have HbL11 := Lib.hid (then_bel Hb.out hzr Hbo11.out)
      have Hfr := Lib.hid (Hpl.out.fresh (R := ⟨p9, L.length, c9⟩) (l := L) HN10'.out)
      have hE : (E != E) = false := by simp
      have hN : (((N : Nat) : Int) != ((N : Nat) : Int)) = false := by simp
      clear hn11 hb11 c10 HRf HN10 Hbo Hc HAs
      focus
        go_wp2_with (at_builtin; go_must (refine wpList_append_lit rfl _ _ 54 rfl 31 i1 _ 24 Tryz.underlying54 hi hz0 hz1 hz2 rfl _ 1 (by omega) (by rfl) (by rfl) wL.heap.size _ j _ (by rfl) Hpl11.out.ownl (by simp [Value.oneCell']) (by omega) (by omega) (by omega) ?_))
      intro ga ca wa hown hgrow hat hza hlta
      have Hown := Lib.hid hown
      have Hgrow := Lib.hid hgrow
      have Hat := Lib.hid hat
      have HWa := Lib.hid (Hpl11.out.wantAt hgrow)
      have hzwa : wL.heap.size ≤ wa.heap.size := by have := hgrow.size; omega
      have Hbwa := Lib.hid (below_grown_own HbL11.out Hpl11.out.ownl hgrow (by omega))
      clear hown hgrow hat
      focus
        go_wp2_with (at_builtin; go_must (refine wpList_append_lit rfl _ _ 54 rfl 31 i1 _ 24 Tryz.underlying54 hi hz0 hz1 hz2 rfl _ 1 (by omega) (by rfl) (by rfl) wL.heap.size _ j _ (by rfl) HWa.out (by simp [Value.oneCell']) (by omega) (by omega) (by omega) ?_))
      intro gb cb wb hown2 hgrow2 hat2 hzb hltb
      have HNx := Lib.hid (Hpl11.out.next (R := ⟨p9, L.length, c9⟩) (l := L) (v := .slice p11 L.length c11) (HN10'.out.mono hzr) (by omega) Hfr.out HN11.out Hown.out Hgrow.out Hat.out hlta hown2 hgrow2 hat2)
      have Hbwb := Lib.hid (below_grown_own Hbwa.out HWa.out hgrow2 hzwa)
      clear hown2 hgrow2 hat2
      go_wp2_with fail
      go_roundw
      case rel => exact ⟨j + 1, _, _, ca, cb, _, _, _, by omega, by go_num, rfl, rfl, HNx, Hbwb⟩
      case measure => simp [intOf]; omega
    · obtain rfl : j = 4 := by omega
      rw [show ((4 : Nat) : Int) = 4 from rfl]
      obtain ⟨gl, rfl, hcl, hgl, hrow⟩ := Hpl.out.rowL (by omega)
      obtain ⟨gw, rfl, hcw, hgw, hWw⟩ := Hpl.out.rowW (by omega)
      have hrl : rs.length = 4 := by have := Hpl.out.ownl.1; simpa using this
      have Hrl := Lib.hid hrl
      have Hxl := Lib.hid Hpl.out.len
      have HRow := Lib.hid hrow
      have HWw := Lib.hid hWw
      have HHo : Hid (HoldG wL.heap.size wo.heap.size wo rs 0 (ls.cntAt 0 0)) := Lib.hid Hpl.out.holds
      have HDi := Lib.hid Hpl.out.dist
      have HLi := Lib.hid Hpl.out.lists
      have hgl2 : gl < wo.heap.size := hrow.lt
      clear hrow hWw hrl Hpl
      go_wp2_with fail
      go_loopw [24] (fun i wr => ∃ k q : Nat, k ≤ 4 ∧ i = .int .i64 k ∧ wr = wo.drewN q) (fun i _ => 4 - (intOf i).toNat)
      case atStart => exact ⟨0, 0, by omega, rfl, rfl⟩
      case round =>
        obtain ⟨k, q, hk, rfl, rfl⟩ := hrel
        by_cases hlt : k < 4
        · obtain ⟨R, hR⟩ : ∃ R, rs[k]? = some R := ⟨_, List.getElem?_eq_getElem (by rw [Hrl.out]; exact hlt)⟩
          obtain ⟨xs, hxs⟩ : ∃ xs, lss[k]? = some xs := ⟨_, List.getElem?_eq_getElem (by rw [Hxl.out]; exact hlt)⟩
          have c1 := HRow.out.cell hR
          obtain ⟨pw, cc, c2, hs2⟩ := HWw.out k xs hxs
          have hs1 := HLi.out k R xs hR hxs
          have hn := (HHo.out k R (Nat.zero_le _) hR).1
          obtain ⟨pR, nR, cR⟩ := R
          simp only [ls.LR.v] at c1 hn hs1
          obtain ⟨hRn, hncR, _⟩ := hs1.ptr
          obtain ⟨_, hncc, _⟩ := hs2.ptr
          rw [hRn] at c2 hs2 hncc
          replace c1 : (wo.drewN q).cell? ⟨gl, k, none⟩ = some (.slice pR nR cR) := c1
          replace c2 : (wo.drewN q).cell? ⟨gw, k, none⟩ = some (.slice pw nR cc) := c2
          have HC := Lib.hid fun W (hq : ∃ d, W = wo.drewN d) => given_any pR pw nR cR cc xs hn W (by obtain ⟨d, rfl⟩ := hq; exact hs1.later (drewN_bel wo d)) (by obtain ⟨d, rfl⟩ := hq; exact hs2.later (drewN_bel wo d))
          clear hR hxs hs1 hs2 hRn
          generalize hq : wo.drewN q = wr at *
          have HQ := Lib.hid hq
          have hki : (k : Int) < 4 := by omega
          have hk5 : (0 : Int) ≤ (k : Int) := by omega
          clear hq
          go_wp2_with fail
          go_quiet ((go_at_call 30; exact Calls.quiet_of (HC.out _ (by rw [← HQ.out, World.drewN_drewN]; exact ⟨_, rfl⟩))))
          go_wp2_with fail
          go_roundw
          case rel => exact ⟨k + 1, _, by omega, by go_num, by rw [← HQ.out, World.drewN_drewN]⟩
          case measure => simp [intOf]; omega
        · obtain rfl : k = 4 := by omega
          obtain ⟨wq, hwq⟩ : ∃ wq, wq = wo.drewN q := ⟨_, rfl⟩
          have hbq : Below wo.heap.size wo wq := by rw [hwq]; exact drewN_bel wo q
          have hzq' : wq.heap.size = wo.heap.size := by rw [hwq]; rfl
          have Hbq := Lib.hid (then_bel Hb.out hzr hbq)
          have HOw := Lib.hid (owned_any wL.heap.size rs 4 (by omega) Hrl.out gl cl hcl wq (by omega) (by rw [hzq']; exact HHo.out.keep (ls.SK.of_below hbq)) HDi.out (HRow.out.below hbq))
          rw [← hwq]
          clear hwq hbq hzq' HHo HRow HWw HLi HDi
          go_wp2_with fail
          refine HOw.out.mono ?_
          rintro e w12 ⟨rfl, hb12⟩
          have Hb12 := Lib.hid (Hbq.out.trans hb12)
          have HAl := Lib.hid (All_any w6.heap.size b S w12 (HSL.out.later Hb12.out))
          rw [← HSn.out] at HAl
          clear hb12 HOw
          go_wp2_with fail
          refine HAl.out.mono ?_
          rintro e w13 ⟨⟨pa, rfl, hn13⟩, hb13⟩
          have HK13 : Hid (Kys w13 (.slice pa n n) S) := Lib.hid (hn13.rw kyC_len)
          have Hb13 := Lib.hid (then_bel Hb12.out Hb12.out.size hb13)
          have Hw13 := Lib.hid (then_bel HbL.out HbL.out.size Hb13.out)
          clear hn13 hb13 HAl
          go_wp2_with fail
          refine (HAw.out _ Hw13.out).mono ?_
          rintro e w14 ⟨rfl, hb14⟩
          have Hb14 := Lib.hid (then_bel Hb13.out Hb13.out.size hb14)
          have HK14 := Lib.hid (HK13.out.later hb14)
          have Hw14 := Lib.hid (then_bel Hw13.out Hw13.out.size hb14)
          have HS14 := Lib.hid (HnL.out.later Hb14.out)
          have Hpk := Lib.hid HK14.out.ptr.2.2
          have Hpn := Lib.hid HS14.out.ptr.2.2
          clear hb14 HK13
          go_wp2_with fail
          go_loopw [29] (fun i wr => ∃ t d : Nat, t ≤ n ∧ i = .int .i64 t ∧ wr = w14.drewN d) (fun i _ => n - (intOf i).toNat)
          case atStart => exact ⟨0, 0, by omega, rfl, rfl⟩
          case round =>
            obtain ⟨t, d, ht, rfl, hwr⟩ := hrel
            have Hq := Lib.hid hwr
            have hbr : Below w14.heap.size w14 wr := by rw [hwr]; exact drewN_bel w14 d
            have Hbr := Lib.hid hbr
            have hzr2 := hbr.size
            clear hwr hbr
            by_cases hltt : t < n
            · obtain ⟨bk, ok, rfl, hbk⟩ := Hpk.out (by omega)
              obtain ⟨bn, on, rfl, hbn⟩ := Hpn.out (by omega)
              obtain ⟨y, hy⟩ : ∃ y, S[t]? = some y := ⟨_, List.getElem?_eq_getElem (by rw [← HSn.out]; exact hltt)⟩
              have c0 := (ky_cells (HK14.out.later Hbr.out) hy).1
              have d0 := st_cell (HS14.out.later Hbr.out) (j := t) (x := y.name) (by rw [Hnms.out, List.getElem?_map, hy]; rfl)
              have hkr : bk < wr.heap.size := by omega
              have hnr : bn < wr.heap.size := by omega
              have hti : (t : Int) < (n : Int) := by omega
              have ht5 : (0 : Int) ≤ (t : Int) := by omega
              clear hy
              generalize B y.name = yb at *
              have hns := neq_same yb
              go_wp2_with fail
              go_quiet (fail)
              rename_i nq
              go_wp2_with fail
              go_roundw
              case rel => exact ⟨t + 1, d + nq, by omega, by go_num, by rw [Hq.out, World.drewN_drewN]⟩
              case measure => simp [intOf]; omega
            · obtain rfl : t = n := by omega
              have Hwr := Lib.hid (then_bel Hw14.out Hw14.out.size Hbr.out)
              go_wp2_with fail
              go_ret
              exact ⟨rfl, Hwr.out⟩
end Go.Proofs.YtpfhhaonfbfheaaGreatDoor.en
/- An argument that is a slice of structs whose fields take one cell each, opened: each element's cells and their readings. For any program; no conditions beside those stated. -/
namespace Go.Proofs.YtpfhhaonfbfheaaGreatDoor
open Go.ChangeShapes Go.WideShapes Go.Deep Go.RowKit
section
variable {H : Type} {enc : TypeId × Value → H} {P : Program} {w : World} {base : Nat} {spare : Nat → Bool} {held : Bool}

/-- Each element of a slice of structs: its fields' cells, read. -/
theorem open_rows {t e : TypeId} {fs : Array Field} {v : Value} {d : DataW H} {ps : List MemPlace} (ht : P.underlying t = some (.slice e)) (he : P.underlying e = some (.struct fs))
    (hone : oneCellFields P fs = true) (hC : P.cellsOf e = fs.size) (h : DataW.Trod enc P w base spare held t v d ps) (hv : v.cells.toList = [v]) :
    v = .slice none 0 0 ∨ ∃ (a : Addr) (len cap : Nat), v = .slice (some a) len cap ∧ len ≤ cap ∧ cap ≤ maxLen ∧
      ∀ i, i < len → ∀ (j : Nat) (f : Field), fs[j]? = some f → ∃ (u : Value) (y : DataW H × List MemPlace) (n : Nat), w.cell? (a.add (i * fs.size + j)) = some u ∧ DataW.trod enc P w base spare held n f.type [u] = some y := by
  obtain ⟨fuel, hf⟩ := h
  rw [hv] at hf
  rcases open_slice ht hf with ⟨h0, _⟩ | ⟨a, len, cap, m, n, D, Pl, hcs, hb, hl, hm, hmm, hx, hi⟩
  · simp only [List.cons.injEq, and_true] at h0
    exact .inl h0
  · simp only [List.cons.injEq, and_true] at hcs
    refine .inr ⟨a, len, cap, hcs, hl, hm, fun i him j f hj => ?_⟩
    have him' : i < m := by rw [hmm]; split <;> omega
    obtain ⟨cs', hc, ht'⟩ := hi i him'
    rw [hC] at hc
    obtain ⟨ys, n', hn', hy, hlen, hyl, hf'⟩ := DataW.trod_struct he ht'
    obtain ⟨_, hcl, hat⟩ := World.cells?_some hc
    obtain ⟨ho, hk⟩ := hone_of hone j f hj
    have hjl : j < fs.size := (Array.getElem?_eq_some_iff.1 hj).1
    have hcell := hat j hjl
    have h1 := hf' j f hj
    rw [ho, hk] at h1
    have hone' : (cs'.drop j).take 1 = [cs'[j]'(by omega)] := by
      rw [List.drop_eq_getElem_cons (by omega)]
      rfl
    rw [hone'] at h1
    have hys : ys[j]? = some (ys[j]'(by omega)) := List.getElem?_eq_getElem (by omega)
    exact ⟨_, _, n', by rw [← Go.Deep.add_add, hcell, List.getElem?_eq_getElem (by omega)], h1.trans hys⟩
end

/-- A cell that holds something lies in no view. -/
theorem spot_none {w : World} {a : Addr} {v : Value} (h : w.cell? a = some v) : a.spot = none := by
  unfold World.cell? at h
  split at h
  · split at h
    · cases h
    · rename_i hs
      simpa using hs
  · cases h
theorem add_none {b off k : Nat} : (⟨b, off, none⟩ : Addr).add k = ⟨b, off + k, none⟩ := by
  unfold Addr.add
  split
  · rename_i h; revert h; simp
  · rfl
end Go.Proofs.YtpfhhaonfbfheaaGreatDoor
/- Arguments that are definitions or texts, opened: what they hold, and their cells in memory. No conditions. -/
namespace Go.Proofs.YtpfhhaonfbfheaaGreatDoor.en
open Go.ChangeShapes Go.WideShapes Go.Deep Go.RowKit gl va ls ky

theorem wf_b {n : Int} (h : (Lit.int .i64 n).wf = true) : -9223372036854775808 ≤ n ∧ n ≤ 9223372036854775807 := by
  have := h
  simp [Lit.wf, IntKind.min, IntKind.max, IntKind.signed, IntKind.bits] at this
  exact this
def KeysOk (W : World) (p : Option Addr) (cap : Nat) (l : List Ky) : Prop := Kys W (.slice p l.length cap) l ∧ ∀ x ∈ l, KyI x
def TxtsOk (W : World) (p : Option Addr) (cap : Nat) (l : List (List UInt8)) : Prop := Sts W (.slice p l.length cap) l
theorem cStrE : Tryz.prog.cellsOf 9 = 1 := by kernel_rfl
instance : Inhabited Ky := ⟨⟨[], 0, [], 0, 0, []⟩⟩
theorem keys_of {H : Type} {enc : TypeId × Value → H} {W : World} {v : Value} {d : DataW H} {ps : List MemPlace} (h : DataW.Trod enc Tryz.prog W 0 (fun _ => true) true 27 v d ps) (hv : v.cells.toList = [v]) :
    ∃ p cap l, v = .slice p l.length cap ∧ l.length ≤ maxLen ∧ KeysOk W p cap l := by
  rcases open_rows Tryz.underlying27 Tryz.underlying62 (by kernel_rfl) (by kernel_rfl) h hv with h | ⟨a, len, cap, hs, hl, hm, hat⟩
  · exact ⟨none, 0, [], h, Nat.zero_le _, ⟨none, 0, rfl, Nat.le_refl _, .inl rfl⟩, fun x hx => by cases hx⟩
  · have hall : ∀ i, i < len → ∃ x : Ky, KyI x ∧ ∃ b off, a = ⟨b, off, none⟩ ∧ b < W.heap.size ∧ ∀ (j : Nat) (u : Value), (kyC x)[j]? = some u → W.cell? ⟨b, off + (i * 6 + j), none⟩ = some u := by
      intro i hi
      obtain ⟨u0, y0, n0, c0, t0⟩ := hat i hi 0 _ rfl
      obtain ⟨u1, y1, n1, c1, t1⟩ := hat i hi 1 _ rfl
      obtain ⟨u2, y2, n2, c2, t2⟩ := hat i hi 2 _ rfl
      obtain ⟨u3, y3, n3, c3, t3⟩ := hat i hi 3 _ rfl
      obtain ⟨u4, y4, n4, c4, t4⟩ := hat i hi 4 _ rfl
      obtain ⟨u5, y5, n5, c5, t5⟩ := hat i hi 5 _ rfl
      obtain ⟨s0, e0, _, _⟩ := DataW.trod_string Tryz.underlying9 t0
      obtain ⟨z1, e1, _, w1⟩ := DataW.trod_int Tryz.underlying3 t1
      obtain ⟨s2, e2, _, _⟩ := DataW.trod_string Tryz.underlying9 t2
      obtain ⟨z3, e3, _, w3⟩ := DataW.trod_int Tryz.underlying3 t3
      obtain ⟨z4, e4, _, w4⟩ := DataW.trod_int Tryz.underlying3 t4
      obtain ⟨s5, e5, _, _⟩ := DataW.trod_string Tryz.underlying9 t5
      simp only [List.cons.injEq, and_true] at e0 e1 e2 e3 e4 e5
      subst e0 e1 e2 e3 e4 e5
      obtain ⟨v0, y0', n0', z, _⟩ := hat 0 (by omega) 0 _ rfl
      have hsp : a.spot = none := by
        have := spot_none z
        simpa [Addr.add] using this
      obtain ⟨b, off, sp⟩ := a
      simp only at hsp
      subst hsp
      rw [add_none] at c0 c1 c2 c3 c4 c5
      change W.cell? ⟨b, off + (i * 6 + 0), none⟩ = _ at c0
      change W.cell? ⟨b, off + (i * 6 + 1), none⟩ = _ at c1
      change W.cell? ⟨b, off + (i * 6 + 2), none⟩ = _ at c2
      change W.cell? ⟨b, off + (i * 6 + 3), none⟩ = _ at c3
      change W.cell? ⟨b, off + (i * 6 + 4), none⟩ = _ at c4
      change W.cell? ⟨b, off + (i * 6 + 5), none⟩ = _ at c5
      refine ⟨⟨s0.data.toList, z1, s2.data.toList, z3, z4, s5.data.toList⟩, ⟨wf_b w1, wf_b w3, wf_b w4⟩, b, off, rfl, World.block_lt_of_cell? _ _ c0, fun j u hu => ?_⟩
      match j, hu with
      | 0, hu => obtain rfl := Option.some.inj hu; simp only [B_of]; exact c0
      | 1, hu => obtain rfl := Option.some.inj hu; exact c1
      | 2, hu => obtain rfl := Option.some.inj hu; simp only [B_of]; exact c2
      | 3, hu => obtain rfl := Option.some.inj hu; exact c3
      | 4, hu => obtain rfl := Option.some.inj hu; exact c4
      | 5, hu => obtain rfl := Option.some.inj hu; simp only [B_of]; exact c5
    obtain ⟨f, hf⟩ := Deep.choose_lt hall
    refine ⟨some a, cap, (List.range len).map f, by simpa using hs, by simp; omega, ⟨some a, cap, rfl, by simpa using hl, ?_⟩, fun x hx => ?_⟩
    · by_cases h0 : len = 0
      · subst h0
        exact .inl rfl
      · obtain ⟨_, b, off, rfl, hb, _⟩ := hf 0 (by omega)
        refine .inr ⟨b, off, rfl, hb, fun j x hx i u hu => ?_⟩
        simp only [List.getElem?_map, Option.map_eq_some_iff] at hx
        obtain ⟨k, hk, rfl⟩ := hx
        obtain ⟨hk1, rfl⟩ := List.getElem?_eq_some_iff.1 hk
        simp only [List.getElem_range] at hu
        obtain ⟨_, b', off', he, _, h2⟩ := hf j (by simpa using hk1)
        cases he
        exact h2 i u hu
    · obtain ⟨i, hi, rfl⟩ := List.mem_map.1 hx
      exact (hf i (List.mem_range.1 hi)).1
theorem txts_of {H : Type} {enc : TypeId × Value → H} {W : World} {v : Value} {d : DataW H} {ps : List MemPlace} (h : DataW.Trod enc Tryz.prog W 0 (fun _ => true) true 38 v d ps) (hv : v.cells.toList = [v]) :
    ∃ p cap l, v = .slice p l.length cap ∧ l.length ≤ maxLen ∧ TxtsOk W p cap l := by
  obtain ⟨fuel, hfu⟩ := h
  rw [hv] at hfu
  rcases open_slice1 Tryz.underlying38 cStrE hfu with ⟨hcs, _⟩ | ⟨a, len, cap, m, n, V, D, Pl, hcs, hb, hl, hm, hmm, _, hat⟩
  · simp only [List.cons.injEq, and_true] at hcs
    exact ⟨none, 0, [], hcs, Nat.zero_le _, ⟨none, 0, rfl, Nat.le_refl _, .inl rfl⟩⟩
  · simp only [List.cons.injEq, and_true] at hcs
    have hall : ∀ i, i < len → ∃ x : List UInt8, V i = .string (B x) := by
      intro i hi
      obtain ⟨hc, ht⟩ := hat i (by rw [hmm]; split <;> omega)
      obtain ⟨s, e3, _, w3⟩ := DataW.trod_string Tryz.underlying9 ht
      simp only [List.cons.injEq, and_true] at e3
      exact ⟨s.data.toList, by rw [B_of]; exact e3⟩
    obtain ⟨f, hf⟩ := Deep.choose_lt hall
    refine ⟨some a, cap, (List.range len).map f, by simpa using hcs, by simp; omega, some a, cap, rfl, by simpa using hl, ?_⟩
    by_cases h0 : len = 0
    · subst h0
      exact .inl rfl
    · have h1 := (hat 0 (by rw [hmm]; split <;> omega)).1
      have hsp : a.spot = none := by
        have := spot_none h1
        simpa [Addr.add] using this
      obtain ⟨b, off, s⟩ := a
      simp only at hsp
      subst hsp
      refine .inr ⟨b, off, rfl, ?_, fun j x hj i u hu => ?_⟩
      · rw [add_none] at h1
        exact World.block_lt_of_cell? _ _ h1
      · simp only [List.getElem?_map, Option.map_eq_some_iff] at hj
        obtain ⟨k, hk, rfl⟩ := hj
        obtain ⟨hk1, rfl⟩ := List.getElem?_eq_some_iff.1 hk
        simp only [List.getElem_range] at hu
        have hjl : j < len := by simpa using hk1
        have h2 := (hat j (by rw [hmm]; split <;> omega)).1
        rw [add_none, hf j hjl] at h2
        obtain rfl : i = 0 := by have := ls.lt_get hu; simp [stC] at this; omega
        have hu' : u = .string (B (f j)) := by simpa [stC] using hu.symm
        rw [hu', Nat.mul_one, Nat.add_zero]
        exact h2
end Go.Proofs.YtpfhhaonfbfheaaGreatDoor.en
/- Plain laws of package env: pairs one behind the other; each setting by itself. No program in sight; no conditions beside those stated. -/
namespace Go.Proofs.YtpfhhaonfbfheaaGreatDoor.en
open gl

theorem parse_codes (names : List (List UInt8)) : ∀ (a : List (List UInt8)) (k : Nat) (out : List Gv), ((parseL names k a out).2.1 = 0 ∧ (parseL names k a out).2.2 = 0) ∨ (((parseL names k a out).2.1 = 80 ∨ (parseL names k a out).2.1 = 81) ∧ (parseL names k a out).1 = [] ∧ ∃ i, i < a.length ∧ (parseL names k a out).2.2 = k + i)
  | [], _, _ => .inl ⟨rfl, rfl⟩
  | p :: r, k, out => by
    have he : ∀ e, stepL names p = .error e → e = 80 ∨ e = 81 := by
      intro e h
      unfold stepL at h
      split at h
      · split at h
        · cases h
        · split at h
          · cases h; exact .inr rfl
          · cases h
      · cases h; exact .inl rfl
    rw [parseL]
    cases hs : stepL names p with
    | error e => exact .inr ⟨he e hs, rfl, 0, by simp, rfl⟩
    | ok o =>
      have step : ∀ out', ((parseL names (k + 1) r out').2.1 = 0 ∧ (parseL names (k + 1) r out').2.2 = 0) ∨ (((parseL names (k + 1) r out').2.1 = 80 ∨ (parseL names (k + 1) r out').2.1 = 81) ∧ (parseL names (k + 1) r out').1 = [] ∧ ∃ i, i < (p :: r).length ∧ (parseL names (k + 1) r out').2.2 = k + i) := fun out' => by
        rcases parse_codes names r (k + 1) out' with h | ⟨h1, h2, i, h3, h4⟩
        · exact .inl h
        · exact .inr ⟨h1, h2, i + 1, by simp; omega, by omega⟩
      cases o with
      | none => exact step out
      | some x => exact step _
theorem parse_app (names : List (List UInt8)) (b : List (List UInt8)) : ∀ (a : List (List UInt8)) (k : Nat) (out : List Gv), ((parseL names k a out).2.1 = 0 → parseL names k (a ++ b) out = parseL names (k + a.length) b (parseL names k a out).1) ∧ ((parseL names k a out).2.1 ≠ 0 → parseL names k (a ++ b) out = parseL names k a out)
  | [], k, out => ⟨fun _ => by simp [parseL], fun h => absurd rfl h⟩
  | p :: r, k, out => by
    have he : ∀ e, stepL names p = .error e → e ≠ 0 := by
      intro e h h0
      subst h0
      unfold stepL at h
      split at h
      · split at h
        · cases h
        · split at h
          · cases h
          · cases h
      · cases h
    rw [List.cons_append, parseL, parseL]
    cases hs : stepL names p with
    | error e => exact ⟨fun h => absurd h (he e hs), fun _ => rfl⟩
    | ok o =>
      have e1 : k + (p :: r).length = k + 1 + r.length := by simp; omega
      rw [e1]
      cases o with
      | none => exact parse_app names b r (k + 1) out
      | some x => exact parse_app names b r (k + 1) _
/-- So many pairs further on. -/
def sh (d : Nat) (g : Gv) : Gv := ⟨g.name, g.text, g.pos + d⟩
theorem parse_shift (names : List (List UInt8)) (d : Nat) (o : List Gv) : ∀ (b : List (List UInt8)) (k : Nat) (out : List Gv), ((parseL names k b out).2.1 = 0 → parseL names (k + d) b (o ++ out.map (sh d)) = (o ++ (parseL names k b out).1.map (sh d), 0, 0)) ∧ ((parseL names k b out).2.1 ≠ 0 → parseL names (k + d) b (o ++ out.map (sh d)) = ([], (parseL names k b out).2.1, (parseL names k b out).2.2 + d))
  | [], k, out => ⟨fun _ => rfl, fun h => absurd rfl h⟩
  | p :: r, k, out => by
    rw [parseL, parseL]
    cases hs : stepL names p with
    | error e =>
      refine ⟨fun h => ?_, fun _ => rfl⟩
      have h2 : e = 0 := h
      subst h2
      unfold stepL at hs
      split at hs
      · split at hs
        · cases hs
        · split at hs
          · cases hs
          · cases hs
      · cases hs
    | ok x =>
      have e1 : k + d + 1 = k + 1 + d := by omega
      simp only [e1]
      cases x with
      | none => exact parse_shift names d o r (k + 1) out
      | some x =>
        have e2 : o ++ out.map (sh d) ++ [(⟨x.1, x.2, k + d⟩ : Gv)] = o ++ (out ++ [(⟨x.1, x.2, k⟩ : Gv)]).map (sh d) := by
          simp [sh]
        simp only [e2]
        exact parse_shift names d o r (k + 1) _
/-- Each setting that is given stands at its place. -/
def AtPlace (pairs : List (List UInt8)) (g : Gv) : Prop := nameL g.name = true ∧ pairs[g.pos]? = some (greatL g.name ++ 61 :: g.text)
theorem step_some {names : List (List UInt8)} {p n t : List UInt8} (h : stepL names p = .ok (some (n, t))) : n ∈ names ∧ p = greatL n ++ 61 :: t := by
  unfold stepL at h
  split at h
  · rename_i hc
    split at h
    · rename_i n' hp
      simp only [Except.ok.injEq, Option.some.injEq, Prod.mk.injEq] at h
      obtain ⟨rfl, rfl⟩ := h
      obtain ⟨h1, h2⟩ := pick_name hp
      exact ⟨h1, by rw [h2]; exact bef_aft hc.1⟩
    · split at h <;> cases h
  · cases h
theorem parse_places {names pairs : List (List UInt8)} (hn : ∀ n ∈ names, nameL n = true) : ∀ (rest : List (List UInt8)) (k : Nat) (out : List Gv), rest = pairs.drop k → (∀ g ∈ out, AtPlace pairs g) → ∀ g ∈ (parseL names k rest out).1, AtPlace pairs g
  | [], _, _, _, ho => ho
  | p :: r, k, out, he, ho => by
    have hk : pairs[k]? = some p := by
      have := congrArg (·[0]?) he
      simp only [List.getElem?_cons_zero, List.getElem?_drop, Nat.add_zero] at this
      exact this.symm
    have hr : r = pairs.drop (k + 1) := by
      have := congrArg (List.drop 1) he
      simp only [List.drop_succ_cons, List.drop_zero, List.drop_drop] at this
      exact this
    rw [parseL]
    cases hs : stepL names p with
    | error e => intro g hg; cases hg
    | ok o =>
      cases o with
      | none => exact parse_places hn r (k + 1) out hr ho
      | some x =>
        obtain ⟨h1, h2⟩ := step_some (n := x.1) (t := x.2) hs
        refine parse_places hn r (k + 1) _ hr fun g hg => ?_
        rcases List.mem_append.1 hg with hg | hg
        · exact ho g hg
        · rw [List.mem_singleton.1 hg]
          exact ⟨hn _ h1, by rw [← h2]; exact hk⟩
theorem bef_of {c : UInt8} {a t : List UInt8} (h : c ∉ a) : bef c (a ++ c :: t) = a ∧ aft c (a ++ c :: t) = t := by
  induction a with
  | nil => simp [bef, aft]
  | cons d r ih =>
    obtain ⟨h1, h2⟩ := ih (fun hm => h (by simp [hm]))
    have hd : d ≠ c := fun e => h (by simp [e])
    refine ⟨?_, ?_⟩
    · rw [List.cons_append]
      unfold bef at h1 ⊢
      rw [List.takeWhile_cons_of_pos (by simp [hd]), h1]
    · rw [List.cons_append]
      unfold aft at h2 ⊢
      rw [List.dropWhile_cons_of_pos (by simp [hd]), h2]
theorem step_name {names : List (List UInt8)} (hn : ∀ n ∈ names, nameL n = true) {n t : List UInt8} (h : n ∈ names) : stepL names (greatL n ++ 61 :: t) = .ok (some (n, t)) := by
  obtain ⟨h1, h2⟩ := bef_of (t := t) (great_61 (hn n h))
  have := step_pick (names := names) (p := greatL n ++ 61 :: t) (n := n) (by simp) (by rw [h1]; exact great_ne (hn n h)) (by rw [h1]; exact pick_of hn h)
  rw [h2] at this
  exact this
theorem part_49 {m : List UInt8} (h : nameL m = true) : (partOf m).isPrefixOf [49] = false ∧ greatL m ≠ [49] := by
  obtain ⟨c, r, rfl, hc⟩ := name_first h
  have h65 := cls_small c hc
  have h49 : gb c ≠ 49 := fun e => by rw [e] at h65; exact absurd h65 (by decide)
  have h46 : c ≠ 46 := fun e => by rw [e] at hc; exact absurd hc (by decide)
  refine ⟨?_, ?_⟩
  · have e : partOf (c :: r) = gb c :: (greatL (bef 46 r) ++ [95]) := by
      unfold partOf bef greatL
      rw [List.takeWhile_cons_of_pos (by simp [h46])]
      rfl
    rw [e]
    simp [List.isPrefixOf]
  · intro e
    simp only [greatL, List.map_cons, List.cons.injEq] at e
    exact h49 e.1
theorem alone_bad {names : List (List UInt8)} (hn : ∀ n ∈ names, nameL n = true) {n : List UInt8} (h : n ∈ names) : parseL names 0 [greatL n ++ [61, 120], [61], greatL n] [] = ([], 80, 1) := by
  have h1 : stepL names (greatL n ++ [61, 120]) = .ok (some (n, [120])) := step_name hn h
  have h2 : stepL names [61] = .error 80 := step_form (.inr (by decide))
  simp only [parseL, h1, h2]
theorem alone_good {names : List (List UInt8)} (hn : ∀ n ∈ names, nameL n = true) {n : List UInt8} (h : n ∈ names) : parseL names 0 [[49, 61, 120], greatL n ++ [61, 120]] [] = ([⟨n, [120], 1⟩], 0, 0) := by
  have h1 : stepL names (greatL n ++ [61, 120]) = .ok (some (n, [120])) := step_name hn h
  have hb : bef 61 [49, 61, 120] = [49] := by decide
  have h2 : stepL names [49, 61, 120] = .ok none := by
    refine step_skip (by decide) (by rw [hb]; simp) ?_ ?_
    · rw [hb, pick_none]
      intro m hm
      exact (part_49 (hn m hm)).2
    · rw [hb]
      unfold likeL
      rw [List.any_eq_false]
      intro m hm
      rw [(part_49 (hn m hm)).1]
      simp
  simp only [parseL, h1, h2]
  rfl
end Go.Proofs.YtpfhhaonfbfheaaGreatDoor.en
/- EnvJoins returns true: pairs one behind the other; each setting by itself. Conditions: arguments that lie in memory as their lists; the listed variables hold what the program's text lays. -/
namespace Go.Proofs.YtpfhhaonfbfheaaGreatDoor.en
open Go.ChangeShapes Go.WideShapes Go.ChangeAt Go.RowKit gl va ls ky

theorem src_st {w : World} {p : Option Addr} {m c : Nat} {l : List (List UInt8)} (h : Sts w (.slice p m c) l) : SrcV w (.slice p m c) m (rw.flat stC l) := by
  obtain ⟨hlen, hmc, hptr⟩ := h.ptr
  rcases Nat.eq_zero_or_pos m with h0 | h0
  · subst h0
    obtain rfl := List.eq_nil_of_length_eq_zero hlen
    exact .inl ⟨rfl, rfl, _, _, rfl⟩
  · obtain ⟨b, o, rfl, hb⟩ := hptr h0
    refine .inr ⟨h0, _, _, rfl, fun j u hj => ?_⟩
    rw [flat_st] at hj
    obtain ⟨x, hx, rfl⟩ := Option.map_eq_some_iff.1 hj
    rw [addN]
    exact st_cell h hx
/-- The three ways of two lists one behind the other. -/
theorem join_ways (nms one two : List (List UInt8)) {A Bl C : List Gv} {E F G : Int} {i1 i2 i3 : Nat} (h1 : parseL nms 0 one [] = (A, E, i1)) (h2 : parseL nms 0 two [] = (Bl, F, i2)) (h3 : parseL nms 0 (one ++ two) [] = (C, G, i3)) :
    ((E = 80 ∨ E = 81) ∧ G = E ∧ i3 = i1 ∧ A = [] ∧ C = [] ∧ i1 < one.length) ∨ (E = 0 ∧ (F = 80 ∨ F = 81) ∧ G = F ∧ i3 = i2 + one.length ∧ i2 < two.length) ∨ (E = 0 ∧ F = 0 ∧ G = 0 ∧ i3 = 0 ∧ C = A ++ Bl.map (sh one.length)) := by
  have p1 := parse_codes nms one 0 []
  have p2 := parse_codes nms two 0 []
  have a := parse_app nms two one 0 []
  have s := parse_shift nms one.length A two 0 []
  rw [h1] at p1 a
  rw [h2] at p2 s
  rw [h3] at a
  simp only [Nat.zero_add, List.map_nil, List.append_nil] at p1 p2 a s
  rcases p1 with ⟨e0, _⟩ | ⟨e1, e2, i, e3, e4⟩
  · have h4 := a.1 e0
    rcases p2 with ⟨f0, _⟩ | ⟨f1, f2, i', f3, f4⟩
    · rw [s.1 f0] at h4
      injection h4 with c1 c2
      injection c2 with c2 c3
      exact .inr (.inr ⟨e0, f0, c2, c3, c1⟩)
    · rw [s.2 (by rcases f1 with h | h <;> rw [h] <;> decide)] at h4
      injection h4 with c1 c2
      injection c2 with c2 c3
      exact .inr (.inl ⟨e0, f1, c2, c3, by omega⟩)
  · have h4 := a.2 (by rcases e1 with h | h <;> rw [h] <;> decide)
    injection h4 with c1 c2
    injection c2 with c2 c3
    exact .inl ⟨e1, c2, c3, e2, by rw [c1, e2], by omega⟩
theorem addB (a b : List UInt8) (h : a.length + b.length ≤ 9223372036854775807) (W : World) : (Op.stringOp .add (B a) (B b)).run Tryz.prog W = .ok (.string (B (a ++ b))) W := by
  have e : B a ++ B b = B (a ++ b) := by
    apply ByteArray.ext
    simp
  rw [← e]
  refine run_string_add_sum W _ _ ?_
  rw [B_size, B_size]
  exact h

set_option maxHeartbeats 16000000 in
set_option maxRecDepth 100000 in
theorem joins_walk (pk : Option Addr) (nk ck : Nat) (l : List Ky) (hnk : l.length = nk) (hnk63 : nk ≤ 9223372036854775807) (hKi : ∀ x ∈ l, KyI x) (p1 : Option Addr) (n1 c1 : Nat) (one : List (List UInt8)) (hn1 : one.length = n1) (hn163 : n1 ≤ 9223372036854775807)
    (p2 : Option Addr) (n2 c2 : Nat) (two : List (List UInt8)) (hn2 : two.length = n2) (hn263 : n2 ≤ 9223372036854775807) (w : World) (hK : Kys w (.slice pk nk ck) l) (hP : Sts w (.slice p1 n1 c1) one) (hO : Sts w (.slice p2 n2 c2) two) (hV : Vlo w) :
    Calls Tryz.prog 7 #[.slice pk nk ck, .slice p1 n1 c1, .slice p2 n2 c2] w fun e w' => e = .returned (.bool true) ∧ Below w.heap.size w w' := by
  obtain ⟨i0, hi, hz0, hz1, hz2⟩ := info_parts infoStr
  have HV := Lib.hid fun W (h : Below w.heap.size w W) => hV.below h (Nat.le_refl _)
  have HK := Lib.hid hK
  have HP := Lib.hid hP
  have HO := Lib.hid hO
  have Hnk := Lib.hid hnk
  have Hn1 := Lib.hid hn1
  have Hn2 := Lib.hid hn2
  have HKi := Lib.hid hKi
  have HWk := Lib.hid (keysWeigh_any pk nk ck l hnk63 w hK)
  have HWp := Lib.hid fun W (h : Below w.heap.size w W) => textsWeigh_any p1 n1 c1 one hn163 W (hP.later h)
  have HWo := Lib.hid fun W (h : Below w.heap.size w W) => textsWeigh_any p2 n2 c2 two hn263 W (hO.later h)
  have HAw := Lib.hid fun W (h : Below w.heap.size w W) => awoke_any W (hV.below h (Nat.le_refl _))
  clear hK hP hO hV hnk hn1 hn2 hKi
  go_enter Tryz.func7, Tryz.ntmps7
  go_wp2_with fail
  refine HWk.out.mono ?_
  rintro e w1 ⟨⟨N1, rfl, hN1⟩, hb1⟩
  have Hb1 := Lib.hid hb1
  have HN1 := Lib.hid hN1
  have n10 := hN1.1
  clear hb1 hN1 HWk
  go_wp2_with fail
  refine (HWp.out _ Hb1.out).mono ?_
  rintro e w2 ⟨⟨N2, rfl, hN2⟩, rfl⟩
  have HN2 := Lib.hid hN2
  have n20 := hN2.1
  clear hN2 HWp
  go_wp2_with fail
  refine (HWo.out _ Hb1.out).mono ?_
  rintro e w3 ⟨⟨N3, rfl, hN3⟩, rfl⟩
  have HN3 := Lib.hid hN3
  have n30 := hN3.1
  clear hN3 HWo
  go_wp2_with fail
  refine (sum_same N2 N3 _ n20 n30).mono ?_
  rintro e w4 ⟨rfl, rfl⟩
  have n40 := addU_nn n20 n30
  have HS2 := Lib.hid (@addU_sum N2 N3)
  generalize addU N2 N3 = S2 at *
  go_wp2_with fail
  refine (sum_same N1 S2 _ n10 n40).mono ?_
  rintro e w5 ⟨rfl, rfl⟩
  have n50 := addU_nn n10 n40
  have HS1 := Lib.hid (@addU_sum N1 S2)
  generalize addU N1 S2 = S1 at *
  by_cases hbig : 1073741823 < S1
  · go_wp2_with fail
    go_ret
    exact ⟨rfl, Hb1.out⟩
  have hS1 : S1 ≤ 1073741823 := by omega
  have hsz : Hid (N1 ≤ 1073741823 ∧ N2 ≤ 1073741823 ∧ N3 ≤ 1073741823) := Lib.hid (by
    obtain ⟨h0, h1, h2⟩ := HS1.out (by omega)
    obtain ⟨h5, h3, h4⟩ := HS2.out h2
    exact ⟨by omega, by omega, by omega⟩)
  have HZk := Lib.hid (HN1.out.2.2 (by have := hsz.out.1; omega))
  have HZp := Lib.hid (HN2.out.2.2 (by have := hsz.out.2.1; omega))
  have HZo := Lib.hid (HN3.out.2.2 (by have := hsz.out.2.2; omega))
  have hn131 : n1 ≤ 1073741823 := by have := HZp.out.1; rw [Hn1.out] at this; have := hsz.out.2.1; omega
  have hn231 : n2 ≤ 1073741823 := by have := HZo.out.1; rw [Hn2.out] at this; have := hsz.out.2.2; omega
  have hnk31 : nk ≤ 2147483647 := by have := HZk.out.1; rw [Hnk.out] at this; have := hsz.out.1; omega
  have Hpl : Hid (∀ x ∈ one, x.length ≤ 1073741823) := Lib.hid fun x hx => by have := HZp.out.2 x hx; have := hsz.out.2.1; omega
  have Hol : Hid (∀ x ∈ two, x.length ≤ 1073741823) := Lib.hid fun x hx => by have := HZo.out.2 x hx; have := hsz.out.2.2; omega
  have HMd := Lib.hid fun W (h : Below w.heap.size w W) => made_any pk nk ck l false Hnk.out hnk31 (fun x hx => ky_ok (HKi.out x hx) (HZk.out.2 x hx) (by have := hsz.out.1; omega)) W (HK.out.later h) (HV.out W h)
  clear HZk HZp HZo HS1 HS2 HN1 HN2 HN3 hbig n10 n20 n30 n40 n50
  go_wp2_with fail
  refine (HAw.out _ Hb1.out).mono ?_
  rintro e w6 ⟨rfl, hb6⟩
  have Hb6 := Lib.hid (then_bel Hb1.out Hb1.out.size hb6)
  clear hb6 hS1
  go_wp2_with fail
  refine (HMd.out _ Hb6.out).mono ?_
  rintro e w7 ⟨⟨b, v7, rfl, hS7, hn7⟩, hb7⟩
  have HNm := Lib.hid (named_made false l)
  obtain ⟨S, hS⟩ : ∃ S, S = madeS false l := ⟨_, rfl⟩
  rw [← hS] at hS7 hn7 HNm
  clear hS HMd
  have hlen := hS7.len
  obtain ⟨pv, cv, hv7⟩ := hn7.form
  rw [List.length_map] at hv7
  obtain ⟨n, hn⟩ : ∃ n, n = S.length := ⟨_, rfl⟩
  rw [← hn] at hv7 hlen
  obtain rfl := hv7
  have HS7 := Lib.hid hS7
  have Hb7 := Lib.hid (then_bel Hb6.out Hb6.out.size hb7)
  obtain ⟨nms, hnms⟩ : ∃ nms, nms = S.map (·.name) := ⟨_, rfl⟩
  rw [← hnms] at hn7
  have HnS : Hid (Sts w7 (.slice pv n cv) nms) := Lib.hid (hn7.rw stC_len)
  have Hpn := Lib.hid HnS.out.ptr.2.2
  have Hnl : Hid (nms.length = n) := Lib.hid (by rw [hnms, List.length_map, hn])
  have Hnn : Hid (∀ x ∈ nms, nameL x = true) := Lib.hid fun x hx => by
    rw [hnms] at hx
    obtain ⟨y, hy, rfl⟩ := List.mem_map.1 hx
    exact HNm.out y hy
  have HPa : Hid (∀ (W : World) (p : Option Addr) (m c : Nat) (pairs : List (List UInt8)) (o : List Gv) (er : Int) (k : Nat), Below w7.heap.size w7 W → Sts W (.slice p m c) pairs → pairs.length = m → m ≤ 2147483647 → (∀ x ∈ pairs, x.length ≤ 2147483647) → parseL nms 0 pairs [] = (o, er, k) → Calls Tryz.prog 27 #[.pointer (some ⟨b, 0, none⟩), .slice p m c] W fun e w' => (∃ q cq, e = .returned (.tuple #[.slice q o.length cq, .int .i64 er, .int .i64 (k : Nat)]) ∧ NewGvs W.heap.size w' (.slice q o.length cq) o) ∧ Below W.heap.size W w') := Lib.hid fun W p m c pairs o er k hW hq hm hm31 hx hr => by
    have h := Parse_any w6.heap.size b S p c m pairs hm hm31 hx HNm.out W (HS7.out.later hW) hq ((HV.out W (then_bel Hb7.out Hb7.out.size hW)).glo)
    rw [← hnms, hr] at h
    refine h.mono ?_
    rintro e w' ⟨⟨v, rfl, hv⟩, hb⟩
    obtain ⟨q, cq, rfl⟩ := hv.form
    exact ⟨⟨q, cq, rfl, hv⟩, hb⟩
  have HNa : Hid (∀ (W : World) (y : List UInt8), nameL y = true → Below w7.heap.size w7 W → Calls Tryz.prog 21 #[.string (B y)] W fun e w' => e = .returned (.tuple #[.string (B (greatL y)), .int .i64 0]) ∧ Below W.heap.size W w') := Lib.hid fun W y hy hW => by
    have h := Name_any y (by have := name_len hy; omega) W ((HV.out W (then_bel Hb7.out Hb7.out.size hW)).glo)
    rw [nmL_yes hy, nmE_yes hy] at h
    exact h
  have H1w : Hid (∀ W, Below w7.heap.size w7 W → Sts W (.slice p1 n1 c1) one) := Lib.hid fun W hW => HP.out.later (then_bel Hb7.out Hb7.out.size hW)
  have H2w : Hid (∀ W, Below w7.heap.size w7 W → Sts W (.slice p2 n2 c2) two) := Lib.hid fun W hW => HO.out.later (then_bel Hb7.out Hb7.out.size hW)
  clear hn hS7 hn7 hb7 hnms HS7 HP HO HK Hnk HKi
  obtain ⟨⟨A, E, i1⟩, hr1⟩ : ∃ r, parseL nms 0 one [] = r := ⟨_, rfl⟩
  obtain ⟨⟨Bl, F, i2⟩, hr2⟩ : ∃ r, parseL nms 0 two [] = r := ⟨_, rfl⟩
  obtain ⟨⟨C, G, i3⟩, hr3⟩ : ∃ r, parseL nms 0 (one ++ two) [] = r := ⟨_, rfl⟩
  have HW3 := Lib.hid (join_ways nms one two hr1 hr2 hr3)
  have Hpc : Hid (∀ g ∈ C, AtPlace (one ++ two) g) := Lib.hid (by
    have h := parse_places (names := nms) (pairs := one ++ two) Hnn.out (one ++ two) 0 [] rfl (fun g hg => by cases hg)
    rw [hr3] at h
    exact h)
  have HC1 := Lib.hid fun W h => HPa.out W p1 n1 c1 one A E i1 h (H1w.out W h) Hn1.out (by omega) (fun x hx => by have := Hpl.out x hx; omega) hr1
  have HC2 := Lib.hid fun W h => HPa.out W p2 n2 c2 two Bl F i2 h (H2w.out W h) Hn2.out (by omega) (fun x hx => by have := Hol.out x hx; omega) hr2
  have HC3 := Lib.hid fun W p c h (hq : Sts W (.slice p (n1 + n2) c) (one ++ two)) => HPa.out W p (n1 + n2) c (one ++ two) C G i3 h hq (by rw [List.length_append, Hn1.out, Hn2.out]) (by omega) (fun x hx => by rcases List.mem_append.1 hx with h | h; have := Hpl.out x h; omega; have := Hol.out x h; omega) hr3
  have hlA := parse_len nms one 0 []
  have hlB := parse_len nms two 0 []
  have hlC := parse_len nms (one ++ two) 0 []
  rw [hr1, Hn1.out] at hlA
  rw [hr2, Hn2.out] at hlB
  rw [hr3, List.length_append, Hn1.out, Hn2.out] at hlC
  simp only [List.length_nil, Nat.zero_add] at hlA hlB hlC
  obtain ⟨nA, hnA⟩ : ∃ nA, nA = A.length := ⟨_, rfl⟩
  obtain ⟨nB, hnB⟩ : ∃ nB, nB = Bl.length := ⟨_, rfl⟩
  obtain ⟨nC, hnC⟩ : ∃ nC, nC = C.length := ⟨_, rfl⟩
  rw [← hnA] at hlA HC1
  rw [← hnB] at hlB HC2
  rw [← hnC] at hlC HC3
  have HnA := Lib.hid hnA
  have HnB := Lib.hid hnB
  have HnC := Lib.hid hnC
  clear hr1 hr2 hr3 hnA hnB hnC
  go_wp2_with fail
  refine (HC1.out _ (Below.refl _ _)).mono ?_
  rintro e w8 ⟨⟨pA, cA, rfl, hA8⟩, hb8⟩
  have Hb8 := Lib.hid hb8
  have HA8 := Lib.hid (hA8.rw gvC_len)
  clear hA8 hb8 HC1
  go_wp2_with fail
  refine (HC2.out _ Hb8.out).mono ?_
  rintro e w9 ⟨⟨pB, cB, rfl, hB9⟩, hb9⟩
  have Hb9 := Lib.hid (then_bel Hb8.out Hb8.out.size hb9)
  have HA9 := Lib.hid (HA8.out.later hb9)
  have HB9 := Lib.hid (hB9.rw gvC_len)
  have hz79 : w7.heap.size ≤ w9.heap.size := Hb9.out.size
  clear hB9 hb9 HC2 HA8
  have Hs1 := Lib.hid (src_st (H1w.out _ Hb9.out))
  have Hl1 : Hid ((rw.flat stC one).length = n1 * 1) := Lib.hid (by rw [flat_stl, Hn1.out, Nat.mul_one])
  have Hl2 : Hid ((rw.flat stC two).length = n2 * 1) := Lib.hid (by rw [flat_stl, Hn2.out, Nat.mul_one])
  have Ho1 := Lib.hid (rw.flat_one stC_one one)
  have Ho2 := Lib.hid (rw.flat_one stC_one two)
  focus
    go_wp2_with (at_builtin; go_must (refine wpList_append_any rfl _ _ 38 rfl 9 i0 _ 1 16 Tryz.underlying38 hi hz0 hz1 hz2 rfl (by decide) w9.heap.size (.slice none 0 0) 0 [] (by rfl) ⟨rfl, .inl ⟨rfl, rfl⟩⟩ _ n1 _ (by rfl) Hs1.out Hl1.out Ho1.out (by omega) (by omega) (Nat.le_refl _) ?_))
  intro p10 cap10 w10 hown10 hgrow10
  have HO10 : Hid (w10.ownsRow w9.heap.size 9 1 (.slice p10 n1 cap10) n1 (rw.flat stC one)) := Lib.hid (by
    have h := hown10
    first | exact h | (rw [Nat.zero_add, List.nil_append] at h; exact h))
  have Hb10 : Hid (Below w9.heap.size w9 w10) := Lib.hid ⟨hgrow10.os, hgrow10.tape, hgrow10.output, hgrow10.size, fun k hk => hgrow10.block k hk (by simp [Value.ownBlock])⟩
  try rw [Nat.zero_add]
  have hz910 : w9.heap.size ≤ w10.heap.size := Hb10.out.size
  have Hs2 := Lib.hid (src_st (H2w.out _ (then_bel Hb9.out hz79 Hb10.out)))
  clear hown10 hgrow10 Hs1
  focus
    go_wp2_with (at_builtin; go_must (refine wpList_append_any rfl _ _ 38 rfl 9 i0 _ 1 16 Tryz.underlying38 hi hz0 hz1 hz2 rfl (by decide) w9.heap.size _ n1 _ (by rfl) HO10.out _ n2 _ (by rfl) Hs2.out Hl2.out Ho2.out (by omega) (by omega) hz910 ?_))
  intro p11 cap11 w11 hown11 hgrow11
  have Hb11 : Hid (Below w9.heap.size w9 w11) := Lib.hid (below_grown_own Hb10.out HO10.out hgrow11 hz910)
  rw [← rw.flat_append] at hown11
  have HSb : Hid (Sts w11 (.slice p11 (n1 + n2) cap11) (one ++ two)) := Lib.hid (rw.own_rw stC_len (by decide) hown11)
  have HA11 := Lib.hid (HA9.out.later Hb11.out)
  have HB11 := Lib.hid (HB9.out.later Hb11.out)
  have Hw11 := Lib.hid (then_bel Hb9.out hz79 Hb11.out)
  have HCx := Lib.hid (HC3.out w11 p11 cap11 Hw11.out HSb.out)
  have Hbl : Hid ((one ++ two).length = n1 + n2) := Lib.hid (by rw [List.length_append, Hn1.out, Hn2.out])
  have Hb31 : Hid (∀ x ∈ one ++ two, x.length ≤ 1073741823) := Lib.hid fun x hx => by
    rcases List.mem_append.1 hx with h | h
    · exact Hpl.out x h
    · exact Hol.out x h
  obtain ⟨n3, hn3⟩ : ∃ n3, n3 = n1 + n2 := ⟨_, rfl⟩
  have hn3b : n3 ≤ 2147483646 := by omega
  rw [← hn3] at HSb HCx Hbl ⊢
  rw [Hn1.out, Hn2.out] at HW3
  clear hown11 hgrow11 HO10 Hb10 Hb11 Hs2 Hl1 Hl2 Ho1 Ho2 HC3 HA9 HB9 hn3 H1w H2w Hn2
  go_wp2_with fail
  refine HCx.out.mono ?_
  rintro e w12 ⟨⟨pC, cC, rfl, hC12⟩, hb12⟩
  have HC12 := Lib.hid (hC12.rw gvC_len)
  have HA12 := Lib.hid (HA11.out.later hb12)
  have HB12 := Lib.hid (HB11.out.later hb12)
  have HSb12 := Lib.hid (HSb.out.later hb12)
  have Hw12 := Lib.hid (then_bel Hw11.out Hw11.out.size hb12)
  have HnS12 := Lib.hid (HnS.out.later Hw12.out)
  clear hC12 hb12 HCx HA11 HB11 HSb Hw11 HnS
  have HwT : Hid (∀ W, Below w12.heap.size w12 W → Below w.heap.size w W) := Lib.hid fun W hW => then_bel (then_bel Hb7.out Hb7.out.size Hw12.out) (Nat.le_trans Hb7.out.size Hw12.out.size) hW
  rcases HW3.out with hw3 | hw3 | hw3
  · obtain ⟨hE, rfl, rfl, rfl, rfl, hi1⟩ := hw3
    obtain rfl : nA = 0 := HnA.out
    obtain rfl : nC = 0 := HnC.out
    have q1 : (i3 : Int) < (n1 : Int) := by omega
    have q0 : (0 : Int) ≤ (i3 : Int) := by omega
    clear HW3 hi1
    rcases hE with rfl | rfl
    all_goals
      go_wp2_with fail
      go_ret
      exact ⟨rfl, HwT.out _ (Below.refl _ _)⟩
  · obtain ⟨rfl, hF, rfl, hi3, hi2⟩ := hw3
    have hi3' : (i2 : Int) + (n1 : Int) = (i3 : Int) := by omega
    have hwr : IntKind.i64.wrap ((i2 : Int) + (n1 : Int)) = (i3 : Int) := by
      rw [IntWalk.i64_in _ (by omega)]
      omega
    have hw64 : ((i3 : Int) == wrap64 (i3 : Int)) = true := by
      unfold wrap64
      rw [beq_iff_eq]
      omega
    have Hw64 := Lib.hid hw64
    clear HW3 hi3 hi2 hw64
    rcases hF with rfl | rfl
    all_goals
      go_wp2_with fail
      go_ret
      exact ⟨congrArg (fun x => Ending.returned (Value.bool x)) Hw64.out, HwT.out _ (Below.refl _ _)⟩
  · obtain ⟨rfl, rfl, rfl, rfl, hC⟩ := hw3
    have HCe := Lib.hid hC
    have hsum : (nA : Int) + (nB : Int) = (nC : Int) := by
      rw [HnC.out, hC, List.length_append, List.length_map, ← HnA.out, ← HnB.out]
      omega
    have hwr : IntKind.i64.wrap ((nA : Int) + (nB : Int)) = (nC : Int) := by
      rw [IntWalk.i64_in _ (by omega)]
      omega
    have hnCs : nC = nA + nB := by omega
    have HnCs := Lib.hid hnCs
    clear HW3 hC hnCs
    go_wp2_with fail
    clear hsum hwr
    go_loopw [20] (fun vi wr => ∃ i : Nat, i ≤ nC ∧ vi = .int .i64 i ∧ Hid (Below w12.heap.size w12 wr)) (fun vi _ => nC - (intOf vi).toNat)
    case atStart => exact ⟨0, by omega, rfl, Lib.hid (Below.refl _ _)⟩
    case round =>
      obtain ⟨wo, rfl⟩ : ∃ wo, wo = wr := ⟨_, rfl⟩
      obtain ⟨i, hi', rfl, Hb⟩ := hrel
      have hzo := Hb.out.size
      by_cases hlt : i < nC
      · obtain ⟨g, hg⟩ : ∃ g, C[i]? = some g := ⟨_, List.getElem?_eq_getElem (by rw [← HnC.out]; exact hlt)⟩
        obtain ⟨bC, oC, rfl, hbC⟩ := HC12.out.ptr.2.2 (by omega)
        obtain ⟨hgn, hgp⟩ := Hpc.out g (List.mem_of_getElem? hg)
        have hpos : g.pos < n3 := by have := ls.lt_get hgp; rw [Hbl.out] at this; exact this
        obtain ⟨bS, oS, rfl, hbS⟩ := HSb12.out.ptr.2.2 (by omega)
        have HCc : Hid (∀ W, Below w12.heap.size w12 W → (W.cell? ⟨bC, oC + i * 3, none⟩ = some (.string (B g.name)) ∧ W.cell? ⟨bC, oC + i * 3 + 1, none⟩ = some (.string (B g.text)) ∧ W.cell? ⟨bC, oC + i * 3 + 2, none⟩ = some (.int .i64 g.pos)) ∧ bC < W.heap.size) := Lib.hid fun W hW => ⟨gv_cells (HC12.out.later hW) hg, by have := hW.size; omega⟩
        have HSc : Hid (∀ W, Below w12.heap.size w12 W → W.cell? ⟨bS, oS + g.pos, none⟩ = some (.string (B (greatL g.name ++ 61 :: g.text))) ∧ bS < W.heap.size) := Lib.hid fun W hW => ⟨st_cell (HSb12.out.later hW) hgp, by have := hW.size; omega⟩
        have HNx := Lib.hid fun W (hW : Below w12.heap.size w12 W) => HNa.out W g.name hgn (then_bel Hw12.out Hw12.out.size hW)
        have h31 := Hb31.out _ (List.mem_of_getElem? hgp)
        simp only [List.length_append, List.length_cons] at h31
        have HA1 : Hid (∀ W : World, (Op.stringOp .add (B (greatL g.name)) ⟨#[61]⟩).run Tryz.prog W = .ok (.string (B (greatL g.name ++ [61]))) W) := Lib.hid fun W => addB (greatL g.name) [61] (by simp; omega) W
        have HA2 : Hid (∀ W : World, (Op.stringOp .add (B (greatL g.name ++ [61])) (B g.text)).run Tryz.prog W = .ok (.string (B (greatL g.name ++ 61 :: g.text))) W) := Lib.hid fun W => by
          have h := addB (greatL g.name ++ [61]) g.text (by simp; omega) W
          rw [List.append_assoc] at h
          exact h
        have hii : (i : Int) < (nC : Int) := by omega
        have hi0' : (0 : Int) ≤ (i : Int) := by omega
        have hp0 : (0 : Int) ≤ (g.pos : Int) := by omega
        have hp1 : (g.pos : Int) < (n3 : Int) := by omega
        have hneq := neq_gv_same
        have hpb : g.pos ≤ 2147483646 := by omega
        clear hgn hgp h31
        by_cases hlA : i < nA
        · have hga : A[i]? = some g := by
            rw [HCe.out, List.getElem?_append_left (by rw [← HnA.out]; exact hlA)] at hg
            exact hg
          obtain ⟨bA, oA, rfl, hbA⟩ := HA12.out.ptr.2.2 (by omega)
          have hA3 := gv_cells (HA12.out.later Hb.out) hga
          have hbo : bA < wo.heap.size := by omega
          have hiA : (i : Int) < (nA : Int) := by omega
          clear hg hga
          generalize g.pos = gq at *
          generalize B (greatL g.name ++ 61 :: g.text) = zb at *
          generalize B (greatL g.name ++ [61]) = eb at *
          generalize B (greatL g.name) = gb' at *
          generalize B g.name = nb at *
          generalize B g.text = tb at *
          have hz2' : (zb.toList != zb.toList) = false := by simp
          obtain ⟨a0, a1, a2⟩ := hA3
          go_upto_region 22 with fail
          refine go_name2 (fun wX hX => ?_)
          have kX : wX.heap[wo.heap.size]? = some (.cells #[.string ⟨#[]⟩, .string ⟨#[]⟩, .int .i64 0] 35 (0, 0)) := by rw [hX]; exact heap_alloc_new wo _
          have hbX : Below wo.heap.size wo wX := by rw [hX]; exact (Below.refl _ _).alloc (Nat.le_refl _) _
          have HkX := Lib.hid kX
          have HbX := Lib.hid hbX
          have x0 : wX.cell? ⟨wo.heap.size, 0, none⟩ = some (.string ⟨#[]⟩) := cell_in kX
          have x1 : wX.cell? ⟨wo.heap.size, 1, none⟩ = some (.string ⟨#[]⟩) := cell_in kX
          have x2 : wX.cell? ⟨wo.heap.size, 2, none⟩ = some (.int .i64 0) := cell_in kX
          have f0 : wX.frozen? ⟨wo.heap.size, 0, none⟩ = false := free_in kX
          have f1 : wX.frozen? ⟨wo.heap.size, 1, none⟩ = false := free_in kX
          have f2 : wX.frozen? ⟨wo.heap.size, 2, none⟩ = false := free_in kX
          have hlX : wo.heap.size < wX.heap.size := lt_of_block kX
          clear kX
          have y0 := (hbX.cell (p := ⟨bA, oA + i * 3, none⟩) hbo).trans a0
          have y1 := (hbX.cell (p := ⟨bA, oA + i * 3 + 1, none⟩) hbo).trans a1
          have y2 := (hbX.cell (p := ⟨bA, oA + i * 3 + 2, none⟩) hbo).trans a2
          have hbo2 : bA < wX.heap.size := by omega
          clear a0 a1 a2 hX hbX
          go_upto_region 26 with fail
          refine go_name2 (fun wZ hZ => ?_)
          have kZ : wZ.heap[wo.heap.size]? = some (.cells #[.string nb, .string tb, .int .i64 (gq : Int)] 35 (0, 0)) := by rw [hZ]; exact ls.heap_setCells [.string nb, .string tb, .int .i64 (gq : Int)] wX _ 0 HkX.out
          have hbZ : Below wo.heap.size wo wZ := by rw [hZ]; exact ls.below_setCells (Nat.le_refl _) [.string nb, .string tb, .int .i64 (gq : Int)] wX 0 HbX.out
          have HkZ := Lib.hid kZ
          have HbZ := Lib.hid (then_bel Hb.out hzo hbZ)
          obtain ⟨⟨d0, d1, d2⟩, hdl⟩ := HCc.out _ HbZ.out
          clear hZ kZ hbZ y0 y1 y2 x0 x1 x2 f0 f1 f2
          go_wp2_with fail
          refine (HNx.out _ HbZ.out).mono ?_
          rintro e w13 ⟨rfl, hb13⟩
          have Hb13 := Lib.hid (then_bel HbZ.out HbZ.out.size hb13)
          have kW := (hb13.block wo.heap.size (lt_of_block HkZ.out)).trans HkZ.out
          have x0 : w13.cell? ⟨wo.heap.size, 0, none⟩ = some (.string nb) := cell_in kW
          have x1 : w13.cell? ⟨wo.heap.size, 1, none⟩ = some (.string tb) := cell_in kW
          have x2 : w13.cell? ⟨wo.heap.size, 2, none⟩ = some (.int .i64 (gq : Int)) := cell_in kW
          have hlW : wo.heap.size < w13.heap.size := lt_of_block kW
          clear d0 d1 d2 hdl
          obtain ⟨⟨d0, d1, d2⟩, hdl⟩ := HCc.out _ Hb13.out
          obtain ⟨s0, hsl⟩ := HSc.out _ Hb13.out
          have hadd1 := HA1.out
          have hadd2 := HA2.out
          clear hb13 kW HCc HSc HNx HA1 HA2
          go_wp2_with fail
          go_quiet (fail)
          rename_i nq
          have Hb14 := Lib.hid (then_bel Hb13.out Hb13.out.size (drewN_bel w13 nq))
          go_wp2_with fail
          go_roundw
          case rel => exact ⟨i + 1, by omega, by go_num, Hb14⟩
          case measure => simp [intOf]; omega
        · obtain ⟨k, hk⟩ : ∃ k, i = nA + k := ⟨i - nA, by omega⟩
          obtain ⟨y, hy⟩ : ∃ y, Bl[k]? = some y := ⟨_, List.getElem?_eq_getElem (by rw [← HnB.out]; have := HnCs.out; omega)⟩
          have hgy : g = sh n1 y := by
            rw [HCe.out, List.getElem?_append_right (by rw [← HnA.out]; omega), ← HnA.out, hk, Nat.add_sub_cancel_left, List.getElem?_map, hy] at hg
            exact (Option.some.inj hg).symm
          obtain ⟨bB, oB, rfl, hbB⟩ := HB12.out.ptr.2.2 (by have := HnCs.out; omega)
          have hB3 := gv_cells (HB12.out.later Hb.out) hy
          have hyn : y.name = g.name := by rw [hgy]; rfl
          have hyt : y.text = g.text := by rw [hgy]; rfl
          have hyp : (y.pos : Int) + (n1 : Int) = (g.pos : Int) := by rw [hgy]; show _ = ((y.pos + n1 : Nat) : Int); omega
          rw [hyn, hyt] at hB3
          have hywr : IntKind.i64.wrap ((y.pos : Int) + (n1 : Int)) = (g.pos : Int) := by rw [hyp]; exact IntWalk.i64_in _ (by omega)
          have hbo : bB < wo.heap.size := by omega
          have hkw : IntKind.i64.wrap ((i : Int) - (nA : Int)) = (k : Int) := by
            rw [IntWalk.i64_in _ (by omega)]
            omega
          have hkp : (i : Int) - (nA : Int) = (k : Int) := by omega
          have hk0 : (0 : Int) ≤ (k : Int) := by omega
          have hkB : (k : Int) < (nB : Int) := by have := HnCs.out; omega
          have hiA : ¬ (i : Int) < (nA : Int) := by omega
          have hiA2 : decide ((i : Int) < (nA : Int)) = false := by rw [decide_eq_false_iff_not]; exact hiA
          have hiA3 : decide (i < nA) = false := by rw [decide_eq_false_iff_not]; omega
          clear hg hy hgy hyn hyt hk
          generalize (y.pos : Int) = yp at *
          generalize g.pos = gq at *
          generalize B (greatL g.name ++ 61 :: g.text) = zb at *
          generalize B (greatL g.name ++ [61]) = eb at *
          generalize B (greatL g.name) = gb' at *
          generalize B g.name = nb at *
          generalize B g.text = tb at *
          have hz2' : (zb.toList != zb.toList) = false := by simp
          obtain ⟨a0, a1, a2⟩ := hB3
          go_upto_region 22 with fail
          refine go_name2 (fun wX hX => ?_)
          have kX : wX.heap[wo.heap.size]? = some (.cells #[.string ⟨#[]⟩, .string ⟨#[]⟩, .int .i64 0] 35 (0, 0)) := by rw [hX]; exact heap_alloc_new wo _
          have hbX : Below wo.heap.size wo wX := by rw [hX]; exact (Below.refl _ _).alloc (Nat.le_refl _) _
          have HkX := Lib.hid kX
          have HbX := Lib.hid hbX
          have x0 : wX.cell? ⟨wo.heap.size, 0, none⟩ = some (.string ⟨#[]⟩) := cell_in kX
          have x1 : wX.cell? ⟨wo.heap.size, 1, none⟩ = some (.string ⟨#[]⟩) := cell_in kX
          have x2 : wX.cell? ⟨wo.heap.size, 2, none⟩ = some (.int .i64 0) := cell_in kX
          have f0 : wX.frozen? ⟨wo.heap.size, 0, none⟩ = false := free_in kX
          have f1 : wX.frozen? ⟨wo.heap.size, 1, none⟩ = false := free_in kX
          have f2 : wX.frozen? ⟨wo.heap.size, 2, none⟩ = false := free_in kX
          have hlX : wo.heap.size < wX.heap.size := lt_of_block kX
          clear kX
          have y0 := (hbX.cell (p := ⟨bB, oB + k * 3, none⟩) hbo).trans a0
          have y1 := (hbX.cell (p := ⟨bB, oB + k * 3 + 1, none⟩) hbo).trans a1
          have y2 := (hbX.cell (p := ⟨bB, oB + k * 3 + 2, none⟩) hbo).trans a2
          have hbo2 : bB < wX.heap.size := by omega
          clear a0 a1 a2 hX hbX
          go_upto_region 25 with fail
          refine go_name2 (fun wY hY => ?_)
          have kY : wY.heap[wo.heap.size]? = some (.cells #[.string nb, .string tb, .int .i64 yp] 35 (0, 0)) := by rw [hY]; exact ls.heap_setCells [.string nb, .string tb, .int .i64 yp] wX _ 0 HkX.out
          have hbY : Below wo.heap.size wo wY := by rw [hY]; exact ls.below_setCells (Nat.le_refl _) [.string nb, .string tb, .int .i64 yp] wX 0 HbX.out
          have HkY := Lib.hid kY
          have HbY := Lib.hid hbY
          have x2' : wY.cell? ⟨wo.heap.size, 2, none⟩ = some (.int .i64 yp) := cell_in kY
          have f2' : wY.frozen? ⟨wo.heap.size, 2, none⟩ = false := free_in kY
          have hlY : wo.heap.size < wY.heap.size := lt_of_block kY
          clear hY kY hbY y0 y1 y2 x0 x1 x2 f0 f1 f2
          go_upto_region 26 with fail
          refine go_name2 (fun wZ hZ => ?_)
          have kZ : wZ.heap[wo.heap.size]? = some (.cells #[.string nb, .string tb, .int .i64 (gq : Int)] 35 (0, 0)) := by rw [hZ]; exact heap_set HkY.out _
          have hbZ : Below wo.heap.size wo wZ := by rw [hZ]; exact HbY.out.setCell (p := ⟨wo.heap.size, 2, none⟩) (Nat.le_refl _) _
          clear x2' f2'
          have HkZ := Lib.hid kZ
          have HbZ := Lib.hid (then_bel Hb.out hzo hbZ)
          obtain ⟨⟨d0, d1, d2⟩, hdl⟩ := HCc.out _ HbZ.out
          clear hZ kZ hbZ hlX
          go_wp2_with fail
          refine (HNx.out _ HbZ.out).mono ?_
          rintro e w13 ⟨rfl, hb13⟩
          have Hb13 := Lib.hid (then_bel HbZ.out HbZ.out.size hb13)
          have kW := (hb13.block wo.heap.size (lt_of_block HkZ.out)).trans HkZ.out
          have x0 : w13.cell? ⟨wo.heap.size, 0, none⟩ = some (.string nb) := cell_in kW
          have x1 : w13.cell? ⟨wo.heap.size, 1, none⟩ = some (.string tb) := cell_in kW
          have x2 : w13.cell? ⟨wo.heap.size, 2, none⟩ = some (.int .i64 (gq : Int)) := cell_in kW
          have hlW : wo.heap.size < w13.heap.size := lt_of_block kW
          clear d0 d1 d2 hdl
          obtain ⟨⟨d0, d1, d2⟩, hdl⟩ := HCc.out _ Hb13.out
          obtain ⟨s0, hsl⟩ := HSc.out _ Hb13.out
          have hadd1 := HA1.out
          have hadd2 := HA2.out
          clear hb13 kW HCc HSc HNx HA1 HA2
          go_wp2_with fail
          go_quiet (fail)
          rename_i nq
          have Hb14 := Lib.hid (then_bel Hb13.out Hb13.out.size (drewN_bel w13 nq))
          go_wp2_with fail
          go_roundw
          case rel => exact ⟨i + 1, by omega, by go_num, Hb14⟩
          case measure => simp [intOf]; omega
      · obtain rfl : i = nC := by omega
        clear HC12 HA12 HB12 HSb12 Hpc HCe
        go_wp2_with fail
        go_loopw [24] (fun vt wr => ∃ t : Nat, t ≤ n ∧ vt = .int .i64 t ∧ Hid (Below w12.heap.size w12 wr)) (fun vt _ => n - (intOf vt).toNat)
        case atStart => exact ⟨0, by omega, rfl, Hb⟩
        case round =>
          clear Hb hzo
          obtain ⟨wp, rfl⟩ : ∃ wp, wp = wr := ⟨_, rfl⟩
          obtain ⟨t, ht, rfl, Hb⟩ := hrel
          have hzo := Hb.out.size
          by_cases hltt : t < n
          · obtain ⟨bn, on, rfl, hbn⟩ := Hpn.out (by omega)
            obtain ⟨y, hy⟩ : ∃ y, nms[t]? = some y := ⟨_, List.getElem?_eq_getElem (by rw [Hnl.out]; exact hltt)⟩
            have hym := List.mem_of_getElem? hy
            have hyn := Hnn.out y hym
            have hy32 := name_len hyn
            have HSc : Hid (∀ W, Below w12.heap.size w12 W → W.cell? ⟨bn, on + t, none⟩ = some (.string (B y)) ∧ bn < W.heap.size) := Lib.hid fun W hW => ⟨st_cell (HnS12.out.later hW) hy, by have := (then_bel Hw12.out Hw12.out.size hW).size; omega⟩
            have HNx := Lib.hid fun W (hW : Below w12.heap.size w12 W) => HNa.out W y hyn (then_bel Hw12.out Hw12.out.size hW)
            have HA1 : Hid (∀ W : World, (Op.stringOp .add (B (greatL y)) ⟨#[61, 120]⟩).run Tryz.prog W = .ok (.string (B (greatL y ++ [61, 120]))) W) := Lib.hid fun W => addB (greatL y) [61, 120] (by simp [great_len]; omega) W
            have HP1 : Hid (∀ (W : World) (q : Nat) (cs : Array Value), Below w12.heap.size w12 W → W.heap[q]? = some (.cells cs 9 (0, 0)) → cs = #[.string (B (greatL y ++ [61, 120])), .string ⟨#[61]⟩, .string (B (greatL y))] → Calls Tryz.prog 27 #[.pointer (some ⟨b, 0, none⟩), .slice (some ⟨q, 0, none⟩) 3 3] W fun e w' => (∃ v cv, e = .returned (.tuple #[.slice v 0 cv, .int .i64 80, .int .i64 1])) ∧ Below W.heap.size W w') := Lib.hid fun W q cs hW hq hcs => by
              have hS := rw.rw_lit stC_len (l := [greatL y ++ [61, 120], [61], greatL y]) hq (by rw [hcs]; rfl)
              refine (HPa.out W _ 3 3 [greatL y ++ [61, 120], [61], greatL y] _ _ _ (then_bel Hw12.out Hw12.out.size hW) hS rfl (by decide) (fun x hx => ?_) (alone_bad Hnn.out hym)).mono ?_
              · have hg := great_len y
                simp only [List.mem_cons, List.not_mem_nil, or_false] at hx
                rcases hx with rfl | rfl | rfl
                · rw [List.length_append, hg]; simp; omega
                · simp
                · rw [hg]; omega
              · rintro e w' ⟨⟨v, cv, rfl, _⟩, hb⟩
                exact ⟨⟨v, cv, rfl⟩, hb⟩
            have HP2 : Hid (∀ (W : World) (q : Nat) (cs : Array Value), Below w12.heap.size w12 W → W.heap[q]? = some (.cells cs 9 (0, 0)) → cs = #[.string ⟨#[49, 61, 120]⟩, .string (B (greatL y ++ [61, 120]))] → Calls Tryz.prog 27 #[.pointer (some ⟨b, 0, none⟩), .slice (some ⟨q, 0, none⟩) 2 2] W fun e w' => (∃ v cv, e = .returned (.tuple #[.slice (some ⟨v, 0, none⟩) 1 cv, .int .i64 0, .int .i64 0]) ∧ 1 ≤ cv ∧ v < w'.heap.size ∧ w'.cell? ⟨v, 0, none⟩ = some (.string (B y)) ∧ w'.cell? ⟨v, 1, none⟩ = some (.string ⟨#[120]⟩) ∧ w'.cell? ⟨v, 2, none⟩ = some (.int .i64 1)) ∧ Below W.heap.size W w') := Lib.hid fun W q cs hW hq hcs => by
              have hS := rw.rw_lit stC_len (l := [[49, 61, 120], greatL y ++ [61, 120]]) hq (by rw [hcs]; rfl)
              refine (HPa.out W _ 2 2 [[49, 61, 120], greatL y ++ [61, 120]] _ _ _ (then_bel Hw12.out Hw12.out.size hW) hS rfl (by decide) (fun x hx => ?_) (alone_good Hnn.out hym)).mono ?_
              · have hg := great_len y
                simp only [List.mem_cons, List.not_mem_nil, or_false] at hx
                rcases hx with rfl | rfl
                · simp
                · rw [List.length_append, hg]; simp; omega
              · rintro e w' ⟨⟨v, cv, rfl, hv⟩, hb⟩
                rcases hv with ⟨h, _⟩ | ⟨gq, cq, cs', h1, h2, _, h4, _, h6⟩
                · cases h
                · cases h1
                  exact ⟨⟨gq, cv, rfl, h2, lt_of_block h4, by rw [cell_in h4]; exact h6 0 _ rfl, by rw [cell_in h4]; exact h6 1 _ rfl, by rw [cell_in h4]; exact h6 2 _ rfl⟩, hb⟩
            have hti : (t : Int) < (n : Int) := by omega
            have ht0 : (0 : Int) ≤ (t : Int) := by omega
            have hneq := neq_gv_same
            clear hy hym hyn hy32
            obtain ⟨s0, h0'⟩ := HSc.out _ Hb.out
            generalize B (greatL y ++ [61, 120]) = zb at *
            generalize B (greatL y) = gb' at *
            generalize B y = yb at *
            have hadd := HA1.out
            go_wp2_with fail
            refine (HNx.out _ Hb.out).mono ?_
            rintro e w13 ⟨rfl, hb13⟩
            have Hb13 := Lib.hid (then_bel Hb.out hzo hb13)
            clear hb13 s0 h0'
            obtain ⟨wA, hwA⟩ : ∃ wA, wA = w13.alloc (.cells #[.string zb, .string ⟨#[61]⟩, .string gb'] 9) := ⟨_, rfl⟩
            have HkA : Hid (wA.heap[w13.heap.size]? = some (.cells #[.string zb, .string ⟨#[61]⟩, .string gb'] 9 (0, 0))) := Lib.hid (by rw [hwA]; exact heap_alloc_new w13 _)
            have hbA : Below w13.heap.size w13 wA := by rw [hwA]; exact (Below.refl _ _).alloc (Nat.le_refl _) _
            have HbA := Lib.hid (then_bel Hb13.out Hb13.out.size hbA)
            clear hbA
            go_wp2_with fail
            rw [← hwA]
            clear hwA
            refine (HP1.out wA w13.heap.size _ HbA.out HkA.out rfl).mono ?_
            rintro e w14 ⟨⟨v14, c14, rfl⟩, hb14⟩
            have Hb14 := Lib.hid (then_bel HbA.out HbA.out.size hb14)
            clear hb14 HkA
            obtain ⟨wB, hwB⟩ : ∃ wB, wB = w14.alloc (.cells #[.string ⟨#[49, 61, 120]⟩, .string zb] 9) := ⟨_, rfl⟩
            have HkB : Hid (wB.heap[w14.heap.size]? = some (.cells #[.string ⟨#[49, 61, 120]⟩, .string zb] 9 (0, 0))) := Lib.hid (by rw [hwB]; exact heap_alloc_new w14 _)
            have hbB : Below w14.heap.size w14 wB := by rw [hwB]; exact (Below.refl _ _).alloc (Nat.le_refl _) _
            have HbB := Lib.hid (then_bel Hb14.out Hb14.out.size hbB)
            clear hbB
            go_wp2_with fail
            rw [← hwB]
            clear hwB hadd
            refine (HP2.out wB w14.heap.size _ HbB.out HkB.out rfl).mono ?_
            rintro e w15 ⟨⟨v15, c15, rfl, hc15, hv15, d0, d1, d2⟩, hb15⟩
            have Hb15 := Lib.hid (then_bel HbB.out HbB.out.size hb15)
            obtain ⟨s0, h0'⟩ := HSc.out _ Hb15.out
            clear hb15 HkB HP1 HP2 HNx HSc
            go_wp2_with fail
            go_quiet (fail)
            rename_i nq
            have Hb16 := Lib.hid (then_bel Hb15.out Hb15.out.size (drewN_bel w15 nq))
            go_wp2_with fail
            go_roundw
            case rel => exact ⟨t + 1, by omega, by go_num, Hb16⟩
            case measure => simp [intOf]; omega
          · obtain rfl : t = n := by omega
            go_wp2_with fail
            go_ret
            exact ⟨rfl, HwT.out _ Hb.out⟩
end Go.Proofs.YtpfhhaonfbfheaaGreatDoor.en
