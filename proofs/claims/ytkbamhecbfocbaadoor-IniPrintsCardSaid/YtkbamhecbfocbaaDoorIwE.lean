/- tinderboxlaw06.parses returns true: the program's Parse and the reference's give the same of each text, lists apart. Conditions: one to seven texts; the tables hold what the text lays. -/
import Derived.Test.YtkbamhecbfocbaaDoorIwD
import Derived.Test.YtkbamhecbfocbaaDoorInY
namespace Go.Proofs.YtkbamhecbfocbaaDoor.ini
open Go.ChangeShapes Go.WideShapes Go.ChangeAt Go.RowKit gl

theorem runL_len : ∀ (ss : List (List UInt8)) (k : Nat) (a : List UInt8) (out : List Ln), (runL k a out ss).1.length ≤ out.length + ss.length
  | [], _, _, _ => by simp [runL]
  | s :: ss, k, a, out => by
    rw [runL]
    split
    · simp
    · refine Nat.le_trans (runL_len ss _ _ _) ?_
      simp only [List.length_cons]; omega
    · refine Nat.le_trans (runL_len ss _ _ _) ?_
      simp only [List.length_cons, List.length_append, List.length_nil]; omega
theorem parseL_len (l : List UInt8) : (parseL l).1.length ≤ 8001 := by
  unfold parseL
  split
  · rename_i h
    have h1 := runL_len (pcs 10 l) 0 [] []
    have h2 := pcs_length 10 l
    have h3 := List.count_le_length (a := (10 : UInt8)) (l := l)
    simp only [List.length_nil] at h1
    omega
  · simp

/-- The texts of a slice. -/
def Txts (w : World) (sb : Nat) (ss : List ByteArray) : Prop := sb < w.heap.size ∧ ∀ (j : Nat) s, ss[j]? = some s → w.cell? ⟨sb, j, none⟩ = some (.string s)

set_option maxHeartbeats 4000000 in
set_option maxRecDepth 100000 in
theorem parses_any (ss : List ByteArray) (m : Nat) (hm : ss.length = m) (hm0 : 0 < m) (hm7 : m ≤ 7) (hss : ∀ s ∈ ss, s.size ≤ 9223372036854775807) (sb c : Nat) (hc : m ≤ c) (w : World) (hS : Txts w sb ss) (hG : Glo w) :
    Calls Tryd.prog 13 #[.slice (some ⟨sb, 0, none⟩) m c] w fun e w' => e = .returned (.bool true) ∧ Below w.heap.size w w' := by
  have HS := Lib.hid hS
  have HG := Lib.hid hG
  have Hm := Lib.hid hm
  have Hss := Lib.hid hss
  have hsb := hS.1
  obtain ⟨i1, hi, hz0, hz1, hz2⟩ := info_parts infoLs
  clear hS hG hm hss
  go_enter Tryd.func13, Tryd.ntmps13
  go_wp2_with fail
  go_loopw [3, 4, 5] (fun lv wv i wr => ∃ (j : Nat) (pl pw : Option Addr) (cl cw : Nat) (rs : List ls.LR) (lss : List (List Ln)) (vw : List Value), j ≤ m ∧ i = .int .i64 j ∧ lv = .slice pl j cl ∧ wv = .slice pw j cw ∧ Hid (PL w.heap.size wr j pl cl pw cw rs lss vw) ∧ Hid (Below w.heap.size w wr)) (fun _ _ i _ => m - (intOf i).toNat)
  case atStart => exact ⟨0, none, none, 0, 0, [], [], [], by omega, rfl, rfl, rfl, Lib.hid (PL.start _ _), Lib.hid (Below.refl _ _)⟩
  case round =>
    obtain ⟨j, pl, pw, cl, cw, rs, lss, vw, hj, rfl, rfl, rfl, Hpl, Hb⟩ := hrel
    have hzr := Hb.out.size
    by_cases hlt : j < m
    · obtain ⟨s, hs⟩ : ∃ s, ss[j]? = some s := ⟨_, List.getElem?_eq_getElem (by rw [Hm.out]; exact hlt)⟩
      have hs63 := Hss.out s (List.mem_of_getElem? hs)
      have c0 : wr.cell? ⟨sb, j, none⟩ = some (.string s) := (Hb.out.cell (p := ⟨sb, j, none⟩) hsb).trans (HS.out.2 j s hs)
      have hsr : sb < wr.heap.size := by omega
      have HP := Lib.hid (parse_any s hs63 wr (HG.out.below Hb.out (Nat.le_refl _)))
      have HQ := Lib.hid (refParse_any s hs63)
      have hlen := parseL_len s.data.toList
      clear hs
      obtain ⟨⟨L, E, N⟩, hP⟩ : ∃ r, parseL s.data.toList = r := ⟨_, rfl⟩
      rw [hP] at HP HQ hlen
      clear hP
      simp only at hlen
      have hn4 : L.length ≤ 4294967295 := by omega
      go_wp2_with fail
      refine HP.out.mono ?_
      rintro e w1 ⟨⟨v1, rfl, hn1⟩, hb1⟩
      obtain ⟨p1, cc1, rfl⟩ := hn1.form
      dsimp only
      have d0 : w1.cell? ⟨sb, j, none⟩ = some (.string s) := (hb1.cell (p := ⟨sb, j, none⟩) hsr).trans c0
      have Hb1 := Lib.hid hb1
      have Hn1 := Lib.hid hn1
      clear hb1 hn1
      go_wp2_with fail
      refine (HQ.out w1).mono ?_
      rintro e w2 ⟨⟨v2, rfl, hn2⟩, hb2⟩
      obtain ⟨p2, cc2, rfl⟩ := hn2.form
      dsimp only
      have Hb2 := Lib.hid (then_bel Hb1.out hb2)
      have Hn12 := Lib.hid (Hn1.out.later hb2)
      have Hn2 := Lib.hid hn2
      have hz1r := Hb1.out.size
      have hz12 := hb2.size
      have hle1 : L.length ≤ cc1 := (Hn1.out.lns.ptr).2.1
      have hle2 : L.length ≤ cc2 := (hn2.lns.ptr).2.1
      clear hb2 hn2
      go_wp2_with fail
      refine (same_eq p1 p2 L.length cc1 cc2 L hn4 w2 Hn12.out.lns Hn2.out.lns).mono ?_
      rintro e w3 ⟨rfl, q, hw3⟩
      have hb23 : Below w2.heap.size w2 w3 := by rw [hw3]; exact drewN_bel w2 q
      have Hb3 := Lib.hid (then_bel Hb2.out hb23)
      have Hn13 := Lib.hid ((Hn12.out.later hb23).mono (show wr.heap.size ≤ wr.heap.size from Nat.le_refl _))
      have Hn23 := Lib.hid ((Hn2.out.later hb23).mono (show w.heap.size ≤ w1.heap.size by omega))
      have Hpl3 := Lib.hid (Hpl.out.keep Hb3.out)
      have hz3 : w.heap.size ≤ w3.heap.size := by have := Hb3.out.size; omega
      have Hbw3 := Lib.hid (Hb.out.trans (Hb3.out.mono hzr))
      have Hfr := Lib.hid (Hpl.out.fresh (R := ⟨p1, L.length, cc1⟩) (l := L) Hn13.out)
      have hE : (E != E) = false := by simp
      have hN : (N != N) = false := by simp
      clear hb23 hw3
      focus
        go_wp2_with (at_builtin; go_must (refine wpList_append_lit rfl _ _ 55 rfl 27 i1 _ 24 Tryd.underlying55 hi hz0 hz1 hz2 rfl _ 1 (by omega) (by rfl) (by rfl) w.heap.size _ j _ (by rfl) Hpl3.out.ownl (by simp [Value.oneCell']) (by omega) (by omega) (by omega) ?_))
      intro ga ca wa hown hgrow hat hza hlta
      have Hown := Lib.hid hown
      have Hgrow := Lib.hid hgrow
      have Hat := Lib.hid hat
      have HW := Lib.hid (Hpl3.out.wantAt hgrow)
      have hzwa : w.heap.size ≤ wa.heap.size := by have := hgrow.size; omega
      have Hbwa := Lib.hid (below_grown_own Hbw3.out Hpl3.out.ownl hgrow hz3)
      clear hown hgrow hat
      focus
        go_wp2_with (at_builtin; go_must (refine wpList_append_lit rfl _ _ 55 rfl 27 i1 _ 24 Tryd.underlying55 hi hz0 hz1 hz2 rfl _ 1 (by omega) (by rfl) (by rfl) w.heap.size _ j _ (by rfl) HW.out (by simp [Value.oneCell']) (by omega) (by omega) (by omega) ?_))
      intro gb cb wb hown2 hgrow2 hat2 hzb hltb
      have HN := Lib.hid (Hpl3.out.next (R := ⟨p1, L.length, cc1⟩) (l := L) (v := .slice p2 L.length cc2) (Hn13.out.mono hzr) hn4 Hfr.out Hn23.out Hown.out Hgrow.out Hat.out hlta hown2 hgrow2 hat2)
      have Hbwb := Lib.hid (below_grown_own Hbwa.out HW.out hgrow2 hzwa)
      clear hown2 hgrow2 hat2
      go_wp2_with fail
      go_roundw
      case rel => exact ⟨j + 1, _, _, ca, cb, _, _, _, by omega, by go_num, rfl, rfl, HN, Hbwb⟩
      case measure => simp [intOf]; omega
    · obtain rfl : j = m := by omega
      obtain ⟨gl, rfl, hcl, hgl, hrow⟩ := Hpl.out.rowL hm0
      obtain ⟨gw, rfl, hcw, hgw, hW⟩ := Hpl.out.rowW hm0
      have hrl : rs.length = j := by have := Hpl.out.ownl.1; simpa using this
      have HA := Lib.hid (apart_any w.heap.size rs lss j hm7 hrl Hpl.out.len gl cl gw cw hcl hcw wr hzr Hpl.out.holds Hpl.out.dist hrow Hpl.out.lists hW)
      clear hrow hW hrl
      go_wp2_with fail
      refine HA.out.mono ?_
      rintro e w9 ⟨rfl, hb9⟩
      have Hb9 := Lib.hid (Hb.out.trans hb9)
      clear hb9
      go_wp2_with fail
      go_ret
      exact ⟨rfl, Hb9.out⟩
end Go.Proofs.YtkbamhecbfocbaaDoor.ini
