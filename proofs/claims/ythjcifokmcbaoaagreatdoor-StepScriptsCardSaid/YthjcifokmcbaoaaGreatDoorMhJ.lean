/- Laws and contracts on which the statement rests, part J: each text says what it proves, and its conditions. -/
import Derived.Test.YthjcifokmcbaoaaGreatDoorMhI
import Derived.Laws.Rows
/- Lists of texts in memory; law 16's texts; step.Functions. Conditions: lists of at most 4294967295 texts. -/
namespace Go.Proofs.YthjcifokmcbaoaaGreatDoor.st
open Go.ChangeShapes Go.WideShapes Go.ChangeAt Go.RowKit gl ls

def txC (x : List UInt8) : List Value := [.string (B x)]
theorem txC_len (x : List UInt8) : (txC x).length = 1 := rfl
theorem txC_one : ∀ (x : List UInt8), ∀ v ∈ txC x, v.oneCell' = true := by
  intro x v hv
  simp only [txC, List.mem_cons, List.not_mem_nil, or_false] at hv
  subst hv
  rfl
abbrev Txt (w : World) (v : Value) (l : List (List UInt8)) : Prop := rw.Rw txC 1 w v l
theorem txt_cell {w : World} {b o n c : Nat} {l : List (List UInt8)} (h : Txt w (.slice (some ⟨b, o, none⟩) n c) l) {j : Nat} {x : List UInt8} (hx : l[j]? = some x) : w.cell? ⟨b, o + j, none⟩ = some (.string (B x)) := by
  have := rw.Rw.cell h hx (i := 0) rfl
  rwa [Nat.mul_one, Nat.add_zero] at this
set_option maxHeartbeats 2000000 in
set_option maxRecDepth 100000 in
theorem texts_any (p p' : Option Addr) (m m' c c' : Nat) (l l' : List (List UInt8)) (hl : m ≤ 4294967295) (hl' : m' ≤ 4294967295) (w : World) (h : Txt w (.slice p m c) l) (h' : Txt w (.slice p' m' c') l') :
    Calls Tryz.prog 40 #[.slice p m c, .slice p' m' c'] w fun e w' => ∃ r : Bool, e = .returned (.bool r) ∧ (l = l' → r = true) ∧ ∃ q, w' = w.drewN q := by
  obtain ⟨hlen, hmc, hptr⟩ := h.ptr
  obtain ⟨hlen', hmc', hptr'⟩ := h'.ptr
  have HS := Lib.hid h
  have HS' := Lib.hid h'
  have Hlen := Lib.hid hlen
  have Hlen' := Lib.hid hlen'
  have Hptr := Lib.hid hptr
  have Hptr' := Lib.hid hptr'
  clear h h' hlen hlen' hptr hptr'
  by_cases hmm : m = m'
  · subst hmm
    go_enter Tryz.func40, Tryz.ntmps40
    go_wp2_with fail
    go_loopw [5] (fun i wr => ∃ j q : Nat, j ≤ m ∧ i = .int .i64 j ∧ wr = w.drewN q) (fun i _ => m - (intOf i).toNat)
    case atStart => exact ⟨0, 0, by omega, rfl, rfl⟩
    case round =>
      obtain ⟨j, q, hj, rfl, rfl⟩ := hrel
      by_cases hlt : j < m
      · obtain ⟨b, o, rfl, hbl⟩ := Hptr.out (by omega)
        obtain ⟨b', o', rfl, hbl'⟩ := Hptr'.out (by omega)
        obtain ⟨x, hx⟩ : ∃ x, l[j]? = some x := ⟨_, List.getElem?_eq_getElem (by rw [Hlen.out]; exact hlt)⟩
        obtain ⟨y, hy⟩ : ∃ y, l'[j]? = some y := ⟨_, List.getElem?_eq_getElem (by rw [Hlen'.out]; exact hlt)⟩
        have c0 := txt_cell HS.out hx
        have d0 := txt_cell HS'.out hy
        have Hs : Hid (l = l' → (!((B x).toList == (B y).toList)) = false) := Lib.hid fun e => by rw [e, hy] at hx; obtain rfl := Option.some.inj hx; simp
        clear hx hy
        have hk1 : (j : Int) < (m : Int) := by omega
        have hk5 : (0 : Int) ≤ (j : Int) := by omega
        cases ht : ((B x).toList == (B y).toList) with
        | true =>
          generalize B x = n1 at *
          generalize B y = n2 at *
          replace c0 : (w.drewN q).cell? ⟨b, o + j, none⟩ = some (.string n1) := c0
          replace d0 : (w.drewN q).cell? ⟨b', o' + j, none⟩ = some (.string n2) := d0
          generalize hq : w.drewN q = wr at *
          have Hq := Lib.hid hq
          clear hq
          go_wp2_with fail
          go_quiet (fail)
          go_wp2_with fail
          go_roundw
          case rel => exact ⟨j + 1, _, by omega, by go_num, by rw [← Hq.out, World.drewN_drewN]⟩
          case measure => simp [intOf]; omega
        | false =>
          rw [ht] at Hs
          generalize B x = n1 at *
          generalize B y = n2 at *
          replace c0 : (w.drewN q).cell? ⟨b, o + j, none⟩ = some (.string n1) := c0
          replace d0 : (w.drewN q).cell? ⟨b', o' + j, none⟩ = some (.string n2) := d0
          generalize hq : w.drewN q = wr at *
          have Hq := Lib.hid hq
          clear hq
          go_wp2_with fail
          go_quiet (fail)
          go_wp2_with fail
          go_ret
          exact ⟨false, rfl, fun e => absurd (Hs.out e) (by simp), _, by rw [← Hq.out, World.drewN_drewN]⟩
      · obtain rfl : j = m := by omega
        go_wp2_with fail
        go_ret
        exact ⟨true, rfl, fun _ => rfl, q, rfl⟩
  · have hmm' : ((m : Int) != (m' : Int)) = true := by simp; omega
    have hne : l ≠ l' := by rintro rfl; exact hmm (by rw [← Hlen.out, ← Hlen'.out])
    have Hne := Lib.hid hne
    clear hmm hne
    go_enter Tryz.func40, Tryz.ntmps40
    go_wp2_with fail
    go_ret
    exact ⟨false, rfl, fun e => absurd e Hne.out, 0, rfl⟩
def nmL : List (List UInt8) := [nDouble, nLower, nReverse, nTrim, nUpper]
theorem nm_cells : rw.flat txC nmL = namesL := rfl
theorem functions_any (w : World) (hS : Slo w) : Calls Tryz.prog 39 #[] w fun e w' => ∃ v, e = .returned v ∧ w'.ownsRow w.heap.size 9 1 v 5 namesL ∧ Below w.heap.size w w' := by
  have hc := hS.names
  have HC := Lib.hid (Tryz.slices_Clone_string 0 0 5 5 (nmL.map B) w (by decide) (by decide) (fun j hj => by
    have hj5 : j < 5 := hj
    match j, hj5 with
    | 0, _ => exact hc 0 _ rfl
    | 1, _ => exact hc 1 _ rfl
    | 2, _ => exact hc 2 _ rfl
    | 3, _ => exact hc 3 _ rfl
    | 4, _ => exact hc 4 _ rfl))
  clear hc hS
  go_enter Tryz.func39, Tryz.ntmps39
  go_wp2_with fail
  refine HC.out.mono ?_
  rintro e w1 ⟨v, rfl, ho, _, hb⟩
  have HO := Lib.hid ho
  have Hb := Lib.hid hb
  clear ho hb
  go_wp2_with fail
  go_ret
  exact ⟨_, rfl, HO.out, Hb.out⟩
end Go.Proofs.YthjcifokmcbaoaaGreatDoor.st
/- StepStands returns true. Condition: the listed variables hold what the program's text lays. -/
namespace Go.Proofs.YthjcifokmcbaoaaGreatDoor.st
open Go.ChangeShapes Go.WideShapes Go.ChangeAt Go.RowKit gl ls

/-- A store into a row that the call owns. -/
theorem own_store {M n s : Nat} {e : TypeId} {w : World} {g c : Nat} {xs : List Value} (h : w.ownsRow M e s (.slice (some ⟨g, 0, none⟩) n c) n xs) (i : Nat) (u : Value) (hi : i < n * s) :
    (∃ xs', (w.setCell ⟨g, i, none⟩ u).ownsRow M e s (.slice (some ⟨g, 0, none⟩) n c) n xs') ∧ (w.cell? ⟨g, i, none⟩).isSome = true ∧ w.frozen? ⟨g, i, none⟩ = false := by
  obtain ⟨hl, h2⟩ := h
  rcases h2 with ⟨h0, _⟩ | ⟨g', cap, cur, hv, hb, hg, hn, hm, hcs, ht⟩
  · cases h0
  · cases hv
    have hmul : n * s ≤ c * s := Nat.mul_le_mul_right s hn
    refine ⟨⟨_, ?_, .inr ⟨g, c, _, rfl, hb, heap_set hg u, hn, hm, by simpa using hcs, rfl⟩⟩, ?_, free_in hg⟩
    · rw [List.length_take, Array.length_toList, Array.size_setIfInBounds, hcs]
      omega
    · rw [cell_in hg, Array.getElem?_eq_getElem (by omega)]
      rfl
theorem own_g {M n s : Nat} {e : TypeId} {w : World} {v : Value} {xs : List Value} (h : w.ownsRow M e s v n xs) (hn : 0 < n) : ∃ g c, v = .slice (some ⟨g, 0, none⟩) n c ∧ M ≤ g ∧ g < w.heap.size := h.form hn
theorem txt_own {M n : Nat} {w : World} {v : Value} {l : List (List UInt8)} (h : w.ownsRow M 9 1 v n (rw.flat txC l)) : Txt w v l := rw.own_rw txC_len (by decide) h
theorem txt_block {w : World} {blk : Nat} {l : List (List UInt8)} {cs : Array Value} (h : w.heap[blk]? = some (.cells cs 9 (0, 0))) (hc : cs.toList = rw.flat txC l) : Txt w (.slice (some ⟨blk, 0, none⟩) l.length l.length) l := rw.rw_lit txC_len h hc
theorem own_grown {M n s : Nat} {e : TypeId} {w w' : World} {v v' : Value} {xs : List Value} (h : w.ownsRow M e s v n xs) (hg : w.grownBy w' v'.ownBlock) (hne : ∀ g g', v.ownBlock = some g → v'.ownBlock = some g' → g' ≠ g) : w'.ownsRow M e s v n xs :=
  (Upd.of_grown (S := v'.ownBlock.toList) hg (fun k hk => by rw [hk]; simp)).row h fun g hv hm => by
    cases hv' : v'.ownBlock with
    | none => rw [hv'] at hm; cases hm
    | some g' => rw [hv'] at hm; simp at hm; exact hne g g' hv hv' hm.symm
theorem t2_drew {w0 wp : World} {b d o q : Nat} {x y : Value} (h : wp.cell? ⟨b, o, none⟩ = some x ∧ wp.cell? ⟨d, q, none⟩ = some y ∧ Hid (Below w0.heap.size w0 wp)) : wp.drew.cell? ⟨b, o, none⟩ = some x ∧ wp.drew.cell? ⟨d, q, none⟩ = some y ∧ Hid (Below w0.heap.size w0 wp.drew) := ⟨h.1, h.2.1, Lib.hid h.2.2.out.drew⟩
theorem t2_of {w0 wp : World} {b d o q : Nat} {x y : Value} (h0 : w0.cell? ⟨b, o, none⟩ = some x) (h1 : w0.cell? ⟨d, q, none⟩ = some y) (hb : Below w0.heap.size w0 wp) : wp.cell? ⟨b, o, none⟩ = some x ∧ wp.cell? ⟨d, q, none⟩ = some y ∧ Hid (Below w0.heap.size w0 wp) := ⟨cell_then h0 hb, cell_then h1 hb, Lib.hid hb⟩
theorem t2_bel {w0 wp : World} {b d o q : Nat} {x y : Value} (h : wp.cell? ⟨b, o, none⟩ = some x ∧ wp.cell? ⟨d, q, none⟩ = some y ∧ Hid (Below w0.heap.size w0 wp)) : Hid (Below w0.heap.size w0 wp) := h.2.2
def vals12 : List (List UInt8) := [[], [48], [55], [48, 55], [45, 49], [50, 49, 52, 55, 52, 56, 51, 54, 52, 56], [50, 49, 52, 55, 52, 56, 51, 54, 52, 57], [97, 66, 99], [32, 97, 9, 98, 32], [9], [122, 123, 64, 91], [0, 255]]
set_option maxHeartbeats 8000000 in
set_option maxRecDepth 100000 in
theorem stepStands_any (w : World) (hS : Slo w) : Calls Tryz.prog 8 #[] w fun e w' => e = .returned (.bool true) ∧ Below w.heap.size w w' := by
  have HAw := Lib.hid (awake_any w hS)
  have HF := Lib.hid fun (W : World) (hb : Below w.heap.size w W) => functions_any W (hS.later hb)
  have HCa := Lib.hid fun (s x : List UInt8) (W : World) (hb : Below w.heap.size w W) => Call_any (B s) (B x) W (hS.later hb)
  have HCb := Lib.hid fun (s x : List UInt8) (W : World) => refCall_any (B s) (B x) W
  simp only [callV] at HCa HCb
  obtain ⟨i0, hi, hz0, hz1, hz2⟩ := info_parts (show (Tryz.prog.info? 9).map (fun i => (i.zero, i.size, i.bytes)) = some (some (.string .empty), 1, 16) by kernel_rfl)
  clear hS
  go_enter Tryz.func8, Tryz.ntmps8
  go_wp2_with fail
  refine HAw.out.mono ?_
  rintro e w1 ⟨rfl, hb1⟩
  have HB1 := Lib.hid hb1
  clear hb1
  go_wp2_with fail
  refine (HF.out _ HB1.out).mono ?_
  rintro e w2 ⟨va, rfl, hoa, hb2⟩
  obtain ⟨ga, ca, rfl, hga, hga2⟩ := own_g hoa (by decide)
  have HB2 := Lib.hid (then_bel HB1.out hb2)
  have HOa := Lib.hid hoa
  clear hb2 hoa
  go_wp2_with fail
  refine (HF.out _ HB2.out).mono ?_
  rintro e w3 ⟨vb, rfl, hob, hb3⟩
  obtain ⟨gb, cb, rfl, hgb, hgb2⟩ := own_g hob (by decide)
  have HB3 := Lib.hid (then_bel HB2.out hb3)
  have HOa3 := Lib.hid (ls.own_kept HOa.out hb3)
  have HOb := Lib.hid hob
  have hz3 := hb3.size
  clear hb3 hob HOa
  go_wp2_with fail
  refine (refFunctions_any _).mono ?_
  rintro e w4 ⟨rfl, hw4⟩
  have hb4 : Below w3.heap.size w3 w4 := by rw [hw4]; exact (Below.refl _ _).alloc (Nat.le_refl _) _
  have hT4 : Txt w4 (.slice (some ⟨w3.heap.size, 0, none⟩) 5 5) nmL := txt_block (l := nmL) (by rw [hw4]; exact heap_alloc_new w3 _) (by rfl)
  have HB4 := Lib.hid (then_bel HB3.out hb4)
  have HOa4 := Lib.hid (ls.own_kept HOa3.out hb4)
  have HOb4 := Lib.hid (ls.own_kept HOb.out hb4)
  have HX4 := Lib.hid (texts_any (some ⟨ga, 0, none⟩) (some ⟨w3.heap.size, 0, none⟩) 5 5 ca 5 nmL nmL (by decide) (by decide) w4 (txt_own (l := nmL) HOa4.out) hT4)
  have hz4 := hb4.size
  clear hb4 hT4 hw4 HOa3 HOb
  go_wp2_with fail
  refine HX4.out.mono ?_
  rintro e w5 ⟨r, rfl, hr, q, hw5⟩
  obtain rfl : r = true := by first | exact hr | exact hr trivial
  have hb5 : Below w4.heap.size w4 w5 := by rw [hw5]; exact drewN_bel w4 q
  have HB5 := Lib.hid (then_bel HB4.out hb5)
  have HOa5 := Lib.hid (ls.own_kept HOa4.out hb5)
  have HOb5 := Lib.hid (ls.own_kept HOb4.out hb5)
  have hz5 := hb5.size
  clear hb5 hw5 hr HOa4 HOb4 HX4
  have hne : ga ≠ gb := by omega
  have hgw : w.heap.size ≤ ga := by have := HB1.out.size; omega
  go_wp2_with fail
  go_loopw [5] (fun i wr => ∃ (k : Nat) (xs : List Value), k ≤ 5 ∧ i = .int .i64 k ∧ Hid (wr.ownsRow w1.heap.size 9 1 (.slice (some ⟨ga, 0, none⟩) 5 ca) 5 xs) ∧ Hid (wr.ownsRow w2.heap.size 9 1 (.slice (some ⟨gb, 0, none⟩) 5 cb) 5 namesL) ∧ Hid (Below w.heap.size w wr)) (fun i _ => 5 - (intOf i).toNat)
  case atStart => exact ⟨0, _, by omega, rfl, HOa5, HOb5, HB5⟩
  case round =>
    obtain ⟨k, xs, hk, rfl, HOk, HOb', Hb⟩ := hrel
    by_cases hlt : k < 5
    · have hki : (k : Int) < 5 := by omega
      have hk5 : (0 : Int) ≤ (k : Int) := by omega
      have Hst := Lib.hid (own_store HOk.out k (.string ⟨#[111, 118, 101, 114]⟩) (by omega))
      obtain ⟨v0, hc0⟩ := Option.isSome_iff_exists.1 Hst.out.2.1
      have hfz := Hst.out.2.2
      go_wp2_with fail
      go_roundw
      case rel =>
        obtain ⟨xs', h1⟩ := Hst.out.1
        exact ⟨k + 1, xs', by omega, by go_num, Lib.hid h1, Lib.hid (own_far HOb'.out (a := ⟨ga, k, none⟩) (fun g hg => by cases hg; exact fun e => hne e.symm) _), Lib.hid (Hb.out.setCell (p := ⟨ga, k, none⟩) hgw _)⟩
      case measure => simp [intOf]; omega
    · obtain rfl : k = 5 := by omega
      rw [show (((5 : Nat) : Int)) = 5 from rfl]
      go_wp2_with fail
      obtain ⟨wo, hwo⟩ : ∃ wo, wo = wr := ⟨_, rfl⟩
      rw [← hwo] at HOk HOb' Hb ⊢
      clear hwo
      go_loopw [2, 6] (fun v i wr => ∃ (k n : Nat) (xs : List Value), k ≤ 9 ∧ i = .int .i64 k ∧ n = 5 + k ∧ Hid (wr.ownsRow w1.heap.size 9 1 v n xs) ∧ Hid (∀ g, v.ownBlock = some g → g ≠ gb) ∧ Hid (wr.ownsRow w2.heap.size 9 1 (.slice (some ⟨gb, 0, none⟩) 5 cb) 5 namesL) ∧ Hid (Below w.heap.size w wr)) (fun _ i _ => 9 - (intOf i).toNat)
      case atStart => exact ⟨0, 5, xs, by omega, rfl, rfl, HOk, Lib.hid (fun g hg => by cases hg; exact hne), HOb', Hb⟩
      case round =>
        obtain ⟨k, n, xs2, hk, rfl, hn, HOv, Hnb, HOb2, Hb2⟩ := hrel
        by_cases hlt : k < 9
        · have hki : (k : Int) < 9 := by omega
          have hzb : gb < wr.heap.size := by
            obtain ⟨_, h⟩ := HOb2.out
            rcases h with ⟨h, _⟩ | ⟨g, _, _, h, _, h3, _⟩
            · cases h
            · cases h; exact lt_of_block h3
          have hzw : w1.heap.size ≤ wr.heap.size := Nat.le_trans (by omega) (Nat.le_of_lt hzb)
          focus
            go_wp2_with (at_builtin; go_must (refine wpList_append_k rfl _ _ 24 rfl 9 i0 _ 1 16 Tryz.underlying24 hi hz0 hz1 hz2 rfl (by omega) _ (by rfl) (by rfl) w1.heap.size _ _ _ (by rfl) HOv.out (by simp [Value.oneCell']) (by omega) (by omega) (by omega) ?_))
          intro g' cap' w7 hown7 hgrow hat hz7 hlt7
          have Hown7 := Lib.hid hown7
          have HOb7 := Lib.hid (own_grown HOb2.out hgrow (fun g g' hg hg' => by cases hg; exact Hnb.out g' hg'))
          have HB7 := Lib.hid (grown_bel Hb2.out HOv.out hgrow (HB1.out.size) (Nat.le_trans HB1.out.size hzw))
          have Hnb7 : Hid (∀ g, (Value.slice (some ⟨g', 0, none⟩) (n + 1) cap').ownBlock = some g → g ≠ gb) := Lib.hid (fun g hg => by
            cases hg
            show g' ≠ gb
            rcases hat with h | h
            · exact Hnb.out _ h
            · intro e; rw [e] at h; omega)
          clear hown7 hgrow hat hlt7
          go_wp2_with fail
          go_roundw
          case rel => exact ⟨k + 1, 5 + k + 1, _, by omega, by go_num, by omega, Hown7, Hnb7, HOb7, HB7⟩
          case measure => simp [intOf]; omega
        · obtain rfl : k = 9 := by omega
          have HB8 := Hb2
          go_wp2_with fail
          refine (HF.out _ HB8.out).mono ?_
          rintro e w8 ⟨vc, rfl, hoc, hb8⟩
          obtain ⟨gc, cc, rfl, hgc, hgc2⟩ := own_g hoc (by decide)
          have HB9 := Lib.hid (then_bel HB8.out hb8)
          have HOb9 := Lib.hid (ls.own_kept HOb2.out hb8)
          have HOc := Lib.hid hoc
          clear hb8 hoc
          go_wp2_with fail
          refine (refFunctions_any _).mono ?_
          rintro e w9 ⟨rfl, hw9⟩
          have hb9 : Below w8.heap.size w8 w9 := by rw [hw9]; exact (Below.refl _ _).alloc (Nat.le_refl _) _
          have hT9 : Txt w9 (.slice (some ⟨w8.heap.size, 0, none⟩) 5 5) nmL := txt_block (l := nmL) (by rw [hw9]; exact heap_alloc_new w8 _) (by rfl)
          have HBx := Lib.hid (then_bel HB9.out hb9)
          have HOb10 := Lib.hid (ls.own_kept HOb9.out hb9)
          have HOc10 := Lib.hid (ls.own_kept HOc.out hb9)
          have HX9 := Lib.hid (texts_any (some ⟨gb, 0, none⟩) (some ⟨w8.heap.size, 0, none⟩) 5 5 cb 5 nmL nmL (by decide) (by decide) w9 (txt_own (l := nmL) HOb10.out) hT9)
          clear hb9 hT9 hw9 HOb9 HOc
          go_wp2_with fail
          refine HX9.out.mono ?_
          rintro e w10 ⟨r, rfl, hr, q10, hw10⟩
          obtain rfl : r = true := by first | exact hr | exact hr trivial
          have hb10 : Below w9.heap.size w9 w10 := by rw [hw10]; exact drewN_bel w9 q10
          have HBy := Lib.hid (then_bel HBx.out hb10)
          have HOc11 := Lib.hid (ls.own_kept HOc10.out hb10)
          clear hb10 hw10 hr HOb10 HOc10 HX9
          go_wp2_with fail
          refine (refFunctions_any _).mono ?_
          rintro e w11 ⟨rfl, hw11⟩
          have hb11 : Below w10.heap.size w10 w11 := by rw [hw11]; exact (Below.refl _ _).alloc (Nat.le_refl _) _
          have hT11 : Txt w11 (.slice (some ⟨w10.heap.size, 0, none⟩) 5 5) nmL := txt_block (l := nmL) (by rw [hw11]; exact heap_alloc_new w10 _) (by rfl)
          have HBz := Lib.hid (then_bel HBy.out hb11)
          have HOc12 := Lib.hid (ls.own_kept HOc11.out hb11)
          have HX11 := Lib.hid (texts_any (some ⟨gc, 0, none⟩) (some ⟨w10.heap.size, 0, none⟩) 5 5 cc 5 nmL nmL (by decide) (by decide) w11 (txt_own (l := nmL) HOc12.out) hT11)
          clear hb11 hT11 hw11 HOc11
          go_wp2_with fail
          refine HX11.out.mono ?_
          rintro e w12 ⟨r, rfl, hr, q12, hw12⟩
          obtain rfl : r = true := by first | exact hr | exact hr trivial
          have hb12 : Below w11.heap.size w11 w12 := by rw [hw12]; exact drewN_bel w11 q12
          have HB12 := Lib.hid (then_bel HBz.out hb12)
          have HOc13 := Lib.hid (ls.own_kept HOc12.out hb12)
          have HTc := Lib.hid (txt_own (l := nmL) HOc13.out)
          obtain ⟨wV, hV⟩ : ∃ wV, wV = w12.alloc (.cells (rw.flat txC vals12).toArray 9) := ⟨_, rfl⟩
          have hbV : Below w12.heap.size w12 wV := by rw [hV]; exact (Below.refl _ _).alloc (Nat.le_refl _) _
          have hTV : Txt wV (.slice (some ⟨w12.heap.size, 0, none⟩) 12 12) vals12 := txt_block (l := vals12) (by rw [hV]; exact heap_alloc_new w12 _) (by simp)
          have HTV := Lib.hid hTV
          have HTcV := Lib.hid (HTc.out.later hbV)
          have HBV := Lib.hid (then_bel HB12.out hbV)
          have HV : Hid (wV = w12.alloc (.cells #[.string ⟨#[]⟩, .string ⟨#[48]⟩, .string ⟨#[55]⟩, .string ⟨#[48, 55]⟩, .string ⟨#[45, 49]⟩, .string ⟨#[50, 49, 52, 55, 52, 56, 51, 54, 52, 56]⟩, .string ⟨#[50, 49, 52, 55, 52, 56, 51, 54, 52, 57]⟩, .string ⟨#[97, 66, 99]⟩, .string ⟨#[32, 97, 9, 98, 32]⟩, .string ⟨#[9]⟩, .string ⟨#[122, 123, 64, 91]⟩, .string ⟨#[0, 255]⟩] 9)) := Lib.hid hV
          clear hb12 hw12 hr HOc12 HX11 hbV hV HTc hTV
          go_wp2_with fail
          rw [← HV.out]
          go_loopw [11] (fun i wr => ∃ k : Nat, k ≤ 5 ∧ i = .int .i64 k ∧ Hid (Below wV.heap.size wV wr)) (fun i _ => 5 - (intOf i).toNat)
          case atStart => exact ⟨0, by omega, rfl, Lib.hid (Below.refl _ _)⟩
          case round =>
            obtain ⟨k, hk, rfl, Hb9⟩ := hrel
            by_cases hlt : k < 5
            · obtain ⟨wp, hwp⟩ : ∃ wp, wp = wr := ⟨_, rfl⟩
              rw [← hwp] at Hb9 ⊢
              clear hwp
              have hki : (k : Int) < 5 := by omega
              have hk5 : (0 : Int) ≤ (k : Int) := by omega
              obtain ⟨x, hx⟩ : ∃ x, nmL[k]? = some x := ⟨_, List.getElem?_eq_getElem hlt⟩
              have Hx := Lib.hid hx
              clear hx
              go_wp2_with fail
              go_loopw [12] (fun i wr => ∃ j : Nat, j ≤ 12 ∧ i = .int .i64 j ∧ Hid (Below wV.heap.size wV wr)) (fun i _ => 12 - (intOf i).toNat)
              case atStart => exact ⟨0, by omega, rfl, Hb9⟩
              case round =>
                obtain ⟨j, hj, rfl, Hbj⟩ := hrel
                by_cases hlj : j < 12
                · have hji : (j : Int) < 12 := by omega
                  have hj5 : (0 : Int) ≤ (j : Int) := by omega
                  obtain ⟨y, hy⟩ : ∃ y, vals12[j]? = some y := ⟨_, List.getElem?_eq_getElem hlj⟩
                  have e0 := txt_cell (HTcV.out.later Hbj.out) Hx.out
                  have e1 := txt_cell (HTV.out.later Hbj.out) hy
                  have HQ := Lib.hid fun (W : World) (hb : Hid (Below wr.heap.size wr W)) => HCa.out x y W (then_bel HBV.out (then_bel Hbj.out hb.out))
                  have HQ2 := Lib.hid (HCb.out x y)
                  clear hy
                  obtain ⟨u, E, hU⟩ : ∃ u E, callL x y = (u, E) := ⟨_, _, rfl⟩
                  rw [hU] at HQ HQ2
                  simp only at HQ HQ2
                  clear hU
                  generalize B u = uu at *
                  generalize B x = xx at *
                  generalize B y = yy at *
                  have qr : (E != E) = false := by simp
                  simp only [Nat.zero_add] at e0 e1
                  have hSt := t2_of e0 e1 (Below.refl _ wr)
                  go_wp2_with fail
                  go_region_held3 (fun w' => w'.cell? ⟨gc, k, none⟩ = some (.string xx) ∧ w'.cell? ⟨w12.heap.size, j, none⟩ = some (.string yy) ∧ Hid (Below wr.heap.size wr w'))
                    (first | assumption | (with_reducible exact t2_drew (by assumption)))
                    ((go_at_call 42; (with_reducible refine Calls.mono (HQ.out _ (t2_bel (by assumption))) ?_); rintro e w' ⟨rfl, hb⟩; have hS' := t2_of e0 e1 (then_bel (t2_bel (by assumption)).out hb); clear hb))
                  all_goals
                    rename_i hH
                    clear hSt
                    go_wp2_with fail
                    go_region_held3 (fun w' => w'.cell? ⟨gc, k, none⟩ = some (.string xx) ∧ w'.cell? ⟨w12.heap.size, j, none⟩ = some (.string yy) ∧ Hid (Below wr.heap.size wr w'))
                      (first | assumption | (with_reducible exact t2_drew (by assumption)))
                      ((go_at_call 43; (with_reducible refine Calls.mono (HQ2.out _) ?_); rintro e w' ⟨rfl, hb⟩; have hS' := t2_of e0 e1 (then_bel (t2_bel (by assumption)).out hb); clear hb))
                    all_goals
                      rename_i hH2
                      have hbH := Lib.hid hH2.2.2.out
                      clear hH hH2 e0 e1
                      go_wp2_with fail
                      go_roundw
                      case rel => exact ⟨j + 1, by omega, by go_num, Lib.hid (then_bel Hbj.out hbH.out)⟩
                      case measure => simp [intOf]; omega
                · obtain rfl : j = 12 := by omega
                  go_wp2_with fail
                  go_roundw
                  case rel => exact ⟨k + 1, by omega, by go_num, Hbj⟩
                  case measure => simp [intOf]; omega
            · obtain rfl : k = 5 := by omega
              go_wp2_with fail
              go_ret
              exact ⟨rfl, then_bel HBV.out Hb9.out⟩
end Go.Proofs.YthjcifokmcbaoaaGreatDoor.st
/- StepScripts returns true. Condition: the listed variables hold what the program's text lays. -/
namespace Go.Proofs.YthjcifokmcbaoaaGreatDoor.st
open Go.ChangeShapes Go.WideShapes Go.ChangeAt Go.RowKit gl ls

set_option maxHeartbeats 4000000 in
set_option maxRecDepth 100000 in
theorem owned_nil (pl pw : Option Addr) (cl cw : Nat) (w : World) :
    Calls Tryz.prog 36 #[.slice pl 0 cl, .slice pw 0 cw] w fun e w' => e = .returned (.bool true) ∧ w' = w := by
  go_enter Tryz.func36, Tryz.ntmps36
  go_wp2_with fail
  go_loopw [5] (fun i wr => i = .int .i64 0 ∧ wr = w) (fun _ _ => 0)
  case atStart => exact ⟨rfl, rfl⟩
  case round =>
    obtain ⟨rfl, rfl⟩ := hrel
    go_wp2_with fail
    go_loopw [7] (fun i wx => i = .int .i64 0 ∧ wx = wr) (fun _ _ => 0)
    case atStart => exact ⟨rfl, rfl⟩
    case round =>
      obtain ⟨rfl, rfl⟩ := hrel
      go_wp2_with fail
      go_loopw [9, 10] (fun al i wx => al = .slice none 0 0 ∧ i = .int .i64 0 ∧ wx = wr) (fun _ _ _ => 0)
      case atStart => exact ⟨rfl, rfl, rfl⟩
      case round =>
        obtain ⟨rfl, rfl, rfl⟩ := hrel
        go_wp2_with fail
        go_loopw [13] (fun i wx => i = .int .i64 0 ∧ wx = wr) (fun _ _ => 0)
        case atStart => exact ⟨rfl, rfl⟩
        case round =>
          obtain ⟨rfl, rfl⟩ := hrel
          go_wp2_with fail
          go_ret
          exact ⟨rfl, rfl⟩
theorem owned_rows (M : Nat) (a0 : Value) (l0 : List Pr) (w : World) (k : Nat) (pl pw : Option Addr) (cl cw : Nat) (rs : List ls.LR) (lss : List (List Pr)) (vw : List Value) (hk : k ≤ 2147483647) (h : PL M a0 l0 w k pl cl pw cw rs lss vw) (h0 : Prs w a0 l0) (hM : M ≤ w.heap.size) :
    Calls Tryz.prog 36 #[.slice pl k cl, .slice pw k cw] w fun e w' => e = .returned (.bool true) ∧ Below M w w' := by
  by_cases hk0 : k = 0
  · subst hk0
    refine (owned_nil pl pw cl cw w).mono ?_
    rintro e w' ⟨h1, rfl⟩
    exact ⟨h1, Below.refl _ _⟩
  · obtain ⟨gl, rfl, hcl, hgl, hrow⟩ := h.rowL (by omega)
    obtain ⟨gw, rfl, hcw, hgw, hWw⟩ := h.rowW (by omega) h0
    have hrl : rs.length = k := by have := h.ownl.1; simpa using this
    exact owned_any M rs lss k hk hrl h.len gl cl gw cw hcl hcw w hM h.holds h.dist hrow h.lists hWw

set_option maxHeartbeats 16000000 in
set_option maxRecDepth 100000 in
theorem stepScripts_any (p : Option Addr) (c : Nat) (l : List Pr) (hm : l.length ≤ 9223372036854775807) (p2 : Option Addr) (c2 : Nat) (scr : List Sp) (hn : scr.length ≤ 9223372036854775807) (w : World) (h : Prs w (.slice p l.length c) l) (h2 : Sps w (.slice p2 scr.length c2) scr) (hS : Slo w) :
    Calls Tryz.prog 10 #[.slice p l.length c, .slice p2 scr.length c2] w fun e w' => e = .returned (.bool true) ∧ Below w.heap.size w w' := by
  obtain ⟨m, hlen⟩ : ∃ m, m = l.length := ⟨_, rfl⟩
  obtain ⟨n, hnl⟩ : ∃ n, n = scr.length := ⟨_, rfl⟩
  rw [← hlen] at hm h ⊢
  rw [← hnl] at hn h2 ⊢
  have HSl := Lib.hid fun (W : World) (hb : Below w.heap.size w W) => hS.later hb
  have HW := Lib.hid (pairsWeigh_any p m c l hm w h)
  have HV := Lib.hid fun (W : World) (hb : Below w.heap.size w W) => stepsWeigh_any p2 n c2 scr hn W (h2.later hb)
  have HL := Lib.hid h
  have HS2 := Lib.hid h2
  have Hptr := Lib.hid (h2.ptr).2.2
  have Hlen := Lib.hid hlen
  have Hnl := Lib.hid hnl
  obtain ⟨i1, hi, hz0, hz1, hz2'⟩ := info_parts infoPs
  clear h h2 hS hlen hnl
  go_enter Tryz.func10, Tryz.ntmps10
  go_wp2_with fail
  refine HW.out.mono ?_
  rintro e w1 ⟨⟨N, rfl, hN⟩, hb1⟩
  have hN0 := hN.1
  have HN := Lib.hid hN
  have HB1 := Lib.hid hb1
  clear hN hb1
  go_wp2_with fail
  refine (HV.out _ HB1.out).mono ?_
  rintro e w2 ⟨⟨N2, rfl, hN2⟩, hb2⟩
  have hN20 := hN2.1
  have HN2 := Lib.hid hN2
  have HB2 := Lib.hid (then_bel HB1.out hb2)
  clear hN2 hb2
  go_wp2_with fail
  refine (addsUp_any N N2 _ hN0 hN20).mono ?_
  rintro e w3 ⟨rfl, rfl⟩
  have HSum : Hid (addU N N2 ≤ 2147483647 → (l.length ≤ 2147483647 ∧ ∀ x ∈ l, PrSz x) ∧ (scr.length ≤ 2147483647 ∧ ∀ x ∈ scr, SpSz x)) := Lib.hid (fun h => ⟨HN.out.2.2 (addU_parts h).1, HN2.out.2.2 (addU_parts h).2⟩)
  generalize addU N N2 = S at *
  by_cases hbig : 2147483647 < S
  · have q1 : decide (2147483647 < S) = true := by rw [decide_eq_true_iff]; exact hbig
    go_wp2_with fail
    go_ret
    exact ⟨rfl, HB2.out⟩
  have q1 : decide (2147483647 < S) = false := by rw [decide_eq_false_iff_not]; exact hbig
  have HZ := Lib.hid (HSum.out (by omega)).1
  have Hs := Lib.hid (HSum.out (by omega)).2
  have hm2 : m ≤ 2147483647 := by rw [Hlen.out]; exact HZ.out.1
  have hn2 : n ≤ 2147483647 := by rw [Hnl.out]; exact Hs.out.1
  clear HSum hbig HN HN2
  go_wp2_with fail
  refine (awake_any _ (HSl.out _ HB2.out)).mono ?_
  rintro e wL ⟨rfl, hb3⟩
  have HBL := Lib.hid (then_bel HB2.out hb3)
  have hzBL := HBL.out.size
  clear hb3 q1 HB1 HB2
  go_wp2_with fail
  go_loopw [6, 7, 8, 9, 10] (fun a b lv wv i wr => ∃ (j k ml : Nat) (pa pb : Option Addr) (ca cb : Nat) (L : List Pr) (pl pw : Option Addr) (cl cw : Nat) (rs : List ls.LR) (lss : List (List Pr)) (vw : List Value), j ≤ n ∧ k ≤ j ∧ i = .int .i64 j ∧ a = .slice pa ml ca ∧ b = .slice pb ml cb ∧ lv = .slice pl k cl ∧ wv = .slice pw k cw ∧ ml ≤ 2147483647 ∧ Hid (ml = L.length) ∧ Hid (∀ x ∈ L, PrSz x) ∧ Hid (Want wL.heap.size (.slice p m c) l wr (.slice pa ml ca) L) ∧ Hid (Want wL.heap.size (.slice p m c) l wr (.slice pb ml cb) L) ∧ Hid (PL wL.heap.size (.slice p m c) l wr k pl cl pw cw rs lss vw) ∧ Hid (Below wL.heap.size wL wr)) (fun _ _ _ _ i _ => n - (intOf i).toNat)
  case atStart => exact ⟨0, 0, m, p, p, c, c, l, none, none, 0, 0, [], [], [], by omega, by omega, rfl, rfl, rfl, rfl, rfl, hm2, Hlen, Lib.hid HZ.out.2, Lib.hid (.inr ⟨rfl, rfl⟩), Lib.hid (.inr ⟨rfl, rfl⟩), Lib.hid (PL.start _ _ _ _), Lib.hid (Below.refl _ _)⟩
  case round =>
    obtain ⟨j, k, ml, pa, pb, ca, cb, L, pl, pw, cl, cw, rs, lss, vw, hj, hk, rfl, rfl, rfl, rfl, rfl, hml, HmL, HLz, HWa, HWb, Hpl, Hb⟩ := hrel
    have hzr := Hb.out.size
    have HBr := Lib.hid (then_bel HBL.out Hb.out)
    have HLr := Lib.hid (HL.out.later HBr.out)
    by_cases hlt : j < n
    · obtain ⟨b, o, rfl, hbl⟩ := Hptr.out (by omega)
      obtain ⟨x, hx⟩ : ∃ x, scr[j]? = some x := ⟨_, List.getElem?_eq_getElem (by rw [← Hnl.out]; exact hlt)⟩
      have Hxs := Lib.hid (Hs.out.2 x (List.mem_of_getElem? hx))
      obtain ⟨k0, k1, k2, k3, k4⟩ := sps_cells (HS2.out.later HBr.out) hx
      have hbr : b < wr.heap.size := by have := HBr.out.size; omega
      obtain ⟨R, E, hR⟩ : ∃ R E, applyL L x = (R, E) := ⟨_, _, rfl⟩
      have HAx := Lib.hid ((Apply_any pa ml ca L x (by omega) HLz.out Hxs.out wr (HSl.out wr HBr.out) (HWa.out.prs HLr.out)).mono (R' := fun e w' => (∃ v, e = .returned (.tuple #[v, .int .i64 E]) ∧ NewPrs wr.heap.size w' v R) ∧ Below wr.heap.size wr w') (by rw [hR]; exact fun e w' h => h))
      have HRx := Lib.hid fun (W : World) (hP : Prs W (.slice pb ml cb) L) => (refApply_any pb ml cb L x (by omega) HLz.out Hxs.out W hP).mono (R' := fun e w' => (∃ v, e = .returned (.tuple #[v, .int .i64 E]) ∧ RefP (.slice pb ml cb) W.heap.size w' v R) ∧ Below W.heap.size W w') (by rw [hR]; exact fun e w' h => h)
      have HZR := Lib.hid (out_sz hR)
      have hn5 := (out_sz hR).2
      unfold spA at HAx HRx
      clear hx hR Hxs
      generalize B x.table = z1 at *
      generalize B x.key = z2 at *
      generalize B x.to = z3 at *
      generalize B x.text = z4 at *
      have hji : (j : Int) < (n : Int) := by omega
      have hj5 : (0 : Int) ≤ (j : Int) := by omega
      go_wp2_with fail
      refine HAx.out.mono ?_
      rintro e w4 ⟨⟨v4, rfl, hn4⟩, hb4⟩
      obtain ⟨p4, c4, rfl⟩ := NewPrs.form hn4
      have HN4 := Lib.hid hn4
      have Hb4 := Lib.hid hb4
      have r0 := cell_then k0 hb4
      have r1 := cell_then k1 hb4
      have r2 := cell_then k2 hb4
      have r3 := cell_then k3 hb4
      have r4 := cell_then k4 hb4
      have hz4 := hb4.size
      clear hn4 hb4 k0 k1 k2 k3 k4
      go_wp2_with fail
      refine (HRx.out w4 ((HWb.out.keep (ls.SK.of_below Hb4.out)).prs (HLr.out.later Hb4.out))).mono ?_
      rintro e w5 ⟨⟨v5, rfl, hr5⟩, hb5⟩
      obtain ⟨p5, c5, rfl⟩ := hr5.prs.form
      have HW5 := Lib.hid (Want.of (M := wL.heap.size) (a0 := .slice p m c) (l0 := l) hr5 (by omega) (HWb.out.keep (ls.SK.of_below Hb4.out)) ((HWb.out.keep (ls.SK.of_below Hb4.out)).prs (HLr.out.later Hb4.out)) hb5)
      have HN5 := Lib.hid (NewPrs.keep HN4.out (ls.SK.of_below hb5))
      have Hr5 := Lib.hid hr5.prs
      have Hb5 := Lib.hid (then_bel Hb4.out hb5)
      clear hr5 hb5 r0 r1 r2 r3 r4 HN4
      go_wp2_with fail
      refine (same_quiet p4 p5 R.length c4 c5 R (by omega) w5 (HN5.out.rw prC_len) Hr5.out).mono ?_
      rintro e w6 ⟨rfl, q, hw6⟩
      have hb56 : Below w5.heap.size w5 w6 := by rw [hw6]; exact drewN_bel w5 q
      have HW6 := Lib.hid (HW5.out.keep (ls.SK.of_below hb56))
      have HN6 := Lib.hid (NewPrs.keep HN5.out (ls.SK.of_below hb56))
      have Hb6 := Lib.hid (then_bel Hb5.out hb56)
      have hz6 := Hb6.out.size
      have Hpl6 := Lib.hid (Hpl.out.keep Hb6.out)
      have HbL6 := Lib.hid (Hb.out.trans (Hb6.out.mono hzr))
      have Hfr := Lib.hid (Hpl.out.fresh (R := ⟨p4, R.length, c4⟩) (l := R) HN6.out)
      have hE : (E != E) = false := by simp
      clear hw6 hb56 HN5 HW5 Hr5
      by_cases hE0 : E = 0
      · subst hE0
        focus
          go_wp2_with (at_builtin; go_must (refine wpList_append_lit rfl _ _ 47 rfl 44 i1 _ 24 Tryz.underlying47 hi hz0 hz1 hz2' rfl _ 1 (by omega) (by rfl) (by rfl) wL.heap.size _ k _ (by rfl) Hpl6.out.ownl (by simp [Value.oneCell']) (by omega) (by omega) (by omega) ?_))
        intro ga ca wa hown hgrow hat hza hlta
        have Hown := Lib.hid hown
        have Hgrow := Lib.hid hgrow
        have Hat := Lib.hid hat
        have HWa6 := Lib.hid (Hpl6.out.wantAt hgrow)
        have hzwa : wL.heap.size ≤ wa.heap.size := by have := hgrow.size; omega
        have Hbwa := Lib.hid (below_grown_own HbL6.out Hpl6.out.ownl hgrow (by omega))
        have HK1 := Lib.hid (ls.SK.own (T := 57) (by decide) Hpl6.out.ownl hgrow)
        clear hown hgrow hat
        focus
          go_wp2_with (at_builtin; go_must (refine wpList_append_lit rfl _ _ 47 rfl 44 i1 _ 24 Tryz.underlying47 hi hz0 hz1 hz2' rfl _ 1 (by omega) (by rfl) (by rfl) wL.heap.size _ k _ (by rfl) HWa6.out (by simp [Value.oneCell']) (by omega) (by omega) (by omega) ?_))
        intro gb cb wb hown2 hgrow2 hat2 hzb hltb
        have HNx := Lib.hid (Hpl6.out.next (R := ⟨p4, R.length, c4⟩) (l := R) (v := .slice p5 R.length c5) (HN6.out.mono hzr) (by omega) Hfr.out HW6.out Hown.out Hgrow.out Hat.out hlta hown2 hgrow2 hat2)
        have Hbwb := Lib.hid (below_grown_own Hbwa.out HWa6.out hgrow2 hzwa)
        have HKK := Lib.hid (HK1.out.trans (ls.SK.own (T := 57) (by decide) HWa6.out hgrow2))
        have HWx : Hid (Want wL.heap.size (.slice p m c) l wb (.slice p4 R.length c4) R) := Lib.hid (.inl (NewPrs.keep (HN6.out.mono hzr) HKK.out))
        have HWy := Lib.hid (HW6.out.keep HKK.out)
        clear hown2 hgrow2 hat2
        go_wp2_with fail
        go_roundw
        case rel => exact ⟨j + 1, k + 1, R.length, p4, p5, c4, c5, R, _, _, ca, cb, _, _, _, by omega, by omega, by go_num, rfl, rfl, rfl, rfl, by omega, Lib.hid rfl, Lib.hid HZR.out.1, HWx, HWy, HNx, Hbwb⟩
        case measure => simp [intOf]; omega
      · have hE1 : (E == 0) = false := by rw [beq_eq_false_iff_ne]; exact hE0
        have HWa6 := Lib.hid (HWa.out.keep (ls.SK.of_below Hb6.out))
        have HWb6 := Lib.hid (HWb.out.keep (ls.SK.of_below Hb6.out))
        go_wp2_with fail
        go_roundw
        case rel => exact ⟨j + 1, k, ml, pa, pb, ca, cb, L, _, _, _, _, _, _, _, by omega, by omega, by go_num, rfl, rfl, rfl, rfl, hml, HmL, HLz, HWa6, HWb6, Hpl6, HbL6⟩
        case measure => simp [intOf]; omega
    · obtain rfl : j = n := by omega
      have HOw := Lib.hid (owned_rows wL.heap.size (.slice p m c) l wr k pl pw cl cw rs lss vw (by omega) Hpl.out HLr.out hzr)
      go_wp2_with fail
      refine HOw.out.mono ?_
      rintro e w9 ⟨rfl, hb9⟩
      have Hb9 := Lib.hid (then_bel HBL.out (Hb.out.trans hb9))
      clear hb9
      go_wp2_with fail
      refine (stepStands_any w9 (HSl.out _ Hb9.out)).mono ?_
      rintro e w10 ⟨rfl, hb10⟩
      have Hb10 := Lib.hid (then_bel Hb9.out hb10)
      clear hb10
      go_wp2_with fail
      go_ret
      exact ⟨rfl, Hb10.out⟩
end Go.Proofs.YthjcifokmcbaoaaGreatDoor.st
