/- Laws and contracts on which the statement rests, part G: each text says what it proves, and its conditions. -/
import Derived.Test.YthjcifokmcbaoaaGreatDoorMgF
import Derived.StillTailTactics
import Derived.RegionTactic
import Derived.BigRegion
import Derived.Deep.RegionHeld3
import Derived.Deep.QuietTactic
import Derived.BigQuiet
/- The reference's but and with of chapter 16 give lists of their own. Conditions: at most 100000 pairs. -/
namespace Go.Proofs.YthjcifokmcbaoaaGreatDoor.st
open Go.ChangeShapes Go.WideShapes Go.ChangeAt Go.RowKit gl ls

theorem take_at {α : Type} {l : List α} {k : Nat} {x : α} (h : l[k]? = some x) : l.take (k + 1) = l.take k ++ [x] := by rw [List.take_add_one, h]; rfl
theorem but_in {l : List Pr} {k : Nat} {x : Pr} {t u : List UInt8} (h : l[k]? = some x) (hg : goes t u x = false) : butL (l.take (k + 1)) t u = butL (l.take k) t u ++ [x] := by
  rw [take_at h]; unfold butL; rw [List.filter_append, List.filter_cons, if_pos (by rw [hg]; rfl)]; rfl
theorem but_out {l : List Pr} {k : Nat} {x : Pr} {t u : List UInt8} (h : l[k]? = some x) (hg : goes t u x = true) : butL (l.take (k + 1)) t u = butL (l.take k) t u := by
  rw [take_at h]; unfold butL; rw [List.filter_append, List.filter_cons, if_neg (by rw [hg]; simp)]; simp
theorem but_tlen (l : List Pr) (k : Nat) (t u : List UInt8) : (butL (l.take k) t u).length ≤ k := Nat.le_trans (List.length_filter_le _ _) (List.length_take_le _ _)
theorem goes_table {t u : List UInt8} {x : Pr} (h : ¬ x.table = t) : goes t u x = false := by unfold goes; rw [decide_eq_false h]; rfl
theorem goes_all {t : List UInt8} {x : Pr} (h : x.table = t) : goes t [] x = true := by unfold goes; rw [decide_eq_true h]; rfl
theorem goes_key {t u : List UInt8} {x : Pr} (h : x.table = t) (h2 : x.key = u) : goes t u x = true := by unfold goes; rw [decide_eq_true h, decide_eq_true h2]; simp
theorem goes_not {t u : List UInt8} {x : Pr} (h0 : u ≠ []) (h2 : ¬ x.key = u) : goes t u x = false := by
  unfold goes
  rw [decide_eq_false h2]
  cases u with
  | nil => exact absurd rfl h0
  | cons _ _ => simp
theorem own_base {w : World} {B B' n s : Nat} {e : TypeId} {v : Value} {xs : List Value} (h : w.ownsRow B e s v n xs) (hB : B' ≤ B) : w.ownsRow B' e s v n xs := by
  refine ⟨h.1, ?_⟩
  rcases h.2 with h2 | ⟨g, cap, cur, hv, hb, r⟩
  · exact .inl h2
  · exact .inr ⟨g, cap, cur, hv, by omega, r⟩
theorem OwnP.base {M M' : Nat} {w : World} {v : Value} {l : List Pr} (h : OwnP M w v l) (hM : M' ≤ M) : OwnP M' w v l := own_base h hM
theorem OwnP.later {M : Nat} {w w' : World} {v : Value} {l : List Pr} (h : OwnP M w v l) (hb : Below w.heap.size w w') : OwnP M w' v l := ls.own_kept h hb
/-- What the document's answer gives: a list of its own, or the one that it was given. -/
def RefP (a : Value) (M : Nat) (w : World) (v : Value) (l : List Pr) : Prop := OwnP M w v l ∨ (v = a ∧ Prs w a l)
theorem RefP.prs {a : Value} {M : Nat} {w : World} {v : Value} {l : List Pr} (h : RefP a M w v l) : Prs w v l := by
  rcases h with h | ⟨rfl, h⟩
  · exact h.prs
  · exact h
theorem RefP.base {a : Value} {M M' : Nat} {w : World} {v : Value} {l : List Pr} (h : RefP a M w v l) (hM : M' ≤ M) : RefP a M' w v l := by
  rcases h with h | h
  · exact .inl (h.base hM)
  · exact .inr h
theorem RefP.later {a : Value} {M : Nat} {w w' : World} {v : Value} {l : List Pr} (h : RefP a M w v l) (hb : Below w.heap.size w w') : RefP a M w' v l := by
  rcases h with h | ⟨h1, h2⟩
  · exact .inl (h.later hb)
  · exact .inr ⟨h1, h2.later hb⟩
theorem own_none (M : Nat) (w : World) : OwnP M w (.slice none 0 0) [] := ⟨rfl, .inl ⟨rfl, rfl⟩⟩
theorem snoc_pr (x : Pr) : ∀ ll : List Pr, prsC (ll ++ [x]) = prsC ll ++ [.string (B x.table), .string (B x.key), .string (B x.value)] := fun ll => rw.flat_snoc ll _
theorem own_snoc {M : Nat} {w : World} {v : Value} {l : List Pr} {x : Pr} {n : Nat} {xs : List Value} (h : w.ownsRow M 57 3 v n xs) (hn : n = l.length + 1) (hx : prsC (l ++ [x]) = xs) : OwnP M w v (l ++ [x]) := by
  unfold OwnP
  rw [List.length_append, hx]
  rw [hn] at h
  exact h
set_option maxHeartbeats 4000000 in
set_option maxRecDepth 100000 in
theorem refBut_any (p : Option Addr) (m c : Nat) (l : List Pr) (t u : ByteArray) (hm : m ≤ 100000) (w : World) (h : Prs w (.slice p m c) l) :
    Calls Tryz.prog 128 #[.slice p m c, .string t, .string u] w fun e w' => ∃ v, e = .returned v ∧ OwnP w.heap.size w' v (butL l t.data.toList u.data.toList) ∧ Below w.heap.size w w' := by
  obtain ⟨hlen, hmc, hptr⟩ := h.ptr
  have HL := Lib.hid h
  have Hlen := Lib.hid hlen
  have HP := Lib.hid hptr
  obtain ⟨i0, hi, hz0, hz1, hz2⟩ := info_parts infoPr
  clear h hlen hptr
  go_enter Tryz.func128, Tryz.ntmps128
  go_wp2_with fail
  go_loopw [7, 8] (fun v i wr => ∃ k : Nat, k ≤ m ∧ i = .int .i64 k ∧ Hid (OwnP w.heap.size wr v (butL (l.take k) t.data.toList u.data.toList)) ∧ Hid (Below w.heap.size w wr)) (fun _ i _ => m - (intOf i).toNat)
  case atStart => exact ⟨0, by omega, rfl, Lib.hid (own_none _ _), Lib.hid (Below.refl _ _)⟩
  case round =>
    obtain ⟨k, hk, rfl, Hown, Hb⟩ := hrel
    by_cases hlt : k < m
    · obtain ⟨b, o, rfl, hbl⟩ := HP.out (by omega)
      obtain ⟨x, hx⟩ : ∃ x, l[k]? = some x := ⟨_, List.getElem?_eq_getElem (by rw [Hlen.out]; exact hlt)⟩
      obtain ⟨c0, c1, c2⟩ := prs_cells (HL.out.later Hb.out) hx
      have Hx := Lib.hid hx
      clear hx
      by_cases ht : x.table = t.data.toList
      · have q : ((B x.table).toList == t.toList) = true := seq_true (by rw [ht, B_of])
        by_cases hu : u.data.toList = []
        · have hu1 : u.toList.isEmpty = true := by rw [ByteArray.toList_eq, hu]; rfl
          have HI := Lib.hid (but_out Hx.out (by rw [hu]; exact goes_all ht : goes t.data.toList u.data.toList x = true))
          clear ht hu
          generalize B x.table = x1 at *
          generalize B x.key = x2 at *
          generalize B x.value = x3 at *
          go_wp2_with fail
          go_roundw
          case rel => exact ⟨k + 1, by omega, by go_num, Lib.hid (by rw [HI.out]; exact Hown.out), Hb⟩
          case measure => simp [intOf]; omega
        · have hu1 : u.toList.isEmpty = false := by
            rw [ByteArray.toList_eq]
            cases hh : u.data.toList with
            | nil => exact absurd hh hu
            | cons _ _ => rfl
          by_cases hk2 : x.key = u.data.toList
          · have q2 : ((B x.key).toList == u.toList) = true := seq_true (by rw [hk2, B_of])
            have HI := Lib.hid (but_out Hx.out (goes_key ht hk2))
            clear ht hu hk2
            generalize B x.table = x1 at *
            generalize B x.key = x2 at *
            generalize B x.value = x3 at *
            go_wp2_with fail
            go_roundw
            case rel => exact ⟨k + 1, by omega, by go_num, Lib.hid (by rw [HI.out]; exact Hown.out), Hb⟩
            case measure => simp [intOf]; omega
          · have q2 : ((B x.key).toList == u.toList) = false := seq_false (fun e => hk2 (by rw [← e, B_list]))
            have HI := Lib.hid (but_in (t := t.data.toList) Hx.out (goes_not hu hk2))
            have hbl5 := but_tlen l k t.data.toList u.data.toList
            have hsz := Hb.out.size
            have HX := Lib.hid (snoc_pr x)
            clear ht hu hk2
            generalize B x.table = x1 at *
            generalize B x.key = x2 at *
            generalize B x.value = x3 at *
            have HU := Hown
            focus
              go_wp2_with (at_builtin; go_must (refine wpList_append_k rfl _ _ 44 rfl 57 i0 _ 3 48 Tryz.underlying44 hi hz0 hz1 hz2 rfl (by omega) _ (by rfl) (by rfl) w.heap.size _ _ _ (by rfl) Hown.out (by simp [Value.oneCell']) (by omega) (by omega) (by omega) ?_))
            intro g' cap' w5 hown5 hgrow hat hz5 hlt5
            have Hown5 := Lib.hid hown5
            have HB5 := Lib.hid (below_grown_own Hb.out Hown.out hgrow (by omega))
            clear hown5 hgrow hat hlt5
            go_wp2_with fail
            go_roundw
            case rel => exact ⟨k + 1, by omega, by go_num, Lib.hid (by rw [HI.out]; exact own_snoc Hown5.out rfl (HX.out _)), HB5⟩
            case measure => simp [intOf]; omega
      · have q : ((B x.table).toList == t.toList) = false := seq_false (fun e => ht (by rw [← e, B_list]))
        have HI := Lib.hid (but_in (u := u.data.toList) Hx.out (goes_table ht))
        have hbl5 := but_tlen l k t.data.toList u.data.toList
        have hsz := Hb.out.size
        have HX := Lib.hid (snoc_pr x)
        clear ht
        generalize B x.table = x1 at *
        generalize B x.key = x2 at *
        generalize B x.value = x3 at *
        have HU := Hown
        focus
          go_wp2_with (at_builtin; go_must (refine wpList_append_k rfl _ _ 44 rfl 57 i0 _ 3 48 Tryz.underlying44 hi hz0 hz1 hz2 rfl (by omega) _ (by rfl) (by rfl) w.heap.size _ _ _ (by rfl) Hown.out (by simp [Value.oneCell']) (by omega) (by omega) (by omega) ?_))
        intro g' cap' w5 hown5 hgrow hat hz5 hlt5
        have Hown5 := Lib.hid hown5
        have HB5 := Lib.hid (below_grown_own Hb.out Hown.out hgrow (by omega))
        clear hown5 hgrow hat hlt5
        go_wp2_with fail
        go_roundw
        case rel => exact ⟨k + 1, by omega, by go_num, Lib.hid (by rw [HI.out]; exact own_snoc Hown5.out rfl (HX.out _)), HB5⟩
        case measure => simp [intOf]; omega
    · obtain rfl : k = m := by omega
      have HT : Hid (l.take k = l) := Lib.hid (by rw [← Hlen.out]; exact List.take_length)
      go_wp2_with fail
      go_ret
      refine ⟨_, rfl, ?_, Hb.out⟩
      have := Hown.out
      rw [HT.out] at this
      exact this
end Go.Proofs.YthjcifokmcbaoaaGreatDoor.st
/- The reference's with of chapter 16 gives a list of its own. Conditions: at most 100000 pairs. -/
namespace Go.Proofs.YthjcifokmcbaoaaGreatDoor.st
open Go.ChangeShapes Go.WideShapes Go.ChangeAt Go.RowKit gl ls

def before (l : List Pr) (p : Pr) (k : Nat) : Prop := ∀ (j : Nat) (x : Pr), j < k → l[j]? = some x → ltP x p = true
theorem before_succ {l : List Pr} {p x : Pr} {k : Nat} (h : before l p k) (hx : l[k]? = some x) (hlt : ltP x p = true) : before l p (k + 1) := by
  intro j y hj hy
  rcases Nat.lt_or_ge j k with h1 | h1
  · exact h j y h1 hy
  · obtain rfl : j = k := by omega
    rw [hx] at hy
    obtain rfl := Option.some.inj hy
    exact hlt
theorem with_cut : ∀ (l : List Pr) (p : Pr) (k : Nat), before l p k → (∀ x, l[k]? = some x → ltP x p = false) → k ≤ l.length → withL p l = (l.take k ++ [p]) ++ l.drop k
  | [], p, k, _, _, hk => by
    obtain rfl : k = 0 := by simpa using hk
    rfl
  | x :: r, p, 0, _, hn, _ => by
    have := hn x rfl
    unfold withL
    rw [if_neg (by rw [this]; simp)]
    rfl
  | x :: r, p, k + 1, hb, hn, hk => by
    have h0 := hb 0 x (by omega) rfl
    unfold withL
    rw [if_pos h0, with_cut r p k (fun j y hj hy => hb (j + 1) y (by omega) (by simpa using hy)) (fun y hy => hn y (by simpa using hy)) (by simpa using hk)]
    rfl
theorem box_pr {x : Pr} {w wA : World} (hA : wA = w.alloc (.cells #[.string (B x.table), .string (B x.key), .string (B x.value)] 57)) :
    Below w.heap.size w wA ∧ wA.heap.size = w.heap.size + 1 ∧ wA.cell? ⟨w.heap.size, 0, none⟩ = some (.string (B x.table)) ∧ wA.cell? ⟨w.heap.size, 1, none⟩ = some (.string (B x.key)) ∧ wA.cell? ⟨w.heap.size, 2, none⟩ = some (.string (B x.value)) := by
  have h2 := heap_alloc_new w (.cells #[.string (B x.table), .string (B x.key), .string (B x.value)] 57)
  rw [← hA] at h2
  exact ⟨by rw [hA]; exact (Below.refl _ _).alloc (Nat.le_refl _) _, by rw [hA]; simp, cell_in (o := 0) h2, cell_in (o := 1) h2, cell_in (o := 2) h2⟩
theorem s6_drew {w0 wp : World} {b d o : Nat} {x0 x1 x2 y0 y1 y2 : Value} (h : wp.cell? ⟨d, o, none⟩ = some y0 ∧ wp.cell? ⟨d, o + 1, none⟩ = some y1 ∧ wp.cell? ⟨d, o + 2, none⟩ = some y2 ∧ wp.cell? ⟨b, 0, none⟩ = some x0 ∧ wp.cell? ⟨b, 1, none⟩ = some x1 ∧ wp.cell? ⟨b, 2, none⟩ = some x2 ∧ Hid (Below w0.heap.size w0 wp)) :
    wp.drew.cell? ⟨d, o, none⟩ = some y0 ∧ wp.drew.cell? ⟨d, o + 1, none⟩ = some y1 ∧ wp.drew.cell? ⟨d, o + 2, none⟩ = some y2 ∧ wp.drew.cell? ⟨b, 0, none⟩ = some x0 ∧ wp.drew.cell? ⟨b, 1, none⟩ = some x1 ∧ wp.drew.cell? ⟨b, 2, none⟩ = some x2 ∧ Hid (Below w0.heap.size w0 wp.drew) := ⟨h.1, h.2.1, h.2.2.1, h.2.2.2.1, h.2.2.2.2.1, h.2.2.2.2.2.1, Lib.hid h.2.2.2.2.2.2.out.drew⟩
/-- The pairs from k on, as a source of an append. -/
theorem src_tail {w : World} {b o n c k : Nat} {l : List Pr} (h : Prs w (.slice (some ⟨b, o, none⟩) n c) l) (hk : k < n) (c' : Nat) : SrcV w (.slice (some ⟨b, o + k * 3, none⟩) (n - k) c') (n - k) (prsC (l.drop k)) := by
  refine .inr ⟨by omega, _, c', rfl, fun j u hu => ?_⟩
  obtain ⟨y, hy, hv⟩ := flat_inv hu
  rw [List.getElem?_drop] at hy
  have := h.cell hy hv
  rw [addN]
  rwa [show o + k * 3 + j = o + ((k + j / 3) * 3 + j % 3) by omega]
theorem src_none (w : World) (q : Option Addr) (c : Nat) : SrcV w (.slice q 0 c) 0 [] := .inl ⟨rfl, rfl, q, c, rfl⟩
theorem with_own {M : Nat} {w : World} {v : Value} {l : List Pr} {x : Pr} {k n : Nat} {xs : List Value} (h : w.ownsRow M 57 3 v n xs) (hx : xs = prsC (l.take k ++ [x]) ++ prsC (l.drop k)) (hn : n = k + 1 + (l.length - k)) (hk : k ≤ l.length) (hw : withL x l = (l.take k ++ [x]) ++ l.drop k) : OwnP M w v (withL x l) := by
  unfold OwnP
  rw [hw, show prsC ((l.take k ++ [x]) ++ l.drop k) = _ from rw.flat_append _ _, ← hx]
  have : ((l.take k ++ [x]) ++ l.drop k).length = n := by simp; omega
  rw [this]
  exact h
theorem grown_bel {w0 w w' : World} {M M' n s : Nat} {e : TypeId} {v : Value} {xs : List Value} (hb : Below M w0 w) (h : w.ownsRow M' e s v n xs) (hg : w.grownBy w' v.ownBlock) (hM : M ≤ M') (hs : M ≤ w.heap.size) : Below M w0 w' :=
  hb.trans ⟨hg.os, hg.tape, hg.output, hg.size, fun k hk => hg.block k (by omega) fun e => by
    have := (h.lt k e.symm).1
    omega⟩
theorem own_k {M k : Nat} {w : World} {v : Value} {l : List Pr} (h : OwnP M w v l) (hk : l.length = k) : w.ownsRow M 57 3 v k (prsC l) := by unfold OwnP at h; rw [hk] at h; exact h
set_option maxHeartbeats 8000000 in
set_option maxRecDepth 100000 in
theorem refWith_any (p : Option Addr) (m c : Nat) (l : List Pr) (y : Pr) (hm : m ≤ 100000) (w : World) (h : Prs w (.slice p m c) l) :
    Calls Tryz.prog 127 #[.slice p m c, .agg #[.string (B y.table), .string (B y.key), .string (B y.value)]] w fun e w' => ∃ v, e = .returned v ∧ OwnP w.heap.size w' v (withL y l) ∧ Below w.heap.size w w' := by
  obtain ⟨hlen, hmc, hptr⟩ := h.ptr
  obtain ⟨wA, hA⟩ : ∃ wA, wA = w.alloc (.cells #[.string (B y.table), .string (B y.key), .string (B y.value)] 57) := ⟨_, rfl⟩
  obtain ⟨hbA, hzA, a0, a1, a2⟩ := box_pr hA
  have HL := Lib.hid (h.later hbA)
  have Hlen := Lib.hid hlen
  have HP := Lib.hid hptr
  have HA := Lib.hid hA
  have HbA := Lib.hid hbA
  have HzA := Lib.hid hzA
  have A0 := Lib.hid a0
  have A1 := Lib.hid a1
  have A2 := Lib.hid a2
  obtain ⟨i0, hi, hz0, hz1, hz2⟩ := info_parts infoPr
  have Y1 : Hid (B y.table = B y.table ∧ B y.key = B y.key ∧ B y.value = B y.value) := Lib.hid ⟨rfl, rfl, rfl⟩
  clear h hlen hptr hA hbA hzA a0 a1 a2
  have HXY := Lib.hid (snoc_pr y)
  have HLs := Lib.hid fun (x : Pr) W => refLess_any x y W
  generalize B y.table = y1 at *
  generalize B y.key = y2 at *
  generalize B y.value = y3 at *
  go_enter Tryz.func127, Tryz.ntmps127
  go_wp2_with fail
  rw [← HA.out]
  go_loopw [5, 6] (fun v i wr => ∃ k : Nat, k ≤ m ∧ i = .int .i64 k ∧ Hid (before l y k) ∧ Hid (OwnP (w.heap.size + 1) wr v (l.take k)) ∧ Hid (Below wA.heap.size wA wr)) (fun _ i _ => m - (intOf i).toNat)
  case atStart => exact ⟨0, by omega, rfl, Lib.hid fun j x h => by omega, Lib.hid (own_none _ _), Lib.hid (Below.refl _ _)⟩
  case round =>
    obtain ⟨k, hk, rfl, Hbf, Hown, Hb⟩ := hrel
    have hbs : w.heap.size + 1 ≤ wr.heap.size := by rw [← HzA.out]; exact Hb.out.size
    have d0 : wr.cell? ⟨w.heap.size, 0, none⟩ = some (.string y1) := (Hb.out.cell (p := ⟨w.heap.size, 0, none⟩) (World.block_lt_of_cell? _ _ A0.out)).trans A0.out
    have d1 : wr.cell? ⟨w.heap.size, 1, none⟩ = some (.string y2) := (Hb.out.cell (p := ⟨w.heap.size, 1, none⟩) (World.block_lt_of_cell? _ _ A1.out)).trans A1.out
    have d2 : wr.cell? ⟨w.heap.size, 2, none⟩ = some (.string y3) := (Hb.out.cell (p := ⟨w.heap.size, 2, none⟩) (World.block_lt_of_cell? _ _ A2.out)).trans A2.out
    have HLr := Lib.hid (HL.out.later Hb.out)
    have htl : (l.take k).length = k := by rw [List.length_take, Hlen.out]; omega
    have Htl := Lib.hid htl
    clear htl
    by_cases hlt : k < m
    · obtain ⟨b, o, rfl, hbl⟩ := HP.out (by omega)
      obtain ⟨x, hx⟩ : ∃ x, l[k]? = some x := ⟨_, List.getElem?_eq_getElem (by rw [Hlen.out]; exact hlt)⟩
      obtain ⟨c0, c1, c2⟩ := prs_cells HLr.out hx
      have Hx := Lib.hid hx
      have HLsx := Lib.hid (HLs.out x)
      have hki : (k : Int) < (m : Int) := by omega
      have hkd : decide ((k : Int) < (m : Int)) = true := by rw [decide_eq_true_iff]; omega
      have hke : decide (k < m) = true := by rw [decide_eq_true_iff]; omega
      have hk5 : (0 : Int) ≤ (k : Int) := by omega
      clear hx
      cases hl : ltP x y with
      | true =>
        have Hn := Lib.hid (before_succ Hbf.out Hx.out hl)
        have HI := Lib.hid (take_at Hx.out)
        have HX := Lib.hid (snoc_pr x)
        rw [hl] at HLsx
        clear hl
        generalize B x.table = x1 at *
        generalize B x.key = x2 at *
        generalize B x.value = x3 at *
        have hSt : wr.cell? ⟨b, o + k * 3, none⟩ = some (.string x1) ∧ wr.cell? ⟨b, o + k * 3 + 1, none⟩ = some (.string x2) ∧ wr.cell? ⟨b, o + k * 3 + 2, none⟩ = some (.string x3) ∧ wr.cell? ⟨w.heap.size, 0, none⟩ = some (.string y1) ∧ wr.cell? ⟨w.heap.size, 1, none⟩ = some (.string y2) ∧ wr.cell? ⟨w.heap.size, 2, none⟩ = some (.string y3) ∧ Hid (Below wr.heap.size wr wr) := ⟨c0, c1, c2, d0, d1, d2, Lib.hid (Below.refl _ _)⟩
        go_wp2_with fail
        go_region_held3 (fun w' => w'.cell? ⟨b, o + k * 3, none⟩ = some (.string x1) ∧ w'.cell? ⟨b, o + k * 3 + 1, none⟩ = some (.string x2) ∧ w'.cell? ⟨b, o + k * 3 + 2, none⟩ = some (.string x3) ∧ w'.cell? ⟨w.heap.size, 0, none⟩ = some (.string y1) ∧ w'.cell? ⟨w.heap.size, 1, none⟩ = some (.string y2) ∧ w'.cell? ⟨w.heap.size, 2, none⟩ = some (.string y3) ∧ Hid (Below wr.heap.size wr w'))
          (first | assumption | (with_reducible exact s6_drew (by assumption)))
          ((go_at_call 125; (with_reducible refine Calls.mono (HLsx.out _) ?_); rintro e w' ⟨rfl, hb⟩; have hS' := s6_call (by assumption) hb; clear hb))
        all_goals
          rename_i hH
          have hbH := Lib.hid hH.2.2.2.2.2.2.out
          have HO1 := Lib.hid (ls.own_kept Hown.out hbH.out)
          have HB1 := Lib.hid (Hb.out.trans (hbH.out.mono Hb.out.size))
          have hsz1 := hbH.out.size
          obtain ⟨e0, e1, e2, _⟩ := hH
          clear c0 c1 c2 d0 d1 d2 hSt
          have HOk := Lib.hid (own_k HO1.out Htl.out)
          focus
            go_wp2_with (at_builtin; go_must (refine wpList_append_k rfl _ _ 44 rfl 57 i0 _ 3 48 Tryz.underlying44 hi hz0 hz1 hz2 rfl (by omega) _ (by rfl) (by rfl) (w.heap.size + 1) _ _ _ (by rfl) HOk.out (by simp [Value.oneCell']) (by omega) (by omega) (by omega) ?_))
          intro g' cap' w5 hown5 hgrow hat hz5 hlt5
          have Hown5 := Lib.hid hown5
          have HB5 := Lib.hid (grown_bel HB1.out HOk.out hgrow (by rw [HzA.out]; exact Nat.le_refl _) (by rw [HzA.out]; omega))
          clear hown5 hgrow hat hlt5 e0 e1 e2
          go_wp2_with fail
          go_roundw
          case rel => exact ⟨k + 1, by omega, by go_num, Hn, Lib.hid (by rw [HI.out]; exact own_snoc Hown5.out (by rw [Htl.out]) (HX.out _)), HB5⟩
          case measure => simp [intOf]; omega
      | false =>
        have Hw := Lib.hid (with_cut l y k Hbf.out (fun z hz => by rw [Hx.out] at hz; obtain rfl := Option.some.inj hz; exact hl) (by rw [Hlen.out]; omega))
        rw [hl] at HLsx
        clear hl
        generalize B x.table = x1 at *
        generalize B x.key = x2 at *
        generalize B x.value = x3 at *
        have hSt : wr.cell? ⟨b, o + k * 3, none⟩ = some (.string x1) ∧ wr.cell? ⟨b, o + k * 3 + 1, none⟩ = some (.string x2) ∧ wr.cell? ⟨b, o + k * 3 + 2, none⟩ = some (.string x3) ∧ wr.cell? ⟨w.heap.size, 0, none⟩ = some (.string y1) ∧ wr.cell? ⟨w.heap.size, 1, none⟩ = some (.string y2) ∧ wr.cell? ⟨w.heap.size, 2, none⟩ = some (.string y3) ∧ Hid (Below wr.heap.size wr wr) := ⟨c0, c1, c2, d0, d1, d2, Lib.hid (Below.refl _ _)⟩
        go_wp2_with fail
        go_region_held3 (fun w' => w'.cell? ⟨b, o + k * 3, none⟩ = some (.string x1) ∧ w'.cell? ⟨b, o + k * 3 + 1, none⟩ = some (.string x2) ∧ w'.cell? ⟨b, o + k * 3 + 2, none⟩ = some (.string x3) ∧ w'.cell? ⟨w.heap.size, 0, none⟩ = some (.string y1) ∧ w'.cell? ⟨w.heap.size, 1, none⟩ = some (.string y2) ∧ w'.cell? ⟨w.heap.size, 2, none⟩ = some (.string y3) ∧ Hid (Below wr.heap.size wr w'))
          (first | assumption | (with_reducible exact s6_drew (by assumption)))
          ((go_at_call 125; (with_reducible refine Calls.mono (HLsx.out _) ?_); rintro e w' ⟨rfl, hb⟩; have hS' := s6_call (by assumption) hb; clear hb))
        all_goals
          rename_i hH
          have hbH := Lib.hid hH.2.2.2.2.2.2.out
          obtain ⟨_, _, _, e0, e1, e2, _⟩ := hH
          clear c0 c1 c2 hSt
          have HO1 := Lib.hid (ls.own_kept Hown.out hbH.out)
          have HB1 := Lib.hid (Hb.out.trans (hbH.out.mono Hb.out.size))
          have hsz1 := hbH.out.size
          clear d0 d1 d2
          skip
          have HOk := Lib.hid (own_k HO1.out Htl.out)
          focus
            go_wp2_with (at_builtin; go_must (refine wpList_append_k rfl _ _ 44 rfl 57 i0 _ 3 48 Tryz.underlying44 hi hz0 hz1 hz2 rfl (by omega) _ (by rfl) (by rfl) (w.heap.size + 1) _ _ _ (by rfl) HOk.out (by simp [Value.oneCell']) (by omega) (by omega) (by omega) ?_))
          intro g' cap' w5 hown5 hgrow hat hz5 hlt5
          have Hown5 := Lib.hid hown5
          have HB5 := Lib.hid (grown_bel HB1.out HOk.out hgrow (by rw [HzA.out]; exact Nat.le_refl _) (by rw [HzA.out]; omega))
          clear hown5 hgrow hat hlt5 e0 e1 e2
          have HL5 := Lib.hid (HL.out.later HB5.out)
          have hsz5 : w.heap.size + 1 ≤ w5.heap.size := by rw [← HzA.out]; exact HB5.out.size
          have HSr := Lib.hid (src_tail HL5.out hlt (c - k))
          have HSl : Hid ((prsC (l.drop k)).length = (m - k) * 3) := Lib.hid (by rw [rw.flat_len prC_len, List.length_drop, Hlen.out])
          have HSo : Hid (∀ u ∈ prsC (l.drop k), u.oneCell' = true) := Lib.hid (fun u hu => rw.flat_one prC_one _ u hu)
          have hck : ¬ c = k := by omega
          focus
            go_wp2_with (at_builtin; go_must (refine wpList_append_any rfl _ _ 44 rfl 57 i0 _ 3 48 Tryz.underlying44 hi hz0 hz1 hz2 rfl (by omega) (w.heap.size + 1) _ _ _ (by rfl) Hown5.out _ (m - k) _ (by rfl) HSr.out HSl.out HSo.out (by omega) (by omega) (by omega) ?_))
          intro p6 cap6 w6 hown6 hgrow6
          have Hown6 := Lib.hid hown6
          have HB6 := Lib.hid (grown_bel HB5.out Hown5.out hgrow6 (by rw [HzA.out]; exact Nat.le_refl _) (by rw [HzA.out]; omega))
          clear hown6 hgrow6
          go_wp2_with fail
          go_ret
          refine ⟨_, rfl, ?_, HbA.out.trans (HB6.out.mono HbA.out.size)⟩
          refine (with_own (k := k) Hown6.out ?_ (by have := Hlen.out; omega) (by have := Hlen.out; omega) Hw.out).base (by omega)
          rw [HXY.out]
          first | rfl | simp
    · obtain rfl : k = m := by omega
      have Hw := Lib.hid (with_cut l y k Hbf.out (fun z hz => by have := lt_of_at hz; rw [Hlen.out] at this; omega) (by rw [Hlen.out]; omega))
      have hkd : decide ((k : Int) < (k : Int)) = false := by rw [decide_eq_false_iff_not]; omega
      have hke : decide (k < k) = false := by rw [decide_eq_false_iff_not]; omega
      have hkc : k ≤ c := hmc
      rcases Nat.eq_or_lt_of_le hkc with hck | hck
      · subst hck
        go_wp2_with fail
        go_quiet (fail)
        rename_i nq
        have hbH := Lib.hid (drewN_bel wr nq)
        have e0 := d0
        have e1 := d1
        have e2 := d2
        have HO1 := Lib.hid (ls.own_kept Hown.out hbH.out)
        have HB1 := Lib.hid (Hb.out.trans (hbH.out.mono Hb.out.size))
        have hsz1 := hbH.out.size
        clear d0 d1 d2
        skip
        have HOk := Lib.hid (own_k HO1.out Htl.out)
        focus
          go_wp2_with (at_builtin; go_must (refine wpList_append_k rfl _ _ 44 rfl 57 i0 _ 3 48 Tryz.underlying44 hi hz0 hz1 hz2 rfl (by omega) _ (by rfl) (by rfl) (w.heap.size + 1) _ _ _ (by rfl) HOk.out (by simp [Value.oneCell']) (by omega) (by omega) (by omega) ?_))
        intro g' cap' w5 hown5 hgrow hat hz5 hlt5
        have Hown5 := Lib.hid hown5
        have HB5 := Lib.hid (grown_bel HB1.out HOk.out hgrow (by rw [HzA.out]; exact Nat.le_refl _) (by rw [HzA.out]; omega))
        clear hown5 hgrow hat hlt5 e0 e1 e2
        have HL5 := Lib.hid (HL.out.later HB5.out)
        have hsz5 : w.heap.size + 1 ≤ w5.heap.size := by rw [← HzA.out]; exact HB5.out.size
        have HD : Hid (l.drop k = []) := Lib.hid (by rw [List.drop_eq_nil_iff, Hlen.out]; exact Nat.le_refl _)
        have HSr : ∀ q' c', Hid (SrcV w5 (.slice q' 0 c') (k - k) (prsC (l.drop k))) := fun q' c' => Lib.hid (by rw [HD.out, Nat.sub_self]; exact src_none w5 q' c')
        have HSl : Hid ((prsC (l.drop k)).length = (k - k) * 3) := Lib.hid (by rw [HD.out, Nat.sub_self]; rfl)
        have HSo : Hid (∀ u ∈ prsC (l.drop k), u.oneCell' = true) := Lib.hid (by rw [HD.out]; intro u hu; cases hu)
        focus
          go_wp2_with (at_builtin; go_must (refine wpList_append_any rfl _ _ 44 rfl 57 i0 _ 3 48 Tryz.underlying44 hi hz0 hz1 hz2 rfl (by omega) (w.heap.size + 1) _ _ _ (by rfl) Hown5.out _ (k - k) _ (by rfl) (HSr _ _).out HSl.out HSo.out (by omega) (by omega) (by omega) ?_))
        intro p6 cap6 w6 hown6 hgrow6
        have Hown6 := Lib.hid hown6
        have HB6 := Lib.hid (grown_bel HB5.out Hown5.out hgrow6 (by rw [HzA.out]; exact Nat.le_refl _) (by rw [HzA.out]; omega))
        clear hown6 hgrow6
        go_wp2_with fail
        go_ret
        refine ⟨_, rfl, ?_, HbA.out.trans (HB6.out.mono HbA.out.size)⟩
        refine (with_own (k := k) Hown6.out ?_ (by have := Hlen.out; omega) (by have := Hlen.out; omega) Hw.out).base (by omega)
        rw [HXY.out]
        first | rfl | simp
      · have hck' : ¬ c = k := by omega
        go_wp2_with fail
        go_quiet (fail)
        rename_i nq
        have hbH := Lib.hid (drewN_bel wr nq)
        have e0 := d0
        have e1 := d1
        have e2 := d2
        have HO1 := Lib.hid (ls.own_kept Hown.out hbH.out)
        have HB1 := Lib.hid (Hb.out.trans (hbH.out.mono Hb.out.size))
        have hsz1 := hbH.out.size
        clear d0 d1 d2
        skip
        have HOk := Lib.hid (own_k HO1.out Htl.out)
        focus
          go_wp2_with (at_builtin; go_must (refine wpList_append_k rfl _ _ 44 rfl 57 i0 _ 3 48 Tryz.underlying44 hi hz0 hz1 hz2 rfl (by omega) _ (by rfl) (by rfl) (w.heap.size + 1) _ _ _ (by rfl) HOk.out (by simp [Value.oneCell']) (by omega) (by omega) (by omega) ?_))
        intro g' cap' w5 hown5 hgrow hat hz5 hlt5
        have Hown5 := Lib.hid hown5
        have HB5 := Lib.hid (grown_bel HB1.out HOk.out hgrow (by rw [HzA.out]; exact Nat.le_refl _) (by rw [HzA.out]; omega))
        clear hown5 hgrow hat hlt5 e0 e1 e2
        have HL5 := Lib.hid (HL.out.later HB5.out)
        have hsz5 : w.heap.size + 1 ≤ w5.heap.size := by rw [← HzA.out]; exact HB5.out.size
        have HD : Hid (l.drop k = []) := Lib.hid (by rw [List.drop_eq_nil_iff, Hlen.out]; exact Nat.le_refl _)
        have HSr : ∀ q' c', Hid (SrcV w5 (.slice q' 0 c') (k - k) (prsC (l.drop k))) := fun q' c' => Lib.hid (by rw [HD.out, Nat.sub_self]; exact src_none w5 q' c')
        have HSl : Hid ((prsC (l.drop k)).length = (k - k) * 3) := Lib.hid (by rw [HD.out, Nat.sub_self]; rfl)
        have HSo : Hid (∀ u ∈ prsC (l.drop k), u.oneCell' = true) := Lib.hid (by rw [HD.out]; intro u hu; cases hu)
        focus
          go_wp2_with (at_builtin; go_must (refine wpList_append_any rfl _ _ 44 rfl 57 i0 _ 3 48 Tryz.underlying44 hi hz0 hz1 hz2 rfl (by omega) (w.heap.size + 1) _ _ _ (by rfl) Hown5.out _ (k - k) _ (by rfl) (HSr _ _).out HSl.out HSo.out (by omega) (by omega) (by omega) ?_))
        intro p6 cap6 w6 hown6 hgrow6
        have Hown6 := Lib.hid hown6
        have HB6 := Lib.hid (grown_bel HB5.out Hown5.out hgrow6 (by rw [HzA.out]; exact Nat.le_refl _) (by rw [HzA.out]; omega))
        clear hown6 hgrow6
        go_wp2_with fail
        go_ret
        refine ⟨_, rfl, ?_, HbA.out.trans (HB6.out.mono HbA.out.size)⟩
        refine (with_own (k := k) Hown6.out ?_ (by have := Hlen.out; omega) (by have := Hlen.out; omega) Hw.out).base (by omega)
        rw [HXY.out]
        first | rfl | simp
end Go.Proofs.YthjcifokmcbaoaaGreatDoor.st
/- The reference's tabled of chapter 16. Conditions: at most 50000 pairs. -/
namespace Go.Proofs.YthjcifokmcbaoaaGreatDoor.st
open Go.ChangeShapes Go.WideShapes Go.ChangeAt Go.RowKit gl ls

def tabD (l : List Pr) (t u : List UInt8) : List Pr × Int := if (butL l t []).length = l.length then (l, 0) else if (butL l u []).length < l.length then ([], 161) else (tabW t u (butL l t []) l, 0)
theorem drop_at {α : Type} {l : List α} {k : Nat} {x : α} (h : l[k]? = some x) : l.drop k = x :: l.drop (k + 1) := by
  obtain ⟨hk, rfl⟩ := List.getElem?_eq_some_iff.1 h
  exact (List.drop_eq_getElem_cons hk)
theorem tabW_yes {t u : List UInt8} {R : List Pr} {l : List Pr} {k : Nat} {x : Pr} (h : l[k]? = some x) (ht : x.table = t) : tabW t u R (l.drop k) = tabW t u (withL ⟨u, x.key, x.value⟩ R) (l.drop (k + 1)) := by
  rw [drop_at h, tabW, if_pos ht]
theorem tabW_no {t u : List UInt8} {R : List Pr} {l : List Pr} {k : Nat} {x : Pr} (h : l[k]? = some x) (ht : ¬ x.table = t) : tabW t u R (l.drop k) = tabW t u R (l.drop (k + 1)) := by
  rw [drop_at h, tabW, if_neg ht]
theorem withL_len (p : Pr) (l : List Pr) : (withL p l).length = l.length + 1 := by rw [(withL_perm p l).length_eq]; rfl
theorem but_le (l : List Pr) (t u : List UInt8) : (butL l t u).length ≤ l.length := List.length_filter_le _ _
theorem Prs.form {w : World} {v : Value} {l : List Pr} (h : Prs w v l) : ∃ p c, v = .slice p l.length c := rw.Rw.form h
set_option maxHeartbeats 4000000 in
set_option maxRecDepth 100000 in
theorem refTabled_any (p : Option Addr) (m c : Nat) (l : List Pr) (s : Sp) (hm : m ≤ 50000) (w : World) (h : Prs w (.slice p m c) l) :
    Calls Tryz.prog 129 #[.slice p m c, spA s] w fun e w' => (∃ v, e = .returned (.tuple #[v, .int .i64 (tabD l s.table s.to).2]) ∧ RefP (.slice p m c) w.heap.size w' v (tabD l s.table s.to).1) ∧ Below w.heap.size w w' := by
  obtain ⟨hlen, hmc, hptr⟩ := h.ptr
  unfold spA
  obtain ⟨wA, hA⟩ : ∃ wA, wA = w.alloc (.cells #[.int .i64 s.kind, .string (B s.table), .string (B s.key), .string (B s.to), .string (B s.text)] 42) := ⟨_, rfl⟩
  obtain ⟨hbA, c0, c1, c2, c3, c4⟩ := box1 hA
  have HLA := Lib.hid (h.later hbA)
  have H1 := Lib.hid (refBut_any p m c l (B s.table) ⟨#[]⟩ (by omega) wA HLA.out)
  have H2 := Lib.hid fun (W : World) (hb : Below wA.heap.size wA W) => refBut_any p m c l (B s.to) ⟨#[]⟩ (by omega) W (HLA.out.later hb)
  simp only at H1 H2
  have Hlen := Lib.hid hlen
  have HP := Lib.hid hptr
  have HA := Lib.hid hA
  have HbA := Lib.hid hbA
  have C1 := Lib.hid c1
  have C3 := Lib.hid c3
  have hB1 := but_le l s.table []
  have hB2 := but_le l s.to []
  rw [hlen] at hB1 hB2
  obtain ⟨rt, hrt⟩ : ∃ rt, rt = (tabD l s.table s.to) := ⟨_, rfl⟩
  have Hrt := Lib.hid hrt
  have HD : Hid (tabD l s.table s.to = if (butL l s.table []).length = m then (l, 0) else if (butL l s.to []).length < m then ([], 161) else (tabW s.table s.to (butL l s.table []) l, 0)) := Lib.hid (by rw [← hlen]; rfl)
  rw [← hrt] at HD ⊢
  clear h hlen hptr hA hbA c0 c2 c3 c4 hrt
  obtain ⟨n1, hn1⟩ : ∃ n1, n1 = (butL l s.table []).length := ⟨_, rfl⟩
  obtain ⟨n2, hn2⟩ : ∃ n2, n2 = (butL l s.to []).length := ⟨_, rfl⟩
  rw [← hn1] at HD hB1
  rw [← hn2] at HD hB2
  have Hn1 := Lib.hid hn1
  have Hn2 := Lib.hid hn2
  clear hn1 hn2
  have HW1 := Lib.hid fun (R : List Pr) (k : Nat) (x : Pr) (hx : l[k]? = some x) (ht : x.table = s.table) => tabW_yes (u := s.to) (R := R) hx ht
  have HW2 := Lib.hid fun (R : List Pr) (k : Nat) (x : Pr) (hx : l[k]? = some x) (ht : ¬ x.table = s.table) => tabW_no (u := s.to) (R := R) hx ht
  have HS3 := Lib.hid (B_list s.table)
  have HRl := Lib.hid fun (w : World) (p' : Option Addr) (n' c' : Nat) (R : List Pr) (h : Prs w (.slice p' n' c') R) => h.ptr.1
  have HWt := Lib.hid fun (p' : Option Addr) (m' c' : Nat) (R : List Pr) (x : Pr) (hm' : m' ≤ 100000) (W : World) (hR : Prs W (.slice p' m' c') R) => refWith_any p' m' c' R ⟨s.to, x.key, x.value⟩ hm' W hR
  simp only at HWt
  generalize B s.table = x1 at *
  generalize B s.key = x2 at *
  generalize B s.to = x3 at *
  generalize B s.text = x4 at *
  go_enter Tryz.func129, Tryz.ntmps129
  go_wp2_with fail
  rw [← HA.out]
  refine H1.out.mono ?_
  rintro e w1 ⟨v1, rfl, ho1, hb1⟩
  obtain ⟨p1, cc1, rfl⟩ := ho1.prs.form
  have HP1 := Lib.hid (ho1.base HbA.out.size)
  have HB1 := Lib.hid hb1
  have d1 := cell_then C1.out hb1
  have d3 := cell_then C3.out hb1
  rw [← Hn1.out] at HP1 ⊢
  clear ho1 hb1 c1
  by_cases h1 : n1 = m
  · have HDa : Hid (rt = (l, 0)) := Lib.hid (by rw [HD.out, if_pos h1])
    subst h1
    have q1 : ((n1 : Int) == (n1 : Int)) = true := beq_self_eq_true _
    go_wp2_with fail
    go_ret2
    refine ⟨?_, HbA.out.trans (HB1.out.mono HbA.out.size)⟩
    rw [HDa.out]
    exact ⟨_, rfl, .inr ⟨rfl, HLA.out.later HB1.out⟩⟩
  · have q1 : ((n1 : Int) == (m : Int)) = false := by rw [beq_eq_false_iff_ne]; omega
    go_wp2_with fail
    refine (H2.out _ HB1.out).mono ?_
    rintro e w2 ⟨v2, rfl, ho2, hb2⟩
    obtain ⟨p2, cc2, rfl⟩ := ho2.prs.form
    rw [← Hn2.out]
    have HB2 := Lib.hid (then_bel HB1.out hb2)
    have HP2 := Lib.hid (HP1.out.later hb2)
    clear ho2 hb2 d1 d3
    by_cases h2 : n2 < m
    · have q2 : (n2 : Int) < (m : Int) := by omega
      have HDa : Hid (rt = ([], 161)) := Lib.hid (by rw [HD.out, if_neg h1, if_pos h2])
      go_wp2_with fail
      go_ret2
      refine ⟨?_, HbA.out.trans (HB2.out.mono HbA.out.size)⟩
      rw [HDa.out]
      exact ⟨_, rfl, .inl (own_none _ _)⟩
    · have q2 : decide ((n2 : Int) < (m : Int)) = false := by rw [decide_eq_false_iff_not]; omega
      have q3 : decide (n2 < m) = false := by rw [decide_eq_false_iff_not]; omega
      have HDf : Hid (rt = (tabW s.table s.to (butL l s.table []) l, 0)) := Lib.hid (by rw [HD.out, if_neg h1, if_neg h2])
      clear h1 h2
      go_wp2_with fail
      go_loopw [6, 7] (fun v i wr => ∃ (k n' c' : Nat) (p' : Option Addr) (R : List Pr), k ≤ m ∧ v = .slice p' n' c' ∧ i = .int .i64 k ∧ n' ≤ n1 + k ∧ Hid (OwnP w.heap.size wr (.slice p' n' c') R) ∧ Hid (tabW s.table s.to R (l.drop k) = tabW s.table s.to (butL l s.table []) l) ∧ Hid (Below wA.heap.size wA wr)) (fun _ i _ => m - (intOf i).toNat)
      case atStart => exact ⟨0, n1, cc1, p1, _, by omega, rfl, rfl, by omega, HP2, Lib.hid rfl, HB2⟩
      case round =>
        obtain ⟨k, n', c', p', R, hk, rfl, rfl, hn', HR, HF, Hb⟩ := hrel
        by_cases hlt : k < m
        · obtain ⟨b, o, rfl, hbl⟩ := HP.out (by omega)
          obtain ⟨x, hx⟩ : ∃ x, l[k]? = some x := ⟨_, List.getElem?_eq_getElem (by rw [Hlen.out]; exact hlt)⟩
          obtain ⟨e0, e1, e2⟩ := prs_cells (HLA.out.later Hb.out) hx
          have d1 := cell_then C1.out Hb.out
          have d3 := cell_then C3.out Hb.out
          have hki : (k : Int) < (m : Int) := by omega
          have hk5 : (0 : Int) ≤ (k : Int) := by omega
          have Hx := Lib.hid hx
          clear hx
          by_cases ht : x.table = s.table
          · have q : ((B x.table).toList == x1.toList) = true := by rw [ht]; simp [ByteArray.toList_eq, HS3.out]
            have HI := Lib.hid (HW1.out R k x Hx.out ht)
            have HQ := Lib.hid fun W hR => HWt.out p' n' c' R x (by omega) W hR
            clear ht
            generalize B x.table = y1 at *
            generalize B x.key = y2 at *
            generalize B x.value = y3 at *
            go_wp2_with fail
            go_quiet (fail)
            go_wp2_with fail
            rename_i nq
            obtain ⟨wq, hwq⟩ : ∃ wq, wq = wr.drewN nq := ⟨_, rfl⟩
            rw [← hwq]
            have f3 : wq.cell? ⟨w.heap.size, 3, none⟩ = some (.string x3) := by rw [hwq]; exact d3
            have f1 : wq.cell? ⟨b, o + k * 3 + 1, none⟩ = some (.string y2) := by rw [hwq]; exact e1
            have f2 : wq.cell? ⟨b, o + k * 3 + 2, none⟩ = some (.string y3) := by rw [hwq]; exact e2
            have HBq : Hid (Below wr.heap.size wr wq) := Lib.hid (by rw [hwq]; exact drewN_bel wr nq)
            clear hwq d1 d3 e0 e1 e2
            go_still_tail 14, (by kernel_rfl)
            go_wp2_with fail
            refine (HQ.out _ (HR.out.later (Below.drew HBq.out)).prs).mono ?_
            rintro e w5 ⟨v5, rfl, ho5, hb5⟩
            obtain ⟨p5, c5, rfl⟩ := ho5.prs.form
            have Ho5 := Lib.hid (ho5.base (Nat.le_trans HbA.out.size (Nat.le_trans Hb.out.size HBq.out.size)))
            have HB5 := Lib.hid ((Hb.out.trans (HBq.out.drew.mono Hb.out.size)).trans (hb5.mono (Nat.le_trans Hb.out.size HBq.out.size)))
            clear ho5 hb5 f1 f2 f3
            go_wp2_with fail
            go_roundw
            case rel => exact ⟨k + 1, _, _, _, _, by omega, rfl, by go_num, by rw [withL_len, HRl.out _ _ _ _ _ HR.out.prs]; omega, Ho5, Lib.hid (HI.out.symm.trans HF.out), HB5⟩
            case measure => simp [intOf]; omega
          · have q : ((B x.table).toList == x1.toList) = false := by
              rw [beq_eq_false_iff_ne, ByteArray.toList_eq, ByteArray.toList_eq, HS3.out]
              simpa using ht
            have HI := Lib.hid (HW2.out R k x Hx.out ht)
            clear ht
            generalize B x.table = y1 at *
            generalize B x.key = y2 at *
            generalize B x.value = y3 at *
            go_wp2_with fail
            go_quiet (fail)
            go_wp2_with fail
            go_roundw
            case rel => exact ⟨k + 1, _, _, _, _, by omega, rfl, by go_num, by omega, Lib.hid (HR.out.later (drewN_bel wr _)), Lib.hid (HI.out.symm.trans HF.out), Lib.hid (Hb.out.trans ((drewN_bel wr _).mono Hb.out.size))⟩
            case measure => simp [intOf]; omega
        · obtain rfl : k = m := by omega
          have HE : Hid (rt = (R, 0)) := Lib.hid (by rw [HDf.out, ← HF.out, List.drop_of_length_le (by rw [Hlen.out]; exact Nat.le_refl _), tabW])
          go_wp2_with fail
          go_ret2
          rw [HE.out]
          exact ⟨⟨_, rfl, .inl HR.out⟩, HbA.out.trans (Hb.out.mono HbA.out.size)⟩
end Go.Proofs.YthjcifokmcbaoaaGreatDoor.st
/- The reference's mapped of chapter 16. Conditions: at most 100000 pairs, values of at most 200 bytes, a function that stands. -/
namespace Go.Proofs.YthjcifokmcbaoaaGreatDoor.st
open Go.ChangeShapes Go.WideShapes Go.ChangeAt Go.RowKit gl ls

def mapD (l : List Pr) (t f : List UInt8) : List Pr × Int := match mapF t f l with | none => ([], 162) | some q => (q, 0)
theorem mapF_snoc {t f : List UInt8} {x : Pr} : ∀ {a R : List Pr}, mapF t f a = some R → mapF t f (a ++ [x]) = if x.table = t then (match funL f x.value with | none => none | some v => some (R ++ [{ x with value := v }])) else some (R ++ [x])
  | [], R, h => by
    simp [mapF] at h
    subst h
    simp only [List.nil_append, mapF]
    split
    · cases funL f x.value <;> rfl
    · rfl
  | y :: a, R, h => by
    rw [List.cons_append]
    unfold mapF at h ⊢
    split
    · rename_i hy
      rw [if_pos hy] at h
      cases hv : funL f y.value with
      | none => rw [hv] at h; cases h
      | some v =>
        rw [hv] at h
        simp only [Option.map_eq_some_iff] at h
        obtain ⟨R', hR', rfl⟩ := h
        simp only [mapF_snoc hR']
        split
        · cases funL f x.value <;> rfl
        · rfl
    · rename_i hy
      rw [if_neg hy] at h
      simp only [Option.map_eq_some_iff] at h
      obtain ⟨R', hR', rfl⟩ := h
      simp only [mapF_snoc hR']
      split
      · cases funL f x.value <;> rfl
      · rfl
theorem mapF_cut {t f : List UInt8} {b : List Pr} : ∀ {a : List Pr}, mapF t f a = none → mapF t f (a ++ b) = none
  | [], h => by simp [mapF] at h
  | y :: a, h => by
    rw [List.cons_append]
    unfold mapF at h ⊢
    split
    · rename_i hy
      rw [if_pos hy] at h
      cases hv : funL f y.value with
      | none => rfl
      | some v =>
        rw [hv] at h
        simp only [Option.map_eq_none_iff] at h
        simp only [mapF_cut h, Option.map_none]
    · rename_i hy
      rw [if_neg hy] at h
      simp only [Option.map_eq_none_iff] at h
      simp only [mapF_cut h, Option.map_none]
theorem map_yes {t f : List UInt8} {l R : List Pr} {k : Nat} {x : Pr} {v : List UInt8} (h : mapF t f (l.take k) = some R) (hx : l[k]? = some x) (ht : x.table = t) (hv : funL f x.value = some v) : mapF t f (l.take (k + 1)) = some (R ++ [⟨x.table, x.key, v⟩]) := by
  rw [take_at hx, mapF_snoc h, if_pos ht, hv]
theorem map_no {t f : List UInt8} {l R : List Pr} {k : Nat} {x : Pr} (h : mapF t f (l.take k) = some R) (hx : l[k]? = some x) (ht : ¬ x.table = t) : mapF t f (l.take (k + 1)) = some (R ++ [x]) := by
  rw [take_at hx, mapF_snoc h, if_neg ht]
theorem map_bad {t f : List UInt8} {l R : List Pr} {k : Nat} {x : Pr} (h : mapF t f (l.take k) = some R) (hx : l[k]? = some x) (ht : x.table = t) (hv : funL f x.value = none) : mapD l t f = ([], 162) := by
  have h1 : mapF t f (l.take (k + 1)) = none := by rw [take_at hx, mapF_snoc h, if_pos ht, hv]
  have h2 := mapF_cut (b := l.drop (k + 1)) h1
  rw [List.take_append_drop] at h2
  unfold mapD
  rw [h2]
theorem map_end {t f : List UInt8} {l R : List Pr} {k : Nat} (h : mapF t f (l.take k) = some R) (hk : l.length = k) : mapD l t f = (R, 0) := by
  rw [← hk, List.take_length] at h
  unfold mapD
  rw [h]
theorem map_len {t f : List UInt8} {l R : List Pr} {k : Nat} (h : mapF t f (l.take k) = some R) (hk : k ≤ l.length) : R.length = k := by
  rw [mapF_len h, List.length_take]
  omega
theorem call_of {t v : List UInt8} (hf : fnL t = true) (hl : v.length ≤ 200) : callL t v = (match funL t v with | none => ([], 162) | some u => (u, 0)) := by unfold callL; rw [if_pos hf, if_pos hl]; cases funL t v <;> rfl
theorem own_far {M : Nat} {w : World} {v : Value} {n s : Nat} {e : TypeId} {xs : List Value} (h : w.ownsRow M e s v n xs) {a : Addr} (ha : ∀ g, v.ownBlock = some g → g ≠ a.block) (u : Value) : (w.setCell a u).ownsRow M e s v n xs :=
  ((Upd.refl [a.block] w).setCell (.inl (by simp)) u).row h fun g hg hm => ha g hg (by simpa using hm)
set_option maxHeartbeats 4000000 in
set_option maxRecDepth 100000 in
theorem refMapped_any (p : Option Addr) (m c : Nat) (l : List Pr) (s : Sp) (hf : fnL s.text = true) (hvs : ∀ x ∈ l, x.value.length ≤ 200) (hm : m ≤ 100000) (w : World) (h : Prs w (.slice p m c) l) :
    Calls Tryz.prog 130 #[.slice p m c, spA s] w fun e w' => (∃ v, e = .returned (.tuple #[v, .int .i64 (mapD l s.table s.text).2]) ∧ RefP (.slice p m c) w.heap.size w' v (mapD l s.table s.text).1) ∧ Below w.heap.size w w' := by
  obtain ⟨hlen, hmc, hptr⟩ := h.ptr
  unfold spA
  obtain ⟨wA, hA⟩ : ∃ wA, wA = w.alloc (.cells #[.int .i64 s.kind, .string (B s.table), .string (B s.key), .string (B s.to), .string (B s.text)] 42) := ⟨_, rfl⟩
  obtain ⟨hbA, c0, c1, c2, c3, c4⟩ := box1 hA
  have hzA : wA.heap.size = w.heap.size + 1 := by rw [hA]; simp
  have HLA := Lib.hid (h.later hbA)
  have Hlen := Lib.hid hlen
  have HP := Lib.hid hptr
  have HA := Lib.hid hA
  have HbA := Lib.hid hbA
  have HzA := Lib.hid hzA
  have C1 := Lib.hid c1
  have C4 := Lib.hid c4
  have Hvs := Lib.hid hvs
  have HC := Lib.hid fun (x : Pr) (hx : x.value.length ≤ 200) (W : World) => refCall_any (B s.text) (B x.value) W
  simp only [callV] at HC
  have HCo := Lib.hid fun (v : List UInt8) (hl : v.length ≤ 200) => call_of hf hl
  obtain ⟨i0, hi, hz0, hz1, hz2⟩ := info_parts infoPr
  have HS3 := Lib.hid (B_list s.table)
  clear h hlen hptr hA hbA hzA c0 c1 c2 c3 c4 hvs
  generalize B s.table = x1 at *
  generalize B s.key = x2 at *
  generalize B s.to = x3 at *
  generalize B s.text = x4 at *
  go_enter Tryz.func130, Tryz.ntmps130
  go_wp2_with fail
  rw [← HA.out]
  go_loopw [6, 7] (fun v i wr => ∃ (k : Nat) (R : List Pr), k ≤ m ∧ i = .int .i64 k ∧ Hid (mapF s.table s.text (l.take k) = some R) ∧ Hid (OwnP (w.heap.size + 1) wr v R) ∧ Hid (Below wA.heap.size wA wr)) (fun _ i _ => m - (intOf i).toNat)
  case atStart => exact ⟨0, [], by omega, rfl, Lib.hid rfl, Lib.hid (own_none _ _), Lib.hid (Below.refl _ _)⟩
  case round =>
    obtain ⟨k, R, hk, rfl, HF, Hown, Hb⟩ := hrel
    have hsz : w.heap.size + 1 ≤ wr.heap.size := by rw [← HzA.out]; exact Hb.out.size
    by_cases hlt : k < m
    · obtain ⟨b, o, rfl, hbl⟩ := HP.out (by omega)
      obtain ⟨x, hx⟩ : ∃ x, l[k]? = some x := ⟨_, List.getElem?_eq_getElem (by rw [Hlen.out]; exact hlt)⟩
      obtain ⟨e0, e1, e2⟩ := prs_cells (HLA.out.later Hb.out) hx
      obtain ⟨wB, hB⟩ : ∃ wB, wB = wr.alloc (.cells #[.string (B x.table), .string (B x.key), .string (B x.value)] 57) := ⟨_, rfl⟩
      obtain ⟨hbB, hzB, a0, a1, a2⟩ := box_pr hB
      have hblk : wB.heap[wr.heap.size]? = some (.cells #[.string (B x.table), .string (B x.key), .string (B x.value)] 57 (0, 0)) := by rw [hB]; exact heap_alloc_new wr _
      have Hblk := Lib.hid hblk
      clear hblk
      have D1 := Lib.hid (cell_then C1.out (Hb.out.trans (hbB.mono Hb.out.size)))
      have D4 := Lib.hid (cell_then C4.out (Hb.out.trans (hbB.mono Hb.out.size)))
      have HOk := Lib.hid (own_k (ls.own_kept Hown.out hbB) (map_len HF.out (by rw [Hlen.out]; exact hk)))
      have Hx := Lib.hid hx
      have HB := Lib.hid hB
      have HbB := Lib.hid hbB
      have HzB := Lib.hid hzB
      have HX := Lib.hid (snoc_pr x)
      have HRl := Lib.hid (map_len HF.out (by rw [Hlen.out]; exact hk))
      have hzb : wr.heap.size < wB.heap.size := by rw [hzB]; omega
      clear hx hB hbB hzB
      by_cases ht : x.table = s.table
      · have q : ((B x.table).toList == x1.toList) = true := by rw [ht]; simp [ByteArray.toList_eq, HS3.out]
        have hxv := Hvs.out x (List.mem_of_getElem? Hx.out)
        have HQ := Lib.hid (HC.out x hxv)
        rw [HCo.out _ hxv] at HQ
        cases hfn : funL s.text x.value with
        | none =>
          have HI := Lib.hid (map_bad HF.out Hx.out ht hfn)
          rw [hfn] at HQ
          clear ht hfn hxv
          generalize B x.table = y1 at *
          generalize B x.key = y2 at *
          generalize B x.value = y3 at *
          have d1 : (wr.alloc (.cells #[.string y1, .string y2, .string y3] 57)).cell? ⟨w.heap.size, 1, none⟩ = some (.string x1) := by rw [← HB.out]; exact D1.out
          have d4 : (wr.alloc (.cells #[.string y1, .string y2, .string y3] 57)).cell? ⟨w.heap.size, 4, none⟩ = some (.string x4) := by rw [← HB.out]; exact D4.out
          go_wp2_with fail
          refine (HQ.out _).mono ?_
          rintro e w5 ⟨rfl, hb5⟩
          rw [← HB.out] at hb5
          have HB5 := Lib.hid ((Hb.out.trans (HbB.out.mono Hb.out.size)).trans (hb5.mono (Nat.le_trans Hb.out.size HbB.out.size)))
          clear hb5 a0 a1 a2 d1 d4 e0 e1 e2
          go_wp2_with fail
          go_ret2
          rw [HI.out]
          exact ⟨⟨_, rfl, .inl (own_none _ _)⟩, HbA.out.trans (HB5.out.mono HbA.out.size)⟩
        | some u =>
          have HI := Lib.hid (map_yes HF.out Hx.out ht hfn)
          have HXu := Lib.hid (snoc_pr ⟨x.table, x.key, u⟩)
          rw [hfn] at HQ
          simp only at HXu HQ
          clear ht hfn hxv
          generalize B u = y4 at *
          generalize B x.table = y1 at *
          generalize B x.key = y2 at *
          generalize B x.value = y3 at *
          have d1 : (wr.alloc (.cells #[.string y1, .string y2, .string y3] 57)).cell? ⟨w.heap.size, 1, none⟩ = some (.string x1) := by rw [← HB.out]; exact D1.out
          have d4 : (wr.alloc (.cells #[.string y1, .string y2, .string y3] 57)).cell? ⟨w.heap.size, 4, none⟩ = some (.string x4) := by rw [← HB.out]; exact D4.out
          go_wp2_with fail
          refine (HQ.out _).mono ?_
          rintro e w5 ⟨rfl, hb5⟩
          rw [← HB.out] at hb5
          have HB5 := Lib.hid ((Hb.out.trans (HbB.out.mono Hb.out.size)).trans (hb5.mono (Nat.le_trans Hb.out.size HbB.out.size)))
          have a0' := cell_then a0 hb5
          have a1' := cell_then a1 hb5
          have a2' := cell_then a2 hb5
          have hb5k : w5.heap[wr.heap.size]? = some (.cells #[.string y1, .string y2, .string y3] 57 (0, 0)) := (hb5.block _ (lt_of_block Hblk.out)).trans Hblk.out
          have HO5 := Lib.hid (ls.own_kept HOk.out hb5)
          have hz5 := hb5.size
          have Hb5k := Lib.hid hb5k
          have fz : w5.frozen? ⟨wr.heap.size, 2, none⟩ = false := free_in hb5k
          clear hb5 a0 a1 a2 d1 d4 e0 e1 e2 hb5k
          go_upto_region 11 with (fail)
          obtain ⟨wS, hS⟩ : ∃ wS, wS = w5.setCell ⟨wr.heap.size, 2, none⟩ (.string y4) := ⟨_, rfl⟩
          rw [← hS]
          have hSk := heap_set Hb5k.out (o := 2) (.string y4)
          rw [← hS] at hSk
          have g0 : wS.cell? ⟨wr.heap.size, 0, none⟩ = some (.string y1) := cell_in (o := 0) hSk
          have g1 : wS.cell? ⟨wr.heap.size, 1, none⟩ = some (.string y2) := cell_in (o := 1) hSk
          have g2 : wS.cell? ⟨wr.heap.size, 2, none⟩ = some (.string y4) := cell_in (o := 2) hSk
          have HOS : Hid (wS.ownsRow (w.heap.size + 1) 57 3 _ k (prsC R)) := Lib.hid (by
            rw [hS]
            refine own_far HO5.out (fun g hg => ?_) _
            have h1 := (Hown.out.lt g hg).2
            show g ≠ wr.heap.size
            omega)
          have HBS : Hid (Below wA.heap.size wA wS) := Lib.hid (by rw [hS]; exact HB5.out.setCell (p := ⟨wr.heap.size, 2, none⟩) Hb.out.size _)
          have hzS : w5.heap.size = wS.heap.size := by rw [hS]; simp [World.setCell]
          clear hS hSk a0' a1' a2' fz
          focus
            go_wp2_with (at_builtin; go_must (refine wpList_append_k rfl _ _ 44 rfl 57 i0 _ 3 48 Tryz.underlying44 hi hz0 hz1 hz2 rfl (by omega) _ (by rfl) (by rfl) (w.heap.size + 1) _ _ _ (by rfl) HOS.out (by simp [Value.oneCell']) (by omega) (by omega) (by omega) ?_))
          intro g' cap' w6 hown6 hgrow6 hat hz6 hlt6
          have Hown6 := Lib.hid hown6
          have HB6 := Lib.hid (grown_bel HBS.out HOS.out hgrow6 (by rw [HzA.out]; exact Nat.le_refl _) (by rw [HzA.out]; omega))
          clear hown6 hgrow6 hat hlt6 g0 g1 g2
          go_wp2_with fail
          go_roundw
          case rel => exact ⟨k + 1, _, by omega, by go_num, HI, Lib.hid (own_snoc Hown6.out (by rw [HRl.out]) (HXu.out _)), HB6⟩
          case measure => simp [intOf]; omega
      · have q : ((B x.table).toList == x1.toList) = false := by
          rw [beq_eq_false_iff_ne, ByteArray.toList_eq, ByteArray.toList_eq, HS3.out]
          simpa using ht
        have HI := Lib.hid (map_no (f := s.text) HF.out Hx.out ht)
        clear ht
        generalize B x.table = y1 at *
        generalize B x.key = y2 at *
        generalize B x.value = y3 at *
        have d1 : (wr.alloc (.cells #[.string y1, .string y2, .string y3] 57)).cell? ⟨w.heap.size, 1, none⟩ = some (.string x1) := by rw [← HB.out]; exact D1.out
        clear a0 a1 a2
        go_upto_region 11 with (fail)
        clear d1 e0 e1 e2
        rw [← HB.out]
        have g0 : wB.cell? ⟨wr.heap.size, 0, none⟩ = some (.string y1) := cell_in (o := 0) Hblk.out
        have g1 : wB.cell? ⟨wr.heap.size, 1, none⟩ = some (.string y2) := cell_in (o := 1) Hblk.out
        have g2 : wB.cell? ⟨wr.heap.size, 2, none⟩ = some (.string y3) := cell_in (o := 2) Hblk.out
        have HOS := HOk
        have HBS := Lib.hid (Hb.out.trans (HbB.out.mono Hb.out.size))
        focus
          go_wp2_with (at_builtin; go_must (refine wpList_append_k rfl _ _ 44 rfl 57 i0 _ 3 48 Tryz.underlying44 hi hz0 hz1 hz2 rfl (by omega) _ (by rfl) (by rfl) (w.heap.size + 1) _ _ _ (by rfl) HOS.out (by simp [Value.oneCell']) (by omega) (by omega) (by omega) ?_))
        intro g' cap' w6 hown6 hgrow6 hat hz6 hlt6
        have Hown6 := Lib.hid hown6
        have HB6 := Lib.hid (grown_bel HBS.out HOS.out hgrow6 (by rw [HzA.out]; exact Nat.le_refl _) (by rw [HzA.out]; omega))
        clear hown6 hgrow6 hat hlt6 g0 g1 g2
        go_wp2_with fail
        go_roundw
        case rel => exact ⟨k + 1, _, by omega, by go_num, HI, Lib.hid (own_snoc Hown6.out (by rw [HRl.out]) (HX.out _)), HB6⟩
        case measure => simp [intOf]; omega
    · obtain rfl : k = m := by omega
      have HI := Lib.hid (map_end HF.out Hlen.out)
      go_wp2_with fail
      go_ret2
      rw [HI.out]
      exact ⟨⟨_, rfl, .inl (Hown.out.base (by have := HbA.out.size; omega))⟩, HbA.out.trans (Hb.out.mono HbA.out.size)⟩
end Go.Proofs.YthjcifokmcbaoaaGreatDoor.st
/- The reference's moved of chapter 16. Conditions: at most 50000 pairs. -/
namespace Go.Proofs.YthjcifokmcbaoaaGreatDoor.st
open Go.ChangeShapes Go.WideShapes Go.ChangeAt Go.RowKit gl ls

def movD (l : List Pr) (s : Sp) : List Pr × Int := match idxL l s.table s.key with
    | none => (l, 0)
    | some i => if (idxL l s.table s.to).isSome then ([], 161) else match l[i]? with
      | none => (l, 0)
      | some p => (withL ⟨s.table, s.to, p.value⟩ (if s.kind = 3 then butL l s.table s.key else l), 0)
set_option maxHeartbeats 4000000 in
set_option maxRecDepth 100000 in
theorem refMoved_any (p : Option Addr) (m c : Nat) (l : List Pr) (s : Sp) (hm : m ≤ 50000) (w : World) (h : Prs w (.slice p m c) l) :
    Calls Tryz.prog 131 #[.slice p m c, spA s] w fun e w' => (∃ v, e = .returned (.tuple #[v, .int .i64 (movD l s).2]) ∧ RefP (.slice p m c) w.heap.size w' v (movD l s).1) ∧ Below w.heap.size w w' := by
  obtain ⟨hlen, hmc, hptr⟩ := h.ptr
  unfold spA
  obtain ⟨wA, hA⟩ : ∃ wA, wA = w.alloc (.cells #[.int .i64 s.kind, .string (B s.table), .string (B s.key), .string (B s.to), .string (B s.text)] 42) := ⟨_, rfl⟩
  obtain ⟨hbA, c0, c1, c2, c3, c4⟩ := box1 hA
  have HLA := Lib.hid (h.later hbA)
  have HF1 := Lib.hid (refFind_any p m c l (B s.table) (B s.key) (by omega) wA HLA.out)
  have HF2 := Lib.hid (refFind_any p m c l (B s.table) (B s.to) (by omega) wA HLA.out)
  simp only at HF1 HF2
  have Hlen := Lib.hid hlen
  have HP := Lib.hid hptr
  have HA := Lib.hid hA
  have HbA := Lib.hid hbA
  have C0 := Lib.hid c0
  have C1 := Lib.hid c1
  have C2 := Lib.hid c2
  have C3 := Lib.hid c3
  have HBt := Lib.hid fun (W : World) (hb : Below wA.heap.size wA W) => refBut_any p m c l (B s.table) (B s.key) (by omega) W (HLA.out.later hb)
  simp only at HBt
  have HWt := Lib.hid fun (p' : Option Addr) (m' c' : Nat) (R : List Pr) (v : List UInt8) (hm' : m' ≤ 100000) (W : World) (hR : Prs W (.slice p' m' c') R) => refWith_any p' m' c' R ⟨s.table, s.to, v⟩ hm' W hR
  simp only at HWt
  have HBl := Lib.hid (but_le l s.table s.key)
  clear h hlen hptr hA hbA c0 c1 c2 c3 c4
  cases hx : idxL l s.table s.key with
  | none =>
    have HI : Hid (movD l s = (l, 0)) := Lib.hid (by unfold movD; rw [hx])
    rw [hx, idxI_none] at HF1
    clear hx
    generalize B s.table = x1 at *
    generalize B s.key = x2 at *
    generalize B s.to = x3 at *
    generalize B s.text = x4 at *
    have d1 := C1.out
    have d2 := C2.out
    go_enter Tryz.func131, Tryz.ntmps131
    go_wp2_with fail
    rw [← HA.out]
    refine HF1.out.mono ?_
    rintro e w1 ⟨rfl, rfl⟩
    go_wp2_with fail
    go_ret2
    rw [HI.out]
    exact ⟨⟨_, rfl, .inr ⟨rfl, HLA.out⟩⟩, HbA.out⟩
  | some i =>
    obtain ⟨x, hxi⟩ := idx_at hx
    have hil : i < m := by rw [← Hlen.out]; exact lt_of_at hxi
    rw [hx, idxI_some] at HF1
    have hneg : decide (((i : Nat) : Int) < 0) = false := by rw [decide_eq_false_iff_not]; omega
    cases hy : idxL l s.table s.to with
    | some j =>
      have HI : Hid (movD l s = ([], 161)) := Lib.hid (by unfold movD; rw [hx]; simp only [hy]; rfl)
      rw [hy, idxI_some] at HF2
      have hneg2 : decide ((0 : Int) ≤ ((j : Nat) : Int)) = true := by rw [decide_eq_true_iff]; omega
      clear hx hy hxi
      generalize B s.table = x1 at *
      generalize B s.key = x2 at *
      generalize B s.to = x3 at *
      generalize B s.text = x4 at *
      have d1 := C1.out
      have d2 := C2.out
      have d3 := C3.out
      go_enter Tryz.func131, Tryz.ntmps131
      go_wp2_with fail
      rw [← HA.out]
      refine HF1.out.mono ?_
      rintro e w1 ⟨rfl, rfl⟩
      go_wp2_with fail
      refine HF2.out.mono ?_
      rintro e w1 ⟨rfl, rfl⟩
      go_wp2_with fail
      go_ret2
      rw [HI.out]
      exact ⟨⟨_, rfl, .inl (own_none _ _)⟩, HbA.out⟩
    | none =>
      rw [hy, idxI_none] at HF2
      have hneg2 : decide ((0 : Int) ≤ -1) = false := by decide
      obtain ⟨b, o, rfl, hbl⟩ := HP.out (by omega)
      obtain ⟨e0, e1, e2⟩ := prs_cells HLA.out hxi
      have hbA' : b < wA.heap.size := World.block_lt_of_cell? _ _ e0
      have hwA' : w.heap.size < wA.heap.size := World.block_lt_of_cell? _ _ C1.out
      have hk1 : (i : Int) < (m : Int) := by omega
      have hk2 : (0 : Int) ≤ (i : Int) := by omega
      have HI : Hid (movD l s = (withL ⟨s.table, s.to, x.value⟩ (if s.kind = 3 then butL l s.table s.key else l), 0)) := Lib.hid (by unfold movD; rw [hx]; simp only [hy, hxi]; rfl)
      have HQ := Lib.hid fun p' m' c' R => HWt.out p' m' c' R x.value
      obtain ⟨wB, hB⟩ : ∃ wB, wB = wA.alloc (.cells #[.string (B s.table), .string (B s.to), .string (B x.value)] 57) := ⟨_, rfl⟩
      obtain ⟨hbB, hzB, a0, a1, a2⟩ := box_pr (x := ⟨s.table, s.to, x.value⟩) hB
      have HB := Lib.hid hB
      have HbB := Lib.hid hbB
      have D0 := Lib.hid (cell_then C0.out hbB)
      have D1 := Lib.hid (cell_then C1.out hbB)
      have D2 := Lib.hid (cell_then C2.out hbB)
      have A0 := Lib.hid a0
      have A1 := Lib.hid a1
      have A2 := Lib.hid a2
      simp only at A0 A1 A2
      clear hx hy hxi hB hbB hzB a0 a1 a2
      generalize B x.value = y3 at *
      generalize B s.table = x1 at *
      generalize B s.key = x2 at *
      generalize B s.to = x3 at *
      generalize B s.text = x4 at *
      have d1 := C1.out
      have d2 := C2.out
      have d3 := C3.out
      go_enter Tryz.func131, Tryz.ntmps131
      go_wp2_with fail
      rw [← HA.out]
      refine HF1.out.mono ?_
      rintro e w1 ⟨rfl, rfl⟩
      go_wp2_with fail
      refine HF2.out.mono ?_
      rintro e w1 ⟨rfl, rfl⟩
      go_wp2_with fail
      go_region
      all_goals
        rw [← HB.out]
        obtain ⟨wC, hC⟩ : ∃ wC, wC = wB.drew := ⟨_, rfl⟩
        rw [← hC]
        have g0 : wC.cell? ⟨w.heap.size, 0, none⟩ = some (.int .i64 s.kind) := by rw [hC]; exact D0.out
        have g1 : wC.cell? ⟨w.heap.size, 1, none⟩ = some (.string x1) := by rw [hC]; exact D1.out
        have g2 : wC.cell? ⟨w.heap.size, 2, none⟩ = some (.string x2) := by rw [hC]; exact D2.out
        have f0 : wC.cell? ⟨wA.heap.size, 0, none⟩ = some (.string x1) := by rw [hC]; exact A0.out
        have f1 : wC.cell? ⟨wA.heap.size, 1, none⟩ = some (.string x3) := by rw [hC]; exact A1.out
        have f2 : wC.cell? ⟨wA.heap.size, 2, none⟩ = some (.string y3) := by rw [hC]; exact A2.out
        have HBC : Hid (Below wA.heap.size wA wC) := Lib.hid (by rw [hC]; exact HbB.out.drew)
        clear hC d1 d2 d3 e0 e1 e2
        by_cases hk3 : s.kind = 3
        · have q3 : (s.kind == 3) = true := by rw [beq_iff_eq]; exact hk3
          have HI2 := HI.out
          rw [if_pos hk3] at HI2
          have HJ := Lib.hid HI2
          clear hk3 HI2
          go_wp2_with fail
          refine (HBt.out _ HBC.out).mono ?_
          rintro e w5 ⟨v5, rfl, ho5, hb5⟩
          obtain ⟨p5, c5, rfl⟩ := ho5.prs.form
          have HB5 := Lib.hid (HBC.out.trans (hb5.mono HBC.out.size))
          have f0 := cell_then f0 hb5
          have f1 := cell_then f1 hb5
          have f2 := cell_then f2 hb5
          have HP5 := Lib.hid ho5.prs
          clear hb5 ho5 g0 g1 g2
          go_wp2_with fail
          refine (HQ.out _ _ _ _ (by have := HBl.out; have := Hlen.out; omega) _ HP5.out).mono ?_
          rintro e w6 ⟨v6, rfl, ho6, hb6⟩
          have HB6 := Lib.hid (HB5.out.trans (hb6.mono HB5.out.size))
          have HO6 : Hid (OwnP w.heap.size _ _ _) := Lib.hid (ho6.base (Nat.le_trans HbA.out.size HB5.out.size))
          clear hb6 ho6 f0 f1 f2
          go_wp2_with fail
          go_ret2
          rw [HJ.out]
          exact ⟨⟨_, rfl, .inl HO6.out⟩, HbA.out.trans (HB6.out.mono HbA.out.size)⟩
        · have q3 : (s.kind == 3) = false := by rw [beq_eq_false_iff_ne]; exact hk3
          have HI2 := HI.out
          rw [if_neg hk3] at HI2
          have HJ := Lib.hid HI2
          clear hk3 HI2
          go_wp2_with fail
          refine (HQ.out _ _ _ _ (by omega) _ (HLA.out.later HBC.out)).mono ?_
          rintro e w6 ⟨v6, rfl, ho6, hb6⟩
          have HB6 := Lib.hid (HBC.out.trans (hb6.mono HBC.out.size))
          have HO6 : Hid (OwnP w.heap.size _ _ _) := Lib.hid (ho6.base (Nat.le_trans HbA.out.size HBC.out.size))
          clear hb6 ho6 f0 f1 f2 g0 g1 g2
          go_wp2_with fail
          go_ret2
          rw [HJ.out]
          exact ⟨⟨_, rfl, .inl HO6.out⟩, HbA.out.trans (HB6.out.mono HbA.out.size)⟩
end Go.Proofs.YthjcifokmcbaoaaGreatDoor.st
/- The reference's does and Apply of chapter 16. Conditions: texts of at most 2147483647 bytes, at most 50000 pairs. -/
namespace Go.Proofs.YthjcifokmcbaoaaGreatDoor.st
open Go.ChangeShapes Go.WideShapes Go.ChangeAt Go.RowKit gl ls

theorem does_one {l : List Pr} {s : Sp} (k : s.kind = 1) : doesL l s = if (idxL l s.table s.key).isSome then ([], 161) else (withL ⟨s.table, s.key, s.text⟩ l, 0) := by unfold doesL; rw [if_pos k]
theorem does_two {l : List Pr} {s : Sp} (k : s.kind = 2) : doesL l s = (butL l s.table s.key, 0) := by unfold doesL; rw [if_neg (by omega), if_pos k]
theorem does_four {l : List Pr} {s : Sp} (k : s.kind = 4) : doesL l s = tabD l s.table s.to := by unfold doesL; rw [if_neg (by omega), if_neg (by omega), if_pos k]; rfl
theorem does_five {l : List Pr} {s : Sp} (k : s.kind = 5) : doesL l s = mapD l s.table s.text := by unfold doesL; rw [if_neg (by omega), if_neg (by omega), if_neg (by omega), if_pos k]; rfl
theorem does_else {l : List Pr} {s : Sp} (k1 : ¬ s.kind = 1) (k2 : ¬ s.kind = 2) (k4 : ¬ s.kind = 4) (k5 : ¬ s.kind = 5) : doesL l s = movD l s := by unfold doesL; rw [if_neg k1, if_neg k2, if_neg k4, if_neg k5]; rfl
theorem right_five {s : Sp} (hr : rightL s = true) (k : s.kind = 5) : fnL s.text = true := by
  unfold rightL at hr
  rw [if_neg (by omega), if_neg (by omega), if_neg (by omega), if_neg (by omega), if_pos k] at hr
  simp only [Bool.and_eq_true] at hr
  exact hr.2.2

set_option maxHeartbeats 4000000 in
set_option maxRecDepth 100000 in
theorem refDoes_one (p : Option Addr) (m c : Nat) (l : List Pr) (s : Sp) (k : s.kind = 1) (hm : m ≤ 50000) (w : World) (h : Prs w (.slice p m c) l) :
    Calls Tryz.prog 77 #[.slice p m c, spA s] w fun e w' => (∃ v, e = .returned (.tuple #[v, .int .i64 (doesL l s).2]) ∧ RefP (.slice p m c) w.heap.size w' v (doesL l s).1) ∧ Below w.heap.size w w' := by
  unfold spA
  obtain ⟨wA, hA⟩ : ∃ wA, wA = w.alloc (.cells #[.int .i64 s.kind, .string (B s.table), .string (B s.key), .string (B s.to), .string (B s.text)] 42) := ⟨_, rfl⟩
  obtain ⟨hbA, c0, c1, c2, c3, c4⟩ := box1 hA
  have HLA := Lib.hid (h.later hbA)
  have HA := Lib.hid hA
  have HbA := Lib.hid hbA
  have HF := Lib.hid (refFind_any p m c l (B s.table) (B s.key) (by omega) wA HLA.out)
  have HW := Lib.hid (refWith_any p m c l ⟨s.table, s.key, s.text⟩ (by omega) wA HLA.out)
  simp only at HF HW
  have HD := Lib.hid (does_one (l := l) k)
  rw [k] at c0 HA ⊢
  clear h hA hbA

  clear k
  cases hx : idxL l s.table s.key with
  | some i =>
    have HI : Hid (doesL l s = ([], 161)) := Lib.hid (by rw [HD.out, hx]; rfl)
    rw [hx, idxI_some] at HF
    have hneg2 : decide ((0 : Int) ≤ ((i : Nat) : Int)) = true := by rw [decide_eq_true_iff]; omega
    clear hx
    generalize B s.table = x1 at *
    generalize B s.key = x2 at *
    generalize B s.to = x3 at *
    generalize B s.text = x4 at *
    go_enter Tryz.func77, Tryz.ntmps77
    go_wp2_with fail
    rw [← HA.out]
    go_wp2_with fail
    refine HF.out.mono ?_
    rintro e w1 ⟨rfl, rfl⟩
    go_wp2_with fail
    go_ret2
    rw [HI.out]
    exact ⟨⟨_, rfl, .inl (own_none _ _)⟩, HbA.out⟩
  | none =>
    have HI : Hid (doesL l s = (withL ⟨s.table, s.key, s.text⟩ l, 0)) := Lib.hid (by rw [HD.out, hx]; rfl)
    rw [hx, idxI_none] at HF
    have hneg2 : decide ((0 : Int) ≤ -1) = false := by decide
    clear hx
    generalize B s.table = x1 at *
    generalize B s.key = x2 at *
    generalize B s.to = x3 at *
    generalize B s.text = x4 at *
    go_enter Tryz.func77, Tryz.ntmps77
    go_wp2_with fail
    rw [← HA.out]
    go_wp2_with fail
    refine HF.out.mono ?_
    rintro e w1 ⟨rfl, rfl⟩
    go_wp2_with fail
    refine HW.out.mono ?_
    rintro e w6 ⟨v6, rfl, ho6, hb6⟩
    have HB6 := Lib.hid hb6
    have HO6 : Hid (RefP (.slice p m c) w.heap.size _ _ _) := Lib.hid (.inl (ho6.base HbA.out.size))
    clear hb6 ho6
    go_wp2_with fail
    go_ret2
    rw [HI.out]
    exact ⟨⟨_, rfl, HO6.out⟩, HbA.out.trans (HB6.out.mono HbA.out.size)⟩

set_option maxHeartbeats 4000000 in
set_option maxRecDepth 100000 in
theorem refDoes_two (p : Option Addr) (m c : Nat) (l : List Pr) (s : Sp) (k : s.kind = 2) (hm : m ≤ 50000) (w : World) (h : Prs w (.slice p m c) l) :
    Calls Tryz.prog 77 #[.slice p m c, spA s] w fun e w' => (∃ v, e = .returned (.tuple #[v, .int .i64 (doesL l s).2]) ∧ RefP (.slice p m c) w.heap.size w' v (doesL l s).1) ∧ Below w.heap.size w w' := by
  unfold spA
  obtain ⟨wA, hA⟩ : ∃ wA, wA = w.alloc (.cells #[.int .i64 s.kind, .string (B s.table), .string (B s.key), .string (B s.to), .string (B s.text)] 42) := ⟨_, rfl⟩
  obtain ⟨hbA, c0, c1, c2, c3, c4⟩ := box1 hA
  have HLA := Lib.hid (h.later hbA)
  have HA := Lib.hid hA
  have HbA := Lib.hid hbA
  have HF := Lib.hid (refBut_any p m c l (B s.table) (B s.key) (by omega) wA HLA.out)
  simp only at HF
  have HI := Lib.hid (does_two (l := l) k)
  rw [k] at c0 HA ⊢
  clear h hA hbA
  clear k
  generalize B s.table = x1 at *
  generalize B s.key = x2 at *
  generalize B s.to = x3 at *
  generalize B s.text = x4 at *
  go_enter Tryz.func77, Tryz.ntmps77
  go_wp2_with fail
  rw [← HA.out]
  go_wp2_with fail
  refine HF.out.mono ?_
  rintro e w6 ⟨v6, rfl, ho6, hb6⟩
  have HB6 := Lib.hid hb6
  have HO6 : Hid (RefP (.slice p m c) w.heap.size _ _ _) := Lib.hid (.inl (ho6.base HbA.out.size))
  clear hb6 ho6
  go_wp2_with fail
  go_ret2
  rw [HI.out]
  exact ⟨⟨_, rfl, HO6.out⟩, HbA.out.trans (HB6.out.mono HbA.out.size)⟩

set_option maxHeartbeats 4000000 in
set_option maxRecDepth 100000 in
theorem refDoes_four (p : Option Addr) (m c : Nat) (l : List Pr) (s : Sp) (k : s.kind = 4) (hm : m ≤ 50000) (w : World) (h : Prs w (.slice p m c) l) :
    Calls Tryz.prog 77 #[.slice p m c, spA s] w fun e w' => (∃ v, e = .returned (.tuple #[v, .int .i64 (doesL l s).2]) ∧ RefP (.slice p m c) w.heap.size w' v (doesL l s).1) ∧ Below w.heap.size w w' := by
  unfold spA
  obtain ⟨wA, hA⟩ : ∃ wA, wA = w.alloc (.cells #[.int .i64 s.kind, .string (B s.table), .string (B s.key), .string (B s.to), .string (B s.text)] 42) := ⟨_, rfl⟩
  obtain ⟨hbA, c0, c1, c2, c3, c4⟩ := box1 hA
  have HLA := Lib.hid (h.later hbA)
  have HA := Lib.hid hA
  have HbA := Lib.hid hbA
  have HF := Lib.hid (refTabled_any p m c l s (by omega) wA HLA.out)
  unfold spA at HF
  have HI := Lib.hid (does_four (l := l) k)
  rw [k] at c0 HF HA ⊢
  clear h hA hbA
  clear k
  generalize B s.table = x1 at *
  generalize B s.key = x2 at *
  generalize B s.to = x3 at *
  generalize B s.text = x4 at *
  go_enter Tryz.func77, Tryz.ntmps77
  go_wp2_with fail
  rw [← HA.out]
  go_wp2_with fail
  refine HF.out.mono ?_
  rintro e w6 ⟨⟨v6, rfl, ho6⟩, hb6⟩
  have HB6 := Lib.hid hb6
  have HO6 := Lib.hid (ho6.base HbA.out.size)
  clear hb6 ho6
  go_wp2_with fail
  go_ret2
  rw [HI.out]
  exact ⟨⟨_, rfl, HO6.out⟩, HbA.out.trans (HB6.out.mono HbA.out.size)⟩

set_option maxHeartbeats 4000000 in
set_option maxRecDepth 100000 in
theorem refDoes_five (p : Option Addr) (m c : Nat) (l : List Pr) (s : Sp) (k : s.kind = 5) (hf : fnL s.text = true) (hvs : ∀ x ∈ l, x.value.length ≤ 200) (hm : m ≤ 50000) (w : World) (h : Prs w (.slice p m c) l) :
    Calls Tryz.prog 77 #[.slice p m c, spA s] w fun e w' => (∃ v, e = .returned (.tuple #[v, .int .i64 (doesL l s).2]) ∧ RefP (.slice p m c) w.heap.size w' v (doesL l s).1) ∧ Below w.heap.size w w' := by
  unfold spA
  obtain ⟨wA, hA⟩ : ∃ wA, wA = w.alloc (.cells #[.int .i64 s.kind, .string (B s.table), .string (B s.key), .string (B s.to), .string (B s.text)] 42) := ⟨_, rfl⟩
  obtain ⟨hbA, c0, c1, c2, c3, c4⟩ := box1 hA
  have HLA := Lib.hid (h.later hbA)
  have HA := Lib.hid hA
  have HbA := Lib.hid hbA
  have HF := Lib.hid (refMapped_any p m c l s hf hvs (by omega) wA HLA.out)
  unfold spA at HF
  have HI := Lib.hid (does_five (l := l) k)
  rw [k] at c0 HF HA ⊢
  clear h hA hbA
  clear k hf hvs
  generalize B s.table = x1 at *
  generalize B s.key = x2 at *
  generalize B s.to = x3 at *
  generalize B s.text = x4 at *
  go_enter Tryz.func77, Tryz.ntmps77
  go_wp2_with fail
  rw [← HA.out]
  go_wp2_with fail
  refine HF.out.mono ?_
  rintro e w6 ⟨⟨v6, rfl, ho6⟩, hb6⟩
  have HB6 := Lib.hid hb6
  have HO6 := Lib.hid (ho6.base HbA.out.size)
  clear hb6 ho6
  go_wp2_with fail
  go_ret2
  rw [HI.out]
  exact ⟨⟨_, rfl, HO6.out⟩, HbA.out.trans (HB6.out.mono HbA.out.size)⟩

set_option maxHeartbeats 4000000 in
set_option maxRecDepth 100000 in
theorem refDoes_three (p : Option Addr) (m c : Nat) (l : List Pr) (s : Sp) (k : s.kind = 3) (hm : m ≤ 50000) (w : World) (h : Prs w (.slice p m c) l) :
    Calls Tryz.prog 77 #[.slice p m c, spA s] w fun e w' => (∃ v, e = .returned (.tuple #[v, .int .i64 (doesL l s).2]) ∧ RefP (.slice p m c) w.heap.size w' v (doesL l s).1) ∧ Below w.heap.size w w' := by
  unfold spA
  obtain ⟨wA, hA⟩ : ∃ wA, wA = w.alloc (.cells #[.int .i64 s.kind, .string (B s.table), .string (B s.key), .string (B s.to), .string (B s.text)] 42) := ⟨_, rfl⟩
  obtain ⟨hbA, c0, c1, c2, c3, c4⟩ := box1 hA
  have HLA := Lib.hid (h.later hbA)
  have HA := Lib.hid hA
  have HbA := Lib.hid hbA
  have HF := Lib.hid (refMoved_any p m c l s (by omega) wA HLA.out)
  unfold spA at HF
  have HI := Lib.hid (does_else (l := l) (s := s) (by omega) (by omega) (by omega) (by omega))
  rw [k] at c0 HF HA ⊢
  clear h hA hbA
  clear k
  generalize B s.table = x1 at *
  generalize B s.key = x2 at *
  generalize B s.to = x3 at *
  generalize B s.text = x4 at *
  go_enter Tryz.func77, Tryz.ntmps77
  go_wp2_with fail
  rw [← HA.out]
  go_wp2_with fail
  refine HF.out.mono ?_
  rintro e w6 ⟨⟨v6, rfl, ho6⟩, hb6⟩
  have HB6 := Lib.hid hb6
  have HO6 := Lib.hid (ho6.base HbA.out.size)
  clear hb6 ho6
  go_wp2_with fail
  go_ret2
  rw [HI.out]
  exact ⟨⟨_, rfl, HO6.out⟩, HbA.out.trans (HB6.out.mono HbA.out.size)⟩

set_option maxHeartbeats 4000000 in
set_option maxRecDepth 100000 in
theorem refDoes_six (p : Option Addr) (m c : Nat) (l : List Pr) (s : Sp) (k : s.kind = 6) (hm : m ≤ 50000) (w : World) (h : Prs w (.slice p m c) l) :
    Calls Tryz.prog 77 #[.slice p m c, spA s] w fun e w' => (∃ v, e = .returned (.tuple #[v, .int .i64 (doesL l s).2]) ∧ RefP (.slice p m c) w.heap.size w' v (doesL l s).1) ∧ Below w.heap.size w w' := by
  unfold spA
  obtain ⟨wA, hA⟩ : ∃ wA, wA = w.alloc (.cells #[.int .i64 s.kind, .string (B s.table), .string (B s.key), .string (B s.to), .string (B s.text)] 42) := ⟨_, rfl⟩
  obtain ⟨hbA, c0, c1, c2, c3, c4⟩ := box1 hA
  have HLA := Lib.hid (h.later hbA)
  have HA := Lib.hid hA
  have HbA := Lib.hid hbA
  have HF := Lib.hid (refMoved_any p m c l s (by omega) wA HLA.out)
  unfold spA at HF
  have HI := Lib.hid (does_else (l := l) (s := s) (by omega) (by omega) (by omega) (by omega))
  rw [k] at c0 HF HA ⊢
  clear h hA hbA
  clear k
  generalize B s.table = x1 at *
  generalize B s.key = x2 at *
  generalize B s.to = x3 at *
  generalize B s.text = x4 at *
  go_enter Tryz.func77, Tryz.ntmps77
  go_wp2_with fail
  rw [← HA.out]
  go_wp2_with fail
  refine HF.out.mono ?_
  rintro e w6 ⟨⟨v6, rfl, ho6⟩, hb6⟩
  have HB6 := Lib.hid hb6
  have HO6 := Lib.hid (ho6.base HbA.out.size)
  clear hb6 ho6
  go_wp2_with fail
  go_ret2
  rw [HI.out]
  exact ⟨⟨_, rfl, HO6.out⟩, HbA.out.trans (HB6.out.mono HbA.out.size)⟩

theorem right_kinds {s : Sp} (hr : rightL s = true) : s.kind = 1 ∨ s.kind = 2 ∨ s.kind = 3 ∨ s.kind = 4 ∨ s.kind = 5 ∨ s.kind = 6 := by
  by_cases k1 : s.kind = 1
  · exact .inl k1
  by_cases k2 : s.kind = 2
  · exact .inr (.inl k2)
  by_cases k3 : s.kind = 3 ∨ s.kind = 6
  · rcases k3 with k | k
    · exact .inr (.inr (.inl k))
    · exact .inr (.inr (.inr (.inr (.inr k))))
  by_cases k4 : s.kind = 4
  · exact .inr (.inr (.inr (.inl k4)))
  by_cases k5 : s.kind = 5
  · exact .inr (.inr (.inr (.inr (.inl k5))))
  unfold rightL at hr
  rw [if_neg k1, if_neg k2, if_neg k3, if_neg k4, if_neg k5] at hr
  simp at hr
theorem refDoes_any (p : Option Addr) (m c : Nat) (l : List Pr) (s : Sp) (hr : rightL s = true) (hvs : ∀ x ∈ l, x.value.length ≤ 200) (hm : m ≤ 50000) (w : World) (h : Prs w (.slice p m c) l) :
    Calls Tryz.prog 77 #[.slice p m c, spA s] w fun e w' => (∃ v, e = .returned (.tuple #[v, .int .i64 (doesL l s).2]) ∧ RefP (.slice p m c) w.heap.size w' v (doesL l s).1) ∧ Below w.heap.size w w' := by
  rcases right_kinds hr with k | k | k | k | k | k
  · exact refDoes_one p m c l s k hm w h
  · exact refDoes_two p m c l s k hm w h
  · exact refDoes_three p m c l s k hm w h
  · exact refDoes_four p m c l s k hm w h
  · exact refDoes_five p m c l s k (right_five hr k) hvs hm w h
  · exact refDoes_six p m c l s k hm w h
end Go.Proofs.YthjcifokmcbaoaaGreatDoor.st
/- The reference's Apply of chapter 16 returns what applyL says. Conditions: at most 4294967295 pairs, texts of at most 2147483647 bytes. -/
namespace Go.Proofs.YthjcifokmcbaoaaGreatDoor.st
open Go.ChangeShapes Go.WideShapes Go.ChangeAt Go.RowKit gl ls

theorem right_ref (s : Sp) (h : SpSz s) (w : World) : Calls Tryz.prog 28 #[spA s] w fun e w' => e = .returned (.bool (rightL s)) ∧ Below w.heap.size w w' := by
  have := refRight_any s.kind (B s.table) (B s.key) (B s.to) (B s.text) (by rw [B_size]; exact h.1) (by rw [B_size]; exact h.2.1) (by rw [B_size]; exact h.2.2.1) (by rw [B_size]; exact h.2.2.2) w
  simp only at this
  exact this
theorem may_len' {l : List Pr} (h : mayL l = true) : l.length ≤ 500 := (may_parts h).1
theorem apply_a {l : List Pr} {s : Sp} (h : mayL l = false) : applyL l s = ([], 1) := by unfold applyL; rw [if_neg (by rw [h]; simp)]
theorem apply_b {l : List Pr} {s : Sp} (h : mayL l = true) (h2 : rightL s = false) : applyL l s = ([], 160) := by unfold applyL; rw [if_pos h, if_neg (by rw [h2]; simp)]
theorem apply_c {l : List Pr} {s : Sp} (h : mayL l = true) (h2 : rightL s = true) (h3 : ¬ (doesL l s).2 = 0) : applyL l s = ([], (doesL l s).2) := by unfold applyL; rw [if_pos h, if_pos h2, if_neg h3]
theorem apply_d {l : List Pr} {s : Sp} (h : mayL l = true) (h2 : rightL s = true) (h3 : (doesL l s).2 = 0) (h4 : ¬ (doesL l s).1.length ≤ 500) : applyL l s = ([], 163) := by unfold applyL; rw [if_pos h, if_pos h2, if_pos h3, if_neg h4]
theorem apply_e {l : List Pr} {s : Sp} (h : mayL l = true) (h2 : rightL s = true) (h3 : (doesL l s).2 = 0) (h4 : (doesL l s).1.length ≤ 500) : applyL l s = ((doesL l s).1, 0) := by unfold applyL; rw [if_pos h, if_pos h2, if_pos h3, if_pos h4]
set_option maxHeartbeats 4000000 in
set_option maxRecDepth 100000 in
theorem refApply_any (p : Option Addr) (m c : Nat) (l : List Pr) (s : Sp) (hm : m ≤ 4294967295) (hsz : ∀ x ∈ l, PrSz x) (hs : SpSz s) (w : World) (h : Prs w (.slice p m c) l) :
    Calls Tryz.prog 35 #[.slice p m c, spA s] w fun e w' => (∃ v, e = .returned (.tuple #[v, .int .i64 (applyL l s).2]) ∧ RefP (.slice p m c) w.heap.size w' v (applyL l s).1) ∧ Below w.heap.size w w' := by
  obtain ⟨hlen, _, _⟩ := h.ptr
  obtain ⟨wA, hA⟩ : ∃ wA, wA = w.alloc (.cells #[.int .i64 s.kind, .string (B s.table), .string (B s.key), .string (B s.to), .string (B s.text)] 42) := ⟨_, rfl⟩
  obtain ⟨hbA, c0, c1, c2, c3, c4⟩ := box1 hA
  have HLA := Lib.hid (h.later hbA)
  have HP := Lib.hid (refPairs_any p m c l hm hsz wA HLA.out)
  have HR := Lib.hid fun (W : World) => right_ref s hs W
  have HDo := Lib.hid fun (hr : rightL s = true) (hmay : mayL l = true) (W : World) (hb : Below wA.heap.size wA W) => refDoes_any p m c l s hr (fun x hx => ((may_parts hmay).2.1 x hx).2.2) (by have := may_len' hmay; omega) W (HLA.out.later hb)
  have HA := Lib.hid hA
  have HbA := Lib.hid hbA
  have C0 := Lib.hid c0
  have C1 := Lib.hid c1
  have C2 := Lib.hid c2
  have C3 := Lib.hid c3
  have C4 := Lib.hid c4
  unfold spA at *
  clear h hA hbA c0 c1 c2 c3 c4 hlen hsz hs
  cases hmay : mayL l with
  | false =>
    have HI := Lib.hid (apply_a (s := s) hmay)
    rw [hmay] at HP
    clear hmay HR HDo
    generalize B s.table = x1 at *
    generalize B s.key = x2 at *
    generalize B s.to = x3 at *
    generalize B s.text = x4 at *
    go_enter Tryz.func35, Tryz.ntmps35
    go_wp2_with fail
    rw [← HA.out]
    refine HP.out.mono ?_
    rintro e w1 ⟨rfl, hb1⟩
    have HB1 := Lib.hid hb1
    clear hb1
    go_wp2_with fail
    go_ret2
    rw [HI.out]
    exact ⟨⟨_, rfl, .inl (own_none _ _)⟩, HbA.out.trans (HB1.out.mono HbA.out.size)⟩
  | true =>
    rw [hmay] at HP
    cases hr : rightL s with
    | false =>
      have HI := Lib.hid (apply_b hmay hr)
      rw [hr] at HR
      clear hmay hr HDo
      generalize B s.table = x1 at *
      generalize B s.key = x2 at *
      generalize B s.to = x3 at *
      generalize B s.text = x4 at *
      go_enter Tryz.func35, Tryz.ntmps35
      go_wp2_with fail
      rw [← HA.out]
      refine HP.out.mono ?_
      rintro e w1 ⟨rfl, hb1⟩
      have HB1 := Lib.hid hb1
      have d0 := cell_then C0.out hb1
      have d1 := cell_then C1.out hb1
      have d2 := cell_then C2.out hb1
      have d3 := cell_then C3.out hb1
      have d4 := cell_then C4.out hb1
      clear hb1
      go_wp2_with fail
      refine (HR.out _).mono ?_
      rintro e w2 ⟨rfl, hb2⟩
      have HB2 := Lib.hid (then_bel HB1.out hb2)
      clear hb2 d0 d1 d2 d3 d4
      go_wp2_with fail
      go_ret2
      rw [HI.out]
      exact ⟨⟨_, rfl, .inl (own_none _ _)⟩, HbA.out.trans (HB2.out.mono HbA.out.size)⟩
    | true =>
      have HD1 := Lib.hid (HDo.out hr hmay)
      have HIc := Lib.hid (apply_c hmay hr)
      have HId := Lib.hid (apply_d hmay hr)
      have HIe := Lib.hid (apply_e hmay hr)
      rw [hr] at HR
      clear hmay hr HDo
      obtain ⟨R, E, hRE⟩ : ∃ R E, doesL l s = (R, E) := ⟨_, _, rfl⟩
      rw [hRE] at HD1 HIc HId HIe
      simp only at HD1 HIc HId HIe
      clear hRE
      generalize B s.table = x1 at *
      generalize B s.key = x2 at *
      generalize B s.to = x3 at *
      generalize B s.text = x4 at *
      go_enter Tryz.func35, Tryz.ntmps35
      go_wp2_with fail
      rw [← HA.out]
      refine HP.out.mono ?_
      rintro e w1 ⟨rfl, hb1⟩
      have HB1 := Lib.hid hb1
      have d0 := cell_then C0.out hb1
      have d1 := cell_then C1.out hb1
      have d2 := cell_then C2.out hb1
      have d3 := cell_then C3.out hb1
      have d4 := cell_then C4.out hb1
      clear hb1
      go_wp2_with fail
      refine (HR.out _).mono ?_
      rintro e w2 ⟨rfl, hb2⟩
      have HB2 := Lib.hid (then_bel HB1.out hb2)
      clear hb2 d0 d1 d2 d3 d4
      have d0 := cell_then C0.out HB2.out
      have d1 := cell_then C1.out HB2.out
      have d2 := cell_then C2.out HB2.out
      have d3 := cell_then C3.out HB2.out
      have d4 := cell_then C4.out HB2.out
      go_wp2_with fail
      refine (HD1.out _ HB2.out).mono ?_
      rintro e w3 ⟨⟨v3, rfl, ho3⟩, hb3⟩
      obtain ⟨p3, c3, rfl⟩ := ho3.prs.form
      have HO3 := Lib.hid (ho3.base (Nat.le_trans HbA.out.size HB2.out.size))
      have HB3 := Lib.hid (then_bel HB2.out hb3)
      clear hb3 d0 d1 d2 d3 d4 ho3
      by_cases hE : E = 0
      · subst hE
        by_cases hl : R.length ≤ 500
        · have HI := Lib.hid (HIe.out rfl hl)
          have q1 : decide ((500 : Int) < (R.length : Int)) = false := by rw [decide_eq_false_iff_not]; omega
          have q2 : decide (500 < R.length) = false := by rw [decide_eq_false_iff_not]; omega
          generalize hRl : R.length = rl at *
          clear hRl
          go_wp2_with fail
          go_ret2
          rw [HI.out]
          exact ⟨⟨_, rfl, HO3.out⟩, HbA.out.trans (HB3.out.mono HbA.out.size)⟩
        · have HI := Lib.hid (HId.out rfl hl)
          have q1 : decide ((500 : Int) < (R.length : Int)) = true := by rw [decide_eq_true_iff]; omega
          have q2 : decide (500 < R.length) = true := by rw [decide_eq_true_iff]; omega
          generalize hRl : R.length = rl at *
          clear hRl
          go_wp2_with fail
          go_ret2
          rw [HI.out]
          exact ⟨⟨_, rfl, .inl (own_none _ _)⟩, HbA.out.trans (HB3.out.mono HbA.out.size)⟩
      · have HI := Lib.hid (HIc.out hE)
        have q1 : (E != 0) = true := by rw [bne_iff_ne]; exact hE
        have q2 : (E == 0) = false := by rw [beq_eq_false_iff_ne]; exact hE
        generalize hRl : R.length = rl at *
        clear hE hRl
        go_wp2_with fail
        go_ret2
        rw [HI.out]
        exact ⟨⟨_, rfl, .inl (own_none _ _)⟩, HbA.out.trans (HB3.out.mono HbA.out.size)⟩
end Go.Proofs.YthjcifokmcbaoaaGreatDoor.st
/- package step's Apply where the pairs and the step are right. -/
namespace Go.Proofs.YthjcifokmcbaoaaGreatDoor.st
open Go.ChangeShapes Go.WideShapes Go.ChangeAt Go.RowKit gl ls

def S5 (b : Nat) (x0 x1 x2 x3 x4 : Value) (w0 wp : World) : Prop := wp.cell? ⟨b, 0, none⟩ = some x0 ∧ wp.cell? ⟨b, 1, none⟩ = some x1 ∧ wp.cell? ⟨b, 2, none⟩ = some x2 ∧ wp.cell? ⟨b, 3, none⟩ = some x3 ∧ wp.cell? ⟨b, 4, none⟩ = some x4 ∧ Hid (Below w0.heap.size w0 wp)
theorem s5_of {w0 w' : World} {b : Nat} {x0 x1 x2 x3 x4 : Value} (h0 : w0.cell? ⟨b, 0, none⟩ = some x0) (h1 : w0.cell? ⟨b, 1, none⟩ = some x1) (h2 : w0.cell? ⟨b, 2, none⟩ = some x2) (h3 : w0.cell? ⟨b, 3, none⟩ = some x3) (h4 : w0.cell? ⟨b, 4, none⟩ = some x4) (hb : Below w0.heap.size w0 w') :
    w'.cell? ⟨b, 0, none⟩ = some x0 ∧ w'.cell? ⟨b, 1, none⟩ = some x1 ∧ w'.cell? ⟨b, 2, none⟩ = some x2 ∧ w'.cell? ⟨b, 3, none⟩ = some x3 ∧ w'.cell? ⟨b, 4, none⟩ = some x4 ∧ Hid (Below w0.heap.size w0 w') :=
  ⟨cell_then h0 hb, cell_then h1 hb, cell_then h2 hb, cell_then h3 hb, cell_then h4 hb, Lib.hid hb⟩
theorem s5_bel {w0 wp : World} {b : Nat} {x0 x1 x2 x3 x4 : Value} (h : wp.cell? ⟨b, 0, none⟩ = some x0 ∧ wp.cell? ⟨b, 1, none⟩ = some x1 ∧ wp.cell? ⟨b, 2, none⟩ = some x2 ∧ wp.cell? ⟨b, 3, none⟩ = some x3 ∧ wp.cell? ⟨b, 4, none⟩ = some x4 ∧ Hid (Below w0.heap.size w0 wp)) : Hid (Below w0.heap.size w0 wp) := h.2.2.2.2.2
theorem s5_at {w0 wp w' : World} {b : Nat} {x0 x1 x2 x3 x4 : Value} (_hb : Below wp.heap.size wp w') (h : wp.cell? ⟨b, 0, none⟩ = some x0 ∧ wp.cell? ⟨b, 1, none⟩ = some x1 ∧ wp.cell? ⟨b, 2, none⟩ = some x2 ∧ wp.cell? ⟨b, 3, none⟩ = some x3 ∧ wp.cell? ⟨b, 4, none⟩ = some x4 ∧ Hid (Below w0.heap.size w0 wp)) : Hid (Below w0.heap.size w0 wp) := h.2.2.2.2.2
theorem new_parts {M : Nat} {w : World} {v : Value} {l : List Pr} (h : NewPrs M w v l) : (l = [] ∧ v = .slice none 0 0) ∨ ∃ g c, v = .slice (some ⟨g, 0, none⟩) l.length c ∧ M ≤ g ∧ LiesP g c w l := by
  rcases h with h | ⟨g, c, cs, h1, h2, h3, h4, h5, h6⟩
  · exact .inl h
  · exact .inr ⟨g, c, h1, h3, cs, h4, h2, h5, h6⟩
set_option maxHeartbeats 8000000 in
set_option maxRecDepth 100000 in
theorem apply_do (p : Option Addr) (m c : Nat) (l : List Pr) (s : Sp) (hsz : ∀ x ∈ l, PrSz x) (hs : SpSz s) (hn : mayL l = true) (hr : rightL s = true) (w : World) (hS : Slo w) (h : Prs w (.slice p m c) l) :
    Calls Tryz.prog 33 #[.slice p m c, spA s] w fun e w' => (∃ v, e = .returned (.tuple #[v, .int .i64 (applyL l s).2]) ∧ NewPrs w.heap.size w' v (applyL l s).1) ∧ Below w.heap.size w w' := by
  have hl5 := may_len' hn
  obtain ⟨hlen, hmc, hptr⟩ := h.ptr
  have HR := Lib.hid fun (W : World) (hW : Slo W) => right_sp s hs W hW
  rw [hr] at HR
  have Hap := Lib.hid (apply_made hn hr)
  obtain ⟨wA, hA⟩ : ∃ wA, wA = w.alloc (.cells #[.int .i64 s.kind, .string (B s.table), .string (B s.key), .string (B s.to), .string (B s.text)] 42) := ⟨_, rfl⟩
  obtain ⟨hbA, c0, c1, c2, c3, c4⟩ := box1 hA
  have HM := Lib.hid (may_any p m c l (by omega) hsz wA (hS.later hbA) (h.later hbA))
  have HSl := Lib.hid fun (W : World) (hb : Below wA.heap.size wA W) => (hS.later hbA).later hb
  have HPr := Lib.hid fun (W : World) (hb : Below wA.heap.size wA W) => (h.later hbA).later hb
  rw [hn] at HM
  have HC := Lib.hid fun (W : World) (hb : Below wA.heap.size wA W) => clone_own p m c l (by omega) W (HPr.out W hb)
  have HD := Lib.hid fun (W1 W : World) (v : Value) (a1 : Below wA.heap.size wA W1) (a2 : Below W1.heap.size W1 W) (a4 : OwnP W1.heap.size W v l) => made_any W1.heap.size v l s hr (by omega) (fun x hx => (hsz x hx).2.2) W W1 (HSl.out W1 a1) (Nat.le_refl _) a2 a2.size a4
  have HA := Lib.hid hA
  have HbA := Lib.hid hbA
  have C0 := Lib.hid c0
  have C1 := Lib.hid c1
  have C2 := Lib.hid c2
  have C3 := Lib.hid c3
  have C4 := Lib.hid c4
  have hlA := World.block_lt_of_cell? _ _ c0
  unfold spA at *
  clear hA hbA c0 c1 c2 c3 c4 h hS hn hr hs hsz hptr hlen
  generalize B s.table = x1 at *
  generalize B s.key = x2 at *
  generalize B s.to = x3 at *
  generalize B s.text = x4 at *
  go_enter Tryz.func33, Tryz.ntmps33
  go_wp2_with fail
  rw [← HA.out]
  refine HM.out.mono ?_
  rintro e w1 ⟨rfl, hb1⟩
  have HB1 := Lib.hid hb1
  have d0 := cell_then C0.out hb1
  have d1 := cell_then C1.out hb1
  have d2 := cell_then C2.out hb1
  have d3 := cell_then C3.out hb1
  have d4 := cell_then C4.out hb1
  clear hb1
  go_wp2_with fail
  refine (HR.out _ (HSl.out _ HB1.out)).mono ?_
  rintro e w2 ⟨rfl, hb2⟩
  have HB2 := Lib.hid (then_bel HB1.out hb2)
  clear hb2 d0 d1 d2 d3 d4
  have d0 := cell_then C0.out HB2.out
  have d1 := cell_then C1.out HB2.out
  have d2 := cell_then C2.out HB2.out
  have d3 := cell_then C3.out HB2.out
  have d4 := cell_then C4.out HB2.out
  have HC' := Lib.hid fun (W : World) (hb : Hid (Below w2.heap.size w2 W)) => HC.out W (then_bel HB2.out hb.out)
  have HD' := Lib.hid fun (W1 W : World) (v : Value) (a4 : Hid (OwnP W1.heap.size W v l)) (a2 : Hid (Below W1.heap.size W1 W)) (a1 : Hid (Below w2.heap.size w2 W1)) =>
    (HD.out W1 W v (then_bel HB2.out a1.out) a2.out a4.out).mono (R' := fun e w' => ∃ v', e = .returned (.tuple #[v', .int .i64 (madeL l s).2]) ∧ NewPrs w2.heap.size w' v' (madeL l s).1 ∧ Below w2.heap.size w2 w') (by
      rintro e w' ⟨⟨v', he, hnew⟩, hb⟩
      exact ⟨v', he, hnew.mono a1.out.size, (then_bel a1.out a2.out).trans (hb.mono a1.out.size)⟩)
  clear HC HD
  have hSt := s5_of d0 d1 d2 d3 d4 (Below.refl _ w2)
  go_wp2_with fail
  go_region_held3 (fun w' => w'.cell? ⟨w.heap.size, 0, none⟩ = some (.int .i64 s.kind) ∧ w'.cell? ⟨w.heap.size, 1, none⟩ = some (.string x1) ∧ w'.cell? ⟨w.heap.size, 2, none⟩ = some (.string x2) ∧ w'.cell? ⟨w.heap.size, 3, none⟩ = some (.string x3) ∧ w'.cell? ⟨w.heap.size, 4, none⟩ = some (.string x4) ∧ Hid (Below w2.heap.size w2 w'))
    (first | assumption | (with_reducible exact s5_drew (by assumption)))
    (first
      | ((go_at_call 72; (with_reducible refine Calls.mono (HC'.out _ (s5_bel (by assumption))) ?_); rintro e w' ⟨v1, rfl, ho, hb⟩; have hS' := s5_of d0 d1 d2 d3 d4 (then_bel (s5_bel (by assumption)).out hb); have Hb0 := s5_at hb (by assumption); have Ho := Lib.hid ho; have Hb5 := Lib.hid hb; clear ho hb))
      | ((go_at_call 71; (with_reducible refine Calls.mono (HD'.out _ _ _ (by assumption) (by assumption) (by assumption)) ?_); rintro e w' ⟨v2, rfl, hnew, hb⟩; have hS' := s5_of d0 d1 d2 d3 d4 hb; have Hnew := Lib.hid hnew; clear hnew hb)))
  all_goals
    rename_i hH
    have HB3 := Lib.hid (then_bel HB2.out (s5_bel hH).out)
    have HzA := Lib.hid (Nat.le_trans HbA.out.size HB2.out.size)
    clear hH hSt d0 d1 d2 d3 d4 hS' Ho Hb5 Hb0 HC' HD' HR HM HSl HPr
    obtain ⟨R, E, hRE⟩ : ∃ R E, madeL l s = (R, E) := ⟨_, _, rfl⟩
    rw [hRE] at Hap Hnew ⊢
    simp only at Hap Hnew ⊢
    clear hRE
    by_cases hE : E = 0
    · subst hE
      by_cases hl : R.length ≤ 500
      · have hap : (applyL l s).2 = 0 ∧ R.Perm (applyL l s).1 ∧ Asc (applyL l s).1 := by
          rcases Hap.out with ⟨h, _⟩ | ⟨_, h, _⟩ | ⟨_, _, h1, h2, h3⟩
          · exact absurd rfl h
          · omega
          · exact ⟨h1, h2, h3⟩
        obtain ⟨T, e2, hT⟩ : ∃ T e2, applyL l s = (T, e2) := ⟨_, _, rfl⟩
        rw [hT] at hap
        simp only at hap
        obtain ⟨rfl, hp, hasc⟩ := hap
        have HTe := Lib.hid hT
        have Hp := Lib.hid hp
        have Hasc := Lib.hid hasc
        rcases new_parts Hnew.out with ⟨rfl, rfl⟩ | ⟨g, cg, rfl, hMg, hL⟩
        · have HT : Hid (T = []) := Lib.hid (List.nil_perm.1 hp)
          have HSo := Lib.hid (sort_none none 0)
          have HCl := Lib.hid (clip_any none 0 0 (Nat.le_refl _) (by omega))
          clear Hap hT hp hasc Hp Hasc Hnew
          go_wp2_with fail
          refine (HSo.out _ _).mono ?_
          rintro e w7 ⟨rfl, rfl⟩
          go_wp2_with fail
          refine (HCl.out _).mono ?_
          rintro e w7 ⟨rfl, rfl⟩
          go_wp2_with fail
          go_ret2
          rw [HTe.out, HT.out]
          exact ⟨⟨_, rfl, .inl ⟨rfl, rfl⟩⟩, HbA.out.trans (HB3.out.mono HbA.out.size)⟩
        · have HSo := Lib.hid (sort_lies g cg R T hp hasc (by omega) _ hL)
          have hcg : R.length ≤ cg := by obtain ⟨_, _, h2, _⟩ := hL; exact h2
          have HCl := Lib.hid (clip_any (some ⟨g, 0, none⟩) R.length cg hcg (by omega))
          have HTl : Hid (T.length = R.length) := Lib.hid hp.length_eq.symm
          have q1 : decide ((500 : Int) < (R.length : Int)) = false := by rw [decide_eq_false_iff_not]; omega
          have q2 : decide (500 < R.length) = false := by rw [decide_eq_false_iff_not]; omega
          clear Hap hT hp hasc Hp Hasc Hnew hL
          generalize hRl : R.length = rl at *
          clear hRl hl hcg
          go_wp2_with fail
          refine HSo.out.mono ?_
          rintro e w7 ⟨rfl, hL7, hb7⟩
          have HL7 := Lib.hid hL7
          have Hb7 := Lib.hid (hb7 _ hMg)
          clear hL7 hb7
          go_wp2_with fail
          refine (HCl.out _).mono ?_
          rintro e w8 ⟨rfl, rfl⟩
          go_wp2_with fail
          go_ret2
          rw [HTe.out]
          refine ⟨⟨_, rfl, ?_⟩, HbA.out.trans ((HB3.out.mono HbA.out.size).trans (Hb7.out.mono HzA.out))⟩
          have := (HL7.out.new hMg).mono HzA.out
          rw [HTl.out] at this
          have h2 := rw.NewRw.clip this
          exact h2
      · have HI : Hid (applyL l s = ([], 163)) := Lib.hid (by
          rcases Hap.out with ⟨h, _⟩ | ⟨_, _, h⟩ | ⟨_, h, _⟩
          · exact absurd rfl h
          · exact h
          · exact absurd h hl)
        obtain ⟨p2, c2', hv2⟩ := Hnew.out.form
        subst hv2
        have q1 : decide ((500 : Int) < (R.length : Int)) = true := by rw [decide_eq_true_iff]; omega
        have q2 : decide (500 < R.length) = true := by rw [decide_eq_true_iff]; omega
        clear Hap Hnew
        generalize hRl : R.length = rl at *
        clear hRl hl
        go_wp2_with fail
        go_ret2
        rw [HI.out]
        exact ⟨⟨_, rfl, .inl ⟨rfl, rfl⟩⟩, HbA.out.trans (HB3.out.mono HbA.out.size)⟩
    · have HI : Hid (applyL l s = ([], E)) := Lib.hid (by
        rcases Hap.out with ⟨_, h⟩ | ⟨h, _⟩ | ⟨h, _⟩
        · exact h
        · exact absurd h hE
        · exact absurd h hE)
      obtain ⟨p2, c2', hv2⟩ := Hnew.out.form
      subst hv2
      have q1 : (E != 0) = true := by rw [bne_iff_ne]; exact hE
      have q2 : (E == 0) = false := by rw [beq_eq_false_iff_ne]; exact hE
      clear Hap Hnew hE
      generalize hRl : R.length = rl at *
      clear hRl
      go_wp2_with fail
      go_ret2
      rw [HI.out]
      exact ⟨⟨_, rfl, .inl ⟨rfl, rfl⟩⟩, HbA.out.trans (HB3.out.mono HbA.out.size)⟩
theorem Apply_any (p : Option Addr) (m c : Nat) (l : List Pr) (s : Sp) (hm : m ≤ 4294967295) (hsz : ∀ x ∈ l, PrSz x) (hs : SpSz s) (w : World) (hS : Slo w) (h : Prs w (.slice p m c) l) :
    Calls Tryz.prog 33 #[.slice p m c, spA s] w fun e w' => (∃ v, e = .returned (.tuple #[v, .int .i64 (applyL l s).2]) ∧ NewPrs w.heap.size w' v (applyL l s).1) ∧ Below w.heap.size w w' := by
  cases hmay : mayL l with
  | false =>
    refine (apply_not p m c l s hm hsz hmay w hS h).mono ?_
    rintro e w' ⟨rfl, hb⟩
    rw [apply_a hmay]
    exact ⟨⟨_, rfl, .inl ⟨rfl, rfl⟩⟩, hb⟩
  | true =>
    cases hr : rightL s with
    | false =>
      refine (apply_wrong p m c l s hm hsz hs hmay hr w hS h).mono ?_
      rintro e w' ⟨rfl, hb⟩
      rw [apply_b hmay hr]
      exact ⟨⟨_, rfl, .inl ⟨rfl, rfl⟩⟩, hb⟩
    | true => exact apply_do p m c l s hsz hs hmay hr w hS h
end Go.Proofs.YthjcifokmcbaoaaGreatDoor.st
/- law 16: addsUp, stepWeighs, pairsWeigh, stepsWeigh: what weighs little has short texts. Conditions: lists of at most 9223372036854775807 elements. -/
namespace Go.Proofs.YthjcifokmcbaoaaGreatDoor.st
open Go.ChangeShapes Go.WideShapes Go.ChangeAt Go.RowKit gl ls

def addU (n m : Int) : Int := if 2147483647 < n ∨ 2147483647 < m then 2147483648 else ((n.toNat + m.toNat : Nat) : Int)
theorem addU_nn (n m : Int) : 0 ≤ addU n m := by unfold addU; split <;> omega
theorem addU_bd (n m : Int) : addU n m ≤ 4294967294 := by unfold addU; split <;> omega
theorem addU_parts {n m : Int} (h : addU n m ≤ 2147483647) : n ≤ 2147483647 ∧ m ≤ 2147483647 := by
  unfold addU at h
  split at h
  · omega
  · omega
theorem addsUp_any (n m : Int) (w : World) (hn : 0 ≤ n) (hm : 0 ≤ m) : Calls Tryz.prog 29 #[.int .i64 n, .int .i64 m] w fun e w' => e = .returned (.int .i64 (addU n m)) ∧ w' = w := by
  by_cases h1 : 2147483647 < n
  · have H : Hid (addU n m = 2147483648) := Lib.hid (by unfold addU; rw [if_pos (.inl h1)])
    have d1 : decide (2147483647 < n) = true := by rw [decide_eq_true_iff]; exact h1
    go_enter Tryz.func29, Tryz.ntmps29
    go_wp2_with fail
    go_ret
    rw [H.out]
    exact ⟨rfl, rfl⟩
  · have d1 : decide (2147483647 < n) = false := by rw [decide_eq_false_iff_not]; exact h1
    by_cases h2 : 2147483647 < m
    · have H : Hid (addU n m = 2147483648) := Lib.hid (by unfold addU; rw [if_pos (.inr h2)])
      have d2 : decide (2147483647 < m) = true := by rw [decide_eq_true_iff]; exact h2
      go_enter Tryz.func29, Tryz.ntmps29
      go_wp2_with fail
      go_ret
      rw [H.out]
      exact ⟨rfl, rfl⟩
    · have H : Hid (addU n m = n + m) := Lib.hid (by unfold addU; rw [if_neg (by omega)]; omega)
      have d2 : decide (2147483647 < m) = false := by rw [decide_eq_false_iff_not]; exact h2
      have h3 : n ≤ 2147483647 := by omega
      have h4 : m ≤ 2147483647 := by omega
      clear h1 h2
      go_enter Tryz.func29, Tryz.ntmps29
      go_wp2_with fail
      go_ret
      rw [H.out]
      exact ⟨rfl, rfl⟩
def stepW (s : Sp) : Int := addU (addU (s.table.length : Int) (s.key.length : Int)) (addU (s.to.length : Int) (s.text.length : Int))
theorem stepW_sz {s : Sp} (h : stepW s ≤ 2147483647) : SpSz s := by
  obtain ⟨h1, h2⟩ := addU_parts h
  obtain ⟨h3, h4⟩ := addU_parts h1
  obtain ⟨h5, h6⟩ := addU_parts h2
  exact ⟨by omega, by omega, by omega, by omega⟩
set_option maxHeartbeats 2000000 in
set_option maxRecDepth 100000 in
theorem stepWeighs_any (s : Sp) (w : World) : Calls Tryz.prog 31 #[spA s] w fun e w' => e = .returned (.int .i64 (stepW s)) ∧ Below w.heap.size w w' := by
  unfold spA
  have HI : Hid (stepW s = addU (addU ((B s.table).size : Int) ((B s.key).size : Int)) (addU ((B s.to).size : Int) ((B s.text).size : Int))) := Lib.hid (by rw [B_size, B_size, B_size, B_size]; rfl)
  generalize stepW s = R at *
  generalize B s.table = x1 at *
  generalize B s.key = x2 at *
  generalize B s.to = x3 at *
  generalize B s.text = x4 at *
  go_enter Tryz.func31, Tryz.ntmps31
  go_wp2_with fail
  go_quiet ((go_at_call 29; exact Calls.quiet_of_same (addsUp_any _ _ _ (by first | omega | exact addU_nn _ _) (by first | omega | exact addU_nn _ _))))
  go_wp2_with fail
  go_ret
  rw [HI.out]
  exact ⟨rfl, ((Below.refl _ _).alloc (Nat.le_refl _) _).trans ((drewN_bel _ _).mono (by simp))⟩
def WPr (l : List Pr) (N : Int) : Prop := 0 ≤ N ∧ N ≤ 4294967294 ∧ (N ≤ 2147483647 → l.length ≤ 2147483647 ∧ ∀ x ∈ l, PrSz x)
def WPrTo (l : List Pr) (k : Nat) (N : Int) : Prop := N ≤ 2147483647 → l.length ≤ 2147483647 ∧ ∀ (j : Nat) (x : Pr), j < k → l[j]? = some x → PrSz x
theorem WPrTo.next {l : List Pr} {k : Nat} {N : Int} {x : Pr} (h : WPrTo l k N) (hx : l[k]? = some x) : WPrTo l (k + 1) (addU N (addU ((B x.table).size : Int) (addU ((B x.key).size : Int) ((B x.value).size : Int)))) := by
  intro hN
  obtain ⟨h1, h2⟩ := addU_parts hN
  obtain ⟨h3, h4⟩ := addU_parts h2
  obtain ⟨h5, h6⟩ := addU_parts h4
  rw [B_size] at h3 h5 h6
  refine ⟨(h h1).1, fun j y hj hy => ?_⟩
  rcases Nat.lt_or_ge j k with h7 | h7
  · exact (h h1).2 j y h7 hy
  · obtain rfl : j = k := by omega
    rw [hx] at hy
    obtain rfl := Option.some.inj hy
    exact ⟨by omega, by omega, by omega⟩
theorem WPrTo.done {l : List Pr} {k : Nat} {N : Int} (h : WPrTo l k N) (hk : l.length ≤ k ∨ 2147483647 < N) (h0 : 0 ≤ N) (h1 : N ≤ 4294967294) : WPr l N := by
  refine ⟨h0, h1, fun hN => ⟨(h hN).1, fun x hx => ?_⟩⟩
  obtain ⟨j, hj⟩ := List.mem_iff_getElem?.1 hx
  exact (h hN).2 j x (by have := lt_of_at hj; omega) hj
set_option maxHeartbeats 4000000 in
set_option maxRecDepth 100000 in
theorem pairsWeigh_any (p : Option Addr) (m c : Nat) (l : List Pr) (hm : m ≤ 9223372036854775807) (w : World) (h : Prs w (.slice p m c) l) :
    Calls Tryz.prog 30 #[.slice p m c] w fun e w' => (∃ N : Int, e = .returned (.int .i64 N) ∧ WPr l N) ∧ Below w.heap.size w w' := by
  obtain ⟨hlen, hmc, hptr⟩ := h.ptr
  have HL := Lib.hid h
  have Hlen := Lib.hid hlen
  have HP := Lib.hid hptr
  have HA0 := Lib.hid (addsUp_any 0 (m : Int) w (by omega) (by omega))
  have H0 : Hid (WPrTo l 0 (addU 0 (m : Int))) := Lib.hid (fun hN => ⟨by have := addU_parts hN; omega, fun j x hj => by omega⟩)
  have hb0 := addU_nn 0 (m : Int)
  have hb1 := addU_bd 0 (m : Int)
  clear h hlen hptr
  generalize addU 0 (m : Int) = N0 at *
  go_enter Tryz.func30, Tryz.ntmps30
  go_wp2_with fail
  refine HA0.out.mono ?_
  rintro e w1 ⟨rfl, hw⟩
  obtain rfl : w = w1 := hw.symm
  go_wp2_with fail
  go_loopw [3, 4] (fun v i wr => ∃ (k : Nat) (N : Int), k ≤ m ∧ i = .int .i64 k ∧ v = .int .i64 N ∧ 0 ≤ N ∧ N ≤ 4294967294 ∧ Hid (WPrTo l k N) ∧ Hid (Below w.heap.size w wr)) (fun _ i _ => m - (intOf i).toNat)
  case atStart => exact ⟨0, _, by omega, rfl, rfl, hb0, hb1, H0, Lib.hid (Below.refl _ _)⟩
  case round =>
    obtain ⟨k, N, hk, rfl, rfl, hN0, hN1, HW, Hb⟩ := hrel
    by_cases hlt : k < m
    · have q1 : decide ((k : Int) < (m : Int)) = true := by rw [decide_eq_true_iff]; omega
      have q2 : decide (k < m) = true := by rw [decide_eq_true_iff]; omega
      by_cases hNb : N ≤ 2147483647
      · have q3 : decide (N ≤ 2147483647) = true := by rw [decide_eq_true_iff]; omega
        obtain ⟨b, o, rfl, hbl⟩ := HP.out (by omega)
        obtain ⟨x, hx⟩ : ∃ x, l[k]? = some x := ⟨_, List.getElem?_eq_getElem (by rw [Hlen.out]; exact hlt)⟩
        obtain ⟨e0, e1, e2⟩ := prs_cells (HL.out.later Hb.out) hx
        have hki : (k : Int) < (m : Int) := by omega
        have hk5 : (0 : Int) ≤ (k : Int) := by omega
        have HX := Lib.hid (HW.out.next hx)
        clear hx
        generalize B x.table = y1 at *
        generalize B x.key = y2 at *
        generalize B x.value = y3 at *
        go_wp2_with fail
        go_quiet ((go_at_call 29; exact Calls.quiet_of_same (addsUp_any _ _ _ (by first | omega | exact addU_nn _ _) (by first | omega | exact addU_nn _ _))))
        go_wp2_with fail
        go_roundw
        case rel => exact ⟨k + 1, _, by omega, by go_num, rfl, addU_nn _ _, addU_bd _ _, HX, Lib.hid (Hb.out.trans ((drewN_bel _ _).mono Hb.out.size))⟩
        case measure => simp [intOf]; omega
      · have q3 : decide (N ≤ 2147483647) = false := by rw [decide_eq_false_iff_not]; omega
        go_wp2_with fail
        go_ret
        exact ⟨⟨_, rfl, HW.out.done (.inr (by omega)) hN0 hN1⟩, Hb.out⟩
    · have q1 : decide ((k : Int) < (m : Int)) = false := by rw [decide_eq_false_iff_not]; omega
      have q2 : decide (k < m) = false := by rw [decide_eq_false_iff_not]; omega
      go_wp2_with fail
      go_ret
      exact ⟨⟨_, rfl, HW.out.done (.inl (by rw [Hlen.out]; omega)) hN0 hN1⟩, Hb.out⟩
def WSp (l : List Sp) (N : Int) : Prop := 0 ≤ N ∧ N ≤ 4294967294 ∧ (N ≤ 2147483647 → l.length ≤ 2147483647 ∧ ∀ x ∈ l, SpSz x)
def WSpTo (l : List Sp) (k : Nat) (N : Int) : Prop := N ≤ 2147483647 → l.length ≤ 2147483647 ∧ ∀ (j : Nat) (x : Sp), j < k → l[j]? = some x → SpSz x
theorem WSpTo.next {l : List Sp} {k : Nat} {N : Int} {x : Sp} (h : WSpTo l k N) (hx : l[k]? = some x) : WSpTo l (k + 1) (addU N (addU 300000 (stepW x))) := by
  intro hN
  obtain ⟨h1, h2⟩ := addU_parts hN
  obtain ⟨_, h4⟩ := addU_parts h2
  refine ⟨(h h1).1, fun j y hj hy => ?_⟩
  rcases Nat.lt_or_ge j k with h7 | h7
  · exact (h h1).2 j y h7 hy
  · obtain rfl : j = k := by omega
    rw [hx] at hy
    obtain rfl := Option.some.inj hy
    exact stepW_sz h4
theorem WSpTo.done {l : List Sp} {k : Nat} {N : Int} (h : WSpTo l k N) (hk : l.length ≤ k ∨ 2147483647 < N) (h0 : 0 ≤ N) (h1 : N ≤ 4294967294) : WSp l N := by
  refine ⟨h0, h1, fun hN => ⟨(h hN).1, fun x hx => ?_⟩⟩
  obtain ⟨j, hj⟩ := List.mem_iff_getElem?.1 hx
  exact (h hN).2 j x (by have := lt_get hj; omega) hj
set_option maxHeartbeats 4000000 in
set_option maxRecDepth 100000 in
theorem stepsWeigh_any (p : Option Addr) (m c : Nat) (l : List Sp) (hm : m ≤ 9223372036854775807) (w : World) (h : Sps w (.slice p m c) l) :
    Calls Tryz.prog 25 #[.slice p m c] w fun e w' => (∃ N : Int, e = .returned (.int .i64 N) ∧ WSp l N) ∧ Below w.heap.size w w' := by
  obtain ⟨hlen, hmc, hptr⟩ := h.ptr
  have HL := Lib.hid h
  have Hlen := Lib.hid hlen
  have HP := Lib.hid hptr
  have HA0 := Lib.hid (addsUp_any 0 (m : Int) w (by omega) (by omega))
  have H0 : Hid (WSpTo l 0 (addU 0 (m : Int))) := Lib.hid (fun hN => ⟨by have := addU_parts hN; omega, fun j x hj => by omega⟩)
  have hb0 := addU_nn 0 (m : Int)
  have hb1 := addU_bd 0 (m : Int)
  have HSW := Lib.hid fun (x : Sp) W => stepWeighs_any x W
  unfold spA at HSW
  have HSn : Hid (∀ x : Sp, 0 ≤ stepW x) := Lib.hid fun x => addU_nn _ _
  clear h hlen hptr
  generalize addU 0 (m : Int) = N0 at *
  go_enter Tryz.func25, Tryz.ntmps25
  go_wp2_with fail
  refine HA0.out.mono ?_
  rintro e w1 ⟨rfl, hw⟩
  obtain rfl : w = w1 := hw.symm
  go_wp2_with fail
  go_loopw [3, 4] (fun v i wr => ∃ (k : Nat) (N : Int), k ≤ m ∧ i = .int .i64 k ∧ v = .int .i64 N ∧ 0 ≤ N ∧ N ≤ 4294967294 ∧ Hid (WSpTo l k N) ∧ Hid (Below w.heap.size w wr)) (fun _ i _ => m - (intOf i).toNat)
  case atStart => exact ⟨0, _, by omega, rfl, rfl, hb0, hb1, H0, Lib.hid (Below.refl _ _)⟩
  case round =>
    obtain ⟨k, N, hk, rfl, rfl, hN0, hN1, HW, Hb⟩ := hrel
    by_cases hlt : k < m
    · have q1 : decide ((k : Int) < (m : Int)) = true := by rw [decide_eq_true_iff]; omega
      have q2 : decide (k < m) = true := by rw [decide_eq_true_iff]; omega
      by_cases hNb : N ≤ 2147483647
      · have q3 : decide (N ≤ 2147483647) = true := by rw [decide_eq_true_iff]; omega
        obtain ⟨b, o, rfl, hbl⟩ := HP.out (by omega)
        obtain ⟨x, hx⟩ : ∃ x, l[k]? = some x := ⟨_, List.getElem?_eq_getElem (by rw [Hlen.out]; exact hlt)⟩
        obtain ⟨e0, e1, e2, e3, e4⟩ := sps_cells (HL.out.later Hb.out) hx
        have hki : (k : Int) < (m : Int) := by omega
        have hk5 : (0 : Int) ≤ (k : Int) := by omega
        have HX := Lib.hid (HW.out.next hx)
        have HQ := Lib.hid (HSW.out x)
        have hq0 := HSn.out x
        clear hx
        generalize stepW x = sw at *
        generalize B x.table = y1 at *
        generalize B x.key = y2 at *
        generalize B x.to = y3 at *
        generalize B x.text = y4 at *
        go_wp2_with fail
        refine (HQ.out _).mono ?_
        rintro e w2 ⟨rfl, hb2⟩
        have HB2 := Lib.hid (Hb.out.trans (hb2.mono Hb.out.size))
        clear hb2 e0 e1 e2 e3 e4
        have HA1 := Lib.hid fun W => addsUp_any 300000 sw W (by omega) hq0
        have HA2 := Lib.hid fun W => addsUp_any N (addU 300000 sw) W hN0 (addU_nn _ _)
        go_wp2_with fail
        refine (HA1.out _).mono ?_
        rintro e w3 ⟨rfl, hw3⟩
        obtain rfl : w2 = w3 := hw3.symm
        go_wp2_with fail
        refine (HA2.out _).mono ?_
        rintro e w3 ⟨rfl, hw3⟩
        obtain rfl : w2 = w3 := hw3.symm
        go_wp2_with fail
        go_roundw
        case rel => exact ⟨k + 1, _, by omega, by go_num, rfl, addU_nn _ _, addU_bd _ _, HX, HB2⟩
        case measure => simp [intOf]; omega
      · have q3 : decide (N ≤ 2147483647) = false := by rw [decide_eq_false_iff_not]; omega
        go_wp2_with fail
        go_ret
        exact ⟨⟨_, rfl, HW.out.done (.inr (by omega)) hN0 hN1⟩, Hb.out⟩
    · have q1 : decide ((k : Int) < (m : Int)) = false := by rw [decide_eq_false_iff_not]; omega
      have q2 : decide (k < m) = false := by rw [decide_eq_false_iff_not]; omega
      go_wp2_with fail
      go_ret
      exact ⟨⟨_, rfl, HW.out.done (.inl (by rw [Hlen.out]; omega)) hN0 hN1⟩, Hb.out⟩
end Go.Proofs.YthjcifokmcbaoaaGreatDoor.st
