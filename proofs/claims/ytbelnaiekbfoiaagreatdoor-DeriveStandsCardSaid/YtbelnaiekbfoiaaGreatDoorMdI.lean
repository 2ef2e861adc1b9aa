/- Laws and contracts on which the statement rests, part I: each text says what it proves, and its conditions. -/
import Derived.Test.YtbelnaiekbfoiaaGreatDoorMdH
import Derived.Deep.QuietTactic
import Derived.BigQuiet
import Derived.StillTailTactics
import Derived.Test.YtbelnaiekbfoiaaGreatDoorMdF
import Derived.Laws.Concat
import Derived.Deep.Slices
import Derived.Deep.Fields
import Derived.ChangeSame
import Derived.Carry
import Derived.Laws.CopyOwn
import Derived.Laws.MakeOwn
/- law 12: words, rules. Conditions: the lists lie in memory and read the same. -/
namespace Go.Proofs.YtbelnaiekbfoiaaGreatDoor.dr
open Go.ChangeShapes Go.WideShapes Go.ChangeAt Go.RowKit gl va ls ky ly

set_option maxHeartbeats 2000000 in
set_option maxRecDepth 100000 in
/-- Lists of texts that are the same. -/
theorem words_any (p p' : Option Addr) (m c c' : Nat) (l : List (List UInt8)) (hm : m ≤ 4294967295) (w : World) (h : Txs w (.slice p m c) l) (h' : Txs w (.slice p' m c') l) :
    Calls Tryz.prog 68 #[.slice p m c, .slice p' m c'] w fun e w' => e = .returned (.bool true) ∧ Below w.heap.size w w' := by
  obtain ⟨hlen, hmc, hptr⟩ := h.ptr
  obtain ⟨_, hmc', hptr'⟩ := h'.ptr
  have HS := Lib.hid h
  have HS' := Lib.hid h'
  have Hlen := Lib.hid hlen
  have Hptr := Lib.hid hptr
  have Hptr' := Lib.hid hptr'
  clear h h' hlen hptr hptr'
  go_enter Tryz.func68, Tryz.ntmps68
  go_wp2_with fail
  go_loopw [5] (fun i wr => ∃ j q : Nat, j ≤ m ∧ i = .int .i64 j ∧ wr = w.drewN q) (fun i _ => m - (intOf i).toNat)
  case atStart => exact ⟨0, 0, by omega, rfl, rfl⟩
  case round =>
    obtain ⟨j, q, hj, rfl, hwr⟩ := hrel
    have Hq := Lib.hid hwr
    have hbq : Below w.heap.size w wr := by rw [hwr]; exact drN_bel w q
    have Hbq := Lib.hid hbq
    clear hwr hbq
    by_cases hlt : j < m
    · obtain ⟨b, o, rfl, hbl⟩ := Hptr.out (by omega)
      obtain ⟨b', o', rfl, hbl'⟩ := Hptr'.out (by omega)
      obtain ⟨x, hx⟩ : ∃ x, l[j]? = some x := ⟨_, List.getElem?_eq_getElem (by rw [Hlen.out]; exact hlt)⟩
      have c0 := tx_cell (HS.out.later Hbq.out) hx
      have d0 := tx_cell (HS'.out.later Hbq.out) hx
      have hzq := Hbq.out.size
      have hbr : b < wr.heap.size := by omega
      have hbr' : b' < wr.heap.size := by omega
      have hji : (j : Int) < (m : Int) := by omega
      have hj0 : (0 : Int) ≤ (j : Int) := by omega
      clear hx
      generalize B x = nm at *
      go_wp2_with fail
      go_quiet (fail)
      rename_i nq
      go_wp2_with fail
      go_roundw
      case rel => exact ⟨j + 1, q + nq, by omega, by go_num, by rw [Hq.out, World.drewN_drewN]⟩
      case measure => simp [intOf]; omega
    · obtain rfl : j = m := by omega
      go_wp2_with fail
      go_ret
      exact ⟨rfl, by rw [Hq.out]; exact drN_bel w q⟩
theorem txs_len {w : World} {p : Option Addr} {n c : Nat} {l : List (List UInt8)} (h : Txs w (.slice p n c) l) : l.length = n := h.ptr.1
theorem std_len3 : stdRu.length = 3 := rfl
set_option maxHeartbeats 4000000 in
set_option maxRecDepth 100000 in
/-- Rules that are the same. -/
theorem rules_any (p p' : Option Addr) (c c' : Nat) (R R' : List RuR) (w : World) (h : Rus w (.slice p 3 c) R stdRu) (h' : Rus w (.slice p' 3 c') R' stdRu) :
    Calls Tryz.prog 27 #[.slice p 3 c, .slice p' 3 c'] w fun e w' => e = .returned (.bool true) ∧ Below w.heap.size w w' := by
  obtain ⟨b, o, rfl, hbl⟩ := h.1.ptr.2.2 (by omega)
  obtain ⟨b', o', rfl, hbl'⟩ := h'.1.ptr.2.2 (by omega)
  have HS := Lib.hid h
  have HS' := Lib.hid h'
  clear h h'
  go_enter Tryz.func27, Tryz.ntmps27
  go_wp2_with fail
  go_loopw [5] (fun i wr => ∃ j : Nat, j ≤ 3 ∧ i = .int .i64 j ∧ Hid (Below w.heap.size w wr)) (fun i _ => 3 - (intOf i).toNat)
  case atStart => exact ⟨0, by omega, rfl, Lib.hid (Below.refl _ _)⟩
  case round =>
    obtain ⟨wo, rfl⟩ : ∃ wo, wo = wr := ⟨_, rfl⟩
    obtain ⟨j, hj, rfl, Hb⟩ := hrel
    by_cases hlt : j < 3
    · have hS := HS.out.later Hb.out
      have hS' := HS'.out.later Hb.out
      obtain ⟨x, hx⟩ : ∃ x, stdRu[j]? = some x := ⟨_, List.getElem?_eq_getElem (by rw [std_len3]; exact hlt)⟩
      obtain ⟨r, hr⟩ : ∃ r, R[j]? = some r := ⟨_, List.getElem?_eq_getElem (by rw [hS.2.1, std_len3]; exact hlt)⟩
      obtain ⟨r', hr'⟩ : ∃ r, R'[j]? = some r := ⟨_, List.getElem?_eq_getElem (by rw [hS'.2.1, std_len3]; exact hlt)⟩
      obtain ⟨k0, k1, k2, k3⟩ := ru_cells hS.1 hr
      obtain ⟨e0, e1, e2, e3⟩ := ru_cells hS'.1 hr'
      obtain ⟨f0, f1, f2, f3⟩ := hS.2.2 j r x hr hx
      obtain ⟨g0, g1, g2, g3⟩ := hS'.2.2 j r' x hr' hx
      obtain ⟨tg, rp, rn, rc, ro, ra⟩ := r
      obtain ⟨tg', rp', rn', rc', ro', ra'⟩ := r'
      simp only at f0 f1 f2 g0 g1 g2 k0 k2 k3 e0 e2 e3
      unfold RuR.vn at f3 g3 k1 e1
      simp only at f3 g3 k1 e1
      obtain rfl : rn' = rn := (txs_len g3).symm.trans (txs_len f3)
      subst f0 f1 f2
      rw [g0] at e0
      rw [g1] at e2
      rw [g2] at e3
      have hrn : rn' ≤ 4294967295 := by
        have := txs_len f3
        rcases three hx with ⟨_, rfl⟩ | ⟨_, rfl⟩ | ⟨_, rfl⟩ <;> (rw [← this]; decide)
      have HW := Lib.hid fun W (hW : Below wo.heap.size wo W) => words_any rp rp' rn' rc rc' x.needs hrn W (f3.later hW) (g3.later hW)
      have hzq := Hb.out.size
      have hbr : b < wo.heap.size := by omega
      have hbr' : b' < wo.heap.size := by omega
      have HC := Lib.hid fun W (hW : Below wo.heap.size wo W) => (⟨(hW.cell (p := ⟨b, o + j * 4, none⟩) hbr).trans k0, (hW.cell (p := ⟨b, o + j * 4 + 2, none⟩) hbr).trans k2, (hW.cell (p := ⟨b, o + j * 4 + 3, none⟩) hbr).trans k3, (hW.cell (p := ⟨b', o' + j * 4, none⟩) hbr').trans e0, (hW.cell (p := ⟨b', o' + j * 4 + 2, none⟩) hbr').trans e2, (hW.cell (p := ⟨b', o' + j * 4 + 3, none⟩) hbr').trans e3⟩ : W.cell? ⟨b, o + j * 4, none⟩ = some (.string (B x.target)) ∧ W.cell? ⟨b, o + j * 4 + 2, none⟩ = some (.int .i64 x.op) ∧ W.cell? ⟨b, o + j * 4 + 3, none⟩ = some (.int .i64 x.add) ∧ W.cell? ⟨b', o' + j * 4, none⟩ = some (.string (B x.target)) ∧ W.cell? ⟨b', o' + j * 4 + 2, none⟩ = some (.int .i64 x.op) ∧ W.cell? ⟨b', o' + j * 4 + 3, none⟩ = some (.int .i64 x.add))
      have hji : (j : Int) < 3 := by omega
      have hj0 : (0 : Int) ≤ (j : Int) := by omega
      have q1 : decide ((j : Int) < 3) = true := by rw [decide_eq_true_iff]; omega
      clear hx hr hr' hS hS' f3 g3 k0 k2 k3 e0 e2 e3 g0 g1 g2
      generalize B x.target = nm at *
      generalize x.op = xo at *
      generalize x.add = xa at *
      go_wp2_with fail
      go_still_tail 10, (by kernel_rfl)
      go_wp2_with fail
      refine (HW.out _ (Below.refl _ _).drew).mono ?_
      rintro e w1 ⟨rfl, hb1⟩
      have hb1 : Below wo.heap.size wo w1 := (Below.refl _ _).drew.trans hb1
      obtain ⟨k0, k2, k3, e0, e2, e3⟩ := HC.out _ hb1
      have Hb1 := Lib.hid (Hb.out.trans (hb1.mono hzq))
      have hb2 : b < w1.heap.size := by have := hb1.size; omega
      have hb2' : b' < w1.heap.size := by have := hb1.size; omega
      clear hb1 k1 e1
      go_wp2_with fail
      go_quiet (fail)
      rename_i nq
      have hz1 : w.heap.size ≤ w1.heap.size := Hb1.out.size
      go_wp2_with fail
      go_roundw
      case rel => exact ⟨j + 1, by omega, by go_num, Lib.hid (Hb1.out.trans ((drN_bel _ nq).mono hz1))⟩
      case measure => simp [intOf]; omega
    · obtain rfl : j = 3 := by omega
      go_wp2_with fail
      go_ret
      exact ⟨rfl, Hb.out⟩
end Go.Proofs.YtbelnaiekbfoiaaGreatDoor.dr
/- The reference's text, Right and Within return the plain functions. Conditions: the value's words lie in memory; it is no greater than 2147483647 bytes and words. -/
namespace Go.Proofs.YtbelnaiekbfoiaaGreatDoor.va
open Go.ChangeShapes Go.WideShapes Go.ChangeAt Go.RowKit gl

theorem pt_bad {s : ByteArray} {k : Nat} {b : UInt8} (hb : s.data.toList[k]? = some b) (hp : prn b = false) : parseText s.data.toList = (zero, 40) := by
  unfold parseText
  rw [all_bad hb hp]
  rfl
theorem pt_good {s : ByteArray} (h : goodTo prn s.data.toList s.size) : parseText s.data.toList = if 200 < s.size then (zero, 42) else (⟨5, 0, s, []⟩, 0) := by
  unfold parseText
  rw [all_good (by simpa using h), if_pos rfl, show s.data.toList.length = s.size by simp, B_toList]
set_option maxHeartbeats 1000000 in
set_option maxRecDepth 100000 in
theorem refText_any (s : ByteArray) (hs : s.size ≤ 2147483647) (w : World) :
    Calls Tryz.prog 142 #[.string s] w fun e w' => e = .returned (res (parseText s.data.toList) (.slice none 0 0)) ∧ Below w.heap.size w w' := by
  go_enter Tryz.func142, Tryz.ntmps142
  go_wp2_with fail
  go_loop [4] (fun i => ∃ k : Nat, k ≤ s.size ∧ i = .int .i64 k ∧ goodTo prn s.data.toList k) (fun i => s.size - (intOf i).toNat)
  case atStart => exact ⟨0, by omega, rfl, fun j b h => by omega⟩
  case round =>
    obtain ⟨k, hk, rfl, hto⟩ := hrel
    by_cases hlt : k < s.size
    · obtain ⟨b, hb, hbk, hb0, hb1⟩ := byteAt s k hlt
      rcases (show b.toNat < 32 ∨ (32 ≤ b.toNat ∧ b.toNat ≤ 126) ∨ 126 < b.toNat by omega) with h | ⟨h, h'⟩ | h
      · have He := Lib.hid (pt_bad hb (prn_no (.inl h)))
        clear hto hb
        go_wp2_with fail
        go_returns
        exact ⟨by rw [He.out]; rfl, by go_grown⟩
      · have Hto := Lib.hid (goodTo_succ hto hb (prn_yes h h'))
        clear hto hb
        go_wp2_with fail
        go_round
        case rel => exact ⟨k + 1, by omega, by go_num, Hto.out⟩
        case measure => simp [intOf]; omega
      · have He := Lib.hid (pt_bad hb (prn_no (.inr h)))
        clear hto hb
        go_wp2_with fail
        go_returns
        exact ⟨by rw [He.out]; rfl, by go_grown⟩
    · obtain rfl : k = s.size := by omega
      have He := Lib.hid (pt_good hto)
      clear hto
      by_cases h200 : 200 < s.size
      · have He2 := Lib.hid (He.out.trans (if_pos h200))
        go_wp2_with fail
        go_returns
        exact ⟨by rw [He2.out]; rfl, by go_grown⟩
      · have He2 := Lib.hid (He.out.trans (if_neg h200))
        go_wp2_with fail
        go_returns
        exact ⟨by rw [He2.out]; rfl, by go_grown⟩

theorem joined_200 (ws : List ByteArray) : decide ((joined ws).length ≤ 200) = decide ((ws.length : Int) - 1 + sz ws ≤ 200) := by
  cases ws with
  | nil => rfl
  | cons x r =>
    have := joined_cons x r
    rw [Bool.eq_iff_iff, decide_eq_true_eq, decide_eq_true_eq, this]
    simp only [List.length_cons]
    omega
theorem sz_take (ws : List ByteArray) (j : Nat) (x : ByteArray) (h : ws[j]? = some x) : sz (ws.take (j + 1)) = sz (ws.take j) + x.size := by
  unfold sz
  rw [List.take_add_one, h]
  simp
theorem sz_take_le (ws : List ByteArray) (j : Nat) : sz (ws.take j) ≤ sz ws := by
  conv => rhs; rw [← List.take_append_drop j ws]
  unfold sz
  rw [List.map_append, List.sum_append]
  omega
theorem sz_joined (ws : List ByteArray) : sz ws ≤ (joined ws).length := by
  cases ws with
  | nil => simp [sz]
  | cons x r =>
    rw [joined_cons]
    omega

set_option maxHeartbeats 2000000 in
set_option maxRecDepth 100000 in
theorem refRight_any (v : Val) (hb : Vb v) (sl : Value) (w : World) (_hV : Vlo w) (hS : Strs w sl v.words) :
    Calls Tryz.prog 144 #[rep v sl] w fun e w' => e = .returned (.bool (right wordL v)) ∧ Below w.heap.size w w' := by
  clear _hV
  obtain ⟨k, n, t, ws⟩ := v
  obtain ⟨hn0, hn1, ht, hl, heach, hj⟩ := hb
  simp only at hn0 hn1 ht hl heach hj hS
  have HS := Lib.hid hS
  have Heach := Lib.hid heach
  have hsz := sz_joined ws
  have Hsz : Hid (sz ws ≤ 140737488355328) := Lib.hid (by omega)
  clear heach hj hsz
  obtain ⟨p, c, rfl, hc, _⟩ := hS
  obtain ⟨m, hm⟩ : ∃ m, ws.length = m := ⟨_, rfl⟩
  have Hm := Lib.hid hm
  rw [hm] at hl hc HS ⊢
  clear hm
  unfold rep
  simp only
  by_cases h5 : k = 5
  · subst h5
    have hr := right_5 (n := n) (t := t) (ws := ws)
    have hwe : ws.isEmpty = decide (m = 0) := by rw [← Hm.out]; cases ws <;> rfl
    have hp := fun W => refText_any t ht W
    rw [hwe] at hr
    generalize right wordL ⟨5, n, t, ws⟩ = R at *
    have HR := Lib.hid hr
    clear hr hwe
    by_cases hm0 : m = 0
    · subst hm0
      have HT : Hid (∃ (a b : Int) (tt : ByteArray) (er : Int), parseText t.data.toList = (⟨a, b, tt, []⟩, er) ∧ (er == 0) = (decide (t.size ≤ 200) && prnAll t.data.toList)) := Lib.hid (by
        have hE : parseText t.data.toList = if prnAll t.data.toList then (if 200 < t.size then (zero, 42) else (⟨5, 0, t, []⟩, 0)) else (zero, 40) := by
          unfold parseText prnAll
          rw [show t.data.toList.length = t.size by simp, B_toList]
        rw [hE]
        cases prnAll t.data.toList with
        | false => exact ⟨0, 0, _, 40, rfl, by simp⟩
        | true =>
          by_cases h : 200 < t.size
          · exact ⟨0, 0, _, 42, by rw [if_pos rfl, if_pos h]; rfl, by rw [decide_eq_false (by omega)]; rfl⟩
          · exact ⟨5, 0, _, 0, by rw [if_pos rfl, if_neg h], by rw [decide_eq_true (by omega)]; rfl⟩)
      obtain ⟨a, b, tt, er, hpt, her⟩ := HT.out
      simp only [hpt] at hp
      have HR2 : Hid (R = ((er == 0) && (n == 0))) := Lib.hid (by
        rw [HR.out, her]
        have : (n == 0) = (decide (0 ≤ n) && decide (n ≤ 0)) := by
          rw [Bool.eq_iff_iff]
          simp only [beq_iff_eq, Bool.and_eq_true, decide_eq_true_eq]
          omega
        rw [this]
        simp [Bool.and_comm])
      clear HR HT hpt her
      unfold res rep at hp
      simp only at hp
      cases he0 : (er == 0) with
      | false =>
        rw [he0] at HR2
        go_enter Tryz.func144, Tryz.ntmps144
        go_wp2_with fail
        refine (hp _).mono ?_
        rintro e w1 ⟨rfl, hb⟩
        obtain ⟨⟨b0, b1, b2, b3⟩, _⟩ := res_cells hb
        have Hb := Lib.hid (((Below.refl _ w).alloc (Nat.le_refl _) _).trans (hb.mono (by simp)))
        clear hb hp
        have d1 := (((Below.refl w1.heap.size w1).alloc (Nat.le_refl _) (.cells #[.int .i64 a, .int .i64 b, .string tt, .slice none 0 0] 45)).cell (p := ⟨w.heap.size, 1, none⟩) (World.block_lt_of_cell? _ _ b1)).trans b1
        go_wp2_with fail
        go_ret
        exact ⟨ret_bool (by rw [HR2.out]; rfl), Hb.out.alloc Hb.out.size _⟩
      | true =>
        rw [he0] at HR2
        cases hn : (n == 0) with
        | false =>
          rw [hn] at HR2
          go_enter Tryz.func144, Tryz.ntmps144
          go_wp2_with fail
          refine (hp _).mono ?_
          rintro e w1 ⟨rfl, hb⟩
          obtain ⟨⟨b0, b1, b2, b3⟩, _⟩ := res_cells hb
          have Hb := Lib.hid (((Below.refl _ w).alloc (Nat.le_refl _) _).trans (hb.mono (by simp)))
          clear hb hp
          have d1 := (((Below.refl w1.heap.size w1).alloc (Nat.le_refl _) (.cells #[.int .i64 a, .int .i64 b, .string tt, .slice none 0 0] 45)).cell (p := ⟨w.heap.size, 1, none⟩) (World.block_lt_of_cell? _ _ b1)).trans b1
          go_wp2_with fail
          go_ret
          exact ⟨ret_bool (by rw [HR2.out]; rfl), Hb.out.alloc Hb.out.size _⟩
        | true =>
          rw [hn] at HR2
          go_enter Tryz.func144, Tryz.ntmps144
          go_wp2_with fail
          refine (hp _).mono ?_
          rintro e w1 ⟨rfl, hb⟩
          obtain ⟨⟨b0, b1, b2, b3⟩, _⟩ := res_cells hb
          have Hb := Lib.hid (((Below.refl _ w).alloc (Nat.le_refl _) _).trans (hb.mono (by simp)))
          clear hb hp
          have d1 := (((Below.refl w1.heap.size w1).alloc (Nat.le_refl _) (.cells #[.int .i64 a, .int .i64 b, .string tt, .slice none 0 0] 45)).cell (p := ⟨w.heap.size, 1, none⟩) (World.block_lt_of_cell? _ _ b1)).trans b1
          go_wp2_with fail
          go_ret
          exact ⟨ret_bool (by rw [HR2.out]; rfl), Hb.out.alloc Hb.out.size _⟩
    · have hm0' : (0 : Int) < (m : Int) := by omega
      go_enter Tryz.func144, Tryz.ntmps144
      go_wp2_with fail
      go_ret
      exact ⟨ret_bool (by rw [HR.out, decide_eq_false hm0]; simp), by go_grown⟩
  · by_cases h6 : k = 6
    · subst h6
      clear h5
      have hr := right_6 (n := n) (t := t) (ws := ws)
      rw [joined_200, Hm.out] at hr
      have HW := Lib.hid fun (x : ByteArray) (hx : x ∈ ws) (W : World) => refIsWord_any x (Heach.out x hx) W
      generalize right wordL ⟨6, n, t, ws⟩ = R at *
      have HR := Lib.hid hr
      clear hr
      cases he : t.toList.isEmpty with
      | false =>
        rw [he] at HR
        go_enter Tryz.func144, Tryz.ntmps144
        go_wp2_with fail
        go_ret
        exact ⟨ret_bool (by rw [HR.out]; simp), by go_grown⟩
      | true =>
        rw [he] at HR
        go_enter Tryz.func144, Tryz.ntmps144
        go_wp2_with fail
        obtain ⟨w2, hw2⟩ : ∃ w2, w2 = w.alloc (.cells #[.int .i64 6, .int .i64 n, .string t, .slice p m c] 45) := ⟨_, rfl⟩
        rw [← hw2]
        have Hb2 : Hid (Below w.heap.size w w2) := Lib.hid (by rw [hw2]; exact (Below.refl _ _).alloc (Nat.le_refl _) _)
        have HS2 := Lib.hid (HS.out.later Hb2.out)
        have hB : w2.heap[w.heap.size]? = some (.cells #[.int .i64 6, .int .i64 n, .string t, .slice p m c] 45) := by rw [hw2]; exact heap_alloc_new w _
        have c3 := cell_of_row w2 w.heap.size 3 _ _ _ hB
        have c1 := cell_of_row w2 w.heap.size 1 _ _ _ hB
        simp only [List.getElem?_toArray, List.getElem?_cons_succ, List.getElem?_cons_zero] at c1 c3
        clear hw2 hB
        go_loop [5, 6] (fun a i => ∃ (j : Nat) (A : Int), j ≤ m ∧ i = .int .i64 j ∧ a = .int .i64 A ∧ A = (m : Int) - 1 + sz (ws.take j) ∧ goodW ws j) (fun _ i => m - (intOf i).toNat)
        case atStart => exact ⟨0, (m : Int) - 1, by omega, rfl, by go_num, by simp [sz], fun j x h => by omega⟩
        case round =>
          obtain ⟨j, A, hj, rfl, rfl, hA, hgo⟩ := hrel
          have HA := Lib.hid hA
          have Hgo := Lib.hid hgo
          have hAb : -1 ≤ A ∧ A ≤ 140739635838975 := by
            have h1 := sz_take_le ws j
            have h2 := Hsz.out
            omega
          obtain ⟨hA0, hA1⟩ := hAb
          clear hA hgo
          by_cases hlt : j < m
          · obtain ⟨b, o, x, rfl, hbl, hx, hcx⟩ := HS2.out.at j hlt
            have hmem := List.mem_of_getElem? hx
            have hxs := Heach.out x hmem
            have Hx := Lib.hid hx
            have hcon := fun W => HW.out x hmem W
            clear hx hmem
            cases hw : wordL x.data.toList with
            | true =>
              rw [hw] at hcon
              have Hw := Lib.hid hw
              clear hw
              go_wp2_with fail
              refine (hcon _).mono ?_
              rintro e w3 ⟨rfl, rfl⟩
              go_wp2_with fail
              go_round
              case rel => exact ⟨j + 1, A + x.size, by omega, by go_num, by go_num, by rw [sz_take ws j x Hx.out, HA.out]; omega, goodW_succ Hgo.out Hx.out Hw.out⟩
              case measure => simp [intOf]; omega
            | false =>
              rw [hw] at hcon
              have Hw := Lib.hid hw
              clear hw
              go_wp2_with fail
              refine (hcon _).mono ?_
              rintro e w3 ⟨rfl, rfl⟩
              go_wp2_with fail
              go_ret
              exact ⟨ret_bool (by rw [HR.out, allW_bad Hx.out Hw.out]; simp), Hb2.out⟩
          · obtain rfl : j = m := by omega
            have hall : allW ws = true := allW_good (by rw [Hm.out]; exact Hgo.out)
            have hA2 : A = (j : Int) - 1 + sz ws := by
              have := HA.out
              rwa [List.take_of_length_le (by rw [Hm.out]; exact Nat.le_refl _)] at this
            have HR2 : Hid (R = ((decide (0 ≤ n) && decide (n ≤ 0)) && (decide (j ≤ 16) && decide (A ≤ 200)))) := Lib.hid (by rw [HR.out, hall, hA2]; simp)
            have hdec : decide ((j : Int) < (j : Int)) = false := by simp
            clear hall hA2
            rcases (show n < 0 ∨ n = 0 ∨ 0 < n by omega) with h | rfl | h
            · have hn : (n == 0) = false := by simp; omega
              go_wp2_with fail
              go_ret
              exact ⟨ret_bool (by rw [HR2.out, decide_eq_false (p := 0 ≤ n) (by omega)]; simp), Hb2.out⟩
            · by_cases h16 : j ≤ 16
              · by_cases h200 : A ≤ 200
                · go_wp2_with fail
                  go_ret
                  exact ⟨ret_bool (by rw [HR2.out, decide_eq_true h16, decide_eq_true h200]; simp; try omega), Hb2.out⟩
                · go_wp2_with fail
                  go_ret
                  exact ⟨ret_bool (by rw [HR2.out, decide_eq_true h16, decide_eq_false (p := A ≤ 200) (by omega)]; simp; try omega), Hb2.out⟩
              · go_wp2_with fail
                go_ret
                exact ⟨ret_bool (by rw [HR2.out, decide_eq_false h16]; simp), Hb2.out⟩
            · have hn : (n == 0) = false := by simp; omega
              go_wp2_with fail
              go_ret
              exact ⟨ret_bool (by rw [HR2.out, decide_eq_false (p := n ≤ 0) (by omega)]; simp), Hb2.out⟩
    · have hr := right_c (n := n) (t := t) (ws := ws) h5 h6
      have hwe : ws.isEmpty = decide (m = 0) := by rw [← Hm.out]; cases ws <;> rfl
      rw [hwe] at hr
      have q5 : (k != 5) = true := by simp [h5]
      have q6 : (k != 6) = true := by simp [h6]
      have q5' : (k == 5) = false := by simp [h5]
      have q6' : (k == 6) = false := by simp [h6]
      cases he : t.toList.isEmpty with
      | false =>
        rw [he] at hr
        generalize right wordL ⟨k, n, t, ws⟩ = R at *
        have HR := Lib.hid hr
        clear hr h5 h6
        go_enter Tryz.func144, Tryz.ntmps144
        go_wp2_with fail
        go_ret
        exact ⟨ret_bool (by rw [HR.out]; simp), by go_grown⟩
      | true =>
        rw [he] at hr
        by_cases hm0 : m = 0
        · subst hm0
          have hK2 : k = 1 ∨ k = 2 ∨ (k = 3 ∨ k = 4) ∨ (k ≠ 1 ∧ k ≠ 2 ∧ k ≠ 3 ∧ k ≠ 4) := by omega
          rcases hK2 with rfl | rfl | hk | ⟨n1, n2, n3, n4⟩
          · have HR : Hid (right wordL ⟨1, n, t, ws⟩ = (decide (0 ≤ n) && decide (n ≤ 1))) := Lib.hid (by rw [hr]; simp [least, most])
            generalize right wordL ⟨1, n, t, ws⟩ = R at *
            clear hr h5 h6
            rcases (show n < 0 ∨ n = 0 ∨ n = 1 ∨ 1 < n by omega) with h | rfl | rfl | h
            · have z0 : (n == 0) = false := by simp; omega
              have z1 : (n == 1) = false := by simp; omega
              go_enter Tryz.func144, Tryz.ntmps144
              go_wp2_with fail
              go_ret
              exact ⟨ret_bool (by rw [HR.out, decide_eq_false (p := 0 ≤ n) (by omega)]; rfl), by go_grown⟩
            · go_enter Tryz.func144, Tryz.ntmps144
              go_wp2_with fail
              go_ret
              exact ⟨ret_bool (by rw [HR.out]; rfl), by go_grown⟩
            · go_enter Tryz.func144, Tryz.ntmps144
              go_wp2_with fail
              go_ret
              exact ⟨ret_bool (by rw [HR.out]; rfl), by go_grown⟩
            · have z0 : (n == 0) = false := by simp; omega
              have z1 : (n == 1) = false := by simp; omega
              go_enter Tryz.func144, Tryz.ntmps144
              go_wp2_with fail
              go_ret
              exact ⟨ret_bool (by rw [HR.out, decide_eq_false (p := n ≤ 1) (by omega)]; simp), by go_grown⟩
          · have HR : Hid (right wordL ⟨2, n, t, ws⟩ = (decide (-4611686018427387904 ≤ n) && decide (n ≤ 4611686018427387904))) := Lib.hid (by rw [hr]; simp [least, most])
            generalize right wordL ⟨2, n, t, ws⟩ = R at *
            clear hr h5 h6
            rcases (show n < -4611686018427387904 ∨ (-4611686018427387904 ≤ n ∧ n ≤ 4611686018427387904) ∨ 4611686018427387904 < n by omega) with h | ⟨h, h'⟩ | h
            · go_enter Tryz.func144, Tryz.ntmps144
              go_wp2_with fail
              go_ret
              exact ⟨ret_bool (by rw [HR.out, decide_eq_false (p := -4611686018427387904 ≤ n) (by omega)]; rfl), by go_grown⟩
            · go_enter Tryz.func144, Tryz.ntmps144
              go_wp2_with fail
              go_ret
              exact ⟨ret_bool (by rw [HR.out, decide_eq_true h, decide_eq_true h']; first | rfl | (simp; try omega)), by go_grown⟩
            · go_enter Tryz.func144, Tryz.ntmps144
              go_wp2_with fail
              go_ret
              exact ⟨ret_bool (by rw [HR.out, decide_eq_false (p := n ≤ 4611686018427387904) (by omega)]; first | (simp; done) | (simp; omega)), by go_grown⟩
          · have HR : Hid (right wordL ⟨k, n, t, ws⟩ = (decide (0 ≤ n) && decide (n ≤ most k))) := Lib.hid (by
              rw [hr, show least k = 0 from by unfold least; rw [if_neg (by omega)], decide_eq_true (p := k = 1 ∨ k = 2 ∨ k = 3 ∨ k = 4) (by omega)]
              simp)
            have Hmo := Lib.hid (most_any k hk)
            have k1 : (k == 1) = false := by simp; omega
            have k2 : (k == 2) = false := by simp; omega
            have k34 : (k == 3) = true ∨ ((k == 3) = false ∧ (k == 4) = true) := by
              rcases hk with rfl | rfl
              · exact .inl rfl
              · exact .inr ⟨rfl, rfl⟩
            generalize right wordL ⟨k, n, t, ws⟩ = R at *
            generalize most k = M at *
            clear hr h5 h6 hk
            rcases k34 with k3 | ⟨k3, k4⟩
            all_goals
              by_cases h0 : 0 ≤ n
              · have hd0 : decide ((0 : Int) ≤ n) = true := decide_eq_true h0
                by_cases hM : n ≤ M
                · go_enter Tryz.func144, Tryz.ntmps144
                  go_wp2_with fail
                  go_quiet (first | (go_at_call 187; exact Calls.quiet_of_same (Hmo.out _)))
                  go_wp2_with fail
                  go_ret
                  exact ⟨ret_bool (by rw [HR.out, hd0, decide_eq_true (p := n ≤ M) (by omega)]; first | rfl | (simp; try omega)), bel_drewN ((Below.refl _ w).alloc (Nat.le_refl _) _) _⟩
                · go_enter Tryz.func144, Tryz.ntmps144
                  go_wp2_with fail
                  go_quiet (first | (go_at_call 187; exact Calls.quiet_of_same (Hmo.out _)))
                  go_wp2_with fail
                  go_ret
                  exact ⟨ret_bool (by rw [HR.out, hd0, decide_eq_false (p := n ≤ M) (by omega)]; first | rfl | (simp; try omega)), bel_drewN ((Below.refl _ w).alloc (Nat.le_refl _) _) _⟩
              · have hd0 : decide ((0 : Int) ≤ n) = false := decide_eq_false h0
                go_enter Tryz.func144, Tryz.ntmps144
                go_wp2_with fail
                go_quiet (fail)
                go_wp2_with fail
                go_ret
                exact ⟨ret_bool (by rw [HR.out, hd0]; simp), bel_drewN ((Below.refl _ w).alloc (Nat.le_refl _) _) _⟩
          · have HR : Hid (right wordL ⟨k, n, t, ws⟩ = false) := Lib.hid (by rw [hr, decide_eq_false (p := k = 1 ∨ k = 2 ∨ k = 3 ∨ k = 4) (by omega)]; simp)
            have k1 : (k == 1) = false := by simp [n1]
            have k2 : (k == 2) = false := by simp [n2]
            have k3 : (k == 3) = false := by simp [n3]
            have k4 : (k == 4) = false := by simp [n4]
            generalize right wordL ⟨k, n, t, ws⟩ = R at *
            clear hr h5 h6 n1 n2 n3 n4
            go_enter Tryz.func144, Tryz.ntmps144
            go_wp2_with fail
            go_ret
            exact ⟨ret_bool (by rw [HR.out]), by go_grown⟩
        · have hm0' : (0 : Int) < (m : Int) := by omega
          generalize right wordL ⟨k, n, t, ws⟩ = R at *
          have HR := Lib.hid hr
          clear hr h5 h6
          go_enter Tryz.func144, Tryz.ntmps144
          go_wp2_with fail
          go_ret
          exact ⟨ret_bool (by rw [HR.out, decide_eq_false hm0]; simp), by go_grown⟩

set_option maxHeartbeats 2000000 in
set_option maxRecDepth 100000 in
theorem refWithin_any (v : Val) (hb : Vb v) (lo hi : Int) (sl : Value) (w : World) (hV : Vlo w) (hS : Strs w sl v.words) :
    Calls Tryz.prog 139 #[rep v sl, .int .i64 lo, .int .i64 hi] w fun e w' => e = .returned (.bool (within wordL v lo hi)) ∧ Below w.heap.size w w' := by
  have HRi := Lib.hid fun (W : World) (hbW : Below w.heap.size w W) => refRight_any v hb sl W (hV.below hbW (Nat.le_refl _)) (hS.below hbW (Nat.le_refl _))
  clear hV hb
  obtain ⟨p, c, rfl, hc, _⟩ := hS
  obtain ⟨k, n, t, ws⟩ := v
  simp only at hc
  obtain ⟨m, hm⟩ : ∃ m, ws.length = m := ⟨_, rfl⟩
  unfold rep at *
  simp only at *
  rw [hm] at HRi hc ⊢
  cases hr : right wordL ⟨k, n, t, ws⟩ with
  | false =>
    have HW := Lib.hid (within_f (lo := lo) (hi := hi) hr)
    rw [hr] at HRi
    clear hr hm
    go_enter Tryz.func139, Tryz.ntmps139
    go_wp2_with fail
    refine (HRi.out _ ((Below.refl _ w).alloc (Nat.le_refl _) _)).mono ?_
    rintro e w1 ⟨rfl, hb⟩
    have Hb := Lib.hid (((Below.refl _ w).alloc (Nat.le_refl _) _).trans (hb.mono (by simp)))
    obtain ⟨⟨b0, b1, b2, b3⟩, _⟩ := res_cells hb
    clear hb
    go_wp2_with fail
    go_ret
    exact ⟨ret_bool (by rw [HW.out]), Hb.out⟩
  | true =>
    have hk := right_kind hr
    simp only at hk
    rw [hr] at HRi
    rcases hk with rfl | rfl | rfl | rfl | rfl | rfl
    · have HW := Lib.hid (within_o (lo := lo) (hi := hi) hr (by simp))
      clear hr hm
      go_enter Tryz.func139, Tryz.ntmps139
      go_wp2_with fail
      refine (HRi.out _ ((Below.refl _ w).alloc (Nat.le_refl _) _)).mono ?_
      rintro e w1 ⟨rfl, hb⟩
      have Hb := Lib.hid (((Below.refl _ w).alloc (Nat.le_refl _) _).trans (hb.mono (by simp)))
      obtain ⟨⟨b0, b1, b2, b3⟩, _⟩ := res_cells hb
      clear hb
      go_wp2_with fail
      go_ret
      exact ⟨ret_bool (by rw [HW.out]), Hb.out⟩
    · have HW := Lib.hid (within_n (lo := lo) (hi := hi) hr (by simp))
      simp only at HW
      clear hr hm
      by_cases h1 : lo ≤ n
      · by_cases h2 : n ≤ hi
        · go_enter Tryz.func139, Tryz.ntmps139
          go_wp2_with fail
          refine (HRi.out _ ((Below.refl _ w).alloc (Nat.le_refl _) _)).mono ?_
          rintro e w1 ⟨rfl, hb⟩
          have Hb := Lib.hid (((Below.refl _ w).alloc (Nat.le_refl _) _).trans (hb.mono (by simp)))
          obtain ⟨⟨b0, b1, b2, b3⟩, _⟩ := res_cells hb
          clear hb
          go_wp2_with fail
          go_ret
          exact ⟨ret_bool (by rw [HW.out]; first | exact decide_eq_true (by omega) | exact (decide_eq_true (by omega)).trans (decide_eq_true (by omega)).symm), Hb.out⟩
        · go_enter Tryz.func139, Tryz.ntmps139
          go_wp2_with fail
          refine (HRi.out _ ((Below.refl _ w).alloc (Nat.le_refl _) _)).mono ?_
          rintro e w1 ⟨rfl, hb⟩
          have Hb := Lib.hid (((Below.refl _ w).alloc (Nat.le_refl _) _).trans (hb.mono (by simp)))
          obtain ⟨⟨b0, b1, b2, b3⟩, _⟩ := res_cells hb
          clear hb
          go_wp2_with fail
          go_ret
          exact ⟨ret_bool (by rw [HW.out]; first | exact decide_eq_false (by omega) | exact (decide_eq_false (by omega)).trans (decide_eq_false (by omega)).symm), Hb.out⟩
      · go_enter Tryz.func139, Tryz.ntmps139
        go_wp2_with fail
        refine (HRi.out _ ((Below.refl _ w).alloc (Nat.le_refl _) _)).mono ?_
        rintro e w1 ⟨rfl, hb⟩
        have Hb := Lib.hid (((Below.refl _ w).alloc (Nat.le_refl _) _).trans (hb.mono (by simp)))
        obtain ⟨⟨b0, b1, b2, b3⟩, _⟩ := res_cells hb
        clear hb
        go_wp2_with fail
        go_ret
        exact ⟨ret_bool (by rw [HW.out]; first | exact decide_eq_false (by omega) | exact (decide_eq_false (by omega)).trans (decide_eq_false (by omega)).symm), Hb.out⟩
    · have HW := Lib.hid (within_n (lo := lo) (hi := hi) hr (by simp))
      simp only at HW
      clear hr hm
      by_cases h1 : lo ≤ n
      · by_cases h2 : n ≤ hi
        · go_enter Tryz.func139, Tryz.ntmps139
          go_wp2_with fail
          refine (HRi.out _ ((Below.refl _ w).alloc (Nat.le_refl _) _)).mono ?_
          rintro e w1 ⟨rfl, hb⟩
          have Hb := Lib.hid (((Below.refl _ w).alloc (Nat.le_refl _) _).trans (hb.mono (by simp)))
          obtain ⟨⟨b0, b1, b2, b3⟩, _⟩ := res_cells hb
          clear hb
          go_wp2_with fail
          go_ret
          exact ⟨ret_bool (by rw [HW.out]; first | exact decide_eq_true (by omega) | exact (decide_eq_true (by omega)).trans (decide_eq_true (by omega)).symm), Hb.out⟩
        · go_enter Tryz.func139, Tryz.ntmps139
          go_wp2_with fail
          refine (HRi.out _ ((Below.refl _ w).alloc (Nat.le_refl _) _)).mono ?_
          rintro e w1 ⟨rfl, hb⟩
          have Hb := Lib.hid (((Below.refl _ w).alloc (Nat.le_refl _) _).trans (hb.mono (by simp)))
          obtain ⟨⟨b0, b1, b2, b3⟩, _⟩ := res_cells hb
          clear hb
          go_wp2_with fail
          go_ret
          exact ⟨ret_bool (by rw [HW.out]; first | exact decide_eq_false (by omega) | exact (decide_eq_false (by omega)).trans (decide_eq_false (by omega)).symm), Hb.out⟩
      · go_enter Tryz.func139, Tryz.ntmps139
        go_wp2_with fail
        refine (HRi.out _ ((Below.refl _ w).alloc (Nat.le_refl _) _)).mono ?_
        rintro e w1 ⟨rfl, hb⟩
        have Hb := Lib.hid (((Below.refl _ w).alloc (Nat.le_refl _) _).trans (hb.mono (by simp)))
        obtain ⟨⟨b0, b1, b2, b3⟩, _⟩ := res_cells hb
        clear hb
        go_wp2_with fail
        go_ret
        exact ⟨ret_bool (by rw [HW.out]; first | exact decide_eq_false (by omega) | exact (decide_eq_false (by omega)).trans (decide_eq_false (by omega)).symm), Hb.out⟩
    · have HW := Lib.hid (within_n (lo := lo) (hi := hi) hr (by simp))
      simp only at HW
      clear hr hm
      by_cases h1 : lo ≤ n
      · by_cases h2 : n ≤ hi
        · go_enter Tryz.func139, Tryz.ntmps139
          go_wp2_with fail
          refine (HRi.out _ ((Below.refl _ w).alloc (Nat.le_refl _) _)).mono ?_
          rintro e w1 ⟨rfl, hb⟩
          have Hb := Lib.hid (((Below.refl _ w).alloc (Nat.le_refl _) _).trans (hb.mono (by simp)))
          obtain ⟨⟨b0, b1, b2, b3⟩, _⟩ := res_cells hb
          clear hb
          go_wp2_with fail
          go_ret
          exact ⟨ret_bool (by rw [HW.out]; first | exact decide_eq_true (by omega) | exact (decide_eq_true (by omega)).trans (decide_eq_true (by omega)).symm), Hb.out⟩
        · go_enter Tryz.func139, Tryz.ntmps139
          go_wp2_with fail
          refine (HRi.out _ ((Below.refl _ w).alloc (Nat.le_refl _) _)).mono ?_
          rintro e w1 ⟨rfl, hb⟩
          have Hb := Lib.hid (((Below.refl _ w).alloc (Nat.le_refl _) _).trans (hb.mono (by simp)))
          obtain ⟨⟨b0, b1, b2, b3⟩, _⟩ := res_cells hb
          clear hb
          go_wp2_with fail
          go_ret
          exact ⟨ret_bool (by rw [HW.out]; first | exact decide_eq_false (by omega) | exact (decide_eq_false (by omega)).trans (decide_eq_false (by omega)).symm), Hb.out⟩
      · go_enter Tryz.func139, Tryz.ntmps139
        go_wp2_with fail
        refine (HRi.out _ ((Below.refl _ w).alloc (Nat.le_refl _) _)).mono ?_
        rintro e w1 ⟨rfl, hb⟩
        have Hb := Lib.hid (((Below.refl _ w).alloc (Nat.le_refl _) _).trans (hb.mono (by simp)))
        obtain ⟨⟨b0, b1, b2, b3⟩, _⟩ := res_cells hb
        clear hb
        go_wp2_with fail
        go_ret
        exact ⟨ret_bool (by rw [HW.out]; first | exact decide_eq_false (by omega) | exact (decide_eq_false (by omega)).trans (decide_eq_false (by omega)).symm), Hb.out⟩
    · have HW := Lib.hid (within_o (lo := lo) (hi := hi) hr (by simp))
      clear hr hm
      go_enter Tryz.func139, Tryz.ntmps139
      go_wp2_with fail
      refine (HRi.out _ ((Below.refl _ w).alloc (Nat.le_refl _) _)).mono ?_
      rintro e w1 ⟨rfl, hb⟩
      have Hb := Lib.hid (((Below.refl _ w).alloc (Nat.le_refl _) _).trans (hb.mono (by simp)))
      obtain ⟨⟨b0, b1, b2, b3⟩, _⟩ := res_cells hb
      clear hb
      go_wp2_with fail
      go_ret
      exact ⟨ret_bool (by rw [HW.out]), Hb.out⟩
    · have HW := Lib.hid (within_6 (lo := lo) (hi := hi) hr rfl)
      simp only [hm] at HW
      clear hr hm
      by_cases h1 : lo ≤ (m : Int)
      · by_cases h2 : (m : Int) ≤ hi
        · go_enter Tryz.func139, Tryz.ntmps139
          go_wp2_with fail
          refine (HRi.out _ ((Below.refl _ w).alloc (Nat.le_refl _) _)).mono ?_
          rintro e w1 ⟨rfl, hb⟩
          have Hb := Lib.hid (((Below.refl _ w).alloc (Nat.le_refl _) _).trans (hb.mono (by simp)))
          obtain ⟨⟨b0, b1, b2, b3⟩, _⟩ := res_cells hb
          clear hb
          go_wp2_with fail
          go_ret
          exact ⟨ret_bool (by rw [HW.out]; first | exact decide_eq_true (by omega) | exact (decide_eq_true (by omega)).trans (decide_eq_true (by omega)).symm), Hb.out⟩
        · go_enter Tryz.func139, Tryz.ntmps139
          go_wp2_with fail
          refine (HRi.out _ ((Below.refl _ w).alloc (Nat.le_refl _) _)).mono ?_
          rintro e w1 ⟨rfl, hb⟩
          have Hb := Lib.hid (((Below.refl _ w).alloc (Nat.le_refl _) _).trans (hb.mono (by simp)))
          obtain ⟨⟨b0, b1, b2, b3⟩, _⟩ := res_cells hb
          clear hb
          go_wp2_with fail
          go_ret
          exact ⟨ret_bool (by rw [HW.out]; first | exact decide_eq_false (by omega) | exact (decide_eq_false (by omega)).trans (decide_eq_false (by omega)).symm), Hb.out⟩
      · go_enter Tryz.func139, Tryz.ntmps139
        go_wp2_with fail
        refine (HRi.out _ ((Below.refl _ w).alloc (Nat.le_refl _) _)).mono ?_
        rintro e w1 ⟨rfl, hb⟩
        have Hb := Lib.hid (((Below.refl _ w).alloc (Nat.le_refl _) _).trans (hb.mono (by simp)))
        obtain ⟨⟨b0, b1, b2, b3⟩, _⟩ := res_cells hb
        clear hb
        go_wp2_with fail
        go_ret
        exact ⟨ret_bool (by rw [HW.out]; first | exact decide_eq_false (by omega) | exact (decide_eq_false (by omega)).trans (decide_eq_false (by omega)).symm), Hb.out⟩
end Go.Proofs.YtbelnaiekbfoiaaGreatDoor.va
/- The reference's digits, greatest and Print return the plain functions. Conditions: the value's words lie in memory; it is no greater than 2147483647 bytes and words. -/
namespace Go.Proofs.YtbelnaiekbfoiaaGreatDoor.va
open Go.ChangeShapes Go.WideShapes Go.ChangeAt Go.RowKit gl

def ten : ByteArray := ⟨#[48, 49, 50, 51, 52, 53, 54, 55, 56, 57]⟩
theorem ten_at (d : Nat) (h : d < 10) : ten.extract d (d + 1) = B [UInt8.ofNat (48 + d)] := by
  rcases (show d = 0 ∨ d = 1 ∨ d = 2 ∨ d = 3 ∨ d = 4 ∨ d = 5 ∨ d = 6 ∨ d = 7 ∨ d = 8 ∨ d = 9 by omega) with rfl | rfl | rfl | rfl | rfl | rfl | rfl | rfl | rfl | rfl <;> decide +kernel
theorem ten_slice (d : Nat) (h : d < 10) (w : World) : (Instr.slice 9 (.string ⟨#[48, 49, 50, 51, 52, 53, 54, 55, 56, 57]⟩) (some (.int .i64 (d : Int))) (some (.int .i64 ((d : Int) + 1))) none).run Tryz.prog w = .ok (.string (B [UInt8.ofNat (48 + d)])) w := by
  have := run_slice_string (P := Tryz.prog) (w := w) 9 ten .i64 .i64 (d : Int) ((d : Int) + 1) Tryz.underlying9 (by omega) (by omega) (by show (d : Int) + 1 ≤ 10; omega)
  rw [show ((d : Int)).toNat = d by omega, show ((d : Int) + 1).toNat = d + 1 by omega, ten_at d h] at this
  exact this

set_option maxHeartbeats 1000000 in
set_option maxRecDepth 100000 in
theorem digitsN (u : Nat) : ∀ w : World, u ≤ 9223372036854775807 → Calls Tryz.prog 194 #[.int .i64 (u : Int)] w fun e w' => e = .returned (.string (B (Lib.decDigits u))) ∧ ∃ q, w' = w.drewN q := by
  induction u using Nat.strongRecOn with
  | _ u ih =>
    intro w hu
    by_cases h : u < 10
    · have hs := ten_slice u h
      rw [decDigits_lt h]
      generalize B [UInt8.ofNat (48 + u)] = D at *
      clear ih
      go_enter Tryz.func194, Tryz.ntmps194
      go_wp2_with fail
      go_ret
      exact ⟨rfl, 0, rfl⟩
    · have ihq := fun w => ih (u / 10) (by omega) w (by omega)
      have hq : (u : Int).tdiv 10 = ((u / 10 : Nat) : Int) := by rw [tdiv_ediv (by omega)]; omega
      have hr : (u : Int).tmod 10 = ((u % 10 : Nat) : Int) := by rw [Int.tmod_eq_emod_of_nonneg (by omega)]; omega
      have hs := ten_slice (u % 10) (by omega)
      have hlen := len_dec 18 (u / 10) (by omega)
      have hout : B (Lib.decDigits (u / 10)) ++ B [UInt8.ofNat (48 + u % 10)] = B (Lib.decDigits u) := by rw [decDigits_ge h]; exact ba_eq (by simp)
      have hadd : ∀ wx : World, (Op.stringOp .add (B (Lib.decDigits (u / 10))) (B [UInt8.ofNat (48 + u % 10)])).run Tryz.prog wx = .ok (.string (B (Lib.decDigits u))) wx := fun wx => by
        rw [← hout]
        refine run_string_add_sum wx _ _ ?_
        show (Lib.decDigits (u / 10)).toArray.size + 1 ≤ _
        simp
        omega
      have hb1 : ((u % 10 : Nat) : Int) ≤ 9 := by omega
      have hb2 : ((u / 10 : Nat) : Int) ≤ 922337203685477580 := by omega
      clear ih hlen hout
      generalize B (Lib.decDigits (u / 10)) = A1 at *
      generalize B (Lib.decDigits u) = A2 at *
      generalize B [UInt8.ofNat (48 + u % 10)] = D at *
      generalize u / 10 = q at *
      generalize u % 10 = r at *
      have hge : ¬ (u : Int) < 10 := by omega
      go_enter Tryz.func194, Tryz.ntmps194
      go_wp2_with fail
      go_quiet (first | (go_at_call 194; exact Calls.quiet_of (ihq _)))
      go_wp2_with fail
      go_ret
      exact ⟨rfl, nq, rfl⟩

theorem best_at {k n : Int} {j : Nat} (hj : j < 3) (hn : n ≠ 0) (hno : ∀ q, q < j → n % unit k (uname k (3 - q)) ≠ 0) (hyes : n % unit k (uname k (3 - j)) = 0) : best k n = 3 - j := by
  unfold best
  rw [if_neg hn]
  rcases (show j = 0 ∨ j = 1 ∨ j = 2 by omega) with rfl | rfl | rfl
  · rw [if_pos hyes]
  · rw [if_neg (hno 0 (by omega)), if_pos hyes]
  · rw [if_neg (hno 0 (by omega)), if_neg (hno 1 (by omega)), if_pos hyes]
theorem best_none {k n : Int} (hno : n = 0 ∨ ∀ q, q < 3 → n % unit k (uname k (3 - q)) ≠ 0) : best k n = 0 := by
  unfold best
  rcases hno with h | h
  · rw [if_pos h]
  · split
    · rfl
    · rw [if_neg (h 0 (by omega)), if_neg (h 1 (by omega)), if_neg (h 2 (by omega))]
theorem digits_any (n : Int) (h0 : 0 ≤ n) (h1 : n ≤ 9223372036854775807) (w : World) : Calls Tryz.prog 194 #[.int .i64 n] w fun e w' => e = .returned (.string (B (Lib.itoa n))) ∧ ∃ q, w' = w.drewN q := by
  obtain ⟨u, rfl⟩ := Int.eq_ofNat_of_zero_le h0
  have := digitsN u w (by omega)
  rw [itoa_pos (by omega)]
  exact this

set_option maxHeartbeats 1000000 in
set_option maxRecDepth 100000 in
theorem digitsZ (n : Int) (h0 : -4611686018427387904 ≤ n) (h1 : n ≤ 4611686018427387904) (w : World) : Calls Tryz.prog 194 #[.int .i64 n] w fun e w' => e = .returned (.string (B (Lib.itoa n))) ∧ ∃ q, w' = w.drewN q := by
  by_cases h : n < 0
  · have hd := fun w => digits_any (-n) (by omega) (by omega) w
    have hlen := itoa_len (n := -n) (by omega) (by omega)
    have hout : (⟨#[45]⟩ : ByteArray) ++ B (Lib.itoa (-n)) = B (Lib.itoa n) := by
      rw [itoa_neg h, itoa_pos (n := -n) (by omega), show (-n).toNat = n.natAbs by omega]
      exact ba_eq (by simp)
    have hadd : ∀ wx : World, (Op.stringOp .add ⟨#[45]⟩ (B (Lib.itoa (-n)))).run Tryz.prog wx = .ok (.string (B (Lib.itoa n))) wx := fun wx => by
      rw [← hout]
      refine run_string_add_sum wx _ _ ?_
      show 1 + (Lib.itoa (-n)).toArray.size ≤ _
      simp
      omega
    have hng : IntKind.i64.wrap (-n) = -n := by rw [IntKind.wrap_i64]; omega
    clear hlen hout
    generalize B (Lib.itoa (-n)) = A1 at *
    generalize B (Lib.itoa n) = A2 at *
    go_enter Tryz.func194, Tryz.ntmps194
    go_wp2_with fail
    refine (hd _).mono ?_
    rintro e w1 ⟨rfl, q, rfl⟩
    go_wp2_with fail
    go_ret
    exact ⟨rfl, q, rfl⟩
  · exact digits_any n (by omega) (by omega) w

set_option maxHeartbeats 1000000 in
set_option maxRecDepth 100000 in
theorem greatest_any (k n : Int) (hk : k = 3 ∨ k = 4) (h0 : 0 ≤ n) (h1 : n ≤ 1125899906842624) (us : ByteArray) (hus : us.size = 3) (hat : ∀ i, i < 3 → us.extract i (i + 1) = nm k (3 - i)) (w : World) :
    Calls Tryz.prog 195 #[.int .i64 k, .int .i64 n, .string us] w fun e w' => e = .returned (.string (B (Lib.itoa (n / unit k (uname k (best k n))) ++ uname k (best k n)))) ∧ ∃ q, w' = w.drewN q := by
  have Hat := Lib.hid hat
  have Hk := Lib.hid hk
  obtain ⟨X, hX⟩ : ∃ X, B (Lib.itoa (n / unit k (uname k (best k n))) ++ uname k (best k n)) = X := ⟨_, rfl⟩
  rw [hX]
  have HX := Lib.hid hX
  have hk4 : (k = 3 ∧ (k == 4) = false) ∨ (k = 4 ∧ (k == 4) = true) := by
    rcases hk with rfl | rfl
    · exact .inl ⟨rfl, rfl⟩
    · exact .inr ⟨rfl, rfl⟩
  have Hk4 := Lib.hid hk4
  clear hat hX hk hk4
  go_enter Tryz.func195, Tryz.ntmps195
  go_wp2_with fail
  go_loop [7] (fun i => ∃ j : Nat, j ≤ 3 ∧ i = .int .i64 j ∧ (∀ q, q < j → n % unit k (uname k (3 - q)) ≠ 0)) (fun i => 3 - (intOf i).toNat)
  case atStart => exact ⟨0, by omega, rfl, fun q h => by omega⟩
  case round =>
    obtain ⟨j, hj, rfl, hno⟩ := hrel
    have Hno := Lib.hid hno
    clear hno
    by_cases hgo : j < 3 ∧ 0 < n
    · obtain ⟨hlt, hpos⟩ := hgo
      have hs : ∀ wx : World, (Instr.slice 9 (.string us) (some (.int .i64 (j : Int))) (some (.int .i64 ((j : Int) + 1))) none).run Tryz.prog wx = .ok (.string (nm k (3 - j))) wx := fun wx => by
        have := run_slice_string (P := Tryz.prog) (w := wx) 9 us .i64 .i64 (j : Int) ((j : Int) + 1) Tryz.underlying9 (by omega) (by omega) (by omega)
        rw [show ((j : Int)).toNat = j by omega, show ((j : Int) + 1).toNat = j + 1 by omega, Hat.out j hlt] at this
        exact this
      have hU : ∀ W, Calls Tryz.prog 186 #[.int .i64 k, .string (nm k (3 - j))] W fun e w' => e = .returned (.int .i64 (unit k (uname k (3 - j)))) ∧ w' = W := fun W => (refUnit_any k (nm k (3 - j)) W).mono fun e w' ⟨he, hw⟩ => ⟨by rw [he], hw⟩
      have hu := unit_uname k (3 - j) Hk.out (by omega)
      have hub := (unit_nonneg k (uname k (3 - j))).2
      have hnl := uname_len k (3 - j)
      have hB : Hid (∀ r, n % unit k (uname k (3 - j)) = r → r = 0 → B (Lib.itoa (n / unit k (uname k (3 - j)))) ++ nm k (3 - j) = X) := Lib.hid (by
        rintro r hr rfl
        rw [← HX.out, best_at hlt (by omega) Hno.out hr]
        exact ba_eq (by simp))
      have hnx : Hid (∀ r, n % unit k (uname k (3 - j)) = r → r ≠ 0 → ∀ q, q < j + 1 → n % unit k (uname k (3 - q)) ≠ 0) := Lib.hid (by
        rintro r hr h q hq
        rcases Nat.lt_or_ge q j with h2 | h2
        · exact Hno.out q h2
        · obtain rfl : q = j := by omega
          rw [hr]
          exact h)
      have hnm : (nm k (3 - j)).size ≤ 1 := by show (uname k (3 - j)).toArray.size ≤ 1; simpa using hnl
      clear hnl
      generalize nm k (3 - j) = sj at *
      generalize unit k (uname k (3 - j)) = u at *
      have hu0 : ¬ u = 0 := by omega
      have htm : n.tmod u = n % u := Int.tmod_eq_emod_of_nonneg h0
      have htd : n.tdiv u = n / u := tdiv_ediv h0
      have hq0 : 0 ≤ n / u := Int.ediv_nonneg h0 (by omega)
      have hqn : n / u ≤ n := by
        have h2 := Int.mul_le_mul_of_nonneg_left (show (1 : Int) ≤ u by omega) hq0
        have h3 := Int.ediv_mul_le n (b := u) hu0
        omega
      have hr0 := Int.emod_nonneg n hu0
      have hru := Int.emod_lt_of_pos n (show 0 < u by omega)
      have HD := Lib.hid (fun W => digits_any (n / u) hq0 (by omega) W)
      have hlen := itoa_len (n := n / u) (by omega) (by omega)
      have HB2 := Lib.hid (hB.out _ rfl)
      have HN2 := Lib.hid (hnx.out _ rfl)
      have hwq : IntKind.i64.wrap (n / u) = n / u := by rw [IntKind.wrap_i64]; omega
      have hIs : (B (Lib.itoa (n / u))).size ≤ 20 := by show (Lib.itoa (n / u)).toArray.size ≤ _; simpa using hlen
      clear hB hnx hlen
      generalize B (Lib.itoa (n / u)) = I at *
      generalize n / u = q at *
      generalize n % u = r at *
      by_cases hr : r = 0
      · have hr' : (r == 0) = true := by simp [hr]
        have hadd : ∀ wx : World, (Op.stringOp .add I sj).run Tryz.prog wx = .ok (.string X) wx := fun wx => by
          rw [← HB2.out hr]
          exact run_string_add_sum wx _ _ (by omega)
        clear hr
        go_wp2_with fail
        refine (hU _).mono ?_
        rintro e w1 ⟨rfl, rfl⟩
        go_wp2_with fail
        go_quiet (first | (go_at_call 194; exact Calls.quiet_of (HD.out _)))
        go_wp2_with fail
        go_ret
        exact ⟨rfl, nq, rfl⟩
      · have hr' : (r == 0) = false := by simp [hr]
        have HN3 := Lib.hid (HN2.out hr)
        clear hr
        go_wp2_with fail
        refine (hU _).mono ?_
        rintro e w1 ⟨rfl, rfl⟩
        go_wp2_with fail
        go_round
        case rel => exact ⟨j + 1, by omega, by go_num, HN3.out⟩
        case measure => simp [intOf]; omega
    · have hbest : best k n = 0 := best_none (by
        by_cases h : n = 0
        · exact .inl h
        · exact .inr (fun q hq => Hno.out q (by omega)))
      have hX2 := HX.out
      rw [hbest] at hX2
      have HD := Lib.hid (fun W => digits_any n h0 (by omega) W)
      have hlen := itoa_len (n := n) (by omega) (by omega)
      have hIs : (B (Lib.itoa n)).size ≤ 20 := by show (Lib.itoa n).toArray.size ≤ _; simpa using hlen
      have htest : (decide ((j : Int) < 3) && decide (0 < n)) = false := by
        rw [← Bool.decide_and]
        exact decide_eq_false (fun h => hgo ⟨by omega, h.2⟩)
      have hcase : (decide ((j : Int) < 3) = false) ∨ (decide ((j : Int) < 3) = true ∧ decide (0 < n) = false) := by
        by_cases h : j < 3
        · exact .inr ⟨decide_eq_true (by omega), decide_eq_false (fun h2 => hgo ⟨h, h2⟩)⟩
        · exact .inl (decide_eq_false (by omega))
      rcases Hk4.out with ⟨rfl, k4⟩ | ⟨rfl, k4⟩
      · have hX3 : B (Lib.itoa n) = X := by
          rw [← hX2, show unit 3 (uname 3 0) = 1 from rfl, Int.ediv_one]
          exact ba_eq (by simp [uname])
        rw [hX3] at HD hIs
        have hjn : (¬ (j : Int) < 3) ∨ ((j : Int) < 3 ∧ ¬ 0 < n) := by
          by_cases h : j < 3
          · exact .inr ⟨by omega, fun h2 => hgo ⟨h, h2⟩⟩
          · exact .inl (by omega)
        clear hX2 hX3 hbest hlen hgo htest hcase
        rcases hjn with hj3 | ⟨hj3, hn3⟩
        all_goals
          go_wp2_with fail
          refine (HD.out _).mono ?_
          rintro e w1 ⟨rfl, q, rfl⟩
          go_wp2_with fail
          go_ret
          exact ⟨rfl, q, rfl⟩
      · have hX3 : B (Lib.itoa n) ++ ⟨#[115]⟩ = X := by
          rw [← hX2, show unit 4 (uname 4 0) = 1 from rfl, Int.ediv_one]
          exact ba_eq (by simp [uname])
        have hjn : (¬ (j : Int) < 3) ∨ ((j : Int) < 3 ∧ ¬ 0 < n) := by
          by_cases h : j < 3
          · exact .inr ⟨by omega, fun h2 => hgo ⟨h, h2⟩⟩
          · exact .inl (by omega)
        have hadd : ∀ wx : World, (Op.stringOp .add (B (Lib.itoa n)) ⟨#[115]⟩).run Tryz.prog wx = .ok (.string X) wx := fun wx => by
          rw [← hX3]
          refine run_string_add_sum wx _ _ ?_
          show _ + 1 ≤ _
          omega
        clear hX2 hX3 hbest hlen hgo htest hcase
        generalize B (Lib.itoa n) = I at *
        rcases hjn with hj3 | ⟨hj3, hn3⟩
        all_goals
          go_wp2_with fail
          refine (HD.out _).mono ?_
          rintro e w1 ⟨rfl, q, rfl⟩
          go_wp2_with fail
          go_ret
          exact ⟨rfl, q, rfl⟩
end Go.Proofs.YtbelnaiekbfoiaaGreatDoor.va
/- The reference's number, whole and united return the plain functions. Condition: the text is no longer than 2147483647 bytes. -/
namespace Go.Proofs.YtbelnaiekbfoiaaGreatDoor.va
open Go.ChangeShapes Go.WideShapes Go.ChangeAt Go.RowKit gl

def capN (l : List UInt8) : Nat := min (decN 0 l) 4611686018427387905
theorem capN_snoc (l : List UInt8) (j : Nat) (b : UInt8) (hb : l[j]? = some b) : capN (l.take (j + 1)) = if capN (l.take j) ≤ 461168601842738790 then min (capN (l.take j) * 10 + (b.toNat - 48)) 4611686018427387905 else 4611686018427387905 := by
  unfold capN
  rw [List.take_add_one, hb]
  simp only [Option.toList_some]
  rw [decN_snoc]
  generalize decN 0 (l.take j) = d
  split <;> omega
theorem capN_le (l : List UInt8) : capN l ≤ 4611686018427387905 := Nat.min_le_right _ _

set_option maxHeartbeats 1000000 in
set_option maxRecDepth 100000 in
theorem refNumber_any (s : ByteArray) (hs : s.size ≤ 2147483647) (w : World) :
    Calls Tryz.prog 185 #[.string s] w fun e w' => NumOut s.data.toList e ∧ w' = w := by
  have hsz : s.data.toList.length = s.size := by simp
  go_enter Tryz.func185, Tryz.ntmps185
  go_wp2_with fail
  go_loop [4, 5] (fun n i => ∃ (j N : Nat), j ≤ s.size ∧ i = .int .i64 j ∧ n = .int .i64 N ∧ N = capN (s.data.toList.take j) ∧ goodTo isDig s.data.toList j) (fun _ i => s.size - (intOf i).toNat)
  case atStart => exact ⟨0, 0, by omega, rfl, rfl, rfl, fun j b h => by omega⟩
  case round =>
    obtain ⟨j, N, hj, rfl, rfl, hN, hto⟩ := hrel
    have hNb : N ≤ 4611686018427387905 := by rw [hN]; exact capN_le _
    have HN := Lib.hid hN
    clear hN
    by_cases hlt : j < s.size
    · obtain ⟨b, hb, hbk, hb0, hb1⟩ := byteAt s j hlt
      rcases (show b.toNat < 48 ∨ (48 ≤ b.toNat ∧ b.toNat ≤ 57) ∨ 57 < b.toNat by omega) with h | ⟨h, h'⟩ | h
      · have Hbad := Lib.hid (num_bad (all_bad hb (dig_no (.inl h))))
        clear hb hto
        go_wp2_with fail
        go_ret2
        exact ⟨⟨_, _, rfl, okNum_none Hbad.out _, by omega, by omega⟩, rfl⟩
      · have Hst := Lib.hid (capN_snoc s.data.toList j b hb)
        have Hto := Lib.hid (goodTo_succ hto hb (dig_yes h h'))
        have hsub : IntKind.u8.wrap ((b.toNat : Int) - 48) = ((b.toNat - 48 : Nat) : Int) := by rw [IntKind.wrap_u8]; omega
        clear hb hto
        by_cases hle : N ≤ 461168601842738790
        · have HN2 : Hid (min (N * 10 + (b.toNat - 48)) 4611686018427387905 = capN (s.data.toList.take (j + 1))) := Lib.hid (by rw [Hst.out, ← HN.out, if_pos hle])
          by_cases hmin : N * 10 + (b.toNat - 48) ≤ 4611686018427387905
          · have HN3 : Hid (N * 10 + (b.toNat - 48) = capN (s.data.toList.take (j + 1))) := Lib.hid (by rw [← HN2.out, Nat.min_eq_left hmin])
            have hle' : (N : Int) ≤ 461168601842738790 := by omega
            have hmin' : (10 : Int) * N + ((b.toNat - 48 : Nat) : Int) ≤ 4611686018427387905 := by omega
            go_wp2_with fail
            all_goals
              first
                | (exfalso; omega)
                | (go_round
                   case rel => exact ⟨j + 1, N * 10 + (b.toNat - 48), by omega, by go_num, by go_num, HN3.out, Hto.out⟩
                   case measure => simp [intOf]; omega)
          · have HN3 : Hid (4611686018427387905 = capN (s.data.toList.take (j + 1))) := Lib.hid (by rw [← HN2.out, Nat.min_eq_right (by omega)])
            have hle' : (N : Int) ≤ 461168601842738790 := by omega
            have hmin' : ¬ (10 : Int) * N + ((b.toNat - 48 : Nat) : Int) ≤ 4611686018427387905 := by omega
            go_wp2_with fail
            all_goals
              first
                | (exfalso; omega)
                | (go_round
                   case rel => exact ⟨j + 1, 4611686018427387905, by omega, by go_num, by go_num, HN3.out, Hto.out⟩
                   case measure => simp [intOf]; omega)
        · have HN3 : Hid (4611686018427387905 = capN (s.data.toList.take (j + 1))) := Lib.hid (by rw [Hst.out, ← HN.out, if_neg hle])
          have hle' : ¬ (N : Int) ≤ 461168601842738790 := by omega
          go_wp2_with fail
          go_round
          case rel => exact ⟨j + 1, 4611686018427387905, by omega, by go_num, rfl, HN3.out, Hto.out⟩
          case measure => simp [intOf]; omega
      · have Hbad := Lib.hid (num_bad (all_bad hb (dig_no (.inr h))))
        clear hb hto
        go_wp2_with fail
        go_ret2
        exact ⟨⟨_, _, rfl, okNum_none Hbad.out _, by omega, by omega⟩, rfl⟩
    · obtain rfl : j = s.size := by omega
      have hall : s.data.toList.all isDig = true := all_good (by simpa using hto)
      have hN2 : N = capN s.data.toList := by
        have := HN.out
        rwa [List.take_of_length_le (by omega)] at this
      clear hto HN
      have hdec : decide ((s.size : Int) < (s.size : Int)) = false := by simp
      rcases num_cases _ hall with ⟨h0, hn⟩ | ⟨r, h0, hr, hn⟩ | ⟨h0, h48, hn⟩
      · have he : s.toList.isEmpty = true := by rw [ByteArray.toList_eq, h0]; rfl
        have Hn := Lib.hid hn
        clear h0 hn hall hN2
        go_wp2_with fail
        go_ret2
        exact ⟨⟨_, _, rfl, okNum_none Hn.out _, by omega, by omega⟩, rfl⟩
      · have he : s.toList.isEmpty = false := by rw [ByteArray.toList_eq, h0]; rfl
        have h2 : 1 < s.size := by
          have := List.length_pos_iff.2 hr
          rw [h0] at hsz
          simp at hsz
          omega
        have h21 : ((s.size : Int) == 1) = false := by simp; omega
        obtain ⟨b, hb, hbk, _, _⟩ := byteAt s 0 (by omega)
        rw [h0] at hb
        obtain rfl : b = 48 := by simpa using hb.symm
        have Hn := Lib.hid hn
        clear h0 hn hall hb hN2
        go_wp2_with fail
        go_ret2
        exact ⟨⟨_, _, rfl, okNum_none Hn.out _, by omega, by omega⟩, rfl⟩
      · have he : s.toList.isEmpty = false := by
          rw [ByteArray.toList_eq]
          cases hl : s.data.toList with
          | nil => exact absurd hl h0
          | cons => rfl
        have hpos : 0 < s.size := by
          have := List.length_pos_iff.2 h0
          omega
        have Hn : Hid (num s.data.toList = some N) := Lib.hid (by rw [hn, hN2]; rfl)
        obtain ⟨b, hb, hbk, _, _⟩ := byteAt s 0 hpos
        by_cases hb48 : b.toNat = 48
        · have h1 : s.size = 1 := by
            have : b = 48 := UInt8.toNat_inj.1 hb48
            subst this
            cases hl : s.data.toList with
            | nil => exact absurd hl h0
            | cons c r =>
              rw [hl] at hb hsz
              simp at hb
              subst hb
              have := h48 r hl
              subst this
              simpa using hsz.symm
          have hb48' : ((b.toNat : Int) != 48) = false := by simp [hb48]
          have h11 : ((s.size : Int) == 1) = true := by simp [h1]
          clear hb h48 h0 hn hall hN2
          go_wp2_with fail
          go_ret2
          exact ⟨⟨_, _, rfl, okNum_some Hn.out, by omega, by omega⟩, rfl⟩
        · have hb48' : ((b.toNat : Int) != 48) = true := by simp; omega
          clear hb h48 h0 hn hall hN2
          go_wp2_with fail
          go_ret2
          exact ⟨⟨_, _, rfl, okNum_some Hn.out, by omega, by omega⟩, rfl⟩
end Go.Proofs.YtbelnaiekbfoiaaGreatDoor.va
/- The reference's whole and united return the plain functions. Condition: the text is no longer than 2147483647 bytes. -/
namespace Go.Proofs.YtbelnaiekbfoiaaGreatDoor.va
open Go.ChangeShapes Go.WideShapes Go.ChangeAt Go.RowKit gl

set_option maxHeartbeats 1000000 in
set_option maxRecDepth 100000 in
theorem refWhole_any (s : ByteArray) (hs : s.size ≤ 2147483647) (w : World) :
    Calls Tryz.prog 140 #[.string s] w fun e w' => e = .returned (res (parseInt s.data.toList) (.slice none 0 0)) ∧ Below w.heap.size w w' := by
  have hE := parseInt_eq s.data.toList
  by_cases hneg : s.data.toList.head? = some 45
  · simp only [hneg, if_true, true_and] at hE
    have hpos : 0 < s.size := by
      cases hl : s.data.toList with
      | nil => rw [hl] at hneg; cases hneg
      | cons c r =>
        have := congrArg List.length hl
        simp at this
        omega
    have he : s.toList.isEmpty = false := by
      rw [ByteArray.toList_eq]
      cases hl : s.data.toList with
      | nil => rw [hl] at hneg; cases hneg
      | cons => rfl
    obtain ⟨b, hb, hbk, _, _⟩ := byteAt s 0 hpos
    have hb45 : b = 45 := by
      rw [List.head?_eq_getElem?, hb] at hneg
      exact Option.some.inj hneg
    subst hb45
    have hsl : ∀ wx : World, (Instr.slice 9 (.string s) (some (.int .i64 1)) none none).run Tryz.prog wx = .ok (.string (s.extract 1 s.size)) wx := fun wx => by
      rw [run_slice_string_from_if (h := Tryz.underlying9), if_pos (by omega)]
      rfl
    have htl : (s.extract 1 s.size).data.toList = s.data.toList.tail := by rw [drop_ba, List.drop_one]
    have hne : s.extract 1 s.size ≠ s := by
      intro e
      have h1 := congrArg ByteArray.size e
      rw [ByteArray.size_extract] at h1
      omega
    have hne1 : ((s.extract 1 s.size).toList == s.toList) = false := seq_false hne
    have hne2 : ((s.extract 1 s.size).toList != s.toList) = true := by rw [bne, hne1]; rfl
    have hN := fun W => refNumber_any (s.extract 1 s.size) (by rw [ByteArray.size_extract]; omega) W
    rw [htl] at hN
    have HE := Lib.hid hE
    clear hE hneg hb htl hne
    generalize s.extract 1 s.size = t at *
    go_enter Tryz.func140, Tryz.ntmps140
    go_wp2_with fail
    refine (hN _).mono ?_
    rintro e w1 ⟨⟨n, ok, rfl, hok, hn0, hn1⟩, rfl⟩
    cases ok with
    | false =>
      have He : Hid (parseInt s.data.toList = (zero, 40)) := Lib.hid (by rw [HE.out, okNum_f hok])
      clear hok
      go_wp2_with fail
      go_returns
      exact ⟨by rw [He.out]; rfl, by go_grown⟩
    | true =>
      obtain ⟨m, hm, rfl⟩ := okNum_t hok
      have HE2 := Lib.hid (HE.out.trans (by rw [hm]))
      simp only at HE2
      clear hok hm
      by_cases h0 : m = 0
      · have He : Hid (parseInt s.data.toList = (zero, 40)) := Lib.hid (by rw [HE2.out, if_pos h0])
        subst h0
        go_wp2_with fail
        go_returns
        exact ⟨by rw [He.out]; rfl, by go_grown⟩
      · have h0' : ((m : Int) == 0) = false := by simp; omega
        by_cases h62 : 4611686018427387904 < m
        · have He : Hid (parseInt s.data.toList = (zero, 41)) := Lib.hid (by rw [HE2.out, if_neg h0, if_pos h62])
          go_wp2_with fail
          go_returns
          exact ⟨by rw [He.out]; rfl, by go_grown⟩
        · have He : Hid (parseInt s.data.toList = (⟨2, -(m : Int), ByteArray.empty, []⟩, 0)) := Lib.hid (by rw [HE2.out, if_neg h0, if_neg h62])
          go_wp2_with fail
          go_returns
          exact ⟨by rw [He.out]; rfl, by go_grown⟩
  · simp only [hneg, if_false, false_and] at hE
    have htest : s.toList.isEmpty = true ∨ (s.toList.isEmpty = false ∧ ∃ b : UInt8, 0 < s.size ∧ (∀ h' : 0 < s.size, ((s[0]'h').toNat : Int) = (b.toNat : Int)) ∧ ((b.toNat : Int) == 45) = false) := by
      cases hl : s.data.toList with
      | nil => exact .inl (by rw [ByteArray.toList_eq, hl]; rfl)
      | cons c r =>
        have hpos : 0 < s.size := by
          have := congrArg List.length hl
          simp at this
          omega
        obtain ⟨b, hb, hbk, _, _⟩ := byteAt s 0 hpos
        refine .inr ⟨by rw [ByteArray.toList_eq, hl]; rfl, b, hpos, hbk, ?_⟩
        rw [beq_eq_false_iff_ne]
        intro e
        refine hneg ?_
        rw [List.head?_eq_getElem?, hb]
        congr 1
        exact UInt8.toNat_inj.1 (by show b.toNat = 45; omega)
    have hN := fun W => refNumber_any s hs W
    have heq1 : (s.toList == s.toList) = true := seq_true rfl
    have heq2 : (s.toList != s.toList) = false := by rw [bne, heq1]; rfl
    have HE := Lib.hid hE
    clear hE hneg
    rcases htest with he | ⟨he, b, hpos, hbk, hb45⟩
    all_goals
      go_enter Tryz.func140, Tryz.ntmps140
      go_wp2_with fail
      refine (hN _).mono ?_
      rintro e w1 ⟨⟨n, ok, rfl, hok, hn0, hn1⟩, rfl⟩
      cases ok with
      | false =>
        have He : Hid (parseInt s.data.toList = (zero, 40)) := Lib.hid (by rw [HE.out, okNum_f hok])
        clear hok
        go_wp2_with fail
        go_returns
        exact ⟨by rw [He.out]; rfl, by go_grown⟩
      | true =>
        obtain ⟨m, hm, rfl⟩ := okNum_t hok
        have HE2 := Lib.hid (HE.out.trans (by rw [hm]))
        simp only at HE2
        clear hok hm
        by_cases h62 : 4611686018427387904 < m
        · have He : Hid (parseInt s.data.toList = (zero, 41)) := Lib.hid (by rw [HE2.out, if_pos h62])
          by_cases h0 : m = 0
          · omega
          · have h0' : ((m : Int) == 0) = false := by simp; omega
            go_wp2_with fail
            go_returns
            exact ⟨by rw [He.out]; rfl, by go_grown⟩
        · have He : Hid (parseInt s.data.toList = (⟨2, (m : Int), ByteArray.empty, []⟩, 0)) := Lib.hid (by rw [HE2.out, if_neg h62])
          by_cases h0 : m = 0
          · have h0' : ((m : Int) == 0) = true := by simp [h0]
            clear h0
            go_wp2_with fail
            go_returns
            exact ⟨by rw [He.out]; rfl, by go_grown⟩
          · have h0' : ((m : Int) == 0) = false := by simp; omega
            go_wp2_with fail
            go_returns
            exact ⟨by rw [He.out]; rfl, by go_grown⟩

set_option maxHeartbeats 1000000 in
set_option maxRecDepth 100000 in
theorem refUnited_any (k : Int) (hk : k = 3 ∨ k = 4) (s : ByteArray) (hs : s.size ≤ 2147483647) (w : World) :
    Calls Tryz.prog 141 #[.int .i64 k, .string s] w fun e w' => e = .returned (res (parseUnit k s.data.toList) (.slice none 0 0)) ∧ Below w.heap.size w w' := by
  have hdl : digs s.data.toList ≤ s.size := by have := digs_le s.data.toList; simpa using this
  have hM : 0 ≤ most k ∧ most k ≤ 1125899906842624 := by rcases hk with rfl | rfl <;> decide
  have hmo := most_any k hk
  have hsl1 : ∀ wx : World, (Instr.slice 9 (.string s) none (some (.int .i64 ((digs s.data.toList : Nat) : Int))) none).run Tryz.prog wx = .ok (.string (s.extract 0 (digs s.data.toList))) wx := fun wx => by
    rw [run_slice_string_to_if (h := Tryz.underlying9), if_pos (by omega)]
    rfl
  have hsl2 : ∀ wx : World, (Instr.slice 9 (.string s) (some (.int .i64 ((digs s.data.toList : Nat) : Int))) none none).run Tryz.prog wx = .ok (.string (s.extract (digs s.data.toList) s.size)) wx := fun wx => by
    rw [run_slice_string_from_if (h := Tryz.underlying9), if_pos (by omega)]
    rfl
  have hN := fun W => refNumber_any (s.extract 0 (digs s.data.toList)) (by rw [ByteArray.size_extract]; omega) W
  rw [take_ba] at hN
  have hU : ∀ W, Calls Tryz.prog 186 #[.int .i64 k, .string (s.extract (digs s.data.toList) s.size)] W fun e w' => e = .returned (.int .i64 (unit k (s.data.toList.drop (digs s.data.toList)))) ∧ w' = W := fun W => by
    have := refUnit_any k (s.extract (digs s.data.toList) s.size) W
    rwa [drop_ba] at this
  have HE : Hid (parseUnit k s.data.toList = match num (s.data.toList.take (digs s.data.toList)) with
    | none => (zero, 40)
    | some n => if tail k s.data.toList = 0 then (zero, 40) else if most k / tail k s.data.toList < n then (zero, 41) else (⟨k, n * tail k s.data.toList, ByteArray.empty, []⟩, 0)) := Lib.hid rfl
  have htail : (∃ q : Bool, q = true ∧ ((k == 4) = true ∧ (s.toList == [48]) = true) ∧ tail k s.data.toList = 1) ∨ (((k == 4) = false ∨ ((k == 4) = true ∧ (s.toList == [48]) = false)) ∧ tail k s.data.toList = unit k (s.data.toList.drop (digs s.data.toList))) := by
    by_cases h : k = 4 ∧ s.data.toList = [48]
    · exact .inl ⟨true, rfl, ⟨by simp [h.1], seq_lit h.2⟩, by unfold tail; rw [if_pos h]⟩
    · refine .inr ⟨?_, by unfold tail; rw [if_neg h]⟩
      by_cases h4 : k = 4
      · exact .inr ⟨by simp [h4], seq_nlit fun e => h ⟨h4, e⟩⟩
      · exact .inl (by simp [h4])
  have hub := unit_nonneg k (s.data.toList.drop (digs s.data.toList))
  have HD : Hid (∀ j, j ≤ s.size → goodTo isDig s.data.toList j → (∀ b, s.data.toList[j]? = some b → isDig b = false) → digs s.data.toList = j) := Lib.hid (fun j hj hg he => digs_at (fun i b hi hb => hg i b hi hb) (by simpa using hj) he)
  generalize tail k s.data.toList = u at *
  generalize most k = M at *
  obtain ⟨T1, hT1⟩ : ∃ T, num (s.data.toList.take (digs s.data.toList)) = T := ⟨_, rfl⟩
  rw [hT1] at HE
  have HT1 := Lib.hid hT1
  clear hT1
  have Hall := Lib.hid (And.intro hsl1 (And.intro hsl2 (And.intro hN hU)))
  have Htail := Lib.hid htail
  have Hmo := Lib.hid hmo
  have Hdl := Lib.hid hdl
  generalize unit k (s.data.toList.drop (digs s.data.toList)) = u0 at *
  obtain ⟨hM0, hM1⟩ := hM
  obtain ⟨hub0, hub1⟩ := hub
  clear hsl1 hsl2 hN hU htail hmo hdl hk
  go_enter Tryz.func141, Tryz.ntmps141
  go_wp2_with fail
  go_loop [6] (fun i => ∃ j : Nat, j ≤ s.size ∧ i = .int .i64 j ∧ goodTo isDig s.data.toList j) (fun i => s.size - (intOf i).toNat)
  case atStart => exact ⟨0, by omega, rfl, fun j b h => by omega⟩
  case round =>
    obtain ⟨j, hj, rfl, hto⟩ := hrel
    by_cases hmore : ∃ b, s.data.toList[j]? = some b ∧ isDig b = true
    · obtain ⟨b0, hb0', hd⟩ := hmore
      have hlt : j < s.size := by have := gl.lt_of_get hb0'; simpa using this
      obtain ⟨b, hb, hbk, hb0, hb1⟩ := byteAt s j hlt
      obtain rfl : b = b0 := Option.some.inj (hb.symm.trans hb0')
      have hd' : 48 ≤ b.toNat ∧ b.toNat ≤ 57 := of_decide_eq_true hd
      obtain ⟨hd1, hd2⟩ := hd'
      have Hto := Lib.hid (goodTo_succ hto hb hd)
      clear hto hb hb0' hd
      go_wp2_with fail
      go_round
      case rel => exact ⟨j + 1, by omega, by go_num, Hto.out⟩
      case measure => simp [intOf]; omega
    · have hdig := HD.out j hj hto (fun b hb => by
        cases h : isDig b with
        | false => rfl
        | true => exact absurd ⟨b, hb, h⟩ hmore)
      obtain ⟨hsl1, hsl2, hN, hU⟩ := Hall.out
      rw [hdig] at hsl1 hsl2 hN hU
      have hT1 := HT1.out
      rw [hdig] at hT1
      have hcond : (¬ (j : Int) < (s.size : Int)) ∨ (∃ b : UInt8, j < s.size ∧ (∀ h' : j < s.size, ((s[j]'h').toNat : Int) = (b.toNat : Int)) ∧ ((b.toNat : Int) < 48 ∨ (48 ≤ (b.toNat : Int) ∧ 57 < (b.toNat : Int)))) := by
        by_cases hlt : j < s.size
        · obtain ⟨b, hb, hbk, _, _⟩ := byteAt s j hlt
          refine .inr ⟨b, hlt, hbk, ?_⟩
          have : ¬ (48 ≤ b.toNat ∧ b.toNat ≤ 57) := fun h => hmore ⟨b, hb, decide_eq_true h⟩
          omega
        · exact .inl (by omega)
      have hNT : ∀ W, Calls Tryz.prog 185 #[.string (s.extract 0 j)] W fun e w' => (∃ (n : Int) (b : Bool), e = .returned (.tuple #[.int .i64 n, .bool b]) ∧ okNum T1 n b ∧ 0 ≤ n ∧ n ≤ 4611686018427387905) ∧ w' = W := fun W => (hN W).mono fun e w' ⟨⟨n, b, he, hok, h1, h2⟩, hw⟩ => ⟨⟨n, b, he, by rw [hT1] at hok; exact hok, h1, h2⟩, hw⟩
      have HNT := Lib.hid hNT
      have HU := Lib.hid hU
      clear hN hU hNT hto hmore hdig HD hT1
      generalize s.extract 0 j = t1 at *
      generalize s.extract j s.size = t2 at *
      rcases hcond with hc0 | ⟨b, hlt, hbk, hc1 | ⟨hc1, hc2⟩⟩
      · rcases Htail.out with ⟨_, _, ⟨k4, s48⟩, hu⟩ | ⟨k4 | ⟨k4, s48⟩, hu⟩
        · rw [hu] at HE
          clear Htail hu
          go_wp2_with fail
          refine (HNT.out _).mono ?_
          rintro e w1 ⟨⟨n, ok, rfl, hok, hn0, hn1⟩, rfl⟩
          go_wp2_with fail
          refine (HU.out _).mono ?_
          rintro e w2 ⟨rfl, rfl⟩
          cases ok with
          | false =>
            have He : Hid (parseUnit k s.data.toList = (zero, 40)) := Lib.hid (by rw [HE.out, okNum_f hok])
            clear hok
            go_wp2_with fail
            go_returns
            exact ⟨by rw [He.out]; rfl, by go_grown⟩
          | true =>
            obtain ⟨m, hm, rfl⟩ := okNum_t hok
            have HE2 := Lib.hid (HE.out.trans (by rw [hm]))
            simp only at HE2
            clear hok hm
            have hq1 : M.tdiv 1 = M := by rw [tdiv_ediv hM0, Int.ediv_one]
            by_cases hgt : M < m
            · have He : Hid (parseUnit k s.data.toList = (zero, 41)) := Lib.hid (by rw [HE2.out, if_neg (by decide), Int.ediv_one, if_pos hgt])
              go_wp2_with fail
              refine (Hmo.out _).mono ?_
              rintro e w3 ⟨rfl, rfl⟩
              go_wp2_with fail
              go_returns
              exact ⟨by rw [He.out]; rfl, by go_grown⟩
            · have He : Hid (parseUnit k s.data.toList = (⟨k, (m : Int) * 1, ByteArray.empty, []⟩, 0)) := Lib.hid (by rw [HE2.out, if_neg (by decide), Int.ediv_one, if_neg hgt])
              rw [Int.mul_one] at He
              go_wp2_with fail
              refine (Hmo.out _).mono ?_
              rintro e w3 ⟨rfl, rfl⟩
              go_wp2_with fail
              go_returns
              exact ⟨by rw [He.out]; rfl, by go_grown⟩
        · rw [hu] at HE
          clear Htail hu
          go_wp2_with fail
          refine (HNT.out _).mono ?_
          rintro e w1 ⟨⟨n, ok, rfl, hok, hn0, hn1⟩, rfl⟩
          go_wp2_with fail
          refine (HU.out _).mono ?_
          rintro e w2 ⟨rfl, rfl⟩
          cases ok with
          | false =>
            have He : Hid (parseUnit k s.data.toList = (zero, 40)) := Lib.hid (by rw [HE.out, okNum_f hok])
            clear hok
            go_wp2_with fail
            go_returns
            exact ⟨by rw [He.out]; rfl, by go_grown⟩
          | true =>
            obtain ⟨m, hm, rfl⟩ := okNum_t hok
            have HE2 := Lib.hid (HE.out.trans (by rw [hm]))
            simp only at HE2
            clear hok hm
            by_cases h0 : u0 = 0
            · have He : Hid (parseUnit k s.data.toList = (zero, 40)) := Lib.hid (by rw [HE2.out, if_pos h0])
              subst h0
              go_wp2_with fail
              go_returns
              exact ⟨by rw [He.out]; rfl, by go_grown⟩
            · have h0' : (u0 == 0) = false := by simp [h0]
              have hq : M.tdiv u0 = M / u0 := tdiv_ediv hM0
              have hqm : 0 ≤ M / u0 ∧ M / u0 ≤ M := ⟨Int.ediv_nonneg hM0 hub0, by
                have := Int.mul_le_mul_of_nonneg_left (show (1 : Int) ≤ u0 by omega) (Int.ediv_nonneg hM0 hub0)
                have := Int.ediv_mul_le M (b := u0) h0
                omega⟩
              have Hmul : Hid ((m : Int) ≤ M / u0 → 0 ≤ (m : Int) * u0 ∧ (m : Int) * u0 ≤ M) := Lib.hid (fun h => ⟨Int.mul_nonneg (by omega) hub0, by
                have h2 := Int.mul_le_mul_of_nonneg_right h hub0
                have h3 := Int.ediv_mul_le M (b := u0) h0
                omega⟩)
              generalize M / u0 = q at *
              obtain ⟨hq0, hqM⟩ := hqm
              have hwq : IntKind.i64.wrap q = q := by rw [IntKind.wrap_i64]; omega
              by_cases hgt : q < m
              · have He : Hid (parseUnit k s.data.toList = (zero, 41)) := Lib.hid (by rw [HE2.out, if_neg h0, if_pos hgt])
                go_wp2_with fail
                refine (Hmo.out _).mono ?_
                rintro e w3 ⟨rfl, rfl⟩
                go_wp2_with fail
                go_returns
                exact ⟨by rw [He.out]; rfl, by go_grown⟩
              · have He : Hid (parseUnit k s.data.toList = (⟨k, m * u0, ByteArray.empty, []⟩, 0)) := Lib.hid (by rw [HE2.out, if_neg h0, if_neg hgt])
                obtain ⟨hp0, hp1⟩ := Hmul.out (by omega)
                go_wp2_with fail
                refine (Hmo.out _).mono ?_
                rintro e w3 ⟨rfl, rfl⟩
                go_wp2_with fail
                go_returns
                exact ⟨by rw [He.out]; rfl, by go_grown⟩
        · rw [hu] at HE
          clear Htail hu
          go_wp2_with fail
          refine (HNT.out _).mono ?_
          rintro e w1 ⟨⟨n, ok, rfl, hok, hn0, hn1⟩, rfl⟩
          go_wp2_with fail
          refine (HU.out _).mono ?_
          rintro e w2 ⟨rfl, rfl⟩
          cases ok with
          | false =>
            have He : Hid (parseUnit k s.data.toList = (zero, 40)) := Lib.hid (by rw [HE.out, okNum_f hok])
            clear hok
            go_wp2_with fail
            go_returns
            exact ⟨by rw [He.out]; rfl, by go_grown⟩
          | true =>
            obtain ⟨m, hm, rfl⟩ := okNum_t hok
            have HE2 := Lib.hid (HE.out.trans (by rw [hm]))
            simp only at HE2
            clear hok hm
            by_cases h0 : u0 = 0
            · have He : Hid (parseUnit k s.data.toList = (zero, 40)) := Lib.hid (by rw [HE2.out, if_pos h0])
              subst h0
              go_wp2_with fail
              go_returns
              exact ⟨by rw [He.out]; rfl, by go_grown⟩
            · have h0' : (u0 == 0) = false := by simp [h0]
              have hq : M.tdiv u0 = M / u0 := tdiv_ediv hM0
              have hqm : 0 ≤ M / u0 ∧ M / u0 ≤ M := ⟨Int.ediv_nonneg hM0 hub0, by
                have := Int.mul_le_mul_of_nonneg_left (show (1 : Int) ≤ u0 by omega) (Int.ediv_nonneg hM0 hub0)
                have := Int.ediv_mul_le M (b := u0) h0
                omega⟩
              have Hmul : Hid ((m : Int) ≤ M / u0 → 0 ≤ (m : Int) * u0 ∧ (m : Int) * u0 ≤ M) := Lib.hid (fun h => ⟨Int.mul_nonneg (by omega) hub0, by
                have h2 := Int.mul_le_mul_of_nonneg_right h hub0
                have h3 := Int.ediv_mul_le M (b := u0) h0
                omega⟩)
              generalize M / u0 = q at *
              obtain ⟨hq0, hqM⟩ := hqm
              have hwq : IntKind.i64.wrap q = q := by rw [IntKind.wrap_i64]; omega
              by_cases hgt : q < m
              · have He : Hid (parseUnit k s.data.toList = (zero, 41)) := Lib.hid (by rw [HE2.out, if_neg h0, if_pos hgt])
                go_wp2_with fail
                refine (Hmo.out _).mono ?_
                rintro e w3 ⟨rfl, rfl⟩
                go_wp2_with fail
                go_returns
                exact ⟨by rw [He.out]; rfl, by go_grown⟩
              · have He : Hid (parseUnit k s.data.toList = (⟨k, m * u0, ByteArray.empty, []⟩, 0)) := Lib.hid (by rw [HE2.out, if_neg h0, if_neg hgt])
                obtain ⟨hp0, hp1⟩ := Hmul.out (by omega)
                go_wp2_with fail
                refine (Hmo.out _).mono ?_
                rintro e w3 ⟨rfl, rfl⟩
                go_wp2_with fail
                go_returns
                exact ⟨by rw [He.out]; rfl, by go_grown⟩
      · rcases Htail.out with ⟨_, _, ⟨k4, s48⟩, hu⟩ | ⟨k4 | ⟨k4, s48⟩, hu⟩
        · rw [hu] at HE
          clear Htail hu
          go_wp2_with fail
          refine (HNT.out _).mono ?_
          rintro e w1 ⟨⟨n, ok, rfl, hok, hn0, hn1⟩, rfl⟩
          go_wp2_with fail
          refine (HU.out _).mono ?_
          rintro e w2 ⟨rfl, rfl⟩
          cases ok with
          | false =>
            have He : Hid (parseUnit k s.data.toList = (zero, 40)) := Lib.hid (by rw [HE.out, okNum_f hok])
            clear hok
            go_wp2_with fail
            go_returns
            exact ⟨by rw [He.out]; rfl, by go_grown⟩
          | true =>
            obtain ⟨m, hm, rfl⟩ := okNum_t hok
            have HE2 := Lib.hid (HE.out.trans (by rw [hm]))
            simp only at HE2
            clear hok hm
            have hq1 : M.tdiv 1 = M := by rw [tdiv_ediv hM0, Int.ediv_one]
            by_cases hgt : M < m
            · have He : Hid (parseUnit k s.data.toList = (zero, 41)) := Lib.hid (by rw [HE2.out, if_neg (by decide), Int.ediv_one, if_pos hgt])
              go_wp2_with fail
              refine (Hmo.out _).mono ?_
              rintro e w3 ⟨rfl, rfl⟩
              go_wp2_with fail
              go_returns
              exact ⟨by rw [He.out]; rfl, by go_grown⟩
            · have He : Hid (parseUnit k s.data.toList = (⟨k, (m : Int) * 1, ByteArray.empty, []⟩, 0)) := Lib.hid (by rw [HE2.out, if_neg (by decide), Int.ediv_one, if_neg hgt])
              rw [Int.mul_one] at He
              go_wp2_with fail
              refine (Hmo.out _).mono ?_
              rintro e w3 ⟨rfl, rfl⟩
              go_wp2_with fail
              go_returns
              exact ⟨by rw [He.out]; rfl, by go_grown⟩
        · rw [hu] at HE
          clear Htail hu
          go_wp2_with fail
          refine (HNT.out _).mono ?_
          rintro e w1 ⟨⟨n, ok, rfl, hok, hn0, hn1⟩, rfl⟩
          go_wp2_with fail
          refine (HU.out _).mono ?_
          rintro e w2 ⟨rfl, rfl⟩
          cases ok with
          | false =>
            have He : Hid (parseUnit k s.data.toList = (zero, 40)) := Lib.hid (by rw [HE.out, okNum_f hok])
            clear hok
            go_wp2_with fail
            go_returns
            exact ⟨by rw [He.out]; rfl, by go_grown⟩
          | true =>
            obtain ⟨m, hm, rfl⟩ := okNum_t hok
            have HE2 := Lib.hid (HE.out.trans (by rw [hm]))
            simp only at HE2
            clear hok hm
            by_cases h0 : u0 = 0
            · have He : Hid (parseUnit k s.data.toList = (zero, 40)) := Lib.hid (by rw [HE2.out, if_pos h0])
              subst h0
              go_wp2_with fail
              go_returns
              exact ⟨by rw [He.out]; rfl, by go_grown⟩
            · have h0' : (u0 == 0) = false := by simp [h0]
              have hq : M.tdiv u0 = M / u0 := tdiv_ediv hM0
              have hqm : 0 ≤ M / u0 ∧ M / u0 ≤ M := ⟨Int.ediv_nonneg hM0 hub0, by
                have := Int.mul_le_mul_of_nonneg_left (show (1 : Int) ≤ u0 by omega) (Int.ediv_nonneg hM0 hub0)
                have := Int.ediv_mul_le M (b := u0) h0
                omega⟩
              have Hmul : Hid ((m : Int) ≤ M / u0 → 0 ≤ (m : Int) * u0 ∧ (m : Int) * u0 ≤ M) := Lib.hid (fun h => ⟨Int.mul_nonneg (by omega) hub0, by
                have h2 := Int.mul_le_mul_of_nonneg_right h hub0
                have h3 := Int.ediv_mul_le M (b := u0) h0
                omega⟩)
              generalize M / u0 = q at *
              obtain ⟨hq0, hqM⟩ := hqm
              have hwq : IntKind.i64.wrap q = q := by rw [IntKind.wrap_i64]; omega
              by_cases hgt : q < m
              · have He : Hid (parseUnit k s.data.toList = (zero, 41)) := Lib.hid (by rw [HE2.out, if_neg h0, if_pos hgt])
                go_wp2_with fail
                refine (Hmo.out _).mono ?_
                rintro e w3 ⟨rfl, rfl⟩
                go_wp2_with fail
                go_returns
                exact ⟨by rw [He.out]; rfl, by go_grown⟩
              · have He : Hid (parseUnit k s.data.toList = (⟨k, m * u0, ByteArray.empty, []⟩, 0)) := Lib.hid (by rw [HE2.out, if_neg h0, if_neg hgt])
                obtain ⟨hp0, hp1⟩ := Hmul.out (by omega)
                go_wp2_with fail
                refine (Hmo.out _).mono ?_
                rintro e w3 ⟨rfl, rfl⟩
                go_wp2_with fail
                go_returns
                exact ⟨by rw [He.out]; rfl, by go_grown⟩
        · rw [hu] at HE
          clear Htail hu
          go_wp2_with fail
          refine (HNT.out _).mono ?_
          rintro e w1 ⟨⟨n, ok, rfl, hok, hn0, hn1⟩, rfl⟩
          go_wp2_with fail
          refine (HU.out _).mono ?_
          rintro e w2 ⟨rfl, rfl⟩
          cases ok with
          | false =>
            have He : Hid (parseUnit k s.data.toList = (zero, 40)) := Lib.hid (by rw [HE.out, okNum_f hok])
            clear hok
            go_wp2_with fail
            go_returns
            exact ⟨by rw [He.out]; rfl, by go_grown⟩
          | true =>
            obtain ⟨m, hm, rfl⟩ := okNum_t hok
            have HE2 := Lib.hid (HE.out.trans (by rw [hm]))
            simp only at HE2
            clear hok hm
            by_cases h0 : u0 = 0
            · have He : Hid (parseUnit k s.data.toList = (zero, 40)) := Lib.hid (by rw [HE2.out, if_pos h0])
              subst h0
              go_wp2_with fail
              go_returns
              exact ⟨by rw [He.out]; rfl, by go_grown⟩
            · have h0' : (u0 == 0) = false := by simp [h0]
              have hq : M.tdiv u0 = M / u0 := tdiv_ediv hM0
              have hqm : 0 ≤ M / u0 ∧ M / u0 ≤ M := ⟨Int.ediv_nonneg hM0 hub0, by
                have := Int.mul_le_mul_of_nonneg_left (show (1 : Int) ≤ u0 by omega) (Int.ediv_nonneg hM0 hub0)
                have := Int.ediv_mul_le M (b := u0) h0
                omega⟩
              have Hmul : Hid ((m : Int) ≤ M / u0 → 0 ≤ (m : Int) * u0 ∧ (m : Int) * u0 ≤ M) := Lib.hid (fun h => ⟨Int.mul_nonneg (by omega) hub0, by
                have h2 := Int.mul_le_mul_of_nonneg_right h hub0
                have h3 := Int.ediv_mul_le M (b := u0) h0
                omega⟩)
              generalize M / u0 = q at *
              obtain ⟨hq0, hqM⟩ := hqm
              have hwq : IntKind.i64.wrap q = q := by rw [IntKind.wrap_i64]; omega
              by_cases hgt : q < m
              · have He : Hid (parseUnit k s.data.toList = (zero, 41)) := Lib.hid (by rw [HE2.out, if_neg h0, if_pos hgt])
                go_wp2_with fail
                refine (Hmo.out _).mono ?_
                rintro e w3 ⟨rfl, rfl⟩
                go_wp2_with fail
                go_returns
                exact ⟨by rw [He.out]; rfl, by go_grown⟩
              · have He : Hid (parseUnit k s.data.toList = (⟨k, m * u0, ByteArray.empty, []⟩, 0)) := Lib.hid (by rw [HE2.out, if_neg h0, if_neg hgt])
                obtain ⟨hp0, hp1⟩ := Hmul.out (by omega)
                go_wp2_with fail
                refine (Hmo.out _).mono ?_
                rintro e w3 ⟨rfl, rfl⟩
                go_wp2_with fail
                go_returns
                exact ⟨by rw [He.out]; rfl, by go_grown⟩
      · rcases Htail.out with ⟨_, _, ⟨k4, s48⟩, hu⟩ | ⟨k4 | ⟨k4, s48⟩, hu⟩
        · rw [hu] at HE
          clear Htail hu
          go_wp2_with fail
          refine (HNT.out _).mono ?_
          rintro e w1 ⟨⟨n, ok, rfl, hok, hn0, hn1⟩, rfl⟩
          go_wp2_with fail
          refine (HU.out _).mono ?_
          rintro e w2 ⟨rfl, rfl⟩
          cases ok with
          | false =>
            have He : Hid (parseUnit k s.data.toList = (zero, 40)) := Lib.hid (by rw [HE.out, okNum_f hok])
            clear hok
            go_wp2_with fail
            go_returns
            exact ⟨by rw [He.out]; rfl, by go_grown⟩
          | true =>
            obtain ⟨m, hm, rfl⟩ := okNum_t hok
            have HE2 := Lib.hid (HE.out.trans (by rw [hm]))
            simp only at HE2
            clear hok hm
            have hq1 : M.tdiv 1 = M := by rw [tdiv_ediv hM0, Int.ediv_one]
            by_cases hgt : M < m
            · have He : Hid (parseUnit k s.data.toList = (zero, 41)) := Lib.hid (by rw [HE2.out, if_neg (by decide), Int.ediv_one, if_pos hgt])
              go_wp2_with fail
              refine (Hmo.out _).mono ?_
              rintro e w3 ⟨rfl, rfl⟩
              go_wp2_with fail
              go_returns
              exact ⟨by rw [He.out]; rfl, by go_grown⟩
            · have He : Hid (parseUnit k s.data.toList = (⟨k, (m : Int) * 1, ByteArray.empty, []⟩, 0)) := Lib.hid (by rw [HE2.out, if_neg (by decide), Int.ediv_one, if_neg hgt])
              rw [Int.mul_one] at He
              go_wp2_with fail
              refine (Hmo.out _).mono ?_
              rintro e w3 ⟨rfl, rfl⟩
              go_wp2_with fail
              go_returns
              exact ⟨by rw [He.out]; rfl, by go_grown⟩
        · rw [hu] at HE
          clear Htail hu
          go_wp2_with fail
          refine (HNT.out _).mono ?_
          rintro e w1 ⟨⟨n, ok, rfl, hok, hn0, hn1⟩, rfl⟩
          go_wp2_with fail
          refine (HU.out _).mono ?_
          rintro e w2 ⟨rfl, rfl⟩
          cases ok with
          | false =>
            have He : Hid (parseUnit k s.data.toList = (zero, 40)) := Lib.hid (by rw [HE.out, okNum_f hok])
            clear hok
            go_wp2_with fail
            go_returns
            exact ⟨by rw [He.out]; rfl, by go_grown⟩
          | true =>
            obtain ⟨m, hm, rfl⟩ := okNum_t hok
            have HE2 := Lib.hid (HE.out.trans (by rw [hm]))
            simp only at HE2
            clear hok hm
            by_cases h0 : u0 = 0
            · have He : Hid (parseUnit k s.data.toList = (zero, 40)) := Lib.hid (by rw [HE2.out, if_pos h0])
              subst h0
              go_wp2_with fail
              go_returns
              exact ⟨by rw [He.out]; rfl, by go_grown⟩
            · have h0' : (u0 == 0) = false := by simp [h0]
              have hq : M.tdiv u0 = M / u0 := tdiv_ediv hM0
              have hqm : 0 ≤ M / u0 ∧ M / u0 ≤ M := ⟨Int.ediv_nonneg hM0 hub0, by
                have := Int.mul_le_mul_of_nonneg_left (show (1 : Int) ≤ u0 by omega) (Int.ediv_nonneg hM0 hub0)
                have := Int.ediv_mul_le M (b := u0) h0
                omega⟩
              have Hmul : Hid ((m : Int) ≤ M / u0 → 0 ≤ (m : Int) * u0 ∧ (m : Int) * u0 ≤ M) := Lib.hid (fun h => ⟨Int.mul_nonneg (by omega) hub0, by
                have h2 := Int.mul_le_mul_of_nonneg_right h hub0
                have h3 := Int.ediv_mul_le M (b := u0) h0
                omega⟩)
              generalize M / u0 = q at *
              obtain ⟨hq0, hqM⟩ := hqm
              have hwq : IntKind.i64.wrap q = q := by rw [IntKind.wrap_i64]; omega
              by_cases hgt : q < m
              · have He : Hid (parseUnit k s.data.toList = (zero, 41)) := Lib.hid (by rw [HE2.out, if_neg h0, if_pos hgt])
                go_wp2_with fail
                refine (Hmo.out _).mono ?_
                rintro e w3 ⟨rfl, rfl⟩
                go_wp2_with fail
                go_returns
                exact ⟨by rw [He.out]; rfl, by go_grown⟩
              · have He : Hid (parseUnit k s.data.toList = (⟨k, m * u0, ByteArray.empty, []⟩, 0)) := Lib.hid (by rw [HE2.out, if_neg h0, if_neg hgt])
                obtain ⟨hp0, hp1⟩ := Hmul.out (by omega)
                go_wp2_with fail
                refine (Hmo.out _).mono ?_
                rintro e w3 ⟨rfl, rfl⟩
                go_wp2_with fail
                go_returns
                exact ⟨by rw [He.out]; rfl, by go_grown⟩
        · rw [hu] at HE
          clear Htail hu
          go_wp2_with fail
          refine (HNT.out _).mono ?_
          rintro e w1 ⟨⟨n, ok, rfl, hok, hn0, hn1⟩, rfl⟩
          go_wp2_with fail
          refine (HU.out _).mono ?_
          rintro e w2 ⟨rfl, rfl⟩
          cases ok with
          | false =>
            have He : Hid (parseUnit k s.data.toList = (zero, 40)) := Lib.hid (by rw [HE.out, okNum_f hok])
            clear hok
            go_wp2_with fail
            go_returns
            exact ⟨by rw [He.out]; rfl, by go_grown⟩
          | true =>
            obtain ⟨m, hm, rfl⟩ := okNum_t hok
            have HE2 := Lib.hid (HE.out.trans (by rw [hm]))
            simp only at HE2
            clear hok hm
            by_cases h0 : u0 = 0
            · have He : Hid (parseUnit k s.data.toList = (zero, 40)) := Lib.hid (by rw [HE2.out, if_pos h0])
              subst h0
              go_wp2_with fail
              go_returns
              exact ⟨by rw [He.out]; rfl, by go_grown⟩
            · have h0' : (u0 == 0) = false := by simp [h0]
              have hq : M.tdiv u0 = M / u0 := tdiv_ediv hM0
              have hqm : 0 ≤ M / u0 ∧ M / u0 ≤ M := ⟨Int.ediv_nonneg hM0 hub0, by
                have := Int.mul_le_mul_of_nonneg_left (show (1 : Int) ≤ u0 by omega) (Int.ediv_nonneg hM0 hub0)
                have := Int.ediv_mul_le M (b := u0) h0
                omega⟩
              have Hmul : Hid ((m : Int) ≤ M / u0 → 0 ≤ (m : Int) * u0 ∧ (m : Int) * u0 ≤ M) := Lib.hid (fun h => ⟨Int.mul_nonneg (by omega) hub0, by
                have h2 := Int.mul_le_mul_of_nonneg_right h hub0
                have h3 := Int.ediv_mul_le M (b := u0) h0
                omega⟩)
              generalize M / u0 = q at *
              obtain ⟨hq0, hqM⟩ := hqm
              have hwq : IntKind.i64.wrap q = q := by rw [IntKind.wrap_i64]; omega
              by_cases hgt : q < m
              · have He : Hid (parseUnit k s.data.toList = (zero, 41)) := Lib.hid (by rw [HE2.out, if_neg h0, if_pos hgt])
                go_wp2_with fail
                refine (Hmo.out _).mono ?_
                rintro e w3 ⟨rfl, rfl⟩
                go_wp2_with fail
                go_returns
                exact ⟨by rw [He.out]; rfl, by go_grown⟩
              · have He : Hid (parseUnit k s.data.toList = (⟨k, m * u0, ByteArray.empty, []⟩, 0)) := Lib.hid (by rw [HE2.out, if_neg h0, if_neg hgt])
                obtain ⟨hp0, hp1⟩ := Hmul.out (by omega)
                go_wp2_with fail
                refine (Hmo.out _).mono ?_
                rintro e w3 ⟨rfl, rfl⟩
                go_wp2_with fail
                go_returns
                exact ⟨by rw [He.out]; rfl, by go_grown⟩
end Go.Proofs.YtbelnaiekbfoiaaGreatDoor.va
/- An argument that is a slice of structs whose fields take one cell each, opened: each element's cells and their readings. For any program; no conditions beside those stated. -/
namespace Go.Proofs.YtbelnaiekbfoiaaGreatDoor
open Go.ChangeShapes Go.WideShapes Go.Deep Go.RowKit
section
variable {H : Type} {enc : TypeId × Value → H} {P : Program} {w : World} {base : Nat} {spare : Nat → Bool} {held : Bool}

/-- Each element of a slice of structs: its fields' cells, read. -/
theorem open_rows {t e : TypeId} {fs : Array Field} {v : Value} {d : DataW H} {ps : List MemPlace} (ht : P.underlying t = some (.slice e)) (he : P.underlying e = some (.struct fs))
    (hone : oneCellFields P fs = true) (hC : P.cellsOf e = fs.size) (h : DataW.Trod enc P w base spare held t v d ps) (hv : v.cells.toList = [v]) :
    v = .slice none 0 0 ∨ ∃ (a : Addr) (len cap : Nat), v = .slice (some a) len cap ∧ len ≤ cap ∧ cap ≤ maxLen ∧
      ∀ i, i < len → ∀ (j : Nat) (f : Field), fs[j]? = some f → ∃ (u : Value) (y : DataW H × List MemPlace) (n : Nat), w.cell? (a.add (i * fs.size + j)) = some u ∧ DataW.trod enc P w base spare held n f.type [u] = some y := by
  obtain ⟨fuel, hf⟩ := h
  rw [hv] at hf
  rcases open_slice ht hf with ⟨h0, _⟩ | ⟨a, len, cap, m, n, D, Pl, hcs, hb, hl, hm, hmm, hx, hi⟩
  · simp only [List.cons.injEq, and_true] at h0
    exact .inl h0
  · simp only [List.cons.injEq, and_true] at hcs
    refine .inr ⟨a, len, cap, hcs, hl, hm, fun i him j f hj => ?_⟩
    have him' : i < m := by rw [hmm]; split <;> omega
    obtain ⟨cs', hc, ht'⟩ := hi i him'
    rw [hC] at hc
    obtain ⟨ys, n', hn', hy, hlen, hyl, hf'⟩ := DataW.trod_struct he ht'
    obtain ⟨_, hcl, hat⟩ := World.cells?_some hc
    obtain ⟨ho, hk⟩ := hone_of hone j f hj
    have hjl : j < fs.size := (Array.getElem?_eq_some_iff.1 hj).1
    have hcell := hat j hjl
    have h1 := hf' j f hj
    rw [ho, hk] at h1
    have hone' : (cs'.drop j).take 1 = [cs'[j]'(by omega)] := by
      rw [List.drop_eq_getElem_cons (by omega)]
      rfl
    rw [hone'] at h1
    have hys : ys[j]? = some (ys[j]'(by omega)) := List.getElem?_eq_getElem (by omega)
    exact ⟨_, _, n', by rw [← Go.Deep.add_add, hcell, List.getElem?_eq_getElem (by omega)], h1.trans hys⟩
end

/-- A cell that holds something lies in no view. -/
theorem spot_none {w : World} {a : Addr} {v : Value} (h : w.cell? a = some v) : a.spot = none := by
  unfold World.cell? at h
  split at h
  · split at h
    · cases h
    · rename_i hs
      simpa using hs
  · cases h
theorem add_none {b off k : Nat} : (⟨b, off, none⟩ : Addr).add k = ⟨b, off + k, none⟩ := by
  unfold Addr.add
  split
  · rename_i h; revert h; simp
  · rfl
end Go.Proofs.YtbelnaiekbfoiaaGreatDoor
/- tinderboxlaw04.lent lays a value in new memory, two words behind it; whole tells that it is as it was; ValueWithin returns true. Conditions: the arguments lie in memory; the listed variables hold what the program's text lays. -/
namespace Go.Proofs.YtbelnaiekbfoiaaGreatDoor.va
open Go.ChangeShapes Go.WideShapes Go.ChangeAt Go.RowKit gl

theorem infoStr : (Tryz.prog.info? 9).map (fun i => (i.zero, i.size, i.bytes)) = some (some (.string .empty), 1, 16) := by kernel_rfl
theorem infoSz : (Tryz.prog.info? 9).map (·.size) = some 1 := by kernel_rfl
def blank (n : Nat) : List Value := List.replicate n (.string .empty)
theorem made_blank (n : Nat) : madeCells (Value.cells (.string .empty)) (n * 1) = (blank n).toArray := by
  apply Array.ext_getElem?
  intro i
  simp only [madeCells, Value.cells, blank, List.getElem?_toArray, List.getElem?_replicate, Array.getElem?_map, Nat.mul_one]
  by_cases h : i < n
  · simp [h, Nat.mod_one]
  · simp [h]
theorem makeS (m : Nat) (hm : m ≤ 2147483647) (w : World) : (Instr.makeSlice 24 (.int .i64 ((m : Int) + 2)) (.int .i64 ((m : Int) + 2))).run Tryz.prog w = .ok (.slice (some ⟨w.heap.size, 0, none⟩) (m + 2) (m + 2)) (w.alloc (.cells (blank (m + 2)).toArray 9)) := by
  obtain ⟨i, hi, he⟩ := Option.map_eq_some_iff.1 infoStr
  simp only [Prod.mk.injEq] at he
  obtain ⟨hz, h1, h8⟩ := he
  have h := run_make (P := Tryz.prog) w 24 9 i (.string .empty) Tryz.underlying24 hi hz .i64 .i64 ((m : Int) + 2) ((m : Int) + 2) (by omega) (by omega) (by rw [h8]; omega) (by omega)
  rw [h, h1, show ((m : Int) + 2).toNat = m + 2 by omega, made_blank]
def spare : ByteArray := ⟨#[115, 112, 97, 114, 101]⟩
/-- The words, and what stands behind them. -/
def lentRow (ws : List ByteArray) : List Value := (ws ++ [spare, ByteArray.empty]).map Value.string
theorem splice_lent (ws : List ByteArray) (m : Nat) (hm : ws.length = m) : splice (blank (m + 2)) 0 (ws.map Value.string) = ws.map Value.string ++ blank 2 := by
  unfold splice blank
  rw [List.take_zero, List.nil_append, Nat.zero_add, List.length_map, hm, List.drop_replicate, show m + 2 - m = 2 by omega]
theorem set_lent (ws : List ByteArray) (m : Nat) (hm : ws.length = m) : ((ws.map Value.string ++ blank 2).toArray).setIfInBounds m (.string spare) = (lentRow ws).toArray := by
  rw [List.setIfInBounds_toArray]
  congr 1
  have : m = (ws.map Value.string).length := by simp [hm]
  rw [this, List.set_append_right _ _ (Nat.le_refl _), Nat.sub_self]
  simp [blank, lentRow, List.replicate]
def LentOut (v : Val) (w : World) (e : Ending) (w' : World) : Prop :=
  e = .returned (rep v (.slice (some ⟨w.heap.size + 1 + 1, 0, none⟩) v.words.length (v.words.length + 2))) ∧ w'.heap[w.heap.size + 1 + 1]? = some (.cells (lentRow v.words).toArray 9 (0, 0))

theorem lent_strs {w : World} {g : Nat} {ws : List ByteArray} (h : w.heap[g]? = some (.cells (lentRow ws).toArray 9 (0, 0))) : Strs w (.slice (some ⟨g, 0, none⟩) ws.length (ws.length + 2)) ws :=
  ⟨_, _, rfl, by omega, .inr ⟨g, 0, rfl, lt_of_block h, fun j x hj => by
    have hlt := lt_of_get hj
    rw [cell_of_row w g _ _ _ _ h, Nat.zero_add, List.getElem?_toArray]
    unfold lentRow
    rw [List.getElem?_map, List.getElem?_append_left hlt, hj]
    rfl⟩⟩

end Go.Proofs.YtbelnaiekbfoiaaGreatDoor.va
