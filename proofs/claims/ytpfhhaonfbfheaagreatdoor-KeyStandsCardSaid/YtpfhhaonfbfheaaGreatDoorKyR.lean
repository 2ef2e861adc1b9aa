/- Definitions held against each other; the document's All, Standard. Conditions: lists in memory; the document's list ascends. -/
import Derived.Test.YtpfhhaonfbfheaaGreatDoorKyP
import Derived.Test.YtpfhhaonfbfheaaGreatDoorKyN
import Derived.Test.YtpfhhaonfbfheaaGreatDoorApp
import Derived.Laws.StructEq
import Derived.BigQuiet
import Derived.Deep.QuietTactic
namespace Go.Proofs.YtpfhhaonfbfheaaGreatDoor.ky
open Go.ChangeShapes Go.WideShapes Go.ChangeAt Go.RowKit gl va ls

theorem kyFields : (Tryz.prog.fieldsOf 62).toList.map (fun f => (decide (f.name ≠ "_"), f.type, f.offset)) = [(true, 9, 0), (true, 3, 1), (true, 9, 2), (true, 3, 3), (true, 3, 4), (true, 9, 5)] := by kernel_rfl
theorem six_fields {l : List Field} {t0 t1 t2 t3 t4 t5 : TypeId} (h : l.map (fun f => (decide (f.name ≠ "_"), f.type, f.offset)) = [(true, t0, 0), (true, t1, 1), (true, t2, 2), (true, t3, 3), (true, t4, 4), (true, t5, 5)]) :
    ∃ f0 f1 f2 f3 f4 f5 : Field, l = [f0, f1, f2, f3, f4, f5] ∧ (f0.name ≠ "_" ∧ f0.type = t0 ∧ f0.offset = 0) ∧ (f1.name ≠ "_" ∧ f1.type = t1 ∧ f1.offset = 1) ∧ (f2.name ≠ "_" ∧ f2.type = t2 ∧ f2.offset = 2) ∧ (f3.name ≠ "_" ∧ f3.type = t3 ∧ f3.offset = 3) ∧ (f4.name ≠ "_" ∧ f4.type = t4 ∧ f4.offset = 4) ∧ (f5.name ≠ "_" ∧ f5.type = t5 ∧ f5.offset = 5) := by
  obtain ⟨f0, r0, rfl, h0, h⟩ := List.map_eq_cons_iff.1 h
  obtain ⟨f1, r1, rfl, h1, h⟩ := List.map_eq_cons_iff.1 h
  obtain ⟨f2, r2, rfl, h2, h⟩ := List.map_eq_cons_iff.1 h
  obtain ⟨f3, r3, rfl, h3, h⟩ := List.map_eq_cons_iff.1 h
  obtain ⟨f4, r4, rfl, h4, h⟩ := List.map_eq_cons_iff.1 h
  obtain ⟨f5, r5, rfl, h5, h⟩ := List.map_eq_cons_iff.1 h
  obtain rfl := List.map_eq_nil_iff.1 h
  simp only [Prod.mk.injEq, decide_eq_true_eq] at h0 h1 h2 h3 h4 h5
  exact ⟨f0, f1, f2, f3, f4, f5, rfl, h0, h1, h2, h3, h4, h5⟩
set_option maxRecDepth 100000 in
theorem neq_ky_same (a b c : ByteArray) (k lo hi : Int) (w : World) :
    (binOp .neq 62 (.agg #[.string a, .int .i64 k, .string b, .int .i64 lo, .int .i64 hi, .string c]) (.agg #[.string a, .int .i64 k, .string b, .int .i64 lo, .int .i64 hi, .string c])).run Tryz.prog w = .ok (.bool false) w := by
  have hs : Tryz.prog.underlying 9 = some .string := Tryz.underlying9
  have hi : Tryz.prog.underlying 3 = some (.int .i64) := Tryz.underlying3
  have hc : Tryz.prog.cellsOf 9 = 1 := by kernel_rfl
  have hci : Tryz.prog.cellsOf 3 = 1 := by kernel_rfl
  obtain ⟨f0, f1, f2, f3, f4, f5, hf, ⟨n0, t0, o0⟩, ⟨n1, t1, o1⟩, ⟨n2, t2, o2⟩, ⟨n3, t3, o3⟩, ⟨n4, t4, o4⟩, ⟨n5, t5, o5⟩⟩ := six_fields kyFields
  rw [run_neq_struct, run_equalIn_struct w 9999 62 _ _ Tryz.underlying62 (by kernel_rfl), hf]
  simp only [Op.eqFields, n0, n1, n2, n3, n4, n5, t0, t1, t2, t3, t4, t5, o0, o1, o2, o3, o4, o5, ne_eq, not_false_eq_true, if_true]
  simp [go_sem, part, hs, hi]
set_option maxHeartbeats 2000000 in
set_option maxRecDepth 100000 in
/-- Lists that are the same. -/
theorem same_any (p p' : Option Addr) (m c c' : Nat) (l : List Ky) (hm : m ≤ 4294967295) (w : World) (h : Kys w (.slice p m c) l) (h' : Kys w (.slice p' m c') l) :
    Calls Tryz.prog 38 #[.slice p m c, .slice p' m c'] w fun e w' => e = .returned (.bool true) ∧ Below w.heap.size w w' := by
  obtain ⟨hlen, hmc, hptr⟩ := h.ptr
  obtain ⟨_, hmc', hptr'⟩ := h'.ptr
  have HS := Lib.hid h
  have HS' := Lib.hid h'
  have Hlen := Lib.hid hlen
  have Hptr := Lib.hid hptr
  have Hptr' := Lib.hid hptr'
  have hneq := neq_ky_same
  clear h h' hlen hptr hptr'
  go_enter Tryz.func38, Tryz.ntmps38
  go_wp2_with fail
  go_loopw [5] (fun i wr => ∃ j q : Nat, j ≤ m ∧ i = .int .i64 j ∧ wr = w.drewN q) (fun i _ => m - (intOf i).toNat)
  case atStart => exact ⟨0, 0, by omega, rfl, rfl⟩
  case round =>
    obtain ⟨j, q, hj, rfl, hwr⟩ := hrel
    have Hq := Lib.hid hwr
    have hbq : Below w.heap.size w wr := by rw [hwr]; exact ⟨rfl, rfl, rfl, Nat.le_refl _, fun _ _ => rfl⟩
    have Hbq := Lib.hid hbq
    clear hwr hbq
    by_cases hlt : j < m
    · obtain ⟨b, o, rfl, hbl⟩ := Hptr.out (by omega)
      obtain ⟨b', o', rfl, hbl'⟩ := Hptr'.out (by omega)
      obtain ⟨x, hx⟩ : ∃ x, l[j]? = some x := ⟨_, List.getElem?_eq_getElem (by rw [Hlen.out]; exact hlt)⟩
      obtain ⟨c0, c1, c2, c3, c4, c5⟩ := ky_cells (HS.out.later Hbq.out) hx
      obtain ⟨d0, d1, d2, d3, d4, d5⟩ := ky_cells (HS'.out.later Hbq.out) hx
      clear hx
      generalize B x.name = nm at *
      generalize B x.dflt = df at *
      generalize B x.letter = lt at *
      generalize x.kind = kk at *
      generalize x.least = le at *
      generalize x.most = mo at *
      go_wp2_with fail
      go_quiet (fail)
      go_wp2_with fail
      go_roundw
      case rel => exact ⟨j + 1, _, by omega, by go_num, by rw [Hq.out, World.drewN_drewN]⟩
      case measure => simp [intOf]; omega
    · obtain rfl : j = m := by omega
      go_wp2_with fail
      go_ret
      exact ⟨rfl, Hbq.out⟩
theorem src_of {w : World} {p : Option Addr} {m c : Nat} {l : List Ky} (h : Kys w (.slice p m c) l) : SrcV w (.slice p m c) m (rw.flat kyC l) := by
  obtain ⟨hlen, hmc, hptr⟩ := h.ptr
  rcases Nat.eq_zero_or_pos m with h0 | h0
  · subst h0
    obtain rfl := List.eq_nil_of_length_eq_zero hlen
    exact .inl ⟨rfl, rfl, _, _, rfl⟩
  · obtain ⟨b, o, rfl, hb⟩ := hptr h0
    refine .inr ⟨h0, _, _, rfl, fun j u hj => ?_⟩
    have hjl := lt_get hj
    rw [rw.flat_len kyC_len] at hjl
    obtain ⟨x, hx⟩ : ∃ x, l[j / 6]? = some x := ⟨_, List.getElem?_eq_getElem (by omega)⟩
    obtain ⟨v, hv⟩ : ∃ v, (kyC x)[j % 6]? = some v := ⟨_, List.getElem?_eq_getElem (show j % 6 < 6 by omega)⟩
    have h1 := rw.flat_at kyC_len l (j / 6) x (j % 6) v hx hv
    rw [show j / 6 * 6 + j % 6 = j by omega, hj] at h1
    obtain rfl := Option.some.inj h1
    have := h.cell hx hv
    rw [show j / 6 * 6 + j % 6 = j by omega] at this
    rw [addN]
    exact this
set_option maxHeartbeats 4000000 in
set_option maxRecDepth 100000 in
/-- The document's All, of a list that ascends. -/
theorem refAll_any (b : Nat) (L : List Ky) (w : World) (hR : RefK w b L) (hlen : L.length ≤ 100000) (hl0 : 1 ≤ L.length) (ha : AscK L) :
    Calls Tryz.prog 39 #[.pointer (some ⟨b, 0, none⟩)] w fun e w' => (∃ p c, e = .returned (.slice p L.length c) ∧ Kys w' (.slice p L.length c) L) ∧ Below w.heap.size w w' := by
  obtain ⟨i0, si, sz0, sz1, sz2⟩ := info_parts infoK
  obtain ⟨p, c, hblk, hrw⟩ := hR
  have c0 : w.cell? ⟨b, 0, none⟩ = some (.slice p L.length c) := cell_in hblk
  have hbw : b < w.heap.size := lt_of_block hblk
  have Hsrc := Lib.hid (src_of hrw)
  have H1 := Lib.hid (rw.flat_one kyC_one L)
  have HA := Lib.hid ha
  have Hfl := Lib.hid (rw.flat_len kyC_len L)
  clear hblk hrw ha
  go_enter Tryz.func39, Tryz.ntmps39
  focus
    go_wp2_with (at_builtin; go_must (refine wpList_append_any rfl _ _ 27 rfl 62 i0 _ 6 72 Tryz.underlying27 si sz0 sz1 sz2 rfl (by decide) w.heap.size (.slice none 0 0) 0 [] (by rfl) ⟨rfl, .inl ⟨rfl, rfl⟩⟩ _ L.length _ (by rfl) Hsrc.out Hfl.out H1.out (by omega) (by omega) (Nat.le_refl _) ?_))
  intro p2 cap w2 hown hgrow
  have hK2 : Kys w2 (.slice p2 L.length cap) L := rw.own_rw kyC_len (by decide) hown
  have HK2 := Lib.hid hK2
  have Hb2 : Hid (Below w.heap.size w w2) := Lib.hid ⟨hgrow.os, hgrow.tape, hgrow.output, hgrow.size, fun k hk => hgrow.block k hk (by simp [Value.ownBlock])⟩
  obtain ⟨bp, op, rfl, hbp⟩ := hK2.ptr.2.2 (by omega)
  have hcap := hK2.ptr.2.1
  try rw [Nat.zero_add]
  clear hown hgrow hK2 c0
  obtain ⟨n, hn⟩ : ∃ n, n = L.length := ⟨_, rfl⟩
  have Hn := Lib.hid hn
  rw [← hn] at hlen hl0 HK2 hcap
  rw [← hn]
  clear hn
  go_wp2_with fail
  go_loopw [4] (fun i wr => ∃ j q : Nat, j + 1 ≤ n ∧ i = .int .i64 ((j : Int) + 1) ∧ wr = w2.drewN q) (fun i _ => n - (intOf i).toNat)
  case atStart => exact ⟨0, 0, by omega, rfl, rfl⟩
  case round =>
    obtain ⟨j, q, hj, rfl, hwr⟩ := hrel
    have Hq := Lib.hid hwr
    have hbq : Below w2.heap.size w2 wr := by rw [hwr]; exact ⟨rfl, rfl, rfl, Nat.le_refl _, fun _ _ => rfl⟩
    have Hbq := Lib.hid hbq
    have hbr : bp < wr.heap.size := by have := hbq.size; omega
    clear hwr hbq
    by_cases hlt : j + 1 < n
    · obtain ⟨x, hx⟩ : ∃ x, L[j + 1]? = some x := ⟨_, List.getElem?_eq_getElem (by rw [← Hn.out]; exact hlt)⟩
      obtain ⟨y, hy⟩ : ∃ y, L[j]? = some y := ⟨_, List.getElem?_eq_getElem (by rw [← Hn.out]; omega)⟩
      have d0 := (ky_cells (HK2.out.later Hbq.out) hx).1
      have e0 := (ky_cells (HK2.out.later Hbq.out) hy).1
      have hlo : Op.bytesLess (B x.name).toList (B y.name).toList = false := by
        rw [ByteArray.toList_eq, ByteArray.toList_eq]
        have hyx : ltL y.name x.name = true := pair_at (S := fun a b => ltL a b = true) HA.out (i := j) (j := j + 1) (by rw [List.getElem?_map, hy]; rfl) (by rw [List.getElem?_map, hx]; rfl) (by omega)
        cases h : ltL x.name y.name with
        | false => simpa using h
        | true =>
          have := ltL_trans _ _ _ hyx h
          rw [ltL_irrefl] at this
          cases this
      have h1 : (j : Int) + 1 < (n : Int) := by omega
      have h2 : decide ((j : Int) + 1 < (n : Int)) = true := by rw [decide_eq_true_iff]; omega
      have h3 : (0 : Int) < (j : Int) + 1 := by omega
      have h4 : decide ((0 : Int) < (j : Int) + 1) = true := by rw [decide_eq_true_iff]; omega
      have h5 : (0 : Int) ≤ (j : Int) := by omega
      have h6 : (j : Int) < (n : Int) := by omega
      have h7 : ((j : Int) + 1).toNat = j + 1 := by omega
      have h8 : (0 : Int) ≤ (j : Int) + 1 := by omega
      have h9 : IntKind.i64.wrap ((j : Int) + 1 + 1) = (j : Int) + 1 + 1 := by rw [IntWalk.i64_in _ (by omega)]
      clear hx hy
      generalize B x.name = nx at *
      generalize B y.name = ny at *
      go_wp2_with fail
      refine wp_loop_rounds 1 ?_
      rw [rounds_succ]
      go_wp2_with fail
      go_quiet (fail)
      go_wp2_with fail
      go_roundw
      case rel => exact ⟨j + 1, _, by omega, by simp, by rw [Hq.out, World.drewN_drewN]⟩
      case measure => simp [intOf]; omega
    · obtain rfl : j + 1 = n := by omega
      have h2 : decide ((j : Int) + 1 < ((j + 1 : Nat) : Int)) = false := by simp
      go_wp2_with fail
      go_ret
      rw [← Hn.out]
      exact ⟨⟨_, _, rfl, HK2.out.later Hbq.out⟩, then_bel Hb2.out Hbq.out⟩
end Go.Proofs.YtpfhhaonfbfheaaGreatDoor.ky
