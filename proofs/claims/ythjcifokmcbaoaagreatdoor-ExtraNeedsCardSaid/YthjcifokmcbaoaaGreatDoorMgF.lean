/- Laws and contracts on which the statement rests, part F: each text says what it proves, and its conditions. -/
import Derived.Test.YthjcifokmcbaoaaGreatDoorMgE
import Derived.Test.YthjcifokmcbaoaaGreatDoorMgB
import Derived.Deep.Upon
/- A list of pairs that lies in a block of its own, and stores into it; package step's tabled. Conditions: at most 4294967295 pairs. -/
namespace Go.Proofs.YthjcifokmcbaoaaGreatDoor.st
open Go.ChangeShapes Go.WideShapes Go.ChangeAt Go.RowKit gl ls

/-- A list of pairs in block g, with room for c. -/
def LiesP (g c : Nat) (w : World) (l : List Pr) : Prop := ∃ cs, w.heap[g]? = some (.cells cs 57 (0, 0)) ∧ l.length ≤ c ∧ c * 3 ≤ cs.size ∧ At cs 0 (prsC l)
theorem LiesP.new {M g c : Nat} {w : World} {l : List Pr} (h : LiesP g c w l) (hM : M ≤ g) : NewPrs M w (.slice (some ⟨g, 0, none⟩) l.length c) l := by
  obtain ⟨cs, h1, h2, h3, h4⟩ := h
  exact .inr ⟨g, c, cs, rfl, h2, hM, h1, h3, h4⟩
theorem LiesP.prs {g c : Nat} {w : World} {l : List Pr} (h : LiesP g c w l) : Prs w (.slice (some ⟨g, 0, none⟩) l.length c) l := (h.new (Nat.le_refl g)).rw prC_len
theorem LiesP.lt {g c : Nat} {w : World} {l : List Pr} (h : LiesP g c w l) : g < w.heap.size := by
  obtain ⟨cs, h1, _⟩ := h
  exact lt_of_block h1
theorem LiesP.later {g c : Nat} {w w' : World} {l : List Pr} (h : LiesP g c w l) (hb : Below w.heap.size w w') : LiesP g c w' l := by
  obtain ⟨cs, h1, h2⟩ := h
  exact ⟨cs, (hb.block g (lt_of_block h1)).trans h1, h2⟩
theorem LiesP.far {g c : Nat} {w : World} {l : List Pr} (h : LiesP g c w l) (a : Addr) (u : Value) (hn : g ≠ a.block) : LiesP g c (w.setCell a u) l := by
  obtain ⟨cs, h1, h2⟩ := h
  exact ⟨cs, (heap_setCell_other w a g u hn).trans h1, h2⟩
theorem flat_inv {l : List Pr} {q : Nat} {v : Value} (h : (prsC l)[q]? = some v) : ∃ y, l[q / 3]? = some y ∧ (prC y)[q % 3]? = some v := by
  have hq := (List.getElem?_eq_some_iff.1 h).1
  rw [rw.flat_len prC_len] at hq
  have h1 : q / 3 < l.length := by omega
  have h2 : q % 3 < (prC l[q / 3]).length := by rw [prC_len]; omega
  have h3 := rw.flat_at prC_len l (q / 3) _ (q % 3) _ (List.getElem?_eq_getElem h1) (List.getElem?_eq_getElem h2)
  rw [show q / 3 * 3 + q % 3 = q by omega, h] at h3
  exact ⟨_, List.getElem?_eq_getElem h1, by rw [List.getElem?_eq_getElem h2]; exact h3.symm⟩
theorem LiesP.put {g c j i : Nat} {w : World} {l : List Pr} {x x' : Pr} {u : Value} (h : LiesP g c w l) (hx : l[j]? = some x) (hi : i < 3) (hx' : prC x' = (prC x).set i u) : LiesP g c (w.setCell ⟨g, j * 3 + i, none⟩ u) (l.set j x') := by
  obtain ⟨cs, h1, h2, h3, h4⟩ := h
  have hj := lt_of_at hx
  refine ⟨_, heap_setCell_same w g (j * 3 + i) cs _ u h1, by simpa using h2, by simpa using h3, fun q v hq => ?_⟩
  obtain ⟨y, hy, hv⟩ := flat_inv hq
  rw [Nat.zero_add]
  have hq3 : q % 3 < 3 := Nat.mod_lt _ (by decide)
  by_cases hjq : q / 3 = j
  · rw [hjq, List.getElem?_set_self hj] at hy
    obtain rfl := Option.some.inj hy
    rw [hx'] at hv
    by_cases hiq : q % 3 = i
    · rw [hiq, List.getElem?_set_self (by rw [prC_len]; omega)] at hv
      obtain rfl := Option.some.inj hv
      rw [show q = j * 3 + i by omega, Array.getElem?_setIfInBounds_self_of_lt (by omega)]
    · rw [List.getElem?_set_ne (by omega)] at hv
      rw [Array.getElem?_setIfInBounds_ne (by omega)]
      have := h4 (j * 3 + q % 3) v (rw.flat_at prC_len l j x (q % 3) v hx hv)
      rw [Nat.zero_add] at this
      rw [show q = j * 3 + q % 3 by omega]
      exact this
  · rw [List.getElem?_set_ne (by omega)] at hy
    rw [Array.getElem?_setIfInBounds_ne (by omega)]
    have := h4 (q / 3 * 3 + q % 3) v (rw.flat_at prC_len l (q / 3) y (q % 3) v hy hv)
    rw [Nat.zero_add, show q / 3 * 3 + q % 3 = q by omega] at this
    exact this
theorem LiesP.table {g c j : Nat} {w : World} {l : List Pr} {x : Pr} (h : LiesP g c w l) (hx : l[j]? = some x) (u : List UInt8) : LiesP g c (w.setCell ⟨g, j * 3, none⟩ (.string (B u))) (l.set j { x with table := u }) := h.put (i := 0) hx (by decide) rfl
theorem LiesP.key {g c j : Nat} {w : World} {l : List Pr} {x : Pr} (h : LiesP g c w l) (hx : l[j]? = some x) (u : List UInt8) : LiesP g c (w.setCell ⟨g, j * 3 + 1, none⟩ (.string (B u))) (l.set j { x with key := u }) := h.put (i := 1) hx (by decide) rfl
theorem LiesP.value {g c j : Nat} {w : World} {l : List Pr} {x : Pr} (h : LiesP g c w l) (hx : l[j]? = some x) (u : List UInt8) : LiesP g c (w.setCell ⟨g, j * 3 + 2, none⟩ (.string (B u))) (l.set j { x with value := u }) := h.put (i := 2) hx (by decide) rfl

def spA (s : Sp) : Value := .agg #[.int .i64 s.kind, .string (B s.table), .string (B s.key), .string (B s.to), .string (B s.text)]
/-- The world behind tabled's two boxes. -/
theorem boxes {p : Option Addr} {m c : Nat} {s : Sp} {w wA : World} (hA : wA = (w.alloc (.cells #[.slice p m c] 44)).alloc (.cells #[.int .i64 s.kind, .string (B s.table), .string (B s.key), .string (B s.to), .string (B s.text)] 42)) :
    Below w.heap.size w wA ∧ wA.cell? ⟨w.heap.size, 0, none⟩ = some (.slice p m c) ∧ wA.cell? ⟨w.heap.size + 1, 1, none⟩ = some (.string (B s.table)) ∧ wA.cell? ⟨w.heap.size + 1, 3, none⟩ = some (.string (B s.to)) := by
  have h2 := heap_alloc_new (w.alloc (.cells #[.slice p m c] 44)) (.cells #[.int .i64 s.kind, .string (B s.table), .string (B s.key), .string (B s.to), .string (B s.text)] 42)
  rw [← hA] at h2
  simp only [World.size_alloc] at h2
  refine ⟨by rw [hA]; exact ((Below.refl _ _).alloc (Nat.le_refl _) _).alloc (by simp) _, ?_, cell_in (o := 1) h2, cell_in (o := 3) h2⟩
  rw [hA, World.cell?_alloc_lt _ _ _ (by simp)]
  exact cell_in (o := 0) (heap_alloc_new w _)
set_option maxHeartbeats 2000000 in
set_option maxRecDepth 100000 in
theorem tabled_not (p : Option Addr) (m c : Nat) (l : List Pr) (s : Sp) (hm : m ≤ 4294967295) (w : World) (h : Prs w (.slice p m c) l) (hn : l.any (inTab s.table) = false) :
    Calls Tryz.prog 120 #[.slice p m c, spA s] w fun e w' => e = .returned (.tuple #[.slice p m c, .int .i64 0]) ∧ Below w.heap.size w w' := by
  unfold spA
  obtain ⟨wA, hA⟩ : ∃ wA, wA = (w.alloc (.cells #[.slice p m c] 44)).alloc (.cells #[.int .i64 s.kind, .string (B s.table), .string (B s.key), .string (B s.to), .string (B s.text)] 42) := ⟨_, rfl⟩
  obtain ⟨hbA, c1, c2, c3⟩ := boxes hA
  have HT := Lib.hid (tab1_any (B s.table) w.heap.size p m c l hm wA c1 (h.later hbA))
  simp only [hn] at HT
  have HA := Lib.hid hA
  have HbA := Lib.hid hbA
  have hlt := World.block_lt_of_cell? _ _ c1
  have C1 := Lib.hid c1
  clear h hn hA hbA c1
  generalize B s.table = x1 at *
  generalize B s.key = x2 at *
  generalize B s.to = x3 at *
  generalize B s.text = x4 at *
  go_enter Tryz.func120, Tryz.ntmps120
  go_wp2_with fail
  rw [← HA.out]
  refine HT.out.mono ?_
  rintro e w1 ⟨rfl, hb1⟩
  have d1 : w1.cell? ⟨w.heap.size, 0, none⟩ = some (.slice p m c) := (hb1.cell (p := ⟨w.heap.size, 0, none⟩) hlt).trans C1.out
  have Hb1 := Lib.hid (then_bel HbA.out hb1)
  clear hb1
  go_wp2_with fail
  go_ret2
  exact ⟨rfl, Hb1.out⟩
set_option maxHeartbeats 2000000 in
set_option maxRecDepth 100000 in
theorem tabled_bad (p : Option Addr) (m c : Nat) (l : List Pr) (s : Sp) (hm : m ≤ 4294967295) (w : World) (h : Prs w (.slice p m c) l) (hn : l.any (inTab s.table) = true) (ht : l.any (inTab s.to) = true) :
    Calls Tryz.prog 120 #[.slice p m c, spA s] w fun e w' => e = .returned (.tuple #[.slice none 0 0, .int .i64 161]) ∧ Below w.heap.size w w' := by
  unfold spA
  obtain ⟨wA, hA⟩ : ∃ wA, wA = (w.alloc (.cells #[.slice p m c] 44)).alloc (.cells #[.int .i64 s.kind, .string (B s.table), .string (B s.key), .string (B s.to), .string (B s.text)] 42) := ⟨_, rfl⟩
  obtain ⟨hbA, c1, c2, c3⟩ := boxes hA
  have HT := Lib.hid (tab1_any (B s.table) w.heap.size p m c l hm wA c1 (h.later hbA))
  have HU := Lib.hid fun (W : World) (hb : Below wA.heap.size wA W) => tab1_any (B s.to) w.heap.size p m c l hm W ((hb.cell (p := ⟨w.heap.size, 0, none⟩) (World.block_lt_of_cell? _ _ c1)).trans c1) ((h.later hbA).later hb)
  simp only [hn, ht] at HT HU
  have HA := Lib.hid hA
  have HbA := Lib.hid hbA
  have hlt := World.block_lt_of_cell? _ _ c3
  have C3 := Lib.hid c3
  clear h hn ht hA hbA c1 c3
  generalize B s.table = x1 at *
  generalize B s.key = x2 at *
  generalize B s.to = x3 at *
  generalize B s.text = x4 at *
  go_enter Tryz.func120, Tryz.ntmps120
  go_wp2_with fail
  rw [← HA.out]
  refine HT.out.mono ?_
  rintro e w1 ⟨rfl, hb1⟩
  have d1 : w1.cell? ⟨w.heap.size + 1, 3, none⟩ = some (.string x3) := (hb1.cell (p := ⟨w.heap.size + 1, 3, none⟩) hlt).trans C3.out
  have Hb1 := Lib.hid (then_bel HbA.out hb1)
  have HB1 := Lib.hid hb1
  clear hb1
  go_wp2_with fail
  refine (HU.out _ HB1.out).mono ?_
  rintro e w2 ⟨rfl, hb2⟩
  have Hb2 := Lib.hid (then_bel Hb1.out hb2)
  clear hb2
  go_wp2_with fail
  go_ret2
  exact ⟨rfl, Hb2.out⟩
end Go.Proofs.YthjcifokmcbaoaaGreatDoor.st
/- package step's tabled: the pairs of a table put under another. Conditions: the list lies in a block of its own; at most 4294967295 pairs. -/
namespace Go.Proofs.YthjcifokmcbaoaaGreatDoor.st
open Go.ChangeShapes Go.WideShapes Go.ChangeAt Go.RowKit gl ls

def tabTo (t u : List UInt8) (l : List Pr) (n : Nat) : List Pr := (l.take n).map (tabF t u) ++ l.drop n
theorem tabTo_zero (t u : List UInt8) (l : List Pr) : tabTo t u l 0 = l := by simp [tabTo]
theorem tabTo_end (t u : List UInt8) (l : List Pr) : tabTo t u l l.length = l.map (tabF t u) := by simp [tabTo]
theorem tabTo_len (t u : List UInt8) (l : List Pr) (n : Nat) : (tabTo t u l n).length = l.length := by simp [tabTo]; omega
theorem tabTo_at {t u : List UInt8} {l : List Pr} {n : Nat} {x : Pr} (hx : l[n]? = some x) : (tabTo t u l n)[n]? = some x := by
  have hn := lt_of_at hx
  unfold tabTo
  rw [List.getElem?_append_right (by simp; omega)]
  simp only [List.length_map, List.length_take, Nat.min_eq_left (Nat.le_of_lt hn), Nat.sub_self]
  rw [List.getElem?_drop]
  simpa using hx
theorem tabTo_succ {t u : List UInt8} {l : List Pr} {n : Nat} {x : Pr} (hx : l[n]? = some x) : tabTo t u l (n + 1) = (tabTo t u l n).set n (tabF t u x) := by
  have hn := lt_of_at hx
  obtain ⟨_, hx'⟩ := List.getElem?_eq_some_iff.1 hx
  unfold tabTo
  rw [List.set_append_right _ _ (by simp; omega)]
  simp only [List.length_map, List.length_take, Nat.min_eq_left (Nat.le_of_lt hn), Nat.sub_self]
  rw [List.take_add_one, hx, List.drop_eq_getElem_cons hn, hx']
  simp
theorem tabF_no {t u : List UInt8} {x : Pr} (h : x.table ≠ t) : tabF t u x = x := by unfold tabF; rw [if_neg h]
theorem tabF_yes {t u : List UInt8} {x : Pr} (h : x.table = t) : tabF t u x = { x with table := u } := by unfold tabF; rw [if_pos h]
theorem set_same {l : List Pr} {n : Nat} {x : Pr} (h : l[n]? = some x) : l.set n x = l := by
  obtain ⟨hn, hx⟩ := List.getElem?_eq_some_iff.1 h
  rw [← hx]; exact List.set_getElem_self hn
theorem LiesP.free {g c : Nat} {w : World} {l : List Pr} (h : LiesP g c w l) (o : Nat) : w.frozen? ⟨g, o, none⟩ = false := by
  obtain ⟨cs, h1, _⟩ := h
  exact frozen_of_row w g o cs _ h1
theorem cell_then {w w' : World} {a : Addr} {v : Value} (h : w.cell? a = some v) (hb : Below w.heap.size w w') : w'.cell? a = some v := (hb.cell (p := a) (World.block_lt_of_cell? _ _ h)).trans h
set_option maxHeartbeats 4000000 in
set_option maxRecDepth 100000 in
theorem tabled_yes (g m c M : Nat) (l : List Pr) (s : Sp) (hM : M ≤ g) (hlen : l.length = m) (hm : m ≤ 4294967295) (w : World) (h : LiesP g c w l) (hn : l.any (inTab s.table) = true) (ht : l.any (inTab s.to) = false) :
    Calls Tryz.prog 120 #[.slice (some ⟨g, 0, none⟩) m c, spA s] w fun e w' => e = .returned (.tuple #[.slice (some ⟨g, 0, none⟩) m c, .int .i64 0]) ∧ LiesP g c w' (l.map (tabF s.table s.to)) ∧ Below M w w' := by
  unfold spA
  have hg := h.lt
  have hMw : M ≤ w.heap.size := by omega
  obtain ⟨wA, hA⟩ : ∃ wA, wA = (w.alloc (.cells #[.slice (some ⟨g, 0, none⟩) m c] 44)).alloc (.cells #[.int .i64 s.kind, .string (B s.table), .string (B s.key), .string (B s.to), .string (B s.text)] 42) := ⟨_, rfl⟩
  obtain ⟨hbA, c1, c2, c3⟩ := boxes hA
  have hp := h.prs
  rw [hlen] at hp
  have HT := Lib.hid (tab1_any (B s.table) w.heap.size _ m c l hm wA c1 (hp.later hbA))
  have HU := Lib.hid fun (W : World) (hb : Below wA.heap.size wA W) => tab1_any (B s.to) w.heap.size _ m c l hm W ((hb.cell (p := ⟨w.heap.size, 0, none⟩) (World.block_lt_of_cell? _ _ c1)).trans c1) ((hp.later hbA).later hb)
  simp only [hn, ht] at HT HU
  have HA := Lib.hid hA
  have HbA := Lib.hid hbA
  have Hlen := Lib.hid hlen
  have HL := Lib.hid h
  have hl1 := World.block_lt_of_cell? _ _ c1
  have hl3 := World.block_lt_of_cell? _ _ c3
  have C1 := Lib.hid c1
  have C2 := Lib.hid c2
  have C3 := Lib.hid c3
  have E1 := Lib.hid fun (x : Pr) (h : x.table = s.table) => (seq_true (by rw [h]) : ((B x.table).toList == (B s.table).toList) = true)
  have E2 := Lib.hid fun (x : Pr) (h : x.table ≠ s.table) => (seq_false (fun e => h (B_inj e)) : ((B x.table).toList == (B s.table).toList) = false)
  clear h hn ht hA hbA c1 c3 hp hlen c2
  generalize hx1 : B s.table = x1 at *
  generalize B s.key = x2 at *
  generalize hx3 : B s.to = x3 at *
  generalize B s.text = x4 at *
  have Hx1 := Lib.hid hx1
  have Hx3 := Lib.hid hx3
  clear hx1 hx3
  go_enter Tryz.func120, Tryz.ntmps120
  go_wp2_with fail
  rw [← HA.out]
  refine HT.out.mono ?_
  rintro e w1 ⟨rfl, hb1⟩
  have d1 : w1.cell? ⟨w.heap.size + 1, 3, none⟩ = some (.string x3) := (hb1.cell (p := ⟨w.heap.size + 1, 3, none⟩) hl3).trans C3.out
  have HB1 := Lib.hid hb1
  clear hb1
  go_wp2_with fail
  refine (HU.out _ HB1.out).mono ?_
  rintro e w2 ⟨rfl, hb2⟩
  have HB2 := Lib.hid (then_bel HB1.out hb2)
  clear hb2 d1
  have d0 : w2.cell? ⟨w.heap.size, 0, none⟩ = some (.slice (some ⟨g, 0, none⟩) m c) := (HB2.out.cell (p := ⟨w.heap.size, 0, none⟩) hl1).trans C1.out
  have HL2 := Lib.hid ((HL.out.later HbA.out).later HB2.out)
  have D2 : Hid (w2.cell? ⟨w.heap.size + 1, 1, none⟩ = some (.string x1)) := Lib.hid ((HB2.out.cell (p := ⟨w.heap.size + 1, 1, none⟩) hl3).trans C2.out)
  have D3 : Hid (w2.cell? ⟨w.heap.size + 1, 3, none⟩ = some (.string x3)) := Lib.hid ((HB2.out.cell (p := ⟨w.heap.size + 1, 3, none⟩) hl3).trans C3.out)
  have D0 := Lib.hid d0
  have HBW : Hid (Below M w w2) := Lib.hid ((then_bel HbA.out HB2.out).mono hMw)
  have hlw2 : w.heap.size + 1 < w2.heap.size := World.block_lt_of_cell? _ _ D3.out
  go_wp2_with fail
  clear d0
  go_loopw [23] (fun i wr => ∃ n : Nat, n ≤ m ∧ i = .int .i64 n ∧ Hid (LiesP g c wr (tabTo s.table s.to l n)) ∧ Hid (Below M w wr) ∧ wr.cell? ⟨w.heap.size, 0, none⟩ = some (.slice (some ⟨g, 0, none⟩) m c) ∧ wr.cell? ⟨w.heap.size + 1, 1, none⟩ = some (.string x1) ∧ wr.cell? ⟨w.heap.size + 1, 3, none⟩ = some (.string x3)) (fun i _ => m - (intOf i).toNat)
  case atStart => exact ⟨0, by omega, rfl, Lib.hid (by rw [tabTo_zero]; exact HL2.out), HBW, D0.out, D2.out, D3.out⟩
  case round =>
    obtain ⟨n, hn, rfl, HLr, Hb, r0, r1, r3⟩ := hrel
    by_cases hlt : n < m
    · obtain ⟨x, hx⟩ : ∃ x, l[n]? = some x := ⟨_, List.getElem?_eq_getElem (by rw [Hlen.out]; exact hlt)⟩
      have Hx := Lib.hid hx
      have hat := tabTo_at (t := s.table) (u := s.to) hx
      obtain ⟨k0, k1, k2⟩ := prs_cells HLr.out.prs hat
      simp only [Nat.zero_add] at k0 k1 k2
      clear hx hat k1 k2
      by_cases he : x.table = s.table
      · have q := E1.out x he
        have HE := Lib.hid he
        have Hk0 := Lib.hid k0
        have R0 := Lib.hid r0
        have R1 := Lib.hid r1
        have R3 := Lib.hid r3
        clear he
        generalize B x.table = y1 at *
        go_wp2_with fail
        go_quiet (fail)
        obtain ⟨wD, hwD⟩ : ∃ wD, wD = wr.drewN nq := ⟨_, rfl⟩
        have HbD : Hid (Below wr.heap.size wr wD) := Lib.hid (by rw [hwD]; exact drewN_bel _ _)
        rw [← hwD]
        clear hwD k0 r0 r1 r3
        have k0 := cell_then Hk0.out HbD.out
        have r0 := cell_then R0.out HbD.out
        have r3 := cell_then R3.out HbD.out
        have Hn : Hid (LiesP g c (wD.setCell ⟨g, n * 3, none⟩ (.string x3)) (tabTo s.table s.to l (n + 1))) := Lib.hid (by
          rw [tabTo_succ Hx.out, tabF_yes HE.out, ← Hx3.out]
          exact (HLr.out.later HbD.out).table (tabTo_at Hx.out) s.to)
        have Hb2 : Hid (Below M w (wD.setCell ⟨g, n * 3, none⟩ (.string x3))) := Lib.hid ((Hb.out.trans (HbD.out.mono (Nat.le_trans hMw Hb.out.size))).setCell (p := ⟨g, n * 3, none⟩) hM _)
        have hge : g ≠ w.heap.size := by omega
        have hge1 : g ≠ w.heap.size + 1 := by omega
        have S0 : Hid ((wD.setCell ⟨g, n * 3, none⟩ (.string x3)).cell? ⟨w.heap.size, 0, none⟩ = some (.slice (some ⟨g, 0, none⟩) m c)) := Lib.hid (by rw [World.cell?_setCell_far _ _ _ _ hge]; exact r0)
        have S1 : Hid ((wD.setCell ⟨g, n * 3, none⟩ (.string x3)).cell? ⟨w.heap.size + 1, 1, none⟩ = some (.string x1)) := Lib.hid (by rw [World.cell?_setCell_far _ _ _ _ hge1]; exact cell_then R1.out HbD.out)
        have S3 : Hid ((wD.setCell ⟨g, n * 3, none⟩ (.string x3)).cell? ⟨w.heap.size + 1, 3, none⟩ = some (.string x3)) := Lib.hid (by rw [World.cell?_setCell_far _ _ _ _ hge1]; exact r3)
        clear hge hge1
        have hfr : wD.frozen? ⟨g, n * 3, none⟩ = false := (HLr.out.later HbD.out).free _
        go_wp2_with fail
        go_roundw
        case rel => exact ⟨n + 1, by omega, by go_num, Hn, Hb2, S0.out, S1.out, S3.out⟩
        case measure => simp [intOf]; omega
      · have q := E2.out x he
        have Hn : Hid (LiesP g c wr (tabTo s.table s.to l (n + 1))) := Lib.hid (by
          rw [tabTo_succ Hx.out, tabF_no he, set_same (tabTo_at Hx.out)]
          exact HLr.out)
        clear he
        generalize B x.table = y1 at *
        go_wp2_with fail
        go_quiet (fail)
        go_wp2_with fail
        go_roundw
        case rel => exact ⟨n + 1, by omega, by go_num, Lib.hid (Hn.out.later (drewN_bel _ _)), Lib.hid (Hb.out.trans ((drewN_bel _ _).mono (Nat.le_trans hMw Hb.out.size))), cell_then r0 (drewN_bel _ _), cell_then r1 (drewN_bel _ _), cell_then r3 (drewN_bel _ _)⟩
        case measure => simp [intOf]; omega
    · obtain rfl : n = m := by omega
      go_wp2_with fail
      go_ret2
      refine ⟨rfl, ?_, Hb.out⟩
      have := HLr.out
      rw [← Hlen.out, tabTo_end] at this
      exact this
end Go.Proofs.YthjcifokmcbaoaaGreatDoor.st
/- package step's made$1 (which pairs go) and the library's clear and DeleteFunc for pairs in a block of their own. -/
namespace Go.Proofs.YthjcifokmcbaoaaGreatDoor.st
open Go.ChangeShapes Go.WideShapes Go.ChangeAt Go.RowKit gl ls

set_option maxHeartbeats 1000000 in
theorem made1_any (t k : ByteArray) (x : Pr) (bs : Nat) (w : World) (h1 : w.cell? ⟨bs, 1, none⟩ = some (.string t)) (h2 : w.cell? ⟨bs, 2, none⟩ = some (.string k)) :
    Calls Tryz.prog 119 #[.agg #[.string (B x.table), .string (B x.key), .string (B x.value)], .pointer (some ⟨bs, 0, none⟩)] w fun e w' => e = .returned (.bool (goes t.data.toList k.data.toList x)) ∧ Below w.heap.size w w' := by
  have e1 : ((B x.table).toList == t.toList) = decide (x.table = t.data.toList) := by
    by_cases h : x.table = t.data.toList
    · rw [decide_eq_true h]; exact seq_true (by rw [h, B_of])
    · rw [decide_eq_false h]; exact seq_false (fun e => h (by rw [← e, B_list]))
  have e2 : ((B x.key).toList == k.toList) = decide (x.key = k.data.toList) := by
    by_cases h : x.key = k.data.toList
    · rw [decide_eq_true h]; exact seq_true (by rw [h, B_of])
    · rw [decide_eq_false h]; exact seq_false (fun e => h (by rw [← e, B_list]))
  have hk1 := isE k
  have hk2 := isE2 k
  have Hr : Hid (goes t.data.toList k.data.toList x = (decide (x.table = t.data.toList) && (k.data.toList.isEmpty || decide (x.key = k.data.toList)))) := Lib.hid rfl
  have Hb := Lib.hid ((Below.refl w.heap.size w).alloc (Nat.le_refl _) (.cells #[.string (B x.table), .string (B x.key), .string (B x.value)] 57))
  have hlt := World.block_lt_of_cell? _ _ h1
  generalize goes t.data.toList k.data.toList x = r at *
  generalize decide (x.table = t.data.toList) = d1 at *
  generalize decide (x.key = k.data.toList) = d2 at *
  generalize k.data.toList.isEmpty = ek at *
  generalize B x.table = x1 at *
  generalize B x.key = x2 at *
  generalize B x.value = x3 at *
  have q1 : (w.alloc (.cells #[.string x1, .string x2, .string x3] 57)).cell? ⟨bs, 1, none⟩ = some (.string t) := (Hb.out.cell (p := ⟨bs, 1, none⟩) hlt).trans h1
  have q2 : (w.alloc (.cells #[.string x1, .string x2, .string x3] 57)).cell? ⟨bs, 2, none⟩ = some (.string k) := (Hb.out.cell (p := ⟨bs, 2, none⟩) hlt).trans h2
  cases d1
  · go_enter Tryz.func119, Tryz.ntmps119
    go_wp2_with fail
    go_ret
    exact ⟨by rw [Hr.out]; rfl, Hb.out⟩
  · cases ek
    · go_enter Tryz.func119, Tryz.ntmps119
      go_wp2_with fail
      go_ret
      exact ⟨by rw [Hr.out]; simp, Hb.out⟩
    · go_enter Tryz.func119, Tryz.ntmps119
      go_wp2_with fail
      go_ret
      exact ⟨by rw [Hr.out]; rfl, Hb.out⟩

theorem flat_take {l : List Pr} {k : Nat} {i : Nat} {v : Value} (h : (prsC (l.take k))[i]? = some v) : (prsC l)[i]? = some v := by
  have : prsC l = prsC (l.take k) ++ prsC (l.drop k) := by rw [← rw.flat_append, List.take_append_drop]
  rw [this, List.getElem?_append_left (List.getElem?_eq_some_iff.1 h).1]
  exact h
theorem LiesP.take {g c : Nat} {w : World} {l : List Pr} (h : LiesP g c w l) (k : Nat) : LiesP g c w (l.take k) := by
  obtain ⟨cs, h1, h2, h3, h4⟩ := h
  exact ⟨cs, h1, by rw [List.length_take]; omega, h3, fun i v hv => h4 i v (flat_take hv)⟩
/-- The run of clear on a part of the block. -/
theorem run_clear (g c k n cc : Nat) (w : World) (l : List Pr) (h : LiesP g c w l) (hk : k + n = l.length) (hn : 0 < n) (ty : TypeId) :
    ∃ w', (Builtin.clear_ #[44] ty #[.slice (some ⟨g, k * 3, none⟩) n cc]).run Tryz.prog w = .ok (.tuple #[]) w' ∧ LiesP g c w' (l.take k) ∧ (∀ M w0, M ≤ g → Below M w0 w → Below M w0 w') ∧ (∀ b o v, b ≠ g → w.cell? ⟨b, o, none⟩ = some v → w'.cell? ⟨b, o, none⟩ = some v) := by
  obtain ⟨cs, h1, h2, h3, h4⟩ := h
  have hz : ∀ W : World, (zeroValue 57).run Tryz.prog W = .ok (.agg #[.string .empty, .string .empty, .string .empty]) W := fun W => by kernel_rfl
  have hu := Tryz.underlying44
  have hsz : (Builtin.zeroCells #[Value.string .empty, .string .empty, .string .empty] n).toList.length = n * 3 := by simp [Builtin.zeroCells]
  have hone : ∀ v ∈ (Builtin.zeroCells #[Value.string .empty, .string .empty, .string .empty] n).toList, v.oneCell' = true := by
    intro v hv
    simp only [Builtin.zeroCells, Array.toList_map, List.mem_map] at hv
    obtain ⟨a, _, rfl⟩ := hv
    show (#[Value.string .empty, .string .empty, .string .empty][a % 3]!).oneCell' = true
    have h3 : a % 3 = 0 ∨ a % 3 = 1 ∨ a % 3 = 2 := by omega
    rcases h3 with h | h | h <;> rw [h] <;> rfl
  have hcell : ∀ j, j < (Builtin.zeroCells #[Value.string .empty, .string .empty, .string .empty] n).toList.length → (w.cell? ⟨g, k * 3 + 0 + j, none⟩).isSome = true := by
    intro j hj
    rw [hsz] at hj
    rw [Nat.add_zero, cell_in h1, Array.getElem?_eq_getElem (by omega)]
    rfl
  have hst := run_storeCells_cells (P := Tryz.prog) g (k * 3) (Builtin.zeroCells #[Value.string .empty, .string .empty, .string .empty] n).toList 0 w hcell (fun j _ => frozen_of_row w g _ cs _ h1) hone
  simp only [Nat.add_zero] at hst
  obtain ⟨m, rfl⟩ : ∃ m, n = m + 1 := ⟨n - 1, by omega⟩
  refine ⟨w.setCells g (k * 3) (Builtin.zeroCells #[Value.string .empty, .string .empty, .string .empty] (m + 1)).toList, ?_, ?_, fun M w0 hM hb => below_setCells hM _ _ _ hb, fun b o v hne hv => ?_⟩
  · simp [Builtin.clear_, run_underlying hu, hz, Value.cells, hst]
  · exact ⟨_, heap_setCells _ w cs _ h1, by rw [List.length_take]; omega, by rw [setR_size]; exact h3, At.out (fun i v hv => h4 i v (flat_take hv)) (.inl (by rw [rw.flat_len prC_len, List.length_take]; omega))⟩
  · rw [← hv]
    simp only [World.cell?]
    rw [heap_setCells_ne hne]
end Go.Proofs.YthjcifokmcbaoaaGreatDoor.st
/- slices.DeleteFunc of the pairs that go, in a block of their own. -/
namespace Go.Proofs.YthjcifokmcbaoaaGreatDoor.st
open Go.ChangeShapes Go.WideShapes Go.ChangeAt Go.RowKit gl ls

/-- How far DeleteFunc is: i are kept of the first j. -/
structure Del (q : Pr → Bool) (l cur : List Pr) (i j : Nat) : Prop where
  len : cur.length = l.length
  lt : i < j
  le : j ≤ l.length
  head : cur.take i = (l.take j).filter q
  rest : ∀ j', j ≤ j' → cur[j']? = l[j']?
theorem Del.begin {q : Pr → Bool} {l : List Pr} {i : Nat} {x : Pr} (hx : l[i]? = some x) (hq : q x = false) (h : ∀ (j : Nat) (y : Pr), j < i → l[j]? = some y → q y = true) : Del q l l i (i + 1) := by
  have hi := lt_of_at hx
  refine ⟨rfl, by omega, by omega, ?_, fun _ _ => rfl⟩
  rw [List.take_add_one, hx, List.filter_append]
  have : (l.take i).filter q = l.take i := by
    rw [List.filter_eq_self]
    intro a ha
    obtain ⟨j, hj, rfl⟩ := List.mem_iff_getElem.1 ha
    rw [List.length_take] at hj
    rw [List.getElem_take]
    exact h j _ (by omega) (List.getElem?_eq_getElem (by omega))
  rw [this]
  simp [hq]
theorem Del.skip {q : Pr → Bool} {l cur : List Pr} {i j : Nat} {x : Pr} (h : Del q l cur i j) (hx : l[j]? = some x) (hq : q x = false) : Del q l cur i (j + 1) := by
  have hj := lt_of_at hx
  refine ⟨h.len, by have := h.lt; omega, by omega, ?_, fun j' h' => h.rest j' (by omega)⟩
  rw [List.take_add_one, hx, List.filter_append, ← h.head]
  simp [hq]
theorem Del.keep {q : Pr → Bool} {l cur : List Pr} {i j : Nat} {x : Pr} (h : Del q l cur i j) (hx : l[j]? = some x) (hq : q x = true) : Del q l (cur.set i x) (i + 1) (j + 1) := by
  have hj := lt_of_at hx
  have hi := h.lt
  refine ⟨by rw [List.length_set]; exact h.len, by omega, by omega, ?_, fun j' h' => ?_⟩
  · have hil : i < cur.length := by rw [h.len]; omega
    have e1 : l.take (j + 1) = l.take j ++ [x] := by rw [List.take_add_one, hx]; rfl
    have e2 : (cur.set i x).take (i + 1) = cur.take i ++ [x] := by
      rw [List.take_add_one, List.getElem?_set_self hil, List.take_set, List.set_eq_of_length_le (by rw [List.length_take]; omega)]
      rfl
    rw [e1, e2, List.filter_append, ← h.head]
    simp [hq]
  · rw [List.getElem?_set_ne (by omega)]
    exact h.rest j' (by omega)
theorem Del.done {q : Pr → Bool} {l cur : List Pr} {i : Nat} (h : Del q l cur i l.length) : cur.take i = l.filter q ∧ (l.filter q).length = i := by
  have h1 := h.head
  rw [List.take_length] at h1
  refine ⟨h1, ?_⟩
  rw [← h1, List.length_take, h.len]
  have := h.lt
  omega
theorem Del.at {q : Pr → Bool} {l cur : List Pr} {i j : Nat} {x : Pr} (h : Del q l cur i j) (hx : l[j]? = some x) : cur[j]? = some x := by rw [h.rest j (Nat.le_refl _)]; exact hx
theorem LiesP.whole {g c j : Nat} {w : World} {l : List Pr} {x y : Pr} (h : LiesP g c w l) (hx : l[j]? = some x) : LiesP g c (((w.setCell ⟨g, j * 3, none⟩ (.string (B y.table))).setCell ⟨g, j * 3 + 1, none⟩ (.string (B y.key))).setCell ⟨g, j * 3 + 2, none⟩ (.string (B y.value))) (l.set j y) := by
  have hj := lt_of_at hx
  have h1 := h.table hx y.table
  have h2 := h1.key (List.getElem?_set_self hj) y.key
  have h3 := h2.value (List.getElem?_set_self (by rw [List.length_set]; exact hj)) y.value
  simp only [List.set_set] at h3
  exact h3
set_option maxHeartbeats 4000000 in
set_option maxRecDepth 100000 in
theorem delete_any (g m c M bs : Nat) (l : List Pr) (t k : ByteArray) (hM : M ≤ g) (hlen : l.length = m) (hm : m ≤ 4294967295) (hbs : bs ≠ g) (w : World) (h : LiesP g c w l) (h1 : w.cell? ⟨bs, 1, none⟩ = some (.string t)) (h2 : w.cell? ⟨bs, 2, none⟩ = some (.string k)) :
    Calls Tryz.prog 118 #[.slice (some ⟨g, 0, none⟩) m c, .func (.func 119) #[] #[.pointer (some ⟨bs, 0, none⟩)]] w fun e w' => ∃ n' : Nat, e = .returned (.slice (some ⟨g, 0, none⟩) n' c) ∧ n' = (butL l t.data.toList k.data.toList).length ∧ LiesP g c w' (butL l t.data.toList k.data.toList) ∧ Below M w w' := by
  have hg := h.lt
  have hMw : M ≤ w.heap.size := by omega
  have hp := h.prs
  rw [hlen] at hp
  have HM := Lib.hid fun (x : Pr) (W : World) (a : W.cell? ⟨bs, 1, none⟩ = some (.string t)) (b : W.cell? ⟨bs, 2, none⟩ = some (.string k)) => made1_any t k x bs W a b
  have HI := Lib.hid (idx_any (goes t.data.toList k.data.toList) 119 #[.pointer (some ⟨bs, 0, none⟩)] (enters_of Tryz.func119 (by kernel_rfl) rfl) _ m c l hm w hp (fun W x hb => (made1_any t k x bs W (cell_then h1 hb) (cell_then h2 hb)).mono fun e w' h => ⟨h.1, hb.trans (h.2.mono hb.size)⟩))
  have hmc : m ≤ c := by obtain ⟨cs, _, h5, _⟩ := h; omega
  have HL := Lib.hid h
  have Hlen := Lib.hid hlen
  have H1 := Lib.hid h1
  have H2 := Lib.hid h2
  clear h hlen h1 h2 hp
  cases hf : l.findIdx? (goes t.data.toList k.data.toList) with
  | none =>
    have Hr : Hid (butL l t.data.toList k.data.toList = l) := Lib.hid (by
      unfold butL
      rw [List.filter_eq_self]
      intro a ha
      rw [List.findIdx?_eq_none_iff] at hf
      simpa using hf a ha)
    rw [hf, idxI_none] at HI
    clear hf
    go_enter Tryz.func118, Tryz.ntmps118
    go_wp2_with fail
    refine HI.out.mono ?_
    rintro e w' ⟨rfl, hb⟩
    have Hb := Lib.hid hb
    clear hb
    go_wp2_with fail
    go_ret
    rw [Hr.out]
    exact ⟨m, rfl, Hlen.out.symm, HL.out.later Hb.out, Hb.out.mono hMw⟩
  | some i0 =>
    obtain ⟨hi0, hq0, hj0⟩ := List.findIdx?_eq_some_iff_getElem.1 hf
    have HD : Hid (Del (fun p => !goes t.data.toList k.data.toList p) l l i0 (i0 + 1)) := Lib.hid (Del.begin (List.getElem?_eq_getElem hi0) (by simp [hq0]) (fun j y hj hy => by
      obtain ⟨hjl, rfl⟩ := List.getElem?_eq_some_iff.1 hy
      simpa using hj0 j hj))
    rw [hf, idxI_some] at HI
    rw [Hlen.out] at hi0
    have hne : ((i0 : Int) == -1) = false := by simp <;> omega
    have hne' : decide ((i0 : Int) = -1) = false := by rw [decide_eq_false_iff_not]; omega
    clear hf hq0 hj0
    go_enter Tryz.func118, Tryz.ntmps118
    go_wp2_with fail
    refine HI.out.mono ?_
    rintro e w1 ⟨rfl, hb⟩
    have Hb1 := Lib.hid hb
    clear hb
    go_wp2_with fail
    go_loopw [5, 6] (fun a e wr => ∃ (i j : Nat) (cur : List Pr), a = .int .i64 (i : Int) ∧ e = .int .i64 (j : Int) ∧ i < j ∧ j ≤ m ∧ Hid (Del (fun p => !goes t.data.toList k.data.toList p) l cur i j) ∧ Hid (LiesP g c wr cur) ∧ Hid (Below M w wr) ∧ Hid (wr.cell? ⟨bs, 1, none⟩ = some (.string t)) ∧ Hid (wr.cell? ⟨bs, 2, none⟩ = some (.string k))) (fun _ e _ => m - (intOf e).toNat)
    case atStart => exact ⟨i0, i0 + 1, l, rfl, by go_num, by omega, by omega, HD, Lib.hid (HL.out.later Hb1.out), Lib.hid (Hb1.out.mono hMw), Lib.hid (cell_then H1.out Hb1.out), Lib.hid (cell_then H2.out Hb1.out)⟩
    case round =>
      obtain ⟨i, j, cur, rfl, rfl, hij, hjm, HDr, HLr, HBr, HC1, HC2⟩ := hrel
      by_cases hlt : j < m
      · obtain ⟨x, hx⟩ : ∃ x, l[j]? = some x := ⟨_, List.getElem?_eq_getElem (by rw [Hlen.out]; exact hlt)⟩
        have Hx := Lib.hid hx
        obtain ⟨k0, k1, k2⟩ := prs_cells HLr.out.prs (HDr.out.at hx)
        simp only [Nat.zero_add] at k0 k1 k2
        clear hx
        obtain ⟨wA, hA⟩ : ∃ wA, wA = wr.alloc (.cells #[.string (B x.table), .string (B x.key), .string (B x.value)] 57) := ⟨_, rfl⟩
        have hbk : wA.heap[wr.heap.size]? = some (.cells #[.string (B x.table), .string (B x.key), .string (B x.value)] 57 (0, 0)) := by rw [hA]; exact heap_alloc_new wr _
        have HbA : Hid (Below wr.heap.size wr wA) := Lib.hid (by rw [hA]; exact (Below.refl _ _).alloc (Nat.le_refl _) _)
        have HP := Lib.hid (HM.out x wA (cell_then HC1.out HbA.out) (cell_then HC2.out HbA.out))
        have HA := Lib.hid hA
        have Hbk := Lib.hid hbk
        have hgr := HLr.out.lt
        have HLA := Lib.hid (HLr.out.later HbA.out)
        clear hA hbk
        cases hgo : goes t.data.toList k.data.toList x with
        | true =>
          have HD2 := Lib.hid (HDr.out.skip Hx.out (by simp [hgo]))
          rw [hgo] at HP
          clear hgo
          go_wp2_with fail
          rw [← HA.out]
          refine HP.out.mono ?_
          rintro e w2 ⟨rfl, hb2⟩
          have Hb2 := Lib.hid (then_bel HbA.out hb2)
          clear hb2
          go_wp2_with fail
          go_roundw
          case rel => exact ⟨i, j + 1, cur, rfl, by go_num, by omega, by omega, HD2, Lib.hid (HLr.out.later Hb2.out), Lib.hid (HBr.out.trans (Hb2.out.mono (Nat.le_trans hMw HBr.out.size))), Lib.hid (cell_then HC1.out Hb2.out), Lib.hid (cell_then HC2.out Hb2.out)⟩
          case measure => simp [intOf]; omega
        | false =>
          have HD2 := Lib.hid (HDr.out.keep Hx.out (by simp [hgo]))
          rw [hgo] at HP
          clear hgo
          have him : (i : Int) < (m : Int) := by omega
          obtain ⟨y, hy⟩ : ∃ y, cur[i]? = some y := ⟨_, List.getElem?_eq_getElem (by rw [HDr.out.len, Hlen.out]; omega)⟩
          have Hy := Lib.hid hy
          clear hy
          go_wp2_with fail
          rw [← HA.out]
          refine HP.out.mono ?_
          rintro e w2 ⟨rfl, hb2⟩
          have f0 := cell_then (cell_in (o := 0) Hbk.out) hb2
          have f1 := cell_then (cell_in (o := 1) Hbk.out) hb2
          have f2 := cell_then (cell_in (o := 2) Hbk.out) hb2
          have Hb2 := Lib.hid (then_bel HbA.out hb2)
          have HL2 := Lib.hid (HLr.out.later Hb2.out)
          have hfr0 := HL2.out.free (i * 3)
          have hfr1 := HL2.out.free (i * 3 + 1)
          have hfr2 := HL2.out.free (i * 3 + 2)
          obtain ⟨y0, y1, y2⟩ := prs_cells HL2.out.prs Hy.out
          simp only [Nat.zero_add] at y0 y1 y2
          clear hb2 k0 k1 k2
          go_wp2_with fail
          go_roundw
          case rel =>
            have far : ∀ (o : Nat) (v : Value), wr.cell? ⟨bs, o, none⟩ = some v → (((w2.setCell ⟨g, i * 3, none⟩ (.string (B x.table))).setCell ⟨g, i * 3 + 1, none⟩ (.string (B x.key))).setCell ⟨g, i * 3 + 2, none⟩ (.string (B x.value))).cell? ⟨bs, o, none⟩ = some v := by
              intro o v hv
              rw [World.cell?_setCell_far _ _ _ _ (Ne.symm hbs), World.cell?_setCell_far _ _ _ _ (Ne.symm hbs), World.cell?_setCell_far _ _ _ _ (Ne.symm hbs)]
              exact cell_then hv Hb2.out
            exact ⟨i + 1, j + 1, cur.set i x, by go_num, by go_num, by omega, by omega, HD2, Lib.hid (HL2.out.whole Hy.out), Lib.hid ((((HBr.out.trans (Hb2.out.mono (Nat.le_trans hMw HBr.out.size))).setCell (p := ⟨g, i * 3, none⟩) hM _).setCell (p := ⟨g, i * 3 + 1, none⟩) hM _).setCell (p := ⟨g, i * 3 + 2, none⟩) hM _), Lib.hid (far 1 _ HC1.out), Lib.hid (far 2 _ HC2.out)⟩
          case measure => simp [intOf]; omega
      · obtain rfl : j = m := by omega
        have hic : i < c := by omega
        have hic' : ((i : Int) < (c : Int)) := by omega
        obtain ⟨w2, hrun, HL2, HB2, _⟩ := run_clear g c i (j - i) (c - i) wr cur HLr.out (by rw [HDr.out.len, Hlen.out]; omega) (by omega) 0
        obtain ⟨hd1, hd2⟩ := Del.done (by rw [Hlen.out]; exact HDr.out)
        have Hd1 := Lib.hid hd1
        have Hd2 := Lib.hid hd2
        have HLz := Lib.hid HL2
        have HBz := Lib.hid (HB2 M w hM HBr.out)
        clear hd1 hd2 HL2 HB2
        go_wp2_with fail
        go_ret
        refine ⟨i, rfl, Hd2.out.symm, ?_, HBz.out⟩
        unfold butL
        rw [← Hd1.out]
        exact HLz.out
end Go.Proofs.YthjcifokmcbaoaaGreatDoor.st
/- A law on memory for any program: an append of one struct that was just laid, to a row of such structs that the call owns. No conditions beside those stated. -/
namespace Go.Proofs.YthjcifokmcbaoaaGreatDoor
open Go.RowKit
section
variable {P : Program}
/-- 'append(out, x)', x a struct of size cells. -/
theorem wpList_append_k {ops : Array Oper} {rest : List Oper} {o : Oper} {a : Act} {w : World} {Q : Exit → Act → World → Prop} (hgd : o.guard = none) (s x : Operand) (t : TypeId)
    (ho : o.op = .call { callee := .builtin .append, args := #[s, x], argTypes := #[t, t] })
    (e : TypeId) (i : TypeInfo) (z : Value) (size bytes : Nat) (ht : P.underlying t = some (.slice e)) (hi : P.info? e = some i) (hz : i.zero = some z)
    (hsize : i.size = size) (hby : i.bytes = bytes) (hzs : z.cells.size = size) (hsz : 0 < size) (cs : Array Value) (hx : a.eval x = .slice (some ⟨w.heap.size, 0, none⟩) 1 1) (hl : cs.size = size)
    (base : Nat) (v : Value) (n : Nat) (xs : List Value) (hs : a.eval s = v) (hown : w.ownsRow base e size v n xs)
    (h1 : ∀ u ∈ cs.toList, u.oneCell' = true) (h63 : n + 1 ≤ 9223372036854775807) (hbytes : (n + 1) * bytes ≤ 140737488355328) (hbase : base ≤ w.heap.size)
    (h : ∀ g cap w', w'.ownsRow base e size (.slice (some ⟨g, 0, none⟩) (n + 1) cap) (n + 1) (xs ++ cs.toList) → w.grownBy w' v.ownBlock → (v.ownBlock = some g ∨ w.heap.size ≤ g) → w.heap.size < w'.heap.size → g < w'.heap.size →
      wpList P ops Q rest (a.put o.dst (.slice (some ⟨g, 0, none⟩) (n + 1) cap)) w') :
    wpList P ops Q (o :: rest) a (w.alloc (.cells cs e)) := by
  refine wpList_append_lies (w.alloc (.cells cs e)) hgd s x t ho base e i z size bytes ht hi hz hsize hby hzs hsz v n xs hs (hown.alloc _) ⟨w.heap.size, 0, none⟩ 1 1 cs.toList hx (by simpa using hl)
    (World.news_of_block (heap_alloc_new w _)) h1 (by omega) (by unfold maxLen; omega) hbytes (by simp; omega) (w.heap.size + 1) (by simp) fun g cap w' h2 h3 h4 h5 => ?_
  refine h g cap w' h2 ⟨h3.os, h3.tape, h3.output, by have := h3.size; simp at this; omega, fun k hk hne => (h3.block k (by simp; omega) hne).trans (Below.heap_alloc w _ k hk)⟩ ?_ (by have := h3.size; simp at this; omega) h5
  rcases h4 with h4 | h4
  · exact .inl h4
  · exact .inr (by omega)
/-- The same at a step of a region that draws its order. -/
theorem step_append_k {ops : Array Oper} {o : Oper} {a : Act} {w : World} {K : Act → World → Prop} {Q : Exit → Act → World → Prop} {E : Prop} (hgd : o.guard = none) (s x : Operand) (t : TypeId)
    (ho : o.op = .call { callee := .builtin .append, args := #[s, x], argTypes := #[t, t] })
    (e : TypeId) (i : TypeInfo) (z : Value) (size bytes : Nat) (ht : P.underlying t = some (.slice e)) (hi : P.info? e = some i) (hz : i.zero = some z)
    (hsize : i.size = size) (hby : i.bytes = bytes) (hzs : z.cells.size = size) (hsz : 0 < size) (cs : Array Value) (hx : a.eval x = .slice (some ⟨w.heap.size, 0, none⟩) 1 1) (hl : cs.size = size)
    (base : Nat) (v : Value) (n : Nat) (xs : List Value) (hs : a.eval s = v) (hown : w.ownsRow base e size v n xs)
    (h1 : ∀ u ∈ cs.toList, u.oneCell' = true) (h63 : n + 1 ≤ 9223372036854775807) (hbytes : (n + 1) * bytes ≤ 140737488355328) (hbase : base ≤ w.heap.size)
    (h : ∀ g cap w', w'.ownsRow base e size (.slice (some ⟨g, 0, none⟩) (n + 1) cap) (n + 1) (xs ++ cs.toList) → w.grownBy w' v.ownBlock → (v.ownBlock = some g ∨ w.heap.size ≤ g) → w.heap.size < w'.heap.size → g < w'.heap.size →
      K (a.put o.dst (.slice (some ⟨g, 0, none⟩) (n + 1) cap)) w') :
    if Region.wanted o (yielded ops a.tmps) = true then Oper.wp P o a (w.alloc (.cells cs e)).drew K Q else E := by
  refine step_append_lies (w.alloc (.cells cs e)).drew hgd s x t ho base e i z size bytes ht hi hz hsize hby hzs hsz v n xs hs (hown.alloc _) ⟨w.heap.size, 0, none⟩ 1 1 cs.toList hx (by simpa using hl)
    (World.news_of_block (heap_alloc_new w _)) h1 (by omega) (by unfold maxLen; omega) hbytes (by simp; omega) (w.heap.size + 1) (by simp) fun g cap w' h2 h3 h4 h5 => ?_
  refine h g cap w' h2 ⟨h3.os, h3.tape, h3.output, by have := h3.size; simp at this; omega, fun k hk hne => (h3.block k (by simp; omega) hne).trans (Below.heap_alloc w _ k hk)⟩ ?_ (by have := h3.size; simp at this; omega) h5
  rcases h4 with h4 | h4
  · exact .inl h4
  · exact .inr (by omega)
/-- The same, behind a call. -/
theorem step_append_k0 {ops : Array Oper} {o : Oper} {a : Act} {w : World} {K : Act → World → Prop} {Q : Exit → Act → World → Prop} {E : Prop} (hgd : o.guard = none) (s x : Operand) (t : TypeId)
    (ho : o.op = .call { callee := .builtin .append, args := #[s, x], argTypes := #[t, t] })
    (e : TypeId) (i : TypeInfo) (z : Value) (size bytes : Nat) (ht : P.underlying t = some (.slice e)) (hi : P.info? e = some i) (hz : i.zero = some z)
    (hsize : i.size = size) (hby : i.bytes = bytes) (hzs : z.cells.size = size) (hsz : 0 < size) (cs : Array Value) (hx : a.eval x = .slice (some ⟨w.heap.size, 0, none⟩) 1 1) (hl : cs.size = size)
    (base : Nat) (v : Value) (n : Nat) (xs : List Value) (hs : a.eval s = v) (hown : w.ownsRow base e size v n xs)
    (h1 : ∀ u ∈ cs.toList, u.oneCell' = true) (h63 : n + 1 ≤ 9223372036854775807) (hbytes : (n + 1) * bytes ≤ 140737488355328) (hbase : base ≤ w.heap.size)
    (h : ∀ g cap w', w'.ownsRow base e size (.slice (some ⟨g, 0, none⟩) (n + 1) cap) (n + 1) (xs ++ cs.toList) → w.grownBy w' v.ownBlock → (v.ownBlock = some g ∨ w.heap.size ≤ g) → w.heap.size < w'.heap.size → g < w'.heap.size →
      K (a.put o.dst (.slice (some ⟨g, 0, none⟩) (n + 1) cap)) w') :
    if Region.wanted o (yielded ops a.tmps) = true then Oper.wp P o a (w.alloc (.cells cs e)) K Q else E := by
  refine step_append_lies (w.alloc (.cells cs e)) hgd s x t ho base e i z size bytes ht hi hz hsize hby hzs hsz v n xs hs (hown.alloc _) ⟨w.heap.size, 0, none⟩ 1 1 cs.toList hx (by simpa using hl)
    (World.news_of_block (heap_alloc_new w _)) h1 (by omega) (by unfold maxLen; omega) hbytes (by simp; omega) (w.heap.size + 1) (by simp) fun g cap w' h2 h3 h4 h5 => ?_
  refine h g cap w' h2 ⟨h3.os, h3.tape, h3.output, by have := h3.size; simp at this; omega, fun k hk hne => (h3.block k (by simp; omega) hne).trans (Below.heap_alloc w _ k hk)⟩ ?_ (by have := h3.size; simp at this; omega) h5
  rcases h4 with h4 | h4
  · exact .inl h4
  · exact .inr (by omega)
end
end Go.Proofs.YthjcifokmcbaoaaGreatDoor
/- slices.Clone of pairs gives a list of its own; package step's made, kind 1 (put). -/
namespace Go.Proofs.YthjcifokmcbaoaaGreatDoor.st
open Go.ChangeShapes Go.WideShapes Go.ChangeAt Go.RowKit gl ls

/-- A list of pairs that a call owns, from block M on. -/
abbrev OwnP (M : Nat) (w : World) (v : Value) (l : List Pr) : Prop := w.ownsRow M 57 3 v l.length (prsC l)
theorem OwnP.prs {M : Nat} {w : World} {v : Value} {l : List Pr} (h : OwnP M w v l) : Prs w v l := rw.own_rw prC_len (by decide) h
theorem OwnP.new {M : Nat} {w : World} {v : Value} {l : List Pr} (h : OwnP M w v l) : NewPrs M w v l := rw.own_new prC_len (by decide) h
theorem OwnP.parts {M : Nat} {w : World} {v : Value} {l : List Pr} (h : OwnP M w v l) : (v = .slice none 0 0 ∧ l = []) ∨ ∃ g c, v = .slice (some ⟨g, 0, none⟩) l.length c ∧ M ≤ g ∧ LiesP g c w l := by
  rcases h.new with ⟨rfl, rfl⟩ | ⟨g, c, cs, rfl, h1, h2, h3, h4, h5⟩
  · exact .inl ⟨rfl, rfl⟩
  · exact .inr ⟨g, c, rfl, h2, cs, h3, h1, h4, h5⟩
set_option maxRecDepth 100000 in
theorem clone_own (p : Option Addr) (m c : Nat) (l : List Pr) (hm : m ≤ 4294967295) (w : World) (h : Prs w (.slice p m c) l) :
    Calls Tryz.prog 72 #[.slice p m c] w fun e w' => ∃ v, e = .returned v ∧ OwnP w.heap.size w' v l ∧ Below w.heap.size w w' := by
  obtain ⟨hlen, hmc, hptr⟩ := h.ptr
  rcases Nat.eq_zero_or_pos m with h0 | h0
  · subst h0
    obtain rfl : l = [] := List.length_eq_zero_iff.1 hlen
    cases p with
    | none =>
      refine (AnyE.slices_Clone_nil Tryz.clonePr 0 c w).mono ?_
      rintro e w' ⟨rfl, rfl⟩
      exact ⟨_, rfl, ⟨rfl, .inl ⟨rfl, rfl⟩⟩, Below.refl _ _⟩
    | some a =>
      have hi := infoPr
      have q22 : ∀ (w : World) (a : Option Addr) (n c n' c' : Nat), (binOp .eql 44 (.slice a n c) (.slice none n' c')).run Tryz.prog w = .ok (.bool a.isNone) w := fun w a n c n' c' => Lib.run_eql_slice_nil w _ _ a n c n' c' Tryz.clonePr.t22
      have qs : (some a).isNone = false := rfl
      go_enter Tryz.func72, Tryz.ntmps72
      go_wp2_with fail
      go_ret
      exact ⟨_, rfl, World.ownsRow_made w #[] 0 (Nat.le_refl _) (Nat.zero_le _) (by simp), (Below.refl _ _).alloc (Nat.le_refl _) _⟩
  · obtain ⟨b, o, rfl, hb⟩ := hptr h0
    have hi := infoPr
    obtain ⟨i0, hi0, hi1⟩ := Option.map_eq_some_iff.1 hi
    simp only [Prod.mk.injEq] at hi1
    obtain ⟨hz, hs, hby⟩ := hi1
    refine (AnyE.slices_Clone Tryz.clonePr i0 _ 3 48 hi0 hz hs hby rfl (by decide) Tryz.sizeOf57 b o m c (prsC l) w (by rw [rw.flat_len prC_len, hlen]) (by unfold maxLen; omega) (by omega) (fun j u hu => ?_) (fun u hu => rw.flat_one prC_one l u hu)).mono ?_
    · obtain ⟨y, hy, hv⟩ := flat_inv hu
      have h3 := h.cell hy hv
      rwa [show j / 3 * 3 + j % 3 = j by omega] at h3
    · rintro e w' ⟨v, rfl, hv, _, hb'⟩
      exact ⟨v, rfl, by unfold OwnP; rw [hlen]; exact hv, hb'⟩
theorem box1 {s : Sp} {w wA : World} (hA : wA = w.alloc (.cells #[.int .i64 s.kind, .string (B s.table), .string (B s.key), .string (B s.to), .string (B s.text)] 42)) :
    Below w.heap.size w wA ∧ wA.cell? ⟨w.heap.size, 0, none⟩ = some (.int .i64 s.kind) ∧ wA.cell? ⟨w.heap.size, 1, none⟩ = some (.string (B s.table)) ∧ wA.cell? ⟨w.heap.size, 2, none⟩ = some (.string (B s.key)) ∧ wA.cell? ⟨w.heap.size, 3, none⟩ = some (.string (B s.to)) ∧ wA.cell? ⟨w.heap.size, 4, none⟩ = some (.string (B s.text)) := by
  have h2 := heap_alloc_new w (.cells #[.int .i64 s.kind, .string (B s.table), .string (B s.key), .string (B s.to), .string (B s.text)] 42)
  rw [← hA] at h2
  exact ⟨by rw [hA]; exact (Below.refl _ _).alloc (Nat.le_refl _) _, cell_in (o := 0) h2, cell_in (o := 1) h2, cell_in (o := 2) h2, cell_in (o := 3) h2, cell_in (o := 4) h2⟩
set_option maxHeartbeats 4000000 in
set_option maxRecDepth 100000 in
theorem made_put (M : Nat) (v : Value) (l : List Pr) (s : Sp) (hk : s.kind = 1) (hm : l.length ≤ 1000) (w : World) (hM : M ≤ w.heap.size) (h : OwnP M w v l) :
    Calls Tryz.prog 71 #[v, spA s] w fun e w' => (∃ v', e = .returned (.tuple #[v', .int .i64 (madeL l s).2]) ∧ OwnP M w' v' (madeL l s).1) ∧ Below M w w' := by
  unfold spA
  obtain ⟨p, c, rfl⟩ := h.new.form
  obtain ⟨wA, hA⟩ : ∃ wA, wA = w.alloc (.cells #[.int .i64 s.kind, .string (B s.table), .string (B s.key), .string (B s.to), .string (B s.text)] 42) := ⟨_, rfl⟩
  obtain ⟨hbA, c0, c1, c2, c3, c4⟩ := box1 hA
  have HP := Lib.hid (place_any p l.length c l (B s.table) (B s.key) (by omega) wA (h.prs.later hbA))
  simp only at HP
  have HA := Lib.hid hA
  have HbA := Lib.hid hbA
  have C0 := Lib.hid c0
  have C1 := Lib.hid c1
  have C2 := Lib.hid c2
  have C4 := Lib.hid c4
  have HO := Lib.hid (ls.own_kept h hbA)
  obtain ⟨i0, hi, hz0, hz1, hz2⟩ := info_parts infoPr
  have Hk := Lib.hid hk
  clear h hA hbA c0 c3 c4 hk
  cases hx : idxL l s.table s.key with
  | some i =>
    have Hr : Hid (madeL l s = ([], 161)) := Lib.hid (by unfold madeL; rw [if_pos Hk.out, hx]; rfl)
    rw [hx, idxI_some] at HP
    clear hx
    generalize B s.table = x1 at *
    generalize B s.key = x2 at *
    generalize B s.to = x3 at *
    generalize B s.text = x4 at *
    go_enter Tryz.func71, Tryz.ntmps71
    go_wp2_with fail
    rw [← HA.out]
    refine HP.out.mono ?_
    rintro e w1 ⟨rfl, hb1⟩
    have d0 := cell_then C0.out hb1
    rw [Hk.out] at d0
    have Hb1 := Lib.hid (then_bel HbA.out hb1)
    clear hb1
    go_wp2_with fail
    go_ret2
    rw [Hr.out]
    exact ⟨⟨_, rfl, rfl, .inl ⟨rfl, rfl⟩⟩, Hb1.out.mono hM⟩
  | none =>
    have Hr : Hid (madeL l s = (l ++ [⟨s.table, s.key, s.text⟩], 0)) := Lib.hid (by unfold madeL; rw [if_pos Hk.out, hx]; rfl)
    rw [hx, idxI_none] at HP
    have Hf : Hid (prsC (l ++ [⟨s.table, s.key, s.text⟩]) = prsC l ++ [.string (B s.table), .string (B s.key), .string (B s.text)]) := Lib.hid (rw.flat_snoc l _)
    clear hx
    generalize B s.table = x1 at *
    generalize B s.key = x2 at *
    generalize B s.to = x3 at *
    generalize B s.text = x4 at *
    have hneg : decide ((0 : Int) ≤ -1) = false := by decide
    go_enter Tryz.func71, Tryz.ntmps71
    go_wp2_with fail
    rw [← HA.out]
    refine HP.out.mono ?_
    rintro e w1 ⟨rfl, hb1⟩
    have d0 := cell_then C0.out hb1
    rw [Hk.out] at d0
    have d1 := cell_then C1.out hb1
    have d2 := cell_then C2.out hb1
    have d4 := cell_then C4.out hb1
    have Hb1 := Lib.hid (then_bel HbA.out hb1)
    have HO1 := Lib.hid (ls.own_kept HO.out hb1)
    have hzw := Hb1.out.size
    clear hb1
    focus
      go_wp2_with (at_builtin; go_must (refine wpList_append_k rfl _ _ 44 rfl 57 i0 _ 3 48 Tryz.underlying44 hi hz0 hz1 hz2 rfl (by omega) _ (by rfl) (by rfl) M _ l.length _ (by rfl) HO1.out (by simp [Value.oneCell']) (by omega) (by omega) (by omega) ?_))
    intro g' cap' w5 hown5 hgrow hat hz5 hlt5
    have Hown5 := Lib.hid hown5
    have HB5 := Lib.hid (below_grown_own (Hb1.out.mono hM) HO1.out hgrow (by omega))
    clear hown5 hgrow hat hlt5
    go_wp2_with fail
    go_ret2
    rw [Hr.out]
    refine ⟨⟨_, rfl, ?_⟩, HB5.out⟩
    unfold OwnP
    rw [Hf.out, List.length_append]
    exact Hown5.out
end Go.Proofs.YthjcifokmcbaoaaGreatDoor.st
/- package step's made, kinds 2 (drop) and 4 (table renamed). -/
namespace Go.Proofs.YthjcifokmcbaoaaGreatDoor.st
open Go.ChangeShapes Go.WideShapes Go.ChangeAt Go.RowKit gl ls

theorem delete_nil (g' : Nat) (lb : Array Value) (w : World) : Calls Tryz.prog 118 #[.slice none 0 0, .func (.func g') #[] lb] w fun e w' => e = .returned (.slice none 0 0) ∧ w = w' := by
  have HI := Lib.hid (idxF_none none 0 g' lb w)
  go_enter Tryz.func118, Tryz.ntmps118
  go_wp2_with fail
  refine HI.out.mono ?_
  rintro e w' ⟨rfl, rfl⟩
  go_wp2_with fail
  go_ret
  exact ⟨rfl, rfl⟩
/-- DeleteFunc of the pairs that go, of a list that the call owns. -/
theorem delete_own (M bs : Nat) (v : Value) (l : List Pr) (t k : ByteArray) (hm : l.length ≤ 1000) (w : World) (_hM : M ≤ bs) (h : OwnP M w v l) (hbs : ∀ g, v.ownBlock = some g → bs ≠ g) (h1 : w.cell? ⟨bs, 1, none⟩ = some (.string t)) (h2 : w.cell? ⟨bs, 2, none⟩ = some (.string k)) :
    Calls Tryz.prog 118 #[v, .func (.func 119) #[] #[.pointer (some ⟨bs, 0, none⟩)]] w fun e w' => (∃ v', e = .returned v' ∧ NewPrs M w' v' (butL l t.data.toList k.data.toList)) ∧ Below M w w' := by
  have hbw := World.block_lt_of_cell? _ _ h1
  rcases h.parts with ⟨rfl, rfl⟩ | ⟨g, c, rfl, hMg, hL⟩
  · refine (delete_nil _ _ w).mono ?_
    rintro e w' ⟨rfl, rfl⟩
    exact ⟨⟨_, rfl, .inl ⟨rfl, rfl⟩⟩, Below.refl _ _⟩
  · refine (delete_any g l.length c M bs l t k hMg rfl (by omega) (hbs g rfl) w hL h1 h2).mono ?_
    rintro e w' ⟨n', rfl, rfl, h3, h4⟩
    exact ⟨⟨_, rfl, h3.new hMg⟩, h4⟩
set_option maxHeartbeats 4000000 in
set_option maxRecDepth 100000 in
theorem made_but (M : Nat) (v : Value) (l : List Pr) (s : Sp) (hk : s.kind = 2) (hm : l.length ≤ 1000) (w : World) (hM : M ≤ w.heap.size) (h : OwnP M w v l) :
    Calls Tryz.prog 71 #[v, spA s] w fun e w' => (∃ v', e = .returned (.tuple #[v', .int .i64 (madeL l s).2]) ∧ NewPrs M w' v' (madeL l s).1) ∧ Below M w w' := by
  unfold spA
  obtain ⟨p, c, rfl⟩ := h.new.form
  obtain ⟨wA, hA⟩ : ∃ wA, wA = w.alloc (.cells #[.int .i64 s.kind, .string (B s.table), .string (B s.key), .string (B s.to), .string (B s.text)] 42) := ⟨_, rfl⟩
  obtain ⟨hbA, c0, c1, c2, c3, c4⟩ := box1 hA
  have HP := Lib.hid (place_any p l.length c l (B s.table) (B s.key) (by omega) wA (h.prs.later hbA))
  have hOA := ls.own_kept h hbA
  have HDl := Lib.hid fun (W : World) (hb : Below wA.heap.size wA W) => delete_own M w.heap.size (.slice p l.length c) l (B s.table) (B s.key) hm W hM (ls.own_kept hOA hb) (fun g hg => by have := (h.lt g hg).2; omega) (cell_then c1 hb) (cell_then c2 hb)
  simp only at HP HDl
  have Hr : Hid (madeL l s = (butL l s.table s.key, 0)) := Lib.hid (by unfold madeL; rw [if_neg (by omega), if_pos hk])
  have HA := Lib.hid hA
  have HbA := Lib.hid hbA
  have C0 := Lib.hid c0
  have C1 := Lib.hid c1
  have C2 := Lib.hid c2
  have Hk := Lib.hid hk
  clear h hA hbA c0 c3 c4 hk hOA
  generalize idxI (idxL l s.table s.key) = ix at *
  generalize B s.table = x1 at *
  generalize B s.key = x2 at *
  generalize B s.to = x3 at *
  generalize B s.text = x4 at *
  go_enter Tryz.func71, Tryz.ntmps71
  go_wp2_with fail
  rw [← HA.out]
  refine HP.out.mono ?_
  rintro e w1 ⟨rfl, hb1⟩
  have d0 := cell_then C0.out hb1
  rw [Hk.out] at d0
  have Hb1 := Lib.hid hb1
  clear hb1
  go_wp2_with fail
  refine (HDl.out _ Hb1.out).mono ?_
  rintro e w2 ⟨⟨v', rfl, hv'⟩, hb2⟩
  have Hv := Lib.hid hv'
  have HB2 := Lib.hid (((then_bel HbA.out Hb1.out).mono hM).trans hb2)
  clear hv' hb2 d0
  go_wp2_with fail
  go_ret2
  rw [Hr.out]
  exact ⟨⟨_, rfl, Hv.out⟩, HB2.out⟩
/-- Tabled, of a list that the call owns. -/
theorem tabled_own (M : Nat) (v : Value) (l : List Pr) (s : Sp) (hm : l.length ≤ 1000) (w : World) (hM : M ≤ w.heap.size) (h : OwnP M w v l) :
    Calls Tryz.prog 120 #[v, spA s] w fun e w' => (∃ v' n, e = .returned (.tuple #[v', .int .i64 n]) ∧ n = (if l.any (inTab s.table) = true then (if l.any (inTab s.to) = true then 161 else 0) else 0) ∧ NewPrs M w' v' (if l.any (inTab s.table) = true then (if l.any (inTab s.to) = true then [] else l.map (tabF s.table s.to)) else l)) ∧ Below M w w' := by
  obtain ⟨p, c, rfl⟩ := h.new.form
  cases h1 : l.any (inTab s.table) with
  | false =>
    refine (tabled_not p l.length c l s (by omega) w h.prs h1).mono ?_
    rintro e w' ⟨rfl, hb⟩
    exact ⟨⟨_, _, rfl, rfl, h.new.later hb⟩, hb.mono hM⟩
  | true =>
    cases h2 : l.any (inTab s.to) with
    | true =>
      refine (tabled_bad p l.length c l s (by omega) w h.prs h1 h2).mono ?_
      rintro e w' ⟨rfl, hb⟩
      exact ⟨⟨_, _, rfl, rfl, .inl ⟨rfl, rfl⟩⟩, hb.mono hM⟩
    | false =>
      rcases h.parts with ⟨he, rfl⟩ | ⟨g, c', he, hMg, hL⟩
      · cases h1
      · cases he
        refine (tabled_yes g l.length c M l s hMg rfl (by omega) w hL h1 h2).mono ?_
        rintro e w' ⟨rfl, h3, hb⟩
        have := h3.new hMg
        rw [List.length_map] at this
        exact ⟨⟨_, _, rfl, rfl, this⟩, hb⟩
end Go.Proofs.YthjcifokmcbaoaaGreatDoor.st
/- package step's made, kinds 4 (a table renamed), 3 and 6 (a key renamed, a pair copied). -/
namespace Go.Proofs.YthjcifokmcbaoaaGreatDoor.st
open Go.ChangeShapes Go.WideShapes Go.ChangeAt Go.RowKit gl ls

theorem made_four {l : List Pr} {s : Sp} (hk : s.kind = 4) : madeL l s = (if l.any (inTab s.table) = true then (if l.any (inTab s.to) = true then [] else l.map (tabF s.table s.to)) else l, if l.any (inTab s.table) = true then (if l.any (inTab s.to) = true then 161 else 0) else 0) := by
  have e : ∀ t, (fun p : Pr => decide (p.table = t)) = inTab t := fun t => rfl
  unfold madeL
  rw [if_neg (by omega), if_neg (by omega), if_neg (by omega), if_pos hk, e, e]
  cases l.any (inTab s.table) <;> cases l.any (inTab s.to) <;> rfl
set_option maxHeartbeats 4000000 in
set_option maxRecDepth 100000 in
theorem made_tab (M : Nat) (v : Value) (l : List Pr) (s : Sp) (hk : s.kind = 4) (hm : l.length ≤ 1000) (w : World) (hM : M ≤ w.heap.size) (h : OwnP M w v l) :
    Calls Tryz.prog 71 #[v, spA s] w fun e w' => (∃ v', e = .returned (.tuple #[v', .int .i64 (madeL l s).2]) ∧ NewPrs M w' v' (madeL l s).1) ∧ Below M w w' := by
  have HT := Lib.hid fun (W : World) (hW : M ≤ W.heap.size) (o : OwnP M W v l) => tabled_own M v l s hm W hW o
  unfold spA at *
  obtain ⟨p, c, rfl⟩ := h.new.form
  obtain ⟨wA, hA⟩ : ∃ wA, wA = w.alloc (.cells #[.int .i64 s.kind, .string (B s.table), .string (B s.key), .string (B s.to), .string (B s.text)] 42) := ⟨_, rfl⟩
  obtain ⟨hbA, c0, c1, c2, c3, c4⟩ := box1 hA
  have HP := Lib.hid (place_any p l.length c l (B s.table) (B s.key) (by omega) wA (h.prs.later hbA))
  have HOA := Lib.hid (ls.own_kept h hbA)
  have Hr := Lib.hid (made_four (l := l) hk)
  have HA := Lib.hid hA
  have HbA := Lib.hid hbA
  have C0 := Lib.hid c0
  have C1 := Lib.hid c1
  have C2 := Lib.hid c2
  have C3 := Lib.hid c3
  have C4 := Lib.hid c4
  have Hk := Lib.hid hk
  clear h hA hbA c0 c3 c4 hk
  generalize idxI (idxL l (B s.table).data.toList (B s.key).data.toList) = ix at *
  generalize (if l.any (inTab s.table) = true then (if l.any (inTab s.to) = true then (161 : Int) else 0) else 0) = er at *
  generalize (if l.any (inTab s.table) = true then (if l.any (inTab s.to) = true then [] else l.map (tabF s.table s.to)) else l) = res at *
  generalize B s.table = x1 at *
  generalize B s.key = x2 at *
  generalize B s.to = x3 at *
  generalize B s.text = x4 at *
  go_enter Tryz.func71, Tryz.ntmps71
  go_wp2_with fail
  rw [← HA.out]
  refine HP.out.mono ?_
  rintro e w1 ⟨rfl, hb1⟩
  have d0 := cell_then C0.out hb1
  have d1 := cell_then C1.out hb1
  have d2 := cell_then C2.out hb1
  have d3 := cell_then C3.out hb1
  have d4 := cell_then C4.out hb1
  rw [Hk.out] at d0 HT
  have Hb1 := Lib.hid (then_bel HbA.out hb1)
  have HO1 := Lib.hid (ls.own_kept HOA.out hb1)
  clear hb1
  go_wp2_with fail
  refine (HT.out _ (Nat.le_trans hM Hb1.out.size) HO1.out).mono ?_
  rintro e w2 ⟨⟨v', n, rfl, rfl, hv'⟩, hb2⟩
  have Hv := Lib.hid hv'
  have HB2 := Lib.hid ((Hb1.out.mono hM).trans hb2)
  clear hv' hb2 d0 d1 d2 d3 d4
  go_wp2_with fail
  go_ret2
  rw [Hr.out]
  exact ⟨⟨_, rfl, Hv.out⟩, HB2.out⟩
end Go.Proofs.YthjcifokmcbaoaaGreatDoor.st
/- package step's made, kind 3 (a key renamed). -/
namespace Go.Proofs.YthjcifokmcbaoaaGreatDoor.st
open Go.ChangeShapes Go.WideShapes Go.ChangeAt Go.RowKit gl ls

theorem idx_at {l : List Pr} {t k : List UInt8} {i : Nat} (h : idxL l t k = some i) : ∃ x, l[i]? = some x := by
  unfold idxL at h
  obtain ⟨hi, _⟩ := List.findIdx?_eq_some_iff_getElem.1 h
  exact ⟨_, List.getElem?_eq_getElem hi⟩
set_option maxHeartbeats 8000000 in
set_option maxRecDepth 100000 in
theorem made_key (M : Nat) (v : Value) (l : List Pr) (s : Sp) (hk : s.kind = 3) (hm : l.length ≤ 1000) (w : World) (hM : M ≤ w.heap.size) (h : OwnP M w v l) :
    Calls Tryz.prog 71 #[v, spA s] w fun e w' => (∃ v', e = .returned (.tuple #[v', .int .i64 (madeL l s).2]) ∧ NewPrs M w' v' (madeL l s).1) ∧ Below M w w' := by
  unfold spA
  obtain ⟨p, c, hv⟩ := h.new.form
  obtain ⟨wA, hA⟩ : ∃ wA, wA = w.alloc (.cells #[.int .i64 s.kind, .string (B s.table), .string (B s.key), .string (B s.to), .string (B s.text)] 42) := ⟨_, rfl⟩
  obtain ⟨hbA, c0, c1, c2, c3, c4⟩ := box1 hA
  have hpr := h.prs
  rw [hv] at hpr
  have HP := Lib.hid (place_any p l.length c l (B s.table) (B s.key) (by omega) wA (hpr.later hbA))
  have HQ := Lib.hid fun (W : World) (hb : Below wA.heap.size wA W) => place_any p l.length c l (B s.table) (B s.to) (by omega) W ((hpr.later hbA).later hb)
  simp only at HP HQ
  have hOA : OwnP M wA v l := ls.own_kept h hbA
  have HA := Lib.hid hA
  have HbA := Lib.hid hbA
  have C0 := Lib.hid c0
  have C1 := Lib.hid c1
  have C3 := Lib.hid c3
  have Hk := Lib.hid hk
  have HOA := Lib.hid hOA
  cases hx : idxL l s.table s.key with
  | none =>
    rw [hx, idxI_none] at HP
    have Hr : Hid (madeL l s = (l, 0)) := Lib.hid (by unfold madeL; rw [if_neg (by omega), if_neg (by omega), if_pos (.inl hk), hx])
    subst hv
    clear h hA hbA c0 c1 c2 c3 c4 hk hx hpr hOA
    generalize B s.table = x1 at *
    generalize B s.key = x2 at *
    generalize B s.to = x3 at *
    generalize B s.text = x4 at *
    go_enter Tryz.func71, Tryz.ntmps71
    go_wp2_with fail
    rw [← HA.out]
    refine HP.out.mono ?_
    rintro e w1 ⟨rfl, hb1⟩
    have d0 := cell_then C0.out hb1
    rw [Hk.out] at d0
    have Hb1 := Lib.hid hb1
    clear hb1
    go_wp2_with fail
    go_ret2
    rw [Hr.out]
    exact ⟨⟨_, rfl, HOA.out.new.later Hb1.out⟩, (then_bel HbA.out Hb1.out).mono hM⟩
  | some i =>
    obtain ⟨x, hxi⟩ := idx_at hx
    have hil := lt_of_at hxi
    rw [hx, idxI_some] at HP
    cases hy : idxL l s.table s.to with
    | some j =>
      have Hr : Hid (madeL l s = ([], 161)) := Lib.hid (by unfold madeL; rw [if_neg (by omega), if_neg (by omega), if_pos (.inl hk), hx]; simp only [hy]; rfl)
      rw [hy, idxI_some] at HQ
      subst hv
      clear h hA hbA c0 c1 c2 c3 c4 hk hx hpr hOA hy hxi
      generalize B s.table = x1 at *
      generalize B s.key = x2 at *
      generalize B s.to = x3 at *
      generalize B s.text = x4 at *
      go_enter Tryz.func71, Tryz.ntmps71
      go_wp2_with fail
      rw [← HA.out]
      refine HP.out.mono ?_
      rintro e w1 ⟨rfl, hb1⟩
      have d0 := cell_then C0.out hb1
      rw [Hk.out] at d0
      have d1 := cell_then C1.out hb1
      have d3 := cell_then C3.out hb1
      have Hb1 := Lib.hid hb1
      clear hb1
      go_wp2_with fail
      refine (HQ.out _ Hb1.out).mono ?_
      rintro e w2 ⟨rfl, hb2⟩
      have Hb2 := Lib.hid (then_bel Hb1.out hb2)
      clear hb2 d0 d1 d3
      go_wp2_with fail
      go_ret2
      rw [Hr.out]
      exact ⟨⟨_, rfl, .inl ⟨rfl, rfl⟩⟩, (then_bel HbA.out Hb2.out).mono hM⟩
    | none =>
      have Hr : Hid (madeL l s = (l.set i { x with key := s.to }, 0)) := Lib.hid (by unfold madeL; rw [if_neg (by omega), if_neg (by omega), if_pos (.inl hk), hx]; simp only [hy, hxi, if_neg (show ¬ s.kind = 6 by omega)]; rfl)
      rw [hy, idxI_none] at HQ
      rcases hOA.parts with ⟨_, h0⟩ | ⟨g, c', hv', hMg, hL⟩
      · rw [h0] at hil; simp at hil
      · have hgA := (h.lt g (by rw [hv']; rfl)).2
        rw [hv] at hv'
        cases hv'
        subst hv
        have hneg : decide ((0 : Int) ≤ -1) = false := by decide
        have HLA := Lib.hid hL
        have Hxi := Lib.hid hxi
        have hil' : (i : Int) < (l.length : Int) := by omega
        have Hsz := Lib.hid (HbA.out.size)
        clear h hA hbA c0 c1 c2 c3 c4 hk hx hpr hOA hy hxi hL
        have HB3 : Hid (B s.to = B s.to) := Lib.hid rfl
        generalize B s.table = x1 at *
        generalize B s.key = x2 at *
        generalize hx3 : B s.to = x3 at *
        have Hx3 := Lib.hid hx3
        clear hx3 HB3
        generalize B s.text = x4 at *
        go_enter Tryz.func71, Tryz.ntmps71
        go_wp2_with fail
        rw [← HA.out]
        refine HP.out.mono ?_
        rintro e w1 ⟨rfl, hb1⟩
        have d0 := cell_then C0.out hb1
        rw [Hk.out] at d0
        have d1 := cell_then C1.out hb1
        have d3 := cell_then C3.out hb1
        have Hb1 := Lib.hid hb1
        clear hb1
        go_wp2_with fail
        refine (HQ.out _ Hb1.out).mono ?_
        rintro e w2 ⟨rfl, hb2⟩
        have Hb2 := Lib.hid (then_bel Hb1.out hb2)
        clear hb2 d0 d1 d3
        have d0 := cell_then C0.out Hb2.out
        rw [Hk.out] at d0
        have d3 := cell_then C3.out Hb2.out
        have HL2 := Lib.hid (HLA.out.later Hb2.out)
        obtain ⟨y0, y1, y2⟩ := prs_cells HL2.out.prs Hxi.out
        simp only [Nat.zero_add] at y0 y1 y2
        have hfr := HL2.out.free (i * 3 + 1)
        have HBf := Lib.hid (((then_bel HbA.out Hb2.out).mono hM).setCell (p := ⟨g, i * 3 + 1, none⟩) hMg (.string x3))
        have HLf : Hid (LiesP g c (w2.setCell ⟨g, i * 3 + 1, none⟩ (.string x3)) (l.set i { x with key := s.to })) := Lib.hid (by rw [← Hx3.out]; exact HL2.out.key Hxi.out s.to)
        go_wp2_with fail
        go_ret2
        rw [Hr.out]
        refine ⟨⟨_, rfl, ?_⟩, HBf.out⟩
        have := HLf.out.new hMg
        rwa [List.length_set] at this
end Go.Proofs.YthjcifokmcbaoaaGreatDoor.st
/- package step's made, kind 6 (a pair copied). -/
namespace Go.Proofs.YthjcifokmcbaoaaGreatDoor.st
open Go.ChangeShapes Go.WideShapes Go.ChangeAt Go.RowKit gl ls

set_option maxHeartbeats 8000000 in
set_option maxRecDepth 100000 in
theorem made_copy (M : Nat) (v : Value) (l : List Pr) (s : Sp) (hk : s.kind = 6) (hm : l.length ≤ 1000) (w : World) (hM : M ≤ w.heap.size) (h : OwnP M w v l) :
    Calls Tryz.prog 71 #[v, spA s] w fun e w' => (∃ v', e = .returned (.tuple #[v', .int .i64 (madeL l s).2]) ∧ NewPrs M w' v' (madeL l s).1) ∧ Below M w w' := by
  unfold spA
  obtain ⟨p, c, hv⟩ := h.new.form
  obtain ⟨wA, hA⟩ : ∃ wA, wA = w.alloc (.cells #[.int .i64 s.kind, .string (B s.table), .string (B s.key), .string (B s.to), .string (B s.text)] 42) := ⟨_, rfl⟩
  obtain ⟨hbA, c0, c1, c2, c3, c4⟩ := box1 hA
  have hpr := h.prs
  rw [hv] at hpr
  have HP := Lib.hid (place_any p l.length c l (B s.table) (B s.key) (by omega) wA (hpr.later hbA))
  have HQ := Lib.hid fun (W : World) (hb : Below wA.heap.size wA W) => place_any p l.length c l (B s.table) (B s.to) (by omega) W ((hpr.later hbA).later hb)
  simp only at HP HQ
  have hOA : OwnP M wA v l := ls.own_kept h hbA
  have HA := Lib.hid hA
  have HbA := Lib.hid hbA
  have C0 := Lib.hid c0
  have C1 := Lib.hid c1
  have C3 := Lib.hid c3
  have Hk := Lib.hid hk
  have HOA := Lib.hid hOA
  cases hx : idxL l s.table s.key with
  | none =>
    rw [hx, idxI_none] at HP
    have Hr : Hid (madeL l s = (l, 0)) := Lib.hid (by unfold madeL; rw [if_neg (by omega), if_neg (by omega), if_pos (.inr hk), hx])
    subst hv
    clear h hA hbA c0 c1 c2 c3 c4 hk hx hpr hOA
    generalize B s.table = x1 at *
    generalize B s.key = x2 at *
    generalize B s.to = x3 at *
    generalize B s.text = x4 at *
    go_enter Tryz.func71, Tryz.ntmps71
    go_wp2_with fail
    rw [← HA.out]
    refine HP.out.mono ?_
    rintro e w1 ⟨rfl, hb1⟩
    have d0 := cell_then C0.out hb1
    rw [Hk.out] at d0
    have Hb1 := Lib.hid hb1
    clear hb1
    go_wp2_with fail
    go_ret2
    rw [Hr.out]
    exact ⟨⟨_, rfl, HOA.out.new.later Hb1.out⟩, (then_bel HbA.out Hb1.out).mono hM⟩
  | some i =>
    obtain ⟨x, hxi⟩ := idx_at hx
    have hil := lt_of_at hxi
    rw [hx, idxI_some] at HP
    cases hy : idxL l s.table s.to with
    | some j =>
      have Hr : Hid (madeL l s = ([], 161)) := Lib.hid (by unfold madeL; rw [if_neg (by omega), if_neg (by omega), if_pos (.inr hk), hx]; simp only [hy]; rfl)
      rw [hy, idxI_some] at HQ
      subst hv
      clear h hA hbA c0 c1 c2 c3 c4 hk hx hpr hOA hy hxi
      generalize B s.table = x1 at *
      generalize B s.key = x2 at *
      generalize B s.to = x3 at *
      generalize B s.text = x4 at *
      go_enter Tryz.func71, Tryz.ntmps71
      go_wp2_with fail
      rw [← HA.out]
      refine HP.out.mono ?_
      rintro e w1 ⟨rfl, hb1⟩
      have d0 := cell_then C0.out hb1
      rw [Hk.out] at d0
      have d1 := cell_then C1.out hb1
      have d3 := cell_then C3.out hb1
      have Hb1 := Lib.hid hb1
      clear hb1
      go_wp2_with fail
      refine (HQ.out _ Hb1.out).mono ?_
      rintro e w2 ⟨rfl, hb2⟩
      have Hb2 := Lib.hid (then_bel Hb1.out hb2)
      clear hb2 d0 d1 d3
      go_wp2_with fail
      go_ret2
      rw [Hr.out]
      exact ⟨⟨_, rfl, .inl ⟨rfl, rfl⟩⟩, (then_bel HbA.out Hb2.out).mono hM⟩
    | none =>
      have Hr : Hid (madeL l s = (l ++ [⟨s.table, s.to, x.value⟩], 0)) := Lib.hid (by unfold madeL; rw [if_neg (by omega), if_neg (by omega), if_pos (.inr hk), hx]; simp only [hy, hxi, if_pos hk]; rfl)
      rw [hy, idxI_none] at HQ
      have Hf : Hid (prsC (l ++ [⟨s.table, s.to, x.value⟩]) = prsC l ++ [.string (B s.table), .string (B s.to), .string (B x.value)]) := Lib.hid (rw.flat_snoc l _)
      rcases hOA.parts with ⟨_, h0⟩ | ⟨g, c', hv', hMg, hL⟩
      · rw [h0] at hil; simp at hil
      · rw [hv] at hv'
        cases hv'
        subst hv
        have hneg : decide ((0 : Int) ≤ -1) = false := by decide
        have HLA := Lib.hid hL
        have Hxi := Lib.hid hxi
        have hil' : (i : Int) < (l.length : Int) := by omega
        obtain ⟨i0, hi, hz0, hz1, hz2⟩ := info_parts infoPr
        clear h hA hbA c0 c1 c2 c3 c4 hk hx hpr hOA hy hxi hL
        generalize B s.table = x1 at *
        generalize B s.key = x2 at *
        generalize B s.to = x3 at *
        generalize B s.text = x4 at *
        go_enter Tryz.func71, Tryz.ntmps71
        go_wp2_with fail
        rw [← HA.out]
        refine HP.out.mono ?_
        rintro e w1 ⟨rfl, hb1⟩
        have d0 := cell_then C0.out hb1
        rw [Hk.out] at d0
        have d1 := cell_then C1.out hb1
        have d3 := cell_then C3.out hb1
        have Hb1 := Lib.hid hb1
        clear hb1
        go_wp2_with fail
        refine (HQ.out _ Hb1.out).mono ?_
        rintro e w2 ⟨rfl, hb2⟩
        have Hb2 := Lib.hid (then_bel Hb1.out hb2)
        clear hb2 d0 d1 d3
        have d0 := cell_then C0.out Hb2.out
        rw [Hk.out] at d0
        have d1 := cell_then C1.out Hb2.out
        have d3 := cell_then C3.out Hb2.out
        have HL2 := Lib.hid (HLA.out.later Hb2.out)
        have HO2 := Lib.hid (ls.own_kept HOA.out Hb2.out)
        obtain ⟨y0, y1, y2⟩ := prs_cells HL2.out.prs Hxi.out
        simp only [Nat.zero_add] at y0 y1 y2
        have hzA := HbA.out.size
        have hz2' := Hb2.out.size
        go_wp2_with fail
        go_region_law (first | (refine step_append_k (by rfl) _ _ 44 (by rfl) 57 i0 _ 3 48 Tryz.underlying44 hi hz0 hz1 hz2 rfl (by omega) _ (by rfl) (by rfl) M _ l.length _ (by rfl) HO2.out (by simp [Value.oneCell']) (by omega) (by omega) (by omega) ?_; intro g' cap' w5 hown5 hgrow hat hz5 hlt5; have Hown5 := Lib.hid hown5; have HB5 := Lib.hid (below_grown_own ((then_bel HbA.out Hb2.out).mono hM) HO2.out hgrow (by omega)); clear hown5 hgrow hat hlt5))
        all_goals
          clear d0 d1 d3 y0 y1 y2
          go_wp2_with fail
          go_ret2
          rw [Hr.out]
          have hfin : OwnP M w5 (.slice (some ⟨g', 0, none⟩) (l.length + 1) cap') (l ++ [⟨s.table, s.to, x.value⟩]) := by
            unfold OwnP
            rw [Hf.out, List.length_append]
            exact Hown5.out
          exact ⟨⟨_, rfl, hfin.new⟩, HB5.out⟩
end Go.Proofs.YthjcifokmcbaoaaGreatDoor.st
/- What package step's told returns: a function value that does what its name says. -/
namespace Go.Proofs.YthjcifokmcbaoaaGreatDoor.st
open Go.ChangeShapes Go.WideShapes Go.ChangeAt Go.RowKit gl ls

/-- A function value that does what t says, as long as the cell that it holds on to is as it is. -/
def FnDoes (t : List UInt8) (g : Nat) (b : Array Value) (cb : Option (Nat × Value)) : Prop :=
  (∀ args w, (callFunc g args).run Tryz.prog w = .ok (.enter g args) w) ∧ ∀ (x : ByteArray) (W : World), x.size ≤ 2147483647 → Slo W → (∀ bl u, cb = some (bl, u) → W.cell? ⟨bl, 0, none⟩ = some u) →
    Calls Tryz.prog g (#[.string x] ++ b) W fun e w' => e = .returned (fnV (funL t x.data.toList)) ∧ Below W.heap.size W w'
theorem told_does (s : ByteArray) (hf : fnL s.data.toList = true) (w : World) (hS : Slo w) :
    Calls Tryz.prog 67 #[.string s] w fun e w' => (∃ g b cb, e = .returned (.func (.func g) #[] b) ∧ FnDoes s.data.toList g b cb ∧ (∀ bl u, cb = some (bl, u) → w.heap.size ≤ bl ∧ w'.cell? ⟨bl, 0, none⟩ = some u)) ∧ Below w.heap.size w w' := by
  have hf' := hf
  unfold fnL at hf'
  rw [decide_eq_true_eq] at hf'
  rcases hf' with h | h | h | h | h
  · rw [h, B_eq h]
    refine (told_double w hS).mono ?_
    rintro e w' ⟨rfl, rfl⟩
    exact ⟨⟨_, _, none, rfl, ⟨enters_of Tryz.func108 (by kernel_rfl) rfl, fun x W hx hW _ => by rw [fun_double]; exact double_fn x hx W hW⟩, fun _ _ h => by cases h⟩, Below.refl _ _⟩
  · rw [h, B_eq h]
    refine (told_lower w hS).mono ?_
    rintro e w' ⟨rfl, rfl⟩
    exact ⟨⟨_, _, some (w.heap.size, .func (.func 110) #[] #[]), rfl, ⟨enters_of Tryz.func163 (by kernel_rfl) rfl, fun x W hx hW hc => by rw [fun_lower]; exact each_low x hx _ W (hc _ _ rfl)⟩, fun bl u h => by cases h; exact ⟨Nat.le_refl _, cell_in (o := 0) (heap_alloc_new w _)⟩⟩, (Below.refl _ _).alloc (Nat.le_refl _) _⟩
  · rw [h, B_eq h]
    refine (told_reverse w hS).mono ?_
    rintro e w' ⟨rfl, rfl⟩
    exact ⟨⟨_, _, none, rfl, ⟨enters_of Tryz.func112 (by kernel_rfl) rfl, fun x W hx hW _ => by rw [fun_reverse]; exact reverse_fn x hx W⟩, fun _ _ h => by cases h⟩, Below.refl _ _⟩
  · rw [h, B_eq h]
    refine (told_trim w hS).mono ?_
    rintro e w' ⟨rfl, rfl⟩
    exact ⟨⟨_, _, none, rfl, ⟨enters_of Tryz.func113 (by kernel_rfl) rfl, fun x W hx hW _ => by rw [fun_trim]; exact trim_fn x hx W⟩, fun _ _ h => by cases h⟩, Below.refl _ _⟩
  · rw [h, B_eq h]
    refine (told_upper w hS).mono ?_
    rintro e w' ⟨rfl, rfl⟩
    exact ⟨⟨_, _, some (w.heap.size, .func (.func 115) #[] #[]), rfl, ⟨enters_of Tryz.func163 (by kernel_rfl) rfl, fun x W hx hW hc => by rw [fun_upper]; exact each_upp x hx _ W (hc _ _ rfl)⟩, fun bl u h => by cases h; exact ⟨Nat.le_refl _, cell_in (o := 0) (heap_alloc_new w _)⟩⟩, (Below.refl _ _).alloc (Nat.le_refl _) _⟩
end Go.Proofs.YthjcifokmcbaoaaGreatDoor.st
/- package step's made, kind 5 (each value of a table through a function). -/
namespace Go.Proofs.YthjcifokmcbaoaaGreatDoor.st
open Go.ChangeShapes Go.WideShapes Go.ChangeAt Go.RowKit gl ls

/-- How far made is with the values. -/
structure Maps (t f : List UInt8) (l cur : List Pr) (n : Nat) : Prop where
  len : cur.length = l.length
  rest : ∀ j, n ≤ j → cur[j]? = l[j]?
  eq : mapF t f l = (mapF t f (l.drop n)).map (fun q => cur.take n ++ q)
theorem Maps.begin (t f : List UInt8) (l : List Pr) : Maps t f l l 0 := ⟨rfl, fun _ _ => rfl, by simp⟩
theorem drop_of {l : List Pr} {n : Nat} {x : Pr} (h : l[n]? = some x) : l.drop n = x :: l.drop (n + 1) := by
  obtain ⟨hn, rfl⟩ := List.getElem?_eq_some_iff.1 h
  exact List.drop_eq_getElem_cons hn
theorem Maps.skip {t f : List UInt8} {l cur : List Pr} {n : Nat} {x : Pr} (h : Maps t f l cur n) (hx : l[n]? = some x) (ht : x.table ≠ t) : Maps t f l cur (n + 1) := by
  refine ⟨h.len, fun j hj => h.rest j (by omega), ?_⟩
  rw [h.eq, drop_of hx, mapF, if_neg ht, Option.map_map]
  congr 1
  funext q
  have : cur.take (n + 1) = cur.take n ++ [x] := by rw [List.take_add_one, h.rest n (Nat.le_refl _), hx]; rfl
  simp [this]
theorem Maps.bad {t f : List UInt8} {l cur : List Pr} {n : Nat} {x : Pr} (h : Maps t f l cur n) (hx : l[n]? = some x) (ht : x.table = t) (hv : funL f x.value = none) : mapF t f l = none := by
  rw [h.eq, drop_of hx, mapF, if_pos ht, hv]
  rfl
theorem Maps.put {t f : List UInt8} {l cur : List Pr} {n : Nat} {x : Pr} {v : List UInt8} (h : Maps t f l cur n) (hx : l[n]? = some x) (ht : x.table = t) (hv : funL f x.value = some v) : Maps t f l (cur.set n { x with value := v }) (n + 1) := by
  have hn : n < cur.length := by rw [h.len]; exact lt_of_at hx
  refine ⟨by rw [List.length_set]; exact h.len, fun j hj => by rw [List.getElem?_set_ne (by omega)]; exact h.rest j (by omega), ?_⟩
  rw [h.eq, drop_of hx, mapF, if_pos ht, hv]
  simp only [Option.map_map]
  congr 1
  funext q
  have : (cur.set n { x with value := v }).take (n + 1) = cur.take n ++ [{ x with value := v }] := by
    rw [List.take_add_one, List.getElem?_set_self hn, List.take_set, List.set_eq_of_length_le (by rw [List.length_take]; omega)]
    rfl
  simp [this]
theorem Maps.done {t f : List UInt8} {l cur : List Pr} (h : Maps t f l cur l.length) : mapF t f l = some cur := by
  rw [h.eq, List.drop_length]
  simp only [mapF, Option.map_some, List.append_nil]
  rw [← h.len, List.take_length]
theorem Maps.at {t f : List UInt8} {l cur : List Pr} {n : Nat} {x : Pr} (h : Maps t f l cur n) (hx : l[n]? = some x) : cur[n]? = some x := by rw [h.rest n (Nat.le_refl _)]; exact hx
theorem made_five {l : List Pr} {s : Sp} (hk : s.kind = 5) : madeL l s = match mapF s.table s.text l with | none => ([], 162) | some q => (q, 0) := by
  unfold madeL
  rw [if_neg (by omega), if_neg (by omega), if_neg (by omega), if_neg (by omega)]
  cases mapF s.table s.text l <;> rfl
set_option maxHeartbeats 8000000 in
set_option maxRecDepth 100000 in
theorem made_none (M : Nat) (s : Sp) (hk : s.kind = 5) (p : Option Addr) (c : Nat) (hf : fnL s.text = true) (w : World) (hS : Slo w) (hM : M ≤ w.heap.size) :
    Calls Tryz.prog 71 #[.slice p 0 c, spA s] w fun e w' => e = .returned (.tuple #[.slice p 0 c, .int .i64 0]) ∧ Below M w w' := by
  unfold spA
  obtain ⟨wA, hA⟩ : ∃ wA, wA = w.alloc (.cells #[.int .i64 s.kind, .string (B s.table), .string (B s.key), .string (B s.to), .string (B s.text)] 42) := ⟨_, rfl⟩
  obtain ⟨hbA, c0, c1, c2, c3, c4⟩ := box1 hA
  have HP := Lib.hid (place_any p 0 c [] (B s.table) (B s.key) (by omega) wA ⟨p, c, rfl, by simp, .inl rfl⟩)
  have HT := Lib.hid fun (W : World) (hb : Below w.heap.size w W) => told_does (B s.text) (by rw [B_list]; exact hf) W (hS.later hb)
  have HA := Lib.hid hA
  have HbA := Lib.hid hbA
  have C0 := Lib.hid c0
  have C4 := Lib.hid c4
  have Hk := Lib.hid hk
  clear hA hbA c0 c1 c2 c3 c4 hk hS
  generalize idxI (idxL [] (B s.table).data.toList (B s.key).data.toList) = ix at *
  generalize B s.table = x1 at *
  generalize B s.key = x2 at *
  generalize B s.to = x3 at *
  generalize B s.text = x4 at *
  go_enter Tryz.func71, Tryz.ntmps71
  go_wp2_with fail
  rw [← HA.out]
  refine HP.out.mono ?_
  rintro e w1 ⟨rfl, hb1⟩
  have d0 := cell_then C0.out hb1
  have d4 := cell_then C4.out hb1
  rw [Hk.out] at d0
  have Hb1 := Lib.hid (then_bel HbA.out hb1)
  clear hb1
  go_wp2_with fail
  refine (HT.out _ Hb1.out).mono ?_
  rintro e w2 ⟨⟨g, b, cb, rfl, _, _⟩, hb2⟩
  have Hb2 := Lib.hid (then_bel Hb1.out hb2)
  clear hb2 d0 d4
  go_wp2_with fail
  refine wp_loop_rounds 1 ?_
  rw [rounds_succ]
  go_wp2_with fail
  go_ret2
  exact ⟨rfl, Hb2.out.mono hM⟩
end Go.Proofs.YthjcifokmcbaoaaGreatDoor.st
/- package step's made, kind 5, of a list in a block of its own. -/
namespace Go.Proofs.YthjcifokmcbaoaaGreatDoor.st
open Go.ChangeShapes Go.WideShapes Go.ChangeAt Go.RowKit gl ls

theorem Slo.set {w : World} (_h : Slo w) (w0 : World) (h0 : Slo w0) {M : Nat} (hM : w0.heap.size ≤ M) (hb : Below M w0 w) : Slo w := h0.below hb hM
set_option maxHeartbeats 8000000 in
set_option maxRecDepth 100000 in
theorem made_some (M g m c : Nat) (l : List Pr) (s : Sp) (hk : s.kind = 5) (hlen : l.length = m) (hm : m ≤ 1000) (hsz : ∀ x ∈ l, x.value.length ≤ 2147483647) (hf : fnL s.text = true) (w w0 : World) (h0 : Slo w0) (hM0 : w0.heap.size ≤ M) (hb0 : Below M w0 w) (hM : M ≤ w.heap.size) (hMg : M ≤ g) (h : LiesP g c w l) :
    Calls Tryz.prog 71 #[.slice (some ⟨g, 0, none⟩) m c, spA s] w fun e w' => (∃ v', e = .returned (.tuple #[v', .int .i64 (madeL l s).2]) ∧ NewPrs M w' v' (madeL l s).1) ∧ Below M w w' := by
  unfold spA
  have hg := h.lt
  have hp := h.prs
  rw [hlen] at hp
  obtain ⟨wA, hA⟩ : ∃ wA, wA = w.alloc (.cells #[.int .i64 s.kind, .string (B s.table), .string (B s.key), .string (B s.to), .string (B s.text)] 42) := ⟨_, rfl⟩
  obtain ⟨hbA, c0, c1, c2, c3, c4⟩ := box1 hA
  have HP := Lib.hid (place_any _ m c l (B s.table) (B s.key) (by omega) wA (hp.later hbA))
  have HSl := Lib.hid fun (W : World) (hb : Below M w W) => h0.below (hb0.trans hb) hM0
  have HT := Lib.hid fun (W : World) (hb : Below M w W) => told_does (B s.text) (by rw [B_list]; exact hf) W (HSl.out W hb)
  simp only at HT
  have Hm5 := Lib.hid (made_five (l := l) hk)
  have HA := Lib.hid hA
  have HbA := Lib.hid hbA
  have C0 := Lib.hid c0
  have C1 := Lib.hid c1
  have C4 := Lib.hid c4
  have Hk := Lib.hid hk
  have HL := Lib.hid h
  have Hlen := Lib.hid hlen
  have Hsz := Lib.hid hsz
  have E1 := Lib.hid fun (x : Pr) (h : x.table = s.table) => (seq_true (by rw [h]) : ((B x.table).toList == (B s.table).toList) = true)
  have E2 := Lib.hid fun (x : Pr) (h : x.table ≠ s.table) => (seq_false (fun e => h (B_inj e)) : ((B x.table).toList == (B s.table).toList) = false)
  clear h hA hbA c0 c1 c2 c3 c4 hk hp hlen hsz h0 hb0
  generalize idxI (idxL l (B s.table).data.toList (B s.key).data.toList) = ix at *
  generalize B s.table = x1 at *
  generalize B s.key = x2 at *
  generalize B s.to = x3 at *
  generalize B s.text = x4 at *
  go_enter Tryz.func71, Tryz.ntmps71
  go_wp2_with fail
  rw [← HA.out]
  refine HP.out.mono ?_
  rintro e w1 ⟨rfl, hb1⟩
  have d0 := cell_then C0.out hb1
  have d4 := cell_then C4.out hb1
  rw [Hk.out] at d0
  have HB1 := Lib.hid hb1
  have Hb1 := Lib.hid ((then_bel HbA.out hb1).mono hM)
  clear hb1
  go_wp2_with fail
  refine (HT.out _ Hb1.out).mono ?_
  rintro e w2 ⟨⟨gf, bf, cb, rfl, hfd, hcb⟩, hb2⟩
  have HFd := Lib.hid hfd
  have HCb := Lib.hid hcb
  have HB2 := Lib.hid (then_bel HB1.out hb2)
  have Hb2 := Lib.hid ((then_bel HbA.out HB2.out).mono hM)
  have D1 := Lib.hid (cell_then C1.out HB2.out)
  have HL2 := Lib.hid ((HL.out.later HbA.out).later HB2.out)
  have hz1 := Nat.le_trans HbA.out.size HB1.out.size
  clear hb2 d0 d4 hfd hcb
  go_wp2_with fail
  go_loopw [90] (fun i wr => ∃ (n : Nat) (cur : List Pr), n ≤ m ∧ i = .int .i64 n ∧ Hid (Maps s.table s.text l cur n) ∧ Hid (LiesP g c wr cur) ∧ Hid (Below M w wr) ∧ wr.cell? ⟨w.heap.size, 1, none⟩ = some (.string x1) ∧ Hid (∀ bl u, cb = some (bl, u) → bl ≠ g ∧ wr.cell? ⟨bl, 0, none⟩ = some u)) (fun i _ => m - (intOf i).toNat)
  case atStart => exact ⟨0, l, by omega, rfl, Lib.hid (Maps.begin _ _ _), HL2, Hb2, D1.out, Lib.hid fun bl u h => ⟨by have := (HCb.out bl u h).1; omega, (HCb.out bl u h).2⟩⟩
  case round =>
    obtain ⟨n, cur, hn, rfl, HM, HLr, Hb, r1, HC⟩ := hrel
    by_cases hlt : n < m
    · obtain ⟨x, hx⟩ : ∃ x, l[n]? = some x := ⟨_, List.getElem?_eq_getElem (by rw [Hlen.out]; exact hlt)⟩
      have Hx := Lib.hid hx
      obtain ⟨k0, k1, k2⟩ := prs_cells HLr.out.prs (HM.out.at hx)
      simp only [Nat.zero_add] at k0 k1 k2
      clear hx
      obtain ⟨wN, hN⟩ : ∃ wN, wN = wr.alloc (.cells #[.string (B x.table), .string (B x.key), .string (B x.value)] 57) := ⟨_, rfl⟩
      have HbN : Hid (Below wr.heap.size wr wN) := Lib.hid (by rw [hN]; exact (Below.refl _ _).alloc (Nat.le_refl _) _)
      have q1 : (wr.alloc (.cells #[.string (B x.table), .string (B x.key), .string (B x.value)] 57)).cell? ⟨w.heap.size, 1, none⟩ = some (.string x1) := by rw [← hN]; exact cell_then r1 HbN.out
      have R1 := Lib.hid r1
      have HN := Lib.hid hN
      have hwr := Hb.out.size
      have HbM : Hid (Below M w wN) := Lib.hid (Hb.out.trans (HbN.out.mono (by omega)))
      clear hN r1
      by_cases he : x.table = s.table
      · have q := E1.out x he
        have q' : ((B x.table).toList != x1.toList) = false := by rw [bne, q]; rfl
        have HE := Lib.hid he
        have HFc := Lib.hid (HFd.out.2 (B x.value) wN (by rw [B_size]; exact Hsz.out x (List.mem_of_getElem? Hx.out)) (HSl.out wN HbM.out) (fun bl u h => cell_then (HC.out bl u h).2 HbN.out))
        simp only at HFc
        have hen := HFd.out.1
        clear he
        cases hv : funL s.text x.value with
        | none =>
          have Hr : Hid (madeL l s = ([], 162)) := Lib.hid (by rw [Hm5.out, Maps.bad HM.out Hx.out HE.out hv])
          rw [hv] at HFc
          simp only [fnV] at HFc
          clear hv
          generalize B x.table = z1 at *
          generalize B x.key = z2 at *
          generalize B x.value = z3 at *
          go_wp2_with fail
          rw [← HN.out]
          refine HFc.out.mono ?_
          rintro e w4 ⟨rfl, hb4⟩
          have Hb4 := Lib.hid (HbM.out.trans (hb4.mono (by have := HbN.out.size; omega)))
          clear hb4
          go_wp2_with fail
          go_ret2
          rw [Hr.out]
          exact ⟨⟨_, rfl, .inl ⟨rfl, rfl⟩⟩, Hb4.out⟩
        | some v =>
          have HM2 := Lib.hid (HM.out.put Hx.out HE.out hv)
          rw [hv] at HFc
          simp only [fnV] at HFc
          clear hv
          generalize B x.table = z1 at *
          generalize B x.key = z2 at *
          generalize B x.value = z3 at *
          go_wp2_with fail
          rw [← HN.out]
          refine HFc.out.mono ?_
          rintro e w4 ⟨rfl, hb4⟩
          have Hc4 := Lib.hid (then_bel HbN.out hb4)
          have Hb4 := Lib.hid (HbM.out.trans (hb4.mono (by have := HbN.out.size; omega)))
          have HL4 := Lib.hid (HLr.out.later Hc4.out)
          obtain ⟨y0, y1, y2⟩ := prs_cells HL4.out.prs (HM.out.at Hx.out)
          simp only [Nat.zero_add] at y0 y1 y2
          have hfr := HL4.out.free (n * 3 + 2)
          clear hb4 k0 k1 k2 q1
          go_wp2_with fail
          go_roundw
          case rel => exact ⟨n + 1, _, by omega, by go_num, HM2, Lib.hid (HL4.out.value (HM.out.at Hx.out) v), Lib.hid (Hb4.out.setCell (p := ⟨g, n * 3 + 2, none⟩) hMg _), (World.cell?_setCell_far _ _ _ _ (show g ≠ w.heap.size by omega)).trans (cell_then R1.out Hc4.out), Lib.hid fun bl u h => ⟨(HC.out bl u h).1, (World.cell?_setCell_far _ _ _ _ (Ne.symm (HC.out bl u h).1)).trans (cell_then (HC.out bl u h).2 Hc4.out)⟩⟩
          case measure => simp [intOf]; omega
      · have q := E2.out x he
        have q' : ((B x.table).toList != x1.toList) = true := by rw [bne, q]; rfl
        have HM2 := Lib.hid (HM.out.skip Hx.out he)
        clear he
        generalize B x.table = z1 at *
        generalize B x.key = z2 at *
        generalize B x.value = z3 at *
        go_wp2_with fail
        rw [← HN.out]
        go_roundw
        case rel => exact ⟨n + 1, cur, by omega, by go_num, HM2, Lib.hid (HLr.out.later HbN.out), HbM, cell_then R1.out HbN.out, Lib.hid fun bl u h => ⟨(HC.out bl u h).1, cell_then (HC.out bl u h).2 HbN.out⟩⟩
        case measure => simp [intOf]; omega
    · obtain rfl : n = m := by omega
      have Hr : Hid (madeL l s = (cur, 0)) := Lib.hid (by rw [Hm5.out, Maps.done (by rw [Hlen.out]; exact HM.out)])
      go_wp2_with fail
      go_ret2
      rw [Hr.out]
      have := HLr.out.new hMg
      rw [HM.out.len, Hlen.out] at this
      exact ⟨⟨_, rfl, this⟩, Hb.out⟩
end Go.Proofs.YthjcifokmcbaoaaGreatDoor.st
/- package step's made returns what madeL says, of a list that the call owns. Conditions: at most 1000 pairs, texts of at most 2147483647 bytes, a step that is right. -/
namespace Go.Proofs.YthjcifokmcbaoaaGreatDoor.st
open Go.ChangeShapes Go.WideShapes Go.ChangeAt Go.RowKit gl ls

theorem made_any (M : Nat) (v : Value) (l : List Pr) (s : Sp) (hr : rightL s = true) (hm : l.length ≤ 1000) (hsz : ∀ x ∈ l, x.value.length ≤ 2147483647) (w w0 : World) (h0 : Slo w0) (hM0 : w0.heap.size ≤ M) (hb0 : Below M w0 w) (hM : M ≤ w.heap.size) (h : OwnP M w v l) :
    Calls Tryz.prog 71 #[v, spA s] w fun e w' => (∃ v', e = .returned (.tuple #[v', .int .i64 (madeL l s).2]) ∧ NewPrs M w' v' (madeL l s).1) ∧ Below M w w' := by
  by_cases k1 : s.kind = 1
  · refine (made_put M v l s k1 hm w hM h).mono ?_
    rintro e w' ⟨⟨v', he, ho⟩, hb⟩
    exact ⟨⟨v', he, ho.new⟩, hb⟩
  by_cases k2 : s.kind = 2
  · exact made_but M v l s k2 hm w hM h
  by_cases k3 : s.kind = 3
  · exact made_key M v l s k3 hm w hM h
  by_cases k4 : s.kind = 4
  · exact made_tab M v l s k4 hm w hM h
  by_cases k6 : s.kind = 6
  · exact made_copy M v l s k6 hm w hM h
  have k5 : s.kind = 5 ∧ fnL s.text = true := by
    unfold rightL at hr
    rw [if_neg k1, if_neg k2, if_neg (by omega), if_neg k4] at hr
    by_cases k5 : s.kind = 5
    · rw [if_pos k5] at hr
      simp only [Bool.and_eq_true] at hr
      exact ⟨k5, hr.2.2⟩
    · rw [if_neg k5] at hr
      simp at hr
  rcases h.parts with ⟨rfl, rfl⟩ | ⟨g, c, rfl, hMg, hL⟩
  · refine (made_none M s k5.1 none 0 k5.2 w (h0.below hb0 hM0) hM).mono ?_
    rintro e w' ⟨rfl, hb⟩
    rw [made_five k5.1]
    exact ⟨⟨_, rfl, .inl ⟨rfl, rfl⟩⟩, hb⟩
  · exact made_some M g l.length c l s k5.1 rfl hm hsz k5.2 w w0 h0 hM0 hb0 hM hMg hL
end Go.Proofs.YthjcifokmcbaoaaGreatDoor.st
/- slices.Clip of pairs. -/
namespace Go.Proofs.YthjcifokmcbaoaaGreatDoor.st
open Go.ChangeShapes Go.WideShapes Go.ChangeAt Go.RowKit gl ls

set_option maxRecDepth 100000 in
theorem clip_any (p : Option Addr) (n c : Nat) (hn : n ≤ c) (hc : n ≤ 1000) (w : World) : Calls Tryz.prog 75 #[.slice p n c] w fun e w' => e = .returned (.slice p n n) ∧ w = w' := by
  have h1 : (n : Int) ≤ (c : Int) := by omega
  have h2 : (0 : Int) ≤ (n : Int) := by omega
  go_enter Tryz.func75, Tryz.ntmps75
  go_wp2_with fail
  go_ret
  exact ⟨rfl, rfl⟩
end Go.Proofs.YthjcifokmcbaoaaGreatDoor.st
/- The library's sort of pairs in a block of their own. -/
namespace Go.Proofs.YthjcifokmcbaoaaGreatDoor.st
open Go.ChangeShapes Go.WideShapes Go.ChangeAt Go.RowKit gl ls Go.Lib
open Go.Sort (SWO PermIn SortedIn HoldsK flatK get_flatK size_flatK)

theorem flatK_at {l : List Pr} {j : Nat} {v : Value} (h : (prsC l)[j]? = some v) : j < l.toArray.size * 3 ∧ (flatK prC 3 l.toArray)[j]! = v := by
  have hj := (List.getElem?_eq_some_iff.1 h).1
  rw [rw.flat_len prC_len] at hj
  have hj' : j < l.toArray.size * 3 := by simpa using hj
  refine ⟨hj', ?_⟩
  obtain ⟨y, hy, hv⟩ := flat_inv h
  rw [get_flatK prC 3 _ j hj']
  obtain ⟨hq, rfl⟩ := List.getElem?_eq_some_iff.1 hy
  rw [getElem!_pos l.toArray (j / 3) (by simpa using hq)]
  simp only [List.getElem_toArray]
  obtain ⟨hr, rfl⟩ := List.getElem?_eq_some_iff.1 hv
  rw [getElem!_pos _ (j % 3) hr]
theorem sort_lies (g c : Nat) (l T : List Pr) (hp : l.Perm T) (ha : Asc T) (hm : l.length ≤ 1001) (w : World) (h : LiesP g c w l) :
    Calls Tryz.prog 73 #[.slice (some ⟨g, 0, none⟩) l.length c, .func (.func 74) #[] #[]] w fun e w' => e = .returned (.tuple #[]) ∧ LiesP g c w' T ∧ ∀ M, M ≤ g → Below M w w' := by
  have hg := h.lt
  obtain ⟨cs, h1, h2, h3, h4⟩ := h
  have hH : HoldsK prC 3 w g 0 l.toArray := holds_of_block h1 (fun j hj => by
    have hj' : j < (prsC l).length := by rw [rw.flat_len prC_len]; simpa using hj
    have h5 := h4 j _ (List.getElem?_eq_getElem hj')
    rw [Nat.zero_add] at h5
    rw [h5, (flatK_at (List.getElem?_eq_getElem hj')).2])
  have hs := sort_any g c l.toArray w hH hg (by simp; omega)
  simp only [List.size_toArray] at hs
  refine hs.mono ?_
  rintro e w' ⟨rfl, d', n, os, hpm, hso, rfl⟩
  have hT : d'.toList = T := sorted_is (d := l.toArray) (by simpa using hpm) (by simpa using hso) (by simpa using hp) ha
  refine ⟨rfl, ⟨_, sorted_block h1, by rw [← hp.length_eq]; exact h2, by rw [putCells_size]; exact h3, fun i v hv => ?_⟩, fun M hM => sorted_below hM (by omega)⟩
  rw [← hT] at hv
  obtain ⟨h6, h7⟩ := flatK_at hv
  have h8 : i < (flatK prC 3 d').size := by simpa using h6
  have hlen : d'.size = l.length := by have := congrArg List.length hT; simp at this; rw [this, ← hp.length_eq]
  rw [Nat.zero_add, putCells_at _ _ _ h8 (by rw [size_flatK, hlen] at h8; omega), ← getElem!_pos _ i h8]
  simpa using h7
end Go.Proofs.YthjcifokmcbaoaaGreatDoor.st
/- The library's sort of no pairs. -/
namespace Go.Proofs.YthjcifokmcbaoaaGreatDoor.st
open Go.ChangeShapes Go.WideShapes Go.ChangeAt Go.RowKit gl ls

set_option maxHeartbeats 1000000 in
set_option maxRecDepth 100000 in
theorem ins_none (p : Option Addr) (c : Nat) (f : Value) (w : World) : Calls Tryz.prog 177 #[.slice p 0 c, .int .i64 0, .int .i64 0, f] w fun e w' => e = .returned (.tuple #[]) ∧ w = w' := by
  go_enter Tryz.func177, Tryz.ntmps177
  go_wp2_with fail
  refine wp_loop_rounds 1 ?_
  rw [rounds_succ]
  go_wp2_with fail
  refine bodyPost_end (results_none rfl _ _ _) rfl ?_
  exact ⟨rfl, rfl⟩
set_option maxHeartbeats 1000000 in
set_option maxRecDepth 100000 in
theorem pdq_none (p : Option Addr) (c : Nat) (lim : Value) (f : Value) (w : World) : Calls Tryz.prog 121 #[.slice p 0 c, .int .i64 0, .int .i64 0, lim, f] w fun e w' => e = .returned (.tuple #[]) ∧ w = w' := by
  have HI := Lib.hid (ins_none p c f w)
  go_enter Tryz.func121, Tryz.ntmps121
  go_wp2_with fail
  refine wp_loop_rounds 1 ?_
  rw [rounds_succ]
  go_wp2_with fail
  refine HI.out.mono ?_
  rintro e w' ⟨rfl, rfl⟩
  go_wp2_with fail
  refine bodyPost_ret (results_none rfl _ _ _) rfl ?_
  exact ⟨rfl, rfl⟩
set_option maxHeartbeats 1000000 in
set_option maxRecDepth 100000 in
theorem sort_none (p : Option Addr) (c : Nat) (f : Value) (w : World) : Calls Tryz.prog 73 #[.slice p 0 c, f] w fun e w' => e = .returned (.tuple #[]) ∧ w = w' := by
  have HB := Lib.hid (Tryz.bits_Len 0 w (by omega) (by omega))
  have HI := Lib.hid fun lim => pdq_none p c lim f w
  go_enter Tryz.func73, Tryz.ntmps73
  go_wp2_with fail
  refine HB.out.mono ?_
  rintro e w' ⟨rfl, hw⟩
  obtain rfl : w = w' := hw.symm
  go_wp2_with fail
  refine (HI.out _).mono ?_
  rintro e w' ⟨rfl, rfl⟩
  go_wp2_with fail
  refine bodyPost_end (results_none rfl _ _ _) rfl ?_
  exact ⟨rfl, rfl⟩
end Go.Proofs.YthjcifokmcbaoaaGreatDoor.st
/- package step's Apply where the pairs may not be. -/
namespace Go.Proofs.YthjcifokmcbaoaaGreatDoor.st
open Go.ChangeShapes Go.WideShapes Go.ChangeAt Go.RowKit gl ls

set_option maxHeartbeats 2000000 in
set_option maxRecDepth 100000 in
theorem apply_not (p : Option Addr) (m c : Nat) (l : List Pr) (s : Sp) (hm : m ≤ 4294967295) (hsz : ∀ x ∈ l, PrSz x) (hn : mayL l = false) (w : World) (hS : Slo w) (h : Prs w (.slice p m c) l) :
    Calls Tryz.prog 33 #[.slice p m c, spA s] w fun e w' => e = .returned (.tuple #[.slice none 0 0, .int .i64 1]) ∧ Below w.heap.size w w' := by
  unfold spA
  obtain ⟨wA, hA⟩ : ∃ wA, wA = w.alloc (.cells #[.int .i64 s.kind, .string (B s.table), .string (B s.key), .string (B s.to), .string (B s.text)] 42) := ⟨_, rfl⟩
  obtain ⟨hbA, c0, c1, c2, c3, c4⟩ := box1 hA
  have HM := Lib.hid (may_any p m c l hm hsz wA (hS.later hbA) (h.later hbA))
  rw [hn] at HM
  have HA := Lib.hid hA
  have HbA := Lib.hid hbA
  clear hA hbA c0 c1 c2 c3 c4 h hS hn
  generalize B s.table = x1 at *
  generalize B s.key = x2 at *
  generalize B s.to = x3 at *
  generalize B s.text = x4 at *
  go_enter Tryz.func33, Tryz.ntmps33
  go_wp2_with fail
  rw [← HA.out]
  refine HM.out.mono ?_
  rintro e w1 ⟨rfl, hb1⟩
  have Hb1 := Lib.hid (then_bel HbA.out hb1)
  clear hb1
  go_wp2_with fail
  go_ret2
  exact ⟨rfl, Hb1.out⟩
/-- Texts as short as step.Right may be asked. -/
def SpSz (s : Sp) : Prop := s.table.length ≤ 2147483647 ∧ s.key.length ≤ 2147483647 ∧ s.to.length ≤ 2147483647 ∧ s.text.length ≤ 2147483647
theorem right_sp (s : Sp) (h : SpSz s) (w : World) (hS : Slo w) : Calls Tryz.prog 27 #[spA s] w fun e w' => e = .returned (.bool (rightL s)) ∧ Below w.heap.size w w' := by
  have := Right_any s.kind (B s.table) (B s.key) (B s.to) (B s.text) (by rw [B_size]; exact h.1) (by rw [B_size]; exact h.2.1) (by rw [B_size]; exact h.2.2.1) (by rw [B_size]; exact h.2.2.2) w hS
  simp only at this
  exact this
end Go.Proofs.YthjcifokmcbaoaaGreatDoor.st
/- package step's Apply where the step is not right. -/
namespace Go.Proofs.YthjcifokmcbaoaaGreatDoor.st
open Go.ChangeShapes Go.WideShapes Go.ChangeAt Go.RowKit gl ls

/-- The step's box, whole. -/
theorem box_sp {s : Sp} {w wA : World} (hA : wA = w.alloc (.cells #[.int .i64 s.kind, .string (B s.table), .string (B s.key), .string (B s.to), .string (B s.text)] 42)) : wA.heap[w.heap.size]? = some (.cells #[.int .i64 s.kind, .string (B s.table), .string (B s.key), .string (B s.to), .string (B s.text)] 42 (0, 0)) := by
  rw [hA]; exact heap_alloc_new w _
set_option maxHeartbeats 2000000 in
set_option maxRecDepth 100000 in
theorem apply_wrong (p : Option Addr) (m c : Nat) (l : List Pr) (s : Sp) (hm : m ≤ 4294967295) (hsz : ∀ x ∈ l, PrSz x) (hs : SpSz s) (hn : mayL l = true) (hr : rightL s = false) (w : World) (hS : Slo w) (h : Prs w (.slice p m c) l) :
    Calls Tryz.prog 33 #[.slice p m c, spA s] w fun e w' => e = .returned (.tuple #[.slice none 0 0, .int .i64 160]) ∧ Below w.heap.size w w' := by
  have HR := Lib.hid fun (W : World) (hW : Slo W) => right_sp s hs W hW
  rw [hr] at HR
  unfold spA at *
  obtain ⟨wA, hA⟩ : ∃ wA, wA = w.alloc (.cells #[.int .i64 s.kind, .string (B s.table), .string (B s.key), .string (B s.to), .string (B s.text)] 42) := ⟨_, rfl⟩
  obtain ⟨hbA, c0, c1, c2, c3, c4⟩ := box1 hA
  have HM := Lib.hid (may_any p m c l hm hsz wA (hS.later hbA) (h.later hbA))
  have HSl := Lib.hid fun (W : World) (hb : Below wA.heap.size wA W) => (hS.later hbA).later hb
  rw [hn] at HM
  have HA := Lib.hid hA
  have HbA := Lib.hid hbA
  have C0 := Lib.hid c0
  have C1 := Lib.hid c1
  have C2 := Lib.hid c2
  have C3 := Lib.hid c3
  have C4 := Lib.hid c4
  clear hA hbA c0 c1 c2 c3 c4 h hS hn hr
  generalize B s.table = x1 at *
  generalize B s.key = x2 at *
  generalize B s.to = x3 at *
  generalize B s.text = x4 at *
  go_enter Tryz.func33, Tryz.ntmps33
  go_wp2_with fail
  rw [← HA.out]
  refine HM.out.mono ?_
  rintro e w1 ⟨rfl, hb1⟩
  have HB1 := Lib.hid hb1
  have d0 := cell_then C0.out hb1
  have d1 := cell_then C1.out hb1
  have d2 := cell_then C2.out hb1
  have d3 := cell_then C3.out hb1
  have d4 := cell_then C4.out hb1
  have Hb1 := Lib.hid (then_bel HbA.out hb1)
  clear hb1
  go_wp2_with fail
  refine (HR.out _ (HSl.out _ HB1.out)).mono ?_
  rintro e w2 ⟨rfl, hb2⟩
  have Hb2 := Lib.hid (then_bel Hb1.out hb2)
  clear hb2 d0 d1 d2 d3 d4
  go_wp2_with fail
  go_ret2
  exact ⟨rfl, Hb2.out⟩
end Go.Proofs.YthjcifokmcbaoaaGreatDoor.st
/- package step's Apply where the pairs and the step are right. -/
namespace Go.Proofs.YthjcifokmcbaoaaGreatDoor.st
open Go.ChangeShapes Go.WideShapes Go.ChangeAt Go.RowKit gl ls

theorem s5_drew {w0 wp : World} {b : Nat} {x0 x1 x2 x3 x4 : Value} (h : wp.cell? ⟨b, 0, none⟩ = some x0 ∧ wp.cell? ⟨b, 1, none⟩ = some x1 ∧ wp.cell? ⟨b, 2, none⟩ = some x2 ∧ wp.cell? ⟨b, 3, none⟩ = some x3 ∧ wp.cell? ⟨b, 4, none⟩ = some x4 ∧ Hid (Below w0.heap.size w0 wp)) :
    wp.drew.cell? ⟨b, 0, none⟩ = some x0 ∧ wp.drew.cell? ⟨b, 1, none⟩ = some x1 ∧ wp.drew.cell? ⟨b, 2, none⟩ = some x2 ∧ wp.drew.cell? ⟨b, 3, none⟩ = some x3 ∧ wp.drew.cell? ⟨b, 4, none⟩ = some x4 ∧ Hid (Below w0.heap.size w0 wp.drew) := ⟨h.1, h.2.1, h.2.2.1, h.2.2.2.1, h.2.2.2.2.1, Lib.hid h.2.2.2.2.2.out.drew⟩
theorem s5_call {w0 wp w' : World} {b M : Nat} {x0 x1 x2 x3 x4 : Value} (h : wp.cell? ⟨b, 0, none⟩ = some x0 ∧ wp.cell? ⟨b, 1, none⟩ = some x1 ∧ wp.cell? ⟨b, 2, none⟩ = some x2 ∧ wp.cell? ⟨b, 3, none⟩ = some x3 ∧ wp.cell? ⟨b, 4, none⟩ = some x4 ∧ Hid (Below w0.heap.size w0 wp)) (hb : Below M wp w') (hM : w0.heap.size ≤ M) (hbM : b < M) :
    w'.cell? ⟨b, 0, none⟩ = some x0 ∧ w'.cell? ⟨b, 1, none⟩ = some x1 ∧ w'.cell? ⟨b, 2, none⟩ = some x2 ∧ w'.cell? ⟨b, 3, none⟩ = some x3 ∧ w'.cell? ⟨b, 4, none⟩ = some x4 ∧ Hid (Below w0.heap.size w0 w') :=
  ⟨(hb.cell (p := ⟨b, 0, none⟩) hbM).trans h.1, (hb.cell (p := ⟨b, 1, none⟩) hbM).trans h.2.1, (hb.cell (p := ⟨b, 2, none⟩) hbM).trans h.2.2.1, (hb.cell (p := ⟨b, 3, none⟩) hbM).trans h.2.2.2.1, (hb.cell (p := ⟨b, 4, none⟩) hbM).trans h.2.2.2.2.1, Lib.hid (h.2.2.2.2.2.out.trans (hb.mono hM))⟩
end Go.Proofs.YthjcifokmcbaoaaGreatDoor.st
/- A law on memory for any program: the elements of any slice, none too, appended to a row that the call owns. No conditions beside those stated. -/
namespace Go.Proofs.YthjcifokmcbaoaaGreatDoor
open Go.RowKit
/-- m elements of the cells news, readable at a slice value. -/
def SrcV (w : World) (y : Value) (m : Nat) (news : List Value) : Prop :=
  (m = 0 ∧ news = [] ∧ ∃ q c, y = .slice q 0 c) ∨ (0 < m ∧ ∃ ad c, y = .slice (some ad) m c ∧ ∀ j u, news[j]? = some u → w.cell? (ad.add j) = some u)
section
variable {P : Program}
theorem run_append_any (w : World) (t ty : TypeId) (base : Nat) (e : TypeId) (i : TypeInfo) (z : Value) (size bytes : Nat) (ht : P.underlying t = some (.slice e)) (hi : P.info? e = some i) (hz : i.zero = some z)
    (hsize : i.size = size) (hby : i.bytes = bytes) (hzs : z.cells.size = size) (hsz : 0 < size)
    (v : Value) (n : Nat) (xs : List Value) (hown : w.ownsRow base e size v n xs) (y : Value) (m : Nat) (news : List Value) (hy : SrcV w y m news) (hl : news.length = m * size) (h1 : ∀ u ∈ news, u.oneCell' = true)
    (h63 : n + m ≤ maxLen) (hbytes : (n + m) * bytes ≤ 140737488355328) (hbase : base ≤ w.heap.size) :
    ∃ p cap w', (Builtin.append_ #[t, t] ty #[v, y]).run P w = .ok (.slice p (n + m) cap) w' ∧
      w'.ownsRow base e size (.slice p (n + m) cap) (n + m) (xs ++ news) ∧ w.grownBy w' v.ownBlock := by
  rcases hy with ⟨rfl, rfl, q, c, rfl⟩ | ⟨hm, ad, c, rfl, hc⟩
  · have hf : ∃ p cap, v = .slice p n cap ∧ n ≤ cap := by
      rcases hown.2 with ⟨rfl, h0⟩ | ⟨g, cap, cur, rfl, _, _, hn, _⟩
      · exact ⟨none, 0, by rw [h0], by omega⟩
      · exact ⟨_, _, rfl, hn⟩
    obtain ⟨p, cap, rfl, hle⟩ := hf
    have hsrc : Src P i.size t (.slice q 0 c) 0 [] w := by
      cases q with
      | none => exact Src.ofNil w ht c
      | some ad => exact Src.ofSlice w ht ad 0 c [] (by simp) (fun j u h => by simp at h) (fun u h => by simp at h)
    refine ⟨p, cap, w, run_append_nothing w t t ty e i ht hi p n cap hle _ hsrc, by simpa using hown, ?_⟩
    exact ⟨rfl, rfl, rfl, Nat.le_refl _, fun _ _ _ => rfl⟩
  · obtain ⟨g, cap, w', hr, h2, h3, _, _⟩ := run_append_lies (P := P) w t ty base e i z size bytes ht hi hz hsize hby hzs hsz v n xs hown ad m c news hl hc h1 hm h63 hbytes hbase _ rfl
    exact ⟨_, cap, w', hr, h2, h3⟩
theorem wpList_append_any {ops : Array Oper} {rest : List Oper} {o : Oper} {a : Act} {w : World} {Q : Exit → Act → World → Prop} (hgd : o.guard = none) (s x : Operand) (t : TypeId)
    (ho : o.op = .call { callee := .builtin .append, args := #[s, x], argTypes := #[t, t] })
    (e : TypeId) (i : TypeInfo) (z : Value) (size bytes : Nat) (ht : P.underlying t = some (.slice e)) (hi : P.info? e = some i) (hz : i.zero = some z)
    (hsize : i.size = size) (hby : i.bytes = bytes) (hzs : z.cells.size = size) (hsz : 0 < size)
    (base : Nat) (v : Value) (n : Nat) (xs : List Value) (hs : a.eval s = v) (hown : w.ownsRow base e size v n xs) (y : Value) (m : Nat) (news : List Value) (hx : a.eval x = y) (hy : SrcV w y m news) (hl : news.length = m * size)
    (h1 : ∀ u ∈ news, u.oneCell' = true) (h63 : n + m ≤ 9223372036854775807) (hbytes : (n + m) * bytes ≤ 140737488355328) (hbase : base ≤ w.heap.size)
    (h : ∀ p cap w', w'.ownsRow base e size (.slice p (n + m) cap) (n + m) (xs ++ news) → w.grownBy w' v.ownBlock → wpList P ops Q rest (a.put o.dst (.slice p (n + m) cap)) w') :
    wpList P ops Q (o :: rest) a w := by
  refine wpList_plain hgd fun K hK => ?_
  obtain ⟨p, cap, w', hr, h2, h3⟩ := run_append_any (P := P) w t o.type base e i z size bytes ht hi hz hsize hby hzs hsz v n xs hown y m news hy hl h1 (by unfold maxLen; omega) hbytes hbase
  unfold Oper.wp execOp
  simp only [ho, resolve, invoke, builtin, Sem.run_bind, Sem.run_pure, Result.andThen_ok, List.map_toArray, List.map_cons, List.map_nil, hs, hx, hr]
  exact hK _ _ (h p cap w' h2 h3)
end
end Go.Proofs.YthjcifokmcbaoaaGreatDoor
