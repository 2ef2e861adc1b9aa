/- tinderboxlaw04.lent lays a value in new memory, two words behind it; whole tells that it is as it was; ValueWithin returns true. Conditions: the arguments lie in memory; the listed variables hold what the program's text lays. -/
import Derived.Test.YtkbamhecbfocbaaGreatDoorVaR
import Derived.Laws.CopyOwn
import Derived.Laws.MakeOwn
import Derived.Test.YtkbamhecbfocbaaGreatDoorOpen
namespace Go.Proofs.YtkbamhecbfocbaaGreatDoor.va
open Go.ChangeShapes Go.WideShapes Go.ChangeAt Go.RowKit gl

theorem infoStr : (Tryz.prog.info? 9).map (fun i => (i.zero, i.size, i.bytes)) = some (some (.string .empty), 1, 16) := by kernel_rfl
theorem infoSz : (Tryz.prog.info? 9).map (·.size) = some 1 := by kernel_rfl
def blank (n : Nat) : List Value := List.replicate n (.string .empty)
theorem made_blank (n : Nat) : madeCells (Value.cells (.string .empty)) (n * 1) = (blank n).toArray := by
  apply Array.ext_getElem?
  intro i
  simp only [madeCells, Value.cells, blank, List.getElem?_toArray, List.getElem?_replicate, Array.getElem?_map, Nat.mul_one]
  by_cases h : i < n
  · simp [h, Nat.mod_one]
  · simp [h]
theorem makeS (m : Nat) (hm : m ≤ 2147483647) (w : World) : (Instr.makeSlice 25 (.int .i64 ((m : Int) + 2)) (.int .i64 ((m : Int) + 2))).run Tryz.prog w = .ok (.slice (some ⟨w.heap.size, 0, none⟩) (m + 2) (m + 2)) (w.alloc (.cells (blank (m + 2)).toArray 9)) := by
  obtain ⟨i, hi, he⟩ := Option.map_eq_some_iff.1 infoStr
  simp only [Prod.mk.injEq] at he
  obtain ⟨hz, h1, h8⟩ := he
  have h := run_make (P := Tryz.prog) w 25 9 i (.string .empty) Tryz.underlying25 hi hz .i64 .i64 ((m : Int) + 2) ((m : Int) + 2) (by omega) (by omega) (by rw [h8]; omega) (by omega)
  rw [h, h1, show ((m : Int) + 2).toNat = m + 2 by omega, made_blank]
def spare : ByteArray := ⟨#[115, 112, 97, 114, 101]⟩
/-- The words, and what stands behind them. -/
def lentRow (ws : List ByteArray) : List Value := (ws ++ [spare, ByteArray.empty]).map Value.string
theorem splice_lent (ws : List ByteArray) (m : Nat) (hm : ws.length = m) : splice (blank (m + 2)) 0 (ws.map Value.string) = ws.map Value.string ++ blank 2 := by
  unfold splice blank
  rw [List.take_zero, List.nil_append, Nat.zero_add, List.length_map, hm, List.drop_replicate, show m + 2 - m = 2 by omega]
theorem set_lent (ws : List ByteArray) (m : Nat) (hm : ws.length = m) : ((ws.map Value.string ++ blank 2).toArray).setIfInBounds m (.string spare) = (lentRow ws).toArray := by
  rw [List.setIfInBounds_toArray]
  congr 1
  have : m = (ws.map Value.string).length := by simp [hm]
  rw [this, List.set_append_right _ _ (Nat.le_refl _), Nat.sub_self]
  simp [blank, lentRow, List.replicate]
def LentOut (v : Val) (w : World) (e : Ending) (w' : World) : Prop :=
  e = .returned (rep v (.slice (some ⟨w.heap.size + 1 + 1, 0, none⟩) v.words.length (v.words.length + 2))) ∧ w'.heap[w.heap.size + 1 + 1]? = some (.cells (lentRow v.words).toArray 9 (0, 0))

set_option maxHeartbeats 1000000 in
set_option maxRecDepth 100000 in
theorem lent_any (v : Val) (hb : Vb v) (sl : Value) (w : World) (hS : Strs w sl v.words) :
    Calls Tryz.prog 15 #[rep v sl] w fun e w' => LentOut v w e w' ∧ Below w.heap.size w w' := by
  obtain ⟨k, n, t, ws⟩ := v
  obtain ⟨_, _, _, hl, _, _⟩ := hb
  unfold LentOut
  simp only at hl hS ⊢
  have HS := Lib.hid hS
  obtain ⟨p, c, rfl, hc, hat⟩ := hS
  have Hat := Lib.hid hat
  clear hat
  obtain ⟨m, hm⟩ : ∃ m, ws.length = m := ⟨_, rfl⟩
  have Hm := Lib.hid hm
  unfold rep
  simp only
  rw [hm] at HS hc hl ⊢
  clear hm
  have hms := makeS m hl
  obtain ⟨X, hX⟩ : ∃ X, X = ws.map Value.string := ⟨_, rfl⟩
  have HX := Lib.hid hX
  obtain ⟨W0, hW0⟩ : ∃ W0, W0 = ((w.alloc (.cells #[.int .i64 k, .int .i64 n, .string t, .slice p m c] 28)).alloc (.cells #[.int .i64 0, .int .i64 0, .string ⟨#[]⟩, .slice none 0 0] 28)).alloc (.cells (blank (m + 2)).toArray 9) := ⟨_, rfl⟩
  have hb0 : Below w.heap.size w W0 := by rw [hW0]; exact (((Below.refl _ w).alloc (Nat.le_refl _) _).alloc (by simp) _).alloc (by simp; omega) _
  have hg : W0.heap[w.heap.size + 1 + 1]? = some (.cells (blank (m + 2)).toArray 9 (0, 0)) := by
    rw [hW0]
    have := heap_alloc_new ((w.alloc (.cells #[.int .i64 k, .int .i64 n, .string t, .slice p m c] 28)).alloc (.cells #[.int .i64 0, .int .i64 0, .string ⟨#[]⟩, .slice none 0 0] 28)) (.cells (blank (m + 2)).toArray 9)
    simpa using this
  have hbox : W0.heap[w.heap.size]? = some (.cells #[.int .i64 k, .int .i64 n, .string t, .slice p m c] 28) := by
    rw [hW0]
    exact heap_al (heap_al (heap_alloc_new w _) _) _
  have hres : W0.heap[w.heap.size + 1]? = some (.cells #[.int .i64 0, .int .i64 0, .string ⟨#[]⟩, .slice none 0 0] 28) := by
    rw [hW0]
    refine heap_al ?_ _
    have := heap_alloc_new (w.alloc (.cells #[.int .i64 k, .int .i64 n, .string t, .slice p m c] 28)) (.cells #[.int .i64 0, .int .i64 0, .string ⟨#[]⟩, .slice none 0 0] 28)
    simpa using this
  have hpos : 0 < X.length → (some (⟨w.heap.size + 1 + 1, 0, none⟩ : Addr) = some ⟨w.heap.size + 1 + 1, 0, none⟩) ∧ ∃ ad, p = some ad ∧ ∀ j v, X[j]? = some v → W0.cell? (ad.add j) = some v := by
    intro h0
    refine ⟨rfl, ?_⟩
    rcases Hat.out with h | ⟨b, o, rfl, hlt, hat⟩
    · rw [hX, h] at h0; simp at h0
    · refine ⟨_, rfl, fun j v hj => ?_⟩
      rw [hX] at hj
      simp only [List.getElem?_map, Option.map_eq_some_iff] at hj
      obtain ⟨x, hx, rfl⟩ := hj
      rw [add_none]
      exact (hb0.cell (p := ⟨b, o + j, none⟩) hlt).trans (hat j x hx)
  have hXl : X.length = m := by rw [hX, List.length_map, Hm.out]
  have hX1 : ∀ v ∈ X, v.oneCell' = true := by
    intro v hv
    rw [hX] at hv
    obtain ⟨x, _, rfl⟩ := List.mem_map.1 hv
    rfl
  have hsp := splice_lent ws m Hm.out
  rw [← hX] at hsp
  have hmin : X.length = Nat.min m (m + 2) := by rw [hXl]; exact (Nat.min_eq_left (by omega)).symm
  have hfit : 0 + X.length ≤ (blank (m + 2)).length := by rw [hXl]; simp [blank]
  have hcp : ∃ w3, (Builtin.copy_ #[25, 25] 3 #[.slice (some ⟨w.heap.size + 1 + 1, 0, none⟩) (m + 2) (m + 2), .slice p m c]).run Tryz.prog W0 = .ok (goInt m) w3 ∧ w3.heap[w.heap.size + 1 + 1]? = some (.cells (X ++ blank 2).toArray 9 (0, 0)) ∧ Below (w.heap.size + 1 + 1) W0 w3 := by
    by_cases h0 : m = 0
    · subst h0
      obtain rfl : X = [] := List.eq_nil_of_length_eq_zero hXl
      refine ⟨W0, ?_, ?_, Below.refl _ _⟩
      · exact run_copy_none (P := Tryz.prog) W0 25 25 3 9 _ p _ _ _ _ Tryz.underlying25 infoSz (by rfl)
      · exact hg
    · obtain ⟨-, ad, rfl, hsrc⟩ := hpos (by omega)
      refine ⟨_, by rw [← hXl]; exact run_copy_row (P := Tryz.prog) W0 25 25 3 9 (w.heap.size + 1 + 1) 0 _ _ ad _ _ (blank (m + 2)).toArray 9 X Tryz.underlying25 infoSz hg (by rw [hXl]; exact (Nat.min_eq_left (by omega)).symm) hsrc (by simpa using hfit) hX1, ?_, below_setRow (Below.refl _ _) (Nat.le_refl _) _⟩
      refine (setRow_heap W0 _ _ _ _ _ hg).trans ?_
      congr 2
      rw [← hsp]
      unfold splice
      simp
  obtain ⟨w3, hcopy, hg3, hb3⟩ := hcp
  have hX2 : (X ++ blank 2).length = m + 2 := by simp [blank, hXl]
  have Hset : Hid ((X ++ blank 2).toArray.setIfInBounds m (.string spare) = (lentRow ws).toArray) := Lib.hid (by rw [hX]; exact set_lent ws m Hm.out)
  have hcm : w3.cell? ⟨w.heap.size + 1 + 1, m, none⟩ = some (.string .empty) := by
    rw [cell_of_row w3 _ m _ _ _ hg3]
    simp [blank, hXl]
  have hfm := frozen_of_row w3 (w.heap.size + 1 + 1) m _ _ hg3
  have hbox3 := (hb3.block w.heap.size (by omega)).trans hbox
  have hres3 := (hb3.block (w.heap.size + 1) (by omega)).trans hres
  have hc := fun j => cell_of_row w3 w.heap.size j _ _ _ hbox3
  have hf := fun j => frozen_of_row w3 w.heap.size j _ _ hbox3
  have hd := fun j => cell_of_row w3 (w.heap.size + 1) j _ _ _ hres3
  have he := fun j => frozen_of_row w3 (w.heap.size + 1) j _ _ hres3
  have c0 := hc 0; have c1 := hc 1; have c2 := hc 2; have c3 := hc 3
  have f0 := hf 0; have f1 := hf 1; have f2 := hf 2; have f3 := hf 3
  have d0 := hd 0; have d1 := hd 1; have d2 := hd 2; have d3 := hd 3
  have k0 := he 0; have k1 := he 1; have k2 := he 2; have k3 := he 3
  simp only [List.getElem?_toArray, List.getElem?_cons_succ, List.getElem?_cons_zero] at c0 c1 c2 c3 d0 d1 d2 d3
  have Hg3 := Lib.hid hg3
  have Hbox3 := Lib.hid hbox3
  have Hres3 := Lib.hid hres3
  have Hb3 := Lib.hid (hb0.trans (hb3.mono (by omega)))
  clear hsp hg hbox hres hpos hX1 hb0 hmin hfit hX hg3 hb3 hbox3 hres3 hc hf hd he hX2 HX hXl
  subst hW0
  have hgo : goInt (m : Int) = .int .i64 m := rfl
  go_enter Tryz.func15, Tryz.ntmps15
  go_wp2_with fail
  obtain ⟨w5, hw5⟩ : ∃ w5, w5 = (w3.setCell ⟨w.heap.size + 1 + 1, m, none⟩ (.string spare)).setCell ⟨w.heap.size, 3, none⟩ (.slice (some ⟨w.heap.size + 1 + 1, 0, none⟩) m (m + 2)) := ⟨_, rfl⟩
  have hw5' : (w3.setCell ⟨w.heap.size + 1 + 1, m, none⟩ (.string ⟨#[115, 112, 97, 114, 101]⟩)).setCell ⟨w.heap.size, 3, none⟩ (.slice (some ⟨w.heap.size + 1 + 1, 0, none⟩) m (m + 2)) = w5 := hw5.symm
  rw [hw5']
  have hr5 : w5.heap[w.heap.size + 1]? = some (.cells #[.int .i64 0, .int .i64 0, .string ⟨#[]⟩, .slice none 0 0] 28) := by
    rw [hw5]
    exact heap_set_ne (heap_set_ne Hres3.out _ (by simp)) _ (by simp)
  have hg5 : w5.heap[w.heap.size + 1 + 1]? = some (.cells (lentRow ws).toArray 9 (0, 0)) := by
    rw [hw5]
    refine heap_set_ne ?_ _ (by show w.heap.size + 1 + 1 ≠ w.heap.size; omega)
    rw [heap_set Hg3.out, Hset.out]
  have hb5 : Below w.heap.size w w5 := by
    rw [hw5]
    exact (Hb3.out.setCell (by show w.heap.size ≤ w.heap.size + 1 + 1; omega) _).setCell (Nat.le_refl _) _
  have Hblk := Lib.hid hr5
  have Hb5 := Lib.hid hb5
  have Hg5 := Lib.hid hg5
  clear hw5 hw5' hr5 hg5 hb5
  generalize hW : World.setCell (World.setCell (World.setCell (World.setCell w5 _ _) _ _) _ _) _ _ = W
  obtain ⟨⟨g0, g1, g2, g3⟩, _, hoth, hbel⟩ := four_done Hblk.out hW
  have HB := Lib.hid (hbel w.heap.size w Hb5.out (by simp))
  have HO := Lib.hid hoth
  clear hW hbel hoth
  (try simp only [Exit.inBlock, Exit.then])
  refine bodyPost_ret (by simp [results, Tryz.results15, go_sem, g0, g1, g2, g3]; try rfl) rfl ?_
  exact ⟨⟨rfl, (HO.out _ (by simp)).trans Hg5.out⟩, HB.out⟩

theorem lent_strs {w : World} {g : Nat} {ws : List ByteArray} (h : w.heap[g]? = some (.cells (lentRow ws).toArray 9 (0, 0))) : Strs w (.slice (some ⟨g, 0, none⟩) ws.length (ws.length + 2)) ws :=
  ⟨_, _, rfl, by omega, .inr ⟨g, 0, rfl, lt_of_block h, fun j x hj => by
    have hlt := lt_of_get hj
    rw [cell_of_row w g _ _ _ _ h, Nat.zero_add, List.getElem?_toArray]
    unfold lentRow
    rw [List.getElem?_map, List.getElem?_append_left hlt, hj]
    rfl⟩⟩

set_option maxHeartbeats 1000000 in
set_option maxRecDepth 100000 in
theorem whole_any (v : Val) (hb : Vb v) (g : Nat) (sl : Value) (w : World) (hrow : w.heap[g]? = some (.cells (lentRow v.words).toArray 9 (0, 0))) (hS : Strs w sl v.words) (b0 : Nat) (hB : b0 ≤ g) (hBw : b0 ≤ w.heap.size) :
    Calls Tryz.prog 19 #[rep v (.slice (some ⟨g, 0, none⟩) v.words.length (v.words.length + 2)), rep v sl] w fun e w' => e = .returned (.bool true) ∧ Below b0 w w' := by
  have hSo := lent_strs hrow
  have hsame := fun (W : World) (hbW : Below w.heap.size w W) => refSame_any v v _ sl W (hSo.later hbW) (hS.later hbW) hb.words hb.words
  rw [decide_eq_true (rfl : v = v)] at hsame
  have HSame := Lib.hid hsame
  obtain ⟨k, n, t, ws⟩ := v
  obtain ⟨_, _, _, hl, _, _⟩ := hb
  simp only at hl hrow hS
  obtain ⟨p, c, rfl, hc, _⟩ := hS
  obtain ⟨m, hm⟩ : ∃ m, ws.length = m := ⟨_, rfl⟩
  have Hm := Lib.hid hm
  have Hrow := Lib.hid hrow
  have hglt := lt_of_block hrow
  unfold rep at *
  simp only at *
  rw [hm] at HSame hl hc ⊢
  clear hm hsame hSo hrow
  go_enter Tryz.func19, Tryz.ntmps19
  go_wp2_with fail
  refine (HSame.out _ (((Below.refl _ w).alloc (Nat.le_refl _) _).alloc (by simp) _)).mono ?_
  rintro e w1 ⟨rfl, hb⟩
  obtain ⟨hB0, hB1⟩ := two_blocks hb
  rw [heap_alloc_new] at hB0
  have hbw : Below w.heap.size w w1 := (((Below.refl _ w).alloc (Nat.le_refl _) _).alloc (by simp) _).trans (hb.mono (by simp; omega))
  have Hrow1 := Lib.hid (keep Hrow.out hbw)
  have Hbw := Lib.hid (hbw.mono hBw)
  have hsz1 := hbw.size
  have hc0 := fun j => cell_of_row w1 w.heap.size j _ _ _ hB0
  have hd0 := fun j => cell_of_row w1 (w.heap.size + 1) j _ _ _ hB1
  have c3 := hc0 3
  have d3 := hd0 3
  simp only [List.getElem?_toArray, List.getElem?_cons_succ, List.getElem?_cons_zero] at c3 d3
  have gm : w1.cell? ⟨g, m, none⟩ = some (.string spare) := by
    rw [cell_of_row w1 g m _ _ _ Hrow1.out, List.getElem?_toArray, ← Hm.out]
    simp [lentRow]
  have gm1 : w1.cell? ⟨g, m + 1, none⟩ = some (.string .empty) := by
    rw [cell_of_row w1 g (m + 1) _ _ _ Hrow1.out, List.getElem?_toArray, ← Hm.out]
    simp [lentRow]
  have hsp : (spare.toList == [115, 112, 97, 114, 101]) = true := seq_lit rfl
  have hsp2 : (ByteArray.empty).toList.isEmpty = true := by rw [ByteArray.toList_eq]; rfl
  clear hb hB0 hB1 hbw hc0 hd0
  go_wp2_with fail
  go_loopw [7] (fun i wr => ∃ (j : Nat) (cur : Array Value), j ≤ m + 2 ∧ i = .int .i64 j ∧ wr.heap[g]? = some (.cells cur 9 (0, 0)) ∧ cur.size = m + 2 ∧ (∀ q, q < m + 2 → ∃ x, cur[q]? = some (.string x)) ∧ Below b0 w wr) (fun i _ => m + 2 - (intOf i).toNat)
  case atStart => exact ⟨0, (lentRow ws).toArray, by omega, rfl, Hrow1.out, by simp [lentRow, Hm.out], fun q hq => by
    rw [List.getElem?_toArray]
    unfold lentRow
    rw [List.getElem?_map, List.getElem?_eq_getElem (by simp [Hm.out]; omega)]
    exact ⟨_, rfl⟩, Hbw.out⟩
  case round =>
    obtain ⟨j, cur, hj, rfl, hr, hcs, hall, hb⟩ := hrel
    have Hr := Lib.hid hr
    have Hb := Lib.hid hb
    have Hall := Lib.hid hall
    have Hcs := Lib.hid hcs
    by_cases hlt : j < m + 2
    · obtain ⟨x, hx⟩ := hall j hlt
      have hcell : wr.cell? ⟨g, j, none⟩ = some (.string x) := by rw [cell_of_row wr g j _ _ _ hr, hx]
      have hfr := frozen_of_row wr g j _ _ hr
      have hji : (j : Int) < (m : Int) + 2 := by omega
      clear hr hcs hall hb hx
      go_wp2_with fail
      go_roundw
      case rel =>
        refine ⟨j + 1, cur.setIfInBounds j (.string ⟨#[111, 118, 101, 114]⟩), by omega, by go_num, heap_set Hr.out _, by simp [Hcs.out], fun q hq => ?_, Hb.out.setCell hB _⟩
        by_cases hqj : j = q
        · subst hqj
          exact ⟨_, Array.getElem?_setIfInBounds_self_of_lt (by rw [Hcs.out]; exact hq)⟩
        · obtain ⟨y, hy⟩ := Hall.out q hq
          exact ⟨y, by rw [Array.getElem?_setIfInBounds_ne hqj]; exact hy⟩
      case measure => simp [intOf]; omega
    · obtain rfl : j = m + 2 := by omega
      have hdec : decide (((m + 2 : Nat) : Int) < (m : Int) + 2) = false := by simp
      clear hr hcs hall hb
      go_wp2_with fail
      go_ret
      exact ⟨rfl, Hb.out⟩
end Go.Proofs.YtkbamhecbfocbaaGreatDoor.va
