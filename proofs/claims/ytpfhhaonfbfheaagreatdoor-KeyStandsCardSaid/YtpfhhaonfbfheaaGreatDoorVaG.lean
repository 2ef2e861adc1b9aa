/- value.parseBool, parseText, parseWords return plain functions. Conditions: the listed variables hold what the program's text lays; the text is no longer than 2147483647 bytes. -/
import Derived.Test.YtpfhhaonfbfheaaGreatDoorVaE
import Derived.Test.YtpfhhaonfbfheaaGreatDoorMem
namespace Go.Proofs.YtpfhhaonfbfheaaGreatDoor.va
open Go.ChangeShapes Go.WideShapes Go.ChangeAt Go.RowKit gl

/-- The result's cells stand where they were laid. -/
theorem res_cells {w w1 : World} {a b c d : Value} {t : TypeId} (hb : Below (w.alloc (.cells #[a, b, c, d] t)).heap.size (w.alloc (.cells #[a, b, c, d] t)) w1) :
    (w1.cell? ⟨w.heap.size, 0, none⟩ = some a ∧ w1.cell? ⟨w.heap.size, 1, none⟩ = some b ∧ w1.cell? ⟨w.heap.size, 2, none⟩ = some c ∧ w1.cell? ⟨w.heap.size, 3, none⟩ = some d) ∧
    (w1.frozen? ⟨w.heap.size, 0, none⟩ = false ∧ w1.frozen? ⟨w.heap.size, 1, none⟩ = false ∧ w1.frozen? ⟨w.heap.size, 2, none⟩ = false ∧ w1.frozen? ⟨w.heap.size, 3, none⟩ = false) := by
  have h : w1.heap[w.heap.size]? = some (.cells #[a, b, c, d] t (0, 0)) := (hb.block _ (by simp)).trans (heap_alloc_new w _)
  have hc := fun j => cell_of_row w1 w.heap.size j _ _ _ h
  have hf := fun j => frozen_of_row w1 w.heap.size j _ _ h
  exact ⟨⟨hc 0, hc 1, hc 2, hc 3⟩, hf 0, hf 1, hf 2, hf 3⟩
/-- The result is written. -/
theorem four_done {w1 W : World} {b : Nat} {o0 o1 o2 o3 v0 v1 v2 v3 : Value} {t : TypeId} {f : Nat × Nat} (h : w1.heap[b]? = some (.cells #[o0, o1, o2, o3] t f))
    (hW : (((w1.setCell ⟨b, 0, none⟩ v0).setCell ⟨b, 1, none⟩ v1).setCell ⟨b, 2, none⟩ v2).setCell ⟨b, 3, none⟩ v3 = W) :
    (W.cell? ⟨b, 0, none⟩ = some v0 ∧ W.cell? ⟨b, 1, none⟩ = some v1 ∧ W.cell? ⟨b, 2, none⟩ = some v2 ∧ W.cell? ⟨b, 3, none⟩ = some v3) ∧ W.heap.size = w1.heap.size ∧ (∀ (k : Nat), k ≠ b → W.heap[k]? = w1.heap[k]?) ∧ (∀ (n : Nat) (w : World), Below n w w1 → n ≤ b → Below n w W) := by
  have h0 := heap_set (o := 0) h v0
  have h1 := heap_set (o := 1) h0 v1
  have h2 := heap_set (o := 2) h1 v2
  have h3 := heap_set (o := 3) h2 v3
  rw [hW] at h3
  have hc := fun j => cell_of_row W b j _ _ _ h3
  refine ⟨⟨hc 0, hc 1, hc 2, hc 3⟩, by rw [← hW]; simp [World.setCell], fun k hk => ?_, fun n w hb hn => ?_⟩
  · rw [← hW]
    exact (((Below.heap_setCell _ ⟨b, 3, none⟩ v3 k hk).trans (Below.heap_setCell _ ⟨b, 2, none⟩ v2 k hk)).trans (Below.heap_setCell _ ⟨b, 1, none⟩ v1 k hk)).trans (Below.heap_setCell _ ⟨b, 0, none⟩ v0 k hk)
  · rw [← hW]
    exact (((hb.setCell (p := ⟨b, 0, none⟩) hn v0).setCell (p := ⟨b, 1, none⟩) hn v1).setCell (p := ⟨b, 2, none⟩) hn v2).setCell (p := ⟨b, 3, none⟩) hn v3
theorem new_block {w w1 : World} {o : Obj} (hb : Below (w.alloc o).heap.size (w.alloc o) w1) : w1.heap[w.heap.size]? = (w.alloc o).heap[w.heap.size]? := hb.block _ (by simp)
/-- What Parse returns: a value, its words in a slice, an error's number. -/
def res (r : Val × Int) (sl : Value) : Value := .tuple #[rep r.1 sl, .int .i64 r.2]

theorem pb_yes {l : List UInt8} (h : (l == [116, 114, 117, 101]) = true ∨ (l == [121, 101, 115]) = true ∨ (l == [111, 110]) = true) : parseBool l = (⟨1, 1, ByteArray.empty, []⟩, 0) := by
  rcases h with h | h | h <;> rw [eq_of_beq h] <;> rfl
theorem pb_no {l : List UInt8} (h : (l == [102, 97, 108, 115, 101]) = true ∨ (l == [110, 111]) = true ∨ (l == [111, 102, 102]) = true) : parseBool l = (⟨1, 0, ByteArray.empty, []⟩, 0) := by
  rcases h with h | h | h <;> rw [eq_of_beq h] <;> rfl
theorem pb_none {l : List UInt8} (h1 : (l == [116, 114, 117, 101]) = false) (h2 : (l == [121, 101, 115]) = false) (h3 : (l == [111, 110]) = false) (h4 : (l == [102, 97, 108, 115, 101]) = false) (h5 : (l == [110, 111]) = false) (h6 : (l == [111, 102, 102]) = false) :
    parseBool l = (zero, 40) := by
  rw [beq_eq_false_iff_ne] at h1 h2 h3 h4 h5 h6
  unfold parseBool
  rw [show yes l = false from decide_eq_false (fun h => h.elim h1 fun h => h.elim h2 h3), show no l = false from decide_eq_false (fun h => h.elim h4 fun h => h.elim h5 h6)]
  rfl
theorem parseBool_any (s : ByteArray) (w : World) :
    Calls Tryz.prog 92 #[.string s] w fun e w' => e = .returned (res (parseBool s.data.toList) (.slice none 0 0)) ∧ Below w.heap.size w w' := by
  rw [← ByteArray.toList_eq s]
  cases h1 : (s.toList == [116, 114, 117, 101]) with
  | true =>
    have H := Lib.hid (pb_yes (.inl h1))
    go_enter Tryz.func92, Tryz.ntmps92
    go_wp2
    go_returns
    exact ⟨by rw [H.out]; rfl, by go_grown⟩
  | false =>
    cases h2 : (s.toList == [121, 101, 115]) with
    | true =>
      have H := Lib.hid (pb_yes (.inr (.inl h2)))
      go_enter Tryz.func92, Tryz.ntmps92
      go_wp2
      go_returns
      exact ⟨by rw [H.out]; rfl, by go_grown⟩
    | false =>
      cases h3 : (s.toList == [111, 110]) with
      | true =>
        have H := Lib.hid (pb_yes (.inr (.inr h3)))
        go_enter Tryz.func92, Tryz.ntmps92
        go_wp2
        go_returns
        exact ⟨by rw [H.out]; rfl, by go_grown⟩
      | false =>
        cases h4 : (s.toList == [102, 97, 108, 115, 101]) with
        | true =>
          have H := Lib.hid (pb_no (.inl h4))
          go_enter Tryz.func92, Tryz.ntmps92
          go_wp2
          go_returns
          exact ⟨by rw [H.out]; rfl, by go_grown⟩
        | false =>
          cases h5 : (s.toList == [110, 111]) with
          | true =>
            have H := Lib.hid (pb_no (.inr (.inl h5)))
            go_enter Tryz.func92, Tryz.ntmps92
            go_wp2
            go_returns
            exact ⟨by rw [H.out]; rfl, by go_grown⟩
          | false =>
            cases h6 : (s.toList == [111, 102, 102]) with
            | true =>
              have H := Lib.hid (pb_no (.inr (.inr h6)))
              go_enter Tryz.func92, Tryz.ntmps92
              go_wp2
              go_returns
              exact ⟨by rw [H.out]; rfl, by go_grown⟩
            | false =>
              have H := Lib.hid (pb_none h1 h2 h3 h4 h5 h6)
              go_enter Tryz.func92, Tryz.ntmps92
              go_wp2
              go_returns
              exact ⟨by rw [H.out]; rfl, by go_grown⟩

set_option maxHeartbeats 1000000 in
theorem parseText_any (s : ByteArray) (w : World) :
    Calls Tryz.prog 94 #[.string s] w fun e w' => e = .returned (res (parseText s.data.toList) (.slice none 0 0)) ∧ Below w.heap.size w w' := by
  have hp := fun W => printable_any s W
  have HE : Hid (∀ b, prnAll s.data.toList = b → parseText s.data.toList = if b then (if 200 < s.size then (zero, 42) else (⟨5, 0, s, []⟩, 0)) else (zero, 40)) := Lib.hid (by
    rintro b rfl
    unfold parseText prnAll
    rw [show s.data.toList.length = s.size by simp, B_toList])
  generalize prnAll s.data.toList = b at *
  have He := Lib.hid (HE.out b rfl)
  clear HE
  cases b with
  | false =>
    go_enter Tryz.func94, Tryz.ntmps94
    go_wp2_with fail
    refine (hp _).mono ?_
    rintro e w1 ⟨rfl, hb⟩
    have Hb := Lib.hid hb
    have Hblk := Lib.hid ((new_block hb).trans (heap_alloc_new w _))
    obtain ⟨⟨c0, c1, c2, c3⟩, f0, f1, f2, f3⟩ := res_cells hb
    clear hb
    go_wp2_with fail
    generalize hW : World.setCell (World.setCell (World.setCell (World.setCell w1 _ _) _ _) _ _) _ _ = W
    obtain ⟨⟨g0, g1, g2, g3⟩, _, _, hbel⟩ := four_done Hblk.out hW
    have HB := Lib.hid (hbel w.heap.size w ((((Below.refl _ w).alloc (Nat.le_refl _) _)).trans (Hb.out.mono (by simp))) (Nat.le_refl _))
    clear hW hbel
    (try simp only [Exit.inBlock, Exit.then])
    refine bodyPost_ret (by simp [results, Tryz.results94, go_sem, g0, g1, g2, g3]; try rfl) rfl ?_
    exact ⟨by rw [He.out]; rfl, HB.out⟩
  | true =>
    by_cases h200 : 200 < s.size
    · have He2 := Lib.hid (He.out.trans ((if_pos rfl).trans (if_pos h200)))
      go_enter Tryz.func94, Tryz.ntmps94
      go_wp2_with fail
      refine (hp _).mono ?_
      rintro e w1 ⟨rfl, hb⟩
      have Hb := Lib.hid hb
      have Hblk := Lib.hid ((new_block hb).trans (heap_alloc_new w _))
      obtain ⟨⟨c0, c1, c2, c3⟩, f0, f1, f2, f3⟩ := res_cells hb
      clear hb
      go_wp2_with fail
      generalize hW : World.setCell (World.setCell (World.setCell (World.setCell w1 _ _) _ _) _ _) _ _ = W
      obtain ⟨⟨g0, g1, g2, g3⟩, _, _, hbel⟩ := four_done Hblk.out hW
      have HB := Lib.hid (hbel w.heap.size w ((((Below.refl _ w).alloc (Nat.le_refl _) _)).trans (Hb.out.mono (by simp))) (Nat.le_refl _))
      clear hW hbel
      (try simp only [Exit.inBlock, Exit.then])
      refine bodyPost_ret (by simp [results, Tryz.results94, go_sem, g0, g1, g2, g3]; try rfl) rfl ?_
      exact ⟨by rw [He2.out]; rfl, HB.out⟩
    · have He2 := Lib.hid (He.out.trans ((if_pos rfl).trans (if_neg h200)))
      go_enter Tryz.func94, Tryz.ntmps94
      go_wp2_with fail
      refine (hp _).mono ?_
      rintro e w1 ⟨rfl, hb⟩
      have Hb := Lib.hid hb
      have Hblk := Lib.hid ((new_block hb).trans (heap_alloc_new w _))
      obtain ⟨⟨c0, c1, c2, c3⟩, f0, f1, f2, f3⟩ := res_cells hb
      clear hb
      go_wp2_with fail
      generalize hW : World.setCell (World.setCell (World.setCell (World.setCell w1 _ _) _ _) _ _) _ _ = W
      obtain ⟨⟨g0, g1, g2, g3⟩, _, _, hbel⟩ := four_done Hblk.out hW
      have HB := Lib.hid (hbel w.heap.size w ((((Below.refl _ w).alloc (Nat.le_refl _) _)).trans (Hb.out.mono (by simp))) (Nat.le_refl _))
      clear hW hbel
      (try simp only [Exit.inBlock, Exit.then])
      refine bodyPost_ret (by simp [results, Tryz.results94, go_sem, g0, g1, g2, g3]; try rfl) rfl ?_
      exact ⟨by rw [He2.out]; rfl, HB.out⟩

end Go.Proofs.YtpfhhaonfbfheaaGreatDoor.va
