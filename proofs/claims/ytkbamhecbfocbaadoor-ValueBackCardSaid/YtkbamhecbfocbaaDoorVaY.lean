/- An argument that is an api.Value, opened: its fields, and its words in memory. No conditions. -/
import Derived.Test.YtkbamhecbfocbaaDoorVaQ
import Derived.Test.YtkbamhecbfocbaaDoorOpen
import Derived.Lib.SmallJoins
namespace Go.Proofs.YtkbamhecbfocbaaDoor.va
open Go.ChangeShapes Go.WideShapes Go.Deep Go.RowKit

theorem cVal : Tryd.prog.cellsOf 45 = 4 := by kernel_rfl
theorem cInt' : Tryd.prog.cellsOf 3 = 1 := by kernel_rfl
theorem cStr' : Tryd.prog.cellsOf 9 = 1 := by kernel_rfl
theorem cSl' : Tryd.prog.cellsOf 25 = 1 := by kernel_rfl
theorem wf_b {n : Int} (h : (Lit.int .i64 n).wf = true) : -9223372036854775808 ≤ n ∧ n ≤ 9223372036854775807 := by
  have := h
  simp [Lit.wf, IntKind.min, IntKind.max, IntKind.signed, IntKind.bits] at this
  exact this

/-- A slice of strings that is read. -/
theorem strs_of {H : Type} {enc : TypeId × Value → H} {W : World} {base fuel : Nat} {sp : Nat → Bool} {held : Bool} {u : Value} {y : DataW H × List MemPlace} (h : DataW.trod enc Tryd.prog W base sp held fuel 25 [u] = some y) :
    ∃ xs : List ByteArray, Strs W u xs ∧ xs.length ≤ 9223372036854775807 ∧ ∀ x ∈ xs, x.size ≤ 9223372036854775807 := by
  rcases open_slice1 Tryd.underlying25 cStr' h with ⟨hcs, _⟩ | ⟨a, len, cap, m, n, V, D, Pl, hcs, hb, hl, hm, hmm, _, hat⟩
  · simp only [List.cons.injEq, and_true] at hcs
    subst hcs
    exact ⟨[], ⟨none, 0, rfl, Nat.le_refl _, .inl rfl⟩, by simp, by simp⟩
  · simp only [List.cons.injEq, and_true] at hcs
    subst hcs
    have hall : ∀ i, i < len → ∃ x : ByteArray, V i = .string x ∧ x.size ≤ 9223372036854775807 := by
      intro i hi
      obtain ⟨hc, ht⟩ := hat i (by rw [hmm]; split <;> omega)
      obtain ⟨s, e3, _, w3⟩ := DataW.trod_string Tryd.underlying9 ht
      simp only [List.cons.injEq, and_true] at e3
      exact ⟨s, e3, w3⟩
    obtain ⟨f, hf⟩ := Deep.choose_lt hall
    refine ⟨(List.range len).map f, ?_, by simp; unfold maxLen at hm; omega, fun x hx => ?_⟩
    · refine ⟨some a, cap, by simp, by simpa using hl, ?_⟩
      by_cases h0 : len = 0
      · subst h0
        exact .inl rfl
      · have h1 := (hat 0 (by rw [hmm]; split <;> omega)).1
        have hsp : a.spot = none := by
          have := spot_none h1
          simpa [Addr.add] using this
        obtain ⟨b, off, s⟩ := a
        simp only at hsp
        subst hsp
        refine .inr ⟨b, off, rfl, ?_, fun j x hj => ?_⟩
        · rw [add_none] at h1
          exact World.block_lt_of_cell? _ _ h1
        · simp only [List.getElem?_map, Option.map_eq_some_iff] at hj
          obtain ⟨i, hi, rfl⟩ := hj
          obtain ⟨hi1, rfl⟩ := List.getElem?_eq_some_iff.1 hi
          simp only [List.getElem_range]
          have hjl : j < len := by simpa using hi1
          have h2 := (hat j (by rw [hmm]; split <;> omega)).1
          rw [add_none, (hf j hjl).1] at h2
          exact h2
    · obtain ⟨i, hi, rfl⟩ := List.mem_map.1 hx
      exact (hf i (List.mem_range.1 hi)).2

theorem val_of {H : Type} {enc : TypeId × Value → H} {W : World} {v : Value} {cs : Array Value} {d : DataW H} {ps : List MemPlace} (h : DataW.Trod enc Tryd.prog W 0 (fun _ => true) true 45 v d ps) (hv : v = .agg cs) (hz : cs.size = Tryd.prog.cellsOf 45) :
    ∃ (x : Val) (sl : Value), v = rep x sl ∧ Vh x ∧ Strs W sl x.words := by
  subst hv
  rw [cVal] at hz
  obtain ⟨c0, c1, c2, c3, rfl⟩ := Joins.array4 hz
  obtain ⟨fuel, hf⟩ := h
  obtain ⟨y0, y1, y2, y3, n, _, _, f0, f1, f2, f3⟩ := Joins.trod_struct4 Tryd.underlying45 hf
  change DataW.trod _ _ _ _ _ _ _ 3 (([c0, c1, c2, c3].drop 0).take (Tryd.prog.cellsOf 3)) = _ at f0
  change DataW.trod _ _ _ _ _ _ _ 3 (([c0, c1, c2, c3].drop 1).take (Tryd.prog.cellsOf 3)) = _ at f1
  change DataW.trod _ _ _ _ _ _ _ 9 (([c0, c1, c2, c3].drop 2).take (Tryd.prog.cellsOf 9)) = _ at f2
  change DataW.trod _ _ _ _ _ _ _ 25 (([c0, c1, c2, c3].drop 3).take (Tryd.prog.cellsOf 25)) = _ at f3
  rw [cInt'] at f0 f1
  rw [cStr'] at f2
  rw [cSl'] at f3
  obtain ⟨z0, e0, _, w0⟩ := DataW.trod_int Tryd.underlying3 f0
  obtain ⟨z1, e1, _, w1⟩ := DataW.trod_int Tryd.underlying3 f1
  obtain ⟨s, e2, _, w2⟩ := DataW.trod_string Tryd.underlying9 f2
  obtain ⟨xs, hS, hl, hx⟩ := strs_of f3
  simp at e0 e1 e2
  subst e0 e1 e2
  have b1 := wf_b w1
  exact ⟨⟨z0, z1, s, xs⟩, c3, rfl, ⟨b1.1, b1.2, w2, hl, hx⟩, hS⟩
end Go.Proofs.YtkbamhecbfocbaaDoor.va
