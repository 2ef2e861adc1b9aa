/- Arguments that are lines, opened: each line's name, text and number, and their cells in memory. No conditions. -/
import Derived.Test.YtkbamhecbfocbaaDoorInU
import Derived.Test.YtkbamhecbfocbaaDoorOpen
import Derived.Lib.SmallJoins
import Derived.Deep.Strs
import Derived.Test.YtkbamhecbfocbaaDoorInC
namespace Go.Proofs.YtkbamhecbfocbaaDoor.ini
open Go.ChangeShapes Go.WideShapes Go.Deep Go.RowKit gl

theorem wf_b {n : Int} (h : (Lit.int .i64 n).wf = true) : -9223372036854775808 ≤ n ∧ n ≤ 9223372036854775807 := by
  have := h
  simp [Lit.wf, IntKind.min, IntKind.max, IntKind.signed, IntKind.bits] at this
  exact this
def LnOk (x : Ln) : Prop := x.name.length ≤ 9223372036854775807 ∧ x.text.length ≤ 9223372036854775807 ∧ -9223372036854775808 ≤ x.num ∧ x.num ≤ 9223372036854775807
def LinesOk (W : World) (p : Option Addr) (cap : Nat) (l : List Ln) : Prop := Lns W (.slice p l.length cap) l ∧ ∀ x ∈ l, LnOk x
instance : Inhabited Ln := ⟨⟨[], [], 0⟩⟩
theorem lines_of {H : Type} {enc : TypeId × Value → H} {W : World} {v : Value} {d : DataW H} {ps : List MemPlace} (h : DataW.Trod enc Tryd.prog W 0 (fun _ => true) true 27 v d ps) (hv : v.cells.toList = [v]) :
    ∃ p cap l, v = .slice p l.length cap ∧ l.length ≤ maxLen ∧ LinesOk W p cap l := by
  rcases open_rows Tryd.underlying27 Tryd.underlying35 (by kernel_rfl) (by kernel_rfl) h hv with h | ⟨a, len, cap, hs, hl, hm, hat⟩
  · exact ⟨none, 0, [], h, Nat.zero_le _, ⟨none, 0, rfl, Nat.le_refl _, .inl rfl⟩, fun x hx => by cases hx⟩
  · have hall : ∀ i, i < len → ∃ x : Ln, LnOk x ∧ ∃ b off, a = ⟨b, off, none⟩ ∧ b < W.heap.size ∧ ∀ (j : Nat) (u : Value), (lnC x)[j]? = some u → W.cell? ⟨b, off + (i * 3 + j), none⟩ = some u := by
      intro i hi
      obtain ⟨u0, y0, n0, c0, t0⟩ := hat i hi 0 _ rfl
      obtain ⟨u1, y1, n1, c1, t1⟩ := hat i hi 1 _ rfl
      obtain ⟨u2, y2, n2, c2, t2⟩ := hat i hi 2 _ rfl
      obtain ⟨s0, e0, _, w0⟩ := DataW.trod_string Tryd.underlying9 t0
      obtain ⟨s1, e1, _, w1⟩ := DataW.trod_string Tryd.underlying9 t1
      obtain ⟨z2, e2, _, w2⟩ := DataW.trod_int Tryd.underlying3 t2
      simp only [List.cons.injEq, and_true] at e0 e1 e2
      subst e0 e1 e2
      obtain ⟨v0, y0', n0', z, _⟩ := hat 0 (by omega) 0 _ rfl
      have hsp : a.spot = none := by
        have := spot_none z
        simpa [Addr.add] using this
      obtain ⟨b, off, sp⟩ := a
      simp only at hsp
      subst hsp
      have b2 := wf_b w2
      unfold maxLen at w0 w1
      rw [add_none] at c0 c1 c2
      change W.cell? ⟨b, off + (i * 3 + 0), none⟩ = _ at c0
      change W.cell? ⟨b, off + (i * 3 + 1), none⟩ = _ at c1
      change W.cell? ⟨b, off + (i * 3 + 2), none⟩ = _ at c2
      refine ⟨⟨s0.data.toList, s1.data.toList, z2⟩, ⟨by simp only [toList_len]; omega, by simp only [toList_len]; omega, b2.1, b2.2⟩, b, off, rfl, World.block_lt_of_cell? _ _ c0, fun j u hu => ?_⟩
      match j, hu with
      | 0, hu => obtain rfl := Option.some.inj hu; simp only [B_of]; exact c0
      | 1, hu => obtain rfl := Option.some.inj hu; simp only [B_of]; exact c1
      | 2, hu => obtain rfl := Option.some.inj hu; exact c2
    obtain ⟨f, hf⟩ := Deep.choose_lt hall
    refine ⟨some a, cap, (List.range len).map f, by simpa using hs, by simp; omega, ⟨some a, cap, rfl, by simpa using hl, ?_⟩, fun x hx => ?_⟩
    · by_cases h0 : len = 0
      · subst h0
        exact .inl rfl
      · obtain ⟨_, b, off, rfl, hb, _⟩ := hf 0 (by omega)
        refine .inr ⟨b, off, rfl, hb, fun j x hx i u hu => ?_⟩
        simp only [List.getElem?_map, Option.map_eq_some_iff] at hx
        obtain ⟨k, hk, rfl⟩ := hx
        obtain ⟨hk1, rfl⟩ := List.getElem?_eq_some_iff.1 hk
        simp only [List.getElem_range] at hu
        obtain ⟨_, b', off', he, _, h2⟩ := hf j (by simpa using hk1)
        cases he
        exact h2 i u hu
    · obtain ⟨i, hi, rfl⟩ := List.mem_map.1 hx
      exact (hf i (List.mem_range.1 hi)).1

theorem cLn : Tryd.prog.cellsOf 35 = 3 := by kernel_rfl
theorem cIntI : Tryd.prog.cellsOf 3 = 1 := by kernel_rfl
theorem cStrI : Tryd.prog.cellsOf 9 = 1 := by kernel_rfl
theorem line_of {H : Type} {enc : TypeId × Value → H} {W : World} {v : Value} {cs : Array Value} {d : DataW H} {ps : List MemPlace} (h : DataW.Trod enc Tryd.prog W 0 (fun _ => true) true 35 v d ps) (hv : v = .agg cs) (hz : cs.size = Tryd.prog.cellsOf 35) :
    ∃ (x : Ln) (_ : Unit), v = .agg #[.string (B x.name), .string (B x.text), .int .i64 x.num] ∧ LnOk x ∧ True := by
  subst hv
  rw [cLn] at hz
  obtain ⟨c0, c1, c2, rfl⟩ := Joins.array3 hz
  obtain ⟨fuel, hf⟩ := h
  obtain ⟨y0, y1, y2, n, _, _, f0, f1, f2⟩ := Go.Deep.trod_struct3 Tryd.underlying35 hf
  change DataW.trod _ _ _ _ _ _ _ 9 (([c0, c1, c2].drop 0).take (Tryd.prog.cellsOf 9)) = _ at f0
  change DataW.trod _ _ _ _ _ _ _ 9 (([c0, c1, c2].drop 1).take (Tryd.prog.cellsOf 9)) = _ at f1
  change DataW.trod _ _ _ _ _ _ _ 3 (([c0, c1, c2].drop 2).take (Tryd.prog.cellsOf 3)) = _ at f2
  rw [cStrI] at f0 f1
  rw [cIntI] at f2
  obtain ⟨s0, e0, _, w0⟩ := DataW.trod_string Tryd.underlying9 f0
  obtain ⟨s1, e1, _, w1⟩ := DataW.trod_string Tryd.underlying9 f1
  obtain ⟨z2, e2, _, w2⟩ := DataW.trod_int Tryd.underlying3 f2
  simp at e0 e1 e2
  subst e0 e1 e2
  have b2 := wf_b w2
  unfold maxLen at w0 w1
  exact ⟨⟨s0.data.toList, s1.data.toList, z2⟩, (), by simp only [B_of], ⟨by simp only [toList_len]; omega, by simp only [toList_len]; omega, b2.1, b2.2⟩, trivial⟩
end Go.Proofs.YtkbamhecbfocbaaDoor.ini
