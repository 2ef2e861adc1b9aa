/- Laws and contracts on which the statement rests, part C: each text says what it proves, and its conditions. -/
import Derived.Test.YthjcifokmcbaoaaMgB
import Derived.Test.YthjcifokmcbaoaaMgA
import Derived.Deep.Upon
import Derived.StillTailTactics
import Derived.RegionTactic
import Derived.BigRegion
import Derived.Deep.RegionHeld3
import Derived.Deep.QuietTactic
import Derived.BigQuiet
import Derived.Laws.StructEq
import Derived.Laws.Rows
/- The reference's Pairs and package step's may return whether pairs may be. Conditions: texts of at most 2147483647 bytes; for step.may the listed variables hold what the program's text lays. -/
namespace Go.Proofs.Ythjcifokmcbaoaa.st
open Go.ChangeShapes Go.WideShapes Go.ChangeAt Go.RowKit gl

/-- Texts as short as words may be asked. -/
def PrSz (x : Pr) : Prop := x.table.length ≤ 2147483647 ∧ x.key.length ≤ 2147483647 ∧ x.value.length ≤ 2147483647
theorem wordP_no1 {p : Pr} (h : wordL p.table = false) : wordP p = false := by unfold wordP; rw [h]; rfl
theorem wordP_no2 {p : Pr} (h : wordL p.key = false) : wordP p = false := by unfold wordP; rw [h]; simp
theorem wordP_no3 {p : Pr} (h : ¬ p.value.length ≤ 200) : wordP p = false := by unfold wordP; rw [decide_eq_false h]; simp
theorem r7_drew {w0 wp : World} {b o1 o2 : Nat} {x0 x1 x2 y0 y1 y2 : Value} (h : wp.cell? ⟨b, o1, none⟩ = some x0 ∧ wp.cell? ⟨b, o1 + 1, none⟩ = some x1 ∧ wp.cell? ⟨b, o1 + 2, none⟩ = some x2 ∧ wp.cell? ⟨b, o2, none⟩ = some y0 ∧ wp.cell? ⟨b, o2 + 1, none⟩ = some y1 ∧ wp.cell? ⟨b, o2 + 2, none⟩ = some y2 ∧ Hid (Below w0.heap.size w0 wp)) :
    wp.drew.cell? ⟨b, o1, none⟩ = some x0 ∧ wp.drew.cell? ⟨b, o1 + 1, none⟩ = some x1 ∧ wp.drew.cell? ⟨b, o1 + 2, none⟩ = some x2 ∧ wp.drew.cell? ⟨b, o2, none⟩ = some y0 ∧ wp.drew.cell? ⟨b, o2 + 1, none⟩ = some y1 ∧ wp.drew.cell? ⟨b, o2 + 2, none⟩ = some y2 ∧ Hid (Below w0.heap.size w0 wp.drew) := ⟨h.1, h.2.1, h.2.2.1, h.2.2.2.1, h.2.2.2.2.1, h.2.2.2.2.2.1, Lib.hid h.2.2.2.2.2.2.out.drew⟩
theorem r7_call {w0 wp w' : World} {b o1 o2 : Nat} {x0 x1 x2 y0 y1 y2 : Value} (h : wp.cell? ⟨b, o1, none⟩ = some x0 ∧ wp.cell? ⟨b, o1 + 1, none⟩ = some x1 ∧ wp.cell? ⟨b, o1 + 2, none⟩ = some x2 ∧ wp.cell? ⟨b, o2, none⟩ = some y0 ∧ wp.cell? ⟨b, o2 + 1, none⟩ = some y1 ∧ wp.cell? ⟨b, o2 + 2, none⟩ = some y2 ∧ Hid (Below w0.heap.size w0 wp)) (hb : Below wp.heap.size wp w') :
    w'.cell? ⟨b, o1, none⟩ = some x0 ∧ w'.cell? ⟨b, o1 + 1, none⟩ = some x1 ∧ w'.cell? ⟨b, o1 + 2, none⟩ = some x2 ∧ w'.cell? ⟨b, o2, none⟩ = some y0 ∧ w'.cell? ⟨b, o2 + 1, none⟩ = some y1 ∧ w'.cell? ⟨b, o2 + 2, none⟩ = some y2 ∧ Hid (Below w0.heap.size w0 w') :=
  have hlt := World.block_lt_of_cell? _ _ h.1
  ⟨(hb.cell (p := ⟨b, o1, none⟩) hlt).trans h.1, (hb.cell (p := ⟨b, o1 + 1, none⟩) hlt).trans h.2.1, (hb.cell (p := ⟨b, o1 + 2, none⟩) hlt).trans h.2.2.1, (hb.cell (p := ⟨b, o2, none⟩) hlt).trans h.2.2.2.1, (hb.cell (p := ⟨b, o2 + 1, none⟩) hlt).trans h.2.2.2.2.1, (hb.cell (p := ⟨b, o2 + 2, none⟩) hlt).trans h.2.2.2.2.2.1, Lib.hid (h.2.2.2.2.2.2.out.trans (hb.mono h.2.2.2.2.2.2.out.size))⟩
end Go.Proofs.Ythjcifokmcbaoaa.st
/- package step's may returns whether pairs may be. Conditions: texts of at most 2147483647 bytes; the listed variables hold what the program's text lays. -/
namespace Go.Proofs.Ythjcifokmcbaoaa.st
open Go.ChangeShapes Go.WideShapes Go.ChangeAt Go.RowKit gl
open Go.Sort (grow)

section
variable {P : Program} {ops : Array Oper} {Q : Exit → Act → World → Prop} {md : Region.Mode} {S : World → Prop}
theorem hk_skip {i : Nat} {d : Option Tmp} {fuel : Nat} {listed : Array Bool} {a : Act} {w : World} (hd : (ops[i]?).map (fun o => o.dst) = some d)
    (hs : Region.noSelect ops = true) (hf : Region.free md ops listed i = true) (hr : (Region.ready md ops listed).contains i = true)
    (hQ : ∀ c a w, Q (.panic c) (a.put d undef) w → Q (.panic c) a w) (hw : (ops[i]?).map (fun o => Region.wanted o (yielded ops a.tmps)) = some false) (hS : S w)
    (h : wpAnyH P md ops Q S fuel (listed.setIfInBounds i true) (a.put d undef) w) : wpAnyH P md ops Q S (fuel + 1) listed a w := by
  cases ho : ops[i]? with
  | none => rw [ho] at hd; cases hd
  | some o =>
    rw [ho] at hd hw
    obtain rfl := Option.some.inj hd
    exact wpAnyH_take ho hs hf hr hQ (Or.inr ⟨Option.some.inj hw, rfl⟩) hS h
theorem hk_take {i : Nat} {d : Option Tmp} {v : Value} {fuel : Nat} {listed : Array Bool} {a : Act} {w : World} (hd : (ops[i]?).map (fun o => o.dst) = some d)
    (hs : Region.noSelect ops = true) (hf : Region.free md ops listed i = true) (hr : (Region.ready md ops listed).contains i = true)
    (hQ : ∀ c a w, Q (.panic c) (a.put d v) w → Q (.panic c) a w) (hw : (ops[i]?).map (fun o => Region.wanted o (yielded ops a.tmps)) = some true)
    (hy : ∀ w, S w → match ops[i]? with | some o => (execOp a.eval o).run P w = .ok (.value v) w | none => False) (hS : S w)
    (h : wpAnyH P md ops Q S fuel (listed.setIfInBounds i true) (a.put d v) w) : wpAnyH P md ops Q S (fuel + 1) listed a w := by
  cases ho : ops[i]? with
  | none => rw [ho] at hd; cases hd
  | some o =>
    rw [ho] at hd hw
    simp only [ho] at hy
    obtain rfl := Option.some.inj hd
    exact wpAnyH_take ho hs hf hr hQ (Or.inl ⟨Option.some.inj hw, hy⟩) hS h
theorem hk_call {i : Nat} {fuel : Nat} {listed : Array Bool} {a : Act} {w : World} (hr : Region.ready md ops listed = [i])
    (hw : (ops[i]?).map (fun o => Region.wanted o (yielded ops a.tmps)) = some true)
    (h : ∀ K : Act → World → Prop, Shut (∀ a w, S w → (S w → wpAnyH P md ops Q S fuel (listed.setIfInBounds i true) a w) → K a w) → match ops[i]? with | some o => Oper.wp P o a w K Q | none => False) :
    wpAnyH P md ops Q S (fuel + 1) listed a w := by
  cases ho : ops[i]? with
  | none => rw [ho] at hw; cases hw
  | some o =>
    rw [ho] at hw
    simp only [ho] at h
    refine wpAnyH_ready hr (by simp) (AllReadyH.cons ho (fun K hK => ?_) AllReadyH.nil)
    rw [if_pos (Option.some.inj hw)]
    exact h K hK
end
theorem s3_call {w0 wp w' : World} {b : Nat} {x0 x1 x2 : Value} (h : wp.cell? ⟨b, 0, none⟩ = some x0 ∧ wp.cell? ⟨b, 1, none⟩ = some x1 ∧ wp.cell? ⟨b, 2, none⟩ = some x2 ∧ Hid (Below w0.heap.size w0 wp)) (hb : Below wp.heap.size wp w') :
    w'.cell? ⟨b, 0, none⟩ = some x0 ∧ w'.cell? ⟨b, 1, none⟩ = some x1 ∧ w'.cell? ⟨b, 2, none⟩ = some x2 ∧ Hid (Below w0.heap.size w0 w') :=
  have hlt := World.block_lt_of_cell? _ _ h.1
  ⟨(hb.cell (p := ⟨b, 0, none⟩) hlt).trans h.1, (hb.cell (p := ⟨b, 1, none⟩) hlt).trans h.2.1, (hb.cell (p := ⟨b, 2, none⟩) hlt).trans h.2.2.1, Lib.hid (h.2.2.2.out.trans (hb.mono h.2.2.2.out.size))⟩
theorem s3_bel {w0 wp : World} {b : Nat} {x0 x1 x2 : Value} (h : wp.cell? ⟨b, 0, none⟩ = some x0 ∧ wp.cell? ⟨b, 1, none⟩ = some x1 ∧ wp.cell? ⟨b, 2, none⟩ = some x2 ∧ Hid (Below w0.heap.size w0 wp)) : Hid (Below w0.heap.size w0 wp) := h.2.2.2
theorem s6_call {w0 wp w' : World} {b d o : Nat} {x0 x1 x2 y0 y1 y2 : Value} (h : wp.cell? ⟨d, o, none⟩ = some y0 ∧ wp.cell? ⟨d, o + 1, none⟩ = some y1 ∧ wp.cell? ⟨d, o + 2, none⟩ = some y2 ∧ wp.cell? ⟨b, 0, none⟩ = some x0 ∧ wp.cell? ⟨b, 1, none⟩ = some x1 ∧ wp.cell? ⟨b, 2, none⟩ = some x2 ∧ Hid (Below w0.heap.size w0 wp)) (hb : Below wp.heap.size wp w') :
    w'.cell? ⟨d, o, none⟩ = some y0 ∧ w'.cell? ⟨d, o + 1, none⟩ = some y1 ∧ w'.cell? ⟨d, o + 2, none⟩ = some y2 ∧ w'.cell? ⟨b, 0, none⟩ = some x0 ∧ w'.cell? ⟨b, 1, none⟩ = some x1 ∧ w'.cell? ⟨b, 2, none⟩ = some x2 ∧ Hid (Below w0.heap.size w0 w') :=
  have hlt := World.block_lt_of_cell? _ _ h.1
  ⟨(hb.cell (p := ⟨d, o, none⟩) hlt).trans h.1, (hb.cell (p := ⟨d, o + 1, none⟩) hlt).trans h.2.1, (hb.cell (p := ⟨d, o + 2, none⟩) hlt).trans h.2.2.1, s3_call h.2.2.2 hb⟩
theorem s6_bel {w0 wp : World} {b d o : Nat} {x0 x1 x2 y0 y1 y2 : Value} (h : wp.cell? ⟨d, o, none⟩ = some y0 ∧ wp.cell? ⟨d, o + 1, none⟩ = some y1 ∧ wp.cell? ⟨d, o + 2, none⟩ = some y2 ∧ wp.cell? ⟨b, 0, none⟩ = some x0 ∧ wp.cell? ⟨b, 1, none⟩ = some x1 ∧ wp.cell? ⟨b, 2, none⟩ = some x2 ∧ Hid (Below w0.heap.size w0 wp)) : Hid (Below w0.heap.size w0 wp) := h.2.2.2.2.2.2
theorem grow_bel' {w w' : World} (h : ∃ q os', w' = grow (w.drewN q) os') : Below w.heap.size w w' := by
  obtain ⟨q, os', rfl⟩ := h
  exact ⟨rfl, rfl, rfl, by simp [grow], fun j hj => by simp only [grow]; exact Array.getElem?_append_left hj⟩
end Go.Proofs.Ythjcifokmcbaoaa.st
/- package step's place: where the pair of a table and a key lies, or -1. -/
namespace Go.Proofs.Ythjcifokmcbaoaa.st
open Go.ChangeShapes Go.WideShapes Go.ChangeAt Go.RowKit gl

end Go.Proofs.Ythjcifokmcbaoaa.st
/- slices.Clone of pairs, and whether a table has a pair (package step's tabled$1). -/
namespace Go.Proofs.Ythjcifokmcbaoaa.st
open Go.ChangeShapes Go.WideShapes Go.ChangeAt Go.RowKit gl

def inTab (t : List UInt8) (p : Pr) : Bool := decide (p.table = t)
end Go.Proofs.Ythjcifokmcbaoaa.st
/- A list of pairs that lies in a block of its own, and stores into it; package step's tabled. Conditions: at most 4294967295 pairs. -/
namespace Go.Proofs.Ythjcifokmcbaoaa.st
open Go.ChangeShapes Go.WideShapes Go.ChangeAt Go.RowKit gl ls

theorem flat_inv {l : List Pr} {q : Nat} {v : Value} (h : (prsC l)[q]? = some v) : ∃ y, l[q / 3]? = some y ∧ (prC y)[q % 3]? = some v := by
  have hq := (List.getElem?_eq_some_iff.1 h).1
  rw [rw.flat_len prC_len] at hq
  have h1 : q / 3 < l.length := by omega
  have h2 : q % 3 < (prC l[q / 3]).length := by rw [prC_len]; omega
  have h3 := rw.flat_at prC_len l (q / 3) _ (q % 3) _ (List.getElem?_eq_getElem h1) (List.getElem?_eq_getElem h2)
  rw [show q / 3 * 3 + q % 3 = q by omega, h] at h3
  exact ⟨_, List.getElem?_eq_getElem h1, by rw [List.getElem?_eq_getElem h2]; exact h3.symm⟩
def spA (s : Sp) : Value := .agg #[.int .i64 s.kind, .string (B s.table), .string (B s.key), .string (B s.to), .string (B s.text)]
end Go.Proofs.Ythjcifokmcbaoaa.st
/- package step's tabled: the pairs of a table put under another. Conditions: the list lies in a block of its own; at most 4294967295 pairs. -/
namespace Go.Proofs.Ythjcifokmcbaoaa.st
open Go.ChangeShapes Go.WideShapes Go.ChangeAt Go.RowKit gl ls

def tabTo (t u : List UInt8) (l : List Pr) (n : Nat) : List Pr := (l.take n).map (tabF t u) ++ l.drop n
theorem tabTo_zero (t u : List UInt8) (l : List Pr) : tabTo t u l 0 = l := by simp [tabTo]
theorem tabTo_end (t u : List UInt8) (l : List Pr) : tabTo t u l l.length = l.map (tabF t u) := by simp [tabTo]
theorem tabTo_len (t u : List UInt8) (l : List Pr) (n : Nat) : (tabTo t u l n).length = l.length := by simp [tabTo]; omega
theorem tabTo_at {t u : List UInt8} {l : List Pr} {n : Nat} {x : Pr} (hx : l[n]? = some x) : (tabTo t u l n)[n]? = some x := by
  have hn := lt_of_at hx
  unfold tabTo
  rw [List.getElem?_append_right (by simp; omega)]
  simp only [List.length_map, List.length_take, Nat.min_eq_left (Nat.le_of_lt hn), Nat.sub_self]
  rw [List.getElem?_drop]
  simpa using hx
theorem tabTo_succ {t u : List UInt8} {l : List Pr} {n : Nat} {x : Pr} (hx : l[n]? = some x) : tabTo t u l (n + 1) = (tabTo t u l n).set n (tabF t u x) := by
  have hn := lt_of_at hx
  obtain ⟨_, hx'⟩ := List.getElem?_eq_some_iff.1 hx
  unfold tabTo
  rw [List.set_append_right _ _ (by simp; omega)]
  simp only [List.length_map, List.length_take, Nat.min_eq_left (Nat.le_of_lt hn), Nat.sub_self]
  rw [List.take_add_one, hx, List.drop_eq_getElem_cons hn, hx']
  simp
theorem tabF_no {t u : List UInt8} {x : Pr} (h : x.table ≠ t) : tabF t u x = x := by unfold tabF; rw [if_neg h]
theorem tabF_yes {t u : List UInt8} {x : Pr} (h : x.table = t) : tabF t u x = { x with table := u } := by unfold tabF; rw [if_pos h]
theorem set_same {l : List Pr} {n : Nat} {x : Pr} (h : l[n]? = some x) : l.set n x = l := by
  obtain ⟨hn, hx⟩ := List.getElem?_eq_some_iff.1 h
  rw [← hx]; exact List.set_getElem_self hn
theorem cell_then {w w' : World} {a : Addr} {v : Value} (h : w.cell? a = some v) (hb : Below w.heap.size w w') : w'.cell? a = some v := (hb.cell (p := a) (World.block_lt_of_cell? _ _ h)).trans h
end Go.Proofs.Ythjcifokmcbaoaa.st
/- package step's made$1 (which pairs go) and the library's clear and DeleteFunc for pairs in a block of their own. -/
namespace Go.Proofs.Ythjcifokmcbaoaa.st
open Go.ChangeShapes Go.WideShapes Go.ChangeAt Go.RowKit gl ls

theorem flat_take {l : List Pr} {k : Nat} {i : Nat} {v : Value} (h : (prsC (l.take k))[i]? = some v) : (prsC l)[i]? = some v := by
  have : prsC l = prsC (l.take k) ++ prsC (l.drop k) := by rw [← rw.flat_append, List.take_append_drop]
  rw [this, List.getElem?_append_left (List.getElem?_eq_some_iff.1 h).1]
  exact h
end Go.Proofs.Ythjcifokmcbaoaa.st
/- slices.DeleteFunc of the pairs that go, in a block of their own. -/
namespace Go.Proofs.Ythjcifokmcbaoaa.st
open Go.ChangeShapes Go.WideShapes Go.ChangeAt Go.RowKit gl ls

/-- How far DeleteFunc is: i are kept of the first j. -/
structure Del (q : Pr → Bool) (l cur : List Pr) (i j : Nat) : Prop where
  len : cur.length = l.length
  lt : i < j
  le : j ≤ l.length
  head : cur.take i = (l.take j).filter q
  rest : ∀ j', j ≤ j' → cur[j']? = l[j']?
theorem Del.begin {q : Pr → Bool} {l : List Pr} {i : Nat} {x : Pr} (hx : l[i]? = some x) (hq : q x = false) (h : ∀ (j : Nat) (y : Pr), j < i → l[j]? = some y → q y = true) : Del q l l i (i + 1) := by
  have hi := lt_of_at hx
  refine ⟨rfl, by omega, by omega, ?_, fun _ _ => rfl⟩
  rw [List.take_add_one, hx, List.filter_append]
  have : (l.take i).filter q = l.take i := by
    rw [List.filter_eq_self]
    intro a ha
    obtain ⟨j, hj, rfl⟩ := List.mem_iff_getElem.1 ha
    rw [List.length_take] at hj
    rw [List.getElem_take]
    exact h j _ (by omega) (List.getElem?_eq_getElem (by omega))
  rw [this]
  simp [hq]
theorem Del.skip {q : Pr → Bool} {l cur : List Pr} {i j : Nat} {x : Pr} (h : Del q l cur i j) (hx : l[j]? = some x) (hq : q x = false) : Del q l cur i (j + 1) := by
  have hj := lt_of_at hx
  refine ⟨h.len, by have := h.lt; omega, by omega, ?_, fun j' h' => h.rest j' (by omega)⟩
  rw [List.take_add_one, hx, List.filter_append, ← h.head]
  simp [hq]
theorem Del.keep {q : Pr → Bool} {l cur : List Pr} {i j : Nat} {x : Pr} (h : Del q l cur i j) (hx : l[j]? = some x) (hq : q x = true) : Del q l (cur.set i x) (i + 1) (j + 1) := by
  have hj := lt_of_at hx
  have hi := h.lt
  refine ⟨by rw [List.length_set]; exact h.len, by omega, by omega, ?_, fun j' h' => ?_⟩
  · have hil : i < cur.length := by rw [h.len]; omega
    have e1 : l.take (j + 1) = l.take j ++ [x] := by rw [List.take_add_one, hx]; rfl
    have e2 : (cur.set i x).take (i + 1) = cur.take i ++ [x] := by
      rw [List.take_add_one, List.getElem?_set_self hil, List.take_set, List.set_eq_of_length_le (by rw [List.length_take]; omega)]
      rfl
    rw [e1, e2, List.filter_append, ← h.head]
    simp [hq]
  · rw [List.getElem?_set_ne (by omega)]
    exact h.rest j' (by omega)
theorem Del.done {q : Pr → Bool} {l cur : List Pr} {i : Nat} (h : Del q l cur i l.length) : cur.take i = l.filter q ∧ (l.filter q).length = i := by
  have h1 := h.head
  rw [List.take_length] at h1
  refine ⟨h1, ?_⟩
  rw [← h1, List.length_take, h.len]
  have := h.lt
  omega
theorem Del.at {q : Pr → Bool} {l cur : List Pr} {i j : Nat} {x : Pr} (h : Del q l cur i j) (hx : l[j]? = some x) : cur[j]? = some x := by rw [h.rest j (Nat.le_refl _)]; exact hx
end Go.Proofs.Ythjcifokmcbaoaa.st
/- A law on memory for any program: an append of one struct that was just laid, to a row of such structs that the call owns. No conditions beside those stated. -/
namespace Go.Proofs.Ythjcifokmcbaoaa
open Go.RowKit
section
variable {P : Program}
/-- 'append(out, x)', x a struct of size cells. -/
theorem wpList_append_k {ops : Array Oper} {rest : List Oper} {o : Oper} {a : Act} {w : World} {Q : Exit → Act → World → Prop} (hgd : o.guard = none) (s x : Operand) (t : TypeId)
    (ho : o.op = .call { callee := .builtin .append, args := #[s, x], argTypes := #[t, t] })
    (e : TypeId) (i : TypeInfo) (z : Value) (size bytes : Nat) (ht : P.underlying t = some (.slice e)) (hi : P.info? e = some i) (hz : i.zero = some z)
    (hsize : i.size = size) (hby : i.bytes = bytes) (hzs : z.cells.size = size) (hsz : 0 < size) (cs : Array Value) (hx : a.eval x = .slice (some ⟨w.heap.size, 0, none⟩) 1 1) (hl : cs.size = size)
    (base : Nat) (v : Value) (n : Nat) (xs : List Value) (hs : a.eval s = v) (hown : w.ownsRow base e size v n xs)
    (h1 : ∀ u ∈ cs.toList, u.oneCell' = true) (h63 : n + 1 ≤ 9223372036854775807) (hbytes : (n + 1) * bytes ≤ 140737488355328) (hbase : base ≤ w.heap.size)
    (h : ∀ g cap w', w'.ownsRow base e size (.slice (some ⟨g, 0, none⟩) (n + 1) cap) (n + 1) (xs ++ cs.toList) → w.grownBy w' v.ownBlock → (v.ownBlock = some g ∨ w.heap.size ≤ g) → w.heap.size < w'.heap.size → g < w'.heap.size →
      wpList P ops Q rest (a.put o.dst (.slice (some ⟨g, 0, none⟩) (n + 1) cap)) w') :
    wpList P ops Q (o :: rest) a (w.alloc (.cells cs e)) := by
  refine wpList_append_lies (w.alloc (.cells cs e)) hgd s x t ho base e i z size bytes ht hi hz hsize hby hzs hsz v n xs hs (hown.alloc _) ⟨w.heap.size, 0, none⟩ 1 1 cs.toList hx (by simpa using hl)
    (World.news_of_block (heap_alloc_new w _)) h1 (by omega) (by unfold maxLen; omega) hbytes (by simp; omega) (w.heap.size + 1) (by simp) fun g cap w' h2 h3 h4 h5 => ?_
  refine h g cap w' h2 ⟨h3.os, h3.tape, h3.output, by have := h3.size; simp at this; omega, fun k hk hne => (h3.block k (by simp; omega) hne).trans (Below.heap_alloc w _ k hk)⟩ ?_ (by have := h3.size; simp at this; omega) h5
  rcases h4 with h4 | h4
  · exact .inl h4
  · exact .inr (by omega)
/-- The same at a step of a region that draws its order. -/
theorem step_append_k {ops : Array Oper} {o : Oper} {a : Act} {w : World} {K : Act → World → Prop} {Q : Exit → Act → World → Prop} {E : Prop} (hgd : o.guard = none) (s x : Operand) (t : TypeId)
    (ho : o.op = .call { callee := .builtin .append, args := #[s, x], argTypes := #[t, t] })
    (e : TypeId) (i : TypeInfo) (z : Value) (size bytes : Nat) (ht : P.underlying t = some (.slice e)) (hi : P.info? e = some i) (hz : i.zero = some z)
    (hsize : i.size = size) (hby : i.bytes = bytes) (hzs : z.cells.size = size) (hsz : 0 < size) (cs : Array Value) (hx : a.eval x = .slice (some ⟨w.heap.size, 0, none⟩) 1 1) (hl : cs.size = size)
    (base : Nat) (v : Value) (n : Nat) (xs : List Value) (hs : a.eval s = v) (hown : w.ownsRow base e size v n xs)
    (h1 : ∀ u ∈ cs.toList, u.oneCell' = true) (h63 : n + 1 ≤ 9223372036854775807) (hbytes : (n + 1) * bytes ≤ 140737488355328) (hbase : base ≤ w.heap.size)
    (h : ∀ g cap w', w'.ownsRow base e size (.slice (some ⟨g, 0, none⟩) (n + 1) cap) (n + 1) (xs ++ cs.toList) → w.grownBy w' v.ownBlock → (v.ownBlock = some g ∨ w.heap.size ≤ g) → w.heap.size < w'.heap.size → g < w'.heap.size →
      K (a.put o.dst (.slice (some ⟨g, 0, none⟩) (n + 1) cap)) w') :
    if Region.wanted o (yielded ops a.tmps) = true then Oper.wp P o a (w.alloc (.cells cs e)).drew K Q else E := by
  refine step_append_lies (w.alloc (.cells cs e)).drew hgd s x t ho base e i z size bytes ht hi hz hsize hby hzs hsz v n xs hs (hown.alloc _) ⟨w.heap.size, 0, none⟩ 1 1 cs.toList hx (by simpa using hl)
    (World.news_of_block (heap_alloc_new w _)) h1 (by omega) (by unfold maxLen; omega) hbytes (by simp; omega) (w.heap.size + 1) (by simp) fun g cap w' h2 h3 h4 h5 => ?_
  refine h g cap w' h2 ⟨h3.os, h3.tape, h3.output, by have := h3.size; simp at this; omega, fun k hk hne => (h3.block k (by simp; omega) hne).trans (Below.heap_alloc w _ k hk)⟩ ?_ (by have := h3.size; simp at this; omega) h5
  rcases h4 with h4 | h4
  · exact .inl h4
  · exact .inr (by omega)
/-- The same, behind a call. -/
theorem step_append_k0 {ops : Array Oper} {o : Oper} {a : Act} {w : World} {K : Act → World → Prop} {Q : Exit → Act → World → Prop} {E : Prop} (hgd : o.guard = none) (s x : Operand) (t : TypeId)
    (ho : o.op = .call { callee := .builtin .append, args := #[s, x], argTypes := #[t, t] })
    (e : TypeId) (i : TypeInfo) (z : Value) (size bytes : Nat) (ht : P.underlying t = some (.slice e)) (hi : P.info? e = some i) (hz : i.zero = some z)
    (hsize : i.size = size) (hby : i.bytes = bytes) (hzs : z.cells.size = size) (hsz : 0 < size) (cs : Array Value) (hx : a.eval x = .slice (some ⟨w.heap.size, 0, none⟩) 1 1) (hl : cs.size = size)
    (base : Nat) (v : Value) (n : Nat) (xs : List Value) (hs : a.eval s = v) (hown : w.ownsRow base e size v n xs)
    (h1 : ∀ u ∈ cs.toList, u.oneCell' = true) (h63 : n + 1 ≤ 9223372036854775807) (hbytes : (n + 1) * bytes ≤ 140737488355328) (hbase : base ≤ w.heap.size)
    (h : ∀ g cap w', w'.ownsRow base e size (.slice (some ⟨g, 0, none⟩) (n + 1) cap) (n + 1) (xs ++ cs.toList) → w.grownBy w' v.ownBlock → (v.ownBlock = some g ∨ w.heap.size ≤ g) → w.heap.size < w'.heap.size → g < w'.heap.size →
      K (a.put o.dst (.slice (some ⟨g, 0, none⟩) (n + 1) cap)) w') :
    if Region.wanted o (yielded ops a.tmps) = true then Oper.wp P o a (w.alloc (.cells cs e)) K Q else E := by
  refine step_append_lies (w.alloc (.cells cs e)) hgd s x t ho base e i z size bytes ht hi hz hsize hby hzs hsz v n xs hs (hown.alloc _) ⟨w.heap.size, 0, none⟩ 1 1 cs.toList hx (by simpa using hl)
    (World.news_of_block (heap_alloc_new w _)) h1 (by omega) (by unfold maxLen; omega) hbytes (by simp; omega) (w.heap.size + 1) (by simp) fun g cap w' h2 h3 h4 h5 => ?_
  refine h g cap w' h2 ⟨h3.os, h3.tape, h3.output, by have := h3.size; simp at this; omega, fun k hk hne => (h3.block k (by simp; omega) hne).trans (Below.heap_alloc w _ k hk)⟩ ?_ (by have := h3.size; simp at this; omega) h5
  rcases h4 with h4 | h4
  · exact .inl h4
  · exact .inr (by omega)
end
end Go.Proofs.Ythjcifokmcbaoaa
/- slices.Clone of pairs gives a list of its own; package step's made, kind 1 (put). -/
namespace Go.Proofs.Ythjcifokmcbaoaa.st
open Go.ChangeShapes Go.WideShapes Go.ChangeAt Go.RowKit gl ls

theorem box1 {s : Sp} {w wA : World} (hA : wA = w.alloc (.cells #[.int .i64 s.kind, .string (B s.table), .string (B s.key), .string (B s.to), .string (B s.text)] 35)) :
    Below w.heap.size w wA ∧ wA.cell? ⟨w.heap.size, 0, none⟩ = some (.int .i64 s.kind) ∧ wA.cell? ⟨w.heap.size, 1, none⟩ = some (.string (B s.table)) ∧ wA.cell? ⟨w.heap.size, 2, none⟩ = some (.string (B s.key)) ∧ wA.cell? ⟨w.heap.size, 3, none⟩ = some (.string (B s.to)) ∧ wA.cell? ⟨w.heap.size, 4, none⟩ = some (.string (B s.text)) := by
  have h2 := heap_alloc_new w (.cells #[.int .i64 s.kind, .string (B s.table), .string (B s.key), .string (B s.to), .string (B s.text)] 35)
  rw [← hA] at h2
  exact ⟨by rw [hA]; exact (Below.refl _ _).alloc (Nat.le_refl _) _, cell_in (o := 0) h2, cell_in (o := 1) h2, cell_in (o := 2) h2, cell_in (o := 3) h2, cell_in (o := 4) h2⟩
end Go.Proofs.Ythjcifokmcbaoaa.st
/- package step's made, kinds 2 (drop) and 4 (table renamed). -/
namespace Go.Proofs.Ythjcifokmcbaoaa.st
open Go.ChangeShapes Go.WideShapes Go.ChangeAt Go.RowKit gl ls

end Go.Proofs.Ythjcifokmcbaoaa.st
/- package step's made, kinds 4 (a table renamed), 3 and 6 (a key renamed, a pair copied). -/
namespace Go.Proofs.Ythjcifokmcbaoaa.st
open Go.ChangeShapes Go.WideShapes Go.ChangeAt Go.RowKit gl ls

theorem made_four {l : List Pr} {s : Sp} (hk : s.kind = 4) : madeL l s = (if l.any (inTab s.table) = true then (if l.any (inTab s.to) = true then [] else l.map (tabF s.table s.to)) else l, if l.any (inTab s.table) = true then (if l.any (inTab s.to) = true then 161 else 0) else 0) := by
  have e : ∀ t, (fun p : Pr => decide (p.table = t)) = inTab t := fun t => rfl
  unfold madeL
  rw [if_neg (by omega), if_neg (by omega), if_neg (by omega), if_pos hk, e, e]
  cases l.any (inTab s.table) <;> cases l.any (inTab s.to) <;> rfl
end Go.Proofs.Ythjcifokmcbaoaa.st
/- package step's made, kind 3 (a key renamed). -/
namespace Go.Proofs.Ythjcifokmcbaoaa.st
open Go.ChangeShapes Go.WideShapes Go.ChangeAt Go.RowKit gl ls

theorem idx_at {l : List Pr} {t k : List UInt8} {i : Nat} (h : idxL l t k = some i) : ∃ x, l[i]? = some x := by
  unfold idxL at h
  obtain ⟨hi, _⟩ := List.findIdx?_eq_some_iff_getElem.1 h
  exact ⟨_, List.getElem?_eq_getElem hi⟩
end Go.Proofs.Ythjcifokmcbaoaa.st
/- package step's made, kind 6 (a pair copied). -/
namespace Go.Proofs.Ythjcifokmcbaoaa.st
open Go.ChangeShapes Go.WideShapes Go.ChangeAt Go.RowKit gl ls

end Go.Proofs.Ythjcifokmcbaoaa.st
/- What package step's told returns: a function value that does what its name says. -/
namespace Go.Proofs.Ythjcifokmcbaoaa.st
open Go.ChangeShapes Go.WideShapes Go.ChangeAt Go.RowKit gl ls

end Go.Proofs.Ythjcifokmcbaoaa.st
/- package step's made, kind 5 (each value of a table through a function). -/
namespace Go.Proofs.Ythjcifokmcbaoaa.st
open Go.ChangeShapes Go.WideShapes Go.ChangeAt Go.RowKit gl ls

/-- How far made is with the values. -/
structure Maps (t f : List UInt8) (l cur : List Pr) (n : Nat) : Prop where
  len : cur.length = l.length
  rest : ∀ j, n ≤ j → cur[j]? = l[j]?
  eq : mapF t f l = (mapF t f (l.drop n)).map (fun q => cur.take n ++ q)
theorem Maps.begin (t f : List UInt8) (l : List Pr) : Maps t f l l 0 := ⟨rfl, fun _ _ => rfl, by simp⟩
theorem drop_of {l : List Pr} {n : Nat} {x : Pr} (h : l[n]? = some x) : l.drop n = x :: l.drop (n + 1) := by
  obtain ⟨hn, rfl⟩ := List.getElem?_eq_some_iff.1 h
  exact List.drop_eq_getElem_cons hn
theorem Maps.skip {t f : List UInt8} {l cur : List Pr} {n : Nat} {x : Pr} (h : Maps t f l cur n) (hx : l[n]? = some x) (ht : x.table ≠ t) : Maps t f l cur (n + 1) := by
  refine ⟨h.len, fun j hj => h.rest j (by omega), ?_⟩
  rw [h.eq, drop_of hx, mapF, if_neg ht, Option.map_map]
  congr 1
  funext q
  have : cur.take (n + 1) = cur.take n ++ [x] := by rw [List.take_add_one, h.rest n (Nat.le_refl _), hx]; rfl
  simp [this]
theorem Maps.bad {t f : List UInt8} {l cur : List Pr} {n : Nat} {x : Pr} (h : Maps t f l cur n) (hx : l[n]? = some x) (ht : x.table = t) (hv : funL f x.value = none) : mapF t f l = none := by
  rw [h.eq, drop_of hx, mapF, if_pos ht, hv]
  rfl
theorem Maps.put {t f : List UInt8} {l cur : List Pr} {n : Nat} {x : Pr} {v : List UInt8} (h : Maps t f l cur n) (hx : l[n]? = some x) (ht : x.table = t) (hv : funL f x.value = some v) : Maps t f l (cur.set n { x with value := v }) (n + 1) := by
  have hn : n < cur.length := by rw [h.len]; exact lt_of_at hx
  refine ⟨by rw [List.length_set]; exact h.len, fun j hj => by rw [List.getElem?_set_ne (by omega)]; exact h.rest j (by omega), ?_⟩
  rw [h.eq, drop_of hx, mapF, if_pos ht, hv]
  simp only [Option.map_map]
  congr 1
  funext q
  have : (cur.set n { x with value := v }).take (n + 1) = cur.take n ++ [{ x with value := v }] := by
    rw [List.take_add_one, List.getElem?_set_self hn, List.take_set, List.set_eq_of_length_le (by rw [List.length_take]; omega)]
    rfl
  simp [this]
theorem Maps.done {t f : List UInt8} {l cur : List Pr} (h : Maps t f l cur l.length) : mapF t f l = some cur := by
  rw [h.eq, List.drop_length]
  simp only [mapF, Option.map_some, List.append_nil]
  rw [← h.len, List.take_length]
theorem Maps.at {t f : List UInt8} {l cur : List Pr} {n : Nat} {x : Pr} (h : Maps t f l cur n) (hx : l[n]? = some x) : cur[n]? = some x := by rw [h.rest n (Nat.le_refl _)]; exact hx
theorem made_five {l : List Pr} {s : Sp} (hk : s.kind = 5) : madeL l s = match mapF s.table s.text l with | none => ([], 162) | some q => (q, 0) := by
  unfold madeL
  rw [if_neg (by omega), if_neg (by omega), if_neg (by omega), if_neg (by omega)]
  cases mapF s.table s.text l <;> rfl
end Go.Proofs.Ythjcifokmcbaoaa.st
/- package step's made, kind 5, of a list in a block of its own. -/
namespace Go.Proofs.Ythjcifokmcbaoaa.st
open Go.ChangeShapes Go.WideShapes Go.ChangeAt Go.RowKit gl ls

end Go.Proofs.Ythjcifokmcbaoaa.st
/- package step's made returns what madeL says, of a list that the call owns. Conditions: at most 1000 pairs, texts of at most 2147483647 bytes, a step that is right. -/
namespace Go.Proofs.Ythjcifokmcbaoaa.st
open Go.ChangeShapes Go.WideShapes Go.ChangeAt Go.RowKit gl ls

end Go.Proofs.Ythjcifokmcbaoaa.st
/- slices.Clip of pairs. -/
namespace Go.Proofs.Ythjcifokmcbaoaa.st
open Go.ChangeShapes Go.WideShapes Go.ChangeAt Go.RowKit gl ls

end Go.Proofs.Ythjcifokmcbaoaa.st
/- The library's sort of pairs in a block of their own. -/
namespace Go.Proofs.Ythjcifokmcbaoaa.st
open Go.ChangeShapes Go.WideShapes Go.ChangeAt Go.RowKit gl ls Go.Lib
open Go.Sort (SWO PermIn SortedIn HoldsK flatK get_flatK size_flatK)

theorem flatK_at {l : List Pr} {j : Nat} {v : Value} (h : (prsC l)[j]? = some v) : j < l.toArray.size * 3 ∧ (flatK prC 3 l.toArray)[j]! = v := by
  have hj := (List.getElem?_eq_some_iff.1 h).1
  rw [rw.flat_len prC_len] at hj
  have hj' : j < l.toArray.size * 3 := by simpa using hj
  refine ⟨hj', ?_⟩
  obtain ⟨y, hy, hv⟩ := flat_inv h
  rw [get_flatK prC 3 _ j hj']
  obtain ⟨hq, rfl⟩ := List.getElem?_eq_some_iff.1 hy
  rw [getElem!_pos l.toArray (j / 3) (by simpa using hq)]
  simp only [List.getElem_toArray]
  obtain ⟨hr, rfl⟩ := List.getElem?_eq_some_iff.1 hv
  rw [getElem!_pos _ (j % 3) hr]
end Go.Proofs.Ythjcifokmcbaoaa.st
/- The library's sort of no pairs. -/
namespace Go.Proofs.Ythjcifokmcbaoaa.st
open Go.ChangeShapes Go.WideShapes Go.ChangeAt Go.RowKit gl ls

end Go.Proofs.Ythjcifokmcbaoaa.st
/- package step's Apply where the pairs may not be. -/
namespace Go.Proofs.Ythjcifokmcbaoaa.st
open Go.ChangeShapes Go.WideShapes Go.ChangeAt Go.RowKit gl ls

/-- Texts as short as step.Right may be asked. -/
def SpSz (s : Sp) : Prop := s.table.length ≤ 2147483647 ∧ s.key.length ≤ 2147483647 ∧ s.to.length ≤ 2147483647 ∧ s.text.length ≤ 2147483647
end Go.Proofs.Ythjcifokmcbaoaa.st
/- package step's Apply where the step is not right. -/
namespace Go.Proofs.Ythjcifokmcbaoaa.st
open Go.ChangeShapes Go.WideShapes Go.ChangeAt Go.RowKit gl ls

/-- The step's box, whole. -/
theorem box_sp {s : Sp} {w wA : World} (hA : wA = w.alloc (.cells #[.int .i64 s.kind, .string (B s.table), .string (B s.key), .string (B s.to), .string (B s.text)] 35)) : wA.heap[w.heap.size]? = some (.cells #[.int .i64 s.kind, .string (B s.table), .string (B s.key), .string (B s.to), .string (B s.text)] 35 (0, 0)) := by
  rw [hA]; exact heap_alloc_new w _
end Go.Proofs.Ythjcifokmcbaoaa.st
/- package step's Apply where the pairs and the step are right. -/
namespace Go.Proofs.Ythjcifokmcbaoaa.st
open Go.ChangeShapes Go.WideShapes Go.ChangeAt Go.RowKit gl ls

theorem s5_drew {w0 wp : World} {b : Nat} {x0 x1 x2 x3 x4 : Value} (h : wp.cell? ⟨b, 0, none⟩ = some x0 ∧ wp.cell? ⟨b, 1, none⟩ = some x1 ∧ wp.cell? ⟨b, 2, none⟩ = some x2 ∧ wp.cell? ⟨b, 3, none⟩ = some x3 ∧ wp.cell? ⟨b, 4, none⟩ = some x4 ∧ Hid (Below w0.heap.size w0 wp)) :
    wp.drew.cell? ⟨b, 0, none⟩ = some x0 ∧ wp.drew.cell? ⟨b, 1, none⟩ = some x1 ∧ wp.drew.cell? ⟨b, 2, none⟩ = some x2 ∧ wp.drew.cell? ⟨b, 3, none⟩ = some x3 ∧ wp.drew.cell? ⟨b, 4, none⟩ = some x4 ∧ Hid (Below w0.heap.size w0 wp.drew) := ⟨h.1, h.2.1, h.2.2.1, h.2.2.2.1, h.2.2.2.2.1, Lib.hid h.2.2.2.2.2.out.drew⟩
theorem s5_call {w0 wp w' : World} {b M : Nat} {x0 x1 x2 x3 x4 : Value} (h : wp.cell? ⟨b, 0, none⟩ = some x0 ∧ wp.cell? ⟨b, 1, none⟩ = some x1 ∧ wp.cell? ⟨b, 2, none⟩ = some x2 ∧ wp.cell? ⟨b, 3, none⟩ = some x3 ∧ wp.cell? ⟨b, 4, none⟩ = some x4 ∧ Hid (Below w0.heap.size w0 wp)) (hb : Below M wp w') (hM : w0.heap.size ≤ M) (hbM : b < M) :
    w'.cell? ⟨b, 0, none⟩ = some x0 ∧ w'.cell? ⟨b, 1, none⟩ = some x1 ∧ w'.cell? ⟨b, 2, none⟩ = some x2 ∧ w'.cell? ⟨b, 3, none⟩ = some x3 ∧ w'.cell? ⟨b, 4, none⟩ = some x4 ∧ Hid (Below w0.heap.size w0 w') :=
  ⟨(hb.cell (p := ⟨b, 0, none⟩) hbM).trans h.1, (hb.cell (p := ⟨b, 1, none⟩) hbM).trans h.2.1, (hb.cell (p := ⟨b, 2, none⟩) hbM).trans h.2.2.1, (hb.cell (p := ⟨b, 3, none⟩) hbM).trans h.2.2.2.1, (hb.cell (p := ⟨b, 4, none⟩) hbM).trans h.2.2.2.2.1, Lib.hid (h.2.2.2.2.2.out.trans (hb.mono hM))⟩
end Go.Proofs.Ythjcifokmcbaoaa.st
/- A law on memory for any program: the elements of any slice, none too, appended to a row that the call owns. No conditions beside those stated. -/
namespace Go.Proofs.Ythjcifokmcbaoaa
open Go.RowKit
/-- m elements of the cells news, readable at a slice value. -/
def SrcV (w : World) (y : Value) (m : Nat) (news : List Value) : Prop :=
  (m = 0 ∧ news = [] ∧ ∃ q c, y = .slice q 0 c) ∨ (0 < m ∧ ∃ ad c, y = .slice (some ad) m c ∧ ∀ j u, news[j]? = some u → w.cell? (ad.add j) = some u)
section
variable {P : Program}
theorem run_append_any (w : World) (t ty : TypeId) (base : Nat) (e : TypeId) (i : TypeInfo) (z : Value) (size bytes : Nat) (ht : P.underlying t = some (.slice e)) (hi : P.info? e = some i) (hz : i.zero = some z)
    (hsize : i.size = size) (hby : i.bytes = bytes) (hzs : z.cells.size = size) (hsz : 0 < size)
    (v : Value) (n : Nat) (xs : List Value) (hown : w.ownsRow base e size v n xs) (y : Value) (m : Nat) (news : List Value) (hy : SrcV w y m news) (hl : news.length = m * size) (h1 : ∀ u ∈ news, u.oneCell' = true)
    (h63 : n + m ≤ maxLen) (hbytes : (n + m) * bytes ≤ 140737488355328) (hbase : base ≤ w.heap.size) :
    ∃ p cap w', (Builtin.append_ #[t, t] ty #[v, y]).run P w = .ok (.slice p (n + m) cap) w' ∧
      w'.ownsRow base e size (.slice p (n + m) cap) (n + m) (xs ++ news) ∧ w.grownBy w' v.ownBlock := by
  rcases hy with ⟨rfl, rfl, q, c, rfl⟩ | ⟨hm, ad, c, rfl, hc⟩
  · have hf : ∃ p cap, v = .slice p n cap ∧ n ≤ cap := by
      rcases hown.2 with ⟨rfl, h0⟩ | ⟨g, cap, cur, rfl, _, _, hn, _⟩
      · exact ⟨none, 0, by rw [h0], by omega⟩
      · exact ⟨_, _, rfl, hn⟩
    obtain ⟨p, cap, rfl, hle⟩ := hf
    have hsrc : Src P i.size t (.slice q 0 c) 0 [] w := by
      cases q with
      | none => exact Src.ofNil w ht c
      | some ad => exact Src.ofSlice w ht ad 0 c [] (by simp) (fun j u h => by simp at h) (fun u h => by simp at h)
    refine ⟨p, cap, w, run_append_nothing w t t ty e i ht hi p n cap hle _ hsrc, by simpa using hown, ?_⟩
    exact ⟨rfl, rfl, rfl, Nat.le_refl _, fun _ _ _ => rfl⟩
  · obtain ⟨g, cap, w', hr, h2, h3, _, _⟩ := run_append_lies (P := P) w t ty base e i z size bytes ht hi hz hsize hby hzs hsz v n xs hown ad m c news hl hc h1 hm h63 hbytes hbase _ rfl
    exact ⟨_, cap, w', hr, h2, h3⟩
theorem wpList_append_any {ops : Array Oper} {rest : List Oper} {o : Oper} {a : Act} {w : World} {Q : Exit → Act → World → Prop} (hgd : o.guard = none) (s x : Operand) (t : TypeId)
    (ho : o.op = .call { callee := .builtin .append, args := #[s, x], argTypes := #[t, t] })
    (e : TypeId) (i : TypeInfo) (z : Value) (size bytes : Nat) (ht : P.underlying t = some (.slice e)) (hi : P.info? e = some i) (hz : i.zero = some z)
    (hsize : i.size = size) (hby : i.bytes = bytes) (hzs : z.cells.size = size) (hsz : 0 < size)
    (base : Nat) (v : Value) (n : Nat) (xs : List Value) (hs : a.eval s = v) (hown : w.ownsRow base e size v n xs) (y : Value) (m : Nat) (news : List Value) (hx : a.eval x = y) (hy : SrcV w y m news) (hl : news.length = m * size)
    (h1 : ∀ u ∈ news, u.oneCell' = true) (h63 : n + m ≤ 9223372036854775807) (hbytes : (n + m) * bytes ≤ 140737488355328) (hbase : base ≤ w.heap.size)
    (h : ∀ p cap w', w'.ownsRow base e size (.slice p (n + m) cap) (n + m) (xs ++ news) → w.grownBy w' v.ownBlock → wpList P ops Q rest (a.put o.dst (.slice p (n + m) cap)) w') :
    wpList P ops Q (o :: rest) a w := by
  refine wpList_plain hgd fun K hK => ?_
  obtain ⟨p, cap, w', hr, h2, h3⟩ := run_append_any (P := P) w t o.type base e i z size bytes ht hi hz hsize hby hzs hsz v n xs hown y m news hy hl h1 (by unfold maxLen; omega) hbytes hbase
  unfold Oper.wp execOp
  simp only [ho, resolve, invoke, builtin, Sem.run_bind, Sem.run_pure, Result.andThen_ok, List.map_toArray, List.map_cons, List.map_nil, hs, hx, hr]
  exact hK _ _ (h p cap w' h2 h3)
end
end Go.Proofs.Ythjcifokmcbaoaa
/- The reference's but and with of chapter 16 give lists of their own. Conditions: at most 100000 pairs. -/
namespace Go.Proofs.Ythjcifokmcbaoaa.st
open Go.ChangeShapes Go.WideShapes Go.ChangeAt Go.RowKit gl ls

theorem take_at {α : Type} {l : List α} {k : Nat} {x : α} (h : l[k]? = some x) : l.take (k + 1) = l.take k ++ [x] := by rw [List.take_add_one, h]; rfl
theorem but_in {l : List Pr} {k : Nat} {x : Pr} {t u : List UInt8} (h : l[k]? = some x) (hg : goes t u x = false) : butL (l.take (k + 1)) t u = butL (l.take k) t u ++ [x] := by
  rw [take_at h]; unfold butL; rw [List.filter_append, List.filter_cons, if_pos (by rw [hg]; rfl)]; rfl
theorem but_out {l : List Pr} {k : Nat} {x : Pr} {t u : List UInt8} (h : l[k]? = some x) (hg : goes t u x = true) : butL (l.take (k + 1)) t u = butL (l.take k) t u := by
  rw [take_at h]; unfold butL; rw [List.filter_append, List.filter_cons, if_neg (by rw [hg]; simp)]; simp
theorem but_tlen (l : List Pr) (k : Nat) (t u : List UInt8) : (butL (l.take k) t u).length ≤ k := Nat.le_trans (List.length_filter_le _ _) (List.length_take_le _ _)
theorem goes_table {t u : List UInt8} {x : Pr} (h : ¬ x.table = t) : goes t u x = false := by unfold goes; rw [decide_eq_false h]; rfl
theorem goes_all {t : List UInt8} {x : Pr} (h : x.table = t) : goes t [] x = true := by unfold goes; rw [decide_eq_true h]; rfl
theorem goes_key {t u : List UInt8} {x : Pr} (h : x.table = t) (h2 : x.key = u) : goes t u x = true := by unfold goes; rw [decide_eq_true h, decide_eq_true h2]; simp
theorem goes_not {t u : List UInt8} {x : Pr} (h0 : u ≠ []) (h2 : ¬ x.key = u) : goes t u x = false := by
  unfold goes
  rw [decide_eq_false h2]
  cases u with
  | nil => exact absurd rfl h0
  | cons _ _ => simp
theorem own_base {w : World} {B B' n s : Nat} {e : TypeId} {v : Value} {xs : List Value} (h : w.ownsRow B e s v n xs) (hB : B' ≤ B) : w.ownsRow B' e s v n xs := by
  refine ⟨h.1, ?_⟩
  rcases h.2 with h2 | ⟨g, cap, cur, hv, hb, r⟩
  · exact .inl h2
  · exact .inr ⟨g, cap, cur, hv, by omega, r⟩
theorem snoc_pr (x : Pr) : ∀ ll : List Pr, prsC (ll ++ [x]) = prsC ll ++ [.string (B x.table), .string (B x.key), .string (B x.value)] := fun ll => rw.flat_snoc ll _
end Go.Proofs.Ythjcifokmcbaoaa.st
/- The reference's with of chapter 16 gives a list of its own. Conditions: at most 100000 pairs. -/
namespace Go.Proofs.Ythjcifokmcbaoaa.st
open Go.ChangeShapes Go.WideShapes Go.ChangeAt Go.RowKit gl ls

def before (l : List Pr) (p : Pr) (k : Nat) : Prop := ∀ (j : Nat) (x : Pr), j < k → l[j]? = some x → ltP x p = true
theorem before_succ {l : List Pr} {p x : Pr} {k : Nat} (h : before l p k) (hx : l[k]? = some x) (hlt : ltP x p = true) : before l p (k + 1) := by
  intro j y hj hy
  rcases Nat.lt_or_ge j k with h1 | h1
  · exact h j y h1 hy
  · obtain rfl : j = k := by omega
    rw [hx] at hy
    obtain rfl := Option.some.inj hy
    exact hlt
theorem with_cut : ∀ (l : List Pr) (p : Pr) (k : Nat), before l p k → (∀ x, l[k]? = some x → ltP x p = false) → k ≤ l.length → withL p l = (l.take k ++ [p]) ++ l.drop k
  | [], p, k, _, _, hk => by
    obtain rfl : k = 0 := by simpa using hk
    rfl
  | x :: r, p, 0, _, hn, _ => by
    have := hn x rfl
    unfold withL
    rw [if_neg (by rw [this]; simp)]
    rfl
  | x :: r, p, k + 1, hb, hn, hk => by
    have h0 := hb 0 x (by omega) rfl
    unfold withL
    rw [if_pos h0, with_cut r p k (fun j y hj hy => hb (j + 1) y (by omega) (by simpa using hy)) (fun y hy => hn y (by simpa using hy)) (by simpa using hk)]
    rfl
theorem s6_drew {w0 wp : World} {b d o : Nat} {x0 x1 x2 y0 y1 y2 : Value} (h : wp.cell? ⟨d, o, none⟩ = some y0 ∧ wp.cell? ⟨d, o + 1, none⟩ = some y1 ∧ wp.cell? ⟨d, o + 2, none⟩ = some y2 ∧ wp.cell? ⟨b, 0, none⟩ = some x0 ∧ wp.cell? ⟨b, 1, none⟩ = some x1 ∧ wp.cell? ⟨b, 2, none⟩ = some x2 ∧ Hid (Below w0.heap.size w0 wp)) :
    wp.drew.cell? ⟨d, o, none⟩ = some y0 ∧ wp.drew.cell? ⟨d, o + 1, none⟩ = some y1 ∧ wp.drew.cell? ⟨d, o + 2, none⟩ = some y2 ∧ wp.drew.cell? ⟨b, 0, none⟩ = some x0 ∧ wp.drew.cell? ⟨b, 1, none⟩ = some x1 ∧ wp.drew.cell? ⟨b, 2, none⟩ = some x2 ∧ Hid (Below w0.heap.size w0 wp.drew) := ⟨h.1, h.2.1, h.2.2.1, h.2.2.2.1, h.2.2.2.2.1, h.2.2.2.2.2.1, Lib.hid h.2.2.2.2.2.2.out.drew⟩
/-- The pairs from k on, as a source of an append. -/
theorem src_tail {w : World} {b o n c k : Nat} {l : List Pr} (h : Prs w (.slice (some ⟨b, o, none⟩) n c) l) (hk : k < n) (c' : Nat) : SrcV w (.slice (some ⟨b, o + k * 3, none⟩) (n - k) c') (n - k) (prsC (l.drop k)) := by
  refine .inr ⟨by omega, _, c', rfl, fun j u hu => ?_⟩
  obtain ⟨y, hy, hv⟩ := flat_inv hu
  rw [List.getElem?_drop] at hy
  have := h.cell hy hv
  rw [addN]
  rwa [show o + k * 3 + j = o + ((k + j / 3) * 3 + j % 3) by omega]
theorem src_none (w : World) (q : Option Addr) (c : Nat) : SrcV w (.slice q 0 c) 0 [] := .inl ⟨rfl, rfl, q, c, rfl⟩
theorem grown_bel {w0 w w' : World} {M M' n s : Nat} {e : TypeId} {v : Value} {xs : List Value} (hb : Below M w0 w) (h : w.ownsRow M' e s v n xs) (hg : w.grownBy w' v.ownBlock) (hM : M ≤ M') (hs : M ≤ w.heap.size) : Below M w0 w' :=
  hb.trans ⟨hg.os, hg.tape, hg.output, hg.size, fun k hk => hg.block k (by omega) fun e => by
    have := (h.lt k e.symm).1
    omega⟩
end Go.Proofs.Ythjcifokmcbaoaa.st
/- The reference's tabled of chapter 16. Conditions: at most 50000 pairs. -/
namespace Go.Proofs.Ythjcifokmcbaoaa.st
open Go.ChangeShapes Go.WideShapes Go.ChangeAt Go.RowKit gl ls

def tabD (l : List Pr) (t u : List UInt8) : List Pr × Int := if (butL l t []).length = l.length then (l, 0) else if (butL l u []).length < l.length then ([], 161) else (tabW t u (butL l t []) l, 0)
theorem drop_at {α : Type} {l : List α} {k : Nat} {x : α} (h : l[k]? = some x) : l.drop k = x :: l.drop (k + 1) := by
  obtain ⟨hk, rfl⟩ := List.getElem?_eq_some_iff.1 h
  exact (List.drop_eq_getElem_cons hk)
theorem tabW_yes {t u : List UInt8} {R : List Pr} {l : List Pr} {k : Nat} {x : Pr} (h : l[k]? = some x) (ht : x.table = t) : tabW t u R (l.drop k) = tabW t u (withL ⟨u, x.key, x.value⟩ R) (l.drop (k + 1)) := by
  rw [drop_at h, tabW, if_pos ht]
theorem tabW_no {t u : List UInt8} {R : List Pr} {l : List Pr} {k : Nat} {x : Pr} (h : l[k]? = some x) (ht : ¬ x.table = t) : tabW t u R (l.drop k) = tabW t u R (l.drop (k + 1)) := by
  rw [drop_at h, tabW, if_neg ht]
theorem withL_len (p : Pr) (l : List Pr) : (withL p l).length = l.length + 1 := by rw [(withL_perm p l).length_eq]; rfl
theorem but_le (l : List Pr) (t u : List UInt8) : (butL l t u).length ≤ l.length := List.length_filter_le _ _
theorem Prs.form {w : World} {v : Value} {l : List Pr} (h : Prs w v l) : ∃ p c, v = .slice p l.length c := rw.Rw.form h
end Go.Proofs.Ythjcifokmcbaoaa.st
/- The reference's mapped of chapter 16. Conditions: at most 100000 pairs, values of at most 200 bytes, a function that stands. -/
namespace Go.Proofs.Ythjcifokmcbaoaa.st
open Go.ChangeShapes Go.WideShapes Go.ChangeAt Go.RowKit gl ls

def mapD (l : List Pr) (t f : List UInt8) : List Pr × Int := match mapF t f l with | none => ([], 162) | some q => (q, 0)
theorem mapF_snoc {t f : List UInt8} {x : Pr} : ∀ {a R : List Pr}, mapF t f a = some R → mapF t f (a ++ [x]) = if x.table = t then (match funL f x.value with | none => none | some v => some (R ++ [{ x with value := v }])) else some (R ++ [x])
  | [], R, h => by
    simp [mapF] at h
    subst h
    simp only [List.nil_append, mapF]
    split
    · cases funL f x.value <;> rfl
    · rfl
  | y :: a, R, h => by
    rw [List.cons_append]
    unfold mapF at h ⊢
    split
    · rename_i hy
      rw [if_pos hy] at h
      cases hv : funL f y.value with
      | none => rw [hv] at h; cases h
      | some v =>
        rw [hv] at h
        simp only [Option.map_eq_some_iff] at h
        obtain ⟨R', hR', rfl⟩ := h
        simp only [mapF_snoc hR']
        split
        · cases funL f x.value <;> rfl
        · rfl
    · rename_i hy
      rw [if_neg hy] at h
      simp only [Option.map_eq_some_iff] at h
      obtain ⟨R', hR', rfl⟩ := h
      simp only [mapF_snoc hR']
      split
      · cases funL f x.value <;> rfl
      · rfl
theorem mapF_cut {t f : List UInt8} {b : List Pr} : ∀ {a : List Pr}, mapF t f a = none → mapF t f (a ++ b) = none
  | [], h => by simp [mapF] at h
  | y :: a, h => by
    rw [List.cons_append]
    unfold mapF at h ⊢
    split
    · rename_i hy
      rw [if_pos hy] at h
      cases hv : funL f y.value with
      | none => rfl
      | some v =>
        rw [hv] at h
        simp only [Option.map_eq_none_iff] at h
        simp only [mapF_cut h, Option.map_none]
    · rename_i hy
      rw [if_neg hy] at h
      simp only [Option.map_eq_none_iff] at h
      simp only [mapF_cut h, Option.map_none]
theorem map_yes {t f : List UInt8} {l R : List Pr} {k : Nat} {x : Pr} {v : List UInt8} (h : mapF t f (l.take k) = some R) (hx : l[k]? = some x) (ht : x.table = t) (hv : funL f x.value = some v) : mapF t f (l.take (k + 1)) = some (R ++ [⟨x.table, x.key, v⟩]) := by
  rw [take_at hx, mapF_snoc h, if_pos ht, hv]
theorem map_no {t f : List UInt8} {l R : List Pr} {k : Nat} {x : Pr} (h : mapF t f (l.take k) = some R) (hx : l[k]? = some x) (ht : ¬ x.table = t) : mapF t f (l.take (k + 1)) = some (R ++ [x]) := by
  rw [take_at hx, mapF_snoc h, if_neg ht]
theorem map_bad {t f : List UInt8} {l R : List Pr} {k : Nat} {x : Pr} (h : mapF t f (l.take k) = some R) (hx : l[k]? = some x) (ht : x.table = t) (hv : funL f x.value = none) : mapD l t f = ([], 162) := by
  have h1 : mapF t f (l.take (k + 1)) = none := by rw [take_at hx, mapF_snoc h, if_pos ht, hv]
  have h2 := mapF_cut (b := l.drop (k + 1)) h1
  rw [List.take_append_drop] at h2
  unfold mapD
  rw [h2]
theorem map_end {t f : List UInt8} {l R : List Pr} {k : Nat} (h : mapF t f (l.take k) = some R) (hk : l.length = k) : mapD l t f = (R, 0) := by
  rw [← hk, List.take_length] at h
  unfold mapD
  rw [h]
theorem map_len {t f : List UInt8} {l R : List Pr} {k : Nat} (h : mapF t f (l.take k) = some R) (hk : k ≤ l.length) : R.length = k := by
  rw [mapF_len h, List.length_take]
  omega
theorem call_of {t v : List UInt8} (hf : fnL t = true) (hl : v.length ≤ 200) : callL t v = (match funL t v with | none => ([], 162) | some u => (u, 0)) := by unfold callL; rw [if_pos hf, if_pos hl]; cases funL t v <;> rfl
theorem own_far {M : Nat} {w : World} {v : Value} {n s : Nat} {e : TypeId} {xs : List Value} (h : w.ownsRow M e s v n xs) {a : Addr} (ha : ∀ g, v.ownBlock = some g → g ≠ a.block) (u : Value) : (w.setCell a u).ownsRow M e s v n xs :=
  ((Upd.refl [a.block] w).setCell (.inl (by simp)) u).row h fun g hg hm => ha g hg (by simpa using hm)
end Go.Proofs.Ythjcifokmcbaoaa.st
/- The reference's moved of chapter 16. Conditions: at most 50000 pairs. -/
namespace Go.Proofs.Ythjcifokmcbaoaa.st
open Go.ChangeShapes Go.WideShapes Go.ChangeAt Go.RowKit gl ls

def movD (l : List Pr) (s : Sp) : List Pr × Int := match idxL l s.table s.key with
    | none => (l, 0)
    | some i => if (idxL l s.table s.to).isSome then ([], 161) else match l[i]? with
      | none => (l, 0)
      | some p => (withL ⟨s.table, s.to, p.value⟩ (if s.kind = 3 then butL l s.table s.key else l), 0)
end Go.Proofs.Ythjcifokmcbaoaa.st
/- The reference's does and Apply of chapter 16. Conditions: texts of at most 2147483647 bytes, at most 50000 pairs. -/
namespace Go.Proofs.Ythjcifokmcbaoaa.st
open Go.ChangeShapes Go.WideShapes Go.ChangeAt Go.RowKit gl ls

theorem does_one {l : List Pr} {s : Sp} (k : s.kind = 1) : doesL l s = if (idxL l s.table s.key).isSome then ([], 161) else (withL ⟨s.table, s.key, s.text⟩ l, 0) := by unfold doesL; rw [if_pos k]
theorem does_two {l : List Pr} {s : Sp} (k : s.kind = 2) : doesL l s = (butL l s.table s.key, 0) := by unfold doesL; rw [if_neg (by omega), if_pos k]
theorem does_four {l : List Pr} {s : Sp} (k : s.kind = 4) : doesL l s = tabD l s.table s.to := by unfold doesL; rw [if_neg (by omega), if_neg (by omega), if_pos k]; rfl
theorem does_five {l : List Pr} {s : Sp} (k : s.kind = 5) : doesL l s = mapD l s.table s.text := by unfold doesL; rw [if_neg (by omega), if_neg (by omega), if_neg (by omega), if_pos k]; rfl
theorem does_else {l : List Pr} {s : Sp} (k1 : ¬ s.kind = 1) (k2 : ¬ s.kind = 2) (k4 : ¬ s.kind = 4) (k5 : ¬ s.kind = 5) : doesL l s = movD l s := by unfold doesL; rw [if_neg k1, if_neg k2, if_neg k4, if_neg k5]; rfl
theorem right_five {s : Sp} (hr : rightL s = true) (k : s.kind = 5) : fnL s.text = true := by
  unfold rightL at hr
  rw [if_neg (by omega), if_neg (by omega), if_neg (by omega), if_neg (by omega), if_pos k] at hr
  simp only [Bool.and_eq_true] at hr
  exact hr.2.2

theorem right_kinds {s : Sp} (hr : rightL s = true) : s.kind = 1 ∨ s.kind = 2 ∨ s.kind = 3 ∨ s.kind = 4 ∨ s.kind = 5 ∨ s.kind = 6 := by
  by_cases k1 : s.kind = 1
  · exact .inl k1
  by_cases k2 : s.kind = 2
  · exact .inr (.inl k2)
  by_cases k3 : s.kind = 3 ∨ s.kind = 6
  · rcases k3 with k | k
    · exact .inr (.inr (.inl k))
    · exact .inr (.inr (.inr (.inr (.inr k))))
  by_cases k4 : s.kind = 4
  · exact .inr (.inr (.inr (.inl k4)))
  by_cases k5 : s.kind = 5
  · exact .inr (.inr (.inr (.inr (.inl k5))))
  unfold rightL at hr
  rw [if_neg k1, if_neg k2, if_neg k3, if_neg k4, if_neg k5] at hr
  simp at hr
end Go.Proofs.Ythjcifokmcbaoaa.st
/- The reference's Apply of chapter 16 returns what applyL says. Conditions: at most 4294967295 pairs, texts of at most 2147483647 bytes. -/
namespace Go.Proofs.Ythjcifokmcbaoaa.st
open Go.ChangeShapes Go.WideShapes Go.ChangeAt Go.RowKit gl ls

theorem may_len' {l : List Pr} (h : mayL l = true) : l.length ≤ 500 := (may_parts h).1
theorem apply_a {l : List Pr} {s : Sp} (h : mayL l = false) : applyL l s = ([], 1) := by unfold applyL; rw [if_neg (by rw [h]; simp)]
theorem apply_b {l : List Pr} {s : Sp} (h : mayL l = true) (h2 : rightL s = false) : applyL l s = ([], 160) := by unfold applyL; rw [if_pos h, if_neg (by rw [h2]; simp)]
theorem apply_c {l : List Pr} {s : Sp} (h : mayL l = true) (h2 : rightL s = true) (h3 : ¬ (doesL l s).2 = 0) : applyL l s = ([], (doesL l s).2) := by unfold applyL; rw [if_pos h, if_pos h2, if_neg h3]
theorem apply_d {l : List Pr} {s : Sp} (h : mayL l = true) (h2 : rightL s = true) (h3 : (doesL l s).2 = 0) (h4 : ¬ (doesL l s).1.length ≤ 500) : applyL l s = ([], 163) := by unfold applyL; rw [if_pos h, if_pos h2, if_pos h3, if_neg h4]
theorem apply_e {l : List Pr} {s : Sp} (h : mayL l = true) (h2 : rightL s = true) (h3 : (doesL l s).2 = 0) (h4 : (doesL l s).1.length ≤ 500) : applyL l s = ((doesL l s).1, 0) := by unfold applyL; rw [if_pos h, if_pos h2, if_pos h3, if_pos h4]
end Go.Proofs.Ythjcifokmcbaoaa.st
/- package step's Apply where the pairs and the step are right. -/
namespace Go.Proofs.Ythjcifokmcbaoaa.st
open Go.ChangeShapes Go.WideShapes Go.ChangeAt Go.RowKit gl ls

def S5 (b : Nat) (x0 x1 x2 x3 x4 : Value) (w0 wp : World) : Prop := wp.cell? ⟨b, 0, none⟩ = some x0 ∧ wp.cell? ⟨b, 1, none⟩ = some x1 ∧ wp.cell? ⟨b, 2, none⟩ = some x2 ∧ wp.cell? ⟨b, 3, none⟩ = some x3 ∧ wp.cell? ⟨b, 4, none⟩ = some x4 ∧ Hid (Below w0.heap.size w0 wp)
theorem s5_of {w0 w' : World} {b : Nat} {x0 x1 x2 x3 x4 : Value} (h0 : w0.cell? ⟨b, 0, none⟩ = some x0) (h1 : w0.cell? ⟨b, 1, none⟩ = some x1) (h2 : w0.cell? ⟨b, 2, none⟩ = some x2) (h3 : w0.cell? ⟨b, 3, none⟩ = some x3) (h4 : w0.cell? ⟨b, 4, none⟩ = some x4) (hb : Below w0.heap.size w0 w') :
    w'.cell? ⟨b, 0, none⟩ = some x0 ∧ w'.cell? ⟨b, 1, none⟩ = some x1 ∧ w'.cell? ⟨b, 2, none⟩ = some x2 ∧ w'.cell? ⟨b, 3, none⟩ = some x3 ∧ w'.cell? ⟨b, 4, none⟩ = some x4 ∧ Hid (Below w0.heap.size w0 w') :=
  ⟨cell_then h0 hb, cell_then h1 hb, cell_then h2 hb, cell_then h3 hb, cell_then h4 hb, Lib.hid hb⟩
theorem s5_bel {w0 wp : World} {b : Nat} {x0 x1 x2 x3 x4 : Value} (h : wp.cell? ⟨b, 0, none⟩ = some x0 ∧ wp.cell? ⟨b, 1, none⟩ = some x1 ∧ wp.cell? ⟨b, 2, none⟩ = some x2 ∧ wp.cell? ⟨b, 3, none⟩ = some x3 ∧ wp.cell? ⟨b, 4, none⟩ = some x4 ∧ Hid (Below w0.heap.size w0 wp)) : Hid (Below w0.heap.size w0 wp) := h.2.2.2.2.2
theorem s5_at {w0 wp w' : World} {b : Nat} {x0 x1 x2 x3 x4 : Value} (_hb : Below wp.heap.size wp w') (h : wp.cell? ⟨b, 0, none⟩ = some x0 ∧ wp.cell? ⟨b, 1, none⟩ = some x1 ∧ wp.cell? ⟨b, 2, none⟩ = some x2 ∧ wp.cell? ⟨b, 3, none⟩ = some x3 ∧ wp.cell? ⟨b, 4, none⟩ = some x4 ∧ Hid (Below w0.heap.size w0 wp)) : Hid (Below w0.heap.size w0 wp) := h.2.2.2.2.2
end Go.Proofs.Ythjcifokmcbaoaa.st
/- law 16: addsUp, stepWeighs, pairsWeigh, stepsWeigh: what weighs little has short texts. Conditions: lists of at most 9223372036854775807 elements. -/
namespace Go.Proofs.Ythjcifokmcbaoaa.st
open Go.ChangeShapes Go.WideShapes Go.ChangeAt Go.RowKit gl ls

def addU (n m : Int) : Int := if 2147483647 < n ∨ 2147483647 < m then 2147483648 else ((n.toNat + m.toNat : Nat) : Int)
theorem addU_nn (n m : Int) : 0 ≤ addU n m := by unfold addU; split <;> omega
theorem addU_bd (n m : Int) : addU n m ≤ 4294967294 := by unfold addU; split <;> omega
theorem addU_parts {n m : Int} (h : addU n m ≤ 2147483647) : n ≤ 2147483647 ∧ m ≤ 2147483647 := by
  unfold addU at h
  split at h
  · omega
  · omega
def stepW (s : Sp) : Int := addU (addU (s.table.length : Int) (s.key.length : Int)) (addU (s.to.length : Int) (s.text.length : Int))
theorem stepW_sz {s : Sp} (h : stepW s ≤ 2147483647) : SpSz s := by
  obtain ⟨h1, h2⟩ := addU_parts h
  obtain ⟨h3, h4⟩ := addU_parts h1
  obtain ⟨h5, h6⟩ := addU_parts h2
  exact ⟨by omega, by omega, by omega, by omega⟩
def WPr (l : List Pr) (N : Int) : Prop := 0 ≤ N ∧ N ≤ 4294967294 ∧ (N ≤ 2147483647 → l.length ≤ 2147483647 ∧ ∀ x ∈ l, PrSz x)
def WPrTo (l : List Pr) (k : Nat) (N : Int) : Prop := N ≤ 2147483647 → l.length ≤ 2147483647 ∧ ∀ (j : Nat) (x : Pr), j < k → l[j]? = some x → PrSz x
theorem WPrTo.next {l : List Pr} {k : Nat} {N : Int} {x : Pr} (h : WPrTo l k N) (hx : l[k]? = some x) : WPrTo l (k + 1) (addU N (addU ((B x.table).size : Int) (addU ((B x.key).size : Int) ((B x.value).size : Int)))) := by
  intro hN
  obtain ⟨h1, h2⟩ := addU_parts hN
  obtain ⟨h3, h4⟩ := addU_parts h2
  obtain ⟨h5, h6⟩ := addU_parts h4
  rw [B_size] at h3 h5 h6
  refine ⟨(h h1).1, fun j y hj hy => ?_⟩
  rcases Nat.lt_or_ge j k with h7 | h7
  · exact (h h1).2 j y h7 hy
  · obtain rfl : j = k := by omega
    rw [hx] at hy
    obtain rfl := Option.some.inj hy
    exact ⟨by omega, by omega, by omega⟩
theorem WPrTo.done {l : List Pr} {k : Nat} {N : Int} (h : WPrTo l k N) (hk : l.length ≤ k ∨ 2147483647 < N) (h0 : 0 ≤ N) (h1 : N ≤ 4294967294) : WPr l N := by
  refine ⟨h0, h1, fun hN => ⟨(h hN).1, fun x hx => ?_⟩⟩
  obtain ⟨j, hj⟩ := List.mem_iff_getElem?.1 hx
  exact (h hN).2 j x (by have := lt_of_at hj; omega) hj
def WSp (l : List Sp) (N : Int) : Prop := 0 ≤ N ∧ N ≤ 4294967294 ∧ (N ≤ 2147483647 → l.length ≤ 2147483647 ∧ ∀ x ∈ l, SpSz x)
def WSpTo (l : List Sp) (k : Nat) (N : Int) : Prop := N ≤ 2147483647 → l.length ≤ 2147483647 ∧ ∀ (j : Nat) (x : Sp), j < k → l[j]? = some x → SpSz x
theorem WSpTo.next {l : List Sp} {k : Nat} {N : Int} {x : Sp} (h : WSpTo l k N) (hx : l[k]? = some x) : WSpTo l (k + 1) (addU N (addU 300000 (stepW x))) := by
  intro hN
  obtain ⟨h1, h2⟩ := addU_parts hN
  obtain ⟨_, h4⟩ := addU_parts h2
  refine ⟨(h h1).1, fun j y hj hy => ?_⟩
  rcases Nat.lt_or_ge j k with h7 | h7
  · exact (h h1).2 j y h7 hy
  · obtain rfl : j = k := by omega
    rw [hx] at hy
    obtain rfl := Option.some.inj hy
    exact stepW_sz h4
theorem WSpTo.done {l : List Sp} {k : Nat} {N : Int} (h : WSpTo l k N) (hk : l.length ≤ k ∨ 2147483647 < N) (h0 : 0 ≤ N) (h1 : N ≤ 4294967294) : WSp l N := by
  refine ⟨h0, h1, fun hN => ⟨(h hN).1, fun x hx => ?_⟩⟩
  obtain ⟨j, hj⟩ := List.mem_iff_getElem?.1 hx
  exact (h hN).2 j x (by have := lt_get hj; omega) hj
end Go.Proofs.Ythjcifokmcbaoaa.st
/- Two pairs held against each other; law 16's same. Conditions: lists of at most 4294967295 pairs. -/
namespace Go.Proofs.Ythjcifokmcbaoaa.st
open Go.ChangeShapes Go.WideShapes Go.ChangeAt Go.RowKit gl ls

theorem three_fields {l : List Field} {t0 t1 t2 : TypeId} (h : l.map (fun f => (decide (f.name ≠ "_"), f.type, f.offset)) = [(true, t0, 0), (true, t1, 1), (true, t2, 2)]) :
    ∃ f0 f1 f2 : Field, l = [f0, f1, f2] ∧ f0.name ≠ "_" ∧ f0.type = t0 ∧ f0.offset = 0 ∧ f1.name ≠ "_" ∧ f1.type = t1 ∧ f1.offset = 1 ∧ f2.name ≠ "_" ∧ f2.type = t2 ∧ f2.offset = 2 := by
  obtain ⟨f0, r0, rfl, h0, h⟩ := List.map_eq_cons_iff.1 h
  obtain ⟨f1, r1, rfl, h1, h⟩ := List.map_eq_cons_iff.1 h
  obtain ⟨f2, r2, rfl, h2, h⟩ := List.map_eq_cons_iff.1 h
  obtain rfl := List.map_eq_nil_iff.1 h
  simp only [Prod.mk.injEq, decide_eq_true_eq] at h0 h1 h2
  exact ⟨f0, f1, f2, rfl, h0.1, h0.2.1, h0.2.2, h1.1, h1.2.1, h1.2.2, h2.1, h2.2.1, h2.2.2⟩
theorem pr_same (x y : Pr) (h : x = y) : (!(((B x.table).toList == (B y.table).toList) && (((B x.key).toList == (B y.key).toList) && ((B x.value).toList == (B y.value).toList)))) = false := by
  subst h
  simp
end Go.Proofs.Ythjcifokmcbaoaa.st
/- law 16: awake returns true. Condition: the listed variables hold what the program's text lays. -/
namespace Go.Proofs.Ythjcifokmcbaoaa.st
open Go.ChangeShapes Go.WideShapes Go.ChangeAt Go.RowKit gl ls

def awL : List Pr := [⟨[97], [107], [49]⟩, ⟨[98], [107], [50]⟩]
def awS1 : Sp := ⟨6, [98], [107], [106], []⟩
def awS2 : Sp := ⟨4, [97], [], [98], []⟩
def awS3 : Sp := ⟨5, [98], [], [], [100, 111, 117, 98, 108, 101]⟩
def awR1 : List Pr := [⟨[97], [107], [49]⟩, ⟨[98], [106], [50]⟩, ⟨[98], [107], [50]⟩]
def awR3 : List Pr := [⟨[97], [107], [49]⟩, ⟨[98], [107], [52]⟩]
theorem aw1 : applyL awL awS1 = (awR1, 0) := by kernel_rfl
theorem aw2 : applyL awL awS2 = ([], 161) := by kernel_rfl
theorem aw3 : applyL awL awS3 = (awR3, 0) := by kernel_rfl
theorem aw4 : callL [116, 114, 105, 109] [32, 97, 32, 98, 32] = ([97, 32, 98], 0) := by kernel_rfl
theorem aw5 : callL [85, 112, 112, 101, 114] [97] = ([], 160) := by kernel_rfl
theorem aw6 : rightL ⟨2, [97], [], [], []⟩ = true := by kernel_rfl
theorem aw7 : rightL ⟨2, [97], [], [], [120]⟩ = false := by kernel_rfl
theorem awSz : ∀ x ∈ awL, PrSz x := by
  intro x hx
  simp only [awL, List.mem_cons, List.not_mem_nil, or_false] at hx
  rcases hx with rfl | rfl <;> exact ⟨by decide, by decide, by decide⟩
end Go.Proofs.Ythjcifokmcbaoaa.st
/- StepRights returns true. Conditions: at most 9223372036854775807 steps; the listed variables hold what the program's text lays. -/
namespace Go.Proofs.Ythjcifokmcbaoaa.st
open Go.ChangeShapes Go.WideShapes Go.ChangeAt Go.RowKit gl ls

theorem f5_drew {w0 wp : World} {b o : Nat} {x0 x1 x2 x3 x4 : Value} (h : wp.cell? ⟨b, o, none⟩ = some x0 ∧ wp.cell? ⟨b, o + 1, none⟩ = some x1 ∧ wp.cell? ⟨b, o + 2, none⟩ = some x2 ∧ wp.cell? ⟨b, o + 3, none⟩ = some x3 ∧ wp.cell? ⟨b, o + 4, none⟩ = some x4 ∧ Hid (Below w0.heap.size w0 wp)) :
    wp.drew.cell? ⟨b, o, none⟩ = some x0 ∧ wp.drew.cell? ⟨b, o + 1, none⟩ = some x1 ∧ wp.drew.cell? ⟨b, o + 2, none⟩ = some x2 ∧ wp.drew.cell? ⟨b, o + 3, none⟩ = some x3 ∧ wp.drew.cell? ⟨b, o + 4, none⟩ = some x4 ∧ Hid (Below w0.heap.size w0 wp.drew) := ⟨h.1, h.2.1, h.2.2.1, h.2.2.2.1, h.2.2.2.2.1, Lib.hid h.2.2.2.2.2.out.drew⟩
theorem f5_of {w0 w' : World} {b o : Nat} {x0 x1 x2 x3 x4 : Value} (h0 : w0.cell? ⟨b, o, none⟩ = some x0) (h1 : w0.cell? ⟨b, o + 1, none⟩ = some x1) (h2 : w0.cell? ⟨b, o + 2, none⟩ = some x2) (h3 : w0.cell? ⟨b, o + 3, none⟩ = some x3) (h4 : w0.cell? ⟨b, o + 4, none⟩ = some x4) (hb : Below w0.heap.size w0 w') :
    w'.cell? ⟨b, o, none⟩ = some x0 ∧ w'.cell? ⟨b, o + 1, none⟩ = some x1 ∧ w'.cell? ⟨b, o + 2, none⟩ = some x2 ∧ w'.cell? ⟨b, o + 3, none⟩ = some x3 ∧ w'.cell? ⟨b, o + 4, none⟩ = some x4 ∧ Hid (Below w0.heap.size w0 w') :=
  ⟨cell_then h0 hb, cell_then h1 hb, cell_then h2 hb, cell_then h3 hb, cell_then h4 hb, Lib.hid hb⟩
theorem f5_bel {w0 wp : World} {b o : Nat} {x0 x1 x2 x3 x4 : Value} (h : wp.cell? ⟨b, o, none⟩ = some x0 ∧ wp.cell? ⟨b, o + 1, none⟩ = some x1 ∧ wp.cell? ⟨b, o + 2, none⟩ = some x2 ∧ wp.cell? ⟨b, o + 3, none⟩ = some x3 ∧ wp.cell? ⟨b, o + 4, none⟩ = some x4 ∧ Hid (Below w0.heap.size w0 wp)) : Hid (Below w0.heap.size w0 wp) := h.2.2.2.2.2
end Go.Proofs.Ythjcifokmcbaoaa.st
/- Lists of texts in memory; law 16's texts; step.Functions. Conditions: lists of at most 4294967295 texts. -/
namespace Go.Proofs.Ythjcifokmcbaoaa.st
open Go.ChangeShapes Go.WideShapes Go.ChangeAt Go.RowKit gl ls

def txC (x : List UInt8) : List Value := [.string (B x)]
theorem txC_len (x : List UInt8) : (txC x).length = 1 := rfl
theorem txC_one : ∀ (x : List UInt8), ∀ v ∈ txC x, v.oneCell' = true := by
  intro x v hv
  simp only [txC, List.mem_cons, List.not_mem_nil, or_false] at hv
  subst hv
  rfl
abbrev Txt (w : World) (v : Value) (l : List (List UInt8)) : Prop := rw.Rw txC 1 w v l
theorem txt_cell {w : World} {b o n c : Nat} {l : List (List UInt8)} (h : Txt w (.slice (some ⟨b, o, none⟩) n c) l) {j : Nat} {x : List UInt8} (hx : l[j]? = some x) : w.cell? ⟨b, o + j, none⟩ = some (.string (B x)) := by
  have := rw.Rw.cell h hx (i := 0) rfl
  rwa [Nat.mul_one, Nat.add_zero] at this
def nmL : List (List UInt8) := [nDouble, nLower, nReverse, nTrim, nUpper]
theorem nm_cells : rw.flat txC nmL = namesL := rfl
end Go.Proofs.Ythjcifokmcbaoaa.st
/- StepStands returns true. Condition: the listed variables hold what the program's text lays. -/
namespace Go.Proofs.Ythjcifokmcbaoaa.st
open Go.ChangeShapes Go.WideShapes Go.ChangeAt Go.RowKit gl ls

/-- A store into a row that the call owns. -/
theorem own_store {M n s : Nat} {e : TypeId} {w : World} {g c : Nat} {xs : List Value} (h : w.ownsRow M e s (.slice (some ⟨g, 0, none⟩) n c) n xs) (i : Nat) (u : Value) (hi : i < n * s) :
    (∃ xs', (w.setCell ⟨g, i, none⟩ u).ownsRow M e s (.slice (some ⟨g, 0, none⟩) n c) n xs') ∧ (w.cell? ⟨g, i, none⟩).isSome = true ∧ w.frozen? ⟨g, i, none⟩ = false := by
  obtain ⟨hl, h2⟩ := h
  rcases h2 with ⟨h0, _⟩ | ⟨g', cap, cur, hv, hb, hg, hn, hm, hcs, ht⟩
  · cases h0
  · cases hv
    have hmul : n * s ≤ c * s := Nat.mul_le_mul_right s hn
    refine ⟨⟨_, ?_, .inr ⟨g, c, _, rfl, hb, heap_set hg u, hn, hm, by simpa using hcs, rfl⟩⟩, ?_, free_in hg⟩
    · rw [List.length_take, Array.length_toList, Array.size_setIfInBounds, hcs]
      omega
    · rw [cell_in hg, Array.getElem?_eq_getElem (by omega)]
      rfl
theorem own_g {M n s : Nat} {e : TypeId} {w : World} {v : Value} {xs : List Value} (h : w.ownsRow M e s v n xs) (hn : 0 < n) : ∃ g c, v = .slice (some ⟨g, 0, none⟩) n c ∧ M ≤ g ∧ g < w.heap.size := h.form hn
theorem txt_own {M n : Nat} {w : World} {v : Value} {l : List (List UInt8)} (h : w.ownsRow M 9 1 v n (rw.flat txC l)) : Txt w v l := rw.own_rw txC_len (by decide) h
theorem txt_block {w : World} {blk : Nat} {l : List (List UInt8)} {cs : Array Value} (h : w.heap[blk]? = some (.cells cs 9 (0, 0))) (hc : cs.toList = rw.flat txC l) : Txt w (.slice (some ⟨blk, 0, none⟩) l.length l.length) l := rw.rw_lit txC_len h hc
theorem own_grown {M n s : Nat} {e : TypeId} {w w' : World} {v v' : Value} {xs : List Value} (h : w.ownsRow M e s v n xs) (hg : w.grownBy w' v'.ownBlock) (hne : ∀ g g', v.ownBlock = some g → v'.ownBlock = some g' → g' ≠ g) : w'.ownsRow M e s v n xs :=
  (Upd.of_grown (S := v'.ownBlock.toList) hg (fun k hk => by rw [hk]; simp)).row h fun g hv hm => by
    cases hv' : v'.ownBlock with
    | none => rw [hv'] at hm; cases hm
    | some g' => rw [hv'] at hm; simp at hm; exact hne g g' hv hv' hm.symm
theorem t2_drew {w0 wp : World} {b d o q : Nat} {x y : Value} (h : wp.cell? ⟨b, o, none⟩ = some x ∧ wp.cell? ⟨d, q, none⟩ = some y ∧ Hid (Below w0.heap.size w0 wp)) : wp.drew.cell? ⟨b, o, none⟩ = some x ∧ wp.drew.cell? ⟨d, q, none⟩ = some y ∧ Hid (Below w0.heap.size w0 wp.drew) := ⟨h.1, h.2.1, Lib.hid h.2.2.out.drew⟩
theorem t2_of {w0 wp : World} {b d o q : Nat} {x y : Value} (h0 : w0.cell? ⟨b, o, none⟩ = some x) (h1 : w0.cell? ⟨d, q, none⟩ = some y) (hb : Below w0.heap.size w0 wp) : wp.cell? ⟨b, o, none⟩ = some x ∧ wp.cell? ⟨d, q, none⟩ = some y ∧ Hid (Below w0.heap.size w0 wp) := ⟨cell_then h0 hb, cell_then h1 hb, Lib.hid hb⟩
theorem t2_bel {w0 wp : World} {b d o q : Nat} {x y : Value} (h : wp.cell? ⟨b, o, none⟩ = some x ∧ wp.cell? ⟨d, q, none⟩ = some y ∧ Hid (Below w0.heap.size w0 wp)) : Hid (Below w0.heap.size w0 wp) := h.2.2
def vals12 : List (List UInt8) := [[], [48], [55], [48, 55], [45, 49], [50, 49, 52, 55, 52, 56, 51, 54, 52, 56], [50, 49, 52, 55, 52, 56, 51, 54, 52, 57], [97, 66, 99], [32, 97, 9, 98, 32], [9], [122, 123, 64, 91], [0, 255]]
end Go.Proofs.Ythjcifokmcbaoaa.st
