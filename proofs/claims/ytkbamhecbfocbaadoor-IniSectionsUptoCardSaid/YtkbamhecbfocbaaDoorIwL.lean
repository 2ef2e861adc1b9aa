/- Plain laws for tinderboxlaw06.IniSections: lines, each cut into a section and the rest of its name. No program in sight; no conditions beside those stated. -/
import Derived.Test.YtkbamhecbfocbaaDoorInE
namespace Go.Proofs.YtkbamhecbfocbaaDoor.ini
open gl

abbrev Cut := Ln × (List UInt8 × List UInt8)
def Cuts (l : List Ln) (i : Nat) (cs : List Cut) : Prop := cs.map (·.1) = l.take i ∧ ∀ p ∈ cs, cutOk p.1 p.2
theorem cuts_start (l : List Ln) : Cuts l 0 [] := ⟨rfl, fun p h => by cases h⟩
theorem cuts_snoc {l : List Ln} {i : Nat} {cs : List Cut} {x : Ln} {c : List UInt8 × List UInt8} (h : Cuts l i cs) (hx : l[i]? = some x) (hc : cutOk x c) : Cuts l (i + 1) (cs ++ [(x, c)]) := by
  obtain ⟨h1, h2⟩ := h
  refine ⟨?_, fun p hp => ?_⟩
  · rw [List.map_append, h1]
    have hlt : i < l.length := (List.getElem?_eq_some_iff.1 hx).1
    rw [List.take_succ_eq_append_getElem hlt]
    rw [List.getElem?_eq_getElem hlt] at hx
    rw [Option.some.inj hx]
    rfl
  · rcases List.mem_append.1 hp with hp | hp
    · exact h2 p hp
    · obtain rfl := List.mem_singleton.1 hp
      exact hc
theorem cuts_all {l : List Ln} {cs : List Cut} (h : Cuts l l.length cs) : cs.map (·.1) = l := by
  have := h.1
  rwa [List.take_of_length_le (Nat.le_refl _)] at this
theorem quote_len (l : List UInt8) : (quoteL l).length ≤ 4 * l.length + 2 := by
  have := gl.flat_le l
  simp only [quoteL, List.length_cons, List.length_append, List.length_nil]
  omega
theorem textL_le (t : List UInt8) : (textL t).length ≤ 4 * t.length + 2 := by
  unfold textL
  split
  · omega
  · exact quote_len t
theorem secLine_le {x : Ln} {c : List UInt8 × List UInt8} (h : cutOk x c) : (secLine x c).length ≤ x.name.length + 10 + 4 * x.text.length := by
  have ht := textL_le x.text
  have hc : c.1.length + c.2.length ≤ x.name.length := by
    rcases h with ⟨h1, h2⟩ | h
    · rw [h1, h2]; simp
    · rw [h]; simp only [List.length_append, List.length_cons]; omega
  unfold secLine
  simp only [List.length_append, List.length_cons, List.length_nil]
  omega
theorem secAll_le : ∀ (cs : List Cut), (∀ p ∈ cs, cutOk p.1 p.2) → (secAll cs).length ≤ ws (cs.map (·.1))
  | [], _ => by simp [secAll]
  | p :: r, h => by
    have h1 := secLine_le (h p (by simp))
    have h2 := secAll_le r fun q hq => h q (by simp [hq])
    rw [List.map_cons, ws_cons]
    simp only [secAll, List.length_append]
    omega
theorem ws_take (l : List Ln) (i : Nat) : ws (l.take i) ≤ ws l := by
  have : ws l = ws (l.take i) + ws (l.drop i) := by
    conv => lhs; rw [← List.take_append_drop i l]
    simp only [ws, List.map_append, List.sum_append]
  omega
theorem cuts_len {l : List Ln} {i : Nat} {cs : List Cut} (h : Cuts l i cs) : (secAll cs).length ≤ ws l := by
  have h1 := secAll_le cs h.2
  have h2 := ws_take l i
  rw [h.1] at h1
  omega
/-- What the whole file gives. -/
theorem cuts_parse {l : List Ln} {cs : List Cut} (h : Cuts l l.length cs) (hp : (printL l).2 = 0) : ((secAll cs).length ≤ 8000 ∧ parseL (secAll cs) = (numb2 0 l, 0, 0)) ∨ (8000 < (secAll cs).length ∧ parseL (secAll cs) = ([], 61, 0)) := by
  have e := cuts_all h
  rcases Nat.lt_or_ge 8000 (secAll cs).length with h1 | h1
  · refine .inr ⟨h1, ?_⟩
    unfold parseL
    rw [if_neg (by omega)]
  · refine .inl ⟨h1, ?_⟩
    have := sec_parse (l := cs) (by rw [e]; exact hp) h.2 h1
    rwa [e] at this
/-- One line of lines that may be, its name off. -/
theorem line_one {l : List Ln} {x : Ln} (h : (printL l).2 = 0) (hx : x ∈ l) : printL [⟨x.name, x.text, 0⟩] = (lineOut x, 0) ∧ (lineOut x).drop x.name.length = [32, 61, 32] ++ textL x.text ++ [10] ∧ (lineOut x).length = x.name.length + ((textL x.text).length + 4) := by
  refine ⟨print_one h hx 0, line_tail x, ?_⟩
  unfold lineOut headL
  simp only [List.length_append, List.length_cons, List.length_nil]
  omega
theorem sec_text (x : Ln) (c : List UInt8 × List UInt8) : [91] ++ c.1 ++ [93, 10] ++ c.2 ++ ([32, 61, 32] ++ textL x.text ++ [10]) = secLine x c := by
  simp [secLine]
/-- The points among the first k bytes. -/
theorem pts_append : ∀ (l m : List UInt8) (k : Nat), pts k (l ++ m) = pts k l ++ pts (k + l.length) m
  | [], m, k => by simp [pts]
  | b :: r, m, k => by
    simp only [List.cons_append, pts]
    rw [pts_append r m (k + 1), show k + 1 + r.length = k + (b :: r).length by simp; omega]
    split <;> rfl
theorem pts_take {l : List UInt8} {i : Nat} {b : UInt8} (h : l[i]? = some b) : pts 0 (l.take (i + 1)) = if b = 46 then pts 0 (l.take i) ++ [i] else pts 0 (l.take i) := by
  have hlt : i < l.length := (List.getElem?_eq_some_iff.1 h).1
  rw [List.take_succ_eq_append_getElem hlt, pts_append]
  rw [List.getElem?_eq_getElem hlt] at h
  rw [Option.some.inj h, List.length_take, Nat.min_eq_left (by omega), Nat.zero_add]
  split <;> simp [pts, *]
theorem pts_len (l : List UInt8) : ∀ k, (pts k l).length ≤ l.length := by
  induction l with
  | nil => intro k; simp [pts]
  | cons b r ih =>
    intro k
    have := ih (k + 1)
    unfold pts
    split <;> simp <;> omega
end Go.Proofs.YtkbamhecbfocbaaDoor.ini
