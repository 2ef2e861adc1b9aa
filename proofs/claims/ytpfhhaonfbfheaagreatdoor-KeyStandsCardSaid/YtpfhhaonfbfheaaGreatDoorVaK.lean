/- value.Same, Within and the reference's Same return plain functions. Conditions: the values' words lie in memory; they are no greater than 2147483647 bytes and words. -/
import Derived.Test.YtpfhhaonfbfheaaGreatDoorVaJ
namespace Go.Proofs.YtpfhhaonfbfheaaGreatDoor.va
open Go.ChangeShapes Go.WideShapes Go.ChangeAt Go.RowKit gl

theorem ret_bool' {a b : Bool} (h : a = b) : Ending.returned (.bool a) = .returned (.bool b) := by rw [h]
theorem bel_drewN {b : Nat} {a w : World} (h : Below b a w) (n : Nat) : Below b a (w.drewN n) := h.trans ⟨rfl, rfl, rfl, Nat.le_refl _, fun _ _ => rfl⟩
/-- Two values are the same. -/
theorem same_eq (a b : Val) : decide (a = b) = (decide (a.kind = b.kind) && decide (a.int = b.int) && decide (a.text = b.text) && decide (a.words = b.words)) := by
  obtain ⟨k, n, t, ws⟩ := a
  obtain ⟨k', n', t', ws'⟩ := b
  rw [Bool.eq_iff_iff]
  simp only [decide_eq_true_eq, Bool.and_eq_true, Val.mk.injEq, and_assoc]
theorem str_dec (a b : ByteArray) : (a.toList == b.toList) = decide (a = b) := by
  by_cases h : a = b
  · rw [seq_true h, decide_eq_true h]
  · rw [seq_false h, decide_eq_false h]

/-- The first k words are alike. -/
def eqTo (xs ys : List ByteArray) (k : Nat) : Prop := ∀ j, j < k → xs[j]? = ys[j]?
theorem eqTo_succ {xs ys : List ByteArray} {k : Nat} (h : eqTo xs ys k) (h2 : xs[k]? = ys[k]?) : eqTo xs ys (k + 1) := by
  intro j hj
  rcases Nat.lt_or_ge j k with h1 | h1
  · exact h j h1
  · obtain rfl : j = k := by omega
    exact h2
theorem eqTo_all {xs ys : List ByteArray} (h : eqTo xs ys xs.length) (hl : xs.length = ys.length) : xs = ys := by
  apply List.ext_getElem?
  intro j
  rcases Nat.lt_or_ge j xs.length with h1 | h1
  · exact h j h1
  · rw [List.getElem?_eq_none h1, List.getElem?_eq_none (by omega)]
theorem Strs.at {w : World} {p : Option Addr} {n c : Nat} {xs : List ByteArray} (h : Strs w (.slice p n c) xs) (k : Nat) (hk : k < n) : ∃ b o x, p = some ⟨b, o, none⟩ ∧ b < w.heap.size ∧ xs[k]? = some x ∧ w.cell? ⟨b, o + k, none⟩ = some (.string x) := by
  obtain ⟨p', c', e, hc, h⟩ := h
  simp only [Value.slice.injEq] at e
  obtain ⟨rfl, rfl, rfl⟩ := e
  rcases h with rfl | ⟨b, o, rfl, hlt, hat⟩
  · simp at hk
  · exact ⟨b, o, _, rfl, hlt, List.getElem?_eq_getElem hk, hat k _ (List.getElem?_eq_getElem hk)⟩

end Go.Proofs.YtpfhhaonfbfheaaGreatDoor.va
