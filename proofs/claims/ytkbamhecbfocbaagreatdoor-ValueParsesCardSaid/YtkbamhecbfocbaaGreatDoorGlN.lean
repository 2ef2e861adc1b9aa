/- Names: a plain function of bytes, and the reference's IsName, which returns it. Condition: the text is no longer than 2147483647 bytes. -/
import Derived.Test.YtkbamhecbfocbaaGreatDoorGlC
import Derived.Test.YtkbamhecbfocbaaGreatDoorPl
namespace Go.Proofs.YtkbamhecbfocbaaGreatDoor.gl
open Go.ChangeShapes Go.WideShapes Go.ChangeAt Go.RowKit

/-- A name. -/
def nameL (l : List UInt8) : Bool := decide (l.length ≤ 32) && decide ((pcs 46 l).length ≤ 3) && (pcs 46 l).all partL

/-- k bytes have been passed, the part that is read begins at f, n - 1 parts have been read and are parts. -/
structure Scan (l : List UInt8) (n f k : Nat) : Prop where
  le : f ≤ k
  all : (pcs 46 l).all partL = (pcs 46 (l.drop f)).all partL
  len : (pcs 46 l).length + 1 = n + (pcs 46 (l.drop f)).length
  free : ∀ j, f ≤ j → j < k → l[j]? ≠ some 46
  many : 1 ≤ n ∧ n ≤ k + 1
theorem Scan.start (l : List UInt8) : Scan l 1 0 0 := ⟨by omega, rfl, by simp; omega, fun j _ h => by omega, by omega⟩
theorem Scan.pass {l : List UInt8} {n f k : Nat} {b : UInt8} (h : Scan l n f k) (hb : l[k]? = some b) (hne : b ≠ 46) : Scan l n f (k + 1) :=
  ⟨by have := h.le; omega, h.all, h.len, fun j h1 h2 => by
    rcases Nat.lt_or_ge j k with h3 | h3
    · exact h.free j h1 h3
    · obtain rfl : j = k := by omega
      rw [hb]; exact fun e => hne (Option.some.inj e), by have := h.many; omega⟩
theorem Scan.piece {l : List UInt8} {n f k : Nat} (h : Scan l n f k) (hb : l[k]? = some 46) : pcs 46 (l.drop f) = (l.drop f).take (k - f) :: pcs 46 (l.drop (k + 1)) := by
  have hle := h.le
  have := pcs_hit 46 (k - f) (l.drop f) (fun j hj => by rw [List.getElem?_drop]; exact h.free (f + j) (by omega) (by omega)) (by rw [List.getElem?_drop, show f + (k - f) = k by omega]; exact hb)
  rw [List.drop_drop, show f + (k - f + 1) = k + 1 by omega] at this
  exact this
theorem Scan.hit {l : List UInt8} {n f k : Nat} (h : Scan l n f k) (hb : l[k]? = some 46) (hp : partL ((l.drop f).take (k - f)) = true) : Scan l (n + 1) (k + 1) (k + 1) := by
  have e := h.piece hb
  refine ⟨Nat.le_refl _, ?_, ?_, fun j h1 h2 => by omega, by have := h.many; omega⟩
  · rw [h.all, e, List.all_cons, hp, Bool.true_and]
  · have := h.len; rw [e, List.length_cons] at this; omega
theorem Scan.bad {l : List UInt8} {n f k : Nat} (h : Scan l n f k) (hb : l[k]? = some 46) (hp : partL ((l.drop f).take (k - f)) = false) : nameL l = false := by
  unfold nameL
  rw [h.all, h.piece hb, List.all_cons, hp, Bool.false_and, Bool.and_false]
theorem Scan.last {l : List UInt8} {n f : Nat} (h : Scan l n f l.length) : nameL l = (decide (l.length ≤ 32) && decide (n ≤ 3) && partL (l.drop f)) := by
  have e : pcs 46 (l.drop f) = [l.drop f] := pcs_none 46 _ fun j => by
    rw [List.getElem?_drop]
    rcases Nat.lt_or_ge (f + j) l.length with h1 | h1
    · exact h.free _ (by omega) h1
    · rw [List.getElem?_eq_none h1]; simp
  have hl := h.len
  rw [e] at hl
  simp at hl
  unfold nameL
  rw [h.all, e]
  simp [hl]

theorem extract_toList (s : ByteArray) (a b : Nat) : (s.extract a b).data.toList = (s.data.toList.drop a).take (b - a) := by
  rw [Lib.extract_data]
theorem extract_size_le (s : ByteArray) (a b : Nat) : (s.extract a b).size ≤ s.size := by
  rw [ByteArray.size_extract]; omega

end Go.Proofs.YtkbamhecbfocbaaGreatDoor.gl
