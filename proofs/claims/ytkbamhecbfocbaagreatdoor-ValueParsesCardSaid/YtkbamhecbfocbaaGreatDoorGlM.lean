/- glyph.IsName returns the plain function of bytes. Conditions: the tables hold what the text lays; the text is no longer than 2147483647 bytes. -/
import Derived.Test.YtkbamhecbfocbaaGreatDoorGlN
import Derived.Test.YtkbamhecbfocbaaGreatDoorShelf
namespace Go.Proofs.YtkbamhecbfocbaaGreatDoor.gl
open Go.ChangeShapes Go.WideShapes Go.ChangeAt Go.RowKit

theorem split_any (sep : UInt8) (s : ByteArray) (hs : s.size ≤ 2147483647) (w : World) (hG : Glo w) :
    Calls Tryz.prog 49 #[.string s, .string ⟨#[sep]⟩] w fun e w' => ∃ ps : List ByteArray, ps.map (·.data.toList) = pcs sep s.data.toList ∧
      e = .returned (.slice (some ⟨w.heap.size, 0, none⟩) ps.length ps.length) ∧ Below w.heap.size w w' ∧ w.heap.size < w'.heap.size ∧ (∀ k p, ps[k]? = some p → w'.cell? ⟨w.heap.size, k, none⟩ = some (.string p)) := by
  obtain ⟨m, hm⟩ := hG.maxLen
  refine (Tryz.strings_Split s ⟨#[sep]⟩ m w (by omega) hm (by simp [ByteArray.size])).mono ?_
  rintro e w' ⟨he, rfl⟩
  have hl : (Lib.splitB ⟨#[sep]⟩ 0 (Lib.countB s ⟨#[sep]⟩) s).length = Lib.countB s ⟨#[sep]⟩ + 1 := Lib.splitB_all _ (by simp [ByteArray.size]) 0 _ s rfl
  refine ⟨_, splitB_pcs sep s, by rw [he, hl], (Below.refl _ _).alloc (Nat.le_refl _) _, by simp, fun k p hk => ?_⟩
  rw [cell_of_row _ _ _ _ _ _ (heap_alloc_new w _)]
  simp [hk]

theorem pieceAt {ps : List ByteArray} {L : List (List UInt8)} (h : ps.map (·.data.toList) = L) (k : Nat) (hk : k < ps.length) : ∃ p : ByteArray, ps[k]? = some p ∧ L[k]? = some p.data.toList :=
  ⟨ps[k], List.getElem?_eq_getElem hk, by rw [← h, List.getElem?_map, List.getElem?_eq_getElem hk]; rfl⟩

theorem all_false_of {L : List (List UInt8)} {k : Nat} {p : List UInt8} (h : L[k]? = some p) (hp : partL p = false) : L.all partL = false := by
  rw [List.all_eq_false]
  exact ⟨p, List.mem_of_getElem? h, by simp [hp]⟩
theorem nameL_bad {l : List UInt8} {k : Nat} {p : List UInt8} (h : (pcs 46 l)[k]? = some p) (hp : partL p = false) : nameL l = false := by
  unfold nameL
  rw [all_false_of h hp, Bool.and_false]
def allTo (L : List (List UInt8)) (k : Nat) : Prop := ∀ j p, j < k → L[j]? = some p → partL p = true
theorem allTo_succ {L : List (List UInt8)} {k : Nat} {p : List UInt8} (h : allTo L k) (hp : L[k]? = some p) (ht : partL p = true) : allTo L (k + 1) := by
  intro j q hj hq
  rcases Nat.lt_or_ge j k with h1 | h1
  · exact h j q h1 hq
  · obtain rfl : j = k := by omega
    rw [hp] at hq
    obtain rfl := Option.some.inj hq
    exact ht
theorem allTo_all {L : List (List UInt8)} (h : allTo L L.length) : L.all partL = true := by
  rw [List.all_eq_true]
  intro p hp
  obtain ⟨j, hj⟩ := List.mem_iff_getElem?.1 hp
  exact h j p (by
    rcases Nat.lt_or_ge j L.length with h1 | h1
    · exact h1
    · rw [List.getElem?_eq_none h1] at hj; cases hj) hj
theorem partTo_full {l : List UInt8} {b : UInt8} (h0 : l[0]? = some b) (h1 : cls b.toNat = 1) (h : ∀ (j : Nat) (c : UInt8), l[j]? = some c → cls c.toNat = 1 ∨ cls c.toNat = 3) : partL l = true := by
  have hlen : 0 < l.length := by
    rcases Nat.eq_zero_or_pos l.length with h | h
    · rw [List.getElem?_eq_none (by omega)] at h0; cases h0
    · exact h
  rw [part_end (fun j c _ hc => by
    rcases h j c hc with h2 | h2
    · exact .inl h2
    · refine .inr ⟨?_, h2⟩
      rintro rfl
      rw [h0] at hc
      obtain rfl := Option.some.inj hc
      omega)]
  cases l with
  | nil => simp at hlen
  | cons => rfl

theorem toList_nil {p : ByteArray} (h : p.size = 0) : p.toList = [] := by
  rw [ByteArray.toList_eq]
  exact List.eq_nil_of_length_eq_zero (by simpa using h)
theorem toList_ne {p : ByteArray} (h : p.size ≠ 0) : p.toList.isEmpty = false := by
  rw [ByteArray.toList_eq]
  cases hl : p.data.toList with
  | nil => exact absurd (by have := congrArg List.length hl; simpa using this) h
  | cons => rfl
/-- The bytes before j are small letters or digits. -/
def wordTo (l : List UInt8) (j : Nat) : Prop := ∀ (i : Nat) (c : UInt8), i < j → l[i]? = some c → cls c.toNat = 1 ∨ cls c.toNat = 3
theorem wordTo_succ {l : List UInt8} {j : Nat} {b : UInt8} (h : wordTo l j) (hb : l[j]? = some b) (hc : cls b.toNat = 1 ∨ cls b.toNat = 3) : wordTo l (j + 1) := by
  intro i c hi hic
  rcases Nat.lt_or_ge i j with h1 | h1
  · exact h i c h1 hic
  · obtain rfl : i = j := by omega
    rw [hb] at hic
    obtain rfl := Option.some.inj hic
    exact hc
theorem part_bad' {l : List UInt8} {k : Nat} {b : UInt8} (hb : l[k]? = some b) (h1 : cls b.toNat ≠ 1) (h2 : cls b.toNat ≠ 3) : partL l = false := part_bad hb h1 (.inr h2)
theorem lt_of_get {α : Type} {l : List α} {j : Nat} {c : α} (h : l[j]? = some c) : j < l.length := by
  rcases Nat.lt_or_ge j l.length with h1 | h1
  · exact h1
  · rw [List.getElem?_eq_none h1] at h; cases h

end Go.Proofs.YtkbamhecbfocbaaGreatDoor.gl
