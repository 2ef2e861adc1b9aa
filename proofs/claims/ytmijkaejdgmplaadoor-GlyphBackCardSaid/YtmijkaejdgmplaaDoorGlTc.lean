/- tinderboxlaw02.GlyphBack returns true of any two texts. Conditions: the two tables of package glyph hold what the program's text lays. -/
import Derived.Test.YtmijkaejdgmplaaDoorGlTa
import Derived.BigQuiet
import Derived.Deep.QuietTactic
namespace Go.Proofs.YtmijkaejdgmplaaDoor.gl
open Go.ChangeShapes Go.WideShapes Go.ChangeAt Go.RowKit

theorem quoteL_le (l : List UInt8) : (quoteL l).length ≤ 4 * l.length + 2 := by
  have h : ∀ l : List UInt8, (l.flatMap qB).length ≤ 4 * l.length := by
    intro l
    induction l with
    | nil => simp
    | cons c r ih => have := qB_le c; simp only [List.flatMap_cons, List.length_append, List.length_cons]; omega
  have := h l
  simp only [quoteL, List.length_cons, List.length_append, List.length_nil]
  omega
theorem quoteL_ge (l : List UInt8) : l.length ≤ (quoteL l).length := by
  have h1 : ∀ c : UInt8, 1 ≤ (qB c).length := by
    intro c
    have := qB_ne c []
    rw [List.append_nil] at this
    exact List.length_pos_iff.2 this
  have h : ∀ l : List UInt8, l.length ≤ (l.flatMap qB).length := by
    intro l
    induction l with
    | nil => simp
    | cons c r ih => have := h1 c; simp only [List.flatMap_cons, List.length_append, List.length_cons]; omega
  have := h l
  simp only [quoteL, List.length_cons, List.length_append, List.length_nil]
  omega
theorem qB_print : ∀ n : Nat, n < 256 → ∀ b ∈ qB (UInt8.ofNat n), 32 ≤ b.toNat ∧ b.toNat ≤ 126 := by decide +kernel
theorem quoteL_print (l : List UInt8) : ∀ b ∈ quoteL l, 32 ≤ b.toNat ∧ b.toNat ≤ 126 := by
  intro b hb
  simp only [quoteL, List.mem_cons, List.mem_append, List.mem_flatMap, List.not_mem_nil, or_false] at hb
  rcases hb with rfl | ⟨c, _, hc⟩ | rfl
  · decide
  · have := qB_print c.toNat c.toNat_lt
    rw [UInt8.ofNat_toNat] at this
    exact this b hc
  · decide
theorem foldB_twice : ∀ n : Nat, n < 256 → foldB (foldB (UInt8.ofNat n)) = foldB (UInt8.ofNat n) := by decide +kernel
theorem foldL_twice (l : List UInt8) : foldL (foldL l) = foldL l := by
  unfold foldL
  rw [List.map_map]
  apply List.map_congr_left
  intro b _
  have := foldB_twice b.toNat b.toNat_lt
  rw [UInt8.ofNat_toNat] at this
  exact this
theorem partL_wb {p : List UInt8} (h : partL p = true) : p ≠ [] ∧ ∀ b ∈ p, wb b.toNat = true := by
  cases p with
  | nil => cases h
  | cons c r =>
    simp only [partL, Bool.and_eq_true, decide_eq_true_eq, List.all_eq_true] at h
    refine ⟨by simp, fun b hb => ?_⟩
    unfold wb
    rw [decide_eq_true_eq]
    rcases List.mem_cons.1 hb with rfl | hb
    · exact Or.inl h.1
    · rcases h.2 b hb with h | h
      · exact Or.inl h
      · exact Or.inr (Or.inl h)
theorem wb_dot : wb ((46 : UInt8).toNat : Int) = true := by decide
theorem mem_pcs (sep : UInt8) : ∀ (l : List UInt8) (b : UInt8), b ∈ l → b = sep ∨ ∃ p ∈ pcs sep l, b ∈ p
  | c :: r, b, hb => by
    by_cases hc : c = sep
    · rcases List.mem_cons.1 hb with rfl | hb
      · exact Or.inl hc
      · rcases mem_pcs sep r b hb with h | ⟨p, hp, hbp⟩
        · exact Or.inl h
        · exact Or.inr ⟨p, by unfold pcs; rw [if_pos hc]; exact List.mem_cons_of_mem _ hp, hbp⟩
    · obtain ⟨q, qs, hq⟩ := List.exists_cons_of_ne_nil (pcs_ne sep r)
      rw [pcs_other hc hq]
      rcases List.mem_cons.1 hb with rfl | hb
      · exact Or.inr ⟨_, .head _, .head _⟩
      · rcases mem_pcs sep r b hb with h | ⟨p, hp, hbp⟩
        · exact Or.inl h
        · rw [hq] at hp
          rcases List.mem_cons.1 hp with rfl | hp
          · exact Or.inr ⟨_, .head _, List.mem_cons_of_mem _ hbp⟩
          · exact Or.inr ⟨p, List.mem_cons_of_mem _ hp, hbp⟩
theorem name_word {l : List UInt8} (h : nameL l = true) : wordL l = true := by
  simp only [nameL, Bool.and_eq_true, decide_eq_true_eq, List.all_eq_true] at h
  obtain ⟨⟨h32, _⟩, hp⟩ := h
  have hne : l ≠ [] := by
    rintro rfl
    exact (partL_wb (hp [] (by simp [pcs]))).1 rfl
  simp only [wordL, Bool.and_eq_true, decide_eq_true_eq, List.all_eq_true]
  refine ⟨fun b hb => ?_, List.length_pos_iff.2 hne, h32⟩
  rcases mem_pcs 46 l b hb with rfl | ⟨p, hpm, hbp⟩
  · exact wb_dot
  · exact (partL_wb (hp p hpm)).2 b hbp
theorem ba_list (l : List UInt8) : (⟨l.toArray⟩ : ByteArray).data.toList = l := by simp
theorem ba_size (l : List UInt8) : (⟨l.toArray⟩ : ByteArray).size = l.length := by show l.toArray.size = l.length; exact List.size_toArray
theorem ba_self (s : ByteArray) : (⟨s.data.toList.toArray⟩ : ByteArray) = s := by cases s; simp
theorem ba_len (s : ByteArray) : s.data.toList.length = s.size := by show s.data.toList.length = s.data.size; exact Array.length_toList

/-- What unquoting brings: the text that was quoted, or nothing. -/
theorem unq_two (l : List UInt8) : (unqE l = 0 ∧ quoteL (unqL l) = l) ∨ (unqE l = 20 ∧ unqL l = []) := by
  by_cases h : ∃ x, quoteL x = l
  · obtain ⟨x, hx⟩ := h
    obtain ⟨h1, h2⟩ := unqL_yes hx
    exact Or.inl ⟨h2, by rw [h1]; exact hx⟩
  · obtain ⟨h1, h2⟩ := unqL_no (l := l) fun x hx => h ⟨x, hx⟩
    exact Or.inr ⟨h2, h1⟩
theorem unq_le (l : List UInt8) : (unqL l).length ≤ l.length := by
  rcases unq_two l with ⟨_, h⟩ | ⟨_, h⟩
  · have := quoteL_ge (unqL l)
    rw [h] at this
    exact this
  · rw [h]; simp
theorem cls_fold (b : UInt8) : (65 ≤ b.toNat ∧ b.toNat ≤ 90 ∧ cls b.toNat = 2 ∧ cls (foldB b).toNat = 1 ∧ ((foldB b).toNat : Int) = b.toNat + 32) ∨ (foldB b = b ∧ (cls b.toNat == 2) = false) := by
  by_cases h : 65 ≤ b.toNat ∧ b.toNat ≤ 90
  · have e := foldB_great h
    refine Or.inl ⟨h.1, h.2, ?_, ?_, e⟩
    · unfold cls; rw [if_neg (by omega), if_pos (by omega)]
    · unfold cls; rw [if_pos (by omega)]
  · refine Or.inr ⟨foldB_other h, ?_⟩
    have : cls b.toNat ≠ 2 := by
      unfold cls
      repeat' split
      all_goals omega
    simpa using this
end Go.Proofs.YtmijkaejdgmplaaDoor.gl
