/- Plain laws of tinderboxlaw03.CodecAgain: what is taken up is laid down as just the bytes that were taken. No program in sight; no conditions. -/
import Derived.Test.YtmijkaejdgmplaaDoorCoZ
namespace Go.Proofs.YtmijkaejdgmplaaDoor.co

theorem size_lit (l : List UInt8) : (⟨l.toArray⟩ : ByteArray).size = l.length := rfl
def agR (r : Rst) (o : OpD) : Rst := if o.kind = 2 then (r.text o.n).2 else r.num.2
def agW (r : Rst) (s : Wst) (o : OpD) : Wst := if o.kind = 2 then s.text (r.text o.n).1 else s.num (r.num.1 : Nat)

theorem nxt_err : ∀ (f i n : Nat) (l : List UInt8), (nxt f i n l).2.2 ≠ 0 → nxt f i n l = (0, 0, 30) ∨ nxt f i n l = (0, 0, 32)
  | 0, _, _, _, _ => .inl rfl
  | _ + 1, _, _, [], _ => .inr rfl
  | f + 1, i, n, b :: r, h => by
    simp only [nxt] at h ⊢
    split
    · rename_i h1
      rw [if_pos h1] at h
      exact nxt_err f _ _ r h
    · rename_i h1
      rw [if_neg h1] at h
      split
      · exact .inl rfl
      · rename_i h2
        rw [if_neg h2] at h
        exact absurd rfl h
theorem num_ok {l : List UInt8} (h : (⟨l, 0⟩ : Rst).num.2.err = 0) : ∃ m k, (⟨l, 0⟩ : Rst).num = (m, ⟨l.drop k, 0⟩) ∧ l = rowL m ++ l.drop k ∧ k = (rowL m).length ∧ m ≤ 4611686018427387904 := by
  have e : (⟨l, 0⟩ : Rst).num = ((nxt 9 0 0 l).1, ⟨l.drop (nxt 9 0 0 l).2.1, (nxt 9 0 0 l).2.2⟩) := by unfold Rst.num; rw [if_pos rfl]
  rw [e] at h ⊢
  simp only at h
  obtain ⟨m, k, e'⟩ : ∃ m k, nxt 9 0 0 l = (m, k, 0) := ⟨_, _, by rw [← h]⟩
  rw [e']
  obtain ⟨x, h1, h2, h3, h4, h5, h6⟩ := nxt_ok 9 0 0 l m k e'
  simp only [Nat.pow_zero, Nat.mul_one, Nat.zero_add, Nat.sub_zero] at h1 h3 h4
  subst h4
  exact ⟨_, k, rfl, h1, h3, h6⟩
theorem num_bad {l : List UInt8} (h : (⟨l, 0⟩ : Rst).num.2.err ≠ 0) : (⟨l, 0⟩ : Rst).num = (0, ⟨l, 30⟩) ∨ (⟨l, 0⟩ : Rst).num = (0, ⟨l, 32⟩) := by
  have e : (⟨l, 0⟩ : Rst).num = ((nxt 9 0 0 l).1, ⟨l.drop (nxt 9 0 0 l).2.1, (nxt 9 0 0 l).2.2⟩) := by unfold Rst.num; rw [if_pos rfl]
  rw [e] at h ⊢
  rcases nxt_err 9 0 0 l h with e' | e'
  · rw [e']; exact .inl rfl
  · rw [e']; exact .inr rfl
theorem lay_take {l : List UInt8} {j k : Nat} {row : List UInt8} (hj : j ≤ l.length) (hk : (l.drop j).take k = row) (hk2 : k ≤ (l.drop j).length) : (⟨l.take j, l.length, 0⟩ : Wst).lay row = ⟨l.take (j + k), l.length, 0⟩ ∧ j + k ≤ l.length := by
  rw [List.length_drop] at hk2
  have hlen : row.length = k := by rw [← hk, List.length_take, List.length_drop]; omega
  unfold Wst.lay
  rw [if_pos rfl, if_neg (by simp only [List.length_take]; omega), ← hk, ← List.take_add]
  exact ⟨rfl, by omega⟩

theorem again_step {l : List UInt8} {j : Nat} (hj : j ≤ l.length) (o : OpD) (h : (agR ⟨l.drop j, 0⟩ o).err = 0) :
    ∃ j', j' ≤ l.length ∧ agR ⟨l.drop j, 0⟩ o = ⟨l.drop j', 0⟩ ∧ agW ⟨l.drop j, 0⟩ ⟨l.take j, l.length, 0⟩ o = ⟨l.take j', l.length, 0⟩ := by
  unfold agR at h ⊢
  unfold agW
  have hnum : ∀ (m k : Nat), l.drop j = rowL m ++ (l.drop j).drop k → k = (rowL m).length → (l.drop j).take k = rowL m ∧ k ≤ (l.drop j).length := by
    intro m k h1 h2
    have hl : k ≤ (l.drop j).length := by rw [h1, List.length_append]; omega
    refine ⟨?_, hl⟩
    conv => lhs; rw [h1]
    rw [h2, List.take_left]
  by_cases hk : o.kind = 2
  · rw [if_pos hk] at h ⊢
    rw [if_pos hk]
    unfold Rst.text at h ⊢
    simp only at h ⊢
    by_cases h0 : (⟨l.drop j, 0⟩ : Rst).num.2.err = 0
    · obtain ⟨m, k, e1, e2, e3, e4⟩ := num_ok h0
      rw [e1] at h ⊢
      simp only [if_true] at h ⊢
      obtain ⟨t1, t2⟩ := hnum m k e2 e3
      by_cases hb : (m : Int) > o.n ∨ m > 65535
      · rw [if_pos hb] at h
        simp at h
      · rw [if_neg hb] at h ⊢
        by_cases hs : m > ((l.drop j).drop k).length
        · rw [if_pos hs] at h
          simp at h
        · rw [if_neg hs]
          simp only
          have hm : m ≤ ((l.drop j).drop k).length := by omega
          have e5 : (l.drop j).take (k + m) = rowL m ++ ((l.drop j).drop k).take m := by rw [List.take_add, t1]
          have hle : k + m ≤ (l.drop j).length := by rw [List.length_drop] at hm; omega
          obtain ⟨w1, w2⟩ := lay_take hj e5 hle
          refine ⟨j + (k + m), w2, by simp [List.drop_drop, Nat.add_assoc], ?_⟩
          unfold Wst.text
          have hlm : (((l.drop j).drop k).take m).length = m := by rw [List.length_take]; omega
          rw [if_neg (by rw [hlm]; omega), hlm]
          exact w1
    · rcases num_bad h0 with e | e
      · rw [e] at h; simp at h
      · rw [e] at h; simp at h
  · rw [if_neg hk] at h ⊢
    rw [if_neg hk]
    obtain ⟨m, k, e1, e2, e3, e4⟩ := num_ok h
    rw [e1]
    obtain ⟨t1, t2⟩ := hnum m k e2 e3
    obtain ⟨w1, w2⟩ := lay_take hj t1 t2
    refine ⟨j + k, w2, by simp [List.drop_drop], ?_⟩
    unfold Wst.num
    rw [if_neg (by omega), Int.toNat_natCast]
    exact w1

theorem again_err (l : List UInt8) (o : OpD) (h : (agR ⟨l, 0⟩ o).err ≠ 0) : (agR ⟨l, 0⟩ o).err = 30 ∨ (agR ⟨l, 0⟩ o).err = 31 ∨ (agR ⟨l, 0⟩ o).err = 32 := by
  unfold agR at h ⊢
  by_cases hk : o.kind = 2
  · rw [if_pos hk] at h ⊢
    unfold Rst.text at h ⊢
    simp only at h ⊢
    by_cases h0 : (⟨l, 0⟩ : Rst).num.2.err = 0
    · rw [if_pos h0] at h ⊢
      split
      · exact .inr (.inl rfl)
      · split
        · exact .inr (.inr rfl)
        · rename_i h1 h2
          rw [if_neg h1, if_neg h2] at h
          exact absurd h0 h
    · rw [if_neg h0]
      rcases num_bad h0 with e | e
      · rw [e]; exact .inl rfl
      · rw [e]; exact .inr (.inr rfl)
  · rw [if_neg hk] at h ⊢
    rcases num_bad h with e | e
    · rw [e]; exact .inl rfl
    · rw [e]; exact .inr (.inr rfl)
theorem err_num {r : Rst} (h : r.err ≠ 0) : r.num = (0, r) := by unfold Rst.num; rw [if_neg h]
theorem err_text {r : Rst} (h : r.err ≠ 0) (n : Int) : r.text n = ([], r) := by unfold Rst.text; simp only [err_num h]; rw [if_neg h]
theorem err_left {r : Rst} (h : r.err ≠ 0) : r.left = 0 := by unfold Rst.left; rw [if_neg h]
theorem err_done {r : Rst} (h : r.err ≠ 0) : r.done = r.err := by unfold Rst.done; rw [if_neg h]
theorem ok_done (l : List UInt8) : (⟨l, 0⟩ : Rst).done = 0 ∨ (⟨l, 0⟩ : Rst).done = 33 := by
  unfold Rst.done
  simp only [if_true]
  split
  · exact .inl rfl
  · exact .inr rfl
theorem text_len (r : Rst) (n : Int) : (r.text n).1.length ≤ 65535 := by
  unfold Rst.text
  simp only
  split
  · split
    · simp
    · split
      · simp
      · rename_i h1 h2 h3
        simp only [List.length_take]
        omega
  · simp
theorem num_len (r : Rst) : r.num.1 ≤ 4611686018427387904 := by
  unfold Rst.num
  split
  · exact nxt_max 9 0 0 _
  · simp
theorem sizeV_bd : ∀ (l : List OpD) (n : Int), 0 ≤ n → n ≤ 2147483648 → 0 ≤ sizeV l n ∧ sizeV l n ≤ 2147483648
  | [], n, h1, h2 => ⟨h1, h2⟩
  | o :: r, n, h1, h2 => by
    rw [sizeV]
    split
    · have b1 := addV_bd n 100 h1 (by omega)
      have b2 := addV_bd (addV n 100) (o.s.size : Nat) b1.1 (by omega)
      exact sizeV_bd r _ b2.1 b2.2
    · exact ⟨h1, h2⟩
theorem num_rest (r : Rst) : r.num.2.rest.length ≤ r.rest.length := by
  unfold Rst.num
  split
  · simp
  · exact Nat.le_refl _
theorem text_rest (r : Rst) (n : Int) : (r.text n).2.rest.length ≤ r.rest.length := by
  have h := num_rest r
  unfold Rst.text
  simp only
  split
  · split
    · exact h
    · split
      · exact h
      · simp only [List.length_drop]; omega
  · exact h
theorem agR_rest (r : Rst) (o : OpD) : (agR r o).rest.length ≤ r.rest.length := by
  unfold agR
  split
  · exact text_rest _ _
  · exact num_rest _
end Go.Proofs.YtmijkaejdgmplaaDoor.co
