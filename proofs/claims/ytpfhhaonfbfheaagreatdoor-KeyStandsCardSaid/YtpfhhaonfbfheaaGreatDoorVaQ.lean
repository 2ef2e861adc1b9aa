/- tinderboxlaw04.addsUp and valueWeighs return plain functions of numbers; what is not too great is bounded in each part. Conditions: the value's words lie in memory. -/
import Derived.Test.YtpfhhaonfbfheaaGreatDoorVaO
namespace Go.Proofs.YtpfhhaonfbfheaaGreatDoor.va
open Go.ChangeShapes Go.WideShapes Go.ChangeAt Go.RowKit gl

/-- What an argument's reading gives: no part is greater than memory. -/
structure Vh (v : Val) : Prop where
  int0 : -9223372036854775808 ≤ v.int
  int1 : v.int ≤ 9223372036854775807
  text : v.text.size ≤ 9223372036854775807
  words : v.words.length ≤ 9223372036854775807
  each : ∀ x ∈ v.words, x.size ≤ 9223372036854775807

def adds (n m : Int) : Int := if 2147483647 < n ∨ 2147483647 < m then 2147483648 else n + m
def wloop (n : Int) : List ByteArray → Int
  | [] => n
  | x :: r => if n ≤ 2147483647 then wloop (adds n x.size) r else n
def weighs (v : Val) : Int := wloop (adds v.text.size v.words.length) v.words
def sz (l : List ByteArray) : Nat := (l.map (·.size)).sum
theorem adds_bd {n m : Int} (hn : 0 ≤ n) (hm : 0 ≤ m) : 0 ≤ adds n m ∧ adds n m ≤ 4294967294 := by unfold adds; split <;> omega
theorem wloop_bd : ∀ (l : List ByteArray) (n : Int), 0 ≤ n → n ≤ 4294967294 → 0 ≤ wloop n l ∧ wloop n l ≤ 4294967294
  | [], n, h0, h1 => ⟨h0, h1⟩
  | x :: r, n, h0, h1 => by
    unfold wloop
    split
    · have := adds_bd h0 (show (0 : Int) ≤ x.size by omega)
      exact wloop_bd r _ this.1 this.2
    · exact ⟨h0, h1⟩
theorem weighs_bd (v : Val) : 0 ≤ weighs v ∧ weighs v ≤ 4294967294 := by
  have := adds_bd (show (0 : Int) ≤ v.text.size by omega) (show (0 : Int) ≤ v.words.length by omega)
  exact wloop_bd _ _ this.1 this.2
theorem wloop_le : ∀ (l : List ByteArray) (n : Int), 0 ≤ n → wloop n l ≤ 2147483647 → n + sz l ≤ 2147483647
  | [], n, _, h => by simpa [wloop, sz] using h
  | x :: r, n, h0, h => by
    unfold wloop at h
    split at h
    · rename_i hn
      have hb := adds_bd h0 (show (0 : Int) ≤ x.size by omega)
      have := wloop_le r _ hb.1 h
      have h1 : adds n x.size = n + x.size := by
        unfold adds
        rw [if_neg]
        intro hx
        unfold adds at this
        rw [if_pos hx] at this
        omega
      rw [h1] at this
      simp only [sz, List.map_cons, List.sum_cons] at this ⊢
      omega
    · omega
theorem sz_mem {l : List ByteArray} {x : ByteArray} (h : x ∈ l) : x.size ≤ sz l := by
  induction l with
  | nil => cases h
  | cons y r ih =>
    simp only [sz, List.map_cons, List.sum_cons]
    rcases List.mem_cons.1 h with rfl | h
    · omega
    · have := ih h
      simp only [sz] at this
      omega
theorem lens_sz (l : List ByteArray) : Lib.lens (l.map (·.data.toList)) = sz l := by
  unfold Lib.lens sz
  rw [List.map_map]
  congr 1
theorem joined_cons (x : ByteArray) (r : List ByteArray) : (joined (x :: r)).length = r.length + sz (x :: r) := by
  unfold joined
  rw [List.map_cons, Lib.join_length, ← List.map_cons (f := fun y : ByteArray => y.data.toList), lens_sz, List.length_map]
  show 1 * r.length + _ = _
  rw [Nat.one_mul]
theorem joined_len (l : List ByteArray) : (joined l).length ≤ l.length + sz l := by
  cases l with
  | nil => simp [joined, Lib.join]
  | cons x r =>
    rw [joined_cons]
    simp only [List.length_cons]
    omega
/-- What is not too great is bounded in each part. -/
theorem vb_of {v : Val} (hh : Vh v) (h : weighs v ≤ 2147483647) : Vb v := by
  have hb := adds_bd (show (0 : Int) ≤ v.text.size by omega) (show (0 : Int) ≤ v.words.length by omega)
  have h1 := wloop_le _ _ hb.1 h
  have h2 : adds v.text.size v.words.length = v.text.size + v.words.length := by
    unfold adds at h1 ⊢
    split
    · rename_i hx
      rw [if_pos hx] at h1
      omega
    · rfl
  rw [h2] at h1
  have hj := joined_len v.words
  exact ⟨hh.int0, hh.int1, by omega, by omega, fun x hx => by have := sz_mem hx; omega, by omega⟩

theorem len_dec : ∀ (k u : Nat), u < 10 ^ (k + 1) → (Lib.decDigits u).length ≤ k + 1
  | 0, u, h => by rw [decDigits_lt (by omega)]; simp
  | k + 1, u, h => by
    by_cases h10 : u < 10
    · rw [decDigits_lt h10]; simp
    · rw [decDigits_ge h10]
      have := len_dec k (u / 10) (by rw [Nat.pow_succ] at h; omega)
      simp
      omega
theorem itoa_len {n : Int} (h0 : -9223372036854775808 ≤ n) (h1 : n ≤ 9223372036854775807) : (Lib.itoa n).length ≤ 20 := by
  by_cases h : n < 0
  · rw [itoa_neg h]
    have := len_dec 18 n.natAbs (by omega)
    simp
    omega
  · rw [itoa_pos h]
    have := len_dec 18 n.toNat (by omega)
    omega
theorem wordL_is : IsWord wordL := by
  refine ⟨fun l h => ?_, fun l h hc => ?_, fun l h => ?_⟩
  · rintro rfl
    exact absurd h (by decide)
  · unfold wordL at h
    simp only [Bool.and_eq_true, List.all_eq_true] at h
    exact absurd (h.1 44 hc) (by decide)
  · unfold wordL at h
    simp only [Bool.and_eq_true, decide_eq_true_eq] at h
    exact h.2.2
/-- What may be is not too great. -/
theorem vb_right {v : Val} (h : right wordL v = true) : Vb v := by
  have hw : ∀ {ws : List ByteArray}, ws = [] → ws.length ≤ 2147483647 ∧ (∀ x ∈ ws, x.size ≤ 2147483647) ∧ (joined ws).length ≤ 140737488355328 := by
    rintro ws rfl
    exact ⟨by simp, by simp, by simp [joined, Lib.join]⟩
  rcases right_cases h with ⟨hk, h1, h2, h3, h4⟩ | ⟨hk, h1, h2, h3, h4⟩ | ⟨hk, h1, h2, h3, h4⟩ | ⟨hk, h1, h2, h3, h4⟩ | ⟨hk, h1, h2, h3, h4, h5⟩
  · exact ⟨by omega, by omega, by rw [h3]; decide, (hw h4).1, (hw h4).2.1, (hw h4).2.2⟩
  · exact ⟨by omega, by omega, by rw [h3]; decide, (hw h4).1, (hw h4).2.1, (hw h4).2.2⟩
  · have hm : most v.kind ≤ 1125899906842624 := by rcases hk with hk | hk <;> rw [hk] <;> decide
    exact ⟨by omega, by omega, by rw [h3]; decide, (hw h4).1, (hw h4).2.1, (hw h4).2.2⟩
  · exact ⟨by omega, by omega, by omega, (hw h4).1, (hw h4).2.1, (hw h4).2.2⟩
  · exact ⟨by omega, by omega, by rw [h2]; decide, by omega, fun x hx => by
      have := wordL_is.size _ (List.all_eq_true.1 h4 x hx)
      rw [← Lib.size_eq] at this
      omega, by omega⟩
theorem prints_len {v : Val} (h : right wordL v = true) : (prints v).length ≤ 200 := by
  rcases right_cases h with ⟨hk, h1, h2, h3, h4⟩ | ⟨hk, h1, h2, h3, h4⟩ | ⟨hk, h1, h2, h3, h4⟩ | ⟨hk, h1, h2, h3, h4⟩ | ⟨hk, h1, h2, h3, h4, h5⟩
  · unfold prints
    rw [if_pos hk]
    split <;> simp
  · unfold prints
    rw [if_neg (by omega), if_pos hk]
    have := itoa_len (n := v.int) (by omega) (by omega)
    omega
  · have hm : most v.kind ≤ 1125899906842624 := by rcases hk with hk | hk <;> rw [hk] <;> decide
    unfold prints
    rw [if_neg (by omega), if_neg (by omega), if_neg (by omega), if_neg (by omega)]
    have hu := unit_uname v.kind (best v.kind v.int) hk (best_le _ _)
    have hq0 : 0 ≤ v.int / unit v.kind (uname v.kind (best v.kind v.int)) := Int.ediv_nonneg h1 (by omega)
    have hq1 : v.int / unit v.kind (uname v.kind (best v.kind v.int)) ≤ v.int := by
      have h6 := Int.mul_le_mul_of_nonneg_left hu hq0
      have h7 := Int.ediv_mul_le v.int (b := unit v.kind (uname v.kind (best v.kind v.int))) (by omega)
      omega
    have := itoa_len (n := v.int / unit v.kind (uname v.kind (best v.kind v.int))) (by omega) (by omega)
    have := uname_len v.kind (best v.kind v.int)
    rw [List.length_append]
    omega
  · unfold prints
    rw [if_neg (by omega), if_neg (by omega), if_pos hk, ← Lib.size_eq]
    exact h2
  · unfold prints
    rw [if_neg (by omega), if_neg (by omega), if_neg (by omega), if_pos hk]
    exact h5
end Go.Proofs.YtpfhhaonfbfheaaGreatDoor.va
