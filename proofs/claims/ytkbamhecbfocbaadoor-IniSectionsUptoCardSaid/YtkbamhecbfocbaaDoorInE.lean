/- Plain laws of tinderboxlaw06: one line's file; lines cut into sections; the weight of lines. No program in sight; no conditions beside those stated. -/
import Derived.Test.YtkbamhecbfocbaaDoorInB
namespace Go.Proofs.YtkbamhecbfocbaaDoor.ini
open gl

theorem Oks_mem : ∀ (l done : List Ln), Oks done l → ∀ x ∈ l, nameL x.name = true ∧ x.text.length ≤ 200
  | [], _, _, x, hx => by cases hx
  | y :: r, done, h, x, hx => by
    obtain ⟨h1, h2⟩ := h
    rcases List.mem_cons.1 hx with rfl | hx
    · obtain ⟨a, _, b⟩ := may_parts h1
      exact ⟨a, b⟩
    · exact Oks_mem r _ h2 x hx
theorem flat_le {x : Ln} : ∀ {l : List Ln}, x ∈ l → (lineOut x).length ≤ (l.flatMap lineOut).length
  | [], h => by cases h
  | y :: r, h => by
    rw [List.flatMap_cons, List.length_append]
    rcases List.mem_cons.1 h with rfl | h
    · omega
    · have := flat_le h; omega
/-- One line of lines that may be, by itself. -/
theorem print_one {l : List Ln} {x : Ln} (h : (printL l).2 = 0) (hx : x ∈ l) (n : Int) : printL [⟨x.name, x.text, n⟩] = (lineOut x, 0) := by
  rcases printL_two l with h1 | ⟨h1, h2, h3⟩
  · rw [h1] at h; simp at h
  · obtain ⟨a, b⟩ := Oks_mem l [] h2 x hx
    have hle := flat_le hx
    have hm : mayL [] ⟨x.name, x.text, n⟩ = true := by simp [mayL, a, b, there]
    have e : lineOut ⟨x.name, x.text, n⟩ = lineOut x := rfl
    show prL [] [] [⟨x.name, x.text, n⟩] = _
    rw [prL, if_pos ⟨hm, by rw [e]; simp; omega⟩, prL, e]
    rfl
theorem line_tail (x : Ln) : (lineOut x).drop x.name.length = [32, 61, 32] ++ textL x.text ++ [10] := by
  unfold lineOut headL
  simp
theorem secAll_snoc : ∀ (l : List (Ln × (List UInt8 × List UInt8))) (p : Ln × (List UInt8 × List UInt8)), secAll (l ++ [p]) = secAll l ++ secLine p.1 p.2
  | [], p => by simp [secAll]
  | q :: r, p => by simp [secAll, secAll_snoc r p]
theorem secLine_of (x : Ln) (c : List UInt8 × List UInt8) : [91] ++ c.1 ++ [93, 10] ++ c.2 ++ (lineOut x).drop x.name.length = secLine x c := by
  rw [line_tail]
  simp [secLine]
theorem cutOk_at {x : Ln} {k : Nat} (h : x.name[k]? = some 46) : cutOk x (x.name.take k, x.name.drop (k + 1)) := by
  refine .inr ?_
  have hlt : k < x.name.length := (List.getElem?_eq_some_iff.1 h).1
  have e := List.take_append_drop k x.name
  rw [List.drop_eq_getElem_cons hlt] at e
  rw [List.getElem?_eq_getElem hlt] at h
  rw [Option.some.inj h] at e
  exact e.symm

/-! ### The points of a name -/
def pts : Nat → List UInt8 → List Nat
  | _, [] => []
  | k, b :: r => if b = 46 then k :: pts (k + 1) r else pts (k + 1) r
theorem pts_mem : ∀ (l : List UInt8) (k j : Nat), j ∈ pts k l → k ≤ j ∧ l[j - k]? = some 46
  | [], k, j, h => by simp [pts] at h
  | b :: r, k, j, h => by
    unfold pts at h
    split at h
    · rename_i hb
      rcases List.mem_cons.1 h with rfl | h
      · exact ⟨Nat.le_refl _, by simp [hb]⟩
      · obtain ⟨h1, h2⟩ := pts_mem r (k + 1) j h
        exact ⟨by omega, by rw [show j - k = (j - (k + 1)) + 1 by omega, List.getElem?_cons_succ]; exact h2⟩
    · obtain ⟨h1, h2⟩ := pts_mem r (k + 1) j h
      exact ⟨by omega, by rw [show j - k = (j - (k + 1)) + 1 by omega, List.getElem?_cons_succ]; exact h2⟩

/-! ### The weight of lines -/
def pickV (c n : Int) : Int := (if c < 0 then -(c + 1) else c) % n
theorem pickV_bd (c n : Int) (hn : 0 < n) : 0 ≤ pickV c n ∧ pickV c n < n := by
  unfold pickV
  exact ⟨Int.emod_nonneg _ (by omega), Int.emod_lt_of_pos _ hn⟩
def addV (n m : Int) : Int := if m > 2147483647 - n then 2147483648 else n + m
theorem addV_bd (n m : Int) (hn : 0 ≤ n) (hm : 0 ≤ m) : 0 ≤ addV n m ∧ addV n m ≤ 2147483648 := by unfold addV; split <;> omega
theorem addV_lo {n m : Int} (_hn : 0 ≤ n) (_hm : 0 ≤ m) (h : addV n m ≤ 2147483647) : addV n m = n + m ∧ n + m ≤ 2147483647 := by
  unfold addV at h ⊢
  split at h
  · omega
  · rename_i h1
    rw [if_neg h1]
    omega
def oneW (x : Ln) : Int := addV (addV x.name.length 10) (4 * min (x.text.length : Int) 2147483647)
def wtV : List Ln → Int → Int
  | [], n => n
  | x :: r, n => if n ≤ 2147483647 then wtV r (addV n (oneW x)) else n
def ws (l : List Ln) : Nat := (l.map fun x => x.name.length + 10 + 4 * x.text.length).sum
theorem ws_cons (x : Ln) (l : List Ln) : ws (x :: l) = (x.name.length + 10 + 4 * x.text.length) + ws l := by simp [ws]
theorem oneW_bd (x : Ln) : 0 ≤ oneW x ∧ oneW x ≤ 2147483648 := by
  have h := addV_bd (x.name.length : Int) 10 (by omega) (by omega)
  exact addV_bd _ _ h.1 (by omega)
theorem oneW_lo {x : Ln} (h : oneW x ≤ 2147483647) : oneW x = x.name.length + 10 + 4 * x.text.length := by
  have b := addV_bd (x.name.length : Int) 10 (by omega) (by omega)
  obtain ⟨h1, h2⟩ := addV_lo b.1 (by omega) h
  obtain ⟨h3, h4⟩ := addV_lo (n := (x.name.length : Int)) (m := 10) (by omega) (by omega) (by omega)
  unfold oneW
  rw [h1, h3]
  omega
theorem wtV_ge : ∀ (l : List Ln) (n : Int), 0 ≤ n → 0 ≤ wtV l n
  | [], n, h => h
  | x :: r, n, h => by
    unfold wtV
    split
    · exact wtV_ge r _ (addV_bd _ _ h (oneW_bd x).1).1
    · exact h
theorem wtV_le : ∀ (l : List Ln) (n : Int), 0 ≤ n → n ≤ 2147483648 → wtV l n ≤ 2147483648
  | [], n, _, h => h
  | x :: r, n, h0, h => by
    unfold wtV
    split
    · have b := addV_bd n _ h0 (oneW_bd x).1
      exact wtV_le r _ b.1 b.2
    · exact h
theorem wt_sum : ∀ (l : List Ln) (n : Int), 0 ≤ n → wtV l n ≤ 2147483647 → wtV l n = n + ws l
  | [], n, _, _ => by simp [wtV, ws]
  | x :: r, n, h0, h => by
    rw [ws_cons]
    unfold wtV at h ⊢
    by_cases hn : n ≤ 2147483647
    · rw [if_pos hn] at h ⊢
      have b := addV_bd n _ h0 (oneW_bd x).1
      have e := wt_sum r _ b.1 h
      obtain ⟨e1, e2⟩ := addV_lo h0 (oneW_bd x).1 (by rw [e] at h; omega)
      rw [e, e1, oneW_lo (by omega)]
      omega
    · rw [if_neg hn] at h; omega
theorem ws_len : ∀ l : List Ln, 10 * l.length ≤ ws l
  | [] => by simp [ws]
  | x :: r => by have := ws_len r; rw [ws_cons, List.length_cons]; omega
theorem ws_mem {x : Ln} : ∀ {l : List Ln}, x ∈ l → x.name.length + 10 + 4 * x.text.length ≤ ws l
  | [], h => by cases h
  | y :: r, h => by
    rw [ws_cons]
    rcases List.mem_cons.1 h with rfl | h
    · omega
    · have := ws_mem h; omega
end Go.Proofs.YtkbamhecbfocbaaDoor.ini
