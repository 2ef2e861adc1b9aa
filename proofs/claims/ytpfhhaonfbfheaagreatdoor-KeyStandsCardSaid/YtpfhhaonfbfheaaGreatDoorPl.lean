/- Plain laws on lists of bytes: what stands between the separators, and that the library's split gives just that. No program in sight. -/
import Derived.Lib.SplitLaws
import Derived.Lib.Strings
namespace Go.Proofs.YtpfhhaonfbfheaaGreatDoor

/-- What stands between the separators. -/
def pcs (sep : UInt8) : List UInt8 → List (List UInt8)
  | [] => [[]]
  | c :: r => if c = sep then [] :: pcs sep r else match pcs sep r with
    | [] => [[c]]
    | p :: ps => (c :: p) :: ps
theorem pcs_ne (sep : UInt8) (l : List UInt8) : pcs sep l ≠ [] := by
  cases l with
  | nil => simp [pcs]
  | cons c r => unfold pcs; split; simp; split <;> simp
theorem pcs_other {sep c : UInt8} {r : List UInt8} {p : List UInt8} {ps : List (List UInt8)} (hc : c ≠ sep) (h : pcs sep r = p :: ps) : pcs sep (c :: r) = (c :: p) :: ps := by
  rw [pcs, if_neg hc, h]
theorem pcs_hit (sep : UInt8) : ∀ (m : Nat) (x : List UInt8), (∀ j, j < m → x[j]? ≠ some sep) → x[m]? = some sep → pcs sep x = x.take m :: pcs sep (x.drop (m + 1))
  | 0, [], _, h => by simp at h
  | 0, c :: r, _, h => by simp at h; subst h; simp [pcs]
  | m + 1, [], _, h => by simp at h
  | m + 1, c :: r, hn, h => by
    have hc : c ≠ sep := fun e => hn 0 (by omega) (by simp [e])
    exact pcs_other hc (pcs_hit sep m r (fun j hj => by have := hn (j + 1) (by omega); simpa using this) (by simpa using h))
theorem pcs_none (sep : UInt8) : ∀ (x : List UInt8), (∀ j : Nat, x[j]? ≠ some sep) → pcs sep x = [x]
  | [], _ => rfl
  | c :: r, hn => pcs_other (fun e => hn 0 (by simp [e])) (pcs_none sep r fun j => by have := hn (j + 1); simpa using this)
theorem pcs_length (sep : UInt8) : ∀ l : List UInt8, (pcs sep l).length = l.count sep + 1
  | [] => by simp [pcs]
  | c :: r => by
    have ih := pcs_length sep r
    by_cases h : c = sep
    · subst h
      simp [pcs, ih]
    · rw [List.count_cons_of_ne h]
      cases hp : pcs sep r with
      | nil => exact absurd hp (pcs_ne sep r)
      | cons p ps => rw [pcs_other h hp]; rw [hp] at ih; simpa using ih
theorem mem_pcs_le (sep : UInt8) : ∀ (l p : List UInt8), p ∈ pcs sep l → p.length ≤ l.length
  | [], p, h => by simp [pcs] at h; simp [h]
  | c :: r, p, h => by
    by_cases hc : c = sep
    · subst hc
      simp only [pcs, if_true, List.mem_cons] at h
      rcases h with rfl | h
      · simp
      · have := mem_pcs_le c r p h; simp; omega
    · cases hp : pcs sep r with
      | nil => exact absurd hp (pcs_ne sep r)
      | cons q ps =>
        rw [pcs_other hc hp] at h
        simp only [List.mem_cons] at h
        rcases h with rfl | h
        · have := mem_pcs_le sep r q (by rw [hp]; simp); simp; omega
        · have := mem_pcs_le sep r p (by rw [hp]; simp [h]); simp; omega

theorem index_hit (sep : UInt8) : ∀ (l : List UInt8), sep ∈ l → ∃ m : Nat, Lib.index l [sep] = m ∧ (∀ j, j < m → l[j]? ≠ some sep) ∧ l[m]? = some sep
  | [], h => by simp at h
  | c :: r, h => by
    by_cases hc : c = sep
    · subst hc
      exact ⟨0, by simp [Lib.index], fun j hj => by omega, by simp⟩
    · obtain ⟨m, h1, h2, h3⟩ := index_hit sep r (by simpa [Ne.symm hc] using h)
      refine ⟨m + 1, ?_, fun j hj => ?_, by simpa using h3⟩
      · have hp : ([sep] : List UInt8).isPrefixOf (c :: r) = false := by simp [List.isPrefixOf, Ne.symm hc]
        rw [Lib.index, hp, h1]
        rw [if_neg (by simp), if_neg (by simp)]
        rfl
      · cases j with
        | zero => simp [hc]
        | succ j => simpa using h2 j (by omega)

theorem splitK_pcs (sep : UInt8) : ∀ (k : Nat) (l : List UInt8), l.count sep = k → Lib.splitK [sep] 0 k l = pcs sep l
  | 0, l, h => by
    rw [Lib.splitK, pcs_none]
    intro j hj
    have := List.count_pos_iff.2 (List.mem_of_getElem? hj)
    omega
  | k + 1, l, h => by
    have hm : sep ∈ l := List.count_pos_iff.1 (by omega)
    obtain ⟨m, h1, h2, h3⟩ := index_hit sep l hm
    have hlt : m < l.length := by
      rcases Nat.lt_or_ge m l.length with h | h
      · exact h
      · rw [List.getElem?_eq_none h] at h3; cases h3
    have hcount : (l.drop (m + 1)).count sep = k := by
      have e : l = l.take m ++ sep :: l.drop (m + 1) := by
        conv => lhs; rw [← List.take_append_drop m l]
        congr 1
        rw [List.drop_eq_getElem_cons hlt]
        congr 1
        rw [List.getElem?_eq_getElem hlt] at h3
        exact Option.some.inj h3
      have h0 : (l.take m).count sep = 0 := by
        rw [List.count_eq_zero]
        intro hmem
        obtain ⟨j, hj⟩ := List.mem_iff_getElem?.1 hmem
        rw [List.getElem?_take] at hj
        split at hj
        · rename_i hjm; exact h2 j hjm hj
        · cases hj
      rw [e, List.count_append, h0, List.count_cons_self] at h
      omega
    rw [Lib.splitK, h1, if_neg (by simp)]
    rw [pcs_hit sep m l h2 h3]
    simp only [Int.toNat_natCast, Nat.add_zero, List.length_cons, List.length_nil, Nat.zero_add]
    rw [splitK_pcs sep k _ hcount]

theorem splitB_pcs (sep : UInt8) (s : ByteArray) : (Lib.splitB ⟨#[sep]⟩ 0 (Lib.countB s ⟨#[sep]⟩) s).map (·.data.toList) = pcs sep s.data.toList := by
  have hc : Lib.countB s ⟨#[sep]⟩ = s.data.toList.count sep := by
    show Lib.count s.data.toList [sep] = _
    exact Lib.count_one sep s.data.toList
  rw [Lib.splitB_data, hc]
  exact splitK_pcs sep _ _ rfl
theorem countB_pcs (sep : UInt8) (s : ByteArray) : Lib.countB s ⟨#[sep]⟩ + 1 = (pcs sep s.data.toList).length := by
  rw [← splitB_pcs, List.length_map, Lib.splitB_all _ (by simp [ByteArray.size]) 0 _ s rfl]
end Go.Proofs.YtpfhhaonfbfheaaGreatDoor
