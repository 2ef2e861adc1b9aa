/- Chapter 6 in plain words: what the reference's functions give, and that it is the same. Laws on lists of bytes; no program in sight. -/
import Derived.Test.YtkbamhecbfocbaaDoorInB
namespace Go.Proofs.YtkbamhecbfocbaaDoor.ini
open gl

theorem cls1' {b : UInt8} (h : 97 ≤ b.toNat ∧ b.toNat ≤ 122) : cls b.toNat = 1 := by unfold cls; repeat (first | rfl | rw [if_pos (by omega)] | rw [if_neg (by omega)])
theorem cls3' {b : UInt8} (h : 48 ≤ b.toNat ∧ b.toNat ≤ 57) : cls b.toNat = 3 := by unfold cls; repeat (first | rfl | rw [if_pos (by omega)] | rw [if_neg (by omega)])
def pst : Bool → List UInt8 → Bool
  | beg, [] => !beg
  | beg, c :: r => if 97 ≤ c.toNat ∧ c.toNat ≤ 122 then pst false r else if 48 ≤ c.toNat ∧ c.toNat ≤ 57 then (if beg = true then false else pst false r) else if c.toNat = 46 then (if beg = true then false else pst true r) else false
def tailOk : List (List UInt8) → Bool
  | [] => true
  | p :: ps => (p.all fun b => decide (cls b.toNat = 1 ∨ cls b.toNat = 3)) && ps.all partL
theorem pst_eq : ∀ l : List UInt8, pst true l = (pcs 46 l).all partL ∧ pst false l = tailOk (pcs 46 l)
  | [] => ⟨rfl, rfl⟩
  | c :: r => by
    obtain ⟨ih1, ih2⟩ := pst_eq r
    by_cases hc : c = 46
    · subst hc
      have e : pcs 46 ((46 : UInt8) :: r) = [] :: pcs 46 r := by simp [pcs]
      rw [e]
      constructor
      · rfl
      · unfold pst
        rw [if_neg (by decide), if_neg (by decide), if_pos (by decide), if_neg (by decide), ih1]
        rfl
    · have hc' : c.toNat ≠ 46 := fun e => hc (UInt8.toNat_inj.1 (by rw [e]; rfl))
      cases hp : pcs 46 r with
      | nil => exact absurd hp (pcs_ne 46 r)
      | cons p ps =>
        rw [pcs_other hc hp]
        rw [hp] at ih2
        have u1 : pst true (c :: r) = if 97 ≤ c.toNat ∧ c.toNat ≤ 122 then pst false r else if 48 ≤ c.toNat ∧ c.toNat ≤ 57 then false else if c.toNat = 46 then false else false := rfl
        have u2 : pst false (c :: r) = if 97 ≤ c.toNat ∧ c.toNat ≤ 122 then pst false r else if 48 ≤ c.toNat ∧ c.toNat ≤ 57 then pst false r else if c.toNat = 46 then pst true r else false := rfl
        rw [u1, u2]
        by_cases h1 : 97 ≤ c.toNat ∧ c.toNat ≤ 122
        · rw [if_pos h1, if_pos h1, ih2]
          have k := cls1' h1
          simp [partL, tailOk, k]
        · rw [if_neg h1, if_neg h1]
          have k1 : cls c.toNat ≠ 1 := fun e => h1 (cls1 e)
          by_cases h2 : 48 ≤ c.toNat ∧ c.toNat ≤ 57
          · rw [if_pos h2, if_pos h2, ih2]
            have k := cls3' h2
            simp [partL, tailOk, k]
          · have k3 : cls c.toNat ≠ 3 := fun e => h2 (cls3 e)
            rw [if_neg h2, if_neg h2, if_neg hc', if_neg hc']
            simp [partL, tailOk, k1, k3]

noncomputable def refMeant (t : List UInt8) : List UInt8 × Bool := match unqO t with
  | none => ([], false)
  | some u => (u, decide (u.length ≤ 200))
theorem refMeant_eq (t : List UInt8) : meantL t = if (refMeant t).2 = true then some (refMeant t).1 else none := by
  unfold meantL refMeant
  cases unqO t with
  | none => rfl
  | some u =>
    simp only
    by_cases h : u.length ≤ 200
    · rw [if_pos h, if_pos (decide_eq_true h)]
    · rw [if_neg h, if_neg (by simpa using h)]
noncomputable def refGiven (sec x : List UInt8) : List UInt8 × List UInt8 × Bool :=
  if (61 : UInt8) ∈ x then (sec ++ tri (beforeE x), (refMeant (tri (afterE x))).1, (refMeant (tri (afterE x))).2 && nameL (sec ++ tri (beforeE x)) && (pcs 46 (tri (beforeE x))).all partL) else ([], [], false)
def SecIs (a : List UInt8) : Prop := a = [] ∨ ∃ p, a = p ++ [46]
theorem splitE {x : List UInt8} (h : (61 : UInt8) ∈ x) : x = beforeE x ++ 61 :: afterE x ∧ (61 : UInt8) ∉ beforeE x := by
  obtain ⟨a, b, e, ha⟩ := List.eq_append_cons_of_mem h
  obtain ⟨h1, h2⟩ := takeE (r := b) ha
  unfold beforeE afterE
  rw [e, h1, h2]
  exact ⟨rfl, ha⟩
theorem triR_after {a r : List UInt8} {c : UInt8} (h : a = [] ∨ a = r ++ [c]) (hc : blk c = false) : tri a = triL a := by
  unfold tri
  obtain ⟨p, hp, _⟩ := triL_suffix a
  rcases List.eq_nil_or_concat (triL a) with h1 | ⟨t, d, h1⟩
  · rw [h1]; rfl
  · rw [List.concat_eq_append] at h1
    rw [h1] at hp ⊢
    rcases h with h | h
    · rw [h] at hp; simp at hp
    · rw [h, ← List.append_assoc] at hp
      have := List.append_inj_right' hp rfl
      simp at this
      subst this
      exact triR_last hc
theorem given_eq {sec x : List UInt8} {out : List Ln} (h1 : ∃ r c, x = c :: r ∧ blk c = false) (h2 : ∃ r c, x = r ++ [c] ∧ blk c = false) (hs : SecIs sec) :
    givenL sec out x = if (refGiven sec x).2.2 = true ∧ there out (refGiven sec x).1 = false then some ((refGiven sec x).1, (refGiven sec x).2.1) else none := by
  by_cases h61 : (61 : UInt8) ∈ x
  · obtain ⟨e, hn⟩ := splitE h61
    have eb : tri (beforeE x) = triR (beforeE x) := by
      obtain ⟨r, c, hx, hc⟩ := h1
      unfold tri
      congr 1
      unfold beforeE
      rw [hx, List.takeWhile_cons]
      split
      · exact triL_first hc
      · rfl
    have ea : tri (afterE x) = triL (afterE x) := by
      obtain ⟨r, c, hx, hc⟩ := h2
      refine triR_after (r := (afterE x).dropLast) (c := c) ?_ hc
      rcases List.eq_nil_or_concat (afterE x) with h | ⟨t, d, h⟩
      · exact .inl h
      · right
        rw [List.concat_eq_append] at h
        rw [h] at e ⊢
        rw [hx] at e
        have e2 : r ++ [c] = (beforeE (r ++ [c]) ++ 61 :: t) ++ [d] := by
          rw [List.append_assoc]
          exact e
        have := List.append_inj_right' e2 rfl
        simp at this
        subst this
        simp
    unfold givenL refGiven
    rw [if_pos h61, eb, ea]
    simp only
    generalize triR (beforeE x) = nm at *
    generalize triL (afterE x) = tx at *
    have hp : nameL (sec ++ nm) = true → (pcs 46 nm).all partL = true := by
      intro h
      have := (name_parts h).2.2
      rcases hs with rfl | ⟨p, rfl⟩
      · exact this
      · rw [List.append_assoc, List.singleton_append, pcs_join, List.all_append, Bool.and_eq_true] at this
        exact this.2
    rw [refMeant_eq]
    cases hN : nameL (sec ++ nm) with
    | false => simp
    | true =>
      rw [hp hN]
      cases hT : there out (sec ++ nm) with
      | true => simp
      | false =>
        cases hM : (refMeant tx).2 <;> simp [h61]
  · unfold givenL refGiven
    rw [if_neg (fun h => h61 h.1), if_neg h61]
    simp
theorem lineT_given {sec : List UInt8} {out : List Ln} {c : UInt8} {r : List UInt8} (h1 : c ≠ 59) (h2 : c ≠ 35) (h3 : c ≠ 91) : lineT sec out (c :: r) = (givenL sec out (c :: r)).map fun p => (sec, some p) := by
  rw [lineT_cons, if_neg (by rintro (h | h); exact h1 h; exact h2 h), if_neg h3]
theorem secIs_of {r a : List UInt8} (h : secL r = some a) : SecIs a := by
  unfold secL at h
  split at h
  · split at h
    · exact .inl (Option.some.inj h).symm
    · split at h
      · exact .inr ⟨_, (Option.some.inj h).symm⟩
      · cases h
  · cases h

theorem lt_of_at {α : Type} {l : List α} {j : Nat} {c : α} (h : l[j]? = some c) : j < l.length := by
  rcases Nat.lt_or_ge j l.length with h1 | h1
  · exact h1
  · rw [List.getElem?_eq_none h1] at h; cases h
/-! ### Pieces, read one by one -/
structure LS (sep : UInt8) (l : List UInt8) (f k : Nat) (done : List (List UInt8)) : Prop where
  le : f ≤ k
  kl : k ≤ l.length
  eq : pcs sep l = done ++ pcs sep (l.drop f)
  free : ∀ j, f ≤ j → j < k → l[j]? ≠ some sep
  many : done.length ≤ k
theorem LS.start (sep : UInt8) (l : List UInt8) : LS sep l 0 0 [] := ⟨Nat.le_refl _, by omega, by simp, fun j _ h => by omega, by simp⟩
theorem LS.pass {sep : UInt8} {l : List UInt8} {f k : Nat} {done : List (List UInt8)} {b : UInt8} (h : LS sep l f k done) (hb : l[k]? = some b) (hne : b ≠ sep) : LS sep l f (k + 1) done :=
  ⟨by have := h.le; omega, lt_of_at hb, h.eq, fun j h1 h2 => by
    rcases Nat.lt_or_ge j k with h3 | h3
    · exact h.free j h1 h3
    · obtain rfl : j = k := by omega
      rw [hb]; exact fun e => hne (Option.some.inj e), by have := h.many; omega⟩
theorem LS.hit {sep : UInt8} {l : List UInt8} {f k : Nat} {done : List (List UInt8)} (h : LS sep l f k done) (hb : l[k]? = some sep) : LS sep l (k + 1) (k + 1) (done ++ [(l.drop f).take (k - f)]) := by
  have hle := h.le
  have := pcs_hit sep (k - f) (l.drop f) (fun j hj => by rw [List.getElem?_drop]; exact h.free (f + j) (by omega) (by omega)) (by rw [List.getElem?_drop, show f + (k - f) = k by omega]; exact hb)
  rw [List.drop_drop, show f + (k - f + 1) = k + 1 by omega] at this
  exact ⟨Nat.le_refl _, lt_of_at hb, by rw [h.eq, this]; simp, fun j h1 h2 => by omega, by have := h.many; simp; omega⟩
theorem LS.last {sep : UInt8} {l : List UInt8} {f : Nat} {done : List (List UInt8)} (h : LS sep l f l.length done) : pcs sep l = done ++ [l.drop f] := by
  rw [h.eq, pcs_none sep _ fun j => by
    rw [List.getElem?_drop]
    rcases Nat.lt_or_ge (f + j) l.length with h1 | h1
    · exact h.free _ (by omega) h1
    · rw [List.getElem?_eq_none h1]; simp]
end Go.Proofs.YtkbamhecbfocbaaDoor.ini
