/- Laws and contracts on which the statement rests, part C: each text says what it proves, and its conditions. -/
import Derived.Test.YthjcifokmcbaoaaGreatDoorMgB
import Derived.Test.YthjcifokmcbaoaaGreatDoorMgA
import Derived.Shelf.Strings.SlTrimAscii
import Derived.Shelf.SlicesE.Reverse
import Derived.Lib.AtoiAllCases
import Derived.Test.YthjcifokmcbaoaaGreatDoorShelf
import Derived.BigQuiet
import Derived.Deep.QuietTactic
import Derived.Lib.SmallJoins
/- Chapter 16 in plain words: what leads back leads back; other tables stay as they are, and do not matter. No program in sight; no conditions beside those stated. -/
namespace Go.Proofs.YthjcifokmcbaoaaGreatDoor.st
open gl

theorem apply_err {l : List Pr} {s : Sp} (h : (applyL l s).2 ≠ 0) : (applyL l s).1 = [] := by
  unfold applyL at h ⊢
  split
  · rename_i h1
    rw [if_pos h1] at h
    split
    · rename_i h2
      rw [if_pos h2] at h
      split
      · rename_i h3
        rw [if_pos h3] at h
        split
        · rename_i h4
          rw [if_pos h4] at h
          exact absurd rfl h
        · rfl
      · rfl
    · rfl
  · rfl
theorem apply_ok {l : List Pr} {s : Sp} (h : (applyL l s).2 = 0) : mayL l = true ∧ rightL s = true ∧ (madeL l s).2 = 0 ∧ (madeL l s).1.Perm (applyL l s).1 ∧ Asc (applyL l s).1 ∧ (applyL l s).1.length ≤ 500 ∧ (applyL l s).1 = (doesL l s).1 ∧ (doesL l s).2 = 0 := by
  by_cases hm : mayL l = true
  · by_cases hr : rightL s = true
    · have hd : (doesL l s).2 = 0 ∧ (doesL l s).1.length ≤ 500 := by
        unfold applyL at h
        rw [if_pos hm, if_pos hr] at h
        by_cases h3 : (doesL l s).2 = 0
        · rw [if_pos h3] at h
          by_cases h4 : (doesL l s).1.length ≤ 500
          · exact ⟨h3, h4⟩
          · rw [if_neg h4] at h; exact absurd h (by decide)
        · rw [if_neg h3] at h; exact absurd h h3
      have e : applyL l s = ((doesL l s).1, 0) := by unfold applyL; rw [if_pos hm, if_pos hr, if_pos hd.1, if_pos hd.2]
      obtain ⟨h1, h2, _⟩ := made_does (may_parts hm).2.2 hr
      obtain ⟨h3, h4⟩ := h2 hd.1
      rw [e]
      exact ⟨hm, hr, by rw [h1]; exact hd.1, h3, h4, hd.2, rfl, hd.1⟩
    · unfold applyL at h; rw [if_pos hm, if_neg hr] at h; exact absurd h (by decide)
  · unfold applyL at h; rw [if_neg hm] at h; exact absurd h (by decide)
theorem apply_of {l a : List Pr} {s : Sp} (hm : mayL l = true) (hr : rightL s = true) (h0 : (madeL l s).2 = 0) (hp : (madeL l s).1.Perm a) (ha : Asc a) (hl : a.length ≤ 500) : applyL l s = (a, 0) := by
  obtain ⟨h1, h2, _⟩ := made_does (may_parts hm).2.2 hr
  have hd : (doesL l s).2 = 0 := by rw [← h1]; exact h0
  obtain ⟨h3, h4⟩ := h2 hd
  have e : (doesL l s).1 = a := asc_unique h4 ha (h3.symm.trans hp)
  unfold applyL
  rw [if_pos hm, if_pos hr, if_pos hd, e, if_pos hl]
/-- A word holds something. -/
theorem word_ne {l : List UInt8} (h : wordL l = true) : l ≠ [] := by rintro rfl; exact absurd h (by decide)
/-- What the parts of a step must be. -/
structure RightS (s : Sp) : Prop where
  table : wordL s.table = true
  put : s.kind = 1 → wordL s.key = true ∧ s.to = [] ∧ s.text.length ≤ 200
  drop : s.kind = 2 → (wordL s.key = true ∨ s.key = []) ∧ s.to = [] ∧ s.text = []
  name : s.kind = 3 ∨ s.kind = 6 → wordL s.key = true ∧ wordL s.to = true ∧ s.text = []
  tab : s.kind = 4 → s.key = [] ∧ wordL s.to = true ∧ s.text = []
  fn : s.kind = 5 → s.key = [] ∧ s.to = [] ∧ fnL s.text = true
  kinds : s.kind = 1 ∨ s.kind = 2 ∨ s.kind = 3 ∨ s.kind = 4 ∨ s.kind = 5 ∨ s.kind = 6
theorem isEmpty_eq {l : List UInt8} : l.isEmpty = true ↔ l = [] := by cases l <;> simp
theorem right_parts {s : Sp} (h : rightL s = true) : RightS s := by
  unfold rightL at h
  simp only [Bool.and_eq_true] at h
  obtain ⟨ht, h⟩ := h
  refine ⟨ht, fun k => ?_, fun k => ?_, fun k => ?_, fun k => ?_, fun k => ?_, ?_⟩
  · rw [if_pos k] at h
    simpa [Bool.and_eq_true, and_assoc, isEmpty_eq] using h
  · rw [if_neg (by omega), if_pos k] at h
    simpa [Bool.and_eq_true, and_assoc, isEmpty_eq] using h
  · rw [if_neg (by omega), if_neg (by omega), if_pos k] at h
    simpa [Bool.and_eq_true, and_assoc, isEmpty_eq] using h
  · rw [if_neg (by omega), if_neg (by omega), if_neg (by omega), if_pos k] at h
    simpa [Bool.and_eq_true, and_assoc, isEmpty_eq] using h
  · rw [if_neg (by omega), if_neg (by omega), if_neg (by omega), if_neg (by omega), if_pos k] at h
    simpa [Bool.and_eq_true, and_assoc, isEmpty_eq] using h
  · by_cases k1 : s.kind = 1
    · exact .inl k1
    · rw [if_neg k1] at h
      by_cases k2 : s.kind = 2
      · exact .inr (.inl k2)
      · rw [if_neg k2] at h
        by_cases k3 : s.kind = 3 ∨ s.kind = 6
        · rcases k3 with k3 | k3 <;> simp [k3]
        · rw [if_neg k3] at h
          by_cases k4 : s.kind = 4
          · simp [k4]
          · rw [if_neg k4] at h
            by_cases k5 : s.kind = 5
            · simp [k5]
            · rw [if_neg k5] at h; cases h
theorem right_of {s : Sp} (ht : wordL s.table = true) (h : (s.kind = 1 ∧ wordL s.key = true ∧ s.to = [] ∧ s.text.length ≤ 200) ∨ (s.kind = 2 ∧ (wordL s.key = true ∨ s.key = []) ∧ s.to = [] ∧ s.text = []) ∨ ((s.kind = 3 ∨ s.kind = 6) ∧ wordL s.key = true ∧ wordL s.to = true ∧ s.text = []) ∨
    (s.kind = 4 ∧ s.key = [] ∧ wordL s.to = true ∧ s.text = []) ∨ (s.kind = 5 ∧ s.key = [] ∧ s.to = [] ∧ fnL s.text = true)) : rightL s = true := by
  unfold rightL
  rw [ht, Bool.true_and]
  rcases h with ⟨k, a, b, c⟩ | ⟨k, a, b, c⟩ | ⟨k, a, b, c⟩ | ⟨k, a, b, c⟩ | ⟨k, a, b, c⟩
  · rw [if_pos k, a, b, decide_eq_true c]; rfl
  · rw [if_neg (by omega), if_pos k, b, c]
    rcases a with a | a
    · rw [a]; rfl
    · rw [a]; simp
  · rw [if_neg (by omega), if_neg (by omega), if_pos k, a, b, c]; rfl
  · rw [if_neg (by omega), if_neg (by omega), if_neg (by omega), if_pos k, a, b, c]; rfl
  · rw [if_neg (by omega), if_neg (by omega), if_neg (by omega), if_neg (by omega), if_pos k, a, b, c]; rfl
theorem wordP_of {p : Pr} (h1 : wordL p.table = true) (h2 : wordL p.key = true) (h3 : p.value.length ≤ 200) : wordP p = true := by unfold wordP; rw [h1, h2, decide_eq_true h3]; rfl
theorem wordP_parts {p : Pr} (h : wordP p = true) : wordL p.table = true ∧ wordL p.key = true ∧ p.value.length ≤ 200 := by
  unfold wordP at h
  simp only [Bool.and_eq_true, decide_eq_true_eq] at h
  exact ⟨h.1.1, h.1.2, h.2⟩
theorem may_words {l : List Pr} (h : mayL l = true) : ∀ p ∈ l, wordP p = true := fun p hp => by
  obtain ⟨a, b, c⟩ := (may_parts h).2.1 p hp
  exact wordP_of a b c
theorem decDigits_len : ∀ (k n : Nat), n < 10 ^ (k + 1) → (Lib.decDigits n).length ≤ k + 1
  | 0, n, h => by rw [va.decDigits_lt (by omega)]; simp
  | k + 1, n, h => by
    by_cases hn : n < 10
    · rw [va.decDigits_lt hn]; simp
    · rw [va.decDigits_ge hn, List.length_append]
      have := decDigits_len k (n / 10) (by
        rw [Nat.pow_succ] at h
        omega)
      simp
      omega
theorem dbl_len {v u : List UInt8} (h : dblL v = some u) : u.length ≤ 200 := by
  unfold dblL at h
  split at h
  · cases h
  · split at h
    · obtain rfl := Option.some.inj h
      have := decDigits_len 9 (2 * ‹Nat›) (by omega)
      omega
    · cases h
theorem fun_len {f v u : List UInt8} (hv : v.length ≤ 200) (h : funL f v = some u) : u.length ≤ 200 := by
  unfold funL at h
  split at h
  · exact dbl_len h
  · split at h
    · obtain rfl := Option.some.inj h; rw [foldL_length]; exact hv
    · split at h
      · obtain rfl := Option.some.inj h; simpa using hv
      · split at h
        · obtain rfl := Option.some.inj h; exact Nat.le_trans (ini.tri_len v) hv
        · obtain rfl := Option.some.inj h; simpa [upL] using hv
theorem mapF_mem {t f : List UInt8} : ∀ {l q : List Pr}, mapF t f l = some q → ∀ y ∈ q, ∃ x ∈ l, y.table = x.table ∧ y.key = x.key ∧ ((x.table ≠ t ∧ y = x) ∨ (x.table = t ∧ funL f x.value = some y.value))
  | [], q, h, y, hy => by simp [mapF] at h; subst h; cases hy
  | p :: r, q, h, y, hy => by
    unfold mapF at h
    split at h
    · rename_i ht
      split at h
      · cases h
      · rename_i v hv
        cases hr : mapF t f r with
        | none => rw [hr] at h; cases h
        | some q' =>
          rw [hr] at h
          simp at h
          subst h
          rcases List.mem_cons.1 hy with rfl | hy
          · exact ⟨p, by simp, rfl, rfl, .inr ⟨ht, hv⟩⟩
          · obtain ⟨x, hx, h2⟩ := mapF_mem hr y hy
            exact ⟨x, by simp [hx], h2⟩
    · rename_i ht
      cases hr : mapF t f r with
      | none => rw [hr] at h; cases h
      | some q' =>
        rw [hr] at h
        simp at h
        subst h
        rcases List.mem_cons.1 hy with rfl | hy
        · exact ⟨y, by simp, rfl, rfl, .inl ⟨ht, rfl⟩⟩
        · obtain ⟨x, hx, h2⟩ := mapF_mem hr y hy
          exact ⟨x, by simp [hx], h2⟩
theorem mapF_len {t f : List UInt8} : ∀ {l q : List Pr}, mapF t f l = some q → q.length = l.length := fun {l q} h => by
  have := congrArg List.length (mapF_keys t f l q h)
  simpa using this
/-- What is made of words are words. -/
theorem made_words {l : List Pr} {s : Sp} (hl : ∀ p ∈ l, wordP p = true) (hr : RightS s) : ∀ p ∈ (madeL l s).1, wordP p = true := by
  intro p hp
  unfold madeL at hp
  split at hp
  · rename_i k
    split at hp
    · cases hp
    · rcases List.mem_append.1 hp with hp | hp
      · exact hl p hp
      · obtain rfl := List.mem_singleton.1 hp
        exact wordP_of hr.table (hr.put k).1 (hr.put k).2.2
  · split at hp
    · exact hl p (List.mem_filter.1 hp).1
    · split at hp
      · rename_i k
        split at hp
        · exact hl p hp
        · split at hp
          · cases hp
          · split at hp
            · exact hl p hp
            · rename_i q hq
              have hw := wordP_parts (hl q (List.mem_of_getElem? hq))
              split at hp
              · rcases List.mem_append.1 hp with hp | hp
                · exact hl p hp
                · obtain rfl := List.mem_singleton.1 hp
                  exact wordP_of hr.table (hr.name k).2.1 hw.2.2
              · rcases List.mem_or_eq_of_mem_set hp with hp | rfl
                · exact hl p hp
                · exact wordP_of hw.1 (hr.name k).2.1 hw.2.2
      · split at hp
        · rename_i k
          split at hp
          · split at hp
            · cases hp
            · obtain ⟨x, hx, rfl⟩ := List.mem_map.1 hp
              have hw := wordP_parts (hl x hx)
              unfold tabF
              split
              · exact wordP_of (hr.tab k).2.1 hw.2.1 hw.2.2
              · exact hl x hx
          · exact hl p hp
        · split at hp
          · cases hp
          · rename_i q hq
            obtain ⟨x, hx, h1, h2, h3⟩ := mapF_mem hq p hp
            have hw := wordP_parts (hl x hx)
            refine wordP_of (by rw [h1]; exact hw.1) (by rw [h2]; exact hw.2.1) ?_
            rcases h3 with ⟨_, rfl⟩ | ⟨_, h3⟩
            · exact hw.2.2
            · exact fun_len hw.2.2 h3
/-- What comes out goes in. -/
theorem apply_may {l : List Pr} {s : Sp} (h : (applyL l s).2 = 0) : mayL (applyL l s).1 = true := by
  obtain ⟨hm, hr, _, hp, ha, hl, _, _⟩ := apply_ok h
  exact may_of hl (fun p hx => made_words (may_words hm) (right_parts hr) p (hp.mem_iff.2 hx)) ha

/-! ### Back -/
theorem but_perm {a b : List Pr} (h : a.Perm b) (t k : List UInt8) : (butL a t k).Perm (butL b t k) := h.filter _
theorem but_none {l : List Pr} {t k : List UInt8} (hk : k ≠ []) (h : ∀ x ∈ l, ¬ (x.table = t ∧ x.key = k)) : butL l t k = l := by
  unfold butL
  rw [List.filter_eq_self]
  intro x hx
  have := h x hx
  have hk' : k.isEmpty = false := by cases k; exact absurd rfl hk; rfl
  unfold goes
  rw [hk', Bool.false_or]
  by_cases h1 : x.table = t
  · have h2 : ¬ x.key = k := fun e => this ⟨h1, e⟩
    simp [h2]
  · simp [h1]
theorem put_back {l : List Pr} {t k x : List UInt8} (h : (applyL l ⟨1, t, k, [], x⟩).2 = 0) : applyL (applyL l ⟨1, t, k, [], x⟩).1 ⟨2, t, k, [], []⟩ = (l, 0) ∧ (applyL l ⟨1, t, k, [], x⟩).1.length = l.length + 1 := by
  obtain ⟨hm, hr, h0, hp, ha, hl, _, _⟩ := apply_ok h
  have hma := apply_may h
  have R := right_parts hr
  have hk := (R.put rfl).1
  generalize (applyL l ⟨1, t, k, [], x⟩).1 = a at *
  have hn : idxL l t k = none := by
    cases hi : idxL l t k with
    | none => rfl
    | some i =>
      unfold madeL at h0
      simp [hi] at h0
  have e : madeL l ⟨1, t, k, [], x⟩ = (l ++ [⟨t, k, x⟩], 0) := by unfold madeL; simp [hn]
  rw [e] at hp
  refine ⟨apply_of hma (right_of R.table (.inr (.inl ⟨rfl, .inl hk, rfl, rfl⟩))) rfl ?_ (may_parts hm).2.2 (may_parts hm).1, by have := hp.length_eq; simpa using this.symm⟩
  show (butL a t k).Perm l
  refine (but_perm hp.symm t k).trans ?_
  unfold butL
  rw [List.filter_append]
  have h1 : [(⟨t, k, x⟩ : Pr)].filter (fun p => !goes t k p) = [] := by simp [goes]
  rw [h1, List.append_nil]
  have := but_none (word_ne hk) (idx_none hn)
  unfold butL at this
  rw [this]
theorem perm_split {α : Type} {a : List α} {i : Nat} {q : α} (h : a[i]? = some q) : a.Perm (q :: (a.take i ++ a.drop (i + 1))) := by
  conv => lhs; rw [get_split h]
  exact List.perm_middle
theorem rename_back {l : List Pr} {t k u : List UInt8} (h : (applyL l ⟨3, t, k, u, []⟩).2 = 0) : ((applyL l ⟨3, t, k, u, []⟩).1 = l ∨ applyL (applyL l ⟨3, t, k, u, []⟩).1 ⟨3, t, u, k, []⟩ = (l, 0)) ∧ (applyL l ⟨3, t, k, u, []⟩).1.length = l.length := by
  obtain ⟨hm, hr, h0, hp, ha, hl, _, _⟩ := apply_ok h
  have hma := apply_may h
  have R := right_parts hr
  obtain ⟨hk, hu, _⟩ := R.name (.inl rfl)
  generalize (applyL l ⟨3, t, k, u, []⟩).1 = a at *
  cases hi : idxL l t k with
  | none =>
    have e : madeL l ⟨3, t, k, u, []⟩ = (l, 0) := by unfold madeL; simp [hi]
    rw [e] at hp
    exact ⟨.inl (asc_unique ha (may_parts hm).2.2 hp.symm), hp.length_eq.symm⟩
  | some i =>
    obtain ⟨p, hpi, h1, h2, _⟩ := idx_some hi
    cases hj : idxL l t u with
    | some j =>
      unfold madeL at h0
      simp [hi, hj] at h0
    | none =>
      have e : madeL l ⟨3, t, k, u, []⟩ = (l.set i { p with key := u }, 0) := by unfold madeL; simp [hi, hj, hpi]
      rw [e] at hp
      have hlen : a.length = l.length := by have := hp.length_eq; simpa using this.symm
      refine ⟨.inr ?_, hlen⟩
      have hnu := idx_none hj
      have hla := (may_parts hm).2.2
      have hold : (l.take i ++ l.drop (i + 1)).Perm (butL l t k) := by rw [but_at hla hpi h1 h2 (word_ne hk)]
      have hnew : ({ p with key := u } :: (l.take i ++ l.drop (i + 1))).Perm a := (set_perm hpi).symm.trans hp
      have hmem : ({ p with key := u } : Pr) ∈ a := hnew.subset (by simp)
      have honly : ∀ y ∈ a, y.table = t → y.key = u → y = { p with key := u } := by
        intro y hy e1 e2
        rcases List.mem_cons.1 (hnew.symm.subset hy) with e | hy
        · exact e
        · have : y ∈ l := by
            have := hold.subset hy
            exact (List.mem_filter.1 this).1
          exact absurd ⟨e1, e2⟩ (hnu y this)
      have hnk : idxL a t k = none := idx_is_none fun j q hq hc => by
        rcases List.mem_cons.1 (hnew.symm.subset (List.mem_of_getElem? hq)) with e | hy
        · subst e
          have hku : u = k := hc.2
          exact hnu p (List.mem_of_getElem? hpi) ⟨h1, by rw [hku]; exact h2⟩
        · have := hold.subset hy
          have hg := (List.mem_filter.1 this).2
          unfold goes at hg
          simp [hc.1, hc.2] at hg
      obtain ⟨j, hjx⟩ : ∃ j, idxL a t u = some j := by
        cases hx : idxL a t u with
        | some j => exact ⟨j, rfl⟩
        | none => exact absurd ⟨h1, rfl⟩ (idx_none hx _ hmem)
      obtain ⟨q, hq, g1, g2, _⟩ := idx_some hjx
      have hqe := honly q (List.mem_of_getElem? hq) g1 g2
      subst hqe
      have e2 : madeL a ⟨3, t, u, k, []⟩ = (a.set j { p with key := k }, 0) := by unfold madeL; simp [hjx, hnk, hq]
      refine apply_of hma (right_of R.table (.inr (.inr (.inl ⟨.inl rfl, hu, hk, rfl⟩)))) (by rw [e2]) ?_ hla (may_parts hm).1
      rw [e2, show ({ p with key := k } : Pr) = p by rw [← h2]]
      have hc : (a.take j ++ a.drop (j + 1)).Perm (l.take i ++ l.drop (i + 1)) := (List.perm_cons _).1 ((perm_split hq).symm.trans hnew.symm)
      exact (set_perm hq).trans ((hc.cons p).trans (perm_split hpi).symm)
theorem any_perm {a b : List Pr} (h : a.Perm b) (f : Pr → Bool) : a.any f = b.any f := by
  rw [Bool.eq_iff_iff, List.any_eq_true, List.any_eq_true]
  exact ⟨fun ⟨x, hx, h1⟩ => ⟨x, h.mem_iff.1 hx, h1⟩, fun ⟨x, hx, h1⟩ => ⟨x, h.mem_iff.2 hx, h1⟩⟩
theorem table_back {l : List Pr} {t u : List UInt8} (h : (applyL l ⟨4, t, [], u, []⟩).2 = 0) : ((applyL l ⟨4, t, [], u, []⟩).1 = l ∨ applyL (applyL l ⟨4, t, [], u, []⟩).1 ⟨4, u, [], t, []⟩ = (l, 0)) ∧ (applyL l ⟨4, t, [], u, []⟩).1.length = l.length := by
  obtain ⟨hm, hr, h0, hp, ha, hl, _, _⟩ := apply_ok h
  have hma := apply_may h
  have R := right_parts hr
  have hu := (R.tab rfl).2.1
  generalize (applyL l ⟨4, t, [], u, []⟩).1 = a at *
  have hla := (may_parts hm).2.2
  cases h1 : l.any (fun p => decide (p.table = t)) with
  | false =>
    have e : madeL l ⟨4, t, [], u, []⟩ = (l, 0) := by unfold madeL; simp only [h1]; rfl
    rw [e] at hp
    exact ⟨.inl (asc_unique ha hla hp.symm), hp.length_eq.symm⟩
  | true =>
    cases h2 : l.any (fun p => decide (p.table = u)) with
    | true =>
      have e : madeL l ⟨4, t, [], u, []⟩ = ([], 161) := by unfold madeL; simp only [h1, h2]; rfl
      rw [e] at h0
      cases h0
    | false =>
      have e : madeL l ⟨4, t, [], u, []⟩ = (l.map (tabF t u), 0) := by unfold madeL; simp only [h1, h2]; rfl
      rw [e] at hp
      refine ⟨.inr ?_, by have := hp.length_eq; simpa using this.symm⟩
      have hnu : ∀ x ∈ l, x.table ≠ u := by
        rw [List.any_eq_false] at h2
        intro x hx
        simpa using h2 x hx
      obtain ⟨x0, hx0, hxt⟩ := List.any_eq_true.1 h1
      have hxt : x0.table = t := by simpa using hxt
      have htu : t ≠ u := fun e => hnu x0 hx0 (hxt.trans e)
      have a1 : a.any (fun p => decide (p.table = u)) = true := by
        rw [← any_perm hp, List.any_eq_true]
        exact ⟨tabF t u x0, List.mem_map_of_mem hx0, by simp [tabF, hxt]⟩
      have a2 : a.any (fun p => decide (p.table = t)) = false := by
        rw [← any_perm hp, List.any_eq_false]
        intro y hy
        obtain ⟨x, hx, rfl⟩ := List.mem_map.1 hy
        unfold tabF
        split
        · simp [Ne.symm htu]
        · rename_i hne; simp [hne]
      have e2 : madeL a ⟨4, u, [], t, []⟩ = (a.map (tabF u t), 0) := by unfold madeL; simp only [a1, a2]; rfl
      refine apply_of hma (right_of hu (.inr (.inr (.inr (.inl ⟨rfl, rfl, R.table, rfl⟩))))) (by rw [e2]) ?_ hla (may_parts hm).1
      rw [e2]
      refine (hp.symm.map _).trans ?_
      rw [List.map_map]
      have : l.map (tabF u t ∘ tabF t u) = l := by
        conv => rhs; rw [← List.map_id l]
        refine List.map_congr_left fun x hx => ?_
        show tabF u t (tabF t u x) = x
        unfold tabF
        by_cases hx1 : x.table = t
        · rw [if_pos hx1, if_pos rfl, ← hx1]
        · rw [if_neg hx1, if_neg (hnu x hx)]
      rw [this]
theorem map_apply {l : List Pr} {t f : List UInt8} (h : (applyL l ⟨5, t, [], [], f⟩).2 = 0) : mapF t f l = some (applyL l ⟨5, t, [], [], f⟩).1 ∧ mayL l = true ∧ rightL ⟨5, t, [], [], f⟩ = true := by
  obtain ⟨hm, hr, _, _, _, _, he, h0⟩ := apply_ok h
  refine ⟨?_, hm, hr⟩
  rw [he]
  unfold doesL at h0 ⊢
  simp only [show ¬ ((5 : Int) = 1) by decide, show ¬ ((5 : Int) = 2) by decide, show ¬ ((5 : Int) = 4) by decide, if_false, if_true] at h0 ⊢
  cases hq : mapF t f l with
  | none => rw [hq] at h0; exact absurd h0 (by decide)
  | some q => rfl
theorem map_of {l q : List Pr} {t f : List UInt8} (hm : mayL l = true) (hr : rightL ⟨5, t, [], [], f⟩ = true) (h : mapF t f l = some q) : applyL l ⟨5, t, [], [], f⟩ = (q, 0) := by
  have e : madeL l ⟨5, t, [], [], f⟩ = (q, 0) := by
    unfold madeL
    simp only [show ¬ ((5 : Int) = 1) by decide, show ¬ ((5 : Int) = 2) by decide, show ¬ ((5 : Int) = 4) by decide, show ¬ ((5 : Int) = 3 ∨ (5 : Int) = 6) by decide, if_false, h]
  refine apply_of hm hr (by rw [e]) (by rw [e]) (asc_keys (mapF_keys t f l q h) (may_parts hm).2.2) (by rw [mapF_len h]; exact (may_parts hm).1)
/-- A function g that undoes f, of what f makes. -/
theorem mapF_undo {t f : List UInt8} (hf : ∀ v u, funL f v = some u → funL f u = some v) : ∀ {l q : List Pr}, mapF t f l = some q → mapF t f q = some l
  | [], q, h => by simp [mapF] at h; subst h; rfl
  | p :: r, q, h => by
    unfold mapF at h
    split at h
    · rename_i ht
      split at h
      · cases h
      · rename_i v hv
        cases hr : mapF t f r with
        | none => rw [hr] at h; cases h
        | some q' =>
          rw [hr] at h
          simp at h
          subst h
          rw [mapF, if_pos ht, hf _ _ hv, mapF_undo hf hr]
          rfl
    · rename_i ht
      cases hr : mapF t f r with
      | none => rw [hr] at h; cases h
      | some q' =>
        rw [hr] at h
        simp at h
        subst h
        rw [mapF, if_neg ht, mapF_undo hf hr]
        rfl
theorem mapF_once {t f : List UInt8} (hf : ∀ v u, funL f v = some u → funL f u = some u) : ∀ {l q : List Pr}, mapF t f l = some q → mapF t f q = some q
  | [], q, h => by simp [mapF] at h; subst h; rfl
  | p :: r, q, h => by
    unfold mapF at h
    split at h
    · rename_i ht
      split at h
      · cases h
      · rename_i v hv
        cases hr : mapF t f r with
        | none => rw [hr] at h; cases h
        | some q' =>
          rw [hr] at h
          simp at h
          subst h
          rw [mapF, if_pos ht, hf _ _ hv, mapF_once hf hr]
          rfl
    · rename_i ht
      cases hr : mapF t f r with
      | none => rw [hr] at h; cases h
      | some q' =>
        rw [hr] at h
        simp at h
        subst h
        rw [mapF, if_neg ht, mapF_once hf hr]
        rfl
theorem fold_once (l : List UInt8) : foldL (foldL l) = foldL l := by
  unfold foldL
  rw [List.map_map]
  refine List.map_congr_left fun b _ => ?_
  show foldB (foldB b) = foldB b
  by_cases h : 65 ≤ b.toNat ∧ b.toNat ≤ 90
  · have := foldB_great h
    exact foldB_other (by omega)
  · rw [foldB_other h, foldB_other h]
theorem upB_small {b : UInt8} (h : 97 ≤ b.toNat ∧ b.toNat ≤ 122) : (upB b).toNat = b.toNat - 32 := by
  unfold upB
  rw [if_pos h, UInt8.toNat_ofNat']
  omega
theorem upB_other {b : UInt8} (h : ¬ (97 ≤ b.toNat ∧ b.toNat ≤ 122)) : upB b = b := by unfold upB; rw [if_neg h]
theorem up_once (l : List UInt8) : upL (upL l) = upL l := by
  unfold upL
  rw [List.map_map]
  refine List.map_congr_left fun b _ => ?_
  show upB (upB b) = upB b
  by_cases h : 97 ≤ b.toNat ∧ b.toNat ≤ 122
  · have := upB_small h
    exact upB_other (by omega)
  · rw [upB_other h, upB_other h]
theorem tri_once (l : List UInt8) : ini.tri (ini.tri l) = ini.tri l := by
  rcases ini.tri_ends l with h | ⟨⟨r, c, h1, hc⟩, r2, c2, h2, hc2⟩
  · rw [h]; rfl
  · unfold ini.tri at h1 h2 ⊢
    generalize ini.triR (ini.triL l) = m at *
    rw [h1, ini.triL_first hc, ← h1, h2, ini.triR_last hc2]
theorem fun_once {f : List UInt8} (h : f = nLower ∨ f = nUpper ∨ f = nTrim) : ∀ v u, funL f v = some u → funL f u = some u := by
  intro v u hu
  rcases h with rfl | rfl | rfl
  · have e : ∀ v, funL nLower v = some (foldL v) := fun v => by unfold funL; rw [if_neg (by decide), if_pos rfl]
    rw [e] at hu ⊢
    obtain rfl := Option.some.inj hu
    rw [fold_once]
  · have e : ∀ v, funL nUpper v = some (upL v) := fun v => by unfold funL; rw [if_neg (by decide), if_neg (by decide), if_neg (by decide), if_neg (by decide)]
    rw [e] at hu ⊢
    obtain rfl := Option.some.inj hu
    rw [up_once]
  · have e : ∀ v, funL nTrim v = some (ini.tri v) := fun v => by unfold funL; rw [if_neg (by decide), if_neg (by decide), if_neg (by decide), if_pos rfl]
    rw [e] at hu ⊢
    obtain rfl := Option.some.inj hu
    rw [tri_once]
theorem map_once {l : List Pr} {t f : List UInt8} (hf : f = nLower ∨ f = nUpper ∨ f = nTrim) (h : (applyL l ⟨5, t, [], [], f⟩).2 = 0) : applyL (applyL l ⟨5, t, [], [], f⟩).1 ⟨5, t, [], [], f⟩ = ((applyL l ⟨5, t, [], [], f⟩).1, 0) ∧ (applyL l ⟨5, t, [], [], f⟩).1.length = l.length := by
  obtain ⟨h1, hm, hr⟩ := map_apply h
  exact ⟨map_of (apply_may h) hr (mapF_once (fun_once hf) h1), mapF_len h1⟩
theorem reverse_back {l : List Pr} {t : List UInt8} (h : (applyL l ⟨5, t, [], [], nReverse⟩).2 = 0) : applyL (applyL l ⟨5, t, [], [], nReverse⟩).1 ⟨5, t, [], [], nReverse⟩ = (l, 0) := by
  obtain ⟨h1, hm, hr⟩ := map_apply h
  refine map_of (apply_may h) hr (mapF_undo (fun v u hu => ?_) h1)
  have e : ∀ v, funL nReverse v = some v.reverse := fun v => by unfold funL; rw [if_neg (by decide), if_neg (by decide), if_pos rfl]
  rw [e] at hu ⊢
  obtain rfl := Option.some.inj hu
  rw [List.reverse_reverse]
end Go.Proofs.YthjcifokmcbaoaaGreatDoor.st
/- Package step: what each function that stands makes of a value. Conditions: texts of at most 2147483647 bytes. -/
namespace Go.Proofs.YthjcifokmcbaoaaGreatDoor.st
open Go.ChangeShapes Go.WideShapes Go.ChangeAt Go.RowKit gl

theorem xor_lo : ∀ n : Nat, n < 256 → 65 ≤ n → n ≤ 90 → bits .xor .u8 (n : Int) 32 = ((n + 32 : Nat) : Int) := by decide +kernel
theorem xor_up : ∀ n : Nat, n < 256 → 97 ≤ n → n ≤ 122 → bits .xor .u8 (n : Int) 32 = ((n - 32 : Nat) : Int) := by decide +kernel
theorem turned_in (c lo hi : Int) (h1 : lo ≤ c) (h2 : c ≤ hi) (w : World) : Calls Tryz.prog 111 #[.int .u8 c, .int .u8 lo, .int .u8 hi] w fun e w' => e = .returned (.int .u8 (bits .xor .u8 c 32)) ∧ w = w' := by
  go_enter Tryz.func111, Tryz.ntmps111
  go_wp2_with fail
  go_ret
  exact ⟨rfl, rfl⟩
theorem turned_out (c lo hi : Int) (h : ¬ (lo ≤ c ∧ c ≤ hi)) (w : World) : Calls Tryz.prog 111 #[.int .u8 c, .int .u8 lo, .int .u8 hi] w fun e w' => e = .returned (.int .u8 c) ∧ w = w' := by
  rcases (show c < lo ∨ (lo ≤ c ∧ hi < c) by omega) with h1 | ⟨h1, h2⟩
  · have q : decide (lo ≤ c) = false := by simp; omega
    clear h
    go_enter Tryz.func111, Tryz.ntmps111
    go_wp2_with fail
    go_ret
    exact ⟨rfl, rfl⟩
  · have q : decide (c ≤ hi) = false := by simp; omega
    clear h
    go_enter Tryz.func111, Tryz.ntmps111
    go_wp2_with fail
    go_ret
    exact ⟨rfl, rfl⟩
theorem low_any (b : UInt8) (w : World) : Calls Tryz.prog 110 #[.int .u8 (b.toNat : Int)] w fun e w' => e = .returned (.int .u8 ((foldB b).toNat : Int)) ∧ w = w' := by
  by_cases h : 65 ≤ b.toNat ∧ b.toNat ≤ 90
  · have HT := Lib.hid fun W => turned_in (b.toNat : Int) 65 90 (by omega) (by omega) W
    have Hr : Hid (bits .xor .u8 (b.toNat : Int) 32 = ((foldB b).toNat : Int)) := Lib.hid (by
      rw [xor_lo b.toNat b.toNat_lt h.1 h.2]
      have := foldB_great h; omega)
    clear h
    go_enter Tryz.func110, Tryz.ntmps110
    go_wp2_with fail
    refine (HT.out _).mono ?_
    rintro e w1 ⟨rfl, rfl⟩
    rw [Hr.out]
    go_wp2_with fail
    go_ret
    exact ⟨rfl, rfl⟩
  · have HT := Lib.hid fun W => turned_out (b.toNat : Int) 65 90 (by omega) W
    have Hr := Lib.hid (foldB_other h)
    clear h
    go_enter Tryz.func110, Tryz.ntmps110
    go_wp2_with fail
    refine (HT.out _).mono ?_
    rintro e w1 ⟨rfl, rfl⟩
    go_wp2_with fail
    go_ret
    rw [Hr.out]
    exact ⟨rfl, rfl⟩
theorem upp_any (b : UInt8) (w : World) : Calls Tryz.prog 115 #[.int .u8 (b.toNat : Int)] w fun e w' => e = .returned (.int .u8 ((upB b).toNat : Int)) ∧ w = w' := by
  by_cases h : 97 ≤ b.toNat ∧ b.toNat ≤ 122
  · have HT := Lib.hid fun W => turned_in (b.toNat : Int) 97 122 (by omega) (by omega) W
    have Hr : Hid (bits .xor .u8 (b.toNat : Int) 32 = ((upB b).toNat : Int)) := Lib.hid (by
      rw [xor_up b.toNat b.toNat_lt h.1 h.2]
      have := upB_small h; omega)
    clear h
    go_enter Tryz.func115, Tryz.ntmps115
    go_wp2_with fail
    refine (HT.out _).mono ?_
    rintro e w1 ⟨rfl, rfl⟩
    rw [Hr.out]
    go_wp2_with fail
    go_ret
    exact ⟨rfl, rfl⟩
  · have HT := Lib.hid fun W => turned_out (b.toNat : Int) 97 122 (by omega) W
    have Hr := Lib.hid (upB_other h)
    clear h
    go_enter Tryz.func115, Tryz.ntmps115
    go_wp2_with fail
    refine (HT.out _).mono ?_
    rintro e w1 ⟨rfl, rfl⟩
    go_wp2_with fail
    go_ret
    rw [Hr.out]
    exact ⟨rfl, rfl⟩

/-- The first k bytes have been turned by f. -/
def turnAt (f : UInt8 → UInt8) (k j : Nat) (b : UInt8) : UInt8 := if j < k then f b else b
structure Turns (f : UInt8 → UInt8) (w : World) (g k : Nat) (l : List UInt8) : Prop where
  cell : ∀ (j : Nat) (b : UInt8), l[j]? = some b → w.cell? ⟨g, j, none⟩ = some (.int .u8 ((turnAt f k j b).toNat : Int))
  free : ∀ (j : Nat), j < l.length → w.frozen? ⟨g, j, none⟩ = false
theorem Turns.start {f : UInt8 → UInt8} {w : World} {g : Nat} {l : List UInt8} (h : Lies w g l) : Turns f w g 0 l := ⟨fun j b hj => h.cell j b hj, h.free⟩
theorem Turns.set {f : UInt8 → UInt8} {w : World} {g k : Nat} {l : List UInt8} {b : UInt8} (h : Turns f w g k l) (hb : l[k]? = some b) : Turns f (w.setCell ⟨g, k, none⟩ (.int .u8 ((f b).toNat : Int))) g (k + 1) l := by
  refine ⟨fun j c hj => ?_, fun j hj => by rw [World.frozen?_setCell]; exact h.free j hj⟩
  by_cases h1 : j = k
  · subst h1
    rw [hb] at hj
    obtain rfl := Option.some.inj hj
    rw [World.cell?_setCell_same w _ _ (h.cell j b hb)]
    unfold turnAt
    rw [if_pos (by omega)]
  · rw [World.cell?_setCell_other w _ _ _ (by intro e; injection e with _ e2 _; exact h1 e2.symm), h.cell j c hj]
    unfold turnAt
    by_cases h2 : j < k
    · rw [if_pos h2, if_pos (by omega)]
    · rw [if_neg h2, if_neg (by omega)]
theorem Turns.done {f : UInt8 → UInt8} {w : World} {g : Nat} {l : List UInt8} (h : Turns f w g l.length l) : ∀ (j : Nat) (b : UInt8), (l.map f)[j]? = some b → w.cell? ⟨g, j, none⟩ = some (.int .u8 (b.toNat : Int)) := by
  intro j b hj
  simp only [List.getElem?_map, Option.map_eq_some_iff] at hj
  obtain ⟨c, hc, rfl⟩ := hj
  rw [h.cell j c hc]
  unfold turnAt
  rw [if_pos (lt_of_at hc)]

set_option maxHeartbeats 2000000 in
set_option maxRecDepth 100000 in
theorem each_low (s : ByteArray) (hs : s.size ≤ 2147483647) (b : Nat) (w : World) (hc : w.cell? ⟨b, 0, none⟩ = some (.func (.func 110) #[] #[])) :
    Calls Tryz.prog 163 #[.string s, .pointer (some ⟨b, 0, none⟩)] w fun e w' => e = .returned (.tuple #[.string (B (s.data.toList.map foldB)), .bool true]) ∧ Below w.heap.size w w' := by
  have HF := Lib.hid low_any
  have hbl := World.block_lt_of_cell? _ _ hc
  have Hc := Lib.hid hc
  clear hc
  go_enter Tryz.func163, Tryz.ntmps163
  go_wp2_with (with_reducible refine wpList_bytes_of_string rfl 9 87 5 _ rfl s rfl Tryz.underlying9 Tryz.underlying87 Tryz.underlying5 ?_)
  intro bcap w2 hlies hb2 hzz hcap
  have HL := Lib.hid (Turns.start (f := foldB) hlies)
  have HB2 := Lib.hid hb2
  have hsz2 := hb2.size
  clear hlies hb2
  go_wp2_with fail
  go_loopw [12] (fun i wr => ∃ k : Nat, k ≤ s.size ∧ i = .int .i64 k ∧ Hid (Turns foldB wr w.heap.size k s.data.toList) ∧ Hid (Below w.heap.size w wr) ∧ w.heap.size < wr.heap.size) (fun i _ => s.size - (intOf i).toNat)
  case atStart => exact ⟨0, by omega, rfl, HL, HB2, hzz⟩
  case round =>
    clear HL HB2
    obtain ⟨k, hk, rfl, Hfo, Hb, hlt0⟩ := hrel
    by_cases hlt : k < s.size
    · obtain ⟨c, hbl2, _, hb0, hb1⟩ := byteAt s k hlt
      have hcell : wr.cell? ⟨w.heap.size, k, none⟩ = some (.int .u8 (c.toNat : Int)) := by
        rw [Hfo.out.cell k c hbl2]; unfold turnAt; rw [if_neg (by omega)]
      have hfz : wr.frozen? ⟨w.heap.size, k, none⟩ = false := Hfo.out.free k (by simpa using hlt)
      have hfn : wr.cell? ⟨b, 0, none⟩ = some (.func (.func 110) #[] #[]) := (Hb.out.cell (p := ⟨b, 0, none⟩) hbl).trans Hc.out
      have HF3 := Lib.hid (Hfo.out.set hbl2)
      have HB3 := Lib.hid (Hb.out.setCell (p := ⟨w.heap.size, k, none⟩) (Nat.le_refl _) (.int .u8 ((foldB c).toNat : Int)))
      clear hbl2
      go_wp2_with fail
      refine (HF.out c _).mono ?_
      rintro e w3 ⟨rfl, rfl⟩
      go_wp2_with fail
      go_roundw
      case rel => exact ⟨k + 1, by omega, by go_num, HF3, HB3, by simpa using hlt0⟩
      case measure => simp [intOf]; omega
    · obtain rfl : k = s.size := by omega
      have hd : ∀ (j : Nat) (x : UInt8), (s.data.toList.map foldB)[j]? = some x → wr.cell? ⟨w.heap.size, j, none⟩ = some (.int .u8 (x.toNat : Int)) := Turns.done (by rw [toList_len]; exact Hfo.out)
      have Hd := Lib.hid hd
      clear hd
      go_wp2_with (with_reducible refine wpList_string_of_lies rfl 87 9 5 _ rfl w.heap.size _ _ (s.data.toList.map foldB) (by simp) rfl Tryz.underlying87 Tryz.underlying5 Tryz.underlying9 Hd.out ?_)
      go_wp2_with fail
      go_ret2
      exact ⟨rfl, Hb.out⟩

set_option maxHeartbeats 2000000 in
set_option maxRecDepth 100000 in
theorem each_upp (s : ByteArray) (hs : s.size ≤ 2147483647) (b : Nat) (w : World) (hc : w.cell? ⟨b, 0, none⟩ = some (.func (.func 115) #[] #[])) :
    Calls Tryz.prog 163 #[.string s, .pointer (some ⟨b, 0, none⟩)] w fun e w' => e = .returned (.tuple #[.string (B (s.data.toList.map upB)), .bool true]) ∧ Below w.heap.size w w' := by
  have HF := Lib.hid upp_any
  have hbl := World.block_lt_of_cell? _ _ hc
  have Hc := Lib.hid hc
  clear hc
  go_enter Tryz.func163, Tryz.ntmps163
  go_wp2_with (with_reducible refine wpList_bytes_of_string rfl 9 87 5 _ rfl s rfl Tryz.underlying9 Tryz.underlying87 Tryz.underlying5 ?_)
  intro bcap w2 hlies hb2 hzz hcap
  have HL := Lib.hid (Turns.start (f := upB) hlies)
  have HB2 := Lib.hid hb2
  have hsz2 := hb2.size
  clear hlies hb2
  go_wp2_with fail
  go_loopw [12] (fun i wr => ∃ k : Nat, k ≤ s.size ∧ i = .int .i64 k ∧ Hid (Turns upB wr w.heap.size k s.data.toList) ∧ Hid (Below w.heap.size w wr) ∧ w.heap.size < wr.heap.size) (fun i _ => s.size - (intOf i).toNat)
  case atStart => exact ⟨0, by omega, rfl, HL, HB2, hzz⟩
  case round =>
    clear HL HB2
    obtain ⟨k, hk, rfl, Hfo, Hb, hlt0⟩ := hrel
    by_cases hlt : k < s.size
    · obtain ⟨c, hbl2, _, hb0, hb1⟩ := byteAt s k hlt
      have hcell : wr.cell? ⟨w.heap.size, k, none⟩ = some (.int .u8 (c.toNat : Int)) := by
        rw [Hfo.out.cell k c hbl2]; unfold turnAt; rw [if_neg (by omega)]
      have hfz : wr.frozen? ⟨w.heap.size, k, none⟩ = false := Hfo.out.free k (by simpa using hlt)
      have hfn : wr.cell? ⟨b, 0, none⟩ = some (.func (.func 115) #[] #[]) := (Hb.out.cell (p := ⟨b, 0, none⟩) hbl).trans Hc.out
      have HF3 := Lib.hid (Hfo.out.set hbl2)
      have HB3 := Lib.hid (Hb.out.setCell (p := ⟨w.heap.size, k, none⟩) (Nat.le_refl _) (.int .u8 ((upB c).toNat : Int)))
      clear hbl2
      go_wp2_with fail
      refine (HF.out c _).mono ?_
      rintro e w3 ⟨rfl, rfl⟩
      go_wp2_with fail
      go_roundw
      case rel => exact ⟨k + 1, by omega, by go_num, HF3, HB3, by simpa using hlt0⟩
      case measure => simp [intOf]; omega
    · obtain rfl : k = s.size := by omega
      have hd : ∀ (j : Nat) (x : UInt8), (s.data.toList.map upB)[j]? = some x → wr.cell? ⟨w.heap.size, j, none⟩ = some (.int .u8 (x.toNat : Int)) := Turns.done (by rw [toList_len]; exact Hfo.out)
      have Hd := Lib.hid hd
      clear hd
      go_wp2_with (with_reducible refine wpList_string_of_lies rfl 87 9 5 _ rfl w.heap.size _ _ (s.data.toList.map upB) (by simp) rfl Tryz.underlying87 Tryz.underlying5 Tryz.underlying9 Hd.out ?_)
      go_wp2_with fail
      go_ret2
      exact ⟨rfl, Hb.out⟩
end Go.Proofs.YthjcifokmcbaoaaGreatDoor.st
/- Package step: reverse, trim and double return plain functions. Conditions: texts of at most 2147483647 bytes; the listed variables hold what the program's text lays. -/
namespace Go.Proofs.YthjcifokmcbaoaaGreatDoor.st
open Go.ChangeShapes Go.WideShapes Go.ChangeAt Go.RowKit gl

/-! ### trim -/
theorem blk_contains (b : UInt8) : ([32, 9] : List UInt8).contains b = ini.blk b := by
  by_cases h1 : b = 32 <;> by_cases h2 : b = 9 <;> simp [ini.blk, h1, h2]
theorem dropWhile_congr' {p q : UInt8 → Bool} (h : ∀ b, p b = q b) (l : List UInt8) : l.dropWhile p = l.dropWhile q := by rw [show p = q from funext h]
theorem trimLeftS_eq (l : List UInt8) : Lib.trimLeftS l [32, 9] = ini.triL l := dropWhile_congr' blk_contains l
theorem trimRightS_eq (l : List UInt8) : Lib.trimRightS l [32, 9] = ini.triR l := congrArg List.reverse (dropWhile_congr' blk_contains l.reverse)
theorem triL_triR (l : List UInt8) : ini.triL (ini.triR l) = ini.triR (ini.triL l) := by
  obtain ⟨p, hp, hb⟩ := ini.triL_suffix l
  by_cases h0 : ini.triL l = []
  · have hall : ∀ b ∈ l, ini.blk b = true := by rw [hp, h0, List.append_nil]; exact hb
    have e : ini.triR l = [] := by
      have := ini.triR_suf (p := l) (l := []) hall
      rw [List.nil_append] at this
      rw [this]; rfl
    rw [e, h0]
    rfl
  · obtain ⟨r, c, hrc, hc⟩ : ∃ r c, ini.triL l = c :: r ∧ ini.blk c = false := by
      rcases ini.triL_nil_or l with h | h
      · exact absurd h h0
      · exact h
    have e : ini.triR l = p ++ ini.triR (ini.triL l) := by
      obtain ⟨q, hq, hqb⟩ := ini.triR_prefix (ini.triL l)
      have e1 : ini.triR (p ++ ini.triL l) = p ++ ini.triR (ini.triL l) := by
        rcases ini.triR_nil_or (ini.triL l) with h | ⟨r', c', h, hc'⟩
        · exfalso
          rw [h, List.nil_append] at hq
          have : ini.blk c = true := hqb c (by rw [← hq, hrc]; simp)
          rw [hc] at this; cases this
        · have e2 : p ++ ini.triL l = (p ++ r') ++ [c'] ++ q := by rw [hq, h]; simp
          rw [e2, ini.triR_suf hqb, ini.triR_last hc', h]
          simp
      rw [← hp] at e1
      exact e1
    rw [e, ini.triL_pre hb]
    have hne : ∃ r2, ini.triR (ini.triL l) = c :: r2 := by
      obtain ⟨q, hq, hqb⟩ := ini.triR_prefix (ini.triL l)
      rcases ini.triR_nil_or (ini.triL l) with h | ⟨r', c', h, hc'⟩
      · exfalso
        rw [h, List.nil_append] at hq
        have : ini.blk c = true := hqb c (by rw [← hq, hrc]; simp)
        rw [hc] at this; cases this
      · cases hx : ini.triR (ini.triL l) with
        | nil => rw [hx] at h; simp at h
        | cons a r2 =>
          rw [hx, hrc] at hq
          simp at hq
          exact ⟨r2, by rw [← hq.1]⟩
    obtain ⟨r2, h2⟩ := hne
    rw [h2, ini.triL_first hc]
theorem trimS_eq (l : List UInt8) : Lib.trimS l [32, 9] = ini.tri l := by
  unfold Lib.trimS
  rw [trimRightS_eq, trimLeftS_eq, triL_triR]
  rfl
theorem Trim_any (s : ByteArray) (hs : s.size ≤ 2147483647) (w : World) :
    Calls Tryz.prog 114 #[.string s, .string ⟨#[32, 9]⟩] w fun e w' => e = .returned (.string (B (ini.tri s.data.toList))) ∧ Below w.heap.size w w' := by
  refine (Any.strings_Trim_laid Tryz.lays160 (by kernel_rfl) s ⟨#[32, 9]⟩ w (by omega) (by decide) (Go.Proofs.ascii_of_all (by decide))).mono ?_
  rintro e w' ⟨rfl, hb⟩
  exact ⟨by rw [show (⟨#[32, 9]⟩ : ByteArray).data.toList = [32, 9] from rfl, trimS_eq], hb⟩
theorem trim_fn (s : ByteArray) (hs : s.size ≤ 2147483647) (w : World) :
    Calls Tryz.prog 113 #[.string s] w fun e w' => e = .returned (.tuple #[.string (B (ini.tri s.data.toList)), .bool true]) ∧ Below w.heap.size w w' := by
  have HT := Lib.hid (Trim_any s hs w)
  go_enter Tryz.func113, Tryz.ntmps113
  go_wp2_with fail
  refine HT.out.mono ?_
  rintro e w1 ⟨rfl, hb⟩
  go_wp2_with fail
  go_ret2
  exact ⟨rfl, hb⟩

/-! ### reverse -/
instance : Inhabited UInt8 := ⟨0⟩
theorem below_putRow {α : Type} [Inhabited α] (enc : α → Value) {B : Nat} (w : World) (n blk off : Nat) (d : Array α) (hb : B ≤ blk) : Below B w (Sort.putRow enc (Sort.ahead w n) blk off d) := by
  refine ⟨rfl, rfl, rfl, ?_, fun i hi => ?_⟩
  · show w.heap.size ≤ (w.heap.modify blk _).size
    simp
  · show (w.heap.modify blk _)[i]? = _
    rw [Array.getElem?_modify, if_neg (by omega)]
theorem reverse_fn (s : ByteArray) (hs : s.size ≤ 2147483647) (w : World) :
    Calls Tryz.prog 112 #[.string s] w fun e w' => e = .returned (.tuple #[.string (B s.data.toList.reverse), .bool true]) ∧ Below w.heap.size w w' := by
  go_enter Tryz.func112, Tryz.ntmps112
  go_wp2_with (with_reducible refine wpList_bytes_of_string rfl 9 87 5 _ rfl s rfl Tryz.underlying9 Tryz.underlying87 Tryz.underlying5 ?_)
  intro bcap w2 hlies hb2 hzz hcap
  have hH : Sort.Holds (fun b : UInt8 => .int .u8 (b.toNat : Int)) w2 w.heap.size 0 s.data.toList.toArray := fun j hj => by
    have hj' : j < s.data.toList.length := by simpa using hj
    rw [Nat.zero_add]
    refine ⟨?_, hlies.free j hj'⟩
    rw [hlies.cell j (s.data.toList[j]) (List.getElem?_eq_getElem hj'), getElem!_pos _ j hj]
    simp
  have HR := Lib.hid (AnyE.slices_Reverse Tryz.revB (fun b : UInt8 => .int .u8 (b.toNat : Int)) (fun _ => rfl) w.heap.size 0 bcap s.data.toList w2 hH (by rw [toList_len]; omega))
  rw [toList_len] at HR
  have HB2 := Lib.hid hb2
  have HH := Lib.hid hH
  clear hlies hb2 hH
  go_wp2_with fail
  refine HR.out.mono ?_
  rintro e w3 ⟨rfl, n, hw3⟩
  have hd : ∀ (j : Nat) (x : UInt8), s.data.toList.reverse[j]? = some x → w3.cell? ⟨w.heap.size, j, none⟩ = some (.int .u8 (x.toNat : Int)) := fun j x hj => by
    have h := Sort.holds_putRow (fun b : UInt8 => Value.int .u8 (b.toNat : Int)) (Sort.ahead w2 n) w.heap.size 0 s.data.toList.toArray s.data.toList.reverse.toArray HH.out (by simp)
    have hlt := lt_of_at hj
    have := (h j (by simpa using hlt)).1
    rw [Nat.zero_add, ← hw3, getElem!_pos _ j (by simpa using hlt)] at this
    rw [this]
    rw [List.getElem?_eq_getElem hlt] at hj
    have e := Option.some.inj hj
    simp only [List.getElem_toArray]
    rw [e]
  have Hd := Lib.hid hd
  have HB3 : Hid (Below w.heap.size w w3) := Lib.hid (by rw [hw3]; exact HB2.out.trans (below_putRow _ w2 n _ _ _ (Nat.le_refl _)))
  clear hd hw3 HR HH
  go_wp2_with (with_reducible refine wpList_string_of_lies rfl 87 9 5 _ rfl w.heap.size _ _ s.data.toList.reverse (by simp) rfl Tryz.underlying87 Tryz.underlying5 Tryz.underlying9 Hd.out ?_)
  go_wp2_with fail
  go_ret2
  exact ⟨rfl, HB3.out⟩
end Go.Proofs.YthjcifokmcbaoaaGreatDoor.st
/- Package step: double returns a plain function. Conditions: texts of at most 2147483647 bytes; the listed variables hold what the program's text lays. -/
namespace Go.Proofs.YthjcifokmcbaoaaGreatDoor.st
open Go.ChangeShapes Go.WideShapes Go.ChangeAt Go.RowKit gl

theorem atoi_digits {n : Nat} (h : n ≤ 2147483648) : Lib.atoiAll (Lib.decDigits n) = .ok (n : Int) := by
  rw [va.atoi_dec (va.decDigits_all n) (va.decDigits_ne n), va.decN_decDigits, if_pos (by omega)]
theorem dbl_some {l u : List UInt8} (h : dblL l = some u) : ∃ n : Nat, n ≤ 2147483648 ∧ Lib.decDigits n = l ∧ u = Lib.decDigits (2 * n) := by
  unfold dblL at h
  split at h
  · cases h
  · rename_i n hn
    split at h
    · rename_i hle
      exact ⟨n, hle, va.num_back hn (by omega), (Option.some.inj h).symm⟩
    · cases h
theorem dbl_yes {l : List UInt8} {v : Int} (h0 : 0 ≤ v) (h1 : v ≤ 2147483648) (h : Lib.itoa v = l) : dblL l = some (Lib.itoa (2 * v)) := by
  obtain ⟨n, rfl⟩ := Int.eq_ofNat_of_zero_le h0
  have e : ∀ m : Nat, Lib.itoa (m : Int) = Lib.decDigits m := fun m => by unfold Lib.itoa; rw [if_neg (by omega), Int.toNat_natCast]
  rw [e] at h
  rw [show (2 * (n : Int)) = ((2 * n : Nat) : Int) by omega, e]
  unfold dblL
  rw [← h, va.num_decDigits (by omega)]
  simp only
  rw [if_pos (by omega)]
theorem dbl_no {l : List UInt8} {v : Int} (ha : Lib.atoiAll l = .ok v) (h : v < 0 ∨ 2147483648 < v ∨ Lib.itoa v ≠ l) : dblL l = none := by
  cases hd : dblL l with
  | none => rfl
  | some u =>
    obtain ⟨n, hn, hl, _⟩ := dbl_some hd
    rw [← hl, atoi_digits hn] at ha
    cases ha
    rcases h with h | h | h
    · omega
    · omega
    · exfalso
      refine h ?_
      unfold Lib.itoa
      rw [if_neg (by omega), Int.toNat_natCast, hl]
theorem dbl_bad {l : List UInt8} (ha : ∀ v, Lib.atoiAll l ≠ .ok v) : dblL l = none := by
  cases hd : dblL l with
  | none => rfl
  | some u =>
    obtain ⟨n, hn, hl, _⟩ := dbl_some hd
    exact absurd (by rw [← hl]; exact atoi_digits hn) (ha n)
def fnV (r : Option (List UInt8)) : Value := match r with
  | none => .tuple #[.string ⟨#[]⟩, .bool false]
  | some u => .tuple #[.string (B u), .bool true]
def AtoiOut (l : List UInt8) (e : Ending) : Prop := (∃ v : Int, Lib.atoiAll l = .ok v ∧ -9223372036854775808 ≤ v ∧ v ≤ 9223372036854775807 ∧ e = .returned (.tuple #[.int .i64 v, .nilIface])) ∨ (dblL l = none ∧ ∃ (v : Int) (tp : TypeId) (q : Value), e = .returned (.tuple #[.int .i64 v, .iface tp q]))
theorem atoi_any (s : ByteArray) (hs : s.size ≤ 2147483647) (w : World) (hS : Slo w) :
    Calls Tryz.prog 161 #[.string s] w fun e w' => AtoiOut s.data.toList e ∧ Below w.heap.size w w' := by
  cases hat : Lib.atoiAll s.data.toList
  · rename_i v
    refine (Tryz.strconv_Atoi_ok s (by omega) _ hat w).mono ?_
    rintro e w' ⟨rfl, hw'⟩
    refine ⟨.inl ⟨v, hat, ?_, ?_, rfl⟩, ?_⟩
    · exact (Lib.atoiAll_bounds hat).1
    · exact (Lib.atoiAll_bounds hat).2
    · rcases hw' with rfl | ⟨t, rfl⟩
      · exact Below.refl _ _
      · exact Joins.below_bytesWorld _ _ _ _ (Nat.le_refl _)
  · obtain ⟨tp, p, hvar⟩ := hS.syn
    refine (Any.strconv_Atoi_syntax_var Tryz.laysC172 s (by omega) hat tp p w hvar).mono ?_
    rintro e w' ⟨N, rfl, _, _, hb⟩
    exact ⟨.inr ⟨dbl_bad (fun v => by rw [hat]; intro h; cases h), _, _, _, rfl⟩, hb⟩
  · obtain ⟨tp, p, hvar⟩ := hS.rng
    refine (Tryz.strconv_Atoi_range_var s (by omega) hat tp p w hvar).mono ?_
    rintro e w' ⟨N, rfl, _, _, hb⟩
    exact ⟨.inr ⟨dbl_bad (fun v => by rw [hat]; intro h; cases h), _, _, _, rfl⟩, hb⟩
theorem itoa_any (n : Int) (h0 : -9223372036854775808 ≤ n) (h1 : n ≤ 9223372036854775807) (w : World) (hS : Slo w) :
    Calls Tryz.prog 162 #[.int .i64 n] w fun e w' => e = .returned (.string (B (Lib.itoa n))) ∧ Below w.heap.size w w' :=
  (Tryz.strconv_Itoa n h0 h1 w hS.pow).mono fun _ _ ⟨he, k, os, hw⟩ => ⟨he, hw ▸ Lib.below_grow _ w (Nat.le_refl _) k os⟩
set_option maxHeartbeats 2000000 in
set_option maxRecDepth 100000 in
theorem double_fn (s : ByteArray) (hs : s.size ≤ 2147483647) (w : World) (hS : Slo w) :
    Calls Tryz.prog 108 #[.string s] w fun e w' => e = .returned (fnV (dblL s.data.toList)) ∧ Below w.heap.size w w' := by
  have HA := Lib.hid (atoi_any s hs w hS)
  have HS := Lib.hid hS
  clear hS
  go_enter Tryz.func108, Tryz.ntmps108
  go_wp2_with fail
  refine HA.out.mono ?_
  rintro e w1 ⟨ho, hb1⟩
  have Hb1 := Lib.hid hb1
  have HS1 := Lib.hid (HS.out.later hb1)
  clear hb1
  rcases ho with ⟨v, hv, v0, v1, rfl⟩ | ⟨hn, v, tp, q, rfl⟩
  · by_cases h0 : v < 0
    · have Hr : Hid (fnV (dblL s.data.toList) = .tuple #[.string ⟨#[]⟩, .bool false]) := Lib.hid (by rw [dbl_no hv (.inl h0)]; rfl)
      clear hv
      go_wp2_with fail
      go_ret2
      rw [Hr.out]
      exact ⟨rfl, Hb1.out⟩
    · by_cases h2 : 2147483648 < v
      · have Hr : Hid (fnV (dblL s.data.toList) = .tuple #[.string ⟨#[]⟩, .bool false]) := Lib.hid (by rw [dbl_no hv (.inr (.inl h2))]; rfl)
        clear hv
        go_wp2_with fail
        go_ret2
        rw [Hr.out]
        exact ⟨rfl, Hb1.out⟩
      · have HI := Lib.hid (itoa_any v v0 v1 w1 HS1.out)
        by_cases h3 : Lib.itoa v = s.data.toList
        · have Hr : Hid (fnV (dblL s.data.toList) = .tuple #[.string (B (Lib.itoa (2 * v))), .bool true]) := Lib.hid (by rw [dbl_yes (by omega) (by omega) h3]; rfl)
          have hq : ((B (Lib.itoa v)).toList == s.toList) = true := seq_true (by rw [h3, B_of])
          have hq' : ((B (Lib.itoa v)).toList != s.toList) = false := by rw [bne, hq]; rfl
          have HI2 := Lib.hid fun W (hW : Below w1.heap.size w1 W) => itoa_any (2 * v) (by omega) (by omega) W (HS1.out.later hW)
          clear hv h3
          generalize B (Lib.itoa v) = iv at *
          generalize B (Lib.itoa (2 * v)) = iv2 at *
          go_wp2_with fail
          refine HI.out.mono ?_
          rintro e w2 ⟨rfl, hb2⟩
          have Hb2 := Lib.hid hb2
          clear hb2
          go_wp2_with fail
          refine (HI2.out _ Hb2.out).mono ?_
          rintro e w3 ⟨rfl, hb3⟩
          have Hb3 := Lib.hid hb3
          clear hb3
          go_wp2_with fail
          go_ret2
          rw [Hr.out]
          exact ⟨rfl, then_bel Hb1.out (then_bel Hb2.out Hb3.out)⟩
        · have Hr : Hid (fnV (dblL s.data.toList) = .tuple #[.string ⟨#[]⟩, .bool false]) := Lib.hid (by rw [dbl_no hv (.inr (.inr h3))]; rfl)
          have hq : ((B (Lib.itoa v)).toList == s.toList) = false := seq_false (fun e => h3 (by rw [← e, B_list]))
          have hq' : ((B (Lib.itoa v)).toList != s.toList) = true := by rw [bne, hq]; rfl
          clear hv h3
          generalize B (Lib.itoa v) = iv at *
          go_wp2_with fail
          refine HI.out.mono ?_
          rintro e w2 ⟨rfl, hb2⟩
          have Hb2 := Lib.hid hb2
          clear hb2
          go_wp2_with fail
          go_ret2
          rw [Hr.out]
          exact ⟨rfl, then_bel Hb1.out Hb2.out⟩
  · have Hr : Hid (fnV (dblL s.data.toList) = .tuple #[.string ⟨#[]⟩, .bool false]) := Lib.hid (by rw [hn]; rfl)
    clear hn
    go_wp2_with fail
    go_ret2
    rw [Hr.out]
    exact ⟨rfl, Hb1.out⟩
end Go.Proofs.YthjcifokmcbaoaaGreatDoor.st
/- Package step: told and Call return what chapter 16 says. Conditions: texts of at most 2147483647 bytes; the listed variables hold what the program's text lays. -/
namespace Go.Proofs.YthjcifokmcbaoaaGreatDoor.st
open Go.ChangeShapes Go.WideShapes Go.ChangeAt Go.RowKit gl

theorem each_mk (g : FuncId) (w : World) : Calls Tryz.prog 109 #[.func (.func g) #[] #[]] w fun e w' => e = .returned (.func (.func 163) #[] #[.pointer (some ⟨w.heap.size, 0, none⟩)]) ∧ w' = w.alloc (.cells #[.func (.func g) #[] #[]] 115) := by
  go_enter Tryz.func109, Tryz.ntmps109
  go_wp2_with fail
  go_ret
  exact ⟨rfl, rfl⟩
theorem name_no {s : ByteArray} (h : fnL s.data.toList = false) : (s.toList == [100, 111, 117, 98, 108, 101]) = false ∧ (s.toList == [108, 111, 119, 101, 114]) = false ∧ (s.toList == [114, 101, 118, 101, 114, 115, 101]) = false ∧ (s.toList == [116, 114, 105, 109]) = false ∧ (s.toList == [117, 112, 112, 101, 114]) = false := by
  unfold fnL at h
  simp only [decide_eq_false_iff_not, not_or] at h
  have hb : ∀ l : List UInt8, ¬ s.data.toList = l → (s.toList == l) = false := fun l hl => by rw [ByteArray.toList_eq, beq_eq_false_iff_ne]; exact hl
  exact ⟨hb _ h.1, hb _ h.2.1, hb _ h.2.2.1, hb _ h.2.2.2.1, hb _ h.2.2.2.2⟩
theorem told_none (s : ByteArray) (h : fnL s.data.toList = false) (w : World) (hS : Slo w) : Calls Tryz.prog 67 #[.string s] w fun e w' => e = .returned .nilFunc ∧ w = w' := by
  have HB := Lib.hid (search_any s w hS.names)
  have Hf := Lib.hid h
  clear h hS
  go_enter Tryz.func67, Tryz.ntmps67
  go_wp2_with fail
  refine HB.out.mono ?_
  rintro e w1 ⟨⟨i, rfl⟩, rfl⟩
  rw [Hf.out]
  go_wp2_with fail
  go_ret
  exact ⟨rfl, rfl⟩
theorem told_double (w : World) (hS : Slo w) : Calls Tryz.prog 67 #[.string ⟨#[100, 111, 117, 98, 108, 101]⟩] w fun e w' => e = .returned (.func (.func 108) #[] #[]) ∧ w = w' := by
  have HB := Lib.hid (search_any ⟨#[100, 111, 117, 98, 108, 101]⟩ w hS.names)
  rw [show (⟨#[100, 111, 117, 98, 108, 101]⟩ : ByteArray).data.toList = nDouble from rfl] at HB
  clear hS
  go_enter Tryz.func67, Tryz.ntmps67
  go_wp2_with fail
  refine HB.out.mono ?_
  rintro e w1 ⟨⟨i, rfl⟩, rfl⟩
  rw [show fnL nDouble = true from by decide]
  go_wp2_with fail
  go_ret
  exact ⟨rfl, rfl⟩
theorem told_reverse (w : World) (hS : Slo w) : Calls Tryz.prog 67 #[.string ⟨#[114, 101, 118, 101, 114, 115, 101]⟩] w fun e w' => e = .returned (.func (.func 112) #[] #[]) ∧ w = w' := by
  have HB := Lib.hid (search_any ⟨#[114, 101, 118, 101, 114, 115, 101]⟩ w hS.names)
  rw [show (⟨#[114, 101, 118, 101, 114, 115, 101]⟩ : ByteArray).data.toList = nReverse from rfl] at HB
  clear hS
  go_enter Tryz.func67, Tryz.ntmps67
  go_wp2_with fail
  refine HB.out.mono ?_
  rintro e w1 ⟨⟨i, rfl⟩, rfl⟩
  rw [show fnL nReverse = true from by decide]
  go_wp2_with fail
  go_ret
  exact ⟨rfl, rfl⟩
theorem told_trim (w : World) (hS : Slo w) : Calls Tryz.prog 67 #[.string ⟨#[116, 114, 105, 109]⟩] w fun e w' => e = .returned (.func (.func 113) #[] #[]) ∧ w = w' := by
  have HB := Lib.hid (search_any ⟨#[116, 114, 105, 109]⟩ w hS.names)
  rw [show (⟨#[116, 114, 105, 109]⟩ : ByteArray).data.toList = nTrim from rfl] at HB
  clear hS
  go_enter Tryz.func67, Tryz.ntmps67
  go_wp2_with fail
  refine HB.out.mono ?_
  rintro e w1 ⟨⟨i, rfl⟩, rfl⟩
  rw [show fnL nTrim = true from by decide]
  go_wp2_with fail
  go_ret
  exact ⟨rfl, rfl⟩
theorem told_lower (w : World) (hS : Slo w) : Calls Tryz.prog 67 #[.string ⟨#[108, 111, 119, 101, 114]⟩] w fun e w' => e = .returned (.func (.func 163) #[] #[.pointer (some ⟨w.heap.size, 0, none⟩)]) ∧ w' = w.alloc (.cells #[.func (.func 110) #[] #[]] 115) := by
  have HB := Lib.hid (search_any ⟨#[108, 111, 119, 101, 114]⟩ w hS.names)
  rw [show (⟨#[108, 111, 119, 101, 114]⟩ : ByteArray).data.toList = nLower from rfl] at HB
  have HE := Lib.hid (each_mk 110 w)
  clear hS
  go_enter Tryz.func67, Tryz.ntmps67
  go_wp2_with fail
  refine HB.out.mono ?_
  rintro e w1 ⟨⟨i, rfl⟩, rfl⟩
  rw [show fnL nLower = true from by decide]
  go_wp2_with fail
  refine HE.out.mono ?_
  rintro e w1 ⟨rfl, hw1⟩
  have HW := Lib.hid hw1
  clear hw1
  go_wp2_with fail
  go_ret
  exact ⟨rfl, HW.out⟩
theorem told_upper (w : World) (hS : Slo w) : Calls Tryz.prog 67 #[.string ⟨#[117, 112, 112, 101, 114]⟩] w fun e w' => e = .returned (.func (.func 163) #[] #[.pointer (some ⟨w.heap.size, 0, none⟩)]) ∧ w' = w.alloc (.cells #[.func (.func 115) #[] #[]] 115) := by
  have HB := Lib.hid (search_any ⟨#[117, 112, 112, 101, 114]⟩ w hS.names)
  rw [show (⟨#[117, 112, 112, 101, 114]⟩ : ByteArray).data.toList = nUpper from rfl] at HB
  have HE := Lib.hid (each_mk 115 w)
  clear hS
  go_enter Tryz.func67, Tryz.ntmps67
  go_wp2_with fail
  refine HB.out.mono ?_
  rintro e w1 ⟨⟨i, rfl⟩, rfl⟩
  rw [show fnL nUpper = true from by decide]
  go_wp2_with fail
  refine HE.out.mono ?_
  rintro e w1 ⟨rfl, hw1⟩
  have HW := Lib.hid hw1
  clear hw1
  go_wp2_with fail
  go_ret
  exact ⟨rfl, HW.out⟩

def callV (r : List UInt8 × Int) : Value := .tuple #[.string (B r.1), .int .i64 r.2]
theorem call_no {t v : List UInt8} (h : fnL t = false) : callL t v = ([], 160) := by unfold callL; rw [if_neg (by rw [h]; simp)]
theorem call_long {t v : List UInt8} (h : fnL t = true) (hl : ¬ v.length ≤ 200) : callL t v = ([], 162) := by unfold callL; rw [if_pos h, if_neg hl]
theorem call_fn {t v : List UInt8} (h : fnL t = true) (hl : v.length ≤ 200) : callL t v = (match funL t v with | none => ([], 162) | some u => (u, 0)) := by unfold callL; rw [if_pos h, if_pos hl]; rfl
theorem ein_fn (d : Nat) (t : TypeId) (a b : Array TypeId) (v : Bool) (f : Fn) (x y : Array Value) (W : World) (h : Tryz.prog.underlying t = some (.func a b v)) : (Op.equalIn (d + 1) t (.func f x y) .nilFunc).run Tryz.prog W = .ok false W := by
  simp [Op.equalIn, run_underlying h]
theorem ein_nil (d : Nat) (t : TypeId) (a b : Array TypeId) (v : Bool) (W : World) (h : Tryz.prog.underlying t = some (.func a b v)) : (Op.equalIn (d + 1) t .nilFunc .nilFunc).run Tryz.prog W = .ok true W := by
  simp [Op.equalIn, run_underlying h]
theorem eq_fn (f : Fn) (b : Array Value) (W : World) : (binOp .eql 81 (.func f #[] b) .nilFunc).run Tryz.prog W = .ok (.bool false) W := by
  simp only [binOp]
  simp [Op.equal, Op.maxDepth, ein_fn 9999 _ _ _ _ f #[] b W Tryz.underlying81]
theorem eq_nilf (W : World) : (binOp .eql 81 .nilFunc .nilFunc).run Tryz.prog W = .ok (.bool true) W := by
  simp only [binOp]
  simp [Op.equal, Op.maxDepth, ein_nil 9999 _ _ _ _ W Tryz.underlying81]
set_option maxRecDepth 100000 in
theorem call_none (s x : ByteArray) (h : fnL s.data.toList = false) (w : World) (hS : Slo w) : Calls Tryz.prog 42 #[.string s, .string x] w fun e w' => e = .returned (callV (callL s.data.toList x.data.toList)) ∧ Below w.heap.size w w' := by
  have HT := Lib.hid (told_none s h w hS)
  have Hr := Lib.hid (call_no (v := x.data.toList) h)
  have hnil := eq_nilf
  clear h hS
  go_enter Tryz.func42, Tryz.ntmps42
  go_wp2_with fail
  refine HT.out.mono ?_
  rintro e w1 ⟨rfl, rfl⟩
  go_wp2_with fail
  go_ret2
  rw [Hr.out]
  exact ⟨rfl, Below.refl _ _⟩
theorem fun_double (v : List UInt8) : funL nDouble v = dblL v := by unfold funL; rw [if_pos rfl]
set_option maxHeartbeats 1000000 in
set_option maxRecDepth 100000 in
theorem call_double (x : ByteArray) (w : World) (hS : Slo w) : Calls Tryz.prog 42 #[.string ⟨#[100, 111, 117, 98, 108, 101]⟩, .string x] w fun e w' => e = .returned (callV (callL nDouble x.data.toList)) ∧ Below w.heap.size w w' := by
  have HT := Lib.hid (told_double w hS)
  have hxl : x.data.toList.length = x.size := by simp
  have hnil := eq_fn
  by_cases hl : x.data.toList.length ≤ 200
  · rw [hxl] at hl
    have HF := Lib.hid (double_fn x (by omega) w hS)
    cases hd : dblL x.data.toList with
    | none =>
      have Hd : Hid (fnV none = .tuple #[.string ⟨#[]⟩, .bool false]) := Lib.hid rfl
      have Hr : Hid (callL nDouble x.data.toList = ([], 162)) := Lib.hid (by rw [call_fn (by decide) (by rw [hxl]; exact hl), fun_double, hd])
      rw [hd] at HF
      clear hxl hS hd
      go_enter Tryz.func42, Tryz.ntmps42
      go_wp2_with fail
      refine HT.out.mono ?_
      rintro e w1 ⟨rfl, rfl⟩
      go_wp2_with fail
      refine HF.out.mono ?_
      rintro e w2 ⟨rfl, hb2⟩
      have Hb2 := Lib.hid hb2
      clear hb2
      rw [Hd.out]
      go_wp2_with fail
      go_ret2
      rw [Hr.out]
      exact ⟨rfl, Hb2.out⟩
    | some u =>
      have Hd : Hid (fnV (some u) = .tuple #[.string (B u), .bool true]) := Lib.hid rfl
      have Hr : Hid (callL nDouble x.data.toList = (u, 0)) := Lib.hid (by rw [call_fn (by decide) (by rw [hxl]; exact hl), fun_double, hd])
      rw [hd] at HF
      clear hxl hS hd
      go_enter Tryz.func42, Tryz.ntmps42
      go_wp2_with fail
      refine HT.out.mono ?_
      rintro e w1 ⟨rfl, rfl⟩
      go_wp2_with fail
      refine HF.out.mono ?_
      rintro e w2 ⟨rfl, hb2⟩
      have Hb2 := Lib.hid hb2
      clear hb2
      rw [Hd.out]
      go_wp2_with fail
      go_ret2
      rw [Hr.out]
      exact ⟨rfl, Hb2.out⟩
  · have Hr : Hid (callL nDouble x.data.toList = ([], 162)) := Lib.hid (call_long (by decide) hl)
    rw [hxl] at hl
    have hl' : (200 : Int) < (x.size : Int) := by omega
    clear hxl hS hl
    go_enter Tryz.func42, Tryz.ntmps42
    go_wp2_with fail
    refine HT.out.mono ?_
    rintro e w1 ⟨rfl, rfl⟩
    go_wp2_with fail
    go_ret2
    rw [Hr.out]
    exact ⟨rfl, Below.refl _ _⟩
theorem fun_reverse (v : List UInt8) : funL nReverse v = some v.reverse := by unfold funL; rw [if_neg (by decide), if_neg (by decide), if_pos rfl]
set_option maxHeartbeats 1000000 in
set_option maxRecDepth 100000 in
theorem call_reverse (x : ByteArray) (w : World) (hS : Slo w) : Calls Tryz.prog 42 #[.string ⟨#[114, 101, 118, 101, 114, 115, 101]⟩, .string x] w fun e w' => e = .returned (callV (callL nReverse x.data.toList)) ∧ Below w.heap.size w w' := by
  have HT := Lib.hid (told_reverse w hS)
  have hxl : x.data.toList.length = x.size := by simp
  have hnil := eq_fn
  by_cases hl : x.data.toList.length ≤ 200
  · rw [hxl] at hl
    have HF := Lib.hid (reverse_fn x (by omega) w)
    have Hr : Hid (callL nReverse x.data.toList = (x.data.toList.reverse, 0)) := Lib.hid (by rw [call_fn (by decide) (by rw [hxl]; exact hl), fun_reverse])
    clear hxl hS
    go_enter Tryz.func42, Tryz.ntmps42
    go_wp2_with fail
    refine HT.out.mono ?_
    rintro e w1 ⟨rfl, rfl⟩
    go_wp2_with fail
    refine HF.out.mono ?_
    rintro e w2 ⟨rfl, hb2⟩
    have Hb2 := Lib.hid hb2
    clear hb2
    go_wp2_with fail
    go_ret2
    rw [Hr.out]
    exact ⟨rfl, Hb2.out⟩
  · have Hr : Hid (callL nReverse x.data.toList = ([], 162)) := Lib.hid (call_long (by decide) hl)
    rw [hxl] at hl
    have hl' : (200 : Int) < (x.size : Int) := by omega
    clear hxl hS hl
    go_enter Tryz.func42, Tryz.ntmps42
    go_wp2_with fail
    refine HT.out.mono ?_
    rintro e w1 ⟨rfl, rfl⟩
    go_wp2_with fail
    go_ret2
    rw [Hr.out]
    exact ⟨rfl, Below.refl _ _⟩
theorem fun_trim (v : List UInt8) : funL nTrim v = some (ini.tri v) := by unfold funL; rw [if_neg (by decide), if_neg (by decide), if_neg (by decide), if_pos rfl]
set_option maxHeartbeats 1000000 in
set_option maxRecDepth 100000 in
theorem call_trim (x : ByteArray) (w : World) (hS : Slo w) : Calls Tryz.prog 42 #[.string ⟨#[116, 114, 105, 109]⟩, .string x] w fun e w' => e = .returned (callV (callL nTrim x.data.toList)) ∧ Below w.heap.size w w' := by
  have HT := Lib.hid (told_trim w hS)
  have hxl : x.data.toList.length = x.size := by simp
  have hnil := eq_fn
  by_cases hl : x.data.toList.length ≤ 200
  · rw [hxl] at hl
    have HF := Lib.hid (trim_fn x (by omega) w)
    have Hr : Hid (callL nTrim x.data.toList = (ini.tri x.data.toList, 0)) := Lib.hid (by rw [call_fn (by decide) (by rw [hxl]; exact hl), fun_trim])
    clear hxl hS
    go_enter Tryz.func42, Tryz.ntmps42
    go_wp2_with fail
    refine HT.out.mono ?_
    rintro e w1 ⟨rfl, rfl⟩
    go_wp2_with fail
    refine HF.out.mono ?_
    rintro e w2 ⟨rfl, hb2⟩
    have Hb2 := Lib.hid hb2
    clear hb2
    go_wp2_with fail
    go_ret2
    rw [Hr.out]
    exact ⟨rfl, Hb2.out⟩
  · have Hr : Hid (callL nTrim x.data.toList = ([], 162)) := Lib.hid (call_long (by decide) hl)
    rw [hxl] at hl
    have hl' : (200 : Int) < (x.size : Int) := by omega
    clear hxl hS hl
    go_enter Tryz.func42, Tryz.ntmps42
    go_wp2_with fail
    refine HT.out.mono ?_
    rintro e w1 ⟨rfl, rfl⟩
    go_wp2_with fail
    go_ret2
    rw [Hr.out]
    exact ⟨rfl, Below.refl _ _⟩
theorem fun_lower (v : List UInt8) : funL nLower v = some (foldL v) := by unfold funL; rw [if_neg (by decide), if_pos rfl]
set_option maxHeartbeats 1000000 in
set_option maxRecDepth 100000 in
theorem call_lower (x : ByteArray) (w : World) (hS : Slo w) : Calls Tryz.prog 42 #[.string ⟨#[108, 111, 119, 101, 114]⟩, .string x] w fun e w' => e = .returned (callV (callL nLower x.data.toList)) ∧ Below w.heap.size w w' := by
  have HT := Lib.hid (told_lower w hS)
  have hxl : x.data.toList.length = x.size := by simp
  have hnil := eq_fn
  by_cases hl : x.data.toList.length ≤ 200
  · rw [hxl] at hl
    have HF := Lib.hid (each_low x (by omega) w.heap.size (w.alloc (.cells #[.func (.func 110) #[] #[]] 115)) (cell_in (o := 0) (heap_alloc_new w _)))
    have Hr : Hid (callL nLower x.data.toList = (foldL x.data.toList, 0)) := Lib.hid (by rw [call_fn (by decide) (by rw [hxl]; exact hl), fun_lower])
    clear hxl hS
    go_enter Tryz.func42, Tryz.ntmps42
    go_wp2_with fail
    refine HT.out.mono ?_
    rintro e w1 ⟨rfl, hw1⟩
    have HW := Lib.hid hw1
    have Hb1 : Hid (Below w.heap.size w w1) := Lib.hid (by rw [hw1]; exact (Below.refl _ _).alloc (Nat.le_refl _) _)
    rw [← hw1] at HF
    clear hw1
    go_wp2_with fail
    refine HF.out.mono ?_
    rintro e w2 ⟨rfl, hb2⟩
    have Hb2 := Lib.hid hb2
    clear hb2
    go_wp2_with fail
    go_ret2
    rw [Hr.out]
    exact ⟨rfl, then_bel Hb1.out Hb2.out⟩
  · have Hr : Hid (callL nLower x.data.toList = ([], 162)) := Lib.hid (call_long (by decide) hl)
    rw [hxl] at hl
    have hl' : (200 : Int) < (x.size : Int) := by omega
    clear hxl hS hl
    go_enter Tryz.func42, Tryz.ntmps42
    go_wp2_with fail
    refine HT.out.mono ?_
    rintro e w1 ⟨rfl, hw1⟩
    have HW := Lib.hid hw1
    have Hb1 : Hid (Below w.heap.size w w1) := Lib.hid (by rw [hw1]; exact (Below.refl _ _).alloc (Nat.le_refl _) _)
    clear hw1
    go_wp2_with fail
    go_ret2
    rw [Hr.out]
    exact ⟨rfl, Hb1.out⟩
theorem fun_upper (v : List UInt8) : funL nUpper v = some (upL v) := by unfold funL; rw [if_neg (by decide), if_neg (by decide), if_neg (by decide), if_neg (by decide)]
set_option maxHeartbeats 1000000 in
set_option maxRecDepth 100000 in
theorem call_upper (x : ByteArray) (w : World) (hS : Slo w) : Calls Tryz.prog 42 #[.string ⟨#[117, 112, 112, 101, 114]⟩, .string x] w fun e w' => e = .returned (callV (callL nUpper x.data.toList)) ∧ Below w.heap.size w w' := by
  have HT := Lib.hid (told_upper w hS)
  have hxl : x.data.toList.length = x.size := by simp
  have hnil := eq_fn
  by_cases hl : x.data.toList.length ≤ 200
  · rw [hxl] at hl
    have HF := Lib.hid (each_upp x (by omega) w.heap.size (w.alloc (.cells #[.func (.func 115) #[] #[]] 115)) (cell_in (o := 0) (heap_alloc_new w _)))
    have Hr : Hid (callL nUpper x.data.toList = (upL x.data.toList, 0)) := Lib.hid (by rw [call_fn (by decide) (by rw [hxl]; exact hl), fun_upper])
    clear hxl hS
    go_enter Tryz.func42, Tryz.ntmps42
    go_wp2_with fail
    refine HT.out.mono ?_
    rintro e w1 ⟨rfl, hw1⟩
    have HW := Lib.hid hw1
    have Hb1 : Hid (Below w.heap.size w w1) := Lib.hid (by rw [hw1]; exact (Below.refl _ _).alloc (Nat.le_refl _) _)
    rw [← hw1] at HF
    clear hw1
    go_wp2_with fail
    refine HF.out.mono ?_
    rintro e w2 ⟨rfl, hb2⟩
    have Hb2 := Lib.hid hb2
    clear hb2
    go_wp2_with fail
    go_ret2
    rw [Hr.out]
    exact ⟨rfl, then_bel Hb1.out Hb2.out⟩
  · have Hr : Hid (callL nUpper x.data.toList = ([], 162)) := Lib.hid (call_long (by decide) hl)
    rw [hxl] at hl
    have hl' : (200 : Int) < (x.size : Int) := by omega
    clear hxl hS hl
    go_enter Tryz.func42, Tryz.ntmps42
    go_wp2_with fail
    refine HT.out.mono ?_
    rintro e w1 ⟨rfl, hw1⟩
    have HW := Lib.hid hw1
    have Hb1 : Hid (Below w.heap.size w w1) := Lib.hid (by rw [hw1]; exact (Below.refl _ _).alloc (Nat.le_refl _) _)
    clear hw1
    go_wp2_with fail
    go_ret2
    rw [Hr.out]
    exact ⟨rfl, Hb1.out⟩
theorem B_eq {s : ByteArray} {l : List UInt8} (h : s.data.toList = l) : s = B l := by rw [← h, B_of]
theorem Call_any (s x : ByteArray) (w : World) (hS : Slo w) : Calls Tryz.prog 42 #[.string s, .string x] w fun e w' => e = .returned (callV (callL s.data.toList x.data.toList)) ∧ Below w.heap.size w w' := by
  cases hf : fnL s.data.toList with
  | false => exact call_none s x hf w hS
  | true =>
    have hf' := hf
    unfold fnL at hf'
    rw [decide_eq_true_eq] at hf'
    rcases hf' with h | h | h | h | h
    · rw [h, B_eq h]; exact call_double x w hS
    · rw [h, B_eq h]; exact call_lower x w hS
    · rw [h, B_eq h]; exact call_reverse x w hS
    · rw [h, B_eq h]; exact call_trim x w hS
    · rw [h, B_eq h]; exact call_upper x w hS
end Go.Proofs.YthjcifokmcbaoaaGreatDoor.st
/- The reference's Functions, known, blank, digits, double and Call of chapter 16 return plain functions. Conditions: texts of at most 2147483647 bytes. -/
namespace Go.Proofs.YthjcifokmcbaoaaGreatDoor.st
open Go.ChangeShapes Go.WideShapes Go.ChangeAt Go.RowKit gl

theorem refFunctions_any (w : World) : Calls Tryz.prog 41 #[] w fun e w' => e = .returned (.slice (some ⟨w.heap.size, 0, none⟩) 5 5) ∧ w' = w.alloc (.cells namesL.toArray 9) := by
  go_enter Tryz.func41, Tryz.ntmps41
  go_wp2_with fail
  go_ret
  exact ⟨rfl, rfl⟩
set_option maxHeartbeats 1000000 in
theorem known_any (s : ByteArray) (w : World) : Calls Tryz.prog 69 #[.string s] w fun e w' => e = .returned (.bool (fnL s.data.toList)) ∧ Below w.heap.size w w' := by
  have HF := Lib.hid (refFunctions_any w)
  go_enter Tryz.func69, Tryz.ntmps69
  go_wp2_with fail
  refine HF.out.mono ?_
  rintro e w1 ⟨rfl, hw1⟩
  have hcell : Hid (∀ k, k < 5 → w1.cell? ⟨w.heap.size, k, none⟩ = some (.string (B (nameAt k)))) := Lib.hid fun k hk => by
    rw [hw1, cell_in (heap_alloc_new w _), List.getElem?_toArray]
    exact namesL_at k hk
  have HB1 : Hid (Below w.heap.size w w1) := Lib.hid (by rw [hw1]; exact (Below.refl _ _).alloc (Nat.le_refl _) _)
  have hz1 : w.heap.size < w1.heap.size := by rw [hw1]; simp
  clear hw1
  go_wp2_with fail
  go_loop [4] (fun i => ∃ k : Nat, k ≤ 5 ∧ i = .int .i64 k ∧ Hid (∀ j, j < k → nameAt j ≠ s.data.toList)) (fun i => 5 - (intOf i).toNat)
  case atStart => exact ⟨0, by omega, rfl, Lib.hid fun j h => by omega⟩
  case round =>
    obtain ⟨k, hk, rfl, Hno⟩ := hrel
    by_cases hlt : k < 5
    · have hlt' : decide ((k : Int) < 5) = true := by simp; omega
      have hc := hcell.out k hlt
      by_cases he : nameAt k = s.data.toList
      · have q : ((B (nameAt k)).toList == s.toList) = true := seq_true (by rw [he, B_of])
        have Hr : Hid (fnL s.data.toList = true) := Lib.hid (by rw [← he]; exact fn_at k hlt)
        clear he
        generalize B (nameAt k) = nm at *
        go_wp2_with fail
        go_ret
        rw [Hr.out]
        exact ⟨rfl, HB1.out⟩
      · have q : ((B (nameAt k)).toList == s.toList) = false := seq_false (fun e => he (by rw [← e, B_list]))
        have Hn : Hid (∀ j, j < k + 1 → nameAt j ≠ s.data.toList) := Lib.hid fun j hj => by
          rcases Nat.lt_or_ge j k with h | h
          · exact Hno.out j h
          · obtain rfl : j = k := by omega
            exact he
        clear he
        generalize B (nameAt k) = nm at *
        go_wp2_with fail
        go_round
        case rel => exact ⟨k + 1, by omega, by go_num, Hn⟩
        case measure => simp [intOf]; omega
    · obtain rfl : k = 5 := by omega
      have hlt' : decide (((5 : Nat) : Int) < 5) = false := by decide
      have Hr : Hid (fnL s.data.toList = false) := Lib.hid (by
        cases hf : fnL s.data.toList with
        | false => rfl
        | true =>
          obtain ⟨k, hk, hke⟩ := fn_is hf
          exact absurd hke (Hno.out k hk))
      go_wp2_with fail
      go_ret
      rw [Hr.out]
      exact ⟨rfl, HB1.out⟩
theorem blank_any (b : UInt8) (w : World) : Calls Tryz.prog 82 #[.int .u8 (b.toNat : Int)] w fun e w' => e = .returned (.bool (ini.blk b)) ∧ w = w' := by
  have hb := b.toNat_lt
  rcases (show b.toNat = 32 ∨ b.toNat = 9 ∨ (b.toNat ≠ 32 ∧ b.toNat ≠ 9) by omega) with h1 | h1 | ⟨h1, h2⟩
  · obtain rfl : b = 32 := UInt8.toNat_inj.1 (by rw [h1]; rfl)
    go_enter Tryz.func82, Tryz.ntmps82
    go_wp2_with fail
    go_ret
    exact ⟨rfl, rfl⟩
  · obtain rfl : b = 9 := UInt8.toNat_inj.1 (by rw [h1]; rfl)
    go_enter Tryz.func82, Tryz.ntmps82
    go_wp2_with fail
    go_ret
    exact ⟨rfl, rfl⟩
  · have q1 : ((b.toNat : Int) == 32) = false := by simp; omega
    have q2 : ((b.toNat : Int) == 9) = false := by simp; omega
    have Hr : Hid (ini.blk b = false) := Lib.hid (by
      have n1 : b ≠ 32 := by rintro rfl; exact h1 rfl
      have n2 : b ≠ 9 := by rintro rfl; exact h2 rfl
      simp [ini.blk, n1, n2])
    clear h1 h2
    go_enter Tryz.func82, Tryz.ntmps82
    go_wp2_with fail
    go_ret
    rw [Hr.out]
    exact ⟨rfl, rfl⟩
theorem digit_cut : ∀ n : Nat, n < 10 → (⟨#[48, 49, 50, 51, 52, 53, 54, 55, 56, 57]⟩ : ByteArray).extract n (n + 1) = B [UInt8.ofNat (48 + n)]
  | 0, _ => rfl | 1, _ => rfl | 2, _ => rfl | 3, _ => rfl | 4, _ => rfl | 5, _ => rfl | 6, _ => rfl | 7, _ => rfl | 8, _ => rfl | 9, _ => rfl
  | n + 10, h => by omega
set_option maxHeartbeats 1000000 in
set_option maxRecDepth 100000 in
theorem digits_any (k : Nat) : ∀ (n : Nat) (w : World), n ≤ k → n ≤ 4294967296 → Calls Tryz.prog 132 #[.int .i64 (n : Int)] w fun e w' => e = .returned (.string (B (Lib.decDigits n))) ∧ ∃ q, w' = w.drewN q := by
  have small : ∀ (n : Nat) (w : World), n < 10 → Calls Tryz.prog 132 #[.int .i64 (n : Int)] w fun e w' => e = .returned (.string (B (Lib.decDigits n))) ∧ ∃ q, w' = w.drewN q := by
    intro n w hn
    have hn' : decide ((n : Int) < 10) = true := by simp; omega
    have hcut := digit_cut n hn
    have Hr : Hid (B [UInt8.ofNat (48 + n)] = B (Lib.decDigits n)) := Lib.hid (by rw [va.decDigits_lt hn])
    generalize B [UInt8.ofNat (48 + n)] = D at *
    go_enter Tryz.func132, Tryz.ntmps132
    go_wp2_with fail
    go_ret
    rw [Hr.out]
    exact ⟨rfl, 0, rfl⟩
  induction k with
  | zero => exact fun n w hk _ => small n w (by omega)
  | succ k ih =>
    intro n w hk h32
    by_cases hn : n < 10
    · exact small n w hn
    · have hn' : decide ((n : Int) < 10) = false := by simp; omega
      obtain ⟨q, hq⟩ : ∃ q : Nat, q = n / 10 := ⟨_, rfl⟩
      obtain ⟨r, hr⟩ : ∃ r : Nat, r = n % 10 := ⟨_, rfl⟩
      have hr10 : r < 10 := by omega
      have hq1 : q ≤ 429496729 := by omega
      have e1 : (n : Int).tdiv 10 = (q : Int) := by rw [Int.tdiv_eq_ediv_of_nonneg (by omega)]; omega
      have e2 : (n : Int).tmod 10 = (r : Int) := by rw [Int.tmod_eq_emod_of_nonneg (by omega)]; omega
      have e1' : (n : Int) / 10 = (q : Int) := by omega
      have e2' : (n : Int) % 10 = (r : Int) := by omega
      have w1 : IntKind.i64.wrap (q : Int) = (q : Int) := IntWalk.i64_in _ (by omega)
      have w2 : IntKind.i64.wrap (r : Int) = (r : Int) := IntWalk.i64_in _ (by omega)
      have w3 : IntKind.i64.wrap ((r : Int) + 1) = (r : Int) + 1 := IntWalk.i64_in _ (by omega)
      have w4 : ((r : Int) + 1).toNat = r + 1 := by omega
      have w5 : 0 ≤ (r : Int) + 1 := by omega
      have hcut := digit_cut r hr10
      have hD1 : (B [UInt8.ofNat (48 + r)]).size = 1 := rfl
      have HI := Lib.hid fun W => ih q W (by omega) (by omega)
      have hlen : (Lib.decDigits q).length ≤ 10 := decDigits_len 9 q (by omega)
      have hcat : ∀ W : World, (Op.stringOp .add (B (Lib.decDigits q)) (B [UInt8.ofNat (48 + r)])).run Tryz.prog W = .ok (.string (B (Lib.decDigits n))) W := fun W => by
        have h := run_string_add_sum (P := Tryz.prog) W (B (Lib.decDigits q)) (B [UInt8.ofNat (48 + r)]) (by rw [B_size, hD1]; omega)
        rw [h]
        have : B (Lib.decDigits q) ++ B [UInt8.ofNat (48 + r)] = B (Lib.decDigits n) := by
          apply ba_inj
          rw [va.decDigits_ge hn, ← hq, ← hr]
          simp [ByteArray.data_append]
        rw [this]
      generalize B [UInt8.ofNat (48 + r)] = D at *
      generalize B (Lib.decDigits q) = Q at *
      generalize B (Lib.decDigits n) = Z at *
      clear hq hr ih small hlen hD1
      go_enter Tryz.func132, Tryz.ntmps132
      go_wp2_with fail
      go_quiet ((go_at_call 132; exact Calls.quiet_of (HI.out _)))
      go_wp2_with fail
      go_ret
      exact ⟨rfl, _, rfl⟩
end Go.Proofs.YthjcifokmcbaoaaGreatDoor.st
/- The reference's double of chapter 16 returns a plain function. Conditions: texts of at most 2147483647 bytes. -/
namespace Go.Proofs.YthjcifokmcbaoaaGreatDoor.st
open Go.ChangeShapes Go.WideShapes Go.ChangeAt Go.RowKit gl

def dblV (r : Option (List UInt8)) : List UInt8 × Int := match r with
  | none => ([], 162)
  | some u => (u, 0)
theorem decN_pow : ∀ (l : List UInt8) (acc : Nat), l.all va.isDig = true → va.decN acc l < (acc + 1) * 10 ^ l.length
  | [], acc, _ => by rw [va.decN_nil]; simp
  | c :: r, acc, h => by
    simp only [List.all_cons, Bool.and_eq_true] at h
    have hc : 48 ≤ c.toNat ∧ c.toNat ≤ 57 := of_decide_eq_true h.1
    rw [va.decN_cons]
    have ih := decN_pow r (acc * 10 + (c.toNat - 48)) h.2
    have hle : acc * 10 + (c.toNat - 48) + 1 ≤ (acc + 1) * 10 := by omega
    have h2 := Nat.mul_le_mul_right (10 ^ r.length) hle
    rw [List.length_cons, Nat.pow_succ, Nat.mul_comm (10 ^ r.length) 10, ← Nat.mul_assoc]
    omega
theorem decN_bound (l : List UInt8) (h : l.all va.isDig = true) (hl : l.length ≤ 10) : va.decN 0 l ≤ 9999999999 := by
  have h1 := decN_pow l 0 h
  have h2 : 10 ^ l.length ≤ 10 ^ 10 := Nat.pow_le_pow_right (by omega) hl
  omega
theorem dbl_cases (l : List UInt8) : (l = [] ∧ dblL l = none) ∨ (10 < l.length ∧ dblL l = none) ∨ (l ≠ [] ∧ l.length ≤ 10 ∧ 1 < l.length ∧ l.head? = some 48 ∧ dblL l = none) ∨
    (l ≠ [] ∧ l.length ≤ 10 ∧ ¬ (1 < l.length ∧ l.head? = some 48) ∧ ((l.all va.isDig = false ∧ dblL l = none) ∨ (l.all va.isDig = true ∧ va.decN 0 l ≤ 9999999999 ∧ dblL l = if va.decN 0 l ≤ 2147483648 then some (Lib.decDigits (2 * va.decN 0 l)) else none))) := by
  have hnone : ∀ {l}, va.num l = none → dblL l = none := fun h => by unfold dblL; rw [h]
  cases l with
  | nil => exact .inl ⟨rfl, rfl⟩
  | cons c r =>
    right
    cases hd : (c :: r).all va.isDig with
    | false =>
      have hz := hnone (va.num_bad hd)
      rcases Nat.lt_or_ge 10 (c :: r).length with h | h
      · exact .inl ⟨h, hz⟩
      · right
        by_cases h2 : 1 < (c :: r).length ∧ (c :: r).head? = some 48
        · exact .inl ⟨by simp, h, h2.1, h2.2, hz⟩
        · exact .inr ⟨by simp, h, h2, .inl ⟨rfl, hz⟩⟩
    | true =>
      by_cases h2 : 1 < (c :: r).length ∧ (c :: r).head? = some 48
      · have hc : c = 48 := by simpa using h2.2
        have hs : va.shaped (c :: r) = false := by
          subst hc
          cases r with
          | nil => simp at h2
          | cons a b => rfl
        have hz := hnone (va.num_unshaped hs)
        rcases Nat.lt_or_ge 10 (c :: r).length with h | h
        · exact .inl ⟨h, hz⟩
        · exact .inr (.inl ⟨by simp, h, h2.1, h2.2, hz⟩)
      · have hs : va.shaped (c :: r) = true := by
          unfold va.shaped
          cases r with
          | nil => simp
          | cons a b =>
            have : ¬ c = 48 := by
              intro e
              exact h2 ⟨by simp, by rw [e]; rfl⟩
            have : ¬ c.toNat = 48 := fun e => this (UInt8.toNat_inj.1 e)
            simp [this]
        have hn := va.num_some hd hs
        have hb := va.decDigits_decN _ hd hs
        have hlen : (c :: r).length ≤ 10 ∨ 10 < (c :: r).length := by omega
        rcases hlen with h | h
        · refine .inr (.inr ⟨by simp, h, h2, .inr ⟨rfl, ?_, ?_⟩⟩)
          · exact decN_bound _ hd h
          · unfold dblL
            rw [hn]
            simp only
            have e : min (va.decN 0 (c :: r)) 4611686018427387905 = va.decN 0 (c :: r) := Nat.min_eq_left (by have := decN_bound _ hd h; omega)
            rw [e]
        · left
          refine ⟨h, ?_⟩
          have hbig : 10000000000 ≤ va.decN 0 (c :: r) := by
            rcases Nat.lt_or_ge (va.decN 0 (c :: r)) 10000000000 with h3 | h3
            · have := decDigits_len 9 _ h3
              rw [hb] at this
              omega
            · exact h3
          unfold dblL
          rw [hn]
          simp only
          rw [if_neg (by omega)]
theorem all_bad {l : List UInt8} {k : Nat} {b : UInt8} (hb : l[k]? = some b) (hp : va.isDig b = false) : l.all va.isDig = false := by
  rw [List.all_eq_false]
  exact ⟨b, List.mem_of_getElem? hb, by rw [hp]; simp⟩
theorem dec_step {l : List UInt8} {k : Nat} {b : UInt8} (hb : l[k]? = some b) : va.decN 0 (l.take (k + 1)) = va.decN 0 (l.take k) * 10 + (b.toNat - 48) := by
  have hk := lt_of_at hb
  rw [List.take_succ_eq_append_getElem hk, va.decN_snoc]
  rw [List.getElem?_eq_getElem hk] at hb
  rw [Option.some.inj hb]
theorem dig_of {b : UInt8} (h : 48 ≤ b.toNat) (h2 : b.toNat ≤ 57) : va.isDig b = true := decide_eq_true ⟨h, h2⟩
theorem dig_no {b : UInt8} (h : b.toNat < 48 ∨ 57 < b.toNat) : va.isDig b = false := decide_eq_false (by omega)
theorem all_digs {l : List UInt8} (h : ∀ (j : Nat) (b : UInt8), l[j]? = some b → va.isDig b = true) : l.all va.isDig = true := by
  rw [List.all_eq_true]
  intro b hb
  obtain ⟨j, hj⟩ := List.mem_iff_getElem?.1 hb
  exact h j b hj
set_option maxHeartbeats 2000000 in
set_option maxRecDepth 100000 in
theorem refDouble_any (s : ByteArray) (hs : s.size ≤ 2147483647) (w : World) :
    Calls Tryz.prog 80 #[.string s] w fun e w' => e = .returned (callV (dblV (dblL s.data.toList))) ∧ Below w.heap.size w w' := by
  have hsl : s.data.toList.length = s.size := by simp
  rcases dbl_cases s.data.toList with ⟨h0, hn⟩ | ⟨h10, hn⟩ | ⟨h0, h10, h1, h48, hn⟩ | ⟨h0, h10, h48, hrest⟩
  · have he : s.toList.isEmpty = true := by rw [ByteArray.toList_eq, h0]; rfl
    have he' : (s.toList == []) = true := by rw [ByteArray.toList_eq, h0]; rfl
    have Hr : Hid (callV (dblV (dblL s.data.toList)) = .tuple #[.string ⟨#[]⟩, .int .i64 162]) := Lib.hid (by rw [hn]; rfl)
    clear hn h0 hsl
    go_enter Tryz.func80, Tryz.ntmps80
    go_wp2_with fail
    go_ret2
    rw [Hr.out]
    exact ⟨rfl, Below.refl _ _⟩
  · have he : s.toList.isEmpty = false := by rw [ByteArray.toList_eq]; cases h : s.data.toList with | nil => rw [h] at h10; simp at h10 | cons => rfl
    rw [hsl] at h10
    have h10' : (10 : Int) < (s.size : Int) := by omega
    have Hr : Hid (callV (dblV (dblL s.data.toList)) = .tuple #[.string ⟨#[]⟩, .int .i64 162]) := Lib.hid (by rw [hn]; rfl)
    clear hn hsl
    go_enter Tryz.func80, Tryz.ntmps80
    go_wp2_with fail
    go_ret2
    rw [Hr.out]
    exact ⟨rfl, Below.refl _ _⟩
  · have he : s.toList.isEmpty = false := by rw [ByteArray.toList_eq]; cases h : s.data.toList with | nil => exact absurd h h0 | cons => rfl
    rw [hsl] at h10 h1
    have h1' : (1 : Int) < (s.size : Int) := by omega
    have hs0 : 0 < s.size := by omega
    obtain ⟨b, hb, hbk, _, _⟩ := byteAt s 0 hs0
    have hbk' := hbk hs0
    have q : ((b.toNat : Int) == 48) = true := by
      have : b = 48 := by
        cases h : s.data.toList with
        | nil => rw [h] at hb; simp at hb
        | cons c r =>
          rw [h] at hb h48
          simp at hb h48
          rw [← hb, h48]
      rw [this]; rfl
    have Hr : Hid (callV (dblV (dblL s.data.toList)) = .tuple #[.string ⟨#[]⟩, .int .i64 162]) := Lib.hid (by rw [hn]; rfl)
    clear hn hsl h48 h0 hb
    go_enter Tryz.func80, Tryz.ntmps80
    go_wp2_with fail
    go_ret2
    rw [Hr.out]
    exact ⟨rfl, Below.refl _ _⟩
  · have he : s.toList.isEmpty = false := by rw [ByteArray.toList_eq]; cases h : s.data.toList with | nil => exact absurd h h0 | cons => rfl
    have hs0 : 0 < s.size := by
      rw [← hsl]
      exact List.length_pos_iff.2 h0
    rw [hsl] at h10 h48
    have H48 := Lib.hid h48
    have Hrest := Lib.hid hrest
    have hsl' := Lib.hid hsl
    clear h48 hrest hsl h0
    obtain ⟨b0, hb0, hbk, _, _⟩ := byteAt s 0 hs0
    have hbk' := hbk hs0
    have hguard : s.size = 1 ∨ (1 < s.size ∧ ((b0.toNat : Int) == 48) = false) := by
      rcases (show s.size = 1 ∨ 1 < s.size by omega) with h | h
      · exact .inl h
      · refine .inr ⟨h, ?_⟩
        rw [beq_eq_false_iff_ne]
        intro e
        refine H48.out ⟨h, ?_⟩
        have : b0 = 48 := UInt8.toNat_inj.1 (by show b0.toNat = 48; omega)
        cases hc : s.data.toList with
        | nil => rw [hc] at hb0; simp at hb0
        | cons c r => rw [hc] at hb0; simp at hb0; rw [hb0, this]; rfl
    clear H48 hb0
    go_enter Tryz.func80, Tryz.ntmps80
    rcases hguard with h1 | ⟨h1, h1'⟩
    case' inl =>
      have h1i : decide ((1 : Int) < (s.size : Int)) = false := by simp; omega
      go_wp2_with fail
    case' inr =>
      have h1i : (1 : Int) < (s.size : Int) := by omega
      go_wp2_with fail
    all_goals
      go_loop [4, 5] (fun vn vi => ∃ k n : Nat, k ≤ s.size ∧ vi = .int .i64 k ∧ vn = .int .i64 n ∧ n ≤ 9999999999 ∧ Hid (n = va.decN 0 (s.data.toList.take k) ∧ ∀ (j : Nat) (b : UInt8), j < k → s.data.toList[j]? = some b → va.isDig b = true)) (fun _ vi => s.size - (intOf vi).toNat)
      case atStart => exact ⟨0, 0, by omega, rfl, rfl, by omega, Lib.hid ⟨by simp [va.decN_nil], fun j b h => by omega⟩⟩
      case round =>
        obtain ⟨k, n, hk, rfl, rfl, hn, HN⟩ := hrel
        by_cases hlt : k < s.size
        · obtain ⟨b, hb, hbk2, hbb0, hbb1⟩ := byteAt s k hlt
          have hbk3 := hbk2 hlt
          rcases (show b.toNat < 48 ∨ 57 < b.toNat ∨ (48 ≤ b.toNat ∧ b.toNat ≤ 57) by omega) with h | h | ⟨h, h'⟩
          · have Hr : Hid (callV (dblV (dblL s.data.toList)) = .tuple #[.string ⟨#[]⟩, .int .i64 162]) := Lib.hid (by
              rcases Hrest.out with ⟨_, e⟩ | ⟨e, _⟩
              · rw [e]; rfl
              · rw [all_bad hb (dig_no (.inl h))] at e; cases e)
            have q : decide ((b.toNat : Int) < 48) = true := by simp; omega
            clear hb h
            go_wp2_with fail
            go_ret2
            rw [Hr.out]
            exact ⟨rfl, Below.refl _ _⟩
          · have Hr : Hid (callV (dblV (dblL s.data.toList)) = .tuple #[.string ⟨#[]⟩, .int .i64 162]) := Lib.hid (by
              rcases Hrest.out with ⟨_, e⟩ | ⟨e, _⟩
              · rw [e]; rfl
              · rw [all_bad hb (dig_no (.inr h))] at e; cases e)
            have q : decide ((b.toNat : Int) < 48) = false := by simp; omega
            have q' : decide (57 < (b.toNat : Int)) = true := by simp; omega
            clear hb h
            go_wp2_with fail
            go_ret2
            rw [Hr.out]
            exact ⟨rfl, Below.refl _ _⟩
          · have hN2 : 10 * n + (b.toNat - 48) = va.decN 0 (s.data.toList.take (k + 1)) := by rw [dec_step hb, ← HN.out.1]; omega
            have hall : ∀ (j : Nat) (c : UInt8), j < k + 1 → s.data.toList[j]? = some c → va.isDig c = true := fun j c hj hc => by
              rcases Nat.lt_or_ge j k with h3 | h3
              · exact HN.out.2 j c h3 hc
              · obtain rfl : j = k := by omega
                rw [hb] at hc
                obtain rfl := Option.some.inj hc
                exact dig_of h h'
            have hbd : 10 * n + (b.toNat - 48) ≤ 9999999999 := by
              rw [hN2]
              refine decN_bound _ (all_digs fun j c hc => ?_) (by rw [List.length_take]; omega)
              rw [List.getElem?_take] at hc
              split at hc
              · exact hall j c (by omega) hc
              · cases hc
            have HN2 := Lib.hid (show 10 * n + (b.toNat - 48) = va.decN 0 (s.data.toList.take (k + 1)) ∧ ∀ (j : Nat) (c : UInt8), j < k + 1 → s.data.toList[j]? = some c → va.isDig c = true from ⟨hN2, hall⟩)
            have q : decide ((b.toNat : Int) < 48) = false := by simp; omega
            have q' : decide (57 < (b.toNat : Int)) = false := by simp; omega
            have q1 : (48 : Int) ≤ (b.toNat : Int) := by omega
            have q2 : (b.toNat : Int) ≤ 57 := by omega
            clear hN2 hall hb h h'
            go_wp2_with fail
            go_round
            case rel => exact ⟨k + 1, 10 * n + (b.toNat - 48), by omega, by go_num, congrArg (Value.int .i64) (by omega), hbd, HN2⟩
            case measure => simp [intOf]; omega
        · obtain rfl : k = s.size := by omega
          have hall : s.data.toList.all va.isDig = true := all_digs fun j b hb => HN.out.2 j b (by have := lt_of_at hb; rw [hsl'.out] at this; exact this) hb
          have hN : n = va.decN 0 s.data.toList := by
            have := HN.out.1
            rwa [List.take_of_length_le (by rw [hsl'.out]; exact Nat.le_refl _)] at this
          have hd : dblL s.data.toList = if n ≤ 2147483648 then some (Lib.decDigits (2 * n)) else none := by
            rcases Hrest.out with ⟨e, _⟩ | ⟨_, _, e⟩
            · rw [hall] at e; cases e
            · rw [e, hN]
          by_cases hbig : n ≤ 2147483648
          · have Hr : Hid (callV (dblV (dblL s.data.toList)) = .tuple #[.string (B (Lib.decDigits (2 * n))), .int .i64 0]) := Lib.hid (by rw [hd, if_pos hbig]; rfl)
            have HD := Lib.hid fun W => digits_any (2 * n) (2 * n) W (Nat.le_refl _) (by omega)
            have e2 : ((2 * n : Nat) : Int) = 2 * (n : Int) := by omega
            rw [e2] at HD
            clear hd hN hall e2
            go_wp2_with fail
            refine (HD.out _).mono ?_
            rintro e w1 ⟨rfl, q, hw1⟩
            have Hb1 : Hid (Below w.heap.size w w1) := Lib.hid (by rw [hw1]; exact drewN_bel w q)
            clear hw1
            go_wp2_with fail
            go_ret2
            rw [Hr.out]
            exact ⟨rfl, Hb1.out⟩
          · have Hr : Hid (callV (dblV (dblL s.data.toList)) = .tuple #[.string ⟨#[]⟩, .int .i64 162]) := Lib.hid (by rw [hd, if_neg hbig]; rfl)
            clear hd hN hall
            go_wp2_with fail
            go_ret2
            rw [Hr.out]
            exact ⟨rfl, Below.refl _ _⟩
end Go.Proofs.YthjcifokmcbaoaaGreatDoor.st
