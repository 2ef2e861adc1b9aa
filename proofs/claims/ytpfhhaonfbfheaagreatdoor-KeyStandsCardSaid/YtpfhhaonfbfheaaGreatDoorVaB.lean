/- Plain laws of values: what is printed of a value that may be is read as it; what is read may be; a text of Int, Text or Words is printed as itself. No program in sight. Condition on words: none is empty, none has a comma. -/
import Derived.Test.YtpfhhaonfbfheaaGreatDoorVaA
import Derived.Lib.Join
namespace Go.Proofs.YtpfhhaonfbfheaaGreatDoor.va

theorem join_cc (x y : List UInt8) (r : List (List UInt8)) : Lib.join (x :: y :: r) [44] = x ++ 44 :: Lib.join (y :: r) [44] := by
  rw [Lib.join_cons, Lib.join_cons]
  simp [Lib.joinTail]
theorem pcs_append (x l : List UInt8) (h : (44 : UInt8) ∉ x) : pcs 44 (x ++ 44 :: l) = x :: pcs 44 l := by
  have := pcs_hit 44 x.length (x ++ 44 :: l) (fun j hj => by
    rw [List.getElem?_append_left hj]
    intro e
    exact h (List.mem_of_getElem? e)) (by simp)
  rw [this]
  simp
theorem pcs_clean (x : List UInt8) (h : (44 : UInt8) ∉ x) : pcs 44 x = [x] := pcs_none 44 x fun _ e => h (List.mem_of_getElem? e)
theorem pcs_join : ∀ (x : List UInt8) (r : List (List UInt8)), (∀ y ∈ x :: r, (44 : UInt8) ∉ y) → pcs 44 (Lib.join (x :: r) [44]) = x :: r
  | x, [], h => by rw [Lib.join_one]; exact pcs_clean x (h x (by simp))
  | x, y :: r, h => by
    rw [join_cc, pcs_append x _ (h x (by simp)), pcs_join y r (fun z hz => h z (by simp at hz ⊢; right; exact hz))]
theorem join_pcs : ∀ l : List UInt8, Lib.join (pcs 44 l) [44] = l
  | [] => rfl
  | c :: r => by
    have ih := join_pcs r
    cases hp : pcs 44 r with
    | nil => exact absurd hp (pcs_ne 44 r)
    | cons p ps =>
      rw [hp] at ih
      by_cases hc : c = 44
      · subst hc
        rw [pcs, if_pos rfl, hp, join_cc, ih]
        rfl
      · rw [pcs_other hc hp]
        cases ps with
        | nil => rw [Lib.join_one] at ih ⊢; rw [ih]
        | cons q qs => rw [join_cc] at ih ⊢; rw [List.cons_append, ih]

theorem joined_map (L : List (List UInt8)) : joined (L.map B) = Lib.join L [44] := by
  unfold joined
  rw [List.map_map]
  congr 1
  induction L with
  | nil => rfl
  | cons a l ih => simp [ih]
theorem map_B (ws : List ByteArray) : (ws.map (·.data.toList)).map B = ws := by
  rw [List.map_map]
  induction ws with
  | nil => rfl
  | cons a l ih => simp only [List.map_cons, ih, Function.comp, B_toList]

/-- What a word is like. -/
structure IsWord (isW : List UInt8 → Bool) : Prop where
  ne : ∀ l, isW l = true → l ≠ []
  comma : ∀ l, isW l = true → (44 : UInt8) ∉ l
  size : ∀ l, isW l = true → l.length ≤ 32

theorem right_words {isW : List UInt8 → Bool} (hW : IsWord isW) {ws : List ByteArray} (h : ws.all (fun x => isW x.data.toList) = true) (h16 : ws.length ≤ 16) (h200 : (joined ws).length ≤ 200) :
    parseWords isW (joined ws) = (⟨6, 0, ByteArray.empty, ws⟩, 0) := by
  cases ws with
  | nil => rfl
  | cons x r =>
    have hall : ∀ y ∈ (x :: r).map (·.data.toList), isW y = true := by
      intro y hy
      obtain ⟨z, hz, rfl⟩ := List.mem_map.1 hy
      exact List.all_eq_true.1 h z hz
    have hp : pcs 44 (joined (x :: r)) = (x :: r).map (·.data.toList) := pcs_join _ _ fun y hy => hW.comma y (hall y hy)
    have hne : joined (x :: r) ≠ [] := by
      unfold joined
      rw [List.map_cons, Lib.join_cons]
      intro e
      exact hW.ne _ (hall x.data.toList (by simp)) (List.append_eq_nil_iff.1 e).1
    unfold parseWords
    rw [if_neg hne, hp, if_pos (List.all_eq_true.2 hall), if_neg (by rw [List.length_map]; omega), map_B]

theorem head_digits {u : Nat} : ∀ b, (Lib.decDigits u).head? = some b → isDig b = true := by
  intro b hb
  have := decDigits_all u
  rw [List.all_eq_true] at this
  exact this b (List.mem_of_mem_head? hb)
theorem itoa_neg {n : Int} (h : n < 0) : Lib.itoa n = 45 :: Lib.decDigits n.natAbs := by unfold Lib.itoa; rw [if_pos h]
theorem itoa_pos {n : Int} (h : ¬ n < 0) : Lib.itoa n = Lib.decDigits n.toNat := by unfold Lib.itoa; rw [if_neg h]
theorem parseInt_itoa {n : Int} (h0 : -4611686018427387904 ≤ n) (h1 : n ≤ 4611686018427387904) : parseInt (Lib.itoa n) = (⟨2, n, ByteArray.empty, []⟩, 0) := by
  by_cases h : n < 0
  · rw [itoa_neg h]
    unfold parseInt
    simp only [List.head?_cons, if_true, List.tail_cons, true_and]
    rw [num_decDigits (by omega)]
    simp only
    rw [if_neg (by omega), if_neg (by omega)]
    congr 2
    omega
  · rw [itoa_pos h]
    have hh : (Lib.decDigits n.toNat).head? ≠ some 45 := by
      intro e
      have := head_digits 45 e
      simp [isDig] at this
    unfold parseInt
    simp only [hh, if_false, false_and]
    rw [num_decDigits (by omega)]
    simp only
    rw [if_neg (by omega)]
    congr 2
    omega

theorem digs_append {d n : List UInt8} (hd : d.all isDig = true) (hn : ∀ b, n.head? = some b → isDig b = false) : digs (d ++ n) = d.length := by
  refine digs_at (fun j b hj hb => ?_) (by simp) (fun b hb => ?_)
  · rw [List.getElem?_append_left hj] at hb
    exact List.all_eq_true.1 hd b (List.mem_of_getElem? hb)
  · rw [List.getElem?_append_right (Nat.le_refl _), Nat.sub_self] at hb
    exact hn b (by rw [List.head?_eq_getElem?]; exact hb)
theorem uname_head (k : Int) (i : Nat) : ∀ b, (uname k i).head? = some b → isDig b = false := by
  intro b hb
  unfold uname at hb
  split at hb <;> split at hb <;> simp at hb <;> subst hb <;> rfl
theorem best_le (k n : Int) : best k n ≤ 3 := by
  unfold best
  repeat' split
  all_goals omega
theorem best_mod (k n : Int) (hk : k = 3 ∨ k = 4) : n % unit k (uname k (best k n)) = 0 := by
  unfold best
  split
  · rename_i h; subst h; simp
  · split
    · assumption
    · split
      · assumption
      · split
        · assumption
        · rcases hk with rfl | rfl
          · show n % 1 = 0; omega
          · show n % 1 = 0; omega
theorem unit_uname (k : Int) (i : Nat) (hk : k = 3 ∨ k = 4) (hi : i ≤ 3) : 1 ≤ unit k (uname k i) := by
  rcases hk with rfl | rfl <;> rcases (show i = 0 ∨ i = 1 ∨ i = 2 ∨ i = 3 by omega) with rfl | rfl | rfl | rfl <;> decide
theorem uname_ne4 (i : Nat) : uname 4 i ≠ [] := by
  unfold uname
  rw [if_neg (by decide)]
  split <;> simp
theorem parseUnit_print {k n : Int} (hk : k = 3 ∨ k = 4) (h0 : 0 ≤ n) (h1 : n ≤ most k) :
    parseUnit k (Lib.itoa (n / unit k (uname k (best k n))) ++ uname k (best k n)) = (⟨k, n, ByteArray.empty, []⟩, 0) := by
  have hu := unit_uname k (best k n) hk (best_le k n)
  have hm := best_mod k n hk
  have hne : k = 4 → uname k (best k n) ≠ [] := by rintro rfl; exact uname_ne4 _
  have hh := uname_head k (best k n)
  have hmost : most k ≤ 1125899906842624 := by rcases hk with rfl | rfl <;> decide
  generalize hname : uname k (best k n) = nm at *
  generalize hun : unit k nm = u at *
  have hq0 : 0 ≤ n / u := Int.ediv_nonneg h0 (by omega)
  have hqn : n / u * u = n := by have := Int.ediv_mul_add_emod n u; omega
  have hqle : n / u ≤ n := by
    have : n / u * 1 ≤ n / u * u := Int.mul_le_mul_of_nonneg_left hu hq0
    omega
  have hqm : n / u ≤ most k / u := Int.ediv_le_ediv (by omega) h1
  generalize n / u = q at *
  rw [itoa_pos (by omega)]
  have hdg : digs (Lib.decDigits q.toNat ++ nm) = (Lib.decDigits q.toNat).length := digs_append (decDigits_all _) hh
  have ht : tail k (Lib.decDigits q.toNat ++ nm) = u := by
    unfold tail
    rw [if_neg ?_, hdg, List.drop_left, hun]
    rintro ⟨rfl, e⟩
    have h2 := congrArg List.length e
    have h3 : 0 < (Lib.decDigits q.toNat).length := List.length_pos_iff.2 (decDigits_ne _)
    have h4 : 0 < nm.length := List.length_pos_iff.2 (hne rfl)
    simp at h2
    omega
  unfold parseUnit
  rw [ht, hdg, List.take_left, num_decDigits (by omega)]
  simp only
  rw [if_neg (by omega), if_neg (by omega)]
  congr 2
  rw [show ((q.toNat : Nat) : Int) = q by omega]
  exact hqn

theorem right_cases {isW : List UInt8 → Bool} {v : Val} (h : right isW v = true) :
    (v.kind = 1 ∧ 0 ≤ v.int ∧ v.int ≤ 1 ∧ v.text = ByteArray.empty ∧ v.words = []) ∨
    (v.kind = 2 ∧ -4611686018427387904 ≤ v.int ∧ v.int ≤ 4611686018427387904 ∧ v.text = ByteArray.empty ∧ v.words = []) ∨
    ((v.kind = 3 ∨ v.kind = 4) ∧ 0 ≤ v.int ∧ v.int ≤ most v.kind ∧ v.text = ByteArray.empty ∧ v.words = []) ∨
    (v.kind = 5 ∧ v.int = 0 ∧ v.text.size ≤ 200 ∧ v.text.data.toList.all prn = true ∧ v.words = []) ∨
    (v.kind = 6 ∧ v.int = 0 ∧ v.text = ByteArray.empty ∧ v.words.length ≤ 16 ∧ v.words.all (fun x => isW x.data.toList) = true ∧ (joined v.words).length ≤ 200) := by
  obtain ⟨k, n, t, ws⟩ := v
  simp only [right, Bool.and_eq_true, Bool.or_eq_true, decide_eq_true_eq, List.isEmpty_iff] at h
  obtain ⟨⟨⟨h1, h2⟩, h3, h4⟩, h5⟩ := h
  simp only at *
  rcases h5 with (h5 | ⟨h5, h6, h7⟩) | ⟨h5, ⟨h6, h7⟩, h8⟩
  · have h1' : t = ByteArray.empty := by rcases h1 with h1 | h1; omega; exact h1
    have h2' : ws = [] := by rcases h2 with h2 | h2; omega; exact h2
    rcases h5 with rfl | rfl | rfl | rfl
    · exact .inl ⟨rfl, by simpa [least] using h3, by simpa [most] using h4, h1', h2'⟩
    · exact .inr (.inl ⟨rfl, by simpa [least] using h3, by simpa [most] using h4, h1', h2'⟩)
    · exact .inr (.inr (.inl ⟨.inl rfl, by simpa [least] using h3, h4, h1', h2'⟩))
    · exact .inr (.inr (.inl ⟨.inr rfl, by simpa [least] using h3, h4, h1', h2'⟩))
  · subst h5
    have h2' : ws = [] := by rcases h2 with h2 | h2; omega; exact h2
    simp [least, most] at h3 h4
    exact .inr (.inr (.inr (.inl ⟨rfl, by omega, h6, h7, h2'⟩)))
  · subst h5
    have h1' : t = ByteArray.empty := by rcases h1 with h1 | h1; omega; exact h1
    simp [least, most] at h3 h4
    exact .inr (.inr (.inr (.inr ⟨rfl, by omega, h1', h6, h7, h8⟩)))

/-- What is printed of a value that may be is read as it. -/
theorem parse_prints {isW : List UInt8 → Bool} (hW : IsWord isW) {v : Val} (h : right isW v = true) : parse isW v.kind (prints v) = (v, 0) := by
  rcases right_cases h with ⟨hk, h1, h2, h3, h4⟩ | ⟨hk, h1, h2, h3, h4⟩ | ⟨hk, h1, h2, h3, h4⟩ | ⟨hk, h1, h2, h3, h4⟩ | ⟨hk, h1, h2, h3, h4, h5⟩
  · obtain ⟨k, n, t, ws⟩ := v
    simp only at *
    subst hk h3 h4
    rcases (show n = 0 ∨ n = 1 by omega) with rfl | rfl <;> rfl
  · obtain ⟨k, n, t, ws⟩ := v
    simp only at *
    subst hk h3 h4
    simp only [parse, prints]
    exact parseInt_itoa h1 h2
  · obtain ⟨k, n, t, ws⟩ := v
    simp only at *
    subst h3 h4
    have e1 : ¬ k = 1 := by omega
    have e2 : ¬ k = 2 := by omega
    have e5 : ¬ k = 5 := by omega
    have e6 : ¬ k = 6 := by omega
    simp only [parse, prints, e1, e2, e5, e6, hk, if_true, if_false]
    exact parseUnit_print hk h1 h2
  · obtain ⟨k, n, t, ws⟩ := v
    simp only at *
    subst hk h1 h4
    show parseText t.data.toList = _
    unfold parseText
    rw [if_pos h3, if_neg (by rw [Lib.size_eq] at h2; omega), B_toList]
  · obtain ⟨k, n, t, ws⟩ := v
    simp only at *
    subst hk h1 h2
    exact right_words hW h4 h3 h5

theorem right_of {isW : List UInt8 → Bool} {v : Val} (h1 : v.kind = 5 ∨ v.text = ByteArray.empty) (h2 : v.kind = 6 ∨ v.words = []) (h3 : least v.kind ≤ v.int) (h4 : v.int ≤ most v.kind)
    (h5 : (v.kind = 1 ∨ v.kind = 2 ∨ v.kind = 3 ∨ v.kind = 4) ∨ (v.kind = 5 ∧ v.text.size ≤ 200 ∧ v.text.data.toList.all prn = true) ∨ (v.kind = 6 ∧ v.words.length ≤ 16 ∧ v.words.all (fun x => isW x.data.toList) = true ∧ (joined v.words).length ≤ 200)) : right isW v = true := by
  simp only [right, Bool.and_eq_true, Bool.or_eq_true, decide_eq_true_eq, List.isEmpty_iff]
  refine ⟨⟨⟨h1, h2⟩, h3, h4⟩, ?_⟩
  rcases h5 with h5 | ⟨h5, h6, h7⟩ | ⟨h5, h6, h7, h8⟩
  · exact .inl (.inl h5)
  · exact .inl (.inr ⟨h5, h6, h7⟩)
  · exact .inr ⟨h5, ⟨h6, h7⟩, h8⟩

/-- What is read may be, and is of the kind that was asked for. -/
theorem parse_right {isW : List UInt8 → Bool} (_hW : IsWord isW) {k : Int} {l : List UInt8} {v : Val} (h : parse isW k l = (v, 0)) : right isW v = true ∧ v.kind = k := by
  unfold parse at h
  split at h
  · rename_i hk
    subst hk
    unfold parseBool at h
    split at h
    · obtain rfl := (Prod.mk.inj h).1.symm; exact ⟨rfl, rfl⟩
    · split at h
      · obtain rfl := (Prod.mk.inj h).1.symm; exact ⟨rfl, rfl⟩
      · exact absurd (Prod.mk.inj h).2 (by decide)
  · split at h
    · rename_i _ hk
      subst hk
      unfold parseInt at h
      simp only at h
      split at h
      · exact absurd (Prod.mk.inj h).2 (by decide)
      · rename_i n hn
        have := num_le hn
        split at h
        · exact absurd (Prod.mk.inj h).2 (by decide)
        · split at h
          · exact absurd (Prod.mk.inj h).2 (by decide)
          · obtain rfl := (Prod.mk.inj h).1.symm
            refine ⟨right_of (.inr rfl) (.inr rfl) ?_ ?_ (.inl (.inr (.inl rfl))), rfl⟩
            · show (-4611686018427387904 : Int) ≤ if l.head? = some 45 then -(n : Int) else n
              split <;> omega
            · show (if l.head? = some 45 then -(n : Int) else n) ≤ 4611686018427387904
              split <;> omega
    · split at h
      · rename_i hk
        unfold parseUnit at h
        split at h
        · exact absurd (Prod.mk.inj h).2 (by decide)
        · rename_i n hn
          split at h
          · exact absurd (Prod.mk.inj h).2 (by decide)
          · rename_i hu
            split at h
            · exact absurd (Prod.mk.inj h).2 (by decide)
            · rename_i hle
              obtain rfl := (Prod.mk.inj h).1.symm
              have hu0 : 0 ≤ tail k l := by
                unfold tail
                split
                · decide
                · exact (unit_nonneg _ _).1
              have hm0 : 0 ≤ most k := by rcases hk with rfl | rfl <;> decide
              have hmul : (n : Int) * tail k l ≤ most k := by
                have h2 : (n : Int) * tail k l ≤ most k / tail k l * tail k l := Int.mul_le_mul_of_nonneg_right (by omega) hu0
                have h3 := Int.ediv_mul_le (most k) (b := tail k l) hu
                omega
              refine ⟨right_of (.inr rfl) (.inr rfl) ?_ hmul (.inl (.inr (.inr hk))), rfl⟩
              simp only [least]
              rw [if_neg (by omega)]
              exact Int.mul_nonneg (by omega) hu0
      · split at h
        · rename_i hk
          subst hk
          unfold parseText at h
          split at h
          · rename_i hp
            split at h
            · exact absurd (Prod.mk.inj h).2 (by decide)
            · rename_i hl
              obtain rfl := (Prod.mk.inj h).1.symm
              exact ⟨right_of (.inl rfl) (.inr rfl) (Int.le_refl 0) (Int.le_refl 0) (.inr (.inl ⟨rfl, by simp [ByteArray.size]; omega, by simpa using hp⟩)), rfl⟩
          · exact absurd (Prod.mk.inj h).2 (by decide)
        · split at h
          · rename_i hk
            subst hk
            unfold parseWords at h
            split at h
            · obtain rfl := (Prod.mk.inj h).1.symm
              exact ⟨right_of (.inr rfl) (.inl rfl) (Int.le_refl 0) (Int.le_refl 0) (.inr (.inr ⟨rfl, by simp, by simp, by simp [joined, Lib.join]⟩)), rfl⟩
            · split at h
              · rename_i hp
                split at h
                · exact absurd (Prod.mk.inj h).2 (by decide)
                · rename_i hl
                  obtain rfl := (Prod.mk.inj h).1.symm
                  refine ⟨right_of (.inr rfl) (.inl rfl) (Int.le_refl 0) (Int.le_refl 0) (.inr (.inr ⟨rfl, by simp; omega, ?_, ?_⟩)), rfl⟩
                  · rw [List.all_map]; exact hp
                  · show (joined ((pcs 44 l).map B)).length ≤ 200
                    rw [joined_map, join_pcs]; omega
              · exact absurd (Prod.mk.inj h).2 (by decide)
          · exact absurd (Prod.mk.inj h).2 (by decide)

/-- A text of Int, Text or Words is printed as itself. -/
theorem prints_parse {isW : List UInt8 → Bool} {k : Int} {l : List UInt8} {v : Val} (h : parse isW k l = (v, 0)) (hk : k = 2 ∨ k = 5 ∨ k = 6) : prints v = l := by
  unfold parse at h
  rcases hk with rfl | rfl | rfl
  · rw [if_neg (by decide), if_pos rfl] at h
    unfold parseInt at h
    simp only at h
    split at h
    · exact absurd (Prod.mk.inj h).2 (by decide)
    · rename_i n hn
      split at h
      · exact absurd (Prod.mk.inj h).2 (by decide)
      · rename_i hz
        split at h
        · exact absurd (Prod.mk.inj h).2 (by decide)
        · rename_i hle
          obtain rfl := (Prod.mk.inj h).1.symm
          have hb := num_back hn (by omega)
          show Lib.itoa _ = l
          by_cases h45 : l.head? = some 45
          · simp only [h45, if_true] at hb ⊢
            simp only [h45, true_and] at hz
            rw [itoa_neg (by omega), show (-(n : Int)).natAbs = n by omega, hb]
            cases l with
            | nil => cases h45
            | cons c r => simp at h45 ⊢; exact h45.symm
          · simp only [h45, if_false] at hb ⊢
            rw [itoa_pos (by omega), Int.toNat_natCast, hb]
  · rw [if_neg (by decide), if_neg (by decide), if_neg (by decide), if_pos rfl] at h
    unfold parseText at h
    split at h
    · split at h
      · exact absurd (Prod.mk.inj h).2 (by decide)
      · obtain rfl := (Prod.mk.inj h).1.symm
        show (B l).data.toList = l
        simp
    · exact absurd (Prod.mk.inj h).2 (by decide)
  · rw [if_neg (by decide), if_neg (by decide), if_neg (by decide), if_neg (by decide), if_pos rfl] at h
    unfold parseWords at h
    split at h
    · rename_i hl
      obtain rfl := (Prod.mk.inj h).1.symm
      rw [hl]; rfl
    · split at h
      · split at h
        · exact absurd (Prod.mk.inj h).2 (by decide)
        · obtain rfl := (Prod.mk.inj h).1.symm
          show joined ((pcs 44 l).map B) = l
          rw [joined_map, join_pcs]
      · exact absurd (Prod.mk.inj h).2 (by decide)
/-- Two values of one kind that may be are printed alike just if they are the same. -/
theorem prints_inj {isW : List UInt8 → Bool} (hW : IsWord isW) {v w : Val} (hv : right isW v = true) (hw : right isW w = true) (hk : v.kind = w.kind) (h : prints v = prints w) : v = w := by
  have h1 := parse_prints hW hv
  have h2 := parse_prints hW hw
  rw [h, hk, h2] at h1
  exact (Prod.mk.inj h1).1.symm
end Go.Proofs.YtpfhhaonfbfheaaGreatDoor.va
