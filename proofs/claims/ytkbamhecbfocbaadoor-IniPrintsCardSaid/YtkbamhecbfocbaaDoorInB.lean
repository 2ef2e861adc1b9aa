/- Chapter 6 in plain words: the file of lines gives them; blanks at the ends of lines make no difference; sections make no other difference than to the numbers. Laws on lists of bytes; no program in sight. -/
import Derived.Test.YtkbamhecbfocbaaDoorInA
namespace Go.Proofs.YtkbamhecbfocbaaDoor.ini
open gl

theorem pcs_cut (sep : UInt8) : ∀ (a b : List UInt8), sep ∉ a → pcs sep (a ++ sep :: b) = a :: pcs sep b
  | [], b, _ => by simp [pcs]
  | c :: r, b, h => pcs_other (fun e => h (by simp [e])) (pcs_cut sep r b fun hm => h (by simp [hm]))
theorem pcs_join (sep : UInt8) : ∀ (a b : List UInt8), pcs sep (a ++ sep :: b) = pcs sep a ++ pcs sep b
  | [], b => by simp [pcs]
  | c :: r, b => by
    have ih := pcs_join sep r b
    by_cases hc : c = sep
    · subst hc
      rw [List.cons_append]
      simp only [pcs, if_true, ih, List.cons_append]
    · cases hp : pcs sep r with
      | nil => exact absurd hp (pcs_ne sep r)
      | cons p ps =>
        rw [pcs_other hc hp]
        rw [hp] at ih
        rw [List.cons_append, pcs_other hc ih]
        rfl
theorem mem_pcs (sep : UInt8) : ∀ (l : List UInt8) (b : UInt8), b ∈ l → b = sep ∨ ∃ p ∈ pcs sep l, b ∈ p
  | [], b, h => by simp at h
  | c :: r, b, h => by
    by_cases hc : c = sep
    · subst hc
      simp only [pcs, if_true]
      rcases List.mem_cons.1 h with rfl | h
      · exact .inl rfl
      · rcases mem_pcs c r b h with h | ⟨p, hp, hb⟩
        · exact .inl h
        · exact .inr ⟨p, by simp [hp], hb⟩
    · cases hp : pcs sep r with
      | nil => exact absurd hp (pcs_ne sep r)
      | cons p ps =>
        rw [pcs_other hc hp]
        rcases List.mem_cons.1 h with rfl | h
        · exact .inr ⟨b :: p, by simp, by simp⟩
        · rcases mem_pcs sep r b h with h | ⟨q, hq, hb⟩
          · exact .inl h
          · rw [hp] at hq
            rcases List.mem_cons.1 hq with rfl | hq
            · exact .inr ⟨c :: q, by simp, by simp [hb]⟩
            · exact .inr ⟨q, by simp [hq], hb⟩
theorem cls1 {b : UInt8} (h : cls b.toNat = 1) : 97 ≤ b.toNat ∧ b.toNat ≤ 122 := by
  have hb := b.toNat_lt
  unfold cls at h
  repeat (first | omega | split at h)
theorem cls3 {b : UInt8} (h : cls b.toNat = 3) : 48 ≤ b.toNat ∧ b.toNat ≤ 57 := by
  have hb := b.toNat_lt
  unfold cls at h
  repeat (first | omega | split at h)
theorem part_bytes {p : List UInt8} (h : partL p = true) : p ≠ [] ∧ (∀ c, p.head? = some c → 97 ≤ c.toNat ∧ c.toNat ≤ 122) ∧ ∀ b ∈ p, (97 ≤ b.toNat ∧ b.toNat ≤ 122) ∨ (48 ≤ b.toNat ∧ b.toNat ≤ 57) := by
  cases p with
  | nil => simp [partL] at h
  | cons c r =>
    simp only [partL, Bool.and_eq_true, decide_eq_true_eq, List.all_eq_true] at h
    refine ⟨by simp, fun d hd => ?_, fun b hb => ?_⟩
    · simp at hd; subst hd; exact cls1 h.1
    · rcases List.mem_cons.1 hb with rfl | hb
      · exact .inl (cls1 h.1)
      · rcases h.2 b hb with h1 | h1
        · exact .inl (cls1 h1)
        · exact .inr (cls3 h1)
/-- The bytes of parts with points between. -/
theorem parts_bytes {l : List UInt8} (h : (pcs 46 l).all partL = true) : (∃ c r, l = c :: r ∧ 97 ≤ c.toNat ∧ c.toNat ≤ 122) ∧ (∃ r c, l = r ++ [c] ∧ 48 ≤ c.toNat) ∧ ∀ b ∈ l, 46 ≤ b.toNat ∧ b.toNat ≤ 122 ∧ b.toNat ≠ 59 ∧ b.toNat ≠ 61 ∧ b.toNat ≠ 91 ∧ b.toNat ≠ 93 := by
  rw [List.all_eq_true] at h
  have hb : ∀ b ∈ l, 46 ≤ b.toNat ∧ b.toNat ≤ 122 ∧ b.toNat ≠ 59 ∧ b.toNat ≠ 61 ∧ b.toNat ≠ 91 ∧ b.toNat ≠ 93 := by
    intro b hb
    rcases mem_pcs 46 l b hb with rfl | ⟨p, hp, hbp⟩
    · decide
    · have := (part_bytes (h p hp)).2.2 b hbp
      omega
  refine ⟨?_, ?_, hb⟩
  · cases l with
    | nil => simp [pcs, partL] at h
    | cons c r =>
      refine ⟨c, r, rfl, ?_⟩
      by_cases hc : c = 46
      · subst hc
        simp [pcs, partL] at h
      · cases hp : pcs 46 r with
        | nil => exact absurd hp (pcs_ne 46 r)
        | cons p ps =>
          rw [pcs_other hc hp] at h
          exact (part_bytes (h (c :: p) (by simp))).2.1 c rfl
  · rcases List.eq_nil_or_concat l with rfl | ⟨r, c, rfl⟩
    · simp [pcs, partL] at h
    · refine ⟨r, c, by simp, ?_⟩
      by_cases hc : c = 46
      · subst hc
        have := h [] (by rw [List.concat_eq_append, pcs_join]; simp [pcs])
        simp [partL] at this
      · rcases mem_pcs 46 (r.concat c) c (by simp) with h1 | ⟨p, hp, hbp⟩
        · exact absurd h1 hc
        · have := (part_bytes (h p hp)).2.2 c hbp
          omega
theorem name_parts {l : List UInt8} (h : nameL l = true) : l.length ≤ 32 ∧ (pcs 46 l).length ≤ 3 ∧ (pcs 46 l).all partL = true := by
  simp only [nameL, Bool.and_eq_true, decide_eq_true_eq] at h
  exact ⟨h.1.1, h.1.2, h.2⟩
theorem quote_prn (t : List UInt8) : ∀ b ∈ quoteL t, 32 ≤ b.toNat ∧ b.toNat ≤ 126 := by
  intro b hb
  simp only [quoteL, List.mem_cons, List.mem_append, List.mem_flatMap, List.not_mem_nil, or_false] at hb
  rcases hb with rfl | ⟨c, _, hc⟩ | rfl
  · decide
  · have hh : ∀ d : Nat, d < 16 → 32 ≤ (hexd d).toNat ∧ (hexd d).toNat ≤ 126 := by decide
    have hcn := c.toNat_lt
    unfold qB at hc
    split at hc
    · simp at hc
      rcases hc with rfl | rfl
      · decide
      · omega
    · split at hc
      · simp at hc
        subst hc
        assumption
      · simp at hc
        rcases hc with rfl | rfl | rfl | rfl
        · decide
        · decide
        · exact hh _ (by omega)
        · exact hh _ (by omega)
  · decide
theorem bare_parts {t : List UInt8} (h : bareL t = true) : t ≠ [] ∧ prn t = true ∧ t.head? ≠ some 34 ∧ tri t = t := by
  simp only [bareL, Bool.and_eq_true, decide_eq_true_eq, Bool.not_eq_true', List.isEmpty_eq_false_iff] at h
  exact ⟨h.1.1.1, h.1.1.2, h.1.2, h.2⟩
/-- A text as it stands: printable, no blank at its ends, and it means what it should. -/
theorem text_prn (t : List UInt8) : ∀ b ∈ textL t, 32 ≤ b.toNat ∧ b.toNat ≤ 126 := by
  unfold textL
  split
  · rename_i h
    have := (bare_parts h).2.1
    simp only [prn, List.all_eq_true, decide_eq_true_eq] at this
    exact this
  · exact quote_prn t
theorem text_ends (t : List UInt8) : (∃ r c, textL t = c :: r ∧ blk c = false) ∧ ∃ r c, textL t = r ++ [c] ∧ blk c = false := by
  unfold textL
  split
  · rename_i h
    obtain ⟨h1, _, _, h4⟩ := bare_parts h
    rcases tri_ends t with h5 | h5
    · rw [h4] at h5; exact absurd h5 h1
    · rw [h4] at h5; exact h5
  · exact ⟨⟨_, 34, rfl, rfl⟩, ⟨34 :: t.flatMap qB, 34, rfl, rfl⟩⟩
theorem text_means {t : List UInt8} (h : t.length ≤ 200) : meantL (textL t) = some t := by
  have hu : unqO (textL t) = some t := by
    unfold textL
    split
    · rename_i hb
      obtain ⟨h1, h2, h3, _⟩ := bare_parts hb
      unfold unqO
      rw [if_neg h3, if_pos h2]
    · unfold unqO
      rw [if_pos (show (quoteL t).head? = some 34 from rfl)]
      obtain ⟨h1, h2⟩ := unqL_yes (l := quoteL t) (x := t) rfl
      rw [h2, if_pos rfl, h1]
  unfold meantL
  rw [hu]
  simp only
  rw [if_pos h]
theorem tri_id {l : List UInt8} (h1 : ∃ r c, l = c :: r ∧ blk c = false) (h2 : ∃ r c, l = r ++ [c] ∧ blk c = false) : tri l = l := by
  obtain ⟨r, c, rfl, hc⟩ := h1
  unfold tri
  rw [triL_first hc]
  obtain ⟨r2, c2, h2, hc2⟩ := h2
  rw [h2]
  exact triR_last hc2
theorem blk_of {c : UInt8} (h : 46 ≤ c.toNat) : blk c = false := by
  unfold blk
  have h1 : c ≠ 32 := by rintro rfl; exact absurd h (by decide)
  have h2 : c ≠ 9 := by rintro rfl; exact absurd h (by decide)
  simp [h1, h2]
theorem takeE {n r : List UInt8} (h : (61 : UInt8) ∉ n) : (n ++ 61 :: r).takeWhile (· != 61) = n ∧ (n ++ 61 :: r).dropWhile (· != 61) = 61 :: r := by
  induction n with
  | nil => simp
  | cons c l ih =>
    have hc : c ≠ 61 := fun e => h (by simp [e])
    have := ih fun hm => h (by simp [hm])
    simp [hc, this]
/-- The line that is printed of a part of a name, behind a section, gives the name and the text. -/
theorem line_back {ahead n t : List UInt8} {out : List Ln} (hn : nameL (ahead ++ n) = true) (hp : (pcs 46 n).all partL = true) (ht : t.length ≤ 200) (hth : there out (ahead ++ n) = false) :
    lineL ahead out (n ++ [32, 61, 32] ++ textL t) = some (ahead, some (ahead ++ n, t)) := by
  obtain ⟨⟨c, r, hc, hc1, hc2⟩, ⟨r2, c2, hl2, hcl⟩, hb⟩ := parts_bytes hp
  obtain ⟨⟨tr, tc, htf, htb⟩, ⟨tr2, tc2, htl, htb2⟩⟩ := text_ends t
  have e0 : n ++ [32, 61, 32] ++ textL t = (n ++ [32]) ++ 61 :: (32 :: textL t) := by simp
  have h61 : (61 : UInt8) ∉ n ++ [32] := by
    intro hm
    rcases List.mem_append.1 hm with hm | hm
    · exact absurd rfl (hb _ hm).2.2.2.1
    · simp at hm
  obtain ⟨e1, e2⟩ := takeE (r := 32 :: textL t) h61
  have htri : tri (n ++ [32, 61, 32] ++ textL t) = n ++ [32, 61, 32] ++ textL t := by
    refine tri_id ⟨r ++ [32, 61, 32] ++ textL t, c, by rw [hc]; simp, blk_of (by omega)⟩ ⟨n ++ [32, 61, 32] ++ tr2, tc2, by rw [htl]; simp, htb2⟩
  have eR : triR (n ++ [32]) = n := by
    rw [triR_suf (by intro b hb; simp at hb; subst hb; rfl), hl2]
    exact triR_last (blk_of (by omega))
  have eL : triL (32 :: textL t) = textL t := by
    rw [show (32 :: textL t : List UInt8) = [32] ++ textL t from rfl, triL_pre (by intro b hb; simp at hb; subst hb; rfl), htf]
    exact triL_first htb
  have hg : givenL ahead out (n ++ [32, 61, 32] ++ textL t) = some (ahead ++ n, t) := by
    unfold givenL beforeE afterE
    rw [e0, e1, e2, eR, if_pos ⟨by simp, hn, hth⟩]
    simp only [List.drop_succ_cons, List.drop_zero]
    rw [eL, text_means ht]
    rfl
  unfold lineL
  rw [htri]
  subst hc
  simp only [List.cons_append] at hg ⊢
  rw [lineT_cons]
  have k1 : c ≠ 59 ∧ c ≠ 35 ∧ c ≠ 91 := by
    refine ⟨?_, ?_, ?_⟩ <;> (rintro rfl; revert hc1; decide)
  rw [if_neg (by rintro (h | h); exact k1.1 h; exact k1.2.1 h), if_neg k1.2.2, hg]
  rfl
theorem head_no10 {n t : List UInt8} (hp : (pcs 46 n).all partL = true) : (10 : UInt8) ∉ n ++ [32, 61, 32] ++ textL t := by
  intro hm
  rcases List.mem_append.1 hm with hm | hm
  · rcases List.mem_append.1 hm with hm | hm
    · have := ((parts_bytes hp).2.2 _ hm).1; revert this; decide
    · simp at hm
  · have := (text_prn t _ hm).1; revert this; decide

def Oks : List Ln → List Ln → Prop
  | _, [] => True
  | done, x :: r => mayL done x = true ∧ Oks (done ++ [x]) r
def numb : Nat → List Ln → List Ln
  | _, [] => []
  | k, x :: r => ⟨x.name, x.text, (k : Int) + 1⟩ :: numb (k + 1) r
theorem there_names {a b : List Ln} (h : a.map (·.name) = b.map (·.name)) (n : List UInt8) : there a n = there b n := by
  have e : ∀ l : List Ln, there l n = (l.map (·.name)).any fun y => decide (y = n) := fun l => by simp [there, List.any_map, Function.comp_def]
  rw [e, e, h]
theorem may_parts {done : List Ln} {x : Ln} (h : mayL done x = true) : nameL x.name = true ∧ there done x.name = false ∧ x.text.length ≤ 200 := by
  simp only [mayL, Bool.and_eq_true, decide_eq_true_eq, Bool.not_eq_true'] at h
  exact ⟨h.1.1, h.1.2, h.2⟩
theorem run_back : ∀ (l : List Ln) (k : Nat) (out done : List Ln), out.map (·.name) = done.map (·.name) → Oks done l → runL k [] out (pcs 10 (l.flatMap lineOut)) = (out ++ numb k l, 0, 0)
  | [], k, out, done, _, _ => by simp [pcs, runL, lineL, tri_nil, lineT, numb]
  | x :: r, k, out, done, ho, hk => by
    obtain ⟨hm, hr⟩ := hk
    obtain ⟨h1, h2, h3⟩ := may_parts hm
    have hp := (name_parts h1).2.2
    have e : (x :: r).flatMap lineOut = headL x ++ 10 :: r.flatMap lineOut := by simp [lineOut]
    rw [e, pcs_cut 10 _ _ (show (10 : UInt8) ∉ headL x from head_no10 hp), runL]
    have hl : lineL [] out (headL x) = some ([], some (x.name, x.text)) := by
      exact line_back (ahead := []) (n := x.name) (t := x.text) (out := out) (by simpa using h1) hp h3 (by rw [List.nil_append, there_names ho]; exact h2)
    rw [hl]
    simp only
    rw [run_back r (k + 1) _ (done ++ [x]) (by simp [ho]) hr]
    simp [numb]
theorem prL_two : ∀ (l done : List Ln) (out : List UInt8), prL done out l = ([], 1) ∨ (prL done out l = (out ++ l.flatMap lineOut, 0) ∧ Oks done l ∧ (out.length ≤ 8000 → (out ++ l.flatMap lineOut).length ≤ 8000))
  | [], done, out => .inr ⟨by simp [prL], trivial, fun h => by simpa using h⟩
  | x :: r, done, out => by
    rw [prL]
    split
    · rename_i h
      rcases prL_two r (done ++ [x]) (out ++ lineOut x) with h1 | ⟨h1, h2, h3⟩
      · exact .inl h1
      · refine .inr ⟨by rw [h1]; simp, ⟨h.1, h2⟩, fun _ => ?_⟩
        have := h3 h.2
        simpa using this
    · exact .inl rfl
theorem printL_two (l : List Ln) : printL l = ([], 1) ∨ (printL l = (l.flatMap lineOut, 0) ∧ Oks [] l ∧ (l.flatMap lineOut).length ≤ 8000) := by
  rcases prL_two l [] [] with h | ⟨h1, h2, h3⟩
  · exact .inl h
  · exact .inr ⟨by unfold printL; simpa using h1, h2, by simpa using h3⟩
/-- What is printed is read as it was. -/
theorem print_parse {l : List Ln} (h : (printL l).2 = 0) : parseL (printL l).1 = (numb 0 l, 0, 0) ∧ (printL l).1.length ≤ 8000 := by
  rcases printL_two l with h1 | ⟨h1, h2, h3⟩
  · rw [h1] at h; simp at h
  · rw [h1]
    refine ⟨?_, h3⟩
    unfold parseL
    rw [if_pos h3, run_back l 0 [] [] rfl h2]
    simp

/-! ### Blanks at the ends of lines -/
def blankB (b : UInt8) : List UInt8 := if b = 10 then [9, 10, 32] else [b]
theorem flat_id {a : List UInt8} (h : (10 : UInt8) ∉ a) : a.flatMap blankB = a := by
  induction a with
  | nil => rfl
  | cons c r ih =>
    have hc : c ≠ 10 := fun e => h (by simp [e])
    rw [List.flatMap_cons, ih fun hm => h (by simp [hm])]
    simp [blankB, hc]
theorem pcs_single {a : List UInt8} (h : (10 : UInt8) ∉ a) : pcs 10 a = [a] := pcs_none 10 _ fun _j hj => h (List.mem_of_getElem? hj)
theorem pcs_blank : ∀ (n : Nat) (s pre : List UInt8), s.length ≤ n → (∀ b ∈ pre, blk b = true) → (pcs 10 (pre ++ s.flatMap blankB ++ [32])).map tri = (pcs 10 s).map tri := by
  intro n
  induction n with
  | zero =>
    intro s pre hs h
    obtain rfl : s = [] := List.eq_nil_of_length_eq_zero (by omega)
    have hn : (10 : UInt8) ∉ pre ++ [32] := by
      intro hm
      rcases List.mem_append.1 hm with hm | hm
      · have := h _ hm; revert this; decide
      · simp at hm
    rw [List.flatMap_nil, List.append_nil, pcs_single hn, pcs_single (by simp)]
    simp only [List.map_cons, List.map_nil]
    rw [tri_suf (by intro b hb; simp at hb; subst hb; rfl), ← tri_pre (l := []) h, List.append_nil]
  | succ n ih =>
    intro s pre hs h
    by_cases hm : (10 : UInt8) ∈ s
    · obtain ⟨a, b, rfl, ha⟩ := List.eq_append_cons_of_mem hm
      have hn : (10 : UInt8) ∉ pre ++ a ++ [9] := by
        intro hm
        rcases List.mem_append.1 hm with hm | hm
        · rcases List.mem_append.1 hm with hm | hm
          · have := h _ hm; revert this; decide
          · exact ha hm
        · simp at hm
      have e : pre ++ (a ++ 10 :: b).flatMap blankB ++ [32] = (pre ++ a ++ [9]) ++ 10 :: ([32] ++ b.flatMap blankB ++ [32]) := by
        rw [List.flatMap_append, List.flatMap_cons, flat_id ha]
        simp [blankB]
      rw [e, pcs_cut 10 _ _ hn, pcs_cut 10 _ _ ha, List.map_cons, List.map_cons, ih b [32] (by simp at hs; omega) (by intro b hb; simp at hb; subst hb; rfl)]
      rw [tri_suf (by intro b hb; simp at hb; subst hb; rfl), tri_pre h]
    · have hn : (10 : UInt8) ∉ pre ++ s ++ [32] := by
        intro hm2
        rcases List.mem_append.1 hm2 with hm2 | hm2
        · rcases List.mem_append.1 hm2 with hm2 | hm2
          · have := h _ hm2; revert this; decide
          · exact hm hm2
        · simp at hm2
      rw [flat_id hm, pcs_single hn, pcs_single hm]
      simp only [List.map_cons, List.map_nil]
      rw [tri_suf (by intro b hb; simp at hb; subst hb; rfl), tri_pre h]
def blankL (s : List UInt8) : List UInt8 := [32, 9] ++ s.flatMap blankB ++ [32]
/-- Blanks at both ends of each line make no difference. -/
theorem parse_blank {s : List UInt8} (h : (blankL s).length ≤ 8000) (h2 : s.length ≤ 8000) : parseL (blankL s) = parseL s := by
  unfold parseL
  rw [if_pos h, if_pos h2]
  refine runL_congr _ _ _ _ _ ?_
  exact pcs_blank s.length s [32, 9] (Nat.le_refl _) (by intro b hb; simp at hb; rcases hb with rfl | rfl <;> rfl)

/-! ### What a reading is -/
theorem runL_two : ∀ (ss : List (List UInt8)) (k : Nat) (a : List UInt8) (out : List Ln), (runL k a out ss).2 = (0, 0) ∨ ((runL k a out ss).1 = [] ∧ (runL k a out ss).2.1 = 60 ∧ 1 ≤ (runL k a out ss).2.2)
  | [], k, a, out => .inl rfl
  | s :: ss, k, a, out => by
    rw [runL]
    split
    · exact .inr ⟨rfl, rfl, by simp; omega⟩
    · exact runL_two ss _ _ _
    · exact runL_two ss _ _ _
theorem parseL_two (l : List UInt8) : ((parseL l).2 = (0, 0) ∧ l.length ≤ 8000) ∨ ((parseL l).1 = [] ∧ (parseL l).2.1 = 60 ∧ 1 ≤ (parseL l).2.2) ∨ (parseL l = ([], 61, 0) ∧ 8000 < l.length) := by
  unfold parseL
  split
  · rename_i h
    rcases runL_two (pcs 10 l) 0 [] [] with h1 | h1
    · exact .inl ⟨h1, h⟩
    · exact .inr (.inl h1)
  · rename_i h
    exact .inr (.inr ⟨rfl, by omega⟩)

/-! ### Sections -/
/-- A line's name, cut at a point: what stands in the section, and what is left. -/
def cutOk (x : Ln) (c : List UInt8 × List UInt8) : Prop := (c.1 = [] ∧ c.2 = x.name) ∨ x.name = c.1 ++ 46 :: c.2
def secLine (x : Ln) (c : List UInt8 × List UInt8) : List UInt8 := [91] ++ c.1 ++ [93, 10] ++ c.2 ++ [32, 61, 32] ++ textL x.text ++ [10]
def secAll : List (Ln × (List UInt8 × List UInt8)) → List UInt8
  | [] => []
  | p :: r => secLine p.1 p.2 ++ secAll r
def numb2 : Nat → List Ln → List Ln
  | _, [] => []
  | k, x :: r => ⟨x.name, x.text, (k : Int) + 2⟩ :: numb2 (k + 2) r
theorem numb2_len : ∀ (l : List Ln) (k : Nat), (numb2 k l).length = l.length
  | [], _ => rfl
  | x :: r, k => by simp [numb2, numb2_len r]
theorem numb_len : ∀ (l : List Ln) (k : Nat), (numb k l).length = l.length
  | [], _ => rfl
  | x :: r, k => by simp [numb, numb_len r]
theorem numb2_get : ∀ (l : List Ln) (k i : Nat) (x : Ln), l[i]? = some x → (numb2 k l)[i]? = some ⟨x.name, x.text, (k : Int) + 2 * i + 2⟩
  | [], _, i, x, h => by simp at h
  | y :: r, k, 0, x, h => by simp at h; subst h; simp [numb2]
  | y :: r, k, i + 1, x, h => by
    simp at h
    have := numb2_get r (k + 2) i x h
    simp only [numb2, List.getElem?_cons_succ, this]
    congr 2
    omega
theorem numb_get : ∀ (l : List Ln) (k i : Nat) (x : Ln), l[i]? = some x → (numb k l)[i]? = some ⟨x.name, x.text, (k : Int) + i + 1⟩
  | [], _, i, x, h => by simp at h
  | y :: r, k, 0, x, h => by simp at h; subst h; simp [numb]
  | y :: r, k, i + 1, x, h => by
    simp at h
    have := numb_get r (k + 1) i x h
    simp only [numb, List.getElem?_cons_succ, this]
    congr 2
    omega
theorem sec_line {p : List UInt8} (a : List UInt8) (out : List Ln) (h : p = [] ∨ secOk p = true) (_hp : p = [] ∨ (pcs 46 p).all partL = true) : lineL a out ([91] ++ p ++ [93]) = some (if p = [] then [] else p ++ [46], none) := by
  have htri : tri (91 :: (p ++ [93])) = 91 :: (p ++ [93]) := tri_id (l := 91 :: (p ++ [93])) ⟨p ++ [93], 91, rfl, rfl⟩ ⟨91 :: p, 93, by simp, rfl⟩
  unfold lineL
  rw [show [91] ++ p ++ [93] = 91 :: (p ++ [93]) by simp, htri, lineT_cons]
  rw [if_neg (by decide), if_pos rfl]
  unfold secL
  rw [if_pos (by simp), List.dropLast_concat]
  by_cases h0 : p = []
  · rw [if_pos h0, if_pos h0]; rfl
  · rw [if_neg h0, if_neg h0, if_pos (by rcases h with h | h; exact absurd h h0; exact h)]; rfl
theorem cut_parts {x : Ln} {c : List UInt8 × List UInt8} (hc : cutOk x c) (h : nameL x.name = true) : (c.1 = [] ∨ secOk c.1 = true) ∧ (c.1 = [] ∨ (pcs 46 c.1).all partL = true) ∧ (pcs 46 c.2).all partL = true ∧ (if c.1 = [] then [] else c.1 ++ [46]) ++ c.2 = x.name := by
  obtain ⟨h1, h2, h3⟩ := name_parts h
  rcases hc with ⟨e1, e2⟩ | e
  · rw [if_pos e1, e2]
    exact ⟨.inl e1, .inl e1, h3, rfl⟩
  · rw [e, pcs_join] at h2 h3
    rw [List.all_append, Bool.and_eq_true] at h3
    rw [List.length_append] at h2
    have hne : c.1 ≠ [] := by
      intro e0
      rw [e0] at h3
      simp [pcs, partL] at h3
    have hpos : 1 ≤ (pcs 46 c.2).length := by have := List.length_pos_iff.2 (pcs_ne 46 c.2); omega
    refine ⟨.inr ?_, .inr h3.1, h3.2, ?_⟩
    · unfold secOk
      rw [h3.1, Bool.and_true, decide_eq_true_eq]
      omega
    · rw [if_neg hne, e]; simp
theorem run_sec : ∀ (l : List (Ln × (List UInt8 × List UInt8))) (k : Nat) (a : List UInt8) (out done : List Ln), out.map (·.name) = done.map (·.name) → Oks done (l.map (·.1)) → (∀ p ∈ l, cutOk p.1 p.2) →
    runL k a out (pcs 10 (secAll l)) = (out ++ numb2 k (l.map (·.1)), 0, 0)
  | [], k, a, out, done, _, _, _ => by simp [secAll, pcs, runL, lineL, tri_nil, lineT, numb2]
  | (x, c) :: r, k, a, out, done, ho, hk, hc => by
    obtain ⟨hm, hr⟩ := hk
    obtain ⟨h1, h2, h3⟩ := may_parts hm
    obtain ⟨q1, q2, q3, q4⟩ := cut_parts (hc (x, c) (by simp)) h1
    simp only at q1 q2 q3 q4
    have e : secAll ((x, c) :: r) = ([91] ++ c.1 ++ [93]) ++ 10 :: ((c.2 ++ [32, 61, 32] ++ textL x.text) ++ 10 :: secAll r) := by simp [secAll, secLine]
    have hn : (10 : UInt8) ∉ [91] ++ c.1 ++ [93] := by
      intro hm
      rcases List.mem_append.1 hm with hm | hm
      · rcases List.mem_append.1 hm with hm | hm
        · simp at hm
        · rcases q2 with q2 | q2
          · rw [q2] at hm; simp at hm
          · have := ((parts_bytes q2).2.2 _ hm).1; revert this; decide
      · simp at hm
    rw [e, pcs_cut 10 _ _ hn, runL, sec_line a out q1 q2]
    simp only
    rw [pcs_cut 10 _ _ (head_no10 q3), runL, line_back (by rw [q4]; exact h1) q3 h3 (by rw [q4, there_names ho]; exact h2), q4]
    simp only
    rw [run_sec r (k + 2) _ _ (done ++ [x]) (by simp [ho]) hr fun p hp => hc p (by simp [hp])]
    simp only [List.map_cons, numb2, List.append_assoc, List.singleton_append]
    have : (((k + 1 : Nat) : Int) + 1) = (k : Int) + 2 := by omega
    rw [this]
theorem sec_parse {l : List (Ln × (List UInt8 × List UInt8))} (h : (printL (l.map (·.1))).2 = 0) (hc : ∀ p ∈ l, cutOk p.1 p.2) (hl : (secAll l).length ≤ 8000) : parseL (secAll l) = (numb2 0 (l.map (·.1)), 0, 0) := by
  rcases printL_two (l.map (·.1)) with h1 | ⟨h1, h2, h3⟩
  · rw [h1] at h; simp at h
  · unfold parseL
    rw [if_pos hl, run_sec l 0 [] [] [] rfl h2 hc]
    simp
end Go.Proofs.YtkbamhecbfocbaaDoor.ini
