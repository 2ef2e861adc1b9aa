/- Plain laws on quoting: what is quoted is read back, by the strict reader and by the lenient one. No program in sight. -/
import Derived.Test.YtkbamhecbfocbaaDoorGlQ
namespace Go.Proofs.YtkbamhecbfocbaaDoor.gl
open Go.RowKit

/-- What a digit of sixteen says; below 0: it is none. -/
def digv (c : UInt8) : Int := if 48 ≤ c.toNat ∧ c.toNat ≤ 57 then (c.toNat : Int) - 48 else if 97 ≤ c.toNat ∧ c.toNat ≤ 102 then (c.toNat : Int) - 87 else -1
theorem digv_bd (c : UInt8) : -1 ≤ digv c ∧ digv c ≤ 15 := by unfold digv; split; omega; split <;> omega
theorem hexd_nat {d : Nat} (h : d < 16) : (hexd d).toNat = if d < 10 then 48 + d else 87 + d := by
  unfold hexd
  split <;> rw [UInt8.toNat_ofNat'] <;> omega
theorem digv_hexd {d : Nat} (h : d < 16) : digv (hexd d) = d := by
  have := hexd_nat h
  unfold digv
  by_cases h1 : d < 10
  · rw [if_pos h1] at this
    rw [if_pos (by omega)]; omega
  · rw [if_neg h1] at this
    rw [if_neg (by omega), if_pos (by omega)]; omega
theorem hexd_digv {c : UInt8} {d : Nat} (h : digv c = d) : c = hexd d ∧ d < 16 := by
  have hd : d < 16 := by have := digv_bd c; omega
  refine ⟨UInt8.toNat_inj.1 ?_, hd⟩
  rw [hexd_nat hd]
  unfold digv at h
  split at h
  · rw [if_pos (by omega)]; omega
  · split at h
    · rw [if_neg (by omega)]; omega
    · omega
theorem digv_index : ∀ n : Nat, n < 256 → Lib.indexByte [48, 49, 50, 51, 52, 53, 54, 55, 56, 57, 97, 98, 99, 100, 101, 102] (UInt8.ofNat n) = digv (UInt8.ofNat n) := by decide +kernel
theorem indexByte_hex (c : UInt8) : Lib.indexByte [48, 49, 50, 51, 52, 53, 54, 55, 56, 57, 97, 98, 99, 100, 101, 102] c = digv c := by
  have := digv_index c.toNat c.toNat_lt
  rwa [UInt8.ofNat_toNat] at this

/-- The strict reader's step: the byte that is meant, and how many bytes say it (0: none do). -/
def nextL : List UInt8 → UInt8 × Nat
  | [] => (0, 0)
  | a :: r => if a.toNat = 34 ∨ a.toNat < 32 ∨ 126 < a.toNat then (0, 0) else if a.toNat ≠ 92 then (a, 1) else match r with
    | [] => (0, 0)
    | b :: r' => if b.toNat = 34 ∨ b.toNat = 92 then (b, 2) else if b.toNat ≠ 120 then (0, 0) else match r' with
      | c :: d :: _ => if digv c < 0 ∨ digv d < 0 ∨ (32 ≤ 16 * digv c + digv d ∧ 16 * digv c + digv d ≤ 126) then (0, 0) else (UInt8.ofNat (16 * digv c + digv d).toNat, 4)
      | _ => (0, 0)

theorem nextL_qB (b : UInt8) (t : List UInt8) : nextL (qB b ++ t) = (b, (qB b).length) := by
  have hb := b.toNat_lt
  unfold qB
  split
  · rename_i h
    simp only [List.cons_append, List.nil_append, nextL]
    rw [if_neg (by decide), if_neg (by decide), if_pos h]
    rfl
  · rename_i h
    split
    · rename_i h2
      show (if (b.toNat = 34 ∨ b.toNat < 32 ∨ 126 < b.toNat) then _ else if b.toNat ≠ 92 then _ else _) = _
      rw [if_neg (by omega), if_pos (by omega)]
      rfl
    · rename_i h2
      have h16 : b.toNat / 16 < 16 := by omega
      have h17 : b.toNat % 16 < 16 := by omega
      simp only [List.cons_append, List.nil_append, nextL]
      rw [digv_hexd h16, digv_hexd h17, if_neg (by decide), if_neg (by decide), if_neg (by decide), if_neg (by decide), if_neg (by omega)]
      have : (16 * ((b.toNat / 16 : Nat) : Int) + ((b.toNat % 16 : Nat) : Int)).toNat = b.toNat := by omega
      rw [this, UInt8.ofNat_toNat]
      rfl
theorem nextL_ok {l : List UInt8} {c : UInt8} {n : Nat} (h : nextL l = (c, n)) (hn : n ≠ 0) : l = qB c ++ l.drop n ∧ n = (qB c).length := by
  cases l with
  | nil => simp [nextL] at h; omega
  | cons a r =>
    unfold nextL at h
    simp only at h
    by_cases h1 : a.toNat = 34 ∨ a.toNat < 32 ∨ 126 < a.toNat
    · rw [if_pos h1] at h; simp at h; omega
    · rw [if_neg h1] at h
      by_cases h2 : a.toNat ≠ 92
      · rw [if_pos h2] at h
        simp only [Prod.mk.injEq] at h
        obtain ⟨rfl, rfl⟩ := h
        have : qB a = [a] := by unfold qB; rw [if_neg (by omega), if_pos (by omega)]
        rw [this]
        exact ⟨rfl, rfl⟩
      · rw [if_neg h2] at h
        have ha : a = 92 := UInt8.toNat_inj.1 (by show a.toNat = 92; omega)
        cases r with
        | nil => simp at h; omega
        | cons b r' =>
          simp only at h
          by_cases h3 : b.toNat = 34 ∨ b.toNat = 92
          · rw [if_pos h3] at h
            simp only [Prod.mk.injEq] at h
            obtain ⟨rfl, rfl⟩ := h
            have : qB b = [92, b] := by unfold qB; rw [if_pos h3]
            rw [this, ha]
            exact ⟨rfl, rfl⟩
          · rw [if_neg h3] at h
            by_cases h4 : b.toNat ≠ 120
            · rw [if_pos h4] at h; simp at h; omega
            · rw [if_neg h4] at h
              have hb : b = 120 := UInt8.toNat_inj.1 (by show b.toNat = 120; omega)
              match r', h with
              | [], h => simp at h; omega
              | [_], h => simp at h; omega
              | x :: y :: t, h =>
                simp only at h
                by_cases h5 : digv x < 0 ∨ digv y < 0 ∨ (32 ≤ 16 * digv x + digv y ∧ 16 * digv x + digv y ≤ 126)
                · rw [if_pos h5] at h; simp at h; omega
                · rw [if_neg h5] at h
                  simp only [Prod.mk.injEq] at h
                  obtain ⟨hc, rfl⟩ := h
                  obtain ⟨dx, hdx⟩ := Int.eq_ofNat_of_zero_le (show 0 ≤ digv x by omega)
                  obtain ⟨dy, hdy⟩ := Int.eq_ofNat_of_zero_le (show 0 ≤ digv y by omega)
                  obtain ⟨ex, hx⟩ := hexd_digv hdx
                  obtain ⟨ey, hy⟩ := hexd_digv hdy
                  have hn : c.toNat = 16 * dx + dy := by
                    rw [← hc, UInt8.toNat_ofNat', hdx, hdy]
                    omega
                  rw [hdx, hdy] at h5
                  have : qB c = [92, 120, hexd (c.toNat / 16), hexd (c.toNat % 16)] := by
                    unfold qB
                    rw [if_neg (by omega), if_neg (by omega)]
                  rw [this, hn, show (16 * dx + dy) / 16 = dx by omega, show (16 * dx + dy) % 16 = dy by omega, ← ex, ← ey, ha, hb]
                  exact ⟨rfl, rfl⟩
theorem qB_inj {c d : UInt8} {t u : List UInt8} (h : qB c ++ t = qB d ++ u) : c = d ∧ t = u := by
  have h1 := nextL_qB c t
  rw [h, nextL_qB d u] at h1
  simp only [Prod.mk.injEq] at h1
  obtain ⟨rfl, _⟩ := h1
  exact ⟨rfl, List.append_cancel_left h⟩
theorem qB_ne (c : UInt8) (t : List UInt8) : qB c ++ t ≠ [] := by unfold qB; split; simp; split <;> simp
theorem flat_prefix : ∀ (out x rest : List UInt8), out.flatMap qB ++ rest = x.flatMap qB → ∃ y, rest = y.flatMap qB ∧ x = out ++ y
  | [], x, rest, h => ⟨x, by simpa using h, rfl⟩
  | c :: out, [], rest, h => by
    rw [List.flatMap_cons, List.append_assoc] at h
    exact absurd h (qB_ne _ _)
  | c :: out, d :: x, rest, h => by
    rw [List.flatMap_cons, List.flatMap_cons, List.append_assoc] at h
    obtain ⟨rfl, h2⟩ := qB_inj h
    obtain ⟨y, h3, h4⟩ := flat_prefix out x rest h2
    exact ⟨y, h3, by rw [h4]; rfl⟩
theorem flat_inj {x y : List UInt8} (h : x.flatMap qB = y.flatMap qB) : x = y := by
  obtain ⟨z, h1, h2⟩ := flat_prefix x y [] (by simpa using h)
  cases z with
  | nil => simpa using h2.symm
  | cons c z => rw [List.flatMap_cons] at h1; exact absurd h1.symm (qB_ne _ _)
theorem quoteL_inj {x y : List UInt8} (h : quoteL x = quoteL y) : x = y := by
  unfold quoteL at h
  simp only [List.cons.injEq, true_and] at h
  exact flat_inj (List.append_cancel_right h)

/-- What is read, and the error. -/
noncomputable def unqL (l : List UInt8) : List UInt8 := open Classical in if h : ∃ x, quoteL x = l then h.choose else []
noncomputable def unqE (l : List UInt8) : Int := open Classical in if ∃ x, quoteL x = l then 0 else 20
theorem unqL_yes {x l : List UInt8} (h : quoteL x = l) : unqL l = x ∧ unqE l = 0 := by
  have hx : ∃ x, quoteL x = l := ⟨x, h⟩
  refine ⟨?_, ?_⟩
  · unfold unqL
    rw [dif_pos hx]
    exact quoteL_inj (hx.choose_spec.trans h.symm)
  · unfold unqE
    rw [if_pos hx]
theorem unqL_no {l : List UInt8} (h : ∀ x, quoteL x ≠ l) : unqL l = [] ∧ unqE l = 20 := by
  have hx : ¬ ∃ x, quoteL x = l := fun ⟨x, hx⟩ => h x hx
  refine ⟨?_, ?_⟩
  · unfold unqL
    rw [dif_neg hx]
  · unfold unqE
    rw [if_neg hx]

/-! ### What stands between the quotes -/
theorem inner_of_quote {x l : List UInt8} (h : quoteL x = l) : 2 ≤ l.length ∧ l[0]? = some 34 ∧ l[l.length - 1]? = some 34 ∧ (l.drop 1).take (l.length - 2) = x.flatMap qB := by
  subst h
  refine ⟨by simp [quoteL], rfl, ?_, ?_⟩
  · simp [quoteL]
  · simp [quoteL]
theorem quote_of_inner {x l : List UInt8} (h2 : 2 ≤ l.length) (h0 : l[0]? = some 34) (h1 : l[l.length - 1]? = some 34) (h : (l.drop 1).take (l.length - 2) = x.flatMap qB) : quoteL x = l := by
  unfold quoteL
  rw [← h]
  cases l with
  | nil => simp at h2
  | cons a r =>
    simp at h0
    subst h0
    simp only [List.drop_succ_cons, List.drop_zero, List.length_cons] at *
    congr 1
    rw [show r.length + 1 - 2 = r.length - 1 by omega]
    have hr : r.length - 1 < r.length := by omega
    have h34 : r[r.length - 1]? = some 34 := by
      rw [show r.length + 1 - 1 = (r.length - 1) + 1 by omega, List.getElem?_cons_succ] at h1
      exact h1
    conv => rhs; rw [← List.take_append_drop (r.length - 1) r]
    congr 1
    rw [List.drop_eq_getElem_cons hr]
    rw [List.getElem?_eq_getElem hr] at h34
    rw [Option.some.inj h34, List.drop_of_length_le (by omega)]

/-- The strict reader has read out, and rest is left. -/
theorem strict_fail {inner out rest : List UInt8} (h : inner = out.flatMap qB ++ rest) (hne : rest ≠ []) (hn : (nextL rest).2 = 0) : ∀ x : List UInt8, inner ≠ x.flatMap qB := by
  intro x hx
  obtain ⟨y, h1, _⟩ := flat_prefix out x rest (h.symm.trans hx)
  cases y with
  | nil => exact hne h1
  | cons c y =>
    rw [List.flatMap_cons] at h1
    rw [h1, nextL_qB] at hn
    simp only at hn
    have : qB c = [] := List.eq_nil_of_length_eq_zero hn
    have h2 := qB_ne c []
    rw [this] at h2
    exact h2 rfl
theorem strict_step {inner out rest : List UInt8} {c : UInt8} {n : Nat} (h : inner = out.flatMap qB ++ rest) (hx : nextL rest = (c, n)) (hn : n ≠ 0) : inner = (out ++ [c]).flatMap qB ++ rest.drop n := by
  rw [List.flatMap_append, List.append_assoc]
  simp only [List.flatMap_cons, List.flatMap_nil, List.append_nil]
  rw [← (nextL_ok hx hn).1]
  exact h

/-! ### The lenient reader -/
/-- What two digits say, or whatever. -/
def hbv (x y : Int) : Int := (bits .or .i64 (x * 16) (bits .and .i64 y 15)) % 256
def lstep : List UInt8 → UInt8 × Nat
  | [] => (0, 1)
  | a :: r => if a.toNat = 92 then match r with
      | [] => (a, 1)
      | b :: r' => if b.toNat = 120 then match r' with
          | c :: d :: _ => (UInt8.ofNat (hbv (digv c) (digv d)).toNat, 4)
          | _ => (b, 2)
        else (b, 2)
    else (a, 1)
def lenF : Nat → List UInt8 → List UInt8
  | 0, _ => []
  | _ + 1, [] => []
  | f + 1, a :: r => (lstep (a :: r)).1 :: lenF f ((a :: r).drop (lstep (a :: r)).2)
theorem lenF_nil (f : Nat) : lenF f [] = [] := by cases f <;> rfl
theorem lenF_succ {f : Nat} {l : List UInt8} (h : l ≠ []) : lenF (f + 1) l = (lstep l).1 :: lenF f (l.drop (lstep l).2) := by
  cases l with
  | nil => exact absurd rfl h
  | cons a r => rfl
theorem hbv_digits : ∀ x : Nat, x < 16 → ∀ y : Nat, y < 16 → hbv (x : Int) (y : Int) = 16 * x + y := by decide +kernel
theorem lstep_qB (b : UInt8) (t : List UInt8) : lstep (qB b ++ t) = (b, (qB b).length) := by
  have hb := b.toNat_lt
  unfold qB
  split
  · rename_i h
    simp only [List.cons_append, List.nil_append, lstep]
    rw [if_pos (by decide), if_neg (by omega)]
    rfl
  · rename_i h
    split
    · show (if b.toNat = 92 then _ else (b, 1)) = _
      rw [if_neg (by omega)]
      rfl
    · have h16 : b.toNat / 16 < 16 := by omega
      have h17 : b.toNat % 16 < 16 := by omega
      simp only [List.cons_append, List.nil_append, lstep]
      rw [if_pos (by decide), if_pos (by decide), digv_hexd h16, digv_hexd h17, hbv_digits _ h16 _ h17]
      have : (16 * ((b.toNat / 16 : Nat) : Int) + ((b.toNat % 16 : Nat) : Int)).toNat = b.toNat := by omega
      rw [this, UInt8.ofNat_toNat]
      rfl
theorem lenF_flat : ∀ (y : List UInt8) (f : Nat), y.length ≤ f → lenF f (y.flatMap qB) = y
  | [], f, _ => lenF_nil f
  | c :: y, 0, h => by simp at h
  | c :: y, f + 1, h => by
    rw [List.flatMap_cons, lenF_succ (qB_ne _ _), lstep_qB, List.drop_left, lenF_flat y f (by simpa using h)]
/-- The lenient reader has read out of inner, and rest is left. -/
def Len (inner out rest : List UInt8) : Prop := ∀ f, lenF (f + out.length) inner = out ++ lenF f rest
theorem Len.start (inner : List UInt8) : Len inner [] inner := fun _ => rfl
theorem Len.step {inner out rest : List UInt8} {c : UInt8} {n : Nat} (h : Len inner out rest) (hne : rest ≠ []) (hs : lstep rest = (c, n)) : Len inner (out ++ [c]) (rest.drop n) := by
  intro f
  have := h (f + 1)
  rw [lenF_succ hne, hs] at this
  rw [List.length_append, List.length_singleton, show f + (out.length + 1) = f + 1 + out.length by omega, this]
  simp
theorem Len.done {inner out y : List UInt8} (h : Len inner out []) (hy : inner = y.flatMap qB) : out = y := by
  have h1 := h y.length
  rw [lenF_nil, List.append_nil, hy, lenF_flat y _ (by omega)] at h1
  exact h1.symm
end Go.Proofs.YtkbamhecbfocbaaDoor.gl
