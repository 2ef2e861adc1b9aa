/- Package codec in plain words: the row of a number, what a Writer and a Reader hold and what each call makes of it. No program in sight; no conditions. -/
import Derived.Test.YtmijkaejdgmplaaDoorLib
namespace Go.Proofs.YtmijkaejdgmplaaDoor.co

/-- A number's row: seven bits a byte, the low ones first; 128 more on each byte that is not the last. -/
def rowL (n : Nat) : List UInt8 := if n < 128 then [UInt8.ofNat n] else UInt8.ofNat (n % 128 + 128) :: rowL (n / 128)
termination_by n
decreasing_by omega
theorem rowL_small {n : Nat} (h : n < 128) : rowL n = [UInt8.ofNat n] := by rw [rowL, if_pos h]
theorem rowL_great {n : Nat} (h : ¬ n < 128) : rowL n = UInt8.ofNat (n % 128 + 128) :: rowL (n / 128) := by rw [rowL, if_neg h]
theorem rowL_le : ∀ (k n : Nat), n < 128 ^ (k + 1) → (rowL n).length ≤ k + 1
  | 0, n, h => by rw [rowL_small (by omega)]; simp
  | k + 1, n, h => by
    by_cases h1 : n < 128
    · rw [rowL_small h1]; simp
    · rw [rowL_great h1]
      have : n / 128 < 128 ^ (k + 1) := by
        rw [Nat.div_lt_iff_lt_mul (by omega)]
        rw [Nat.pow_succ] at h
        exact h
      have := rowL_le k (n / 128) this
      simp only [List.length_cons]
      omega
theorem rowL_pos (n : Nat) : 1 ≤ (rowL n).length := by
  rw [rowL]
  split <;> simp

/-- What a Writer holds: its bytes, its room, its first error (0: none). -/
structure Wst where
  out : List UInt8
  most : Nat
  err : Int
def Wst.fails (s : Wst) (e : Int) : Wst := if s.err = 0 then { s with err := e } else s
def Wst.lay (s : Wst) (l : List UInt8) : Wst := if s.err = 0 then (if s.out.length + l.length > s.most then { s with err := 31 } else { s with out := s.out ++ l }) else s
def Wst.num (s : Wst) (n : Int) : Wst := if n < 0 ∨ n > 4611686018427387904 then s.fails 30 else s.lay (rowL n.toNat)
def Wst.text (s : Wst) (l : List UInt8) : Wst := if l.length > 65535 then s.fails 31 else s.lay (rowL l.length ++ l)
/-- What Done says. -/
def Wst.done (s : Wst) : List UInt8 × Int := if s.err = 0 then (s.out, 0) else ([], s.err)
def Wst.ok (s : Wst) : Prop := s.out.length ≤ s.most
theorem Wst.ok_fails {s : Wst} (h : s.ok) (e : Int) : (s.fails e).ok := by unfold Wst.fails; split <;> exact h
theorem Wst.ok_lay {s : Wst} (h : s.ok) (l : List UInt8) : (s.lay l).ok := by
  unfold Wst.lay
  split
  · split
    · exact h
    · unfold Wst.ok; simp; omega
  · exact h
theorem Wst.ok_num {s : Wst} (h : s.ok) (n : Int) : (s.num n).ok := by unfold Wst.num; split; exact ok_fails h _; exact ok_lay h _
theorem Wst.ok_text {s : Wst} (h : s.ok) (l : List UInt8) : (s.text l).ok := by unfold Wst.text; split; exact ok_fails h _; exact ok_lay h _
theorem Wst.most_fails (s : Wst) (e : Int) : (s.fails e).most = s.most := by unfold Wst.fails; split <;> rfl
theorem Wst.most_lay (s : Wst) (l : List UInt8) : (s.lay l).most = s.most := by unfold Wst.lay; split; split <;> rfl; rfl
theorem Wst.most_num (s : Wst) (n : Int) : (s.num n).most = s.most := by unfold Wst.num; split; exact most_fails _ _; exact most_lay _ _
theorem Wst.most_text (s : Wst) (l : List UInt8) : (s.text l).most = s.most := by unfold Wst.text; split; exact most_fails _ _; exact most_lay _ _

/-- A row read from byte i on, n having been read of it: the number, the bytes, the error. -/
def nxt : Nat → Nat → Nat → List UInt8 → Nat × Nat × Int
  | 0, _, _, _ => (0, 0, 30)
  | _ + 1, _, _, [] => (0, 0, 32)
  | f + 1, i, n, b :: r =>
    if 128 ≤ b.toNat then nxt f (i + 1) (n + b.toNat % 128 * 128 ^ i) r
    else if (0 < i ∧ b.toNat = 0) ∨ n + b.toNat % 128 * 128 ^ i > 4611686018427387904 then (0, 0, 30)
    else (n + b.toNat % 128 * 128 ^ i, i + 1, 0)

/-- What a Reader holds. -/
structure Rst where
  rest : List UInt8
  err : Int
def Rst.num (s : Rst) : Nat × Rst :=
  if s.err = 0 then ((nxt 9 0 0 s.rest).1, { rest := s.rest.drop (nxt 9 0 0 s.rest).2.1, err := (nxt 9 0 0 s.rest).2.2 }) else (0, s)
def Rst.text (s : Rst) (most : Int) : List UInt8 × Rst :=
  let n := s.num.1
  let t := s.num.2
  if t.err = 0 then
    (if (n : Int) > most ∨ n > 65535 then ([], { t with err := 31 })
    else if n > t.rest.length then ([], { t with err := 32 })
    else (t.rest.take n, { t with rest := t.rest.drop n }))
  else ([], t)
def Rst.left (s : Rst) : Nat := if s.err = 0 then s.rest.length else 0
def Rst.done (s : Rst) : Int := if s.err = 0 then (if s.rest = [] then 0 else 33) else s.err

/-- A row that was laid down is taken up as it was. -/
theorem nxt_row : ∀ (f i n m : Nat) (t : List UInt8), m < 128 ^ (f + 1) → (0 < i → 0 < m) → n + m * 128 ^ i ≤ 4611686018427387904 → nxt (f + 1) i n (rowL m ++ t) = (n + m * 128 ^ i, i + (rowL m).length, 0)
  | f, i, n, m, t, h, hi, hm => by
    by_cases h1 : m < 128
    · have hb : (UInt8.ofNat m).toNat = m := by rw [UInt8.toNat_ofNat']; omega
      rw [rowL_small h1]
      simp only [List.cons_append, List.nil_append, nxt, hb]
      rw [if_neg (by omega), Nat.mod_eq_of_lt h1, if_neg (by omega)]
      simp
    · have hb : (UInt8.ofNat (m % 128 + 128)).toNat = m % 128 + 128 := by rw [UInt8.toNat_ofNat']; omega
      cases f with
      | zero => simp at h; omega
      | succ f =>
        have e : (m % 128 + 128) % 128 = m % 128 := by omega
        have e2 : n + m % 128 * 128 ^ i + m / 128 * 128 ^ (i + 1) = n + m * 128 ^ i := by
          rw [Nat.pow_succ]
          have : m / 128 * (128 ^ i * 128) = 128 * (m / 128) * 128 ^ i := by
            rw [Nat.mul_comm (128 ^ i) 128, ← Nat.mul_assoc, Nat.mul_comm (m / 128) 128]
          rw [this, Nat.add_assoc, ← Nat.add_mul]
          congr 2
          omega
        have ih := nxt_row f (i + 1) (n + m % 128 * 128 ^ i) (m / 128) t (by rw [Nat.div_lt_iff_lt_mul (by omega)]; rw [Nat.pow_succ] at h; exact h) (fun _ => by omega) (by rw [e2]; exact hm)
        rw [rowL_great h1, List.cons_append, nxt, hb, if_pos (by omega), e, ih, e2]
        simp only [List.length_cons, Prod.mk.injEq, and_true, true_and]
        omega

/-- What was taken up as a row is the number's row. -/
theorem nxt_ok : ∀ (f i n : Nat) (l : List UInt8) (m k : Nat), nxt f i n l = (m, k, 0) → ∃ x, l = rowL x ++ l.drop (k - i) ∧ i < k ∧ k - i = (rowL x).length ∧ m = n + x * 128 ^ i ∧ (0 < i → 0 < x) ∧ m ≤ 4611686018427387904
  | 0, _, _, _, _, _, h => by simp [nxt] at h
  | f + 1, i, n, [], m, k, h => by simp [nxt] at h
  | f + 1, i, n, b :: r, m, k, h => by
    have hb := b.toNat_lt
    simp only [nxt] at h
    split at h
    · rename_i h1
      obtain ⟨x, e1, e2, e3, e4, e5, e6⟩ := nxt_ok f (i + 1) _ r m k h
      have hx := e5 (by omega)
      have hg : ¬ (b.toNat % 128 + 128 * x) < 128 := by omega
      have hr : rowL (b.toNat % 128 + 128 * x) = b :: rowL x := by
        rw [rowL_great hg, show (b.toNat % 128 + 128 * x) % 128 + 128 = b.toNat by omega, show (b.toNat % 128 + 128 * x) / 128 = x by omega, UInt8.ofNat_toNat]
      refine ⟨b.toNat % 128 + 128 * x, ?_, by omega, by rw [hr]; simp only [List.length_cons]; omega, ?_, fun _ => by omega, e6⟩
      · rw [hr, show k - i = (k - (i + 1)) + 1 by omega]
        simp only [List.drop_succ_cons, List.cons_append]
        rw [← e1]
      · rw [e4, Nat.pow_succ, Nat.add_mul, Nat.add_assoc]
        congr 2
        rw [Nat.mul_comm (128 ^ i) 128, ← Nat.mul_assoc, Nat.mul_comm x 128]
    · rename_i h1
      split at h
      · simp at h
      · rename_i h2
        simp only [Prod.mk.injEq, and_true] at h
        obtain ⟨rfl, rfl⟩ := h
        have hm : b.toNat % 128 = b.toNat := by omega
        rw [hm] at h2 ⊢
        refine ⟨b.toNat, ?_, by omega, by rw [rowL_small (by omega)]; simp, rfl, fun hi => ?_, by omega⟩
        · rw [rowL_small (by omega), UInt8.ofNat_toNat, show i + 1 - i = 1 by omega]
          rfl
        · rcases Nat.eq_zero_or_pos b.toNat with h0 | h0
          · exact absurd (Or.inl ⟨hi, h0⟩) h2
          · exact h0
end Go.Proofs.YtmijkaejdgmplaaDoor.co
