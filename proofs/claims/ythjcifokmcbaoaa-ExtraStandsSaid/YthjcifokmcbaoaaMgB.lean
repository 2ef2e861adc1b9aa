/- Laws and contracts on which the statement rests, part B: each text says what it proves, and its conditions. -/
import Derived.Test.YthjcifokmcbaoaaMgA
import Derived.Lib.AtoiAllCases
import Derived.Lib.ItoaNum
import Derived.Lib.Strings
import Derived.Lib.Join
import Derived.BigQuiet
import Derived.Deep.QuietTactic
import Derived.Deep.RegionHeld3
import Derived.StillTailTactics
import Derived.Sort.Grow
import Derived.Shelf.SlSortCmp.SmallK
import Derived.Test.YthjcifokmcbaoaaShelf
import Derived.Lib.AppendIntMem
import Derived.Shelf.Strings.SlTrimAscii
import Derived.Shelf.SlicesE.Reverse
import Derived.Lib.SmallJoins
import Derived.WalkKit
import Derived.Deep.RegionLaw
import Derived.Conc.MuLone
import Derived.Lib.Hide
/- Plain laws of values: the numbers that digits spell, a value, what a text reads as, what a value prints as, which values may be. No program in sight; no conditions. -/
namespace Go.Proofs.Ythjcifokmcbaoaa.va

abbrev B (l : List UInt8) : ByteArray := ⟨l.toArray⟩
theorem B_toList (s : ByteArray) : B s.data.toList = s := by cases s; rfl
theorem B_inj {a b : List UInt8} (h : B a = B b) : a = b := by
  have := congrArg (fun s : ByteArray => s.data.toList) h
  simpa using this
theorem ba_eq {a b : ByteArray} (h : a.data.toList = b.data.toList) : a = b := by rw [← B_toList a, ← B_toList b, h]
theorem ba_ne {a b : ByteArray} (h : a ≠ b) : a.data.toList ≠ b.data.toList := fun e => h (ba_eq e)

/-! ### Numbers -/
def isDig (b : UInt8) : Bool := decide (48 ≤ b.toNat ∧ b.toNat ≤ 57)
/-- What digits spell, behind what was spelt. -/
def decN (acc : Nat) (l : List UInt8) : Nat := l.foldl (fun a c => a * 10 + (c.toNat - 48)) acc
theorem decN_cons (acc : Nat) (c : UInt8) (r : List UInt8) : decN acc (c :: r) = decN (acc * 10 + (c.toNat - 48)) r := by unfold decN; rw [List.foldl_cons]
theorem decN_nil (acc : Nat) : decN acc [] = acc := by unfold decN; rw [List.foldl_nil]
theorem decN_ge : ∀ (l : List UInt8) (acc : Nat), acc ≤ decN acc l
  | [], acc => Nat.le_refl _
  | c :: r, acc => by
    have := decN_ge r (acc * 10 + (c.toNat - 48))
    rw [decN_cons]
    omega
theorem decN_snoc : ∀ (l : List UInt8) (acc : Nat) (c : UInt8), decN acc (l ++ [c]) = decN acc l * 10 + (c.toNat - 48)
  | l, acc, c => by unfold decN; rw [List.foldl_append, List.foldl_cons, List.foldl_nil]
theorem parse_dec : ∀ (l : List UInt8) (acc : Nat), l.all isDig = true → acc < 18446744073709551616 →
    Lib.parseUint10 acc l = if decN acc l < 18446744073709551616 then .ok (decN acc l) else .range
  | [], acc, _, ha => by
    rw [decN_nil, if_pos ha, Lib.parseUint10]
  | c :: r, acc, h, ha => by
    simp only [List.all_cons, Bool.and_eq_true] at h
    have hc : 48 ≤ c.toNat ∧ c.toNat ≤ 57 := of_decide_eq_true h.1
    have hge := decN_ge r (acc * 10 + (c.toNat - 48))
    rw [Lib.parseUint10, if_pos hc, decN_cons]
    split
    · rw [if_neg (by omega)]
    · split
      · rw [if_neg (by omega)]
      · exact parse_dec r _ h.2 (by omega)

/-- No 0 ahead, and something there. -/
def shaped (l : List UInt8) : Bool := match l with
  | [] => false
  | c :: r => decide (c.toNat ≠ 48) || r.isEmpty
/-- A number; none: it is none. At most one above 2^62. -/
def num (l : List UInt8) : Option Nat := if l.all isDig && shaped l then some (min (decN 0 l) 4611686018427387905) else none
theorem num_le {l : List UInt8} {n : Nat} (h : num l = some n) : n ≤ 4611686018427387905 := by
  unfold num at h
  split at h
  · have := Option.some.inj h; omega
  · cases h
theorem num_bad {l : List UInt8} (h : l.all isDig = false) : num l = none := by unfold num; rw [h]; rfl
theorem num_unshaped {l : List UInt8} (h : shaped l = false) : num l = none := by unfold num; rw [h, Bool.and_false]; rfl
theorem num_some {l : List UInt8} (h : l.all isDig = true) (h2 : shaped l = true) : num l = some (min (decN 0 l) 4611686018427387905) := by unfold num; rw [h, h2]; rfl
theorem num_nil : num [] = none := rfl
/-- Atoi at digits. -/
theorem atoi_dec {l : List UInt8} (h : l.all isDig = true) (h0 : l ≠ []) :
    Lib.atoiAll l = if decN 0 l < 9223372036854775808 then .ok (decN 0 l : Int) else .range := by
  cases l with
  | nil => exact absurd rfl h0
  | cons c r =>
    have hc : 48 ≤ c.toNat ∧ c.toNat ≤ 57 := by
      simp only [List.all_cons, Bool.and_eq_true] at h
      exact of_decide_eq_true h.1
    rw [Lib.atoiAll_plain c r (by omega) (by omega)]
    unfold Lib.parseMag
    rw [if_neg h0, parse_dec _ 0 h (by omega)]
    by_cases h1 : decN 0 (c :: r) < 18446744073709551616
    · rw [if_pos h1]
      show (if _ then _ else _) = _
      by_cases h2 : decN 0 (c :: r) < 9223372036854775808
      · rw [if_pos h2, if_neg (by omega)]
      · rw [if_neg h2, if_pos (by omega)]
    · rw [if_neg h1, if_neg (by omega)]
      rfl

theorem decDigits_lt {u : Nat} (h : u < 10) : Lib.decDigits u = [UInt8.ofNat (48 + u)] := by rw [Lib.decDigits, dif_pos h]
theorem decDigits_ge {u : Nat} (h : ¬ u < 10) : Lib.decDigits u = Lib.decDigits (u / 10) ++ [UInt8.ofNat (48 + u % 10)] := by rw [Lib.decDigits, dif_neg h]
theorem decDigits_all (u : Nat) : (Lib.decDigits u).all isDig = true := by
  induction u using Nat.strongRecOn with
  | _ u ih =>
    rw [Lib.decDigits]
    split
    · rename_i h
      simp only [List.all_cons, List.all_nil, Bool.and_true, isDig]
      have : (UInt8.ofNat (48 + u)).toNat = 48 + u := by simp; omega
      rw [this]
      exact decide_eq_true (by omega)
    · rename_i h
      rw [List.all_append, ih _ (by omega)]
      simp only [List.all_cons, List.all_nil, Bool.and_true, isDig, Bool.true_and]
      have : (UInt8.ofNat (48 + u % 10)).toNat = 48 + u % 10 := by simp; omega
      rw [this]
      exact decide_eq_true (by omega)
theorem decDigits_ne (u : Nat) : Lib.decDigits u ≠ [] := by
  rw [Lib.decDigits]
  split <;> simp
theorem decN_decDigits (u : Nat) : decN 0 (Lib.decDigits u) = u := by
  induction u using Nat.strongRecOn with
  | _ u ih =>
    rw [Lib.decDigits]
    split
    · rename_i h
      have : (UInt8.ofNat (48 + u)).toNat = 48 + u := by simp; omega
      rw [decN_cons, decN_nil, this]
      omega
    · rename_i h
      rw [decN_snoc, ih _ (by omega)]
      have : (UInt8.ofNat (48 + u % 10)).toNat = 48 + u % 10 := by simp; omega
      rw [this]
      omega
theorem shaped_snoc {l : List UInt8} (h : shaped l = true) (c : UInt8) (h0 : l ≠ [48]) : shaped (l ++ [c]) = true := by
  cases l with
  | nil => cases h
  | cons a r =>
    unfold shaped at h ⊢
    simp only [Bool.or_eq_true, decide_eq_true_eq, List.isEmpty_iff] at h
    rcases h with h | rfl
    · simp [h]
    · have : a.toNat ≠ 48 := fun e => h0 (by rw [UInt8.toNat_inj.1 (show a.toNat = (48 : UInt8).toNat from e)])
      simp [this]
theorem decDigits_head (u : Nat) (h : 0 < u) : ∃ c r, Lib.decDigits u = c :: r ∧ c.toNat ≠ 48 := by
  induction u using Nat.strongRecOn with
  | _ u ih =>
    rw [Lib.decDigits]
    split
    · exact ⟨_, _, rfl, by simp; omega⟩
    · obtain ⟨c, r, e, hc⟩ := ih (u / 10) (by omega) (by omega)
      rw [e]
      exact ⟨c, _, rfl, hc⟩
theorem decDigits_shaped (u : Nat) : shaped (Lib.decDigits u) = true := by
  by_cases h : 0 < u
  · obtain ⟨c, r, e, hc⟩ := decDigits_head u h
    rw [e]
    simp [shaped, hc]
  · obtain rfl : u = 0 := by omega
    rw [decDigits_lt (by omega)]
    rfl
theorem num_decDigits {u : Nat} (h : u ≤ 4611686018427387905) : num (Lib.decDigits u) = some u := by
  rw [num_some (decDigits_all u) (decDigits_shaped u), decN_decDigits, Nat.min_eq_left h]

/-- Digits that spell a number without a 0 ahead are that number's digits. -/
theorem decDigits_decN : ∀ (l : List UInt8), l.all isDig = true → shaped l = true → Lib.decDigits (decN 0 l) = l := by
  intro l
  induction hn : l.length using Nat.strongRecOn generalizing l with
  | _ n ih =>
    intro hd hs
    rcases List.eq_nil_or_concat l with rfl | ⟨r, c, rfl⟩
    · cases hs
    · simp only [List.concat_eq_append, List.all_append, List.all_cons, List.all_nil, Bool.and_true, Bool.and_eq_true] at hd
      have hc : 48 ≤ c.toNat ∧ c.toNat ≤ 57 := of_decide_eq_true hd.2
      have hcc : UInt8.ofNat c.toNat = c := by simp
      simp only [List.concat_eq_append] at hs hn ⊢
      rw [decN_snoc]
      cases r with
      | nil =>
        rw [decN_nil, List.nil_append, decDigits_lt (by omega)]
        congr 1
        rw [show 48 + (0 * 10 + (c.toNat - 48)) = c.toNat by omega, hcc]
      | cons a r =>
        have hsa : a.toNat ≠ 48 := by
          simp only [shaped, List.cons_append, Bool.or_eq_true, decide_eq_true_eq, List.isEmpty_iff] at hs
          rcases hs with h | h
          · exact h
          · simp at h
        have hda : 48 ≤ a.toNat ∧ a.toNat ≤ 57 := by
          have := hd.1
          simp only [List.all_cons, Bool.and_eq_true] at this
          exact of_decide_eq_true this.1
        have hge := decN_ge r (0 * 10 + (a.toNat - 48))
        have hpos : 1 ≤ decN 0 (a :: r) := by
          rw [decN_cons]
          omega
        rw [decDigits_ge (by omega), show (decN 0 (a :: r) * 10 + (c.toNat - 48)) / 10 = decN 0 (a :: r) by omega,
          ih (a :: r).length (by simp at hn ⊢; omega) (a :: r) rfl hd.1 (by simp [shaped, hsa]),
          show 48 + (decN 0 (a :: r) * 10 + (c.toNat - 48)) % 10 = c.toNat by omega, hcc]
theorem num_back {l : List UInt8} {n : Nat} (h : num l = some n) (hn : n ≤ 4611686018427387904) : Lib.decDigits n = l := by
  unfold num at h
  split at h
  · rename_i h1
    simp only [Bool.and_eq_true] at h1
    have h2 := Option.some.inj h
    have : decN 0 l = n := by omega
    rw [← this]
    exact decDigits_decN l h1.1 h1.2
  · cases h

/-! ### Values -/
/-- A value. -/
structure Val where
  kind : Int
  int : Int
  text : ByteArray
  words : List ByteArray
  deriving DecidableEq
def zero : Val := ⟨0, 0, ByteArray.empty, []⟩

/-- How many a unit stands for. -/
def unit (k : Int) (l : List UInt8) : Int :=
  if k = 3 then (if l = [] then 1 else if l = [107] then 1024 else if l = [109] then 1048576 else if l = [103] then 1073741824 else 0)
  else if k = 4 then (if l = [115] then 1 else if l = [109] then 60 else if l = [104] then 3600 else if l = [100] then 86400 else 0)
  else 0
theorem unit_nonneg (k : Int) (l : List UInt8) : 0 ≤ unit k l ∧ unit k l ≤ 1073741824 := by
  unfold unit
  repeat' split
  all_goals omega
def least (k : Int) : Int := if k = 2 then -4611686018427387904 else 0
def most (k : Int) : Int := if k = 1 then 1 else if k = 2 then 4611686018427387904 else if k = 3 then 1125899906842624 else if k = 4 then 1099511627776 else 0
def prn (b : UInt8) : Bool := decide (32 ≤ b.toNat ∧ b.toNat ≤ 126)

/-- How many digits stand ahead. -/
def digs : List UInt8 → Nat
  | [] => 0
  | c :: r => if isDig c then digs r + 1 else 0
theorem digs_le : ∀ l : List UInt8, digs l ≤ l.length
  | [] => Nat.le_refl _
  | c :: r => by
    have := digs_le r
    unfold digs
    split <;> simp <;> omega
theorem digs_at {l : List UInt8} {k : Nat} (h : ∀ j b, j < k → l[j]? = some b → isDig b = true) (hk : k ≤ l.length) (he : ∀ b, l[k]? = some b → isDig b = false) : digs l = k := by
  induction l generalizing k with
  | nil => simp at hk; simp [digs, hk]
  | cons c r ih =>
    cases k with
    | zero =>
      have := he c rfl
      simp [digs, this]
    | succ k =>
      have h0 := h 0 c (by omega) rfl
      unfold digs
      rw [if_pos h0, ih (k := k) (fun j b hj hb => h (j + 1) b (by omega) (by simpa using hb)) (by simpa using hk) (fun b hb => he b (by simpa using hb))]
theorem digs_take : ∀ l : List UInt8, (l.take (digs l)).all isDig = true
  | [] => rfl
  | c :: r => by
    unfold digs
    split
    · rename_i h
      simp [h, digs_take r]
    · rfl

/-- A text of a whole number. -/
def parseInt (l : List UInt8) : Val × Int :=
  let neg := l.head? = some 45
  match num (if neg then l.tail else l) with
  | none => (zero, 40)
  | some n => if neg ∧ n = 0 then (zero, 40) else if 4611686018427387904 < n then (zero, 41) else (⟨2, if neg then -(n : Int) else n, ByteArray.empty, []⟩, 0)
/-- How many the unit behind the digits stands for. -/
def tail (k : Int) (l : List UInt8) : Int := if k = 4 ∧ l = [48] then 1 else unit k (l.drop (digs l))
/-- A text of a number with a unit. -/
def parseUnit (k : Int) (l : List UInt8) : Val × Int :=
  match num (l.take (digs l)) with
  | none => (zero, 40)
  | some n => if tail k l = 0 then (zero, 40) else if most k / tail k l < n then (zero, 41) else (⟨k, n * tail k l, ByteArray.empty, []⟩, 0)
def parseText (l : List UInt8) : Val × Int :=
  if l.all prn then (if 200 < l.length then (zero, 42) else (⟨5, 0, B l, []⟩, 0)) else (zero, 40)
/-- isW: what is a word. -/
def parseWords (isW : List UInt8 → Bool) (l : List UInt8) : Val × Int :=
  if l = [] then (⟨6, 0, ByteArray.empty, []⟩, 0)
  else if (pcs 44 l).all isW then (if 200 < l.length ∨ 16 < (pcs 44 l).length then (zero, 42) else (⟨6, 0, ByteArray.empty, (pcs 44 l).map B⟩, 0))
  else (zero, 40)
def yes (l : List UInt8) : Bool := decide (l = [116, 114, 117, 101] ∨ l = [121, 101, 115] ∨ l = [111, 110])
def no (l : List UInt8) : Bool := decide (l = [102, 97, 108, 115, 101] ∨ l = [110, 111] ∨ l = [111, 102, 102])
def parseBool (l : List UInt8) : Val × Int :=
  if yes l then (⟨1, 1, ByteArray.empty, []⟩, 0) else if no l then (⟨1, 0, ByteArray.empty, []⟩, 0) else (zero, 40)
def parse (isW : List UInt8 → Bool) (k : Int) (l : List UInt8) : Val × Int :=
  if k = 1 then parseBool l else if k = 2 then parseInt l else if k = 3 ∨ k = 4 then parseUnit k l else if k = 5 then parseText l else if k = 6 then parseWords isW l else (zero, 1)

def joined (ws : List ByteArray) : List UInt8 := Lib.join (ws.map (·.data.toList)) [44]
/-- May a value be? -/
def right (isW : List UInt8 → Bool) (v : Val) : Bool :=
  (decide (v.kind = 5) || decide (v.text = ByteArray.empty)) && (decide (v.kind = 6) || v.words.isEmpty) &&
  (decide (least v.kind ≤ v.int) && decide (v.int ≤ most v.kind)) &&
  (decide (v.kind = 1 ∨ v.kind = 2 ∨ v.kind = 3 ∨ v.kind = 4) ||
   (decide (v.kind = 5) && (decide (v.text.size ≤ 200) && v.text.data.toList.all prn)) ||
   (decide (v.kind = 6) && (decide (v.words.length ≤ 16) && v.words.all (fun x => isW x.data.toList) && decide ((joined v.words).length ≤ 200))))
/-- The names of the units, the least first. -/
def uname (k : Int) (i : Nat) : List UInt8 :=
  if k = 3 then (match i with | 0 => [] | 1 => [107] | 2 => [109] | _ => [103]) else (match i with | 0 => [115] | 1 => [109] | 2 => [104] | _ => [100])
/-- The greatest unit of which a number is a multiple. -/
def best (k : Int) (n : Int) : Nat :=
  if n = 0 then 0 else if n % unit k (uname k 3) = 0 then 3 else if n % unit k (uname k 2) = 0 then 2 else if n % unit k (uname k 1) = 0 then 1 else 0
def prints (v : Val) : List UInt8 :=
  if v.kind = 1 then (if v.int = 1 then [116, 114, 117, 101] else [102, 97, 108, 115, 101])
  else if v.kind = 2 then Lib.itoa v.int
  else if v.kind = 5 then v.text.data.toList
  else if v.kind = 6 then joined v.words
  else Lib.itoa (v.int / unit v.kind (uname v.kind (best v.kind v.int))) ++ uname v.kind (best v.kind v.int)
def print (isW : List UInt8 → Bool) (v : Val) : List UInt8 × Int := if right isW v then (prints v, 0) else ([], 1)
def within (isW : List UInt8 → Bool) (v : Val) (lo hi : Int) : Bool :=
  right isW v && (if v.kind = 2 ∨ v.kind = 3 ∨ v.kind = 4 then decide (lo ≤ v.int ∧ v.int ≤ hi) else if v.kind = 6 then decide (lo ≤ v.words.length ∧ (v.words.length : Int) ≤ hi) else true)
end Go.Proofs.Ythjcifokmcbaoaa.va
/- Chapter 16 in plain words: pairs, steps, and what a step makes of pairs, said twice: as the document says it, and as the program makes it. No program in sight beside the words of chapters 2, 4 and 6; no conditions beside those stated. -/
namespace Go.Proofs.Ythjcifokmcbaoaa.st
open gl

/-! ### The order of texts -/
abbrev ltL : List UInt8 → List UInt8 → Bool := Op.bytesLess
theorem ltL_nil (a : List UInt8) : ltL a [] = false := by cases a <;> rfl
theorem ltL_cons (a b : UInt8) (x y : List UInt8) : ltL (a :: x) (b :: y) = (decide (a < b) || (a == b && ltL x y)) := rfl
theorem ltL_irrefl : ∀ a : List UInt8, ltL a a = false
  | [] => rfl
  | a :: x => by rw [ltL_cons, ltL_irrefl x]; simp
theorem ltL_trans : ∀ a b c : List UInt8, ltL a b = true → ltL b c = true → ltL a c = true
  | _, [], _, h, _ => by rw [ltL_nil] at h; cases h
  | _, _ :: _, [], _, h => by rw [ltL_nil] at h; cases h
  | [], _ :: _, _ :: _, _, _ => rfl
  | a :: x, b :: y, c :: z, h1, h2 => by
    rw [ltL_cons] at h1 h2 ⊢
    simp only [Bool.or_eq_true, decide_eq_true_eq, Bool.and_eq_true, beq_iff_eq, UInt8.lt_iff_toNat_lt] at h1 h2 ⊢
    rcases h1 with h1 | ⟨rfl, h1⟩
    · rcases h2 with h2 | ⟨rfl, h2⟩
      · exact .inl (by omega)
      · exact .inl h1
    · rcases h2 with h2 | ⟨rfl, h2⟩
      · exact .inl h2
      · exact .inr ⟨rfl, ltL_trans x y z h1 h2⟩
theorem ltL_total : ∀ a b : List UInt8, ltL a b = false → ltL b a = false → a = b
  | [], [], _, _ => rfl
  | [], _ :: _, h, _ => by cases h
  | _ :: _, [], _, h => by cases h
  | a :: x, b :: y, h1, h2 => by
    rw [ltL_cons] at h1 h2
    simp only [Bool.or_eq_false_iff, decide_eq_false_iff_not, Bool.and_eq_false_iff, beq_eq_false_iff_ne, UInt8.lt_iff_toNat_lt] at h1 h2
    obtain rfl : a = b := UInt8.toNat_inj.1 (by omega)
    rw [ltL_total x y (by rcases h1.2 with h | h; exact absurd rfl h; exact h) (by rcases h2.2 with h | h; exact absurd rfl h; exact h)]

/-! ### Pairs -/
structure Pr where
  table : List UInt8
  key : List UInt8
  value : List UInt8
def ltP (a b : Pr) : Bool := ltL a.table b.table || (decide (a.table = b.table) && ltL a.key b.key)
theorem ltP_irrefl (a : Pr) : ltP a a = false := by unfold ltP; rw [ltL_irrefl, ltL_irrefl]; simp
theorem ltP_trans {a b c : Pr} (h1 : ltP a b = true) (h2 : ltP b c = true) : ltP a c = true := by
  unfold ltP at *
  simp only [Bool.or_eq_true, Bool.and_eq_true, decide_eq_true_eq] at *
  rcases h1 with h1 | ⟨e1, h1⟩
  · rcases h2 with h2 | ⟨e2, h2⟩
    · exact .inl (ltL_trans _ _ _ h1 h2)
    · exact .inl (by rw [← e2]; exact h1)
  · rcases h2 with h2 | ⟨e2, h2⟩
    · exact .inl (by rw [e1]; exact h2)
    · exact .inr ⟨e1.trans e2, ltL_trans _ _ _ h1 h2⟩
theorem ltP_total {a b : Pr} (h1 : ltP a b = false) (h2 : ltP b a = false) : a.table = b.table ∧ a.key = b.key := by
  unfold ltP at *
  simp only [Bool.or_eq_false_iff, Bool.and_eq_false_iff, decide_eq_false_iff_not] at *
  have e := ltL_total _ _ h1.1 h2.1
  exact ⟨e, ltL_total _ _ (by rcases h1.2 with h | h; exact absurd e h; exact h) (by rcases h2.2 with h | h; exact absurd e.symm h; exact h)⟩
theorem ltP_ne {a b : Pr} (h : ltP a b = true) : ¬ (a.table = b.table ∧ a.key = b.key) := by
  rintro ⟨h1, h2⟩
  unfold ltP at h
  rw [h1, h2, ltL_irrefl, ltL_irrefl] at h
  simp at h
theorem ltP_of {a b : Pr} (h : ltP a b = false) (hn : ¬ (a.table = b.table ∧ a.key = b.key)) : ltP b a = true := by
  cases h2 : ltP b a with
  | true => rfl
  | false => exact absurd (ltP_total h h2) hn
theorem ltP_keys {a b a' b' : Pr} (h1 : a.table = a'.table) (h2 : a.key = a'.key) (h3 : b.table = b'.table) (h4 : b.key = b'.key) : ltP a b = ltP a' b' := by unfold ltP; rw [h1, h2, h3, h4]
def Asc (l : List Pr) : Prop := l.Pairwise fun a b => ltP a b = true
def wordP (p : Pr) : Bool := wordL p.table && wordL p.key && decide (p.value.length ≤ 200)
def ascB : List Pr → Bool
  | [] => true
  | a :: r => (match r with | [] => true | b :: _ => ltP a b) && ascB r
def mayL (l : List Pr) : Bool := decide (l.length ≤ 500) && l.all wordP && ascB l
theorem asc_of : ∀ l : List Pr, ascB l = true → Asc l
  | [], _ => List.Pairwise.nil
  | [a], _ => List.pairwise_singleton _ _
  | a :: b :: r, h => by
    unfold ascB at h
    simp only [Bool.and_eq_true] at h
    have ih := asc_of (b :: r) h.2
    refine List.Pairwise.cons ?_ ih
    intro c hc
    rcases List.mem_cons.1 hc with rfl | hc
    · exact h.1
    · exact ltP_trans h.1 (List.rel_of_pairwise_cons ih hc)
theorem asc_to : ∀ l : List Pr, Asc l → ascB l = true
  | [], _ => rfl
  | [a], _ => rfl
  | a :: b :: r, h => by
    unfold ascB
    rw [asc_to (b :: r) (List.pairwise_cons.1 h).2, Bool.and_true]
    exact (List.pairwise_cons.1 h).1 b (by simp)
theorem may_parts {l : List Pr} (h : mayL l = true) : l.length ≤ 500 ∧ (∀ p ∈ l, wordL p.table = true ∧ wordL p.key = true ∧ p.value.length ≤ 200) ∧ Asc l := by
  unfold mayL at h
  simp only [Bool.and_eq_true, decide_eq_true_eq, List.all_eq_true] at h
  refine ⟨h.1.1, fun p hp => ?_, asc_of l h.2⟩
  have := h.1.2 p hp
  unfold wordP at this
  simp only [Bool.and_eq_true, decide_eq_true_eq] at this
  exact ⟨this.1.1, this.1.2, this.2⟩
theorem may_of {l : List Pr} (h : l.length ≤ 500) (h2 : ∀ p ∈ l, wordP p = true) (h3 : Asc l) : mayL l = true := by
  unfold mayL
  simp only [Bool.and_eq_true, decide_eq_true_eq, List.all_eq_true]
  exact ⟨⟨h, h2⟩, asc_to l h3⟩
/-- The pairs ahead of k are well, each behind the one ahead of it. -/
def okTo (l : List Pr) (k : Nat) : Prop := ∀ (j : Nat) (p : Pr), j < k → l[j]? = some p → wordP p = true ∧ ∀ q, 0 < j → l[j - 1]? = some q → ltP q p = true
theorem okTo_succ {l : List Pr} {k : Nat} {p : Pr} (h : okTo l k) (hp : l[k]? = some p) (hw : wordP p = true) (hq : ∀ q, 0 < k → l[k - 1]? = some q → ltP q p = true) : okTo l (k + 1) := by
  intro j x hj hx
  by_cases e : j = k
  · subst e
    obtain rfl := Option.some.inj (hp.symm.trans hx)
    exact ⟨hw, hq⟩
  · exact h j x (by omega) hx
theorem ascB_at : ∀ (l : List Pr) (k : Nat) (p q : Pr), ascB l = true → l[k]? = some q → l[k + 1]? = some p → ltP q p = true
  | [], k, p, q, _, h, _ => by simp at h
  | [a], k, p, q, _, _, h => by simp at h
  | a :: b :: r, 0, p, q, h, h1, h2 => by
    unfold ascB at h
    simp only [Bool.and_eq_true] at h
    simp at h1 h2
    subst h1 h2
    exact h.1
  | a :: b :: r, k + 1, p, q, h, h1, h2 => by
    unfold ascB at h
    simp only [Bool.and_eq_true] at h
    exact ascB_at (b :: r) k p q h.2 (by simpa using h1) (by simpa using h2)
theorem may_bad {l : List Pr} {k : Nat} {p : Pr} (hp : l[k]? = some p) (h : wordP p = false ∨ ∃ q, 0 < k ∧ l[k - 1]? = some q ∧ ltP q p = false) : mayL l = false := by
  cases hm : mayL l with
  | false => rfl
  | true =>
    unfold mayL at hm
    simp only [Bool.and_eq_true, decide_eq_true_eq, List.all_eq_true] at hm
    rcases h with h | ⟨q, hk, hq, h⟩
    · rw [hm.1.2 p (List.mem_of_getElem? hp)] at h; cases h
    · have := ascB_at l (k - 1) p q hm.2 hq (by rw [show k - 1 + 1 = k by omega]; exact hp)
      rw [this] at h; cases h
theorem ascB_of_at : ∀ (l : List Pr), (∀ (k : Nat) (p q : Pr), l[k]? = some q → l[k + 1]? = some p → ltP q p = true) → ascB l = true
  | [], _ => rfl
  | [a], _ => rfl
  | a :: b :: r, h => by
    unfold ascB
    rw [ascB_of_at (b :: r) fun k p q h1 h2 => h (k + 1) p q (by simpa using h1) (by simpa using h2), Bool.and_true]
    exact h 0 b a rfl rfl
theorem lt_of_at {α : Type} {l : List α} {j : Nat} {c : α} (h : l[j]? = some c) : j < l.length := by
  rcases Nat.lt_or_ge j l.length with h1 | h1
  · exact h1
  · rw [List.getElem?_eq_none h1] at h; cases h
theorem may_end {l : List Pr} (h : okTo l l.length) : mayL l = decide (l.length ≤ 500) := by
  have h1 : l.all wordP = true := by
    rw [List.all_eq_true]
    intro p hp
    obtain ⟨j, hj⟩ := List.mem_iff_getElem?.1 hp
    exact (h j p (lt_of_at hj) hj).1
  have h2 : ascB l = true := ascB_of_at l fun k p q hq hp => (h (k + 1) p (lt_of_at hp) hp).2 q (by omega) (by simpa using hq)
  unfold mayL
  rw [h1, h2, Bool.and_true, Bool.and_true]
/-- Lists of pairs that hold the same and ascend are one. -/
theorem asc_unique : ∀ {a b : List Pr}, Asc a → Asc b → a.Perm b → a = b
  | [], b, _, _, h => (List.nil_perm.1 h).symm
  | x :: a, [], _, _, h => absurd h.symm (by intro h; exact absurd (List.nil_perm.1 h) (by simp))
  | x :: a, y :: b, ha, hb, h => by
    have hx : x = y := by
      have h1 : x ∈ y :: b := h.subset (by simp)
      have h2 : y ∈ x :: a := h.symm.subset (by simp)
      rcases List.mem_cons.1 h1 with e | h1
      · exact e
      · rcases List.mem_cons.1 h2 with e | h2
        · exact e.symm
        · have := ltP_trans (List.rel_of_pairwise_cons ha h2) (List.rel_of_pairwise_cons hb h1)
          rw [ltP_irrefl] at this; cases this
    subst hx
    rw [asc_unique (List.pairwise_cons.1 ha).2 (List.pairwise_cons.1 hb).2 ((List.perm_cons x).1 h)]
theorem asc_distinct {a : List Pr} (ha : Asc a) {b : List Pr} (h : a.Perm b) : b.Pairwise fun x y => ¬ (x.table = y.table ∧ x.key = y.key) := by
  have h1 : a.Pairwise fun x y => ¬ (x.table = y.table ∧ x.key = y.key) := List.Pairwise.imp (fun h => ltP_ne h) ha
  exact (h.pairwise_iff (fun h1 h2 => h1 ⟨h2.1.symm, h2.2.symm⟩)).1 h1

/-! ### Steps and functions -/
structure Sp where
  kind : Int
  table : List UInt8
  key : List UInt8
  to : List UInt8
  text : List UInt8
def nDouble : List UInt8 := [100, 111, 117, 98, 108, 101]
def nLower : List UInt8 := [108, 111, 119, 101, 114]
def nReverse : List UInt8 := [114, 101, 118, 101, 114, 115, 101]
def nTrim : List UInt8 := [116, 114, 105, 109]
def nUpper : List UInt8 := [117, 112, 112, 101, 114]
def fnL (t : List UInt8) : Bool := decide (t = nDouble ∨ t = nLower ∨ t = nReverse ∨ t = nTrim ∨ t = nUpper)
def upB (b : UInt8) : UInt8 := if 97 ≤ b.toNat ∧ b.toNat ≤ 122 then UInt8.ofNat (b.toNat - 32) else b
def upL (l : List UInt8) : List UInt8 := l.map upB
def dblL (v : List UInt8) : Option (List UInt8) := match va.num v with
  | none => none
  | some n => if n ≤ 2147483648 then some (Lib.decDigits (2 * n)) else none
def funL (t v : List UInt8) : Option (List UInt8) :=
  if t = nDouble then dblL v else if t = nLower then some (foldL v) else if t = nReverse then some v.reverse else if t = nTrim then some (ini.tri v) else some (upL v)
def callL (t v : List UInt8) : List UInt8 × Int := if fnL t = true then (if v.length ≤ 200 then (match funL t v with | none => ([], 162) | some u => (u, 0)) else ([], 162)) else ([], 160)
def rightL (s : Sp) : Bool := wordL s.table && (
  if s.kind = 1 then wordL s.key && s.to.isEmpty && decide (s.text.length ≤ 200)
  else if s.kind = 2 then (wordL s.key || s.key.isEmpty) && s.to.isEmpty && s.text.isEmpty
  else if s.kind = 3 ∨ s.kind = 6 then wordL s.key && wordL s.to && s.text.isEmpty
  else if s.kind = 4 then s.key.isEmpty && wordL s.to && s.text.isEmpty
  else if s.kind = 5 then s.key.isEmpty && s.to.isEmpty && fnL s.text else false)
def isAt (t k : List UInt8) (p : Pr) : Bool := decide (p.table = t) && decide (p.key = k)
def idxL (l : List Pr) (t k : List UInt8) : Option Nat := l.findIdx? (isAt t k)
def goes (t k : List UInt8) (p : Pr) : Bool := decide (p.table = t) && (k.isEmpty || decide (p.key = k))
def butL (l : List Pr) (t k : List UInt8) : List Pr := l.filter fun p => !goes t k p
def tabF (t u : List UInt8) (p : Pr) : Pr := if p.table = t then { p with table := u } else p
def mapF (t f : List UInt8) : List Pr → Option (List Pr)
  | [] => some []
  | p :: r => if p.table = t then (match funL f p.value with
      | none => none
      | some v => (mapF t f r).map fun q => { p with value := v } :: q) else (mapF t f r).map fun q => p :: q
/-- As the program makes it. -/
def madeL (l : List Pr) (s : Sp) : List Pr × Int :=
  if s.kind = 1 then (if (idxL l s.table s.key).isSome then ([], 161) else (l ++ [⟨s.table, s.key, s.text⟩], 0))
  else if s.kind = 2 then (butL l s.table s.key, 0)
  else if s.kind = 3 ∨ s.kind = 6 then (match idxL l s.table s.key with
    | none => (l, 0)
    | some i => if (idxL l s.table s.to).isSome then ([], 161) else match l[i]? with
      | none => (l, 0)
      | some p => if s.kind = 6 then (l ++ [⟨s.table, s.to, p.value⟩], 0) else (l.set i { p with key := s.to }, 0))
  else if s.kind = 4 then (if l.any (fun p => decide (p.table = s.table)) = true then (if l.any (fun p => decide (p.table = s.to)) = true then ([], 161) else (l.map (tabF s.table s.to), 0)) else (l, 0))
  else match mapF s.table s.text l with
    | none => ([], 162)
    | some q => (q, 0)
/-- A pair, where it belongs. -/
def withL (p : Pr) : List Pr → List Pr
  | [] => [p]
  | x :: r => if ltP x p = true then x :: withL p r else p :: x :: r
def tabW (t u : List UInt8) (rest : List Pr) : List Pr → List Pr
  | [] => rest
  | p :: r => if p.table = t then tabW t u (withL ⟨u, p.key, p.value⟩ rest) r else tabW t u rest r
/-- As the document says it. -/
def doesL (l : List Pr) (s : Sp) : List Pr × Int :=
  if s.kind = 1 then (if (idxL l s.table s.key).isSome then ([], 161) else (withL ⟨s.table, s.key, s.text⟩ l, 0))
  else if s.kind = 2 then (butL l s.table s.key, 0)
  else if s.kind = 4 then (if (butL l s.table []).length = l.length then (l, 0) else if (butL l s.to []).length < l.length then ([], 161) else (tabW s.table s.to (butL l s.table []) l, 0))
  else if s.kind = 5 then (match mapF s.table s.text l with
    | none => ([], 162)
    | some q => (q, 0))
  else (match idxL l s.table s.key with
    | none => (l, 0)
    | some i => if (idxL l s.table s.to).isSome then ([], 161) else match l[i]? with
      | none => (l, 0)
      | some p => (withL ⟨s.table, s.to, p.value⟩ (if s.kind = 3 then butL l s.table s.key else l), 0))
def applyL (l : List Pr) (s : Sp) : List Pr × Int :=
  if mayL l = true then (if rightL s = true then (if (doesL l s).2 = 0 then (if (doesL l s).1.length ≤ 500 then ((doesL l s).1, 0) else ([], 163)) else ([], (doesL l s).2)) else ([], 160)) else ([], 1)

/-! ### The two say the same -/
theorem withL_perm (p : Pr) : ∀ l : List Pr, (withL p l).Perm (p :: l)
  | [] => List.Perm.refl _
  | x :: r => by
    unfold withL
    split
    · exact ((withL_perm p r).cons x).trans (List.Perm.swap p x r)
    · exact List.Perm.refl _
theorem withL_mem {p q : Pr} {l : List Pr} : q ∈ withL p l ↔ q = p ∨ q ∈ l := by rw [(withL_perm p l).mem_iff, List.mem_cons]
theorem withL_asc {p : Pr} : ∀ {l : List Pr}, Asc l → (∀ x ∈ l, ¬ (x.table = p.table ∧ x.key = p.key)) → Asc (withL p l)
  | [], _, _ => List.pairwise_singleton _ _
  | x :: r, ha, hn => by
    unfold withL
    obtain ⟨h1, h2⟩ := List.pairwise_cons.1 ha
    split
    · rename_i hx
      refine List.Pairwise.cons ?_ (withL_asc h2 fun y hy => hn y (by simp [hy]))
      intro y hy
      rcases withL_mem.1 hy with rfl | hy
      · exact hx
      · exact h1 y hy
    · rename_i hx
      have hp : ltP p x = true := ltP_of (by simpa using hx) (hn x (by simp))
      refine List.Pairwise.cons ?_ ha
      intro y hy
      rcases List.mem_cons.1 hy with rfl | hy
      · exact hp
      · exact ltP_trans hp (h1 y hy)
theorem withL_at (p : Pr) : ∀ (l : List Pr) (i : Nat), i ≤ l.length → (∀ (j : Nat) (x : Pr), j < i → l[j]? = some x → ltP x p = true) → (∀ x, l[i]? = some x → ltP x p = false) → withL p l = l.take i ++ p :: l.drop i
  | [], i, _, _, _ => by simp [withL]
  | x :: r, 0, _, _, h => by
    unfold withL
    rw [if_neg (by simp [h x rfl])]
    rfl
  | x :: r, i + 1, hi, h1, h2 => by
    unfold withL
    rw [if_pos (h1 0 x (by omega) rfl), withL_at p r i (by simpa using hi) (fun j y hj hy => h1 (j + 1) y (by omega) (by simpa using hy)) (fun y hy => h2 y (by simpa using hy))]
    rfl
theorem idx_some {l : List Pr} {t k : List UInt8} {i : Nat} (h : idxL l t k = some i) : ∃ p, l[i]? = some p ∧ p.table = t ∧ p.key = k ∧ ∀ (j : Nat) (q : Pr), j < i → l[j]? = some q → ¬ (q.table = t ∧ q.key = k) := by
  unfold idxL at h
  obtain ⟨hi, h1, h2⟩ := List.findIdx?_eq_some_iff_getElem.1 h
  unfold isAt at h1
  simp only [Bool.and_eq_true, decide_eq_true_eq] at h1
  refine ⟨l[i], List.getElem?_eq_getElem hi, h1.1, h1.2, fun j q hj hq => ?_⟩
  have := h2 j hj
  rw [List.getElem?_eq_getElem (by omega)] at hq
  obtain rfl := Option.some.inj hq
  unfold isAt at this
  simpa using this
theorem idx_none {l : List Pr} {t k : List UInt8} (h : idxL l t k = none) : ∀ p ∈ l, ¬ (p.table = t ∧ p.key = k) := by
  unfold idxL at h
  rw [List.findIdx?_eq_none_iff] at h
  intro p hp
  have := h p hp
  unfold isAt at this
  simpa using this
theorem idx_is_some {l : List Pr} {t k : List UInt8} {i : Nat} {p : Pr} (hp : l[i]? = some p) (h1 : p.table = t) (h2 : p.key = k) (h : ∀ (j : Nat) (q : Pr), j < i → l[j]? = some q → ¬ (q.table = t ∧ q.key = k)) : idxL l t k = some i := by
  unfold idxL
  have hi := lt_of_at hp
  rw [List.findIdx?_eq_some_iff_getElem]
  refine ⟨hi, ?_, fun j hj => ?_⟩
  · rw [List.getElem?_eq_getElem hi] at hp
    obtain rfl := Option.some.inj hp
    simp [isAt, h1, h2]
  · have := h j l[j] hj (List.getElem?_eq_getElem _)
    simpa [isAt] using this
theorem idx_is_none {l : List Pr} {t k : List UInt8} (h : ∀ (j : Nat) (q : Pr), l[j]? = some q → ¬ (q.table = t ∧ q.key = k)) : idxL l t k = none := by
  unfold idxL
  rw [List.findIdx?_eq_none_iff]
  intro p hp
  obtain ⟨j, hj⟩ := List.mem_iff_getElem?.1 hp
  have := h j p hj
  simpa [isAt] using this
theorem but_asc {l : List Pr} (h : Asc l) (t k : List UInt8) : Asc (butL l t k) := List.Pairwise.filter _ h
theorem get_split {α : Type} {l : List α} {i : Nat} {p : α} (h : l[i]? = some p) : l = l.take i ++ p :: l.drop (i + 1) := by
  have hi := lt_of_at h
  rw [List.getElem?_eq_getElem hi] at h
  obtain rfl := Option.some.inj h
  rw [← List.drop_eq_getElem_cons hi, List.take_append_drop]
theorem asc_apart {a b : List Pr} {p : Pr} (h : Asc (a ++ p :: b)) : (∀ x ∈ a, ltP x p = true) ∧ ∀ x ∈ b, ltP p x = true := by
  obtain ⟨_, h2, h3⟩ := List.pairwise_append.1 h
  exact ⟨fun x hx => h3 x hx p (by simp), (List.pairwise_cons.1 h2).1⟩
/-- What a key's row is without it. -/
theorem but_at {l : List Pr} {i : Nat} {p : Pr} {t k : List UInt8} (ha : Asc l) (hp : l[i]? = some p) (h1 : p.table = t) (h2 : p.key = k) (hk : k ≠ []) : butL l t k = l.take i ++ l.drop (i + 1) := by
  have e := get_split hp
  have ha' := ha
  rw [e] at ha'
  obtain ⟨hx, hy⟩ := asc_apart ha'
  have hk' : k.isEmpty = false := by cases k; exact absurd rfl hk; rfl
  have hg : goes t k p = true := by unfold goes; simp [h1, h2]
  have keep : ∀ m : List Pr, (∀ x ∈ m, ¬ (x.table = t ∧ x.key = k)) → m.filter (fun p => !goes t k p) = m := by
    intro m hm
    rw [List.filter_eq_self]
    intro x hxm
    have := hm x hxm
    unfold goes
    rw [hk', Bool.false_or]
    by_cases h1 : x.table = t
    · have h2 : ¬ x.key = k := fun e => this ⟨h1, e⟩
      simp [h2]
    · simp [h1]
  unfold butL
  conv => lhs; rw [e]
  rw [List.filter_append, List.filter_cons, if_neg (by simp [hg]), keep _ fun x hx' hc => ltP_ne (hx x hx') ⟨hc.1.trans h1.symm, hc.2.trans h2.symm⟩,
    keep _ fun x hx' hc => ltP_ne (hy x hx') ⟨h1.trans hc.1.symm, h2.trans hc.2.symm⟩]
theorem set_perm {α : Type} {l : List α} {i : Nat} {p q : α} (hp : l[i]? = some p) : (l.set i q).Perm (q :: (l.take i ++ l.drop (i + 1))) := by
  have hi := lt_of_at hp
  rw [List.set_eq_take_append_cons_drop, if_pos hi]
  exact List.perm_middle
theorem tabW_spec (t u : List UInt8) : ∀ (l rest : List Pr), Asc rest → (l.Pairwise fun x y => ¬ (x.table = y.table ∧ x.key = y.key)) → (∀ x ∈ l, x.table = t → ∀ y ∈ rest, ¬ (y.table = u ∧ y.key = x.key)) →
    (tabW t u rest l).Perm (rest ++ (l.filter fun p => decide (p.table = t)).map (tabF t u)) ∧ Asc (tabW t u rest l)
  | [], rest, ha, _, _ => ⟨by simp [tabW], ha⟩
  | p :: r, rest, ha, hd, hn => by
    obtain ⟨hd1, hd2⟩ := List.pairwise_cons.1 hd
    unfold tabW
    split
    · rename_i hp
      obtain ⟨h1, h2⟩ := tabW_spec t u r (withL ⟨u, p.key, p.value⟩ rest) (withL_asc ha fun x hx hc => hn p (by simp) hp x hx hc) hd2 (by
        intro x hx hxt y hy hc
        rcases withL_mem.1 hy with rfl | hy
        · exact hd1 x hx ⟨hp.trans hxt.symm, hc.2⟩
        · exact hn x (by simp [hx]) hxt y hy hc)
      refine ⟨h1.trans ?_, h2⟩
      rw [List.filter_cons, if_pos (by simp [hp]), List.map_cons, show tabF t u p = ⟨u, p.key, p.value⟩ by unfold tabF; rw [if_pos hp]]
      exact ((withL_perm _ rest).append_right _).trans List.perm_middle.symm
    · rename_i hp
      rw [List.filter_cons, if_neg (by simp [hp])]
      exact tabW_spec t u r rest ha hd2 fun x hx => hn x (by simp [hx])
theorem but_len {l : List Pr} {t : List UInt8} : ((butL l t []).length = l.length ↔ l.any (fun p => decide (p.table = t)) = false) ∧ ((butL l t []).length < l.length ↔ l.any (fun p => decide (p.table = t)) = true) := by
  have hle : (butL l t []).length ≤ l.length := List.length_filter_le _ _
  have h1 : (butL l t []).length = l.length ↔ l.any (fun p => decide (p.table = t)) = false := by
    unfold butL
    rw [List.length_filter_eq_length_iff, List.any_eq_false]
    simp [goes]
  refine ⟨h1, ?_⟩
  cases h : l.any (fun p => decide (p.table = t)) with
  | false => rw [h1.2 h]; simp
  | true =>
    have : (butL l t []).length ≠ l.length := fun e => by rw [h1.1 e] at h; cases h
    simp only [iff_true]
    omega
theorem mapF_keys (t f : List UInt8) : ∀ (l q : List Pr), mapF t f l = some q → q.map (fun p => (p.table, p.key)) = l.map fun p => (p.table, p.key)
  | [], q, h => by simp [mapF] at h; subst h; rfl
  | p :: r, q, h => by
    unfold mapF at h
    split at h
    · split at h
      · cases h
      · cases hr : mapF t f r with
        | none => rw [hr] at h; cases h
        | some q' =>
          rw [hr] at h
          simp at h
          subst h
          simp [mapF_keys t f r q' hr]
    · cases hr : mapF t f r with
      | none => rw [hr] at h; cases h
      | some q' =>
        rw [hr] at h
        simp at h
        subst h
        simp [mapF_keys t f r q' hr]
theorem asc_keys {a b : List Pr} (h : a.map (fun p => (p.table, p.key)) = b.map fun p => (p.table, p.key)) (hb : Asc b) : Asc a := by
  have e : ∀ l : List Pr, Asc l ↔ (l.map fun p => (p.table, p.key)).Pairwise fun x y => (ltL x.1 y.1 || (decide (x.1 = y.1) && ltL x.2 y.2)) = true := fun l => by rw [List.pairwise_map]; rfl
  rw [e, h, ← e]
  exact hb
theorem made_does {l : List Pr} {s : Sp} (ha : Asc l) (hr : rightL s = true) : (madeL l s).2 = (doesL l s).2 ∧ ((doesL l s).2 = 0 → (madeL l s).1.Perm (doesL l s).1 ∧ Asc (doesL l s).1) ∧ ((doesL l s).2 ≠ 0 → (madeL l s).1 = []) := by
  unfold rightL at hr
  simp only [Bool.and_eq_true] at hr
  obtain ⟨_, hr⟩ := hr
  by_cases k1 : s.kind = 1
  · simp only [madeL, doesL, k1, if_true]
    cases h : idxL l s.table s.key with
    | some i => simp
    | none =>
      simp only [Option.isSome_none, Bool.false_eq_true, if_false]
      refine ⟨trivial, fun _ => ⟨?_, withL_asc ha fun x hx => idx_none h x hx⟩, fun h => absurd rfl h⟩
      exact (List.perm_append_comm).trans (withL_perm _ l).symm
  · by_cases k2 : s.kind = 2
    · simp only [madeL, doesL, k2, if_true]
      simp only [show ¬ ((2 : Int) = 1) by decide, if_false]
      exact ⟨trivial, fun _ => ⟨List.Perm.refl _, but_asc ha _ _⟩, fun h => absurd rfl h⟩
    · by_cases k4 : s.kind = 4
      · simp only [madeL, doesL, k4, show ¬ ((4 : Int) = 1) by decide, show ¬ ((4 : Int) = 2) by decide, show ¬ ((4 : Int) = 3 ∨ (4 : Int) = 6) by decide, if_false, if_true]
        cases h : l.any (fun p => decide (p.table = s.table)) with
        | false =>
          rw [if_pos (but_len.1.2 h)]
          simp only [Bool.false_eq_true, if_false]
          exact ⟨trivial, fun _ => ⟨List.Perm.refl _, ha⟩, fun h => absurd rfl h⟩
        | true =>
          have n1 : ¬ ((butL l s.table []).length = l.length) := fun e => by rw [but_len.1.1 e] at h; cases h
          simp only [n1, if_true, if_false]
          cases h2 : l.any (fun p => decide (p.table = s.to)) with
          | true =>
            have n2 : (butL l s.to []).length < l.length := but_len.2.2 h2
            simp [n2]
          | false =>
            have n2 : ¬ ((butL l s.to []).length < l.length) := fun e => by rw [but_len.2.1 e] at h2; cases h2
            simp only [n2, Bool.false_eq_true, if_false]
            have hto : ∀ x ∈ l, x.table ≠ s.to := by
              rw [List.any_eq_false] at h2
              intro x hx
              have := h2 x hx
              simpa using this
            obtain ⟨p1, p2⟩ := tabW_spec s.table s.to l (butL l s.table []) (but_asc ha _ _) (asc_distinct ha (List.Perm.refl _)) (fun x _ _ y hy hc => hto y (List.mem_filter.1 hy).1 hc.1)
            refine ⟨trivial, fun _ => ⟨?_, p2⟩, fun h => absurd rfl h⟩
            refine List.Perm.trans ?_ p1.symm
            have e1 : butL l s.table [] = (l.filter fun p => !decide (p.table = s.table)).map (tabF s.table s.to) := by
              have : ∀ m : List Pr, (∀ x ∈ m, x.table ≠ s.table) → m.map (tabF s.table s.to) = m := by
                intro m hm
                conv => rhs; rw [← List.map_id m]
                refine List.map_congr_left fun x hx => ?_
                unfold tabF
                rw [if_neg (hm x hx)]
                rfl
              rw [this _ (fun x hx => by simpa using (List.mem_filter.1 hx).2)]
              unfold butL goes
              simp
            rw [e1, ← List.map_append]
            refine List.Perm.map _ ?_
            exact (List.perm_append_comm.trans (List.filter_append_perm (fun p : Pr => decide (p.table = s.table)) l)).symm
      · by_cases k5 : s.kind = 5
        · simp only [madeL, doesL, k5, show ¬ ((5 : Int) = 1) by decide, show ¬ ((5 : Int) = 2) by decide, show ¬ ((5 : Int) = 4) by decide, show ¬ ((5 : Int) = 3 ∨ (5 : Int) = 6) by decide, if_false, if_true]
          cases h : mapF s.table s.text l with
          | none => simp
          | some q => exact ⟨trivial, fun _ => ⟨List.Perm.refl _, asc_keys (mapF_keys _ _ _ _ h) ha⟩, fun h => absurd rfl h⟩
        · have k36 : s.kind = 3 ∨ s.kind = 6 := by
            simp only [k1, k2, k4, k5, if_false] at hr
            by_cases h : s.kind = 3 ∨ s.kind = 6
            · exact h
            · rw [if_neg h] at hr; cases hr
          have hkey : s.key ≠ [] := by
            simp only [k1, k2, k36, if_true, if_false, Bool.and_eq_true] at hr
            intro e
            rw [e] at hr
            exact absurd hr.1.1 (by decide)
          unfold madeL doesL
          rw [if_neg k1, if_neg k2, if_pos k36, if_neg k1, if_neg k2, if_neg k4, if_neg k5]
          cases h : idxL l s.table s.key with
          | none => exact ⟨rfl, fun _ => ⟨List.Perm.refl _, ha⟩, fun h => absurd rfl h⟩
          | some i =>
            obtain ⟨p, hp, h1, h2, _⟩ := idx_some h
            simp only [hp]
            cases h3 : idxL l s.table s.to with
            | some j => simp
            | none =>
              simp only [Option.isSome_none, Bool.false_eq_true, if_false]
              have hn := idx_none h3
              rcases k36 with k3 | k6
              · rw [if_neg (by rw [k3]; decide), if_pos k3]
                refine ⟨rfl, fun _ => ⟨?_, withL_asc (but_asc ha _ _) fun x hx => hn x (List.mem_filter.1 hx).1⟩, fun h => absurd rfl h⟩
                refine List.Perm.trans ?_ (withL_perm _ _).symm
                rw [but_at ha hp h1 h2 hkey, show ({ p with key := s.to } : Pr) = ⟨s.table, s.to, p.value⟩ by rw [← h1]]
                exact set_perm hp
              · rw [if_pos k6, if_neg (by rw [k6]; decide)]
                refine ⟨rfl, fun _ => ⟨?_, withL_asc ha fun x hx => hn x hx⟩, fun h => absurd rfl h⟩
                exact (List.perm_append_comm).trans (withL_perm _ l).symm
/-- What the program makes is what the document says. -/
theorem apply_made {l : List Pr} {s : Sp} (hm : mayL l = true) (hr : rightL s = true) : ((madeL l s).2 ≠ 0 ∧ applyL l s = ([], (madeL l s).2)) ∨ ((madeL l s).2 = 0 ∧ 500 < (madeL l s).1.length ∧ applyL l s = ([], 163)) ∨
    ((madeL l s).2 = 0 ∧ (madeL l s).1.length ≤ 500 ∧ (applyL l s).2 = 0 ∧ (madeL l s).1.Perm (applyL l s).1 ∧ Asc (applyL l s).1) := by
  obtain ⟨h1, h2, h3⟩ := made_does (may_parts hm).2.2 hr
  by_cases he : (doesL l s).2 = 0
  · obtain ⟨hp, ha⟩ := h2 he
    have hl := hp.length_eq
    by_cases h5 : (doesL l s).1.length ≤ 500
    · refine .inr (.inr ⟨by rw [h1]; exact he, by omega, ?_⟩)
      have e : applyL l s = ((doesL l s).1, 0) := by unfold applyL; rw [if_pos hm, if_pos hr, if_pos he, if_pos h5]
      rw [e]
      exact ⟨rfl, hp, ha⟩
    · refine .inr (.inl ⟨by rw [h1]; exact he, by omega, ?_⟩)
      unfold applyL
      rw [if_pos hm, if_pos hr, if_pos he, if_neg h5]
  · refine .inl ⟨by rw [h1]; exact he, ?_⟩
    unfold applyL
    rw [if_pos hm, if_pos hr, if_neg he, h1]
end Go.Proofs.Ythjcifokmcbaoaa.st
/- Lists of pairs and of steps in memory. No conditions. -/
namespace Go.Proofs.Ythjcifokmcbaoaa.st
open Go.RowKit gl

abbrev B (l : List UInt8) : ByteArray := ⟨l.toArray⟩
theorem B_list (l : List UInt8) : (B l).data.toList = l := by simp
theorem B_size (l : List UInt8) : (B l).size = l.length := by simp [ByteArray.size]
theorem B_of (s : ByteArray) : B s.data.toList = s := by apply ByteArray.ext; simp
theorem B_inj {a b : List UInt8} (h : B a = B b) : a = b := by have := congrArg (fun x : ByteArray => x.data.toList) h; simpa using this
theorem ba_inj {a b : ByteArray} (h : a.data.toList = b.data.toList) : a = b := by rw [← B_of a, ← B_of b, h]
theorem toList_len (s : ByteArray) : s.data.toList.length = s.size := by simp
theorem seq_true {a b : ByteArray} (h : a = b) : (a.toList == b.toList) = true := by rw [h]; simp
theorem seq_false {a b : ByteArray} (h : a ≠ b) : (a.toList == b.toList) = false := by
  rw [beq_eq_false_iff_ne, ByteArray.toList_eq, ByteArray.toList_eq]
  exact fun e => h (ba_inj e)
theorem then_bel {w w' w'' : World} (h : Below w.heap.size w w') (h2 : Below w'.heap.size w' w'') : Below w.heap.size w w'' := h.trans (h2.mono h.size)
theorem drewN_bel (w : World) (n : Nat) : Below w.heap.size w (w.drewN n) := ⟨rfl, rfl, rfl, Nat.le_refl _, fun _ _ => rfl⟩
def prC (x : Pr) : List Value := [.string (B x.table), .string (B x.key), .string (B x.value)]
def spC (x : Sp) : List Value := [.int .i64 x.kind, .string (B x.table), .string (B x.key), .string (B x.to), .string (B x.text)]
theorem prC_len (x : Pr) : (prC x).length = 3 := rfl
theorem spC_len (x : Sp) : (spC x).length = 5 := rfl
theorem prC_one : ∀ (x : Pr), ∀ v ∈ prC x, v.oneCell' = true := by
  intro x v hv
  simp only [prC, List.mem_cons, List.not_mem_nil, or_false] at hv
  rcases hv with rfl | rfl | rfl <;> rfl
abbrev Prs (w : World) (v : Value) (l : List Pr) : Prop := rw.Rw prC 3 w v l
abbrev Sps (w : World) (v : Value) (l : List Sp) : Prop := rw.Rw spC 5 w v l
abbrev prsC (l : List Pr) : List Value := rw.flat prC l
theorem prs_cells {w : World} {b o n c : Nat} {l : List Pr} (h : Prs w (.slice (some ⟨b, o, none⟩) n c) l) {j : Nat} {x : Pr} (hx : l[j]? = some x) :
    w.cell? ⟨b, o + j * 3, none⟩ = some (.string (B x.table)) ∧ w.cell? ⟨b, o + j * 3 + 1, none⟩ = some (.string (B x.key)) ∧ w.cell? ⟨b, o + j * 3 + 2, none⟩ = some (.string (B x.value)) :=
  ⟨rw.Rw.cell h hx (i := 0) rfl, rw.Rw.cell h hx (i := 1) rfl, rw.Rw.cell h hx (i := 2) rfl⟩
theorem sps_cells {w : World} {b o n c : Nat} {l : List Sp} (h : Sps w (.slice (some ⟨b, o, none⟩) n c) l) {j : Nat} {x : Sp} (hx : l[j]? = some x) :
    w.cell? ⟨b, o + j * 5, none⟩ = some (.int .i64 x.kind) ∧ w.cell? ⟨b, o + j * 5 + 1, none⟩ = some (.string (B x.table)) ∧ w.cell? ⟨b, o + j * 5 + 2, none⟩ = some (.string (B x.key)) ∧ w.cell? ⟨b, o + j * 5 + 3, none⟩ = some (.string (B x.to)) ∧ w.cell? ⟨b, o + j * 5 + 4, none⟩ = some (.string (B x.text)) :=
  ⟨rw.Rw.cell h hx (i := 0) rfl, rw.Rw.cell h hx (i := 1) rfl, rw.Rw.cell h hx (i := 2) rfl, rw.Rw.cell h hx (i := 3) rfl, rw.Rw.cell h hx (i := 4) rfl⟩
end Go.Proofs.Ythjcifokmcbaoaa.st
/- cmp.Compare, cmp.Or and package step's compare return plain functions. No conditions. -/
namespace Go.Proofs.Ythjcifokmcbaoaa.st
open Go.ChangeShapes Go.WideShapes Go.ChangeAt Go.RowKit gl Go.Sort

def cmpL (a b : List UInt8) : Int := if ltL a b = true then -1 else if a = b then 0 else 1
theorem isNaN_any (s : ByteArray) (w : World) : Calls Try.prog 51 #[.string s] w fun e w' => e = .returned (.bool false) ∧ w = w' := by
  go_enter Try.func51, Try.ntmps51
  go_wp2_with fail
  go_ret
  exact ⟨by simp, rfl⟩
theorem lt_bool (x y : ByteArray) : Op.bytesLess x.toList y.toList = ltL x.data.toList y.data.toList := by rw [ByteArray.toList_eq, ByteArray.toList_eq]
def orI (a b : Int) : Int := if a = 0 then b else a
def cfP (x y : Pr) : Int := orI (cmpL x.table y.table) (cmpL x.key y.key)
theorem cmp_neg (a b : List UInt8) : decide (cmpL a b < 0) = ltL a b := by
  unfold cmpL
  cases h : ltL a b with
  | true => simp
  | false =>
    by_cases h2 : a = b <;> simp [h2]
theorem cmp_zero (a b : List UInt8) : cmpL a b = 0 ↔ a = b := by
  unfold cmpL
  cases h : ltL a b with
  | true =>
    simp
    rintro rfl
    rw [ltL_irrefl] at h
    cases h
  | false =>
    by_cases h2 : a = b <;> simp [h2]
end Go.Proofs.Ythjcifokmcbaoaa.st
/- What a sort of structs leaves in memory: laws on memory for any program. No conditions beside those stated. -/
namespace Go.Proofs.Ythjcifokmcbaoaa
open Go.RowKit Go.Sort Go.Lib
variable {α : Type} [Inhabited α]

theorem sorted_block {enc : α → List Value} {k : Nat} {w : World} {blk off n : Nat} {d : Array α} {os : Array Obj} {c : Array Value} {e : TypeId} {fr : Nat × Nat} (h : w.heap[blk]? = some (.cells c e fr)) :
    (sortWorldK enc k w blk off n d os).heap[blk]? = some (.cells (putCells id off (flatK enc k d) c) e fr) := by
  have hlt := lt_of_block h
  have h' : w.heap[blk] = .cells c e fr := by simpa [Array.getElem?_eq_getElem hlt] using h
  show (w.heap.modify blk _ ++ os)[blk]? = _
  rw [Array.getElem?_append_left (by simpa using hlt), Array.getElem?_eq_getElem (by simpa using hlt), Array.getElem_modify_self, h']
  rfl
theorem sorted_below {enc : α → List Value} {k : Nat} {w : World} {blk off n : Nat} {d : Array α} {os : Array Obj} {B : Nat} (hb : B ≤ blk) (hB : B ≤ w.heap.size) : Below B w (sortWorldK enc k w blk off n d os) := by
  refine ⟨rfl, rfl, rfl, ?_, fun i hi => ?_⟩
  · show w.heap.size ≤ (w.heap.modify blk _ ++ os).size
    simp
  · show (w.heap.modify blk _ ++ os)[i]? = _
    rw [Array.getElem?_append_left (by simp; omega), Array.getElem?_modify, if_neg (by omega)]
theorem putCells_size {β : Type} [Inhabited β] (enc : β → Value) (off : Nat) (d : Array β) (c : Array Value) : (putCells enc off d c).size = c.size := by simp [putCells]
theorem putCells_at (F c : Array Value) (j : Nat) (hj : j < F.size) (hc : j < c.size) : (putCells id 0 F c)[j]? = some F[j] := by
  unfold putCells
  rw [Array.getElem?_mapIdx, Array.getElem?_eq_getElem hc]
  simp [hj]
theorem holds_of_block {w : World} {blk : Nat} {F c : Array Value} {e : TypeId} (h : w.heap[blk]? = some (.cells c e (0, 0))) (hF : ∀ j, j < F.size → c[j]? = some F[j]!) : Holds id w blk 0 F := by
  intro j hj
  rw [Nat.zero_add]
  exact ⟨(cell_in h).trans (hF j hj), free_in h⟩
end Go.Proofs.Ythjcifokmcbaoaa
/- slices.SortFunc, slices.Clone, slices.Clip of pairs, and the searches for pairs. Conditions beside each. -/
namespace Go.Proofs.Ythjcifokmcbaoaa.st
open Go.ChangeShapes Go.WideShapes Go.ChangeAt Go.RowKit gl Go.Lib
open Go.Sort (SWO PermIn SortedIn HoldsK)

theorem cf_lt (x y : Pr) : ltOf cfP x y = ltP x y := by
  unfold ltOf cfP orI ltP
  by_cases h : x.table = y.table
  · rw [if_pos ((cmp_zero _ _).2 h), cmp_neg, h, ltL_irrefl]
    simp
  · rw [if_neg (fun e => h ((cmp_zero _ _).1 e)), cmp_neg]
    simp [h]
theorem swoP : SWO (ltOf cfP) where
  irrefl x := by rw [cf_lt]; exact ltP_irrefl x
  trans x y z h1 h2 := by rw [cf_lt] at *; exact ltP_trans h1 h2
  ntrans x y z h1 h2 := by
    rw [cf_lt] at *
    cases h : ltP x z with
    | false => rfl
    | true =>
      exfalso
      cases h3 : ltP z y with
      | true =>
        rw [ltP_trans h h3] at h1; cases h1
      | false =>
        obtain ⟨e1, e2⟩ := ltP_total h3 h2
        rw [ltP_keys (a := x) (a' := x) (b' := y) rfl rfl e1 e2] at h
        rw [h] at h1; cases h1
instance : Inhabited Pr := ⟨⟨[], [], []⟩⟩
/-- What the sort leaves is the one list that ascends. -/
theorem sorted_is {d d' : Array Pr} {T : List Pr} (hp : PermIn 0 d.size d d') (hs : SortedIn (ltOf cfP) 0 d.size d') (hT : d.toList.Perm T) (ha : Asc T) : d'.toList = T := by
  obtain ⟨hz, _, h3⟩ := hp
  have e1 : d'.extract 0 d.size = d' := by rw [← hz]; simp
  have e2 : d.extract 0 d.size = d := by simp
  rw [e1, e2] at h3
  have hdis := asc_distinct ha (h3.trans hT).symm
  refine asc_unique ?_ ha (h3.trans hT)
  unfold Asc
  rw [List.pairwise_iff_getElem] at hdis ⊢
  intro i j hi hj hij
  have hi' : i < d'.size := by simpa using hi
  have hj' : j < d'.size := by simpa using hj
  have h := hs i j (Nat.zero_le _) hij (by omega)
  rw [cf_lt] at h
  rw [getElem!_pos d' i hi', getElem!_pos d' j hj'] at h
  have h2 := hdis i j hi hj hij
  simp only [Array.getElem_toList] at h2 ⊢
  exact ltP_of h (fun e => h2 ⟨e.1.symm, e.2.symm⟩)
end Go.Proofs.Ythjcifokmcbaoaa.st
/- Package step: the names that stand are searched. Condition: the names lie as the text lays them. -/
namespace Go.Proofs.Ythjcifokmcbaoaa.st
open Go.ChangeShapes Go.WideShapes Go.ChangeAt Go.RowKit gl

def nameAt : Nat → List UInt8
  | 0 => nDouble | 1 => nLower | 2 => nReverse | 3 => nTrim | _ => nUpper
def namesL : List Value := [.string ⟨#[100, 111, 117, 98, 108, 101]⟩, .string ⟨#[108, 111, 119, 101, 114]⟩, .string ⟨#[114, 101, 118, 101, 114, 115, 101]⟩, .string ⟨#[116, 114, 105, 109]⟩, .string ⟨#[117, 112, 112, 101, 114]⟩]
theorem namesL_at (k : Nat) (hk : k < 5) : namesL[k]? = some (.string (B (nameAt k))) := by
  match k, hk with
  | 0, _ => rfl
  | 1, _ => rfl
  | 2, _ => rfl
  | 3, _ => rfl
  | 4, _ => rfl
theorem names_lt : ∀ h k : Fin 5, ltL (nameAt h) (nameAt k) = decide (h < k) := by decide +kernel
theorem fn_at (k : Nat) (hk : k < 5) : fnL (nameAt k) = true := by
  match k, hk with
  | 0, _ => decide
  | 1, _ => decide
  | 2, _ => decide
  | 3, _ => decide
  | 4, _ => decide
theorem fn_is {t : List UInt8} (h : fnL t = true) : ∃ k, k < 5 ∧ nameAt k = t := by
  unfold fnL at h
  rw [decide_eq_true_eq] at h
  rcases h with rfl | rfl | rfl | rfl | rfl
  · exact ⟨0, by omega, rfl⟩
  · exact ⟨1, by omega, rfl⟩
  · exact ⟨2, by omega, rfl⟩
  · exact ⟨3, by omega, rfl⟩
  · exact ⟨4, by omega, rfl⟩
theorem var_lt {w : World} {n : String} {g : Nat} {cs : Array Value} (hg : Try.prog.globalNamed n = some g) (h : w.var? Try.prog n = some cs) : g < w.heap.size := by
  unfold World.var? at h
  simp only [hg, Option.bind_some] at h
  rcases Nat.lt_or_ge g w.heap.size with h1 | h1
  · exact h1
  · rw [Array.getElem?_eq_none h1] at h
    simp at h
theorem Less_any (x y : ByteArray) (w : World) : Calls Try.prog 41 #[.string x, .string y] w fun e w' => e = .returned (.bool (ltL x.data.toList y.data.toList)) ∧ w = w' := by
  have HN := Lib.hid isNaN_any
  have hl := lt_bool x y
  generalize ltL x.data.toList y.data.toList = r at *
  go_enter Try.func41, Try.ntmps41
  go_wp2_with fail
  refine (HN.out x _).mono ?_
  rintro e w1 ⟨rfl, rfl⟩
  go_wp2_with fail
  go_ret
  exact ⟨by first | rfl | rw [hl], rfl⟩
def Between (t : List UInt8) (i j : Nat) : Prop := ∀ k, k < 5 → nameAt k = t → i ≤ k ∧ k ≤ j
theorem between_up {t : List UInt8} {i j h : Nat} (hb : Between t i j) (hh : h < 5) (hl : ltL (nameAt h) t = true) : Between t (h + 1) j := fun k hk e => by
  have := names_lt ⟨h, hh⟩ ⟨k, hk⟩
  simp only [e] at this
  rw [hl] at this
  have h2 : h < k := by simpa using this.symm
  exact ⟨h2, (hb k hk e).2⟩
theorem between_dn {t : List UInt8} {i j h : Nat} (hb : Between t i j) (hh : h < 5) (hl : ltL (nameAt h) t = false) : Between t i h := fun k hk e => by
  have := names_lt ⟨h, hh⟩ ⟨k, hk⟩
  simp only [e] at this
  rw [hl] at this
  have h2 : ¬ h < k := by simpa using this.symm
  exact ⟨(hb k hk e).1, by omega⟩
def BsOut (t : List UInt8) (e : Ending) : Prop := ∃ i : Int, e = .returned (.tuple #[.int .i64 i, .bool (fnL t)])
end Go.Proofs.Ythjcifokmcbaoaa.st
/- Chapter 16 in plain words: what leads back leads back; other tables stay as they are, and do not matter. No program in sight; no conditions beside those stated. -/
namespace Go.Proofs.Ythjcifokmcbaoaa.st
open gl

theorem apply_err {l : List Pr} {s : Sp} (h : (applyL l s).2 ≠ 0) : (applyL l s).1 = [] := by
  unfold applyL at h ⊢
  split
  · rename_i h1
    rw [if_pos h1] at h
    split
    · rename_i h2
      rw [if_pos h2] at h
      split
      · rename_i h3
        rw [if_pos h3] at h
        split
        · rename_i h4
          rw [if_pos h4] at h
          exact absurd rfl h
        · rfl
      · rfl
    · rfl
  · rfl
theorem apply_ok {l : List Pr} {s : Sp} (h : (applyL l s).2 = 0) : mayL l = true ∧ rightL s = true ∧ (madeL l s).2 = 0 ∧ (madeL l s).1.Perm (applyL l s).1 ∧ Asc (applyL l s).1 ∧ (applyL l s).1.length ≤ 500 ∧ (applyL l s).1 = (doesL l s).1 ∧ (doesL l s).2 = 0 := by
  by_cases hm : mayL l = true
  · by_cases hr : rightL s = true
    · have hd : (doesL l s).2 = 0 ∧ (doesL l s).1.length ≤ 500 := by
        unfold applyL at h
        rw [if_pos hm, if_pos hr] at h
        by_cases h3 : (doesL l s).2 = 0
        · rw [if_pos h3] at h
          by_cases h4 : (doesL l s).1.length ≤ 500
          · exact ⟨h3, h4⟩
          · rw [if_neg h4] at h; exact absurd h (by decide)
        · rw [if_neg h3] at h; exact absurd h h3
      have e : applyL l s = ((doesL l s).1, 0) := by unfold applyL; rw [if_pos hm, if_pos hr, if_pos hd.1, if_pos hd.2]
      obtain ⟨h1, h2, _⟩ := made_does (may_parts hm).2.2 hr
      obtain ⟨h3, h4⟩ := h2 hd.1
      rw [e]
      exact ⟨hm, hr, by rw [h1]; exact hd.1, h3, h4, hd.2, rfl, hd.1⟩
    · unfold applyL at h; rw [if_pos hm, if_neg hr] at h; exact absurd h (by decide)
  · unfold applyL at h; rw [if_neg hm] at h; exact absurd h (by decide)
theorem apply_of {l a : List Pr} {s : Sp} (hm : mayL l = true) (hr : rightL s = true) (h0 : (madeL l s).2 = 0) (hp : (madeL l s).1.Perm a) (ha : Asc a) (hl : a.length ≤ 500) : applyL l s = (a, 0) := by
  obtain ⟨h1, h2, _⟩ := made_does (may_parts hm).2.2 hr
  have hd : (doesL l s).2 = 0 := by rw [← h1]; exact h0
  obtain ⟨h3, h4⟩ := h2 hd
  have e : (doesL l s).1 = a := asc_unique h4 ha (h3.symm.trans hp)
  unfold applyL
  rw [if_pos hm, if_pos hr, if_pos hd, e, if_pos hl]
/-- A word holds something. -/
theorem word_ne {l : List UInt8} (h : wordL l = true) : l ≠ [] := by rintro rfl; exact absurd h (by decide)
/-- What the parts of a step must be. -/
structure RightS (s : Sp) : Prop where
  table : wordL s.table = true
  put : s.kind = 1 → wordL s.key = true ∧ s.to = [] ∧ s.text.length ≤ 200
  drop : s.kind = 2 → (wordL s.key = true ∨ s.key = []) ∧ s.to = [] ∧ s.text = []
  name : s.kind = 3 ∨ s.kind = 6 → wordL s.key = true ∧ wordL s.to = true ∧ s.text = []
  tab : s.kind = 4 → s.key = [] ∧ wordL s.to = true ∧ s.text = []
  fn : s.kind = 5 → s.key = [] ∧ s.to = [] ∧ fnL s.text = true
  kinds : s.kind = 1 ∨ s.kind = 2 ∨ s.kind = 3 ∨ s.kind = 4 ∨ s.kind = 5 ∨ s.kind = 6
theorem isEmpty_eq {l : List UInt8} : l.isEmpty = true ↔ l = [] := by cases l <;> simp
theorem right_parts {s : Sp} (h : rightL s = true) : RightS s := by
  unfold rightL at h
  simp only [Bool.and_eq_true] at h
  obtain ⟨ht, h⟩ := h
  refine ⟨ht, fun k => ?_, fun k => ?_, fun k => ?_, fun k => ?_, fun k => ?_, ?_⟩
  · rw [if_pos k] at h
    simpa [Bool.and_eq_true, and_assoc, isEmpty_eq] using h
  · rw [if_neg (by omega), if_pos k] at h
    simpa [Bool.and_eq_true, and_assoc, isEmpty_eq] using h
  · rw [if_neg (by omega), if_neg (by omega), if_pos k] at h
    simpa [Bool.and_eq_true, and_assoc, isEmpty_eq] using h
  · rw [if_neg (by omega), if_neg (by omega), if_neg (by omega), if_pos k] at h
    simpa [Bool.and_eq_true, and_assoc, isEmpty_eq] using h
  · rw [if_neg (by omega), if_neg (by omega), if_neg (by omega), if_neg (by omega), if_pos k] at h
    simpa [Bool.and_eq_true, and_assoc, isEmpty_eq] using h
  · by_cases k1 : s.kind = 1
    · exact .inl k1
    · rw [if_neg k1] at h
      by_cases k2 : s.kind = 2
      · exact .inr (.inl k2)
      · rw [if_neg k2] at h
        by_cases k3 : s.kind = 3 ∨ s.kind = 6
        · rcases k3 with k3 | k3 <;> simp [k3]
        · rw [if_neg k3] at h
          by_cases k4 : s.kind = 4
          · simp [k4]
          · rw [if_neg k4] at h
            by_cases k5 : s.kind = 5
            · simp [k5]
            · rw [if_neg k5] at h; cases h
theorem right_of {s : Sp} (ht : wordL s.table = true) (h : (s.kind = 1 ∧ wordL s.key = true ∧ s.to = [] ∧ s.text.length ≤ 200) ∨ (s.kind = 2 ∧ (wordL s.key = true ∨ s.key = []) ∧ s.to = [] ∧ s.text = []) ∨ ((s.kind = 3 ∨ s.kind = 6) ∧ wordL s.key = true ∧ wordL s.to = true ∧ s.text = []) ∨
    (s.kind = 4 ∧ s.key = [] ∧ wordL s.to = true ∧ s.text = []) ∨ (s.kind = 5 ∧ s.key = [] ∧ s.to = [] ∧ fnL s.text = true)) : rightL s = true := by
  unfold rightL
  rw [ht, Bool.true_and]
  rcases h with ⟨k, a, b, c⟩ | ⟨k, a, b, c⟩ | ⟨k, a, b, c⟩ | ⟨k, a, b, c⟩ | ⟨k, a, b, c⟩
  · rw [if_pos k, a, b, decide_eq_true c]; rfl
  · rw [if_neg (by omega), if_pos k, b, c]
    rcases a with a | a
    · rw [a]; rfl
    · rw [a]; simp
  · rw [if_neg (by omega), if_neg (by omega), if_pos k, a, b, c]; rfl
  · rw [if_neg (by omega), if_neg (by omega), if_neg (by omega), if_pos k, a, b, c]; rfl
  · rw [if_neg (by omega), if_neg (by omega), if_neg (by omega), if_neg (by omega), if_pos k, a, b, c]; rfl
theorem wordP_of {p : Pr} (h1 : wordL p.table = true) (h2 : wordL p.key = true) (h3 : p.value.length ≤ 200) : wordP p = true := by unfold wordP; rw [h1, h2, decide_eq_true h3]; rfl
theorem wordP_parts {p : Pr} (h : wordP p = true) : wordL p.table = true ∧ wordL p.key = true ∧ p.value.length ≤ 200 := by
  unfold wordP at h
  simp only [Bool.and_eq_true, decide_eq_true_eq] at h
  exact ⟨h.1.1, h.1.2, h.2⟩
theorem may_words {l : List Pr} (h : mayL l = true) : ∀ p ∈ l, wordP p = true := fun p hp => by
  obtain ⟨a, b, c⟩ := (may_parts h).2.1 p hp
  exact wordP_of a b c
theorem decDigits_len : ∀ (k n : Nat), n < 10 ^ (k + 1) → (Lib.decDigits n).length ≤ k + 1
  | 0, n, h => by rw [va.decDigits_lt (by omega)]; simp
  | k + 1, n, h => by
    by_cases hn : n < 10
    · rw [va.decDigits_lt hn]; simp
    · rw [va.decDigits_ge hn, List.length_append]
      have := decDigits_len k (n / 10) (by
        rw [Nat.pow_succ] at h
        omega)
      simp
      omega
theorem dbl_len {v u : List UInt8} (h : dblL v = some u) : u.length ≤ 200 := by
  unfold dblL at h
  split at h
  · cases h
  · split at h
    · obtain rfl := Option.some.inj h
      have := decDigits_len 9 (2 * ‹Nat›) (by omega)
      omega
    · cases h
theorem fun_len {f v u : List UInt8} (hv : v.length ≤ 200) (h : funL f v = some u) : u.length ≤ 200 := by
  unfold funL at h
  split at h
  · exact dbl_len h
  · split at h
    · obtain rfl := Option.some.inj h; rw [foldL_length]; exact hv
    · split at h
      · obtain rfl := Option.some.inj h; simpa using hv
      · split at h
        · obtain rfl := Option.some.inj h; exact Nat.le_trans (ini.tri_len v) hv
        · obtain rfl := Option.some.inj h; simpa [upL] using hv
theorem mapF_mem {t f : List UInt8} : ∀ {l q : List Pr}, mapF t f l = some q → ∀ y ∈ q, ∃ x ∈ l, y.table = x.table ∧ y.key = x.key ∧ ((x.table ≠ t ∧ y = x) ∨ (x.table = t ∧ funL f x.value = some y.value))
  | [], q, h, y, hy => by simp [mapF] at h; subst h; cases hy
  | p :: r, q, h, y, hy => by
    unfold mapF at h
    split at h
    · rename_i ht
      split at h
      · cases h
      · rename_i v hv
        cases hr : mapF t f r with
        | none => rw [hr] at h; cases h
        | some q' =>
          rw [hr] at h
          simp at h
          subst h
          rcases List.mem_cons.1 hy with rfl | hy
          · exact ⟨p, by simp, rfl, rfl, .inr ⟨ht, hv⟩⟩
          · obtain ⟨x, hx, h2⟩ := mapF_mem hr y hy
            exact ⟨x, by simp [hx], h2⟩
    · rename_i ht
      cases hr : mapF t f r with
      | none => rw [hr] at h; cases h
      | some q' =>
        rw [hr] at h
        simp at h
        subst h
        rcases List.mem_cons.1 hy with rfl | hy
        · exact ⟨y, by simp, rfl, rfl, .inl ⟨ht, rfl⟩⟩
        · obtain ⟨x, hx, h2⟩ := mapF_mem hr y hy
          exact ⟨x, by simp [hx], h2⟩
theorem mapF_len {t f : List UInt8} : ∀ {l q : List Pr}, mapF t f l = some q → q.length = l.length := fun {l q} h => by
  have := congrArg List.length (mapF_keys t f l q h)
  simpa using this
/-- What is made of words are words. -/
theorem made_words {l : List Pr} {s : Sp} (hl : ∀ p ∈ l, wordP p = true) (hr : RightS s) : ∀ p ∈ (madeL l s).1, wordP p = true := by
  intro p hp
  unfold madeL at hp
  split at hp
  · rename_i k
    split at hp
    · cases hp
    · rcases List.mem_append.1 hp with hp | hp
      · exact hl p hp
      · obtain rfl := List.mem_singleton.1 hp
        exact wordP_of hr.table (hr.put k).1 (hr.put k).2.2
  · split at hp
    · exact hl p (List.mem_filter.1 hp).1
    · split at hp
      · rename_i k
        split at hp
        · exact hl p hp
        · split at hp
          · cases hp
          · split at hp
            · exact hl p hp
            · rename_i q hq
              have hw := wordP_parts (hl q (List.mem_of_getElem? hq))
              split at hp
              · rcases List.mem_append.1 hp with hp | hp
                · exact hl p hp
                · obtain rfl := List.mem_singleton.1 hp
                  exact wordP_of hr.table (hr.name k).2.1 hw.2.2
              · rcases List.mem_or_eq_of_mem_set hp with hp | rfl
                · exact hl p hp
                · exact wordP_of hw.1 (hr.name k).2.1 hw.2.2
      · split at hp
        · rename_i k
          split at hp
          · split at hp
            · cases hp
            · obtain ⟨x, hx, rfl⟩ := List.mem_map.1 hp
              have hw := wordP_parts (hl x hx)
              unfold tabF
              split
              · exact wordP_of (hr.tab k).2.1 hw.2.1 hw.2.2
              · exact hl x hx
          · exact hl p hp
        · split at hp
          · cases hp
          · rename_i q hq
            obtain ⟨x, hx, h1, h2, h3⟩ := mapF_mem hq p hp
            have hw := wordP_parts (hl x hx)
            refine wordP_of (by rw [h1]; exact hw.1) (by rw [h2]; exact hw.2.1) ?_
            rcases h3 with ⟨_, rfl⟩ | ⟨_, h3⟩
            · exact hw.2.2
            · exact fun_len hw.2.2 h3
/-- What comes out goes in. -/
theorem apply_may {l : List Pr} {s : Sp} (h : (applyL l s).2 = 0) : mayL (applyL l s).1 = true := by
  obtain ⟨hm, hr, _, hp, ha, hl, _, _⟩ := apply_ok h
  exact may_of hl (fun p hx => made_words (may_words hm) (right_parts hr) p (hp.mem_iff.2 hx)) ha

/-! ### Back -/
theorem but_perm {a b : List Pr} (h : a.Perm b) (t k : List UInt8) : (butL a t k).Perm (butL b t k) := h.filter _
theorem but_none {l : List Pr} {t k : List UInt8} (hk : k ≠ []) (h : ∀ x ∈ l, ¬ (x.table = t ∧ x.key = k)) : butL l t k = l := by
  unfold butL
  rw [List.filter_eq_self]
  intro x hx
  have := h x hx
  have hk' : k.isEmpty = false := by cases k; exact absurd rfl hk; rfl
  unfold goes
  rw [hk', Bool.false_or]
  by_cases h1 : x.table = t
  · have h2 : ¬ x.key = k := fun e => this ⟨h1, e⟩
    simp [h2]
  · simp [h1]
theorem put_back {l : List Pr} {t k x : List UInt8} (h : (applyL l ⟨1, t, k, [], x⟩).2 = 0) : applyL (applyL l ⟨1, t, k, [], x⟩).1 ⟨2, t, k, [], []⟩ = (l, 0) ∧ (applyL l ⟨1, t, k, [], x⟩).1.length = l.length + 1 := by
  obtain ⟨hm, hr, h0, hp, ha, hl, _, _⟩ := apply_ok h
  have hma := apply_may h
  have R := right_parts hr
  have hk := (R.put rfl).1
  generalize (applyL l ⟨1, t, k, [], x⟩).1 = a at *
  have hn : idxL l t k = none := by
    cases hi : idxL l t k with
    | none => rfl
    | some i =>
      unfold madeL at h0
      simp [hi] at h0
  have e : madeL l ⟨1, t, k, [], x⟩ = (l ++ [⟨t, k, x⟩], 0) := by unfold madeL; simp [hn]
  rw [e] at hp
  refine ⟨apply_of hma (right_of R.table (.inr (.inl ⟨rfl, .inl hk, rfl, rfl⟩))) rfl ?_ (may_parts hm).2.2 (may_parts hm).1, by have := hp.length_eq; simpa using this.symm⟩
  show (butL a t k).Perm l
  refine (but_perm hp.symm t k).trans ?_
  unfold butL
  rw [List.filter_append]
  have h1 : [(⟨t, k, x⟩ : Pr)].filter (fun p => !goes t k p) = [] := by simp [goes]
  rw [h1, List.append_nil]
  have := but_none (word_ne hk) (idx_none hn)
  unfold butL at this
  rw [this]
theorem perm_split {α : Type} {a : List α} {i : Nat} {q : α} (h : a[i]? = some q) : a.Perm (q :: (a.take i ++ a.drop (i + 1))) := by
  conv => lhs; rw [get_split h]
  exact List.perm_middle
theorem rename_back {l : List Pr} {t k u : List UInt8} (h : (applyL l ⟨3, t, k, u, []⟩).2 = 0) : ((applyL l ⟨3, t, k, u, []⟩).1 = l ∨ applyL (applyL l ⟨3, t, k, u, []⟩).1 ⟨3, t, u, k, []⟩ = (l, 0)) ∧ (applyL l ⟨3, t, k, u, []⟩).1.length = l.length := by
  obtain ⟨hm, hr, h0, hp, ha, hl, _, _⟩ := apply_ok h
  have hma := apply_may h
  have R := right_parts hr
  obtain ⟨hk, hu, _⟩ := R.name (.inl rfl)
  generalize (applyL l ⟨3, t, k, u, []⟩).1 = a at *
  cases hi : idxL l t k with
  | none =>
    have e : madeL l ⟨3, t, k, u, []⟩ = (l, 0) := by unfold madeL; simp [hi]
    rw [e] at hp
    exact ⟨.inl (asc_unique ha (may_parts hm).2.2 hp.symm), hp.length_eq.symm⟩
  | some i =>
    obtain ⟨p, hpi, h1, h2, _⟩ := idx_some hi
    cases hj : idxL l t u with
    | some j =>
      unfold madeL at h0
      simp [hi, hj] at h0
    | none =>
      have e : madeL l ⟨3, t, k, u, []⟩ = (l.set i { p with key := u }, 0) := by unfold madeL; simp [hi, hj, hpi]
      rw [e] at hp
      have hlen : a.length = l.length := by have := hp.length_eq; simpa using this.symm
      refine ⟨.inr ?_, hlen⟩
      have hnu := idx_none hj
      have hla := (may_parts hm).2.2
      have hold : (l.take i ++ l.drop (i + 1)).Perm (butL l t k) := by rw [but_at hla hpi h1 h2 (word_ne hk)]
      have hnew : ({ p with key := u } :: (l.take i ++ l.drop (i + 1))).Perm a := (set_perm hpi).symm.trans hp
      have hmem : ({ p with key := u } : Pr) ∈ a := hnew.subset (by simp)
      have honly : ∀ y ∈ a, y.table = t → y.key = u → y = { p with key := u } := by
        intro y hy e1 e2
        rcases List.mem_cons.1 (hnew.symm.subset hy) with e | hy
        · exact e
        · have : y ∈ l := by
            have := hold.subset hy
            exact (List.mem_filter.1 this).1
          exact absurd ⟨e1, e2⟩ (hnu y this)
      have hnk : idxL a t k = none := idx_is_none fun j q hq hc => by
        rcases List.mem_cons.1 (hnew.symm.subset (List.mem_of_getElem? hq)) with e | hy
        · subst e
          have hku : u = k := hc.2
          exact hnu p (List.mem_of_getElem? hpi) ⟨h1, by rw [hku]; exact h2⟩
        · have := hold.subset hy
          have hg := (List.mem_filter.1 this).2
          unfold goes at hg
          simp [hc.1, hc.2] at hg
      obtain ⟨j, hjx⟩ : ∃ j, idxL a t u = some j := by
        cases hx : idxL a t u with
        | some j => exact ⟨j, rfl⟩
        | none => exact absurd ⟨h1, rfl⟩ (idx_none hx _ hmem)
      obtain ⟨q, hq, g1, g2, _⟩ := idx_some hjx
      have hqe := honly q (List.mem_of_getElem? hq) g1 g2
      subst hqe
      have e2 : madeL a ⟨3, t, u, k, []⟩ = (a.set j { p with key := k }, 0) := by unfold madeL; simp [hjx, hnk, hq]
      refine apply_of hma (right_of R.table (.inr (.inr (.inl ⟨.inl rfl, hu, hk, rfl⟩)))) (by rw [e2]) ?_ hla (may_parts hm).1
      rw [e2, show ({ p with key := k } : Pr) = p by rw [← h2]]
      have hc : (a.take j ++ a.drop (j + 1)).Perm (l.take i ++ l.drop (i + 1)) := (List.perm_cons _).1 ((perm_split hq).symm.trans hnew.symm)
      exact (set_perm hq).trans ((hc.cons p).trans (perm_split hpi).symm)
theorem any_perm {a b : List Pr} (h : a.Perm b) (f : Pr → Bool) : a.any f = b.any f := by
  rw [Bool.eq_iff_iff, List.any_eq_true, List.any_eq_true]
  exact ⟨fun ⟨x, hx, h1⟩ => ⟨x, h.mem_iff.1 hx, h1⟩, fun ⟨x, hx, h1⟩ => ⟨x, h.mem_iff.2 hx, h1⟩⟩
theorem table_back {l : List Pr} {t u : List UInt8} (h : (applyL l ⟨4, t, [], u, []⟩).2 = 0) : ((applyL l ⟨4, t, [], u, []⟩).1 = l ∨ applyL (applyL l ⟨4, t, [], u, []⟩).1 ⟨4, u, [], t, []⟩ = (l, 0)) ∧ (applyL l ⟨4, t, [], u, []⟩).1.length = l.length := by
  obtain ⟨hm, hr, h0, hp, ha, hl, _, _⟩ := apply_ok h
  have hma := apply_may h
  have R := right_parts hr
  have hu := (R.tab rfl).2.1
  generalize (applyL l ⟨4, t, [], u, []⟩).1 = a at *
  have hla := (may_parts hm).2.2
  cases h1 : l.any (fun p => decide (p.table = t)) with
  | false =>
    have e : madeL l ⟨4, t, [], u, []⟩ = (l, 0) := by unfold madeL; simp only [h1]; rfl
    rw [e] at hp
    exact ⟨.inl (asc_unique ha hla hp.symm), hp.length_eq.symm⟩
  | true =>
    cases h2 : l.any (fun p => decide (p.table = u)) with
    | true =>
      have e : madeL l ⟨4, t, [], u, []⟩ = ([], 161) := by unfold madeL; simp only [h1, h2]; rfl
      rw [e] at h0
      cases h0
    | false =>
      have e : madeL l ⟨4, t, [], u, []⟩ = (l.map (tabF t u), 0) := by unfold madeL; simp only [h1, h2]; rfl
      rw [e] at hp
      refine ⟨.inr ?_, by have := hp.length_eq; simpa using this.symm⟩
      have hnu : ∀ x ∈ l, x.table ≠ u := by
        rw [List.any_eq_false] at h2
        intro x hx
        simpa using h2 x hx
      obtain ⟨x0, hx0, hxt⟩ := List.any_eq_true.1 h1
      have hxt : x0.table = t := by simpa using hxt
      have htu : t ≠ u := fun e => hnu x0 hx0 (hxt.trans e)
      have a1 : a.any (fun p => decide (p.table = u)) = true := by
        rw [← any_perm hp, List.any_eq_true]
        exact ⟨tabF t u x0, List.mem_map_of_mem hx0, by simp [tabF, hxt]⟩
      have a2 : a.any (fun p => decide (p.table = t)) = false := by
        rw [← any_perm hp, List.any_eq_false]
        intro y hy
        obtain ⟨x, hx, rfl⟩ := List.mem_map.1 hy
        unfold tabF
        split
        · simp [Ne.symm htu]
        · rename_i hne; simp [hne]
      have e2 : madeL a ⟨4, u, [], t, []⟩ = (a.map (tabF u t), 0) := by unfold madeL; simp only [a1, a2]; rfl
      refine apply_of hma (right_of hu (.inr (.inr (.inr (.inl ⟨rfl, rfl, R.table, rfl⟩))))) (by rw [e2]) ?_ hla (may_parts hm).1
      rw [e2]
      refine (hp.symm.map _).trans ?_
      rw [List.map_map]
      have : l.map (tabF u t ∘ tabF t u) = l := by
        conv => rhs; rw [← List.map_id l]
        refine List.map_congr_left fun x hx => ?_
        show tabF u t (tabF t u x) = x
        unfold tabF
        by_cases hx1 : x.table = t
        · rw [if_pos hx1, if_pos rfl, ← hx1]
        · rw [if_neg hx1, if_neg (hnu x hx)]
      rw [this]
theorem map_apply {l : List Pr} {t f : List UInt8} (h : (applyL l ⟨5, t, [], [], f⟩).2 = 0) : mapF t f l = some (applyL l ⟨5, t, [], [], f⟩).1 ∧ mayL l = true ∧ rightL ⟨5, t, [], [], f⟩ = true := by
  obtain ⟨hm, hr, _, _, _, _, he, h0⟩ := apply_ok h
  refine ⟨?_, hm, hr⟩
  rw [he]
  unfold doesL at h0 ⊢
  simp only [show ¬ ((5 : Int) = 1) by decide, show ¬ ((5 : Int) = 2) by decide, show ¬ ((5 : Int) = 4) by decide, if_false, if_true] at h0 ⊢
  cases hq : mapF t f l with
  | none => rw [hq] at h0; exact absurd h0 (by decide)
  | some q => rfl
theorem map_of {l q : List Pr} {t f : List UInt8} (hm : mayL l = true) (hr : rightL ⟨5, t, [], [], f⟩ = true) (h : mapF t f l = some q) : applyL l ⟨5, t, [], [], f⟩ = (q, 0) := by
  have e : madeL l ⟨5, t, [], [], f⟩ = (q, 0) := by
    unfold madeL
    simp only [show ¬ ((5 : Int) = 1) by decide, show ¬ ((5 : Int) = 2) by decide, show ¬ ((5 : Int) = 4) by decide, show ¬ ((5 : Int) = 3 ∨ (5 : Int) = 6) by decide, if_false, h]
  refine apply_of hm hr (by rw [e]) (by rw [e]) (asc_keys (mapF_keys t f l q h) (may_parts hm).2.2) (by rw [mapF_len h]; exact (may_parts hm).1)
/-- A function g that undoes f, of what f makes. -/
theorem mapF_undo {t f : List UInt8} (hf : ∀ v u, funL f v = some u → funL f u = some v) : ∀ {l q : List Pr}, mapF t f l = some q → mapF t f q = some l
  | [], q, h => by simp [mapF] at h; subst h; rfl
  | p :: r, q, h => by
    unfold mapF at h
    split at h
    · rename_i ht
      split at h
      · cases h
      · rename_i v hv
        cases hr : mapF t f r with
        | none => rw [hr] at h; cases h
        | some q' =>
          rw [hr] at h
          simp at h
          subst h
          rw [mapF, if_pos ht, hf _ _ hv, mapF_undo hf hr]
          rfl
    · rename_i ht
      cases hr : mapF t f r with
      | none => rw [hr] at h; cases h
      | some q' =>
        rw [hr] at h
        simp at h
        subst h
        rw [mapF, if_neg ht, mapF_undo hf hr]
        rfl
theorem mapF_once {t f : List UInt8} (hf : ∀ v u, funL f v = some u → funL f u = some u) : ∀ {l q : List Pr}, mapF t f l = some q → mapF t f q = some q
  | [], q, h => by simp [mapF] at h; subst h; rfl
  | p :: r, q, h => by
    unfold mapF at h
    split at h
    · rename_i ht
      split at h
      · cases h
      · rename_i v hv
        cases hr : mapF t f r with
        | none => rw [hr] at h; cases h
        | some q' =>
          rw [hr] at h
          simp at h
          subst h
          rw [mapF, if_pos ht, hf _ _ hv, mapF_once hf hr]
          rfl
    · rename_i ht
      cases hr : mapF t f r with
      | none => rw [hr] at h; cases h
      | some q' =>
        rw [hr] at h
        simp at h
        subst h
        rw [mapF, if_neg ht, mapF_once hf hr]
        rfl
theorem fold_once (l : List UInt8) : foldL (foldL l) = foldL l := by
  unfold foldL
  rw [List.map_map]
  refine List.map_congr_left fun b _ => ?_
  show foldB (foldB b) = foldB b
  by_cases h : 65 ≤ b.toNat ∧ b.toNat ≤ 90
  · have := foldB_great h
    exact foldB_other (by omega)
  · rw [foldB_other h, foldB_other h]
theorem upB_small {b : UInt8} (h : 97 ≤ b.toNat ∧ b.toNat ≤ 122) : (upB b).toNat = b.toNat - 32 := by
  unfold upB
  rw [if_pos h, UInt8.toNat_ofNat']
  omega
theorem upB_other {b : UInt8} (h : ¬ (97 ≤ b.toNat ∧ b.toNat ≤ 122)) : upB b = b := by unfold upB; rw [if_neg h]
theorem up_once (l : List UInt8) : upL (upL l) = upL l := by
  unfold upL
  rw [List.map_map]
  refine List.map_congr_left fun b _ => ?_
  show upB (upB b) = upB b
  by_cases h : 97 ≤ b.toNat ∧ b.toNat ≤ 122
  · have := upB_small h
    exact upB_other (by omega)
  · rw [upB_other h, upB_other h]
theorem tri_once (l : List UInt8) : ini.tri (ini.tri l) = ini.tri l := by
  rcases ini.tri_ends l with h | ⟨⟨r, c, h1, hc⟩, r2, c2, h2, hc2⟩
  · rw [h]; rfl
  · unfold ini.tri at h1 h2 ⊢
    generalize ini.triR (ini.triL l) = m at *
    rw [h1, ini.triL_first hc, ← h1, h2, ini.triR_last hc2]
theorem fun_once {f : List UInt8} (h : f = nLower ∨ f = nUpper ∨ f = nTrim) : ∀ v u, funL f v = some u → funL f u = some u := by
  intro v u hu
  rcases h with rfl | rfl | rfl
  · have e : ∀ v, funL nLower v = some (foldL v) := fun v => by unfold funL; rw [if_neg (by decide), if_pos rfl]
    rw [e] at hu ⊢
    obtain rfl := Option.some.inj hu
    rw [fold_once]
  · have e : ∀ v, funL nUpper v = some (upL v) := fun v => by unfold funL; rw [if_neg (by decide), if_neg (by decide), if_neg (by decide), if_neg (by decide)]
    rw [e] at hu ⊢
    obtain rfl := Option.some.inj hu
    rw [up_once]
  · have e : ∀ v, funL nTrim v = some (ini.tri v) := fun v => by unfold funL; rw [if_neg (by decide), if_neg (by decide), if_neg (by decide), if_pos rfl]
    rw [e] at hu ⊢
    obtain rfl := Option.some.inj hu
    rw [tri_once]
theorem map_once {l : List Pr} {t f : List UInt8} (hf : f = nLower ∨ f = nUpper ∨ f = nTrim) (h : (applyL l ⟨5, t, [], [], f⟩).2 = 0) : applyL (applyL l ⟨5, t, [], [], f⟩).1 ⟨5, t, [], [], f⟩ = ((applyL l ⟨5, t, [], [], f⟩).1, 0) ∧ (applyL l ⟨5, t, [], [], f⟩).1.length = l.length := by
  obtain ⟨h1, hm, hr⟩ := map_apply h
  exact ⟨map_of (apply_may h) hr (mapF_once (fun_once hf) h1), mapF_len h1⟩
theorem reverse_back {l : List Pr} {t : List UInt8} (h : (applyL l ⟨5, t, [], [], nReverse⟩).2 = 0) : applyL (applyL l ⟨5, t, [], [], nReverse⟩).1 ⟨5, t, [], [], nReverse⟩ = (l, 0) := by
  obtain ⟨h1, hm, hr⟩ := map_apply h
  refine map_of (apply_may h) hr (mapF_undo (fun v u hu => ?_) h1)
  have e : ∀ v, funL nReverse v = some v.reverse := fun v => by unfold funL; rw [if_neg (by decide), if_neg (by decide), if_pos rfl]
  rw [e] at hu ⊢
  obtain rfl := Option.some.inj hu
  rw [List.reverse_reverse]
end Go.Proofs.Ythjcifokmcbaoaa.st
/- Package step: what each function that stands makes of a value. Conditions: texts of at most 2147483647 bytes. -/
namespace Go.Proofs.Ythjcifokmcbaoaa.st
open Go.ChangeShapes Go.WideShapes Go.ChangeAt Go.RowKit gl

theorem xor_lo : ∀ n : Nat, n < 256 → 65 ≤ n → n ≤ 90 → bits .xor .u8 (n : Int) 32 = ((n + 32 : Nat) : Int) := by decide +kernel
theorem xor_up : ∀ n : Nat, n < 256 → 97 ≤ n → n ≤ 122 → bits .xor .u8 (n : Int) 32 = ((n - 32 : Nat) : Int) := by decide +kernel
/-- The first k bytes have been turned by f. -/
def turnAt (f : UInt8 → UInt8) (k j : Nat) (b : UInt8) : UInt8 := if j < k then f b else b
structure Turns (f : UInt8 → UInt8) (w : World) (g k : Nat) (l : List UInt8) : Prop where
  cell : ∀ (j : Nat) (b : UInt8), l[j]? = some b → w.cell? ⟨g, j, none⟩ = some (.int .u8 ((turnAt f k j b).toNat : Int))
  free : ∀ (j : Nat), j < l.length → w.frozen? ⟨g, j, none⟩ = false
theorem Turns.start {f : UInt8 → UInt8} {w : World} {g : Nat} {l : List UInt8} (h : Lies w g l) : Turns f w g 0 l := ⟨fun j b hj => h.cell j b hj, h.free⟩
theorem Turns.set {f : UInt8 → UInt8} {w : World} {g k : Nat} {l : List UInt8} {b : UInt8} (h : Turns f w g k l) (hb : l[k]? = some b) : Turns f (w.setCell ⟨g, k, none⟩ (.int .u8 ((f b).toNat : Int))) g (k + 1) l := by
  refine ⟨fun j c hj => ?_, fun j hj => by rw [World.frozen?_setCell]; exact h.free j hj⟩
  by_cases h1 : j = k
  · subst h1
    rw [hb] at hj
    obtain rfl := Option.some.inj hj
    rw [World.cell?_setCell_same w _ _ (h.cell j b hb)]
    unfold turnAt
    rw [if_pos (by omega)]
  · rw [World.cell?_setCell_other w _ _ _ (by intro e; injection e with _ e2 _; exact h1 e2.symm), h.cell j c hj]
    unfold turnAt
    by_cases h2 : j < k
    · rw [if_pos h2, if_pos (by omega)]
    · rw [if_neg h2, if_neg (by omega)]
theorem Turns.done {f : UInt8 → UInt8} {w : World} {g : Nat} {l : List UInt8} (h : Turns f w g l.length l) : ∀ (j : Nat) (b : UInt8), (l.map f)[j]? = some b → w.cell? ⟨g, j, none⟩ = some (.int .u8 (b.toNat : Int)) := by
  intro j b hj
  simp only [List.getElem?_map, Option.map_eq_some_iff] at hj
  obtain ⟨c, hc, rfl⟩ := hj
  rw [h.cell j c hc]
  unfold turnAt
  rw [if_pos (lt_of_at hc)]

end Go.Proofs.Ythjcifokmcbaoaa.st
/- Package step: reverse, trim and double return plain functions. Conditions: texts of at most 2147483647 bytes; the listed variables hold what the program's text lays. -/
namespace Go.Proofs.Ythjcifokmcbaoaa.st
open Go.ChangeShapes Go.WideShapes Go.ChangeAt Go.RowKit gl

/-! ### trim -/
theorem blk_contains (b : UInt8) : ([32, 9] : List UInt8).contains b = ini.blk b := by
  by_cases h1 : b = 32 <;> by_cases h2 : b = 9 <;> simp [ini.blk, h1, h2]
theorem dropWhile_congr' {p q : UInt8 → Bool} (h : ∀ b, p b = q b) (l : List UInt8) : l.dropWhile p = l.dropWhile q := by rw [show p = q from funext h]
theorem trimLeftS_eq (l : List UInt8) : Lib.trimLeftS l [32, 9] = ini.triL l := dropWhile_congr' blk_contains l
theorem trimRightS_eq (l : List UInt8) : Lib.trimRightS l [32, 9] = ini.triR l := congrArg List.reverse (dropWhile_congr' blk_contains l.reverse)
theorem triL_triR (l : List UInt8) : ini.triL (ini.triR l) = ini.triR (ini.triL l) := by
  obtain ⟨p, hp, hb⟩ := ini.triL_suffix l
  by_cases h0 : ini.triL l = []
  · have hall : ∀ b ∈ l, ini.blk b = true := by rw [hp, h0, List.append_nil]; exact hb
    have e : ini.triR l = [] := by
      have := ini.triR_suf (p := l) (l := []) hall
      rw [List.nil_append] at this
      rw [this]; rfl
    rw [e, h0]
    rfl
  · obtain ⟨r, c, hrc, hc⟩ : ∃ r c, ini.triL l = c :: r ∧ ini.blk c = false := by
      rcases ini.triL_nil_or l with h | h
      · exact absurd h h0
      · exact h
    have e : ini.triR l = p ++ ini.triR (ini.triL l) := by
      obtain ⟨q, hq, hqb⟩ := ini.triR_prefix (ini.triL l)
      have e1 : ini.triR (p ++ ini.triL l) = p ++ ini.triR (ini.triL l) := by
        rcases ini.triR_nil_or (ini.triL l) with h | ⟨r', c', h, hc'⟩
        · exfalso
          rw [h, List.nil_append] at hq
          have : ini.blk c = true := hqb c (by rw [← hq, hrc]; simp)
          rw [hc] at this; cases this
        · have e2 : p ++ ini.triL l = (p ++ r') ++ [c'] ++ q := by rw [hq, h]; simp
          rw [e2, ini.triR_suf hqb, ini.triR_last hc', h]
          simp
      rw [← hp] at e1
      exact e1
    rw [e, ini.triL_pre hb]
    have hne : ∃ r2, ini.triR (ini.triL l) = c :: r2 := by
      obtain ⟨q, hq, hqb⟩ := ini.triR_prefix (ini.triL l)
      rcases ini.triR_nil_or (ini.triL l) with h | ⟨r', c', h, hc'⟩
      · exfalso
        rw [h, List.nil_append] at hq
        have : ini.blk c = true := hqb c (by rw [← hq, hrc]; simp)
        rw [hc] at this; cases this
      · cases hx : ini.triR (ini.triL l) with
        | nil => rw [hx] at h; simp at h
        | cons a r2 =>
          rw [hx, hrc] at hq
          simp at hq
          exact ⟨r2, by rw [← hq.1]⟩
    obtain ⟨r2, h2⟩ := hne
    rw [h2, ini.triL_first hc]
theorem trimS_eq (l : List UInt8) : Lib.trimS l [32, 9] = ini.tri l := by
  unfold Lib.trimS
  rw [trimRightS_eq, trimLeftS_eq, triL_triR]
  rfl
/-! ### reverse -/
instance : Inhabited UInt8 := ⟨0⟩
theorem below_putRow {α : Type} [Inhabited α] (enc : α → Value) {B : Nat} (w : World) (n blk off : Nat) (d : Array α) (hb : B ≤ blk) : Below B w (Sort.putRow enc (Sort.ahead w n) blk off d) := by
  refine ⟨rfl, rfl, rfl, ?_, fun i hi => ?_⟩
  · show w.heap.size ≤ (w.heap.modify blk _).size
    simp
  · show (w.heap.modify blk _)[i]? = _
    rw [Array.getElem?_modify, if_neg (by omega)]
end Go.Proofs.Ythjcifokmcbaoaa.st
/- Package step: double returns a plain function. Conditions: texts of at most 2147483647 bytes; the listed variables hold what the program's text lays. -/
namespace Go.Proofs.Ythjcifokmcbaoaa.st
open Go.ChangeShapes Go.WideShapes Go.ChangeAt Go.RowKit gl

theorem atoi_digits {n : Nat} (h : n ≤ 2147483648) : Lib.atoiAll (Lib.decDigits n) = .ok (n : Int) := by
  rw [va.atoi_dec (va.decDigits_all n) (va.decDigits_ne n), va.decN_decDigits, if_pos (by omega)]
theorem dbl_some {l u : List UInt8} (h : dblL l = some u) : ∃ n : Nat, n ≤ 2147483648 ∧ Lib.decDigits n = l ∧ u = Lib.decDigits (2 * n) := by
  unfold dblL at h
  split at h
  · cases h
  · rename_i n hn
    split at h
    · rename_i hle
      exact ⟨n, hle, va.num_back hn (by omega), (Option.some.inj h).symm⟩
    · cases h
theorem dbl_yes {l : List UInt8} {v : Int} (h0 : 0 ≤ v) (h1 : v ≤ 2147483648) (h : Lib.itoa v = l) : dblL l = some (Lib.itoa (2 * v)) := by
  obtain ⟨n, rfl⟩ := Int.eq_ofNat_of_zero_le h0
  have e : ∀ m : Nat, Lib.itoa (m : Int) = Lib.decDigits m := fun m => by unfold Lib.itoa; rw [if_neg (by omega), Int.toNat_natCast]
  rw [e] at h
  rw [show (2 * (n : Int)) = ((2 * n : Nat) : Int) by omega, e]
  unfold dblL
  rw [← h, va.num_decDigits (by omega)]
  simp only
  rw [if_pos (by omega)]
theorem dbl_no {l : List UInt8} {v : Int} (ha : Lib.atoiAll l = .ok v) (h : v < 0 ∨ 2147483648 < v ∨ Lib.itoa v ≠ l) : dblL l = none := by
  cases hd : dblL l with
  | none => rfl
  | some u =>
    obtain ⟨n, hn, hl, _⟩ := dbl_some hd
    rw [← hl, atoi_digits hn] at ha
    cases ha
    rcases h with h | h | h
    · omega
    · omega
    · exfalso
      refine h ?_
      unfold Lib.itoa
      rw [if_neg (by omega), Int.toNat_natCast, hl]
theorem dbl_bad {l : List UInt8} (ha : ∀ v, Lib.atoiAll l ≠ .ok v) : dblL l = none := by
  cases hd : dblL l with
  | none => rfl
  | some u =>
    obtain ⟨n, hn, hl, _⟩ := dbl_some hd
    exact absurd (by rw [← hl]; exact atoi_digits hn) (ha n)
def fnV (r : Option (List UInt8)) : Value := match r with
  | none => .tuple #[.string ⟨#[]⟩, .bool false]
  | some u => .tuple #[.string (B u), .bool true]
def AtoiOut (l : List UInt8) (e : Ending) : Prop := (∃ v : Int, Lib.atoiAll l = .ok v ∧ -9223372036854775808 ≤ v ∧ v ≤ 9223372036854775807 ∧ e = .returned (.tuple #[.int .i64 v, .nilIface])) ∨ (dblL l = none ∧ ∃ (v : Int) (tp : TypeId) (q : Value), e = .returned (.tuple #[.int .i64 v, .iface tp q]))
end Go.Proofs.Ythjcifokmcbaoaa.st
/- Package step: told and Call return what chapter 16 says. Conditions: texts of at most 2147483647 bytes; the listed variables hold what the program's text lays. -/
namespace Go.Proofs.Ythjcifokmcbaoaa.st
open Go.ChangeShapes Go.WideShapes Go.ChangeAt Go.RowKit gl

theorem name_no {s : ByteArray} (h : fnL s.data.toList = false) : (s.toList == [100, 111, 117, 98, 108, 101]) = false ∧ (s.toList == [108, 111, 119, 101, 114]) = false ∧ (s.toList == [114, 101, 118, 101, 114, 115, 101]) = false ∧ (s.toList == [116, 114, 105, 109]) = false ∧ (s.toList == [117, 112, 112, 101, 114]) = false := by
  unfold fnL at h
  simp only [decide_eq_false_iff_not, not_or] at h
  have hb : ∀ l : List UInt8, ¬ s.data.toList = l → (s.toList == l) = false := fun l hl => by rw [ByteArray.toList_eq, beq_eq_false_iff_ne]; exact hl
  exact ⟨hb _ h.1, hb _ h.2.1, hb _ h.2.2.1, hb _ h.2.2.2.1, hb _ h.2.2.2.2⟩
def callV (r : List UInt8 × Int) : Value := .tuple #[.string (B r.1), .int .i64 r.2]
theorem call_no {t v : List UInt8} (h : fnL t = false) : callL t v = ([], 160) := by unfold callL; rw [if_neg (by rw [h]; simp)]
theorem call_long {t v : List UInt8} (h : fnL t = true) (hl : ¬ v.length ≤ 200) : callL t v = ([], 162) := by unfold callL; rw [if_pos h, if_neg hl]
theorem call_fn {t v : List UInt8} (h : fnL t = true) (hl : v.length ≤ 200) : callL t v = (match funL t v with | none => ([], 162) | some u => (u, 0)) := by unfold callL; rw [if_pos h, if_pos hl]; try rfl
theorem ein_fn (d : Nat) (t : TypeId) (a b : Array TypeId) (v : Bool) (f : Fn) (x y : Array Value) (W : World) (h : Try.prog.underlying t = some (.func a b v)) : (Op.equalIn (d + 1) t (.func f x y) .nilFunc).run Try.prog W = .ok false W := by
  simp [Op.equalIn, run_underlying h]
theorem ein_nil (d : Nat) (t : TypeId) (a b : Array TypeId) (v : Bool) (W : World) (h : Try.prog.underlying t = some (.func a b v)) : (Op.equalIn (d + 1) t .nilFunc .nilFunc).run Try.prog W = .ok true W := by
  simp [Op.equalIn, run_underlying h]
theorem fun_double (v : List UInt8) : funL nDouble v = dblL v := by unfold funL; rw [if_pos rfl]
theorem fun_reverse (v : List UInt8) : funL nReverse v = some v.reverse := by unfold funL; rw [if_neg (by decide), if_neg (by decide), if_pos rfl]
theorem fun_trim (v : List UInt8) : funL nTrim v = some (ini.tri v) := by unfold funL; rw [if_neg (by decide), if_neg (by decide), if_neg (by decide), if_pos rfl]
theorem fun_lower (v : List UInt8) : funL nLower v = some (foldL v) := by unfold funL; rw [if_neg (by decide), if_pos rfl]
theorem fun_upper (v : List UInt8) : funL nUpper v = some (upL v) := by unfold funL; rw [if_neg (by decide), if_neg (by decide), if_neg (by decide), if_neg (by decide)]
theorem B_eq {s : ByteArray} {l : List UInt8} (h : s.data.toList = l) : s = B l := by rw [← h, B_of]
end Go.Proofs.Ythjcifokmcbaoaa.st
/- The reference's Functions, known, blank, digits, double and Call of chapter 16 return plain functions. Conditions: texts of at most 2147483647 bytes. -/
namespace Go.Proofs.Ythjcifokmcbaoaa.st
open Go.ChangeShapes Go.WideShapes Go.ChangeAt Go.RowKit gl

theorem digit_cut : ∀ n : Nat, n < 10 → (⟨#[48, 49, 50, 51, 52, 53, 54, 55, 56, 57]⟩ : ByteArray).extract n (n + 1) = B [UInt8.ofNat (48 + n)]
  | 0, _ => rfl | 1, _ => rfl | 2, _ => rfl | 3, _ => rfl | 4, _ => rfl | 5, _ => rfl | 6, _ => rfl | 7, _ => rfl | 8, _ => rfl | 9, _ => rfl
  | n + 10, h => by omega
end Go.Proofs.Ythjcifokmcbaoaa.st
/- The reference's double of chapter 16 returns a plain function. Conditions: texts of at most 2147483647 bytes. -/
namespace Go.Proofs.Ythjcifokmcbaoaa.st
open Go.ChangeShapes Go.WideShapes Go.ChangeAt Go.RowKit gl

def dblV (r : Option (List UInt8)) : List UInt8 × Int := match r with
  | none => ([], 162)
  | some u => (u, 0)
theorem decN_pow : ∀ (l : List UInt8) (acc : Nat), l.all va.isDig = true → va.decN acc l < (acc + 1) * 10 ^ l.length
  | [], acc, _ => by rw [va.decN_nil]; simp
  | c :: r, acc, h => by
    simp only [List.all_cons, Bool.and_eq_true] at h
    have hc : 48 ≤ c.toNat ∧ c.toNat ≤ 57 := of_decide_eq_true h.1
    rw [va.decN_cons]
    have ih := decN_pow r (acc * 10 + (c.toNat - 48)) h.2
    have hle : acc * 10 + (c.toNat - 48) + 1 ≤ (acc + 1) * 10 := by omega
    have h2 := Nat.mul_le_mul_right (10 ^ r.length) hle
    rw [List.length_cons, Nat.pow_succ, Nat.mul_comm (10 ^ r.length) 10, ← Nat.mul_assoc]
    omega
theorem decN_bound (l : List UInt8) (h : l.all va.isDig = true) (hl : l.length ≤ 10) : va.decN 0 l ≤ 9999999999 := by
  have h1 := decN_pow l 0 h
  have h2 : 10 ^ l.length ≤ 10 ^ 10 := Nat.pow_le_pow_right (by omega) hl
  omega
theorem dbl_cases (l : List UInt8) : (l = [] ∧ dblL l = none) ∨ (10 < l.length ∧ dblL l = none) ∨ (l ≠ [] ∧ l.length ≤ 10 ∧ 1 < l.length ∧ l.head? = some 48 ∧ dblL l = none) ∨
    (l ≠ [] ∧ l.length ≤ 10 ∧ ¬ (1 < l.length ∧ l.head? = some 48) ∧ ((l.all va.isDig = false ∧ dblL l = none) ∨ (l.all va.isDig = true ∧ va.decN 0 l ≤ 9999999999 ∧ dblL l = if va.decN 0 l ≤ 2147483648 then some (Lib.decDigits (2 * va.decN 0 l)) else none))) := by
  have hnone : ∀ {l}, va.num l = none → dblL l = none := fun h => by unfold dblL; rw [h]
  cases l with
  | nil => exact .inl ⟨rfl, rfl⟩
  | cons c r =>
    right
    cases hd : (c :: r).all va.isDig with
    | false =>
      have hz := hnone (va.num_bad hd)
      rcases Nat.lt_or_ge 10 (c :: r).length with h | h
      · exact .inl ⟨h, hz⟩
      · right
        by_cases h2 : 1 < (c :: r).length ∧ (c :: r).head? = some 48
        · exact .inl ⟨by simp, h, h2.1, h2.2, hz⟩
        · exact .inr ⟨by simp, h, h2, .inl ⟨rfl, hz⟩⟩
    | true =>
      by_cases h2 : 1 < (c :: r).length ∧ (c :: r).head? = some 48
      · have hc : c = 48 := by simpa using h2.2
        have hs : va.shaped (c :: r) = false := by
          subst hc
          cases r with
          | nil => simp at h2
          | cons a b => rfl
        have hz := hnone (va.num_unshaped hs)
        rcases Nat.lt_or_ge 10 (c :: r).length with h | h
        · exact .inl ⟨h, hz⟩
        · exact .inr (.inl ⟨by simp, h, h2.1, h2.2, hz⟩)
      · have hs : va.shaped (c :: r) = true := by
          unfold va.shaped
          cases r with
          | nil => simp
          | cons a b =>
            have : ¬ c = 48 := by
              intro e
              exact h2 ⟨by simp, by rw [e]; rfl⟩
            have : ¬ c.toNat = 48 := fun e => this (UInt8.toNat_inj.1 e)
            simp [this]
        have hn := va.num_some hd hs
        have hb := va.decDigits_decN _ hd hs
        have hlen : (c :: r).length ≤ 10 ∨ 10 < (c :: r).length := by omega
        rcases hlen with h | h
        · refine .inr (.inr ⟨by simp, h, h2, .inr ⟨rfl, ?_, ?_⟩⟩)
          · exact decN_bound _ hd h
          · unfold dblL
            rw [hn]
            simp only
            have e : min (va.decN 0 (c :: r)) 4611686018427387905 = va.decN 0 (c :: r) := Nat.min_eq_left (by have := decN_bound _ hd h; omega)
            rw [e]
        · left
          refine ⟨h, ?_⟩
          have hbig : 10000000000 ≤ va.decN 0 (c :: r) := by
            rcases Nat.lt_or_ge (va.decN 0 (c :: r)) 10000000000 with h3 | h3
            · have := decDigits_len 9 _ h3
              rw [hb] at this
              omega
            · exact h3
          unfold dblL
          rw [hn]
          simp only
          rw [if_neg (by omega)]
theorem all_bad {l : List UInt8} {k : Nat} {b : UInt8} (hb : l[k]? = some b) (hp : va.isDig b = false) : l.all va.isDig = false := by
  rw [List.all_eq_false]
  exact ⟨b, List.mem_of_getElem? hb, by rw [hp]; simp⟩
theorem dec_step {l : List UInt8} {k : Nat} {b : UInt8} (hb : l[k]? = some b) : va.decN 0 (l.take (k + 1)) = va.decN 0 (l.take k) * 10 + (b.toNat - 48) := by
  have hk := lt_of_at hb
  rw [List.take_succ_eq_append_getElem hk, va.decN_snoc]
  rw [List.getElem?_eq_getElem hk] at hb
  rw [Option.some.inj hb]
theorem dig_of {b : UInt8} (h : 48 ≤ b.toNat) (h2 : b.toNat ≤ 57) : va.isDig b = true := decide_eq_true ⟨h, h2⟩
theorem dig_no {b : UInt8} (h : b.toNat < 48 ∨ 57 < b.toNat) : va.isDig b = false := decide_eq_false (by omega)
theorem all_digs {l : List UInt8} (h : ∀ (j : Nat) (b : UInt8), l[j]? = some b → va.isDig b = true) : l.all va.isDig = true := by
  rw [List.all_eq_true]
  intro b hb
  obtain ⟨j, hj⟩ := List.mem_iff_getElem?.1 hb
  exact h j b hj
end Go.Proofs.Ythjcifokmcbaoaa.st
/- The reference's Call of chapter 16 returns a plain function. Conditions: texts of at most 2147483647 bytes. -/
namespace Go.Proofs.Ythjcifokmcbaoaa.st
open Go.ChangeShapes Go.WideShapes Go.ChangeAt Go.RowKit gl

section
variable {P : Program}
theorem wpList_string_at {ops : Array Oper} {rest : List Oper} {o : Oper} {a : Act} {w : World} {Q : Exit → Act → World → Prop} (hgd : o.guard = none) (src dst e : TypeId) (x : Operand) (ho : o.op = .convert src dst x)
    (p : Addr) (n cap : Nat) (l : List UInt8) (hn : l.length = n) (hx : a.eval x = .slice (some p) n cap) (hs : P.underlying src = some (.slice e)) (he : P.underlying e = some (.int .u8)) (hd : P.underlying dst = some .string)
    (hl : ∀ (j : Nat) (b : UInt8), l[j]? = some b → w.cell? (p.add j) = some (.int .u8 (b.toNat : Int)))
    (h : wpList P ops Q rest (a.put o.dst (.string ⟨l.toArray⟩)) w) : wpList P ops Q (o :: rest) a w := by
  subst hn
  refine wpList_plain hgd fun K hK => ?_
  unfold Oper.wp execOp
  simp only [ho, hx, Sem.run_bind, Sem.run_pure, Result.andThen_ok, run_convert_bytes_back w src dst e p cap l hs he hd (fun j hj => hl j l[j] (List.getElem?_eq_getElem hj))]
  exact hK _ _ h
end
/-- The first k bytes are t's, the others l's. -/
structure Mix (t l : List UInt8) (w : World) (g k : Nat) : Prop where
  len : t.length = l.length
  cell : ∀ (j : Nat) (b : UInt8), (if j < k then t[j]? else l[j]?) = some b → w.cell? ⟨g, j, none⟩ = some (.int .u8 (b.toNat : Int))
  free : ∀ (j : Nat), j < l.length → w.frozen? ⟨g, j, none⟩ = false
theorem Mix.start {t l : List UInt8} {w : World} {g : Nat} (hl : t.length = l.length) (h : Lies w g l) : Mix t l w g 0 := ⟨hl, fun j b hj => h.cell j b (by simpa using hj), h.free⟩
theorem Mix.old {t l : List UInt8} {w : World} {g k : Nat} {b : UInt8} (h : Mix t l w g k) (hb : l[k]? = some b) : w.cell? ⟨g, k, none⟩ = some (.int .u8 (b.toNat : Int)) := h.cell k b (by rw [if_neg (by omega)]; exact hb)
theorem Mix.set {t l : List UInt8} {w : World} {g k : Nat} {c : UInt8} (h : Mix t l w g k) (hc : t[k]? = some c) : Mix t l (w.setCell ⟨g, k, none⟩ (.int .u8 (c.toNat : Int))) g (k + 1) := by
  refine ⟨h.len, fun j b hj => ?_, fun j hj => by rw [World.frozen?_setCell]; exact h.free j hj⟩
  have hk := lt_of_at hc
  by_cases h1 : j = k
  · subst h1
    rw [if_pos (by omega), hc] at hj
    obtain rfl := Option.some.inj hj
    have hj2 : j < l.length := by rw [← h.len]; exact hk
    exact World.cell?_setCell_same w _ _ (h.old (List.getElem?_eq_getElem hj2))
  · rw [World.cell?_setCell_other w _ _ _ (by intro e; injection e with _ e2 _; exact h1 e2.symm)]
    refine h.cell j b ?_
    by_cases h2 : j < k
    · rw [if_pos h2]; rwa [if_pos (by omega)] at hj
    · rw [if_neg h2]; rwa [if_neg (by omega)] at hj
theorem Mix.skip {t l : List UInt8} {w : World} {g k : Nat} {c : UInt8} (h : Mix t l w g k) (hc : t[k]? = some c) (hl : l[k]? = some c) : Mix t l w g (k + 1) := by
  refine ⟨h.len, fun j b hj => ?_, h.free⟩
  by_cases h1 : j = k
  · subst h1
    rw [if_pos (by omega), hc] at hj
    obtain rfl := Option.some.inj hj
    exact h.old hl
  · refine h.cell j b ?_
    by_cases h2 : j < k
    · rw [if_pos h2]; rwa [if_pos (by omega)] at hj
    · rw [if_neg h2]; rwa [if_neg (by omega)] at hj
theorem Mix.done {t l : List UInt8} {w : World} {g : Nat} (h : Mix t l w g l.length) : ∀ (j : Nat) (b : UInt8), t[j]? = some b → w.cell? ⟨g, j, none⟩ = some (.int .u8 (b.toNat : Int)) := fun j b hj => h.cell j b (by rw [if_pos (by rw [← h.len]; exact lt_of_at hj)]; exact hj)

end Go.Proofs.Ythjcifokmcbaoaa.st
/- step.Right and the reference's Right return whether a step may be. Conditions: texts of at most 2147483647 bytes; the listed variables hold what the program's text lays. -/
namespace Go.Proofs.Ythjcifokmcbaoaa.st
open Go.ChangeShapes Go.WideShapes Go.ChangeAt Go.RowKit gl

def ToldOut (l : List UInt8) (e : Ending) : Prop := (fnL l = false ∧ e = .returned .nilFunc) ∨ (fnL l = true ∧ ∃ (f : Fn) (b : Array Value), e = .returned (.func f #[] b))
theorem r3_drew {w0 wp : World} {b : Nat} {x2 x3 x4 : Value} (h : wp.cell? ⟨b, 2, none⟩ = some x2 ∧ wp.cell? ⟨b, 3, none⟩ = some x3 ∧ wp.cell? ⟨b, 4, none⟩ = some x4 ∧ Hid (Below w0.heap.size w0 wp)) :
    wp.drew.cell? ⟨b, 2, none⟩ = some x2 ∧ wp.drew.cell? ⟨b, 3, none⟩ = some x3 ∧ wp.drew.cell? ⟨b, 4, none⟩ = some x4 ∧ Hid (Below w0.heap.size w0 wp.drew) := ⟨h.1, h.2.1, h.2.2.1, Lib.hid h.2.2.2.out.drew⟩
theorem r3_call {w0 wp w' : World} {b : Nat} {x2 x3 x4 : Value} (h : wp.cell? ⟨b, 2, none⟩ = some x2 ∧ wp.cell? ⟨b, 3, none⟩ = some x3 ∧ wp.cell? ⟨b, 4, none⟩ = some x4 ∧ Hid (Below w0.heap.size w0 wp)) (hb : Below wp.heap.size wp w') :
    w'.cell? ⟨b, 2, none⟩ = some x2 ∧ w'.cell? ⟨b, 3, none⟩ = some x3 ∧ w'.cell? ⟨b, 4, none⟩ = some x4 ∧ Hid (Below w0.heap.size w0 w') :=
  have hlt := World.block_lt_of_cell? _ _ h.1
  ⟨(hb.cell (p := ⟨b, 2, none⟩) hlt).trans h.1, (hb.cell (p := ⟨b, 3, none⟩) hlt).trans h.2.1, (hb.cell (p := ⟨b, 4, none⟩) hlt).trans h.2.2.1, Lib.hid (h.2.2.2.out.trans (hb.mono h.2.2.2.out.size))⟩
theorem isE (s : ByteArray) : s.toList.isEmpty = s.data.toList.isEmpty := by rw [ByteArray.toList_eq]
theorem isE2 (s : ByteArray) : (s.toList == []) = s.data.toList.isEmpty := by rw [ByteArray.toList_eq]; cases s.data.toList <;> rfl
theorem isE3 (s : ByteArray) : (s.toList != []) = !s.data.toList.isEmpty := by rw [bne, isE2]
theorem right_eq (kd : Int) (t k o x : List UInt8) : rightL ⟨kd, t, k, o, x⟩ = (wordL t && (if kd = 1 then wordL k && o.isEmpty && decide (x.length ≤ 200) else if kd = 2 then (wordL k || k.isEmpty) && o.isEmpty && x.isEmpty else if kd = 3 ∨ kd = 6 then wordL k && wordL o && x.isEmpty else if kd = 4 then k.isEmpty && wordL o && x.isEmpty else if kd = 5 then k.isEmpty && o.isEmpty && fnL x else false)) := rfl
end Go.Proofs.Ythjcifokmcbaoaa.st
/- The reference's Right returns whether a step may be. Conditions: texts of at most 2147483647 bytes. -/
namespace Go.Proofs.Ythjcifokmcbaoaa.st
open Go.ChangeShapes Go.WideShapes Go.ChangeAt Go.RowKit gl

end Go.Proofs.Ythjcifokmcbaoaa.st
/- A law for any program: a call of a Go function as one step of a region that draws its order. No program in sight; no conditions beside those stated. -/
namespace Go.Proofs.Ythjcifokmcbaoaa
open Go.RowKit
section
variable {P : Program}
/-- A function that has a Go body is entered. -/
theorem enters {f : FuncId} {fn : Func} (hf : P.funcs[f]? = some fn) (hname : (fn.name == "runtime.NumGoroutine") = false) (hb : fn.body.isSome = true) (args : Array Value) (w : World) : (callFunc f args).run P w = .ok (.enter f args) w := by
  obtain ⟨c, hc⟩ := Option.isSome_iff_exists.1 hb
  exact MuLone.run_callFunc_enter hf hname hc args w
/-- A call, as a step. -/
theorem step_call {ops : Array Oper} {o : Oper} {a : Act} {w : World} {K : Act → World → Prop} {Q : Exit → Act → World → Prop} {E : Prop} (hgd : o.guard = none) (f : FuncId) (xs : Array Operand) (ts : Array TypeId)
    (ho : o.op = .call { callee := .value (.func f), args := xs, argTypes := ts }) (eg : ∀ args w, (callFunc f args).run P w = .ok (.enter f args) w) (args : Array Value) (hargs' : xs.toList.map a.eval = args.toList) (v : Value) (R : World → Prop)
    (hc : Calls P f args w fun e w' => e = .returned v ∧ R w') (hK : ∀ w', R w' → K (a.put o.dst v) w') :
    if Region.wanted o (yielded ops a.tmps) = true then Oper.wp P o a w K Q else E := by
  have hargs : xs.map a.eval = args := by
    apply Array.ext'
    rw [Array.toList_map]
    exact hargs'
  have hw : Region.wanted o (yielded ops a.tmps) = true := by simp [Region.wanted, hgd]
  rw [if_pos hw]
  have hrun : (execOp a.eval o).run P w = .ok (.enter f args) w := by
    simp only [execOp, ho]
    have h1 : a.eval (.func f) = .func (.func f) #[] #[] := rfl
    simp only [resolve, h1, hargs]
    have := eg args w
    simpa [invoke, go_sem] using this
  unfold Oper.wp
  rw [hrun, Oper.upon_enter]
  refine hc.mono fun e w' h => ?_
  obtain ⟨rfl, h⟩ := h
  exact hK w' h
/-- A call that returns or panics, as a step. -/
theorem step_call_or {ops : Array Oper} {o : Oper} {a : Act} {w : World} {K : Act → World → Prop} {Q : Exit → Act → World → Prop} {E : Prop} (hgd : o.guard = none) (f : FuncId) (xs : Array Operand) (ts : Array TypeId)
    (ho : o.op = .call { callee := .value (.func f), args := xs, argTypes := ts }) (eg : ∀ args w, (callFunc f args).run P w = .ok (.enter f args) w) (args : Array Value) (hargs' : xs.toList.map a.eval = args.toList) (e0 : Ending) (chain : List PanicEntry) (he0 : e0 = .panicked chain) (v : Value) (R R2 : World → Prop)
    (hc : Calls P f args w fun e w' => (e = e0 ∧ R w') ∨ (e = .returned v ∧ R2 w')) (hQ : ∀ w', R w' → Q (.panic chain) a w') (hK : ∀ w', R2 w' → K (a.put o.dst v) w') :
    if Region.wanted o (yielded ops a.tmps) = true then Oper.wp P o a w K Q else E := by
  have hargs : xs.map a.eval = args := by
    apply Array.ext'
    rw [Array.toList_map]
    exact hargs'
  have hw : Region.wanted o (yielded ops a.tmps) = true := by simp [Region.wanted, hgd]
  rw [if_pos hw]
  have hrun : (execOp a.eval o).run P w = .ok (.enter f args) w := by
    simp only [execOp, ho]
    have h1 : a.eval (.func f) = .func (.func f) #[] #[] := rfl
    simp only [resolve, h1, hargs]
    have := eg args w
    simpa [invoke, go_sem] using this
  unfold Oper.wp
  rw [hrun, Oper.upon_enter]
  refine hc.mono fun e w' h => ?_
  rcases h with ⟨rfl, h⟩ | ⟨rfl, h⟩
  · subst he0
    exact hQ w' h
  · exact hK w' h
end
end Go.Proofs.Ythjcifokmcbaoaa
/- The reference's Less, find and Pairs of chapter 16 return plain functions. Conditions: texts of at most 2147483647 bytes where words are asked. -/
namespace Go.Proofs.Ythjcifokmcbaoaa.st
open Go.ChangeShapes Go.WideShapes Go.ChangeAt Go.RowKit gl

def idxI (r : Option Nat) : Int := match r with | some i => (i : Int) | none => -1
theorem idxI_none : idxI none = -1 := rfl
theorem idxI_some (i : Nat) : idxI (some i) = (i : Int) := rfl
theorem idxI_neg (r : Option Nat) : (idxI r < 0 ↔ r.isSome = false) := by cases r <;> simp [idxI] <;> omega
def noAt (l : List Pr) (t k : List UInt8) (n : Nat) : Prop := ∀ (j : Nat) (q : Pr), j < n → l[j]? = some q → ¬ (q.table = t ∧ q.key = k)
theorem noAt_succ {l : List Pr} {t k : List UInt8} {n : Nat} {x : Pr} (h : noAt l t k n) (hx : l[n]? = some x) (hn : ¬ (x.table = t ∧ x.key = k)) : noAt l t k (n + 1) := by
  intro j q hj hq
  rcases Nat.lt_or_ge j n with h1 | h1
  · exact h j q h1 hq
  · obtain rfl : j = n := by omega
    rw [hx] at hq
    obtain rfl := Option.some.inj hq
    exact hn
end Go.Proofs.Ythjcifokmcbaoaa.st
