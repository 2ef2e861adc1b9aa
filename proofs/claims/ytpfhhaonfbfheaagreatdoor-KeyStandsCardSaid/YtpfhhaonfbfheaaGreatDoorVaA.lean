/- Plain laws of values: the numbers that digits spell, a value, what a text reads as, what a value prints as, which values may be. No program in sight; no conditions. -/
import Derived.Test.YtpfhhaonfbfheaaGreatDoorPl
import Derived.Lib.AtoiAllCases
import Derived.Lib.ItoaNum
import Derived.Lib.Strings
import Derived.Lib.Join
namespace Go.Proofs.YtpfhhaonfbfheaaGreatDoor.va

abbrev B (l : List UInt8) : ByteArray := ⟨l.toArray⟩
theorem B_toList (s : ByteArray) : B s.data.toList = s := by cases s; rfl
theorem B_inj {a b : List UInt8} (h : B a = B b) : a = b := by
  have := congrArg (fun s : ByteArray => s.data.toList) h
  simpa using this
theorem ba_eq {a b : ByteArray} (h : a.data.toList = b.data.toList) : a = b := by rw [← B_toList a, ← B_toList b, h]
theorem ba_ne {a b : ByteArray} (h : a ≠ b) : a.data.toList ≠ b.data.toList := fun e => h (ba_eq e)

/-! ### Numbers -/
def isDig (b : UInt8) : Bool := decide (48 ≤ b.toNat ∧ b.toNat ≤ 57)
/-- What digits spell, behind what was spelt. -/
def decN (acc : Nat) (l : List UInt8) : Nat := l.foldl (fun a c => a * 10 + (c.toNat - 48)) acc
theorem decN_cons (acc : Nat) (c : UInt8) (r : List UInt8) : decN acc (c :: r) = decN (acc * 10 + (c.toNat - 48)) r := by unfold decN; rw [List.foldl_cons]
theorem decN_nil (acc : Nat) : decN acc [] = acc := by unfold decN; rw [List.foldl_nil]
theorem decN_ge : ∀ (l : List UInt8) (acc : Nat), acc ≤ decN acc l
  | [], acc => Nat.le_refl _
  | c :: r, acc => by
    have := decN_ge r (acc * 10 + (c.toNat - 48))
    rw [decN_cons]
    omega
theorem decN_snoc : ∀ (l : List UInt8) (acc : Nat) (c : UInt8), decN acc (l ++ [c]) = decN acc l * 10 + (c.toNat - 48)
  | l, acc, c => by unfold decN; rw [List.foldl_append, List.foldl_cons, List.foldl_nil]
theorem parse_dec : ∀ (l : List UInt8) (acc : Nat), l.all isDig = true → acc < 18446744073709551616 →
    Lib.parseUint10 acc l = if decN acc l < 18446744073709551616 then .ok (decN acc l) else .range
  | [], acc, _, ha => by
    rw [decN_nil, if_pos ha, Lib.parseUint10]
  | c :: r, acc, h, ha => by
    simp only [List.all_cons, Bool.and_eq_true] at h
    have hc : 48 ≤ c.toNat ∧ c.toNat ≤ 57 := of_decide_eq_true h.1
    have hge := decN_ge r (acc * 10 + (c.toNat - 48))
    rw [Lib.parseUint10, if_pos hc, decN_cons]
    split
    · rw [if_neg (by omega)]
    · split
      · rw [if_neg (by omega)]
      · exact parse_dec r _ h.2 (by omega)

/-- No 0 ahead, and something there. -/
def shaped (l : List UInt8) : Bool := match l with
  | [] => false
  | c :: r => decide (c.toNat ≠ 48) || r.isEmpty
/-- A number; none: it is none. At most one above 2^62. -/
def num (l : List UInt8) : Option Nat := if l.all isDig && shaped l then some (min (decN 0 l) 4611686018427387905) else none
theorem num_le {l : List UInt8} {n : Nat} (h : num l = some n) : n ≤ 4611686018427387905 := by
  unfold num at h
  split at h
  · have := Option.some.inj h; omega
  · cases h
theorem num_bad {l : List UInt8} (h : l.all isDig = false) : num l = none := by unfold num; rw [h]; rfl
theorem num_unshaped {l : List UInt8} (h : shaped l = false) : num l = none := by unfold num; rw [h, Bool.and_false]; rfl
theorem num_some {l : List UInt8} (h : l.all isDig = true) (h2 : shaped l = true) : num l = some (min (decN 0 l) 4611686018427387905) := by unfold num; rw [h, h2]; rfl
theorem num_nil : num [] = none := rfl
/-- Atoi at digits. -/
theorem atoi_dec {l : List UInt8} (h : l.all isDig = true) (h0 : l ≠ []) :
    Lib.atoiAll l = if decN 0 l < 9223372036854775808 then .ok (decN 0 l : Int) else .range := by
  cases l with
  | nil => exact absurd rfl h0
  | cons c r =>
    have hc : 48 ≤ c.toNat ∧ c.toNat ≤ 57 := by
      simp only [List.all_cons, Bool.and_eq_true] at h
      exact of_decide_eq_true h.1
    rw [Lib.atoiAll_plain c r (by omega) (by omega)]
    unfold Lib.parseMag
    rw [if_neg h0, parse_dec _ 0 h (by omega)]
    by_cases h1 : decN 0 (c :: r) < 18446744073709551616
    · rw [if_pos h1]
      show (if _ then _ else _) = _
      by_cases h2 : decN 0 (c :: r) < 9223372036854775808
      · rw [if_pos h2, if_neg (by omega)]
      · rw [if_neg h2, if_pos (by omega)]
    · rw [if_neg h1, if_neg (by omega)]
      rfl

theorem decDigits_lt {u : Nat} (h : u < 10) : Lib.decDigits u = [UInt8.ofNat (48 + u)] := by rw [Lib.decDigits, dif_pos h]
theorem decDigits_ge {u : Nat} (h : ¬ u < 10) : Lib.decDigits u = Lib.decDigits (u / 10) ++ [UInt8.ofNat (48 + u % 10)] := by rw [Lib.decDigits, dif_neg h]
theorem decDigits_all (u : Nat) : (Lib.decDigits u).all isDig = true := by
  induction u using Nat.strongRecOn with
  | _ u ih =>
    rw [Lib.decDigits]
    split
    · rename_i h
      simp only [List.all_cons, List.all_nil, Bool.and_true, isDig]
      have : (UInt8.ofNat (48 + u)).toNat = 48 + u := by simp; omega
      rw [this]
      exact decide_eq_true (by omega)
    · rename_i h
      rw [List.all_append, ih _ (by omega)]
      simp only [List.all_cons, List.all_nil, Bool.and_true, isDig, Bool.true_and]
      have : (UInt8.ofNat (48 + u % 10)).toNat = 48 + u % 10 := by simp; omega
      rw [this]
      exact decide_eq_true (by omega)
theorem decDigits_ne (u : Nat) : Lib.decDigits u ≠ [] := by
  rw [Lib.decDigits]
  split <;> simp
theorem decN_decDigits (u : Nat) : decN 0 (Lib.decDigits u) = u := by
  induction u using Nat.strongRecOn with
  | _ u ih =>
    rw [Lib.decDigits]
    split
    · rename_i h
      have : (UInt8.ofNat (48 + u)).toNat = 48 + u := by simp; omega
      rw [decN_cons, decN_nil, this]
      omega
    · rename_i h
      rw [decN_snoc, ih _ (by omega)]
      have : (UInt8.ofNat (48 + u % 10)).toNat = 48 + u % 10 := by simp; omega
      rw [this]
      omega
theorem shaped_snoc {l : List UInt8} (h : shaped l = true) (c : UInt8) (h0 : l ≠ [48]) : shaped (l ++ [c]) = true := by
  cases l with
  | nil => cases h
  | cons a r =>
    unfold shaped at h ⊢
    simp only [Bool.or_eq_true, decide_eq_true_eq, List.isEmpty_iff] at h
    rcases h with h | rfl
    · simp [h]
    · have : a.toNat ≠ 48 := fun e => h0 (by rw [UInt8.toNat_inj.1 (show a.toNat = (48 : UInt8).toNat from e)])
      simp [this]
theorem decDigits_head (u : Nat) (h : 0 < u) : ∃ c r, Lib.decDigits u = c :: r ∧ c.toNat ≠ 48 := by
  induction u using Nat.strongRecOn with
  | _ u ih =>
    rw [Lib.decDigits]
    split
    · exact ⟨_, _, rfl, by simp; omega⟩
    · obtain ⟨c, r, e, hc⟩ := ih (u / 10) (by omega) (by omega)
      rw [e]
      exact ⟨c, _, rfl, hc⟩
theorem decDigits_shaped (u : Nat) : shaped (Lib.decDigits u) = true := by
  by_cases h : 0 < u
  · obtain ⟨c, r, e, hc⟩ := decDigits_head u h
    rw [e]
    simp [shaped, hc]
  · obtain rfl : u = 0 := by omega
    rw [decDigits_lt (by omega)]
    rfl
theorem num_decDigits {u : Nat} (h : u ≤ 4611686018427387905) : num (Lib.decDigits u) = some u := by
  rw [num_some (decDigits_all u) (decDigits_shaped u), decN_decDigits, Nat.min_eq_left h]

/-- Digits that spell a number without a 0 ahead are that number's digits. -/
theorem decDigits_decN : ∀ (l : List UInt8), l.all isDig = true → shaped l = true → Lib.decDigits (decN 0 l) = l := by
  intro l
  induction hn : l.length using Nat.strongRecOn generalizing l with
  | _ n ih =>
    intro hd hs
    rcases List.eq_nil_or_concat l with rfl | ⟨r, c, rfl⟩
    · cases hs
    · simp only [List.concat_eq_append, List.all_append, List.all_cons, List.all_nil, Bool.and_true, Bool.and_eq_true] at hd
      have hc : 48 ≤ c.toNat ∧ c.toNat ≤ 57 := of_decide_eq_true hd.2
      have hcc : UInt8.ofNat c.toNat = c := by simp
      simp only [List.concat_eq_append] at hs hn ⊢
      rw [decN_snoc]
      cases r with
      | nil =>
        rw [decN_nil, List.nil_append, decDigits_lt (by omega)]
        congr 1
        rw [show 48 + (0 * 10 + (c.toNat - 48)) = c.toNat by omega, hcc]
      | cons a r =>
        have hsa : a.toNat ≠ 48 := by
          simp only [shaped, List.cons_append, Bool.or_eq_true, decide_eq_true_eq, List.isEmpty_iff] at hs
          rcases hs with h | h
          · exact h
          · simp at h
        have hda : 48 ≤ a.toNat ∧ a.toNat ≤ 57 := by
          have := hd.1
          simp only [List.all_cons, Bool.and_eq_true] at this
          exact of_decide_eq_true this.1
        have hge := decN_ge r (0 * 10 + (a.toNat - 48))
        have hpos : 1 ≤ decN 0 (a :: r) := by
          rw [decN_cons]
          omega
        rw [decDigits_ge (by omega), show (decN 0 (a :: r) * 10 + (c.toNat - 48)) / 10 = decN 0 (a :: r) by omega,
          ih (a :: r).length (by simp at hn ⊢; omega) (a :: r) rfl hd.1 (by simp [shaped, hsa]),
          show 48 + (decN 0 (a :: r) * 10 + (c.toNat - 48)) % 10 = c.toNat by omega, hcc]
theorem num_back {l : List UInt8} {n : Nat} (h : num l = some n) (hn : n ≤ 4611686018427387904) : Lib.decDigits n = l := by
  unfold num at h
  split at h
  · rename_i h1
    simp only [Bool.and_eq_true] at h1
    have h2 := Option.some.inj h
    have : decN 0 l = n := by omega
    rw [← this]
    exact decDigits_decN l h1.1 h1.2
  · cases h

/-! ### Values -/
/-- A value. -/
structure Val where
  kind : Int
  int : Int
  text : ByteArray
  words : List ByteArray
  deriving DecidableEq
def zero : Val := ⟨0, 0, ByteArray.empty, []⟩

/-- How many a unit stands for. -/
def unit (k : Int) (l : List UInt8) : Int :=
  if k = 3 then (if l = [] then 1 else if l = [107] then 1024 else if l = [109] then 1048576 else if l = [103] then 1073741824 else 0)
  else if k = 4 then (if l = [115] then 1 else if l = [109] then 60 else if l = [104] then 3600 else if l = [100] then 86400 else 0)
  else 0
theorem unit_nonneg (k : Int) (l : List UInt8) : 0 ≤ unit k l ∧ unit k l ≤ 1073741824 := by
  unfold unit
  repeat' split
  all_goals omega
def least (k : Int) : Int := if k = 2 then -4611686018427387904 else 0
def most (k : Int) : Int := if k = 1 then 1 else if k = 2 then 4611686018427387904 else if k = 3 then 1125899906842624 else if k = 4 then 1099511627776 else 0
def prn (b : UInt8) : Bool := decide (32 ≤ b.toNat ∧ b.toNat ≤ 126)

/-- How many digits stand ahead. -/
def digs : List UInt8 → Nat
  | [] => 0
  | c :: r => if isDig c then digs r + 1 else 0
theorem digs_le : ∀ l : List UInt8, digs l ≤ l.length
  | [] => Nat.le_refl _
  | c :: r => by
    have := digs_le r
    unfold digs
    split <;> simp <;> omega
theorem digs_at {l : List UInt8} {k : Nat} (h : ∀ j b, j < k → l[j]? = some b → isDig b = true) (hk : k ≤ l.length) (he : ∀ b, l[k]? = some b → isDig b = false) : digs l = k := by
  induction l generalizing k with
  | nil => simp at hk; simp [digs, hk]
  | cons c r ih =>
    cases k with
    | zero =>
      have := he c rfl
      simp [digs, this]
    | succ k =>
      have h0 := h 0 c (by omega) rfl
      unfold digs
      rw [if_pos h0, ih (k := k) (fun j b hj hb => h (j + 1) b (by omega) (by simpa using hb)) (by simpa using hk) (fun b hb => he b (by simpa using hb))]
theorem digs_take : ∀ l : List UInt8, (l.take (digs l)).all isDig = true
  | [] => rfl
  | c :: r => by
    unfold digs
    split
    · rename_i h
      simp [h, digs_take r]
    · rfl

/-- A text of a whole number. -/
def parseInt (l : List UInt8) : Val × Int :=
  let neg := l.head? = some 45
  match num (if neg then l.tail else l) with
  | none => (zero, 40)
  | some n => if neg ∧ n = 0 then (zero, 40) else if 4611686018427387904 < n then (zero, 41) else (⟨2, if neg then -(n : Int) else n, ByteArray.empty, []⟩, 0)
/-- How many the unit behind the digits stands for. -/
def tail (k : Int) (l : List UInt8) : Int := if k = 4 ∧ l = [48] then 1 else unit k (l.drop (digs l))
/-- A text of a number with a unit. -/
def parseUnit (k : Int) (l : List UInt8) : Val × Int :=
  match num (l.take (digs l)) with
  | none => (zero, 40)
  | some n => if tail k l = 0 then (zero, 40) else if most k / tail k l < n then (zero, 41) else (⟨k, n * tail k l, ByteArray.empty, []⟩, 0)
def parseText (l : List UInt8) : Val × Int :=
  if l.all prn then (if 200 < l.length then (zero, 42) else (⟨5, 0, B l, []⟩, 0)) else (zero, 40)
/-- isW: what is a word. -/
def parseWords (isW : List UInt8 → Bool) (l : List UInt8) : Val × Int :=
  if l = [] then (⟨6, 0, ByteArray.empty, []⟩, 0)
  else if (pcs 44 l).all isW then (if 200 < l.length ∨ 16 < (pcs 44 l).length then (zero, 42) else (⟨6, 0, ByteArray.empty, (pcs 44 l).map B⟩, 0))
  else (zero, 40)
def yes (l : List UInt8) : Bool := decide (l = [116, 114, 117, 101] ∨ l = [121, 101, 115] ∨ l = [111, 110])
def no (l : List UInt8) : Bool := decide (l = [102, 97, 108, 115, 101] ∨ l = [110, 111] ∨ l = [111, 102, 102])
def parseBool (l : List UInt8) : Val × Int :=
  if yes l then (⟨1, 1, ByteArray.empty, []⟩, 0) else if no l then (⟨1, 0, ByteArray.empty, []⟩, 0) else (zero, 40)
def parse (isW : List UInt8 → Bool) (k : Int) (l : List UInt8) : Val × Int :=
  if k = 1 then parseBool l else if k = 2 then parseInt l else if k = 3 ∨ k = 4 then parseUnit k l else if k = 5 then parseText l else if k = 6 then parseWords isW l else (zero, 1)

def joined (ws : List ByteArray) : List UInt8 := Lib.join (ws.map (·.data.toList)) [44]
/-- May a value be? -/
def right (isW : List UInt8 → Bool) (v : Val) : Bool :=
  (decide (v.kind = 5) || decide (v.text = ByteArray.empty)) && (decide (v.kind = 6) || v.words.isEmpty) &&
  (decide (least v.kind ≤ v.int) && decide (v.int ≤ most v.kind)) &&
  (decide (v.kind = 1 ∨ v.kind = 2 ∨ v.kind = 3 ∨ v.kind = 4) ||
   (decide (v.kind = 5) && (decide (v.text.size ≤ 200) && v.text.data.toList.all prn)) ||
   (decide (v.kind = 6) && (decide (v.words.length ≤ 16) && v.words.all (fun x => isW x.data.toList) && decide ((joined v.words).length ≤ 200))))
/-- The names of the units, the least first. -/
def uname (k : Int) (i : Nat) : List UInt8 :=
  if k = 3 then (match i with | 0 => [] | 1 => [107] | 2 => [109] | _ => [103]) else (match i with | 0 => [115] | 1 => [109] | 2 => [104] | _ => [100])
/-- The greatest unit of which a number is a multiple. -/
def best (k : Int) (n : Int) : Nat :=
  if n = 0 then 0 else if n % unit k (uname k 3) = 0 then 3 else if n % unit k (uname k 2) = 0 then 2 else if n % unit k (uname k 1) = 0 then 1 else 0
def prints (v : Val) : List UInt8 :=
  if v.kind = 1 then (if v.int = 1 then [116, 114, 117, 101] else [102, 97, 108, 115, 101])
  else if v.kind = 2 then Lib.itoa v.int
  else if v.kind = 5 then v.text.data.toList
  else if v.kind = 6 then joined v.words
  else Lib.itoa (v.int / unit v.kind (uname v.kind (best v.kind v.int))) ++ uname v.kind (best v.kind v.int)
def print (isW : List UInt8 → Bool) (v : Val) : List UInt8 × Int := if right isW v then (prints v, 0) else ([], 1)
def within (isW : List UInt8 → Bool) (v : Val) (lo hi : Int) : Bool :=
  right isW v && (if v.kind = 2 ∨ v.kind = 3 ∨ v.kind = 4 then decide (lo ≤ v.int ∧ v.int ≤ hi) else if v.kind = 6 then decide (lo ≤ v.words.length ∧ (v.words.length : Int) ≤ hi) else true)
end Go.Proofs.YtpfhhaonfbfheaaGreatDoor.va
