/- Chapter 6 in plain words: what a file gives, and the file of lines. Laws on lists of bytes; no program in sight, no conditions beside those stated. -/
import Derived.Test.YtkbamhecbfocbaaDoorGlU
namespace Go.Proofs.YtkbamhecbfocbaaDoor.ini
open gl

def blk (b : UInt8) : Bool := b == 32 || b == 9
def triL (l : List UInt8) : List UInt8 := l.dropWhile blk
def triR (l : List UInt8) : List UInt8 := (l.reverse.dropWhile blk).reverse
def tri (l : List UInt8) : List UInt8 := triR (triL l)
def prn (l : List UInt8) : Bool := l.all fun b => decide (32 ≤ b.toNat ∧ b.toNat ≤ 126)
structure Ln where
  name : List UInt8
  text : List UInt8
  num : Int
/-- What a text means. -/
noncomputable def unqO (t : List UInt8) : Option (List UInt8) := if t.head? = some 34 then (if unqE t = 0 then some (unqL t) else none) else if prn t = true then some t else none
noncomputable def meantL (t : List UInt8) : Option (List UInt8) := match unqO t with
  | none => none
  | some s => if s.length ≤ 200 then some s else none
/-- What stands behind the bracket. -/
def secOk (p : List UInt8) : Bool := decide ((pcs 46 p).length ≤ 2) && (pcs 46 p).all partL
def secL (r : List UInt8) : Option (List UInt8) :=
  if r.getLast? = some 93 then (if r.dropLast = [] then some [] else if secOk r.dropLast = true then some (r.dropLast ++ [46]) else none) else none
def beforeE (x : List UInt8) : List UInt8 := x.takeWhile (· != 61)
def afterE (x : List UInt8) : List UInt8 := (x.dropWhile (· != 61)).drop 1
def there (out : List Ln) (n : List UInt8) : Bool := out.any fun y => decide (y.name = n)
noncomputable def givenL (ahead : List UInt8) (out : List Ln) (x : List UInt8) : Option (List UInt8 × List UInt8) :=
  if (61 : UInt8) ∈ x ∧ nameL (ahead ++ triR (beforeE x)) = true ∧ there out (ahead ++ triR (beforeE x)) = false then (meantL (triL (afterE x))).map fun t => (ahead ++ triR (beforeE x), t) else none
/-- One line, its blanks off: the section, and what is given. -/
noncomputable def lineT (ahead : List UInt8) (out : List Ln) : List UInt8 → Option (List UInt8 × Option (List UInt8 × List UInt8))
  | [] => some (ahead, none)
  | c :: r => if c = 59 ∨ c = 35 then some (ahead, none) else if c = 91 then (secL r).map fun a => (a, none) else (givenL ahead out (c :: r)).map fun p => (ahead, some p)
theorem lineT_cons (ahead : List UInt8) (out : List Ln) (c : UInt8) (r : List UInt8) : lineT ahead out (c :: r) = if c = 59 ∨ c = 35 then some (ahead, none) else if c = 91 then (secL r).map fun a => (a, none) else (givenL ahead out (c :: r)).map fun p => (ahead, some p) := rfl
noncomputable def lineL (ahead : List UInt8) (out : List Ln) (s : List UInt8) := lineT ahead out (tri s)
noncomputable def runL : Nat → List UInt8 → List Ln → List (List UInt8) → List Ln × Int × Int
  | _, _, out, [] => (out, 0, 0)
  | k, ahead, out, s :: ss => match lineL ahead out s with
    | none => ([], 60, (k : Int) + 1)
    | some (a, none) => runL (k + 1) a out ss
    | some (a, some (n, t)) => runL (k + 1) a (out ++ [⟨n, t, (k : Int) + 1⟩]) ss
noncomputable def parseL (l : List UInt8) : List Ln × Int × Int := if l.length ≤ 8000 then runL 0 [] [] (pcs 10 l) else ([], 61, 0)

/-! ### The file of lines -/
def bareL (t : List UInt8) : Bool := !t.isEmpty && prn t && decide (t.head? ≠ some 34) && decide (tri t = t)
def textL (t : List UInt8) : List UInt8 := if bareL t = true then t else quoteL t
def headL (x : Ln) : List UInt8 := x.name ++ [32, 61, 32] ++ textL x.text
def lineOut (x : Ln) : List UInt8 := headL x ++ [10]
def mayL (done : List Ln) (x : Ln) : Bool := nameL x.name && !there done x.name && decide (x.text.length ≤ 200)
def prL (done : List Ln) (out : List UInt8) : List Ln → List UInt8 × Int
  | [] => (out, 0)
  | x :: r => if mayL done x = true ∧ (out ++ lineOut x).length ≤ 8000 then prL (done ++ [x]) (out ++ lineOut x) r else ([], 1)
def printL (l : List Ln) : List UInt8 × Int := prL [] [] l

/-! ### Blanks -/
theorem tri_nil : tri [] = [] := rfl
theorem dropWhile_all {l : List UInt8} (h : ∀ b ∈ l, blk b = true) : l.dropWhile blk = [] := by
  induction l with
  | nil => rfl
  | cons c r ih => rw [List.dropWhile_cons, if_pos (h c (by simp))]; exact ih fun b hb => h b (by simp [hb])
theorem dropWhile_pre {p l : List UInt8} (h : ∀ b ∈ p, blk b = true) : (p ++ l).dropWhile blk = l.dropWhile blk := by
  induction p with
  | nil => rfl
  | cons c r ih => rw [List.cons_append, List.dropWhile_cons, if_pos (h c (by simp))]; exact ih fun b hb => h b (by simp [hb])
theorem triL_pre {p l : List UInt8} (h : ∀ b ∈ p, blk b = true) : triL (p ++ l) = triL l := dropWhile_pre h
theorem triR_suf {p l : List UInt8} (h : ∀ b ∈ p, blk b = true) : triR (l ++ p) = triR l := by
  unfold triR
  rw [List.reverse_append, dropWhile_pre fun b hb => h b (by simpa using hb)]
theorem triL_first {c : UInt8} {r : List UInt8} (h : blk c = false) : triL (c :: r) = c :: r := by
  unfold triL; rw [List.dropWhile_cons, if_neg (by simp [h])]
theorem triR_last {c : UInt8} {r : List UInt8} (h : blk c = false) : triR (r ++ [c]) = r ++ [c] := by
  unfold triR
  rw [List.reverse_append, List.reverse_singleton, List.singleton_append, List.dropWhile_cons, if_neg (by simp [h])]
  simp
theorem triL_suf {p l : List UInt8} (h : ∀ b ∈ p, blk b = true) : triL (l ++ p) = triL l ++ (if triL l = [] then [] else p) := by
  induction l with
  | nil => simp [triL, dropWhile_all h]
  | cons c r ih =>
    cases hc : blk c with
    | true =>
      have e1 : triL (c :: r ++ p) = triL (r ++ p) := by unfold triL; rw [List.cons_append, List.dropWhile_cons, if_pos hc]
      have e2 : triL (c :: r) = triL r := by unfold triL; rw [List.dropWhile_cons, if_pos hc]
      rw [e1, e2, ih]
    | false =>
      rw [List.cons_append, triL_first hc, triL_first hc, if_neg (by simp)]
      rfl
theorem tri_pre {p l : List UInt8} (h : ∀ b ∈ p, blk b = true) : tri (p ++ l) = tri l := by unfold tri; rw [triL_pre h]
theorem tri_suf {p l : List UInt8} (h : ∀ b ∈ p, blk b = true) : tri (l ++ p) = tri l := by
  unfold tri
  rw [triL_suf h]
  split
  · simp
  · exact triR_suf h
theorem takeWhile_blk {l : List UInt8} {b : UInt8} (h : b ∈ l.takeWhile blk) : blk b = true := by
  induction l with
  | nil => simp at h
  | cons c r ih =>
    rw [List.takeWhile_cons] at h
    split at h
    · rcases List.mem_cons.1 h with rfl | h
      · assumption
      · exact ih h
    · simp at h
theorem triR_nil_or (l : List UInt8) : triR l = [] ∨ ∃ r c, triR l = r ++ [c] ∧ blk c = false := by
  unfold triR
  cases h : l.reverse.dropWhile blk with
  | nil => left; rfl
  | cons c r =>
    right
    refine ⟨r.reverse, c, by simp, ?_⟩
    have := List.head?_dropWhile_not blk l.reverse
    rw [h] at this
    simpa using this
theorem triL_nil_or (l : List UInt8) : triL l = [] ∨ ∃ r c, triL l = c :: r ∧ blk c = false := by
  unfold triL
  cases h : l.dropWhile blk with
  | nil => left; rfl
  | cons c r =>
    right
    refine ⟨r, c, rfl, ?_⟩
    have := List.head?_dropWhile_not blk l
    rw [h] at this
    simpa using this
theorem triR_prefix (l : List UInt8) : ∃ p, l = triR l ++ p ∧ ∀ b ∈ p, blk b = true := by
  refine ⟨(l.reverse.takeWhile blk).reverse, ?_, fun b hb => ?_⟩
  · unfold triR
    rw [← List.reverse_append, List.takeWhile_append_dropWhile, List.reverse_reverse]
  · exact takeWhile_blk (by simpa using hb)
theorem triL_suffix (l : List UInt8) : ∃ p, l = p ++ triL l ∧ ∀ b ∈ p, blk b = true := by
  refine ⟨l.takeWhile blk, ?_, fun b hb => takeWhile_blk hb⟩
  unfold triL
  rw [List.takeWhile_append_dropWhile]
/-- What is trimmed begins and ends with no blank. -/
theorem tri_ends (l : List UInt8) : tri l = [] ∨ (∃ r c, tri l = c :: r ∧ blk c = false) ∧ ∃ r c, tri l = r ++ [c] ∧ blk c = false := by
  rcases triR_nil_or (triL l) with h | ⟨r, c, h, hc⟩
  · exact .inl h
  · right
    refine ⟨?_, r, c, h, hc⟩
    rcases triL_nil_or l with h2 | ⟨r2, d, h2, hd⟩
    · unfold triR at h; rw [h2] at h; simp at h
    · obtain ⟨p, hp, _⟩ := triR_prefix (triL l)
      rw [h, h2] at hp
      show ∃ r c, triR (triL l) = c :: r ∧ blk c = false
      rw [h]
      cases r with
      | nil => exact ⟨[], c, rfl, hc⟩
      | cons a r' =>
        simp at hp
        exact ⟨r' ++ [c], a, rfl, by rw [← hp.1]; exact hd⟩
theorem tri_len (l : List UInt8) : (tri l).length ≤ l.length := by
  obtain ⟨p, hp, _⟩ := triR_prefix (triL l)
  obtain ⟨q, hq, _⟩ := triL_suffix l
  have h1 := congrArg List.length hp
  have h2 := congrArg List.length hq
  simp at h1 h2
  show (triR (triL l)).length ≤ _
  omega
theorem triR_len (l : List UInt8) : (triR l).length ≤ l.length := by
  obtain ⟨p, hp, _⟩ := triR_prefix l
  have h1 := congrArg List.length hp
  simp at h1
  omega
theorem triL_len (l : List UInt8) : (triL l).length ≤ l.length := by
  obtain ⟨p, hp, _⟩ := triL_suffix l
  have h1 := congrArg List.length hp
  simp at h1
  omega
/-- Lines that are the same without their blanks give the same. -/
theorem runL_congr : ∀ (k : Nat) (a : List UInt8) (out : List Ln) (ss tt : List (List UInt8)), ss.map tri = tt.map tri → runL k a out ss = runL k a out tt
  | k, a, out, [], [], _ => rfl
  | k, a, out, [], t :: tt, h => by simp at h
  | k, a, out, s :: ss, [], h => by simp at h
  | k, a, out, s :: ss, t :: tt, h => by
    simp only [List.map_cons, List.cons.injEq] at h
    have e : lineL a out s = lineL a out t := by unfold lineL; rw [h.1]
    rw [runL, runL, e]
    split
    · rfl
    · exact runL_congr _ _ _ _ _ h.2
    · exact runL_congr _ _ _ _ _ h.2
end Go.Proofs.YtkbamhecbfocbaaDoor.ini
