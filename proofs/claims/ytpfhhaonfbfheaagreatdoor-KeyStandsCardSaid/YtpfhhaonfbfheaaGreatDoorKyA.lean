/- Chapter 5 in plain words: definitions, what may be one, and sets of them. No program in sight beside the words of chapters 2 and 4; no conditions beside those stated. -/
import Derived.Test.YtpfhhaonfbfheaaGreatDoorRow
import Derived.Test.YtpfhhaonfbfheaaGreatDoorGlN
import Derived.Test.YtpfhhaonfbfheaaGreatDoorVaA
namespace Go.Proofs.YtpfhhaonfbfheaaGreatDoor.ky
open gl va ls

/-! ### The order of texts -/
abbrev ltL : List UInt8 → List UInt8 → Bool := Op.bytesLess
theorem ltL_nil (a : List UInt8) : ltL a [] = false := by cases a <;> rfl
theorem ltL_cons (a b : UInt8) (x y : List UInt8) : ltL (a :: x) (b :: y) = (decide (a < b) || (a == b && ltL x y)) := rfl
theorem ltL_irrefl : ∀ a : List UInt8, ltL a a = false
  | [] => rfl
  | a :: x => by rw [ltL_cons, ltL_irrefl x]; simp
theorem ltL_trans : ∀ a b c : List UInt8, ltL a b = true → ltL b c = true → ltL a c = true
  | _, [], _, h, _ => by rw [ltL_nil] at h; cases h
  | _, _ :: _, [], _, h => by rw [ltL_nil] at h; cases h
  | [], _ :: _, _ :: _, _, _ => rfl
  | a :: x, b :: y, c :: z, h1, h2 => by
    rw [ltL_cons] at h1 h2 ⊢
    simp only [Bool.or_eq_true, decide_eq_true_eq, Bool.and_eq_true, beq_iff_eq, UInt8.lt_iff_toNat_lt] at h1 h2 ⊢
    rcases h1 with h1 | ⟨rfl, h1⟩
    · rcases h2 with h2 | ⟨rfl, h2⟩
      · exact .inl (by omega)
      · exact .inl h1
    · rcases h2 with h2 | ⟨rfl, h2⟩
      · exact .inl h2
      · exact .inr ⟨rfl, ltL_trans x y z h1 h2⟩
theorem ltL_total : ∀ a b : List UInt8, ltL a b = false → ltL b a = false → a = b
  | [], [], _, _ => rfl
  | [], _ :: _, h, _ => by cases h
  | _ :: _, [], _, h => by cases h
  | a :: x, b :: y, h1, h2 => by
    rw [ltL_cons] at h1 h2
    simp only [Bool.or_eq_false_iff, decide_eq_false_iff_not, Bool.and_eq_false_iff, beq_eq_false_iff_ne, UInt8.lt_iff_toNat_lt] at h1 h2
    obtain rfl : a = b := UInt8.toNat_inj.1 (by omega)
    rw [ltL_total x y (by rcases h1.2 with h | h; exact absurd rfl h; exact h) (by rcases h2.2 with h | h; exact absurd rfl h; exact h)]

def cmpL (a b : List UInt8) : Int := if ltL a b = true then -1 else if a = b then 0 else 1
theorem cmpB_eq : ∀ a b : List UInt8, Lib.compareBytes a b = cmpL a b
  | [], [] => rfl
  | [], b :: y => rfl
  | a :: x, [] => by
    unfold cmpL
    rw [ltL_nil]
    rfl
  | a :: x, b :: y => by
    have ih := cmpB_eq x y
    unfold Lib.compareBytes cmpL
    rw [ltL_cons]
    by_cases h1 : a < b
    · simp [h1]
    · by_cases h2 : b < a
      · have hne : (a == b) = false := by
          rw [beq_eq_false_iff_ne]
          rintro rfl
          exact h1 h2
        have hne' : a ≠ b := by simpa using hne
        simp [h1, h2, hne, hne']
      · obtain rfl : a = b := UInt8.le_antisymm (UInt8.not_lt.1 h2) (UInt8.not_lt.1 h1)
        simp only [h1, decide_false, BEq.rfl, Bool.true_and, Bool.false_or, if_false, ih, List.cons.injEq, true_and]
        rfl
/-- Where a text stands among texts that ascend, or would. -/
def FoundAt (ids : List (List UInt8)) (t : List UInt8) (k : Nat) (b : Bool) : Prop := k ≤ ids.length ∧ (∀ i x, ids[i]? = some x → (i < k ↔ ltL x t = true)) ∧ b = decide (ids[k]? = some t)
theorem pair_at {α : Type} {S : α → α → Prop} {l : List α} {i j : Nat} {x y : α} (h : l.Pairwise S) (hi : l[i]? = some x) (hj : l[j]? = some y) (hij : i < j) : S x y := by
  obtain ⟨h1, rfl⟩ := List.getElem?_eq_some_iff.1 hi
  obtain ⟨h2, rfl⟩ := List.getElem?_eq_some_iff.1 hj
  exact List.pairwise_iff_getElem.1 h i j h1 h2 hij
def Betw (ids : List (List UInt8)) (t : List UInt8) (i j : Nat) : Prop := ∀ k x, ids[k]? = some x → (k < i → ltL x t = true) ∧ (j ≤ k → ltL x t = false)
theorem betw_up {ids : List (List UInt8)} {t x : List UInt8} {i j h : Nat} (ha : ids.Pairwise fun a b => ltL a b = true) (hB : Betw ids t i j) (hx : ids[h]? = some x) (hl : ltL x t = true) : Betw ids t (h + 1) j := by
  intro k y hy
  refine ⟨fun hk => ?_, (hB k y hy).2⟩
  by_cases he : k = h
  · subst he
    obtain rfl := Option.some.inj (hx.symm.trans hy)
    exact hl
  · exact ltL_trans _ _ _ (pair_at (S := fun a b => ltL a b = true) ha hy hx (by omega)) hl
theorem betw_dn {ids : List (List UInt8)} {t x : List UInt8} {i j h : Nat} (ha : ids.Pairwise fun a b => ltL a b = true) (hB : Betw ids t i j) (hx : ids[h]? = some x) (hl : ltL x t = false) : Betw ids t i h := by
  intro k y hy
  refine ⟨(hB k y hy).1, fun hk => ?_⟩
  by_cases he : k = h
  · subst he
    obtain rfl := Option.some.inj (hx.symm.trans hy)
    exact hl
  · cases hc : ltL y t with
    | false => rfl
    | true =>
      have := ltL_trans _ _ _ (pair_at (S := fun a b => ltL a b = true) ha hx hy (by omega)) hc
      rw [hl] at this
      cases this
theorem betw_end {ids : List (List UInt8)} {t : List UInt8} {i : Nat} (hi : i ≤ ids.length) (hB : Betw ids t i i) : FoundAt ids t i (decide (ids[i]? = some t)) := by
  refine ⟨hi, fun k x hx => ⟨(hB k x hx).1, fun hl => ?_⟩, rfl⟩
  rcases Nat.lt_or_ge k i with h | h
  · exact h
  · rw [(hB k x hx).2 h] at hl
    cases hl

/-! ### Definitions -/
structure Ky where
  name : List UInt8
  kind : Int
  dflt : List UInt8
  least : Int
  most : Int
  letter : List UInt8
deriving DecidableEq
def zK : Ky := ⟨[], 0, [], 0, 0, []⟩
def kyC (x : Ky) : List Value := [.string (B x.name), .int .i64 x.kind, .string (B x.dflt), .int .i64 x.least, .int .i64 x.most, .string (B x.letter)]
def kyV (x : Ky) : Value := .agg #[.string (B x.name), .int .i64 x.kind, .string (B x.dflt), .int .i64 x.least, .int .i64 x.most, .string (B x.letter)]
theorem kyC_len (x : Ky) : (kyC x).length = 6 := rfl
theorem kyC_one (x : Ky) : ∀ v ∈ kyC x, v.oneCell' = true := by
  intro v hv
  simp only [kyC, List.mem_cons, List.not_mem_nil, or_false] at hv
  rcases hv with rfl | rfl | rfl | rfl | rfl | rfl <;> rfl
/-- Texts of lengths that may be. -/
def KyOk (x : Ky) : Prop := x.name.length ≤ 2147483647 ∧ x.dflt.length ≤ 2147483647 ∧ x.letter.length ≤ 2147483647 ∧ (-9223372036854775808 ≤ x.kind ∧ x.kind ≤ 9223372036854775807) ∧ (-9223372036854775808 ≤ x.least ∧ x.least ≤ 9223372036854775807) ∧ (-9223372036854775808 ≤ x.most ∧ x.most ≤ 9223372036854775807)
def letterL : List UInt8 → Bool
  | [] => true
  | [b] => decide (97 ≤ b.toNat) && decide (b.toNat ≤ 122) && decide (b.toNat ≠ 104)
  | _ => false
/-- The bounds of a kind's numbers. -/
def bndL (k : Int) : Int × Int × Bool :=
  if k = 2 then (-4611686018427387904, 4611686018427387904, true) else if k = 3 then (0, 1125899906842624, true) else if k = 4 then (0, 1099511627776, true) else if k = 6 then (0, 16, true) else (0, 0, false)
def formL (x : Ky) : Bool := nameL x.name && letterL x.letter && (if (bndL x.kind).2.2 = true then decide ((bndL x.kind).1 ≤ x.least) && decide (x.least ≤ x.most) && decide (x.most ≤ (bndL x.kind).2.1) else decide (x.kind = 1 ∨ x.kind = 5) && decide (x.least = 0) && decide (x.most = 0))
def findK (S : List Ky) (t : List UInt8) : Option Ky := S.find? fun y => decide (y.name = t)
def lettK (S : List Ky) (t : List UInt8) : Option Ky := if t = [] then none else S.find? fun y => decide (y.letter = t)
def insK (S : List Ky) (x : Ky) : List Ky := (S.takeWhile fun y => ltL y.name x.name) ++ x :: (S.dropWhile fun y => ltL y.name x.name)
/-- A set's definitions ascend by their names. -/
def AscK (S : List Ky) : Prop := (S.map (·.name)).Pairwise fun a b => ltL a b = true

/-! ### Search -/
theorem find_none {S : List Ky} {t : List UInt8} (h : findK S t = none) : ∀ y ∈ S, y.name ≠ t := by
  intro y hy e
  have := List.find?_eq_none.1 h y hy
  simp [e] at this
theorem find_some {S : List Ky} {t : List UInt8} {x : Ky} (h : findK S t = some x) : x ∈ S ∧ x.name = t := by
  refine ⟨List.mem_of_find?_eq_some h, ?_⟩
  have := List.find?_some h
  simpa using this
theorem asc_inj {S : List Ky} (ha : AscK S) {i j : Nat} {x y : Ky} (hi : S[i]? = some x) (hj : S[j]? = some y) (he : x.name = y.name) : i = j := by
  have hi' : (S.map (·.name))[i]? = some x.name := by rw [List.getElem?_map, hi]; rfl
  have hj' : (S.map (·.name))[j]? = some y.name := by rw [List.getElem?_map, hj]; rfl
  rcases Nat.lt_trichotomy i j with h | h | h
  · have := pair_at (S := fun a b => ltL a b = true) ha hi' hj' h
    rw [he, ltL_irrefl] at this
    cases this
  · exact h
  · have := pair_at (S := fun a b => ltL a b = true) ha hj' hi' h
    rw [he, ltL_irrefl] at this
    cases this
/-- What the binary search tells. -/
theorem found_find {S : List Ky} {t : List UInt8} {k : Nat} {b : Bool} (ha : AscK S) (h : FoundAt (S.map (·.name)) t k b) : (b = true → ∃ x, S[k]? = some x ∧ findK S t = some x) ∧ (b = false → findK S t = none) := by
  obtain ⟨_, h2, h3⟩ := h
  refine ⟨fun hb => ?_, fun hb => ?_⟩
  · rw [hb] at h3
    have h4 := of_decide_eq_true h3.symm
    rw [List.getElem?_map] at h4
    obtain ⟨x, hx, hn⟩ := Option.map_eq_some_iff.1 h4
    refine ⟨x, hx, ?_⟩
    cases hf : findK S t with
    | none => exact absurd hn (find_none hf x (List.mem_of_getElem? hx))
    | some y =>
      obtain ⟨hy, hyn⟩ := find_some hf
      obtain ⟨j, hj⟩ := List.getElem?_of_mem hy
      have := asc_inj ha hx hj (hn.trans hyn.symm)
      subst this
      exact hj.symm.trans hx
  · rw [hb] at h3
    have h4 := of_decide_eq_false h3.symm
    cases hf : findK S t with
    | none => rfl
    | some y =>
      obtain ⟨hy, hyn⟩ := find_some hf
      obtain ⟨j, hj⟩ := List.getElem?_of_mem hy
      have hj' : (S.map (·.name))[j]? = some t := by rw [List.getElem?_map, hj, ← hyn]; rfl
      exfalso
      have hjk : ¬ j < k := fun hlt => by
        have := (h2 j t hj').1 hlt
        rw [ltL_irrefl] at this
        cases this
      rcases Nat.lt_or_ge k j with hlt | hge
      · obtain ⟨z, hz⟩ : ∃ z, (S.map (·.name))[k]? = some z := ⟨_, List.getElem?_eq_getElem (by have := lt_get hj'; omega)⟩
        have hzt := pair_at (S := fun a b => ltL a b = true) ha hz hj' hlt
        have := (h2 k z hz).2 hzt
        omega
      · obtain rfl : j = k := by omega
        exact h4 hj'
/-- Where the new one goes. -/
theorem ins_at {S : List Ky} {x : Ky} {k : Nat} {b : Bool} (h : FoundAt (S.map (·.name)) x.name k b) : insK S x = S.take k ++ x :: S.drop k := by
  obtain ⟨h1, h2, _⟩ := h
  rw [List.length_map] at h1
  have hS : S = S.take k ++ S.drop k := (List.take_append_drop k S).symm
  have htk : ∀ y ∈ S.take k, ltL y.name x.name = true := fun y hy => by
    obtain ⟨i, hi⟩ := List.getElem?_of_mem hy
    rw [List.getElem?_take] at hi
    split at hi
    · rename_i hik
      exact (h2 i y.name (by rw [List.getElem?_map, hi]; rfl)).1 hik
    · cases hi
  have hdk : ∀ y, (S.drop k).head? = some y → ltL y.name x.name = false := fun y hy => by
    rw [List.head?_drop] at hy
    cases hl : ltL y.name x.name with
    | false => rfl
    | true =>
      have := (h2 k y.name (by rw [List.getElem?_map, hy]; rfl)).2 hl
      omega
  have hdw : ∀ l : List Ky, (∀ y, l.head? = some y → ltL y.name x.name = false) → l.takeWhile (fun y => ltL y.name x.name) = [] ∧ l.dropWhile (fun y => ltL y.name x.name) = l := fun l hl => by
    cases l with
    | nil => exact ⟨rfl, rfl⟩
    | cons y r =>
      have := hl y rfl
      exact ⟨by rw [List.takeWhile_cons, this]; rfl, by rw [List.dropWhile_cons, this]; rfl⟩
  obtain ⟨e1, e2⟩ := hdw _ hdk
  unfold insK
  conv => lhs; rw [hS]
  rw [List.takeWhile_append_of_pos htk, List.dropWhile_append_of_pos htk, e1, e2, List.append_nil]
theorem ins_asc {S : List Ky} {x : Ky} {k : Nat} {b : Bool} (ha : AscK S) (h : FoundAt (S.map (·.name)) x.name k b) (hn : findK S x.name = none) : AscK (insK S x) := by
  have e := ins_at h
  obtain ⟨h1, h2, _⟩ := h
  rw [e]
  unfold AscK at ha ⊢
  rw [List.map_append, List.map_cons, List.pairwise_append]
  have hm : (S.take k).map (·.name) = (S.map (·.name)).take k := List.map_take
  have hd : (S.drop k).map (·.name) = (S.map (·.name)).drop k := List.map_drop
  have hlo : ∀ a ∈ (S.map (·.name)).take k, ltL a x.name = true := fun a haa => by
    obtain ⟨i, hi⟩ := List.getElem?_of_mem haa
    rw [List.getElem?_take] at hi
    split at hi
    · rename_i hik
      exact (h2 i a hi).1 hik
    · cases hi
  have hhi : ∀ a ∈ (S.map (·.name)).drop k, ltL x.name a = true := fun a haa => by
    obtain ⟨i, hi⟩ := List.getElem?_of_mem haa
    rw [List.getElem?_drop] at hi
    have hge : ltL a x.name = false := by
      cases hl : ltL a x.name with
      | false => rfl
      | true => have := (h2 (k + i) a hi).2 hl; omega
    cases hl : ltL x.name a with
    | true => rfl
    | false =>
      have he := ltL_total _ _ hge hl
      obtain ⟨y, hy, hyn⟩ := List.mem_map.1 (List.mem_of_getElem? hi)
      exact absurd (hyn.trans he) (find_none hn y hy)
  have hsub := List.pairwise_append.1 (by rw [List.take_append_drop]; exact ha : ((S.map (·.name)).take k ++ (S.map (·.name)).drop k).Pairwise fun a b => ltL a b = true)
  rw [hm, hd]
  refine ⟨hsub.1, List.pairwise_cons.2 ⟨hhi, hsub.2.1⟩, fun a ha' b hb' => ?_⟩
  rcases List.mem_cons.1 hb' with rfl | hb'
  · exact hlo a ha'
  · exact hsub.2.2 a ha' b hb'
end Go.Proofs.YtpfhhaonfbfheaaGreatDoor.ky
