/- Laws on memory for any program: a slice that reads as a list of structs of k cells each, and one that lies in memory of its own. No program in sight; no conditions beside those stated. -/
import Derived.Test.YtpfhhaonfbfheaaGreatDoorLst
namespace Go.Proofs.YtpfhhaonfbfheaaGreatDoor.rw
open Go.RowKit ls

section
variable {α : Type} (enc : α → List Value) (k : Nat)
def flat (l : List α) : List Value := l.flatMap enc
variable {enc k}
theorem flat_len (hk : ∀ x, (enc x).length = k) : ∀ l : List α, (flat enc l).length = l.length * k
  | [] => by simp [flat]
  | x :: r => by
    have := flat_len hk r
    simp only [flat, List.flatMap_cons, List.length_append, List.length_cons] at this ⊢
    rw [this, hk, Nat.succ_mul]
    omega
theorem flat_at (hk : ∀ x, (enc x).length = k) : ∀ (l : List α) (j : Nat) (x : α) (i : Nat) (v : Value), l[j]? = some x → (enc x)[i]? = some v → (flat enc l)[j * k + i]? = some v
  | [], j, x, i, v, h, _ => by simp at h
  | y :: r, 0, x, i, v, h, hv => by
    simp at h
    subst h
    have hi := lt_get hv
    simp only [flat, List.flatMap_cons]
    rw [List.getElem?_append_left (by omega)]
    simpa using hv
  | y :: r, j + 1, x, i, v, h, hv => by
    have := flat_at hk r j x i v (by simpa using h) hv
    simp only [flat, List.flatMap_cons]
    have e : (j + 1) * k = j * k + k := Nat.succ_mul j k
    rw [List.getElem?_append_right (by rw [hk]; omega), hk, ← this]
    simp only [flat]
    congr 1
    omega
theorem flat_snoc (l : List α) (x : α) : flat enc (l ++ [x]) = flat enc l ++ enc x := by simp [flat]
theorem flat_append (l m : List α) : flat enc (l ++ m) = flat enc l ++ flat enc m := by simp [flat]
theorem flat_one (h1 : ∀ x, ∀ v ∈ enc x, v.oneCell' = true) (l : List α) : ∀ v ∈ flat enc l, v.oneCell' = true := by
  intro v hv
  obtain ⟨x, _, hx⟩ := List.mem_flatMap.1 hv
  exact h1 x v hx

variable (enc k)
/-- A slice reads as a list. -/
def Rw (w : World) (v : Value) (l : List α) : Prop :=
  ∃ (p : Option Addr) (c : Nat), v = .slice p l.length c ∧ l.length ≤ c ∧ (l = [] ∨ ∃ b o, p = some ⟨b, o, none⟩ ∧ b < w.heap.size ∧ ∀ (j : Nat) (x : α), l[j]? = some x → ∀ (i : Nat) (u : Value), (enc x)[i]? = some u → w.cell? ⟨b, o + (j * k + i), none⟩ = some u)
variable {enc k}
theorem Rw.later {w w' : World} {v : Value} {l : List α} (h : Rw enc k w v l) (hb : Below w.heap.size w w') : Rw enc k w' v l := by
  obtain ⟨p, c, rfl, hc, h⟩ := h
  refine ⟨p, c, rfl, hc, ?_⟩
  rcases h with h | ⟨b, o, rfl, hlt, hat⟩
  · exact .inl h
  · exact .inr ⟨b, o, rfl, by have := hb.size; omega, fun j x hx i u hu => (hb.cell (p := ⟨b, o + (j * k + i), none⟩) hlt).trans (hat j x hx i u hu)⟩
theorem Rw.upd {w w' : World} {S : List Nat} {v : Value} {l : List α} (h : Rw enc k w v l) (hu : Upd S w w') (hn : ∀ g, v.ownBlock = some g → g ∉ S) : Rw enc k w' v l := by
  obtain ⟨p, c, rfl, hc, h⟩ := h
  refine ⟨p, c, rfl, hc, ?_⟩
  rcases h with h | ⟨b, o, rfl, hlt, hat⟩
  · exact .inl h
  · exact .inr ⟨b, o, rfl, by have := hu.size; omega, fun j x hx i u hu' => (hu.cell (p := ⟨b, o + (j * k + i), none⟩) hlt (hn b rfl)).trans (hat j x hx i u hu')⟩
theorem Rw.cell {w : World} {b o n c : Nat} {l : List α} (h : Rw enc k w (.slice (some ⟨b, o, none⟩) n c) l) {j : Nat} {x : α} (hx : l[j]? = some x) {i : Nat} {u : Value} (hu : (enc x)[i]? = some u) : w.cell? ⟨b, o + (j * k + i), none⟩ = some u := by
  obtain ⟨p, c', he, hc, h⟩ := h
  cases he
  rcases h with rfl | ⟨b', o', hp, hlt, hat⟩
  · simp at hx
  · cases hp
    exact hat j x hx i u hu
theorem Rw.ptr {w : World} {p : Option Addr} {n c : Nat} {l : List α} (h : Rw enc k w (.slice p n c) l) : l.length = n ∧ n ≤ c ∧ (0 < n → ∃ b o, p = some ⟨b, o, none⟩ ∧ b < w.heap.size) := by
  obtain ⟨p', c', he, hc, h⟩ := h
  cases he
  refine ⟨rfl, hc, fun hn => ?_⟩
  rcases h with rfl | ⟨b, o, hp, hlt, _⟩
  · simp at hn
  · exact ⟨b, o, hp, hlt⟩
theorem Rw.form {w : World} {v : Value} {l : List α} (h : Rw enc k w v l) : ∃ p c, v = .slice p l.length c := by
  obtain ⟨p, c, rfl, _⟩ := h
  exact ⟨p, c, rfl⟩
/-- The first of them. -/
theorem Rw.take {w : World} {p : Option Addr} {n c m : Nat} {l : List α} (h : Rw enc k w (.slice p n c) l) (hm : m ≤ n) : Rw enc k w (.slice p m c) (l.take m) := by
  obtain ⟨h1, h2, _⟩ := h.ptr
  obtain ⟨p', c', he, hc, h⟩ := h
  cases he
  refine ⟨p, c, by rw [List.length_take, Nat.min_eq_left hm], by rw [List.length_take]; omega, ?_⟩
  rcases h with rfl | ⟨b, o, rfl, hlt, hat⟩
  · exact .inl (by simp)
  · refine .inr ⟨b, o, rfl, hlt, fun j x hx => hat j x ?_⟩
    rw [List.getElem?_take] at hx
    split at hx
    · exact hx
    · cases hx
theorem rw_nil (w : World) (p : Option Addr) (c : Nat) : Rw enc k w (.slice p 0 c) [] := ⟨p, c, rfl, by simp, .inl rfl⟩
theorem own_rw (hk : ∀ x, (enc x).length = k) {T : TypeId} {w : World} {Bs n : Nat} {v : Value} {l : List α} (hk0 : 0 < k) (h : w.ownsRow Bs T k v n (flat enc l)) : Rw enc k w v l := by
  have hl : l.length = n := by
    have := h.1
    rw [flat_len hk] at this
    exact Nat.eq_of_mul_eq_mul_right hk0 this
  rcases h.2 with ⟨rfl, h0⟩ | ⟨g, cap, cur, rfl, hg, hb, hnc, _⟩
  · subst h0
    exact ⟨none, 0, by rw [hl], by omega, .inl (List.eq_nil_of_length_eq_zero hl)⟩
  · subst hl
    refine ⟨_, cap, rfl, hnc, .inr ⟨g, 0, rfl, lt_of_block hb, fun j x hx i u hu => ?_⟩⟩
    have := h.cells (g := g) rfl (j * k + i) u (flat_at hk l j x i u hx hu)
    rwa [addN] at this
theorem own_len (hk : ∀ x, (enc x).length = k) {T : TypeId} {w : World} {Bs n : Nat} {v : Value} {l : List α} (hk0 : 0 < k) (h : w.ownsRow Bs T k v n (flat enc l)) : l.length = n := by
  have := h.1
  rw [flat_len hk] at this
  exact Nat.eq_of_mul_eq_mul_right hk0 this
variable (enc k)
/-- A list of its own, from block M on; an empty one may lie anywhere, if it has no room. -/
def NewRw (T : TypeId) (M : Nat) (w : World) (v : Value) (l : List α) : Prop :=
  (l = [] ∧ v = .slice none 0 0) ∨ ∃ g c cs, v = .slice (some ⟨g, 0, none⟩) l.length c ∧ l.length ≤ c ∧ M ≤ g ∧ w.heap[g]? = some (.cells cs T (0, 0)) ∧ c * k ≤ cs.size ∧ At cs 0 (flat enc l)
variable {enc k}
theorem own_new (hk : ∀ x, (enc x).length = k) {T : TypeId} {w : World} {Bs n : Nat} {v : Value} {l : List α} (hk0 : 0 < k) (h : w.ownsRow Bs T k v n (flat enc l)) : NewRw enc k T Bs w v l := by
  have hl := own_len hk hk0 h
  rcases h.2 with ⟨rfl, h0⟩ | ⟨g, cap, cur, rfl, hg, hb, hnc, hcm, hcs, htake⟩
  · subst h0
    exact .inl ⟨List.eq_nil_of_length_eq_zero hl, rfl⟩
  · subst hl
    refine .inr ⟨g, cap, cur, rfl, hnc, hg, hb, by omega, fun i v hv => ?_⟩
    have hi := lt_get hv
    rw [flat_len hk] at hi
    rw [← htake, List.getElem?_take_of_lt (by omega)] at hv
    rw [Array.getElem?_toList] at hv
    rwa [Nat.zero_add]
theorem NewRw.rw (hk : ∀ x, (enc x).length = k) {T : TypeId} {M : Nat} {w : World} {v : Value} {l : List α} (h : NewRw enc k T M w v l) : Rw enc k w v l := by
  rcases h with ⟨rfl, rfl⟩ | ⟨g, c, cs, rfl, hc, _, hb, _, hat⟩
  · exact ⟨none, 0, rfl, by simp, .inl rfl⟩
  · refine ⟨_, c, rfl, hc, .inr ⟨g, 0, rfl, lt_of_block hb, fun j x hx i u hu => ?_⟩⟩
    rw [cell_in hb]
    exact hat (j * k + i) u (flat_at hk l j x i u hx hu)
theorem NewRw.later {T : TypeId} {M : Nat} {w w' : World} {v : Value} {l : List α} (h : NewRw enc k T M w v l) (hb : Below w.heap.size w w') : NewRw enc k T M w' v l := by
  rcases h with h | ⟨g, c, cs, rfl, hc, hg, hbk, h2⟩
  · exact .inl h
  · exact .inr ⟨g, c, cs, rfl, hc, hg, (hb.block g (lt_of_block hbk)).trans hbk, h2⟩
theorem NewRw.mono {T : TypeId} {M M' : Nat} {w : World} {v : Value} {l : List α} (h : NewRw enc k T M w v l) (hM : M' ≤ M) : NewRw enc k T M' w v l := by
  rcases h with h | ⟨g, c, cs, h1, h2, h3, h4⟩
  · exact .inl h
  · exact .inr ⟨g, c, cs, h1, h2, by omega, h4⟩
theorem NewRw.keep {T : TypeId} {M : Nat} {w w' : World} {v : Value} {l : List α} (h : NewRw enc k T M w v l) (hk : SK T w w') : NewRw enc k T M w' v l := by
  rcases h with h | ⟨g, c, cs, h1, h2, h3, h4, h5⟩
  · exact .inl h
  · exact .inr ⟨g, c, cs, h1, h2, h3, hk g cs h4, h5⟩
theorem NewRw.form {T : TypeId} {M : Nat} {w : World} {v : Value} {l : List α} (h : NewRw enc k T M w v l) : ∃ p c, v = .slice p l.length c := by
  rcases h with ⟨rfl, rfl⟩ | ⟨g, c, cs, rfl, _⟩
  · exact ⟨none, 0, rfl⟩
  · exact ⟨_, c, rfl⟩
/-- The same without the room behind it. -/
theorem NewRw.clip {T : TypeId} {M : Nat} {w : World} {p : Option Addr} {n c : Nat} {l : List α} (h : NewRw enc k T M w (.slice p n c) l) : NewRw enc k T M w (.slice p n n) l := by
  rcases h with ⟨rfl, he⟩ | ⟨g, c', cs, he, h2, h3, h4, h5, h6⟩
  · cases he
    exact .inl ⟨rfl, rfl⟩
  · cases he
    exact .inr ⟨g, _, cs, rfl, Nat.le_refl _, h3, h4, Nat.le_trans (Nat.mul_le_mul_right k h2) h5, h6⟩
/-- A block that was laid whole. -/
theorem rw_lit (hk : ∀ x, (enc x).length = k) {T : TypeId} {w : World} {blk : Nat} {l : List α} {cs : Array Value} (h : w.heap[blk]? = some (.cells cs T (0, 0))) (hc : cs.toList = flat enc l) : Rw enc k w (.slice (some ⟨blk, 0, none⟩) l.length l.length) l := by
  refine ⟨_, _, rfl, Nat.le_refl _, .inr ⟨blk, 0, rfl, lt_of_block h, fun j x hx i u hu => ?_⟩⟩
  rw [cell_in h, Nat.zero_add, ← Array.getElem?_toList, hc]
  exact flat_at hk l j x i u hx hu
end
end Go.Proofs.YtpfhhaonfbfheaaGreatDoor.rw
