/- Lists of lines in memory; the reference's there and Parse return plain functions. Condition: the tables hold what the text lays. -/
import Derived.Test.YtkbamhecbfocbaaDoorInT
namespace Go.Proofs.YtkbamhecbfocbaaDoor.ini
open Go.ChangeShapes Go.WideShapes Go.ChangeAt Go.RowKit gl

/-! ### Lists of lines in memory -/
def lnC (x : Ln) : List Value := [.string (B x.name), .string (B x.text), .int .i64 x.num]
def lnsC (l : List Ln) : List Value := l.flatMap lnC
theorem lnsC_len : ∀ l : List Ln, (lnsC l).length = l.length * 3
  | [] => rfl
  | x :: r => by
    have := lnsC_len r
    simp only [lnsC, List.flatMap_cons, List.length_append, List.length_cons] at this ⊢
    rw [this]
    simp [lnC]
    omega
theorem lnsC_at : ∀ (l : List Ln) (j : Nat) (x : Ln) (i : Nat) (v : Value), l[j]? = some x → (lnC x)[i]? = some v → (lnsC l)[j * 3 + i]? = some v
  | [], j, x, i, v, h, _ => by simp at h
  | y :: r, 0, x, i, v, h, hv => by
    simp at h
    subst h
    have hi := ls.lt_get hv
    simp only [lnsC, List.flatMap_cons]
    rw [List.getElem?_append_left (by omega)]
    simpa using hv
  | y :: r, j + 1, x, i, v, h, hv => by
    have := lnsC_at r j x i v (by simpa using h) hv
    simp only [lnsC, List.flatMap_cons]
    rw [List.getElem?_append_right (by simp [lnC]; omega)]
    rw [← this]
    simp only [lnC, List.length_cons, List.length_nil, lnsC]
    congr 1
    omega
/-- A slice reads as a list of lines. -/
def Lns (w : World) (v : Value) (l : List Ln) : Prop :=
  ∃ (p : Option Addr) (c : Nat), v = .slice p l.length c ∧ l.length ≤ c ∧ (l = [] ∨ ∃ b o, p = some ⟨b, o, none⟩ ∧ b < w.heap.size ∧ ∀ (j : Nat) (x : Ln), l[j]? = some x → ∀ (i : Nat) (u : Value), (lnC x)[i]? = some u → w.cell? ⟨b, o + (j * 3 + i), none⟩ = some u)
theorem Lns.later {w w' : World} {v : Value} {l : List Ln} (h : Lns w v l) (hb : Below w.heap.size w w') : Lns w' v l := by
  obtain ⟨p, c, rfl, hc, h⟩ := h
  refine ⟨p, c, rfl, hc, ?_⟩
  rcases h with h | ⟨b, o, rfl, hlt, hat⟩
  · exact .inl h
  · exact .inr ⟨b, o, rfl, by have := hb.size; omega, fun j x hx i u hu => (hb.cell (p := ⟨b, o + (j * 3 + i), none⟩) hlt).trans (hat j x hx i u hu)⟩
theorem Lns.cells {w : World} {b o n c : Nat} {l : List Ln} (h : Lns w (.slice (some ⟨b, o, none⟩) n c) l) {j : Nat} {x : Ln} (hx : l[j]? = some x) :
    w.cell? ⟨b, o + j * 3, none⟩ = some (.string (B x.name)) ∧ w.cell? ⟨b, o + j * 3 + 1, none⟩ = some (.string (B x.text)) ∧ w.cell? ⟨b, o + j * 3 + 2, none⟩ = some (.int .i64 x.num) := by
  obtain ⟨p, c', he, hc, h⟩ := h
  cases he
  rcases h with rfl | ⟨b', o', hp, hlt, hat⟩
  · simp at hx
  · cases hp
    exact ⟨hat j x hx 0 _ rfl, hat j x hx 1 _ rfl, hat j x hx 2 _ rfl⟩
theorem Lns.ptr {w : World} {p : Option Addr} {n c : Nat} {l : List Ln} (h : Lns w (.slice p n c) l) : l.length = n ∧ n ≤ c ∧ (0 < n → ∃ b o, p = some ⟨b, o, none⟩ ∧ b < w.heap.size) := by
  obtain ⟨p', c', he, hc, h⟩ := h
  cases he
  refine ⟨rfl, hc, fun hn => ?_⟩
  rcases h with rfl | ⟨b, o, hp, hlt, _⟩
  · simp at hn
  · exact ⟨b, o, hp, hlt⟩
theorem own_lns {w : World} {Bs n : Nat} {v : Value} {l : List Ln} (h : w.ownsRow Bs 35 3 v n (lnsC l)) : Lns w v l := by
  have hl : l.length = n := by have := h.1; rw [lnsC_len] at this; omega
  rcases h.2 with ⟨rfl, h0⟩ | ⟨g, cap, cur, rfl, hg, hb, hnc, _⟩
  · subst h0
    exact ⟨none, 0, by rw [hl], by omega, .inl (List.eq_nil_of_length_eq_zero hl)⟩
  · subst hl
    refine ⟨_, cap, rfl, hnc, .inr ⟨g, 0, rfl, lt_of_block hb, fun j x hx i u hu => ?_⟩⟩
    have := h.cells (g := g) rfl (j * 3 + i) u (lnsC_at l j x i u hx hu)
    rwa [ls.addN] at this
/-- A list of its own, from block M on. -/
def NewLns (M : Nat) (w : World) (v : Value) (l : List Ln) : Prop :=
  (l = [] ∧ v = .slice none 0 0) ∨ ∃ g c cs, v = .slice (some ⟨g, 0, none⟩) l.length c ∧ l.length ≤ c ∧ M ≤ g ∧ w.heap[g]? = some (.cells cs 35 (0, 0)) ∧ c * 3 ≤ cs.size ∧ ls.At cs 0 (lnsC l)
theorem own_new {w : World} {Bs n : Nat} {v : Value} {l : List Ln} (h : w.ownsRow Bs 35 3 v n (lnsC l)) : NewLns Bs w v l := by
  have hl : l.length = n := by have := h.1; rw [lnsC_len] at this; omega
  rcases h.2 with ⟨rfl, h0⟩ | ⟨g, cap, cur, rfl, hg, hb, hnc, hcm, hcs, htake⟩
  · subst h0
    exact .inl ⟨List.eq_nil_of_length_eq_zero hl, rfl⟩
  · subst hl
    refine .inr ⟨g, cap, cur, rfl, hnc, hg, hb, by omega, fun i v hv => ?_⟩
    have hi := ls.lt_get hv
    rw [lnsC_len] at hi
    rw [← htake, List.getElem?_take_of_lt (by omega)] at hv
    rw [Array.getElem?_toList] at hv
    rwa [Nat.zero_add]
theorem NewLns.lns {M : Nat} {w : World} {v : Value} {l : List Ln} (h : NewLns M w v l) : Lns w v l := by
  rcases h with ⟨rfl, rfl⟩ | ⟨g, c, cs, rfl, hc, _, hb, _, hat⟩
  · exact ⟨none, 0, rfl, by simp, .inl rfl⟩
  · refine ⟨_, c, rfl, hc, .inr ⟨g, 0, rfl, lt_of_block hb, fun j x hx i u hu => ?_⟩⟩
    rw [cell_in hb]
    have := hat (j * 3 + i) u (lnsC_at l j x i u hx hu)
    exact this
theorem NewLns.later {M : Nat} {w w' : World} {v : Value} {l : List Ln} (h : NewLns M w v l) (hb : Below w.heap.size w w') : NewLns M w' v l := by
  rcases h with h | ⟨g, c, cs, rfl, hc, hg, hbk, h2⟩
  · exact .inl h
  · exact .inr ⟨g, c, cs, rfl, hc, hg, (hb.block g (lt_of_block hbk)).trans hbk, h2⟩
theorem NewLns.mono {M M' : Nat} {w : World} {v : Value} {l : List Ln} (h : NewLns M w v l) (hM : M' ≤ M) : NewLns M' w v l := by
  rcases h with h | ⟨g, c, cs, h1, h2, h3, h4⟩
  · exact .inl h
  · exact .inr ⟨g, c, cs, h1, h2, by omega, h4⟩

/-! ### there -/
theorem there_at {l : List Ln} {k : Nat} {x : Ln} {n : List UInt8} (h : l[k]? = some x) (hx : x.name = n) : there l n = true := by
  unfold there
  rw [List.any_eq_true]
  exact ⟨x, List.mem_of_getElem? h, decide_eq_true hx⟩
def noTo (l : List Ln) (n : List UInt8) (k : Nat) : Prop := ∀ (j : Nat) (x : Ln), j < k → l[j]? = some x → x.name ≠ n
theorem noTo_succ {l : List Ln} {n : List UInt8} {k : Nat} {x : Ln} (h : noTo l n k) (hx : l[k]? = some x) (hn : x.name ≠ n) : noTo l n (k + 1) := by
  intro j y hj hy
  rcases Nat.lt_or_ge j k with h1 | h1
  · exact h j y h1 hy
  · obtain rfl : j = k := by omega
    rw [hx] at hy
    obtain rfl := Option.some.inj hy
    exact hn
theorem noTo_all {l : List Ln} {n : List UInt8} (h : noTo l n l.length) : there l n = false := by
  unfold there
  rw [List.any_eq_false]
  intro x hx
  obtain ⟨j, hj⟩ := List.mem_iff_getElem?.1 hx
  simpa using h j x (lt_of_get hj) hj

set_option maxHeartbeats 2000000 in
set_option maxRecDepth 100000 in
theorem there_any (p : Option Addr) (m c : Nat) (l : List Ln) (n : ByteArray) (hm : m ≤ 4294967295) (w : World) (h : Lns w (.slice p m c) l) :
    Calls Tryd.prog 37 #[.slice p m c, .string n] w fun e w' => e = .returned (.bool (there l n.data.toList)) ∧ w = w' := by
  obtain ⟨hlen, hmc, hptr⟩ := h.ptr
  have HL := Lib.hid h
  have Hlen := Lib.hid hlen
  have HP := Lib.hid hptr
  clear h hlen hptr
  go_enter Tryd.func37, Tryd.ntmps37
  go_wp2_with fail
  go_loop [5] (fun i => ∃ k : Nat, k ≤ m ∧ i = .int .i64 k ∧ noTo l n.data.toList k) (fun i => m - (intOf i).toNat)
  case atStart => exact ⟨0, by omega, rfl, fun j x h => by omega⟩
  case round =>
    obtain ⟨k, hk, rfl, hno⟩ := hrel
    have Hno := Lib.hid hno
    clear hno
    by_cases hlt : k < m
    · obtain ⟨b, o, rfl, hbl⟩ := HP.out (by omega)
      obtain ⟨x, hx⟩ : ∃ x, l[k]? = some x := ⟨_, List.getElem?_eq_getElem (by rw [Hlen.out]; exact hlt)⟩
      have c0 := (HL.out.cells hx).1
      have Hx := Lib.hid hx
      clear hx
      by_cases hn : x.name = n.data.toList
      · have hB : B x.name = n := by rw [hn, B_of]
        have q : ((B x.name).toList == n.toList) = true := seq_true hB
        have Hr := Lib.hid (there_at Hx.out hn)
        clear hn hB
        generalize B x.name = nx at *
        go_wp2_with fail
        go_ret
        exact ⟨ret_bool Hr.out, rfl⟩
      · have hB : B x.name ≠ n := fun e => hn (by rw [← e, B_list])
        have q : ((B x.name).toList == n.toList) = false := seq_false hB
        have Hn := Lib.hid (noTo_succ Hno.out Hx.out hn)
        clear hn hB
        generalize B x.name = nx at *
        go_wp2_with fail
        go_round
        case rel => exact ⟨k + 1, by omega, by go_num, Hn.out⟩
        case measure => simp [intOf]; omega
    · obtain rfl : k = m := by omega
      have Hr : Hid (there l n.data.toList = false) := Lib.hid (noTo_all (by rw [Hlen.out]; exact Hno.out))
      go_wp2_with fail
      go_ret
      exact ⟨ret_bool Hr.out, rfl⟩
end Go.Proofs.YtkbamhecbfocbaaDoor.ini
