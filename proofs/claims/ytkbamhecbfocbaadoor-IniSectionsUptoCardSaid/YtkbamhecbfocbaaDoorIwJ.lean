/- tinderboxlaw06.bare compares two lists of lines; laws on what a file gives. Conditions: the lists' lengths are in Go's bounds. -/
import Derived.Test.YtkbamhecbfocbaaDoorIwG
import Derived.Test.YtkbamhecbfocbaaDoorIpB
namespace Go.Proofs.YtkbamhecbfocbaaDoor.ini
open Go.ChangeShapes Go.WideShapes Go.ChangeAt Go.RowKit gl

theorem meant_len {t u : List UInt8} (h : meantL t = some u) : u.length ≤ 200 := by
  unfold meantL at h
  split at h
  · cases h
  · split at h
    · cases h; assumption
    · cases h
theorem given_ok {a x n t : List UInt8} {out : List Ln} (h : givenL a out x = some (n, t)) : nameL n = true ∧ t.length ≤ 200 := by
  unfold givenL at h
  split at h
  · rename_i h1
    rw [Option.map_eq_some_iff] at h
    obtain ⟨u, hu, he⟩ := h
    cases he
    exact ⟨h1.2.1, meant_len hu⟩
  · cases h
theorem lineL_ok {a s a' n t : List UInt8} {out : List Ln} (h : lineL a out s = some (a', some (n, t))) : nameL n = true ∧ t.length ≤ 200 := by
  unfold lineL at h
  cases htx : tri s with
  | nil => rw [htx] at h; cases h
  | cons c r =>
    rw [htx, lineT_cons] at h
    split at h
    · cases h
    · split at h
      · rw [Option.map_eq_some_iff] at h
        obtain ⟨x, hx, he⟩ := h
        cases he
      · rw [Option.map_eq_some_iff] at h
        obtain ⟨x, hx, he⟩ := h
        cases he
        exact given_ok hx
theorem runL_ok : ∀ (ss : List (List UInt8)) (k : Nat) (a : List UInt8) (out : List Ln), (∀ x ∈ out, nameL x.name = true ∧ x.text.length ≤ 200) → ∀ x ∈ (runL k a out ss).1, nameL x.name = true ∧ x.text.length ≤ 200
  | [], _, _, out, h, x, hx => h x hx
  | s :: ss, k, a, out, h, x, hx => by
    rw [runL] at hx
    split at hx
    · cases hx
    · exact runL_ok ss _ _ _ h x hx
    · rename_i hl
      refine runL_ok ss _ _ _ (fun y hy => ?_) x hx
      rcases List.mem_append.1 hy with hy | hy
      · exact h y hy
      · obtain rfl := List.mem_singleton.1 hy
        exact lineL_ok hl
theorem parseL_ok (l : List UInt8) : ∀ x ∈ (parseL l).1, x.name.length ≤ 2147483647 ∧ x.text.length ≤ 2147483647 := by
  intro x hx
  unfold parseL at hx
  split at hx
  · obtain ⟨h1, h2⟩ := runL_ok _ _ _ _ (fun y hy => by cases hy) x hx
    have := name_len h1
    omega
  · cases hx

/-- The same names and texts, numbered from 1 on. -/
def BareL (a l : List Ln) : Prop := a.length = l.length ∧ ∀ (i : Nat) (x y : Ln), a[i]? = some x → l[i]? = some y → x.name = y.name ∧ x.text = y.text ∧ x.num = (i : Int) + 1
theorem bare_numb (l : List Ln) : BareL (numb 0 l) l := by
  refine ⟨numb_len l 0, fun i x y hx hy => ?_⟩
  have := numb_get l 0 i y hy
  rw [hx] at this
  obtain rfl := Option.some.inj this
  exact ⟨rfl, rfl, by simp⟩

set_option maxHeartbeats 2000000 in
set_option maxRecDepth 100000 in
theorem lawBare_any (p p' : Option Addr) (m m' c c' : Nat) (l l' : List Ln) (hl : m ≤ 4294967295) (hl' : m' ≤ 4294967295) (w : World) (h : Lns w (.slice p m c) l) (h' : Lns w (.slice p' m' c') l') :
    Calls Tryd.prog 20 #[.slice p m c, .slice p' m' c'] w fun e w' => ∃ r : Bool, e = .returned (.bool r) ∧ (BareL l l' → r = true) ∧ ∃ q, w' = w.drewN q := by
  obtain ⟨hlen, hmc, hptr⟩ := h.ptr
  obtain ⟨hlen', hmc', hptr'⟩ := h'.ptr
  have HS := Lib.hid h
  have HS' := Lib.hid h'
  have Hlen := Lib.hid hlen
  have Hlen' := Lib.hid hlen'
  have Hptr := Lib.hid hptr
  have Hptr' := Lib.hid hptr'
  clear h h' hlen hlen' hptr hptr'
  by_cases hmm : m = m'
  · subst hmm
    go_enter Tryd.func20, Tryd.ntmps20
    go_wp2_with fail
    go_loopw [5] (fun i wr => ∃ j q : Nat, j ≤ m ∧ i = .int .i64 j ∧ wr = w.drewN q) (fun i _ => m - (intOf i).toNat)
    case atStart => exact ⟨0, 0, by omega, rfl, rfl⟩
    case round =>
      obtain ⟨j, q, hj, rfl, rfl⟩ := hrel
      by_cases hlt : j < m
      · obtain ⟨b, o, rfl, hbl⟩ := Hptr.out (by omega)
        obtain ⟨b', o', rfl, hbl'⟩ := Hptr'.out (by omega)
        obtain ⟨x, hx⟩ : ∃ x, l[j]? = some x := ⟨_, List.getElem?_eq_getElem (by rw [Hlen.out]; exact hlt)⟩
        obtain ⟨y, hy⟩ : ∃ y, l'[j]? = some y := ⟨_, List.getElem?_eq_getElem (by rw [Hlen'.out]; exact hlt)⟩
        obtain ⟨c0, c1, c2⟩ := HS.out.cells hx
        obtain ⟨d0, d1, _⟩ := HS'.out.cells hy
        have Hs : Hid (BareL l l' → B x.name = B y.name ∧ B x.text = B y.text ∧ x.num = (j : Int) + 1) := Lib.hid fun e => by
          obtain ⟨h1, h2, h3⟩ := e.2 j x y hx hy
          exact ⟨by rw [h1], by rw [h2], h3⟩
        clear hx hy
        generalize B x.name = n1 at *
        generalize B y.name = n2 at *
        generalize B x.text = x1 at *
        generalize B y.text = x2 at *
        generalize x.num = u1 at *
        replace c0 : (w.drewN q).cell? ⟨b, o + j * 3, none⟩ = some (.string n1) := c0
        replace c1 : (w.drewN q).cell? ⟨b, o + j * 3 + 1, none⟩ = some (.string x1) := c1
        replace c2 : (w.drewN q).cell? ⟨b, o + j * 3 + 2, none⟩ = some (.int .i64 u1) := c2
        replace d0 : (w.drewN q).cell? ⟨b', o' + j * 3, none⟩ = some (.string n2) := d0
        replace d1 : (w.drewN q).cell? ⟨b', o' + j * 3 + 1, none⟩ = some (.string x2) := d1
        generalize hq : w.drewN q = wr at *
        have Hq := Lib.hid hq
        clear hq
        by_cases h1 : n1 = n2
        · have q1 : (n1.toList == n2.toList) = true := seq_true h1
          have q1' : (n1.toList != n2.toList) = false := by rw [bne, q1]; rfl
          clear h1
          by_cases h2 : x1 = x2
          · have q2 : (x1.toList == x2.toList) = true := seq_true h2
            have q2' : (x1.toList != x2.toList) = false := by rw [bne, q2]; rfl
            clear h2
            by_cases h3 : u1 = (j : Int) + 1
            · have q3 : (u1 == (j : Int) + 1) = true := by simp [h3]
              have q3' : (u1 != (j : Int) + 1) = false := by simp [h3]
              clear h3
              go_wp2_with fail
              go_quiet (fail)
              go_wp2_with fail
              go_roundw
              case rel => exact ⟨j + 1, _, by omega, by go_num, by rw [← Hq.out, World.drewN_drewN]⟩
              case measure => simp [intOf]; omega
            · have q3 : (u1 == (j : Int) + 1) = false := by simpa using h3
              have q3' : (u1 != (j : Int) + 1) = true := by simpa using h3
              have Hn : Hid (¬ BareL l l') := Lib.hid fun e => h3 (Hs.out e).2.2
              clear h3
              go_wp2_with fail
              go_quiet (fail)
              go_wp2_with fail
              go_ret
              exact ⟨false, rfl, fun e => absurd e Hn.out, _, by rw [← Hq.out, World.drewN_drewN]⟩
          · have q2 : (x1.toList == x2.toList) = false := seq_false h2
            have q2' : (x1.toList != x2.toList) = true := by rw [bne, q2]; rfl
            have Hn : Hid (¬ BareL l l') := Lib.hid fun e => h2 (Hs.out e).2.1
            clear h2
            go_wp2_with fail
            go_quiet (fail)
            go_wp2_with fail
            go_ret
            exact ⟨false, rfl, fun e => absurd e Hn.out, _, by rw [← Hq.out, World.drewN_drewN]⟩
        · have q1 : (n1.toList == n2.toList) = false := seq_false h1
          have q1' : (n1.toList != n2.toList) = true := by rw [bne, q1]; rfl
          have Hn : Hid (¬ BareL l l') := Lib.hid fun e => h1 (Hs.out e).1
          clear h1
          go_wp2_with fail
          go_quiet (fail)
          go_wp2_with fail
          go_ret
          exact ⟨false, rfl, fun e => absurd e Hn.out, _, by rw [← Hq.out, World.drewN_drewN]⟩
      · obtain rfl : j = m := by omega
        go_wp2_with fail
        go_ret
        exact ⟨true, rfl, fun _ => rfl, q, rfl⟩
  · have hmm' : ((m : Int) != (m' : Int)) = true := by simp; omega
    have hne : ¬ BareL l l' := by rintro ⟨e, _⟩; exact hmm (by rw [← Hlen.out, ← Hlen'.out]; exact e)
    have Hne := Lib.hid hne
    clear hmm hne
    go_enter Tryd.func20, Tryd.ntmps20
    go_wp2_with fail
    go_ret
    exact ⟨false, rfl, fun e => absurd e Hne.out, 0, rfl⟩
end Go.Proofs.YtkbamhecbfocbaaDoor.ini
