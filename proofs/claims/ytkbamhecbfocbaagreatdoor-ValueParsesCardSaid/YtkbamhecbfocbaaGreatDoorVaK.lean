/- value.Same, Within and the reference's Same return plain functions. Conditions: the values' words lie in memory; they are no greater than 2147483647 bytes and words. -/
import Derived.Test.YtkbamhecbfocbaaGreatDoorVaJ
namespace Go.Proofs.YtkbamhecbfocbaaGreatDoor.va
open Go.ChangeShapes Go.WideShapes Go.ChangeAt Go.RowKit gl

theorem ret_bool' {a b : Bool} (h : a = b) : Ending.returned (.bool a) = .returned (.bool b) := by rw [h]
theorem bel_drewN {b : Nat} {a w : World} (h : Below b a w) (n : Nat) : Below b a (w.drewN n) := h.trans ⟨rfl, rfl, rfl, Nat.le_refl _, fun _ _ => rfl⟩
/-- Two values are the same. -/
theorem same_eq (a b : Val) : decide (a = b) = (decide (a.kind = b.kind) && decide (a.int = b.int) && decide (a.text = b.text) && decide (a.words = b.words)) := by
  obtain ⟨k, n, t, ws⟩ := a
  obtain ⟨k', n', t', ws'⟩ := b
  rw [Bool.eq_iff_iff]
  simp only [decide_eq_true_eq, Bool.and_eq_true, Val.mk.injEq, and_assoc]
theorem str_dec (a b : ByteArray) : (a.toList == b.toList) = decide (a = b) := by
  by_cases h : a = b
  · rw [seq_true h, decide_eq_true h]
  · rw [seq_false h, decide_eq_false h]

theorem eqW_any (sl sl' : Value) (xs ys : List ByteArray) (w : World) (hS : Strs w sl xs) (hS' : Strs w sl' ys) (hl : xs.length ≤ 2147483647) (hl' : ys.length ≤ 2147483647) :
    Calls Tryz.prog 41 #[sl, sl'] w fun e w' => e = .returned (.bool (decide (xs = ys))) ∧ Below w.heap.size w w' := by
  obtain ⟨p, c, rfl, hc, h⟩ := hS
  obtain ⟨p', c', rfl, hc', h'⟩ := hS'
  by_cases hne : xs.length = ys.length
  · rcases h with rfl | ⟨b, o, rfl, hlt, hat⟩
    · obtain rfl : ys = [] := List.eq_nil_of_length_eq_zero hne.symm
      refine (Tryz.slices_Equal_string_empty p p' c 0 c' w (by omega)).mono ?_
      rintro e w' ⟨rfl, rfl⟩
      exact ⟨rfl, Below.refl _ _⟩
    · rcases h' with rfl | ⟨b', o', rfl, hlt', hat'⟩
      · obtain rfl : xs = [] := List.eq_nil_of_length_eq_zero hne
        refine (Tryz.slices_Equal_string_empty _ p' c 0 c' w (by omega)).mono ?_
        rintro e w' ⟨rfl, rfl⟩
        exact ⟨rfl, Below.refl _ _⟩
      · refine (Tryz.slices_Equal_string b o xs.length c b' o' ys.length c' xs ys w (Nat.le_refl _) (Nat.le_refl _) (by omega) (by omega) (fun j hj => ?_) (fun j hj => ?_)).mono ?_
        · rw [hat j _ (List.getElem?_eq_getElem hj)]
          simp [List.getD, List.getElem?_eq_getElem hj]
        · rw [hat' j _ (List.getElem?_eq_getElem hj)]
          simp [List.getD, List.getElem?_eq_getElem hj]
        · rintro e w' ⟨rfl, q, rfl⟩
          exact ⟨by rw [List.take_length, List.take_length], (Below.refl _ w).trans ⟨rfl, rfl, rfl, Nat.le_refl _, fun _ _ => rfl⟩⟩
  · refine (Tryz.slices_Equal_string_lens p p' xs.length c ys.length c' w hne).mono ?_
    rintro e w' ⟨rfl, rfl⟩
    exact ⟨ret_bool' (decide_eq_false (fun e => hne (by rw [e]))).symm, Below.refl _ _⟩

set_option maxHeartbeats 1000000 in
set_option maxRecDepth 100000 in
theorem Same_any (a b : Val) (sl sl' : Value) (w : World) (hS : Strs w sl a.words) (hS' : Strs w sl' b.words) (hl : a.words.length ≤ 2147483647) (hl' : b.words.length ≤ 2147483647) :
    Calls Tryz.prog 18 #[rep a sl, rep b sl'] w fun e w' => e = .returned (.bool (decide (a = b))) ∧ Below w.heap.size w w' := by
  have hs := same_eq a b
  generalize decide (a = b) = R at *
  obtain ⟨k, n, t, ws⟩ := a
  obtain ⟨k', n', t', ws'⟩ := b
  simp only at hs hS hS' hl hl'
  rw [← str_dec] at hs
  have HE := Lib.hid fun (W : World) (hb : Below w.heap.size w W) => eqW_any sl sl' ws ws' W (hS.below hb (Nat.le_refl _)) (hS'.below hb (Nat.le_refl _)) hl hl'
  obtain ⟨p, c, rfl, _⟩ := hS
  obtain ⟨p', c', rfl, _⟩ := hS'
  unfold rep
  simp only
  generalize decide (ws = ws') = E at *
  generalize ws.length = m at *
  generalize ws'.length = m' at *
  have H := Lib.hid hs
  clear hs hl hl'
  by_cases hk : k = k'
  · have hk' : (k == k') = true := by simp [hk]
    by_cases hn : n = n'
    · have hn' : (n == n') = true := by simp [hn]
      cases ht : (t.toList == t'.toList) with
      | true =>
        have H2 : Hid (R = E) := Lib.hid (by rw [H.out, decide_eq_true hk, decide_eq_true hn, ht]; simp)
        clear hk hn H
        go_enter Tryz.func18, Tryz.ntmps18
        go_wp2_with fail
        refine (HE.out _ (((Below.refl _ w).alloc (Nat.le_refl _) _).alloc (by simp) _)).mono ?_
        rintro e w1 ⟨rfl, hb⟩
        go_wp2_with fail
        go_ret
        exact ⟨ret_bool H2.out, (((Below.refl _ w).alloc (Nat.le_refl _) _).alloc (by simp) _).trans (hb.mono (by simp; omega))⟩
      | false =>
        have H2 : Hid (R = false) := Lib.hid (by rw [H.out, ht]; simp)
        clear hk hn H
        go_enter Tryz.func18, Tryz.ntmps18
        go_wp2_with fail
        go_ret
        exact ⟨ret_bool H2.out, by go_grown⟩
    · have hn' : (n == n') = false := by simp [hn]
      have H2 : Hid (R = false) := Lib.hid (by rw [H.out, decide_eq_false hn]; simp)
      clear hk hn H
      go_enter Tryz.func18, Tryz.ntmps18
      go_wp2_with fail
      go_ret
      exact ⟨ret_bool H2.out, by go_grown⟩
  · have hk' : (k == k') = false := by simp [hk]
    have H2 : Hid (R = false) := Lib.hid (by rw [H.out, decide_eq_false hk]; simp)
    clear hk H
    go_enter Tryz.func18, Tryz.ntmps18
    go_wp2_with fail
    go_ret
    exact ⟨ret_bool H2.out, by go_grown⟩

/-- The first k words are alike. -/
def eqTo (xs ys : List ByteArray) (k : Nat) : Prop := ∀ j, j < k → xs[j]? = ys[j]?
theorem eqTo_succ {xs ys : List ByteArray} {k : Nat} (h : eqTo xs ys k) (h2 : xs[k]? = ys[k]?) : eqTo xs ys (k + 1) := by
  intro j hj
  rcases Nat.lt_or_ge j k with h1 | h1
  · exact h j h1
  · obtain rfl : j = k := by omega
    exact h2
theorem eqTo_all {xs ys : List ByteArray} (h : eqTo xs ys xs.length) (hl : xs.length = ys.length) : xs = ys := by
  apply List.ext_getElem?
  intro j
  rcases Nat.lt_or_ge j xs.length with h1 | h1
  · exact h j h1
  · rw [List.getElem?_eq_none h1, List.getElem?_eq_none (by omega)]
theorem Strs.at {w : World} {p : Option Addr} {n c : Nat} {xs : List ByteArray} (h : Strs w (.slice p n c) xs) (k : Nat) (hk : k < n) : ∃ b o x, p = some ⟨b, o, none⟩ ∧ b < w.heap.size ∧ xs[k]? = some x ∧ w.cell? ⟨b, o + k, none⟩ = some (.string x) := by
  obtain ⟨p', c', e, hc, h⟩ := h
  simp only [Value.slice.injEq] at e
  obtain ⟨rfl, rfl, rfl⟩ := e
  rcases h with rfl | ⟨b, o, rfl, hlt, hat⟩
  · simp at hk
  · exact ⟨b, o, _, rfl, hlt, List.getElem?_eq_getElem hk, hat k _ (List.getElem?_eq_getElem hk)⟩

set_option maxHeartbeats 1000000 in
set_option maxRecDepth 100000 in
theorem refSame_any (a b : Val) (sl sl' : Value) (w : World) (hS : Strs w sl a.words) (hS' : Strs w sl' b.words) (hl : a.words.length ≤ 2147483647) (hl' : b.words.length ≤ 2147483647) :
    Calls Tryz.prog 9 #[rep a sl, rep b sl'] w fun e w' => e = .returned (.bool (decide (a = b))) ∧ Below w.heap.size w w' := by
  have hs := same_eq a b
  generalize decide (a = b) = R at *
  obtain ⟨k, n, t, ws⟩ := a
  obtain ⟨k', n', t', ws'⟩ := b
  simp only at hs hS hS' hl hl'
  rw [← str_dec] at hs
  obtain ⟨m, hm⟩ : ∃ m, ws.length = m := ⟨_, rfl⟩
  obtain ⟨m', hm'⟩ : ∃ m', ws'.length = m' := ⟨_, rfl⟩
  have HS := Lib.hid hS
  have HS' := Lib.hid hS'
  obtain ⟨p, c, rfl, hc, _⟩ := hS
  obtain ⟨p', c', rfl, hc', _⟩ := hS'
  unfold rep
  simp only
  rw [hm] at HS hl hc ⊢
  rw [hm'] at HS' hl' hc' ⊢
  have H := Lib.hid hs
  have Hm := Lib.hid hm
  have Hm' := Lib.hid hm'
  clear hs hm hm'
  by_cases hk : k = k'
  · have hk' : (k != k') = false := by simp [hk]
    by_cases hn : n = n'
    · have hn' : (n != n') = false := by simp [hn]
      cases ht : (t.toList == t'.toList) with
      | true =>
        have H2 : Hid (R = decide (ws = ws')) := Lib.hid (by rw [H.out, decide_eq_true hk, decide_eq_true hn, ht]; simp)
        by_cases hmm : m = m'
        · subst hmm
          clear hk hn H
          go_enter Tryz.func9, Tryz.ntmps9
          go_wp2_with fail
          obtain ⟨w2, hw2⟩ : ∃ w2, w2 = (w.alloc (.cells #[.int .i64 k, .int .i64 n, .string t, .slice p m c] 28)).alloc (.cells #[.int .i64 k', .int .i64 n', .string t', .slice p' m c'] 28) := ⟨_, rfl⟩
          rw [← hw2]
          have Hb2 : Hid (Below w.heap.size w w2) := Lib.hid (by rw [hw2]; exact ((Below.refl _ w).alloc (Nat.le_refl _) _).alloc (by simp) _)
          obtain ⟨hB0, hB1⟩ : w2.heap[w.heap.size]? = some (.cells #[.int .i64 k, .int .i64 n, .string t, .slice p m c] 28) ∧ w2.heap[w.heap.size + 1]? = some (.cells #[.int .i64 k', .int .i64 n', .string t', .slice p' m c'] 28) := by
            obtain ⟨h1, h2⟩ := two_blocks (Below.refl ((w.alloc (.cells #[.int .i64 k, .int .i64 n, .string t, .slice p m c] 28)).alloc (.cells #[.int .i64 k', .int .i64 n', .string t', .slice p' m c'] 28)).heap.size _)
            rw [heap_alloc_new] at h1
            rw [hw2]
            exact ⟨h1, h2⟩
          have hlt1 := lt_of_block hB1
          have HB0 := Lib.hid hB0
          have HB1 := Lib.hid hB1
          clear hw2 hB0 hB1
          go_loopw [5] (fun i wr => ∃ j : Nat, j ≤ m ∧ i = .int .i64 j ∧ eqTo ws ws' j ∧ Below w2.heap.size w2 wr) (fun i _ => m - (intOf i).toNat)
          case atStart => exact ⟨0, by omega, rfl, fun j h => by omega, Below.refl _ _⟩
          case round =>
            obtain ⟨j, hj, rfl, hto, hb⟩ := hrel
            have Hto := Lib.hid hto
            have Hb := Lib.hid hb
            have c3 := cell_of_row wr w.heap.size 3 _ _ _ ((hb.block _ (by omega)).trans HB0.out)
            have d3 := cell_of_row wr (w.heap.size + 1) 3 _ _ _ ((hb.block _ (by omega)).trans HB1.out)
            simp only [List.getElem?_toArray, List.getElem?_cons_succ, List.getElem?_cons_zero] at c3 d3
            clear hto hb
            by_cases hlt : j < m
            · have HSr := HS.out.below (Hb2.out.trans (Hb.out.mono Hb2.out.size)) (Nat.le_refl _)
              have HSr' := HS'.out.below (Hb2.out.trans (Hb.out.mono Hb2.out.size)) (Nat.le_refl _)
              obtain ⟨b, o, x, rfl, hbl, hx, hcx⟩ := HSr.at j hlt
              obtain ⟨b', o', y, rfl, hbl', hy, hcy⟩ := HSr'.at j hlt
              have HX := Lib.hid (And.intro hx hy)
              clear HSr HSr' hx hy
              by_cases hxy : x = y
              · have hxy' : (x.toList == y.toList) = true := seq_true hxy
                have hxy2 : (x.toList != y.toList) = false := by rw [bne, hxy']; rfl
                have Hxy := Lib.hid hxy
                clear hxy
                go_wp2_with fail
                go_quiet (fail)
                go_wp2_with fail
                go_roundw
                case rel => exact ⟨j + 1, by omega, by go_num, eqTo_succ Hto.out (by rw [HX.out.1, HX.out.2, Hxy.out]), Hb.out.trans ⟨rfl, rfl, rfl, Nat.le_refl _, fun _ _ => rfl⟩⟩
                case measure => simp [intOf]; omega
              · have hxy' : (x.toList == y.toList) = false := seq_false hxy
                have hxy2 : (x.toList != y.toList) = true := by rw [bne, hxy']; rfl
                have H3 : Hid (R = false) := Lib.hid (by
                  rw [H2.out]
                  refine decide_eq_false fun e => hxy ?_
                  have h1 := HX.out.1
                  rw [e, HX.out.2] at h1
                  exact (Option.some.inj h1).symm)
                clear hxy
                go_wp2_with fail
                go_quiet (fail)
                go_wp2_with fail
                go_ret
                exact ⟨ret_bool H3.out, Hb2.out.trans ((bel_drewN Hb.out _).mono Hb2.out.size)⟩
            · obtain rfl : j = m := by omega
              have H3 : Hid (R = true) := Lib.hid (by
                rw [H2.out]
                exact decide_eq_true (eqTo_all (by rw [Hm.out]; exact Hto.out) (by rw [Hm.out, Hm'.out])))
              go_wp2_with fail
              go_ret
              exact ⟨ret_bool H3.out, Hb2.out.trans (Hb.out.mono Hb2.out.size)⟩
        · have H3 : Hid (R = false) := Lib.hid (by rw [H2.out]; exact decide_eq_false fun e => hmm (by rw [← Hm.out, ← Hm'.out, e]))
          have hmm' : ((m : Int) != (m' : Int)) = true := by simp; omega
          clear hk hn H
          go_enter Tryz.func9, Tryz.ntmps9
          go_wp2_with fail
          go_ret
          exact ⟨ret_bool H3.out, by go_grown⟩
      | false =>
        have H2 : Hid (R = false) := Lib.hid (by rw [H.out, ht]; simp)
        clear hk hn H
        go_enter Tryz.func9, Tryz.ntmps9
        go_wp2_with fail
        go_ret
        exact ⟨ret_bool H2.out, by go_grown⟩
    · have hn' : (n != n') = true := by simp [hn]
      have H2 : Hid (R = false) := Lib.hid (by rw [H.out, decide_eq_false hn]; simp)
      clear hk hn H
      go_enter Tryz.func9, Tryz.ntmps9
      go_wp2_with fail
      go_ret
      exact ⟨ret_bool H2.out, by go_grown⟩
  · have hk' : (k != k') = true := by simp [hk]
    have H2 : Hid (R = false) := Lib.hid (by rw [H.out, decide_eq_false hk]; simp)
    clear hk H
    go_enter Tryz.func9, Tryz.ntmps9
    go_wp2_with fail
    go_ret
    exact ⟨ret_bool H2.out, by go_grown⟩
end Go.Proofs.YtkbamhecbfocbaaGreatDoor.va
