/- The calls of package codec's Reader. Conditions: the Reader reads as a plain state; for Done: the variable errors.errorType holds what the program's text lays. -/
import Derived.Test.YtmijkaejdgmplaaDoorCoN
namespace Go.Proofs.YtmijkaejdgmplaaDoor.co
open Go.ChangeShapes Go.WideShapes Go.ChangeAt Go.RowKit

structure IsR (w : World) (b : Nat) (s : Rst) (S : List Nat) : Prop where
  at_ : ∃ x ev, w.heap[b]? = some (.cells #[.string x, ev] 76 (0, 0)) ∧ x.data.toList = s.rest ∧ ErrAt w S ev s.err
  mem : b ∈ S
  lt : ∀ k ∈ S, k < w.heap.size
theorem IsR.kept {w w' : World} {b : Nat} {s : Rst} {S T : List Nat} (h : IsR w b s S) (hu : Upd T w w') (ha : Apart S T) : IsR w' b s S := by
  obtain ⟨x, ev, h1, h2, h3⟩ := h.at_
  exact ⟨⟨x, ev, hu.obj h1 (ha b h.mem), h2, h3.kept hu fun p hp _ => ha p hp⟩, h.mem, fun k hk => Nat.lt_of_lt_of_le (h.lt k hk) hu.size⟩
theorem IsR.below {w w' : World} {b : Nat} {s : Rst} {S : List Nat} (h : IsR w b s S) (hb : Below w.heap.size w w') : IsR w' b s S := h.kept (T := []) (Upd.of_below hb []) (by intro k _; simp)

theorem nxt_le : ∀ (f i n : Nat) (l : List UInt8), (nxt f i n l).2.1 ≤ i + l.length
  | 0, i, n, l => by simp [nxt]
  | f + 1, i, n, [] => by simp [nxt]
  | f + 1, i, n, b :: r => by
    simp only [nxt]
    split
    · have := nxt_le f (i + 1) (n + b.toNat % 128 * 128 ^ i) r
      simp only [List.length_cons]; omega
    · split
      · simp
      · simp only [List.length_cons]; omega
theorem nxt_max : ∀ (f i n : Nat) (l : List UInt8), (nxt f i n l).1 ≤ 4611686018427387904
  | 0, i, n, l => by simp [nxt]
  | f + 1, i, n, [] => by simp [nxt]
  | f + 1, i, n, b :: r => by
    simp only [nxt]
    split
    · exact nxt_max f _ _ r
    · split
      · simp
      · rename_i h; simp only [not_or, Nat.not_lt] at h; exact h.2
theorem drop_data (x : ByteArray) (k : Nat) : (x.extract k x.size).data.toList = x.data.toList.drop k := by
  simp only [ByteArray.data_extract, Array.toList_extract, List.extract_eq_take_drop]
  exact List.take_of_length_le (by simp)
theorem take_data (x : ByteArray) (k : Nat) : (x.extract 0 k).data.toList = x.data.toList.take k := by
  simp [ByteArray.data_extract]

theorem IsR.stored {w w1 : World} {b : Nat} {s : Rst} {S : List Nat} {x y : ByteArray} {ev ev' : Value} {e : Int} {l : List UInt8} (h : IsR w b s S)
    (h1 : w.heap[b]? = some (.cells #[.string x, ev] 76 (0, 0))) (hr : Read w w1 ev' e) (hy : y.data.toList = l) :
    Moves S w ((w1.setCell ⟨b, 0, none⟩ (.string y)).setCell ⟨b, 1, none⟩ ev') (IsR ((w1.setCell ⟨b, 0, none⟩ (.string y)).setCell ⟨b, 1, none⟩ ev') b ⟨l, e⟩) := by
  obtain ⟨hb, T, hT, hlt⟩ := hr
  have hbl := lt_of_block h1
  have hB : w1.heap[b]? = some (.cells #[.string x, ev] 76 (0, 0)) := (hb.block b hbl).trans h1
  have hu : Upd [b] w1 ((w1.setCell ⟨b, 0, none⟩ (.string y)).setCell ⟨b, 1, none⟩ ev') := ((Upd.refl [b] w1).setCell (p := ⟨b, 0, none⟩) (.inl (by simp)) (.string y)).setCell (p := ⟨b, 1, none⟩) (.inl (by simp)) ev'
  refine ⟨S ++ T, ⟨⟨y, ev', ?_, hy, ?_⟩, by simp [h.mem], fun k hk => ?_⟩, (Upd.of_below hb S).trans hu (by simp [h.mem]), fun k hk => ?_⟩
  · have := heap_set (o := 1) (heap_set (o := 0) hB (.string y)) ev'
    simpa using this
  · refine (hT.kept hu fun p hp _ => ?_).more fun k hk => by simp [hk]
    have := (hlt p hp).1
    simp only [List.mem_singleton]
    omega
  · simp only [World.size_setCell]
    rcases List.mem_append.1 hk with hk | hk
    · exact Nat.lt_of_lt_of_le (h.lt k hk) hb.size
    · exact (hlt k hk).2
  · rcases List.mem_append.1 hk with hk | hk
    · exact .inl hk
    · exact .inr (hlt k hk).1

set_option maxHeartbeats 1000000 in
theorem RNum_any (b : Nat) (s : Rst) (S : List Nat) (w : World) (hsz : s.rest.length ≤ 9223372036854775807) (h : IsR w b s S) :
    Calls Tryd.prog 29 #[.pointer (some ⟨b, 0, none⟩)] w fun ev w' => ev = .returned (.int .i64 (s.num.1 : Nat)) ∧ Moves S w w' (IsR w' b s.num.2) := by
  obtain ⟨x, er, h1, h2, h3⟩ := h.at_
  have hlt := lt_of_block h1
  have hc0 := cell_in (o := 0) h1
  have hc1 := cell_in (o := 1) h1
  have hf0 := free_in (o := 0) h1
  have hf1 := free_in (o := 1) h1
  simp only [List.getElem?_toArray, List.getElem?_cons_succ, List.getElem?_cons_zero] at hc0 hc1
  have H := Lib.hid h
  have H1 := Lib.hid h1
  have H2 := Lib.hid h2
  have hxs : x.size = s.rest.length := by rw [← h2]; simp
  have hx63 : x.size ≤ 9223372036854775807 := by omega
  clear h h1 h2 hxs
  by_cases h0 : s.err = 0
  · obtain rfl : er = .nilIface := by
      rcases h3 with ⟨_, h⟩ | ⟨h, _⟩
      · exact h
      · exact absurd h0 h
    have hnum : s.num = ((nxt 9 0 0 x.data.toList).1, ⟨s.rest.drop (nxt 9 0 0 x.data.toList).2.1, (nxt 9 0 0 x.data.toList).2.2⟩) := by unfold Rst.num; rw [if_pos h0, H2.out]
    have HN := Lib.hid hnum
    have hmany : (nxt 9 0 0 x.data.toList).2.1 ≤ x.size := by have := nxt_le 9 0 0 x.data.toList; simp at this; exact this
    clear h0 h3 hnum
    rw [HN.out]
    generalize hv : nxt 9 0 0 x.data.toList = v at *
    obtain ⟨n, many, e⟩ := v
    have HV := Lib.hid hv
    clear hv
    simp only at hmany
    go_enter Tryd.func29, Tryd.ntmps29
    go_wp2_with fail
    refine (next_any x hx63 _).mono ?_
    rintro e' w1 ⟨ev, rfl, hread⟩
    have HR := Lib.hid hread
    have hlt1 : w.heap.size ≤ w1.heap.size := hread.1.size
    have hc0' : w1.cell? ⟨b, 0, none⟩ = some (.string x) := (hread.1.cell (p := ⟨b, 0, none⟩) hlt).trans hc0
    have hc1' : w1.cell? ⟨b, 1, none⟩ = some .nilIface := (hread.1.cell (p := ⟨b, 1, none⟩) hlt).trans hc1
    have hf0' : w1.frozen? ⟨b, 0, none⟩ = false := (hread.1.frozen (p := ⟨b, 0, none⟩) hlt).trans hf0
    have hf1' : w1.frozen? ⟨b, 1, none⟩ = false := (hread.1.frozen (p := ⟨b, 1, none⟩) hlt).trans hf1
    rw [HV.out] at HR
    rw [HV.out]
    clear hread hc0 hc1 hf0 hf1
    have hev : ev = .nilIface ∨ ∃ p, ev = .iface 77 (.pointer (some ⟨p, 0, none⟩)) := by
      obtain ⟨_, T, hT, _⟩ := HR.out
      rcases hT with ⟨_, h⟩ | ⟨_, p, h, _⟩
      · exact .inl h
      · exact .inr ⟨p, h⟩
    rcases hev with rfl | ⟨p, rfl⟩
    all_goals
      go_wp2_with fail
      go_ret
      exact ⟨rfl, H.out.stored H1.out HR.out (by rw [drop_data, H2.out])⟩
  · obtain ⟨p, rfl, _⟩ := h3.isSome h0
    have hnum : s.num = (0, s) := by unfold Rst.num; rw [if_neg h0]
    rw [hnum]
    clear h0 hnum
    go_enter Tryd.func29, Tryd.ntmps29
    go_wp2_with fail
    go_ret
    exact ⟨rfl, Moves.same H.out⟩

set_option maxHeartbeats 1000000 in
theorem RLeft_any (b : Nat) (s : Rst) (S : List Nat) (w : World) (h : IsR w b s S) :
    Calls Tryd.prog 27 #[.pointer (some ⟨b, 0, none⟩)] w fun ev w' => ev = .returned (.int .i64 (s.left : Nat)) ∧ w = w' := by
  obtain ⟨x, er, h1, h2, h3⟩ := h.at_
  have hc0 := cell_in (o := 0) h1
  have hc1 := cell_in (o := 1) h1
  simp only [List.getElem?_toArray, List.getElem?_cons_succ, List.getElem?_cons_zero] at hc0 hc1
  have hxs : s.rest.length = x.size := by rw [← h2]; simp
  clear h h1 h2
  by_cases h0 : s.err = 0
  · obtain rfl : er = .nilIface := by
      rcases h3 with ⟨_, h⟩ | ⟨h, _⟩
      · exact h
      · exact absurd h0 h
    have hl : s.left = x.size := by unfold Rst.left; rw [if_pos h0, hxs]
    rw [hl]
    clear h0 hl hxs h3
    go_enter Tryd.func27, Tryd.ntmps27
    go_wp2_with fail
    go_ret
    exact ⟨rfl, rfl⟩
  · obtain ⟨p, rfl, _⟩ := h3.isSome h0
    have hl : s.left = 0 := by unfold Rst.left; rw [if_neg h0]
    rw [hl]
    clear h0 hl hxs
    go_enter Tryd.func27, Tryd.ntmps27
    go_wp2_with fail
    go_ret
    exact ⟨rfl, rfl⟩

theorem toList_nil {p : ByteArray} (h : p.data.toList = []) : p.toList = [] := by rw [ByteArray.toList_eq]; exact h
theorem toList_ne {p : ByteArray} (h : p.data.toList ≠ []) : p.toList.isEmpty = false := by
  rw [ByteArray.toList_eq]
  cases hl : p.data.toList with
  | nil => exact absurd hl h
  | cons => rfl

set_option maxHeartbeats 1000000 in
theorem RDone_ok (b : Nat) (s : Rst) (S : List Nat) (w : World) (h : IsR w b s S) (h0 : s.err = 0) :
    Calls Tryd.prog 26 #[.pointer (some ⟨b, 0, none⟩)] w fun ev w' => ev = .returned (.int .i64 s.done) ∧ w' = w := by
  obtain ⟨x, er, h1, h2, h3⟩ := h.at_
  have hc0 := cell_in (o := 0) h1
  have hc1 := cell_in (o := 1) h1
  simp only [List.getElem?_toArray, List.getElem?_cons_succ, List.getElem?_cons_zero] at hc0 hc1
  clear h h1
  obtain rfl := h3.isNil h0
  by_cases hr : s.rest = []
  · have hd : s.done = 0 := by unfold Rst.done; rw [if_pos h0, if_pos hr]
    rw [hd]
    have e1 := toList_nil (h2.trans hr)
    have e2 : x.toList.isEmpty = true := by rw [e1]; rfl
    clear h0 hd hr h3 h2
    go_enter Tryd.func26, Tryd.ntmps26
    go_wp2_with fail
    go_ret
    exact ⟨rfl, rfl⟩
  · have hd : s.done = 33 := by unfold Rst.done; rw [if_pos h0, if_neg hr]
    rw [hd]
    have e1 := toList_ne (p := x) (by rw [h2]; exact hr)
    have e2 : x.toList ≠ [] := by intro h; rw [h] at e1; cases e1
    clear h0 hd hr h3 h2
    go_enter Tryd.func26, Tryd.ntmps26
    go_wp2_with fail
    go_ret
    exact ⟨rfl, rfl⟩

set_option maxHeartbeats 1000000 in
theorem RDone_any (b : Nat) (s : Rst) (S : List Nat) (w : World) (hg : Reg w) (h : IsR w b s S) :
    Calls Tryd.prog 26 #[.pointer (some ⟨b, 0, none⟩)] w fun ev w' => ev = .returned (.int .i64 s.done) ∧ Below w.heap.size w w' := by
  obtain ⟨x, er, h1, h2, h3⟩ := h.at_
  have hc0 := cell_in (o := 0) h1
  have hc1 := cell_in (o := 1) h1
  simp only [List.getElem?_toArray, List.getElem?_cons_succ, List.getElem?_cons_zero] at hc0 hc1
  have Hg := Lib.hid hg
  clear h h1 hg
  by_cases h0 : s.err = 0
  · obtain rfl : er = .nilIface := by
      rcases h3 with ⟨_, h⟩ | ⟨h, _⟩
      · exact h
      · exact absurd h0 h
    by_cases hr : s.rest = []
    · have hd : s.done = 0 := by unfold Rst.done; rw [if_pos h0, if_pos hr]
      rw [hd]
      have e1 := toList_nil (h2.trans hr)
      have e2 : x.toList.isEmpty = true := by rw [e1]; rfl
      clear h0 hd hr h3 h2
      go_enter Tryd.func26, Tryd.ntmps26
      go_wp2_with fail
      go_ret
      exact ⟨rfl, Below.refl _ _⟩
    · have hd : s.done = 33 := by unfold Rst.done; rw [if_pos h0, if_neg hr]
      rw [hd]
      have e1 := toList_ne (p := x) (by rw [h2]; exact hr)
      have e2 : x.toList ≠ [] := by intro h; rw [h] at e1; cases e1
      clear h0 hd hr h3 h2
      go_enter Tryd.func26, Tryd.ntmps26
      go_wp2_with fail
      go_ret
      exact ⟨rfl, Below.refl _ _⟩
  · obtain ⟨p, hp1, hp2⟩ := h3.isSome h0
    subst hp1
    have hd : s.done = s.err := by unfold Rst.done; rw [if_neg h0]
    rw [hd]
    have Hp := Lib.hid (cell_of_one hp2)
    clear h0 hd hp2 h2
    go_enter Tryd.func26, Tryd.ntmps26
    go_wp2_with fail
    refine (told_any p s.err _ Hg.out Hp.out).mono ?_
    rintro e w1 ⟨rfl, hb⟩
    have HB := Lib.hid hb
    clear hb
    go_wp2_with fail
    go_ret
    exact ⟨rfl, HB.out⟩
end Go.Proofs.YtmijkaejdgmplaaDoor.co
