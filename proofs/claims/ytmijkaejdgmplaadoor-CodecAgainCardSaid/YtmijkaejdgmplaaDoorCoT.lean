/- codec's Reader.Text, NewReader; the small functions of tinderboxlaw03. Conditions beside each. -/
import Derived.Test.YtmijkaejdgmplaaDoorCoD
namespace Go.Proofs.YtmijkaejdgmplaaDoor.co
open Go.ChangeShapes Go.WideShapes Go.ChangeAt Go.RowKit

theorem isR_new (w : World) (x : ByteArray) : IsR (w.alloc (.cells #[.string x, .nilIface] 76)) w.heap.size ⟨x.data.toList, 0⟩ [w.heap.size] :=
  ⟨⟨_, _, heap_alloc_new w _, rfl, .inl ⟨rfl, rfl⟩⟩, by simp, by simp⟩
theorem NewReader_any (x : ByteArray) (w : World) : Calls Tryd.prog 24 #[.string x] w fun ev w' => ev = .returned (.pointer (some ⟨w.heap.size, 0, none⟩)) ∧ IsR w' w.heap.size ⟨x.data.toList, 0⟩ [w.heap.size] ∧ Below w.heap.size w w' := by
  go_enter Tryd.func24, Tryd.ntmps24
  go_wp2_with fail
  go_ret
  exact ⟨rfl, isR_new w x, (Below.refl _ _).alloc (Nat.le_refl _) _⟩

theorem IsR.fail {w : World} {b : Nat} {s : Rst} {S : List Nat} {x : ByteArray} {ev : Value} (h : IsR w b s S) (h1 : w.heap[b]? = some (.cells #[.string x, ev] 76 (0, 0))) (hx : x.data.toList = s.rest) (e : Int) (he : e ≠ 0) :
    Moves S w ((w.setCell ⟨b, 1, none⟩ (.iface 77 (.pointer (some ⟨w.heap.size, 0, none⟩)))).alloc (.cells #[.int .i64 e] 79)) (IsR ((w.setCell ⟨b, 1, none⟩ (.iface 77 (.pointer (some ⟨w.heap.size, 0, none⟩)))).alloc (.cells #[.int .i64 e] 79)) b { s with err := e }) := by
  refine ⟨w.heap.size :: S, ⟨⟨x, _, ?_, hx, .inr ⟨he, w.heap.size, rfl, ?_, by simp⟩⟩, by simp [h.mem], fun k hk => ?_⟩, ((Upd.refl _ _).setCell (.inl h.mem) _).alloc _, fun k hk => ?_⟩
  · have := heap_al (heap_set (o := 1) h1 (.iface 77 (.pointer (some ⟨w.heap.size, 0, none⟩)))) (.cells #[.int .i64 e] 79)
    simpa using this
  · have := heap_alloc_new (w.setCell ⟨b, 1, none⟩ (.iface 77 (.pointer (some ⟨w.heap.size, 0, none⟩)))) (.cells #[.int .i64 e] 79)
    simpa only [World.size_setCell] using this
  · simp only [List.mem_cons] at hk
    simp only [World.size_setCell, World.size_alloc]
    rcases hk with rfl | hk
    · omega
    · have := h.lt k hk; omega
  · simp only [List.mem_cons] at hk
    rcases hk with rfl | hk
    · exact .inr (Nat.le_refl _)
    · exact .inl hk
theorem IsR.cut {w : World} {b : Nat} {s : Rst} {S : List Nat} {x y : ByteArray} {ev : Value} {l : List UInt8} (h : IsR w b s S) (h1 : w.heap[b]? = some (.cells #[.string x, ev] 76 (0, 0))) (he : ErrAt w S ev s.err) (hy : y.data.toList = l) :
    Moves S w (w.setCell ⟨b, 0, none⟩ (.string y)) (IsR (w.setCell ⟨b, 0, none⟩ (.string y)) b { s with rest := l }) := by
  have hu : Upd [b] w (w.setCell ⟨b, 0, none⟩ (.string y)) := (Upd.refl [b] w).setCell (p := ⟨b, 0, none⟩) (.inl (by simp)) (.string y)
  refine ⟨S, ⟨⟨y, ev, ?_, hy, ?_⟩, h.mem, fun k hk => by simpa only [World.size_setCell] using h.lt k hk⟩, hu.mono (by simp [h.mem]), fun k hk => .inl hk⟩
  · have := heap_set (o := 0) h1 (.string y)
    simpa using this
  · rcases he with he | ⟨h0, p, h2, h3, h4⟩
    · exact .inl he
    · exact .inr ⟨h0, p, h2, hu.obj h3 (by simp only [List.mem_singleton]; exact ne_of_types h3 h1 (by decide)), h4⟩
theorem Moves.trans {S : List Nat} {w w1 w2 : World} {R1 R2 : List Nat → Prop} (h : Moves S w w1 R1) (h2 : ∀ S', R1 S' → Moves S' w1 w2 R2) : Moves S w w2 R2 := by
  obtain ⟨S', hr, hu, hk⟩ := h
  obtain ⟨S2, hr2, hu2, hk2⟩ := h2 S' hr
  refine ⟨S2, hr2, hu.trans hu2 hk, fun k hk' => ?_⟩
  rcases hk2 k hk' with h | h
  · exact hk k h
  · exact .inr (Nat.le_trans hu.size h)

set_option maxHeartbeats 2000000 in
theorem RText_any (b : Nat) (most : Int) (s : Rst) (S : List Nat) (w : World) (hsz : s.rest.length ≤ 9223372036854775807) (h : IsR w b s S) :
    Calls Tryd.prog 28 #[.pointer (some ⟨b, 0, none⟩), .int .i64 most] w fun ev w' => ev = .returned (.string ⟨(s.text most).1.toArray⟩) ∧ Moves S w w' (IsR w' b (s.text most).2) := by
  obtain ⟨R, hRt⟩ : ∃ R, R = s.text most := ⟨_, rfl⟩
  rw [← hRt]
  have HRt := Lib.hid hRt
  clear hRt
  go_enter Tryd.func28, Tryd.ntmps28
  go_wp2_with fail
  refine (RNum_any b s S w hsz h).mono ?_
  rintro e w1 ⟨rfl, hM⟩
  obtain ⟨S1, hR, hu, hS1⟩ := hM
  obtain ⟨x, er, h1, h2, h3⟩ := hR.at_
  have hlt := lt_of_block h1
  have hc0 := cell_in (o := 0) h1
  have hc1 := cell_in (o := 1) h1
  have hf0 := free_in (o := 0) h1
  have hf1 := free_in (o := 1) h1
  simp only [List.getElem?_toArray, List.getElem?_cons_succ, List.getElem?_cons_zero] at hc0 hc1
  have HM : Hid (Moves S w w1 (IsR w1 b s.num.2)) := Lib.hid ⟨S1, hR, hu, hS1⟩
  have HR := Lib.hid hR
  have H1 := Lib.hid h1
  have H2 := Lib.hid h2
  have H3 := Lib.hid h3
  have hxs : x.size = s.num.2.rest.length := by rw [← h2]; simp
  have hrl : s.num.2.rest.length ≤ s.rest.length := by
    unfold Rst.num
    split
    · simp
    · exact Nat.le_refl _
  have hx63 : x.size ≤ 9223372036854775807 := by omega
  have HX := Lib.hid hxs
  have hn63 : s.num.1 ≤ 4611686018427387904 := by
    unfold Rst.num
    split
    · exact nxt_max 9 0 0 _
    · exact Nat.zero_le _
  clear h hR hu hS1 h1 h2 h3 hxs hrl hsz
  have htx : s.text most = (if s.num.2.err = 0 then (if (s.num.1 : Int) > most ∨ s.num.1 > 65535 then ([], { s.num.2 with err := 31 }) else if s.num.1 > s.num.2.rest.length then ([], { s.num.2 with err := 32 }) else (s.num.2.rest.take s.num.1, { s.num.2 with rest := s.num.2.rest.drop s.num.1 })) else ([], s.num.2)) := rfl
  have HRx := Lib.hid (HRt.out.trans htx)
  clear htx HRt
  generalize s.num = v at *
  obtain ⟨n, t⟩ := v
  simp only at hn63
  by_cases h0 : t.err = 0
  · obtain rfl := H3.out.isNil h0
    by_cases hbig : (n : Int) > most ∨ n > 65535
    · have HV : Hid ((if t.err = 0 then (if (n : Int) > most ∨ n > 65535 then ([], { t with err := 31 }) else if n > t.rest.length then ([], { t with err := 32 }) else (t.rest.take n, { t with rest := t.rest.drop n })) else ([], t)) = (([] : List UInt8), ({ t with err := 31 } : Rst))) := Lib.hid (by rw [if_pos h0, if_pos hbig])
      clear h0
      rcases (show decide (most < (n : Int)) = true ∨ (decide (most < (n : Int)) = false ∧ (65535 : Int) < (n : Int)) from by
        by_cases h : most < (n : Int)
        · exact .inl (by simpa using h)
        · exact .inr ⟨by simpa using h, by omega⟩) with e1 | ⟨e1, e2⟩
      all_goals
        clear hbig
        go_wp2_with fail
        go_ret
        rw [HRx.out.trans HV.out]
        exact ⟨rfl, Moves.trans HM.out fun S' hR' => hR'.fail H1.out H2.out 31 (by decide)⟩
    · have hb1 : ¬ (most < (n : Int)) := fun h => hbig (.inl h)
      have hb1' : decide (most < (n : Int)) = false := by simpa using hb1
      have hb2 : (n : Int) ≤ 65535 := by
        have : ¬ n > 65535 := fun h => hbig (.inr h)
        omega
      by_cases hlong : x.size < n
      · have HV : Hid ((if t.err = 0 then (if (n : Int) > most ∨ n > 65535 then ([], { t with err := 31 }) else if n > t.rest.length then ([], { t with err := 32 }) else (t.rest.take n, { t with rest := t.rest.drop n })) else ([], t)) = (([] : List UInt8), ({ t with err := 32 } : Rst))) := Lib.hid (by rw [if_pos h0, if_neg hbig, if_pos (by have := HX.out; simp only at this; omega)])
        clear h0 hbig hb1
        go_wp2_with fail
        go_ret
        rw [HRx.out.trans HV.out]
        exact ⟨rfl, Moves.trans HM.out fun S' hR' => hR'.fail H1.out H2.out 32 (by decide)⟩
      · have HV : Hid ((if t.err = 0 then (if (n : Int) > most ∨ n > 65535 then ([], { t with err := 31 }) else if n > t.rest.length then ([], { t with err := 32 }) else (t.rest.take n, { t with rest := t.rest.drop n })) else ([], t)) = (t.rest.take n, ({ t with rest := t.rest.drop n } : Rst))) := Lib.hid (by rw [if_pos h0, if_neg hbig, if_neg (by have := HX.out; simp only at this; omega)])
        have hle : n ≤ x.size := by omega
        have H0 := Lib.hid h0
        clear h0 hbig hb1
        go_wp2_with fail
        go_ret
        rw [HRx.out.trans HV.out]
        refine ⟨ret_str (ByteArray.ext (by rw [← Array.toList_inj, take_data, H2.out])), Moves.trans HM.out fun S' hR' => ?_⟩
        exact hR'.cut H1.out (.inl ⟨H0.out, rfl⟩) (by rw [drop_data, H2.out])
  · obtain ⟨p, hp1, _⟩ := H3.out.isSome h0
    subst hp1
    have HV : Hid ((if t.err = 0 then (if (n : Int) > most ∨ n > 65535 then ([], { t with err := 31 }) else if n > t.rest.length then ([], { t with err := 32 }) else (t.rest.take n, { t with rest := t.rest.drop n })) else ([], t)) = (([] : List UInt8), t)) := Lib.hid (by rw [if_neg h0])
    clear h0
    go_wp2_with fail
    go_ret
    rw [HRx.out.trans HV.out]
    exact ⟨rfl, HM.out⟩

def pickV (c n : Int) : Int := (if c < 0 then -(c + 1) else c) % n
theorem pick_any (c n : Int) (hn : 0 < n) (hn2 : n ≤ 2147483647) (h1 : -9223372036854775808 ≤ c) (h2 : c ≤ 9223372036854775807) (w : World) :
    Calls Tryd.prog 15 #[.int .i64 c, .int .i64 n] w fun e w' => e = .returned (.int .i64 (pickV c n)) ∧ w = w' := by
  by_cases h : c < 0
  · go_enter Tryd.func15, Tryd.ntmps15
    go_wp2_with fail
    go_ret
    exact ⟨ret_int' (by unfold pickV; rw [if_pos h, ← Int.neg_tmod, Int.tmod_eq_emod_of_nonneg (by omega)]), rfl⟩
  · go_enter Tryd.func15, Tryd.ntmps15
    go_wp2_with fail
    go_ret
    exact ⟨ret_int' (by unfold pickV; rw [if_neg (by omega)]), rfl⟩
theorem pickV_bd (c n : Int) (hn : 0 < n) : 0 ≤ pickV c n ∧ pickV c n < n := by
  unfold pickV
  exact ⟨Int.emod_nonneg _ (by omega), Int.emod_lt_of_pos _ hn⟩
def numV (c : Int) : Int := (if c < 0 then -(c + 1) else c) % 4611686018427387905
theorem number_any (c : Int) (h1 : -9223372036854775808 ≤ c) (h2 : c ≤ 9223372036854775807) (w : World) :
    Calls Tryd.prog 22 #[.int .i64 c] w fun e w' => e = .returned (.int .i64 (numV c)) ∧ w = w' := by
  by_cases h : c < 0
  · go_enter Tryd.func22, Tryd.ntmps22
    go_wp2_with fail
    go_ret
    exact ⟨ret_int' (by unfold numV; rw [if_pos h, ← Int.neg_tmod, Int.tmod_eq_emod_of_nonneg (by omega)]), rfl⟩
  · go_enter Tryd.func22, Tryd.ntmps22
    go_wp2_with fail
    go_ret
    exact ⟨ret_int' (by unfold numV; rw [if_neg (by omega)]), rfl⟩
theorem numV_bd (c : Int) : 0 ≤ numV c ∧ numV c ≤ 4611686018427387904 := by unfold numV; omega
def textB (x : ByteArray) : ByteArray := if x.size > 65535 then x.extract 0 65535 else x
theorem text_any (x : ByteArray) (hx : x.size ≤ 9223372036854775807) (w : World) :
    Calls Tryd.prog 20 #[.string x] w fun e w' => e = .returned (.string (textB x)) ∧ w = w' := by
  by_cases h : 65535 < x.size
  · go_enter Tryd.func20, Tryd.ntmps20
    go_wp2_with fail
    go_ret
    exact ⟨ret_str (by unfold textB; rw [if_pos h]), rfl⟩
  · go_enter Tryd.func20, Tryd.ntmps20
    go_wp2_with fail
    go_ret
    exact ⟨ret_str (by unfold textB; rw [if_neg h]), rfl⟩
theorem textB_le (x : ByteArray) : (textB x).size ≤ 65535 ∧ (textB x).size ≤ x.size := by
  unfold textB
  split
  · rw [ByteArray.size_extract]; omega
  · omega
def addV (n m : Int) : Int := if m > 2147483647 - n then 2147483648 else n + m
theorem add_any (n m : Int) (hn : 0 ≤ n) (hn2 : n ≤ 9223372036854775807) (hm : 0 ≤ m) (hm2 : m ≤ 9223372036854775807) (w : World) :
    Calls Tryd.prog 18 #[.int .i64 n, .int .i64 m] w fun e w' => e = .returned (.int .i64 (addV n m)) ∧ w = w' := by
  by_cases h : 2147483647 - n < m
  · go_enter Tryd.func18, Tryd.ntmps18
    go_wp2_with fail
    go_ret
    exact ⟨ret_int' (by unfold addV; rw [if_pos h]), rfl⟩
  · go_enter Tryd.func18, Tryd.ntmps18
    go_wp2_with fail
    go_ret
    exact ⟨ret_int' (by unfold addV; rw [if_neg (by omega)]), rfl⟩
theorem addV_bd (n m : Int) (hn : 0 ≤ n) (hm : 0 ≤ m) : 0 ≤ addV n m ∧ addV n m ≤ 2147483648 := by unfold addV; split <;> omega
end Go.Proofs.YtmijkaejdgmplaaDoor.co
