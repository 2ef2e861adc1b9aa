/- The reference's Parse returns the plain function; its words lie in new memory. Condition: the text is no longer than 2147483647 bytes. -/
import Derived.Test.YtkbamhecbfocbaaGreatDoorVbE
import Derived.Test.YtkbamhecbfocbaaGreatDoorVbF
namespace Go.Proofs.YtkbamhecbfocbaaGreatDoor.va
open Go.ChangeShapes Go.WideShapes Go.ChangeAt Go.RowKit gl

theorem FreshR.shape {w w' : World} {sl : Value} {xs : List ByteArray} (h : FreshR w w' sl xs) : ∃ p n c, sl = .slice p n c := by
  rcases h with ⟨_, rfl⟩ | ⟨g, c, cs, rfl, _⟩
  · exact ⟨_, _, _, rfl⟩
  · exact ⟨_, _, _, rfl⟩
theorem FreshR.up {w w1 W : World} {o : Obj} {sl : Value} {xs : List ByteArray} (h : FreshR (w.alloc o) w1 sl xs) (_hs : W.heap.size = w1.heap.size) (hW : ∀ k : Nat, k ≠ w.heap.size → W.heap[k]? = w1.heap[k]?) : FreshR w W sl xs := by
  rcases h with h | ⟨g, c, cs, rfl, hc, h1, h2, hat⟩
  · exact .inl h
  · simp only [World.size_alloc] at h1
    exact .inr ⟨g, c, cs, rfl, hc, by omega, (hW g (by omega)).trans h2, hat⟩

set_option maxHeartbeats 1000000 in
set_option maxRecDepth 100000 in
theorem refParse_2 (s : ByteArray) (hs : s.size ≤ 2147483647) (w : World) :
    Calls Tryz.prog 8 #[.int .i64 2, .string s] w fun e w' => RefOut (parseInt s.data.toList) w e w' ∧ Below w.heap.size w w' := by
  obtain ⟨⟨⟨kk, nn, tt, ww⟩, ee⟩, hr⟩ : ∃ r, parseInt s.data.toList = r := ⟨_, rfl⟩
  have hcon : Calls Tryz.prog 27 #[.string s] (w.alloc (.cells #[.int .i64 0, .int .i64 0, .string ⟨#[]⟩, .slice none 0 0] 28)) fun e w' => (∃ p n c, e = .returned (.tuple #[.agg #[.int .i64 kk, .int .i64 nn, .string tt, .slice p n c], .int .i64 ee]) ∧ FreshR (w.alloc (.cells #[.int .i64 0, .int .i64 0, .string ⟨#[]⟩, .slice none 0 0] 28)) w' (.slice p n c) ww) ∧ Below (w.alloc (.cells #[.int .i64 0, .int .i64 0, .string ⟨#[]⟩, .slice none 0 0] 28)).heap.size (w.alloc (.cells #[.int .i64 0, .int .i64 0, .string ⟨#[]⟩, .slice none 0 0] 28)) w' := by
    refine (refWhole_any s hs _).mono ?_
    rintro e w' ⟨rfl, hb⟩
    rw [hr]
    refine ⟨⟨_, _, _, rfl, .inl ⟨?_, rfl⟩⟩, hb⟩
    have := parseInt_words s.data.toList
    rw [hr] at this
    exact this
  rw [hr]
  clear hr
  go_enter Tryz.func8, Tryz.ntmps8
  go_wp2_with fail
  refine hcon.mono ?_
  rintro e w1 ⟨⟨p, n, c, rfl, hfr⟩, hb⟩
  have Hb := Lib.hid hb
  have Hfr := Lib.hid hfr
  clear hfr hb
  have Hblk := Lib.hid ((new_block Hb.out).trans (heap_alloc_new w _))
  obtain ⟨⟨c0, c1, c2, c3⟩, f0, f1, f2, f3⟩ := res_cells Hb.out
  go_wp2_with fail
  generalize hW : World.setCell (World.setCell (World.setCell (World.setCell w1 _ _) _ _) _ _) _ _ = W
  obtain ⟨⟨g0, g1, g2, g3⟩, hsW, hoth, hbel⟩ := four_done Hblk.out hW
  have HB := Lib.hid (hbel w.heap.size w ((((Below.refl _ w).alloc (Nat.le_refl _) _)).trans (Hb.out.mono (by simp))) (Nat.le_refl _))
  have HO := Lib.hid hoth
  have HsW := Lib.hid hsW
  clear hW hbel hoth hsW
  (try simp only [Exit.inBlock, Exit.then])
  refine bodyPost_ret (by simp [results, Tryz.results8, go_sem, g0, g1, g2, g3]; try rfl) rfl ?_
  exact ⟨⟨_, rfl, Hfr.out.up HsW.out HO.out⟩, HB.out⟩

set_option maxHeartbeats 1000000 in
set_option maxRecDepth 100000 in
theorem refParse_u (k : Int) (hk : k = 3 ∨ k = 4) (s : ByteArray) (hs : s.size ≤ 2147483647) (w : World) :
    Calls Tryz.prog 8 #[.int .i64 k, .string s] w fun e w' => RefOut (parseUnit k s.data.toList) w e w' ∧ Below w.heap.size w w' := by
  obtain ⟨⟨⟨kk, nn, tt, ww⟩, ee⟩, hr⟩ : ∃ r, parseUnit k s.data.toList = r := ⟨_, rfl⟩
  have hcon : Calls Tryz.prog 28 #[.int .i64 k, .string s] (w.alloc (.cells #[.int .i64 0, .int .i64 0, .string ⟨#[]⟩, .slice none 0 0] 28)) fun e w' => (∃ p n c, e = .returned (.tuple #[.agg #[.int .i64 kk, .int .i64 nn, .string tt, .slice p n c], .int .i64 ee]) ∧ FreshR (w.alloc (.cells #[.int .i64 0, .int .i64 0, .string ⟨#[]⟩, .slice none 0 0] 28)) w' (.slice p n c) ww) ∧ Below (w.alloc (.cells #[.int .i64 0, .int .i64 0, .string ⟨#[]⟩, .slice none 0 0] 28)).heap.size (w.alloc (.cells #[.int .i64 0, .int .i64 0, .string ⟨#[]⟩, .slice none 0 0] 28)) w' := by
    refine (refUnited_any k hk s hs _).mono ?_
    rintro e w' ⟨rfl, hb⟩
    rw [hr]
    refine ⟨⟨_, _, _, rfl, .inl ⟨?_, rfl⟩⟩, hb⟩
    have := parseUnit_words k s.data.toList
    rw [hr] at this
    exact this
  rw [hr]
  clear hr
  rcases hk with rfl | rfl
  all_goals
    go_enter Tryz.func8, Tryz.ntmps8
    go_wp2_with fail
    refine hcon.mono ?_
    rintro e w1 ⟨⟨p, n, c, rfl, hfr⟩, hb⟩
    have Hb := Lib.hid hb
    have Hfr := Lib.hid hfr
    clear hfr hb
    have Hblk := Lib.hid ((new_block Hb.out).trans (heap_alloc_new w _))
    obtain ⟨⟨c0, c1, c2, c3⟩, f0, f1, f2, f3⟩ := res_cells Hb.out
    go_wp2_with fail
    generalize hW : World.setCell (World.setCell (World.setCell (World.setCell w1 _ _) _ _) _ _) _ _ = W
    obtain ⟨⟨g0, g1, g2, g3⟩, hsW, hoth, hbel⟩ := four_done Hblk.out hW
    have HB := Lib.hid (hbel w.heap.size w ((((Below.refl _ w).alloc (Nat.le_refl _) _)).trans (Hb.out.mono (by simp))) (Nat.le_refl _))
    have HO := Lib.hid hoth
    have HsW := Lib.hid hsW
    clear hW hbel hoth hsW
    (try simp only [Exit.inBlock, Exit.then])
    refine bodyPost_ret (by simp [results, Tryz.results8, go_sem, g0, g1, g2, g3]; try rfl) rfl ?_
    exact ⟨⟨_, rfl, Hfr.out.up HsW.out HO.out⟩, HB.out⟩

set_option maxHeartbeats 1000000 in
set_option maxRecDepth 100000 in
theorem refParse_5 (s : ByteArray) (hs : s.size ≤ 2147483647) (w : World) :
    Calls Tryz.prog 8 #[.int .i64 5, .string s] w fun e w' => RefOut (parseText s.data.toList) w e w' ∧ Below w.heap.size w w' := by
  obtain ⟨⟨⟨kk, nn, tt, ww⟩, ee⟩, hr⟩ : ∃ r, parseText s.data.toList = r := ⟨_, rfl⟩
  have hcon : Calls Tryz.prog 29 #[.string s] (w.alloc (.cells #[.int .i64 0, .int .i64 0, .string ⟨#[]⟩, .slice none 0 0] 28)) fun e w' => (∃ p n c, e = .returned (.tuple #[.agg #[.int .i64 kk, .int .i64 nn, .string tt, .slice p n c], .int .i64 ee]) ∧ FreshR (w.alloc (.cells #[.int .i64 0, .int .i64 0, .string ⟨#[]⟩, .slice none 0 0] 28)) w' (.slice p n c) ww) ∧ Below (w.alloc (.cells #[.int .i64 0, .int .i64 0, .string ⟨#[]⟩, .slice none 0 0] 28)).heap.size (w.alloc (.cells #[.int .i64 0, .int .i64 0, .string ⟨#[]⟩, .slice none 0 0] 28)) w' := by
    refine (refText_any s hs _).mono ?_
    rintro e w' ⟨rfl, hb⟩
    rw [hr]
    refine ⟨⟨_, _, _, rfl, .inl ⟨?_, rfl⟩⟩, hb⟩
    have := parseText_words s.data.toList
    rw [hr] at this
    exact this
  rw [hr]
  clear hr
  go_enter Tryz.func8, Tryz.ntmps8
  go_wp2_with fail
  refine hcon.mono ?_
  rintro e w1 ⟨⟨p, n, c, rfl, hfr⟩, hb⟩
  have Hb := Lib.hid hb
  have Hfr := Lib.hid hfr
  clear hfr hb
  have Hblk := Lib.hid ((new_block Hb.out).trans (heap_alloc_new w _))
  obtain ⟨⟨c0, c1, c2, c3⟩, f0, f1, f2, f3⟩ := res_cells Hb.out
  go_wp2_with fail
  generalize hW : World.setCell (World.setCell (World.setCell (World.setCell w1 _ _) _ _) _ _) _ _ = W
  obtain ⟨⟨g0, g1, g2, g3⟩, hsW, hoth, hbel⟩ := four_done Hblk.out hW
  have HB := Lib.hid (hbel w.heap.size w ((((Below.refl _ w).alloc (Nat.le_refl _) _)).trans (Hb.out.mono (by simp))) (Nat.le_refl _))
  have HO := Lib.hid hoth
  have HsW := Lib.hid hsW
  clear hW hbel hoth hsW
  (try simp only [Exit.inBlock, Exit.then])
  refine bodyPost_ret (by simp [results, Tryz.results8, go_sem, g0, g1, g2, g3]; try rfl) rfl ?_
  exact ⟨⟨_, rfl, Hfr.out.up HsW.out HO.out⟩, HB.out⟩

set_option maxHeartbeats 1000000 in
set_option maxRecDepth 100000 in
theorem refParse_6 (s : ByteArray) (hs : s.size ≤ 2147483647) (w : World) :
    Calls Tryz.prog 8 #[.int .i64 6, .string s] w fun e w' => RefOut (parseWords wordL s.data.toList) w e w' ∧ Below w.heap.size w w' := by
  obtain ⟨⟨⟨kk, nn, tt, ww⟩, ee⟩, hr⟩ : ∃ r, parseWords wordL s.data.toList = r := ⟨_, rfl⟩
  have hcon : Calls Tryz.prog 30 #[.string s] (w.alloc (.cells #[.int .i64 0, .int .i64 0, .string ⟨#[]⟩, .slice none 0 0] 28)) fun e w' => (∃ p n c, e = .returned (.tuple #[.agg #[.int .i64 kk, .int .i64 nn, .string tt, .slice p n c], .int .i64 ee]) ∧ FreshR (w.alloc (.cells #[.int .i64 0, .int .i64 0, .string ⟨#[]⟩, .slice none 0 0] 28)) w' (.slice p n c) ww) ∧ Below (w.alloc (.cells #[.int .i64 0, .int .i64 0, .string ⟨#[]⟩, .slice none 0 0] 28)).heap.size (w.alloc (.cells #[.int .i64 0, .int .i64 0, .string ⟨#[]⟩, .slice none 0 0] 28)) w' := by
    refine (refWords_any s hs _).mono ?_
    rintro e w' ⟨⟨sl, rfl, hf⟩, hb⟩
    rw [hr] at hf ⊢
    obtain ⟨p, n, c, rfl⟩ := hf.shape
    exact ⟨⟨p, n, c, rfl, hf⟩, hb⟩
  rw [hr]
  clear hr
  go_enter Tryz.func8, Tryz.ntmps8
  go_wp2_with fail
  refine hcon.mono ?_
  rintro e w1 ⟨⟨p, n, c, rfl, hfr⟩, hb⟩
  have Hb := Lib.hid hb
  have Hfr := Lib.hid hfr
  clear hfr hb
  have Hblk := Lib.hid ((new_block Hb.out).trans (heap_alloc_new w _))
  obtain ⟨⟨c0, c1, c2, c3⟩, f0, f1, f2, f3⟩ := res_cells Hb.out
  go_wp2_with fail
  generalize hW : World.setCell (World.setCell (World.setCell (World.setCell w1 _ _) _ _) _ _) _ _ = W
  obtain ⟨⟨g0, g1, g2, g3⟩, hsW, hoth, hbel⟩ := four_done Hblk.out hW
  have HB := Lib.hid (hbel w.heap.size w ((((Below.refl _ w).alloc (Nat.le_refl _) _)).trans (Hb.out.mono (by simp))) (Nat.le_refl _))
  have HO := Lib.hid hoth
  have HsW := Lib.hid hsW
  clear hW hbel hoth hsW
  (try simp only [Exit.inBlock, Exit.then])
  refine bodyPost_ret (by simp [results, Tryz.results8, go_sem, g0, g1, g2, g3]; try rfl) rfl ?_
  exact ⟨⟨_, rfl, Hfr.out.up HsW.out HO.out⟩, HB.out⟩

set_option maxHeartbeats 1000000 in
theorem refParse_1 (s : ByteArray) (w : World) :
    Calls Tryz.prog 8 #[.int .i64 1, .string s] w fun e w' => RefOut (parseBool s.data.toList) w e w' ∧ Below w.heap.size w w' := by
  suffices h : Calls Tryz.prog 8 #[.int .i64 1, .string s] w fun e w' => e = .returned (res (parseBool s.data.toList) (.slice none 0 0)) ∧ Below w.heap.size w w' by
    refine h.mono ?_
    rintro e w' ⟨rfl, hb⟩
    exact ⟨⟨_, rfl, .inl ⟨parseBool_words _, rfl⟩⟩, hb⟩
  rw [← ByteArray.toList_eq s]
  cases h1 : (s.toList == [116, 114, 117, 101]) with
  | true =>
    have H := Lib.hid (pb_yes (.inl h1))
    go_enter Tryz.func8, Tryz.ntmps8
    go_wp2
    go_returns
    exact ⟨by rw [H.out]; rfl, by go_grown⟩
  | false =>
    cases h2 : (s.toList == [121, 101, 115]) with
    | true =>
      have H := Lib.hid (pb_yes (.inr (.inl h2)))
      go_enter Tryz.func8, Tryz.ntmps8
      go_wp2
      go_returns
      exact ⟨by rw [H.out]; rfl, by go_grown⟩
    | false =>
      cases h3 : (s.toList == [111, 110]) with
      | true =>
        have H := Lib.hid (pb_yes (.inr (.inr h3)))
        go_enter Tryz.func8, Tryz.ntmps8
        go_wp2
        go_returns
        exact ⟨by rw [H.out]; rfl, by go_grown⟩
      | false =>
        cases h4 : (s.toList == [102, 97, 108, 115, 101]) with
        | true =>
          have H := Lib.hid (pb_no (.inl h4))
          go_enter Tryz.func8, Tryz.ntmps8
          go_wp2
          go_returns
          exact ⟨by rw [H.out]; rfl, by go_grown⟩
        | false =>
          cases h5 : (s.toList == [110, 111]) with
          | true =>
            have H := Lib.hid (pb_no (.inr (.inl h5)))
            go_enter Tryz.func8, Tryz.ntmps8
            go_wp2
            go_returns
            exact ⟨by rw [H.out]; rfl, by go_grown⟩
          | false =>
            cases h6 : (s.toList == [111, 102, 102]) with
            | true =>
              have H := Lib.hid (pb_no (.inr (.inr h6)))
              go_enter Tryz.func8, Tryz.ntmps8
              go_wp2
              go_returns
              exact ⟨by rw [H.out]; rfl, by go_grown⟩
            | false =>
              have H := Lib.hid (pb_none h1 h2 h3 h4 h5 h6)
              go_enter Tryz.func8, Tryz.ntmps8
              go_wp2
              go_returns
              exact ⟨by rw [H.out]; rfl, by go_grown⟩

theorem refParse_any (k : Int) (s : ByteArray) (hs : s.size ≤ 2147483647) (w : World) :
    Calls Tryz.prog 8 #[.int .i64 k, .string s] w fun e w' => RefOut (parse wordL k s.data.toList) w e w' ∧ Below w.heap.size w w' := by
  by_cases h1 : k = 1
  · subst h1; exact refParse_1 s w
  by_cases h2 : k = 2
  · subst h2; exact refParse_2 s hs w
  by_cases hu : k = 3 ∨ k = 4
  · have : parse wordL k s.data.toList = parseUnit k s.data.toList := by unfold parse; rw [if_neg h1, if_neg h2, if_pos hu]
    rw [this]
    exact refParse_u k hu s hs w
  by_cases h5 : k = 5
  · subst h5; exact refParse_5 s hs w
  by_cases h6 : k = 6
  · subst h6; exact refParse_6 s hs w
  have He : Hid (parse wordL k s.data.toList = (zero, 1)) := Lib.hid (by unfold parse; rw [if_neg h1, if_neg h2, if_neg hu, if_neg h5, if_neg h6])
  have q1 : (k == 1) = false := by simp [h1]
  have q2 : (k == 2) = false := by simp [h2]
  have q3 : (k == 3) = false := by simp; omega
  have q4 : (k == 4) = false := by simp; omega
  have q5 : (k == 5) = false := by simp [h5]
  have q6 : (k == 6) = false := by simp [h6]
  clear h1 h2 hu h5 h6
  go_enter Tryz.func8, Tryz.ntmps8
  go_wp2_with fail
  go_returns
  exact ⟨⟨_, by rw [He.out]; rfl, .inl ⟨by rw [He.out]; rfl, rfl⟩⟩, by go_grown⟩
end Go.Proofs.YtkbamhecbfocbaaGreatDoor.va
