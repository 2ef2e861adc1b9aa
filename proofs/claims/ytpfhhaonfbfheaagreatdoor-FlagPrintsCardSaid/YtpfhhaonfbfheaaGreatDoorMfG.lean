/- Laws and contracts on which the statement rests, part G: each text says what it proves, and its conditions. -/
import Derived.Test.YtpfhhaonfbfheaaGreatDoorMfF
import Derived.Test.YtpfhhaonfbfheaaGreatDoorMfA
import Derived.Lib.Case
import Derived.Lib.Replace
import Derived.Lib.ReplaceLaws
import Derived.Lib.IndexMore
import Derived.Test.YtpfhhaonfbfheaaGreatDoorMfB
import Derived.Maps.Own
import Derived.Maps.OwnOps
import Derived.Maps.Views
import Derived.Maps.StringElems
import Derived.StringKeys
import Derived.Test.YtpfhhaonfbfheaaGreatDoorShelf
import Derived.Test.YtpfhhaonfbfheaaGreatDoorMfE
import Derived.Deep.DeepCutAuto
import Derived.Test.YtpfhhaonfbfheaaGreatDoorMfC
import Derived.Shelf.GgClosure.Gives
/- The reference's Parse returns the plain function; its words lie in new memory. Condition: the text is no longer than 2147483647 bytes. -/
namespace Go.Proofs.YtpfhhaonfbfheaaGreatDoor.va
open Go.ChangeShapes Go.WideShapes Go.ChangeAt Go.RowKit gl

theorem FreshR.shape {w w' : World} {sl : Value} {xs : List ByteArray} (h : FreshR w w' sl xs) : ∃ p n c, sl = .slice p n c := by
  rcases h with ⟨_, rfl⟩ | ⟨g, c, cs, rfl, _⟩
  · exact ⟨_, _, _, rfl⟩
  · exact ⟨_, _, _, rfl⟩
theorem FreshR.up {w w1 W : World} {o : Obj} {sl : Value} {xs : List ByteArray} (h : FreshR (w.alloc o) w1 sl xs) (_hs : W.heap.size = w1.heap.size) (hW : ∀ k : Nat, k ≠ w.heap.size → W.heap[k]? = w1.heap[k]?) : FreshR w W sl xs := by
  rcases h with h | ⟨g, c, cs, rfl, hc, h1, h2, hat⟩
  · exact .inl h
  · simp only [World.size_alloc] at h1
    exact .inr ⟨g, c, cs, rfl, hc, by omega, (hW g (by omega)).trans h2, hat⟩

set_option maxHeartbeats 1000000 in
set_option maxRecDepth 100000 in
theorem refParse_2 (s : ByteArray) (hs : s.size ≤ 2147483647) (w : World) :
    Calls Tryz.prog 100 #[.int .i64 2, .string s] w fun e w' => RefOut (parseInt s.data.toList) w e w' ∧ Below w.heap.size w w' := by
  obtain ⟨⟨⟨kk, nn, tt, ww⟩, ee⟩, hr⟩ : ∃ r, parseInt s.data.toList = r := ⟨_, rfl⟩
  have hcon : Calls Tryz.prog 124 #[.string s] (w.alloc (.cells #[.int .i64 0, .int .i64 0, .string ⟨#[]⟩, .slice none 0 0] 98)) fun e w' => (∃ p n c, e = .returned (.tuple #[.agg #[.int .i64 kk, .int .i64 nn, .string tt, .slice p n c], .int .i64 ee]) ∧ FreshR (w.alloc (.cells #[.int .i64 0, .int .i64 0, .string ⟨#[]⟩, .slice none 0 0] 98)) w' (.slice p n c) ww) ∧ Below (w.alloc (.cells #[.int .i64 0, .int .i64 0, .string ⟨#[]⟩, .slice none 0 0] 98)).heap.size (w.alloc (.cells #[.int .i64 0, .int .i64 0, .string ⟨#[]⟩, .slice none 0 0] 98)) w' := by
    refine (refWhole_any s hs _).mono ?_
    rintro e w' ⟨rfl, hb⟩
    rw [hr]
    refine ⟨⟨_, _, _, rfl, .inl ⟨?_, rfl⟩⟩, hb⟩
    have := parseInt_words s.data.toList
    rw [hr] at this
    exact this
  rw [hr]
  clear hr
  go_enter Tryz.func100, Tryz.ntmps100
  go_wp2_with fail
  refine hcon.mono ?_
  rintro e w1 ⟨⟨p, n, c, rfl, hfr⟩, hb⟩
  have Hb := Lib.hid hb
  have Hfr := Lib.hid hfr
  clear hfr hb
  have Hblk := Lib.hid ((new_block Hb.out).trans (heap_alloc_new w _))
  obtain ⟨⟨c0, c1, c2, c3⟩, f0, f1, f2, f3⟩ := res_cells Hb.out
  go_wp2_with fail
  generalize hW : World.setCell (World.setCell (World.setCell (World.setCell w1 _ _) _ _) _ _) _ _ = W
  obtain ⟨⟨g0, g1, g2, g3⟩, hsW, hoth, hbel⟩ := four_done Hblk.out hW
  have HB := Lib.hid (hbel w.heap.size w ((((Below.refl _ w).alloc (Nat.le_refl _) _)).trans (Hb.out.mono (by simp))) (Nat.le_refl _))
  have HO := Lib.hid hoth
  have HsW := Lib.hid hsW
  clear hW hbel hoth hsW
  (try simp only [Exit.inBlock, Exit.then])
  refine bodyPost_ret (by simp [results, Tryz.results100, go_sem, g0, g1, g2, g3]; try rfl) rfl ?_
  exact ⟨⟨_, rfl, Hfr.out.up HsW.out HO.out⟩, HB.out⟩

set_option maxHeartbeats 1000000 in
set_option maxRecDepth 100000 in
theorem refParse_u (k : Int) (hk : k = 3 ∨ k = 4) (s : ByteArray) (hs : s.size ≤ 2147483647) (w : World) :
    Calls Tryz.prog 100 #[.int .i64 k, .string s] w fun e w' => RefOut (parseUnit k s.data.toList) w e w' ∧ Below w.heap.size w w' := by
  obtain ⟨⟨⟨kk, nn, tt, ww⟩, ee⟩, hr⟩ : ∃ r, parseUnit k s.data.toList = r := ⟨_, rfl⟩
  have hcon : Calls Tryz.prog 125 #[.int .i64 k, .string s] (w.alloc (.cells #[.int .i64 0, .int .i64 0, .string ⟨#[]⟩, .slice none 0 0] 98)) fun e w' => (∃ p n c, e = .returned (.tuple #[.agg #[.int .i64 kk, .int .i64 nn, .string tt, .slice p n c], .int .i64 ee]) ∧ FreshR (w.alloc (.cells #[.int .i64 0, .int .i64 0, .string ⟨#[]⟩, .slice none 0 0] 98)) w' (.slice p n c) ww) ∧ Below (w.alloc (.cells #[.int .i64 0, .int .i64 0, .string ⟨#[]⟩, .slice none 0 0] 98)).heap.size (w.alloc (.cells #[.int .i64 0, .int .i64 0, .string ⟨#[]⟩, .slice none 0 0] 98)) w' := by
    refine (refUnited_any k hk s hs _).mono ?_
    rintro e w' ⟨rfl, hb⟩
    rw [hr]
    refine ⟨⟨_, _, _, rfl, .inl ⟨?_, rfl⟩⟩, hb⟩
    have := parseUnit_words k s.data.toList
    rw [hr] at this
    exact this
  rw [hr]
  clear hr
  rcases hk with rfl | rfl
  all_goals
    go_enter Tryz.func100, Tryz.ntmps100
    go_wp2_with fail
    refine hcon.mono ?_
    rintro e w1 ⟨⟨p, n, c, rfl, hfr⟩, hb⟩
    have Hb := Lib.hid hb
    have Hfr := Lib.hid hfr
    clear hfr hb
    have Hblk := Lib.hid ((new_block Hb.out).trans (heap_alloc_new w _))
    obtain ⟨⟨c0, c1, c2, c3⟩, f0, f1, f2, f3⟩ := res_cells Hb.out
    go_wp2_with fail
    generalize hW : World.setCell (World.setCell (World.setCell (World.setCell w1 _ _) _ _) _ _) _ _ = W
    obtain ⟨⟨g0, g1, g2, g3⟩, hsW, hoth, hbel⟩ := four_done Hblk.out hW
    have HB := Lib.hid (hbel w.heap.size w ((((Below.refl _ w).alloc (Nat.le_refl _) _)).trans (Hb.out.mono (by simp))) (Nat.le_refl _))
    have HO := Lib.hid hoth
    have HsW := Lib.hid hsW
    clear hW hbel hoth hsW
    (try simp only [Exit.inBlock, Exit.then])
    refine bodyPost_ret (by simp [results, Tryz.results100, go_sem, g0, g1, g2, g3]; try rfl) rfl ?_
    exact ⟨⟨_, rfl, Hfr.out.up HsW.out HO.out⟩, HB.out⟩

set_option maxHeartbeats 1000000 in
set_option maxRecDepth 100000 in
theorem refParse_5 (s : ByteArray) (hs : s.size ≤ 2147483647) (w : World) :
    Calls Tryz.prog 100 #[.int .i64 5, .string s] w fun e w' => RefOut (parseText s.data.toList) w e w' ∧ Below w.heap.size w w' := by
  obtain ⟨⟨⟨kk, nn, tt, ww⟩, ee⟩, hr⟩ : ∃ r, parseText s.data.toList = r := ⟨_, rfl⟩
  have hcon : Calls Tryz.prog 126 #[.string s] (w.alloc (.cells #[.int .i64 0, .int .i64 0, .string ⟨#[]⟩, .slice none 0 0] 98)) fun e w' => (∃ p n c, e = .returned (.tuple #[.agg #[.int .i64 kk, .int .i64 nn, .string tt, .slice p n c], .int .i64 ee]) ∧ FreshR (w.alloc (.cells #[.int .i64 0, .int .i64 0, .string ⟨#[]⟩, .slice none 0 0] 98)) w' (.slice p n c) ww) ∧ Below (w.alloc (.cells #[.int .i64 0, .int .i64 0, .string ⟨#[]⟩, .slice none 0 0] 98)).heap.size (w.alloc (.cells #[.int .i64 0, .int .i64 0, .string ⟨#[]⟩, .slice none 0 0] 98)) w' := by
    refine (refText_any s hs _).mono ?_
    rintro e w' ⟨rfl, hb⟩
    rw [hr]
    refine ⟨⟨_, _, _, rfl, .inl ⟨?_, rfl⟩⟩, hb⟩
    have := parseText_words s.data.toList
    rw [hr] at this
    exact this
  rw [hr]
  clear hr
  go_enter Tryz.func100, Tryz.ntmps100
  go_wp2_with fail
  refine hcon.mono ?_
  rintro e w1 ⟨⟨p, n, c, rfl, hfr⟩, hb⟩
  have Hb := Lib.hid hb
  have Hfr := Lib.hid hfr
  clear hfr hb
  have Hblk := Lib.hid ((new_block Hb.out).trans (heap_alloc_new w _))
  obtain ⟨⟨c0, c1, c2, c3⟩, f0, f1, f2, f3⟩ := res_cells Hb.out
  go_wp2_with fail
  generalize hW : World.setCell (World.setCell (World.setCell (World.setCell w1 _ _) _ _) _ _) _ _ = W
  obtain ⟨⟨g0, g1, g2, g3⟩, hsW, hoth, hbel⟩ := four_done Hblk.out hW
  have HB := Lib.hid (hbel w.heap.size w ((((Below.refl _ w).alloc (Nat.le_refl _) _)).trans (Hb.out.mono (by simp))) (Nat.le_refl _))
  have HO := Lib.hid hoth
  have HsW := Lib.hid hsW
  clear hW hbel hoth hsW
  (try simp only [Exit.inBlock, Exit.then])
  refine bodyPost_ret (by simp [results, Tryz.results100, go_sem, g0, g1, g2, g3]; try rfl) rfl ?_
  exact ⟨⟨_, rfl, Hfr.out.up HsW.out HO.out⟩, HB.out⟩

set_option maxHeartbeats 1000000 in
set_option maxRecDepth 100000 in
theorem refParse_6 (s : ByteArray) (hs : s.size ≤ 2147483647) (w : World) :
    Calls Tryz.prog 100 #[.int .i64 6, .string s] w fun e w' => RefOut (parseWords wordL s.data.toList) w e w' ∧ Below w.heap.size w w' := by
  obtain ⟨⟨⟨kk, nn, tt, ww⟩, ee⟩, hr⟩ : ∃ r, parseWords wordL s.data.toList = r := ⟨_, rfl⟩
  have hcon : Calls Tryz.prog 127 #[.string s] (w.alloc (.cells #[.int .i64 0, .int .i64 0, .string ⟨#[]⟩, .slice none 0 0] 98)) fun e w' => (∃ p n c, e = .returned (.tuple #[.agg #[.int .i64 kk, .int .i64 nn, .string tt, .slice p n c], .int .i64 ee]) ∧ FreshR (w.alloc (.cells #[.int .i64 0, .int .i64 0, .string ⟨#[]⟩, .slice none 0 0] 98)) w' (.slice p n c) ww) ∧ Below (w.alloc (.cells #[.int .i64 0, .int .i64 0, .string ⟨#[]⟩, .slice none 0 0] 98)).heap.size (w.alloc (.cells #[.int .i64 0, .int .i64 0, .string ⟨#[]⟩, .slice none 0 0] 98)) w' := by
    refine (refWords_any s hs _).mono ?_
    rintro e w' ⟨⟨sl, rfl, hf⟩, hb⟩
    rw [hr] at hf ⊢
    obtain ⟨p, n, c, rfl⟩ := hf.shape
    exact ⟨⟨p, n, c, rfl, hf⟩, hb⟩
  rw [hr]
  clear hr
  go_enter Tryz.func100, Tryz.ntmps100
  go_wp2_with fail
  refine hcon.mono ?_
  rintro e w1 ⟨⟨p, n, c, rfl, hfr⟩, hb⟩
  have Hb := Lib.hid hb
  have Hfr := Lib.hid hfr
  clear hfr hb
  have Hblk := Lib.hid ((new_block Hb.out).trans (heap_alloc_new w _))
  obtain ⟨⟨c0, c1, c2, c3⟩, f0, f1, f2, f3⟩ := res_cells Hb.out
  go_wp2_with fail
  generalize hW : World.setCell (World.setCell (World.setCell (World.setCell w1 _ _) _ _) _ _) _ _ = W
  obtain ⟨⟨g0, g1, g2, g3⟩, hsW, hoth, hbel⟩ := four_done Hblk.out hW
  have HB := Lib.hid (hbel w.heap.size w ((((Below.refl _ w).alloc (Nat.le_refl _) _)).trans (Hb.out.mono (by simp))) (Nat.le_refl _))
  have HO := Lib.hid hoth
  have HsW := Lib.hid hsW
  clear hW hbel hoth hsW
  (try simp only [Exit.inBlock, Exit.then])
  refine bodyPost_ret (by simp [results, Tryz.results100, go_sem, g0, g1, g2, g3]; try rfl) rfl ?_
  exact ⟨⟨_, rfl, Hfr.out.up HsW.out HO.out⟩, HB.out⟩

set_option maxHeartbeats 1000000 in
theorem refParse_1 (s : ByteArray) (w : World) :
    Calls Tryz.prog 100 #[.int .i64 1, .string s] w fun e w' => RefOut (parseBool s.data.toList) w e w' ∧ Below w.heap.size w w' := by
  suffices h : Calls Tryz.prog 100 #[.int .i64 1, .string s] w fun e w' => e = .returned (res (parseBool s.data.toList) (.slice none 0 0)) ∧ Below w.heap.size w w' by
    refine h.mono ?_
    rintro e w' ⟨rfl, hb⟩
    exact ⟨⟨_, rfl, .inl ⟨parseBool_words _, rfl⟩⟩, hb⟩
  rw [← ByteArray.toList_eq s]
  cases h1 : (s.toList == [116, 114, 117, 101]) with
  | true =>
    have H := Lib.hid (pb_yes (.inl h1))
    go_enter Tryz.func100, Tryz.ntmps100
    go_wp2
    go_returns
    exact ⟨by rw [H.out]; rfl, by go_grown⟩
  | false =>
    cases h2 : (s.toList == [121, 101, 115]) with
    | true =>
      have H := Lib.hid (pb_yes (.inr (.inl h2)))
      go_enter Tryz.func100, Tryz.ntmps100
      go_wp2
      go_returns
      exact ⟨by rw [H.out]; rfl, by go_grown⟩
    | false =>
      cases h3 : (s.toList == [111, 110]) with
      | true =>
        have H := Lib.hid (pb_yes (.inr (.inr h3)))
        go_enter Tryz.func100, Tryz.ntmps100
        go_wp2
        go_returns
        exact ⟨by rw [H.out]; rfl, by go_grown⟩
      | false =>
        cases h4 : (s.toList == [102, 97, 108, 115, 101]) with
        | true =>
          have H := Lib.hid (pb_no (.inl h4))
          go_enter Tryz.func100, Tryz.ntmps100
          go_wp2
          go_returns
          exact ⟨by rw [H.out]; rfl, by go_grown⟩
        | false =>
          cases h5 : (s.toList == [110, 111]) with
          | true =>
            have H := Lib.hid (pb_no (.inr (.inl h5)))
            go_enter Tryz.func100, Tryz.ntmps100
            go_wp2
            go_returns
            exact ⟨by rw [H.out]; rfl, by go_grown⟩
          | false =>
            cases h6 : (s.toList == [111, 102, 102]) with
            | true =>
              have H := Lib.hid (pb_no (.inr (.inr h6)))
              go_enter Tryz.func100, Tryz.ntmps100
              go_wp2
              go_returns
              exact ⟨by rw [H.out]; rfl, by go_grown⟩
            | false =>
              have H := Lib.hid (pb_none h1 h2 h3 h4 h5 h6)
              go_enter Tryz.func100, Tryz.ntmps100
              go_wp2
              go_returns
              exact ⟨by rw [H.out]; rfl, by go_grown⟩

theorem refParse_any (k : Int) (s : ByteArray) (hs : s.size ≤ 2147483647) (w : World) :
    Calls Tryz.prog 100 #[.int .i64 k, .string s] w fun e w' => RefOut (parse wordL k s.data.toList) w e w' ∧ Below w.heap.size w w' := by
  by_cases h1 : k = 1
  · subst h1; exact refParse_1 s w
  by_cases h2 : k = 2
  · subst h2; exact refParse_2 s hs w
  by_cases hu : k = 3 ∨ k = 4
  · have : parse wordL k s.data.toList = parseUnit k s.data.toList := by unfold parse; rw [if_neg h1, if_neg h2, if_pos hu]
    rw [this]
    exact refParse_u k hu s hs w
  by_cases h5 : k = 5
  · subst h5; exact refParse_5 s hs w
  by_cases h6 : k = 6
  · subst h6; exact refParse_6 s hs w
  have He : Hid (parse wordL k s.data.toList = (zero, 1)) := Lib.hid (by unfold parse; rw [if_neg h1, if_neg h2, if_neg hu, if_neg h5, if_neg h6])
  have q1 : (k == 1) = false := by simp [h1]
  have q2 : (k == 2) = false := by simp [h2]
  have q3 : (k == 3) = false := by simp; omega
  have q4 : (k == 4) = false := by simp; omega
  have q5 : (k == 5) = false := by simp [h5]
  have q6 : (k == 6) = false := by simp [h6]
  clear h1 h2 hu h5 h6
  go_enter Tryz.func100, Tryz.ntmps100
  go_wp2_with fail
  go_returns
  exact ⟨⟨_, by rw [He.out]; rfl, .inl ⟨by rw [He.out]; rfl, rfl⟩⟩, by go_grown⟩
end Go.Proofs.YtpfhhaonfbfheaaGreatDoor.va
/- Plain laws of package env: what a name is called, what an environment says. No program in sight; no conditions beside those stated. -/
namespace Go.Proofs.YtpfhhaonfbfheaaGreatDoor.en
open gl

/-- A byte in its great form, the point turned. -/
def gb (c : UInt8) : UInt8 := if (97 ≤ c.toNat ∧ c.toNat ≤ 122) then c - 32 else if c = 46 then 95 else c
/-- What a name is called. -/
def greatL (l : List UInt8) : List UInt8 := l.map gb
/-- The bytes of names. -/
def okb (c : UInt8) : Bool := decide (97 ≤ c.toNat ∧ c.toNat ≤ 122) || decide (48 ≤ c.toNat ∧ c.toNat ≤ 57) || decide (c = 46)
def back (c : UInt8) : UInt8 := if (65 ≤ c.toNat ∧ c.toNat ≤ 90) then c + 32 else if c = 95 then 46 else c
theorem all_bytes {P : UInt8 → Prop} (h : ∀ n, n < 256 → P (UInt8.ofNat n)) (c : UInt8) : P c := by
  have := h c.toNat c.toNat_lt
  rwa [UInt8.ofNat_toNat] at this
theorem back_gb (c : UInt8) (h : okb c = true) : back (gb c) = c := by
  revert h
  exact all_bytes (P := fun c => okb c = true → back (gb c) = c) (by decide +kernel) c
theorem gb_61 (c : UInt8) (h : okb c = true) : gb c ≠ 61 := by
  revert h
  exact all_bytes (P := fun c => okb c = true → gb c ≠ 61) (by decide +kernel) c
theorem gb_95 (c : UInt8) (h : okb c = true) : gb c = 95 ↔ c = 46 := by
  revert h
  exact all_bytes (P := fun c => okb c = true → (gb c = 95 ↔ c = 46)) (by decide +kernel) c
theorem ok_128 (c : UInt8) (h : okb c = true) : c.toNat < 128 := by
  revert h
  exact all_bytes (P := fun c => okb c = true → c.toNat < 128) (by decide +kernel) c
theorem gb_two (c : UInt8) : (if Lib.upperB c = 46 then 95 else Lib.upperB c) = gb c :=
  all_bytes (P := fun c => (if Lib.upperB c = 46 then (95 : UInt8) else Lib.upperB c) = gb c) (by decide +kernel) c
theorem cls_ok (c : UInt8) (h : cls c.toNat = 1 ∨ cls c.toNat = 3) : okb c = true := by
  revert h
  exact all_bytes (P := fun c => (cls c.toNat = 1 ∨ cls c.toNat = 3) → okb c = true) (by decide +kernel) c
theorem cls_small (c : UInt8) (h : cls c.toNat = 1) : 65 ≤ (gb c).toNat := by
  revert h
  exact all_bytes (P := fun c => cls c.toNat = 1 → 65 ≤ (gb c).toNat) (by decide +kernel) c

theorem mem_pcs (sep : UInt8) : ∀ (l : List UInt8) (c : UInt8), c ∈ l → c = sep ∨ ∃ p ∈ pcs sep l, c ∈ p
  | [], c, h => by cases h
  | d :: r, c, h => by
    by_cases hd : d = sep
    · subst hd
      rcases List.mem_cons.1 h with rfl | h
      · exact .inl rfl
      · rcases mem_pcs d r c h with h | ⟨p, hp, hc⟩
        · exact .inl h
        · exact .inr ⟨p, by simp [pcs, hp], hc⟩
    · cases hp : pcs sep r with
      | nil => exact absurd hp (pcs_ne sep r)
      | cons q ps =>
        have e := pcs_other hd hp
        rcases List.mem_cons.1 h with rfl | h
        · exact .inr ⟨c :: q, by rw [e]; simp, by simp⟩
        · rcases mem_pcs sep r c h with h | ⟨p, hp', hc⟩
          · exact .inl h
          · rw [hp] at hp'
            rcases List.mem_cons.1 hp' with rfl | hp'
            · exact .inr ⟨d :: p, by rw [e]; simp, by simp [hc]⟩
            · exact .inr ⟨p, by rw [e]; simp [hp'], hc⟩
theorem part_bytes {p : List UInt8} (h : partL p = true) : ∀ c ∈ p, okb c = true := by
  cases p with
  | nil => intro c hc; cases hc
  | cons d r =>
    unfold partL at h
    simp only [Bool.and_eq_true, decide_eq_true_eq, List.all_eq_true] at h
    intro c hc
    rcases List.mem_cons.1 hc with rfl | hc
    · exact cls_ok _ (.inl h.1)
    · exact cls_ok _ (h.2 c hc)
theorem name_bytes {l : List UInt8} (h : nameL l = true) : ∀ c ∈ l, okb c = true := by
  unfold nameL at h
  simp only [Bool.and_eq_true, decide_eq_true_eq, List.all_eq_true] at h
  intro c hc
  rcases mem_pcs 46 l c hc with rfl | ⟨p, hp, hcp⟩
  · rfl
  · exact part_bytes (h.2 p hp) c hcp
theorem name_len {l : List UInt8} (h : nameL l = true) : l.length ≤ 32 := by
  unfold nameL at h
  simp only [Bool.and_eq_true, decide_eq_true_eq] at h
  exact h.1.1
theorem name_first {l : List UInt8} (h : nameL l = true) : ∃ c r, l = c :: r ∧ cls c.toNat = 1 := by
  unfold nameL at h
  simp only [Bool.and_eq_true, decide_eq_true_eq, List.all_eq_true] at h
  cases l with
  | nil => exact absurd (h.2 [] (by simp [pcs])) (by simp [partL])
  | cons c r =>
    refine ⟨c, r, rfl, ?_⟩
    by_cases hc : c = 46
    · subst hc
      exact absurd (h.2 [] (by simp [pcs])) (by simp [partL])
    · cases hp : pcs 46 r with
      | nil => exact absurd hp (pcs_ne 46 r)
      | cons q ps =>
        have := h.2 (c :: q) (by rw [pcs_other hc hp]; simp)
        unfold partL at this
        simp only [Bool.and_eq_true, decide_eq_true_eq] at this
        exact this.1
theorem great_len (l : List UInt8) : (greatL l).length = l.length := by simp [greatL]
theorem great_back {l : List UInt8} (h : nameL l = true) : (greatL l).map back = l := by
  unfold greatL
  rw [List.map_map]
  conv => rhs; rw [← List.map_id l]
  exact List.map_congr_left fun c hc => back_gb c (name_bytes h c hc)
/-- No two names are called the same. -/
theorem great_inj {a b : List UInt8} (ha : nameL a = true) (hb : nameL b = true) (h : greatL a = greatL b) : a = b := by
  rw [← great_back ha, ← great_back hb, h]
theorem great_61 {a : List UInt8} (ha : nameL a = true) : (61 : UInt8) ∉ greatL a := by
  intro h
  obtain ⟨c, hc, e⟩ := List.mem_map.1 h
  exact gb_61 c (name_bytes ha c hc) e
theorem great_ne {a : List UInt8} (ha : nameL a = true) : greatL a ≠ [] := by
  obtain ⟨c, r, rfl, _⟩ := name_first ha
  simp [greatL]

/-! ### The library's functions -/
theorem index_no (sep : UInt8) : ∀ l : List UInt8, sep ∉ l → Lib.index l [sep] = -1
  | [], _ => by simp [Lib.index]
  | c :: r, h => by
    have hc : c ≠ sep := fun e => h (by simp [e])
    have hp : ([sep] : List UInt8).isPrefixOf (c :: r) = false := by simp [List.isPrefixOf, Ne.symm hc]
    rw [Lib.index, hp, index_no sep r fun hm => h (by simp [hm])]
    simp
theorem index_head (sep : UInt8) (r : List UInt8) : Lib.index (sep :: r) [sep] = 0 := by simp [Lib.index]
theorem index_tail {sep c : UInt8} {r : List UInt8} (hc : c ≠ sep) (h : sep ∈ r) : ∃ m : Nat, Lib.index r [sep] = m ∧ Lib.index (c :: r) [sep] = (m + 1 : Nat) := by
  obtain ⟨m, h1, _, _⟩ := index_hit sep r h
  refine ⟨m, h1, ?_⟩
  have hp : ([sep] : List UInt8).isPrefixOf (c :: r) = false := by simp [List.isPrefixOf, Ne.symm hc]
  rw [Lib.index, hp, h1, if_neg (by simp), if_neg (by simp)]
  rfl
/-- Ahead of the first c, behind it. -/
def bef (c : UInt8) (l : List UInt8) : List UInt8 := l.takeWhile (fun x => decide (x ≠ c))
def aft (c : UInt8) (l : List UInt8) : List UInt8 := (l.dropWhile (fun x => decide (x ≠ c))).drop 1
theorem cut_one (c : UInt8) : ∀ l : List UInt8, Lib.cut l [c] = if c ∈ l then (bef c l, aft c l, true) else (l, [], false)
  | [] => by simp [Lib.cut, Lib.index]
  | d :: r => by
    by_cases hd : d = c
    · subst hd
      unfold Lib.cut bef aft
      rw [index_head, if_pos (by omega), if_pos (by simp)]
      simp
    · by_cases hm : c ∈ r
      · have ih := cut_one c r
        obtain ⟨m, h1, h2⟩ := index_tail hd hm
        unfold Lib.cut at ih ⊢
        rw [h1, if_pos (by omega), if_pos hm] at ih
        rw [h2, if_pos (by omega), if_pos (by simp [hm])]
        injection ih with e1 e2
        injection e2 with e3 e4
        simp only [Int.toNat_natCast, List.length_singleton] at e1 e3
        have hb : bef c (d :: r) = d :: bef c r := by unfold bef; simp [hd]
        have ha : aft c (d :: r) = aft c r := by unfold aft; simp [hd]
        rw [hb, ha, ← e1, ← e3]
        simp only [Int.toNat_natCast, List.length_singleton, List.take_succ_cons]
        rw [show m + 1 + 1 = (m + 1) + 1 from rfl, List.drop_succ_cons]
      · unfold Lib.cut
        have hn : c ∉ d :: r := by simp [Ne.symm hd, hm]
        rw [index_no c _ hn, if_neg (by omega), if_neg hn]
theorem replaceK_one (c d : UInt8) : ∀ (n : Nat) (l : List UInt8), l.length ≤ n → Lib.replaceK [c] [d] (Lib.count l [c]) l = l.map fun x => if x = c then d else x := by
  intro n
  induction n with
  | zero =>
    intro l hl
    obtain rfl : l = [] := List.length_eq_zero_iff.1 (by omega)
    rw [Lib.count_miss (index_no c [] (by simp))]
    rfl
  | succ n ih =>
    intro l hl
    by_cases hm : c ∈ l
    · obtain ⟨m, h1, h2, h3⟩ := index_hit c l hm
      have hlt : m < l.length := by
        rcases Nat.lt_or_ge m l.length with h | h
        · exact h
        · rw [List.getElem?_eq_none h] at h3; cases h3
      rw [Lib.count_hit (by simp) h1, Nat.add_comm 1, Lib.replaceK_hit _ _ _ _ m h1]
      simp only [List.length_singleton]
      rw [ih _ (by rw [List.length_drop]; omega)]
      have e : l = l.take m ++ c :: l.drop (m + 1) := by
        conv => lhs; rw [← List.take_append_drop m l]
        congr 1
        rw [List.drop_eq_getElem_cons hlt]
        congr 1
        rw [List.getElem?_eq_getElem hlt] at h3
        exact Option.some.inj h3
      have h0 : (l.take m).map (fun x => if x = c then d else x) = l.take m := by
        conv => rhs; rw [← List.map_id (l.take m)]
        refine List.map_congr_left fun x hx => ?_
        obtain ⟨j, hj⟩ := List.mem_iff_getElem?.1 hx
        rw [List.getElem?_take] at hj
        split at hj
        · rename_i hjm
          rw [if_neg (fun e => h2 j hjm (by rw [hj, e]))]
          rfl
        · cases hj
      conv => rhs; rw [e]
      rw [List.map_append, h0, List.map_cons, if_pos rfl]
      simp
    · rw [Lib.count_miss (index_no c l hm)]
      unfold Lib.replaceK
      conv => lhs; rw [← List.map_id l]
      refine List.map_congr_left fun x hx => ?_
      rw [if_neg (fun e : x = c => hm (by rw [← e]; exact hx))]
      rfl
theorem replace_one (c d : UInt8) (h : c ≠ d) (l : List UInt8) : Lib.replaceAll l [c] [d] = l.map fun x => if x = c then d else x := by
  unfold Lib.replaceAll Lib.replace Lib.replaceNum
  rw [if_neg (by simp [h]), if_pos (by omega), replaceK_one c d l.length l (Nat.le_refl _)]
theorem great_lib (l : List UInt8) : Lib.replaceAll (Lib.toUpperA l) [46] [95] = greatL l := by
  rw [replace_one 46 95 (by decide)]
  unfold Lib.toUpperA greatL
  rw [List.map_map]
  exact List.map_congr_left fun c _ => gb_two c

/-! ### An environment -/
/-- What an environment says of a setting. -/
structure Gv where
  name : List UInt8
  text : List UInt8
  pos : Nat
/-- What the pairs of a name's first part begin with. -/
def partOf (n : List UInt8) : List UInt8 := greatL (bef 46 n) ++ [95]
/-- The first name that is called so. -/
def pickL (names : List (List UInt8)) (nm : List UInt8) : Option (List UInt8) := names.find? fun n => decide (greatL n = nm)
def likeL (names : List (List UInt8)) (nm : List UInt8) : Bool := names.any fun n => (partOf n).isPrefixOf nm
def stepL (names : List (List UInt8)) (p : List UInt8) : Except Int (Option (List UInt8 × List UInt8)) :=
  if (61 : UInt8) ∈ p ∧ bef 61 p ≠ [] then
    match pickL names (bef 61 p) with
    | some n => .ok (some (n, aft 61 p))
    | none => if likeL names (bef 61 p) then .error 81 else .ok none
  else .error 80
def parseL (names : List (List UInt8)) : Nat → List (List UInt8) → List Gv → List Gv × Int × Nat
  | _, [], out => (out, 0, 0)
  | k, p :: r, out => match stepL names p with
    | .error e => ([], e, k)
    | .ok none => parseL names (k + 1) r out
    | .ok (some (n, t)) => parseL names (k + 1) r (out ++ [⟨n, t, k⟩])
theorem parse_end (names : List (List UInt8)) (pairs : List (List UInt8)) (out : List Gv) (k : Nat) : parseL names k (pairs.drop pairs.length) out = (out, 0, 0) := by
  rw [List.drop_length]; rfl
theorem drop_at {α : Type} {l : List α} {k : Nat} {p : α} (h : l[k]? = some p) : l.drop k = p :: l.drop (k + 1) := by
  have hlt : k < l.length := by
    rcases Nat.lt_or_ge k l.length with h1 | h1
    · exact h1
    · rw [List.getElem?_eq_none h1] at h; cases h
  rw [List.drop_eq_getElem_cons hlt]
  rw [List.getElem?_eq_getElem hlt] at h
  rw [Option.some.inj h]
theorem parse_err {names pairs : List (List UInt8)} {out : List Gv} {k : Nat} {p : List UInt8} {e : Int} (h : pairs[k]? = some p) (hs : stepL names p = .error e) : parseL names k (pairs.drop k) out = ([], e, k) := by
  rw [drop_at h, parseL, hs]
theorem parse_skip {names pairs : List (List UInt8)} {out : List Gv} {k : Nat} {p : List UInt8} (h : pairs[k]? = some p) (hs : stepL names p = .ok none) : parseL names k (pairs.drop k) out = parseL names (k + 1) (pairs.drop (k + 1)) out := by
  rw [drop_at h, parseL, hs]
theorem parse_take {names pairs : List (List UInt8)} {out : List Gv} {k : Nat} {p n t : List UInt8} (h : pairs[k]? = some p) (hs : stepL names p = .ok (some (n, t))) : parseL names k (pairs.drop k) out = parseL names (k + 1) (pairs.drop (k + 1)) (out ++ [⟨n, t, k⟩]) := by
  rw [drop_at h, parseL, hs]
theorem step_form {names : List (List UInt8)} {p : List UInt8} (h : (61 : UInt8) ∉ p ∨ bef 61 p = []) : stepL names p = .error 80 := by
  unfold stepL
  rw [if_neg (by rintro ⟨h1, h2⟩; rcases h with h | h; exact h h1; exact h2 h)]
theorem step_pick {names : List (List UInt8)} {p n : List UInt8} (h1 : (61 : UInt8) ∈ p) (h2 : bef 61 p ≠ []) (h : pickL names (bef 61 p) = some n) : stepL names p = .ok (some (n, aft 61 p)) := by
  unfold stepL
  rw [if_pos ⟨h1, h2⟩, h]
theorem step_like {names : List (List UInt8)} {p : List UInt8} (h1 : (61 : UInt8) ∈ p) (h2 : bef 61 p ≠ []) (h : pickL names (bef 61 p) = none) (hl : likeL names (bef 61 p) = true) : stepL names p = .error 81 := by
  unfold stepL
  rw [if_pos ⟨h1, h2⟩, h]
  simp [hl]
theorem step_skip {names : List (List UInt8)} {p : List UInt8} (h1 : (61 : UInt8) ∈ p) (h2 : bef 61 p ≠ []) (h : pickL names (bef 61 p) = none) (hl : likeL names (bef 61 p) = false) : stepL names p = .ok none := by
  unfold stepL
  rw [if_pos ⟨h1, h2⟩, h]
  simp [hl]
theorem pick_name {names : List (List UInt8)} {nm n : List UInt8} (h : pickL names nm = some n) : n ∈ names ∧ greatL n = nm := by
  unfold pickL at h
  have h1 := List.mem_of_find?_eq_some h
  have h2 := List.find?_some h
  exact ⟨h1, by simpa using h2⟩
theorem pick_of {names : List (List UInt8)} (hn : ∀ n ∈ names, nameL n = true) {n : List UInt8} (h : n ∈ names) : pickL names (greatL n) = some n := by
  cases hp : pickL names (greatL n) with
  | none =>
    unfold pickL at hp
    rw [List.find?_eq_none] at hp
    exact absurd (hp n h) (by simp)
  | some m =>
    obtain ⟨h1, h2⟩ := pick_name hp
    rw [great_inj (hn m h1) (hn n h) h2]
theorem pick_none {names : List (List UInt8)} {nm : List UInt8} : pickL names nm = none ↔ ∀ n ∈ names, greatL n ≠ nm := by
  unfold pickL
  rw [List.find?_eq_none]
  simp
/-- The first part of what a name is called. -/
theorem bef_great {l : List UInt8} (h : ∀ c ∈ l, okb c = true) : bef 95 (greatL l) = greatL (bef 46 l) := by
  unfold bef greatL
  induction l with
  | nil => rfl
  | cons c r ih =>
    have ih := ih fun x hx => h x (by simp [hx])
    have hc := gb_95 c (h c (by simp))
    by_cases h46 : c = 46
    · simp [h46, show gb 46 = 95 from by decide]
    · have h95 : gb c ≠ 95 := fun e => h46 (hc.1 e)
      rw [List.map_cons, List.takeWhile_cons_of_pos (by simp [h95]), List.takeWhile_cons_of_pos (by simp [h46]), List.map_cons, ih]
theorem bef_all {c : UInt8} {l : List UInt8} (h : c ∉ l) : bef c l = l := by
  unfold bef
  induction l with
  | nil => rfl
  | cons d r ih =>
    rw [List.takeWhile_cons_of_pos (by simp; exact fun e => h (by simp [e])), ih fun e => h (by simp [e])]
theorem cut_first (c : UInt8) (l : List UInt8) : (Lib.cut l [c]).1 = bef c l := by
  rw [cut_one]
  by_cases h : c ∈ l
  · rw [if_pos h]
  · rw [if_neg h, bef_all h]
/-- What the program holds for a name's first part. -/
theorem part_lib {n : List UInt8} (h : nameL n = true) : (Lib.cut (greatL n) [95]).1 ++ [95] = partOf n := by
  rw [cut_first, bef_great (name_bytes h)]
  rfl
end Go.Proofs.YtpfhhaonfbfheaaGreatDoor.en
/- Package env: the map of what the names are called, and the rows it makes. No walk; no conditions beside those stated. -/
namespace Go.Proofs.YtpfhhaonfbfheaaGreatDoor.en
open Go.ChangeShapes Go.WideShapes Go.ChangeAt Go.RowKit gl va ls
open Go.Maps

theorem B_size (l : List UInt8) : (B l).size = l.length := by simp [ByteArray.size]
theorem B_of (s : ByteArray) : B s.data.toList = s := by apply ByteArray.ext; simp
theorem B_list (l : List UInt8) : (B l).data.toList = l := by simp

theorem pick_snoc (l : List (List UInt8)) (n nm : List UInt8) : pickL (l ++ [n]) nm = (pickL l nm).or (if greatL n = nm then some n else none) := by
  unfold pickL
  rw [List.find?_append]
  congr 1
  by_cases h : greatL n = nm
  · simp [h]
  · simp [h]
/-- The names so far, by what they are called. -/
def MapN (D : DataW Unit) (l : List (List UInt8)) : Prop := IsMap D ∧ ∀ nm : List UInt8, Maps.has D (.string nm) = (pickL l nm).isSome ∧ D.atKey (.string nm) (.lit (.string [])) = .lit (.string ((pickL l nm).getD []))
theorem mapN_nil : MapN (.map []) [] := ⟨⟨[], rfl⟩, fun _ => ⟨rfl, rfl⟩⟩
theorem keyLit (x : List UInt8) : WideAt.IsKeyLit (.string x) := by first | exact trivial | exact ⟨_, rfl⟩ | simp [WideAt.IsKeyLit]
theorem mapN_put {D : DataW Unit} {l : List (List UInt8)} {n : List UInt8} (h : MapN D l) (hl : ∀ m ∈ l, nameL m = true) (hn : nameL n = true) : MapN (D.put (.string (greatL n)) (.lit (.string n))) (l ++ [n]) := by
  obtain ⟨hm, h⟩ := h
  refine ⟨hm.put _ _, fun nm => ?_⟩
  rw [pick_snoc]
  by_cases e : greatL n = nm
  · subst e
    rw [has_put_same hm (keyLit _), atKey_put_same hm (keyLit _), if_pos rfl]
    cases hp : pickL l (greatL n) with
    | none => exact ⟨rfl, rfl⟩
    | some m =>
      obtain ⟨h1, h2⟩ := pick_name hp
      obtain rfl := great_inj (hl m h1) hn h2
      exact ⟨rfl, rfl⟩
  · rw [has_put_other (by simpa using fun e2 => e e2.symm), atKey_put_other (by simpa using fun e2 => e e2.symm), (h nm).1, (h nm).2, if_neg e]
    simp
noncomputable def mapS : Value → Option (DataW Unit × List MemPlace) := plainElem Tryz.prog 9
theorem lawS : Keyed Tryz.prog 9 := string_keyed Tryz.underlying9
theorem keyS (l : List UInt8) (h : l.length ≤ maxLen) : keyOf Tryz.prog 9 (.string (B l)) = some (.string l) := by
  have := WideMaps.keyOf_string_mk (P := Tryz.prog) Tryz.underlying9 (s := B l) (by rw [B_size]; exact h)
  rw [this]
theorem mapS_mk (l : List UInt8) (h : l.length ≤ maxLen) : mapS (.string (B l)) = some (.lit (.string l), []) := by
  have := plainElem_string (H := Unit) (P := Tryz.prog) Tryz.underlying9 (s := B l) (by rw [B_size]; exact h)
  unfold mapS
  rw [this]
theorem mapS_inv {v : Value} {x : List UInt8} {ps : List MemPlace} (h : mapS v = some (.lit (.string x), ps)) : v = .string (B x) := by
  obtain ⟨s, rfl, hz, _⟩ := plainElem_string_inv (H := Unit) (P := Tryz.prog) Tryz.underlying9 h
  have h1 := congrArg Prod.fst hz
  simp only [DataW.lit.injEq, Lit.string.injEq] at h1
  rw [h1, B_of]
theorem zeroS (w : World) : (zeroValue 9).run Tryz.prog w = .ok (.string ⟨#[]⟩) w := by kernel_rfl
abbrev MapAt (w : World) (m n : Nat) (D : DataW Unit) : Prop := w.ownsMap Tryz.prog 9 mapS m n D
theorem map_upd {S : List Nat} {w w' : World} {m n : Nat} {D : DataW Unit} (h : MapAt w m n D) (hu : Upd S w w') (hm : m ∉ S) : MapAt w' m n D := by
  obtain ⟨es, clock, hb, r⟩ := h
  exact ⟨es, clock, hu.obj hb hm, r⟩
theorem map_later {w w' : World} {m n : Nat} {D : DataW Unit} (h : MapAt w m n D) (hb : Below w.heap.size w w') : MapAt w' m n D := map_upd h (Upd.of_below hb []) (by simp)
theorem map_ne {w : World} {m n b : Nat} {D : DataW Unit} {cs : Array Value} {t : TypeId} {f : Nat × Nat} (h : MapAt w m n D) (hb : w.heap[b]? = some (.cells cs t f)) : m ≠ b := by
  rintro rfl
  obtain ⟨es, clock, hb', _⟩ := h
  rw [hb] at hb'
  cases hb'

/-! ### The rows -/
def gvC (g : Gv) : List Value := [.string (B g.name), .string (B g.text), .int .i64 g.pos]
def stC (l : List UInt8) : List Value := [.string (B l)]
theorem gvC_len : ∀ x, (gvC x).length = 3 := fun _ => rfl
theorem gvC_one : ∀ x, ∀ v ∈ gvC x, v.oneCell' = true := fun x v hv => by
  unfold gvC at hv
  simp only [List.mem_cons, List.not_mem_nil, or_false] at hv
  rcases hv with rfl | rfl | rfl <;> rfl
theorem stC_len : ∀ x, (stC x).length = 1 := fun _ => rfl
theorem stC_one : ∀ x, ∀ v ∈ stC x, v.oneCell' = true := fun x v hv => by
  unfold stC at hv
  simp only [List.mem_cons, List.not_mem_nil, or_false] at hv
  rcases hv with rfl <;> rfl
abbrev Gvs (w : World) (v : Value) (l : List Gv) : Prop := rw.Rw gvC 3 w v l
abbrev NewGvs (M : Nat) (w : World) (v : Value) (l : List Gv) : Prop := rw.NewRw gvC 3 35 M w v l
abbrev Sts (w : World) (v : Value) (l : List (List UInt8)) : Prop := rw.Rw stC 1 w v l
abbrev NewSts (M : Nat) (w : World) (v : Value) (l : List (List UInt8)) : Prop := rw.NewRw stC 1 9 M w v l
end Go.Proofs.YtpfhhaonfbfheaaGreatDoor.en
/- Package env: great and Name; the document's great and Name. Conditions: texts of at most 2147483647 bytes; the listed variables hold what the program's text lays. -/
namespace Go.Proofs.YtpfhhaonfbfheaaGreatDoor.en
open Go.ChangeShapes Go.WideShapes Go.ChangeAt Go.RowKit gl va ls

theorem u_bytes {l : List UInt8} (hl : nameL l = true) : ∀ (j : Nat) (b : UInt8), (B l).data.toList[j]? = some b → b.toNat < 128 := by
  intro j b hj
  have : b ∈ l := by
    have := List.mem_of_getElem? hj
    simpa using this
  exact ok_128 b (name_bytes hl b this)
theorem upper_len (l : List UInt8) : (Lib.toUpperA l).length = l.length := by simp [Lib.toUpperA]
theorem replaced (l : List UInt8) (hl : nameL l = true) (W : World) (hG : Glo W) :
    Calls Tryz.prog 78 #[.string (B (Lib.toUpperA l)), .string ⟨#[46]⟩, .string ⟨#[95]⟩] W fun e w' => e = .returned (.string (B (greatL l))) ∧ Below W.heap.size W w' := by
  obtain ⟨m, hm⟩ := hG.maxLen
  have h32 := name_len hl
  have hz : (B (Lib.toUpperA l)).size = l.length := by rw [B_size, upper_len]
  have hc := Lib.countB_mul_le (⟨#[46]⟩ : ByteArray) (by decide) _ (B (Lib.toUpperA l)) (Nat.le_refl _)
  have h1 : (⟨#[46]⟩ : ByteArray).size = 1 := rfl
  have h2 : (⟨#[95]⟩ : ByteArray).size = 1 := rfl
  rw [h1] at hc
  refine (Tryz.strings_ReplaceAll (B (Lib.toUpperA l)) ⟨#[46]⟩ ⟨#[95]⟩ m W (by rw [hz]; omega) hm (by decide) (by rw [h2]; omega)).mono ?_
  rintro e w' ⟨rfl, hb⟩
  refine ⟨?_, hb⟩
  rw [show (B (Lib.toUpperA l)).data.toList = Lib.toUpperA l from by simp, show (⟨#[46]⟩ : ByteArray).data.toList = [46] from rfl, show (⟨#[95]⟩ : ByteArray).data.toList = [95] from rfl, great_lib]
theorem great_any (l : List UInt8) (hl : nameL l = true) (w : World) (hG : Glo w) :
    Calls Tryz.prog 51 #[.string (B l)] w fun e w' => e = .returned (.string (B (greatL l))) ∧ Below w.heap.size w w' := by
  have HU : Hid (Calls Tryz.prog 79 #[.string (B l)] w fun e w' => e = .returned (.string (B (Lib.toUpperA l))) ∧ Below w.heap.size w w') := Lib.hid ((Tryz.strings_ToUpper_ascii (B l) w (by rw [B_size]; have := name_len hl; omega) (u_bytes hl)).mono fun e w' h => by
    rw [show (B l).data.toList = l from by simp] at h
    exact h)
  have HR := Lib.hid fun W (hW : Below w.heap.size w W) => replaced l hl W (hG.below hW (Nat.le_refl _))
  clear hl hG
  generalize B l = s at *
  generalize B (Lib.toUpperA l) = u at *
  generalize B (greatL l) = g at *
  go_enter Tryz.func51, Tryz.ntmps51
  go_wp2_with fail
  refine HU.out.mono ?_
  rintro e w1 ⟨rfl, hb1⟩
  have Hb1 := Lib.hid hb1
  clear hb1
  go_wp2_with fail
  refine (HR.out _ Hb1.out).mono ?_
  rintro e w2 ⟨rfl, hb2⟩
  have Hb2 := Lib.hid (Hb1.out.trans (hb2.mono Hb1.out.size))
  clear hb2
  go_wp2_with fail
  go_ret
  exact ⟨rfl, Hb2.out⟩

/-- What Name gives. -/
def nmL (l : List UInt8) : List UInt8 := if nameL l = true then greatL l else []
def nmE (l : List UInt8) : Int := if nameL l = true then 0 else 1
theorem nmL_yes {l : List UInt8} (h : nameL l = true) : nmL l = greatL l := by unfold nmL; rw [if_pos h]
theorem nmE_yes {l : List UInt8} (h : nameL l = true) : nmE l = 0 := by unfold nmE; rw [if_pos h]
theorem nmL_no {l : List UInt8} (h : nameL l = false) : nmL l = [] := by unfold nmL; rw [if_neg (by rw [h]; simp)]
theorem nmE_no {l : List UInt8} (h : nameL l = false) : nmE l = 1 := by unfold nmE; rw [if_neg (by rw [h]; simp)]
theorem Name_any (l : List UInt8) (hl : l.length ≤ 2147483647) (w : World) (hG : Glo w) :
    Calls Tryz.prog 21 #[.string (B l)] w fun e w' => e = .returned (.tuple #[.string (B (nmL l)), .int .i64 (nmE l)]) ∧ Below w.heap.size w w' := by
  have HI : Hid (Calls Tryz.prog 50 #[.string (B l)] w fun e w' => e = .returned (.bool (nameL l)) ∧ Below w.heap.size w w') := Lib.hid ((IsName_any (B l) (by rw [B_size]; omega) w hG).mono fun e w' h => by
    rw [show (B l).data.toList = l from by simp] at h
    exact h)
  have HG := Lib.hid fun (hn : nameL l = true) W (hW : Below w.heap.size w W) => great_any l hn W (hG.below hW (Nat.le_refl _))
  cases hn : nameL l with
  | true =>
    rw [nmL_yes hn, nmE_yes hn]
    rw [hn] at HI HG
    have HGy := Lib.hid (HG.out rfl)
    clear HG
    clear hG hn
    generalize B l = s at *
    generalize B (greatL l) = g at *
    go_enter Tryz.func21, Tryz.ntmps21
    go_wp2_with fail
    refine HI.out.mono ?_
    rintro e w1 ⟨rfl, hb1⟩
    have Hb1 := Lib.hid hb1
    clear hb1
    go_wp2_with fail
    refine (HGy.out _ Hb1.out).mono ?_
    rintro e w2 ⟨rfl, hb2⟩
    have Hb2 := Lib.hid (Hb1.out.trans (hb2.mono Hb1.out.size))
    clear hb2
    go_wp2_with fail
    go_ret2
    exact ⟨rfl, Hb2.out⟩
  | false =>
    rw [nmL_no hn, nmE_no hn]
    rw [hn] at HI
    clear hG hn HG
    generalize B l = s at *
    go_enter Tryz.func21, Tryz.ntmps21
    go_wp2_with fail
    refine HI.out.mono ?_
    rintro e w1 ⟨rfl, hb1⟩
    have Hb1 := Lib.hid hb1
    clear hb1
    go_wp2_with fail
    go_ret2
    exact ⟨rfl, Hb1.out⟩

/-! ### The document's -/
theorem gb_small {b : UInt8} (h : 97 ≤ b.toNat ∧ b.toNat ≤ 122) : ((gb b).toNat : Int) = b.toNat - 32 := by
  unfold gb
  rw [if_pos h, UInt8.toNat_sub_of_le _ _ (by rw [UInt8.le_iff_toNat_le]; show 32 ≤ b.toNat; omega)]
  show ((b.toNat - 32 : Nat) : Int) = _
  omega
theorem gb_point {b : UInt8} (h : b.toNat = 46) : ((gb b).toNat : Int) = 95 := by
  obtain rfl : b = 46 := UInt8.toNat_inj.1 h
  decide
theorem gb_other {b : UInt8} (h : ¬ (97 ≤ b.toNat ∧ b.toNat ≤ 122)) (h2 : b.toNat ≠ 46) : gb b = b := by
  unfold gb
  rw [if_neg h, if_neg (fun e => h2 (by rw [e]; rfl))]
/-- The first k bytes have been turned. -/
def gbAt (k j : Nat) (b : UInt8) : UInt8 := if j < k then gb b else b
structure Turns (w : World) (g k : Nat) (l : List UInt8) : Prop where
  cell : ∀ (j : Nat) (b : UInt8), l[j]? = some b → w.cell? ⟨g, j, none⟩ = some (.int .u8 ((gbAt k j b).toNat : Int))
  free : ∀ (j : Nat), j < l.length → w.frozen? ⟨g, j, none⟩ = false
theorem Turns.start {w : World} {g : Nat} {l : List UInt8} (h : Lies w g l) : Turns w g 0 l := ⟨fun j b hj => h.cell j b hj, h.free⟩
theorem Turns.below {w w' : World} {g k B : Nat} {l : List UInt8} (h : Turns w g k l) (hb : Below B w w') (hg : g < B) : Turns w' g k l :=
  ⟨fun j b hj => (hb.cell (p := ⟨g, j, none⟩) hg).trans (h.cell j b hj), fun j hj => (hb.frozen (p := ⟨g, j, none⟩) hg).trans (h.free j hj)⟩
theorem Turns.skip {w : World} {g k : Nat} {l : List UInt8} {b : UInt8} (h : Turns w g k l) (hb : l[k]? = some b) (hf : gb b = b) : Turns w g (k + 1) l := by
  refine ⟨fun j c hj => ?_, h.free⟩
  rw [h.cell j c hj]
  unfold gbAt
  by_cases h1 : j < k
  · rw [if_pos h1, if_pos (by omega)]
  · rw [if_neg h1]
    by_cases h2 : j < k + 1
    · obtain rfl : j = k := by omega
      rw [hb] at hj
      obtain rfl := Option.some.inj hj
      rw [if_pos h2, hf]
    · rw [if_neg h2]
theorem Turns.set {w : World} {g k : Nat} {l : List UInt8} {b : UInt8} {n : Int} (h : Turns w g k l) (hb : l[k]? = some b) (hn : n = ((gb b).toNat : Int)) : Turns (w.setCell ⟨g, k, none⟩ (.int .u8 n)) g (k + 1) l := by
  subst hn
  refine ⟨fun j c hj => ?_, fun j hj => by rw [World.frozen?_setCell]; exact h.free j hj⟩
  by_cases h1 : j = k
  · subst h1
    rw [hb] at hj
    obtain rfl := Option.some.inj hj
    rw [World.cell?_setCell_same w _ _ (h.cell j b hb)]
    unfold gbAt
    rw [if_pos (by omega)]
  · rw [World.cell?_setCell_other w _ _ _ (by intro e; injection e with _ e2 _; exact h1 e2.symm), h.cell j c hj]
    unfold gbAt
    by_cases h2 : j < k
    · rw [if_pos h2, if_pos (by omega)]
    · rw [if_neg h2, if_neg (by omega)]
theorem Turns.done {w : World} {g : Nat} {l : List UInt8} (h : Turns w g l.length l) : ∀ (j : Nat) (b : UInt8), (greatL l)[j]? = some b → w.cell? ⟨g, j, none⟩ = some (.int .u8 (b.toNat : Int)) := by
  intro j b hj
  simp only [greatL, List.getElem?_map, Option.map_eq_some_iff] at hj
  obtain ⟨c, hc, rfl⟩ := hj
  rw [h.cell j c hc]
  unfold gbAt
  rw [if_pos (lt_of_get hc)]

set_option maxHeartbeats 2000000 in
theorem refGreat_any (s : ByteArray) (hs : s.size ≤ 2147483647) (w : World) :
    Calls Tryz.prog 53 #[.string s] w fun e w' => e = .returned (.string (B (greatL s.data.toList))) ∧ Below w.heap.size w w' := by
  go_enter Tryz.func53, Tryz.ntmps53
  go_wp2_with (with_reducible refine wpList_bytes_of_string rfl 9 105 5 _ rfl s rfl Tryz.underlying9 Tryz.underlying105 Tryz.underlying5 ?_)
  intro bcap w2 hlies hb2 hzz hcap
  have HL := Lib.hid (Turns.start hlies)
  have HB2 := Lib.hid hb2
  have hsz2 := hb2.size
  clear hlies hb2
  go_wp2_with fail
  go_loopw [4] (fun i wr => ∃ k : Nat, k ≤ s.size ∧ i = .int .i64 k ∧ Turns wr w.heap.size k s.data.toList ∧ Below w.heap.size w wr ∧ w.heap.size < wr.heap.size) (fun i _ => s.size - (intOf i).toNat)
  case atStart => exact ⟨0, by omega, rfl, HL.out, HB2.out, hzz⟩
  case round =>
    obtain ⟨k, hk, rfl, hfo, hb, hlt0⟩ := hrel
    have Hfo := Lib.hid hfo
    have Hb := Lib.hid hb
    have hsz := hb.size
    clear hfo hb
    by_cases hlt : k < s.size
    · obtain ⟨b, hbl, _, hb0, hb1⟩ := byteAt s k hlt
      have hcell : wr.cell? ⟨w.heap.size, k, none⟩ = some (.int .u8 (b.toNat : Int)) := by
        rw [Hfo.out.cell k b hbl]; unfold gbAt; rw [if_neg (by omega)]
      have hfz : wr.frozen? ⟨w.heap.size, k, none⟩ = false := Hfo.out.free k (by simpa using hlt)
      have Hbl := Lib.hid hbl
      clear hbl
      by_cases hg : 97 ≤ b.toNat ∧ b.toNat ≤ 122
      · have Hf := Lib.hid (gb_small hg)
        obtain ⟨g1, g2⟩ := hg
        have g1' : (97 : Int) ≤ (b.toNat : Int) := by omega
        have g2' : (b.toNat : Int) ≤ 122 := by omega
        have g3 : ((b.toNat : Int) - 32 == 46) = false := by rw [beq_eq_false_iff_ne]; omega
        have HF3 := Lib.hid (Hfo.out.set (n := (b.toNat : Int) - 32) Hbl.out (by rw [Hf.out]))
        have HB3 := Lib.hid (Hb.out.setCell (p := ⟨w.heap.size, k, none⟩) (Nat.le_refl _) (.int .u8 ((b.toNat : Int) - 32)))
        clear g1 g2
        go_wp2_with fail
        go_roundw
        case rel => exact ⟨k + 1, by omega, by go_num, HF3.out, HB3.out, by simp; omega⟩
        case measure => simp [intOf]; omega
      · by_cases hp : b.toNat = 46
        · have Hf := Lib.hid (gb_point hp)
          have hp' : (b.toNat : Int) = 46 := by omega
          have HF3 := Lib.hid (Hfo.out.set (n := 95) Hbl.out (by rw [Hf.out]))
          have HB3 := Lib.hid (Hb.out.setCell (p := ⟨w.heap.size, k, none⟩) (Nat.le_refl _) (.int .u8 95))
          rw [hp'] at hcell
          clear hg hp
          go_wp2_with fail
          go_roundw
          case rel => exact ⟨k + 1, by omega, by go_num, HF3.out, HB3.out, by simp; omega⟩
          case measure => simp [intOf]; omega
        · have Hf := Lib.hid (gb_other hg hp)
          have HF3 := Lib.hid (Hfo.out.skip Hbl.out Hf.out)
          have g3 : ((b.toNat : Int) == 46) = false := by rw [beq_eq_false_iff_ne]; omega
          rcases (show (b.toNat : Int) < 97 ∨ (122 : Int) < (b.toNat : Int) by omega) with hg' | hg'
          all_goals
            clear hg hp
            go_wp2_with fail
            go_roundw
            case rel => exact ⟨k + 1, by omega, by go_num, HF3.out, Hb.out, by omega⟩
            case measure => simp [intOf]; omega
    · obtain rfl : k = s.size := by omega
      have hd : ∀ (j : Nat) (b : UInt8), (greatL s.data.toList)[j]? = some b → wr.cell? ⟨w.heap.size, j, none⟩ = some (.int .u8 (b.toNat : Int)) := Turns.done (by simpa using Hfo.out)
      have Hd := Lib.hid hd
      have Hlen : Hid ((greatL s.data.toList).length = s.size) := by show _ = _; rw [great_len]; simp
      clear hd
      go_wp2_with (with_reducible refine wpList_string_of_lies rfl 105 9 5 _ rfl w.heap.size s.size _ _ Hlen.out rfl Tryz.underlying105 Tryz.underlying5 Tryz.underlying9 Hd.out ?_)
      go_ret
      exact ⟨rfl, Hb.out⟩
theorem refName_any (l : List UInt8) (hl : l.length ≤ 2147483647) (w : World) :
    Calls Tryz.prog 22 #[.string (B l)] w fun e w' => e = .returned (.tuple #[.string (B (nmL l)), .int .i64 (nmE l)]) ∧ Below w.heap.size w w' := by
  have HI : Hid (Calls Tryz.prog 52 #[.string (B l)] w fun e w' => e = .returned (.bool (nameL l)) ∧ w = w') := Lib.hid ((refIsName_any (B l) (by rw [B_size]; omega) w).mono fun e w' h => by
    rw [show (B l).data.toList = l from by simp] at h
    exact h)
  have HG : Hid (Calls Tryz.prog 53 #[.string (B l)] w fun e w' => e = .returned (.string (B (greatL l))) ∧ Below w.heap.size w w') := Lib.hid ((refGreat_any (B l) (by rw [B_size]; omega) w).mono fun e w' h => by
    rw [show (B l).data.toList = l from by simp] at h
    exact h)
  cases hn : nameL l with
  | true =>
    rw [nmL_yes hn, nmE_yes hn]
    rw [hn] at HI
    clear hn
    generalize B l = s at *
    generalize B (greatL l) = g at *
    go_enter Tryz.func22, Tryz.ntmps22
    go_wp2_with fail
    refine HI.out.mono ?_
    rintro e w1 ⟨rfl, rfl⟩
    go_wp2_with fail
    refine HG.out.mono ?_
    rintro e w2 ⟨rfl, hb2⟩
    have Hb2 := Lib.hid hb2
    clear hb2
    go_wp2_with fail
    go_ret2
    exact ⟨rfl, Hb2.out⟩
  | false =>
    rw [nmL_no hn, nmE_no hn]
    rw [hn] at HI
    clear hn HG
    generalize B l = s at *
    go_enter Tryz.func22, Tryz.ntmps22
    go_wp2_with fail
    refine HI.out.mono ?_
    rintro e w1 ⟨rfl, rfl⟩
    go_wp2_with fail
    go_ret2
    exact ⟨rfl, Below.refl _ _⟩
end Go.Proofs.YtpfhhaonfbfheaaGreatDoor.en
/- The document's definitions: ends, Form, Default. Conditions: definitions whose texts and numbers may be; the listed variables hold what the program's text lays. -/
namespace Go.Proofs.YtpfhhaonfbfheaaGreatDoor.fl
open Go.ChangeShapes Go.WideShapes Go.ChangeAt Go.RowKit gl va ls ky en

theorem parse_zero (isW : List UInt8 → Bool) (k : Int) (l : List UInt8) (h : (parse isW k l).2 ≠ 0) : (parse isW k l).1 = zero := by
  revert h
  unfold parse parseBool parseInt parseUnit parseText parseWords
  dsimp only
  repeat' split
  all_goals simp_all
theorem vb_zero : Vb zero := by constructor <;> first | decide | simp [zero]
theorem dflt_all (x : Ky) : Vb (parse wordL x.kind x.dflt).1 ∧ dfltL x = (decide ((parse wordL x.kind x.dflt).2 = 0) && within wordL (parse wordL x.kind x.dflt).1 x.least x.most) := by
  refine ⟨?_, rfl⟩
  rcases dflt_ways x with ⟨h, _⟩ | ⟨_, h, _⟩
  · rw [parse_zero _ _ _ h]; exact vb_zero
  · exact h
theorem formR (x : Ky) : formL x = (nameL x.name && (decide (1 ≤ x.kind) && (decide (x.kind ≤ 6) && (letterL x.letter && (decide (x.least ≤ x.most) && (decide ((bndL x.kind).1 ≤ x.least) && decide (x.most ≤ (bndL x.kind).2.1))))))) := by
  unfold formL
  cases nameL x.name with
  | false => simp
  | true =>
    cases letterL x.letter with
    | false => simp
    | true =>
      by_cases h2 : x.kind = 2
      · simp [bndL, h2]; rw [Bool.eq_iff_iff]; simp; omega
      by_cases h3 : x.kind = 3
      · simp [bndL, h3]; rw [Bool.eq_iff_iff]; simp; omega
      by_cases h4 : x.kind = 4
      · simp [bndL, h4]; rw [Bool.eq_iff_iff]; simp; omega
      by_cases h6 : x.kind = 6
      · simp [bndL, h6]; rw [Bool.eq_iff_iff]; simp; omega
      · simp [bndL, h2, h3, h4, h6]; rw [Bool.eq_iff_iff]; simp; omega
set_option maxHeartbeats 1000000 in
theorem refEnds_any (k : Int) (w : World) : Calls Tryz.prog 99 #[.int .i64 k] w fun e w' => e = .returned (.tuple #[.int .i64 (bndL k).1, .int .i64 (bndL k).2.1]) ∧ w' = w := by
  by_cases h2 : k = 2
  · subst h2
    go_enter Tryz.func99, Tryz.ntmps99
    go_wp2_with fail
    go_ret2
    exact ⟨rfl, rfl⟩
  by_cases h3 : k = 3
  · subst h3
    go_enter Tryz.func99, Tryz.ntmps99
    go_wp2_with fail
    go_ret2
    exact ⟨rfl, rfl⟩
  by_cases h4 : k = 4
  · subst h4
    go_enter Tryz.func99, Tryz.ntmps99
    go_wp2_with fail
    go_ret2
    exact ⟨rfl, rfl⟩
  by_cases h6 : k = 6
  · subst h6
    go_enter Tryz.func99, Tryz.ntmps99
    go_wp2_with fail
    go_ret2
    exact ⟨rfl, rfl⟩
  have hb : bndL k = (0, 0, false) := by unfold bndL; rw [if_neg h2, if_neg h3, if_neg h4, if_neg h6]
  rw [hb]
  have q2 : (k == 2) = false := by simpa using h2
  have q3 : (k == 3) = false := by simpa using h3
  have q4 : (k == 4) = false := by simpa using h4
  have q6 : (k == 6) = false := by simpa using h6
  go_enter Tryz.func99, Tryz.ntmps99
  go_wp2_with fail
  go_ret2
  exact ⟨rfl, rfl⟩
set_option maxHeartbeats 4000000 in
set_option maxRecDepth 100000 in
theorem refForm_any (x : Ky) (hx : KyOk x) (w : World) :
    Calls Tryz.prog 74 #[kyV x] w fun e w' => e = .returned (.bool (formL x)) ∧ Below w.heap.size w w' := by
  obtain ⟨hx1, _, hx3, _⟩ := hx
  have HN : Hid (∀ W, Calls Tryz.prog 52 #[.string (B x.name)] W fun e w' => e = .returned (.bool (nameL x.name)) ∧ w' = W) := Lib.hid fun W => (gl.refIsName_any (B x.name) (by rw [B_size]; omega) W).mono fun e w' h => by
    rw [ky.B_list] at h
    exact ⟨h.1, h.2.symm⟩
  have HE := Lib.hid fun W => refEnds_any x.kind W
  obtain ⟨wA, hA⟩ : ∃ wA, wA = w.alloc (.cells #[.string (B x.name), .int .i64 x.kind, .string (B x.dflt), .int .i64 x.least, .int .i64 x.most, .string (B x.letter)] 62) := ⟨_, rfl⟩
  have kA : wA.heap[w.heap.size]? = some (.cells #[.string (B x.name), .int .i64 x.kind, .string (B x.dflt), .int .i64 x.least, .int .i64 x.most, .string (B x.letter)] 62 (0, 0)) := by rw [hA]; exact heap_alloc_new w _
  have hbA : Below w.heap.size w wA := by rw [hA]; exact (Below.refl _ _).alloc (Nat.le_refl _) _
  have HbA := Lib.hid hbA
  have c0 : wA.cell? ⟨w.heap.size, 0, none⟩ = some (.string (B x.name)) := cell_in kA
  have c1 : wA.cell? ⟨w.heap.size, 1, none⟩ = some (.int .i64 x.kind) := cell_in kA
  have c3 : wA.cell? ⟨w.heap.size, 3, none⟩ = some (.int .i64 x.least) := cell_in kA
  have c4 : wA.cell? ⟨w.heap.size, 4, none⟩ = some (.int .i64 x.most) := cell_in kA
  have c5 : wA.cell? ⟨w.heap.size, 5, none⟩ = some (.string (B x.letter)) := cell_in kA
  have hlA := lt_of_block kA
  clear kA hbA
  have Hf := Lib.hid (formR x)
  obtain ⟨fo, hfo⟩ : ∃ fo, fo = formL x := ⟨_, rfl⟩
  rw [← hfo]
  rw [← hfo] at Hf
  clear hfo
  unfold kyV
  have hll : (B x.letter).size ≤ 2147483647 := by rw [B_size]; omega
  obtain ⟨l, hl⟩ : ∃ l, l = x.letter := ⟨_, rfl⟩
  rw [← hl] at c5 Hf hA hll ⊢
  clear hl hx1 hx3
  obtain ⟨lt, hlt⟩ : ∃ lt, lt = letterL l := ⟨_, rfl⟩
  rw [← hlt] at Hf
  have Hlt := Lib.hid hlt
  clear hlt
  go_enter Tryz.func74, Tryz.ntmps74
  go_upto_region 1 with fail
  rw [← hA]
  clear hA
  generalize nameL x.name = t0 at *
  generalize B x.name = nb at *
  generalize x.kind = kk at *
  generalize x.least = le at *
  generalize x.most = mo at *
  go_wp2_with fail
  refine (HN.out wA).mono ?_
  rintro e w1 ⟨rfl, rfl⟩
  go_wp2_with fail
  refine (HE.out w1).mono ?_
  rintro e w2 ⟨rfl, rfl⟩
  go_upto_region 3 with fail
  go_cut [6] (fun v wx => v = .bool lt ∧ wx = w2)
  case first =>
    clear Hf HN HE
    rcases l with _ | ⟨c, _ | ⟨d, r⟩⟩
    · go_wp2_with fail
      go_meet
      exact ⟨by rw [Hlt.out]; rfl, rfl⟩
    · obtain ⟨s, hs'⟩ : ∃ s, s = B [c] := ⟨_, rfl⟩
      have hz : s.size = 1 := by rw [hs']; rfl
      have h0 : (s.toList == []) = false := by rw [hs', ByteArray.toList_eq]; rfl
      have h1 : (s.toList == (⟨#[104]⟩ : ByteArray).toList) = decide (c = 104) := by rw [hs', show (⟨#[104]⟩ : ByteArray) = ⟨([104] : List UInt8).toArray⟩ from rfl, lit_eq]; simp
      have hb : ∀ h : 0 < s.size, ((s[0]'h).toNat : Int) = (c.toNat : Int) := fun h => by subst hs'; rfl
      rw [← hs'] at c5 hll
      have h104 : decide (c.toNat ≠ 104) = !decide (c = 104) := by
        by_cases h : c = 104
        · subst h; rfl
        · have hn : c.toNat ≠ 104 := fun e => h (UInt8.toNat_inj.1 (by rw [e]; rfl))
          simp [h, hn]
      have Hr : Hid (letterL [c] = (decide (97 ≤ c.toNat) && decide (c.toNat ≤ 122) && !decide (c = 104))) := Lib.hid (by
        show (decide (97 ≤ c.toNat) && decide (c.toNat ≤ 122) && decide (c.toNat ≠ 104)) = _
        rw [h104])
      have hi0 : (0 : Nat) < s.size := by omega
      have hbq := hb hi0
      have hemp : s.toList.isEmpty = false := by rw [hs', ByteArray.toList_eq]; rfl
      have h1b : (s.toList == [104]) = decide (c = 104) := by rw [← h1, show (⟨#[104]⟩ : ByteArray).toList = [104] by rw [ByteArray.toList_eq]]
      have h1c : (s.toList != [104]) = !decide (c = 104) := by rw [bne, h1b]
      have Hq : Hid (lt = (decide (97 ≤ c.toNat) && decide (c.toNat ≤ 122) && !decide (c = 104))) := Lib.hid (by rw [Hlt.out, Hr.out])
      clear hs' h104 Hr Hlt
      obtain ⟨c3, hc3⟩ : ∃ c3, decide (c = 104) = c3 := ⟨_, rfl⟩
      rw [hc3] at h1 h1b h1c Hq
      clear hc3 hb
      by_cases g1 : 97 ≤ c.toNat
      · have p1 : decide ((97 : Int) ≤ (c.toNat : Int)) = true := by simp; omega
        have p1' : (97 : Int) ≤ (c.toNat : Int) := by omega
        by_cases g2 : c.toNat ≤ 122
        · have p2 : decide ((c.toNat : Int) ≤ 122) = true := by simp; omega
          have p2' : (c.toNat : Int) ≤ 122 := by omega
          have e : Hid (lt = !c3) := Lib.hid (by rw [Hq.out]; simp [g1, g2])
          clear Hq
          cases c3
          all_goals
            go_wp2_with fail
            go_meet
            exact ⟨by rw [e.out]; rfl, rfl⟩
        · have p2 : decide ((c.toNat : Int) ≤ 122) = false := by simp; omega
          have p2' : ¬ (c.toNat : Int) ≤ 122 := by omega
          have e : Hid (lt = false) := Lib.hid (by rw [Hq.out]; simp [g2])
          clear Hq
          go_wp2_with fail
          go_meet
          exact ⟨by rw [e.out], rfl⟩
      · have p1 : decide ((97 : Int) ≤ (c.toNat : Int)) = false := by simp; omega
        have p1' : ¬ (97 : Int) ≤ (c.toNat : Int) := by omega
        have e : Hid (lt = false) := Lib.hid (by rw [Hq.out]; simp [g1])
        clear Hq
        go_wp2_with fail
        go_meet
        exact ⟨by rw [e.out], rfl⟩
    · obtain ⟨s, hs'⟩ : ∃ s, s = B (c :: d :: r) := ⟨_, rfl⟩
      have hz : s.size = r.length + 2 := by rw [hs']; simp [ByteArray.size]
      have h0 : (s.toList == []) = false := by rw [hs', ByteArray.toList_eq]; rfl
      have h1 : ((s.size : Int) == 1) = false := by rw [hz]; simp; omega
      have hemp : s.toList.isEmpty = false := by rw [hs', ByteArray.toList_eq]; rfl
      rw [← hs'] at c5 hll
      clear hs' hz
      go_wp2_with fail
      go_meet
      exact ⟨by rw [Hlt.out]; rfl, rfl⟩
  case rest =>
    obtain ⟨rfl, rfl⟩ := hcut
    clear c5 hll HN HE
    clear Hlt
    obtain ⟨lo, hlo⟩ : ∃ lo, lo = (bndL kk).1 := ⟨_, rfl⟩
    obtain ⟨hi, hhi⟩ : ∃ hi, hi = (bndL kk).2.1 := ⟨_, rfl⟩
    rw [← hlo, ← hhi] at Hf ⊢
    clear hlo hhi
    cases t0 with
    | false =>
      have e : Hid (fo = false) := Lib.hid (by rw [Hf.out]; simp [])
      clear Hf
      go_wp2_with fail
      go_ret
      exact ⟨by rw [e.out]; rfl, HbA.out⟩
    | true =>
      by_cases g1 : 1 ≤ kk
      · have g1d : decide ((1 : Int) ≤ kk) = true := by simpa using g1
        by_cases g2 : kk ≤ 6
        · have g2d : decide ((kk : Int) ≤ 6) = true := by simpa using g2
          cases lt with
          | false =>
            have e : Hid (fo = false) := Lib.hid (by rw [Hf.out]; simp [g1, g2])
            clear Hf
            go_wp2_with fail
            go_ret
            exact ⟨by rw [e.out]; rfl, HbA.out⟩
          | true =>
            by_cases g3 : le ≤ mo
            · have g3d : decide ((le : Int) ≤ mo) = true := by simpa using g3
              by_cases g4 : lo ≤ le
              · have g4d : decide ((lo : Int) ≤ le) = true := by simpa using g4
                by_cases g5 : mo ≤ hi
                · have g5d : decide ((mo : Int) ≤ hi) = true := by simpa using g5
                  have e : Hid (fo = true) := Lib.hid (by rw [Hf.out]; simp [g1, g2, g3, g4, g5])
                  clear Hf
                  go_wp2_with fail
                  go_ret
                  exact ⟨by rw [e.out]; rfl, HbA.out⟩
                · have g5d : decide ((mo : Int) ≤ hi) = false := by simpa using g5
                  have e : Hid (fo = false) := Lib.hid (by rw [Hf.out]; simp [g1, g2, g3, g4, g5])
                  clear Hf
                  go_wp2_with fail
                  go_ret
                  exact ⟨by rw [e.out]; rfl, HbA.out⟩
              · have g4d : decide ((lo : Int) ≤ le) = false := by simpa using g4
                have e : Hid (fo = false) := Lib.hid (by rw [Hf.out]; simp [g1, g2, g3, g4])
                clear Hf
                go_wp2_with fail
                go_ret
                exact ⟨by rw [e.out]; rfl, HbA.out⟩
            · have g3d : decide ((le : Int) ≤ mo) = false := by simpa using g3
              have e : Hid (fo = false) := Lib.hid (by rw [Hf.out]; simp [g1, g2, g3])
              clear Hf
              go_wp2_with fail
              go_ret
              exact ⟨by rw [e.out]; rfl, HbA.out⟩
        · have g2d : decide ((kk : Int) ≤ 6) = false := by simpa using g2
          have e : Hid (fo = false) := Lib.hid (by rw [Hf.out]; simp [g1, g2])
          clear Hf
          go_wp2_with fail
          go_ret
          exact ⟨by rw [e.out]; rfl, HbA.out⟩
      · have g1d : decide ((1 : Int) ≤ kk) = false := by simpa using g1
        have e : Hid (fo = false) := Lib.hid (by rw [Hf.out]; simp [g1])
        clear Hf
        go_wp2_with fail
        go_ret
        exact ⟨by rw [e.out]; rfl, HbA.out⟩
set_option maxHeartbeats 2000000 in
set_option maxRecDepth 100000 in
theorem refDflt_any (x : Ky) (hx : KyOk x) (w : World) (hV : Vlo w) :
    Calls Tryz.prog 75 #[kyV x] w fun e w' => e = .returned (.bool (dfltL x)) ∧ Below w.heap.size w w' := by
  obtain ⟨_, hx2, _⟩ := hx
  have HP := Lib.hid fun W => refParse_any x.kind (B x.dflt) (by rw [B_size]; omega) W
  rw [ky.B_list] at HP
  have HV := Lib.hid fun W (h : Below w.heap.size w W) => hV.below h (Nat.le_refl _)
  have Hvb := Lib.hid (dflt_all x).1
  have Hdf := Lib.hid (dflt_all x).2
  obtain ⟨wA, hA⟩ : ∃ wA, wA = w.alloc (.cells #[.string (B x.name), .int .i64 x.kind, .string (B x.dflt), .int .i64 x.least, .int .i64 x.most, .string (B x.letter)] 62) := ⟨_, rfl⟩
  have kA : wA.heap[w.heap.size]? = some (.cells #[.string (B x.name), .int .i64 x.kind, .string (B x.dflt), .int .i64 x.least, .int .i64 x.most, .string (B x.letter)] 62 (0, 0)) := by rw [hA]; exact heap_alloc_new w _
  have hbA : Below w.heap.size w wA := by rw [hA]; exact (Below.refl _ _).alloc (Nat.le_refl _) _
  have HbA := Lib.hid hbA
  have c1 : wA.cell? ⟨w.heap.size, 1, none⟩ = some (.int .i64 x.kind) := cell_in kA
  have c2 : wA.cell? ⟨w.heap.size, 2, none⟩ = some (.string (B x.dflt)) := cell_in kA
  have hlA := lt_of_block kA
  have HkA := Lib.hid kA
  clear kA hbA
  unfold kyV
  generalize dfltL x = df at *
  go_enter Tryz.func75, Tryz.ntmps75
  go_upto_region 1 with fail
  rw [← hA]
  clear hA
  go_wp2_with fail
  obtain ⟨pr, hpr⟩ : ∃ pr, pr = parse wordL x.kind x.dflt := ⟨_, rfl⟩
  rw [← hpr] at Hvb Hdf HP
  clear hpr
  refine (HP.out wA).mono ?_
  rintro e w1 ⟨⟨sl, rfl, hf⟩, hb1⟩
  obtain ⟨ps, ns, cs, rfl⟩ := hf.shape
  have HS1 := Lib.hid hf.strs
  have Hb1 := Lib.hid (ky.then_bel HbA.out hb1)
  have Hk1 := Lib.hid ((hb1.block _ hlA).trans HkA.out)
  have HRW := Lib.hid fun W lo hi hV hS => refWithin_any pr.1 Hvb.out lo hi (.slice ps ns cs) W hV hS
  obtain ⟨er, her⟩ : ∃ er, er = pr.2 := ⟨_, rfl⟩
  rw [← her] at Hdf
  clear hf hb1 HkA c1 c2 hlA
  unfold res rep
  rw [← her]
  unfold rep at HRW
  obtain ⟨pv, hpv⟩ : ∃ pv, pv = pr.1 := ⟨_, rfl⟩
  rw [← hpv] at HRW Hdf HS1 ⊢
  clear her hpv
  generalize pv.kind = a0 at *
  generalize pv.int = a1 at *
  generalize pv.text = a2 at *
  go_upto_region 2 with fail
  refine go_name (fun wB hB => ?_)
  have kB : wB.heap[w1.heap.size]? = some (.cells #[.int .i64 a0, .int .i64 a1, .string a2, .slice ps ns cs] 98 (0, 0)) := by rw [hB]; exact heap_alloc_new w1 _
  have hbB : Below w1.heap.size w1 wB := by rw [hB]; exact (Below.refl _ _).alloc (Nat.le_refl _) _
  have HSB := Lib.hid (HS1.out.below hbB (Nat.le_refl _))
  have HbB := Lib.hid (ky.then_bel Hb1.out hbB)
  have v0 : wB.cell? ⟨w1.heap.size, 0, none⟩ = some (.int .i64 a0) := cell_in kB
  have v1 : wB.cell? ⟨w1.heap.size, 1, none⟩ = some (.int .i64 a1) := cell_in kB
  have v2 : wB.cell? ⟨w1.heap.size, 2, none⟩ = some (.string a2) := cell_in kB
  have v3 : wB.cell? ⟨w1.heap.size, 3, none⟩ = some (.slice ps ns cs) := cell_in kB
  have vl := lt_of_block kB
  have kx := (hbB.block _ (lt_of_block Hk1.out)).trans Hk1.out
  have x3 : wB.cell? ⟨w.heap.size, 3, none⟩ = some (.int .i64 x.least) := cell_in kx
  have x4 : wB.cell? ⟨w.heap.size, 4, none⟩ = some (.int .i64 x.most) := cell_in kx
  have xl := lt_of_block kx
  have HW := Lib.hid (HRW.out wB x.least x.most (HV.out _ HbB.out) HSB.out)
  obtain ⟨wi, hwi⟩ : ∃ wi, wi = within wordL pv x.least x.most := ⟨_, rfl⟩
  rw [← hwi] at HW Hdf
  clear hB kB hbB kx hwi HRW HSB HS1 Hb1 Hk1
  go_wp2_with fail
  refine HW.out.mono ?_
  rintro e w2 ⟨rfl, hb2⟩
  have Hb2 := Lib.hid (ky.then_bel HbB.out hb2)
  clear hb2 v0 v1 v2 v3 vl x3 x4 xl
  by_cases he : er = 0
  · have h1 : (er == 0) = true := by simp [he]
    have e : Hid (df = wi) := Lib.hid (by rw [Hdf.out]; simp [he])
    go_wp2_with fail
    go_ret
    exact ⟨by rw [e.out]; rfl, Hb2.out⟩
  · have h1 : (er == 0) = false := by simp [he]
    have e : Hid (df = false) := Lib.hid (by rw [Hdf.out]; simp [he])
    go_wp2_with fail
    go_ret
    exact ⟨by rw [e.out]; rfl, Hb2.out⟩
end Go.Proofs.YtpfhhaonfbfheaaGreatDoor.fl
/- Package env: what Parse calls: the test on a name's first part, Clip; laws on what it keeps. Conditions: as stated. -/
namespace Go.Proofs.YtpfhhaonfbfheaaGreatDoor.en
open Go.ChangeShapes Go.WideShapes Go.ChangeAt Go.RowKit gl va ls ky

theorem infoGv : (Tryz.prog.info? 35).map (fun i => (i.zero, i.size, i.bytes)) = some (some (.agg #[.string .empty, .string .empty, .int .i64 0]), 3, 40) := by kernel_rfl
theorem infoStr : (Tryz.prog.info? 9).map (fun i => (i.zero, i.size, i.bytes)) = some (some (.string .empty), 1, 16) := by kernel_rfl
theorem then_bel {w w' w'' : World} {B : Nat} (h : Below B w w') (hB : B ≤ w'.heap.size) (h2 : Below w'.heap.size w' w'') : Below B w w'' := h.trans (h2.mono hB)
theorem drewN_bel (w : World) (n : Nat) : Below w.heap.size w (w.drewN n) := ⟨rfl, rfl, rfl, Nat.le_refl _, fun _ _ => rfl⟩
theorem st_cell {w : World} {b o n c : Nat} {R : List (List UInt8)} (h : Sts w (.slice (some ⟨b, o, none⟩) n c) R) {j : Nat} {x : List UInt8} (hx : R[j]? = some x) : w.cell? ⟨b, o + j, none⟩ = some (.string (B x)) := by
  have := rw.Rw.cell h hx (i := 0) (u := .string (B x)) rfl
  rw [Nat.mul_one] at this
  exact this
theorem gv_cells {w : World} {b o n c : Nat} {R : List Gv} (h : Gvs w (.slice (some ⟨b, o, none⟩) n c) R) {j : Nat} {x : Gv} (hx : R[j]? = some x) :
    w.cell? ⟨b, o + j * 3, none⟩ = some (.string (B x.name)) ∧ w.cell? ⟨b, o + j * 3 + 1, none⟩ = some (.string (B x.text)) ∧ w.cell? ⟨b, o + j * 3 + 2, none⟩ = some (.int .i64 x.pos) :=
  ⟨rw.Rw.cell h hx (i := 0) rfl, rw.Rw.cell h hx (i := 1) rfl, rw.Rw.cell h hx (i := 2) rfl⟩
set_option maxRecDepth 100000 in
theorem clipG_any (p : Option Addr) (n c : Nat) (hn : n ≤ c) (hc : n ≤ 4294967295) (w : World) : Calls Tryz.prog 58 #[.slice p n c] w fun e w' => e = .returned (.slice p n n) ∧ w = w' := by
  have h1 : (n : Int) ≤ (c : Int) := by omega
  have h2 : (0 : Int) ≤ (n : Int) := by omega
  go_enter Tryz.func58, Tryz.ntmps58
  go_wp2_with fail
  go_ret
  exact ⟨rfl, rfl⟩
/-- Does a name begin so? -/
theorem begins_any (x t : ByteArray) (g : Nat) (w : World) (hc : w.cell? ⟨g, 0, none⟩ = some (.string x)) : Calls Tryz.prog 56 #[.string t, .pointer (some ⟨g, 0, none⟩)] w fun e w' => e = .returned (.bool (Lib.hasPrefix x.data.toList t.data.toList)) ∧ ∃ q, w' = w.drewN q := by
  have hlt : g < w.heap.size := World.block_lt_of_cell? _ _ hc
  have HP := Lib.hid (Tryz.strings_HasPrefix x t)
  go_enter Tryz.func56, Tryz.ntmps56
  go_wp2_with fail
  refine (HP.out _).mono ?_
  rintro e w1 ⟨rfl, rfl⟩
  go_wp2_with fail
  go_ret
  exact ⟨rfl, 0, rfl⟩
theorem egBegins (args : Array Value) (w : World) : (callFunc 56 args).run Tryz.prog w = .ok (.enter 56 args) w := enters Tryz.func56 (by kernel_rfl) (by kernel_rfl) args w
theorem hasP (x t : List UInt8) : Lib.hasPrefix x t = t.isPrefixOf x := rfl
/-- Is one of the parts what a name begins with? -/
theorem like_any (names : List (List UInt8)) (nm : List UInt8) (pp : Option Addr) (cp g m : Nat) (hm : names.length = m) (hm31 : m ≤ 2147483647) (w : World) (hP : Sts w (.slice pp m cp) (names.map partOf)) (hg : w.cell? ⟨g, 0, none⟩ = some (.string (B nm))) :
    Calls Tryz.prog 55 #[.slice pp m cp, .func (.func 56) #[] #[.pointer (some ⟨g, 0, none⟩)]] w fun e w' => e = .returned (.bool (likeL names nm)) ∧ Below w.heap.size w w' := by
  have hgl : g < w.heap.size := World.block_lt_of_cell? _ _ hg
  by_cases h0 : m = 0
  · subst h0
    obtain rfl : names = [] := List.length_eq_zero_iff.1 hm
    refine (Tryz.slices_ContainsFunc_empty (α := List UInt8) pp cp _ w).mono ?_
    rintro e w' ⟨rfl, rfl⟩
    exact ⟨rfl, Below.refl _ _⟩
  · obtain ⟨b, o, rfl, hb⟩ := hP.ptr.2.2 (by omega)
    have hl : (names.map partOf).length = m := by simp [hm]
    refine (Tryz.slices_ContainsFunc (α := List UInt8) (fun l => .string (B l)) (fun t => t.isPrefixOf nm) 56 #[.pointer (some ⟨g, 0, none⟩)] egBegins b o m cp (names.map partOf) w (fun W x hW => ?_) (by omega) (by omega) (fun j hj => ?_)).mono ?_
    · have h := begins_any (B nm) (B x) g W ((hW.cell (p := ⟨g, 0, none⟩) hgl).trans hg)
      rw [B_list, B_list, hasP] at h
      exact h
    · have := st_cell hP (List.getElem?_eq_getElem hj)
      rw [this, getElem!_pos (names.map partOf) j hj]
    · rintro e w' ⟨rfl, q, rfl⟩
      refine ⟨?_, drewN_bel w q⟩
      rw [List.take_of_length_le (by omega), List.any_map]
      rfl

/-! ### What Parse keeps -/
theorem map_put {w1 w w' : World} {m k n0 : Nat} {D D' : DataW Unit} (h : MapAt w m k D) (h' : MapAt w' m n0 D') (hg : w.grownBy w' (some m)) {B0 : Nat} {v : Value} {xs : List Value} {sz : Nat} {T : TypeId} (hm : m < B0) (hr : w.ownsRow B0 T sz v k xs) (hu : Upd [m] w1 w) : Upd [m] w1 w' ∧ w'.ownsRow B0 T sz v k xs := by
  refine ⟨hu.grown hg (fun k hk => by cases hk; exact .inl (by simp)), (Upd.of_grown (S := [m]) hg (fun k hk => by cases hk; simp)).row hr fun g hg' hmem => ?_⟩
  obtain rfl : g = m := by simpa using hmem
  have := (hr.lt g hg').1
  omega
theorem row_put {w1 w w' : World} {m k : Nat} {D : DataW Unit} (h : MapAt w m k D) {v : Value} {xs : List Value} {sz n : Nat} {T : TypeId} (hr : w.ownsRow w1.heap.size T sz v n xs) (hm : m < w1.heap.size) (hg : w.grownBy w' v.ownBlock) (hu : Upd [m] w1 w) : Upd [m] w1 w' ∧ MapAt w' m k D := by
  refine ⟨hu.grown hg (fun k hk => .inr (hr.lt k hk).1), ?_⟩
  obtain ⟨es, clock, hb, r⟩ := h
  exact ⟨es, clock, (hg.block m (lt_of_block hb) (fun e => by have := (hr.lt m e.symm).1; omega)).trans hb, r⟩
theorem take_map_snoc {S : List Ky} {k : Nat} {x : Ky} (h : S[k]? = some x) : (S.map (·.name)).take (k + 1) = (S.map (·.name)).take k ++ [x.name] := by
  rw [List.take_add_one, List.getElem?_map, h]
  rfl
end Go.Proofs.YtpfhhaonfbfheaaGreatDoor.en
/- Package env: Parse of a set of definitions whose names are names. Conditions: the set lies in memory as its list, the pairs as theirs; at most 2147483647 pairs of at most 2147483647 bytes; the listed variables hold what the program's text lays. -/
namespace Go.Proofs.YtpfhhaonfbfheaaGreatDoor.en
open Go.ChangeShapes Go.WideShapes Go.ChangeAt Go.RowKit gl va ls ky
open Go.Maps

theorem go_name2 {K : Act → World → Prop} {a : Act} {W : World} (h : ∀ W', W' = W → K a W') : K a W := h W rfl
/-- What the names' first parts are, and what they are called, after k names; the blocks of w1 but the map's are as they were. -/
structure Half (w1 wr : World) (m k cp : Nat) (pp : Option Addr) (names : List (List UInt8)) : Prop where
  own : wr.ownsRow w1.heap.size 9 1 (.slice pp k cp) k (rw.flat stC ((names.take k).map partOf))
  mp : ∃ D : DataW Unit, MapAt wr m k D ∧ MapN D (names.take k)
  upd : Upd [m] w1 wr
theorem stC_info : (Tryz.prog.info? 9).map (fun i => (i.zero, i.size, i.bytes)) = some (some (.string .empty), 1, 16) := by kernel_rfl
theorem Half.start (w1 : World) (m : Nat) (names : List (List UInt8)) (h : MapAt w1 m 0 (.map [])) : Half w1 w1 m 0 0 none names := by
  refine ⟨⟨by simp [rw.flat], .inl ⟨rfl, rfl⟩⟩, ⟨.map [], h, ?_⟩, Upd.refl _ _⟩
  rw [List.take_zero]
  exact mapN_nil
set_option maxHeartbeats 4000000 in
set_option maxRecDepth 100000 in
theorem Parse_any (M b : Nat) (S : List Ky) (p : Option Addr) (c np : Nat) (pairs : List (List UInt8)) (hnp : pairs.length = np) (hp31 : np ≤ 2147483647) (hpl : ∀ x ∈ pairs, x.length ≤ 2147483647) (hn : ∀ x ∈ S, nameL x.name = true) (w : World) (hS : SetK M w b S) (hP : Sts w (.slice p np c) pairs) (hG : Glo w) :
    Calls Tryz.prog 27 #[.pointer (some ⟨b, 0, none⟩), .slice p np c] w fun e w' => (∃ v, e = .returned (.tuple #[v, .int .i64 (parseL (S.map (·.name)) 0 pairs []).2.1, .int .i64 ((parseL (S.map (·.name)) 0 pairs []).2.2 : Nat)]) ∧ NewGvs w.heap.size w' v (parseL (S.map (·.name)) 0 pairs []).1) ∧ Below w.heap.size w w' := by
  obtain ⟨i0, hi, hz0, hz1, hz2⟩ := info_parts infoStr
  obtain ⟨i1, si, sz0, sz1, sz2⟩ := info_parts infoGv
  have hlen := hS.len
  have hptrP := hP.ptr
  have HP := Lib.hid hP
  have HG := Lib.hid fun W (h : Below w.heap.size w W) => hG.below h (Nat.le_refl _)
  have HA := Lib.hid fun W (h : Below w.heap.size w W) => All_any M b S W (hS.later h)
  have Hn := Lib.hid hn
  have Hpl := Lib.hid hpl
  have Hnp := Lib.hid hnp
  have HptrP := Lib.hid hptrP.2.2
  obtain ⟨names, hnames⟩ : ∃ names, names = S.map (·.name) := ⟨_, rfl⟩
  have Hnames := Lib.hid hnames
  rw [← hnames]
  have Hnl : Hid (names.length = S.length) := Lib.hid (by rw [hnames, List.length_map])
  have Hnn : Hid (∀ x ∈ names, nameL x = true) := Lib.hid (by
    rw [hnames]
    intro x hx
    obtain ⟨y, hy, rfl⟩ := List.mem_map.1 hx
    exact hn y hy)
  obtain ⟨n, hnS⟩ : ∃ n, n = S.length := ⟨_, rfl⟩
  rw [← hnS] at HA Hnl hlen
  have HnS := Lib.hid hnS
  have hbS := hS.lt
  clear hS hP hG hn hpl hnp hptrP hnames hnS
  have hmm := @run_makeMap Tryz.prog
  go_enter Tryz.func27, Tryz.ntmps27
  go_wp2_with fail
  have H0 : Hid (MapAt (w.alloc (.map #[] 0)) w.heap.size 0 (.map [])) := Lib.hid (World.ownsMap_made w _ _ _)
  have Hb0 : Hid (Below w.heap.size w (w.alloc (.map #[] 0))) := Lib.hid ((Below.refl _ _).alloc (Nat.le_refl _) _)
  have hz0 : w.heap.size < (w.alloc (.map #[] 0)).heap.size := by simp
  refine (HA.out _ Hb0.out).mono ?_
  rintro e w1 ⟨⟨pk, rfl, hn1⟩, hb1⟩
  have HH0 : Hid (Half w1 w1 w.heap.size 0 0 none names) := Lib.hid (Half.start w1 _ names (map_later H0.out hb1))
  have HK1 : Hid (Kys w1 (.slice pk n n) S) := Lib.hid (hn1.rw kyC_len)
  have HKp := Lib.hid (HK1.out.ptr.2.2)
  have HKne : Hid (∀ g, (Value.slice pk n n).ownBlock = some g → g ∉ [w.heap.size]) := Lib.hid fun g hg hmem => by
    obtain rfl : g = w.heap.size := by simpa using hmem
    rcases hn1 with ⟨_, e⟩ | ⟨g', c', cs', e, _, h3, _⟩
    · rw [e] at hg; cases hg
    · rw [e] at hg
      have : g' = w.heap.size := by simpa [Value.ownBlock] using hg
      simp at h3
      omega
  have Hb1 : Hid (Below w.heap.size w w1) := Lib.hid (then_bel Hb0.out (Nat.le_of_lt hz0) hb1)
  have hsz1 : w.heap.size < w1.heap.size := Nat.lt_of_lt_of_le hz0 hb1.size
  have HBo : Hid (∀ W, Upd [w.heap.size] w1 W → Below w.heap.size w W) := Lib.hid fun W hW => Hb1.out.trans (hW.below (by simp) (by omega))
  clear hn1 hb1 H0 Hb0 hz0 HA
  go_wp2_with fail
  go_loopw [8, 30] (fun vp vi wr => ∃ (k cp : Nat) (pp : Option Addr), k ≤ n ∧ vi = .int .i64 k ∧ vp = .slice pp k cp ∧ Hid (Half w1 wr w.heap.size k cp pp names)) (fun _ vi _ => n - (intOf vi).toNat)
  case atStart => exact ⟨0, 0, none, by omega, rfl, rfl, HH0⟩
  case round =>
    clear HH0
    obtain ⟨wo, rfl⟩ : ∃ wo, wo = wr := ⟨_, rfl⟩
    obtain ⟨k, cp, pp, hk, rfl, rfl, HH⟩ := hrel
    have hzo : w1.heap.size ≤ wo.heap.size := HH.out.upd.size
    by_cases hlt : k < n
    · obtain ⟨x, hx⟩ : ∃ x, S[k]? = some x := ⟨_, List.getElem?_eq_getElem (by rw [← HnS.out]; exact hlt)⟩
      obtain ⟨gk, ok, rfl, hgk⟩ := HKp.out (by omega)
      obtain ⟨c0, c1, c2, c3, c4, c5⟩ := ky_cells (HK1.out.upd HH.out.upd HKne.out) hx
      have hgo : gk < wo.heap.size := by omega
      have hxn := Hn.out x (List.mem_of_getElem? hx)
      have HNm : Hid (∀ W, Below w.heap.size w W → Calls Tryz.prog 21 #[.string (B x.name)] W fun e w' => e = .returned (.tuple #[.string (B (greatL x.name)), .int .i64 0]) ∧ Below W.heap.size W w') := Lib.hid fun W hW => by
        have h := Name_any x.name (by have := name_len hxn; omega) W (HG.out W hW)
        rw [nmL_yes hxn, nmE_yes hxn] at h
        exact h
      have HCt : Hid (∀ W, Below w.heap.size w W → Calls Tryz.prog 54 #[.string (B (greatL x.name)), .string ⟨#[95]⟩] W fun e w' => (∃ y z, e = .returned (.tuple #[.string (B (bef 95 (greatL x.name))), .string y, .bool z])) ∧ Below W.heap.size W w') := Lib.hid fun W hW => by
        obtain ⟨mx, hmx⟩ := (HG.out W hW).maxLen
        refine (Tryz.strings_Cut (B (greatL x.name)) ⟨#[95]⟩ mx W (by rw [B_size, great_len]; have := name_len hxn; omega) hmx).mono ?_
        rintro e w' ⟨rfl, q, rfl⟩
        refine ⟨⟨_, _, by rw [B_list, show (⟨#[95]⟩ : ByteArray).data.toList = [95] from rfl, cut_first]⟩, drewN_bel W q⟩
      have HAd : Hid (∀ W : World, (Op.stringOp .add (B (bef 95 (greatL x.name))) ⟨#[95]⟩).run Tryz.prog W = .ok (.string (B (partOf x.name))) W) := Lib.hid fun W => by
        have e : B (bef 95 (greatL x.name)) ++ (⟨#[95]⟩ : ByteArray) = B (partOf x.name) := by
          apply ByteArray.ext
          rw [bef_great (name_bytes hxn)]
          simp [partOf]
        rw [← e]
        refine run_string_add_sum W _ _ ?_
        rw [B_size]
        have h1 : (bef 95 (greatL x.name)).length ≤ (greatL x.name).length := (List.takeWhile_prefix _).length_le
        rw [great_len] at h1
        have := name_len hxn
        have h2 : (⟨#[95]⟩ : ByteArray).size = 1 := rfl
        omega
      have HKey : Hid (keyOf Tryz.prog 9 (.string (B (greatL x.name))) = some (.string (greatL x.name))) := Lib.hid (keyS _ (by rw [great_len]; have := name_len hxn; unfold maxLen; omega))
      have HVal : Hid (mapS (.string (B x.name)) = some (.lit (.string x.name), [])) := Lib.hid (mapS_mk _ (by have := name_len hxn; unfold maxLen; omega))
      have Htk : Hid (names.take (k + 1) = names.take k ++ [x.name]) := Lib.hid (by
        rw [Hnames.out]
        exact take_map_snoc hx)
      have Hxn := Lib.hid hxn
      have Hpn : Hid (stC (partOf x.name) = [.string (B (partOf x.name))]) := Lib.hid rfl
      obtain ⟨D, hmD, hND⟩ := HH.out.mp
      have HmD := Lib.hid hmD
      have HND := Lib.hid hND
      have hki : (k : Int) < (n : Int) := by omega
      have hk0 : (0 : Int) ≤ (k : Int) := by omega
      clear hx hxn hmD hND HKp
      generalize B (bef 95 (greatL x.name)) = fx at *
      generalize B (greatL x.name) = gx at *
      generalize B (partOf x.name) = px at *
      generalize B x.name = nx at *
      generalize B x.dflt = dx at *
      generalize B x.letter = lx at *
      generalize x.kind = kx at *
      generalize x.least = ex at *
      generalize x.most = ox at *
      go_upto_region 8 with fail
      refine go_name2 (fun wA hA => ?_)
      have kA : wA.heap[wo.heap.size]? = some (.cells #[.string nx, .int .i64 kx, .string dx, .int .i64 ex, .int .i64 ox, .string lx] 62 (0, 0)) := by rw [hA]; exact heap_alloc_new wo _
      have hbA : Below wo.heap.size wo wA := by rw [hA]; exact (Below.refl _ _).alloc (Nat.le_refl _) _
      have HkA := Lib.hid kA
      have HbA := Lib.hid hbA
      have HUA := Lib.hid (HH.out.upd.then_below hbA)
      have a0 : wA.cell? ⟨wo.heap.size, 0, none⟩ = some (.string nx) := cell_in kA
      have al : wo.heap.size < wA.heap.size := lt_of_block kA
      clear hA kA hbA c0 c1 c2 c3 c4 c5
      go_wp2_with fail
      refine (HNm.out wA (HBo.out _ HUA.out)).mono ?_
      rintro e w2 ⟨rfl, hb2⟩
      have a2 : w2.cell? ⟨wo.heap.size, 0, none⟩ = some (.string nx) := (hb2.cell (p := ⟨wo.heap.size, 0, none⟩) al).trans a0
      have al2 : wo.heap.size < w2.heap.size := Nat.lt_of_lt_of_le al hb2.size
      have HU2 := Lib.hid (HUA.out.then_below hb2)
      have HM2 : Hid (MapAt w2 w.heap.size k D) := Lib.hid (map_later (map_later HmD.out HbA.out) hb2)
      have HO2 := Lib.hid (ls.own_kept (ls.own_kept HH.out.own HbA.out) hb2)
      clear hb2 a0 al
      focus
        go_wp2_with (at_mapUpdate; go_must (refine wpList_mapUpdate_own _ rfl _ _ _ 76 rfl 9 9 lawS Tryz.underlying76 mapS w.heap.size k D rfl HM2.out (by unfold maxLen; omega) _ _ _ rfl rfl HKey.out _ [] HVal.out ?_))
      intro w3 hm3 hg3
      have HM3 : Hid (MapAt w3 w.heap.size (k + 1) (D.put (.string (greatL x.name)) (.lit (.string x.name)))) := Lib.hid hm3
      obtain ⟨hu3, ho3⟩ := map_put HM2.out hm3 hg3 hsz1 HO2.out HU2.out
      have HU3 := Lib.hid hu3
      have HO3 := Lib.hid ho3
      clear hm3 hg3 hu3 ho3 a2 al2
      go_wp2_with fail
      refine (HCt.out w3 (HBo.out _ HU3.out)).mono ?_
      rintro e w4 ⟨⟨y, z, rfl⟩, hb4⟩
      have HU4 := Lib.hid (HU3.out.then_below hb4)
      have HM4 := Lib.hid (map_later HM3.out hb4)
      have HO4 := Lib.hid (ls.own_kept HO3.out hb4)
      have hz4 : w1.heap.size ≤ w4.heap.size := HU4.out.size
      have hadd := HAd.out
      clear hb4
      focus
        go_wp2_with (at_builtin; go_must (refine wpList_append_lit rfl _ _ 38 rfl 9 i0 _ 16 Tryz.underlying38 hi hz0 hz1 hz2 rfl _ 1 (by omega) (by rfl) (by rfl) w1.heap.size _ k _ (by rfl) HO4.out (by simp [Value.oneCell']) (by omega) (by omega) (by omega) ?_))
      intro g' cap' w5 hown5 hgrow5 hat5 hz5 hlt5
      obtain ⟨hu5, hm5⟩ := row_put HM4.out HO4.out hsz1 hgrow5 HU4.out
      have HH5 : Hid (Half w1 w5 w.heap.size (k + 1) cap' (some ⟨g', 0, none⟩) names) := Lib.hid ⟨by
        rw [Htk.out, List.map_append, rw.flat_append, List.map_take]
        show w5.ownsRow w1.heap.size 9 1 _ (k + 1) (_ ++ (stC (partOf x.name) ++ []))
        rw [Hpn.out]
        exact hown5, ⟨_, hm5, by rw [Htk.out]; exact mapN_put HND.out (fun y hy => Hnn.out y (List.mem_of_mem_take hy)) Hxn.out⟩, hu5⟩
      clear hown5 hgrow5 hat5 hu5 hm5 hadd
      go_wp2_with fail
      go_roundw
      case rel => exact ⟨k + 1, cap', some ⟨g', 0, none⟩, by omega, by go_num, rfl, HH5⟩
      case measure => simp [intOf]; omega
    · obtain rfl : k = n := by omega
      have hHH := HH.out
      have htk : names.take k = names := List.take_of_length_le (by rw [Hnl.out]; exact Nat.le_refl _)
      obtain ⟨D, hmD, hND⟩ := hHH.mp
      have hown := hHH.own
      rw [htk] at hND hown
      have Hw2 : Hid (Below w.heap.size w wo) := Lib.hid (HBo.out _ hHH.upd)
      have hwz : w.heap.size ≤ wo.heap.size := Hw2.out.size
      have HMp : Hid (∀ W, Below wo.heap.size wo W → MapAt W w.heap.size k D) := Lib.hid fun W hW => map_later hmD hW
      have HND := Lib.hid hND
      have hst := rw.own_rw stC_len (by decide) hown
      have HPr : Hid (∀ W, Below wo.heap.size wo W → Sts W (.slice p np c) pairs) := Lib.hid fun W hW => HP.out.later (then_bel Hw2.out hwz hW)
      have HGl : Hid (∀ W, Below wo.heap.size wo W → Glo W) := Lib.hid fun W hW => HG.out W (then_bel Hw2.out hwz hW)
      have HLk : Hid (∀ W g nm, Below wo.heap.size wo W → W.cell? ⟨g, 0, none⟩ = some (.string (B nm)) → Calls Tryz.prog 55 #[.slice pp k cp, .func (.func 56) #[] #[.pointer (some ⟨g, 0, none⟩)]] W fun e w' => e = .returned (.bool (likeL names nm)) ∧ Below W.heap.size W w') := Lib.hid fun W g nm hW hg => like_any names nm pp cp g k Hnl.out (by omega) W (hst.later hW) hg
      have HO0 : Hid (wo.ownsRow wo.heap.size 35 3 (.slice none 0 0) 0 (rw.flat gvC [])) := Lib.hid ⟨rfl, .inl ⟨rfl, rfl⟩⟩
      have HZ : Hid (mapS (.string ⟨#[]⟩) = some (.lit (.string []), [])) := Lib.hid (mapS_mk [] (by decide))
      clear hHH htk hmD hND hown hst HH HKp HKne HK1 Hb1 HBo HG HP
      go_wp2_with fail
      go_loopw [16, 58] (fun vo vi wr => ∃ (j co no : Nat) (po : Option Addr) (out : List Gv), j ≤ np ∧ vi = .int .i64 j ∧ no ≤ j ∧ vo = .slice po no co ∧ Hid (wr.ownsRow wo.heap.size 35 3 (.slice po no co) no (rw.flat gvC out)) ∧ Hid (parseL names 0 pairs [] = parseL names j (pairs.drop j) out) ∧ Hid (Below wo.heap.size wo wr)) (fun _ vi _ => np - (intOf vi).toNat)
      case atStart => exact ⟨0, 0, 0, none, [], by omega, rfl, by omega, rfl, HO0, Lib.hid rfl, Lib.hid (Below.refl _ _)⟩
      case round =>
        clear HO0
        obtain ⟨wq, rfl⟩ : ∃ wq, wq = wr := ⟨_, rfl⟩
        obtain ⟨j, co, no, po, out, hj, rfl, hno, rfl, HO, HR, Hb⟩ := hrel
        have hzq : wo.heap.size ≤ wq.heap.size := Hb.out.size
        by_cases hlt2 : j < np
        · obtain ⟨x, hx⟩ : ∃ x, pairs[j]? = some x := ⟨_, List.getElem?_eq_getElem (by rw [Hnp.out]; exact hlt2)⟩
          obtain ⟨bp, op, rfl, hbp⟩ := HptrP.out (by omega)
          have c0 := st_cell (HPr.out _ Hb.out) hx
          have hgo : bp < wq.heap.size := by omega
          have hx31 := Hpl.out x (List.mem_of_getElem? hx)
          have hcut : ∃ nm tx is, Lib.cut x [61] = (nm, tx, is) ∧ ((is = true ∧ (61 : UInt8) ∈ x ∧ nm = bef 61 x ∧ tx = aft 61 x) ∨ (is = false ∧ (61 : UInt8) ∉ x)) := by
            rw [cut_one]
            by_cases h : (61 : UInt8) ∈ x
            · rw [if_pos h]; exact ⟨_, _, _, rfl, .inl ⟨rfl, h, rfl, rfl⟩⟩
            · rw [if_neg h]; exact ⟨_, _, _, rfl, .inr ⟨rfl, h⟩⟩
          obtain ⟨nm, tx, is, hc1, hc2⟩ := hcut
          have HCt : Hid (∀ W, Below wo.heap.size wo W → Calls Tryz.prog 54 #[.string (B x), .string ⟨#[61]⟩] W fun e w' => e = .returned (.tuple #[.string (B nm), .string (B tx), .bool is]) ∧ Below W.heap.size W w') := Lib.hid fun W hW => by
            obtain ⟨mx, hmx⟩ := (HGl.out W hW).maxLen
            refine (Tryz.strings_Cut (B x) ⟨#[61]⟩ mx W (by rw [B_size]; omega) hmx).mono ?_
            rintro e w' ⟨rfl, q, rfl⟩
            refine ⟨by rw [B_list, show (⟨#[61]⟩ : ByteArray).data.toList = [61] from rfl, hc1], drewN_bel W q⟩
          have HLn : Hid (nm.length ≤ 2147483647) := Lib.hid (by
            have h1 : (Lib.cut x [61]).1 = bef 61 x := cut_first 61 x
            rw [hc1] at h1
            have h2 : (bef 61 x).length ≤ x.length := (List.takeWhile_prefix _).length_le
            rw [show nm = bef 61 x from h1]
            omega)
          have HC2 := Lib.hid hc2
          have Hx := Lib.hid hx
          have hji : (j : Int) < (np : Int) := by omega
          have hj0 : (0 : Int) ≤ (j : Int) := by omega
          clear hc1 hc2 hx hx31
          obtain ⟨xb, hxb⟩ : ∃ xb, xb = B x := ⟨_, rfl⟩
          rw [← hxb] at c0 HCt
          clear hxb
          obtain ⟨tb, htb⟩ : ∃ tb, tb = B tx := ⟨_, rfl⟩
          rw [← htb] at HCt
          have Htb := Lib.hid htb
          clear htb
          obtain ⟨nb, hnb⟩ : ∃ nb, nb = B nm := ⟨_, rfl⟩
          rw [← hnb] at HCt
          have Hnb := Lib.hid hnb
          clear hnb
          go_wp2_with fail
          refine (HCt.out _ Hb.out).mono ?_
          rintro e w3 ⟨rfl, hb3⟩
          have Hb3 := Lib.hid (then_bel Hb.out hzq hb3)
          have HO3 := Lib.hid (ls.own_kept HO.out hb3)
          clear hb3 c0 HCt
          go_upto_region 18 with fail
          refine go_name2 (fun wA hA => ?_)
          have kA : wA.heap[w3.heap.size]? = some (.cells #[.string nb] 9 (0, 0)) := by rw [hA]; exact heap_alloc_new w3 _
          have hbA : Below w3.heap.size w3 wA := by rw [hA]; exact (Below.refl _ _).alloc (Nat.le_refl _) _
          have a0 : wA.cell? ⟨w3.heap.size, 0, none⟩ = some (.string nb) := cell_in kA
          have al : w3.heap.size < wA.heap.size := lt_of_block kA
          have HbA := Lib.hid (then_bel Hb3.out Hb3.out.size hbA)
          have HOA := Lib.hid (ls.own_kept HO3.out hbA)
          have hzA : wo.heap.size ≤ wA.heap.size := HbA.out.size
          have HwA := Lib.hid (then_bel Hw2.out hwz HbA.out)
          clear hA kA hbA HO HO3 Hb Hb3
          cases is with
          | false =>
            have Hr : Hid (parseL names 0 pairs [] = ([], 80, j)) := Lib.hid (by
              rcases HC2.out with ⟨h, _⟩ | ⟨_, h⟩
              · cases h
              · rw [HR.out, parse_err Hx.out (step_form (.inl h))])
            clear HC2
            go_wp2_with fail
            go_ret3
            exact ⟨⟨.slice none 0 0, by first | (rw [Hr.out]; rfl) | rw [Hr.out], .inl ⟨by rw [Hr.out], rfl⟩⟩, HwA.out⟩
          | true =>
            have Hm : Hid ((61 : UInt8) ∈ x ∧ nm = bef 61 x ∧ tx = aft 61 x) := Lib.hid (by
              rcases HC2.out with ⟨_, h⟩ | ⟨h, _⟩
              · exact h
              · cases h)
            clear HC2
            by_cases hne : nm = []
            · have Hr : Hid (parseL names 0 pairs [] = ([], 80, j)) := Lib.hid (by
                rw [HR.out, parse_err Hx.out (step_form (.inr (by rw [← Hm.out.2.1]; exact hne)))])
              obtain rfl : nb = ⟨#[]⟩ := by rw [Hnb.out, hne]
              clear hne
              go_wp2_with fail
              go_ret3
              exact ⟨⟨.slice none 0 0, by first | (rw [Hr.out]; rfl) | rw [Hr.out], .inl ⟨by rw [Hr.out], rfl⟩⟩, HwA.out⟩
            · have hbl : nb.toList = nm := by rw [ByteArray.toList_eq, Hnb.out, B_list]
              have q1 : (nb.toList == []) = false := by
                rw [hbl, beq_eq_false_iff_ne]
                exact hne
              have q2 : nb.toList.isEmpty = false := by
                rw [hbl]
                cases nm with
                | nil => exact absurd rfl hne
                | cons a r => rfl
              clear hbl
              have Hne := Lib.hid hne
              have HKey : Hid (keyOf Tryz.prog 9 (.string nb) = some (.string nm)) := Lib.hid (by rw [Hnb.out]; exact keyS _ (by have := HLn.out; unfold maxLen; omega))
              have HMA := Lib.hid (HMp.out _ HbA.out)
              clear hne
              focus
                go_wp2_with (at_lookup; go_must (refine wpList_lookup_own_ok _ rfl _ _ 76 rfl 9 9 lawS Tryz.underlying76 mapS (zeroS _) (.lit (.string [])) [] HZ.out w.heap.size k D rfl HMA.out _ _ rfl HKey.out ?_))
              intro v ps hv
              rw [(HND.out.2 nm).2] at hv
              obtain rfl := mapS_inv hv
              rw [(HND.out.2 nm).1]
              clear hv q1 q2
              cases hpk : pickL names nm with
              | some nn =>
                have Hpk : Hid (stepL names x = .ok (some (nn, tx))) := Lib.hid (by
                  rw [Hm.out.2.2]
                  exact step_pick Hm.out.1 (by rw [← Hm.out.2.1]; exact Hne.out) (by rw [← Hm.out.2.1]; exact hpk))
                have Hr2 : Hid (parseL names 0 pairs [] = parseL names (j + 1) (pairs.drop (j + 1)) (out ++ [⟨nn, tx, j⟩])) := Lib.hid (by rw [HR.out, parse_take Hx.out Hpk.out])
                simp only [Option.isSome_some, Option.getD_some]
                obtain ⟨nnb, hnnb⟩ : ∃ nnb, nnb = B nn := ⟨_, rfl⟩
                rw [← hnnb]
                have Hnnb := Lib.hid hnnb
                clear hpk hnnb
                focus
                  go_wp2_with (at_builtin; go_must (refine wpList_append_k rfl _ _ 31 rfl 35 i1 _ 3 40 Tryz.underlying31 si sz0 sz1 sz2 rfl (by omega) _ (by rfl) (by rfl) wo.heap.size _ no _ (by rfl) HOA.out (by simp [Value.oneCell']) (by omega) (by omega) (by omega) ?_))
                intro g' cap' w5 hown5 hgrow5 hat5 hz5 hlt5
                have HO5 : Hid (w5.ownsRow wo.heap.size 35 3 (.slice (some ⟨g', 0, none⟩) (no + 1) cap') (no + 1) (rw.flat gvC (out ++ [⟨nn, tx, j⟩]))) := Lib.hid (by
                  rw [rw.flat_snoc]
                  show w5.ownsRow wo.heap.size 35 3 _ (no + 1) (_ ++ [.string (B nn), .string (B tx), .int .i64 j])
                  rw [← Hnnb.out, ← Htb.out]
                  exact hown5)
                have Hb5 := Lib.hid (below_grown_own HbA.out HOA.out hgrow5 hzA)
                clear hown5 hgrow5 hat5 hz5 hlt5
                go_wp2_with fail
                go_roundw
                case rel => exact ⟨j + 1, cap', no + 1, some ⟨g', 0, none⟩, _, by omega, by go_num, by omega, rfl, HO5, Hr2, Hb5⟩
                case measure => simp [intOf]; omega
              | none =>
                simp only [Option.isSome_none, Option.getD_none]
                have hLk := HLk.out wA w3.heap.size nm HbA.out (by rw [← Hnb.out]; exact a0)
                have Hst : Hid (likeL names nm = true → stepL names x = .error 81) := Lib.hid fun hl => step_like Hm.out.1 (by rw [← Hm.out.2.1]; exact Hne.out) (by rw [← Hm.out.2.1]; exact hpk) (by rw [← Hm.out.2.1]; exact hl)
                have Hsk : Hid (likeL names nm = false → stepL names x = .ok none) := Lib.hid fun hl => step_skip Hm.out.1 (by rw [← Hm.out.2.1]; exact Hne.out) (by rw [← Hm.out.2.1]; exact hpk) (by rw [← Hm.out.2.1]; exact hl)
                have HLkA := Lib.hid hLk
                clear hpk hLk
                generalize likeL names nm = lk at *
                go_wp2_with fail
                refine HLkA.out.mono ?_
                rintro e w5 ⟨rfl, hb5⟩
                have Hb5 := Lib.hid (then_bel HbA.out hzA hb5)
                have HO5 := Lib.hid (ls.own_kept HOA.out hb5)
                have Hw5 := Lib.hid (then_bel HwA.out (Nat.le_trans hwz hzA) hb5)
                clear hb5
                cases lk with
                | true =>
                  have Hr : Hid (parseL names 0 pairs [] = ([], 81, j)) := Lib.hid (by rw [HR.out, parse_err Hx.out (Hst.out rfl)])
                  go_wp2_with fail
                  go_ret3
                  exact ⟨⟨.slice none 0 0, by first | (rw [Hr.out]; rfl) | rw [Hr.out], .inl ⟨by rw [Hr.out], rfl⟩⟩, Hw5.out⟩
                | false =>
                  have Hr2 : Hid (parseL names 0 pairs [] = parseL names (j + 1) (pairs.drop (j + 1)) out) := Lib.hid (by rw [HR.out, parse_skip Hx.out (Hsk.out rfl)])
                  go_wp2_with fail
                  go_roundw
                  case rel => exact ⟨j + 1, co, no, po, out, by omega, by go_num, by omega, rfl, HO5, Hr2, Hb5⟩
                  case measure => simp [intOf]; omega
        · obtain rfl : j = np := by omega
          have Hr : Hid (parseL names 0 pairs [] = (out, 0, 0)) := Lib.hid (by
            rw [HR.out, ← Hnp.out]
            exact parse_end names pairs out _)
          have HN := Lib.hid (rw.own_new gvC_len (by decide) HO.out)
          have hcl : no ≤ co := (HN.out.rw gvC_len).ptr.2.1
          have Hwq := Lib.hid (then_bel Hw2.out hwz Hb.out)
          go_wp2_with fail
          refine (clipG_any po no co hcl (by omega) wq).mono ?_
          rintro e w5 ⟨rfl, rfl⟩
          go_wp2_with fail
          go_ret3
          refine ⟨⟨_, by rw [Hr.out]; rfl, ?_⟩, Hwq.out⟩
          rw [Hr.out]
          exact HN.out.clip.mono hwz
end Go.Proofs.YtpfhhaonfbfheaaGreatDoor.en
/- Package flag: the reader in memory; what takes an argument, gives, wants. Conditions: as stated. -/
namespace Go.Proofs.YtpfhhaonfbfheaaGreatDoor.fl
open Go.ChangeShapes Go.WideShapes Go.ChangeAt Go.RowKit gl va ls ky en

theorem infoGv : (Tryz.prog.info? 35).map (fun i => (i.zero, i.size, i.bytes)) = some (some (.agg #[.string .empty, .string .empty, .int .i64 0]), 3, 40) := by kernel_rfl
abbrev nextF (ba bx : Nat) : Value := .func (.func 66) #[] #[.pointer (some ⟨ba, 0, none⟩), .pointer (some ⟨bx, 0, none⟩)]
/-- The reader: k arguments were taken; what was given, what is no flag, was help asked for. -/
structure RS (w0 w : World) (b ba bx br bz bs os n c k : Nat) (G : List Gv) (R : List (List UInt8)) (h : Bool) : Prop where
  at_ : w.heap[ba]? = some (.cells #[.int .i64 ((k : Int) - 1)] 3 (0, 0))
  bx_ : w.heap[bx]? = some (.cells #[.slice (some ⟨bs, os, none⟩) n c] 38 (0, 0))
  rec_ : ∃ pg cg pr cr, w.heap[br]? = some (.cells #[.pointer (some ⟨b, 0, none⟩), .slice pg G.length cg, .slice pr R.length cr, .bool h, nextF ba bx] 94 (0, 0)) ∧ w.ownsRow w0.heap.size 35 3 (.slice pg G.length cg) G.length (rw.flat gvC G) ∧ w.ownsRow w0.heap.size 9 1 (.slice pr R.length cr) R.length (rw.flat stC R)
  lo : w0.heap.size ≤ ba ∧ w0.heap.size ≤ bx ∧ w0.heap.size ≤ br
  bel : Below w0.heap.size w0 w
  z_ : w.heap[bz]? = some (.cells #[.slice none 0 0, .slice none 0 0, .bool false] 70 (0, 0))
section
variable {w0 w w' : World} {b ba bx br bz bs os n c k : Nat} {G : List Gv} {R : List (List UInt8)} {h : Bool}
theorem RS.later (H : RS w0 w b ba bx br bz bs os n c k G R h) (hb : Below w.heap.size w w') : RS w0 w' b ba bx br bz bs os n c k G R h := by
  obtain ⟨h1, h2, ⟨pg, cg, pr, cr, h3, h4, h5⟩, h6, h7, h8⟩ := H
  exact ⟨(hb.block _ (lt_of_block h1)).trans h1, (hb.block _ (lt_of_block h2)).trans h2, ⟨pg, cg, pr, cr, (hb.block _ (lt_of_block h3)).trans h3, ls.own_kept h4 hb, ls.own_kept h5 hb⟩, h6, then_bel h7 h7.size hb, (hb.block _ (lt_of_block h8)).trans h8⟩
theorem own_ne {T T' : TypeId} {B0 sz m : Nat} {v : Value} {xs : List Value} {g : Nat} {cs : Array Value} (ho : w.ownsRow B0 T sz v m xs) (hg : w.heap[g]? = some (.cells cs T' (0, 0))) (ht : T' ≠ T) : some g ≠ v.ownBlock := by
  intro e
  rcases ho.2 with ⟨h1, _⟩ | ⟨q, cap, cur, h1, _, hq, _⟩
  · rw [h1] at e; cases e
  · rw [h1] at e
    exact ne_of_types hg hq ht (Option.some.inj e)
theorem own_set {T T' : TypeId} {B0 sz m o : Nat} {v u : Value} {xs : List Value} {g : Nat} {cs : Array Value} (ho : w.ownsRow B0 T sz v m xs) (hg : w.heap[g]? = some (.cells cs T' (0, 0))) (ht : T' ≠ T) : (w.setCell ⟨g, o, none⟩ u).ownsRow B0 T sz v m xs :=
  ((Upd.refl [g] w).setCell (p := ⟨g, o, none⟩) (.inl (by simp)) u).row ho fun q hq hm => own_ne ho hg ht (by rw [hq]; rw [List.mem_singleton.1 hm])
theorem RS.next (H : RS w0 w b ba bx br bz bs os n c k G R h) : RS w0 (w.setCell ⟨ba, 0, none⟩ (.int .i64 (k : Int))) b ba bx br bz bs os n c (k + 1) G R h := by
  obtain ⟨h1, h2, ⟨pg, cg, pr, cr, h3, h4, h5⟩, h6, h7, h8⟩ := H
  refine ⟨?_, heap_set_ne h2 _ (ne_of_types h2 h1 (by decide)), ⟨pg, cg, pr, cr, heap_set_ne h3 _ (ne_of_types h3 h1 (by decide)), own_set h4 h1 (by decide), own_set h5 h1 (by decide)⟩, h6, h7.setCell (p := ⟨ba, 0, none⟩) h6.1 _, heap_set_ne h8 _ (ne_of_types h8 h1 (by decide))⟩
  have e : (((k + 1 : Nat) : Int) - 1) = (k : Int) := by omega
  rw [e]
  exact heap_set h1 _
theorem RS.help (H : RS w0 w b ba bx br bz bs os n c k G R h) : RS w0 (w.setCell ⟨br, 3, none⟩ (.bool true)) b ba bx br bz bs os n c k G R true := by
  obtain ⟨h1, h2, ⟨pg, cg, pr, cr, h3, h4, h5⟩, h6, h7, h8⟩ := H
  exact ⟨heap_set_ne h1 _ (ne_of_types h1 h3 (by decide)), heap_set_ne h2 _ (ne_of_types h2 h3 (by decide)), ⟨pg, cg, pr, cr, heap_set h3 _, own_set h4 h3 (by decide), own_set h5 h3 (by decide)⟩, h6, h7.setCell (p := ⟨br, 3, none⟩) h6.2.2 _, heap_set_ne h8 _ (ne_of_types h8 h3 (by decide))⟩
end
/-- One setting more. -/
theorem rs_give {w0 w w5 : World} {b ba bx br bz bs os n c k ng g' cg cap' cr : Nat} {G : List Gv} {R : List (List UInt8)} {h : Bool} {x : Gv} {pg pr : Option Addr} (hng : G.length = ng)
    (h1 : w.heap[ba]? = some (.cells #[.int .i64 ((k : Int) - 1)] 3 (0, 0))) (h2 : w.heap[bx]? = some (.cells #[.slice (some ⟨bs, os, none⟩) n c] 38 (0, 0)))
    (h3 : w.heap[br]? = some (.cells #[.pointer (some ⟨b, 0, none⟩), .slice pg ng cg, .slice pr R.length cr, .bool h, nextF ba bx] 94 (0, 0))) (h4 : w.ownsRow w0.heap.size 35 3 (.slice pg ng cg) ng (rw.flat gvC G)) (h5 : w.ownsRow w0.heap.size 9 1 (.slice pr R.length cr) R.length (rw.flat stC R))
    (h6 : w0.heap.size ≤ ba ∧ w0.heap.size ≤ bx ∧ w0.heap.size ≤ br) (h7 : Below w0.heap.size w0 w) (h8 : w.heap[bz]? = some (.cells #[.slice none 0 0, .slice none 0 0, .bool false] 70 (0, 0)))
    (ho : w5.ownsRow w0.heap.size 35 3 (.slice (some ⟨g', 0, none⟩) (ng + 1) cap') (ng + 1) (rw.flat gvC G ++ gvC x)) (hg : w.grownBy w5 (Value.slice pg ng cg).ownBlock) :
    RS w0 (w5.setCell ⟨br, 1, none⟩ (.slice (some ⟨g', 0, none⟩) (ng + 1) cap')) b ba bx br bz bs os n c k (G ++ [x]) R h := by
  have k1 := (hg.block ba (lt_of_block h1) (own_ne h4 h1 (by decide))).trans h1
  have k2 := (hg.block bx (lt_of_block h2) (own_ne h4 h2 (by decide))).trans h2
  have k3 := (hg.block br (lt_of_block h3) (own_ne h4 h3 (by decide))).trans h3
  have k8 := (hg.block bz (lt_of_block h8) (own_ne h4 h8 (by decide))).trans h8
  have k5 : w5.ownsRow w0.heap.size 9 1 (.slice pr R.length cr) R.length (rw.flat stC R) := (Upd.of_grown (S := (Value.slice pg ng cg).ownBlock.toList) hg (fun q hq => by rw [hq]; simp)).row h5 fun q hq hm => by
    have hm' : (Value.slice pg ng cg).ownBlock = some q := by simpa using hm
    rcases h5.2 with ⟨e, _⟩ | ⟨q', cap, cur, e, _, hq', _⟩
    · rw [e] at hq; cases hq
    · rw [e] at hq
      obtain rfl : q' = q := Option.some.inj hq
      exact own_ne h4 hq' (by decide) hm'.symm
  have hl : (G ++ [x]).length = ng + 1 := by simp [hng]
  refine ⟨heap_set_ne k1 _ (ne_of_types k1 k3 (by decide)), heap_set_ne k2 _ (ne_of_types k2 k3 (by decide)), ⟨some ⟨g', 0, none⟩, cap', pr, cr, ?_, ?_, own_set k5 k3 (by decide)⟩, h6, ?_, heap_set_ne k8 _ (ne_of_types k8 k3 (by decide))⟩
  · rw [hl]
    exact heap_set k3 _
  · rw [hl, rw.flat_snoc]
    exact own_set ho k3 (by decide)
  · exact (below_grown_own h7 h4 hg h7.size).setCell (p := ⟨br, 1, none⟩) h6.2.2 _

theorem egNext (args : Array Value) (w : World) : (callFunc 66 args).run Tryz.prog w = .ok (.enter 66 args) w := enters Tryz.func66 (by kernel_rfl) (by kernel_rfl) args w
set_option maxRecDepth 100000 in
theorem next_more {w0 w : World} {b ba bx br bz bs os n c k : Nat} {G : List Gv} {R : List (List UInt8)} {h : Bool} (H : RS w0 w b ba bx br bz bs os n c k G R h) (args : List (List UInt8)) (hA : Sts w0 (.slice (some ⟨bs, os, none⟩) n c) args) (x : List UInt8) (hx : args[k]? = some x) (hk : k < n) (hn : n ≤ 100) :
    Calls Tryz.prog 66 #[.pointer (some ⟨ba, 0, none⟩), .pointer (some ⟨bx, 0, none⟩)] w fun e w' => e = .returned (.tuple #[.string (B x), .bool true]) ∧ w' = w.setCell ⟨ba, 0, none⟩ (.int .i64 (k : Int)) := by
  have a0 : w.cell? ⟨ba, 0, none⟩ = some (.int .i64 ((k : Int) - 1)) := cell_in H.at_
  have f0 : w.frozen? ⟨ba, 0, none⟩ = false := free_in H.at_
  have x0 : w.cell? ⟨bx, 0, none⟩ = some (.slice (some ⟨bs, os, none⟩) n c) := cell_in H.bx_
  have s0 := st_cell (hA.later H.bel) hx
  have hneb : bx ≠ ba := ne_of_types H.bx_ H.at_ (by decide)
  have hbs : bs < w.heap.size := World.block_lt_of_cell? _ _ s0
  have hla := lt_of_block H.at_
  have hlx := lt_of_block H.bx_
  have hne2 : bs ≠ ba := by have h1 := World.block_lt_of_cell? _ _ (st_cell hA hx); have h2 : bs < w0.heap.size := h1; have := H.lo.1; omega
  have z0 : (w.setCell ⟨ba, 0, none⟩ (.int .i64 (k : Int))).cell? ⟨bx, 0, none⟩ = some (.slice (some ⟨bs, os, none⟩) n c) := by rw [World.cell?_setCell_other w _ _ _ (by intro e; injection e with e1 _ _; exact hneb e1.symm)]; exact x0
  have z1 : (w.setCell ⟨ba, 0, none⟩ (.int .i64 (k : Int))).cell? ⟨bs, os + k, none⟩ = some (.string (B x)) := by rw [World.cell?_setCell_other w _ _ _ (by intro e; injection e with e1 _ _; exact hne2 e1.symm)]; exact s0
  have z2 : (w.setCell ⟨ba, 0, none⟩ (.int .i64 (k : Int))).cell? ⟨ba, 0, none⟩ = some (.int .i64 (k : Int)) := World.cell?_setCell_same w _ _ a0
  have hw1 : IntKind.i64.wrap ((k : Int) - 1 + 1) = (k : Int) := by rw [IntWalk.i64_in _ (by omega)]; omega
  have hp1 : (k : Int) - 1 + 1 = (k : Int) := by omega
  have hki : (k : Int) < (n : Int) := by omega
  have hk0 : (0 : Int) ≤ (k : Int) := by omega
  have hkd : decide ((n : Int) ≤ (k : Int)) = false := by rw [decide_eq_false_iff_not]; omega
  have hkd2 : decide (n ≤ k) = false := by rw [decide_eq_false_iff_not]; omega
  clear H hA hx hneb hne2
  generalize B x = xb at *
  go_enter Tryz.func66, Tryz.ntmps66
  go_wp2_with fail
  go_ret2
  exact ⟨rfl, rfl⟩
set_option maxRecDepth 100000 in
theorem next_none {w0 w : World} {b ba bx br bz bs os n c k : Nat} {G : List Gv} {R : List (List UInt8)} {h : Bool} (H : RS w0 w b ba bx br bz bs os n c k G R h) (hk : n ≤ k) (hk2 : k ≤ 1000) :
    Calls Tryz.prog 66 #[.pointer (some ⟨ba, 0, none⟩), .pointer (some ⟨bx, 0, none⟩)] w fun e w' => e = .returned (.tuple #[.string ⟨#[]⟩, .bool false]) ∧ w' = w := by
  have a0 : w.cell? ⟨ba, 0, none⟩ = some (.int .i64 ((k : Int) - 1)) := cell_in H.at_
  have x0 : w.cell? ⟨bx, 0, none⟩ = some (.slice (some ⟨bs, os, none⟩) n c) := cell_in H.bx_
  have hla := lt_of_block H.at_
  have hlx := lt_of_block H.bx_
  have hw1 : IntKind.i64.wrap ((k : Int) - 1 + 1) = (k : Int) := by rw [IntWalk.i64_in _ (by omega)]; omega
  have hp1 : (k : Int) - 1 + 1 = (k : Int) := by omega
  have hki : (n : Int) ≤ (k : Int) := by omega
  clear H
  go_enter Tryz.func66, Tryz.ntmps66
  go_wp2_with fail
  go_ret2
  exact ⟨rfl, rfl⟩
set_option maxHeartbeats 2000000 in
set_option maxRecDepth 100000 in
theorem gives_any {w0 w : World} {b ba bx br bz bs os n c k : Nat} {G : List Gv} {R : List (List UInt8)} {h : Bool} (H : RS w0 w b ba bx br bz bs os n c k G R h) (hG : G.length ≤ 1000) (name text : List UInt8) (pos : Nat) :
    Calls Tryz.prog 87 #[.pointer (some ⟨br, 0, none⟩), .string (B name), .string (B text), .int .i64 pos] w fun e w' => e = .returned (.int .i64 0) ∧ RS w0 w' b ba bx br bz bs os n c k (G ++ [⟨name, text, pos⟩]) R h := by
  obtain ⟨i1, si, sz0, sz1, sz2⟩ := info_parts infoGv
  obtain ⟨h1, h2, ⟨pg, cg, pr, cr, h3, h4, h5⟩, h6, h7, h8⟩ := H
  obtain ⟨ng, hng⟩ : ∃ ng, G.length = ng := ⟨_, rfl⟩
  rw [hng] at h3 h4 hG
  have g1 : w.cell? ⟨br, 1, none⟩ = some (.slice pg ng cg) := cell_in h3
  have hlr := lt_of_block h3
  have HO := Lib.hid h4
  have hz := h7.size
  have HRS := Lib.hid fun (w5 : World) g' cap' => rs_give (w5 := w5) (g' := g') (cap' := cap') (x := ⟨name, text, pos⟩) hng h1 h2 h3 h4 h5 h6 h7 h8
  have Hk3 := Lib.hid h3
  have Hne := Lib.hid (own_ne h4 h3 (by decide))
  clear h1 h2 h3 h4 h5 h6 h7 h8 hng
  obtain ⟨nb, hnb⟩ : ∃ nb, nb = B name := ⟨_, rfl⟩
  obtain ⟨tb, htb⟩ : ∃ tb, tb = B text := ⟨_, rfl⟩
  have hxC : Hid (gvC ⟨name, text, pos⟩ = [.string nb, .string tb, .int .i64 pos]) := Lib.hid (by rw [hnb, htb]; rfl)
  rw [← hnb, ← htb]
  clear hnb htb
  go_enter Tryz.func87, Tryz.ntmps87
  focus
    go_wp2_with (at_builtin; go_must (refine wpList_append_k rfl _ _ 31 rfl 35 i1 _ 3 40 Tryz.underlying31 si sz0 sz1 sz2 rfl (by omega) _ (by rfl) (by rfl) w0.heap.size _ ng _ (by rfl) HO.out (by simp [Value.oneCell']) (by omega) (by omega) (by omega) ?_))
  intro g' cap' w5 hown5 hgrow5 hat5 hz5 hlt5
  have hR := HRS.out w5 g' cap' (by rw [hxC.out]; exact hown5) hgrow5
  have HR := Lib.hid hR
  have k3 := (hgrow5.block br (lt_of_block Hk3.out) Hne.out).trans Hk3.out
  have q1 : w5.cell? ⟨br, 1, none⟩ = some (.slice pg ng cg) := cell_in k3
  have q2 : w5.frozen? ⟨br, 1, none⟩ = false := free_in k3
  have q3 := lt_of_block k3
  clear hown5 hgrow5 hat5 hR k3
  go_wp2_with fail
  go_ret
  exact ⟨rfl, HR.out⟩
end Go.Proofs.YtpfhhaonfbfheaaGreatDoor.fl
