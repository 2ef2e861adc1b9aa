/- The calls of package codec's Writer. Conditions: the Writer reads as a plain state; the bytes laid down stay under 2^47; for Done: the variable errors.errorType holds what the program's text lays. -/
import Derived.Test.YtmijkaejdgmplaaDoorCoB
import Derived.Deep.QuietTactic
import Derived.BigQuiet
namespace Go.Proofs.YtmijkaejdgmplaaDoor.co
open Go.ChangeShapes Go.WideShapes Go.ChangeAt Go.RowKit

set_option maxHeartbeats 1000000 in
theorem fails_any (b : Nat) (e : Int) (he : e ≠ 0) (s : Wst) (S : List Nat) (w : World) (h : IsW w b s S) :
    Calls Tryd.prog 49 #[.pointer (some ⟨b, 0, none⟩), .int .i64 e] w fun ev w' => ev = .returned (.tuple #[]) ∧ Moves S w w' (IsW w' b (s.fails e)) := by
  obtain ⟨v, er, h1, h2, h3, h4⟩ := h.at_
  have hlt := lt_of_block h1
  have hc := cell_in (o := 2) h1
  have hf := free_in (o := 2) h1
  have H := Lib.hid h
  have H3 := Lib.hid h3
  clear h h1 h2 h3 h4
  simp only [List.getElem?_toArray, List.getElem?_cons_succ, List.getElem?_cons_zero] at hc
  by_cases h0 : s.err = 0
  · obtain rfl : er = .nilIface := by
      rcases H3.out with ⟨_, h⟩ | ⟨h, _⟩
      · exact h
      · exact absurd h0 h
    have H0 := Lib.hid h0
    clear h0
    go_enter Tryd.func49, Tryd.ntmps49
    go_wp2_with fail
    go_end0
    exact ⟨rfl, H.out.fail H0.out e he⟩
  · obtain ⟨p, rfl, _, _⟩ : ∃ p, er = .iface 77 (.pointer (some ⟨p, 0, none⟩)) ∧ _ ∧ _ := by
      rcases H3.out with ⟨h, _⟩ | ⟨_, h⟩
      · exact absurd h h0
      · exact h
    have H0 := Lib.hid h0
    clear h0
    go_enter Tryd.func49, Tryd.ntmps49
    go_wp2_with fail
    go_end0
    refine ⟨rfl, S, ?_, Upd.refl _ _, fun k hk => .inl hk⟩
    unfold Wst.fails
    rw [if_neg H0.out]
    exact H.out

/-- Draws turn nothing. -/
theorem IsW.drewN {w : World} {b : Nat} {s : Wst} {S : List Nat} (h : IsW w b s S) (n : Nat) : IsW (w.drewN n) b s S := h.kept (T := []) ((Upd.refl _ _).drewN n) (by intro k _; simp)
theorem Moves.drewN {S : List Nat} {w w' : World} {n : Nat} {R : List Nat → Prop} (h : Moves S (w.drewN n) w' R) : Moves S w w' R := by
  obtain ⟨S', h1, h2, h3⟩ := h
  exact ⟨S', h1, ⟨h2.os, h2.tape, h2.output, h2.size, h2.block⟩, h3⟩
theorem Moves.stay {S : List Nat} {w : World} {n : Nat} {R : List Nat → Prop} (h : R S) : Moves S w (w.drewN n) R := ⟨S, h, (Upd.refl _ _).drewN n, fun _ hk => .inl hk⟩
theorem Moves.same {S : List Nat} {w : World} {R : List Nat → Prop} (h : R S) : Moves S w w R := ⟨S, h, Upd.refl _ _, fun _ hk => .inl hk⟩
theorem own_slice {w : World} {v : Value} {n : Nat} {xs : List Value} {e : TypeId} {base : Nat} (h : w.ownsRow base e 1 v n xs) : ∃ p c, v = .slice p n c := by
  rcases h.2 with ⟨rfl, rfl⟩ | ⟨g, cap, cur, hv, _⟩
  · exact ⟨_, _, rfl⟩
  · exact ⟨_, _, hv⟩

theorem IsW.err_cell {w : World} {b : Nat} {s : Wst} {S : List Nat} (h : IsW w b s S) (h0 : s.err ≠ 0) : ∃ p, w.cell? ⟨b, 2, none⟩ = some (.iface 77 (.pointer (some ⟨p, 0, none⟩))) := by
  obtain ⟨v, ev, h1, _, h3, _⟩ := h.at_
  rcases h3 with ⟨h, _⟩ | ⟨_, p, rfl, _⟩
  · exact absurd h h0
  · exact ⟨p, cell_in (o := 2) h1⟩

set_option maxHeartbeats 4000000 in
set_option maxRecDepth 100000 in
theorem lay_any (b : Nat) (g cap : Nat) (bl : List UInt8) (x : ByteArray) (hbl : 0 < bl.length) (s : Wst) (S : List Nat) (w : World) (h : IsW w b s S)
    (hg : w.ownsRow 0 5 1 (.slice (some ⟨g, 0, none⟩) bl.length cap) bl.length (bv bl)) (hm : s.most ≤ 9223372036854775807) (hok : s.ok) (hb : s.out.length + bl.length + x.size ≤ 140737488355328) :
    Calls Tryd.prog 50 #[.pointer (some ⟨b, 0, none⟩), .slice (some ⟨g, 0, none⟩) bl.length cap, .string x] w fun ev w' => ev = .returned (.tuple #[]) ∧ Moves S w w' (IsW w' b (s.lay (bl ++ x.data.toList))) := by
  obtain ⟨i0, hi, hz0, hz1, hz2⟩ := info_parts infoByte
  obtain ⟨v, er, h1, h2, h3, h4⟩ := h.at_
  have hlt := lt_of_block h1
  have hc0 := cell_in (o := 0) h1
  have hc1 := cell_in (o := 1) h1
  have hc2 := cell_in (o := 2) h1
  have hf0 := free_in (o := 0) h1
  simp only [List.getElem?_toArray, List.getElem?_cons_succ, List.getElem?_cons_zero] at hc0 hc1 hc2
  have H := Lib.hid h
  have H1 := Lib.hid h1
  have H2 := Lib.hid h2
  have H3 := Lib.hid h3
  have H4 := Lib.hid h4
  have HG := Lib.hid hg
  have hlen : (w.ownsRow 0 5 1 v s.out.length (bv s.out)) := h2
  have hxl : x.data.toList.length = x.size := by simp
  clear h h1 h2 h3 h4 hg hlen
  unfold Wst.ok at hok
  by_cases h0 : s.err = 0
  · obtain rfl : er = .nilIface := by
      rcases H3.out with ⟨_, h⟩ | ⟨h, _⟩
      · exact h
      · exact absurd h0 h
    have H0 := Lib.hid h0
    clear h0
    obtain ⟨pp, cc, hv⟩ := own_slice H2.out
    subst hv
    by_cases hfit : s.out.length + bl.length + x.size ≤ s.most
    · have Hlay : Hid (s.out.length + (bl ++ x.data.toList).length ≤ s.most) := Lib.hid (by rw [List.length_append, hxl]; omega)
      have HX := Lib.hid hxl
      clear hxl
      go_enter Tryd.func50, Tryd.ntmps50
      go_wp2_with fail
      go_quiet (fail)
      go_wp2_with (at_builtin; go_must (refine wpList_append_lies _ rfl (.tmp 40) (.tmp 41) 62 rfl 0 5 i0 _ 1 1 Tryd.underlying62 hi hz0 hz1 hz2 rfl (by decide) _ s.out.length (bv s.out) (by rfl) H2.out ⟨g, 0, none⟩ bl.length cap (bv bl) (by rfl) (by simp [bv_length]) (own_cells HG.out) (bv_one bl) hbl (by unfold maxLen; omega) (by omega) (by omega) _ rfl ?_))
      intro g' cap' w1 hown1 hgrow hat hlt1
      have HU1 := Lib.hid (Upd.grown ((Upd.refl S w).drewN nq) hgrow fun k hk => .inl (H4.out k hk))
      have Hat1 : Hid (g' ∈ S ∨ w.heap.size ≤ g') := Lib.hid (by
        rcases hat with h | h
        · exact .inl (H4.out _ h)
        · exact .inr (by rw [h]; exact Nat.le_refl _))
      have Hb1 : Hid (w1.heap[b]? = w.heap[b]?) := Lib.hid (hgrow.block b hlt (by
        intro hg
        obtain ⟨cs, hcs⟩ := own_type H2.out hg.symm
        exact ne_of_types hcs H1.out (by decide) rfl))
      rw [← bv_append] at hown1
      have HO1 := Lib.hid hown1
      have hz1' : w.heap.size ≤ w1.heap.size := HU1.out.size
      clear hown1 hgrow hat
      go_wp2_with (at_builtin; go_must (refine wpList_append_str rfl (.tmp 42) (.tmp 43) 62 9 rfl 0 5 i0 Tryd.underlying62 Tryd.underlying9 hi hz0 hz1 hz2 _ (s.out.length + bl.length) _ (by rfl) HO1.out x (by rfl) (by unfold maxLen; omega) (by omega) (by omega) ?_))
      intro v2 w2 hown2 hgrow hat
      have hg'b : g' ≠ b := by
        obtain ⟨cs, hcs⟩ := own_type HO1.out rfl
        have := H1.out
        rw [← Hb1.out] at this
        exact ne_of_types hcs this (by decide)
      have HU2 := Lib.hid (HU1.out.grown hgrow fun k hk => by
        simp only [Value.ownBlock, Option.some.injEq] at hk
        subst hk
        exact Hat1.out)
      have Hat2 : Hid (∀ k, v2.ownBlock = some k → k ∈ S ∨ w.heap.size ≤ k) := Lib.hid (fun k hk => by
        rcases hat with h | h
        · rw [h] at hk
          simp only [Value.ownBlock, Option.some.injEq] at hk
          subst hk
          exact Hat1.out
        · rw [h] at hk
          simp only [Option.some.injEq] at hk
          subst hk
          exact .inr hz1')
      have Hb2 : Hid (w2.heap[b]? = w.heap[b]?) := Lib.hid ((hgrow.block b (Nat.lt_of_lt_of_le hlt hz1') (by simp only [Value.ownBlock, ne_eq, Option.some.injEq]; exact fun e => hg'b e.symm)).trans Hb1.out)
      have HO2 : Hid (w2.ownsRow 0 5 1 v2 (s.out.length + (bl ++ x.data.toList).length) (bv (s.out ++ (bl ++ x.data.toList)))) := Lib.hid (by
        have := hown2
        rw [List.length_append, HX.out, ← Nat.add_assoc, ← List.append_assoc, bv_append]
        exact this)
      have hB := Hb2.out.trans H1.out
      have hc3 := cell_in (o := 0) hB
      have hf3 := free_in (o := 0) hB
      simp only [List.getElem?_toArray, List.getElem?_cons_zero] at hc3
      clear hown2 hgrow hat hB hc0 hc1 hc2
      obtain ⟨p2, c2, hv2⟩ := own_slice HO2.out
      subst hv2
      generalize hN : s.out.length + (bl ++ x.data.toList).length = N at HO2 Hat2
      have HN := Lib.hid hN
      clear hN
      go_wp2_with fail
      go_end0
      exact ⟨rfl, H.out.laid H0.out Hlay.out H1.out H3.out (by rw [HN.out]; exact HO2.out) HU2.out Hb2.out Hat2.out⟩
    · have HX := Lib.hid hxl
      clear hxl
      go_enter Tryd.func50, Tryd.ntmps50
      go_wp2_with fail
      go_quiet (fail)
      go_wp2_with fail
      refine (fails_any b 31 (by decide) s S _ (H.out.drewN nq)).mono ?_
      rintro e w1 ⟨rfl, hM⟩
      have HM := Lib.hid hM
      have hf31 : s.fails 31 = { s with err := 31 } := by unfold Wst.fails; rw [if_pos H0.out]
      obtain ⟨S', hW, _, _⟩ := hM
      rw [hf31] at hW
      obtain ⟨p, hp⟩ := hW.err_cell (by show (31 : Int) ≠ 0; decide)
      have hlay : s.lay (bl ++ x.data.toList) = s.fails 31 := by
        rw [hf31]; unfold Wst.lay; rw [if_pos H0.out, if_pos (by rw [List.length_append, HX.out]; omega)]
      have HL := Lib.hid hlay
      clear hlay hW hf31 hc0 hc1 hc2
      go_wp2_with fail
      go_end0
      exact ⟨rfl, by rw [HL.out]; exact Moves.drewN HM.out⟩
  · obtain ⟨p, rfl, _, _⟩ : ∃ p, er = .iface 77 (.pointer (some ⟨p, 0, none⟩)) ∧ _ ∧ _ := by
      rcases H3.out with ⟨h, _⟩ | ⟨_, h⟩
      · exact absurd h h0
      · exact h
    have H0 := Lib.hid h0
    have HX := Lib.hid hxl
    clear h0 hxl
    go_enter Tryd.func50, Tryd.ntmps50
    go_wp2_with fail
    go_quiet (fail)
    go_wp2_with fail
    go_end0
    refine ⟨rfl, Moves.stay ?_⟩
    unfold Wst.lay
    rw [if_neg H0.out]
    exact H.out.drewN _

theorem IsW.drop_lt {w : World} {S : List Nat} {b : Nat} {s : Wst} (h : IsW w b s S) {g : Nat} (hg : w.heap.size ≤ g) : g ∉ S := fun hS => by have := h.lt g hS; omega
/-- A call behind one that makes memory alone. -/
theorem Moves.from_below {S : List Nat} {w w1 w' : World} {R : List Nat → Prop} (hb : Below w.heap.size w w1) (h : Moves S w1 w' R) : Moves S w w' R := by
  obtain ⟨S', h1, h2, h3⟩ := h
  exact ⟨S', h1, (Upd.of_below hb S).trans h2 fun k hk => .inl hk, fun k hk => (h3 k hk).imp_right fun h => Nat.le_trans hb.size h⟩
theorem row_own {w : World} {base g n cap : Nat} {e : TypeId} {xs : List Value} (h : w.ownsRow base e 1 (.slice (some ⟨g, 0, none⟩) n cap) n xs) : base ≤ g := (h.lt g rfl).1

set_option maxHeartbeats 1000000 in
theorem Num_any (b : Nat) (n : Int) (hn : n.toNat ≤ 9223372036854775807) (s : Wst) (S : List Nat) (w : World) (h : IsW w b s S) (hm : s.most ≤ 9223372036854775807) (hok : s.ok) (hb : s.out.length + 9 ≤ 140737488355328) :
    Calls Tryd.prog 21 #[.pointer (some ⟨b, 0, none⟩), .int .i64 n] w fun ev w' => ev = .returned (.tuple #[]) ∧ Moves S w w' (IsW w' b (s.num n)) := by
  have H := Lib.hid h
  clear h
  by_cases h0 : n < 0
  · have h0' : decide (n < 0) = true := by simpa using h0
    go_enter Tryd.func21, Tryd.ntmps21
    go_wp2_with fail
    refine (fails_any b 30 (by decide) s S _ H.out).mono ?_
    rintro e w1 ⟨rfl, hM⟩
    go_wp2_with fail
    refine bodyPost_ret (results_none rfl _ _ _) rfl ?_
    exact ⟨rfl, by unfold Wst.num; rw [if_pos (.inl h0)]; exact hM⟩
  · by_cases h1 : n > 4611686018427387904
    · go_enter Tryd.func21, Tryd.ntmps21
      go_wp2_with fail
      refine (fails_any b 30 (by decide) s S _ H.out).mono ?_
      rintro e w1 ⟨rfl, hM⟩
      have HM := Lib.hid hM
      clear hM
      go_wp2_with fail
      refine bodyPost_ret (results_none rfl _ _ _) rfl ?_
      exact ⟨rfl, by unfold Wst.num; rw [if_pos (.inr h1)]; exact HM.out⟩
    · obtain ⟨m, rfl⟩ := Int.eq_ofNat_of_zero_le (show 0 ≤ n by omega)
      have hnum : s.num (m : Int) = s.lay (rowL m) := by unfold Wst.num; rw [if_neg (by omega), Int.toNat_natCast]
      have HN := Lib.hid hnum
      clear hnum
      have hl := rowL_len m (by omega)
      have hp := rowL_pos m
      go_enter Tryd.func21, Tryd.ntmps21
      go_wp2_with fail
      refine (rowInt_any m (by omega) _).mono ?_
      rintro e w1 ⟨g, cap, rfl, hown, hbl⟩
      have HO := Lib.hid hown
      have HB := Lib.hid hbl
      clear hown hbl
      go_wp2_with fail
      refine (lay_any b g cap (rowL m) _ hp s S _ (H.out.below HB.out) (own_base HO.out) hm hok (by simp only [ByteArray.size]; simp; omega)).mono ?_
      rintro e w2 ⟨rfl, hM⟩
      have HM := Lib.hid hM
      clear hM
      go_wp2_with fail
      go_end0
      refine ⟨rfl, ?_⟩
      rw [HN.out]
      have := Moves.from_below HB.out HM.out
      simpa using this
end Go.Proofs.YtmijkaejdgmplaaDoor.co
