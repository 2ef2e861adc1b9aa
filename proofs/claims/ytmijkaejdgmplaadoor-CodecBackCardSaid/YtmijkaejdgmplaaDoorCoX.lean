/- The calls of the document's Writer (tinderboxref03). Conditions: the Writer reads as a plain state; the bytes laid down stay under 2^47. -/
import Derived.Test.YtmijkaejdgmplaaDoorCoW2
namespace Go.Proofs.YtmijkaejdgmplaaDoor.co
open Go.ChangeShapes Go.WideShapes Go.ChangeAt Go.RowKit

theorem IsX.drewN {w : World} {b : Nat} {s : Wst} {S : List Nat} (h : IsX w b s S) (n : Nat) : IsX (w.drewN n) b s S := h.kept (T := []) ((Upd.refl _ _).drewN n) (by intro k _; simp)
/-- Behind an error's being laid down. -/
theorem IsX.fail {w : World} {b : Nat} {s : Wst} {S : List Nat} (h : IsX w b s S) (h0 : s.err = 0) (e : Int) :
    Moves S w (w.setCell ⟨b, 2, none⟩ (.int .i64 e)) (IsX (w.setCell ⟨b, 2, none⟩ (.int .i64 e)) b (s.fails e)) := by
  obtain ⟨v, h1, h2, h4⟩ := h.at_
  refine ⟨S, ?_, (Upd.refl _ _).setCell (.inl h.mem) _, fun k hk => .inl hk⟩
  unfold Wst.fails
  rw [if_pos h0]
  refine ⟨⟨v, ?_, ?_, h4⟩, h.mem, fun k hk => ?_⟩
  · have := heap_set (o := 2) h1 (.int .i64 e)
    simpa using this
  · refine ownsRow_setCell_other h2 ?_ _
    intro hg
    obtain ⟨cs, hcs⟩ := own_type h2 hg
    exact ne_of_types hcs h1 (by decide) rfl
  · simp only [World.size_setCell]
    exact h.lt k hk
/-- Behind bytes' being laid down. -/
theorem IsX.laid {w w1 : World} {b : Nat} {s : Wst} {S : List Nat} {v v' : Value} {l : List UInt8} (h : IsX w b s S) (h0 : s.err = 0) (hr : s.out.length + l.length ≤ s.most)
    (h1 : w.heap[b]? = some (.cells #[.int .i64 s.most, v, .int .i64 s.err] 68 (0, 0)))
    (hown : w1.ownsRow 0 5 1 v' (s.out.length + l.length) (bv (s.out ++ l))) (hu : Upd S w w1) (hw : w1.heap[b]? = w.heap[b]?) (hat : ∀ g, v'.ownBlock = some g → g ∈ S ∨ w.heap.size ≤ g) :
    Moves S w (w1.setCell ⟨b, 1, none⟩ v') (IsX (w1.setCell ⟨b, 1, none⟩ v') b (s.lay l)) := by
  rw [h1] at hw
  have hne : v'.ownBlock ≠ some b := by
    intro hg
    obtain ⟨cs, hcs⟩ := own_type hown hg
    exact ne_of_types hcs hw (by decide) rfl
  have hlay : s.lay l = { s with out := s.out ++ l } := by unfold Wst.lay; rw [if_pos h0, if_neg (by omega)]
  have hS : ∀ k ∈ S, k < w1.heap.size := fun k hk => Nat.lt_of_lt_of_le (h.lt k hk) hu.size
  refine ⟨S ++ v'.ownBlock.toList, ?_, hu.setCell (.inl h.mem) _, fun k hk => ?_⟩
  · rw [hlay]
    refine ⟨⟨v', ?_, ?_, fun g hg => by simp [hg]⟩, by simp [h.mem], fun k hk => ?_⟩
    · have := heap_set (o := 1) hw v'
      simpa using this
    · have := ownsRow_setCell_other (a := ⟨b, 1, none⟩) hown hne v'
      simpa using this
    · simp only [World.size_setCell]
      simp only [List.mem_append, Option.mem_toList] at hk
      rcases hk with hk | hk
      · exact hS k hk
      · obtain ⟨cs, hcs⟩ := own_type hown hk
        exact lt_of_block hcs
  · simp only [List.mem_append, Option.mem_toList] at hk
    rcases hk with hk | hk
    · exact .inl hk
    · exact hat k hk

set_option maxHeartbeats 4000000 in
set_option maxRecDepth 100000 in
theorem xlay_any (b : Nat) (x : ByteArray) (s : Wst) (S : List Nat) (w : World) (h : IsX w b s S)
    (hm : s.most ≤ 9223372036854775807) (hok : s.ok) (hb : s.out.length + x.size ≤ 140737488355328) :
    Calls Tryd.prog 60 #[.pointer (some ⟨b, 0, none⟩), .string x] w fun ev w' => ev = .returned (.tuple #[]) ∧ Moves S w w' (IsX w' b (s.lay x.data.toList)) := by
  obtain ⟨i0, hi, hz0, hz1, hz2⟩ := info_parts infoByte
  obtain ⟨v, h1, h2, h4⟩ := h.at_
  have hlt := lt_of_block h1
  have hc0 := cell_in (o := 0) h1
  have hc1 := cell_in (o := 1) h1
  have hc2 := cell_in (o := 2) h1
  have hf1 := free_in (o := 1) h1
  have hf2 := free_in (o := 2) h1
  simp only [List.getElem?_toArray, List.getElem?_cons_succ, List.getElem?_cons_zero] at hc0 hc1 hc2
  have H := Lib.hid h
  have H1 := Lib.hid h1
  have H2 := Lib.hid h2
  have H4 := Lib.hid h4
  have hxl : x.data.toList.length = x.size := by simp
  have HX := Lib.hid hxl
  clear h h1 h2 h4 hxl
  unfold Wst.ok at hok
  obtain ⟨pp, cc, hv⟩ := own_slice H2.out
  subst hv
  by_cases h0 : s.err = 0
  · have H0 := Lib.hid h0
    rw [h0] at hc2
    clear h0
    by_cases hfit : s.out.length + x.size ≤ s.most
    · have Hlay : Hid (s.out.length + x.data.toList.length ≤ s.most) := Lib.hid (by rw [HX.out]; omega)
      go_enter Tryd.func60, Tryd.ntmps60
      go_wp2_with fail
      go_quiet (fail)
      go_wp2_with (at_builtin; go_must (refine wpList_append_str rfl (.tmp 29) (.tmp 30) 62 9 rfl 0 5 i0 Tryd.underlying62 Tryd.underlying9 hi hz0 hz1 hz2 _ s.out.length _ (by rfl) H2.out x (by rfl) (by unfold maxLen; omega) (by omega) (by omega) ?_))
      intro v2 w2 hown2 hgrow hat
      have HU2 := Lib.hid (Upd.grown ((Upd.refl S w).drewN nq) hgrow fun k hk => .inl (H4.out k hk))
      have Hat2 : Hid (∀ k, v2.ownBlock = some k → k ∈ S ∨ w.heap.size ≤ k) := Lib.hid (fun k hk => by
        rcases hat with h | h
        · rw [h] at hk
          exact .inl (H4.out k hk)
        · rw [h] at hk
          simp only [Option.some.injEq] at hk
          subst hk
          exact .inr (Nat.le_refl _))
      have Hb2 : Hid (w2.heap[b]? = w.heap[b]?) := Lib.hid (hgrow.block b hlt (by
        intro hg
        obtain ⟨cs, hcs⟩ := own_type H2.out hg.symm
        exact ne_of_types hcs H1.out (by decide) rfl))
      have HO2 : Hid (w2.ownsRow 0 5 1 v2 (s.out.length + x.data.toList.length) (bv (s.out ++ x.data.toList))) := Lib.hid (by
        have := hown2
        rw [HX.out, bv_append]
        exact this)
      have hB := Hb2.out.trans H1.out
      have hc3 := cell_in (o := 1) hB
      have hf3 := free_in (o := 1) hB
      simp only [List.getElem?_toArray, List.getElem?_cons_succ, List.getElem?_cons_zero] at hc3
      clear hown2 hgrow hat hB hc0 hc1 hc2
      obtain ⟨p2, c2, hv2⟩ := own_slice HO2.out
      subst hv2
      generalize hN : s.out.length + x.data.toList.length = N at HO2 Hat2
      have HN := Lib.hid hN
      clear hN
      go_wp2_with fail
      go_end0
      exact ⟨rfl, H.out.laid H0.out Hlay.out H1.out (by rw [HN.out]; exact HO2.out) HU2.out Hb2.out Hat2.out⟩
    · have hlay : s.lay x.data.toList = s.fails 31 := by
        unfold Wst.lay Wst.fails; rw [if_pos H0.out, if_pos H0.out, if_pos (by rw [HX.out]; omega)]
      have HL := Lib.hid hlay
      clear hlay
      go_enter Tryd.func60, Tryd.ntmps60
      go_wp2_with fail
      go_quiet (fail)
      go_wp2_with fail
      refine bodyPost_ret (results_none rfl _ _ _) rfl ?_
      exact ⟨rfl, by rw [HL.out]; exact Moves.drewN ((H.out.drewN nq).fail H0.out 31)⟩
  · have H0 := Lib.hid h0
    have he' : (s.err == 0) = false := by simpa using h0
    clear h0
    go_enter Tryd.func60, Tryd.ntmps60
    go_wp2_with fail
    refine bodyPost_ret (results_none rfl _ _ _) rfl ?_
    refine ⟨rfl, Moves.same ?_⟩
    unfold Wst.lay
    rw [if_neg H0.out]
    exact H.out

theorem fails_eq {s : Wst} (h : s.err ≠ 0) (e : Int) : s.fails e = s := by unfold Wst.fails; rw [if_neg h]

set_option maxHeartbeats 1000000 in
theorem xNum_any (b : Nat) (n : Int) (s : Wst) (S : List Nat) (w : World) (h : IsX w b s S) (hm : s.most ≤ 9223372036854775807) (hok : s.ok) (hb : s.out.length + 9 ≤ 140737488355328) :
    Calls Tryd.prog 46 #[.pointer (some ⟨b, 0, none⟩), .int .i64 n] w fun ev w' => ev = .returned (.tuple #[]) ∧ Moves S w w' (IsX w' b (s.num n)) := by
  obtain ⟨v, h1, h2, h4⟩ := h.at_
  have hc2 := cell_in (o := 2) h1
  have hf2 := free_in (o := 2) h1
  simp only [List.getElem?_toArray, List.getElem?_cons_succ, List.getElem?_cons_zero] at hc2
  have H := Lib.hid h
  clear h h1 h2 h4
  by_cases hbad : n < 0 ∨ n > 4611686018427387904
  · have hnum : s.num n = s.fails 30 := by unfold Wst.num; rw [if_pos hbad]
    have HN := Lib.hid hnum
    clear hnum
    by_cases h0 : s.err = 0
    · have H0 := Lib.hid h0
      rw [h0] at hc2
      clear h0
      rcases hbad with hbad | hbad
      · have hbad' : decide (n < 0) = true := by simpa using hbad
        go_enter Tryd.func46, Tryd.ntmps46
        go_wp2_with fail
        refine bodyPost_ret (results_none rfl _ _ _) rfl ?_
        exact ⟨rfl, by rw [HN.out]; exact H.out.fail H0.out 30⟩
      · go_enter Tryd.func46, Tryd.ntmps46
        go_wp2_with fail
        refine bodyPost_ret (results_none rfl _ _ _) rfl ?_
        exact ⟨rfl, by rw [HN.out]; exact H.out.fail H0.out 30⟩
    · have he' : (s.err == 0) = false := by simpa using h0
      have HF := Lib.hid (fails_eq h0 30)
      clear h0
      rcases hbad with hbad | hbad
      · have hbad' : decide (n < 0) = true := by simpa using hbad
        go_enter Tryd.func46, Tryd.ntmps46
        go_wp2_with fail
        refine bodyPost_ret (results_none rfl _ _ _) rfl ?_
        exact ⟨rfl, by rw [HN.out, HF.out]; exact Moves.same H.out⟩
      · go_enter Tryd.func46, Tryd.ntmps46
        go_wp2_with fail
        refine bodyPost_ret (results_none rfl _ _ _) rfl ?_
        exact ⟨rfl, by rw [HN.out, HF.out]; exact Moves.same H.out⟩
  · obtain ⟨m, rfl⟩ := Int.eq_ofNat_of_zero_le (show 0 ≤ n by omega)
    have hnum : s.num (m : Int) = s.lay (rowL m) := by unfold Wst.num; rw [if_neg (by omega), Int.toNat_natCast]
    have HN := Lib.hid hnum
    have hl := rowL_len m (by omega)
    have hm1 : (m : Int) ≤ 4611686018427387904 := by omega
    clear hnum hbad hc2 hf2
    go_enter Tryd.func46, Tryd.ntmps46
    go_wp2_with fail
    refine (refRow_any m (by omega) _).mono ?_
    rintro e w1 ⟨rfl, hbl⟩
    have HB := Lib.hid hbl
    clear hbl
    go_wp2_with fail
    refine (xlay_any b _ s S _ (H.out.below HB.out) hm hok (by simp [ByteArray.size]; omega)).mono ?_
    rintro e w2 ⟨rfl, hM⟩
    have HM := Lib.hid hM
    clear hM
    go_wp2_with fail
    go_end0
    refine ⟨rfl, ?_⟩
    rw [HN.out]
    exact Moves.from_below HB.out HM.out

set_option maxHeartbeats 1000000 in
theorem xText_any (b : Nat) (x : ByteArray) (s : Wst) (S : List Nat) (w : World) (hx : x.size ≤ 9223372036854775807) (h : IsX w b s S) (hm : s.most ≤ 9223372036854775807) (hok : s.ok) (hb : s.out.length + 9 + x.size ≤ 140737488355328) :
    Calls Tryd.prog 47 #[.pointer (some ⟨b, 0, none⟩), .string x] w fun ev w' => ev = .returned (.tuple #[]) ∧ Moves S w w' (IsX w' b (s.text x.data.toList)) := by
  obtain ⟨v, h1, h2, h4⟩ := h.at_
  have hc2 := cell_in (o := 2) h1
  have hf2 := free_in (o := 2) h1
  simp only [List.getElem?_toArray, List.getElem?_cons_succ, List.getElem?_cons_zero] at hc2
  have H := Lib.hid h
  have hxl : x.data.toList.length = x.size := by simp
  clear h h1 h2 h4
  by_cases hbad : x.size > 65535
  · have ht : s.text x.data.toList = s.fails 31 := by unfold Wst.text; rw [if_pos (by omega)]
    have HN := Lib.hid ht
    clear ht hxl
    by_cases h0 : s.err = 0
    · have H0 := Lib.hid h0
      rw [h0] at hc2
      clear h0
      go_enter Tryd.func47, Tryd.ntmps47
      go_wp2_with fail
      refine bodyPost_ret (results_none rfl _ _ _) rfl ?_
      exact ⟨rfl, by rw [HN.out]; exact H.out.fail H0.out 31⟩
    · have he' : (s.err == 0) = false := by simpa using h0
      have HF := Lib.hid (fails_eq h0 31)
      clear h0
      go_enter Tryd.func47, Tryd.ntmps47
      go_wp2_with fail
      refine bodyPost_ret (results_none rfl _ _ _) rfl ?_
      exact ⟨rfl, by rw [HN.out, HF.out]; exact Moves.same H.out⟩
  · have ht : s.text x.data.toList = s.lay (rowL x.size ++ x.data.toList) := by unfold Wst.text; rw [if_neg (by omega), hxl]
    have HN := Lib.hid ht
    have hl := rowL_len x.size (by omega)
    have hsz : ((⟨(rowL x.size).toArray⟩ : ByteArray) ++ x).size = (rowL x.size).length + x.size := by rw [ByteArray.size_append]; rfl
    have HS := Lib.hid hsz
    clear ht hxl hc2 hf2 hsz
    go_enter Tryd.func47, Tryd.ntmps47
    go_wp2_with fail
    refine (refRow_any x.size (by omega) _).mono ?_
    rintro e w1 ⟨rfl, hbl⟩
    have HB := Lib.hid hbl
    clear hbl
    go_wp2_with fail
    refine (xlay_any b _ s S _ (H.out.below HB.out) hm hok (by rw [HS.out]; omega)).mono ?_
    rintro e w2 ⟨rfl, hM⟩
    have HM := Lib.hid hM
    clear hM
    go_wp2_with fail
    go_end0
    refine ⟨rfl, ?_⟩
    rw [HN.out]
    have hd : ((⟨(rowL x.size).toArray⟩ : ByteArray) ++ x).data.toList = rowL x.size ++ x.data.toList := by rw [ByteArray.data_append]; simp
    rw [← hd]
    exact Moves.from_below HB.out HM.out

set_option maxHeartbeats 1000000 in
theorem xDone_any (b : Nat) (s : Wst) (S : List Nat) (w : World) (h : IsX w b s S) :
    Calls Tryd.prog 48 #[.pointer (some ⟨b, 0, none⟩)] w fun ev w' => ev = .returned (.tuple #[.string ⟨s.done.1.toArray⟩, .int .i64 s.done.2]) ∧ Below w.heap.size w w' := by
  obtain ⟨v, h1, h2, h4⟩ := h.at_
  have hc1 := cell_in (o := 1) h1
  have hc2 := cell_in (o := 2) h1
  simp only [List.getElem?_toArray, List.getElem?_cons_succ, List.getElem?_cons_zero] at hc1 hc2
  have H2 := Lib.hid h2
  clear h h1 h2 h4
  by_cases h0 : s.err = 0
  · have hd : s.done = (s.out, 0) := by unfold Wst.done; rw [if_pos h0]
    rw [hd]
    rw [h0] at hc2
    clear h0 hd
    go_enter Tryd.func48, Tryd.ntmps48
    go_wp2_with (refine wpList_string_of_own rfl 62 9 5 (.tmp 16) rfl 0 _ _ _ (by rfl) H2.out Tryd.underlying62 Tryd.underlying5 Tryd.underlying9 ?_)
    go_ret2
    exact ⟨rfl, Below.refl _ _⟩
  · have hd : s.done = ([], s.err) := by unfold Wst.done; rw [if_neg h0]
    rw [hd]
    have he' : (s.err == 0) = false := by simpa using h0
    clear h0 hd
    go_enter Tryd.func48, Tryd.ntmps48
    go_wp2_with fail
    go_quiet (fail)
    go_wp2_with fail
    go_ret2
    exact ⟨rfl, rfl, rfl, rfl, Nat.le_refl _, fun _ _ => rfl⟩

theorem isX_new (w : World) (m : Nat) : IsX (w.alloc (.cells #[.int .i64 (m : Int), .slice none 0 0, .int .i64 0] 68)) w.heap.size ⟨[], m, 0⟩ [w.heap.size] :=
  ⟨⟨_, heap_alloc_new w _, World.ownsRow_nil _ _ _ _, fun g hg => by cases hg⟩, by simp, by simp⟩

theorem xNewWriter_any (n : Int) (w : World) : Calls Tryd.prog 14 #[.int .i64 n] w fun ev w' => ev = .returned (.pointer (some ⟨w.heap.size, 0, none⟩)) ∧ IsX w' w.heap.size ⟨[], n.toNat, 0⟩ [w.heap.size] ∧ Below w.heap.size w w' := by
  by_cases h : n < 0
  · have h0 : n.toNat = 0 := by omega
    have H0 := Lib.hid h0
    clear h0
    go_enter Tryd.func14, Tryd.ntmps14
    go_wp2_with fail
    go_ret
    exact ⟨rfl, by rw [H0.out]; exact isX_new w 0, (Below.refl _ _).alloc (Nat.le_refl _) _⟩
  · obtain ⟨m, rfl⟩ := Int.eq_ofNat_of_zero_le (show 0 ≤ n by omega)
    go_enter Tryd.func14, Tryd.ntmps14
    go_wp2_with fail
    go_ret
    exact ⟨rfl, isX_new w m, (Below.refl _ _).alloc (Nat.le_refl _) _⟩
end Go.Proofs.YtmijkaejdgmplaaDoor.co
