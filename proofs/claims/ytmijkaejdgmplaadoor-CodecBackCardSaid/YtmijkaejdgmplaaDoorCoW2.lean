/- Further calls of package codec's Writer: Text, Done, NewWriter. Conditions: as in the calls before. -/
import Derived.Test.YtmijkaejdgmplaaDoorCoW
import Derived.Test.YtmijkaejdgmplaaDoorCoR2
namespace Go.Proofs.YtmijkaejdgmplaaDoor.co
open Go.ChangeShapes Go.WideShapes Go.ChangeAt Go.RowKit

set_option maxHeartbeats 1000000 in
theorem Text_any (b : Nat) (x : ByteArray) (s : Wst) (S : List Nat) (w : World) (hx : x.size ≤ 9223372036854775807) (h : IsW w b s S) (hm : s.most ≤ 9223372036854775807) (hok : s.ok) (hb : s.out.length + 9 + x.size ≤ 140737488355328) :
    Calls Tryd.prog 19 #[.pointer (some ⟨b, 0, none⟩), .string x] w fun ev w' => ev = .returned (.tuple #[]) ∧ Moves S w w' (IsW w' b (s.text x.data.toList)) := by
  have H := Lib.hid h
  have hxl : x.data.toList.length = x.size := by simp
  clear h
  by_cases h0 : x.size > 65535
  · have ht : s.text x.data.toList = s.fails 31 := by unfold Wst.text; rw [if_pos (by omega)]
    have HT := Lib.hid ht
    clear ht hxl
    go_enter Tryd.func19, Tryd.ntmps19
    go_wp2_with fail
    refine (fails_any b 31 (by decide) s S _ H.out).mono ?_
    rintro e w1 ⟨rfl, hM⟩
    have HM := Lib.hid hM
    clear hM
    go_wp2_with fail
    refine bodyPost_ret (results_none rfl _ _ _) rfl ?_
    exact ⟨rfl, by rw [HT.out]; exact HM.out⟩
  · have ht : s.text x.data.toList = s.lay (rowL x.size ++ x.data.toList) := by unfold Wst.text; rw [if_neg (by omega), hxl]
    have HT := Lib.hid ht
    clear ht hxl
    have hl := rowL_len x.size (by omega)
    have hp := rowL_pos x.size
    go_enter Tryd.func19, Tryd.ntmps19
    go_wp2_with fail
    refine (rowU16_any x.size (by omega) _).mono ?_
    rintro e w1 ⟨g, cap, rfl, hown, hbl⟩
    have HO := Lib.hid hown
    have HB := Lib.hid hbl
    clear hown hbl
    go_wp2_with fail
    refine (lay_any b g cap (rowL x.size) x hp s S _ (H.out.below HB.out) (own_base HO.out) hm hok (by omega)).mono ?_
    rintro e w2 ⟨rfl, hM⟩
    have HM := Lib.hid hM
    clear hM
    go_wp2_with fail
    go_end0
    refine ⟨rfl, ?_⟩
    rw [HT.out]
    exact Moves.from_below HB.out HM.out

set_option maxHeartbeats 1000000 in
theorem Done_any (b : Nat) (s : Wst) (S : List Nat) (w : World) (hg : Reg w) (h : IsW w b s S) :
    Calls Tryd.prog 23 #[.pointer (some ⟨b, 0, none⟩)] w fun ev w' => ev = .returned (.tuple #[.string ⟨s.done.1.toArray⟩, .int .i64 s.done.2]) ∧ Below w.heap.size w w' := by
  obtain ⟨v, er, h1, h2, h3, h4⟩ := h.at_
  have hc0 := cell_in (o := 0) h1
  have hc2 := cell_in (o := 2) h1
  simp only [List.getElem?_toArray, List.getElem?_cons_succ, List.getElem?_cons_zero] at hc0 hc2
  have H2 := Lib.hid h2
  have H3 := Lib.hid h3
  have Hg := Lib.hid hg
  clear h h1 h2 h3 h4 hg
  by_cases h0 : s.err = 0
  · obtain rfl : er = .nilIface := by
      rcases H3.out with ⟨_, h⟩ | ⟨h, _⟩
      · exact h
      · exact absurd h0 h
    have hd : s.done = (s.out, 0) := by unfold Wst.done; rw [if_pos h0]
    rw [hd]
    clear h0 hd
    go_enter Tryd.func23, Tryd.ntmps23
    go_wp2_with (refine wpList_string_of_own rfl 62 9 5 (.tmp 17) rfl 0 _ _ _ (by rfl) H2.out Tryd.underlying62 Tryd.underlying5 Tryd.underlying9 ?_)
    go_ret2
    exact ⟨rfl, Below.refl _ _⟩
  · obtain ⟨p, hp1, hp2, _⟩ : ∃ p, er = .iface 77 (.pointer (some ⟨p, 0, none⟩)) ∧ _ ∧ _ := by
      rcases H3.out with ⟨h, _⟩ | ⟨_, h⟩
      · exact absurd h h0
      · exact h
    subst hp1
    have hd : s.done = ([], s.err) := by unfold Wst.done; rw [if_neg h0]
    rw [hd]
    have Hp := Lib.hid (cell_of_one hp2)
    clear h0 hd hp2
    go_enter Tryd.func23, Tryd.ntmps23
    go_wp2_with fail
    refine (told_any p s.err _ Hg.out Hp.out).mono ?_
    rintro e w1 ⟨rfl, hb⟩
    have HB := Lib.hid hb
    clear hb
    go_wp2_with fail
    go_ret2
    exact ⟨rfl, HB.out⟩

theorem isW_new (w : World) (m : Nat) : IsW (w.alloc (.cells #[.slice none 0 0, .int .i64 (m : Int), .nilIface] 66)) w.heap.size ⟨[], m, 0⟩ [w.heap.size] :=
  ⟨⟨_, _, heap_alloc_new w _, World.ownsRow_nil _ _ _ _, .inl ⟨rfl, rfl⟩, fun g hg => by cases hg⟩, by simp, by simp⟩

theorem NewWriter_any (n : Int) (w : World) : Calls Tryd.prog 13 #[.int .i64 n] w fun ev w' => ev = .returned (.pointer (some ⟨w.heap.size, 0, none⟩)) ∧ IsW w' w.heap.size ⟨[], n.toNat, 0⟩ [w.heap.size] ∧ Below w.heap.size w w' := by
  by_cases h : n ≤ 0
  · have h0 : n.toNat = 0 := by omega
    have H0 := Lib.hid h0
    clear h0
    go_enter Tryd.func13, Tryd.ntmps13
    go_wp2_with fail
    go_ret
    exact ⟨rfl, by rw [H0.out]; exact isW_new w 0, (Below.refl _ _).alloc (Nat.le_refl _) _⟩
  · obtain ⟨m, rfl⟩ := Int.eq_ofNat_of_zero_le (show 0 ≤ n by omega)
    go_enter Tryd.func13, Tryd.ntmps13
    go_wp2_with fail
    go_ret
    exact ⟨rfl, isW_new w m, (Below.refl _ _).alloc (Nat.le_refl _) _⟩
end Go.Proofs.YtmijkaejdgmplaaDoor.co
