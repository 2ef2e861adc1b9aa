/- value.cut returns the plain function. Conditions: the listed variables hold what the program's text lays; the text is no longer than 2147483647 bytes. -/
import Derived.Test.YtpfhhaonfbfheaaGreatDoorVaD
import Derived.Deep.RegionHeld3
namespace Go.Proofs.YtpfhhaonfbfheaaGreatDoor.va
open Go.ChangeShapes Go.WideShapes Go.ChangeAt Go.RowKit gl

theorem digs_48 {s : ByteArray} (h : s.data.toList = [48]) : s.data.toList.take (digs s.data.toList) = s.data.toList := by rw [h]; rfl
theorem take_ba (s : ByteArray) (k : Nat) : (s.extract 0 k).data.toList = s.data.toList.take k := by rw [Lib.extract_data]; simp
theorem drop_ba (s : ByteArray) (k : Nat) : (s.extract k s.size).data.toList = s.data.toList.drop k := by rw [Lib.extract_data]; rw [List.take_of_length_le (by simp)]
theorem cut_pred (w : World) : PredAt Tryz.prog 145 #[] encR (fun r => decide (r < 48 ∨ 57 < r)) w := fun W r _ => (cutp_any r W).mono fun _ _ ⟨he, hw⟩ => ⟨he, 0, hw⟩
theorem idx_cut (s : ByteArray) (w : World) : Calls Tryz.prog 144 #[.string s, .func (.func 145) #[] #[]] w fun e w' => e = .returned (.int .i64 (if digs s.data.toList = s.size then -1 else (digs s.data.toList : Int))) ∧ Below w.heap.size w w' := by
  refine (Tryz.strings_IndexFunc 145 #[] (enters_of Tryz.func145 (by kernel_rfl) rfl) _ s w (cut_pred w)).mono ?_
  rintro e w' ⟨rfl, hb⟩
  refine ⟨?_, hb⟩
  unfold Lib.idxFunc
  rw [idx_digs s s.size 0 (by omega) (by omega) (fun j b h => by omega)]

theorem sb_drew {w1 wp : World} (h : Hid (Below w1.heap.size w1 wp)) : Hid (Below w1.heap.size w1 wp.drew) := Lib.hid h.out.drew
theorem sb_call {w1 wp w' : World} (h : Hid (Below w1.heap.size w1 wp)) (hb : Below wp.heap.size wp w') : Hid (Below w1.heap.size w1 w') := Lib.hid (h.out.trans (hb.mono h.out.size))
theorem sb_vlo {w1 wp : World} (hV : Vlo w1) (h : Hid (Below w1.heap.size w1 wp)) : Vlo wp := hV.below h.out (Nat.le_refl _)

set_option maxHeartbeats 400000 in
set_option maxRecDepth 100000 in
theorem cut_any (k : Int) (s : ByteArray) (_hs : s.size ≤ 2147483647) (w : World) (hV : Vlo w) :
    Calls Tryz.prog 114 #[.int .i64 k, .string s] w fun e w' => (∃ t : ByteArray, t.data.toList = s.data.toList.take (digs s.data.toList) ∧ e = .returned (.tuple #[.string t, .int .i64 (tail k s.data.toList)])) ∧ Below w.heap.size w w' := by
  have HV := Lib.hid hV
  clear hV
  have hdl : digs s.data.toList ≤ s.size := by have := digs_le s.data.toList; simpa using this
  have H48 : Hid (k = 4 → s.data.toList = [48] → tail k s.data.toList = 1) := Lib.hid (fun h h2 => by unfold tail; rw [if_pos ⟨h, h2⟩])
  have Hel : Hid (¬ (k = 4 ∧ s.data.toList = [48]) → tail k s.data.toList = unit k (s.data.toList.drop (digs s.data.toList))) := Lib.hid (fun h => by unfold tail; rw [if_neg h])
  have hidx := idx_cut s w
  have Ht := Lib.hid (take_ba s (digs s.data.toList))
  have Hd := Lib.hid (drop_ba s (digs s.data.toList))
  have H4 := Lib.hid (@digs_48 s)
  generalize digs s.data.toList = d at *
  generalize tail k s.data.toList = m at *
  have hU := fun (W : World) (hb : Vlo W) => Unit_any k (s.extract d s.size) W hb.units
  have HU := Lib.hid hU
  clear hU
  by_cases hk : k = 4 ∧ s.data.toList = [48]
  · obtain ⟨rfl, h48⟩ := hk
    have hlit : (s.toList == [48]) = true := seq_lit h48
    have Hr : Hid (s.data.toList = s.data.toList.take d) := Lib.hid (H4.out h48).symm
    have Hm : Hid (m = 1) := Lib.hid (H48.out rfl h48)
    clear h48
    by_cases hds : d = s.size
    · rw [if_pos hds] at hidx
      go_enter Tryz.func114, Tryz.ntmps114
      go_wp2_with fail
      refine hidx.mono ?_
      rintro e w1 ⟨rfl, hb1⟩
      go_wp2_with fail
      go_ret2
      exact ⟨⟨s, Hr.out, by rw [Hm.out]; rfl⟩, hb1⟩
    · rw [if_neg hds] at hidx
      go_enter Tryz.func114, Tryz.ntmps114
      go_wp2_with fail
      refine hidx.mono ?_
      rintro e w1 ⟨rfl, hb1⟩
      go_wp2_with fail
      go_ret2
      exact ⟨⟨s, Hr.out, by rw [Hm.out]; rfl⟩, hb1⟩
  · have Hm : Hid (m = unit k (s.data.toList.drop d)) := Lib.hid (Hel.out hk)
    have htest : (k == 4) = false ∨ ((k == 4) = true ∧ (s.toList == [48]) = false) := by
      by_cases h4 : k = 4
      · exact .inr ⟨by simp [h4], seq_nlit fun e => hk ⟨h4, e⟩⟩
      · exact .inl (by simp [h4])
    clear hk
    have go : ∀ (i : Int) (hi : i = (d : Int)), True := fun _ _ => trivial
    clear go
    have hidx2 : Calls Tryz.prog 144 #[.string s, .func (.func 145) #[] #[]] w fun e w' => (∃ i : Int, e = .returned (.int .i64 i) ∧ ((i = -1 ∧ d = s.size) ∨ (i = (d : Int)))) ∧ Below w.heap.size w w' := hidx.mono (by
      rintro e w' ⟨rfl, hb⟩
      refine ⟨⟨_, rfl, ?_⟩, hb⟩
      split
      · exact .inl ⟨rfl, by assumption⟩
      · exact .inr rfl)
    clear hidx
    rcases htest with h4 | ⟨h4, h5⟩
    all_goals
      go_enter Tryz.func114, Tryz.ntmps114
      go_wp2_with fail
      refine hidx2.mono ?_
      rintro e w1 ⟨⟨i, rfl, hi⟩, hb1⟩
      have HB1 := Lib.hid hb1
      have HV1 := Lib.hid (HV.out.below hb1 (Nat.le_refl _))
      clear hb1 hidx2
      rcases hi with ⟨rfl, hd⟩ | rfl
      · have Ht2 : Hid (s.data.toList = s.data.toList.take d) := Lib.hid (by rw [hd, List.take_of_length_le (by simp)])
        have HUd : Hid (∀ W, Vlo W → Calls Tryz.prog 146 #[.int .i64 k, .string ByteArray.empty] W fun e w' => e = .returned (.int .i64 m) ∧ Below W.heap.size W w') := Lib.hid fun W hW => (Unit_any k ByteArray.empty W hW.units).mono fun e w' ⟨he, hb⟩ => ⟨by rw [he, Hm.out, hd, List.drop_of_length_le (by simp)]; rfl, hb⟩
        clear hd
        go_wp2_with fail
        have hSt : Hid (Below w1.heap.size w1 w1) := Lib.hid (Below.refl _ _)
        go_region_held3 (fun w' => Hid (Below w1.heap.size w1 w'))
          (first | assumption | exact sb_drew (by assumption))
          (first | (go_at_call 146; refine (HUd.out _ (sb_vlo HV1.out (by assumption))).mono ?_; rintro e w' ⟨rfl, hb⟩; have hS' := sb_call (by assumption) hb; clear hb))
        all_goals
          rename_i hH
          go_wp2_with fail
          go_ret2
          exact ⟨⟨s, Ht2.out, rfl⟩, HB1.out.trans (hH.out.mono HB1.out.size)⟩
      · have HUd : Hid (∀ W, Vlo W → Calls Tryz.prog 146 #[.int .i64 k, .string (s.extract d s.size)] W fun e w' => e = .returned (.int .i64 m) ∧ Below W.heap.size W w') := Lib.hid fun W hW => (HU.out W hW).mono fun e w' ⟨he, hb⟩ => ⟨by rw [he, Hm.out, Hd.out], hb⟩
        go_wp2_with fail
        have hSt : Hid (Below w1.heap.size w1 w1) := Lib.hid (Below.refl _ _)
        go_region_held3 (fun w' => Hid (Below w1.heap.size w1 w'))
          (first | assumption | exact sb_drew (by assumption))
          (first | (go_at_call 146; refine (HUd.out _ (sb_vlo HV1.out (by assumption))).mono ?_; rintro e w' ⟨rfl, hb⟩; have hS' := sb_call (by assumption) hb; clear hb))
        all_goals
          rename_i hH
          go_wp2_with fail
          go_ret2
          exact ⟨⟨_, Ht.out, rfl⟩, HB1.out.trans (hH.out.mono HB1.out.size)⟩

end Go.Proofs.YtpfhhaonfbfheaaGreatDoor.va
