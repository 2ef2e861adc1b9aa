/- hook.sorted of the six services, hook.Standard, tinderboxlaw22.HookStands: walked. No conditions. -/
import Derived.Test.YtkbamhecbfocbaaHkU
namespace Go.Proofs.Ytkbamhecbfocbaa.hk
open Go.RowKit Go.Sort Go.Lib

theorem own_hook {w : World} {B n : Nat} {v : Value} {xs : List Value} (h : w.ownsRow B 29 2 v n xs) (hn : 0 < n) : ∃ g cap cs, v = .slice (some ⟨g, 0, none⟩) n cap ∧ B ≤ g ∧ n ≤ cap ∧ w.heap[g]? = some (.cells cs 29 (0, 0)) ∧ n * 2 ≤ cs.size ∧ cs.toList.take (n * 2) = xs := by
  rcases h.2 with ⟨_, h0⟩ | ⟨g, cap, cur, hv, hb, hg, hnc, _, hs, ht⟩
  · omega
  · exact ⟨g, cap, cur, hv, hb, hnc, hg, by omega, ht⟩

theorem clone_strs' (w : World) (n m : Nat) (l : List ByteArray) (hm : l.length = m) (hl : m ≤ 2) (h : w.heap[n]? = some (.cells (l.map Value.string).toArray 9 (0, 0))) :
    Calls Try.prog 20 #[.slice (some ⟨n, 0, none⟩) m m] w fun e w' => ∃ p c, e = .returned (.slice p m c) ∧ m ≤ c ∧ OwnStrs w' w.heap.size (.slice p m m) l ∧ Below w.heap.size w w' := by
  subst hm; exact clone_strs w n l hl h

set_option maxHeartbeats 2000000 in
set_option maxRecDepth 100000 in
theorem sorted_any (w : World) (v : Value) (base u l : Nat) (h : w.ownsRow base 29 2 v 6 (upX u ++ loX l)) (hs : Srcs w u l) :
    Calls Try.prog 10 #[v] w fun e w' => ∃ v', e = .returned v' ∧ OwnHooks w' w.heap.size v' stdL ∧ Below w.heap.size w w' := by
  have H := Lib.hid h
  have HS := Lib.hid hs
  clear h hs
  go_enter Try.func10, Try.ntmps10
  go_wp2_with fail
  refine (clone_hook _ v base _ H.out (fun x hx => (List.mem_append.1 hx).elim (upX_one u x) (loX_one l x))).mono ?_
  rintro e w1 ⟨v1, rfl, hown, hb⟩
  obtain ⟨g, cap, cs, rfl, hBg, hcap, hg, hcs, hct⟩ := own_hook hown (by omega)
  have HG := Lib.hid hg
  have HB1 := Lib.hid hb
  have HCT := Lib.hid hct
  have hsz1 := hb.size
  have hgl := lt_of_block hg
  clear hown hb hg hct
  go_wp2_with fail
  refine (clip_hook _ 6 cap hcap _).mono ?_
  rintro e w1' ⟨rfl, rfl⟩
  go_wp2_with fail
  refine (sort_any g 6 (d0 u l) w1 (row_holds HG.out HCT.out) hgl (by show 6 ≤ 12; omega)).mono ?_
  rintro e w2 ⟨rfl, n, os, hw2⟩
  rw [show (d0 u l).size = 6 from rfl, sorted_d] at hw2
  have HB2 : Hid (Below w.heap.size w w2) := Lib.hid (by rw [hw2]; exact HB1.out.trans (sorted_below hBg hsz1))
  have HP : Hid (Part w2 w.heap.size g u l 0) := Lib.hid (by rw [hw2]; exact part_start HG.out (by omega))
  clear hw2
  go_wp2_with fail
  go_loopw [12] (fun i wr => ∃ k : Nat, k ≤ 6 ∧ i = .int .i64 (k : Int) ∧ Hid (Part wr w.heap.size g u l k) ∧ Hid (Below w.heap.size w wr)) (fun i _ => (6 - intOf i).toNat)
  case atStart => exact ⟨0, by omega, rfl, HP, HB2⟩
  case round =>
    obtain ⟨k, hk, rfl, HPr, HBr⟩ := hrel
    by_cases hlt : k < 6
    · have hlt' : (k : Int) < 6 := by omega
      obtain ⟨x, hx⟩ : ∃ x, stdL[k]? = some x := ⟨_, List.getElem?_eq_getElem (show k < stdL.length from hlt)⟩
      have Hx := Lib.hid hx
      obtain ⟨cr, hcr, _, hall⟩ := HPr.out
      obtain ⟨_, _, hsrc⟩ := hall k x hx
      have hc : wr.cell? ⟨g, k * 2 + 1, none⟩ = some (srcV u l k) := (cell_in hcr).trans (hsrc (Nat.le_refl _))
      have hf : wr.frozen? ⟨g, k * 2 + 1, none⟩ = false := free_in hcr
      have hgr := lt_of_block hcr
      clear hx hcr hall hsrc
      rcases (HS.out.below (HBr.out)).at_ Hx.out with ⟨he, hnil⟩ | ⟨nb, he, hpos, hle, hblk⟩
      · rw [he] at hc
        have HN : Hid (OwnStrs wr w.heap.size (.slice none 0 0) x.needs) := Lib.hid (.inl ⟨rfl, hnil⟩)
        clear he hnil
        go_wp2_with fail
        refine (Try.slices_Clone_string_nil 0 0 _).mono ?_
        rintro e w3 ⟨rfl, rfl⟩
        go_wp2_with fail
        refine (clip_str none 0 0 (Nat.le_refl _) _).mono ?_
        rintro e w4 ⟨rfl, rfl⟩
        go_wp2_with fail
        go_roundw
        case rel => exact ⟨k + 1, by omega, by go_num, Lib.hid (HPr.out.set Hx.out HN.out), Lib.hid (HBr.out.setCell (by show w.heap.size ≤ g; omega) _)⟩
        case measure => simp [intOf]; omega
      · rw [he] at hc
        unfold sl at hc
        have HBK := Lib.hid hblk
        clear he hblk
        generalize hm : x.needs.length = m at *
        have Hm := Lib.hid hm
        clear hm
        go_wp2_with fail
        refine (clone_strs' wr nb m x.needs Hm.out hle HBK.out).mono ?_
        rintro e w3 ⟨p, c, rfl, hpc, hos, hb3⟩
        have HO3 := Lib.hid hos
        have HB3 := Lib.hid hb3
        have hc3 : w3.cell? ⟨g, k * 2 + 1, none⟩ = some (.slice (some ⟨nb, 0, none⟩) m m) := (hb3.cell (p := ⟨g, k * 2 + 1, none⟩) hgr).trans hc
        have hf3 : w3.frozen? ⟨g, k * 2 + 1, none⟩ = false := (hb3.frozen (p := ⟨g, k * 2 + 1, none⟩) hgr).trans hf
        clear hos hb3 hc hf
        go_wp2_with fail
        refine (clip_str p m c hpc _).mono ?_
        rintro e w4 ⟨rfl, rfl⟩
        go_wp2_with fail
        go_roundw
        case rel =>
          have hB3 := HBr.out.trans (HB3.out.mono HBr.out.size)
          refine ⟨k + 1, by omega, by go_num, Lib.hid ((HPr.out.below HB3.out).set Hx.out ?_), Lib.hid (hB3.setCell (by show w.heap.size ≤ g; omega) _)⟩
          rcases HO3.out with ⟨h1, h2⟩ | ⟨n3, c3, h1, h2, h3⟩
          · exact .inl ⟨h1, h2⟩
          · exact .inr ⟨n3, c3, h1, Nat.le_trans HBr.out.size h2, h3⟩
        case measure => simp [intOf]; omega
    · obtain rfl : k = 6 := by omega
      rw [show ((6 : Nat) : Int) = 6 from rfl]
      go_wp2_with fail
      go_ret
      exact ⟨_, rfl, Part.done (by omega) HPr.out, HBr.out⟩

theorem srcs_new (w : World) : Srcs (((loW (upW w)).alloc (.cells #[sl (w.heap.size + 3) 3, sl (w.heap.size + 4 + 2) 3] 23))) w.heap.size (w.heap.size + 4) := by
  refine ⟨?_, ?_, ?_, ?_, ?_⟩
  · exact heap_al (heap_al (heap_al (heap_al (heap_al (heap_al (heap_al (heap_alloc_new w _) _) _) _) _) _) _) _
  · exact heap_al (heap_al (heap_al (heap_al (heap_al (heap_al (new_at (by simp) _) _) _) _) _) _) _
  · exact heap_al (heap_al (heap_al (heap_al (heap_al (new_at (by simp) _) _) _) _) _) _
  · exact heap_al (heap_al (heap_al (new_at (by simp [upW]) _) _) _) _
  · exact heap_al (heap_al (new_at (by simp [upW]) _) _) _
theorem up_block (w : World) (o : Obj) : ((loW (upW w)).alloc o).heap[w.heap.size + 3]? = some (.cells (upX w.heap.size).toArray 29 (0, 0)) := by
  refine heap_al (heap_al (heap_al (heap_al ?_ _) _) _) _
  exact new_at (by simp) _
theorem lo_block (w : World) (o : Obj) : ((loW (upW w)).alloc o).heap[w.heap.size + 4 + 2]? = some (.cells (loX (w.heap.size + 4)).toArray 29 (0, 0)) := by
  have hz : (upW w).heap.size = w.heap.size + 4 := by simp [upW]
  refine heap_al ?_ _
  unfold loW
  rw [hz]
  exact new_at (by simp [hz]) _
theorem below_new (w : World) (o : Obj) : Below w.heap.size w ((loW (upW w)).alloc o) := by
  have h1 : Below w.heap.size w (upW w) := by
    unfold upW
    refine Below.alloc (Below.alloc (Below.alloc (below_al w _) ?_ _) ?_ _) ?_ _ <;> simp only [World.size_alloc] <;> omega
  have h2 : Below w.heap.size w (loW (upW w)) := by
    unfold loW
    have := h1.size
    refine Below.alloc (Below.alloc (Below.alloc h1 this _) ?_ _) ?_ _ <;> simp only [World.size_alloc] <;> omega
  exact h2.alloc h2.size _

set_option maxHeartbeats 1000000 in
set_option maxRecDepth 100000 in
theorem Standard_any (w : World) : Calls Try.prog 6 #[] w fun e w' => ∃ v, e = .returned v ∧ OwnHooks w' w.heap.size v stdL ∧ Below w.heap.size w w' := by
  have hs3 : (upW w).heap.size = w.heap.size + 4 := by simp [upW]
  have hs6 : (loW (upW w)).heap.size = w.heap.size + 7 := by simp [loW, hs3]
  have HS3 := Lib.hid hs3
  have HS6 := Lib.hid hs6
  clear hs3 hs6
  go_enter Try.func6, Try.ntmps6
  go_wp2_with fail
  refine (upper_any _).mono ?_
  rintro e w1 ⟨rfl, h1⟩
  have HW1 := Lib.hid h1
  have hz1 : w1.heap.size = w.heap.size + 4 := by rw [h1]; exact HS3.out
  have HZ1 := Lib.hid hz1
  clear h1 hz1
  go_wp2_with fail
  refine (lower_any _).mono ?_
  rintro e w2 ⟨rfl, h2⟩
  rw [HW1.out] at h2
  have HW2 := Lib.hid h2
  have hz2 : w2.heap.size = w.heap.size + 7 := by rw [h2]; exact HS6.out
  have HZ2 := Lib.hid hz2
  rw [HZ1.out]
  clear h2 hz2
  unfold sl
  go_wp2_with fail
  obtain ⟨w3, hw3⟩ : ∃ w3, w3 = w2.alloc (.cells #[.slice (some ⟨w.heap.size + 3, 0, none⟩) 3 3, .slice (some ⟨w.heap.size + 4 + 2, 0, none⟩) 3 3] 23) := ⟨_, rfl⟩
  have h3 : w3 = (loW (upW w)).alloc (.cells #[sl (w.heap.size + 3) 3, sl (w.heap.size + 4 + 2) 3] 23) := by rw [hw3, HW2.out]; rfl
  have hc := heap_alloc_new w2 (.cells #[.slice (some ⟨w.heap.size + 3, 0, none⟩) 3 3, .slice (some ⟨w.heap.size + 4 + 2, 0, none⟩) 3 3] 23)
  rw [← hw3] at hc
  have HC0 : Hid (w3.cell? ⟨w2.heap.size, 0, none⟩ = some (sl (w.heap.size + 3) 3)) := Lib.hid (cell_in (o := 0) hc)
  have HC1 : Hid (w3.cell? ⟨w2.heap.size, 1, none⟩ = some (sl (w.heap.size + 4 + 2) 3)) := Lib.hid (cell_in (o := 1) hc)
  have HB3 : Hid (Below w.heap.size w w3) := Lib.hid (by rw [h3]; exact below_new w _)
  have HSr : Hid (Srcs w3 w.heap.size (w.heap.size + 4)) := Lib.hid (by rw [h3]; exact srcs_new w)
  have HU : Hid (w3.heap[w.heap.size + 3]? = some (.cells (upX w.heap.size).toArray 29 (0, 0))) := Lib.hid (by rw [h3]; exact up_block w _)
  have HL : Hid (w3.heap[w.heap.size + 4 + 2]? = some (.cells (loX (w.heap.size + 4)).toArray 29 (0, 0))) := Lib.hid (by rw [h3]; exact lo_block w _)
  rw [← hw3]
  clear hw3 h3 hc
  refine (concat_any w3 w2.heap.size (w.heap.size + 3) (w.heap.size + 4 + 2) (upX w.heap.size) (loX (w.heap.size + 4)) HC0.out HC1.out rfl rfl (fun j x hj => by rw [cell_in HU.out]; simpa using hj) (fun j x hj => by rw [cell_in HL.out]; simpa using hj) (upX_one _) (loX_one _)).mono ?_
  rintro e w4 ⟨v4, rfl, hown, hb⟩
  have HO4 := Lib.hid hown
  have HS4 := Lib.hid (HSr.out.below hb)
  have HB4 := Lib.hid (HB3.out.trans (hb.mono HB3.out.size))
  clear hown hb
  go_wp2_with fail
  refine (sorted_any w4 v4 _ w.heap.size (w.heap.size + 4) HO4.out HS4.out).mono ?_
  rintro e w5 ⟨v5, rfl, hown, hb⟩
  have HO5 := Lib.hid hown
  have HB5 := Lib.hid (HB4.out.trans (hb.mono HB4.out.size))
  clear hown hb
  go_wp2_with fail
  go_ret
  exact ⟨_, rfl, HO5.out.mono HB4.out.size, HB5.out⟩
end Go.Proofs.Ytkbamhecbfocbaa.hk
