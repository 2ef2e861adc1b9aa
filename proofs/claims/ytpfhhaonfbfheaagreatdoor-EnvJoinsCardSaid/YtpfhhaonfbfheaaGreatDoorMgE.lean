/- Laws and contracts on which the statement rests, part E: each text says what it proves, and its conditions. -/
import Derived.Test.YtpfhhaonfbfheaaGreatDoorMgD
import Derived.Test.YtpfhhaonfbfheaaGreatDoorMgB
import Derived.OwnWalk
import Derived.Deep.RegionHeld3
import Derived.Laws.Concat
import Derived.StillTailTactics
import Derived.Deep.DeepCutAuto
import Derived.Deep.RegionLaw
/- value.parseWords and Parse return plain functions. Conditions: the listed variables hold what the program's text lays; the text is no longer than 2147483647 bytes. -/
namespace Go.Proofs.YtpfhhaonfbfheaaGreatDoor.va
open Go.ChangeShapes Go.WideShapes Go.ChangeAt Go.RowKit gl

/-- A new slice of strings, without room behind it. -/
def Fresh (w w' : World) (sl : Value) (xs : List ByteArray) : Prop :=
  (xs = [] ∧ sl = .slice none 0 0) ∨ ∃ g, sl = .slice (some ⟨g, 0, none⟩) xs.length xs.length ∧ w.heap.size ≤ g ∧ w'.heap[g]? = some (.cells (xs.map Value.string).toArray 9 (0, 0))
theorem Fresh.shape {w w' : World} {sl : Value} {xs : List ByteArray} (h : Fresh w w' sl xs) : ∃ p n c, sl = .slice p n c := by
  rcases h with ⟨_, rfl⟩ | ⟨g, rfl, _⟩
  · exact ⟨_, _, _, rfl⟩
  · exact ⟨_, _, _, rfl⟩
theorem Fresh.strs {w w' : World} {sl : Value} {xs : List ByteArray} (h : Fresh w w' sl xs) : Strs w' sl xs := by
  rcases h with ⟨rfl, rfl⟩ | ⟨g, rfl, _, h⟩
  · exact ⟨none, 0, rfl, Nat.le_refl _, .inl rfl⟩
  · exact strs_row h (lt_of_block h) _ (Nat.le_refl _)
theorem Fresh.later {w w' w'' : World} {sl : Value} {xs : List ByteArray} (h : Fresh w w' sl xs) (hb : Below w'.heap.size w' w'') : Fresh w w'' sl xs := by
  rcases h with h | ⟨g, h1, h2, h⟩
  · exact .inl h
  · exact .inr ⟨g, h1, h2, (hb.block _ (lt_of_block h)).trans h⟩
theorem Fresh.from {w0 w w' : World} {sl : Value} {xs : List ByteArray} (h : Fresh w w' sl xs) (hs : w0.heap.size ≤ w.heap.size) : Fresh w0 w' sl xs := by
  rcases h with h | ⟨g, h1, h2, h⟩
  · exact .inl h
  · exact .inr ⟨g, h1, by omega, h⟩
def ParseOut (r : Val × Int) (w : World) (e : Ending) (w' : World) : Prop := ∃ sl, e = .returned (res r sl) ∧ Fresh w w' sl r.1.words
theorem sl_eq {p : Option Addr} {a b : Nat} (h : a = b) : Value.slice p a a = .slice p b b := by rw [h]
/-- The two structs that parseWords lays. -/
theorem two_blocks {w w1 : World} {o o' : Obj} (hb : Below ((w.alloc o).alloc o').heap.size ((w.alloc o).alloc o') w1) : w1.heap[w.heap.size]? = (w.alloc o).heap[w.heap.size]? ∧ w1.heap[w.heap.size + 1]? = some o' := by
  refine ⟨(hb.block _ (by simp; omega)).trans (heap_al (by rw [heap_alloc_new]) o' |>.trans (heap_alloc_new w o).symm), ?_⟩
  have := hb.block (w.heap.size + 1) (by simp)
  rw [this]
  have h2 := heap_alloc_new (w.alloc o) o'
  simpa using h2

set_option maxHeartbeats 1000000 in
set_option maxRecDepth 100000 in
theorem parseWords_any (s : ByteArray) (hs : s.size ≤ 2147483647) (w : World) (hV : Vlo w) :
    Calls Tryz.prog 95 #[.string s] w fun e w' => ParseOut (parseWords wordL s.data.toList) w e w' ∧ Below w.heap.size w w' := by
  have HV := Lib.hid hV
  clear hV
  have hlen : s.data.toList.length = s.size := by simp
  by_cases h0 : s.data.toList = []
  · have He : Hid (parseWords wordL s.data.toList = (⟨6, 0, ByteArray.empty, []⟩, 0)) := Lib.hid (by unfold parseWords; rw [if_pos h0])
    have hemp : s.toList.isEmpty = true := by rw [ByteArray.toList_eq, h0]; rfl
    clear h0
    go_enter Tryz.func95, Tryz.ntmps95
    go_wp2_with fail
    go_returns
    exact ⟨⟨_, by rw [He.out]; rfl, .inl ⟨by rw [He.out], rfl⟩⟩, by go_grown⟩
  · have HE : Hid (parseWords wordL s.data.toList = if (pcs 44 s.data.toList).all wordL then (if 200 < s.size ∨ 16 < (pcs 44 s.data.toList).length then (zero, 42) else (⟨6, 0, ByteArray.empty, (pcs 44 s.data.toList).map B⟩, 0)) else (zero, 40)) := Lib.hid (by unfold parseWords; rw [if_neg h0, hlen])
    have hemp : s.toList.isEmpty = false := by
      rw [ByteArray.toList_eq]
      cases hl : s.data.toList with
      | nil => exact absurd hl h0
      | cons => rfl
    clear h0
    have hpl := pcs_length 44 s.data.toList
    have hcl := List.count_le_length (a := (44 : UInt8)) (l := s.data.toList)
    have HM : Hid (∀ x ∈ (pcs 44 s.data.toList).map B, x.size ≤ 2147483647) := Lib.hid (by
      intro x hx
      obtain ⟨l, hl, rfl⟩ := List.mem_map.1 hx
      have := mem_pcs_le 44 _ _ hl
      show l.toArray.size ≤ _
      simp
      omega)
    have HA : Hid (allW ((pcs 44 s.data.toList).map B) = (pcs 44 s.data.toList).all wordL) := Lib.hid (by
      unfold allW
      rw [List.all_map]
      congr 1)
    have HSp := Lib.hid (fun (W : World) (hb : Below w.heap.size w W) => splitW_any s hs W (HV.out.below hb (Nat.le_refl _)))
    have hps0 : (pcs 44 s.data.toList).length ≤ 2147483648 := by omega
    generalize pcs 44 s.data.toList = ps at *
    obtain ⟨n, hn⟩ : ∃ n, ps.length = n := ⟨_, rfl⟩
    have Hmap : Hid ((ps.map B).length = n) := Lib.hid (by rw [List.length_map, hn])
    rw [hn] at HSp HE hps0
    clear hpl hcl
    cases hall : ps.all wordL with
    | false =>
      have He : Hid (parseWords wordL s.data.toList = (zero, 40)) := Lib.hid (by rw [HE.out, hall]; rfl)
      have HA2 : Hid (allW (ps.map B) = false) := Lib.hid (HA.out.trans hall)
      clear hall hn
      go_enter Tryz.func95, Tryz.ntmps95
      go_wp2_with fail
      refine (HSp.out _ (((Below.refl _ w).alloc (Nat.le_refl _) _).alloc (by simp) _)).mono ?_
      rintro e w1 ⟨⟨rfl, hrow⟩, hlt1, hb1⟩
      simp only [World.size_alloc] at hrow
      have Hrow := Lib.hid hrow
      have Hb1 := Lib.hid hb1
      have hsz1 := hb1.size
      simp at hsz1 hlt1
      have Hbw1 : Hid (Below w.heap.size w w1) := Lib.hid ((((Below.refl _ w).alloc (Nat.le_refl _) _).alloc (by simp) _).trans (hb1.mono (by simp; omega)))
      have Hst : Hid (Strs w1 (.slice (some ⟨w.heap.size + 1 + 1, 0, none⟩) n n) (ps.map B)) := Lib.hid (by
        have := strs_row Hrow.out (by omega) n (by rw [Hmap.out]; exact Nat.le_refl _)
        rwa [Hmap.out] at this)
      clear hrow hb1
      go_wp2_with fail
      have hcon := containsW_any 118 (enters_of Tryz.func118 (by kernel_rfl) rfl) notW_parse _ (ps.map B) HM.out (by rw [Hmap.out]; omega) w1 (HV.out.below Hbw1.out (Nat.le_refl _)) Hst.out
      rw [HA2.out] at hcon
      refine hcon.mono ?_
      rintro e w2 ⟨rfl, hb2⟩
      have Hb2 := Lib.hid hb2
      have hsz2 := hb2.size
      obtain ⟨hB0, hB1⟩ := two_blocks (Hb1.out.trans (hb2.mono Hb1.out.size))
      rw [heap_alloc_new] at hB0
      have Hblk := Lib.hid hB0
      have Hv := Lib.hid hB1
      have Hbw2 : Hid (Below w.heap.size w w2) := Lib.hid (Hbw1.out.trans (hb2.mono (by omega)))
      have hc := fun j => cell_of_row w2 w.heap.size j _ _ _ hB0
      have hf := fun j => frozen_of_row w2 w.heap.size j _ _ hB0
      have hd := fun j => cell_of_row w2 (w.heap.size + 1) j _ _ _ hB1
      have hg := fun j => frozen_of_row w2 (w.heap.size + 1) j _ _ hB1
      have c0 := hc 0; have c1 := hc 1; have c2 := hc 2; have c3 := hc 3
      have f0 := hf 0; have f1 := hf 1; have f2 := hf 2; have f3 := hf 3
      have d0 := hd 0; have d1 := hd 1; have d2 := hd 2; have d3 := hd 3
      have k0 := hg 0; have k1 := hg 1; have k2 := hg 2; have k3 := hg 3
      simp only [List.getElem?_toArray, List.getElem?_cons_succ, List.getElem?_cons_zero] at c0 c1 c2 c3 d0 d1 d2 d3
      clear hc hf hd hg hB0 hB1 hb2 hcon
      go_wp2_with fail
      generalize hW : World.setCell (World.setCell (World.setCell (World.setCell w2 _ _) _ _) _ _) _ _ = W
      obtain ⟨⟨g0, g1, g2, g3⟩, hsW, hoth, hbel⟩ := four_done Hblk.out hW
      have HB := Lib.hid (hbel w.heap.size w Hbw2.out (Nat.le_refl _))
      have HO := Lib.hid hoth
      clear hW hbel hoth
      (try simp only [Exit.inBlock, Exit.then])
      refine bodyPost_ret (by simp [results, Tryz.results95, go_sem, g0, g1, g2, g3]; try rfl) rfl ?_
      exact ⟨⟨_, by rw [He.out]; rfl, .inl ⟨by rw [He.out]; rfl, rfl⟩⟩, HB.out⟩
    | true =>
      have HE2 := Lib.hid (HE.out.trans (by rw [hall, if_pos rfl]))
      have HA2 : Hid (allW (ps.map B) = true) := Lib.hid (HA.out.trans hall)
      clear hall hn
      go_enter Tryz.func95, Tryz.ntmps95
      go_wp2_with fail
      refine (HSp.out _ (((Below.refl _ w).alloc (Nat.le_refl _) _).alloc (by simp) _)).mono ?_
      rintro e w1 ⟨⟨rfl, hrow⟩, hlt1, hb1⟩
      simp only [World.size_alloc] at hrow
      have Hrow := Lib.hid hrow
      have Hb1 := Lib.hid hb1
      have hsz1 := hb1.size
      simp at hsz1 hlt1
      have Hbw1 : Hid (Below w.heap.size w w1) := Lib.hid ((((Below.refl _ w).alloc (Nat.le_refl _) _).alloc (by simp) _).trans (hb1.mono (by simp; omega)))
      have Hst : Hid (Strs w1 (.slice (some ⟨w.heap.size + 1 + 1, 0, none⟩) n n) (ps.map B)) := Lib.hid (by
        have := strs_row Hrow.out (by omega) n (by rw [Hmap.out]; exact Nat.le_refl _)
        rwa [Hmap.out] at this)
      clear hrow hb1
      go_wp2_with fail
      have hcon := containsW_any 118 (enters_of Tryz.func118 (by kernel_rfl) rfl) notW_parse _ (ps.map B) HM.out (by rw [Hmap.out]; omega) w1 (HV.out.below Hbw1.out (Nat.le_refl _)) Hst.out
      rw [HA2.out] at hcon
      refine hcon.mono ?_
      rintro e w2 ⟨rfl, hb2⟩
      have Hb2 := Lib.hid hb2
      have hsz2 := hb2.size
      obtain ⟨hB0, hB1⟩ := two_blocks (Hb1.out.trans (hb2.mono Hb1.out.size))
      rw [heap_alloc_new] at hB0
      have Hblk := Lib.hid hB0
      have Hv := Lib.hid hB1
      have Hbw2 : Hid (Below w.heap.size w w2) := Lib.hid (Hbw1.out.trans (hb2.mono (by omega)))
      have hc := fun j => cell_of_row w2 w.heap.size j _ _ _ hB0
      have hf := fun j => frozen_of_row w2 w.heap.size j _ _ hB0
      have hd := fun j => cell_of_row w2 (w.heap.size + 1) j _ _ _ hB1
      have hg := fun j => frozen_of_row w2 (w.heap.size + 1) j _ _ hB1
      have c0 := hc 0; have c1 := hc 1; have c2 := hc 2; have c3 := hc 3
      have f0 := hf 0; have f1 := hf 1; have f2 := hf 2; have f3 := hf 3
      have d0 := hd 0; have d1 := hd 1; have d2 := hd 2; have d3 := hd 3
      have k0 := hg 0; have k1 := hg 1; have k2 := hg 2; have k3 := hg 3
      simp only [List.getElem?_toArray, List.getElem?_cons_succ, List.getElem?_cons_zero] at c0 c1 c2 c3 d0 d1 d2 d3
      clear hc hf hd hg hB0 hB1 hb2 hcon
      by_cases h2 : 200 < s.size
      · have He : Hid (parseWords wordL s.data.toList = (zero, 42)) := Lib.hid (by rw [HE2.out, if_pos (.inl h2)])
        go_wp2_with fail
        generalize hW : World.setCell (World.setCell (World.setCell (World.setCell w2 _ _) _ _) _ _) _ _ = W
        obtain ⟨⟨g0, g1, g2, g3⟩, hsW, hoth, hbel⟩ := four_done Hblk.out hW
        have HB := Lib.hid (hbel w.heap.size w Hbw2.out (Nat.le_refl _))
        have HO := Lib.hid hoth
        clear hW hbel hoth
        (try simp only [Exit.inBlock, Exit.then])
        refine bodyPost_ret (by simp [results, Tryz.results95, go_sem, g0, g1, g2, g3]; try rfl) rfl ?_
        exact ⟨⟨_, by rw [He.out]; rfl, .inl ⟨by rw [He.out]; rfl, rfl⟩⟩, HB.out⟩
      · by_cases h16 : 16 < n
        · have He : Hid (parseWords wordL s.data.toList = (zero, 42)) := Lib.hid (by rw [HE2.out, if_pos (.inr h16)])
          go_wp2_with fail
          generalize hW : World.setCell (World.setCell (World.setCell (World.setCell w2 _ _) _ _) _ _) _ _ = W
          obtain ⟨⟨g0, g1, g2, g3⟩, hsW, hoth, hbel⟩ := four_done Hblk.out hW
          have HB := Lib.hid (hbel w.heap.size w Hbw2.out (Nat.le_refl _))
          have HO := Lib.hid hoth
          clear hW hbel hoth
          (try simp only [Exit.inBlock, Exit.then])
          refine bodyPost_ret (by simp [results, Tryz.results95, go_sem, g0, g1, g2, g3]; try rfl) rfl ?_
          exact ⟨⟨_, by rw [He.out]; rfl, .inl ⟨by rw [He.out]; rfl, rfl⟩⟩, HB.out⟩
        · have He : Hid (parseWords wordL s.data.toList = (⟨6, 0, ByteArray.empty, ps.map B⟩, 0)) := Lib.hid (by rw [HE2.out, if_neg (by omega)])
          go_wp2_with fail
          refine (clip_any _ n n (Nat.le_refl _) w2).mono ?_
          rintro e w3 ⟨rfl, rfl⟩
          go_wp2_with fail
          obtain ⟨w4, hw4⟩ : ∃ w4, w4 = w2.setCell ⟨w.heap.size + 1, 3, none⟩ (.slice (some ⟨w.heap.size + 1 + 1, 0, none⟩) n n) := ⟨_, rfl⟩
          rw [← hw4]
          have Hblk4 := Lib.hid ((congrArg (fun x : World => x.heap[w.heap.size]?) hw4).trans (heap_set_ne Hblk.out _ (by simp)))
          have Hrow4 := Lib.hid ((congrArg (fun x : World => x.heap[w.heap.size + 1 + 1]?) hw4).trans (heap_set_ne ((Hb2.out.block _ hlt1).trans Hrow.out) _ (by simp)))
          have Hbw4 : Hid (Below w.heap.size w w4) := Lib.hid (by rw [hw4]; exact Hbw2.out.setCell (by simp) _)
          clear hw4
          clear Hblk
          have Hblk := Hblk4
          generalize hW : World.setCell (World.setCell (World.setCell (World.setCell w4 _ _) _ _) _ _) _ _ = W
          obtain ⟨⟨g0, g1, g2, g3⟩, hsW, hoth, hbel⟩ := four_done Hblk.out hW
          have HB := Lib.hid (hbel w.heap.size w Hbw4.out (Nat.le_refl _))
          have HO := Lib.hid hoth
          clear hW hbel hoth
          (try simp only [Exit.inBlock, Exit.then])
          refine bodyPost_ret (by simp [results, Tryz.results95, go_sem, g0, g1, g2, g3]; try rfl) rfl ?_
          exact ⟨⟨_, by rw [He.out]; rfl, .inr ⟨w.heap.size + 1 + 1, by rw [He.out]; exact sl_eq Hmap.out.symm, by omega, by rw [He.out]; exact (HO.out _ (by omega)).trans Hrow4.out⟩⟩, HB.out⟩

theorem parseBool_words (l : List UInt8) : (parseBool l).1.words = [] := by unfold parseBool; split; rfl; split <;> rfl
theorem parseInt_words (l : List UInt8) : (parseInt l).1.words = [] := by
  rw [parseInt_eq]
  split
  · rfl
  · split
    · rfl
    · split <;> rfl
theorem parseUnit_words (k : Int) (l : List UInt8) : (parseUnit k l).1.words = [] := by
  unfold parseUnit
  split
  · rfl
  · split
    · rfl
    · split <;> rfl
theorem parseText_words (l : List UInt8) : (parseText l).1.words = [] := by unfold parseText; split; split <;> rfl; rfl
/-- The result of Parse stands behind the struct that was laid for it. -/
theorem Fresh.out {w w1 W : World} {o : Obj} {sl : Value} {xs : List ByteArray} (h : Fresh (w.alloc o) w1 sl xs) (hW : ∀ k : Nat, k ≠ w.heap.size → W.heap[k]? = w1.heap[k]?) : Fresh w W sl xs := by
  rcases h with h | ⟨g, h1, h2, h⟩
  · exact .inl h
  · simp only [World.size_alloc] at h2
    exact .inr ⟨g, h1, by omega, (hW g (by omega)).trans h⟩

set_option maxHeartbeats 1000000 in
set_option maxRecDepth 100000 in
theorem parse_1 (s : ByteArray) (_hs : s.size ≤ 2147483647) (w : World) (hV : Vlo w) :
    Calls Tryz.prog 71 #[.int .i64 1, .string s] w fun e w' => ParseOut (parseBool s.data.toList) w e w' ∧ Below w.heap.size w w' := by
  have HV1 := Lib.hid (hV.below ((Below.refl w.heap.size w).alloc (Nat.le_refl _) (.cells #[.int .i64 0, .int .i64 0, .string ⟨#[]⟩, .slice none 0 0] 98)) (Nat.le_refl _))
  clear hV
  obtain ⟨⟨⟨kk, nn, tt, ww⟩, ee⟩, hr⟩ : ∃ r, parseBool s.data.toList = r := ⟨_, rfl⟩
  have hcon : Calls Tryz.prog 92 #[.string s] (w.alloc (.cells #[.int .i64 0, .int .i64 0, .string ⟨#[]⟩, .slice none 0 0] 98)) fun e w' => (∃ p n c, e = .returned (.tuple #[.agg #[.int .i64 kk, .int .i64 nn, .string tt, .slice p n c], .int .i64 ee]) ∧ Fresh (w.alloc (.cells #[.int .i64 0, .int .i64 0, .string ⟨#[]⟩, .slice none 0 0] 98)) w' (.slice p n c) ww) ∧ Below (w.alloc (.cells #[.int .i64 0, .int .i64 0, .string ⟨#[]⟩, .slice none 0 0] 98)).heap.size (w.alloc (.cells #[.int .i64 0, .int .i64 0, .string ⟨#[]⟩, .slice none 0 0] 98)) w' := by
    refine (parseBool_any s _).mono ?_
    rintro e w' ⟨rfl, hb⟩
    rw [hr]
    refine ⟨⟨_, _, _, rfl, .inl ⟨?_, rfl⟩⟩, hb⟩
    have := parseBool_words s.data.toList
    rw [hr] at this
    exact this
  rw [hr]
  clear hr HV1
  go_enter Tryz.func71, Tryz.ntmps71
  go_wp2_with fail
  refine hcon.mono ?_
  rintro e w1 ⟨⟨p, n, c, rfl, hfr⟩, hb⟩
  have Hb := Lib.hid hb
  have Hfr := Lib.hid hfr
  clear hfr hb
  have Hblk := Lib.hid ((new_block Hb.out).trans (heap_alloc_new w _))
  obtain ⟨⟨c0, c1, c2, c3⟩, f0, f1, f2, f3⟩ := res_cells Hb.out
  go_wp2_with fail
  generalize hW : World.setCell (World.setCell (World.setCell (World.setCell w1 _ _) _ _) _ _) _ _ = W
  obtain ⟨⟨g0, g1, g2, g3⟩, hsW, hoth, hbel⟩ := four_done Hblk.out hW
  have HB := Lib.hid (hbel w.heap.size w ((((Below.refl _ w).alloc (Nat.le_refl _) _)).trans (Hb.out.mono (by simp))) (Nat.le_refl _))
  have HO := Lib.hid hoth
  clear hW hbel hoth
  (try simp only [Exit.inBlock, Exit.then])
  refine bodyPost_ret (by simp [results, Tryz.results71, go_sem, g0, g1, g2, g3]; try rfl) rfl ?_
  exact ⟨⟨_, rfl, Hfr.out.out HO.out⟩, HB.out⟩

set_option maxHeartbeats 1000000 in
set_option maxRecDepth 100000 in
theorem parse_2 (s : ByteArray) (hs : s.size ≤ 2147483647) (w : World) (hV : Vlo w) :
    Calls Tryz.prog 71 #[.int .i64 2, .string s] w fun e w' => ParseOut (parseInt s.data.toList) w e w' ∧ Below w.heap.size w w' := by
  have HV1 := Lib.hid (hV.below ((Below.refl w.heap.size w).alloc (Nat.le_refl _) (.cells #[.int .i64 0, .int .i64 0, .string ⟨#[]⟩, .slice none 0 0] 98)) (Nat.le_refl _))
  clear hV
  obtain ⟨⟨⟨kk, nn, tt, ww⟩, ee⟩, hr⟩ : ∃ r, parseInt s.data.toList = r := ⟨_, rfl⟩
  have hcon : Calls Tryz.prog 93 #[.int .i64 2, .string s] (w.alloc (.cells #[.int .i64 0, .int .i64 0, .string ⟨#[]⟩, .slice none 0 0] 98)) fun e w' => (∃ p n c, e = .returned (.tuple #[.agg #[.int .i64 kk, .int .i64 nn, .string tt, .slice p n c], .int .i64 ee]) ∧ Fresh (w.alloc (.cells #[.int .i64 0, .int .i64 0, .string ⟨#[]⟩, .slice none 0 0] 98)) w' (.slice p n c) ww) ∧ Below (w.alloc (.cells #[.int .i64 0, .int .i64 0, .string ⟨#[]⟩, .slice none 0 0] 98)).heap.size (w.alloc (.cells #[.int .i64 0, .int .i64 0, .string ⟨#[]⟩, .slice none 0 0] 98)) w' := by
    refine (parseInt_any s hs _ HV1.out).mono ?_
    rintro e w' ⟨rfl, hb⟩
    rw [hr]
    refine ⟨⟨_, _, _, rfl, .inl ⟨?_, rfl⟩⟩, hb⟩
    have := parseInt_words s.data.toList
    rw [hr] at this
    exact this
  rw [hr]
  clear hr HV1
  go_enter Tryz.func71, Tryz.ntmps71
  go_wp2_with fail
  refine hcon.mono ?_
  rintro e w1 ⟨⟨p, n, c, rfl, hfr⟩, hb⟩
  have Hb := Lib.hid hb
  have Hfr := Lib.hid hfr
  clear hfr hb
  have Hblk := Lib.hid ((new_block Hb.out).trans (heap_alloc_new w _))
  obtain ⟨⟨c0, c1, c2, c3⟩, f0, f1, f2, f3⟩ := res_cells Hb.out
  go_wp2_with fail
  generalize hW : World.setCell (World.setCell (World.setCell (World.setCell w1 _ _) _ _) _ _) _ _ = W
  obtain ⟨⟨g0, g1, g2, g3⟩, hsW, hoth, hbel⟩ := four_done Hblk.out hW
  have HB := Lib.hid (hbel w.heap.size w ((((Below.refl _ w).alloc (Nat.le_refl _) _)).trans (Hb.out.mono (by simp))) (Nat.le_refl _))
  have HO := Lib.hid hoth
  clear hW hbel hoth
  (try simp only [Exit.inBlock, Exit.then])
  refine bodyPost_ret (by simp [results, Tryz.results71, go_sem, g0, g1, g2, g3]; try rfl) rfl ?_
  exact ⟨⟨_, rfl, Hfr.out.out HO.out⟩, HB.out⟩

set_option maxHeartbeats 1000000 in
set_option maxRecDepth 100000 in
theorem parse_u (k : Int) (hk : k = 3 ∨ k = 4) (s : ByteArray) (hs : s.size ≤ 2147483647) (w : World) (hV : Vlo w) :
    Calls Tryz.prog 71 #[.int .i64 k, .string s] w fun e w' => ParseOut (parseUnit k s.data.toList) w e w' ∧ Below w.heap.size w w' := by
  have HV1 := Lib.hid (hV.below ((Below.refl w.heap.size w).alloc (Nat.le_refl _) (.cells #[.int .i64 0, .int .i64 0, .string ⟨#[]⟩, .slice none 0 0] 98)) (Nat.le_refl _))
  clear hV
  obtain ⟨⟨⟨kk, nn, tt, ww⟩, ee⟩, hr⟩ : ∃ r, parseUnit k s.data.toList = r := ⟨_, rfl⟩
  have hcon : Calls Tryz.prog 93 #[.int .i64 k, .string s] (w.alloc (.cells #[.int .i64 0, .int .i64 0, .string ⟨#[]⟩, .slice none 0 0] 98)) fun e w' => (∃ p n c, e = .returned (.tuple #[.agg #[.int .i64 kk, .int .i64 nn, .string tt, .slice p n c], .int .i64 ee]) ∧ Fresh (w.alloc (.cells #[.int .i64 0, .int .i64 0, .string ⟨#[]⟩, .slice none 0 0] 98)) w' (.slice p n c) ww) ∧ Below (w.alloc (.cells #[.int .i64 0, .int .i64 0, .string ⟨#[]⟩, .slice none 0 0] 98)).heap.size (w.alloc (.cells #[.int .i64 0, .int .i64 0, .string ⟨#[]⟩, .slice none 0 0] 98)) w' := by
    refine (parseUnit_any k hk s hs _ HV1.out).mono ?_
    rintro e w' ⟨rfl, hb⟩
    rw [hr]
    refine ⟨⟨_, _, _, rfl, .inl ⟨?_, rfl⟩⟩, hb⟩
    have := parseUnit_words k s.data.toList
    rw [hr] at this
    exact this
  rw [hr]
  clear hr HV1
  have k1 : (k == 1) = false := by simp; omega
  have k2 : (k == 2) = false := by simp; omega
  have hk' : ((k == 3) = true) ∨ ((k == 3) = false ∧ (k == 4) = true) := by
    rcases hk with rfl | rfl
    · exact .inl rfl
    · exact .inr ⟨rfl, rfl⟩
  clear hk
  rcases hk' with hk' | ⟨hk', hk''⟩
  · go_enter Tryz.func71, Tryz.ntmps71
    go_wp2_with fail
    refine hcon.mono ?_
    rintro e w1 ⟨⟨p, n, c, rfl, hfr⟩, hb⟩
    have Hb := Lib.hid hb
    have Hfr := Lib.hid hfr
    clear hfr hb
    have Hblk := Lib.hid ((new_block Hb.out).trans (heap_alloc_new w _))
    obtain ⟨⟨c0, c1, c2, c3⟩, f0, f1, f2, f3⟩ := res_cells Hb.out
    go_wp2_with fail
    generalize hW : World.setCell (World.setCell (World.setCell (World.setCell w1 _ _) _ _) _ _) _ _ = W
    obtain ⟨⟨g0, g1, g2, g3⟩, hsW, hoth, hbel⟩ := four_done Hblk.out hW
    have HB := Lib.hid (hbel w.heap.size w ((((Below.refl _ w).alloc (Nat.le_refl _) _)).trans (Hb.out.mono (by simp))) (Nat.le_refl _))
    have HO := Lib.hid hoth
    clear hW hbel hoth
    (try simp only [Exit.inBlock, Exit.then])
    refine bodyPost_ret (by simp [results, Tryz.results71, go_sem, g0, g1, g2, g3]; try rfl) rfl ?_
    exact ⟨⟨_, rfl, Hfr.out.out HO.out⟩, HB.out⟩
  · go_enter Tryz.func71, Tryz.ntmps71
    go_wp2_with fail
    refine hcon.mono ?_
    rintro e w1 ⟨⟨p, n, c, rfl, hfr⟩, hb⟩
    have Hb := Lib.hid hb
    have Hfr := Lib.hid hfr
    clear hfr hb
    have Hblk := Lib.hid ((new_block Hb.out).trans (heap_alloc_new w _))
    obtain ⟨⟨c0, c1, c2, c3⟩, f0, f1, f2, f3⟩ := res_cells Hb.out
    go_wp2_with fail
    generalize hW : World.setCell (World.setCell (World.setCell (World.setCell w1 _ _) _ _) _ _) _ _ = W
    obtain ⟨⟨g0, g1, g2, g3⟩, hsW, hoth, hbel⟩ := four_done Hblk.out hW
    have HB := Lib.hid (hbel w.heap.size w ((((Below.refl _ w).alloc (Nat.le_refl _) _)).trans (Hb.out.mono (by simp))) (Nat.le_refl _))
    have HO := Lib.hid hoth
    clear hW hbel hoth
    (try simp only [Exit.inBlock, Exit.then])
    refine bodyPost_ret (by simp [results, Tryz.results71, go_sem, g0, g1, g2, g3]; try rfl) rfl ?_
    exact ⟨⟨_, rfl, Hfr.out.out HO.out⟩, HB.out⟩

set_option maxHeartbeats 1000000 in
set_option maxRecDepth 100000 in
theorem parse_5 (s : ByteArray) (_hs : s.size ≤ 2147483647) (w : World) (hV : Vlo w) :
    Calls Tryz.prog 71 #[.int .i64 5, .string s] w fun e w' => ParseOut (parseText s.data.toList) w e w' ∧ Below w.heap.size w w' := by
  have HV1 := Lib.hid (hV.below ((Below.refl w.heap.size w).alloc (Nat.le_refl _) (.cells #[.int .i64 0, .int .i64 0, .string ⟨#[]⟩, .slice none 0 0] 98)) (Nat.le_refl _))
  clear hV
  obtain ⟨⟨⟨kk, nn, tt, ww⟩, ee⟩, hr⟩ : ∃ r, parseText s.data.toList = r := ⟨_, rfl⟩
  have hcon : Calls Tryz.prog 94 #[.string s] (w.alloc (.cells #[.int .i64 0, .int .i64 0, .string ⟨#[]⟩, .slice none 0 0] 98)) fun e w' => (∃ p n c, e = .returned (.tuple #[.agg #[.int .i64 kk, .int .i64 nn, .string tt, .slice p n c], .int .i64 ee]) ∧ Fresh (w.alloc (.cells #[.int .i64 0, .int .i64 0, .string ⟨#[]⟩, .slice none 0 0] 98)) w' (.slice p n c) ww) ∧ Below (w.alloc (.cells #[.int .i64 0, .int .i64 0, .string ⟨#[]⟩, .slice none 0 0] 98)).heap.size (w.alloc (.cells #[.int .i64 0, .int .i64 0, .string ⟨#[]⟩, .slice none 0 0] 98)) w' := by
    refine (parseText_any s _).mono ?_
    rintro e w' ⟨rfl, hb⟩
    rw [hr]
    refine ⟨⟨_, _, _, rfl, .inl ⟨?_, rfl⟩⟩, hb⟩
    have := parseText_words s.data.toList
    rw [hr] at this
    exact this
  rw [hr]
  clear hr HV1
  go_enter Tryz.func71, Tryz.ntmps71
  go_wp2_with fail
  refine hcon.mono ?_
  rintro e w1 ⟨⟨p, n, c, rfl, hfr⟩, hb⟩
  have Hb := Lib.hid hb
  have Hfr := Lib.hid hfr
  clear hfr hb
  have Hblk := Lib.hid ((new_block Hb.out).trans (heap_alloc_new w _))
  obtain ⟨⟨c0, c1, c2, c3⟩, f0, f1, f2, f3⟩ := res_cells Hb.out
  go_wp2_with fail
  generalize hW : World.setCell (World.setCell (World.setCell (World.setCell w1 _ _) _ _) _ _) _ _ = W
  obtain ⟨⟨g0, g1, g2, g3⟩, hsW, hoth, hbel⟩ := four_done Hblk.out hW
  have HB := Lib.hid (hbel w.heap.size w ((((Below.refl _ w).alloc (Nat.le_refl _) _)).trans (Hb.out.mono (by simp))) (Nat.le_refl _))
  have HO := Lib.hid hoth
  clear hW hbel hoth
  (try simp only [Exit.inBlock, Exit.then])
  refine bodyPost_ret (by simp [results, Tryz.results71, go_sem, g0, g1, g2, g3]; try rfl) rfl ?_
  exact ⟨⟨_, rfl, Hfr.out.out HO.out⟩, HB.out⟩

set_option maxHeartbeats 1000000 in
set_option maxRecDepth 100000 in
theorem parse_6 (s : ByteArray) (hs : s.size ≤ 2147483647) (w : World) (hV : Vlo w) :
    Calls Tryz.prog 71 #[.int .i64 6, .string s] w fun e w' => ParseOut (parseWords wordL s.data.toList) w e w' ∧ Below w.heap.size w w' := by
  have HV1 := Lib.hid (hV.below ((Below.refl w.heap.size w).alloc (Nat.le_refl _) (.cells #[.int .i64 0, .int .i64 0, .string ⟨#[]⟩, .slice none 0 0] 98)) (Nat.le_refl _))
  clear hV
  obtain ⟨⟨⟨kk, nn, tt, ww⟩, ee⟩, hr⟩ : ∃ r, parseWords wordL s.data.toList = r := ⟨_, rfl⟩
  have hcon : Calls Tryz.prog 95 #[.string s] (w.alloc (.cells #[.int .i64 0, .int .i64 0, .string ⟨#[]⟩, .slice none 0 0] 98)) fun e w' => (∃ p n c, e = .returned (.tuple #[.agg #[.int .i64 kk, .int .i64 nn, .string tt, .slice p n c], .int .i64 ee]) ∧ Fresh (w.alloc (.cells #[.int .i64 0, .int .i64 0, .string ⟨#[]⟩, .slice none 0 0] 98)) w' (.slice p n c) ww) ∧ Below (w.alloc (.cells #[.int .i64 0, .int .i64 0, .string ⟨#[]⟩, .slice none 0 0] 98)).heap.size (w.alloc (.cells #[.int .i64 0, .int .i64 0, .string ⟨#[]⟩, .slice none 0 0] 98)) w' := by
    refine (parseWords_any s hs _ HV1.out).mono ?_
    rintro e w' ⟨⟨sl, rfl, hf⟩, hb⟩
    rw [hr] at hf ⊢
    obtain ⟨p, n, c, rfl⟩ := hf.shape
    exact ⟨⟨p, n, c, rfl, hf⟩, hb⟩
  rw [hr]
  clear hr HV1
  go_enter Tryz.func71, Tryz.ntmps71
  go_wp2_with fail
  refine hcon.mono ?_
  rintro e w1 ⟨⟨p, n, c, rfl, hfr⟩, hb⟩
  have Hb := Lib.hid hb
  have Hfr := Lib.hid hfr
  clear hfr hb
  have Hblk := Lib.hid ((new_block Hb.out).trans (heap_alloc_new w _))
  obtain ⟨⟨c0, c1, c2, c3⟩, f0, f1, f2, f3⟩ := res_cells Hb.out
  go_wp2_with fail
  generalize hW : World.setCell (World.setCell (World.setCell (World.setCell w1 _ _) _ _) _ _) _ _ = W
  obtain ⟨⟨g0, g1, g2, g3⟩, hsW, hoth, hbel⟩ := four_done Hblk.out hW
  have HB := Lib.hid (hbel w.heap.size w ((((Below.refl _ w).alloc (Nat.le_refl _) _)).trans (Hb.out.mono (by simp))) (Nat.le_refl _))
  have HO := Lib.hid hoth
  clear hW hbel hoth
  (try simp only [Exit.inBlock, Exit.then])
  refine bodyPost_ret (by simp [results, Tryz.results71, go_sem, g0, g1, g2, g3]; try rfl) rfl ?_
  exact ⟨⟨_, rfl, Hfr.out.out HO.out⟩, HB.out⟩

theorem Parse_any (k : Int) (s : ByteArray) (hs : s.size ≤ 2147483647) (w : World) (hV : Vlo w) :
    Calls Tryz.prog 71 #[.int .i64 k, .string s] w fun e w' => ParseOut (parse wordL k s.data.toList) w e w' ∧ Below w.heap.size w w' := by
  by_cases h1 : k = 1
  · subst h1; exact parse_1 s hs w hV
  by_cases h2 : k = 2
  · subst h2; exact parse_2 s hs w hV
  by_cases hu : k = 3 ∨ k = 4
  · have : parse wordL k s.data.toList = parseUnit k s.data.toList := by unfold parse; rw [if_neg h1, if_neg h2, if_pos hu]
    rw [this]
    exact parse_u k hu s hs w hV
  by_cases h5 : k = 5
  · subst h5; exact parse_5 s hs w hV
  by_cases h6 : k = 6
  · subst h6; exact parse_6 s hs w hV
  have He : Hid (parse wordL k s.data.toList = (zero, 1)) := Lib.hid (by unfold parse; rw [if_neg h1, if_neg h2, if_neg hu, if_neg h5, if_neg h6])
  have q1 : (k == 1) = false := by simp [h1]
  have q2 : (k == 2) = false := by simp [h2]
  have q3 : (k == 3) = false := by simp; omega
  have q4 : (k == 4) = false := by simp; omega
  have q5 : (k == 5) = false := by simp [h5]
  have q6 : (k == 6) = false := by simp [h6]
  clear h1 h2 hu h5 h6 hV
  go_enter Tryz.func71, Tryz.ntmps71
  go_wp2_with fail
  go_returns
  exact ⟨⟨_, by rw [He.out]; rfl, .inl ⟨by rw [He.out]; rfl, rfl⟩⟩, by go_grown⟩
end Go.Proofs.YtpfhhaonfbfheaaGreatDoor.va
/- value.Right returns the plain function. Conditions: the listed variables hold what the program's text lays; the value's words lie in memory; it is no greater than 2147483647 bytes and words. -/
namespace Go.Proofs.YtpfhhaonfbfheaaGreatDoor.va
open Go.ChangeShapes Go.WideShapes Go.ChangeAt Go.RowKit gl

/-- No greater than the bound. -/
structure Vb (v : Val) : Prop where
  int0 : -9223372036854775808 ≤ v.int
  int1 : v.int ≤ 9223372036854775807
  text : v.text.size ≤ 2147483647
  words : v.words.length ≤ 2147483647
  each : ∀ x ∈ v.words, x.size ≤ 2147483647
  joined : (joined v.words).length ≤ 140737488355328

theorem right_c {k n : Int} {t : ByteArray} {ws : List ByteArray} (h5 : k ≠ 5) (h6 : k ≠ 6) : right wordL ⟨k, n, t, ws⟩ = (t.toList.isEmpty && ws.isEmpty && (decide (least k ≤ n) && decide (n ≤ most k)) && decide (k = 1 ∨ k = 2 ∨ k = 3 ∨ k = 4)) := by
  have ht : decide (t = ByteArray.empty) = t.toList.isEmpty := by
    rw [ByteArray.toList_eq, Bool.eq_iff_iff, decide_eq_true_eq, List.isEmpty_iff]
    exact ⟨fun h => by rw [h]; rfl, fun h => ba_eq (by rw [h]; rfl)⟩
  simp only [right, h5, h6, decide_false, Bool.false_or, Bool.false_and, Bool.or_false, ht]
theorem right_5 {n : Int} {t : ByteArray} {ws : List ByteArray} : right wordL ⟨5, n, t, ws⟩ = (ws.isEmpty && (decide (0 ≤ n) && decide (n ≤ 0)) && (decide (t.size ≤ 200) && prnAll t.data.toList)) := by
  simp [right, least, most, prnAll]
theorem right_6 {n : Int} {t : ByteArray} {ws : List ByteArray} : right wordL ⟨6, n, t, ws⟩ = (t.toList.isEmpty && (decide (0 ≤ n) && decide (n ≤ 0)) && (decide (ws.length ≤ 16) && allW ws && decide ((joined ws).length ≤ 200))) := by
  have ht : decide (t = ByteArray.empty) = t.toList.isEmpty := by
    rw [ByteArray.toList_eq, Bool.eq_iff_iff, decide_eq_true_eq, List.isEmpty_iff]
    exact ⟨fun h => by rw [h]; rfl, fun h => ba_eq (by rw [h]; rfl)⟩
  simp [right, least, most, allW, ht]

set_option maxHeartbeats 2000000 in
set_option maxRecDepth 100000 in
theorem Right_any (v : Val) (hb : Vb v) (sl : Value) (w : World) (hV : Vlo w) (hS : Strs w sl v.words) :
    Calls Tryz.prog 96 #[rep v sl] w fun e w' => e = .returned (.bool (right wordL v)) ∧ Below w.heap.size w w' := by
  obtain ⟨k, n, t, ws⟩ := v
  obtain ⟨hn0, hn1, ht, hl, heach, hj⟩ := hb
  simp only at hn0 hn1 ht hl heach hj hS
  have HV := Lib.hid hV
  have HS := Lib.hid hS
  have Heach := Lib.hid heach
  have Hj := Lib.hid hj
  clear hV heach hj
  obtain ⟨p, c, rfl, hc, _⟩ := hS
  obtain ⟨m, hm⟩ : ∃ m, ws.length = m := ⟨_, rfl⟩
  have Hm := Lib.hid hm
  rw [hm] at hl hc HS ⊢
  clear hm
  unfold rep
  simp only
  by_cases h5 : k = 5
  · subst h5
    have hr := right_5 (n := n) (t := t) (ws := ws)
    have hwe : ws.isEmpty = decide (m = 0) := by rw [← Hm.out]; cases ws <;> rfl
    have hp := fun W => printable_any t W
    rw [hwe] at hr
    generalize prnAll t.data.toList = pr at *
    generalize right wordL ⟨5, n, t, ws⟩ = R at *
    have HR := Lib.hid hr
    clear hr hwe
    by_cases hm0 : m = 0
    · subst hm0
      rcases (show n < 0 ∨ n = 0 ∨ 0 < n by omega) with h | rfl | h
      · go_enter Tryz.func96, Tryz.ntmps96
        go_wp2_with fail
        refine (ends_any 5 _).mono ?_
        rintro e w1 ⟨rfl, rfl⟩
        rw [show least 5 = 0 from rfl, show most 5 = 0 from rfl]
        go_wp2_with fail
        go_ret
        exact ⟨ret_bool (by rw [HR.out, decide_eq_false (p := 0 ≤ n) (by omega)]; simp), by go_grown⟩
      · by_cases h200 : t.size ≤ 200
        · go_enter Tryz.func96, Tryz.ntmps96
          go_wp2_with fail
          refine (ends_any 5 _).mono ?_
          rintro e w1 ⟨rfl, rfl⟩
          rw [show least 5 = 0 from rfl, show most 5 = 0 from rfl]
          go_wp2_with fail
          refine (hp _).mono ?_
          rintro e w2 ⟨rfl, hb2⟩
          go_wp2_with fail
          go_ret
          exact ⟨ret_bool (by rw [HR.out, decide_eq_true h200]; simp), ((Below.refl _ w).alloc (Nat.le_refl _) _).trans (hb2.mono (by simp))⟩
        · go_enter Tryz.func96, Tryz.ntmps96
          go_wp2_with fail
          refine (ends_any 5 _).mono ?_
          rintro e w1 ⟨rfl, rfl⟩
          rw [show least 5 = 0 from rfl, show most 5 = 0 from rfl]
          go_wp2_with fail
          go_ret
          exact ⟨ret_bool (by rw [HR.out, decide_eq_false h200]; simp), by go_grown⟩
      · go_enter Tryz.func96, Tryz.ntmps96
        go_wp2_with fail
        refine (ends_any 5 _).mono ?_
        rintro e w1 ⟨rfl, rfl⟩
        rw [show least 5 = 0 from rfl, show most 5 = 0 from rfl]
        go_wp2_with fail
        go_ret
        exact ⟨ret_bool (by rw [HR.out, decide_eq_false (p := n ≤ 0) (by omega)]; simp), by go_grown⟩
    · have hm0' : ((m : Int) != 0) = true := by simp; omega
      go_enter Tryz.func96, Tryz.ntmps96
      go_wp2_with fail
      go_ret
      exact ⟨ret_bool (by rw [HR.out, decide_eq_false hm0]; simp), by go_grown⟩
  · by_cases h6 : k = 6
    · subst h6
      clear h5
      have hr := right_6 (n := n) (t := t) (ws := ws)
      have hcon := containsW_any 121 (enters_of Tryz.func121 (by kernel_rfl) rfl) notW_right (.slice p m c) ws Heach.out (by rw [Hm.out]; omega)
      have hjo := joinW_any (.slice p m c) ws
      have Hcon := Lib.hid fun (W : World) (hb : Below w.heap.size w W) => hcon W (HV.out.below hb (Nat.le_refl _)) (HS.out.below hb (Nat.le_refl _))
      have Hjo := Lib.hid fun (W : World) (hb : Below w.heap.size w W) => hjo W (HS.out.below hb (Nat.le_refl _)) (by rw [Hm.out]; omega) Hj.out
      rw [Hm.out] at hr
      have hJ : (B (joined ws)).size = (joined ws).length := by simp [ByteArray.size]
      have hJb := Hj.out
      rw [← hJ] at hr hJb
      clear hcon hjo hJ
      generalize B (joined ws) = J at *
      generalize allW ws = aw at *
      generalize right wordL ⟨6, n, t, ws⟩ = R at *
      have HR := Lib.hid hr
      clear hr
      cases he : t.toList.isEmpty with
      | false =>
        rw [he] at HR
        go_enter Tryz.func96, Tryz.ntmps96
        go_wp2_with fail
        go_ret
        exact ⟨ret_bool (by rw [HR.out]; simp), by go_grown⟩
      | true =>
        rw [he] at HR
        rcases (show n < 0 ∨ n = 0 ∨ 0 < n by omega) with h | rfl | h
        · go_enter Tryz.func96, Tryz.ntmps96
          go_wp2_with fail
          refine (ends_any 6 _).mono ?_
          rintro e w1 ⟨rfl, rfl⟩
          rw [show least 6 = 0 from rfl, show most 6 = 0 from rfl]
          go_wp2_with fail
          go_ret
          exact ⟨ret_bool (by rw [HR.out, decide_eq_false (p := 0 ≤ n) (by omega)]; simp), by go_grown⟩
        · by_cases h16 : m ≤ 16
          · go_enter Tryz.func96, Tryz.ntmps96
            go_wp2_with fail
            refine (ends_any 6 _).mono ?_
            rintro e w1 ⟨rfl, rfl⟩
            rw [show least 6 = 0 from rfl, show most 6 = 0 from rfl]
            go_wp2_with fail
            refine (Hcon.out _ ((Below.refl _ w).alloc (Nat.le_refl _) _)).mono ?_
            rintro e w2 ⟨rfl, hb2⟩
            have Hb2 := Lib.hid (((Below.refl _ w).alloc (Nat.le_refl _) _).trans (hb2.mono (by simp)))
            obtain ⟨⟨b0, b1, b2, b3⟩, _⟩ := res_cells hb2
            clear hb2
            cases aw with
            | false =>
              go_wp2_with fail
              go_ret
              exact ⟨ret_bool (by rw [HR.out]; simp), Hb2.out⟩
            | true =>
              by_cases hJ2 : J.size ≤ 200
              · go_wp2_with fail
                refine (Hjo.out _ Hb2.out).mono ?_
                rintro e w3 ⟨rfl, hb3⟩
                go_wp2_with fail
                go_ret
                exact ⟨ret_bool (by rw [HR.out, decide_eq_true h16, decide_eq_true hJ2]; simp; try omega), Hb2.out.trans (hb3.mono Hb2.out.size)⟩
              · go_wp2_with fail
                refine (Hjo.out _ Hb2.out).mono ?_
                rintro e w3 ⟨rfl, hb3⟩
                go_wp2_with fail
                go_ret
                exact ⟨ret_bool (by rw [HR.out, decide_eq_true h16, decide_eq_false hJ2]; simp; try omega), Hb2.out.trans (hb3.mono Hb2.out.size)⟩
          · go_enter Tryz.func96, Tryz.ntmps96
            go_wp2_with fail
            refine (ends_any 6 _).mono ?_
            rintro e w1 ⟨rfl, rfl⟩
            rw [show least 6 = 0 from rfl, show most 6 = 0 from rfl]
            go_wp2_with fail
            go_ret
            exact ⟨ret_bool (by rw [HR.out, decide_eq_false h16]; simp), by go_grown⟩
        · go_enter Tryz.func96, Tryz.ntmps96
          go_wp2_with fail
          refine (ends_any 6 _).mono ?_
          rintro e w1 ⟨rfl, rfl⟩
          rw [show least 6 = 0 from rfl, show most 6 = 0 from rfl]
          go_wp2_with fail
          go_ret
          exact ⟨ret_bool (by rw [HR.out, decide_eq_false (p := n ≤ 0) (by omega)]; simp), by go_grown⟩
    · have hr := right_c (n := n) (t := t) (ws := ws) h5 h6
      have hwe : ws.isEmpty = decide (m = 0) := by rw [← Hm.out]; cases ws <;> rfl
      rw [hwe] at hr
      have q5 : (k != 5) = true := by simp [h5]
      have q6 : (k != 6) = true := by simp [h6]
      have q5' : (k == 5) = false := by simp [h5]
      have q6' : (k == 6) = false := by simp [h6]
      have Hends := Lib.hid fun W => ends_any k W
      have hK := kinds k
      have hkd : Hid (decide (k = 1 ∨ k = 2 ∨ k = 3 ∨ k = 4) = ((k == 1) || (k == 2) || (k == 3) || (k == 4))) := Lib.hid (by
        rw [Bool.eq_iff_iff]
        simp only [decide_eq_true_eq, Bool.or_eq_true, beq_iff_eq]
        omega)
      rw [hkd.out] at hr
      generalize least k = L at *
      generalize most k = M at *
      generalize right wordL ⟨k, n, t, ws⟩ = R at *
      have HR := Lib.hid hr
      clear hr hwe hkd h5 h6
      cases he : t.toList.isEmpty with
      | false =>
        rw [he] at HR
        clear hK
        go_enter Tryz.func96, Tryz.ntmps96
        go_wp2_with fail
        go_ret
        exact ⟨ret_bool (by rw [HR.out]; simp), by go_grown⟩
      | true =>
        rw [he] at HR
        by_cases hm0 : m = 0
        · subst hm0
          by_cases hnL : n < L
          · clear hK
            go_enter Tryz.func96, Tryz.ntmps96
            go_wp2_with fail
            refine (Hends.out _).mono ?_
            rintro e w1 ⟨rfl, rfl⟩
            go_wp2_with fail
            go_ret
            exact ⟨ret_bool (by rw [HR.out, decide_eq_false (p := L ≤ n) (by omega)]; simp), by go_grown⟩
          · by_cases hnM : M < n
            · clear hK
              go_enter Tryz.func96, Tryz.ntmps96
              go_wp2_with fail
              refine (Hends.out _).mono ?_
              rintro e w1 ⟨rfl, rfl⟩
              go_wp2_with fail
              go_ret
              exact ⟨ret_bool (by rw [HR.out, decide_eq_false (p := n ≤ M) (by omega)]; simp), by go_grown⟩
            · have HR2 : Hid (R = ((k == 1) || (k == 2) || (k == 3) || (k == 4))) := Lib.hid (by rw [HR.out, decide_eq_true (p := L ≤ n) (by omega), decide_eq_true (p := n ≤ M) (by omega)]; simp)
              have hK2 : k = 1 ∨ k = 2 ∨ k = 3 ∨ k = 4 ∨ ((k == 1) = false ∧ (k == 2) = false ∧ (k == 3) = false ∧ (k == 4) = false) := by
                simp only [beq_eq_false_iff_ne]
                omega
              clear hK HR
              rcases hK2 with rfl | rfl | rfl | rfl | ⟨q1, q2, q3, q4⟩
              all_goals
                go_enter Tryz.func96, Tryz.ntmps96
                go_wp2_with fail
                refine (Hends.out _).mono ?_
                rintro e w1 ⟨rfl, rfl⟩
                go_wp2_with fail
                go_ret
                refine ⟨ret_bool ?_, by go_grown⟩
              · rw [HR2.out]; rfl
              · rw [HR2.out]; rfl
              · rw [HR2.out]; rfl
              · rw [HR2.out]; rfl
              · rw [HR2.out, q1, q2, q3, q4]; rfl
        · have hm0' : ((m : Int) != 0) = true := by simp; omega
          clear hK
          go_enter Tryz.func96, Tryz.ntmps96
          go_wp2_with fail
          go_ret
          exact ⟨ret_bool (by rw [HR.out, decide_eq_false hm0]; simp), by go_grown⟩
end Go.Proofs.YtpfhhaonfbfheaaGreatDoor.va
/- value.Same, Within and the reference's Same return plain functions. Conditions: the values' words lie in memory; they are no greater than 2147483647 bytes and words. -/
namespace Go.Proofs.YtpfhhaonfbfheaaGreatDoor.va
open Go.ChangeShapes Go.WideShapes Go.ChangeAt Go.RowKit gl

theorem ret_bool' {a b : Bool} (h : a = b) : Ending.returned (.bool a) = .returned (.bool b) := by rw [h]
theorem bel_drewN {b : Nat} {a w : World} (h : Below b a w) (n : Nat) : Below b a (w.drewN n) := h.trans ⟨rfl, rfl, rfl, Nat.le_refl _, fun _ _ => rfl⟩
/-- Two values are the same. -/
theorem same_eq (a b : Val) : decide (a = b) = (decide (a.kind = b.kind) && decide (a.int = b.int) && decide (a.text = b.text) && decide (a.words = b.words)) := by
  obtain ⟨k, n, t, ws⟩ := a
  obtain ⟨k', n', t', ws'⟩ := b
  rw [Bool.eq_iff_iff]
  simp only [decide_eq_true_eq, Bool.and_eq_true, Val.mk.injEq, and_assoc]
theorem str_dec (a b : ByteArray) : (a.toList == b.toList) = decide (a = b) := by
  by_cases h : a = b
  · rw [seq_true h, decide_eq_true h]
  · rw [seq_false h, decide_eq_false h]

/-- The first k words are alike. -/
def eqTo (xs ys : List ByteArray) (k : Nat) : Prop := ∀ j, j < k → xs[j]? = ys[j]?
theorem eqTo_succ {xs ys : List ByteArray} {k : Nat} (h : eqTo xs ys k) (h2 : xs[k]? = ys[k]?) : eqTo xs ys (k + 1) := by
  intro j hj
  rcases Nat.lt_or_ge j k with h1 | h1
  · exact h j h1
  · obtain rfl : j = k := by omega
    exact h2
theorem eqTo_all {xs ys : List ByteArray} (h : eqTo xs ys xs.length) (hl : xs.length = ys.length) : xs = ys := by
  apply List.ext_getElem?
  intro j
  rcases Nat.lt_or_ge j xs.length with h1 | h1
  · exact h j h1
  · rw [List.getElem?_eq_none h1, List.getElem?_eq_none (by omega)]
theorem Strs.at {w : World} {p : Option Addr} {n c : Nat} {xs : List ByteArray} (h : Strs w (.slice p n c) xs) (k : Nat) (hk : k < n) : ∃ b o x, p = some ⟨b, o, none⟩ ∧ b < w.heap.size ∧ xs[k]? = some x ∧ w.cell? ⟨b, o + k, none⟩ = some (.string x) := by
  obtain ⟨p', c', e, hc, h⟩ := h
  simp only [Value.slice.injEq] at e
  obtain ⟨rfl, rfl, rfl⟩ := e
  rcases h with rfl | ⟨b, o, rfl, hlt, hat⟩
  · simp at hk
  · exact ⟨b, o, _, rfl, hlt, List.getElem?_eq_getElem hk, hat k _ (List.getElem?_eq_getElem hk)⟩

end Go.Proofs.YtpfhhaonfbfheaaGreatDoor.va
/- value.Within returns the plain function. Conditions: as for Right. -/
namespace Go.Proofs.YtpfhhaonfbfheaaGreatDoor.va
open Go.ChangeShapes Go.WideShapes Go.ChangeAt Go.RowKit gl

theorem right_kind {v : Val} (h : right wordL v = true) : v.kind = 1 ∨ v.kind = 2 ∨ v.kind = 3 ∨ v.kind = 4 ∨ v.kind = 5 ∨ v.kind = 6 := by
  rcases right_cases h with h | h | h | h | h <;> have := h.1 <;> omega
/-- Within, by kinds. -/
theorem within_f {v : Val} {lo hi : Int} (h : right wordL v = false) : within wordL v lo hi = false := by unfold within; rw [h]; rfl
theorem within_n {v : Val} {lo hi : Int} (h : right wordL v = true) (hk : v.kind = 2 ∨ v.kind = 3 ∨ v.kind = 4) : within wordL v lo hi = decide (lo ≤ v.int ∧ v.int ≤ hi) := by unfold within; rw [h, if_pos hk]; rfl
theorem within_6 {v : Val} {lo hi : Int} (h : right wordL v = true) (hk : v.kind = 6) : within wordL v lo hi = decide (lo ≤ v.words.length ∧ (v.words.length : Int) ≤ hi) := by unfold within; rw [h, if_neg (by omega), if_pos hk]; rfl
theorem within_o {v : Val} {lo hi : Int} (h : right wordL v = true) (hk : v.kind = 1 ∨ v.kind = 5) : within wordL v lo hi = true := by unfold within; rw [h, if_neg (by omega), if_neg (by omega)]; rfl

set_option maxHeartbeats 2000000 in
set_option maxRecDepth 100000 in
theorem Within_any (v : Val) (hb : Vb v) (lo hi : Int) (sl : Value) (w : World) (hV : Vlo w) (hS : Strs w sl v.words) :
    Calls Tryz.prog 72 #[rep v sl, .int .i64 lo, .int .i64 hi] w fun e w' => e = .returned (.bool (within wordL v lo hi)) ∧ Below w.heap.size w w' := by
  have HRi := Lib.hid fun (W : World) (hbW : Below w.heap.size w W) => Right_any v hb sl W (hV.below hbW (Nat.le_refl _)) (hS.below hbW (Nat.le_refl _))
  clear hV hb
  obtain ⟨p, c, rfl, hc, _⟩ := hS
  obtain ⟨k, n, t, ws⟩ := v
  simp only at hc
  obtain ⟨m, hm⟩ : ∃ m, ws.length = m := ⟨_, rfl⟩
  unfold rep at *
  simp only at *
  rw [hm] at HRi hc ⊢
  cases hr : right wordL ⟨k, n, t, ws⟩ with
  | false =>
    have HW := Lib.hid (within_f (lo := lo) (hi := hi) hr)
    rw [hr] at HRi
    clear hr hm
    go_enter Tryz.func72, Tryz.ntmps72
    go_wp2_with fail
    refine (HRi.out _ ((Below.refl _ w).alloc (Nat.le_refl _) _)).mono ?_
    rintro e w1 ⟨rfl, hb⟩
    have Hb := Lib.hid (((Below.refl _ w).alloc (Nat.le_refl _) _).trans (hb.mono (by simp)))
    obtain ⟨⟨b0, b1, b2, b3⟩, _⟩ := res_cells hb
    clear hb
    go_wp2_with fail
    go_ret
    exact ⟨ret_bool (by rw [HW.out]), Hb.out⟩
  | true =>
    have hk := right_kind hr
    simp only at hk
    rw [hr] at HRi
    rcases hk with rfl | rfl | rfl | rfl | rfl | rfl
    · have HW := Lib.hid (within_o (lo := lo) (hi := hi) hr (by simp))
      clear hr hm
      go_enter Tryz.func72, Tryz.ntmps72
      go_wp2_with fail
      refine (HRi.out _ ((Below.refl _ w).alloc (Nat.le_refl _) _)).mono ?_
      rintro e w1 ⟨rfl, hb⟩
      have Hb := Lib.hid (((Below.refl _ w).alloc (Nat.le_refl _) _).trans (hb.mono (by simp)))
      obtain ⟨⟨b0, b1, b2, b3⟩, _⟩ := res_cells hb
      clear hb
      go_wp2_with fail
      go_ret
      exact ⟨ret_bool (by rw [HW.out]), Hb.out⟩
    · have HW := Lib.hid (within_n (lo := lo) (hi := hi) hr (by simp))
      simp only at HW
      clear hr hm
      by_cases h1 : lo ≤ n
      · by_cases h2 : n ≤ hi
        · go_enter Tryz.func72, Tryz.ntmps72
          go_wp2_with fail
          refine (HRi.out _ ((Below.refl _ w).alloc (Nat.le_refl _) _)).mono ?_
          rintro e w1 ⟨rfl, hb⟩
          have Hb := Lib.hid (((Below.refl _ w).alloc (Nat.le_refl _) _).trans (hb.mono (by simp)))
          obtain ⟨⟨b0, b1, b2, b3⟩, _⟩ := res_cells hb
          clear hb
          go_wp2_with fail
          go_ret
          exact ⟨ret_bool (by rw [HW.out]; first | exact decide_eq_true (by omega) | exact (decide_eq_true (by omega)).trans (decide_eq_true (by omega)).symm), Hb.out⟩
        · go_enter Tryz.func72, Tryz.ntmps72
          go_wp2_with fail
          refine (HRi.out _ ((Below.refl _ w).alloc (Nat.le_refl _) _)).mono ?_
          rintro e w1 ⟨rfl, hb⟩
          have Hb := Lib.hid (((Below.refl _ w).alloc (Nat.le_refl _) _).trans (hb.mono (by simp)))
          obtain ⟨⟨b0, b1, b2, b3⟩, _⟩ := res_cells hb
          clear hb
          go_wp2_with fail
          go_ret
          exact ⟨ret_bool (by rw [HW.out]; first | exact decide_eq_false (by omega) | exact (decide_eq_false (by omega)).trans (decide_eq_false (by omega)).symm), Hb.out⟩
      · go_enter Tryz.func72, Tryz.ntmps72
        go_wp2_with fail
        refine (HRi.out _ ((Below.refl _ w).alloc (Nat.le_refl _) _)).mono ?_
        rintro e w1 ⟨rfl, hb⟩
        have Hb := Lib.hid (((Below.refl _ w).alloc (Nat.le_refl _) _).trans (hb.mono (by simp)))
        obtain ⟨⟨b0, b1, b2, b3⟩, _⟩ := res_cells hb
        clear hb
        go_wp2_with fail
        go_ret
        exact ⟨ret_bool (by rw [HW.out]; first | exact decide_eq_false (by omega) | exact (decide_eq_false (by omega)).trans (decide_eq_false (by omega)).symm), Hb.out⟩
    · have HW := Lib.hid (within_n (lo := lo) (hi := hi) hr (by simp))
      simp only at HW
      clear hr hm
      by_cases h1 : lo ≤ n
      · by_cases h2 : n ≤ hi
        · go_enter Tryz.func72, Tryz.ntmps72
          go_wp2_with fail
          refine (HRi.out _ ((Below.refl _ w).alloc (Nat.le_refl _) _)).mono ?_
          rintro e w1 ⟨rfl, hb⟩
          have Hb := Lib.hid (((Below.refl _ w).alloc (Nat.le_refl _) _).trans (hb.mono (by simp)))
          obtain ⟨⟨b0, b1, b2, b3⟩, _⟩ := res_cells hb
          clear hb
          go_wp2_with fail
          go_ret
          exact ⟨ret_bool (by rw [HW.out]; first | exact decide_eq_true (by omega) | exact (decide_eq_true (by omega)).trans (decide_eq_true (by omega)).symm), Hb.out⟩
        · go_enter Tryz.func72, Tryz.ntmps72
          go_wp2_with fail
          refine (HRi.out _ ((Below.refl _ w).alloc (Nat.le_refl _) _)).mono ?_
          rintro e w1 ⟨rfl, hb⟩
          have Hb := Lib.hid (((Below.refl _ w).alloc (Nat.le_refl _) _).trans (hb.mono (by simp)))
          obtain ⟨⟨b0, b1, b2, b3⟩, _⟩ := res_cells hb
          clear hb
          go_wp2_with fail
          go_ret
          exact ⟨ret_bool (by rw [HW.out]; first | exact decide_eq_false (by omega) | exact (decide_eq_false (by omega)).trans (decide_eq_false (by omega)).symm), Hb.out⟩
      · go_enter Tryz.func72, Tryz.ntmps72
        go_wp2_with fail
        refine (HRi.out _ ((Below.refl _ w).alloc (Nat.le_refl _) _)).mono ?_
        rintro e w1 ⟨rfl, hb⟩
        have Hb := Lib.hid (((Below.refl _ w).alloc (Nat.le_refl _) _).trans (hb.mono (by simp)))
        obtain ⟨⟨b0, b1, b2, b3⟩, _⟩ := res_cells hb
        clear hb
        go_wp2_with fail
        go_ret
        exact ⟨ret_bool (by rw [HW.out]; first | exact decide_eq_false (by omega) | exact (decide_eq_false (by omega)).trans (decide_eq_false (by omega)).symm), Hb.out⟩
    · have HW := Lib.hid (within_n (lo := lo) (hi := hi) hr (by simp))
      simp only at HW
      clear hr hm
      by_cases h1 : lo ≤ n
      · by_cases h2 : n ≤ hi
        · go_enter Tryz.func72, Tryz.ntmps72
          go_wp2_with fail
          refine (HRi.out _ ((Below.refl _ w).alloc (Nat.le_refl _) _)).mono ?_
          rintro e w1 ⟨rfl, hb⟩
          have Hb := Lib.hid (((Below.refl _ w).alloc (Nat.le_refl _) _).trans (hb.mono (by simp)))
          obtain ⟨⟨b0, b1, b2, b3⟩, _⟩ := res_cells hb
          clear hb
          go_wp2_with fail
          go_ret
          exact ⟨ret_bool (by rw [HW.out]; first | exact decide_eq_true (by omega) | exact (decide_eq_true (by omega)).trans (decide_eq_true (by omega)).symm), Hb.out⟩
        · go_enter Tryz.func72, Tryz.ntmps72
          go_wp2_with fail
          refine (HRi.out _ ((Below.refl _ w).alloc (Nat.le_refl _) _)).mono ?_
          rintro e w1 ⟨rfl, hb⟩
          have Hb := Lib.hid (((Below.refl _ w).alloc (Nat.le_refl _) _).trans (hb.mono (by simp)))
          obtain ⟨⟨b0, b1, b2, b3⟩, _⟩ := res_cells hb
          clear hb
          go_wp2_with fail
          go_ret
          exact ⟨ret_bool (by rw [HW.out]; first | exact decide_eq_false (by omega) | exact (decide_eq_false (by omega)).trans (decide_eq_false (by omega)).symm), Hb.out⟩
      · go_enter Tryz.func72, Tryz.ntmps72
        go_wp2_with fail
        refine (HRi.out _ ((Below.refl _ w).alloc (Nat.le_refl _) _)).mono ?_
        rintro e w1 ⟨rfl, hb⟩
        have Hb := Lib.hid (((Below.refl _ w).alloc (Nat.le_refl _) _).trans (hb.mono (by simp)))
        obtain ⟨⟨b0, b1, b2, b3⟩, _⟩ := res_cells hb
        clear hb
        go_wp2_with fail
        go_ret
        exact ⟨ret_bool (by rw [HW.out]; first | exact decide_eq_false (by omega) | exact (decide_eq_false (by omega)).trans (decide_eq_false (by omega)).symm), Hb.out⟩
    · have HW := Lib.hid (within_o (lo := lo) (hi := hi) hr (by simp))
      clear hr hm
      go_enter Tryz.func72, Tryz.ntmps72
      go_wp2_with fail
      refine (HRi.out _ ((Below.refl _ w).alloc (Nat.le_refl _) _)).mono ?_
      rintro e w1 ⟨rfl, hb⟩
      have Hb := Lib.hid (((Below.refl _ w).alloc (Nat.le_refl _) _).trans (hb.mono (by simp)))
      obtain ⟨⟨b0, b1, b2, b3⟩, _⟩ := res_cells hb
      clear hb
      go_wp2_with fail
      go_ret
      exact ⟨ret_bool (by rw [HW.out]), Hb.out⟩
    · have HW := Lib.hid (within_6 (lo := lo) (hi := hi) hr rfl)
      simp only [hm] at HW
      clear hr hm
      by_cases h1 : lo ≤ (m : Int)
      · by_cases h2 : (m : Int) ≤ hi
        · go_enter Tryz.func72, Tryz.ntmps72
          go_wp2_with fail
          refine (HRi.out _ ((Below.refl _ w).alloc (Nat.le_refl _) _)).mono ?_
          rintro e w1 ⟨rfl, hb⟩
          have Hb := Lib.hid (((Below.refl _ w).alloc (Nat.le_refl _) _).trans (hb.mono (by simp)))
          obtain ⟨⟨b0, b1, b2, b3⟩, _⟩ := res_cells hb
          clear hb
          go_wp2_with fail
          go_ret
          exact ⟨ret_bool (by rw [HW.out]; first | exact decide_eq_true (by omega) | exact (decide_eq_true (by omega)).trans (decide_eq_true (by omega)).symm), Hb.out⟩
        · go_enter Tryz.func72, Tryz.ntmps72
          go_wp2_with fail
          refine (HRi.out _ ((Below.refl _ w).alloc (Nat.le_refl _) _)).mono ?_
          rintro e w1 ⟨rfl, hb⟩
          have Hb := Lib.hid (((Below.refl _ w).alloc (Nat.le_refl _) _).trans (hb.mono (by simp)))
          obtain ⟨⟨b0, b1, b2, b3⟩, _⟩ := res_cells hb
          clear hb
          go_wp2_with fail
          go_ret
          exact ⟨ret_bool (by rw [HW.out]; first | exact decide_eq_false (by omega) | exact (decide_eq_false (by omega)).trans (decide_eq_false (by omega)).symm), Hb.out⟩
      · go_enter Tryz.func72, Tryz.ntmps72
        go_wp2_with fail
        refine (HRi.out _ ((Below.refl _ w).alloc (Nat.le_refl _) _)).mono ?_
        rintro e w1 ⟨rfl, hb⟩
        have Hb := Lib.hid (((Below.refl _ w).alloc (Nat.le_refl _) _).trans (hb.mono (by simp)))
        obtain ⟨⟨b0, b1, b2, b3⟩, _⟩ := res_cells hb
        clear hb
        go_wp2_with fail
        go_ret
        exact ⟨ret_bool (by rw [HW.out]; first | exact decide_eq_false (by omega) | exact (decide_eq_false (by omega)).trans (decide_eq_false (by omega)).symm), Hb.out⟩
end Go.Proofs.YtpfhhaonfbfheaaGreatDoor.va
/- Package key: what a definition must be; where a name stands. Conditions: texts of at most 2147483647 bytes; the listed variables hold what the program's text lays. -/
namespace Go.Proofs.YtpfhhaonfbfheaaGreatDoor.ky
open Go.ChangeShapes Go.WideShapes Go.ChangeAt Go.RowKit gl va ls

set_option maxHeartbeats 1000000 in
theorem bounds_any (k : Int) (w : World) : Calls Tryz.prog 91 #[.int .i64 k] w fun e w' => e = .returned (.tuple #[.int .i64 (bndL k).1, .int .i64 (bndL k).2.1, .bool (bndL k).2.2]) ∧ w' = w := by
  by_cases h2 : k = 2
  · subst h2
    go_enter Tryz.func91, Tryz.ntmps91
    go_wp2_with fail
    go_ret3
    exact ⟨rfl, rfl⟩
  by_cases h3 : k = 3
  · subst h3
    go_enter Tryz.func91, Tryz.ntmps91
    go_wp2_with fail
    go_ret3
    exact ⟨rfl, rfl⟩
  by_cases h4 : k = 4
  · subst h4
    go_enter Tryz.func91, Tryz.ntmps91
    go_wp2_with fail
    go_ret3
    exact ⟨rfl, rfl⟩
  by_cases h6 : k = 6
  · subst h6
    go_enter Tryz.func91, Tryz.ntmps91
    go_wp2_with fail
    go_ret3
    exact ⟨rfl, rfl⟩
  have hb : bndL k = (0, 0, false) := by unfold bndL; rw [if_neg h2, if_neg h3, if_neg h4, if_neg h6]
  rw [hb]
  have q2 : (k == 2) = false := by simpa using h2
  have q3 : (k == 3) = false := by simpa using h3
  have q4 : (k == 4) = false := by simpa using h4
  have q6 : (k == 6) = false := by simpa using h6
  go_enter Tryz.func91, Tryz.ntmps91
  go_wp2_with fail
  go_ret3
  exact ⟨rfl, rfl⟩
theorem lit_eq (l : List UInt8) (m : List UInt8) : ((B l).toList == (⟨m.toArray⟩ : ByteArray).toList) = decide (l = m) := str_eq l m
set_option maxHeartbeats 2000000 in
set_option maxRecDepth 100000 in
theorem isLetter_any (l : List UInt8) (hs : l.length ≤ 2147483647) (w : World) : Calls Tryz.prog 90 #[.string (B l)] w fun e w' => e = .returned (.bool (letterL l)) ∧ w' = w := by
  match l with
  | [] =>
    go_enter Tryz.func90, Tryz.ntmps90
    go_wp2_with fail
    go_ret
    exact ⟨rfl, rfl⟩
  | [b] =>
    obtain ⟨s, hs'⟩ : ∃ s, s = B [b] := ⟨_, rfl⟩
    have hz : s.size = 1 := by rw [hs']; rfl
    have h0 : (s.toList == (⟨#[]⟩ : ByteArray).toList) = false := by rw [hs', show (⟨#[]⟩ : ByteArray) = ⟨([] : List UInt8).toArray⟩ from rfl, lit_eq]; simp
    have h1 : (s.toList == (⟨#[104]⟩ : ByteArray).toList) = decide (b = 104) := by rw [hs', show (⟨#[104]⟩ : ByteArray) = ⟨([104] : List UInt8).toArray⟩ from rfl, lit_eq]; simp
    have h2 : (s.toList != (⟨#[104]⟩ : ByteArray).toList) = !decide (b = 104) := by rw [bne, h1]
    have hb : ∀ h : 0 < s.size, ((s[0]'h).toNat : Int) = (b.toNat : Int) := fun h => by subst hs'; rfl
    rw [← hs']
    have hb0 : (0 : Int) ≤ (b.toNat : Int) := by omega
    have hb1 : (b.toNat : Int) ≤ 255 := by have := b.toNat_lt; omega
    have h104 : decide (b.toNat ≠ 104) = !decide (b = 104) := by
      by_cases h : b = 104
      · subst h; rfl
      · have hn : b.toNat ≠ 104 := fun e => h (UInt8.toNat_inj.1 (by rw [e]; rfl))
        simp [h, hn]
    have Hr : Hid (letterL [b] = (decide (97 ≤ b.toNat) && decide (b.toNat ≤ 122) && !decide (b = 104))) := Lib.hid (by
      show (decide (97 ≤ b.toNat) && decide (b.toNat ≤ 122) && decide (b.toNat ≠ 104)) = _
      rw [h104])
    have hi0 : (0 : Nat) < s.size := by omega
    have hbq := hb hi0
    have hemp : s.toList.isEmpty = false := by rw [hs', ByteArray.toList_eq]; rfl
    have h1b : (s.toList == [104]) = decide (b = 104) := by rw [← h1, show (⟨#[104]⟩ : ByteArray).toList = [104] by rw [ByteArray.toList_eq]]
    clear hs' h104 hs
    obtain ⟨c3, hc3⟩ : ∃ c3, decide (b = 104) = c3 := ⟨_, rfl⟩
    rw [hc3] at h1 h2 h1b Hr
    clear hc3 hb
    by_cases g1 : 97 ≤ b.toNat
    · have p1 : decide ((97 : Int) ≤ (b.toNat : Int)) = true := by simp; omega
      have p1' : (97 : Int) ≤ (b.toNat : Int) := by omega
      by_cases g2 : b.toNat ≤ 122
      · have p2 : decide ((b.toNat : Int) ≤ 122) = true := by simp; omega
        have p2' : (b.toNat : Int) ≤ 122 := by omega
        have e : letterL [b] = !c3 := by rw [Hr.out]; simp [g1, g2]
        rw [e]
        clear Hr e
        cases c3
        all_goals
          go_enter Tryz.func90, Tryz.ntmps90
          go_wp2_with fail
          go_ret
          exact ⟨rfl, rfl⟩
      · have p2 : decide ((b.toNat : Int) ≤ 122) = false := by simp; omega
        have p2' : ¬ (b.toNat : Int) ≤ 122 := by omega
        have e : letterL [b] = false := by rw [Hr.out]; simp [g2]
        rw [e]
        clear Hr e
        go_enter Tryz.func90, Tryz.ntmps90
        go_wp2_with fail
        go_ret
        exact ⟨rfl, rfl⟩
    · have p1 : decide ((97 : Int) ≤ (b.toNat : Int)) = false := by simp; omega
      have p1' : ¬ (97 : Int) ≤ (b.toNat : Int) := by omega
      have e : letterL [b] = false := by rw [Hr.out]; simp [g1]
      rw [e]
      clear Hr e
      go_enter Tryz.func90, Tryz.ntmps90
      go_wp2_with fail
      go_ret
      exact ⟨rfl, rfl⟩
  | a :: b :: r =>
    obtain ⟨s, hs'⟩ : ∃ s, s = B (a :: b :: r) := ⟨_, rfl⟩
    have hz : s.size = r.length + 2 := by rw [hs']; simp [ByteArray.size]
    have h0 : (s.toList == (⟨#[]⟩ : ByteArray).toList) = false := by rw [hs', show (⟨#[]⟩ : ByteArray) = ⟨([] : List UInt8).toArray⟩ from rfl, lit_eq]; simp
    have h1 : ((s.size : Int) == 1) = false := by rw [hz]; simp; omega
    have hemp : s.toList.isEmpty = false := by rw [hs', ByteArray.toList_eq]; rfl
    rw [← hs', show letterL (a :: b :: r) = false from rfl]
    clear hs' hz hs
    go_enter Tryz.func90, Tryz.ntmps90
    go_wp2_with fail
    go_ret
    exact ⟨rfl, rfl⟩
theorem form_bad {x : Ky} (h : nameL x.name = false ∨ letterL x.letter = false) : formL x = false := by
  unfold formL
  rcases h with h | h <;> simp [h]
theorem form_num {x : Ky} (h1 : nameL x.name = true) (h2 : letterL x.letter = true) (h3 : (bndL x.kind).2.2 = true) : formL x = (decide ((bndL x.kind).1 ≤ x.least) && (decide (x.least ≤ x.most) && decide (x.most ≤ (bndL x.kind).2.1))) := by
  unfold formL
  rw [h1, h2, if_pos h3, Bool.true_and, Bool.true_and, Bool.and_assoc]
theorem form_not {x : Ky} (h1 : nameL x.name = true) (h2 : letterL x.letter = true) (h3 : (bndL x.kind).2.2 = false) : formL x = (((x.kind == 1) || (x.kind == 5)) && ((x.least == 0) && (x.most == 0))) := by
  unfold formL
  rw [h1, h2, if_neg (by rw [h3]; simp), Bool.true_and, Bool.true_and, Bool.and_assoc]
  have e : ∀ a b : Int, decide (a = b) = (a == b) := fun a b => by rw [Bool.eq_iff_iff, decide_eq_true_iff, beq_iff_eq]
  rw [e, e, Bool.decide_or, e, e]
set_option maxHeartbeats 4000000 in
set_option maxRecDepth 100000 in
theorem formed_any (x : Ky) (hx : KyOk x) (w : World) (hG : Glo w) :
    Calls Tryz.prog 70 #[.agg #[.string (B x.name), .int .i64 x.kind, .string (B x.dflt), .int .i64 x.least, .int .i64 x.most, .string (B x.letter)]] w fun e w' => e = .returned (.bool (formL x)) ∧ Below w.heap.size w w' := by
  obtain ⟨wA, hA⟩ : ∃ wA, wA = w.alloc (.cells #[.string (B x.name), .int .i64 x.kind, .string (B x.dflt), .int .i64 x.least, .int .i64 x.most, .string (B x.letter)] 62) := ⟨_, rfl⟩
  have kA : wA.heap[w.heap.size]? = some (.cells #[.string (B x.name), .int .i64 x.kind, .string (B x.dflt), .int .i64 x.least, .int .i64 x.most, .string (B x.letter)] 62 (0, 0)) := by rw [hA]; exact heap_alloc_new w _
  have hbA : Below w.heap.size w wA := by rw [hA]; exact (Below.refl _ _).alloc (Nat.le_refl _) _
  have HN := Lib.hid (IsName_any (B x.name) (by rw [show (B x.name).size = x.name.length by simp [ByteArray.size]]; exact hx.1) wA (hG.below hbA (Nat.le_refl _)))
  rw [B_list] at HN
  have HL := Lib.hid fun W => isLetter_any x.letter hx.2.2.1 W
  have HBd := Lib.hid fun W => bounds_any x.kind W
  have F1 := Lib.hid (@form_bad x)
  have F2 := Lib.hid (@form_num x)
  have F3 := Lib.hid (@form_not x)
  have HkA := Lib.hid kA
  have HbA := Lib.hid hbA
  have HA := Lib.hid hA
  clear kA hbA hA hG hx
  generalize formL x = fx at *
  generalize nameL x.name = nn at *
  generalize letterL x.letter = ll at *
  generalize bndL x.kind = bd at *
  obtain ⟨lo, hi, bb⟩ := bd
  dsimp only at HBd F2 F3
  generalize B x.name = nm at *
  generalize B x.dflt = df at *
  generalize B x.letter = lt at *
  generalize x.kind = kk at *
  generalize x.least = le at *
  generalize x.most = mo at *
  go_enter Tryz.func70, Tryz.ntmps70
  go_wp2_with fail
  rw [← HA.out]
  refine HN.out.mono ?_
  rintro e w1 ⟨rfl, hb1⟩
  have Hb1 := Lib.hid (then_bel HbA.out hb1)
  have hk1 := (hb1.block _ (lt_of_block HkA.out)).trans HkA.out
  have a1 : w1.cell? ⟨w.heap.size, 1, none⟩ = some (.int .i64 kk) := cell_in hk1
  have a3 : w1.cell? ⟨w.heap.size, 3, none⟩ = some (.int .i64 le) := cell_in hk1
  have a4 : w1.cell? ⟨w.heap.size, 4, none⟩ = some (.int .i64 mo) := cell_in hk1
  have a5 : w1.cell? ⟨w.heap.size, 5, none⟩ = some (.string lt) := cell_in hk1
  have hgw1 : w.heap.size < w1.heap.size := lt_of_block hk1
  clear hb1 hk1
  cases nn with
  | false =>
    have hf := Lib.hid (F1.out (.inl rfl))
    go_wp2_with fail
    go_ret
    exact ⟨by rw [hf.out]; rfl, Hb1.out⟩
  | true =>
    go_wp2_with fail
    refine (HL.out _).mono ?_
    rintro e w0 ⟨rfl, hw0⟩
    obtain rfl : w1 = w0 := hw0.symm
    cases ll with
    | false =>
      have hf := Lib.hid (F1.out (.inr rfl))
      go_wp2_with fail
      go_ret
      exact ⟨by rw [hf.out]; rfl, Hb1.out⟩
    | true =>
      go_wp2_with fail
      refine (HBd.out _).mono ?_
      rintro e w0 ⟨rfl, hw0⟩
      obtain rfl : w1 = w0 := hw0.symm
      cases bb with
      | true =>
        have hf := Lib.hid (F2.out (by simp) (by simp) (by simp))
        obtain ⟨t1, ht1⟩ : ∃ t1, decide (lo ≤ le) = t1 := ⟨_, rfl⟩
        obtain ⟨t2, ht2⟩ : ∃ t2, decide (le ≤ mo) = t2 := ⟨_, rfl⟩
        obtain ⟨t3, ht3⟩ : ∃ t3, decide (mo ≤ hi) = t3 := ⟨_, rfl⟩
        rw [ht1, ht2, ht3] at hf
        cases t1 <;> cases t2 <;> cases t3
        all_goals
          go_wp2_with fail
          go_ret
          exact ⟨by rw [hf.out]; rfl, Hb1.out⟩
      | false =>
        have hf := Lib.hid (F3.out (by simp) (by simp) (by simp))
        obtain ⟨t1, ht1⟩ : ∃ t1, (kk == 1) = t1 := ⟨_, rfl⟩
        obtain ⟨t2, ht2⟩ : ∃ t2, (kk == 5) = t2 := ⟨_, rfl⟩
        obtain ⟨t3, ht3⟩ : ∃ t3, (le == 0) = t3 := ⟨_, rfl⟩
        obtain ⟨t4, ht4⟩ : ∃ t4, (mo == 0) = t4 := ⟨_, rfl⟩
        rw [ht1, ht2, ht3, ht4] at hf
        cases t1 <;> cases t2 <;> cases t3 <;> cases t4
        all_goals
          go_wp2_with fail
          go_ret
          exact ⟨by rw [hf.out]; rfl, Hb1.out⟩
end Go.Proofs.YtpfhhaonfbfheaaGreatDoor.ky
/- value.names, and Print at numbers with units, return plain functions. Conditions: the listed variables hold what the program's text lays; the value's words lie in memory; it is no greater than 2147483647 bytes and words. -/
namespace Go.Proofs.YtpfhhaonfbfheaaGreatDoor.va
open Go.ChangeShapes Go.WideShapes Go.ChangeAt Go.RowKit gl

abbrev nm (k : Int) (i : Nat) : ByteArray := B (uname k i)
/-- The greatest of the first units of which a number is a multiple. -/
def bt (k n : Int) : Nat → Nat
  | 0 => 0
  | i + 1 => if n ≠ 0 ∧ n % unit k (uname k i) = 0 then i else bt k n i
theorem bt_le (k n : Int) (i : Nat) : bt k n i ≤ i := by
  induction i with
  | zero => exact Nat.le_refl _
  | succ i ih => unfold bt; split <;> omega
theorem bt_best (k n : Int) : bt k n 4 = best k n := by
  unfold best
  by_cases h : n = 0
  · simp [bt, h]
  · rw [if_neg h]
    simp only [bt, h, ne_eq, not_false_eq_true, true_and]
    repeat' split
    all_goals rfl
theorem decDigits_len (u : Nat) : (Lib.decDigits u).length ≤ u + 1 := by
  induction u using Nat.strongRecOn with
  | _ u ih =>
    by_cases h : u < 10
    · rw [decDigits_lt h]; simp
    · rw [decDigits_ge h]
      have := ih (u / 10) (by omega)
      simp
      omega
theorem uname_len (k : Int) (i : Nat) : (uname k i).length ≤ 1 := by
  unfold uname
  repeat' split
  all_goals simp
theorem formatBool_eq (b : Bool) : (⟨(Lib.formatBool b).toArray⟩ : ByteArray) = B (if b then [116, 114, 117, 101] else [102, 97, 108, 115, 101]) := by cases b <;> decide +kernel

/-- What the loop over the units' names keeps. -/
def S16 (w0 : World) (b : Nat) (k n : Int) (w' : World) : Prop := w'.cell? ⟨b, 0, none⟩ = some (.int .i64 k) ∧ w'.cell? ⟨b, 1, none⟩ = some (.int .i64 n) ∧ Hid (Below w0.heap.size w0 w')
theorem s16_drew {w0 wp : World} {b : Nat} {k n : Int} (h : wp.cell? ⟨b, 0, none⟩ = some (.int .i64 k) ∧ wp.cell? ⟨b, 1, none⟩ = some (.int .i64 n) ∧ Hid (Below w0.heap.size w0 wp)) :
    wp.drew.cell? ⟨b, 0, none⟩ = some (.int .i64 k) ∧ wp.drew.cell? ⟨b, 1, none⟩ = some (.int .i64 n) ∧ Hid (Below w0.heap.size w0 wp.drew) := ⟨h.1, h.2.1, Lib.hid h.2.2.out.drew⟩
theorem s16_call {w0 wp w' : World} {b : Nat} {k n : Int} (h : wp.cell? ⟨b, 0, none⟩ = some (.int .i64 k) ∧ wp.cell? ⟨b, 1, none⟩ = some (.int .i64 n) ∧ Hid (Below w0.heap.size w0 wp)) (hb : Below wp.heap.size wp w') :
    w'.cell? ⟨b, 0, none⟩ = some (.int .i64 k) ∧ w'.cell? ⟨b, 1, none⟩ = some (.int .i64 n) ∧ Hid (Below w0.heap.size w0 w') :=
  have hlt := World.block_lt_of_cell? _ _ h.1
  ⟨(hb.cell (p := ⟨b, 0, none⟩) hlt).trans h.1, (hb.cell (p := ⟨b, 1, none⟩) hlt).trans h.2.1, Lib.hid (h.2.2.out.trans (hb.mono h.2.2.out.size))⟩
theorem s16_vlo {w0 wp : World} {b : Nat} {k n : Int} (hV : Vlo w0) (h : wp.cell? ⟨b, 0, none⟩ = some (.int .i64 k) ∧ wp.cell? ⟨b, 1, none⟩ = some (.int .i64 n) ∧ Hid (Below w0.heap.size w0 wp)) : Vlo wp := hV.below h.2.2.out (Nat.le_refl _)

theorem Itoa_any (n : Int) (h0 : -9223372036854775808 ≤ n) (h1 : n ≤ 9223372036854775807) (w : World) (hV : Vlo w) :
    Calls Tryz.prog 177 #[.int .i64 n] w fun e w' => e = .returned (.string (B (Lib.itoa n))) ∧ Below w.heap.size w w' :=
  (Tryz.strconv_Itoa n h0 h1 w hV.pow).mono fun _ _ ⟨he, k, os, hw⟩ => ⟨he, hw ▸ Lib.below_grow _ w (Nat.le_refl _) k os⟩

end Go.Proofs.YtpfhhaonfbfheaaGreatDoor.va
/- value.Print returns the plain function. Conditions: the listed variables hold what the program's text lays; the value's words lie in memory; it is no greater than 2147483647 bytes and words. -/
namespace Go.Proofs.YtpfhhaonfbfheaaGreatDoor.va
open Go.ChangeShapes Go.WideShapes Go.ChangeAt Go.RowKit gl

/-- What Print gives. -/
def PrintOut (isW : List UInt8 → Bool) (v : Val) (e : Ending) : Prop := e = .returned (.tuple #[.string (B (print isW v).1), .int .i64 (print isW v).2])
theorem print_t {v : Val} (h : right wordL v = true) : print wordL v = (prints v, 0) := by unfold print; rw [h]; rfl
theorem print_f {v : Val} (h : right wordL v = false) : print wordL v = ([], 1) := by unfold print; rw [h]; rfl

end Go.Proofs.YtpfhhaonfbfheaaGreatDoor.va
/- tinderboxlaw04.awake and ValueStands return true. Conditions: the listed variables hold what the program's text lays. -/
namespace Go.Proofs.YtpfhhaonfbfheaaGreatDoor.va
open Go.ChangeShapes Go.WideShapes Go.ChangeAt Go.RowKit gl

theorem keep {w w' : World} {b : Nat} {o : Obj} (h : w.heap[b]? = some o) (hb : Below w.heap.size w w') : w'.heap[b]? = some o := (hb.block _ (lt_of_block h)).trans h
theorem Strs.later {w w' : World} {v : Value} {xs : List ByteArray} (h : Strs w v xs) (hb : Below w.heap.size w w') : Strs w' v xs := h.below hb (Nat.le_refl _)
theorem Vlo.later {w w' : World} (h : Vlo w) (hb : Below w.heap.size w w') : Vlo w' := h.below hb (Nat.le_refl _)
theorem then_bel {w a b : World} (h : Below w.heap.size w a) (hb : Below a.heap.size a b) : Below w.heap.size w b := h.trans (hb.mono h.size)
theorem then_al {w a : World} (h : Below w.heap.size w a) (o : Obj) : Below w.heap.size w (a.alloc o) := h.alloc h.size o

/-- Parse where its answer is known. -/
theorem parsed (k : Int) (s : ByteArray) (hs : s.size ≤ 2147483647) {a b : Int} {t : ByteArray} {ws : List ByteArray} {er : Int} (h : parse wordL k s.data.toList = (⟨a, b, t, ws⟩, er)) (w : World) (hV : Vlo w) :
    Calls Tryz.prog 71 #[.int .i64 k, .string s] w fun e w' => (∃ (p : Option Addr) (n c : Nat), e = .returned (.tuple #[.agg #[.int .i64 a, .int .i64 b, .string t, .slice p n c], .int .i64 er]) ∧ Strs w' (.slice p n c) ws ∧ n = ws.length) ∧ Below w.heap.size w w' :=
  (Parse_any k s hs w hV).mono fun e w' ⟨⟨sl, he, hf⟩, hb⟩ => by
    rw [h] at he hf
    have hst := hf.strs
    obtain ⟨p, c, rfl, hc⟩ := hst
    exact ⟨⟨p, _, c, he, hf.strs, rfl⟩, hb⟩

theorem e1 : parse wordL 3 (⟨#[50, 48, 52, 56, 107]⟩ : ByteArray).data.toList = (⟨3, 2097152, ByteArray.empty, []⟩, 0) := by kernel_rfl
theorem e2 : parse wordL 6 (⟨#[108, 111, 103, 44, 110, 101, 116]⟩ : ByteArray).data.toList = (⟨6, 0, ByteArray.empty, [⟨#[108, 111, 103]⟩, ⟨#[110, 101, 116]⟩]⟩, 0) := by kernel_rfl
theorem e3 : parse wordL 4 (⟨#[53]⟩ : ByteArray).data.toList = (⟨0, 0, ByteArray.empty, []⟩, 40) := by kernel_rfl
theorem e4 : parse wordL 7 (⟨#[111, 110]⟩ : ByteArray).data.toList = (⟨0, 0, ByteArray.empty, []⟩, 1) := by kernel_rfl
theorem e5 : parse wordL 2 (⟨#[52, 54, 49, 49, 54, 56, 54, 48, 49, 56, 52, 50, 55, 51, 56, 55, 57, 48, 53]⟩ : ByteArray).data.toList = (⟨0, 0, ByteArray.empty, []⟩, 41) := by kernel_rfl
def vA : Val := ⟨3, 2097152, ByteArray.empty, []⟩
def vB : Val := ⟨6, 0, ByteArray.empty, [⟨#[108, 111, 103]⟩, ⟨#[110, 101, 116]⟩]⟩
theorem vA_b : Vb vA := ⟨by decide, by decide, by decide, by decide, by decide, by decide⟩
theorem vB_b : Vb vB := ⟨by decide, by decide, by decide, by decide, by decide, by decide⟩
theorem vA_r : right wordL vA = true := by kernel_rfl
theorem vB_r : right wordL vB = true := by kernel_rfl
theorem vA_p : print wordL vA = ([50, 109], 0) := by
  rw [print_t vA_r]
  have hb : best 3 2097152 = 2 := by kernel_rfl
  have hp : prints vA = Lib.itoa (2097152 / unit 3 (uname 3 (best 3 2097152))) ++ uname 3 (best 3 2097152) := rfl
  rw [hp, hb]
  have h2 : (2097152 : Int) / unit 3 (uname 3 2) = 2 := by kernel_rfl
  rw [h2, itoa_pos (by decide), decDigits_lt (by decide)]
  rfl
theorem vB_w1 : within wordL vB 0 2 = true := by kernel_rfl
theorem vB_w2 : within wordL vB 0 1 = false := by kernel_rfl
theorem vAB : decide (vA = vB) = false := by decide
theorem u_d : unit 4 [100] = 86400 := by decide

end Go.Proofs.YtpfhhaonfbfheaaGreatDoor.va
/- tinderboxlaw04.addsUp and valueWeighs return plain functions of numbers; what is not too great is bounded in each part. Conditions: the value's words lie in memory. -/
namespace Go.Proofs.YtpfhhaonfbfheaaGreatDoor.va
open Go.ChangeShapes Go.WideShapes Go.ChangeAt Go.RowKit gl

/-- What an argument's reading gives: no part is greater than memory. -/
structure Vh (v : Val) : Prop where
  int0 : -9223372036854775808 ≤ v.int
  int1 : v.int ≤ 9223372036854775807
  text : v.text.size ≤ 9223372036854775807
  words : v.words.length ≤ 9223372036854775807
  each : ∀ x ∈ v.words, x.size ≤ 9223372036854775807

def adds (n m : Int) : Int := if 2147483647 < n ∨ 2147483647 < m then 2147483648 else n + m
def wloop (n : Int) : List ByteArray → Int
  | [] => n
  | x :: r => if n ≤ 2147483647 then wloop (adds n x.size) r else n
def weighs (v : Val) : Int := wloop (adds v.text.size v.words.length) v.words
def sz (l : List ByteArray) : Nat := (l.map (·.size)).sum
theorem adds_bd {n m : Int} (hn : 0 ≤ n) (hm : 0 ≤ m) : 0 ≤ adds n m ∧ adds n m ≤ 4294967294 := by unfold adds; split <;> omega
theorem wloop_bd : ∀ (l : List ByteArray) (n : Int), 0 ≤ n → n ≤ 4294967294 → 0 ≤ wloop n l ∧ wloop n l ≤ 4294967294
  | [], n, h0, h1 => ⟨h0, h1⟩
  | x :: r, n, h0, h1 => by
    unfold wloop
    split
    · have := adds_bd h0 (show (0 : Int) ≤ x.size by omega)
      exact wloop_bd r _ this.1 this.2
    · exact ⟨h0, h1⟩
theorem weighs_bd (v : Val) : 0 ≤ weighs v ∧ weighs v ≤ 4294967294 := by
  have := adds_bd (show (0 : Int) ≤ v.text.size by omega) (show (0 : Int) ≤ v.words.length by omega)
  exact wloop_bd _ _ this.1 this.2
theorem wloop_le : ∀ (l : List ByteArray) (n : Int), 0 ≤ n → wloop n l ≤ 2147483647 → n + sz l ≤ 2147483647
  | [], n, _, h => by simpa [wloop, sz] using h
  | x :: r, n, h0, h => by
    unfold wloop at h
    split at h
    · rename_i hn
      have hb := adds_bd h0 (show (0 : Int) ≤ x.size by omega)
      have := wloop_le r _ hb.1 h
      have h1 : adds n x.size = n + x.size := by
        unfold adds
        rw [if_neg]
        intro hx
        unfold adds at this
        rw [if_pos hx] at this
        omega
      rw [h1] at this
      simp only [sz, List.map_cons, List.sum_cons] at this ⊢
      omega
    · omega
theorem sz_mem {l : List ByteArray} {x : ByteArray} (h : x ∈ l) : x.size ≤ sz l := by
  induction l with
  | nil => cases h
  | cons y r ih =>
    simp only [sz, List.map_cons, List.sum_cons]
    rcases List.mem_cons.1 h with rfl | h
    · omega
    · have := ih h
      simp only [sz] at this
      omega
theorem lens_sz (l : List ByteArray) : Lib.lens (l.map (·.data.toList)) = sz l := by
  unfold Lib.lens sz
  rw [List.map_map]
  congr 1
theorem joined_cons (x : ByteArray) (r : List ByteArray) : (joined (x :: r)).length = r.length + sz (x :: r) := by
  unfold joined
  rw [List.map_cons, Lib.join_length, ← List.map_cons (f := fun y : ByteArray => y.data.toList), lens_sz, List.length_map]
  show 1 * r.length + _ = _
  rw [Nat.one_mul]
theorem joined_len (l : List ByteArray) : (joined l).length ≤ l.length + sz l := by
  cases l with
  | nil => simp [joined, Lib.join]
  | cons x r =>
    rw [joined_cons]
    simp only [List.length_cons]
    omega
/-- What is not too great is bounded in each part. -/
theorem vb_of {v : Val} (hh : Vh v) (h : weighs v ≤ 2147483647) : Vb v := by
  have hb := adds_bd (show (0 : Int) ≤ v.text.size by omega) (show (0 : Int) ≤ v.words.length by omega)
  have h1 := wloop_le _ _ hb.1 h
  have h2 : adds v.text.size v.words.length = v.text.size + v.words.length := by
    unfold adds at h1 ⊢
    split
    · rename_i hx
      rw [if_pos hx] at h1
      omega
    · rfl
  rw [h2] at h1
  have hj := joined_len v.words
  exact ⟨hh.int0, hh.int1, by omega, by omega, fun x hx => by have := sz_mem hx; omega, by omega⟩

theorem len_dec : ∀ (k u : Nat), u < 10 ^ (k + 1) → (Lib.decDigits u).length ≤ k + 1
  | 0, u, h => by rw [decDigits_lt (by omega)]; simp
  | k + 1, u, h => by
    by_cases h10 : u < 10
    · rw [decDigits_lt h10]; simp
    · rw [decDigits_ge h10]
      have := len_dec k (u / 10) (by rw [Nat.pow_succ] at h; omega)
      simp
      omega
theorem itoa_len {n : Int} (h0 : -9223372036854775808 ≤ n) (h1 : n ≤ 9223372036854775807) : (Lib.itoa n).length ≤ 20 := by
  by_cases h : n < 0
  · rw [itoa_neg h]
    have := len_dec 18 n.natAbs (by omega)
    simp
    omega
  · rw [itoa_pos h]
    have := len_dec 18 n.toNat (by omega)
    omega
theorem wordL_is : IsWord wordL := by
  refine ⟨fun l h => ?_, fun l h hc => ?_, fun l h => ?_⟩
  · rintro rfl
    exact absurd h (by decide)
  · unfold wordL at h
    simp only [Bool.and_eq_true, List.all_eq_true] at h
    exact absurd (h.1 44 hc) (by decide)
  · unfold wordL at h
    simp only [Bool.and_eq_true, decide_eq_true_eq] at h
    exact h.2.2
/-- What may be is not too great. -/
theorem vb_right {v : Val} (h : right wordL v = true) : Vb v := by
  have hw : ∀ {ws : List ByteArray}, ws = [] → ws.length ≤ 2147483647 ∧ (∀ x ∈ ws, x.size ≤ 2147483647) ∧ (joined ws).length ≤ 140737488355328 := by
    rintro ws rfl
    exact ⟨by simp, by simp, by simp [joined, Lib.join]⟩
  rcases right_cases h with ⟨hk, h1, h2, h3, h4⟩ | ⟨hk, h1, h2, h3, h4⟩ | ⟨hk, h1, h2, h3, h4⟩ | ⟨hk, h1, h2, h3, h4⟩ | ⟨hk, h1, h2, h3, h4, h5⟩
  · exact ⟨by omega, by omega, by rw [h3]; decide, (hw h4).1, (hw h4).2.1, (hw h4).2.2⟩
  · exact ⟨by omega, by omega, by rw [h3]; decide, (hw h4).1, (hw h4).2.1, (hw h4).2.2⟩
  · have hm : most v.kind ≤ 1125899906842624 := by rcases hk with hk | hk <;> rw [hk] <;> decide
    exact ⟨by omega, by omega, by rw [h3]; decide, (hw h4).1, (hw h4).2.1, (hw h4).2.2⟩
  · exact ⟨by omega, by omega, by omega, (hw h4).1, (hw h4).2.1, (hw h4).2.2⟩
  · exact ⟨by omega, by omega, by rw [h2]; decide, by omega, fun x hx => by
      have := wordL_is.size _ (List.all_eq_true.1 h4 x hx)
      rw [← Lib.size_eq] at this
      omega, by omega⟩
theorem prints_len {v : Val} (h : right wordL v = true) : (prints v).length ≤ 200 := by
  rcases right_cases h with ⟨hk, h1, h2, h3, h4⟩ | ⟨hk, h1, h2, h3, h4⟩ | ⟨hk, h1, h2, h3, h4⟩ | ⟨hk, h1, h2, h3, h4⟩ | ⟨hk, h1, h2, h3, h4, h5⟩
  · unfold prints
    rw [if_pos hk]
    split <;> simp
  · unfold prints
    rw [if_neg (by omega), if_pos hk]
    have := itoa_len (n := v.int) (by omega) (by omega)
    omega
  · have hm : most v.kind ≤ 1125899906842624 := by rcases hk with hk | hk <;> rw [hk] <;> decide
    unfold prints
    rw [if_neg (by omega), if_neg (by omega), if_neg (by omega), if_neg (by omega)]
    have hu := unit_uname v.kind (best v.kind v.int) hk (best_le _ _)
    have hq0 : 0 ≤ v.int / unit v.kind (uname v.kind (best v.kind v.int)) := Int.ediv_nonneg h1 (by omega)
    have hq1 : v.int / unit v.kind (uname v.kind (best v.kind v.int)) ≤ v.int := by
      have h6 := Int.mul_le_mul_of_nonneg_left hu hq0
      have h7 := Int.ediv_mul_le v.int (b := unit v.kind (uname v.kind (best v.kind v.int))) (by omega)
      omega
    have := itoa_len (n := v.int / unit v.kind (uname v.kind (best v.kind v.int))) (by omega) (by omega)
    have := uname_len v.kind (best v.kind v.int)
    rw [List.length_append]
    omega
  · unfold prints
    rw [if_neg (by omega), if_neg (by omega), if_pos hk, ← Lib.size_eq]
    exact h2
  · unfold prints
    rw [if_neg (by omega), if_neg (by omega), if_neg (by omega), if_pos hk]
    exact h5
end Go.Proofs.YtpfhhaonfbfheaaGreatDoor.va
/- Package key: a set that takes a definition in. Conditions: texts of at most 2147483647 bytes; the listed variables hold what the program's text lays. -/
namespace Go.Proofs.YtpfhhaonfbfheaaGreatDoor.ky
open Go.ChangeShapes Go.WideShapes Go.ChangeAt Go.RowKit gl va ls

theorem New_any (w : World) : Calls Tryz.prog 46 #[] w fun e w' => e = .returned (.pointer (some ⟨w.heap.size, 0, none⟩)) ∧ SetK w.heap.size w' w.heap.size [] ∧ Below w.heap.size w w' := by
  obtain ⟨wA, hA⟩ : ∃ wA, wA = w.alloc (.cells #[.slice none 0 0] 85) := ⟨_, rfl⟩
  have kA : wA.heap[w.heap.size]? = some (.cells #[.slice none 0 0] 85 (0, 0)) := by rw [hA]; exact heap_alloc_new w _
  have HS : Hid (SetK w.heap.size wA w.heap.size []) := Lib.hid ⟨Nat.le_refl _, by decide, List.Pairwise.nil, (fun x h => nomatch h), ⟨.slice none 0 0, kA, rfl, .inl ⟨rfl, rfl⟩⟩⟩
  have Hb : Hid (Below w.heap.size w wA) := Lib.hid (by rw [hA]; exact (Below.refl _ _).alloc (Nat.le_refl _) _)
  have HA := Lib.hid hA
  clear hA kA
  go_enter Tryz.func46, Tryz.ntmps46
  go_wp2_with fail
  go_ret
  rw [← HA.out]
  exact ⟨rfl, HS.out, Hb.out⟩
theorem addE_form {S : List Ky} {x : Ky} (h : formL x = false) : addE S x = 50 := by unfold addE; rw [if_pos h]
theorem addE_dflt {S : List Ky} {x : Ky} (h : formL x = true) (h2 : dfltL x = false) : addE S x = 53 := by unfold addE; rw [if_neg (by rw [h]; simp), if_pos h2]
theorem addE_rest {S : List Ky} {x : Ky} (h : formL x = true) (h2 : dfltL x = true) : addE S x = if (findK S x.name).isSome then 51 else if (lettK S x.letter).isSome then 52 else if S.length = 64 then 54 else 0 := by unfold addE; rw [if_neg (by rw [h]; simp), if_neg (by rw [h2]; simp)]
theorem add_no {S : List Ky} {x : Ky} (h : addE S x ≠ 0) : addK S x = S := by unfold addK; rw [if_neg h]
theorem add_yes {S : List Ky} {x : Ky} (h : addE S x = 0) : addK S x = insK S x := by unfold addK; rw [if_pos h]
/-- The three ways of a default. -/
theorem dflt_ways (x : Ky) : ((parse wordL x.kind x.dflt).2 ≠ 0 ∧ dfltL x = false) ∨ ((parse wordL x.kind x.dflt).2 = 0 ∧ Vb (parse wordL x.kind x.dflt).1 ∧ dfltL x = within wordL (parse wordL x.kind x.dflt).1 x.least x.most) := by
  by_cases h : (parse wordL x.kind x.dflt).2 = 0
  · refine .inr ⟨h, vb_right (parse_right wordL_is (k := x.kind) (l := x.dflt) (by rw [← h])).1, ?_⟩
    unfold dfltL
    rw [decide_eq_true h, Bool.true_and]
  · refine .inl ⟨h, ?_⟩
    unfold dfltL
    rw [decide_eq_false h, Bool.false_and]
/-- A set that has taken one in. -/
theorem SetK.grown {M : Nat} {w w1 : World} {b k : Nat} {is : Bool} {S : List Ky} {x : Ky} {v v' : Value} (h : SetK M w b S) (hx : KyOk x) (hF : FoundAt (S.map (·.name)) x.name k is) (hn : findK S x.name = none) (hlen : S.length ≠ 64)
    (hv : w.heap[b]? = some (.cells #[v] 85 (0, 0))) (hB : Blk 62 6 M w v S.length (rw.flat kyC S)) (hB' : Blk 62 6 M w1 v' (S.length + 1) (rw.flat kyC (S.take k ++ x :: S.drop k))) (hg : w.grownBy w1 v.ownBlock) :
    SetK M (w1.setCell ⟨b, 0, none⟩ v') b (insK S x) ∧ w1.heap[b]? = some (.cells #[v] 85 (0, 0)) := by
  have hb1 : w1.heap[b]? = some (.cells #[v] 85 (0, 0)) := by
    refine (hg.block b (lt_of_block hv) ?_).trans hv
    intro hh
    rcases hB.2 with ⟨rfl, _⟩ | ⟨g, c, cs, rfl, _, _, hb, _⟩
    · cases hh
    · obtain rfl := Option.some.inj hh
      rw [hv] at hb
      cases hb
  have hi := ins_at hF
  have hil : (insK S x).length = S.length + 1 := by
    rw [hi]
    simp only [List.length_append, List.length_take, List.length_cons, List.length_drop]
    have := hF.1
    rw [List.length_map] at this
    omega
  refine ⟨⟨h.lo, by have := h.len; omega, ins_asc h.asc hF hn, fun y hy => ?_, ⟨v', heap_set (o := 0) hb1 v', ?_⟩⟩, hb1⟩
  · rw [hi] at hy
    rcases List.mem_append.1 hy with hy | hy
    · exact h.ok y (List.mem_of_mem_take hy)
    · rcases List.mem_cons.1 hy with rfl | hy
      · exact hx
      · exact h.ok y (List.mem_of_mem_drop hy)
  · rw [hil, hi]
    refine ⟨hB'.1, ?_⟩
    rcases hB'.2 with h1 | ⟨g, c, cs, e, h1, h2, h3, h4⟩
    · exact .inl h1
    · refine .inr ⟨g, c, cs, e, h1, h2, ?_, h4⟩
      have hne : g ≠ b := by
        rintro rfl
        rw [hb1] at h3
        cases h3
      exact heap_set_ne h3 v' hne
end Go.Proofs.YtpfhhaonfbfheaaGreatDoor.ky
/- Package key: Add. Conditions: texts of at most 2147483647 bytes; the listed variables hold what the program's text lays. -/
namespace Go.Proofs.YtpfhhaonfbfheaaGreatDoor.ky
open Go.ChangeShapes Go.WideShapes Go.ChangeAt Go.RowKit gl va ls

theorem go_name {K : Act → World → Prop} {a : Act} {W : World} (h : ∀ W', W' = W → K a W') : K a W := h W rfl
theorem foundV_form (o : Option Ky) : foundV o = .tuple #[.agg #[.string (B (o.getD zK).name), .int .i64 (o.getD zK).kind, .string (B (o.getD zK).dflt), .int .i64 (o.getD zK).least, .int .i64 (o.getD zK).most, .string (B (o.getD zK).letter)], .bool o.isSome] := by cases o <;> rfl
theorem egIns (args : Array Value) (w : World) : (callFunc 73 args).run Tryz.prog w = .ok (.enter 73 args) w := enters Tryz.func73 (by kernel_rfl) (by kernel_rfl) args w

set_option maxHeartbeats 4000000 in
set_option maxRecDepth 100000 in
theorem Add_any (M b : Nat) (S : List Ky) (x : Ky) (w : World) (hS : SetK M w b S) (hx : KyOk x) (hM : M ≤ w.heap.size) (hV : Vlo w) :
    Calls Tryz.prog 48 #[.pointer (some ⟨b, 0, none⟩), .agg #[.string (B x.name), .int .i64 x.kind, .string (B x.dflt), .int .i64 x.least, .int .i64 x.most, .string (B x.letter)]] w fun e w' => e = .returned (.int .i64 (addE S x)) ∧ SetK M w' b (addK S x) ∧ Below M w w' := by
  obtain ⟨wA, hA⟩ : ∃ wA, wA = w.alloc (.cells #[.string (B x.name), .int .i64 x.kind, .string (B x.dflt), .int .i64 x.least, .int .i64 x.most, .string (B x.letter)] 62) := ⟨_, rfl⟩
  have kA : wA.heap[w.heap.size]? = some (.cells #[.string (B x.name), .int .i64 x.kind, .string (B x.dflt), .int .i64 x.least, .int .i64 x.most, .string (B x.letter)] 62 (0, 0)) := by rw [hA]; exact heap_alloc_new w _
  have hbA : Below w.heap.size w wA := by rw [hA]; exact (Below.refl _ _).alloc (Nat.le_refl _) _
  have HS := Lib.hid hS
  have HX := Lib.hid hx
  have HF := Lib.hid fun (W : World) (hW : Below w.heap.size w W) => formed_any x hx W ((hV.below hW (Nat.le_refl _)).glo)
  have HP : Hid (∀ (W : World), Below w.heap.size w W → ∀ {a bb : Int} {t : ByteArray} {ws : List ByteArray} {er : Int}, parse wordL x.kind x.dflt = (⟨a, bb, t, ws⟩, er) → Calls Tryz.prog 71 #[.int .i64 x.kind, .string (B x.dflt)] W fun e w' => (∃ (p : Option Addr) (n c : Nat), e = .returned (.tuple #[.agg #[.int .i64 a, .int .i64 bb, .string t, .slice p n c], .int .i64 er]) ∧ Strs w' (.slice p n c) ws ∧ n = ws.length) ∧ Below W.heap.size W w') := Lib.hid fun W hW a bb t ws er h => parsed x.kind (B x.dflt) (by rw [show (B x.dflt).size = x.dflt.length by simp [ByteArray.size]]; exact hx.2.1) (by rw [B_list]; exact h) W (hV.below hW (Nat.le_refl _))
  have HVl := Lib.hid fun (W : World) (hW : Below w.heap.size w W) => hV.below hW (Nat.le_refl _)
  have HFo := Lib.hid fun (W : World) (hW : Below w.heap.size w W) => found_any M b S x.name W (hS.later hW)
  have HLe : Hid (∀ (W : World), Below w.heap.size w W → Calls Tryz.prog 42 #[.pointer (some ⟨b, 0, none⟩), .string (B x.letter)] W fun e w' => e = .returned (.tuple #[.agg #[.string (B ((lettK S x.letter).getD zK).name), .int .i64 ((lettK S x.letter).getD zK).kind, .string (B ((lettK S x.letter).getD zK).dflt), .int .i64 ((lettK S x.letter).getD zK).least, .int .i64 ((lettK S x.letter).getD zK).most, .string (B ((lettK S x.letter).getD zK).letter)], .bool (lettK S x.letter).isSome]) ∧ Below W.heap.size W w') := Lib.hid fun W hW => by
    have h := Letter_any M b S x.letter W (hS.later hW)
    rw [foundV_form] at h
    exact h
  have HkA := Lib.hid kA
  have HbA := Lib.hid hbA
  have HA := Lib.hid hA
  have E1 := Lib.hid (@addE_form S x)
  have E2 := Lib.hid (@addE_dflt S x)
  have E3 := Lib.hid (@addE_rest S x)
  have N1 := Lib.hid (@add_no S x)
  have HD := Lib.hid (dflt_ways x)
  have HMw := Lib.hid hM
  have hbw := hS.lt
  have Hne : Hid (∀ W, Below w.heap.size w W → addE S x ≠ 0 → SetK M W b (addK S x) ∧ Below M w W) := Lib.hid fun W hW hn => by
    rw [add_no hn]
    exact ⟨hS.later hW, hW.mono hM⟩
  clear kA hbA hA hV hx hS
  generalize (lettK S x.letter).getD zK = yl at *
  obtain ⟨r, hr⟩ : ∃ r, parse wordL x.kind x.dflt = r := ⟨_, rfl⟩
  obtain ⟨⟨ra, rb, rt, rw_⟩, er⟩ := r
  have HPr := Lib.hid fun W hW => HP.out W hW hr
  rw [hr] at HD
  dsimp only at HD
  clear hr HP
  obtain ⟨nm, hnm⟩ : ∃ nm, nm = B x.name := ⟨_, rfl⟩
  obtain ⟨df, hdf⟩ : ∃ df, df = B x.dflt := ⟨_, rfl⟩
  obtain ⟨lt, hlt⟩ : ∃ lt, lt = B x.letter := ⟨_, rfl⟩
  have Hnm := Lib.hid hnm
  have Hdf := Lib.hid hdf
  have Hlt := Lib.hid hlt
  rw [← hnm, ← hdf, ← hlt] at HF HkA HA
  rw [← hnm] at HFo
  rw [← hdf] at HPr
  rw [← hlt] at HLe
  rw [← hnm, ← hdf, ← hlt]
  clear hnm hdf hlt
  go_enter Tryz.func48, Tryz.ntmps48
  go_wp2_with fail
  rw [← HA.out]
  refine (HF.out _ HbA.out).mono ?_
  rintro e w1 ⟨rfl, hb1⟩
  have Hb1 := Lib.hid (then_bel HbA.out hb1)
  have hk1 := (hb1.block _ (lt_of_block HkA.out)).trans HkA.out
  have a1 : w1.cell? ⟨w.heap.size, 1, none⟩ = some (.int .i64 x.kind) := cell_in hk1
  have a2 : w1.cell? ⟨w.heap.size, 2, none⟩ = some (.string df) := cell_in hk1
  have hgw1 : w.heap.size < w1.heap.size := lt_of_block hk1
  have Hk1 := Lib.hid hk1
  clear hb1 hk1
  obtain ⟨fx, hfx⟩ : ∃ fx, formL x = fx := ⟨_, rfl⟩
  rw [hfx]
  have Hfx := Lib.hid hfx
  clear hfx
  cases fx with
  | false =>
    have he := Lib.hid (E1.out Hfx.out)
    go_wp2_with fail
    go_ret
    refine ⟨by rw [he.out]; rfl, Hne.out _ Hb1.out (by rw [he.out]; decide)⟩
  | true =>
    go_wp2_with fail
    refine (HPr.out _ Hb1.out).mono ?_
    rintro e w2 ⟨⟨p, n, c, rfl, hst, hn⟩, hb2⟩
    have Hst := Lib.hid hst
    have Hb2 := Lib.hid (then_bel Hb1.out hb2)
    have hk2 := (hb2.block _ (lt_of_block Hk1.out)).trans Hk1.out
    have a0 : w2.cell? ⟨w.heap.size, 0, none⟩ = some (.string nm) := cell_in hk2
    have a3 : w2.cell? ⟨w.heap.size, 3, none⟩ = some (.int .i64 x.least) := cell_in hk2
    have a4 : w2.cell? ⟨w.heap.size, 4, none⟩ = some (.int .i64 x.most) := cell_in hk2
    have hgw2 : w.heap.size < w2.heap.size := lt_of_block hk2
    have Hk2 := Lib.hid hk2
    clear hb2 hk2 a1 a2 hst hn
    rcases HD.out with ⟨her, hd⟩ | ⟨her, hvb, hd⟩
    · have he := Lib.hid (E2.out Hfx.out hd)
      have q1 : (er == 0) = false := by simpa using her
      have q2 : (er != 0) = true := by simpa using her
      clear hd her
      go_wp2_with fail
      go_ret
      refine ⟨by rw [he.out]; rfl, Hne.out _ ?_ (by rw [he.out]; decide)⟩
      repeat (first | exact Hb2.out | refine Below.setCell ?_ (by simp only; omega) _ | refine Below.alloc ?_ (by omega) _)
    · subst her
      have HWi : Hid (∀ W, Below w2.heap.size w2 W → Calls Tryz.prog 72 #[.agg #[.int .i64 ra, .int .i64 rb, .string rt, .slice p n c], .int .i64 x.least, .int .i64 x.most] W fun e w' => e = .returned (.bool (dfltL x)) ∧ Below w2.heap.size w2 w') := Lib.hid fun W hW => by
        refine (Within_any ⟨ra, rb, rt, rw_⟩ hvb x.least x.most (.slice p n c) W (HVl.out _ (then_bel Hb2.out hW)) (Hst.out.below hW (Nat.le_refl _))).mono fun e w' h => ?_
        exact ⟨by rw [hd]; exact h.1, then_bel hW h.2⟩
      clear hd hvb
      go_wp2_with fail
      refine (HWi.out _ (by repeat (first | exact Below.refl _ _ | refine Below.setCell ?_ (by simp only; omega) _ | refine Below.alloc ?_ (by simp) _))).mono ?_
      rintro e w4 ⟨rfl, hb4⟩
      have Hb4 := Lib.hid (then_bel Hb2.out hb4)
      have hk4 := (hb4.block _ (lt_of_block Hk2.out)).trans Hk2.out
      have d0 : w4.cell? ⟨w.heap.size, 0, none⟩ = some (.string nm) := cell_in hk4
      have hgw4 : w.heap.size < w4.heap.size := lt_of_block hk4
      have Hk4 := Lib.hid hk4
      clear hb4 hk4 a0 a3 a4 HWi
      obtain ⟨dx, hdx⟩ : ∃ dx, dfltL x = dx := ⟨_, rfl⟩
      rw [hdx]
      have Hdx := Lib.hid hdx
      clear hdx
      cases dx with
      | false =>
        have he := Lib.hid (E2.out Hfx.out Hdx.out)
        go_wp2_with fail
        go_ret
        exact ⟨by rw [he.out]; rfl, Hne.out _ Hb4.out (by rw [he.out]; decide)⟩
      | true =>
        have he3 := Lib.hid (E3.out Hfx.out Hdx.out)
        go_wp2_with fail
        refine (HFo.out _ Hb4.out).mono ?_
        rintro e w5 ⟨⟨k, is, rfl, hFnd⟩, hb5⟩
        have HFnd := Lib.hid hFnd
        have Hff := Lib.hid (found_find HS.out.asc hFnd)
        have Hb5 := Lib.hid (then_bel Hb4.out hb5)
        have hk5 := (hb5.block _ (lt_of_block Hk4.out)).trans Hk4.out
        have d5 : w5.cell? ⟨w.heap.size, 5, none⟩ = some (.string lt) := cell_in hk5
        have hgw5 : w.heap.size < w5.heap.size := lt_of_block hk5
        have Hk5 := Lib.hid hk5
        clear hb5 hk5 d0 hFnd
        go_wp2_with fail
        refine (HLe.out _ Hb5.out).mono ?_
        rintro e w6 ⟨rfl, hb6⟩
        have Hb6 := Lib.hid (then_bel Hb5.out hb6)
        have hk6 := (hb6.block _ (lt_of_block Hk5.out)).trans Hk5.out
        have hgw6 : w.heap.size < w6.heap.size := lt_of_block hk6
        have Hk6 := Lib.hid hk6
        clear hb6 hk6 d5
        obtain ⟨p7, c7, hset6, _⟩ := (HS.out.later Hb6.out).form
        have s6 : w6.cell? ⟨b, 0, none⟩ = some (.slice p7 S.length c7) := cell_in hset6
        have hbw6 : b < w6.heap.size := lt_of_block hset6
        clear hset6
        obtain ⟨lx, hlx⟩ : ∃ lx, (lettK S x.letter).isSome = lx := ⟨_, rfl⟩
        rw [hlx]
        have Hlx := Lib.hid hlx
        clear hlx
        cases is with
        | true =>
          have he : Hid (addE S x = 51) := Lib.hid (by
            obtain ⟨y, _, hf⟩ := Hff.out.1 rfl
            rw [he3.out, hf]; rfl)
          go_wp2_with fail
          go_ret
          refine ⟨by rw [he.out]; rfl, Hne.out _ ?_ (by rw [he.out]; decide)⟩
          repeat (first | exact Hb6.out | refine Below.setCell ?_ (by simp only; omega) _ | refine Below.alloc ?_ (by omega) _)
        | false =>
          have Hnone := Lib.hid (Hff.out.2 rfl)
          cases lx with
          | true =>
            have he : Hid (addE S x = 52) := Lib.hid (by rw [he3.out, Hnone.out, Hlx.out]; rfl)
            go_wp2_with fail
            go_ret
            refine ⟨by rw [he.out]; rfl, Hne.out _ ?_ (by rw [he.out]; decide)⟩
            repeat (first | exact Hb6.out | refine Below.setCell ?_ (by simp only; omega) _ | refine Below.alloc ?_ (by omega) _)
          | false =>
            by_cases hlen : S.length = 64
            · have he : Hid (addE S x = 54) := Lib.hid (by rw [he3.out, Hnone.out, Hlx.out, if_pos hlen]; rfl)
              have q1 : ((S.length : Int) == 64) = true := by rw [hlen]; rfl
              clear hlen
              go_wp2_with fail
              go_ret
              refine ⟨by rw [he.out]; rfl, Hne.out _ ?_ (by rw [he.out]; decide)⟩
              repeat (first | exact Hb6.out | refine Below.setCell ?_ (by simp only; omega) _ | refine Below.alloc ?_ (by omega) _)
            · have he : Hid (addE S x = 0) := Lib.hid (by rw [he3.out, Hnone.out, Hlx.out, if_neg hlen]; rfl)
              have q1 : ((S.length : Int) == 64) = false := by simp; omega
              have Hlen := Lib.hid hlen
              clear hlen
              go_upto_region 14 with fail
              refine go_name (fun w7 hw7 => ?_)
              have hb7 : Below w6.heap.size w6 w7 := by
                rw [hw7]
                repeat (first | exact Below.refl _ _ | refine Below.setCell ?_ (by simp only; omega) _ | refine Below.alloc ?_ (by simp) _)
              clear hw7 s6
              have Hb7 := Lib.hid (then_bel Hb6.out hb7)
              have hk7 := (hb7.block _ (lt_of_block Hk6.out)).trans Hk6.out
              obtain ⟨_, _, _, _, v7, hv7, hB7⟩ := HS.out.later Hb7.out
              obtain ⟨q7, r7, rfl⟩ := hB7.form
              have s7 : w7.cell? ⟨b, 0, none⟩ = some (.slice q7 S.length r7) := cell_in hv7
              have hbw7 : b < w7.heap.size := lt_of_block hv7
              have m0 : w7.cell? ⟨w.heap.size, 0, none⟩ = some (.string nm) := cell_in hk7
              have m1 : w7.cell? ⟨w.heap.size, 1, none⟩ = some (.int .i64 x.kind) := cell_in hk7
              have m2 : w7.cell? ⟨w.heap.size, 2, none⟩ = some (.string df) := cell_in hk7
              have m3 : w7.cell? ⟨w.heap.size, 3, none⟩ = some (.int .i64 x.least) := cell_in hk7
              have m4 : w7.cell? ⟨w.heap.size, 4, none⟩ = some (.int .i64 x.most) := cell_in hk7
              have m5 : w7.cell? ⟨w.heap.size, 5, none⟩ = some (.string lt) := cell_in hk7
              have hgw7 : w.heap.size < w7.heap.size := lt_of_block hk7
              have HIns : Hid (∀ W, Below w7.heap.size w7 W → W.heap[w7.heap.size]? = some (.cells #[.string nm, .int .i64 x.kind, .string df, .int .i64 x.least, .int .i64 x.most, .string lt] 62 (0, 0)) →
                  Calls Tryz.prog 73 #[.slice q7 S.length r7, .int .i64 (k : Nat), .slice (some ⟨w7.heap.size, 0, none⟩) 1 1] W fun e w' => ∃ v', e = .returned v' ∧ ((∃ pp nn cc, v' = .slice pp nn cc) ∧ SetK M (w'.setCell ⟨b, 0, none⟩ v') b (insK S x) ∧ w'.heap[b]? = some (.cells #[.slice q7 S.length r7] 85 (0, 0)) ∧ Below M w w')) := Lib.hid fun W hW hlit => by
                have hSW := HS.out.later (then_bel Hb7.out hW)
                have hvW := (hW.block _ (lt_of_block hv7)).trans hv7
                have hBW := hB7.later hW
                have hMW : M ≤ W.heap.size := by have := hW.size; have := HMw.out; omega
                have hkl : k ≤ S.length := by have := HFnd.out.1; rwa [List.length_map] at this
                rw [Hnm.out, Hdf.out, Hlt.out] at hlit
                refine (insert_any M _ S k hkl x w7.heap.size HS.out.len W hMW hBW hlit (fun q hq => ?_)).mono ?_
                · rcases hB7.2 with ⟨h, _⟩ | ⟨g, c, cs, h, _, _, hb, _⟩
                  · rw [h] at hq; cases hq
                  · rw [h] at hq
                    obtain rfl := Option.some.inj hq
                    have := lt_of_block hb
                    show w7.heap.size ≠ g
                    omega
                · rintro e w' ⟨v', rfl, hB', hg'⟩
                  obtain ⟨h1, h2⟩ := hSW.grown HX.out HFnd.out Hnone.out Hlen.out hvW hBW hB' hg'
                  obtain ⟨pp, cc, rfl⟩ := hB'.form
                  refine ⟨_, rfl, ⟨pp, _, cc, rfl⟩, h1, h2, ?_⟩
                  have hbMW : Below M w W := (then_bel Hb7.out hW).mono HMw.out
                  refine hbMW.trans ⟨hg'.os, hg'.tape, hg'.output, hg'.size, fun j hj => hg'.block j (by omega) fun hh => ?_⟩
                  rcases hBW.2 with ⟨h, _⟩ | ⟨g, c, cs, h, _, hMg, _, _⟩
                  · rw [h] at hh; cases hh
                  · rw [h] at hh
                    have e' : j = g := Option.some.inj hh
                    omega
              clear hb7 hk7 hv7 hB7
              go_region_law
                (first
                  | (refine step_callE (by rfl) 73 _ _ (by rfl) egIns _ (by rfl) _ (HIns.out _ (by first | exact ((Below.refl _ _).alloc (Nat.le_refl _) _).drew | exact (Below.refl _ _).alloc (Nat.le_refl _) _ | exact (Below.refl _ _).drew.alloc (Nat.le_refl _) _) (by exact heap_alloc_new w7 _)) ?_; rintro v' w8 ⟨⟨pp, nn, cc, rfl⟩, hs8, hb8, hbel8⟩; have e8 : w8.cell? ⟨b, 0, none⟩ = some (.slice q7 S.length r7) := cell_in hb8; have f8 : w8.frozen? ⟨b, 0, none⟩ = false := free_in hb8; have l8 : b < w8.heap.size := lt_of_block hb8; have Hs8 := Lib.hid hs8; have Hbel8 := Lib.hid hbel8; clear hs8 hbel8 hb8)
                  | fail)
              all_goals
                go_wp2_with fail
                go_ret
                refine ⟨by rw [he.out]; rfl, ?_, ?_⟩
                · rw [add_yes he.out]; exact Hs8.out
                · exact Hbel8.out.setCell (p := ⟨b, 0, none⟩) HS.out.lo _
end Go.Proofs.YtpfhhaonfbfheaaGreatDoor.ky
