/- value.parseWords and Parse return plain functions. Conditions: the listed variables hold what the program's text lays; the text is no longer than 2147483647 bytes. -/
import Derived.Test.YtpfhhaonfbfheaaGreatDoorVaF
import Derived.Test.YtpfhhaonfbfheaaGreatDoorVaH
namespace Go.Proofs.YtpfhhaonfbfheaaGreatDoor.va
open Go.ChangeShapes Go.WideShapes Go.ChangeAt Go.RowKit gl

/-- A new slice of strings, without room behind it. -/
def Fresh (w w' : World) (sl : Value) (xs : List ByteArray) : Prop :=
  (xs = [] ∧ sl = .slice none 0 0) ∨ ∃ g, sl = .slice (some ⟨g, 0, none⟩) xs.length xs.length ∧ w.heap.size ≤ g ∧ w'.heap[g]? = some (.cells (xs.map Value.string).toArray 9 (0, 0))
theorem Fresh.shape {w w' : World} {sl : Value} {xs : List ByteArray} (h : Fresh w w' sl xs) : ∃ p n c, sl = .slice p n c := by
  rcases h with ⟨_, rfl⟩ | ⟨g, rfl, _⟩
  · exact ⟨_, _, _, rfl⟩
  · exact ⟨_, _, _, rfl⟩
theorem Fresh.strs {w w' : World} {sl : Value} {xs : List ByteArray} (h : Fresh w w' sl xs) : Strs w' sl xs := by
  rcases h with ⟨rfl, rfl⟩ | ⟨g, rfl, _, h⟩
  · exact ⟨none, 0, rfl, Nat.le_refl _, .inl rfl⟩
  · exact strs_row h (lt_of_block h) _ (Nat.le_refl _)
theorem Fresh.later {w w' w'' : World} {sl : Value} {xs : List ByteArray} (h : Fresh w w' sl xs) (hb : Below w'.heap.size w' w'') : Fresh w w'' sl xs := by
  rcases h with h | ⟨g, h1, h2, h⟩
  · exact .inl h
  · exact .inr ⟨g, h1, h2, (hb.block _ (lt_of_block h)).trans h⟩
theorem Fresh.from {w0 w w' : World} {sl : Value} {xs : List ByteArray} (h : Fresh w w' sl xs) (hs : w0.heap.size ≤ w.heap.size) : Fresh w0 w' sl xs := by
  rcases h with h | ⟨g, h1, h2, h⟩
  · exact .inl h
  · exact .inr ⟨g, h1, by omega, h⟩
def ParseOut (r : Val × Int) (w : World) (e : Ending) (w' : World) : Prop := ∃ sl, e = .returned (res r sl) ∧ Fresh w w' sl r.1.words
theorem sl_eq {p : Option Addr} {a b : Nat} (h : a = b) : Value.slice p a a = .slice p b b := by rw [h]
/-- The two structs that parseWords lays. -/
theorem two_blocks {w w1 : World} {o o' : Obj} (hb : Below ((w.alloc o).alloc o').heap.size ((w.alloc o).alloc o') w1) : w1.heap[w.heap.size]? = (w.alloc o).heap[w.heap.size]? ∧ w1.heap[w.heap.size + 1]? = some o' := by
  refine ⟨(hb.block _ (by simp; omega)).trans (heap_al (by rw [heap_alloc_new]) o' |>.trans (heap_alloc_new w o).symm), ?_⟩
  have := hb.block (w.heap.size + 1) (by simp)
  rw [this]
  have h2 := heap_alloc_new (w.alloc o) o'
  simpa using h2

set_option maxHeartbeats 1000000 in
set_option maxRecDepth 100000 in
theorem parseWords_any (s : ByteArray) (hs : s.size ≤ 2147483647) (w : World) (hV : Vlo w) :
    Calls Tryz.prog 95 #[.string s] w fun e w' => ParseOut (parseWords wordL s.data.toList) w e w' ∧ Below w.heap.size w w' := by
  have HV := Lib.hid hV
  clear hV
  have hlen : s.data.toList.length = s.size := by simp
  by_cases h0 : s.data.toList = []
  · have He : Hid (parseWords wordL s.data.toList = (⟨6, 0, ByteArray.empty, []⟩, 0)) := Lib.hid (by unfold parseWords; rw [if_pos h0])
    have hemp : s.toList.isEmpty = true := by rw [ByteArray.toList_eq, h0]; rfl
    clear h0
    go_enter Tryz.func95, Tryz.ntmps95
    go_wp2_with fail
    go_returns
    exact ⟨⟨_, by rw [He.out]; rfl, .inl ⟨by rw [He.out], rfl⟩⟩, by go_grown⟩
  · have HE : Hid (parseWords wordL s.data.toList = if (pcs 44 s.data.toList).all wordL then (if 200 < s.size ∨ 16 < (pcs 44 s.data.toList).length then (zero, 42) else (⟨6, 0, ByteArray.empty, (pcs 44 s.data.toList).map B⟩, 0)) else (zero, 40)) := Lib.hid (by unfold parseWords; rw [if_neg h0, hlen])
    have hemp : s.toList.isEmpty = false := by
      rw [ByteArray.toList_eq]
      cases hl : s.data.toList with
      | nil => exact absurd hl h0
      | cons => rfl
    clear h0
    have hpl := pcs_length 44 s.data.toList
    have hcl := List.count_le_length (a := (44 : UInt8)) (l := s.data.toList)
    have HM : Hid (∀ x ∈ (pcs 44 s.data.toList).map B, x.size ≤ 2147483647) := Lib.hid (by
      intro x hx
      obtain ⟨l, hl, rfl⟩ := List.mem_map.1 hx
      have := mem_pcs_le 44 _ _ hl
      show l.toArray.size ≤ _
      simp
      omega)
    have HA : Hid (allW ((pcs 44 s.data.toList).map B) = (pcs 44 s.data.toList).all wordL) := Lib.hid (by
      unfold allW
      rw [List.all_map]
      congr 1)
    have HSp := Lib.hid (fun (W : World) (hb : Below w.heap.size w W) => splitW_any s hs W (HV.out.below hb (Nat.le_refl _)))
    have hps0 : (pcs 44 s.data.toList).length ≤ 2147483648 := by omega
    generalize pcs 44 s.data.toList = ps at *
    obtain ⟨n, hn⟩ : ∃ n, ps.length = n := ⟨_, rfl⟩
    have Hmap : Hid ((ps.map B).length = n) := Lib.hid (by rw [List.length_map, hn])
    rw [hn] at HSp HE hps0
    clear hpl hcl
    cases hall : ps.all wordL with
    | false =>
      have He : Hid (parseWords wordL s.data.toList = (zero, 40)) := Lib.hid (by rw [HE.out, hall]; rfl)
      have HA2 : Hid (allW (ps.map B) = false) := Lib.hid (HA.out.trans hall)
      clear hall hn
      go_enter Tryz.func95, Tryz.ntmps95
      go_wp2_with fail
      refine (HSp.out _ (((Below.refl _ w).alloc (Nat.le_refl _) _).alloc (by simp) _)).mono ?_
      rintro e w1 ⟨⟨rfl, hrow⟩, hlt1, hb1⟩
      simp only [World.size_alloc] at hrow
      have Hrow := Lib.hid hrow
      have Hb1 := Lib.hid hb1
      have hsz1 := hb1.size
      simp at hsz1 hlt1
      have Hbw1 : Hid (Below w.heap.size w w1) := Lib.hid ((((Below.refl _ w).alloc (Nat.le_refl _) _).alloc (by simp) _).trans (hb1.mono (by simp; omega)))
      have Hst : Hid (Strs w1 (.slice (some ⟨w.heap.size + 1 + 1, 0, none⟩) n n) (ps.map B)) := Lib.hid (by
        have := strs_row Hrow.out (by omega) n (by rw [Hmap.out]; exact Nat.le_refl _)
        rwa [Hmap.out] at this)
      clear hrow hb1
      go_wp2_with fail
      have hcon := containsW_any 118 (enters_of Tryz.func118 (by kernel_rfl) rfl) notW_parse _ (ps.map B) HM.out (by rw [Hmap.out]; omega) w1 (HV.out.below Hbw1.out (Nat.le_refl _)) Hst.out
      rw [HA2.out] at hcon
      refine hcon.mono ?_
      rintro e w2 ⟨rfl, hb2⟩
      have Hb2 := Lib.hid hb2
      have hsz2 := hb2.size
      obtain ⟨hB0, hB1⟩ := two_blocks (Hb1.out.trans (hb2.mono Hb1.out.size))
      rw [heap_alloc_new] at hB0
      have Hblk := Lib.hid hB0
      have Hv := Lib.hid hB1
      have Hbw2 : Hid (Below w.heap.size w w2) := Lib.hid (Hbw1.out.trans (hb2.mono (by omega)))
      have hc := fun j => cell_of_row w2 w.heap.size j _ _ _ hB0
      have hf := fun j => frozen_of_row w2 w.heap.size j _ _ hB0
      have hd := fun j => cell_of_row w2 (w.heap.size + 1) j _ _ _ hB1
      have hg := fun j => frozen_of_row w2 (w.heap.size + 1) j _ _ hB1
      have c0 := hc 0; have c1 := hc 1; have c2 := hc 2; have c3 := hc 3
      have f0 := hf 0; have f1 := hf 1; have f2 := hf 2; have f3 := hf 3
      have d0 := hd 0; have d1 := hd 1; have d2 := hd 2; have d3 := hd 3
      have k0 := hg 0; have k1 := hg 1; have k2 := hg 2; have k3 := hg 3
      simp only [List.getElem?_toArray, List.getElem?_cons_succ, List.getElem?_cons_zero] at c0 c1 c2 c3 d0 d1 d2 d3
      clear hc hf hd hg hB0 hB1 hb2 hcon
      go_wp2_with fail
      generalize hW : World.setCell (World.setCell (World.setCell (World.setCell w2 _ _) _ _) _ _) _ _ = W
      obtain ⟨⟨g0, g1, g2, g3⟩, hsW, hoth, hbel⟩ := four_done Hblk.out hW
      have HB := Lib.hid (hbel w.heap.size w Hbw2.out (Nat.le_refl _))
      have HO := Lib.hid hoth
      clear hW hbel hoth
      (try simp only [Exit.inBlock, Exit.then])
      refine bodyPost_ret (by simp [results, Tryz.results95, go_sem, g0, g1, g2, g3]; try rfl) rfl ?_
      exact ⟨⟨_, by rw [He.out]; rfl, .inl ⟨by rw [He.out]; rfl, rfl⟩⟩, HB.out⟩
    | true =>
      have HE2 := Lib.hid (HE.out.trans (by rw [hall, if_pos rfl]))
      have HA2 : Hid (allW (ps.map B) = true) := Lib.hid (HA.out.trans hall)
      clear hall hn
      go_enter Tryz.func95, Tryz.ntmps95
      go_wp2_with fail
      refine (HSp.out _ (((Below.refl _ w).alloc (Nat.le_refl _) _).alloc (by simp) _)).mono ?_
      rintro e w1 ⟨⟨rfl, hrow⟩, hlt1, hb1⟩
      simp only [World.size_alloc] at hrow
      have Hrow := Lib.hid hrow
      have Hb1 := Lib.hid hb1
      have hsz1 := hb1.size
      simp at hsz1 hlt1
      have Hbw1 : Hid (Below w.heap.size w w1) := Lib.hid ((((Below.refl _ w).alloc (Nat.le_refl _) _).alloc (by simp) _).trans (hb1.mono (by simp; omega)))
      have Hst : Hid (Strs w1 (.slice (some ⟨w.heap.size + 1 + 1, 0, none⟩) n n) (ps.map B)) := Lib.hid (by
        have := strs_row Hrow.out (by omega) n (by rw [Hmap.out]; exact Nat.le_refl _)
        rwa [Hmap.out] at this)
      clear hrow hb1
      go_wp2_with fail
      have hcon := containsW_any 118 (enters_of Tryz.func118 (by kernel_rfl) rfl) notW_parse _ (ps.map B) HM.out (by rw [Hmap.out]; omega) w1 (HV.out.below Hbw1.out (Nat.le_refl _)) Hst.out
      rw [HA2.out] at hcon
      refine hcon.mono ?_
      rintro e w2 ⟨rfl, hb2⟩
      have Hb2 := Lib.hid hb2
      have hsz2 := hb2.size
      obtain ⟨hB0, hB1⟩ := two_blocks (Hb1.out.trans (hb2.mono Hb1.out.size))
      rw [heap_alloc_new] at hB0
      have Hblk := Lib.hid hB0
      have Hv := Lib.hid hB1
      have Hbw2 : Hid (Below w.heap.size w w2) := Lib.hid (Hbw1.out.trans (hb2.mono (by omega)))
      have hc := fun j => cell_of_row w2 w.heap.size j _ _ _ hB0
      have hf := fun j => frozen_of_row w2 w.heap.size j _ _ hB0
      have hd := fun j => cell_of_row w2 (w.heap.size + 1) j _ _ _ hB1
      have hg := fun j => frozen_of_row w2 (w.heap.size + 1) j _ _ hB1
      have c0 := hc 0; have c1 := hc 1; have c2 := hc 2; have c3 := hc 3
      have f0 := hf 0; have f1 := hf 1; have f2 := hf 2; have f3 := hf 3
      have d0 := hd 0; have d1 := hd 1; have d2 := hd 2; have d3 := hd 3
      have k0 := hg 0; have k1 := hg 1; have k2 := hg 2; have k3 := hg 3
      simp only [List.getElem?_toArray, List.getElem?_cons_succ, List.getElem?_cons_zero] at c0 c1 c2 c3 d0 d1 d2 d3
      clear hc hf hd hg hB0 hB1 hb2 hcon
      by_cases h2 : 200 < s.size
      · have He : Hid (parseWords wordL s.data.toList = (zero, 42)) := Lib.hid (by rw [HE2.out, if_pos (.inl h2)])
        go_wp2_with fail
        generalize hW : World.setCell (World.setCell (World.setCell (World.setCell w2 _ _) _ _) _ _) _ _ = W
        obtain ⟨⟨g0, g1, g2, g3⟩, hsW, hoth, hbel⟩ := four_done Hblk.out hW
        have HB := Lib.hid (hbel w.heap.size w Hbw2.out (Nat.le_refl _))
        have HO := Lib.hid hoth
        clear hW hbel hoth
        (try simp only [Exit.inBlock, Exit.then])
        refine bodyPost_ret (by simp [results, Tryz.results95, go_sem, g0, g1, g2, g3]; try rfl) rfl ?_
        exact ⟨⟨_, by rw [He.out]; rfl, .inl ⟨by rw [He.out]; rfl, rfl⟩⟩, HB.out⟩
      · by_cases h16 : 16 < n
        · have He : Hid (parseWords wordL s.data.toList = (zero, 42)) := Lib.hid (by rw [HE2.out, if_pos (.inr h16)])
          go_wp2_with fail
          generalize hW : World.setCell (World.setCell (World.setCell (World.setCell w2 _ _) _ _) _ _) _ _ = W
          obtain ⟨⟨g0, g1, g2, g3⟩, hsW, hoth, hbel⟩ := four_done Hblk.out hW
          have HB := Lib.hid (hbel w.heap.size w Hbw2.out (Nat.le_refl _))
          have HO := Lib.hid hoth
          clear hW hbel hoth
          (try simp only [Exit.inBlock, Exit.then])
          refine bodyPost_ret (by simp [results, Tryz.results95, go_sem, g0, g1, g2, g3]; try rfl) rfl ?_
          exact ⟨⟨_, by rw [He.out]; rfl, .inl ⟨by rw [He.out]; rfl, rfl⟩⟩, HB.out⟩
        · have He : Hid (parseWords wordL s.data.toList = (⟨6, 0, ByteArray.empty, ps.map B⟩, 0)) := Lib.hid (by rw [HE2.out, if_neg (by omega)])
          go_wp2_with fail
          refine (clip_any _ n n (Nat.le_refl _) w2).mono ?_
          rintro e w3 ⟨rfl, rfl⟩
          go_wp2_with fail
          obtain ⟨w4, hw4⟩ : ∃ w4, w4 = w2.setCell ⟨w.heap.size + 1, 3, none⟩ (.slice (some ⟨w.heap.size + 1 + 1, 0, none⟩) n n) := ⟨_, rfl⟩
          rw [← hw4]
          have Hblk4 := Lib.hid ((congrArg (fun x : World => x.heap[w.heap.size]?) hw4).trans (heap_set_ne Hblk.out _ (by simp)))
          have Hrow4 := Lib.hid ((congrArg (fun x : World => x.heap[w.heap.size + 1 + 1]?) hw4).trans (heap_set_ne ((Hb2.out.block _ hlt1).trans Hrow.out) _ (by simp)))
          have Hbw4 : Hid (Below w.heap.size w w4) := Lib.hid (by rw [hw4]; exact Hbw2.out.setCell (by simp) _)
          clear hw4
          clear Hblk
          have Hblk := Hblk4
          generalize hW : World.setCell (World.setCell (World.setCell (World.setCell w4 _ _) _ _) _ _) _ _ = W
          obtain ⟨⟨g0, g1, g2, g3⟩, hsW, hoth, hbel⟩ := four_done Hblk.out hW
          have HB := Lib.hid (hbel w.heap.size w Hbw4.out (Nat.le_refl _))
          have HO := Lib.hid hoth
          clear hW hbel hoth
          (try simp only [Exit.inBlock, Exit.then])
          refine bodyPost_ret (by simp [results, Tryz.results95, go_sem, g0, g1, g2, g3]; try rfl) rfl ?_
          exact ⟨⟨_, by rw [He.out]; rfl, .inr ⟨w.heap.size + 1 + 1, by rw [He.out]; exact sl_eq Hmap.out.symm, by omega, by rw [He.out]; exact (HO.out _ (by omega)).trans Hrow4.out⟩⟩, HB.out⟩

theorem parseBool_words (l : List UInt8) : (parseBool l).1.words = [] := by unfold parseBool; split; rfl; split <;> rfl
theorem parseInt_words (l : List UInt8) : (parseInt l).1.words = [] := by
  rw [parseInt_eq]
  split
  · rfl
  · split
    · rfl
    · split <;> rfl
theorem parseUnit_words (k : Int) (l : List UInt8) : (parseUnit k l).1.words = [] := by
  unfold parseUnit
  split
  · rfl
  · split
    · rfl
    · split <;> rfl
theorem parseText_words (l : List UInt8) : (parseText l).1.words = [] := by unfold parseText; split; split <;> rfl; rfl
/-- The result of Parse stands behind the struct that was laid for it. -/
theorem Fresh.out {w w1 W : World} {o : Obj} {sl : Value} {xs : List ByteArray} (h : Fresh (w.alloc o) w1 sl xs) (hW : ∀ k : Nat, k ≠ w.heap.size → W.heap[k]? = w1.heap[k]?) : Fresh w W sl xs := by
  rcases h with h | ⟨g, h1, h2, h⟩
  · exact .inl h
  · simp only [World.size_alloc] at h2
    exact .inr ⟨g, h1, by omega, (hW g (by omega)).trans h⟩

set_option maxHeartbeats 1000000 in
set_option maxRecDepth 100000 in
theorem parse_1 (s : ByteArray) (_hs : s.size ≤ 2147483647) (w : World) (hV : Vlo w) :
    Calls Tryz.prog 71 #[.int .i64 1, .string s] w fun e w' => ParseOut (parseBool s.data.toList) w e w' ∧ Below w.heap.size w w' := by
  have HV1 := Lib.hid (hV.below ((Below.refl w.heap.size w).alloc (Nat.le_refl _) (.cells #[.int .i64 0, .int .i64 0, .string ⟨#[]⟩, .slice none 0 0] 98)) (Nat.le_refl _))
  clear hV
  obtain ⟨⟨⟨kk, nn, tt, ww⟩, ee⟩, hr⟩ : ∃ r, parseBool s.data.toList = r := ⟨_, rfl⟩
  have hcon : Calls Tryz.prog 92 #[.string s] (w.alloc (.cells #[.int .i64 0, .int .i64 0, .string ⟨#[]⟩, .slice none 0 0] 98)) fun e w' => (∃ p n c, e = .returned (.tuple #[.agg #[.int .i64 kk, .int .i64 nn, .string tt, .slice p n c], .int .i64 ee]) ∧ Fresh (w.alloc (.cells #[.int .i64 0, .int .i64 0, .string ⟨#[]⟩, .slice none 0 0] 98)) w' (.slice p n c) ww) ∧ Below (w.alloc (.cells #[.int .i64 0, .int .i64 0, .string ⟨#[]⟩, .slice none 0 0] 98)).heap.size (w.alloc (.cells #[.int .i64 0, .int .i64 0, .string ⟨#[]⟩, .slice none 0 0] 98)) w' := by
    refine (parseBool_any s _).mono ?_
    rintro e w' ⟨rfl, hb⟩
    rw [hr]
    refine ⟨⟨_, _, _, rfl, .inl ⟨?_, rfl⟩⟩, hb⟩
    have := parseBool_words s.data.toList
    rw [hr] at this
    exact this
  rw [hr]
  clear hr HV1
  go_enter Tryz.func71, Tryz.ntmps71
  go_wp2_with fail
  refine hcon.mono ?_
  rintro e w1 ⟨⟨p, n, c, rfl, hfr⟩, hb⟩
  have Hb := Lib.hid hb
  have Hfr := Lib.hid hfr
  clear hfr hb
  have Hblk := Lib.hid ((new_block Hb.out).trans (heap_alloc_new w _))
  obtain ⟨⟨c0, c1, c2, c3⟩, f0, f1, f2, f3⟩ := res_cells Hb.out
  go_wp2_with fail
  generalize hW : World.setCell (World.setCell (World.setCell (World.setCell w1 _ _) _ _) _ _) _ _ = W
  obtain ⟨⟨g0, g1, g2, g3⟩, hsW, hoth, hbel⟩ := four_done Hblk.out hW
  have HB := Lib.hid (hbel w.heap.size w ((((Below.refl _ w).alloc (Nat.le_refl _) _)).trans (Hb.out.mono (by simp))) (Nat.le_refl _))
  have HO := Lib.hid hoth
  clear hW hbel hoth
  (try simp only [Exit.inBlock, Exit.then])
  refine bodyPost_ret (by simp [results, Tryz.results71, go_sem, g0, g1, g2, g3]; try rfl) rfl ?_
  exact ⟨⟨_, rfl, Hfr.out.out HO.out⟩, HB.out⟩

set_option maxHeartbeats 1000000 in
set_option maxRecDepth 100000 in
theorem parse_2 (s : ByteArray) (hs : s.size ≤ 2147483647) (w : World) (hV : Vlo w) :
    Calls Tryz.prog 71 #[.int .i64 2, .string s] w fun e w' => ParseOut (parseInt s.data.toList) w e w' ∧ Below w.heap.size w w' := by
  have HV1 := Lib.hid (hV.below ((Below.refl w.heap.size w).alloc (Nat.le_refl _) (.cells #[.int .i64 0, .int .i64 0, .string ⟨#[]⟩, .slice none 0 0] 98)) (Nat.le_refl _))
  clear hV
  obtain ⟨⟨⟨kk, nn, tt, ww⟩, ee⟩, hr⟩ : ∃ r, parseInt s.data.toList = r := ⟨_, rfl⟩
  have hcon : Calls Tryz.prog 93 #[.int .i64 2, .string s] (w.alloc (.cells #[.int .i64 0, .int .i64 0, .string ⟨#[]⟩, .slice none 0 0] 98)) fun e w' => (∃ p n c, e = .returned (.tuple #[.agg #[.int .i64 kk, .int .i64 nn, .string tt, .slice p n c], .int .i64 ee]) ∧ Fresh (w.alloc (.cells #[.int .i64 0, .int .i64 0, .string ⟨#[]⟩, .slice none 0 0] 98)) w' (.slice p n c) ww) ∧ Below (w.alloc (.cells #[.int .i64 0, .int .i64 0, .string ⟨#[]⟩, .slice none 0 0] 98)).heap.size (w.alloc (.cells #[.int .i64 0, .int .i64 0, .string ⟨#[]⟩, .slice none 0 0] 98)) w' := by
    refine (parseInt_any s hs _ HV1.out).mono ?_
    rintro e w' ⟨rfl, hb⟩
    rw [hr]
    refine ⟨⟨_, _, _, rfl, .inl ⟨?_, rfl⟩⟩, hb⟩
    have := parseInt_words s.data.toList
    rw [hr] at this
    exact this
  rw [hr]
  clear hr HV1
  go_enter Tryz.func71, Tryz.ntmps71
  go_wp2_with fail
  refine hcon.mono ?_
  rintro e w1 ⟨⟨p, n, c, rfl, hfr⟩, hb⟩
  have Hb := Lib.hid hb
  have Hfr := Lib.hid hfr
  clear hfr hb
  have Hblk := Lib.hid ((new_block Hb.out).trans (heap_alloc_new w _))
  obtain ⟨⟨c0, c1, c2, c3⟩, f0, f1, f2, f3⟩ := res_cells Hb.out
  go_wp2_with fail
  generalize hW : World.setCell (World.setCell (World.setCell (World.setCell w1 _ _) _ _) _ _) _ _ = W
  obtain ⟨⟨g0, g1, g2, g3⟩, hsW, hoth, hbel⟩ := four_done Hblk.out hW
  have HB := Lib.hid (hbel w.heap.size w ((((Below.refl _ w).alloc (Nat.le_refl _) _)).trans (Hb.out.mono (by simp))) (Nat.le_refl _))
  have HO := Lib.hid hoth
  clear hW hbel hoth
  (try simp only [Exit.inBlock, Exit.then])
  refine bodyPost_ret (by simp [results, Tryz.results71, go_sem, g0, g1, g2, g3]; try rfl) rfl ?_
  exact ⟨⟨_, rfl, Hfr.out.out HO.out⟩, HB.out⟩

set_option maxHeartbeats 1000000 in
set_option maxRecDepth 100000 in
theorem parse_u (k : Int) (hk : k = 3 ∨ k = 4) (s : ByteArray) (hs : s.size ≤ 2147483647) (w : World) (hV : Vlo w) :
    Calls Tryz.prog 71 #[.int .i64 k, .string s] w fun e w' => ParseOut (parseUnit k s.data.toList) w e w' ∧ Below w.heap.size w w' := by
  have HV1 := Lib.hid (hV.below ((Below.refl w.heap.size w).alloc (Nat.le_refl _) (.cells #[.int .i64 0, .int .i64 0, .string ⟨#[]⟩, .slice none 0 0] 98)) (Nat.le_refl _))
  clear hV
  obtain ⟨⟨⟨kk, nn, tt, ww⟩, ee⟩, hr⟩ : ∃ r, parseUnit k s.data.toList = r := ⟨_, rfl⟩
  have hcon : Calls Tryz.prog 93 #[.int .i64 k, .string s] (w.alloc (.cells #[.int .i64 0, .int .i64 0, .string ⟨#[]⟩, .slice none 0 0] 98)) fun e w' => (∃ p n c, e = .returned (.tuple #[.agg #[.int .i64 kk, .int .i64 nn, .string tt, .slice p n c], .int .i64 ee]) ∧ Fresh (w.alloc (.cells #[.int .i64 0, .int .i64 0, .string ⟨#[]⟩, .slice none 0 0] 98)) w' (.slice p n c) ww) ∧ Below (w.alloc (.cells #[.int .i64 0, .int .i64 0, .string ⟨#[]⟩, .slice none 0 0] 98)).heap.size (w.alloc (.cells #[.int .i64 0, .int .i64 0, .string ⟨#[]⟩, .slice none 0 0] 98)) w' := by
    refine (parseUnit_any k hk s hs _ HV1.out).mono ?_
    rintro e w' ⟨rfl, hb⟩
    rw [hr]
    refine ⟨⟨_, _, _, rfl, .inl ⟨?_, rfl⟩⟩, hb⟩
    have := parseUnit_words k s.data.toList
    rw [hr] at this
    exact this
  rw [hr]
  clear hr HV1
  have k1 : (k == 1) = false := by simp; omega
  have k2 : (k == 2) = false := by simp; omega
  have hk' : ((k == 3) = true) ∨ ((k == 3) = false ∧ (k == 4) = true) := by
    rcases hk with rfl | rfl
    · exact .inl rfl
    · exact .inr ⟨rfl, rfl⟩
  clear hk
  rcases hk' with hk' | ⟨hk', hk''⟩
  · go_enter Tryz.func71, Tryz.ntmps71
    go_wp2_with fail
    refine hcon.mono ?_
    rintro e w1 ⟨⟨p, n, c, rfl, hfr⟩, hb⟩
    have Hb := Lib.hid hb
    have Hfr := Lib.hid hfr
    clear hfr hb
    have Hblk := Lib.hid ((new_block Hb.out).trans (heap_alloc_new w _))
    obtain ⟨⟨c0, c1, c2, c3⟩, f0, f1, f2, f3⟩ := res_cells Hb.out
    go_wp2_with fail
    generalize hW : World.setCell (World.setCell (World.setCell (World.setCell w1 _ _) _ _) _ _) _ _ = W
    obtain ⟨⟨g0, g1, g2, g3⟩, hsW, hoth, hbel⟩ := four_done Hblk.out hW
    have HB := Lib.hid (hbel w.heap.size w ((((Below.refl _ w).alloc (Nat.le_refl _) _)).trans (Hb.out.mono (by simp))) (Nat.le_refl _))
    have HO := Lib.hid hoth
    clear hW hbel hoth
    (try simp only [Exit.inBlock, Exit.then])
    refine bodyPost_ret (by simp [results, Tryz.results71, go_sem, g0, g1, g2, g3]; try rfl) rfl ?_
    exact ⟨⟨_, rfl, Hfr.out.out HO.out⟩, HB.out⟩
  · go_enter Tryz.func71, Tryz.ntmps71
    go_wp2_with fail
    refine hcon.mono ?_
    rintro e w1 ⟨⟨p, n, c, rfl, hfr⟩, hb⟩
    have Hb := Lib.hid hb
    have Hfr := Lib.hid hfr
    clear hfr hb
    have Hblk := Lib.hid ((new_block Hb.out).trans (heap_alloc_new w _))
    obtain ⟨⟨c0, c1, c2, c3⟩, f0, f1, f2, f3⟩ := res_cells Hb.out
    go_wp2_with fail
    generalize hW : World.setCell (World.setCell (World.setCell (World.setCell w1 _ _) _ _) _ _) _ _ = W
    obtain ⟨⟨g0, g1, g2, g3⟩, hsW, hoth, hbel⟩ := four_done Hblk.out hW
    have HB := Lib.hid (hbel w.heap.size w ((((Below.refl _ w).alloc (Nat.le_refl _) _)).trans (Hb.out.mono (by simp))) (Nat.le_refl _))
    have HO := Lib.hid hoth
    clear hW hbel hoth
    (try simp only [Exit.inBlock, Exit.then])
    refine bodyPost_ret (by simp [results, Tryz.results71, go_sem, g0, g1, g2, g3]; try rfl) rfl ?_
    exact ⟨⟨_, rfl, Hfr.out.out HO.out⟩, HB.out⟩

set_option maxHeartbeats 1000000 in
set_option maxRecDepth 100000 in
theorem parse_5 (s : ByteArray) (_hs : s.size ≤ 2147483647) (w : World) (hV : Vlo w) :
    Calls Tryz.prog 71 #[.int .i64 5, .string s] w fun e w' => ParseOut (parseText s.data.toList) w e w' ∧ Below w.heap.size w w' := by
  have HV1 := Lib.hid (hV.below ((Below.refl w.heap.size w).alloc (Nat.le_refl _) (.cells #[.int .i64 0, .int .i64 0, .string ⟨#[]⟩, .slice none 0 0] 98)) (Nat.le_refl _))
  clear hV
  obtain ⟨⟨⟨kk, nn, tt, ww⟩, ee⟩, hr⟩ : ∃ r, parseText s.data.toList = r := ⟨_, rfl⟩
  have hcon : Calls Tryz.prog 94 #[.string s] (w.alloc (.cells #[.int .i64 0, .int .i64 0, .string ⟨#[]⟩, .slice none 0 0] 98)) fun e w' => (∃ p n c, e = .returned (.tuple #[.agg #[.int .i64 kk, .int .i64 nn, .string tt, .slice p n c], .int .i64 ee]) ∧ Fresh (w.alloc (.cells #[.int .i64 0, .int .i64 0, .string ⟨#[]⟩, .slice none 0 0] 98)) w' (.slice p n c) ww) ∧ Below (w.alloc (.cells #[.int .i64 0, .int .i64 0, .string ⟨#[]⟩, .slice none 0 0] 98)).heap.size (w.alloc (.cells #[.int .i64 0, .int .i64 0, .string ⟨#[]⟩, .slice none 0 0] 98)) w' := by
    refine (parseText_any s _).mono ?_
    rintro e w' ⟨rfl, hb⟩
    rw [hr]
    refine ⟨⟨_, _, _, rfl, .inl ⟨?_, rfl⟩⟩, hb⟩
    have := parseText_words s.data.toList
    rw [hr] at this
    exact this
  rw [hr]
  clear hr HV1
  go_enter Tryz.func71, Tryz.ntmps71
  go_wp2_with fail
  refine hcon.mono ?_
  rintro e w1 ⟨⟨p, n, c, rfl, hfr⟩, hb⟩
  have Hb := Lib.hid hb
  have Hfr := Lib.hid hfr
  clear hfr hb
  have Hblk := Lib.hid ((new_block Hb.out).trans (heap_alloc_new w _))
  obtain ⟨⟨c0, c1, c2, c3⟩, f0, f1, f2, f3⟩ := res_cells Hb.out
  go_wp2_with fail
  generalize hW : World.setCell (World.setCell (World.setCell (World.setCell w1 _ _) _ _) _ _) _ _ = W
  obtain ⟨⟨g0, g1, g2, g3⟩, hsW, hoth, hbel⟩ := four_done Hblk.out hW
  have HB := Lib.hid (hbel w.heap.size w ((((Below.refl _ w).alloc (Nat.le_refl _) _)).trans (Hb.out.mono (by simp))) (Nat.le_refl _))
  have HO := Lib.hid hoth
  clear hW hbel hoth
  (try simp only [Exit.inBlock, Exit.then])
  refine bodyPost_ret (by simp [results, Tryz.results71, go_sem, g0, g1, g2, g3]; try rfl) rfl ?_
  exact ⟨⟨_, rfl, Hfr.out.out HO.out⟩, HB.out⟩

set_option maxHeartbeats 1000000 in
set_option maxRecDepth 100000 in
theorem parse_6 (s : ByteArray) (hs : s.size ≤ 2147483647) (w : World) (hV : Vlo w) :
    Calls Tryz.prog 71 #[.int .i64 6, .string s] w fun e w' => ParseOut (parseWords wordL s.data.toList) w e w' ∧ Below w.heap.size w w' := by
  have HV1 := Lib.hid (hV.below ((Below.refl w.heap.size w).alloc (Nat.le_refl _) (.cells #[.int .i64 0, .int .i64 0, .string ⟨#[]⟩, .slice none 0 0] 98)) (Nat.le_refl _))
  clear hV
  obtain ⟨⟨⟨kk, nn, tt, ww⟩, ee⟩, hr⟩ : ∃ r, parseWords wordL s.data.toList = r := ⟨_, rfl⟩
  have hcon : Calls Tryz.prog 95 #[.string s] (w.alloc (.cells #[.int .i64 0, .int .i64 0, .string ⟨#[]⟩, .slice none 0 0] 98)) fun e w' => (∃ p n c, e = .returned (.tuple #[.agg #[.int .i64 kk, .int .i64 nn, .string tt, .slice p n c], .int .i64 ee]) ∧ Fresh (w.alloc (.cells #[.int .i64 0, .int .i64 0, .string ⟨#[]⟩, .slice none 0 0] 98)) w' (.slice p n c) ww) ∧ Below (w.alloc (.cells #[.int .i64 0, .int .i64 0, .string ⟨#[]⟩, .slice none 0 0] 98)).heap.size (w.alloc (.cells #[.int .i64 0, .int .i64 0, .string ⟨#[]⟩, .slice none 0 0] 98)) w' := by
    refine (parseWords_any s hs _ HV1.out).mono ?_
    rintro e w' ⟨⟨sl, rfl, hf⟩, hb⟩
    rw [hr] at hf ⊢
    obtain ⟨p, n, c, rfl⟩ := hf.shape
    exact ⟨⟨p, n, c, rfl, hf⟩, hb⟩
  rw [hr]
  clear hr HV1
  go_enter Tryz.func71, Tryz.ntmps71
  go_wp2_with fail
  refine hcon.mono ?_
  rintro e w1 ⟨⟨p, n, c, rfl, hfr⟩, hb⟩
  have Hb := Lib.hid hb
  have Hfr := Lib.hid hfr
  clear hfr hb
  have Hblk := Lib.hid ((new_block Hb.out).trans (heap_alloc_new w _))
  obtain ⟨⟨c0, c1, c2, c3⟩, f0, f1, f2, f3⟩ := res_cells Hb.out
  go_wp2_with fail
  generalize hW : World.setCell (World.setCell (World.setCell (World.setCell w1 _ _) _ _) _ _) _ _ = W
  obtain ⟨⟨g0, g1, g2, g3⟩, hsW, hoth, hbel⟩ := four_done Hblk.out hW
  have HB := Lib.hid (hbel w.heap.size w ((((Below.refl _ w).alloc (Nat.le_refl _) _)).trans (Hb.out.mono (by simp))) (Nat.le_refl _))
  have HO := Lib.hid hoth
  clear hW hbel hoth
  (try simp only [Exit.inBlock, Exit.then])
  refine bodyPost_ret (by simp [results, Tryz.results71, go_sem, g0, g1, g2, g3]; try rfl) rfl ?_
  exact ⟨⟨_, rfl, Hfr.out.out HO.out⟩, HB.out⟩

theorem Parse_any (k : Int) (s : ByteArray) (hs : s.size ≤ 2147483647) (w : World) (hV : Vlo w) :
    Calls Tryz.prog 71 #[.int .i64 k, .string s] w fun e w' => ParseOut (parse wordL k s.data.toList) w e w' ∧ Below w.heap.size w w' := by
  by_cases h1 : k = 1
  · subst h1; exact parse_1 s hs w hV
  by_cases h2 : k = 2
  · subst h2; exact parse_2 s hs w hV
  by_cases hu : k = 3 ∨ k = 4
  · have : parse wordL k s.data.toList = parseUnit k s.data.toList := by unfold parse; rw [if_neg h1, if_neg h2, if_pos hu]
    rw [this]
    exact parse_u k hu s hs w hV
  by_cases h5 : k = 5
  · subst h5; exact parse_5 s hs w hV
  by_cases h6 : k = 6
  · subst h6; exact parse_6 s hs w hV
  have He : Hid (parse wordL k s.data.toList = (zero, 1)) := Lib.hid (by unfold parse; rw [if_neg h1, if_neg h2, if_neg hu, if_neg h5, if_neg h6])
  have q1 : (k == 1) = false := by simp [h1]
  have q2 : (k == 2) = false := by simp [h2]
  have q3 : (k == 3) = false := by simp; omega
  have q4 : (k == 4) = false := by simp; omega
  have q5 : (k == 5) = false := by simp [h5]
  have q6 : (k == 6) = false := by simp [h6]
  clear h1 h2 hu h5 h6 hV
  go_enter Tryz.func71, Tryz.ntmps71
  go_wp2_with fail
  go_returns
  exact ⟨⟨_, by rw [He.out]; rfl, .inl ⟨by rw [He.out]; rfl, rfl⟩⟩, by go_grown⟩
end Go.Proofs.YtpfhhaonfbfheaaGreatDoor.va
