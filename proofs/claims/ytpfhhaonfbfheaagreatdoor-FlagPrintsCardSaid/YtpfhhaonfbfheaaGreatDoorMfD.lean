/- Laws and contracts on which the statement rests, part D: each text says what it proves, and its conditions. -/
import Derived.Test.YtpfhhaonfbfheaaGreatDoorMfC
import Derived.Laws.Small
import Derived.Test.YtpfhhaonfbfheaaGreatDoorMfB
import Derived.OwnWalk
import Derived.Deep.RegionHeld3
import Derived.Laws.Concat
/- value.parseNumber returns the plain function. Conditions: the listed variables hold what the program's text lays; the text is no longer than 2147483647 bytes. -/
namespace Go.Proofs.YtpfhhaonfbfheaaGreatDoor.va
open Go.ChangeShapes Go.WideShapes Go.ChangeAt Go.RowKit gl

theorem hasPrefix_45 (l : List UInt8) : Lib.hasPrefix l [45] = decide (l.head? = some 45) := by
  cases l with
  | nil => rfl
  | cons c r =>
    by_cases h : c = 45
    · subst h; rfl
    · have : ((45 : UInt8) == c) = false := by rw [beq_eq_false_iff_ne]; exact fun e => h e.symm
      simp [Lib.hasPrefix, List.isPrefixOf, h, this]
theorem cutp_45 (s : ByteArray) (w : World) : Calls Tryz.prog 89 #[.string s, .string ⟨#[45]⟩] w fun e w' => (∃ t : ByteArray, t.data.toList = (if s.data.toList.head? = some 45 then s.data.toList.tail else s.data.toList) ∧ e = .returned (.tuple #[.string t, .bool (decide (s.data.toList.head? = some 45))])) ∧ w' = w := by
  refine (Tryz.strings_CutPrefix s ⟨#[45]⟩ w).mono ?_
  rintro e w' ⟨rfl, rfl⟩
  refine ⟨⟨_, ?_, by rw [← hasPrefix_45]⟩, rfl⟩
  show Lib.trimPrefix s.data.toList [45] = _
  unfold Lib.trimPrefix
  rw [hasPrefix_45]
  by_cases h : s.data.toList.head? = some 45
  · simp [h]
  · simp [h]
theorem tdiv_ediv {a b : Int} (h : 0 ≤ a) : a.tdiv b = a / b := by rw [tdiv_eq_if, if_pos h]
theorem ends_2 (w : World) : Calls Tryz.prog 116 #[.int .i64 2] w fun e w' => e = .returned (.tuple #[.int .i64 (-4611686018427387904), .int .i64 4611686018427387904]) ∧ w' = w := ends_any 2 w
theorem ends_u (k : Int) (hk : k = 3 ∨ k = 4) (w : World) : Calls Tryz.prog 116 #[.int .i64 k] w fun e w' => e = .returned (.tuple #[.int .i64 0, .int .i64 (most k)]) ∧ w' = w := by
  have := ends_any k w
  rwa [show least k = 0 from by unfold least; rw [if_neg (by omega)]] at this
theorem okNum_t {o : Option Nat} {n : Int} (h : okNum o n true) : ∃ m : Nat, o = some m ∧ n = m := by
  obtain ⟨h1, h2⟩ := h
  cases o with
  | none => cases h1
  | some m => exact ⟨m, rfl, h2 m rfl⟩
theorem okNum_f {o : Option Nat} {n : Int} (h : okNum o n false) : o = none := by
  cases o with
  | none => rfl
  | some m => exact absurd h.1 (by simp)
theorem parseInt_eq (l : List UInt8) : parseInt l = match num (if l.head? = some 45 then l.tail else l) with
    | none => (zero, 40)
    | some n => if l.head? = some 45 ∧ n = 0 then (zero, 40) else if 4611686018427387904 < n then (zero, 41) else (⟨2, if l.head? = some 45 then -(n : Int) else n, ByteArray.empty, []⟩, 0) := rfl

set_option maxHeartbeats 1000000 in
set_option maxRecDepth 100000 in
theorem parseInt_any (s : ByteArray) (hs : s.size ≤ 2147483647) (w : World) (hV : Vlo w) :
    Calls Tryz.prog 93 #[.int .i64 2, .string s] w fun e w' => e = .returned (res (parseInt s.data.toList) (.slice none 0 0)) ∧ Below w.heap.size w w' := by
  have HV := Lib.hid hV
  clear hV
  have hc := fun W => cutp_45 s W
  have hE := parseInt_eq s.data.toList
  have hlen : (if s.data.toList.head? = some 45 then s.data.toList.tail else s.data.toList).length ≤ s.size := by split <;> simp
  have HL := Lib.hid hlen
  clear hlen
  obtain ⟨T, hT⟩ : ∃ T, (if s.data.toList.head? = some 45 then s.data.toList.tail else s.data.toList) = T := ⟨_, rfl⟩
  simp only [hT] at hc hE HL
  have HN := Lib.hid (fun (t : ByteArray) (ht : t.data.toList = T) (W : World) (hb : Below w.heap.size w W) => number_any t (by have := HL.out; rw [← ht] at this; simp at this; omega) W (HV.out.below hb (Nat.le_refl _)))
  by_cases hneg : s.data.toList.head? = some 45
  · rw [decide_eq_true hneg] at hc
    simp only [hneg, if_true, true_and] at hE
    have HE := Lib.hid hE
    clear hE hneg hT
    go_enter Tryz.func93, Tryz.ntmps93
    go_wp2_with fail
    refine (hc _).mono ?_
    rintro e w1 ⟨⟨t, ht, rfl⟩, rfl⟩
    have Ht := Lib.hid ht
    clear ht
    go_wp2_with fail
    refine (HN.out t Ht.out _ ((Below.refl _ w).alloc (Nat.le_refl _) _)).mono ?_
    rintro e w2 ⟨⟨n, b, rfl, hok, hn0, hn1⟩, hb2⟩
    have Hb := Lib.hid hb2
    rw [Ht.out] at hok
    clear hb2 hc
    have Hblk := Lib.hid ((new_block Hb.out).trans (heap_alloc_new w _))
    obtain ⟨⟨c0, c1, c2, c3⟩, f0, f1, f2, f3⟩ := res_cells Hb.out
    cases b with
    | false =>
      have He : Hid (parseInt s.data.toList = (zero, 40)) := Lib.hid (by rw [HE.out, okNum_f hok])
      clear hok
      go_wp2_with fail
      generalize hW : World.setCell (World.setCell (World.setCell (World.setCell w2 _ _) _ _) _ _) _ _ = W
      obtain ⟨⟨g0, g1, g2, g3⟩, _, _, hbel⟩ := four_done Hblk.out hW
      have HB := Lib.hid (hbel w.heap.size w ((((Below.refl _ w).alloc (Nat.le_refl _) _)).trans (Hb.out.mono (by simp))) (Nat.le_refl _))
      clear hW hbel
      (try simp only [Exit.inBlock, Exit.then])
      refine bodyPost_ret (by simp [results, Tryz.results93, go_sem, g0, g1, g2, g3]; try rfl) rfl ?_
      exact ⟨by rw [He.out]; rfl, HB.out⟩
    | true =>
      obtain ⟨m, hm, rfl⟩ := okNum_t hok
      have HE2 := Lib.hid (HE.out.trans (by rw [hm]))
      simp only at HE2
      clear hok hm
      by_cases h0 : m = 0
      · have He : Hid (parseInt s.data.toList = (zero, 40)) := Lib.hid (by rw [HE2.out, if_pos h0])
        subst h0
        go_wp2_with fail
        generalize hW : World.setCell (World.setCell (World.setCell (World.setCell w2 _ _) _ _) _ _) _ _ = W
        obtain ⟨⟨g0, g1, g2, g3⟩, _, _, hbel⟩ := four_done Hblk.out hW
        have HB := Lib.hid (hbel w.heap.size w ((((Below.refl _ w).alloc (Nat.le_refl _) _)).trans (Hb.out.mono (by simp))) (Nat.le_refl _))
        clear hW hbel
        (try simp only [Exit.inBlock, Exit.then])
        refine bodyPost_ret (by simp [results, Tryz.results93, go_sem, g0, g1, g2, g3]; try rfl) rfl ?_
        exact ⟨by rw [He.out]; rfl, HB.out⟩
      · have h0' : ((m : Int) == 0) = false := by simp; omega
        by_cases h62 : 4611686018427387904 < m
        · have He : Hid (parseInt s.data.toList = (zero, 41)) := Lib.hid (by rw [HE2.out, if_neg h0, if_pos h62])
          go_wp2_with fail
          refine (ends_2 _).mono ?_
          rintro e w3 ⟨rfl, rfl⟩
          go_wp2_with fail
          generalize hW : World.setCell (World.setCell (World.setCell (World.setCell w3 _ _) _ _) _ _) _ _ = W
          obtain ⟨⟨g0, g1, g2, g3⟩, _, _, hbel⟩ := four_done Hblk.out hW
          have HB := Lib.hid (hbel w.heap.size w ((((Below.refl _ w).alloc (Nat.le_refl _) _)).trans (Hb.out.mono (by simp))) (Nat.le_refl _))
          clear hW hbel
          (try simp only [Exit.inBlock, Exit.then])
          refine bodyPost_ret (by simp [results, Tryz.results93, go_sem, g0, g1, g2, g3]; try rfl) rfl ?_
          exact ⟨by rw [He.out]; rfl, HB.out⟩
        · have He : Hid (parseInt s.data.toList = (⟨2, -(m : Int), ByteArray.empty, []⟩, 0)) := Lib.hid (by rw [HE2.out, if_neg h0, if_neg h62])
          go_wp2_with fail
          refine (ends_2 _).mono ?_
          rintro e w3 ⟨rfl, rfl⟩
          go_wp2_with fail
          generalize hW : World.setCell (World.setCell (World.setCell (World.setCell w3 _ _) _ _) _ _) _ _ = W
          obtain ⟨⟨g0, g1, g2, g3⟩, _, _, hbel⟩ := four_done Hblk.out hW
          have HB := Lib.hid (hbel w.heap.size w ((((Below.refl _ w).alloc (Nat.le_refl _) _)).trans (Hb.out.mono (by simp))) (Nat.le_refl _))
          clear hW hbel
          (try simp only [Exit.inBlock, Exit.then])
          refine bodyPost_ret (by simp [results, Tryz.results93, go_sem, g0, g1, g2, g3]; try rfl) rfl ?_
          exact ⟨by rw [He.out]; rfl, HB.out⟩
  · rw [decide_eq_false hneg] at hc
    simp only [hneg, if_false, false_and] at hE
    have HE := Lib.hid hE
    have Hs : Hid (s.data.toList = T) := Lib.hid (by rw [← hT, if_neg hneg])
    clear hE hneg hT
    go_enter Tryz.func93, Tryz.ntmps93
    go_wp2_with fail
    refine (hc _).mono ?_
    rintro e w1 ⟨⟨t, ht, rfl⟩, rfl⟩
    have Ht := Lib.hid ht
    clear ht
    go_wp2_with fail
    refine (HN.out s Hs.out _ ((Below.refl _ w).alloc (Nat.le_refl _) _)).mono ?_
    rintro e w2 ⟨⟨n, b, rfl, hok, hn0, hn1⟩, hb2⟩
    have Hb := Lib.hid hb2
    rw [Hs.out] at hok
    clear hb2 hc
    have Hblk := Lib.hid ((new_block Hb.out).trans (heap_alloc_new w _))
    obtain ⟨⟨c0, c1, c2, c3⟩, f0, f1, f2, f3⟩ := res_cells Hb.out
    cases b with
    | false =>
      have He : Hid (parseInt s.data.toList = (zero, 40)) := Lib.hid (by rw [HE.out, okNum_f hok])
      clear hok
      go_wp2_with fail
      generalize hW : World.setCell (World.setCell (World.setCell (World.setCell w2 _ _) _ _) _ _) _ _ = W
      obtain ⟨⟨g0, g1, g2, g3⟩, _, _, hbel⟩ := four_done Hblk.out hW
      have HB := Lib.hid (hbel w.heap.size w ((((Below.refl _ w).alloc (Nat.le_refl _) _)).trans (Hb.out.mono (by simp))) (Nat.le_refl _))
      clear hW hbel
      (try simp only [Exit.inBlock, Exit.then])
      refine bodyPost_ret (by simp [results, Tryz.results93, go_sem, g0, g1, g2, g3]; try rfl) rfl ?_
      exact ⟨by rw [He.out]; rfl, HB.out⟩
    | true =>
      obtain ⟨m, hm, rfl⟩ := okNum_t hok
      have HE2 := Lib.hid (HE.out.trans (by rw [hm]))
      simp only at HE2
      clear hok hm
      by_cases h62 : 4611686018427387904 < m
      · have He : Hid (parseInt s.data.toList = (zero, 41)) := Lib.hid (by rw [HE2.out, if_pos h62])
        go_wp2_with fail
        refine (ends_2 _).mono ?_
        rintro e w3 ⟨rfl, rfl⟩
        go_wp2_with fail
        generalize hW : World.setCell (World.setCell (World.setCell (World.setCell w3 _ _) _ _) _ _) _ _ = W
        obtain ⟨⟨g0, g1, g2, g3⟩, _, _, hbel⟩ := four_done Hblk.out hW
        have HB := Lib.hid (hbel w.heap.size w ((((Below.refl _ w).alloc (Nat.le_refl _) _)).trans (Hb.out.mono (by simp))) (Nat.le_refl _))
        clear hW hbel
        (try simp only [Exit.inBlock, Exit.then])
        refine bodyPost_ret (by simp [results, Tryz.results93, go_sem, g0, g1, g2, g3]; try rfl) rfl ?_
        exact ⟨by rw [He.out]; rfl, HB.out⟩
      · have He : Hid (parseInt s.data.toList = (⟨2, (m : Int), ByteArray.empty, []⟩, 0)) := Lib.hid (by rw [HE2.out, if_neg h62])
        go_wp2_with fail
        refine (ends_2 _).mono ?_
        rintro e w3 ⟨rfl, rfl⟩
        go_wp2_with fail
        generalize hW : World.setCell (World.setCell (World.setCell (World.setCell w3 _ _) _ _) _ _) _ _ = W
        obtain ⟨⟨g0, g1, g2, g3⟩, _, _, hbel⟩ := four_done Hblk.out hW
        have HB := Lib.hid (hbel w.heap.size w ((((Below.refl _ w).alloc (Nat.le_refl _) _)).trans (Hb.out.mono (by simp))) (Nat.le_refl _))
        clear hW hbel
        (try simp only [Exit.inBlock, Exit.then])
        refine bodyPost_ret (by simp [results, Tryz.results93, go_sem, g0, g1, g2, g3]; try rfl) rfl ?_
        exact ⟨by rw [He.out]; rfl, HB.out⟩

set_option maxHeartbeats 1000000 in
set_option maxRecDepth 100000 in
theorem parseUnit_any (k : Int) (hk : k = 3 ∨ k = 4) (s : ByteArray) (hs : s.size ≤ 2147483647) (w : World) (hV : Vlo w) :
    Calls Tryz.prog 93 #[.int .i64 k, .string s] w fun e w' => e = .returned (res (parseUnit k s.data.toList) (.slice none 0 0)) ∧ Below w.heap.size w w' := by
  have HV := Lib.hid hV
  clear hV
  have hk2 : (k == 2) = false := by simp; omega
  have Hc := Lib.hid (fun (W : World) (hb : Below w.heap.size w W) => cut_any k s hs W (HV.out.below hb (Nat.le_refl _)))
  have hU : 0 ≤ tail k s.data.toList ∧ tail k s.data.toList ≤ 1073741824 := by
    unfold tail
    split
    · omega
    · exact unit_nonneg _ _
  have hM : 0 ≤ most k ∧ most k ≤ 1125899906842624 := by rcases hk with rfl | rfl <;> decide
  have Hends := Lib.hid (ends_u k hk)
  have HE : Hid (parseUnit k s.data.toList = match num (s.data.toList.take (digs s.data.toList)) with
    | none => (zero, 40)
    | some n => if tail k s.data.toList = 0 then (zero, 40) else if most k / tail k s.data.toList < n then (zero, 41) else (⟨k, n * tail k s.data.toList, ByteArray.empty, []⟩, 0)) := Lib.hid rfl
  have HL : Hid ((s.data.toList.take (digs s.data.toList)).length ≤ s.size) := Lib.hid (by simp; omega)
  generalize tail k s.data.toList = u at *
  generalize most k = M at *
  generalize s.data.toList.take (digs s.data.toList) = T at *
  have HN := Lib.hid (fun (t : ByteArray) (ht : t.data.toList = T) (W : World) (hb : Below w.heap.size w W) => number_any t (by have := HL.out; rw [← ht] at this; simp at this; omega) W (HV.out.below hb (Nat.le_refl _)))
  have Hk := Lib.hid hk
  obtain ⟨hu0, hu1⟩ := hU
  obtain ⟨hM0, hM1⟩ := hM
  clear hk
  go_enter Tryz.func93, Tryz.ntmps93
  go_wp2_with fail
  refine (Hc.out _ ((Below.refl _ w).alloc (Nat.le_refl _) _)).mono ?_
  rintro e w1 ⟨⟨t, ht, rfl⟩, hb1⟩
  have Ht := Lib.hid ht
  have Hb1 := Lib.hid hb1
  have hsz1 := hb1.size
  simp at hsz1
  clear ht hb1
  go_wp2_with fail
  refine (HN.out t Ht.out _ (((Below.refl _ w).alloc (Nat.le_refl _) _).trans (Hb1.out.mono (by simp)))).mono ?_
  rintro e w2 ⟨⟨n, b, rfl, hok, hn0, hn1⟩, hb2⟩
  have Hb := Lib.hid (Hb1.out.trans (hb2.mono Hb1.out.size))
  rw [Ht.out] at hok
  clear hb2
  have Hblk := Lib.hid ((new_block Hb.out).trans (heap_alloc_new w _))
  obtain ⟨⟨c0, c1, c2, c3⟩, f0, f1, f2, f3⟩ := res_cells Hb.out
  cases b with
  | false =>
    have He : Hid (parseUnit k s.data.toList = (zero, 40)) := Lib.hid (by rw [HE.out, okNum_f hok])
    clear hok
    go_wp2_with fail
    generalize hW : World.setCell (World.setCell (World.setCell (World.setCell w2 _ _) _ _) _ _) _ _ = W
    obtain ⟨⟨g0, g1, g2, g3⟩, _, _, hbel⟩ := four_done Hblk.out hW
    have HB := Lib.hid (hbel w.heap.size w ((((Below.refl _ w).alloc (Nat.le_refl _) _)).trans (Hb.out.mono (by simp))) (Nat.le_refl _))
    clear hW hbel
    (try simp only [Exit.inBlock, Exit.then])
    refine bodyPost_ret (by simp [results, Tryz.results93, go_sem, g0, g1, g2, g3]; try rfl) rfl ?_
    exact ⟨by rw [He.out]; rfl, HB.out⟩
  | true =>
    obtain ⟨m, hm, rfl⟩ := okNum_t hok
    have HE2 := Lib.hid (HE.out.trans (by rw [hm]))
    simp only at HE2
    clear hok hm
    by_cases h0 : u = 0
    · have He : Hid (parseUnit k s.data.toList = (zero, 40)) := Lib.hid (by rw [HE2.out, if_pos h0])
      subst h0
      go_wp2_with fail
      generalize hW : World.setCell (World.setCell (World.setCell (World.setCell w2 _ _) _ _) _ _) _ _ = W
      obtain ⟨⟨g0, g1, g2, g3⟩, _, _, hbel⟩ := four_done Hblk.out hW
      have HB := Lib.hid (hbel w.heap.size w ((((Below.refl _ w).alloc (Nat.le_refl _) _)).trans (Hb.out.mono (by simp))) (Nat.le_refl _))
      clear hW hbel
      (try simp only [Exit.inBlock, Exit.then])
      refine bodyPost_ret (by simp [results, Tryz.results93, go_sem, g0, g1, g2, g3]; try rfl) rfl ?_
      exact ⟨by rw [He.out]; rfl, HB.out⟩
    · have h0' : (u == 0) = false := by simp [h0]
      have hq : M.tdiv u = M / u := tdiv_ediv hM0
      have hqm : 0 ≤ M / u ∧ M / u ≤ M := ⟨Int.ediv_nonneg hM0 hu0, by
        have := Int.mul_le_mul_of_nonneg_left (show (1 : Int) ≤ u by omega) (Int.ediv_nonneg hM0 hu0)
        have := Int.ediv_mul_le M (b := u) h0
        omega⟩
      have Hmul : Hid ((m : Int) ≤ M / u → 0 ≤ (m : Int) * u ∧ (m : Int) * u ≤ M) := Lib.hid (fun h => ⟨Int.mul_nonneg (by omega) hu0, by
        have h2 := Int.mul_le_mul_of_nonneg_right h hu0
        have h3 := Int.ediv_mul_le M (b := u) h0
        omega⟩)
      generalize M / u = q at *
      obtain ⟨hq0, hqM⟩ := hqm
      by_cases hgt : q < m
      · have He : Hid (parseUnit k s.data.toList = (zero, 41)) := Lib.hid (by rw [HE2.out, if_neg h0, if_pos hgt])
        go_wp2_with fail
        refine (Hends.out _).mono ?_
        rintro e w3 ⟨rfl, rfl⟩
        go_wp2_with fail
        generalize hW : World.setCell (World.setCell (World.setCell (World.setCell w3 _ _) _ _) _ _) _ _ = W
        obtain ⟨⟨g0, g1, g2, g3⟩, _, _, hbel⟩ := four_done Hblk.out hW
        have HB := Lib.hid (hbel w.heap.size w ((((Below.refl _ w).alloc (Nat.le_refl _) _)).trans (Hb.out.mono (by simp))) (Nat.le_refl _))
        clear hW hbel
        (try simp only [Exit.inBlock, Exit.then])
        refine bodyPost_ret (by simp [results, Tryz.results93, go_sem, g0, g1, g2, g3]; try rfl) rfl ?_
        exact ⟨by rw [He.out]; rfl, HB.out⟩
      · have He : Hid (parseUnit k s.data.toList = (⟨k, m * u, ByteArray.empty, []⟩, 0)) := Lib.hid (by rw [HE2.out, if_neg h0, if_neg hgt])
        obtain ⟨hp0, hp1⟩ := Hmul.out (by omega)
        go_wp2_with fail
        refine (Hends.out _).mono ?_
        rintro e w3 ⟨rfl, rfl⟩
        go_wp2_with fail
        generalize hW : World.setCell (World.setCell (World.setCell (World.setCell w3 _ _) _ _) _ _) _ _ = W
        obtain ⟨⟨g0, g1, g2, g3⟩, _, _, hbel⟩ := four_done Hblk.out hW
        have HB := Lib.hid (hbel w.heap.size w ((((Below.refl _ w).alloc (Nat.le_refl _) _)).trans (Hb.out.mono (by simp))) (Nat.le_refl _))
        clear hW hbel
        (try simp only [Exit.inBlock, Exit.then])
        refine bodyPost_ret (by simp [results, Tryz.results93, go_sem, g0, g1, g2, g3]; try rfl) rfl ?_
        exact ⟨by rw [He.out]; rfl, HB.out⟩
end Go.Proofs.YtpfhhaonfbfheaaGreatDoor.va
/- slices.ContainsFunc at the two closures over glyph.IsWord; slices.Clip of strings; strings.Split and Join as lists. Conditions: the listed variables hold what the program's text lays; the texts are no longer than 2147483647 bytes. -/
namespace Go.Proofs.YtpfhhaonfbfheaaGreatDoor.va
open Go.ChangeShapes Go.WideShapes Go.ChangeAt Go.RowKit gl

def allW (xs : List ByteArray) : Bool := xs.all fun x => wordL x.data.toList
/-- A function that says which words are none. -/
def NotW (g : Nat) : Prop := ∀ (x : ByteArray) (W : World), x.size ≤ 2147483647 → Vlo W → Calls Tryz.prog g #[.string x] W fun e w' => e = .returned (.bool (!wordL x.data.toList)) ∧ Below W.heap.size W w'
theorem notW_parse : NotW 118 := by
  intro x W hx hV
  have hw := IsWord_any x hx W hV.glo
  clear hV
  generalize wordL x.data.toList = b at *
  go_enter Tryz.func118, Tryz.ntmps118
  go_wp2_with fail
  refine hw.mono ?_
  rintro e w1 ⟨rfl, hb⟩
  go_wp2_with fail
  go_ret
  exact ⟨rfl, hb⟩
theorem notW_right : NotW 121 := by
  intro x W hx hV
  have hw := IsWord_any x hx W hV.glo
  clear hV
  generalize wordL x.data.toList = b at *
  go_enter Tryz.func121, Tryz.ntmps121
  go_wp2_with fail
  refine hw.mono ?_
  rintro e w1 ⟨rfl, hb⟩
  go_wp2_with fail
  go_ret
  exact ⟨rfl, hb⟩

def goodW (xs : List ByteArray) (k : Nat) : Prop := ∀ (j : Nat) x, j < k → xs[j]? = some x → wordL x.data.toList = true
theorem goodW_succ {xs : List ByteArray} {k : Nat} {x : ByteArray} (h : goodW xs k) (hx : xs[k]? = some x) (hp : wordL x.data.toList = true) : goodW xs (k + 1) := by
  intro j y hj hy
  rcases Nat.lt_or_ge j k with h1 | h1
  · exact h j y h1 hy
  · obtain rfl : j = k := by omega
    rw [hx] at hy
    obtain rfl := Option.some.inj hy
    exact hp
theorem allW_good {xs : List ByteArray} (h : goodW xs xs.length) : allW xs = true := by
  unfold allW
  rw [List.all_eq_true]
  intro x hx
  obtain ⟨j, hj⟩ := List.mem_iff_getElem?.1 hx
  exact h j x (lt_of_get hj) hj
theorem allW_bad {xs : List ByteArray} {k : Nat} {x : ByteArray} (hx : xs[k]? = some x) (hp : wordL x.data.toList = false) : allW xs = false := by
  unfold allW
  rw [List.all_eq_false]
  exact ⟨x, List.mem_of_getElem? hx, by simp [hp]⟩
def IdxOut (xs : List ByteArray) (e : Ending) : Prop := ∃ r : Int, e = .returned (.int .i64 r) ∧ ((allW xs = true ∧ r < 0) ∨ (allW xs = false ∧ 0 ≤ r))

set_option maxHeartbeats 1000000 in
theorem idxW_any (g : Nat) (eg : ∀ args w, (callFunc g args).run Tryz.prog w = .ok (.enter g args) w) (hg : NotW g) (v : Value) (xs : List ByteArray) (hx : ∀ x ∈ xs, x.size ≤ 2147483647) (hl : xs.length ≤ 4294967295) (w : World) (hV : Vlo w) (hS : Strs w v xs) :
    Calls Tryz.prog 82 #[v, .func (.func g) #[] #[]] w fun e w' => IdxOut xs e ∧ Below w.heap.size w w' := by
  have HV := Lib.hid hV
  clear hV
  obtain ⟨p, c, rfl, hc, hat⟩ := hS
  have Hg := Lib.hid hg
  clear hg
  have Hxs := Lib.hid hx
  clear hx
  have Hat := Lib.hid hat
  clear hat
  obtain ⟨n, hn⟩ : ∃ n, xs.length = n := ⟨_, rfl⟩
  have Hn := Lib.hid hn
  rw [hn] at hl hc ⊢
  clear hn
  go_enter Tryz.func82, Tryz.ntmps82
  go_wp2_with fail
  go_loopw [8] (fun i wr => ∃ k : Nat, k ≤ n ∧ i = .int .i64 k ∧ goodW xs k ∧ Below w.heap.size w wr) (fun i _ => n - (intOf i).toNat)
  case atStart => exact ⟨0, by omega, rfl, fun j x h => by omega, Below.refl _ _⟩
  case round =>
    obtain ⟨k, hk, rfl, hgo, hb⟩ := hrel
    have Hgo := Lib.hid hgo
    have Hb := Lib.hid hb
    have hsz := hb.size
    clear hgo hb
    by_cases hlt : k < n
    · obtain ⟨x, hx⟩ : ∃ x, xs[k]? = some x := ⟨xs[k]'(by rw [Hn.out]; exact hlt), List.getElem?_eq_getElem _⟩
      have Hx := Lib.hid hx
      rcases Hat.out with hnil | ⟨b, o, rfl, hblt, hat⟩
      · rw [hnil] at hx; cases hx
      · have hcell : wr.cell? ⟨b, o + k, none⟩ = some (.string x) := (Hb.out.cell (p := ⟨b, o + k, none⟩) hblt).trans (hat k x hx)
        have HW := Lib.hid (Hg.out x wr (Hxs.out x (List.mem_of_getElem? hx)) (HV.out.below Hb.out (Nat.le_refl _)))
        clear hat hx
        cases hw : wordL x.data.toList with
        | true =>
          rw [hw] at HW
          have Hw := Lib.hid hw
          clear hw
          go_wp2_with (go_at_fn g; refine HW.out.mono ?_; rintro e w2 ⟨rfl, hb2⟩)
          go_roundw
          case rel => exact ⟨k + 1, by omega, by go_num, goodW_succ Hgo.out Hx.out Hw.out, Hb.out.trans (hb2.mono hsz)⟩
          case measure => simp [intOf]; omega
        | false =>
          rw [hw] at HW
          have Hw := Lib.hid hw
          clear hw
          go_wp2_with (go_at_fn g; refine HW.out.mono ?_; rintro e w2 ⟨rfl, hb2⟩)
          go_ret
          exact ⟨⟨_, rfl, .inr ⟨allW_bad Hx.out Hw.out, by omega⟩⟩, Hb.out.trans (hb2.mono hsz)⟩
    · obtain rfl : k = n := by omega
      go_wp2_with fail
      go_ret
      exact ⟨⟨_, rfl, .inl ⟨allW_good (by rw [Hn.out]; exact Hgo.out), by omega⟩⟩, Hb.out⟩

theorem containsW_any (g : Nat) (eg : ∀ args w, (callFunc g args).run Tryz.prog w = .ok (.enter g args) w) (hg : NotW g) (v : Value) (xs : List ByteArray) (hx : ∀ x ∈ xs, x.size ≤ 2147483647) (hl : xs.length ≤ 4294967295) (w : World) (hV : Vlo w) (hS : Strs w v xs) :
    Calls Tryz.prog 55 #[v, .func (.func g) #[] #[]] w fun e w' => e = .returned (.bool (!allW xs)) ∧ Below w.heap.size w w' := by
  have hi := idxW_any g eg hg v xs hx hl w hV hS
  clear hV hg hx eg hl hS
  unfold IdxOut at hi
  go_enter Tryz.func55, Tryz.ntmps55
  go_wp2_with fail
  refine hi.mono ?_
  rintro e w1 ⟨⟨r, rfl, ⟨ha, hr⟩ | ⟨ha, hr⟩⟩, hb⟩
  · go_wp2_with fail
    go_ret
    exact ⟨ret_bool (by rw [ha]; first | rfl | exact (decide_eq_false (by omega)).symm), hb⟩
  · go_wp2_with fail
    go_ret
    exact ⟨ret_bool (by rw [ha]; first | rfl | exact (decide_eq_true (by omega)).symm), hb⟩

theorem clip_any (p : Option Addr) (n c : Nat) (hn : n ≤ c) (w : World) : Calls Tryz.prog 120 #[.slice p n c] w fun e w' => e = .returned (.slice p n n) ∧ w = w' := by
  cases p with
  | none =>
    go_enter Tryz.func120, Tryz.ntmps120
    go_wp2_with fail
    go_ret
    exact ⟨rfl, rfl⟩
  | some a =>
    go_enter Tryz.func120, Tryz.ntmps120
    go_wp2_with fail
    go_ret
    exact ⟨rfl, rfl⟩
theorem map_mk {ps : List ByteArray} {L : List (List UInt8)} (h : ps.map (·.data.toList) = L) : ps = L.map B := by rw [← h, map_B]
theorem ret_sl {p : Option Addr} {a b c d : Nat} (h : a = b) (h2 : c = d) : Ending.returned (.slice p a c) = .returned (.slice p b d) := by rw [h, h2]
theorem splitW_any (s : ByteArray) (hs : s.size ≤ 2147483647) (w : World) (hV : Vlo w) :
    Calls Tryz.prog 76 #[.string s, .string ⟨#[44]⟩] w fun e w' => (e = .returned (.slice (some ⟨w.heap.size, 0, none⟩) (pcs 44 s.data.toList).length (pcs 44 s.data.toList).length) ∧ w'.heap[w.heap.size]? = some (.cells (((pcs 44 s.data.toList).map B).map Value.string).toArray 9 (0, 0))) ∧ w.heap.size < w'.heap.size ∧ Below w.heap.size w w' := by
  obtain ⟨m, hm⟩ := hV.glo.maxLen
  refine (Tryz.strings_Split s ⟨#[44]⟩ m w (by omega) hm (by simp [ByteArray.size])).mono ?_
  rintro e w' ⟨he, rfl⟩
  have hl : (Lib.splitB ⟨#[44]⟩ 0 (Lib.countB s ⟨#[44]⟩) s).length = Lib.countB s ⟨#[44]⟩ + 1 := Lib.splitB_all _ (by simp [ByteArray.size]) 0 _ s rfl
  have hp := map_mk (splitB_pcs 44 s)
  refine ⟨⟨?_, ?_⟩, by simp, (Below.refl _ w).alloc (Nat.le_refl _) _⟩
  · rw [he]
    exact ret_sl (by rw [← countB_pcs]) (by rw [← countB_pcs])
  · rw [heap_alloc_new, ← hp]
theorem strs_row {w : World} {b : Nat} {xs : List ByteArray} {t : TypeId} {f : Nat × Nat} (h : w.heap[b]? = some (.cells (xs.map Value.string).toArray t f)) (hb : b < w.heap.size) (c : Nat) (hc : xs.length ≤ c) : Strs w (.slice (some ⟨b, 0, none⟩) xs.length c) xs :=
  ⟨_, c, rfl, hc, .inr ⟨b, 0, rfl, hb, fun j x hj => by
    rw [cell_of_row w b _ _ _ _ h, Nat.zero_add]
    simp [hj]⟩⟩
/-- What Join gives. -/
theorem joinW_any (v : Value) (xs : List ByteArray) (w : World) (hS : Strs w v xs) (hl : xs.length ≤ 2147483647) (hj : (joined xs).length ≤ 140737488355328) :
    Calls Tryz.prog 122 #[v, .string ⟨#[44]⟩] w fun e w' => e = .returned (.string (B (joined xs))) ∧ Below w.heap.size w w' := by
  obtain ⟨p, c, rfl, hc, h⟩ := hS
  rcases h with rfl | ⟨b, o, rfl, hlt, hat⟩
  · refine (Tryz.strings_Join_none p c ⟨#[44]⟩ w).mono ?_
    rintro e w' ⟨rfl, rfl⟩
    exact ⟨rfl, Below.refl _ _⟩
  · exact Tryz.strings_Join b o c xs ⟨#[44]⟩ w hat hlt (by omega) hc hj
end Go.Proofs.YtpfhhaonfbfheaaGreatDoor.va
/- value.parseWords and Parse return plain functions. Conditions: the listed variables hold what the program's text lays; the text is no longer than 2147483647 bytes. -/
namespace Go.Proofs.YtpfhhaonfbfheaaGreatDoor.va
open Go.ChangeShapes Go.WideShapes Go.ChangeAt Go.RowKit gl

/-- A new slice of strings, without room behind it. -/
def Fresh (w w' : World) (sl : Value) (xs : List ByteArray) : Prop :=
  (xs = [] ∧ sl = .slice none 0 0) ∨ ∃ g, sl = .slice (some ⟨g, 0, none⟩) xs.length xs.length ∧ w.heap.size ≤ g ∧ w'.heap[g]? = some (.cells (xs.map Value.string).toArray 9 (0, 0))
theorem Fresh.shape {w w' : World} {sl : Value} {xs : List ByteArray} (h : Fresh w w' sl xs) : ∃ p n c, sl = .slice p n c := by
  rcases h with ⟨_, rfl⟩ | ⟨g, rfl, _⟩
  · exact ⟨_, _, _, rfl⟩
  · exact ⟨_, _, _, rfl⟩
theorem Fresh.strs {w w' : World} {sl : Value} {xs : List ByteArray} (h : Fresh w w' sl xs) : Strs w' sl xs := by
  rcases h with ⟨rfl, rfl⟩ | ⟨g, rfl, _, h⟩
  · exact ⟨none, 0, rfl, Nat.le_refl _, .inl rfl⟩
  · exact strs_row h (lt_of_block h) _ (Nat.le_refl _)
theorem Fresh.later {w w' w'' : World} {sl : Value} {xs : List ByteArray} (h : Fresh w w' sl xs) (hb : Below w'.heap.size w' w'') : Fresh w w'' sl xs := by
  rcases h with h | ⟨g, h1, h2, h⟩
  · exact .inl h
  · exact .inr ⟨g, h1, h2, (hb.block _ (lt_of_block h)).trans h⟩
theorem Fresh.from {w0 w w' : World} {sl : Value} {xs : List ByteArray} (h : Fresh w w' sl xs) (hs : w0.heap.size ≤ w.heap.size) : Fresh w0 w' sl xs := by
  rcases h with h | ⟨g, h1, h2, h⟩
  · exact .inl h
  · exact .inr ⟨g, h1, by omega, h⟩
def ParseOut (r : Val × Int) (w : World) (e : Ending) (w' : World) : Prop := ∃ sl, e = .returned (res r sl) ∧ Fresh w w' sl r.1.words
theorem sl_eq {p : Option Addr} {a b : Nat} (h : a = b) : Value.slice p a a = .slice p b b := by rw [h]
/-- The two structs that parseWords lays. -/
theorem two_blocks {w w1 : World} {o o' : Obj} (hb : Below ((w.alloc o).alloc o').heap.size ((w.alloc o).alloc o') w1) : w1.heap[w.heap.size]? = (w.alloc o).heap[w.heap.size]? ∧ w1.heap[w.heap.size + 1]? = some o' := by
  refine ⟨(hb.block _ (by simp; omega)).trans (heap_al (by rw [heap_alloc_new]) o' |>.trans (heap_alloc_new w o).symm), ?_⟩
  have := hb.block (w.heap.size + 1) (by simp)
  rw [this]
  have h2 := heap_alloc_new (w.alloc o) o'
  simpa using h2

set_option maxHeartbeats 1000000 in
set_option maxRecDepth 100000 in
theorem parseWords_any (s : ByteArray) (hs : s.size ≤ 2147483647) (w : World) (hV : Vlo w) :
    Calls Tryz.prog 95 #[.string s] w fun e w' => ParseOut (parseWords wordL s.data.toList) w e w' ∧ Below w.heap.size w w' := by
  have HV := Lib.hid hV
  clear hV
  have hlen : s.data.toList.length = s.size := by simp
  by_cases h0 : s.data.toList = []
  · have He : Hid (parseWords wordL s.data.toList = (⟨6, 0, ByteArray.empty, []⟩, 0)) := Lib.hid (by unfold parseWords; rw [if_pos h0])
    have hemp : s.toList.isEmpty = true := by rw [ByteArray.toList_eq, h0]; rfl
    clear h0
    go_enter Tryz.func95, Tryz.ntmps95
    go_wp2_with fail
    go_returns
    exact ⟨⟨_, by rw [He.out]; rfl, .inl ⟨by rw [He.out], rfl⟩⟩, by go_grown⟩
  · have HE : Hid (parseWords wordL s.data.toList = if (pcs 44 s.data.toList).all wordL then (if 200 < s.size ∨ 16 < (pcs 44 s.data.toList).length then (zero, 42) else (⟨6, 0, ByteArray.empty, (pcs 44 s.data.toList).map B⟩, 0)) else (zero, 40)) := Lib.hid (by unfold parseWords; rw [if_neg h0, hlen])
    have hemp : s.toList.isEmpty = false := by
      rw [ByteArray.toList_eq]
      cases hl : s.data.toList with
      | nil => exact absurd hl h0
      | cons => rfl
    clear h0
    have hpl := pcs_length 44 s.data.toList
    have hcl := List.count_le_length (a := (44 : UInt8)) (l := s.data.toList)
    have HM : Hid (∀ x ∈ (pcs 44 s.data.toList).map B, x.size ≤ 2147483647) := Lib.hid (by
      intro x hx
      obtain ⟨l, hl, rfl⟩ := List.mem_map.1 hx
      have := mem_pcs_le 44 _ _ hl
      show l.toArray.size ≤ _
      simp
      omega)
    have HA : Hid (allW ((pcs 44 s.data.toList).map B) = (pcs 44 s.data.toList).all wordL) := Lib.hid (by
      unfold allW
      rw [List.all_map]
      congr 1)
    have HSp := Lib.hid (fun (W : World) (hb : Below w.heap.size w W) => splitW_any s hs W (HV.out.below hb (Nat.le_refl _)))
    have hps0 : (pcs 44 s.data.toList).length ≤ 2147483648 := by omega
    generalize pcs 44 s.data.toList = ps at *
    obtain ⟨n, hn⟩ : ∃ n, ps.length = n := ⟨_, rfl⟩
    have Hmap : Hid ((ps.map B).length = n) := Lib.hid (by rw [List.length_map, hn])
    rw [hn] at HSp HE hps0
    clear hpl hcl
    cases hall : ps.all wordL with
    | false =>
      have He : Hid (parseWords wordL s.data.toList = (zero, 40)) := Lib.hid (by rw [HE.out, hall]; rfl)
      have HA2 : Hid (allW (ps.map B) = false) := Lib.hid (HA.out.trans hall)
      clear hall hn
      go_enter Tryz.func95, Tryz.ntmps95
      go_wp2_with fail
      refine (HSp.out _ (((Below.refl _ w).alloc (Nat.le_refl _) _).alloc (by simp) _)).mono ?_
      rintro e w1 ⟨⟨rfl, hrow⟩, hlt1, hb1⟩
      simp only [World.size_alloc] at hrow
      have Hrow := Lib.hid hrow
      have Hb1 := Lib.hid hb1
      have hsz1 := hb1.size
      simp at hsz1 hlt1
      have Hbw1 : Hid (Below w.heap.size w w1) := Lib.hid ((((Below.refl _ w).alloc (Nat.le_refl _) _).alloc (by simp) _).trans (hb1.mono (by simp; omega)))
      have Hst : Hid (Strs w1 (.slice (some ⟨w.heap.size + 1 + 1, 0, none⟩) n n) (ps.map B)) := Lib.hid (by
        have := strs_row Hrow.out (by omega) n (by rw [Hmap.out]; exact Nat.le_refl _)
        rwa [Hmap.out] at this)
      clear hrow hb1
      go_wp2_with fail
      have hcon := containsW_any 118 (enters_of Tryz.func118 (by kernel_rfl) rfl) notW_parse _ (ps.map B) HM.out (by rw [Hmap.out]; omega) w1 (HV.out.below Hbw1.out (Nat.le_refl _)) Hst.out
      rw [HA2.out] at hcon
      refine hcon.mono ?_
      rintro e w2 ⟨rfl, hb2⟩
      have Hb2 := Lib.hid hb2
      have hsz2 := hb2.size
      obtain ⟨hB0, hB1⟩ := two_blocks (Hb1.out.trans (hb2.mono Hb1.out.size))
      rw [heap_alloc_new] at hB0
      have Hblk := Lib.hid hB0
      have Hv := Lib.hid hB1
      have Hbw2 : Hid (Below w.heap.size w w2) := Lib.hid (Hbw1.out.trans (hb2.mono (by omega)))
      have hc := fun j => cell_of_row w2 w.heap.size j _ _ _ hB0
      have hf := fun j => frozen_of_row w2 w.heap.size j _ _ hB0
      have hd := fun j => cell_of_row w2 (w.heap.size + 1) j _ _ _ hB1
      have hg := fun j => frozen_of_row w2 (w.heap.size + 1) j _ _ hB1
      have c0 := hc 0; have c1 := hc 1; have c2 := hc 2; have c3 := hc 3
      have f0 := hf 0; have f1 := hf 1; have f2 := hf 2; have f3 := hf 3
      have d0 := hd 0; have d1 := hd 1; have d2 := hd 2; have d3 := hd 3
      have k0 := hg 0; have k1 := hg 1; have k2 := hg 2; have k3 := hg 3
      simp only [List.getElem?_toArray, List.getElem?_cons_succ, List.getElem?_cons_zero] at c0 c1 c2 c3 d0 d1 d2 d3
      clear hc hf hd hg hB0 hB1 hb2 hcon
      go_wp2_with fail
      generalize hW : World.setCell (World.setCell (World.setCell (World.setCell w2 _ _) _ _) _ _) _ _ = W
      obtain ⟨⟨g0, g1, g2, g3⟩, hsW, hoth, hbel⟩ := four_done Hblk.out hW
      have HB := Lib.hid (hbel w.heap.size w Hbw2.out (Nat.le_refl _))
      have HO := Lib.hid hoth
      clear hW hbel hoth
      (try simp only [Exit.inBlock, Exit.then])
      refine bodyPost_ret (by simp [results, Tryz.results95, go_sem, g0, g1, g2, g3]; try rfl) rfl ?_
      exact ⟨⟨_, by rw [He.out]; rfl, .inl ⟨by rw [He.out]; rfl, rfl⟩⟩, HB.out⟩
    | true =>
      have HE2 := Lib.hid (HE.out.trans (by rw [hall, if_pos rfl]))
      have HA2 : Hid (allW (ps.map B) = true) := Lib.hid (HA.out.trans hall)
      clear hall hn
      go_enter Tryz.func95, Tryz.ntmps95
      go_wp2_with fail
      refine (HSp.out _ (((Below.refl _ w).alloc (Nat.le_refl _) _).alloc (by simp) _)).mono ?_
      rintro e w1 ⟨⟨rfl, hrow⟩, hlt1, hb1⟩
      simp only [World.size_alloc] at hrow
      have Hrow := Lib.hid hrow
      have Hb1 := Lib.hid hb1
      have hsz1 := hb1.size
      simp at hsz1 hlt1
      have Hbw1 : Hid (Below w.heap.size w w1) := Lib.hid ((((Below.refl _ w).alloc (Nat.le_refl _) _).alloc (by simp) _).trans (hb1.mono (by simp; omega)))
      have Hst : Hid (Strs w1 (.slice (some ⟨w.heap.size + 1 + 1, 0, none⟩) n n) (ps.map B)) := Lib.hid (by
        have := strs_row Hrow.out (by omega) n (by rw [Hmap.out]; exact Nat.le_refl _)
        rwa [Hmap.out] at this)
      clear hrow hb1
      go_wp2_with fail
      have hcon := containsW_any 118 (enters_of Tryz.func118 (by kernel_rfl) rfl) notW_parse _ (ps.map B) HM.out (by rw [Hmap.out]; omega) w1 (HV.out.below Hbw1.out (Nat.le_refl _)) Hst.out
      rw [HA2.out] at hcon
      refine hcon.mono ?_
      rintro e w2 ⟨rfl, hb2⟩
      have Hb2 := Lib.hid hb2
      have hsz2 := hb2.size
      obtain ⟨hB0, hB1⟩ := two_blocks (Hb1.out.trans (hb2.mono Hb1.out.size))
      rw [heap_alloc_new] at hB0
      have Hblk := Lib.hid hB0
      have Hv := Lib.hid hB1
      have Hbw2 : Hid (Below w.heap.size w w2) := Lib.hid (Hbw1.out.trans (hb2.mono (by omega)))
      have hc := fun j => cell_of_row w2 w.heap.size j _ _ _ hB0
      have hf := fun j => frozen_of_row w2 w.heap.size j _ _ hB0
      have hd := fun j => cell_of_row w2 (w.heap.size + 1) j _ _ _ hB1
      have hg := fun j => frozen_of_row w2 (w.heap.size + 1) j _ _ hB1
      have c0 := hc 0; have c1 := hc 1; have c2 := hc 2; have c3 := hc 3
      have f0 := hf 0; have f1 := hf 1; have f2 := hf 2; have f3 := hf 3
      have d0 := hd 0; have d1 := hd 1; have d2 := hd 2; have d3 := hd 3
      have k0 := hg 0; have k1 := hg 1; have k2 := hg 2; have k3 := hg 3
      simp only [List.getElem?_toArray, List.getElem?_cons_succ, List.getElem?_cons_zero] at c0 c1 c2 c3 d0 d1 d2 d3
      clear hc hf hd hg hB0 hB1 hb2 hcon
      by_cases h2 : 200 < s.size
      · have He : Hid (parseWords wordL s.data.toList = (zero, 42)) := Lib.hid (by rw [HE2.out, if_pos (.inl h2)])
        go_wp2_with fail
        generalize hW : World.setCell (World.setCell (World.setCell (World.setCell w2 _ _) _ _) _ _) _ _ = W
        obtain ⟨⟨g0, g1, g2, g3⟩, hsW, hoth, hbel⟩ := four_done Hblk.out hW
        have HB := Lib.hid (hbel w.heap.size w Hbw2.out (Nat.le_refl _))
        have HO := Lib.hid hoth
        clear hW hbel hoth
        (try simp only [Exit.inBlock, Exit.then])
        refine bodyPost_ret (by simp [results, Tryz.results95, go_sem, g0, g1, g2, g3]; try rfl) rfl ?_
        exact ⟨⟨_, by rw [He.out]; rfl, .inl ⟨by rw [He.out]; rfl, rfl⟩⟩, HB.out⟩
      · by_cases h16 : 16 < n
        · have He : Hid (parseWords wordL s.data.toList = (zero, 42)) := Lib.hid (by rw [HE2.out, if_pos (.inr h16)])
          go_wp2_with fail
          generalize hW : World.setCell (World.setCell (World.setCell (World.setCell w2 _ _) _ _) _ _) _ _ = W
          obtain ⟨⟨g0, g1, g2, g3⟩, hsW, hoth, hbel⟩ := four_done Hblk.out hW
          have HB := Lib.hid (hbel w.heap.size w Hbw2.out (Nat.le_refl _))
          have HO := Lib.hid hoth
          clear hW hbel hoth
          (try simp only [Exit.inBlock, Exit.then])
          refine bodyPost_ret (by simp [results, Tryz.results95, go_sem, g0, g1, g2, g3]; try rfl) rfl ?_
          exact ⟨⟨_, by rw [He.out]; rfl, .inl ⟨by rw [He.out]; rfl, rfl⟩⟩, HB.out⟩
        · have He : Hid (parseWords wordL s.data.toList = (⟨6, 0, ByteArray.empty, ps.map B⟩, 0)) := Lib.hid (by rw [HE2.out, if_neg (by omega)])
          go_wp2_with fail
          refine (clip_any _ n n (Nat.le_refl _) w2).mono ?_
          rintro e w3 ⟨rfl, rfl⟩
          go_wp2_with fail
          obtain ⟨w4, hw4⟩ : ∃ w4, w4 = w2.setCell ⟨w.heap.size + 1, 3, none⟩ (.slice (some ⟨w.heap.size + 1 + 1, 0, none⟩) n n) := ⟨_, rfl⟩
          rw [← hw4]
          have Hblk4 := Lib.hid ((congrArg (fun x : World => x.heap[w.heap.size]?) hw4).trans (heap_set_ne Hblk.out _ (by simp)))
          have Hrow4 := Lib.hid ((congrArg (fun x : World => x.heap[w.heap.size + 1 + 1]?) hw4).trans (heap_set_ne ((Hb2.out.block _ hlt1).trans Hrow.out) _ (by simp)))
          have Hbw4 : Hid (Below w.heap.size w w4) := Lib.hid (by rw [hw4]; exact Hbw2.out.setCell (by simp) _)
          clear hw4
          clear Hblk
          have Hblk := Hblk4
          generalize hW : World.setCell (World.setCell (World.setCell (World.setCell w4 _ _) _ _) _ _) _ _ = W
          obtain ⟨⟨g0, g1, g2, g3⟩, hsW, hoth, hbel⟩ := four_done Hblk.out hW
          have HB := Lib.hid (hbel w.heap.size w Hbw4.out (Nat.le_refl _))
          have HO := Lib.hid hoth
          clear hW hbel hoth
          (try simp only [Exit.inBlock, Exit.then])
          refine bodyPost_ret (by simp [results, Tryz.results95, go_sem, g0, g1, g2, g3]; try rfl) rfl ?_
          exact ⟨⟨_, by rw [He.out]; rfl, .inr ⟨w.heap.size + 1 + 1, by rw [He.out]; exact sl_eq Hmap.out.symm, by omega, by rw [He.out]; exact (HO.out _ (by omega)).trans Hrow4.out⟩⟩, HB.out⟩

theorem parseBool_words (l : List UInt8) : (parseBool l).1.words = [] := by unfold parseBool; split; rfl; split <;> rfl
theorem parseInt_words (l : List UInt8) : (parseInt l).1.words = [] := by
  rw [parseInt_eq]
  split
  · rfl
  · split
    · rfl
    · split <;> rfl
theorem parseUnit_words (k : Int) (l : List UInt8) : (parseUnit k l).1.words = [] := by
  unfold parseUnit
  split
  · rfl
  · split
    · rfl
    · split <;> rfl
theorem parseText_words (l : List UInt8) : (parseText l).1.words = [] := by unfold parseText; split; split <;> rfl; rfl
/-- The result of Parse stands behind the struct that was laid for it. -/
theorem Fresh.out {w w1 W : World} {o : Obj} {sl : Value} {xs : List ByteArray} (h : Fresh (w.alloc o) w1 sl xs) (hW : ∀ k : Nat, k ≠ w.heap.size → W.heap[k]? = w1.heap[k]?) : Fresh w W sl xs := by
  rcases h with h | ⟨g, h1, h2, h⟩
  · exact .inl h
  · simp only [World.size_alloc] at h2
    exact .inr ⟨g, h1, by omega, (hW g (by omega)).trans h⟩

set_option maxHeartbeats 1000000 in
set_option maxRecDepth 100000 in
theorem parse_1 (s : ByteArray) (_hs : s.size ≤ 2147483647) (w : World) (hV : Vlo w) :
    Calls Tryz.prog 71 #[.int .i64 1, .string s] w fun e w' => ParseOut (parseBool s.data.toList) w e w' ∧ Below w.heap.size w w' := by
  have HV1 := Lib.hid (hV.below ((Below.refl w.heap.size w).alloc (Nat.le_refl _) (.cells #[.int .i64 0, .int .i64 0, .string ⟨#[]⟩, .slice none 0 0] 98)) (Nat.le_refl _))
  clear hV
  obtain ⟨⟨⟨kk, nn, tt, ww⟩, ee⟩, hr⟩ : ∃ r, parseBool s.data.toList = r := ⟨_, rfl⟩
  have hcon : Calls Tryz.prog 92 #[.string s] (w.alloc (.cells #[.int .i64 0, .int .i64 0, .string ⟨#[]⟩, .slice none 0 0] 98)) fun e w' => (∃ p n c, e = .returned (.tuple #[.agg #[.int .i64 kk, .int .i64 nn, .string tt, .slice p n c], .int .i64 ee]) ∧ Fresh (w.alloc (.cells #[.int .i64 0, .int .i64 0, .string ⟨#[]⟩, .slice none 0 0] 98)) w' (.slice p n c) ww) ∧ Below (w.alloc (.cells #[.int .i64 0, .int .i64 0, .string ⟨#[]⟩, .slice none 0 0] 98)).heap.size (w.alloc (.cells #[.int .i64 0, .int .i64 0, .string ⟨#[]⟩, .slice none 0 0] 98)) w' := by
    refine (parseBool_any s _).mono ?_
    rintro e w' ⟨rfl, hb⟩
    rw [hr]
    refine ⟨⟨_, _, _, rfl, .inl ⟨?_, rfl⟩⟩, hb⟩
    have := parseBool_words s.data.toList
    rw [hr] at this
    exact this
  rw [hr]
  clear hr HV1
  go_enter Tryz.func71, Tryz.ntmps71
  go_wp2_with fail
  refine hcon.mono ?_
  rintro e w1 ⟨⟨p, n, c, rfl, hfr⟩, hb⟩
  have Hb := Lib.hid hb
  have Hfr := Lib.hid hfr
  clear hfr hb
  have Hblk := Lib.hid ((new_block Hb.out).trans (heap_alloc_new w _))
  obtain ⟨⟨c0, c1, c2, c3⟩, f0, f1, f2, f3⟩ := res_cells Hb.out
  go_wp2_with fail
  generalize hW : World.setCell (World.setCell (World.setCell (World.setCell w1 _ _) _ _) _ _) _ _ = W
  obtain ⟨⟨g0, g1, g2, g3⟩, hsW, hoth, hbel⟩ := four_done Hblk.out hW
  have HB := Lib.hid (hbel w.heap.size w ((((Below.refl _ w).alloc (Nat.le_refl _) _)).trans (Hb.out.mono (by simp))) (Nat.le_refl _))
  have HO := Lib.hid hoth
  clear hW hbel hoth
  (try simp only [Exit.inBlock, Exit.then])
  refine bodyPost_ret (by simp [results, Tryz.results71, go_sem, g0, g1, g2, g3]; try rfl) rfl ?_
  exact ⟨⟨_, rfl, Hfr.out.out HO.out⟩, HB.out⟩

set_option maxHeartbeats 1000000 in
set_option maxRecDepth 100000 in
theorem parse_2 (s : ByteArray) (hs : s.size ≤ 2147483647) (w : World) (hV : Vlo w) :
    Calls Tryz.prog 71 #[.int .i64 2, .string s] w fun e w' => ParseOut (parseInt s.data.toList) w e w' ∧ Below w.heap.size w w' := by
  have HV1 := Lib.hid (hV.below ((Below.refl w.heap.size w).alloc (Nat.le_refl _) (.cells #[.int .i64 0, .int .i64 0, .string ⟨#[]⟩, .slice none 0 0] 98)) (Nat.le_refl _))
  clear hV
  obtain ⟨⟨⟨kk, nn, tt, ww⟩, ee⟩, hr⟩ : ∃ r, parseInt s.data.toList = r := ⟨_, rfl⟩
  have hcon : Calls Tryz.prog 93 #[.int .i64 2, .string s] (w.alloc (.cells #[.int .i64 0, .int .i64 0, .string ⟨#[]⟩, .slice none 0 0] 98)) fun e w' => (∃ p n c, e = .returned (.tuple #[.agg #[.int .i64 kk, .int .i64 nn, .string tt, .slice p n c], .int .i64 ee]) ∧ Fresh (w.alloc (.cells #[.int .i64 0, .int .i64 0, .string ⟨#[]⟩, .slice none 0 0] 98)) w' (.slice p n c) ww) ∧ Below (w.alloc (.cells #[.int .i64 0, .int .i64 0, .string ⟨#[]⟩, .slice none 0 0] 98)).heap.size (w.alloc (.cells #[.int .i64 0, .int .i64 0, .string ⟨#[]⟩, .slice none 0 0] 98)) w' := by
    refine (parseInt_any s hs _ HV1.out).mono ?_
    rintro e w' ⟨rfl, hb⟩
    rw [hr]
    refine ⟨⟨_, _, _, rfl, .inl ⟨?_, rfl⟩⟩, hb⟩
    have := parseInt_words s.data.toList
    rw [hr] at this
    exact this
  rw [hr]
  clear hr HV1
  go_enter Tryz.func71, Tryz.ntmps71
  go_wp2_with fail
  refine hcon.mono ?_
  rintro e w1 ⟨⟨p, n, c, rfl, hfr⟩, hb⟩
  have Hb := Lib.hid hb
  have Hfr := Lib.hid hfr
  clear hfr hb
  have Hblk := Lib.hid ((new_block Hb.out).trans (heap_alloc_new w _))
  obtain ⟨⟨c0, c1, c2, c3⟩, f0, f1, f2, f3⟩ := res_cells Hb.out
  go_wp2_with fail
  generalize hW : World.setCell (World.setCell (World.setCell (World.setCell w1 _ _) _ _) _ _) _ _ = W
  obtain ⟨⟨g0, g1, g2, g3⟩, hsW, hoth, hbel⟩ := four_done Hblk.out hW
  have HB := Lib.hid (hbel w.heap.size w ((((Below.refl _ w).alloc (Nat.le_refl _) _)).trans (Hb.out.mono (by simp))) (Nat.le_refl _))
  have HO := Lib.hid hoth
  clear hW hbel hoth
  (try simp only [Exit.inBlock, Exit.then])
  refine bodyPost_ret (by simp [results, Tryz.results71, go_sem, g0, g1, g2, g3]; try rfl) rfl ?_
  exact ⟨⟨_, rfl, Hfr.out.out HO.out⟩, HB.out⟩

set_option maxHeartbeats 1000000 in
set_option maxRecDepth 100000 in
theorem parse_u (k : Int) (hk : k = 3 ∨ k = 4) (s : ByteArray) (hs : s.size ≤ 2147483647) (w : World) (hV : Vlo w) :
    Calls Tryz.prog 71 #[.int .i64 k, .string s] w fun e w' => ParseOut (parseUnit k s.data.toList) w e w' ∧ Below w.heap.size w w' := by
  have HV1 := Lib.hid (hV.below ((Below.refl w.heap.size w).alloc (Nat.le_refl _) (.cells #[.int .i64 0, .int .i64 0, .string ⟨#[]⟩, .slice none 0 0] 98)) (Nat.le_refl _))
  clear hV
  obtain ⟨⟨⟨kk, nn, tt, ww⟩, ee⟩, hr⟩ : ∃ r, parseUnit k s.data.toList = r := ⟨_, rfl⟩
  have hcon : Calls Tryz.prog 93 #[.int .i64 k, .string s] (w.alloc (.cells #[.int .i64 0, .int .i64 0, .string ⟨#[]⟩, .slice none 0 0] 98)) fun e w' => (∃ p n c, e = .returned (.tuple #[.agg #[.int .i64 kk, .int .i64 nn, .string tt, .slice p n c], .int .i64 ee]) ∧ Fresh (w.alloc (.cells #[.int .i64 0, .int .i64 0, .string ⟨#[]⟩, .slice none 0 0] 98)) w' (.slice p n c) ww) ∧ Below (w.alloc (.cells #[.int .i64 0, .int .i64 0, .string ⟨#[]⟩, .slice none 0 0] 98)).heap.size (w.alloc (.cells #[.int .i64 0, .int .i64 0, .string ⟨#[]⟩, .slice none 0 0] 98)) w' := by
    refine (parseUnit_any k hk s hs _ HV1.out).mono ?_
    rintro e w' ⟨rfl, hb⟩
    rw [hr]
    refine ⟨⟨_, _, _, rfl, .inl ⟨?_, rfl⟩⟩, hb⟩
    have := parseUnit_words k s.data.toList
    rw [hr] at this
    exact this
  rw [hr]
  clear hr HV1
  have k1 : (k == 1) = false := by simp; omega
  have k2 : (k == 2) = false := by simp; omega
  have hk' : ((k == 3) = true) ∨ ((k == 3) = false ∧ (k == 4) = true) := by
    rcases hk with rfl | rfl
    · exact .inl rfl
    · exact .inr ⟨rfl, rfl⟩
  clear hk
  rcases hk' with hk' | ⟨hk', hk''⟩
  · go_enter Tryz.func71, Tryz.ntmps71
    go_wp2_with fail
    refine hcon.mono ?_
    rintro e w1 ⟨⟨p, n, c, rfl, hfr⟩, hb⟩
    have Hb := Lib.hid hb
    have Hfr := Lib.hid hfr
    clear hfr hb
    have Hblk := Lib.hid ((new_block Hb.out).trans (heap_alloc_new w _))
    obtain ⟨⟨c0, c1, c2, c3⟩, f0, f1, f2, f3⟩ := res_cells Hb.out
    go_wp2_with fail
    generalize hW : World.setCell (World.setCell (World.setCell (World.setCell w1 _ _) _ _) _ _) _ _ = W
    obtain ⟨⟨g0, g1, g2, g3⟩, hsW, hoth, hbel⟩ := four_done Hblk.out hW
    have HB := Lib.hid (hbel w.heap.size w ((((Below.refl _ w).alloc (Nat.le_refl _) _)).trans (Hb.out.mono (by simp))) (Nat.le_refl _))
    have HO := Lib.hid hoth
    clear hW hbel hoth
    (try simp only [Exit.inBlock, Exit.then])
    refine bodyPost_ret (by simp [results, Tryz.results71, go_sem, g0, g1, g2, g3]; try rfl) rfl ?_
    exact ⟨⟨_, rfl, Hfr.out.out HO.out⟩, HB.out⟩
  · go_enter Tryz.func71, Tryz.ntmps71
    go_wp2_with fail
    refine hcon.mono ?_
    rintro e w1 ⟨⟨p, n, c, rfl, hfr⟩, hb⟩
    have Hb := Lib.hid hb
    have Hfr := Lib.hid hfr
    clear hfr hb
    have Hblk := Lib.hid ((new_block Hb.out).trans (heap_alloc_new w _))
    obtain ⟨⟨c0, c1, c2, c3⟩, f0, f1, f2, f3⟩ := res_cells Hb.out
    go_wp2_with fail
    generalize hW : World.setCell (World.setCell (World.setCell (World.setCell w1 _ _) _ _) _ _) _ _ = W
    obtain ⟨⟨g0, g1, g2, g3⟩, hsW, hoth, hbel⟩ := four_done Hblk.out hW
    have HB := Lib.hid (hbel w.heap.size w ((((Below.refl _ w).alloc (Nat.le_refl _) _)).trans (Hb.out.mono (by simp))) (Nat.le_refl _))
    have HO := Lib.hid hoth
    clear hW hbel hoth
    (try simp only [Exit.inBlock, Exit.then])
    refine bodyPost_ret (by simp [results, Tryz.results71, go_sem, g0, g1, g2, g3]; try rfl) rfl ?_
    exact ⟨⟨_, rfl, Hfr.out.out HO.out⟩, HB.out⟩

set_option maxHeartbeats 1000000 in
set_option maxRecDepth 100000 in
theorem parse_5 (s : ByteArray) (_hs : s.size ≤ 2147483647) (w : World) (hV : Vlo w) :
    Calls Tryz.prog 71 #[.int .i64 5, .string s] w fun e w' => ParseOut (parseText s.data.toList) w e w' ∧ Below w.heap.size w w' := by
  have HV1 := Lib.hid (hV.below ((Below.refl w.heap.size w).alloc (Nat.le_refl _) (.cells #[.int .i64 0, .int .i64 0, .string ⟨#[]⟩, .slice none 0 0] 98)) (Nat.le_refl _))
  clear hV
  obtain ⟨⟨⟨kk, nn, tt, ww⟩, ee⟩, hr⟩ : ∃ r, parseText s.data.toList = r := ⟨_, rfl⟩
  have hcon : Calls Tryz.prog 94 #[.string s] (w.alloc (.cells #[.int .i64 0, .int .i64 0, .string ⟨#[]⟩, .slice none 0 0] 98)) fun e w' => (∃ p n c, e = .returned (.tuple #[.agg #[.int .i64 kk, .int .i64 nn, .string tt, .slice p n c], .int .i64 ee]) ∧ Fresh (w.alloc (.cells #[.int .i64 0, .int .i64 0, .string ⟨#[]⟩, .slice none 0 0] 98)) w' (.slice p n c) ww) ∧ Below (w.alloc (.cells #[.int .i64 0, .int .i64 0, .string ⟨#[]⟩, .slice none 0 0] 98)).heap.size (w.alloc (.cells #[.int .i64 0, .int .i64 0, .string ⟨#[]⟩, .slice none 0 0] 98)) w' := by
    refine (parseText_any s _).mono ?_
    rintro e w' ⟨rfl, hb⟩
    rw [hr]
    refine ⟨⟨_, _, _, rfl, .inl ⟨?_, rfl⟩⟩, hb⟩
    have := parseText_words s.data.toList
    rw [hr] at this
    exact this
  rw [hr]
  clear hr HV1
  go_enter Tryz.func71, Tryz.ntmps71
  go_wp2_with fail
  refine hcon.mono ?_
  rintro e w1 ⟨⟨p, n, c, rfl, hfr⟩, hb⟩
  have Hb := Lib.hid hb
  have Hfr := Lib.hid hfr
  clear hfr hb
  have Hblk := Lib.hid ((new_block Hb.out).trans (heap_alloc_new w _))
  obtain ⟨⟨c0, c1, c2, c3⟩, f0, f1, f2, f3⟩ := res_cells Hb.out
  go_wp2_with fail
  generalize hW : World.setCell (World.setCell (World.setCell (World.setCell w1 _ _) _ _) _ _) _ _ = W
  obtain ⟨⟨g0, g1, g2, g3⟩, hsW, hoth, hbel⟩ := four_done Hblk.out hW
  have HB := Lib.hid (hbel w.heap.size w ((((Below.refl _ w).alloc (Nat.le_refl _) _)).trans (Hb.out.mono (by simp))) (Nat.le_refl _))
  have HO := Lib.hid hoth
  clear hW hbel hoth
  (try simp only [Exit.inBlock, Exit.then])
  refine bodyPost_ret (by simp [results, Tryz.results71, go_sem, g0, g1, g2, g3]; try rfl) rfl ?_
  exact ⟨⟨_, rfl, Hfr.out.out HO.out⟩, HB.out⟩

set_option maxHeartbeats 1000000 in
set_option maxRecDepth 100000 in
theorem parse_6 (s : ByteArray) (hs : s.size ≤ 2147483647) (w : World) (hV : Vlo w) :
    Calls Tryz.prog 71 #[.int .i64 6, .string s] w fun e w' => ParseOut (parseWords wordL s.data.toList) w e w' ∧ Below w.heap.size w w' := by
  have HV1 := Lib.hid (hV.below ((Below.refl w.heap.size w).alloc (Nat.le_refl _) (.cells #[.int .i64 0, .int .i64 0, .string ⟨#[]⟩, .slice none 0 0] 98)) (Nat.le_refl _))
  clear hV
  obtain ⟨⟨⟨kk, nn, tt, ww⟩, ee⟩, hr⟩ : ∃ r, parseWords wordL s.data.toList = r := ⟨_, rfl⟩
  have hcon : Calls Tryz.prog 95 #[.string s] (w.alloc (.cells #[.int .i64 0, .int .i64 0, .string ⟨#[]⟩, .slice none 0 0] 98)) fun e w' => (∃ p n c, e = .returned (.tuple #[.agg #[.int .i64 kk, .int .i64 nn, .string tt, .slice p n c], .int .i64 ee]) ∧ Fresh (w.alloc (.cells #[.int .i64 0, .int .i64 0, .string ⟨#[]⟩, .slice none 0 0] 98)) w' (.slice p n c) ww) ∧ Below (w.alloc (.cells #[.int .i64 0, .int .i64 0, .string ⟨#[]⟩, .slice none 0 0] 98)).heap.size (w.alloc (.cells #[.int .i64 0, .int .i64 0, .string ⟨#[]⟩, .slice none 0 0] 98)) w' := by
    refine (parseWords_any s hs _ HV1.out).mono ?_
    rintro e w' ⟨⟨sl, rfl, hf⟩, hb⟩
    rw [hr] at hf ⊢
    obtain ⟨p, n, c, rfl⟩ := hf.shape
    exact ⟨⟨p, n, c, rfl, hf⟩, hb⟩
  rw [hr]
  clear hr HV1
  go_enter Tryz.func71, Tryz.ntmps71
  go_wp2_with fail
  refine hcon.mono ?_
  rintro e w1 ⟨⟨p, n, c, rfl, hfr⟩, hb⟩
  have Hb := Lib.hid hb
  have Hfr := Lib.hid hfr
  clear hfr hb
  have Hblk := Lib.hid ((new_block Hb.out).trans (heap_alloc_new w _))
  obtain ⟨⟨c0, c1, c2, c3⟩, f0, f1, f2, f3⟩ := res_cells Hb.out
  go_wp2_with fail
  generalize hW : World.setCell (World.setCell (World.setCell (World.setCell w1 _ _) _ _) _ _) _ _ = W
  obtain ⟨⟨g0, g1, g2, g3⟩, hsW, hoth, hbel⟩ := four_done Hblk.out hW
  have HB := Lib.hid (hbel w.heap.size w ((((Below.refl _ w).alloc (Nat.le_refl _) _)).trans (Hb.out.mono (by simp))) (Nat.le_refl _))
  have HO := Lib.hid hoth
  clear hW hbel hoth
  (try simp only [Exit.inBlock, Exit.then])
  refine bodyPost_ret (by simp [results, Tryz.results71, go_sem, g0, g1, g2, g3]; try rfl) rfl ?_
  exact ⟨⟨_, rfl, Hfr.out.out HO.out⟩, HB.out⟩

theorem Parse_any (k : Int) (s : ByteArray) (hs : s.size ≤ 2147483647) (w : World) (hV : Vlo w) :
    Calls Tryz.prog 71 #[.int .i64 k, .string s] w fun e w' => ParseOut (parse wordL k s.data.toList) w e w' ∧ Below w.heap.size w w' := by
  by_cases h1 : k = 1
  · subst h1; exact parse_1 s hs w hV
  by_cases h2 : k = 2
  · subst h2; exact parse_2 s hs w hV
  by_cases hu : k = 3 ∨ k = 4
  · have : parse wordL k s.data.toList = parseUnit k s.data.toList := by unfold parse; rw [if_neg h1, if_neg h2, if_pos hu]
    rw [this]
    exact parse_u k hu s hs w hV
  by_cases h5 : k = 5
  · subst h5; exact parse_5 s hs w hV
  by_cases h6 : k = 6
  · subst h6; exact parse_6 s hs w hV
  have He : Hid (parse wordL k s.data.toList = (zero, 1)) := Lib.hid (by unfold parse; rw [if_neg h1, if_neg h2, if_neg hu, if_neg h5, if_neg h6])
  have q1 : (k == 1) = false := by simp [h1]
  have q2 : (k == 2) = false := by simp [h2]
  have q3 : (k == 3) = false := by simp; omega
  have q4 : (k == 4) = false := by simp; omega
  have q5 : (k == 5) = false := by simp [h5]
  have q6 : (k == 6) = false := by simp [h6]
  clear h1 h2 hu h5 h6 hV
  go_enter Tryz.func71, Tryz.ntmps71
  go_wp2_with fail
  go_returns
  exact ⟨⟨_, by rw [He.out]; rfl, .inl ⟨by rw [He.out]; rfl, rfl⟩⟩, by go_grown⟩
end Go.Proofs.YtpfhhaonfbfheaaGreatDoor.va
/- value.Right returns the plain function. Conditions: the listed variables hold what the program's text lays; the value's words lie in memory; it is no greater than 2147483647 bytes and words. -/
namespace Go.Proofs.YtpfhhaonfbfheaaGreatDoor.va
open Go.ChangeShapes Go.WideShapes Go.ChangeAt Go.RowKit gl

/-- No greater than the bound. -/
structure Vb (v : Val) : Prop where
  int0 : -9223372036854775808 ≤ v.int
  int1 : v.int ≤ 9223372036854775807
  text : v.text.size ≤ 2147483647
  words : v.words.length ≤ 2147483647
  each : ∀ x ∈ v.words, x.size ≤ 2147483647
  joined : (joined v.words).length ≤ 140737488355328

theorem right_c {k n : Int} {t : ByteArray} {ws : List ByteArray} (h5 : k ≠ 5) (h6 : k ≠ 6) : right wordL ⟨k, n, t, ws⟩ = (t.toList.isEmpty && ws.isEmpty && (decide (least k ≤ n) && decide (n ≤ most k)) && decide (k = 1 ∨ k = 2 ∨ k = 3 ∨ k = 4)) := by
  have ht : decide (t = ByteArray.empty) = t.toList.isEmpty := by
    rw [ByteArray.toList_eq, Bool.eq_iff_iff, decide_eq_true_eq, List.isEmpty_iff]
    exact ⟨fun h => by rw [h]; rfl, fun h => ba_eq (by rw [h]; rfl)⟩
  simp only [right, h5, h6, decide_false, Bool.false_or, Bool.false_and, Bool.or_false, ht]
theorem right_5 {n : Int} {t : ByteArray} {ws : List ByteArray} : right wordL ⟨5, n, t, ws⟩ = (ws.isEmpty && (decide (0 ≤ n) && decide (n ≤ 0)) && (decide (t.size ≤ 200) && prnAll t.data.toList)) := by
  simp [right, least, most, prnAll]
theorem right_6 {n : Int} {t : ByteArray} {ws : List ByteArray} : right wordL ⟨6, n, t, ws⟩ = (t.toList.isEmpty && (decide (0 ≤ n) && decide (n ≤ 0)) && (decide (ws.length ≤ 16) && allW ws && decide ((joined ws).length ≤ 200))) := by
  have ht : decide (t = ByteArray.empty) = t.toList.isEmpty := by
    rw [ByteArray.toList_eq, Bool.eq_iff_iff, decide_eq_true_eq, List.isEmpty_iff]
    exact ⟨fun h => by rw [h]; rfl, fun h => ba_eq (by rw [h]; rfl)⟩
  simp [right, least, most, allW, ht]

set_option maxHeartbeats 2000000 in
set_option maxRecDepth 100000 in
theorem Right_any (v : Val) (hb : Vb v) (sl : Value) (w : World) (hV : Vlo w) (hS : Strs w sl v.words) :
    Calls Tryz.prog 96 #[rep v sl] w fun e w' => e = .returned (.bool (right wordL v)) ∧ Below w.heap.size w w' := by
  obtain ⟨k, n, t, ws⟩ := v
  obtain ⟨hn0, hn1, ht, hl, heach, hj⟩ := hb
  simp only at hn0 hn1 ht hl heach hj hS
  have HV := Lib.hid hV
  have HS := Lib.hid hS
  have Heach := Lib.hid heach
  have Hj := Lib.hid hj
  clear hV heach hj
  obtain ⟨p, c, rfl, hc, _⟩ := hS
  obtain ⟨m, hm⟩ : ∃ m, ws.length = m := ⟨_, rfl⟩
  have Hm := Lib.hid hm
  rw [hm] at hl hc HS ⊢
  clear hm
  unfold rep
  simp only
  by_cases h5 : k = 5
  · subst h5
    have hr := right_5 (n := n) (t := t) (ws := ws)
    have hwe : ws.isEmpty = decide (m = 0) := by rw [← Hm.out]; cases ws <;> rfl
    have hp := fun W => printable_any t W
    rw [hwe] at hr
    generalize prnAll t.data.toList = pr at *
    generalize right wordL ⟨5, n, t, ws⟩ = R at *
    have HR := Lib.hid hr
    clear hr hwe
    by_cases hm0 : m = 0
    · subst hm0
      rcases (show n < 0 ∨ n = 0 ∨ 0 < n by omega) with h | rfl | h
      · go_enter Tryz.func96, Tryz.ntmps96
        go_wp2_with fail
        refine (ends_any 5 _).mono ?_
        rintro e w1 ⟨rfl, rfl⟩
        rw [show least 5 = 0 from rfl, show most 5 = 0 from rfl]
        go_wp2_with fail
        go_ret
        exact ⟨ret_bool (by rw [HR.out, decide_eq_false (p := 0 ≤ n) (by omega)]; simp), by go_grown⟩
      · by_cases h200 : t.size ≤ 200
        · go_enter Tryz.func96, Tryz.ntmps96
          go_wp2_with fail
          refine (ends_any 5 _).mono ?_
          rintro e w1 ⟨rfl, rfl⟩
          rw [show least 5 = 0 from rfl, show most 5 = 0 from rfl]
          go_wp2_with fail
          refine (hp _).mono ?_
          rintro e w2 ⟨rfl, hb2⟩
          go_wp2_with fail
          go_ret
          exact ⟨ret_bool (by rw [HR.out, decide_eq_true h200]; simp), ((Below.refl _ w).alloc (Nat.le_refl _) _).trans (hb2.mono (by simp))⟩
        · go_enter Tryz.func96, Tryz.ntmps96
          go_wp2_with fail
          refine (ends_any 5 _).mono ?_
          rintro e w1 ⟨rfl, rfl⟩
          rw [show least 5 = 0 from rfl, show most 5 = 0 from rfl]
          go_wp2_with fail
          go_ret
          exact ⟨ret_bool (by rw [HR.out, decide_eq_false h200]; simp), by go_grown⟩
      · go_enter Tryz.func96, Tryz.ntmps96
        go_wp2_with fail
        refine (ends_any 5 _).mono ?_
        rintro e w1 ⟨rfl, rfl⟩
        rw [show least 5 = 0 from rfl, show most 5 = 0 from rfl]
        go_wp2_with fail
        go_ret
        exact ⟨ret_bool (by rw [HR.out, decide_eq_false (p := n ≤ 0) (by omega)]; simp), by go_grown⟩
    · have hm0' : ((m : Int) != 0) = true := by simp; omega
      go_enter Tryz.func96, Tryz.ntmps96
      go_wp2_with fail
      go_ret
      exact ⟨ret_bool (by rw [HR.out, decide_eq_false hm0]; simp), by go_grown⟩
  · by_cases h6 : k = 6
    · subst h6
      clear h5
      have hr := right_6 (n := n) (t := t) (ws := ws)
      have hcon := containsW_any 121 (enters_of Tryz.func121 (by kernel_rfl) rfl) notW_right (.slice p m c) ws Heach.out (by rw [Hm.out]; omega)
      have hjo := joinW_any (.slice p m c) ws
      have Hcon := Lib.hid fun (W : World) (hb : Below w.heap.size w W) => hcon W (HV.out.below hb (Nat.le_refl _)) (HS.out.below hb (Nat.le_refl _))
      have Hjo := Lib.hid fun (W : World) (hb : Below w.heap.size w W) => hjo W (HS.out.below hb (Nat.le_refl _)) (by rw [Hm.out]; omega) Hj.out
      rw [Hm.out] at hr
      have hJ : (B (joined ws)).size = (joined ws).length := by simp [ByteArray.size]
      have hJb := Hj.out
      rw [← hJ] at hr hJb
      clear hcon hjo hJ
      generalize B (joined ws) = J at *
      generalize allW ws = aw at *
      generalize right wordL ⟨6, n, t, ws⟩ = R at *
      have HR := Lib.hid hr
      clear hr
      cases he : t.toList.isEmpty with
      | false =>
        rw [he] at HR
        go_enter Tryz.func96, Tryz.ntmps96
        go_wp2_with fail
        go_ret
        exact ⟨ret_bool (by rw [HR.out]; simp), by go_grown⟩
      | true =>
        rw [he] at HR
        rcases (show n < 0 ∨ n = 0 ∨ 0 < n by omega) with h | rfl | h
        · go_enter Tryz.func96, Tryz.ntmps96
          go_wp2_with fail
          refine (ends_any 6 _).mono ?_
          rintro e w1 ⟨rfl, rfl⟩
          rw [show least 6 = 0 from rfl, show most 6 = 0 from rfl]
          go_wp2_with fail
          go_ret
          exact ⟨ret_bool (by rw [HR.out, decide_eq_false (p := 0 ≤ n) (by omega)]; simp), by go_grown⟩
        · by_cases h16 : m ≤ 16
          · go_enter Tryz.func96, Tryz.ntmps96
            go_wp2_with fail
            refine (ends_any 6 _).mono ?_
            rintro e w1 ⟨rfl, rfl⟩
            rw [show least 6 = 0 from rfl, show most 6 = 0 from rfl]
            go_wp2_with fail
            refine (Hcon.out _ ((Below.refl _ w).alloc (Nat.le_refl _) _)).mono ?_
            rintro e w2 ⟨rfl, hb2⟩
            have Hb2 := Lib.hid (((Below.refl _ w).alloc (Nat.le_refl _) _).trans (hb2.mono (by simp)))
            obtain ⟨⟨b0, b1, b2, b3⟩, _⟩ := res_cells hb2
            clear hb2
            cases aw with
            | false =>
              go_wp2_with fail
              go_ret
              exact ⟨ret_bool (by rw [HR.out]; simp), Hb2.out⟩
            | true =>
              by_cases hJ2 : J.size ≤ 200
              · go_wp2_with fail
                refine (Hjo.out _ Hb2.out).mono ?_
                rintro e w3 ⟨rfl, hb3⟩
                go_wp2_with fail
                go_ret
                exact ⟨ret_bool (by rw [HR.out, decide_eq_true h16, decide_eq_true hJ2]; simp; try omega), Hb2.out.trans (hb3.mono Hb2.out.size)⟩
              · go_wp2_with fail
                refine (Hjo.out _ Hb2.out).mono ?_
                rintro e w3 ⟨rfl, hb3⟩
                go_wp2_with fail
                go_ret
                exact ⟨ret_bool (by rw [HR.out, decide_eq_true h16, decide_eq_false hJ2]; simp; try omega), Hb2.out.trans (hb3.mono Hb2.out.size)⟩
          · go_enter Tryz.func96, Tryz.ntmps96
            go_wp2_with fail
            refine (ends_any 6 _).mono ?_
            rintro e w1 ⟨rfl, rfl⟩
            rw [show least 6 = 0 from rfl, show most 6 = 0 from rfl]
            go_wp2_with fail
            go_ret
            exact ⟨ret_bool (by rw [HR.out, decide_eq_false h16]; simp), by go_grown⟩
        · go_enter Tryz.func96, Tryz.ntmps96
          go_wp2_with fail
          refine (ends_any 6 _).mono ?_
          rintro e w1 ⟨rfl, rfl⟩
          rw [show least 6 = 0 from rfl, show most 6 = 0 from rfl]
          go_wp2_with fail
          go_ret
          exact ⟨ret_bool (by rw [HR.out, decide_eq_false (p := n ≤ 0) (by omega)]; simp), by go_grown⟩
    · have hr := right_c (n := n) (t := t) (ws := ws) h5 h6
      have hwe : ws.isEmpty = decide (m = 0) := by rw [← Hm.out]; cases ws <;> rfl
      rw [hwe] at hr
      have q5 : (k != 5) = true := by simp [h5]
      have q6 : (k != 6) = true := by simp [h6]
      have q5' : (k == 5) = false := by simp [h5]
      have q6' : (k == 6) = false := by simp [h6]
      have Hends := Lib.hid fun W => ends_any k W
      have hK := kinds k
      have hkd : Hid (decide (k = 1 ∨ k = 2 ∨ k = 3 ∨ k = 4) = ((k == 1) || (k == 2) || (k == 3) || (k == 4))) := Lib.hid (by
        rw [Bool.eq_iff_iff]
        simp only [decide_eq_true_eq, Bool.or_eq_true, beq_iff_eq]
        omega)
      rw [hkd.out] at hr
      generalize least k = L at *
      generalize most k = M at *
      generalize right wordL ⟨k, n, t, ws⟩ = R at *
      have HR := Lib.hid hr
      clear hr hwe hkd h5 h6
      cases he : t.toList.isEmpty with
      | false =>
        rw [he] at HR
        clear hK
        go_enter Tryz.func96, Tryz.ntmps96
        go_wp2_with fail
        go_ret
        exact ⟨ret_bool (by rw [HR.out]; simp), by go_grown⟩
      | true =>
        rw [he] at HR
        by_cases hm0 : m = 0
        · subst hm0
          by_cases hnL : n < L
          · clear hK
            go_enter Tryz.func96, Tryz.ntmps96
            go_wp2_with fail
            refine (Hends.out _).mono ?_
            rintro e w1 ⟨rfl, rfl⟩
            go_wp2_with fail
            go_ret
            exact ⟨ret_bool (by rw [HR.out, decide_eq_false (p := L ≤ n) (by omega)]; simp), by go_grown⟩
          · by_cases hnM : M < n
            · clear hK
              go_enter Tryz.func96, Tryz.ntmps96
              go_wp2_with fail
              refine (Hends.out _).mono ?_
              rintro e w1 ⟨rfl, rfl⟩
              go_wp2_with fail
              go_ret
              exact ⟨ret_bool (by rw [HR.out, decide_eq_false (p := n ≤ M) (by omega)]; simp), by go_grown⟩
            · have HR2 : Hid (R = ((k == 1) || (k == 2) || (k == 3) || (k == 4))) := Lib.hid (by rw [HR.out, decide_eq_true (p := L ≤ n) (by omega), decide_eq_true (p := n ≤ M) (by omega)]; simp)
              have hK2 : k = 1 ∨ k = 2 ∨ k = 3 ∨ k = 4 ∨ ((k == 1) = false ∧ (k == 2) = false ∧ (k == 3) = false ∧ (k == 4) = false) := by
                simp only [beq_eq_false_iff_ne]
                omega
              clear hK HR
              rcases hK2 with rfl | rfl | rfl | rfl | ⟨q1, q2, q3, q4⟩
              all_goals
                go_enter Tryz.func96, Tryz.ntmps96
                go_wp2_with fail
                refine (Hends.out _).mono ?_
                rintro e w1 ⟨rfl, rfl⟩
                go_wp2_with fail
                go_ret
                refine ⟨ret_bool ?_, by go_grown⟩
              · rw [HR2.out]; rfl
              · rw [HR2.out]; rfl
              · rw [HR2.out]; rfl
              · rw [HR2.out]; rfl
              · rw [HR2.out, q1, q2, q3, q4]; rfl
        · have hm0' : ((m : Int) != 0) = true := by simp; omega
          clear hK
          go_enter Tryz.func96, Tryz.ntmps96
          go_wp2_with fail
          go_ret
          exact ⟨ret_bool (by rw [HR.out, decide_eq_false hm0]; simp), by go_grown⟩
end Go.Proofs.YtpfhhaonfbfheaaGreatDoor.va
/- value.Same, Within and the reference's Same return plain functions. Conditions: the values' words lie in memory; they are no greater than 2147483647 bytes and words. -/
namespace Go.Proofs.YtpfhhaonfbfheaaGreatDoor.va
open Go.ChangeShapes Go.WideShapes Go.ChangeAt Go.RowKit gl

theorem ret_bool' {a b : Bool} (h : a = b) : Ending.returned (.bool a) = .returned (.bool b) := by rw [h]
theorem bel_drewN {b : Nat} {a w : World} (h : Below b a w) (n : Nat) : Below b a (w.drewN n) := h.trans ⟨rfl, rfl, rfl, Nat.le_refl _, fun _ _ => rfl⟩
/-- Two values are the same. -/
theorem same_eq (a b : Val) : decide (a = b) = (decide (a.kind = b.kind) && decide (a.int = b.int) && decide (a.text = b.text) && decide (a.words = b.words)) := by
  obtain ⟨k, n, t, ws⟩ := a
  obtain ⟨k', n', t', ws'⟩ := b
  rw [Bool.eq_iff_iff]
  simp only [decide_eq_true_eq, Bool.and_eq_true, Val.mk.injEq, and_assoc]
theorem str_dec (a b : ByteArray) : (a.toList == b.toList) = decide (a = b) := by
  by_cases h : a = b
  · rw [seq_true h, decide_eq_true h]
  · rw [seq_false h, decide_eq_false h]

/-- The first k words are alike. -/
def eqTo (xs ys : List ByteArray) (k : Nat) : Prop := ∀ j, j < k → xs[j]? = ys[j]?
theorem eqTo_succ {xs ys : List ByteArray} {k : Nat} (h : eqTo xs ys k) (h2 : xs[k]? = ys[k]?) : eqTo xs ys (k + 1) := by
  intro j hj
  rcases Nat.lt_or_ge j k with h1 | h1
  · exact h j h1
  · obtain rfl : j = k := by omega
    exact h2
theorem eqTo_all {xs ys : List ByteArray} (h : eqTo xs ys xs.length) (hl : xs.length = ys.length) : xs = ys := by
  apply List.ext_getElem?
  intro j
  rcases Nat.lt_or_ge j xs.length with h1 | h1
  · exact h j h1
  · rw [List.getElem?_eq_none h1, List.getElem?_eq_none (by omega)]
theorem Strs.at {w : World} {p : Option Addr} {n c : Nat} {xs : List ByteArray} (h : Strs w (.slice p n c) xs) (k : Nat) (hk : k < n) : ∃ b o x, p = some ⟨b, o, none⟩ ∧ b < w.heap.size ∧ xs[k]? = some x ∧ w.cell? ⟨b, o + k, none⟩ = some (.string x) := by
  obtain ⟨p', c', e, hc, h⟩ := h
  simp only [Value.slice.injEq] at e
  obtain ⟨rfl, rfl, rfl⟩ := e
  rcases h with rfl | ⟨b, o, rfl, hlt, hat⟩
  · simp at hk
  · exact ⟨b, o, _, rfl, hlt, List.getElem?_eq_getElem hk, hat k _ (List.getElem?_eq_getElem hk)⟩

end Go.Proofs.YtpfhhaonfbfheaaGreatDoor.va
/- value.Within returns the plain function. Conditions: as for Right. -/
namespace Go.Proofs.YtpfhhaonfbfheaaGreatDoor.va
open Go.ChangeShapes Go.WideShapes Go.ChangeAt Go.RowKit gl

theorem right_kind {v : Val} (h : right wordL v = true) : v.kind = 1 ∨ v.kind = 2 ∨ v.kind = 3 ∨ v.kind = 4 ∨ v.kind = 5 ∨ v.kind = 6 := by
  rcases right_cases h with h | h | h | h | h <;> have := h.1 <;> omega
/-- Within, by kinds. -/
theorem within_f {v : Val} {lo hi : Int} (h : right wordL v = false) : within wordL v lo hi = false := by unfold within; rw [h]; rfl
theorem within_n {v : Val} {lo hi : Int} (h : right wordL v = true) (hk : v.kind = 2 ∨ v.kind = 3 ∨ v.kind = 4) : within wordL v lo hi = decide (lo ≤ v.int ∧ v.int ≤ hi) := by unfold within; rw [h, if_pos hk]; rfl
theorem within_6 {v : Val} {lo hi : Int} (h : right wordL v = true) (hk : v.kind = 6) : within wordL v lo hi = decide (lo ≤ v.words.length ∧ (v.words.length : Int) ≤ hi) := by unfold within; rw [h, if_neg (by omega), if_pos hk]; rfl
theorem within_o {v : Val} {lo hi : Int} (h : right wordL v = true) (hk : v.kind = 1 ∨ v.kind = 5) : within wordL v lo hi = true := by unfold within; rw [h, if_neg (by omega), if_neg (by omega)]; rfl

set_option maxHeartbeats 2000000 in
set_option maxRecDepth 100000 in
theorem Within_any (v : Val) (hb : Vb v) (lo hi : Int) (sl : Value) (w : World) (hV : Vlo w) (hS : Strs w sl v.words) :
    Calls Tryz.prog 72 #[rep v sl, .int .i64 lo, .int .i64 hi] w fun e w' => e = .returned (.bool (within wordL v lo hi)) ∧ Below w.heap.size w w' := by
  have HRi := Lib.hid fun (W : World) (hbW : Below w.heap.size w W) => Right_any v hb sl W (hV.below hbW (Nat.le_refl _)) (hS.below hbW (Nat.le_refl _))
  clear hV hb
  obtain ⟨p, c, rfl, hc, _⟩ := hS
  obtain ⟨k, n, t, ws⟩ := v
  simp only at hc
  obtain ⟨m, hm⟩ : ∃ m, ws.length = m := ⟨_, rfl⟩
  unfold rep at *
  simp only at *
  rw [hm] at HRi hc ⊢
  cases hr : right wordL ⟨k, n, t, ws⟩ with
  | false =>
    have HW := Lib.hid (within_f (lo := lo) (hi := hi) hr)
    rw [hr] at HRi
    clear hr hm
    go_enter Tryz.func72, Tryz.ntmps72
    go_wp2_with fail
    refine (HRi.out _ ((Below.refl _ w).alloc (Nat.le_refl _) _)).mono ?_
    rintro e w1 ⟨rfl, hb⟩
    have Hb := Lib.hid (((Below.refl _ w).alloc (Nat.le_refl _) _).trans (hb.mono (by simp)))
    obtain ⟨⟨b0, b1, b2, b3⟩, _⟩ := res_cells hb
    clear hb
    go_wp2_with fail
    go_ret
    exact ⟨ret_bool (by rw [HW.out]), Hb.out⟩
  | true =>
    have hk := right_kind hr
    simp only at hk
    rw [hr] at HRi
    rcases hk with rfl | rfl | rfl | rfl | rfl | rfl
    · have HW := Lib.hid (within_o (lo := lo) (hi := hi) hr (by simp))
      clear hr hm
      go_enter Tryz.func72, Tryz.ntmps72
      go_wp2_with fail
      refine (HRi.out _ ((Below.refl _ w).alloc (Nat.le_refl _) _)).mono ?_
      rintro e w1 ⟨rfl, hb⟩
      have Hb := Lib.hid (((Below.refl _ w).alloc (Nat.le_refl _) _).trans (hb.mono (by simp)))
      obtain ⟨⟨b0, b1, b2, b3⟩, _⟩ := res_cells hb
      clear hb
      go_wp2_with fail
      go_ret
      exact ⟨ret_bool (by rw [HW.out]), Hb.out⟩
    · have HW := Lib.hid (within_n (lo := lo) (hi := hi) hr (by simp))
      simp only at HW
      clear hr hm
      by_cases h1 : lo ≤ n
      · by_cases h2 : n ≤ hi
        · go_enter Tryz.func72, Tryz.ntmps72
          go_wp2_with fail
          refine (HRi.out _ ((Below.refl _ w).alloc (Nat.le_refl _) _)).mono ?_
          rintro e w1 ⟨rfl, hb⟩
          have Hb := Lib.hid (((Below.refl _ w).alloc (Nat.le_refl _) _).trans (hb.mono (by simp)))
          obtain ⟨⟨b0, b1, b2, b3⟩, _⟩ := res_cells hb
          clear hb
          go_wp2_with fail
          go_ret
          exact ⟨ret_bool (by rw [HW.out]; first | exact decide_eq_true (by omega) | exact (decide_eq_true (by omega)).trans (decide_eq_true (by omega)).symm), Hb.out⟩
        · go_enter Tryz.func72, Tryz.ntmps72
          go_wp2_with fail
          refine (HRi.out _ ((Below.refl _ w).alloc (Nat.le_refl _) _)).mono ?_
          rintro e w1 ⟨rfl, hb⟩
          have Hb := Lib.hid (((Below.refl _ w).alloc (Nat.le_refl _) _).trans (hb.mono (by simp)))
          obtain ⟨⟨b0, b1, b2, b3⟩, _⟩ := res_cells hb
          clear hb
          go_wp2_with fail
          go_ret
          exact ⟨ret_bool (by rw [HW.out]; first | exact decide_eq_false (by omega) | exact (decide_eq_false (by omega)).trans (decide_eq_false (by omega)).symm), Hb.out⟩
      · go_enter Tryz.func72, Tryz.ntmps72
        go_wp2_with fail
        refine (HRi.out _ ((Below.refl _ w).alloc (Nat.le_refl _) _)).mono ?_
        rintro e w1 ⟨rfl, hb⟩
        have Hb := Lib.hid (((Below.refl _ w).alloc (Nat.le_refl _) _).trans (hb.mono (by simp)))
        obtain ⟨⟨b0, b1, b2, b3⟩, _⟩ := res_cells hb
        clear hb
        go_wp2_with fail
        go_ret
        exact ⟨ret_bool (by rw [HW.out]; first | exact decide_eq_false (by omega) | exact (decide_eq_false (by omega)).trans (decide_eq_false (by omega)).symm), Hb.out⟩
    · have HW := Lib.hid (within_n (lo := lo) (hi := hi) hr (by simp))
      simp only at HW
      clear hr hm
      by_cases h1 : lo ≤ n
      · by_cases h2 : n ≤ hi
        · go_enter Tryz.func72, Tryz.ntmps72
          go_wp2_with fail
          refine (HRi.out _ ((Below.refl _ w).alloc (Nat.le_refl _) _)).mono ?_
          rintro e w1 ⟨rfl, hb⟩
          have Hb := Lib.hid (((Below.refl _ w).alloc (Nat.le_refl _) _).trans (hb.mono (by simp)))
          obtain ⟨⟨b0, b1, b2, b3⟩, _⟩ := res_cells hb
          clear hb
          go_wp2_with fail
          go_ret
          exact ⟨ret_bool (by rw [HW.out]; first | exact decide_eq_true (by omega) | exact (decide_eq_true (by omega)).trans (decide_eq_true (by omega)).symm), Hb.out⟩
        · go_enter Tryz.func72, Tryz.ntmps72
          go_wp2_with fail
          refine (HRi.out _ ((Below.refl _ w).alloc (Nat.le_refl _) _)).mono ?_
          rintro e w1 ⟨rfl, hb⟩
          have Hb := Lib.hid (((Below.refl _ w).alloc (Nat.le_refl _) _).trans (hb.mono (by simp)))
          obtain ⟨⟨b0, b1, b2, b3⟩, _⟩ := res_cells hb
          clear hb
          go_wp2_with fail
          go_ret
          exact ⟨ret_bool (by rw [HW.out]; first | exact decide_eq_false (by omega) | exact (decide_eq_false (by omega)).trans (decide_eq_false (by omega)).symm), Hb.out⟩
      · go_enter Tryz.func72, Tryz.ntmps72
        go_wp2_with fail
        refine (HRi.out _ ((Below.refl _ w).alloc (Nat.le_refl _) _)).mono ?_
        rintro e w1 ⟨rfl, hb⟩
        have Hb := Lib.hid (((Below.refl _ w).alloc (Nat.le_refl _) _).trans (hb.mono (by simp)))
        obtain ⟨⟨b0, b1, b2, b3⟩, _⟩ := res_cells hb
        clear hb
        go_wp2_with fail
        go_ret
        exact ⟨ret_bool (by rw [HW.out]; first | exact decide_eq_false (by omega) | exact (decide_eq_false (by omega)).trans (decide_eq_false (by omega)).symm), Hb.out⟩
    · have HW := Lib.hid (within_n (lo := lo) (hi := hi) hr (by simp))
      simp only at HW
      clear hr hm
      by_cases h1 : lo ≤ n
      · by_cases h2 : n ≤ hi
        · go_enter Tryz.func72, Tryz.ntmps72
          go_wp2_with fail
          refine (HRi.out _ ((Below.refl _ w).alloc (Nat.le_refl _) _)).mono ?_
          rintro e w1 ⟨rfl, hb⟩
          have Hb := Lib.hid (((Below.refl _ w).alloc (Nat.le_refl _) _).trans (hb.mono (by simp)))
          obtain ⟨⟨b0, b1, b2, b3⟩, _⟩ := res_cells hb
          clear hb
          go_wp2_with fail
          go_ret
          exact ⟨ret_bool (by rw [HW.out]; first | exact decide_eq_true (by omega) | exact (decide_eq_true (by omega)).trans (decide_eq_true (by omega)).symm), Hb.out⟩
        · go_enter Tryz.func72, Tryz.ntmps72
          go_wp2_with fail
          refine (HRi.out _ ((Below.refl _ w).alloc (Nat.le_refl _) _)).mono ?_
          rintro e w1 ⟨rfl, hb⟩
          have Hb := Lib.hid (((Below.refl _ w).alloc (Nat.le_refl _) _).trans (hb.mono (by simp)))
          obtain ⟨⟨b0, b1, b2, b3⟩, _⟩ := res_cells hb
          clear hb
          go_wp2_with fail
          go_ret
          exact ⟨ret_bool (by rw [HW.out]; first | exact decide_eq_false (by omega) | exact (decide_eq_false (by omega)).trans (decide_eq_false (by omega)).symm), Hb.out⟩
      · go_enter Tryz.func72, Tryz.ntmps72
        go_wp2_with fail
        refine (HRi.out _ ((Below.refl _ w).alloc (Nat.le_refl _) _)).mono ?_
        rintro e w1 ⟨rfl, hb⟩
        have Hb := Lib.hid (((Below.refl _ w).alloc (Nat.le_refl _) _).trans (hb.mono (by simp)))
        obtain ⟨⟨b0, b1, b2, b3⟩, _⟩ := res_cells hb
        clear hb
        go_wp2_with fail
        go_ret
        exact ⟨ret_bool (by rw [HW.out]; first | exact decide_eq_false (by omega) | exact (decide_eq_false (by omega)).trans (decide_eq_false (by omega)).symm), Hb.out⟩
    · have HW := Lib.hid (within_o (lo := lo) (hi := hi) hr (by simp))
      clear hr hm
      go_enter Tryz.func72, Tryz.ntmps72
      go_wp2_with fail
      refine (HRi.out _ ((Below.refl _ w).alloc (Nat.le_refl _) _)).mono ?_
      rintro e w1 ⟨rfl, hb⟩
      have Hb := Lib.hid (((Below.refl _ w).alloc (Nat.le_refl _) _).trans (hb.mono (by simp)))
      obtain ⟨⟨b0, b1, b2, b3⟩, _⟩ := res_cells hb
      clear hb
      go_wp2_with fail
      go_ret
      exact ⟨ret_bool (by rw [HW.out]), Hb.out⟩
    · have HW := Lib.hid (within_6 (lo := lo) (hi := hi) hr rfl)
      simp only [hm] at HW
      clear hr hm
      by_cases h1 : lo ≤ (m : Int)
      · by_cases h2 : (m : Int) ≤ hi
        · go_enter Tryz.func72, Tryz.ntmps72
          go_wp2_with fail
          refine (HRi.out _ ((Below.refl _ w).alloc (Nat.le_refl _) _)).mono ?_
          rintro e w1 ⟨rfl, hb⟩
          have Hb := Lib.hid (((Below.refl _ w).alloc (Nat.le_refl _) _).trans (hb.mono (by simp)))
          obtain ⟨⟨b0, b1, b2, b3⟩, _⟩ := res_cells hb
          clear hb
          go_wp2_with fail
          go_ret
          exact ⟨ret_bool (by rw [HW.out]; first | exact decide_eq_true (by omega) | exact (decide_eq_true (by omega)).trans (decide_eq_true (by omega)).symm), Hb.out⟩
        · go_enter Tryz.func72, Tryz.ntmps72
          go_wp2_with fail
          refine (HRi.out _ ((Below.refl _ w).alloc (Nat.le_refl _) _)).mono ?_
          rintro e w1 ⟨rfl, hb⟩
          have Hb := Lib.hid (((Below.refl _ w).alloc (Nat.le_refl _) _).trans (hb.mono (by simp)))
          obtain ⟨⟨b0, b1, b2, b3⟩, _⟩ := res_cells hb
          clear hb
          go_wp2_with fail
          go_ret
          exact ⟨ret_bool (by rw [HW.out]; first | exact decide_eq_false (by omega) | exact (decide_eq_false (by omega)).trans (decide_eq_false (by omega)).symm), Hb.out⟩
      · go_enter Tryz.func72, Tryz.ntmps72
        go_wp2_with fail
        refine (HRi.out _ ((Below.refl _ w).alloc (Nat.le_refl _) _)).mono ?_
        rintro e w1 ⟨rfl, hb⟩
        have Hb := Lib.hid (((Below.refl _ w).alloc (Nat.le_refl _) _).trans (hb.mono (by simp)))
        obtain ⟨⟨b0, b1, b2, b3⟩, _⟩ := res_cells hb
        clear hb
        go_wp2_with fail
        go_ret
        exact ⟨ret_bool (by rw [HW.out]; first | exact decide_eq_false (by omega) | exact (decide_eq_false (by omega)).trans (decide_eq_false (by omega)).symm), Hb.out⟩
end Go.Proofs.YtpfhhaonfbfheaaGreatDoor.va
/- Package key: what a definition must be; where a name stands. Conditions: texts of at most 2147483647 bytes; the listed variables hold what the program's text lays. -/
namespace Go.Proofs.YtpfhhaonfbfheaaGreatDoor.ky
open Go.ChangeShapes Go.WideShapes Go.ChangeAt Go.RowKit gl va ls

set_option maxHeartbeats 1000000 in
theorem bounds_any (k : Int) (w : World) : Calls Tryz.prog 91 #[.int .i64 k] w fun e w' => e = .returned (.tuple #[.int .i64 (bndL k).1, .int .i64 (bndL k).2.1, .bool (bndL k).2.2]) ∧ w' = w := by
  by_cases h2 : k = 2
  · subst h2
    go_enter Tryz.func91, Tryz.ntmps91
    go_wp2_with fail
    go_ret3
    exact ⟨rfl, rfl⟩
  by_cases h3 : k = 3
  · subst h3
    go_enter Tryz.func91, Tryz.ntmps91
    go_wp2_with fail
    go_ret3
    exact ⟨rfl, rfl⟩
  by_cases h4 : k = 4
  · subst h4
    go_enter Tryz.func91, Tryz.ntmps91
    go_wp2_with fail
    go_ret3
    exact ⟨rfl, rfl⟩
  by_cases h6 : k = 6
  · subst h6
    go_enter Tryz.func91, Tryz.ntmps91
    go_wp2_with fail
    go_ret3
    exact ⟨rfl, rfl⟩
  have hb : bndL k = (0, 0, false) := by unfold bndL; rw [if_neg h2, if_neg h3, if_neg h4, if_neg h6]
  rw [hb]
  have q2 : (k == 2) = false := by simpa using h2
  have q3 : (k == 3) = false := by simpa using h3
  have q4 : (k == 4) = false := by simpa using h4
  have q6 : (k == 6) = false := by simpa using h6
  go_enter Tryz.func91, Tryz.ntmps91
  go_wp2_with fail
  go_ret3
  exact ⟨rfl, rfl⟩
theorem lit_eq (l : List UInt8) (m : List UInt8) : ((B l).toList == (⟨m.toArray⟩ : ByteArray).toList) = decide (l = m) := str_eq l m
set_option maxHeartbeats 2000000 in
set_option maxRecDepth 100000 in
theorem isLetter_any (l : List UInt8) (hs : l.length ≤ 2147483647) (w : World) : Calls Tryz.prog 90 #[.string (B l)] w fun e w' => e = .returned (.bool (letterL l)) ∧ w' = w := by
  match l with
  | [] =>
    go_enter Tryz.func90, Tryz.ntmps90
    go_wp2_with fail
    go_ret
    exact ⟨rfl, rfl⟩
  | [b] =>
    obtain ⟨s, hs'⟩ : ∃ s, s = B [b] := ⟨_, rfl⟩
    have hz : s.size = 1 := by rw [hs']; rfl
    have h0 : (s.toList == (⟨#[]⟩ : ByteArray).toList) = false := by rw [hs', show (⟨#[]⟩ : ByteArray) = ⟨([] : List UInt8).toArray⟩ from rfl, lit_eq]; simp
    have h1 : (s.toList == (⟨#[104]⟩ : ByteArray).toList) = decide (b = 104) := by rw [hs', show (⟨#[104]⟩ : ByteArray) = ⟨([104] : List UInt8).toArray⟩ from rfl, lit_eq]; simp
    have h2 : (s.toList != (⟨#[104]⟩ : ByteArray).toList) = !decide (b = 104) := by rw [bne, h1]
    have hb : ∀ h : 0 < s.size, ((s[0]'h).toNat : Int) = (b.toNat : Int) := fun h => by subst hs'; rfl
    rw [← hs']
    have hb0 : (0 : Int) ≤ (b.toNat : Int) := by omega
    have hb1 : (b.toNat : Int) ≤ 255 := by have := b.toNat_lt; omega
    have h104 : decide (b.toNat ≠ 104) = !decide (b = 104) := by
      by_cases h : b = 104
      · subst h; rfl
      · have hn : b.toNat ≠ 104 := fun e => h (UInt8.toNat_inj.1 (by rw [e]; rfl))
        simp [h, hn]
    have Hr : Hid (letterL [b] = (decide (97 ≤ b.toNat) && decide (b.toNat ≤ 122) && !decide (b = 104))) := Lib.hid (by
      show (decide (97 ≤ b.toNat) && decide (b.toNat ≤ 122) && decide (b.toNat ≠ 104)) = _
      rw [h104])
    have hi0 : (0 : Nat) < s.size := by omega
    have hbq := hb hi0
    have hemp : s.toList.isEmpty = false := by rw [hs', ByteArray.toList_eq]; rfl
    have h1b : (s.toList == [104]) = decide (b = 104) := by rw [← h1, show (⟨#[104]⟩ : ByteArray).toList = [104] by rw [ByteArray.toList_eq]]
    clear hs' h104 hs
    obtain ⟨c3, hc3⟩ : ∃ c3, decide (b = 104) = c3 := ⟨_, rfl⟩
    rw [hc3] at h1 h2 h1b Hr
    clear hc3 hb
    by_cases g1 : 97 ≤ b.toNat
    · have p1 : decide ((97 : Int) ≤ (b.toNat : Int)) = true := by simp; omega
      have p1' : (97 : Int) ≤ (b.toNat : Int) := by omega
      by_cases g2 : b.toNat ≤ 122
      · have p2 : decide ((b.toNat : Int) ≤ 122) = true := by simp; omega
        have p2' : (b.toNat : Int) ≤ 122 := by omega
        have e : letterL [b] = !c3 := by rw [Hr.out]; simp [g1, g2]
        rw [e]
        clear Hr e
        cases c3
        all_goals
          go_enter Tryz.func90, Tryz.ntmps90
          go_wp2_with fail
          go_ret
          exact ⟨rfl, rfl⟩
      · have p2 : decide ((b.toNat : Int) ≤ 122) = false := by simp; omega
        have p2' : ¬ (b.toNat : Int) ≤ 122 := by omega
        have e : letterL [b] = false := by rw [Hr.out]; simp [g2]
        rw [e]
        clear Hr e
        go_enter Tryz.func90, Tryz.ntmps90
        go_wp2_with fail
        go_ret
        exact ⟨rfl, rfl⟩
    · have p1 : decide ((97 : Int) ≤ (b.toNat : Int)) = false := by simp; omega
      have p1' : ¬ (97 : Int) ≤ (b.toNat : Int) := by omega
      have e : letterL [b] = false := by rw [Hr.out]; simp [g1]
      rw [e]
      clear Hr e
      go_enter Tryz.func90, Tryz.ntmps90
      go_wp2_with fail
      go_ret
      exact ⟨rfl, rfl⟩
  | a :: b :: r =>
    obtain ⟨s, hs'⟩ : ∃ s, s = B (a :: b :: r) := ⟨_, rfl⟩
    have hz : s.size = r.length + 2 := by rw [hs']; simp [ByteArray.size]
    have h0 : (s.toList == (⟨#[]⟩ : ByteArray).toList) = false := by rw [hs', show (⟨#[]⟩ : ByteArray) = ⟨([] : List UInt8).toArray⟩ from rfl, lit_eq]; simp
    have h1 : ((s.size : Int) == 1) = false := by rw [hz]; simp; omega
    have hemp : s.toList.isEmpty = false := by rw [hs', ByteArray.toList_eq]; rfl
    rw [← hs', show letterL (a :: b :: r) = false from rfl]
    clear hs' hz hs
    go_enter Tryz.func90, Tryz.ntmps90
    go_wp2_with fail
    go_ret
    exact ⟨rfl, rfl⟩
theorem form_bad {x : Ky} (h : nameL x.name = false ∨ letterL x.letter = false) : formL x = false := by
  unfold formL
  rcases h with h | h <;> simp [h]
theorem form_num {x : Ky} (h1 : nameL x.name = true) (h2 : letterL x.letter = true) (h3 : (bndL x.kind).2.2 = true) : formL x = (decide ((bndL x.kind).1 ≤ x.least) && (decide (x.least ≤ x.most) && decide (x.most ≤ (bndL x.kind).2.1))) := by
  unfold formL
  rw [h1, h2, if_pos h3, Bool.true_and, Bool.true_and, Bool.and_assoc]
theorem form_not {x : Ky} (h1 : nameL x.name = true) (h2 : letterL x.letter = true) (h3 : (bndL x.kind).2.2 = false) : formL x = (((x.kind == 1) || (x.kind == 5)) && ((x.least == 0) && (x.most == 0))) := by
  unfold formL
  rw [h1, h2, if_neg (by rw [h3]; simp), Bool.true_and, Bool.true_and, Bool.and_assoc]
  have e : ∀ a b : Int, decide (a = b) = (a == b) := fun a b => by rw [Bool.eq_iff_iff, decide_eq_true_iff, beq_iff_eq]
  rw [e, e, Bool.decide_or, e, e]
set_option maxHeartbeats 4000000 in
set_option maxRecDepth 100000 in
theorem formed_any (x : Ky) (hx : KyOk x) (w : World) (hG : Glo w) :
    Calls Tryz.prog 70 #[.agg #[.string (B x.name), .int .i64 x.kind, .string (B x.dflt), .int .i64 x.least, .int .i64 x.most, .string (B x.letter)]] w fun e w' => e = .returned (.bool (formL x)) ∧ Below w.heap.size w w' := by
  obtain ⟨wA, hA⟩ : ∃ wA, wA = w.alloc (.cells #[.string (B x.name), .int .i64 x.kind, .string (B x.dflt), .int .i64 x.least, .int .i64 x.most, .string (B x.letter)] 62) := ⟨_, rfl⟩
  have kA : wA.heap[w.heap.size]? = some (.cells #[.string (B x.name), .int .i64 x.kind, .string (B x.dflt), .int .i64 x.least, .int .i64 x.most, .string (B x.letter)] 62 (0, 0)) := by rw [hA]; exact heap_alloc_new w _
  have hbA : Below w.heap.size w wA := by rw [hA]; exact (Below.refl _ _).alloc (Nat.le_refl _) _
  have HN := Lib.hid (IsName_any (B x.name) (by rw [show (B x.name).size = x.name.length by simp [ByteArray.size]]; exact hx.1) wA (hG.below hbA (Nat.le_refl _)))
  rw [B_list] at HN
  have HL := Lib.hid fun W => isLetter_any x.letter hx.2.2.1 W
  have HBd := Lib.hid fun W => bounds_any x.kind W
  have F1 := Lib.hid (@form_bad x)
  have F2 := Lib.hid (@form_num x)
  have F3 := Lib.hid (@form_not x)
  have HkA := Lib.hid kA
  have HbA := Lib.hid hbA
  have HA := Lib.hid hA
  clear kA hbA hA hG hx
  generalize formL x = fx at *
  generalize nameL x.name = nn at *
  generalize letterL x.letter = ll at *
  generalize bndL x.kind = bd at *
  obtain ⟨lo, hi, bb⟩ := bd
  dsimp only at HBd F2 F3
  generalize B x.name = nm at *
  generalize B x.dflt = df at *
  generalize B x.letter = lt at *
  generalize x.kind = kk at *
  generalize x.least = le at *
  generalize x.most = mo at *
  go_enter Tryz.func70, Tryz.ntmps70
  go_wp2_with fail
  rw [← HA.out]
  refine HN.out.mono ?_
  rintro e w1 ⟨rfl, hb1⟩
  have Hb1 := Lib.hid (then_bel HbA.out hb1)
  have hk1 := (hb1.block _ (lt_of_block HkA.out)).trans HkA.out
  have a1 : w1.cell? ⟨w.heap.size, 1, none⟩ = some (.int .i64 kk) := cell_in hk1
  have a3 : w1.cell? ⟨w.heap.size, 3, none⟩ = some (.int .i64 le) := cell_in hk1
  have a4 : w1.cell? ⟨w.heap.size, 4, none⟩ = some (.int .i64 mo) := cell_in hk1
  have a5 : w1.cell? ⟨w.heap.size, 5, none⟩ = some (.string lt) := cell_in hk1
  have hgw1 : w.heap.size < w1.heap.size := lt_of_block hk1
  clear hb1 hk1
  cases nn with
  | false =>
    have hf := Lib.hid (F1.out (.inl rfl))
    go_wp2_with fail
    go_ret
    exact ⟨by rw [hf.out]; rfl, Hb1.out⟩
  | true =>
    go_wp2_with fail
    refine (HL.out _).mono ?_
    rintro e w0 ⟨rfl, hw0⟩
    obtain rfl : w1 = w0 := hw0.symm
    cases ll with
    | false =>
      have hf := Lib.hid (F1.out (.inr rfl))
      go_wp2_with fail
      go_ret
      exact ⟨by rw [hf.out]; rfl, Hb1.out⟩
    | true =>
      go_wp2_with fail
      refine (HBd.out _).mono ?_
      rintro e w0 ⟨rfl, hw0⟩
      obtain rfl : w1 = w0 := hw0.symm
      cases bb with
      | true =>
        have hf := Lib.hid (F2.out (by simp) (by simp) (by simp))
        obtain ⟨t1, ht1⟩ : ∃ t1, decide (lo ≤ le) = t1 := ⟨_, rfl⟩
        obtain ⟨t2, ht2⟩ : ∃ t2, decide (le ≤ mo) = t2 := ⟨_, rfl⟩
        obtain ⟨t3, ht3⟩ : ∃ t3, decide (mo ≤ hi) = t3 := ⟨_, rfl⟩
        rw [ht1, ht2, ht3] at hf
        cases t1 <;> cases t2 <;> cases t3
        all_goals
          go_wp2_with fail
          go_ret
          exact ⟨by rw [hf.out]; rfl, Hb1.out⟩
      | false =>
        have hf := Lib.hid (F3.out (by simp) (by simp) (by simp))
        obtain ⟨t1, ht1⟩ : ∃ t1, (kk == 1) = t1 := ⟨_, rfl⟩
        obtain ⟨t2, ht2⟩ : ∃ t2, (kk == 5) = t2 := ⟨_, rfl⟩
        obtain ⟨t3, ht3⟩ : ∃ t3, (le == 0) = t3 := ⟨_, rfl⟩
        obtain ⟨t4, ht4⟩ : ∃ t4, (mo == 0) = t4 := ⟨_, rfl⟩
        rw [ht1, ht2, ht3, ht4] at hf
        cases t1 <;> cases t2 <;> cases t3 <;> cases t4
        all_goals
          go_wp2_with fail
          go_ret
          exact ⟨by rw [hf.out]; rfl, Hb1.out⟩
end Go.Proofs.YtpfhhaonfbfheaaGreatDoor.ky
/- value.names, and Print at numbers with units, return plain functions. Conditions: the listed variables hold what the program's text lays; the value's words lie in memory; it is no greater than 2147483647 bytes and words. -/
namespace Go.Proofs.YtpfhhaonfbfheaaGreatDoor.va
open Go.ChangeShapes Go.WideShapes Go.ChangeAt Go.RowKit gl

abbrev nm (k : Int) (i : Nat) : ByteArray := B (uname k i)
/-- The greatest of the first units of which a number is a multiple. -/
def bt (k n : Int) : Nat → Nat
  | 0 => 0
  | i + 1 => if n ≠ 0 ∧ n % unit k (uname k i) = 0 then i else bt k n i
theorem bt_le (k n : Int) (i : Nat) : bt k n i ≤ i := by
  induction i with
  | zero => exact Nat.le_refl _
  | succ i ih => unfold bt; split <;> omega
theorem bt_best (k n : Int) : bt k n 4 = best k n := by
  unfold best
  by_cases h : n = 0
  · simp [bt, h]
  · rw [if_neg h]
    simp only [bt, h, ne_eq, not_false_eq_true, true_and]
    repeat' split
    all_goals rfl
theorem decDigits_len (u : Nat) : (Lib.decDigits u).length ≤ u + 1 := by
  induction u using Nat.strongRecOn with
  | _ u ih =>
    by_cases h : u < 10
    · rw [decDigits_lt h]; simp
    · rw [decDigits_ge h]
      have := ih (u / 10) (by omega)
      simp
      omega
theorem uname_len (k : Int) (i : Nat) : (uname k i).length ≤ 1 := by
  unfold uname
  repeat' split
  all_goals simp
theorem formatBool_eq (b : Bool) : (⟨(Lib.formatBool b).toArray⟩ : ByteArray) = B (if b then [116, 114, 117, 101] else [102, 97, 108, 115, 101]) := by cases b <;> decide +kernel

/-- What the loop over the units' names keeps. -/
def S16 (w0 : World) (b : Nat) (k n : Int) (w' : World) : Prop := w'.cell? ⟨b, 0, none⟩ = some (.int .i64 k) ∧ w'.cell? ⟨b, 1, none⟩ = some (.int .i64 n) ∧ Hid (Below w0.heap.size w0 w')
theorem s16_drew {w0 wp : World} {b : Nat} {k n : Int} (h : wp.cell? ⟨b, 0, none⟩ = some (.int .i64 k) ∧ wp.cell? ⟨b, 1, none⟩ = some (.int .i64 n) ∧ Hid (Below w0.heap.size w0 wp)) :
    wp.drew.cell? ⟨b, 0, none⟩ = some (.int .i64 k) ∧ wp.drew.cell? ⟨b, 1, none⟩ = some (.int .i64 n) ∧ Hid (Below w0.heap.size w0 wp.drew) := ⟨h.1, h.2.1, Lib.hid h.2.2.out.drew⟩
theorem s16_call {w0 wp w' : World} {b : Nat} {k n : Int} (h : wp.cell? ⟨b, 0, none⟩ = some (.int .i64 k) ∧ wp.cell? ⟨b, 1, none⟩ = some (.int .i64 n) ∧ Hid (Below w0.heap.size w0 wp)) (hb : Below wp.heap.size wp w') :
    w'.cell? ⟨b, 0, none⟩ = some (.int .i64 k) ∧ w'.cell? ⟨b, 1, none⟩ = some (.int .i64 n) ∧ Hid (Below w0.heap.size w0 w') :=
  have hlt := World.block_lt_of_cell? _ _ h.1
  ⟨(hb.cell (p := ⟨b, 0, none⟩) hlt).trans h.1, (hb.cell (p := ⟨b, 1, none⟩) hlt).trans h.2.1, Lib.hid (h.2.2.out.trans (hb.mono h.2.2.out.size))⟩
theorem s16_vlo {w0 wp : World} {b : Nat} {k n : Int} (hV : Vlo w0) (h : wp.cell? ⟨b, 0, none⟩ = some (.int .i64 k) ∧ wp.cell? ⟨b, 1, none⟩ = some (.int .i64 n) ∧ Hid (Below w0.heap.size w0 wp)) : Vlo wp := hV.below h.2.2.out (Nat.le_refl _)

theorem Itoa_any (n : Int) (h0 : -9223372036854775808 ≤ n) (h1 : n ≤ 9223372036854775807) (w : World) (hV : Vlo w) :
    Calls Tryz.prog 177 #[.int .i64 n] w fun e w' => e = .returned (.string (B (Lib.itoa n))) ∧ Below w.heap.size w w' :=
  (Tryz.strconv_Itoa n h0 h1 w hV.pow).mono fun _ _ ⟨he, k, os, hw⟩ => ⟨he, hw ▸ Lib.below_grow _ w (Nat.le_refl _) k os⟩

end Go.Proofs.YtpfhhaonfbfheaaGreatDoor.va
/- value.Print returns the plain function. Conditions: the listed variables hold what the program's text lays; the value's words lie in memory; it is no greater than 2147483647 bytes and words. -/
namespace Go.Proofs.YtpfhhaonfbfheaaGreatDoor.va
open Go.ChangeShapes Go.WideShapes Go.ChangeAt Go.RowKit gl

/-- What Print gives. -/
def PrintOut (isW : List UInt8 → Bool) (v : Val) (e : Ending) : Prop := e = .returned (.tuple #[.string (B (print isW v).1), .int .i64 (print isW v).2])
theorem print_t {v : Val} (h : right wordL v = true) : print wordL v = (prints v, 0) := by unfold print; rw [h]; rfl
theorem print_f {v : Val} (h : right wordL v = false) : print wordL v = ([], 1) := by unfold print; rw [h]; rfl

end Go.Proofs.YtpfhhaonfbfheaaGreatDoor.va
/- tinderboxlaw04.awake and ValueStands return true. Conditions: the listed variables hold what the program's text lays. -/
namespace Go.Proofs.YtpfhhaonfbfheaaGreatDoor.va
open Go.ChangeShapes Go.WideShapes Go.ChangeAt Go.RowKit gl

theorem keep {w w' : World} {b : Nat} {o : Obj} (h : w.heap[b]? = some o) (hb : Below w.heap.size w w') : w'.heap[b]? = some o := (hb.block _ (lt_of_block h)).trans h
theorem Strs.later {w w' : World} {v : Value} {xs : List ByteArray} (h : Strs w v xs) (hb : Below w.heap.size w w') : Strs w' v xs := h.below hb (Nat.le_refl _)
theorem Vlo.later {w w' : World} (h : Vlo w) (hb : Below w.heap.size w w') : Vlo w' := h.below hb (Nat.le_refl _)
theorem then_bel {w a b : World} (h : Below w.heap.size w a) (hb : Below a.heap.size a b) : Below w.heap.size w b := h.trans (hb.mono h.size)
theorem then_al {w a : World} (h : Below w.heap.size w a) (o : Obj) : Below w.heap.size w (a.alloc o) := h.alloc h.size o

/-- Parse where its answer is known. -/
theorem parsed (k : Int) (s : ByteArray) (hs : s.size ≤ 2147483647) {a b : Int} {t : ByteArray} {ws : List ByteArray} {er : Int} (h : parse wordL k s.data.toList = (⟨a, b, t, ws⟩, er)) (w : World) (hV : Vlo w) :
    Calls Tryz.prog 71 #[.int .i64 k, .string s] w fun e w' => (∃ (p : Option Addr) (n c : Nat), e = .returned (.tuple #[.agg #[.int .i64 a, .int .i64 b, .string t, .slice p n c], .int .i64 er]) ∧ Strs w' (.slice p n c) ws ∧ n = ws.length) ∧ Below w.heap.size w w' :=
  (Parse_any k s hs w hV).mono fun e w' ⟨⟨sl, he, hf⟩, hb⟩ => by
    rw [h] at he hf
    have hst := hf.strs
    obtain ⟨p, c, rfl, hc⟩ := hst
    exact ⟨⟨p, _, c, he, hf.strs, rfl⟩, hb⟩

theorem e1 : parse wordL 3 (⟨#[50, 48, 52, 56, 107]⟩ : ByteArray).data.toList = (⟨3, 2097152, ByteArray.empty, []⟩, 0) := by kernel_rfl
theorem e2 : parse wordL 6 (⟨#[108, 111, 103, 44, 110, 101, 116]⟩ : ByteArray).data.toList = (⟨6, 0, ByteArray.empty, [⟨#[108, 111, 103]⟩, ⟨#[110, 101, 116]⟩]⟩, 0) := by kernel_rfl
theorem e3 : parse wordL 4 (⟨#[53]⟩ : ByteArray).data.toList = (⟨0, 0, ByteArray.empty, []⟩, 40) := by kernel_rfl
theorem e4 : parse wordL 7 (⟨#[111, 110]⟩ : ByteArray).data.toList = (⟨0, 0, ByteArray.empty, []⟩, 1) := by kernel_rfl
theorem e5 : parse wordL 2 (⟨#[52, 54, 49, 49, 54, 56, 54, 48, 49, 56, 52, 50, 55, 51, 56, 55, 57, 48, 53]⟩ : ByteArray).data.toList = (⟨0, 0, ByteArray.empty, []⟩, 41) := by kernel_rfl
def vA : Val := ⟨3, 2097152, ByteArray.empty, []⟩
def vB : Val := ⟨6, 0, ByteArray.empty, [⟨#[108, 111, 103]⟩, ⟨#[110, 101, 116]⟩]⟩
theorem vA_b : Vb vA := ⟨by decide, by decide, by decide, by decide, by decide, by decide⟩
theorem vB_b : Vb vB := ⟨by decide, by decide, by decide, by decide, by decide, by decide⟩
theorem vA_r : right wordL vA = true := by kernel_rfl
theorem vB_r : right wordL vB = true := by kernel_rfl
theorem vA_p : print wordL vA = ([50, 109], 0) := by
  rw [print_t vA_r]
  have hb : best 3 2097152 = 2 := by kernel_rfl
  have hp : prints vA = Lib.itoa (2097152 / unit 3 (uname 3 (best 3 2097152))) ++ uname 3 (best 3 2097152) := rfl
  rw [hp, hb]
  have h2 : (2097152 : Int) / unit 3 (uname 3 2) = 2 := by kernel_rfl
  rw [h2, itoa_pos (by decide), decDigits_lt (by decide)]
  rfl
theorem vB_w1 : within wordL vB 0 2 = true := by kernel_rfl
theorem vB_w2 : within wordL vB 0 1 = false := by kernel_rfl
theorem vAB : decide (vA = vB) = false := by decide
theorem u_d : unit 4 [100] = 86400 := by decide

end Go.Proofs.YtpfhhaonfbfheaaGreatDoor.va
/- tinderboxlaw04.addsUp and valueWeighs return plain functions of numbers; what is not too great is bounded in each part. Conditions: the value's words lie in memory. -/
namespace Go.Proofs.YtpfhhaonfbfheaaGreatDoor.va
open Go.ChangeShapes Go.WideShapes Go.ChangeAt Go.RowKit gl

/-- What an argument's reading gives: no part is greater than memory. -/
structure Vh (v : Val) : Prop where
  int0 : -9223372036854775808 ≤ v.int
  int1 : v.int ≤ 9223372036854775807
  text : v.text.size ≤ 9223372036854775807
  words : v.words.length ≤ 9223372036854775807
  each : ∀ x ∈ v.words, x.size ≤ 9223372036854775807

def adds (n m : Int) : Int := if 2147483647 < n ∨ 2147483647 < m then 2147483648 else n + m
def wloop (n : Int) : List ByteArray → Int
  | [] => n
  | x :: r => if n ≤ 2147483647 then wloop (adds n x.size) r else n
def weighs (v : Val) : Int := wloop (adds v.text.size v.words.length) v.words
def sz (l : List ByteArray) : Nat := (l.map (·.size)).sum
theorem adds_bd {n m : Int} (hn : 0 ≤ n) (hm : 0 ≤ m) : 0 ≤ adds n m ∧ adds n m ≤ 4294967294 := by unfold adds; split <;> omega
theorem wloop_bd : ∀ (l : List ByteArray) (n : Int), 0 ≤ n → n ≤ 4294967294 → 0 ≤ wloop n l ∧ wloop n l ≤ 4294967294
  | [], n, h0, h1 => ⟨h0, h1⟩
  | x :: r, n, h0, h1 => by
    unfold wloop
    split
    · have := adds_bd h0 (show (0 : Int) ≤ x.size by omega)
      exact wloop_bd r _ this.1 this.2
    · exact ⟨h0, h1⟩
theorem weighs_bd (v : Val) : 0 ≤ weighs v ∧ weighs v ≤ 4294967294 := by
  have := adds_bd (show (0 : Int) ≤ v.text.size by omega) (show (0 : Int) ≤ v.words.length by omega)
  exact wloop_bd _ _ this.1 this.2
theorem wloop_le : ∀ (l : List ByteArray) (n : Int), 0 ≤ n → wloop n l ≤ 2147483647 → n + sz l ≤ 2147483647
  | [], n, _, h => by simpa [wloop, sz] using h
  | x :: r, n, h0, h => by
    unfold wloop at h
    split at h
    · rename_i hn
      have hb := adds_bd h0 (show (0 : Int) ≤ x.size by omega)
      have := wloop_le r _ hb.1 h
      have h1 : adds n x.size = n + x.size := by
        unfold adds
        rw [if_neg]
        intro hx
        unfold adds at this
        rw [if_pos hx] at this
        omega
      rw [h1] at this
      simp only [sz, List.map_cons, List.sum_cons] at this ⊢
      omega
    · omega
theorem sz_mem {l : List ByteArray} {x : ByteArray} (h : x ∈ l) : x.size ≤ sz l := by
  induction l with
  | nil => cases h
  | cons y r ih =>
    simp only [sz, List.map_cons, List.sum_cons]
    rcases List.mem_cons.1 h with rfl | h
    · omega
    · have := ih h
      simp only [sz] at this
      omega
theorem lens_sz (l : List ByteArray) : Lib.lens (l.map (·.data.toList)) = sz l := by
  unfold Lib.lens sz
  rw [List.map_map]
  congr 1
theorem joined_cons (x : ByteArray) (r : List ByteArray) : (joined (x :: r)).length = r.length + sz (x :: r) := by
  unfold joined
  rw [List.map_cons, Lib.join_length, ← List.map_cons (f := fun y : ByteArray => y.data.toList), lens_sz, List.length_map]
  show 1 * r.length + _ = _
  rw [Nat.one_mul]
theorem joined_len (l : List ByteArray) : (joined l).length ≤ l.length + sz l := by
  cases l with
  | nil => simp [joined, Lib.join]
  | cons x r =>
    rw [joined_cons]
    simp only [List.length_cons]
    omega
/-- What is not too great is bounded in each part. -/
theorem vb_of {v : Val} (hh : Vh v) (h : weighs v ≤ 2147483647) : Vb v := by
  have hb := adds_bd (show (0 : Int) ≤ v.text.size by omega) (show (0 : Int) ≤ v.words.length by omega)
  have h1 := wloop_le _ _ hb.1 h
  have h2 : adds v.text.size v.words.length = v.text.size + v.words.length := by
    unfold adds at h1 ⊢
    split
    · rename_i hx
      rw [if_pos hx] at h1
      omega
    · rfl
  rw [h2] at h1
  have hj := joined_len v.words
  exact ⟨hh.int0, hh.int1, by omega, by omega, fun x hx => by have := sz_mem hx; omega, by omega⟩

theorem len_dec : ∀ (k u : Nat), u < 10 ^ (k + 1) → (Lib.decDigits u).length ≤ k + 1
  | 0, u, h => by rw [decDigits_lt (by omega)]; simp
  | k + 1, u, h => by
    by_cases h10 : u < 10
    · rw [decDigits_lt h10]; simp
    · rw [decDigits_ge h10]
      have := len_dec k (u / 10) (by rw [Nat.pow_succ] at h; omega)
      simp
      omega
theorem itoa_len {n : Int} (h0 : -9223372036854775808 ≤ n) (h1 : n ≤ 9223372036854775807) : (Lib.itoa n).length ≤ 20 := by
  by_cases h : n < 0
  · rw [itoa_neg h]
    have := len_dec 18 n.natAbs (by omega)
    simp
    omega
  · rw [itoa_pos h]
    have := len_dec 18 n.toNat (by omega)
    omega
theorem wordL_is : IsWord wordL := by
  refine ⟨fun l h => ?_, fun l h hc => ?_, fun l h => ?_⟩
  · rintro rfl
    exact absurd h (by decide)
  · unfold wordL at h
    simp only [Bool.and_eq_true, List.all_eq_true] at h
    exact absurd (h.1 44 hc) (by decide)
  · unfold wordL at h
    simp only [Bool.and_eq_true, decide_eq_true_eq] at h
    exact h.2.2
/-- What may be is not too great. -/
theorem vb_right {v : Val} (h : right wordL v = true) : Vb v := by
  have hw : ∀ {ws : List ByteArray}, ws = [] → ws.length ≤ 2147483647 ∧ (∀ x ∈ ws, x.size ≤ 2147483647) ∧ (joined ws).length ≤ 140737488355328 := by
    rintro ws rfl
    exact ⟨by simp, by simp, by simp [joined, Lib.join]⟩
  rcases right_cases h with ⟨hk, h1, h2, h3, h4⟩ | ⟨hk, h1, h2, h3, h4⟩ | ⟨hk, h1, h2, h3, h4⟩ | ⟨hk, h1, h2, h3, h4⟩ | ⟨hk, h1, h2, h3, h4, h5⟩
  · exact ⟨by omega, by omega, by rw [h3]; decide, (hw h4).1, (hw h4).2.1, (hw h4).2.2⟩
  · exact ⟨by omega, by omega, by rw [h3]; decide, (hw h4).1, (hw h4).2.1, (hw h4).2.2⟩
  · have hm : most v.kind ≤ 1125899906842624 := by rcases hk with hk | hk <;> rw [hk] <;> decide
    exact ⟨by omega, by omega, by rw [h3]; decide, (hw h4).1, (hw h4).2.1, (hw h4).2.2⟩
  · exact ⟨by omega, by omega, by omega, (hw h4).1, (hw h4).2.1, (hw h4).2.2⟩
  · exact ⟨by omega, by omega, by rw [h2]; decide, by omega, fun x hx => by
      have := wordL_is.size _ (List.all_eq_true.1 h4 x hx)
      rw [← Lib.size_eq] at this
      omega, by omega⟩
theorem prints_len {v : Val} (h : right wordL v = true) : (prints v).length ≤ 200 := by
  rcases right_cases h with ⟨hk, h1, h2, h3, h4⟩ | ⟨hk, h1, h2, h3, h4⟩ | ⟨hk, h1, h2, h3, h4⟩ | ⟨hk, h1, h2, h3, h4⟩ | ⟨hk, h1, h2, h3, h4, h5⟩
  · unfold prints
    rw [if_pos hk]
    split <;> simp
  · unfold prints
    rw [if_neg (by omega), if_pos hk]
    have := itoa_len (n := v.int) (by omega) (by omega)
    omega
  · have hm : most v.kind ≤ 1125899906842624 := by rcases hk with hk | hk <;> rw [hk] <;> decide
    unfold prints
    rw [if_neg (by omega), if_neg (by omega), if_neg (by omega), if_neg (by omega)]
    have hu := unit_uname v.kind (best v.kind v.int) hk (best_le _ _)
    have hq0 : 0 ≤ v.int / unit v.kind (uname v.kind (best v.kind v.int)) := Int.ediv_nonneg h1 (by omega)
    have hq1 : v.int / unit v.kind (uname v.kind (best v.kind v.int)) ≤ v.int := by
      have h6 := Int.mul_le_mul_of_nonneg_left hu hq0
      have h7 := Int.ediv_mul_le v.int (b := unit v.kind (uname v.kind (best v.kind v.int))) (by omega)
      omega
    have := itoa_len (n := v.int / unit v.kind (uname v.kind (best v.kind v.int))) (by omega) (by omega)
    have := uname_len v.kind (best v.kind v.int)
    rw [List.length_append]
    omega
  · unfold prints
    rw [if_neg (by omega), if_neg (by omega), if_pos hk, ← Lib.size_eq]
    exact h2
  · unfold prints
    rw [if_neg (by omega), if_neg (by omega), if_neg (by omega), if_pos hk]
    exact h5
end Go.Proofs.YtpfhhaonfbfheaaGreatDoor.va
