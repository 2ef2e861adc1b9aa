/- value.parseNumber returns the plain function. Conditions: the listed variables hold what the program's text lays; the text is no longer than 2147483647 bytes. -/
import Derived.Test.YtpfhhaonfbfheaaGreatDoorVaG
import Derived.Laws.Small
namespace Go.Proofs.YtpfhhaonfbfheaaGreatDoor.va
open Go.ChangeShapes Go.WideShapes Go.ChangeAt Go.RowKit gl

theorem hasPrefix_45 (l : List UInt8) : Lib.hasPrefix l [45] = decide (l.head? = some 45) := by
  cases l with
  | nil => rfl
  | cons c r =>
    by_cases h : c = 45
    · subst h; rfl
    · have : ((45 : UInt8) == c) = false := by rw [beq_eq_false_iff_ne]; exact fun e => h e.symm
      simp [Lib.hasPrefix, List.isPrefixOf, h, this]
theorem cutp_45 (s : ByteArray) (w : World) : Calls Tryz.prog 89 #[.string s, .string ⟨#[45]⟩] w fun e w' => (∃ t : ByteArray, t.data.toList = (if s.data.toList.head? = some 45 then s.data.toList.tail else s.data.toList) ∧ e = .returned (.tuple #[.string t, .bool (decide (s.data.toList.head? = some 45))])) ∧ w' = w := by
  refine (Tryz.strings_CutPrefix s ⟨#[45]⟩ w).mono ?_
  rintro e w' ⟨rfl, rfl⟩
  refine ⟨⟨_, ?_, by rw [← hasPrefix_45]⟩, rfl⟩
  show Lib.trimPrefix s.data.toList [45] = _
  unfold Lib.trimPrefix
  rw [hasPrefix_45]
  by_cases h : s.data.toList.head? = some 45
  · simp [h]
  · simp [h]
theorem tdiv_ediv {a b : Int} (h : 0 ≤ a) : a.tdiv b = a / b := by rw [tdiv_eq_if, if_pos h]
theorem ends_2 (w : World) : Calls Tryz.prog 116 #[.int .i64 2] w fun e w' => e = .returned (.tuple #[.int .i64 (-4611686018427387904), .int .i64 4611686018427387904]) ∧ w' = w := ends_any 2 w
theorem ends_u (k : Int) (hk : k = 3 ∨ k = 4) (w : World) : Calls Tryz.prog 116 #[.int .i64 k] w fun e w' => e = .returned (.tuple #[.int .i64 0, .int .i64 (most k)]) ∧ w' = w := by
  have := ends_any k w
  rwa [show least k = 0 from by unfold least; rw [if_neg (by omega)]] at this
theorem okNum_t {o : Option Nat} {n : Int} (h : okNum o n true) : ∃ m : Nat, o = some m ∧ n = m := by
  obtain ⟨h1, h2⟩ := h
  cases o with
  | none => cases h1
  | some m => exact ⟨m, rfl, h2 m rfl⟩
theorem okNum_f {o : Option Nat} {n : Int} (h : okNum o n false) : o = none := by
  cases o with
  | none => rfl
  | some m => exact absurd h.1 (by simp)
theorem parseInt_eq (l : List UInt8) : parseInt l = match num (if l.head? = some 45 then l.tail else l) with
    | none => (zero, 40)
    | some n => if l.head? = some 45 ∧ n = 0 then (zero, 40) else if 4611686018427387904 < n then (zero, 41) else (⟨2, if l.head? = some 45 then -(n : Int) else n, ByteArray.empty, []⟩, 0) := rfl

set_option maxHeartbeats 1000000 in
set_option maxRecDepth 100000 in
theorem parseInt_any (s : ByteArray) (hs : s.size ≤ 2147483647) (w : World) (hV : Vlo w) :
    Calls Tryz.prog 93 #[.int .i64 2, .string s] w fun e w' => e = .returned (res (parseInt s.data.toList) (.slice none 0 0)) ∧ Below w.heap.size w w' := by
  have HV := Lib.hid hV
  clear hV
  have hc := fun W => cutp_45 s W
  have hE := parseInt_eq s.data.toList
  have hlen : (if s.data.toList.head? = some 45 then s.data.toList.tail else s.data.toList).length ≤ s.size := by split <;> simp
  have HL := Lib.hid hlen
  clear hlen
  obtain ⟨T, hT⟩ : ∃ T, (if s.data.toList.head? = some 45 then s.data.toList.tail else s.data.toList) = T := ⟨_, rfl⟩
  simp only [hT] at hc hE HL
  have HN := Lib.hid (fun (t : ByteArray) (ht : t.data.toList = T) (W : World) (hb : Below w.heap.size w W) => number_any t (by have := HL.out; rw [← ht] at this; simp at this; omega) W (HV.out.below hb (Nat.le_refl _)))
  by_cases hneg : s.data.toList.head? = some 45
  · rw [decide_eq_true hneg] at hc
    simp only [hneg, if_true, true_and] at hE
    have HE := Lib.hid hE
    clear hE hneg hT
    go_enter Tryz.func93, Tryz.ntmps93
    go_wp2_with fail
    refine (hc _).mono ?_
    rintro e w1 ⟨⟨t, ht, rfl⟩, rfl⟩
    have Ht := Lib.hid ht
    clear ht
    go_wp2_with fail
    refine (HN.out t Ht.out _ ((Below.refl _ w).alloc (Nat.le_refl _) _)).mono ?_
    rintro e w2 ⟨⟨n, b, rfl, hok, hn0, hn1⟩, hb2⟩
    have Hb := Lib.hid hb2
    rw [Ht.out] at hok
    clear hb2 hc
    have Hblk := Lib.hid ((new_block Hb.out).trans (heap_alloc_new w _))
    obtain ⟨⟨c0, c1, c2, c3⟩, f0, f1, f2, f3⟩ := res_cells Hb.out
    cases b with
    | false =>
      have He : Hid (parseInt s.data.toList = (zero, 40)) := Lib.hid (by rw [HE.out, okNum_f hok])
      clear hok
      go_wp2_with fail
      generalize hW : World.setCell (World.setCell (World.setCell (World.setCell w2 _ _) _ _) _ _) _ _ = W
      obtain ⟨⟨g0, g1, g2, g3⟩, _, _, hbel⟩ := four_done Hblk.out hW
      have HB := Lib.hid (hbel w.heap.size w ((((Below.refl _ w).alloc (Nat.le_refl _) _)).trans (Hb.out.mono (by simp))) (Nat.le_refl _))
      clear hW hbel
      (try simp only [Exit.inBlock, Exit.then])
      refine bodyPost_ret (by simp [results, Tryz.results93, go_sem, g0, g1, g2, g3]; try rfl) rfl ?_
      exact ⟨by rw [He.out]; rfl, HB.out⟩
    | true =>
      obtain ⟨m, hm, rfl⟩ := okNum_t hok
      have HE2 := Lib.hid (HE.out.trans (by rw [hm]))
      simp only at HE2
      clear hok hm
      by_cases h0 : m = 0
      · have He : Hid (parseInt s.data.toList = (zero, 40)) := Lib.hid (by rw [HE2.out, if_pos h0])
        subst h0
        go_wp2_with fail
        generalize hW : World.setCell (World.setCell (World.setCell (World.setCell w2 _ _) _ _) _ _) _ _ = W
        obtain ⟨⟨g0, g1, g2, g3⟩, _, _, hbel⟩ := four_done Hblk.out hW
        have HB := Lib.hid (hbel w.heap.size w ((((Below.refl _ w).alloc (Nat.le_refl _) _)).trans (Hb.out.mono (by simp))) (Nat.le_refl _))
        clear hW hbel
        (try simp only [Exit.inBlock, Exit.then])
        refine bodyPost_ret (by simp [results, Tryz.results93, go_sem, g0, g1, g2, g3]; try rfl) rfl ?_
        exact ⟨by rw [He.out]; rfl, HB.out⟩
      · have h0' : ((m : Int) == 0) = false := by simp; omega
        by_cases h62 : 4611686018427387904 < m
        · have He : Hid (parseInt s.data.toList = (zero, 41)) := Lib.hid (by rw [HE2.out, if_neg h0, if_pos h62])
          go_wp2_with fail
          refine (ends_2 _).mono ?_
          rintro e w3 ⟨rfl, rfl⟩
          go_wp2_with fail
          generalize hW : World.setCell (World.setCell (World.setCell (World.setCell w3 _ _) _ _) _ _) _ _ = W
          obtain ⟨⟨g0, g1, g2, g3⟩, _, _, hbel⟩ := four_done Hblk.out hW
          have HB := Lib.hid (hbel w.heap.size w ((((Below.refl _ w).alloc (Nat.le_refl _) _)).trans (Hb.out.mono (by simp))) (Nat.le_refl _))
          clear hW hbel
          (try simp only [Exit.inBlock, Exit.then])
          refine bodyPost_ret (by simp [results, Tryz.results93, go_sem, g0, g1, g2, g3]; try rfl) rfl ?_
          exact ⟨by rw [He.out]; rfl, HB.out⟩
        · have He : Hid (parseInt s.data.toList = (⟨2, -(m : Int), ByteArray.empty, []⟩, 0)) := Lib.hid (by rw [HE2.out, if_neg h0, if_neg h62])
          go_wp2_with fail
          refine (ends_2 _).mono ?_
          rintro e w3 ⟨rfl, rfl⟩
          go_wp2_with fail
          generalize hW : World.setCell (World.setCell (World.setCell (World.setCell w3 _ _) _ _) _ _) _ _ = W
          obtain ⟨⟨g0, g1, g2, g3⟩, _, _, hbel⟩ := four_done Hblk.out hW
          have HB := Lib.hid (hbel w.heap.size w ((((Below.refl _ w).alloc (Nat.le_refl _) _)).trans (Hb.out.mono (by simp))) (Nat.le_refl _))
          clear hW hbel
          (try simp only [Exit.inBlock, Exit.then])
          refine bodyPost_ret (by simp [results, Tryz.results93, go_sem, g0, g1, g2, g3]; try rfl) rfl ?_
          exact ⟨by rw [He.out]; rfl, HB.out⟩
  · rw [decide_eq_false hneg] at hc
    simp only [hneg, if_false, false_and] at hE
    have HE := Lib.hid hE
    have Hs : Hid (s.data.toList = T) := Lib.hid (by rw [← hT, if_neg hneg])
    clear hE hneg hT
    go_enter Tryz.func93, Tryz.ntmps93
    go_wp2_with fail
    refine (hc _).mono ?_
    rintro e w1 ⟨⟨t, ht, rfl⟩, rfl⟩
    have Ht := Lib.hid ht
    clear ht
    go_wp2_with fail
    refine (HN.out s Hs.out _ ((Below.refl _ w).alloc (Nat.le_refl _) _)).mono ?_
    rintro e w2 ⟨⟨n, b, rfl, hok, hn0, hn1⟩, hb2⟩
    have Hb := Lib.hid hb2
    rw [Hs.out] at hok
    clear hb2 hc
    have Hblk := Lib.hid ((new_block Hb.out).trans (heap_alloc_new w _))
    obtain ⟨⟨c0, c1, c2, c3⟩, f0, f1, f2, f3⟩ := res_cells Hb.out
    cases b with
    | false =>
      have He : Hid (parseInt s.data.toList = (zero, 40)) := Lib.hid (by rw [HE.out, okNum_f hok])
      clear hok
      go_wp2_with fail
      generalize hW : World.setCell (World.setCell (World.setCell (World.setCell w2 _ _) _ _) _ _) _ _ = W
      obtain ⟨⟨g0, g1, g2, g3⟩, _, _, hbel⟩ := four_done Hblk.out hW
      have HB := Lib.hid (hbel w.heap.size w ((((Below.refl _ w).alloc (Nat.le_refl _) _)).trans (Hb.out.mono (by simp))) (Nat.le_refl _))
      clear hW hbel
      (try simp only [Exit.inBlock, Exit.then])
      refine bodyPost_ret (by simp [results, Tryz.results93, go_sem, g0, g1, g2, g3]; try rfl) rfl ?_
      exact ⟨by rw [He.out]; rfl, HB.out⟩
    | true =>
      obtain ⟨m, hm, rfl⟩ := okNum_t hok
      have HE2 := Lib.hid (HE.out.trans (by rw [hm]))
      simp only at HE2
      clear hok hm
      by_cases h62 : 4611686018427387904 < m
      · have He : Hid (parseInt s.data.toList = (zero, 41)) := Lib.hid (by rw [HE2.out, if_pos h62])
        go_wp2_with fail
        refine (ends_2 _).mono ?_
        rintro e w3 ⟨rfl, rfl⟩
        go_wp2_with fail
        generalize hW : World.setCell (World.setCell (World.setCell (World.setCell w3 _ _) _ _) _ _) _ _ = W
        obtain ⟨⟨g0, g1, g2, g3⟩, _, _, hbel⟩ := four_done Hblk.out hW
        have HB := Lib.hid (hbel w.heap.size w ((((Below.refl _ w).alloc (Nat.le_refl _) _)).trans (Hb.out.mono (by simp))) (Nat.le_refl _))
        clear hW hbel
        (try simp only [Exit.inBlock, Exit.then])
        refine bodyPost_ret (by simp [results, Tryz.results93, go_sem, g0, g1, g2, g3]; try rfl) rfl ?_
        exact ⟨by rw [He.out]; rfl, HB.out⟩
      · have He : Hid (parseInt s.data.toList = (⟨2, (m : Int), ByteArray.empty, []⟩, 0)) := Lib.hid (by rw [HE2.out, if_neg h62])
        go_wp2_with fail
        refine (ends_2 _).mono ?_
        rintro e w3 ⟨rfl, rfl⟩
        go_wp2_with fail
        generalize hW : World.setCell (World.setCell (World.setCell (World.setCell w3 _ _) _ _) _ _) _ _ = W
        obtain ⟨⟨g0, g1, g2, g3⟩, _, _, hbel⟩ := four_done Hblk.out hW
        have HB := Lib.hid (hbel w.heap.size w ((((Below.refl _ w).alloc (Nat.le_refl _) _)).trans (Hb.out.mono (by simp))) (Nat.le_refl _))
        clear hW hbel
        (try simp only [Exit.inBlock, Exit.then])
        refine bodyPost_ret (by simp [results, Tryz.results93, go_sem, g0, g1, g2, g3]; try rfl) rfl ?_
        exact ⟨by rw [He.out]; rfl, HB.out⟩

set_option maxHeartbeats 1000000 in
set_option maxRecDepth 100000 in
theorem parseUnit_any (k : Int) (hk : k = 3 ∨ k = 4) (s : ByteArray) (hs : s.size ≤ 2147483647) (w : World) (hV : Vlo w) :
    Calls Tryz.prog 93 #[.int .i64 k, .string s] w fun e w' => e = .returned (res (parseUnit k s.data.toList) (.slice none 0 0)) ∧ Below w.heap.size w w' := by
  have HV := Lib.hid hV
  clear hV
  have hk2 : (k == 2) = false := by simp; omega
  have Hc := Lib.hid (fun (W : World) (hb : Below w.heap.size w W) => cut_any k s hs W (HV.out.below hb (Nat.le_refl _)))
  have hU : 0 ≤ tail k s.data.toList ∧ tail k s.data.toList ≤ 1073741824 := by
    unfold tail
    split
    · omega
    · exact unit_nonneg _ _
  have hM : 0 ≤ most k ∧ most k ≤ 1125899906842624 := by rcases hk with rfl | rfl <;> decide
  have Hends := Lib.hid (ends_u k hk)
  have HE : Hid (parseUnit k s.data.toList = match num (s.data.toList.take (digs s.data.toList)) with
    | none => (zero, 40)
    | some n => if tail k s.data.toList = 0 then (zero, 40) else if most k / tail k s.data.toList < n then (zero, 41) else (⟨k, n * tail k s.data.toList, ByteArray.empty, []⟩, 0)) := Lib.hid rfl
  have HL : Hid ((s.data.toList.take (digs s.data.toList)).length ≤ s.size) := Lib.hid (by simp; omega)
  generalize tail k s.data.toList = u at *
  generalize most k = M at *
  generalize s.data.toList.take (digs s.data.toList) = T at *
  have HN := Lib.hid (fun (t : ByteArray) (ht : t.data.toList = T) (W : World) (hb : Below w.heap.size w W) => number_any t (by have := HL.out; rw [← ht] at this; simp at this; omega) W (HV.out.below hb (Nat.le_refl _)))
  have Hk := Lib.hid hk
  obtain ⟨hu0, hu1⟩ := hU
  obtain ⟨hM0, hM1⟩ := hM
  clear hk
  go_enter Tryz.func93, Tryz.ntmps93
  go_wp2_with fail
  refine (Hc.out _ ((Below.refl _ w).alloc (Nat.le_refl _) _)).mono ?_
  rintro e w1 ⟨⟨t, ht, rfl⟩, hb1⟩
  have Ht := Lib.hid ht
  have Hb1 := Lib.hid hb1
  have hsz1 := hb1.size
  simp at hsz1
  clear ht hb1
  go_wp2_with fail
  refine (HN.out t Ht.out _ (((Below.refl _ w).alloc (Nat.le_refl _) _).trans (Hb1.out.mono (by simp)))).mono ?_
  rintro e w2 ⟨⟨n, b, rfl, hok, hn0, hn1⟩, hb2⟩
  have Hb := Lib.hid (Hb1.out.trans (hb2.mono Hb1.out.size))
  rw [Ht.out] at hok
  clear hb2
  have Hblk := Lib.hid ((new_block Hb.out).trans (heap_alloc_new w _))
  obtain ⟨⟨c0, c1, c2, c3⟩, f0, f1, f2, f3⟩ := res_cells Hb.out
  cases b with
  | false =>
    have He : Hid (parseUnit k s.data.toList = (zero, 40)) := Lib.hid (by rw [HE.out, okNum_f hok])
    clear hok
    go_wp2_with fail
    generalize hW : World.setCell (World.setCell (World.setCell (World.setCell w2 _ _) _ _) _ _) _ _ = W
    obtain ⟨⟨g0, g1, g2, g3⟩, _, _, hbel⟩ := four_done Hblk.out hW
    have HB := Lib.hid (hbel w.heap.size w ((((Below.refl _ w).alloc (Nat.le_refl _) _)).trans (Hb.out.mono (by simp))) (Nat.le_refl _))
    clear hW hbel
    (try simp only [Exit.inBlock, Exit.then])
    refine bodyPost_ret (by simp [results, Tryz.results93, go_sem, g0, g1, g2, g3]; try rfl) rfl ?_
    exact ⟨by rw [He.out]; rfl, HB.out⟩
  | true =>
    obtain ⟨m, hm, rfl⟩ := okNum_t hok
    have HE2 := Lib.hid (HE.out.trans (by rw [hm]))
    simp only at HE2
    clear hok hm
    by_cases h0 : u = 0
    · have He : Hid (parseUnit k s.data.toList = (zero, 40)) := Lib.hid (by rw [HE2.out, if_pos h0])
      subst h0
      go_wp2_with fail
      generalize hW : World.setCell (World.setCell (World.setCell (World.setCell w2 _ _) _ _) _ _) _ _ = W
      obtain ⟨⟨g0, g1, g2, g3⟩, _, _, hbel⟩ := four_done Hblk.out hW
      have HB := Lib.hid (hbel w.heap.size w ((((Below.refl _ w).alloc (Nat.le_refl _) _)).trans (Hb.out.mono (by simp))) (Nat.le_refl _))
      clear hW hbel
      (try simp only [Exit.inBlock, Exit.then])
      refine bodyPost_ret (by simp [results, Tryz.results93, go_sem, g0, g1, g2, g3]; try rfl) rfl ?_
      exact ⟨by rw [He.out]; rfl, HB.out⟩
    · have h0' : (u == 0) = false := by simp [h0]
      have hq : M.tdiv u = M / u := tdiv_ediv hM0
      have hqm : 0 ≤ M / u ∧ M / u ≤ M := ⟨Int.ediv_nonneg hM0 hu0, by
        have := Int.mul_le_mul_of_nonneg_left (show (1 : Int) ≤ u by omega) (Int.ediv_nonneg hM0 hu0)
        have := Int.ediv_mul_le M (b := u) h0
        omega⟩
      have Hmul : Hid ((m : Int) ≤ M / u → 0 ≤ (m : Int) * u ∧ (m : Int) * u ≤ M) := Lib.hid (fun h => ⟨Int.mul_nonneg (by omega) hu0, by
        have h2 := Int.mul_le_mul_of_nonneg_right h hu0
        have h3 := Int.ediv_mul_le M (b := u) h0
        omega⟩)
      generalize M / u = q at *
      obtain ⟨hq0, hqM⟩ := hqm
      by_cases hgt : q < m
      · have He : Hid (parseUnit k s.data.toList = (zero, 41)) := Lib.hid (by rw [HE2.out, if_neg h0, if_pos hgt])
        go_wp2_with fail
        refine (Hends.out _).mono ?_
        rintro e w3 ⟨rfl, rfl⟩
        go_wp2_with fail
        generalize hW : World.setCell (World.setCell (World.setCell (World.setCell w3 _ _) _ _) _ _) _ _ = W
        obtain ⟨⟨g0, g1, g2, g3⟩, _, _, hbel⟩ := four_done Hblk.out hW
        have HB := Lib.hid (hbel w.heap.size w ((((Below.refl _ w).alloc (Nat.le_refl _) _)).trans (Hb.out.mono (by simp))) (Nat.le_refl _))
        clear hW hbel
        (try simp only [Exit.inBlock, Exit.then])
        refine bodyPost_ret (by simp [results, Tryz.results93, go_sem, g0, g1, g2, g3]; try rfl) rfl ?_
        exact ⟨by rw [He.out]; rfl, HB.out⟩
      · have He : Hid (parseUnit k s.data.toList = (⟨k, m * u, ByteArray.empty, []⟩, 0)) := Lib.hid (by rw [HE2.out, if_neg h0, if_neg hgt])
        obtain ⟨hp0, hp1⟩ := Hmul.out (by omega)
        go_wp2_with fail
        refine (Hends.out _).mono ?_
        rintro e w3 ⟨rfl, rfl⟩
        go_wp2_with fail
        generalize hW : World.setCell (World.setCell (World.setCell (World.setCell w3 _ _) _ _) _ _) _ _ = W
        obtain ⟨⟨g0, g1, g2, g3⟩, _, _, hbel⟩ := four_done Hblk.out hW
        have HB := Lib.hid (hbel w.heap.size w ((((Below.refl _ w).alloc (Nat.le_refl _) _)).trans (Hb.out.mono (by simp))) (Nat.le_refl _))
        clear hW hbel
        (try simp only [Exit.inBlock, Exit.then])
        refine bodyPost_ret (by simp [results, Tryz.results93, go_sem, g0, g1, g2, g3]; try rfl) rfl ?_
        exact ⟨by rw [He.out]; rfl, HB.out⟩
end Go.Proofs.YtpfhhaonfbfheaaGreatDoor.va
