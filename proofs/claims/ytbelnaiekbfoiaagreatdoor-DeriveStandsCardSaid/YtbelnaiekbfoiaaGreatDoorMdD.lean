/- Laws and contracts on which the statement rests, part D: each text says what it proves, and its conditions. -/
import Derived.Test.YtbelnaiekbfoiaaGreatDoorMdC
import Derived.Laws.Small
import Derived.Test.YtbelnaiekbfoiaaGreatDoorShelf
/- value.parseNumber returns the plain function. Conditions: the listed variables hold what the program's text lays; the text is no longer than 2147483647 bytes. -/
namespace Go.Proofs.YtbelnaiekbfoiaaGreatDoor.va
open Go.ChangeShapes Go.WideShapes Go.ChangeAt Go.RowKit gl

theorem hasPrefix_45 (l : List UInt8) : Lib.hasPrefix l [45] = decide (l.head? = some 45) := by
  cases l with
  | nil => rfl
  | cons c r =>
    by_cases h : c = 45
    · subst h; rfl
    · have : ((45 : UInt8) == c) = false := by rw [beq_eq_false_iff_ne]; exact fun e => h e.symm
      simp [Lib.hasPrefix, List.isPrefixOf, h, this]
theorem cutp_45 (s : ByteArray) (w : World) : Calls Tryz.prog 177 #[.string s, .string ⟨#[45]⟩] w fun e w' => (∃ t : ByteArray, t.data.toList = (if s.data.toList.head? = some 45 then s.data.toList.tail else s.data.toList) ∧ e = .returned (.tuple #[.string t, .bool (decide (s.data.toList.head? = some 45))])) ∧ w' = w := by
  refine (Tryz.strings_CutPrefix s ⟨#[45]⟩ w).mono ?_
  rintro e w' ⟨rfl, rfl⟩
  refine ⟨⟨_, ?_, by rw [← hasPrefix_45]⟩, rfl⟩
  show Lib.trimPrefix s.data.toList [45] = _
  unfold Lib.trimPrefix
  rw [hasPrefix_45]
  by_cases h : s.data.toList.head? = some 45
  · simp [h]
  · simp [h]
theorem tdiv_ediv {a b : Int} (h : 0 ≤ a) : a.tdiv b = a / b := by rw [tdiv_eq_if, if_pos h]
theorem ends_2 (w : World) : Calls Tryz.prog 146 #[.int .i64 2] w fun e w' => e = .returned (.tuple #[.int .i64 (-4611686018427387904), .int .i64 4611686018427387904]) ∧ w' = w := ends_any 2 w
theorem ends_u (k : Int) (hk : k = 3 ∨ k = 4) (w : World) : Calls Tryz.prog 146 #[.int .i64 k] w fun e w' => e = .returned (.tuple #[.int .i64 0, .int .i64 (most k)]) ∧ w' = w := by
  have := ends_any k w
  rwa [show least k = 0 from by unfold least; rw [if_neg (by omega)]] at this
theorem okNum_t {o : Option Nat} {n : Int} (h : okNum o n true) : ∃ m : Nat, o = some m ∧ n = m := by
  obtain ⟨h1, h2⟩ := h
  cases o with
  | none => cases h1
  | some m => exact ⟨m, rfl, h2 m rfl⟩
theorem okNum_f {o : Option Nat} {n : Int} (h : okNum o n false) : o = none := by
  cases o with
  | none => rfl
  | some m => exact absurd h.1 (by simp)
theorem parseInt_eq (l : List UInt8) : parseInt l = match num (if l.head? = some 45 then l.tail else l) with
    | none => (zero, 40)
    | some n => if l.head? = some 45 ∧ n = 0 then (zero, 40) else if 4611686018427387904 < n then (zero, 41) else (⟨2, if l.head? = some 45 then -(n : Int) else n, ByteArray.empty, []⟩, 0) := rfl

set_option maxHeartbeats 1000000 in
set_option maxRecDepth 100000 in
theorem parseInt_any (s : ByteArray) (hs : s.size ≤ 2147483647) (w : World) (hV : Vlo w) :
    Calls Tryz.prog 123 #[.int .i64 2, .string s] w fun e w' => e = .returned (res (parseInt s.data.toList) (.slice none 0 0)) ∧ Below w.heap.size w w' := by
  have HV := Lib.hid hV
  clear hV
  have hc := fun W => cutp_45 s W
  have hE := parseInt_eq s.data.toList
  have hlen : (if s.data.toList.head? = some 45 then s.data.toList.tail else s.data.toList).length ≤ s.size := by split <;> simp
  have HL := Lib.hid hlen
  clear hlen
  obtain ⟨T, hT⟩ : ∃ T, (if s.data.toList.head? = some 45 then s.data.toList.tail else s.data.toList) = T := ⟨_, rfl⟩
  simp only [hT] at hc hE HL
  have HN := Lib.hid (fun (t : ByteArray) (ht : t.data.toList = T) (W : World) (hb : Below w.heap.size w W) => number_any t (by have := HL.out; rw [← ht] at this; simp at this; omega) W (HV.out.below hb (Nat.le_refl _)))
  by_cases hneg : s.data.toList.head? = some 45
  · rw [decide_eq_true hneg] at hc
    simp only [hneg, if_true, true_and] at hE
    have HE := Lib.hid hE
    clear hE hneg hT
    go_enter Tryz.func123, Tryz.ntmps123
    go_wp2_with fail
    refine (hc _).mono ?_
    rintro e w1 ⟨⟨t, ht, rfl⟩, rfl⟩
    have Ht := Lib.hid ht
    clear ht
    go_wp2_with fail
    refine (HN.out t Ht.out _ ((Below.refl _ w).alloc (Nat.le_refl _) _)).mono ?_
    rintro e w2 ⟨⟨n, b, rfl, hok, hn0, hn1⟩, hb2⟩
    have Hb := Lib.hid hb2
    rw [Ht.out] at hok
    clear hb2 hc
    have Hblk := Lib.hid ((new_block Hb.out).trans (heap_alloc_new w _))
    obtain ⟨⟨c0, c1, c2, c3⟩, f0, f1, f2, f3⟩ := res_cells Hb.out
    cases b with
    | false =>
      have He : Hid (parseInt s.data.toList = (zero, 40)) := Lib.hid (by rw [HE.out, okNum_f hok])
      clear hok
      go_wp2_with fail
      generalize hW : World.setCell (World.setCell (World.setCell (World.setCell w2 _ _) _ _) _ _) _ _ = W
      obtain ⟨⟨g0, g1, g2, g3⟩, _, _, hbel⟩ := four_done Hblk.out hW
      have HB := Lib.hid (hbel w.heap.size w ((((Below.refl _ w).alloc (Nat.le_refl _) _)).trans (Hb.out.mono (by simp))) (Nat.le_refl _))
      clear hW hbel
      (try simp only [Exit.inBlock, Exit.then])
      refine bodyPost_ret (by simp [results, Tryz.results123, go_sem, g0, g1, g2, g3]; try rfl) rfl ?_
      exact ⟨by rw [He.out]; rfl, HB.out⟩
    | true =>
      obtain ⟨m, hm, rfl⟩ := okNum_t hok
      have HE2 := Lib.hid (HE.out.trans (by rw [hm]))
      simp only at HE2
      clear hok hm
      by_cases h0 : m = 0
      · have He : Hid (parseInt s.data.toList = (zero, 40)) := Lib.hid (by rw [HE2.out, if_pos h0])
        subst h0
        go_wp2_with fail
        generalize hW : World.setCell (World.setCell (World.setCell (World.setCell w2 _ _) _ _) _ _) _ _ = W
        obtain ⟨⟨g0, g1, g2, g3⟩, _, _, hbel⟩ := four_done Hblk.out hW
        have HB := Lib.hid (hbel w.heap.size w ((((Below.refl _ w).alloc (Nat.le_refl _) _)).trans (Hb.out.mono (by simp))) (Nat.le_refl _))
        clear hW hbel
        (try simp only [Exit.inBlock, Exit.then])
        refine bodyPost_ret (by simp [results, Tryz.results123, go_sem, g0, g1, g2, g3]; try rfl) rfl ?_
        exact ⟨by rw [He.out]; rfl, HB.out⟩
      · have h0' : ((m : Int) == 0) = false := by simp; omega
        by_cases h62 : 4611686018427387904 < m
        · have He : Hid (parseInt s.data.toList = (zero, 41)) := Lib.hid (by rw [HE2.out, if_neg h0, if_pos h62])
          go_wp2_with fail
          refine (ends_2 _).mono ?_
          rintro e w3 ⟨rfl, rfl⟩
          go_wp2_with fail
          generalize hW : World.setCell (World.setCell (World.setCell (World.setCell w3 _ _) _ _) _ _) _ _ = W
          obtain ⟨⟨g0, g1, g2, g3⟩, _, _, hbel⟩ := four_done Hblk.out hW
          have HB := Lib.hid (hbel w.heap.size w ((((Below.refl _ w).alloc (Nat.le_refl _) _)).trans (Hb.out.mono (by simp))) (Nat.le_refl _))
          clear hW hbel
          (try simp only [Exit.inBlock, Exit.then])
          refine bodyPost_ret (by simp [results, Tryz.results123, go_sem, g0, g1, g2, g3]; try rfl) rfl ?_
          exact ⟨by rw [He.out]; rfl, HB.out⟩
        · have He : Hid (parseInt s.data.toList = (⟨2, -(m : Int), ByteArray.empty, []⟩, 0)) := Lib.hid (by rw [HE2.out, if_neg h0, if_neg h62])
          go_wp2_with fail
          refine (ends_2 _).mono ?_
          rintro e w3 ⟨rfl, rfl⟩
          go_wp2_with fail
          generalize hW : World.setCell (World.setCell (World.setCell (World.setCell w3 _ _) _ _) _ _) _ _ = W
          obtain ⟨⟨g0, g1, g2, g3⟩, _, _, hbel⟩ := four_done Hblk.out hW
          have HB := Lib.hid (hbel w.heap.size w ((((Below.refl _ w).alloc (Nat.le_refl _) _)).trans (Hb.out.mono (by simp))) (Nat.le_refl _))
          clear hW hbel
          (try simp only [Exit.inBlock, Exit.then])
          refine bodyPost_ret (by simp [results, Tryz.results123, go_sem, g0, g1, g2, g3]; try rfl) rfl ?_
          exact ⟨by rw [He.out]; rfl, HB.out⟩
  · rw [decide_eq_false hneg] at hc
    simp only [hneg, if_false, false_and] at hE
    have HE := Lib.hid hE
    have Hs : Hid (s.data.toList = T) := Lib.hid (by rw [← hT, if_neg hneg])
    clear hE hneg hT
    go_enter Tryz.func123, Tryz.ntmps123
    go_wp2_with fail
    refine (hc _).mono ?_
    rintro e w1 ⟨⟨t, ht, rfl⟩, rfl⟩
    have Ht := Lib.hid ht
    clear ht
    go_wp2_with fail
    refine (HN.out s Hs.out _ ((Below.refl _ w).alloc (Nat.le_refl _) _)).mono ?_
    rintro e w2 ⟨⟨n, b, rfl, hok, hn0, hn1⟩, hb2⟩
    have Hb := Lib.hid hb2
    rw [Hs.out] at hok
    clear hb2 hc
    have Hblk := Lib.hid ((new_block Hb.out).trans (heap_alloc_new w _))
    obtain ⟨⟨c0, c1, c2, c3⟩, f0, f1, f2, f3⟩ := res_cells Hb.out
    cases b with
    | false =>
      have He : Hid (parseInt s.data.toList = (zero, 40)) := Lib.hid (by rw [HE.out, okNum_f hok])
      clear hok
      go_wp2_with fail
      generalize hW : World.setCell (World.setCell (World.setCell (World.setCell w2 _ _) _ _) _ _) _ _ = W
      obtain ⟨⟨g0, g1, g2, g3⟩, _, _, hbel⟩ := four_done Hblk.out hW
      have HB := Lib.hid (hbel w.heap.size w ((((Below.refl _ w).alloc (Nat.le_refl _) _)).trans (Hb.out.mono (by simp))) (Nat.le_refl _))
      clear hW hbel
      (try simp only [Exit.inBlock, Exit.then])
      refine bodyPost_ret (by simp [results, Tryz.results123, go_sem, g0, g1, g2, g3]; try rfl) rfl ?_
      exact ⟨by rw [He.out]; rfl, HB.out⟩
    | true =>
      obtain ⟨m, hm, rfl⟩ := okNum_t hok
      have HE2 := Lib.hid (HE.out.trans (by rw [hm]))
      simp only at HE2
      clear hok hm
      by_cases h62 : 4611686018427387904 < m
      · have He : Hid (parseInt s.data.toList = (zero, 41)) := Lib.hid (by rw [HE2.out, if_pos h62])
        go_wp2_with fail
        refine (ends_2 _).mono ?_
        rintro e w3 ⟨rfl, rfl⟩
        go_wp2_with fail
        generalize hW : World.setCell (World.setCell (World.setCell (World.setCell w3 _ _) _ _) _ _) _ _ = W
        obtain ⟨⟨g0, g1, g2, g3⟩, _, _, hbel⟩ := four_done Hblk.out hW
        have HB := Lib.hid (hbel w.heap.size w ((((Below.refl _ w).alloc (Nat.le_refl _) _)).trans (Hb.out.mono (by simp))) (Nat.le_refl _))
        clear hW hbel
        (try simp only [Exit.inBlock, Exit.then])
        refine bodyPost_ret (by simp [results, Tryz.results123, go_sem, g0, g1, g2, g3]; try rfl) rfl ?_
        exact ⟨by rw [He.out]; rfl, HB.out⟩
      · have He : Hid (parseInt s.data.toList = (⟨2, (m : Int), ByteArray.empty, []⟩, 0)) := Lib.hid (by rw [HE2.out, if_neg h62])
        go_wp2_with fail
        refine (ends_2 _).mono ?_
        rintro e w3 ⟨rfl, rfl⟩
        go_wp2_with fail
        generalize hW : World.setCell (World.setCell (World.setCell (World.setCell w3 _ _) _ _) _ _) _ _ = W
        obtain ⟨⟨g0, g1, g2, g3⟩, _, _, hbel⟩ := four_done Hblk.out hW
        have HB := Lib.hid (hbel w.heap.size w ((((Below.refl _ w).alloc (Nat.le_refl _) _)).trans (Hb.out.mono (by simp))) (Nat.le_refl _))
        clear hW hbel
        (try simp only [Exit.inBlock, Exit.then])
        refine bodyPost_ret (by simp [results, Tryz.results123, go_sem, g0, g1, g2, g3]; try rfl) rfl ?_
        exact ⟨by rw [He.out]; rfl, HB.out⟩

set_option maxHeartbeats 1000000 in
set_option maxRecDepth 100000 in
theorem parseUnit_any (k : Int) (hk : k = 3 ∨ k = 4) (s : ByteArray) (hs : s.size ≤ 2147483647) (w : World) (hV : Vlo w) :
    Calls Tryz.prog 123 #[.int .i64 k, .string s] w fun e w' => e = .returned (res (parseUnit k s.data.toList) (.slice none 0 0)) ∧ Below w.heap.size w w' := by
  have HV := Lib.hid hV
  clear hV
  have hk2 : (k == 2) = false := by simp; omega
  have Hc := Lib.hid (fun (W : World) (hb : Below w.heap.size w W) => cut_any k s hs W (HV.out.below hb (Nat.le_refl _)))
  have hU : 0 ≤ tail k s.data.toList ∧ tail k s.data.toList ≤ 1073741824 := by
    unfold tail
    split
    · omega
    · exact unit_nonneg _ _
  have hM : 0 ≤ most k ∧ most k ≤ 1125899906842624 := by rcases hk with rfl | rfl <;> decide
  have Hends := Lib.hid (ends_u k hk)
  have HE : Hid (parseUnit k s.data.toList = match num (s.data.toList.take (digs s.data.toList)) with
    | none => (zero, 40)
    | some n => if tail k s.data.toList = 0 then (zero, 40) else if most k / tail k s.data.toList < n then (zero, 41) else (⟨k, n * tail k s.data.toList, ByteArray.empty, []⟩, 0)) := Lib.hid rfl
  have HL : Hid ((s.data.toList.take (digs s.data.toList)).length ≤ s.size) := Lib.hid (by simp; omega)
  generalize tail k s.data.toList = u at *
  generalize most k = M at *
  generalize s.data.toList.take (digs s.data.toList) = T at *
  have HN := Lib.hid (fun (t : ByteArray) (ht : t.data.toList = T) (W : World) (hb : Below w.heap.size w W) => number_any t (by have := HL.out; rw [← ht] at this; simp at this; omega) W (HV.out.below hb (Nat.le_refl _)))
  have Hk := Lib.hid hk
  obtain ⟨hu0, hu1⟩ := hU
  obtain ⟨hM0, hM1⟩ := hM
  clear hk
  go_enter Tryz.func123, Tryz.ntmps123
  go_wp2_with fail
  refine (Hc.out _ ((Below.refl _ w).alloc (Nat.le_refl _) _)).mono ?_
  rintro e w1 ⟨⟨t, ht, rfl⟩, hb1⟩
  have Ht := Lib.hid ht
  have Hb1 := Lib.hid hb1
  have hsz1 := hb1.size
  simp at hsz1
  clear ht hb1
  go_wp2_with fail
  refine (HN.out t Ht.out _ (((Below.refl _ w).alloc (Nat.le_refl _) _).trans (Hb1.out.mono (by simp)))).mono ?_
  rintro e w2 ⟨⟨n, b, rfl, hok, hn0, hn1⟩, hb2⟩
  have Hb := Lib.hid (Hb1.out.trans (hb2.mono Hb1.out.size))
  rw [Ht.out] at hok
  clear hb2
  have Hblk := Lib.hid ((new_block Hb.out).trans (heap_alloc_new w _))
  obtain ⟨⟨c0, c1, c2, c3⟩, f0, f1, f2, f3⟩ := res_cells Hb.out
  cases b with
  | false =>
    have He : Hid (parseUnit k s.data.toList = (zero, 40)) := Lib.hid (by rw [HE.out, okNum_f hok])
    clear hok
    go_wp2_with fail
    generalize hW : World.setCell (World.setCell (World.setCell (World.setCell w2 _ _) _ _) _ _) _ _ = W
    obtain ⟨⟨g0, g1, g2, g3⟩, _, _, hbel⟩ := four_done Hblk.out hW
    have HB := Lib.hid (hbel w.heap.size w ((((Below.refl _ w).alloc (Nat.le_refl _) _)).trans (Hb.out.mono (by simp))) (Nat.le_refl _))
    clear hW hbel
    (try simp only [Exit.inBlock, Exit.then])
    refine bodyPost_ret (by simp [results, Tryz.results123, go_sem, g0, g1, g2, g3]; try rfl) rfl ?_
    exact ⟨by rw [He.out]; rfl, HB.out⟩
  | true =>
    obtain ⟨m, hm, rfl⟩ := okNum_t hok
    have HE2 := Lib.hid (HE.out.trans (by rw [hm]))
    simp only at HE2
    clear hok hm
    by_cases h0 : u = 0
    · have He : Hid (parseUnit k s.data.toList = (zero, 40)) := Lib.hid (by rw [HE2.out, if_pos h0])
      subst h0
      go_wp2_with fail
      generalize hW : World.setCell (World.setCell (World.setCell (World.setCell w2 _ _) _ _) _ _) _ _ = W
      obtain ⟨⟨g0, g1, g2, g3⟩, _, _, hbel⟩ := four_done Hblk.out hW
      have HB := Lib.hid (hbel w.heap.size w ((((Below.refl _ w).alloc (Nat.le_refl _) _)).trans (Hb.out.mono (by simp))) (Nat.le_refl _))
      clear hW hbel
      (try simp only [Exit.inBlock, Exit.then])
      refine bodyPost_ret (by simp [results, Tryz.results123, go_sem, g0, g1, g2, g3]; try rfl) rfl ?_
      exact ⟨by rw [He.out]; rfl, HB.out⟩
    · have h0' : (u == 0) = false := by simp [h0]
      have hq : M.tdiv u = M / u := tdiv_ediv hM0
      have hqm : 0 ≤ M / u ∧ M / u ≤ M := ⟨Int.ediv_nonneg hM0 hu0, by
        have := Int.mul_le_mul_of_nonneg_left (show (1 : Int) ≤ u by omega) (Int.ediv_nonneg hM0 hu0)
        have := Int.ediv_mul_le M (b := u) h0
        omega⟩
      have Hmul : Hid ((m : Int) ≤ M / u → 0 ≤ (m : Int) * u ∧ (m : Int) * u ≤ M) := Lib.hid (fun h => ⟨Int.mul_nonneg (by omega) hu0, by
        have h2 := Int.mul_le_mul_of_nonneg_right h hu0
        have h3 := Int.ediv_mul_le M (b := u) h0
        omega⟩)
      generalize M / u = q at *
      obtain ⟨hq0, hqM⟩ := hqm
      by_cases hgt : q < m
      · have He : Hid (parseUnit k s.data.toList = (zero, 41)) := Lib.hid (by rw [HE2.out, if_neg h0, if_pos hgt])
        go_wp2_with fail
        refine (Hends.out _).mono ?_
        rintro e w3 ⟨rfl, rfl⟩
        go_wp2_with fail
        generalize hW : World.setCell (World.setCell (World.setCell (World.setCell w3 _ _) _ _) _ _) _ _ = W
        obtain ⟨⟨g0, g1, g2, g3⟩, _, _, hbel⟩ := four_done Hblk.out hW
        have HB := Lib.hid (hbel w.heap.size w ((((Below.refl _ w).alloc (Nat.le_refl _) _)).trans (Hb.out.mono (by simp))) (Nat.le_refl _))
        clear hW hbel
        (try simp only [Exit.inBlock, Exit.then])
        refine bodyPost_ret (by simp [results, Tryz.results123, go_sem, g0, g1, g2, g3]; try rfl) rfl ?_
        exact ⟨by rw [He.out]; rfl, HB.out⟩
      · have He : Hid (parseUnit k s.data.toList = (⟨k, m * u, ByteArray.empty, []⟩, 0)) := Lib.hid (by rw [HE2.out, if_neg h0, if_neg hgt])
        obtain ⟨hp0, hp1⟩ := Hmul.out (by omega)
        go_wp2_with fail
        refine (Hends.out _).mono ?_
        rintro e w3 ⟨rfl, rfl⟩
        go_wp2_with fail
        generalize hW : World.setCell (World.setCell (World.setCell (World.setCell w3 _ _) _ _) _ _) _ _ = W
        obtain ⟨⟨g0, g1, g2, g3⟩, _, _, hbel⟩ := four_done Hblk.out hW
        have HB := Lib.hid (hbel w.heap.size w ((((Below.refl _ w).alloc (Nat.le_refl _) _)).trans (Hb.out.mono (by simp))) (Nat.le_refl _))
        clear hW hbel
        (try simp only [Exit.inBlock, Exit.then])
        refine bodyPost_ret (by simp [results, Tryz.results123, go_sem, g0, g1, g2, g3]; try rfl) rfl ?_
        exact ⟨by rw [He.out]; rfl, HB.out⟩
end Go.Proofs.YtbelnaiekbfoiaaGreatDoor.va
/- slices.ContainsFunc at the two closures over glyph.IsWord; slices.Clip of strings; strings.Split and Join as lists. Conditions: the listed variables hold what the program's text lays; the texts are no longer than 2147483647 bytes. -/
namespace Go.Proofs.YtbelnaiekbfoiaaGreatDoor.va
open Go.ChangeShapes Go.WideShapes Go.ChangeAt Go.RowKit gl

def allW (xs : List ByteArray) : Bool := xs.all fun x => wordL x.data.toList
/-- A function that says which words are none. -/
def NotW (g : Nat) : Prop := ∀ (x : ByteArray) (W : World), x.size ≤ 2147483647 → Vlo W → Calls Tryz.prog g #[.string x] W fun e w' => e = .returned (.bool (!wordL x.data.toList)) ∧ Below W.heap.size W w'
theorem notW_parse : NotW 180 := by
  intro x W hx hV
  have hw := IsWord_any x hx W hV.glo
  clear hV
  generalize wordL x.data.toList = b at *
  go_enter Tryz.func180, Tryz.ntmps180
  go_wp2_with fail
  refine hw.mono ?_
  rintro e w1 ⟨rfl, hb⟩
  go_wp2_with fail
  go_ret
  exact ⟨rfl, hb⟩
theorem notW_right : NotW 149 := by
  intro x W hx hV
  have hw := IsWord_any x hx W hV.glo
  clear hV
  generalize wordL x.data.toList = b at *
  go_enter Tryz.func149, Tryz.ntmps149
  go_wp2_with fail
  refine hw.mono ?_
  rintro e w1 ⟨rfl, hb⟩
  go_wp2_with fail
  go_ret
  exact ⟨rfl, hb⟩

def goodW (xs : List ByteArray) (k : Nat) : Prop := ∀ (j : Nat) x, j < k → xs[j]? = some x → wordL x.data.toList = true
theorem goodW_succ {xs : List ByteArray} {k : Nat} {x : ByteArray} (h : goodW xs k) (hx : xs[k]? = some x) (hp : wordL x.data.toList = true) : goodW xs (k + 1) := by
  intro j y hj hy
  rcases Nat.lt_or_ge j k with h1 | h1
  · exact h j y h1 hy
  · obtain rfl : j = k := by omega
    rw [hx] at hy
    obtain rfl := Option.some.inj hy
    exact hp
theorem allW_good {xs : List ByteArray} (h : goodW xs xs.length) : allW xs = true := by
  unfold allW
  rw [List.all_eq_true]
  intro x hx
  obtain ⟨j, hj⟩ := List.mem_iff_getElem?.1 hx
  exact h j x (lt_of_get hj) hj
theorem allW_bad {xs : List ByteArray} {k : Nat} {x : ByteArray} (hx : xs[k]? = some x) (hp : wordL x.data.toList = false) : allW xs = false := by
  unfold allW
  rw [List.all_eq_false]
  exact ⟨x, List.mem_of_getElem? hx, by simp [hp]⟩
def IdxOut (xs : List ByteArray) (e : Ending) : Prop := ∃ r : Int, e = .returned (.int .i64 r) ∧ ((allW xs = true ∧ r < 0) ∨ (allW xs = false ∧ 0 ≤ r))

set_option maxHeartbeats 1000000 in
theorem idxW_any (g : Nat) (eg : ∀ args w, (callFunc g args).run Tryz.prog w = .ok (.enter g args) w) (hg : NotW g) (v : Value) (xs : List ByteArray) (hx : ∀ x ∈ xs, x.size ≤ 2147483647) (hl : xs.length ≤ 4294967295) (w : World) (hV : Vlo w) (hS : Strs w v xs) :
    Calls Tryz.prog 190 #[v, .func (.func g) #[] #[]] w fun e w' => IdxOut xs e ∧ Below w.heap.size w w' := by
  have HV := Lib.hid hV
  clear hV
  obtain ⟨p, c, rfl, hc, hat⟩ := hS
  have Hg := Lib.hid hg
  clear hg
  have Hxs := Lib.hid hx
  clear hx
  have Hat := Lib.hid hat
  clear hat
  obtain ⟨n, hn⟩ : ∃ n, xs.length = n := ⟨_, rfl⟩
  have Hn := Lib.hid hn
  rw [hn] at hl hc ⊢
  clear hn
  go_enter Tryz.func190, Tryz.ntmps190
  go_wp2_with fail
  go_loopw [8] (fun i wr => ∃ k : Nat, k ≤ n ∧ i = .int .i64 k ∧ goodW xs k ∧ Below w.heap.size w wr) (fun i _ => n - (intOf i).toNat)
  case atStart => exact ⟨0, by omega, rfl, fun j x h => by omega, Below.refl _ _⟩
  case round =>
    obtain ⟨k, hk, rfl, hgo, hb⟩ := hrel
    have Hgo := Lib.hid hgo
    have Hb := Lib.hid hb
    have hsz := hb.size
    clear hgo hb
    by_cases hlt : k < n
    · obtain ⟨x, hx⟩ : ∃ x, xs[k]? = some x := ⟨xs[k]'(by rw [Hn.out]; exact hlt), List.getElem?_eq_getElem _⟩
      have Hx := Lib.hid hx
      rcases Hat.out with hnil | ⟨b, o, rfl, hblt, hat⟩
      · rw [hnil] at hx; cases hx
      · have hcell : wr.cell? ⟨b, o + k, none⟩ = some (.string x) := (Hb.out.cell (p := ⟨b, o + k, none⟩) hblt).trans (hat k x hx)
        have HW := Lib.hid (Hg.out x wr (Hxs.out x (List.mem_of_getElem? hx)) (HV.out.below Hb.out (Nat.le_refl _)))
        clear hat hx
        cases hw : wordL x.data.toList with
        | true =>
          rw [hw] at HW
          have Hw := Lib.hid hw
          clear hw
          go_wp2_with (go_at_fn g; refine HW.out.mono ?_; rintro e w2 ⟨rfl, hb2⟩)
          go_roundw
          case rel => exact ⟨k + 1, by omega, by go_num, goodW_succ Hgo.out Hx.out Hw.out, Hb.out.trans (hb2.mono hsz)⟩
          case measure => simp [intOf]; omega
        | false =>
          rw [hw] at HW
          have Hw := Lib.hid hw
          clear hw
          go_wp2_with (go_at_fn g; refine HW.out.mono ?_; rintro e w2 ⟨rfl, hb2⟩)
          go_ret
          exact ⟨⟨_, rfl, .inr ⟨allW_bad Hx.out Hw.out, by omega⟩⟩, Hb.out.trans (hb2.mono hsz)⟩
    · obtain rfl : k = n := by omega
      go_wp2_with fail
      go_ret
      exact ⟨⟨_, rfl, .inl ⟨allW_good (by rw [Hn.out]; exact Hgo.out), by omega⟩⟩, Hb.out⟩

theorem containsW_any (g : Nat) (eg : ∀ args w, (callFunc g args).run Tryz.prog w = .ok (.enter g args) w) (hg : NotW g) (v : Value) (xs : List ByteArray) (hx : ∀ x ∈ xs, x.size ≤ 2147483647) (hl : xs.length ≤ 4294967295) (w : World) (hV : Vlo w) (hS : Strs w v xs) :
    Calls Tryz.prog 148 #[v, .func (.func g) #[] #[]] w fun e w' => e = .returned (.bool (!allW xs)) ∧ Below w.heap.size w w' := by
  have hi := idxW_any g eg hg v xs hx hl w hV hS
  clear hV hg hx eg hl hS
  unfold IdxOut at hi
  go_enter Tryz.func148, Tryz.ntmps148
  go_wp2_with fail
  refine hi.mono ?_
  rintro e w1 ⟨⟨r, rfl, ⟨ha, hr⟩ | ⟨ha, hr⟩⟩, hb⟩
  · go_wp2_with fail
    go_ret
    exact ⟨ret_bool (by rw [ha]; first | rfl | exact (decide_eq_false (by omega)).symm), hb⟩
  · go_wp2_with fail
    go_ret
    exact ⟨ret_bool (by rw [ha]; first | rfl | exact (decide_eq_true (by omega)).symm), hb⟩

theorem clip_any (p : Option Addr) (n c : Nat) (hn : n ≤ c) (w : World) : Calls Tryz.prog 33 #[.slice p n c] w fun e w' => e = .returned (.slice p n n) ∧ w = w' := by
  cases p with
  | none =>
    go_enter Tryz.func33, Tryz.ntmps33
    go_wp2_with fail
    go_ret
    exact ⟨rfl, rfl⟩
  | some a =>
    go_enter Tryz.func33, Tryz.ntmps33
    go_wp2_with fail
    go_ret
    exact ⟨rfl, rfl⟩
theorem map_mk {ps : List ByteArray} {L : List (List UInt8)} (h : ps.map (·.data.toList) = L) : ps = L.map B := by rw [← h, map_B]
theorem ret_sl {p : Option Addr} {a b c d : Nat} (h : a = b) (h2 : c = d) : Ending.returned (.slice p a c) = .returned (.slice p b d) := by rw [h, h2]
theorem splitW_any (s : ByteArray) (hs : s.size ≤ 2147483647) (w : World) (hV : Vlo w) :
    Calls Tryz.prog 128 #[.string s, .string ⟨#[44]⟩] w fun e w' => (e = .returned (.slice (some ⟨w.heap.size, 0, none⟩) (pcs 44 s.data.toList).length (pcs 44 s.data.toList).length) ∧ w'.heap[w.heap.size]? = some (.cells (((pcs 44 s.data.toList).map B).map Value.string).toArray 9 (0, 0))) ∧ w.heap.size < w'.heap.size ∧ Below w.heap.size w w' := by
  obtain ⟨m, hm⟩ := hV.glo.maxLen
  refine (Tryz.strings_Split s ⟨#[44]⟩ m w (by omega) hm (by simp [ByteArray.size])).mono ?_
  rintro e w' ⟨he, rfl⟩
  have hl : (Lib.splitB ⟨#[44]⟩ 0 (Lib.countB s ⟨#[44]⟩) s).length = Lib.countB s ⟨#[44]⟩ + 1 := Lib.splitB_all _ (by simp [ByteArray.size]) 0 _ s rfl
  have hp := map_mk (splitB_pcs 44 s)
  refine ⟨⟨?_, ?_⟩, by simp, (Below.refl _ w).alloc (Nat.le_refl _) _⟩
  · rw [he]
    exact ret_sl (by rw [← countB_pcs]) (by rw [← countB_pcs])
  · rw [heap_alloc_new, ← hp]
theorem strs_row {w : World} {b : Nat} {xs : List ByteArray} {t : TypeId} {f : Nat × Nat} (h : w.heap[b]? = some (.cells (xs.map Value.string).toArray t f)) (hb : b < w.heap.size) (c : Nat) (hc : xs.length ≤ c) : Strs w (.slice (some ⟨b, 0, none⟩) xs.length c) xs :=
  ⟨_, c, rfl, hc, .inr ⟨b, 0, rfl, hb, fun j x hj => by
    rw [cell_of_row w b _ _ _ _ h, Nat.zero_add]
    simp [hj]⟩⟩
/-- What Join gives. -/
theorem joinW_any (v : Value) (xs : List ByteArray) (w : World) (hS : Strs w v xs) (hl : xs.length ≤ 2147483647) (hj : (joined xs).length ≤ 140737488355328) :
    Calls Tryz.prog 101 #[v, .string ⟨#[44]⟩] w fun e w' => e = .returned (.string (B (joined xs))) ∧ Below w.heap.size w w' := by
  obtain ⟨p, c, rfl, hc, h⟩ := hS
  rcases h with rfl | ⟨b, o, rfl, hlt, hat⟩
  · refine (Tryz.strings_Join_none p c ⟨#[44]⟩ w).mono ?_
    rintro e w' ⟨rfl, rfl⟩
    exact ⟨rfl, Below.refl _ _⟩
  · exact Tryz.strings_Join b o c xs ⟨#[44]⟩ w hat hlt (by omega) hc hj
end Go.Proofs.YtbelnaiekbfoiaaGreatDoor.va
/- value.parseWords and Parse return plain functions. Conditions: the listed variables hold what the program's text lays; the text is no longer than 2147483647 bytes. -/
namespace Go.Proofs.YtbelnaiekbfoiaaGreatDoor.va
open Go.ChangeShapes Go.WideShapes Go.ChangeAt Go.RowKit gl

/-- A new slice of strings, without room behind it. -/
def Fresh (w w' : World) (sl : Value) (xs : List ByteArray) : Prop :=
  (xs = [] ∧ sl = .slice none 0 0) ∨ ∃ g, sl = .slice (some ⟨g, 0, none⟩) xs.length xs.length ∧ w.heap.size ≤ g ∧ w'.heap[g]? = some (.cells (xs.map Value.string).toArray 9 (0, 0))
theorem Fresh.shape {w w' : World} {sl : Value} {xs : List ByteArray} (h : Fresh w w' sl xs) : ∃ p n c, sl = .slice p n c := by
  rcases h with ⟨_, rfl⟩ | ⟨g, rfl, _⟩
  · exact ⟨_, _, _, rfl⟩
  · exact ⟨_, _, _, rfl⟩
theorem Fresh.strs {w w' : World} {sl : Value} {xs : List ByteArray} (h : Fresh w w' sl xs) : Strs w' sl xs := by
  rcases h with ⟨rfl, rfl⟩ | ⟨g, rfl, _, h⟩
  · exact ⟨none, 0, rfl, Nat.le_refl _, .inl rfl⟩
  · exact strs_row h (lt_of_block h) _ (Nat.le_refl _)
theorem Fresh.later {w w' w'' : World} {sl : Value} {xs : List ByteArray} (h : Fresh w w' sl xs) (hb : Below w'.heap.size w' w'') : Fresh w w'' sl xs := by
  rcases h with h | ⟨g, h1, h2, h⟩
  · exact .inl h
  · exact .inr ⟨g, h1, h2, (hb.block _ (lt_of_block h)).trans h⟩
theorem Fresh.from {w0 w w' : World} {sl : Value} {xs : List ByteArray} (h : Fresh w w' sl xs) (hs : w0.heap.size ≤ w.heap.size) : Fresh w0 w' sl xs := by
  rcases h with h | ⟨g, h1, h2, h⟩
  · exact .inl h
  · exact .inr ⟨g, h1, by omega, h⟩
def ParseOut (r : Val × Int) (w : World) (e : Ending) (w' : World) : Prop := ∃ sl, e = .returned (res r sl) ∧ Fresh w w' sl r.1.words
theorem sl_eq {p : Option Addr} {a b : Nat} (h : a = b) : Value.slice p a a = .slice p b b := by rw [h]
/-- The two structs that parseWords lays. -/
theorem two_blocks {w w1 : World} {o o' : Obj} (hb : Below ((w.alloc o).alloc o').heap.size ((w.alloc o).alloc o') w1) : w1.heap[w.heap.size]? = (w.alloc o).heap[w.heap.size]? ∧ w1.heap[w.heap.size + 1]? = some o' := by
  refine ⟨(hb.block _ (by simp; omega)).trans (heap_al (by rw [heap_alloc_new]) o' |>.trans (heap_alloc_new w o).symm), ?_⟩
  have := hb.block (w.heap.size + 1) (by simp)
  rw [this]
  have h2 := heap_alloc_new (w.alloc o) o'
  simpa using h2

set_option maxHeartbeats 1000000 in
set_option maxRecDepth 100000 in
theorem parseWords_any (s : ByteArray) (hs : s.size ≤ 2147483647) (w : World) (hV : Vlo w) :
    Calls Tryz.prog 125 #[.string s] w fun e w' => ParseOut (parseWords wordL s.data.toList) w e w' ∧ Below w.heap.size w w' := by
  have HV := Lib.hid hV
  clear hV
  have hlen : s.data.toList.length = s.size := by simp
  by_cases h0 : s.data.toList = []
  · have He : Hid (parseWords wordL s.data.toList = (⟨6, 0, ByteArray.empty, []⟩, 0)) := Lib.hid (by unfold parseWords; rw [if_pos h0])
    have hemp : s.toList.isEmpty = true := by rw [ByteArray.toList_eq, h0]; rfl
    clear h0
    go_enter Tryz.func125, Tryz.ntmps125
    go_wp2_with fail
    go_returns
    exact ⟨⟨_, by rw [He.out]; rfl, .inl ⟨by rw [He.out], rfl⟩⟩, by go_grown⟩
  · have HE : Hid (parseWords wordL s.data.toList = if (pcs 44 s.data.toList).all wordL then (if 200 < s.size ∨ 16 < (pcs 44 s.data.toList).length then (zero, 42) else (⟨6, 0, ByteArray.empty, (pcs 44 s.data.toList).map B⟩, 0)) else (zero, 40)) := Lib.hid (by unfold parseWords; rw [if_neg h0, hlen])
    have hemp : s.toList.isEmpty = false := by
      rw [ByteArray.toList_eq]
      cases hl : s.data.toList with
      | nil => exact absurd hl h0
      | cons => rfl
    clear h0
    have hpl := pcs_length 44 s.data.toList
    have hcl := List.count_le_length (a := (44 : UInt8)) (l := s.data.toList)
    have HM : Hid (∀ x ∈ (pcs 44 s.data.toList).map B, x.size ≤ 2147483647) := Lib.hid (by
      intro x hx
      obtain ⟨l, hl, rfl⟩ := List.mem_map.1 hx
      have := mem_pcs_le 44 _ _ hl
      show l.toArray.size ≤ _
      simp
      omega)
    have HA : Hid (allW ((pcs 44 s.data.toList).map B) = (pcs 44 s.data.toList).all wordL) := Lib.hid (by
      unfold allW
      rw [List.all_map]
      congr 1)
    have HSp := Lib.hid (fun (W : World) (hb : Below w.heap.size w W) => splitW_any s hs W (HV.out.below hb (Nat.le_refl _)))
    have hps0 : (pcs 44 s.data.toList).length ≤ 2147483648 := by omega
    generalize pcs 44 s.data.toList = ps at *
    obtain ⟨n, hn⟩ : ∃ n, ps.length = n := ⟨_, rfl⟩
    have Hmap : Hid ((ps.map B).length = n) := Lib.hid (by rw [List.length_map, hn])
    rw [hn] at HSp HE hps0
    clear hpl hcl
    cases hall : ps.all wordL with
    | false =>
      have He : Hid (parseWords wordL s.data.toList = (zero, 40)) := Lib.hid (by rw [HE.out, hall]; rfl)
      have HA2 : Hid (allW (ps.map B) = false) := Lib.hid (HA.out.trans hall)
      clear hall hn
      go_enter Tryz.func125, Tryz.ntmps125
      go_wp2_with fail
      refine (HSp.out _ (((Below.refl _ w).alloc (Nat.le_refl _) _).alloc (by simp) _)).mono ?_
      rintro e w1 ⟨⟨rfl, hrow⟩, hlt1, hb1⟩
      simp only [World.size_alloc] at hrow
      have Hrow := Lib.hid hrow
      have Hb1 := Lib.hid hb1
      have hsz1 := hb1.size
      simp at hsz1 hlt1
      have Hbw1 : Hid (Below w.heap.size w w1) := Lib.hid ((((Below.refl _ w).alloc (Nat.le_refl _) _).alloc (by simp) _).trans (hb1.mono (by simp; omega)))
      have Hst : Hid (Strs w1 (.slice (some ⟨w.heap.size + 1 + 1, 0, none⟩) n n) (ps.map B)) := Lib.hid (by
        have := strs_row Hrow.out (by omega) n (by rw [Hmap.out]; exact Nat.le_refl _)
        rwa [Hmap.out] at this)
      clear hrow hb1
      go_wp2_with fail
      have hcon := containsW_any 180 (enters_of Tryz.func180 (by kernel_rfl) rfl) notW_parse _ (ps.map B) HM.out (by rw [Hmap.out]; omega) w1 (HV.out.below Hbw1.out (Nat.le_refl _)) Hst.out
      rw [HA2.out] at hcon
      refine hcon.mono ?_
      rintro e w2 ⟨rfl, hb2⟩
      have Hb2 := Lib.hid hb2
      have hsz2 := hb2.size
      obtain ⟨hB0, hB1⟩ := two_blocks (Hb1.out.trans (hb2.mono Hb1.out.size))
      rw [heap_alloc_new] at hB0
      have Hblk := Lib.hid hB0
      have Hv := Lib.hid hB1
      have Hbw2 : Hid (Below w.heap.size w w2) := Lib.hid (Hbw1.out.trans (hb2.mono (by omega)))
      have hc := fun j => cell_of_row w2 w.heap.size j _ _ _ hB0
      have hf := fun j => frozen_of_row w2 w.heap.size j _ _ hB0
      have hd := fun j => cell_of_row w2 (w.heap.size + 1) j _ _ _ hB1
      have hg := fun j => frozen_of_row w2 (w.heap.size + 1) j _ _ hB1
      have c0 := hc 0; have c1 := hc 1; have c2 := hc 2; have c3 := hc 3
      have f0 := hf 0; have f1 := hf 1; have f2 := hf 2; have f3 := hf 3
      have d0 := hd 0; have d1 := hd 1; have d2 := hd 2; have d3 := hd 3
      have k0 := hg 0; have k1 := hg 1; have k2 := hg 2; have k3 := hg 3
      simp only [List.getElem?_toArray, List.getElem?_cons_succ, List.getElem?_cons_zero] at c0 c1 c2 c3 d0 d1 d2 d3
      clear hc hf hd hg hB0 hB1 hb2 hcon
      go_wp2_with fail
      generalize hW : World.setCell (World.setCell (World.setCell (World.setCell w2 _ _) _ _) _ _) _ _ = W
      obtain ⟨⟨g0, g1, g2, g3⟩, hsW, hoth, hbel⟩ := four_done Hblk.out hW
      have HB := Lib.hid (hbel w.heap.size w Hbw2.out (Nat.le_refl _))
      have HO := Lib.hid hoth
      clear hW hbel hoth
      (try simp only [Exit.inBlock, Exit.then])
      refine bodyPost_ret (by simp [results, Tryz.results125, go_sem, g0, g1, g2, g3]; try rfl) rfl ?_
      exact ⟨⟨_, by rw [He.out]; rfl, .inl ⟨by rw [He.out]; rfl, rfl⟩⟩, HB.out⟩
    | true =>
      have HE2 := Lib.hid (HE.out.trans (by rw [hall, if_pos rfl]))
      have HA2 : Hid (allW (ps.map B) = true) := Lib.hid (HA.out.trans hall)
      clear hall hn
      go_enter Tryz.func125, Tryz.ntmps125
      go_wp2_with fail
      refine (HSp.out _ (((Below.refl _ w).alloc (Nat.le_refl _) _).alloc (by simp) _)).mono ?_
      rintro e w1 ⟨⟨rfl, hrow⟩, hlt1, hb1⟩
      simp only [World.size_alloc] at hrow
      have Hrow := Lib.hid hrow
      have Hb1 := Lib.hid hb1
      have hsz1 := hb1.size
      simp at hsz1 hlt1
      have Hbw1 : Hid (Below w.heap.size w w1) := Lib.hid ((((Below.refl _ w).alloc (Nat.le_refl _) _).alloc (by simp) _).trans (hb1.mono (by simp; omega)))
      have Hst : Hid (Strs w1 (.slice (some ⟨w.heap.size + 1 + 1, 0, none⟩) n n) (ps.map B)) := Lib.hid (by
        have := strs_row Hrow.out (by omega) n (by rw [Hmap.out]; exact Nat.le_refl _)
        rwa [Hmap.out] at this)
      clear hrow hb1
      go_wp2_with fail
      have hcon := containsW_any 180 (enters_of Tryz.func180 (by kernel_rfl) rfl) notW_parse _ (ps.map B) HM.out (by rw [Hmap.out]; omega) w1 (HV.out.below Hbw1.out (Nat.le_refl _)) Hst.out
      rw [HA2.out] at hcon
      refine hcon.mono ?_
      rintro e w2 ⟨rfl, hb2⟩
      have Hb2 := Lib.hid hb2
      have hsz2 := hb2.size
      obtain ⟨hB0, hB1⟩ := two_blocks (Hb1.out.trans (hb2.mono Hb1.out.size))
      rw [heap_alloc_new] at hB0
      have Hblk := Lib.hid hB0
      have Hv := Lib.hid hB1
      have Hbw2 : Hid (Below w.heap.size w w2) := Lib.hid (Hbw1.out.trans (hb2.mono (by omega)))
      have hc := fun j => cell_of_row w2 w.heap.size j _ _ _ hB0
      have hf := fun j => frozen_of_row w2 w.heap.size j _ _ hB0
      have hd := fun j => cell_of_row w2 (w.heap.size + 1) j _ _ _ hB1
      have hg := fun j => frozen_of_row w2 (w.heap.size + 1) j _ _ hB1
      have c0 := hc 0; have c1 := hc 1; have c2 := hc 2; have c3 := hc 3
      have f0 := hf 0; have f1 := hf 1; have f2 := hf 2; have f3 := hf 3
      have d0 := hd 0; have d1 := hd 1; have d2 := hd 2; have d3 := hd 3
      have k0 := hg 0; have k1 := hg 1; have k2 := hg 2; have k3 := hg 3
      simp only [List.getElem?_toArray, List.getElem?_cons_succ, List.getElem?_cons_zero] at c0 c1 c2 c3 d0 d1 d2 d3
      clear hc hf hd hg hB0 hB1 hb2 hcon
      by_cases h2 : 200 < s.size
      · have He : Hid (parseWords wordL s.data.toList = (zero, 42)) := Lib.hid (by rw [HE2.out, if_pos (.inl h2)])
        go_wp2_with fail
        generalize hW : World.setCell (World.setCell (World.setCell (World.setCell w2 _ _) _ _) _ _) _ _ = W
        obtain ⟨⟨g0, g1, g2, g3⟩, hsW, hoth, hbel⟩ := four_done Hblk.out hW
        have HB := Lib.hid (hbel w.heap.size w Hbw2.out (Nat.le_refl _))
        have HO := Lib.hid hoth
        clear hW hbel hoth
        (try simp only [Exit.inBlock, Exit.then])
        refine bodyPost_ret (by simp [results, Tryz.results125, go_sem, g0, g1, g2, g3]; try rfl) rfl ?_
        exact ⟨⟨_, by rw [He.out]; rfl, .inl ⟨by rw [He.out]; rfl, rfl⟩⟩, HB.out⟩
      · by_cases h16 : 16 < n
        · have He : Hid (parseWords wordL s.data.toList = (zero, 42)) := Lib.hid (by rw [HE2.out, if_pos (.inr h16)])
          go_wp2_with fail
          generalize hW : World.setCell (World.setCell (World.setCell (World.setCell w2 _ _) _ _) _ _) _ _ = W
          obtain ⟨⟨g0, g1, g2, g3⟩, hsW, hoth, hbel⟩ := four_done Hblk.out hW
          have HB := Lib.hid (hbel w.heap.size w Hbw2.out (Nat.le_refl _))
          have HO := Lib.hid hoth
          clear hW hbel hoth
          (try simp only [Exit.inBlock, Exit.then])
          refine bodyPost_ret (by simp [results, Tryz.results125, go_sem, g0, g1, g2, g3]; try rfl) rfl ?_
          exact ⟨⟨_, by rw [He.out]; rfl, .inl ⟨by rw [He.out]; rfl, rfl⟩⟩, HB.out⟩
        · have He : Hid (parseWords wordL s.data.toList = (⟨6, 0, ByteArray.empty, ps.map B⟩, 0)) := Lib.hid (by rw [HE2.out, if_neg (by omega)])
          go_wp2_with fail
          refine (clip_any _ n n (Nat.le_refl _) w2).mono ?_
          rintro e w3 ⟨rfl, rfl⟩
          go_wp2_with fail
          obtain ⟨w4, hw4⟩ : ∃ w4, w4 = w2.setCell ⟨w.heap.size + 1, 3, none⟩ (.slice (some ⟨w.heap.size + 1 + 1, 0, none⟩) n n) := ⟨_, rfl⟩
          rw [← hw4]
          have Hblk4 := Lib.hid ((congrArg (fun x : World => x.heap[w.heap.size]?) hw4).trans (heap_set_ne Hblk.out _ (by simp)))
          have Hrow4 := Lib.hid ((congrArg (fun x : World => x.heap[w.heap.size + 1 + 1]?) hw4).trans (heap_set_ne ((Hb2.out.block _ hlt1).trans Hrow.out) _ (by simp)))
          have Hbw4 : Hid (Below w.heap.size w w4) := Lib.hid (by rw [hw4]; exact Hbw2.out.setCell (by simp) _)
          clear hw4
          clear Hblk
          have Hblk := Hblk4
          generalize hW : World.setCell (World.setCell (World.setCell (World.setCell w4 _ _) _ _) _ _) _ _ = W
          obtain ⟨⟨g0, g1, g2, g3⟩, hsW, hoth, hbel⟩ := four_done Hblk.out hW
          have HB := Lib.hid (hbel w.heap.size w Hbw4.out (Nat.le_refl _))
          have HO := Lib.hid hoth
          clear hW hbel hoth
          (try simp only [Exit.inBlock, Exit.then])
          refine bodyPost_ret (by simp [results, Tryz.results125, go_sem, g0, g1, g2, g3]; try rfl) rfl ?_
          exact ⟨⟨_, by rw [He.out]; rfl, .inr ⟨w.heap.size + 1 + 1, by rw [He.out]; exact sl_eq Hmap.out.symm, by omega, by rw [He.out]; exact (HO.out _ (by omega)).trans Hrow4.out⟩⟩, HB.out⟩

theorem parseBool_words (l : List UInt8) : (parseBool l).1.words = [] := by unfold parseBool; split; rfl; split <;> rfl
theorem parseInt_words (l : List UInt8) : (parseInt l).1.words = [] := by
  rw [parseInt_eq]
  split
  · rfl
  · split
    · rfl
    · split <;> rfl
theorem parseUnit_words (k : Int) (l : List UInt8) : (parseUnit k l).1.words = [] := by
  unfold parseUnit
  split
  · rfl
  · split
    · rfl
    · split <;> rfl
theorem parseText_words (l : List UInt8) : (parseText l).1.words = [] := by unfold parseText; split; split <;> rfl; rfl
/-- The result of Parse stands behind the struct that was laid for it. -/
theorem Fresh.out {w w1 W : World} {o : Obj} {sl : Value} {xs : List ByteArray} (h : Fresh (w.alloc o) w1 sl xs) (hW : ∀ k : Nat, k ≠ w.heap.size → W.heap[k]? = w1.heap[k]?) : Fresh w W sl xs := by
  rcases h with h | ⟨g, h1, h2, h⟩
  · exact .inl h
  · simp only [World.size_alloc] at h2
    exact .inr ⟨g, h1, by omega, (hW g (by omega)).trans h⟩

set_option maxHeartbeats 1000000 in
set_option maxRecDepth 100000 in
theorem parse_1 (s : ByteArray) (_hs : s.size ≤ 2147483647) (w : World) (hV : Vlo w) :
    Calls Tryz.prog 71 #[.int .i64 1, .string s] w fun e w' => ParseOut (parseBool s.data.toList) w e w' ∧ Below w.heap.size w w' := by
  have HV1 := Lib.hid (hV.below ((Below.refl w.heap.size w).alloc (Nat.le_refl _) (.cells #[.int .i64 0, .int .i64 0, .string ⟨#[]⟩, .slice none 0 0] 45)) (Nat.le_refl _))
  clear hV
  obtain ⟨⟨⟨kk, nn, tt, ww⟩, ee⟩, hr⟩ : ∃ r, parseBool s.data.toList = r := ⟨_, rfl⟩
  have hcon : Calls Tryz.prog 122 #[.string s] (w.alloc (.cells #[.int .i64 0, .int .i64 0, .string ⟨#[]⟩, .slice none 0 0] 45)) fun e w' => (∃ p n c, e = .returned (.tuple #[.agg #[.int .i64 kk, .int .i64 nn, .string tt, .slice p n c], .int .i64 ee]) ∧ Fresh (w.alloc (.cells #[.int .i64 0, .int .i64 0, .string ⟨#[]⟩, .slice none 0 0] 45)) w' (.slice p n c) ww) ∧ Below (w.alloc (.cells #[.int .i64 0, .int .i64 0, .string ⟨#[]⟩, .slice none 0 0] 45)).heap.size (w.alloc (.cells #[.int .i64 0, .int .i64 0, .string ⟨#[]⟩, .slice none 0 0] 45)) w' := by
    refine (parseBool_any s _).mono ?_
    rintro e w' ⟨rfl, hb⟩
    rw [hr]
    refine ⟨⟨_, _, _, rfl, .inl ⟨?_, rfl⟩⟩, hb⟩
    have := parseBool_words s.data.toList
    rw [hr] at this
    exact this
  rw [hr]
  clear hr HV1
  go_enter Tryz.func71, Tryz.ntmps71
  go_wp2_with fail
  refine hcon.mono ?_
  rintro e w1 ⟨⟨p, n, c, rfl, hfr⟩, hb⟩
  have Hb := Lib.hid hb
  have Hfr := Lib.hid hfr
  clear hfr hb
  have Hblk := Lib.hid ((new_block Hb.out).trans (heap_alloc_new w _))
  obtain ⟨⟨c0, c1, c2, c3⟩, f0, f1, f2, f3⟩ := res_cells Hb.out
  go_wp2_with fail
  generalize hW : World.setCell (World.setCell (World.setCell (World.setCell w1 _ _) _ _) _ _) _ _ = W
  obtain ⟨⟨g0, g1, g2, g3⟩, hsW, hoth, hbel⟩ := four_done Hblk.out hW
  have HB := Lib.hid (hbel w.heap.size w ((((Below.refl _ w).alloc (Nat.le_refl _) _)).trans (Hb.out.mono (by simp))) (Nat.le_refl _))
  have HO := Lib.hid hoth
  clear hW hbel hoth
  (try simp only [Exit.inBlock, Exit.then])
  refine bodyPost_ret (by simp [results, Tryz.results71, go_sem, g0, g1, g2, g3]; try rfl) rfl ?_
  exact ⟨⟨_, rfl, Hfr.out.out HO.out⟩, HB.out⟩

set_option maxHeartbeats 1000000 in
set_option maxRecDepth 100000 in
theorem parse_2 (s : ByteArray) (hs : s.size ≤ 2147483647) (w : World) (hV : Vlo w) :
    Calls Tryz.prog 71 #[.int .i64 2, .string s] w fun e w' => ParseOut (parseInt s.data.toList) w e w' ∧ Below w.heap.size w w' := by
  have HV1 := Lib.hid (hV.below ((Below.refl w.heap.size w).alloc (Nat.le_refl _) (.cells #[.int .i64 0, .int .i64 0, .string ⟨#[]⟩, .slice none 0 0] 45)) (Nat.le_refl _))
  clear hV
  obtain ⟨⟨⟨kk, nn, tt, ww⟩, ee⟩, hr⟩ : ∃ r, parseInt s.data.toList = r := ⟨_, rfl⟩
  have hcon : Calls Tryz.prog 123 #[.int .i64 2, .string s] (w.alloc (.cells #[.int .i64 0, .int .i64 0, .string ⟨#[]⟩, .slice none 0 0] 45)) fun e w' => (∃ p n c, e = .returned (.tuple #[.agg #[.int .i64 kk, .int .i64 nn, .string tt, .slice p n c], .int .i64 ee]) ∧ Fresh (w.alloc (.cells #[.int .i64 0, .int .i64 0, .string ⟨#[]⟩, .slice none 0 0] 45)) w' (.slice p n c) ww) ∧ Below (w.alloc (.cells #[.int .i64 0, .int .i64 0, .string ⟨#[]⟩, .slice none 0 0] 45)).heap.size (w.alloc (.cells #[.int .i64 0, .int .i64 0, .string ⟨#[]⟩, .slice none 0 0] 45)) w' := by
    refine (parseInt_any s hs _ HV1.out).mono ?_
    rintro e w' ⟨rfl, hb⟩
    rw [hr]
    refine ⟨⟨_, _, _, rfl, .inl ⟨?_, rfl⟩⟩, hb⟩
    have := parseInt_words s.data.toList
    rw [hr] at this
    exact this
  rw [hr]
  clear hr HV1
  go_enter Tryz.func71, Tryz.ntmps71
  go_wp2_with fail
  refine hcon.mono ?_
  rintro e w1 ⟨⟨p, n, c, rfl, hfr⟩, hb⟩
  have Hb := Lib.hid hb
  have Hfr := Lib.hid hfr
  clear hfr hb
  have Hblk := Lib.hid ((new_block Hb.out).trans (heap_alloc_new w _))
  obtain ⟨⟨c0, c1, c2, c3⟩, f0, f1, f2, f3⟩ := res_cells Hb.out
  go_wp2_with fail
  generalize hW : World.setCell (World.setCell (World.setCell (World.setCell w1 _ _) _ _) _ _) _ _ = W
  obtain ⟨⟨g0, g1, g2, g3⟩, hsW, hoth, hbel⟩ := four_done Hblk.out hW
  have HB := Lib.hid (hbel w.heap.size w ((((Below.refl _ w).alloc (Nat.le_refl _) _)).trans (Hb.out.mono (by simp))) (Nat.le_refl _))
  have HO := Lib.hid hoth
  clear hW hbel hoth
  (try simp only [Exit.inBlock, Exit.then])
  refine bodyPost_ret (by simp [results, Tryz.results71, go_sem, g0, g1, g2, g3]; try rfl) rfl ?_
  exact ⟨⟨_, rfl, Hfr.out.out HO.out⟩, HB.out⟩

set_option maxHeartbeats 1000000 in
set_option maxRecDepth 100000 in
theorem parse_u (k : Int) (hk : k = 3 ∨ k = 4) (s : ByteArray) (hs : s.size ≤ 2147483647) (w : World) (hV : Vlo w) :
    Calls Tryz.prog 71 #[.int .i64 k, .string s] w fun e w' => ParseOut (parseUnit k s.data.toList) w e w' ∧ Below w.heap.size w w' := by
  have HV1 := Lib.hid (hV.below ((Below.refl w.heap.size w).alloc (Nat.le_refl _) (.cells #[.int .i64 0, .int .i64 0, .string ⟨#[]⟩, .slice none 0 0] 45)) (Nat.le_refl _))
  clear hV
  obtain ⟨⟨⟨kk, nn, tt, ww⟩, ee⟩, hr⟩ : ∃ r, parseUnit k s.data.toList = r := ⟨_, rfl⟩
  have hcon : Calls Tryz.prog 123 #[.int .i64 k, .string s] (w.alloc (.cells #[.int .i64 0, .int .i64 0, .string ⟨#[]⟩, .slice none 0 0] 45)) fun e w' => (∃ p n c, e = .returned (.tuple #[.agg #[.int .i64 kk, .int .i64 nn, .string tt, .slice p n c], .int .i64 ee]) ∧ Fresh (w.alloc (.cells #[.int .i64 0, .int .i64 0, .string ⟨#[]⟩, .slice none 0 0] 45)) w' (.slice p n c) ww) ∧ Below (w.alloc (.cells #[.int .i64 0, .int .i64 0, .string ⟨#[]⟩, .slice none 0 0] 45)).heap.size (w.alloc (.cells #[.int .i64 0, .int .i64 0, .string ⟨#[]⟩, .slice none 0 0] 45)) w' := by
    refine (parseUnit_any k hk s hs _ HV1.out).mono ?_
    rintro e w' ⟨rfl, hb⟩
    rw [hr]
    refine ⟨⟨_, _, _, rfl, .inl ⟨?_, rfl⟩⟩, hb⟩
    have := parseUnit_words k s.data.toList
    rw [hr] at this
    exact this
  rw [hr]
  clear hr HV1
  have k1 : (k == 1) = false := by simp; omega
  have k2 : (k == 2) = false := by simp; omega
  have hk' : ((k == 3) = true) ∨ ((k == 3) = false ∧ (k == 4) = true) := by
    rcases hk with rfl | rfl
    · exact .inl rfl
    · exact .inr ⟨rfl, rfl⟩
  clear hk
  rcases hk' with hk' | ⟨hk', hk''⟩
  · go_enter Tryz.func71, Tryz.ntmps71
    go_wp2_with fail
    refine hcon.mono ?_
    rintro e w1 ⟨⟨p, n, c, rfl, hfr⟩, hb⟩
    have Hb := Lib.hid hb
    have Hfr := Lib.hid hfr
    clear hfr hb
    have Hblk := Lib.hid ((new_block Hb.out).trans (heap_alloc_new w _))
    obtain ⟨⟨c0, c1, c2, c3⟩, f0, f1, f2, f3⟩ := res_cells Hb.out
    go_wp2_with fail
    generalize hW : World.setCell (World.setCell (World.setCell (World.setCell w1 _ _) _ _) _ _) _ _ = W
    obtain ⟨⟨g0, g1, g2, g3⟩, hsW, hoth, hbel⟩ := four_done Hblk.out hW
    have HB := Lib.hid (hbel w.heap.size w ((((Below.refl _ w).alloc (Nat.le_refl _) _)).trans (Hb.out.mono (by simp))) (Nat.le_refl _))
    have HO := Lib.hid hoth
    clear hW hbel hoth
    (try simp only [Exit.inBlock, Exit.then])
    refine bodyPost_ret (by simp [results, Tryz.results71, go_sem, g0, g1, g2, g3]; try rfl) rfl ?_
    exact ⟨⟨_, rfl, Hfr.out.out HO.out⟩, HB.out⟩
  · go_enter Tryz.func71, Tryz.ntmps71
    go_wp2_with fail
    refine hcon.mono ?_
    rintro e w1 ⟨⟨p, n, c, rfl, hfr⟩, hb⟩
    have Hb := Lib.hid hb
    have Hfr := Lib.hid hfr
    clear hfr hb
    have Hblk := Lib.hid ((new_block Hb.out).trans (heap_alloc_new w _))
    obtain ⟨⟨c0, c1, c2, c3⟩, f0, f1, f2, f3⟩ := res_cells Hb.out
    go_wp2_with fail
    generalize hW : World.setCell (World.setCell (World.setCell (World.setCell w1 _ _) _ _) _ _) _ _ = W
    obtain ⟨⟨g0, g1, g2, g3⟩, hsW, hoth, hbel⟩ := four_done Hblk.out hW
    have HB := Lib.hid (hbel w.heap.size w ((((Below.refl _ w).alloc (Nat.le_refl _) _)).trans (Hb.out.mono (by simp))) (Nat.le_refl _))
    have HO := Lib.hid hoth
    clear hW hbel hoth
    (try simp only [Exit.inBlock, Exit.then])
    refine bodyPost_ret (by simp [results, Tryz.results71, go_sem, g0, g1, g2, g3]; try rfl) rfl ?_
    exact ⟨⟨_, rfl, Hfr.out.out HO.out⟩, HB.out⟩

set_option maxHeartbeats 1000000 in
set_option maxRecDepth 100000 in
theorem parse_5 (s : ByteArray) (_hs : s.size ≤ 2147483647) (w : World) (hV : Vlo w) :
    Calls Tryz.prog 71 #[.int .i64 5, .string s] w fun e w' => ParseOut (parseText s.data.toList) w e w' ∧ Below w.heap.size w w' := by
  have HV1 := Lib.hid (hV.below ((Below.refl w.heap.size w).alloc (Nat.le_refl _) (.cells #[.int .i64 0, .int .i64 0, .string ⟨#[]⟩, .slice none 0 0] 45)) (Nat.le_refl _))
  clear hV
  obtain ⟨⟨⟨kk, nn, tt, ww⟩, ee⟩, hr⟩ : ∃ r, parseText s.data.toList = r := ⟨_, rfl⟩
  have hcon : Calls Tryz.prog 124 #[.string s] (w.alloc (.cells #[.int .i64 0, .int .i64 0, .string ⟨#[]⟩, .slice none 0 0] 45)) fun e w' => (∃ p n c, e = .returned (.tuple #[.agg #[.int .i64 kk, .int .i64 nn, .string tt, .slice p n c], .int .i64 ee]) ∧ Fresh (w.alloc (.cells #[.int .i64 0, .int .i64 0, .string ⟨#[]⟩, .slice none 0 0] 45)) w' (.slice p n c) ww) ∧ Below (w.alloc (.cells #[.int .i64 0, .int .i64 0, .string ⟨#[]⟩, .slice none 0 0] 45)).heap.size (w.alloc (.cells #[.int .i64 0, .int .i64 0, .string ⟨#[]⟩, .slice none 0 0] 45)) w' := by
    refine (parseText_any s _).mono ?_
    rintro e w' ⟨rfl, hb⟩
    rw [hr]
    refine ⟨⟨_, _, _, rfl, .inl ⟨?_, rfl⟩⟩, hb⟩
    have := parseText_words s.data.toList
    rw [hr] at this
    exact this
  rw [hr]
  clear hr HV1
  go_enter Tryz.func71, Tryz.ntmps71
  go_wp2_with fail
  refine hcon.mono ?_
  rintro e w1 ⟨⟨p, n, c, rfl, hfr⟩, hb⟩
  have Hb := Lib.hid hb
  have Hfr := Lib.hid hfr
  clear hfr hb
  have Hblk := Lib.hid ((new_block Hb.out).trans (heap_alloc_new w _))
  obtain ⟨⟨c0, c1, c2, c3⟩, f0, f1, f2, f3⟩ := res_cells Hb.out
  go_wp2_with fail
  generalize hW : World.setCell (World.setCell (World.setCell (World.setCell w1 _ _) _ _) _ _) _ _ = W
  obtain ⟨⟨g0, g1, g2, g3⟩, hsW, hoth, hbel⟩ := four_done Hblk.out hW
  have HB := Lib.hid (hbel w.heap.size w ((((Below.refl _ w).alloc (Nat.le_refl _) _)).trans (Hb.out.mono (by simp))) (Nat.le_refl _))
  have HO := Lib.hid hoth
  clear hW hbel hoth
  (try simp only [Exit.inBlock, Exit.then])
  refine bodyPost_ret (by simp [results, Tryz.results71, go_sem, g0, g1, g2, g3]; try rfl) rfl ?_
  exact ⟨⟨_, rfl, Hfr.out.out HO.out⟩, HB.out⟩

set_option maxHeartbeats 1000000 in
set_option maxRecDepth 100000 in
theorem parse_6 (s : ByteArray) (hs : s.size ≤ 2147483647) (w : World) (hV : Vlo w) :
    Calls Tryz.prog 71 #[.int .i64 6, .string s] w fun e w' => ParseOut (parseWords wordL s.data.toList) w e w' ∧ Below w.heap.size w w' := by
  have HV1 := Lib.hid (hV.below ((Below.refl w.heap.size w).alloc (Nat.le_refl _) (.cells #[.int .i64 0, .int .i64 0, .string ⟨#[]⟩, .slice none 0 0] 45)) (Nat.le_refl _))
  clear hV
  obtain ⟨⟨⟨kk, nn, tt, ww⟩, ee⟩, hr⟩ : ∃ r, parseWords wordL s.data.toList = r := ⟨_, rfl⟩
  have hcon : Calls Tryz.prog 125 #[.string s] (w.alloc (.cells #[.int .i64 0, .int .i64 0, .string ⟨#[]⟩, .slice none 0 0] 45)) fun e w' => (∃ p n c, e = .returned (.tuple #[.agg #[.int .i64 kk, .int .i64 nn, .string tt, .slice p n c], .int .i64 ee]) ∧ Fresh (w.alloc (.cells #[.int .i64 0, .int .i64 0, .string ⟨#[]⟩, .slice none 0 0] 45)) w' (.slice p n c) ww) ∧ Below (w.alloc (.cells #[.int .i64 0, .int .i64 0, .string ⟨#[]⟩, .slice none 0 0] 45)).heap.size (w.alloc (.cells #[.int .i64 0, .int .i64 0, .string ⟨#[]⟩, .slice none 0 0] 45)) w' := by
    refine (parseWords_any s hs _ HV1.out).mono ?_
    rintro e w' ⟨⟨sl, rfl, hf⟩, hb⟩
    rw [hr] at hf ⊢
    obtain ⟨p, n, c, rfl⟩ := hf.shape
    exact ⟨⟨p, n, c, rfl, hf⟩, hb⟩
  rw [hr]
  clear hr HV1
  go_enter Tryz.func71, Tryz.ntmps71
  go_wp2_with fail
  refine hcon.mono ?_
  rintro e w1 ⟨⟨p, n, c, rfl, hfr⟩, hb⟩
  have Hb := Lib.hid hb
  have Hfr := Lib.hid hfr
  clear hfr hb
  have Hblk := Lib.hid ((new_block Hb.out).trans (heap_alloc_new w _))
  obtain ⟨⟨c0, c1, c2, c3⟩, f0, f1, f2, f3⟩ := res_cells Hb.out
  go_wp2_with fail
  generalize hW : World.setCell (World.setCell (World.setCell (World.setCell w1 _ _) _ _) _ _) _ _ = W
  obtain ⟨⟨g0, g1, g2, g3⟩, hsW, hoth, hbel⟩ := four_done Hblk.out hW
  have HB := Lib.hid (hbel w.heap.size w ((((Below.refl _ w).alloc (Nat.le_refl _) _)).trans (Hb.out.mono (by simp))) (Nat.le_refl _))
  have HO := Lib.hid hoth
  clear hW hbel hoth
  (try simp only [Exit.inBlock, Exit.then])
  refine bodyPost_ret (by simp [results, Tryz.results71, go_sem, g0, g1, g2, g3]; try rfl) rfl ?_
  exact ⟨⟨_, rfl, Hfr.out.out HO.out⟩, HB.out⟩

theorem Parse_any (k : Int) (s : ByteArray) (hs : s.size ≤ 2147483647) (w : World) (hV : Vlo w) :
    Calls Tryz.prog 71 #[.int .i64 k, .string s] w fun e w' => ParseOut (parse wordL k s.data.toList) w e w' ∧ Below w.heap.size w w' := by
  by_cases h1 : k = 1
  · subst h1; exact parse_1 s hs w hV
  by_cases h2 : k = 2
  · subst h2; exact parse_2 s hs w hV
  by_cases hu : k = 3 ∨ k = 4
  · have : parse wordL k s.data.toList = parseUnit k s.data.toList := by unfold parse; rw [if_neg h1, if_neg h2, if_pos hu]
    rw [this]
    exact parse_u k hu s hs w hV
  by_cases h5 : k = 5
  · subst h5; exact parse_5 s hs w hV
  by_cases h6 : k = 6
  · subst h6; exact parse_6 s hs w hV
  have He : Hid (parse wordL k s.data.toList = (zero, 1)) := Lib.hid (by unfold parse; rw [if_neg h1, if_neg h2, if_neg hu, if_neg h5, if_neg h6])
  have q1 : (k == 1) = false := by simp [h1]
  have q2 : (k == 2) = false := by simp [h2]
  have q3 : (k == 3) = false := by simp; omega
  have q4 : (k == 4) = false := by simp; omega
  have q5 : (k == 5) = false := by simp [h5]
  have q6 : (k == 6) = false := by simp [h6]
  clear h1 h2 hu h5 h6 hV
  go_enter Tryz.func71, Tryz.ntmps71
  go_wp2_with fail
  go_returns
  exact ⟨⟨_, by rw [He.out]; rfl, .inl ⟨by rw [He.out]; rfl, rfl⟩⟩, by go_grown⟩
end Go.Proofs.YtbelnaiekbfoiaaGreatDoor.va
/- value.Right returns the plain function. Conditions: the listed variables hold what the program's text lays; the value's words lie in memory; it is no greater than 2147483647 bytes and words. -/
namespace Go.Proofs.YtbelnaiekbfoiaaGreatDoor.va
open Go.ChangeShapes Go.WideShapes Go.ChangeAt Go.RowKit gl

/-- No greater than the bound. -/
structure Vb (v : Val) : Prop where
  int0 : -9223372036854775808 ≤ v.int
  int1 : v.int ≤ 9223372036854775807
  text : v.text.size ≤ 2147483647
  words : v.words.length ≤ 2147483647
  each : ∀ x ∈ v.words, x.size ≤ 2147483647
  joined : (joined v.words).length ≤ 140737488355328

theorem right_c {k n : Int} {t : ByteArray} {ws : List ByteArray} (h5 : k ≠ 5) (h6 : k ≠ 6) : right wordL ⟨k, n, t, ws⟩ = (t.toList.isEmpty && ws.isEmpty && (decide (least k ≤ n) && decide (n ≤ most k)) && decide (k = 1 ∨ k = 2 ∨ k = 3 ∨ k = 4)) := by
  have ht : decide (t = ByteArray.empty) = t.toList.isEmpty := by
    rw [ByteArray.toList_eq, Bool.eq_iff_iff, decide_eq_true_eq, List.isEmpty_iff]
    exact ⟨fun h => by rw [h]; rfl, fun h => ba_eq (by rw [h]; rfl)⟩
  simp only [right, h5, h6, decide_false, Bool.false_or, Bool.false_and, Bool.or_false, ht]
theorem right_5 {n : Int} {t : ByteArray} {ws : List ByteArray} : right wordL ⟨5, n, t, ws⟩ = (ws.isEmpty && (decide (0 ≤ n) && decide (n ≤ 0)) && (decide (t.size ≤ 200) && prnAll t.data.toList)) := by
  simp [right, least, most, prnAll]
theorem right_6 {n : Int} {t : ByteArray} {ws : List ByteArray} : right wordL ⟨6, n, t, ws⟩ = (t.toList.isEmpty && (decide (0 ≤ n) && decide (n ≤ 0)) && (decide (ws.length ≤ 16) && allW ws && decide ((joined ws).length ≤ 200))) := by
  have ht : decide (t = ByteArray.empty) = t.toList.isEmpty := by
    rw [ByteArray.toList_eq, Bool.eq_iff_iff, decide_eq_true_eq, List.isEmpty_iff]
    exact ⟨fun h => by rw [h]; rfl, fun h => ba_eq (by rw [h]; rfl)⟩
  simp [right, least, most, allW, ht]

set_option maxHeartbeats 2000000 in
set_option maxRecDepth 100000 in
theorem Right_any (v : Val) (hb : Vb v) (sl : Value) (w : World) (hV : Vlo w) (hS : Strs w sl v.words) :
    Calls Tryz.prog 98 #[rep v sl] w fun e w' => e = .returned (.bool (right wordL v)) ∧ Below w.heap.size w w' := by
  obtain ⟨k, n, t, ws⟩ := v
  obtain ⟨hn0, hn1, ht, hl, heach, hj⟩ := hb
  simp only at hn0 hn1 ht hl heach hj hS
  have HV := Lib.hid hV
  have HS := Lib.hid hS
  have Heach := Lib.hid heach
  have Hj := Lib.hid hj
  clear hV heach hj
  obtain ⟨p, c, rfl, hc, _⟩ := hS
  obtain ⟨m, hm⟩ : ∃ m, ws.length = m := ⟨_, rfl⟩
  have Hm := Lib.hid hm
  rw [hm] at hl hc HS ⊢
  clear hm
  unfold rep
  simp only
  by_cases h5 : k = 5
  · subst h5
    have hr := right_5 (n := n) (t := t) (ws := ws)
    have hwe : ws.isEmpty = decide (m = 0) := by rw [← Hm.out]; cases ws <;> rfl
    have hp := fun W => printable_any t W
    rw [hwe] at hr
    generalize prnAll t.data.toList = pr at *
    generalize right wordL ⟨5, n, t, ws⟩ = R at *
    have HR := Lib.hid hr
    clear hr hwe
    by_cases hm0 : m = 0
    · subst hm0
      rcases (show n < 0 ∨ n = 0 ∨ 0 < n by omega) with h | rfl | h
      · go_enter Tryz.func98, Tryz.ntmps98
        go_wp2_with fail
        refine (ends_any 5 _).mono ?_
        rintro e w1 ⟨rfl, rfl⟩
        rw [show least 5 = 0 from rfl, show most 5 = 0 from rfl]
        go_wp2_with fail
        go_ret
        exact ⟨ret_bool (by rw [HR.out, decide_eq_false (p := 0 ≤ n) (by omega)]; simp), by go_grown⟩
      · by_cases h200 : t.size ≤ 200
        · go_enter Tryz.func98, Tryz.ntmps98
          go_wp2_with fail
          refine (ends_any 5 _).mono ?_
          rintro e w1 ⟨rfl, rfl⟩
          rw [show least 5 = 0 from rfl, show most 5 = 0 from rfl]
          go_wp2_with fail
          refine (hp _).mono ?_
          rintro e w2 ⟨rfl, hb2⟩
          go_wp2_with fail
          go_ret
          exact ⟨ret_bool (by rw [HR.out, decide_eq_true h200]; simp), ((Below.refl _ w).alloc (Nat.le_refl _) _).trans (hb2.mono (by simp))⟩
        · go_enter Tryz.func98, Tryz.ntmps98
          go_wp2_with fail
          refine (ends_any 5 _).mono ?_
          rintro e w1 ⟨rfl, rfl⟩
          rw [show least 5 = 0 from rfl, show most 5 = 0 from rfl]
          go_wp2_with fail
          go_ret
          exact ⟨ret_bool (by rw [HR.out, decide_eq_false h200]; simp), by go_grown⟩
      · go_enter Tryz.func98, Tryz.ntmps98
        go_wp2_with fail
        refine (ends_any 5 _).mono ?_
        rintro e w1 ⟨rfl, rfl⟩
        rw [show least 5 = 0 from rfl, show most 5 = 0 from rfl]
        go_wp2_with fail
        go_ret
        exact ⟨ret_bool (by rw [HR.out, decide_eq_false (p := n ≤ 0) (by omega)]; simp), by go_grown⟩
    · have hm0' : ((m : Int) != 0) = true := by simp; omega
      go_enter Tryz.func98, Tryz.ntmps98
      go_wp2_with fail
      go_ret
      exact ⟨ret_bool (by rw [HR.out, decide_eq_false hm0]; simp), by go_grown⟩
  · by_cases h6 : k = 6
    · subst h6
      clear h5
      have hr := right_6 (n := n) (t := t) (ws := ws)
      have hcon := containsW_any 149 (enters_of Tryz.func149 (by kernel_rfl) rfl) notW_right (.slice p m c) ws Heach.out (by rw [Hm.out]; omega)
      have hjo := joinW_any (.slice p m c) ws
      have Hcon := Lib.hid fun (W : World) (hb : Below w.heap.size w W) => hcon W (HV.out.below hb (Nat.le_refl _)) (HS.out.below hb (Nat.le_refl _))
      have Hjo := Lib.hid fun (W : World) (hb : Below w.heap.size w W) => hjo W (HS.out.below hb (Nat.le_refl _)) (by rw [Hm.out]; omega) Hj.out
      rw [Hm.out] at hr
      have hJ : (B (joined ws)).size = (joined ws).length := by simp [ByteArray.size]
      have hJb := Hj.out
      rw [← hJ] at hr hJb
      clear hcon hjo hJ
      generalize B (joined ws) = J at *
      generalize allW ws = aw at *
      generalize right wordL ⟨6, n, t, ws⟩ = R at *
      have HR := Lib.hid hr
      clear hr
      cases he : t.toList.isEmpty with
      | false =>
        rw [he] at HR
        go_enter Tryz.func98, Tryz.ntmps98
        go_wp2_with fail
        go_ret
        exact ⟨ret_bool (by rw [HR.out]; simp), by go_grown⟩
      | true =>
        rw [he] at HR
        rcases (show n < 0 ∨ n = 0 ∨ 0 < n by omega) with h | rfl | h
        · go_enter Tryz.func98, Tryz.ntmps98
          go_wp2_with fail
          refine (ends_any 6 _).mono ?_
          rintro e w1 ⟨rfl, rfl⟩
          rw [show least 6 = 0 from rfl, show most 6 = 0 from rfl]
          go_wp2_with fail
          go_ret
          exact ⟨ret_bool (by rw [HR.out, decide_eq_false (p := 0 ≤ n) (by omega)]; simp), by go_grown⟩
        · by_cases h16 : m ≤ 16
          · go_enter Tryz.func98, Tryz.ntmps98
            go_wp2_with fail
            refine (ends_any 6 _).mono ?_
            rintro e w1 ⟨rfl, rfl⟩
            rw [show least 6 = 0 from rfl, show most 6 = 0 from rfl]
            go_wp2_with fail
            refine (Hcon.out _ ((Below.refl _ w).alloc (Nat.le_refl _) _)).mono ?_
            rintro e w2 ⟨rfl, hb2⟩
            have Hb2 := Lib.hid (((Below.refl _ w).alloc (Nat.le_refl _) _).trans (hb2.mono (by simp)))
            obtain ⟨⟨b0, b1, b2, b3⟩, _⟩ := res_cells hb2
            clear hb2
            cases aw with
            | false =>
              go_wp2_with fail
              go_ret
              exact ⟨ret_bool (by rw [HR.out]; simp), Hb2.out⟩
            | true =>
              by_cases hJ2 : J.size ≤ 200
              · go_wp2_with fail
                refine (Hjo.out _ Hb2.out).mono ?_
                rintro e w3 ⟨rfl, hb3⟩
                go_wp2_with fail
                go_ret
                exact ⟨ret_bool (by rw [HR.out, decide_eq_true h16, decide_eq_true hJ2]; simp; try omega), Hb2.out.trans (hb3.mono Hb2.out.size)⟩
              · go_wp2_with fail
                refine (Hjo.out _ Hb2.out).mono ?_
                rintro e w3 ⟨rfl, hb3⟩
                go_wp2_with fail
                go_ret
                exact ⟨ret_bool (by rw [HR.out, decide_eq_true h16, decide_eq_false hJ2]; simp; try omega), Hb2.out.trans (hb3.mono Hb2.out.size)⟩
          · go_enter Tryz.func98, Tryz.ntmps98
            go_wp2_with fail
            refine (ends_any 6 _).mono ?_
            rintro e w1 ⟨rfl, rfl⟩
            rw [show least 6 = 0 from rfl, show most 6 = 0 from rfl]
            go_wp2_with fail
            go_ret
            exact ⟨ret_bool (by rw [HR.out, decide_eq_false h16]; simp), by go_grown⟩
        · go_enter Tryz.func98, Tryz.ntmps98
          go_wp2_with fail
          refine (ends_any 6 _).mono ?_
          rintro e w1 ⟨rfl, rfl⟩
          rw [show least 6 = 0 from rfl, show most 6 = 0 from rfl]
          go_wp2_with fail
          go_ret
          exact ⟨ret_bool (by rw [HR.out, decide_eq_false (p := n ≤ 0) (by omega)]; simp), by go_grown⟩
    · have hr := right_c (n := n) (t := t) (ws := ws) h5 h6
      have hwe : ws.isEmpty = decide (m = 0) := by rw [← Hm.out]; cases ws <;> rfl
      rw [hwe] at hr
      have q5 : (k != 5) = true := by simp [h5]
      have q6 : (k != 6) = true := by simp [h6]
      have q5' : (k == 5) = false := by simp [h5]
      have q6' : (k == 6) = false := by simp [h6]
      have Hends := Lib.hid fun W => ends_any k W
      have hK := kinds k
      have hkd : Hid (decide (k = 1 ∨ k = 2 ∨ k = 3 ∨ k = 4) = ((k == 1) || (k == 2) || (k == 3) || (k == 4))) := Lib.hid (by
        rw [Bool.eq_iff_iff]
        simp only [decide_eq_true_eq, Bool.or_eq_true, beq_iff_eq]
        omega)
      rw [hkd.out] at hr
      generalize least k = L at *
      generalize most k = M at *
      generalize right wordL ⟨k, n, t, ws⟩ = R at *
      have HR := Lib.hid hr
      clear hr hwe hkd h5 h6
      cases he : t.toList.isEmpty with
      | false =>
        rw [he] at HR
        clear hK
        go_enter Tryz.func98, Tryz.ntmps98
        go_wp2_with fail
        go_ret
        exact ⟨ret_bool (by rw [HR.out]; simp), by go_grown⟩
      | true =>
        rw [he] at HR
        by_cases hm0 : m = 0
        · subst hm0
          by_cases hnL : n < L
          · clear hK
            go_enter Tryz.func98, Tryz.ntmps98
            go_wp2_with fail
            refine (Hends.out _).mono ?_
            rintro e w1 ⟨rfl, rfl⟩
            go_wp2_with fail
            go_ret
            exact ⟨ret_bool (by rw [HR.out, decide_eq_false (p := L ≤ n) (by omega)]; simp), by go_grown⟩
          · by_cases hnM : M < n
            · clear hK
              go_enter Tryz.func98, Tryz.ntmps98
              go_wp2_with fail
              refine (Hends.out _).mono ?_
              rintro e w1 ⟨rfl, rfl⟩
              go_wp2_with fail
              go_ret
              exact ⟨ret_bool (by rw [HR.out, decide_eq_false (p := n ≤ M) (by omega)]; simp), by go_grown⟩
            · have HR2 : Hid (R = ((k == 1) || (k == 2) || (k == 3) || (k == 4))) := Lib.hid (by rw [HR.out, decide_eq_true (p := L ≤ n) (by omega), decide_eq_true (p := n ≤ M) (by omega)]; simp)
              have hK2 : k = 1 ∨ k = 2 ∨ k = 3 ∨ k = 4 ∨ ((k == 1) = false ∧ (k == 2) = false ∧ (k == 3) = false ∧ (k == 4) = false) := by
                simp only [beq_eq_false_iff_ne]
                omega
              clear hK HR
              rcases hK2 with rfl | rfl | rfl | rfl | ⟨q1, q2, q3, q4⟩
              all_goals
                go_enter Tryz.func98, Tryz.ntmps98
                go_wp2_with fail
                refine (Hends.out _).mono ?_
                rintro e w1 ⟨rfl, rfl⟩
                go_wp2_with fail
                go_ret
                refine ⟨ret_bool ?_, by go_grown⟩
              · rw [HR2.out]; rfl
              · rw [HR2.out]; rfl
              · rw [HR2.out]; rfl
              · rw [HR2.out]; rfl
              · rw [HR2.out, q1, q2, q3, q4]; rfl
        · have hm0' : ((m : Int) != 0) = true := by simp; omega
          clear hK
          go_enter Tryz.func98, Tryz.ntmps98
          go_wp2_with fail
          go_ret
          exact ⟨ret_bool (by rw [HR.out, decide_eq_false hm0]; simp), by go_grown⟩
end Go.Proofs.YtbelnaiekbfoiaaGreatDoor.va
/- value.Same, Within and the reference's Same return plain functions. Conditions: the values' words lie in memory; they are no greater than 2147483647 bytes and words. -/
namespace Go.Proofs.YtbelnaiekbfoiaaGreatDoor.va
open Go.ChangeShapes Go.WideShapes Go.ChangeAt Go.RowKit gl

theorem ret_bool' {a b : Bool} (h : a = b) : Ending.returned (.bool a) = .returned (.bool b) := by rw [h]
theorem bel_drewN {b : Nat} {a w : World} (h : Below b a w) (n : Nat) : Below b a (w.drewN n) := h.trans ⟨rfl, rfl, rfl, Nat.le_refl _, fun _ _ => rfl⟩
/-- Two values are the same. -/
theorem same_eq (a b : Val) : decide (a = b) = (decide (a.kind = b.kind) && decide (a.int = b.int) && decide (a.text = b.text) && decide (a.words = b.words)) := by
  obtain ⟨k, n, t, ws⟩ := a
  obtain ⟨k', n', t', ws'⟩ := b
  rw [Bool.eq_iff_iff]
  simp only [decide_eq_true_eq, Bool.and_eq_true, Val.mk.injEq, and_assoc]
theorem str_dec (a b : ByteArray) : (a.toList == b.toList) = decide (a = b) := by
  by_cases h : a = b
  · rw [seq_true h, decide_eq_true h]
  · rw [seq_false h, decide_eq_false h]

/-- The first k words are alike. -/
def eqTo (xs ys : List ByteArray) (k : Nat) : Prop := ∀ j, j < k → xs[j]? = ys[j]?
theorem eqTo_succ {xs ys : List ByteArray} {k : Nat} (h : eqTo xs ys k) (h2 : xs[k]? = ys[k]?) : eqTo xs ys (k + 1) := by
  intro j hj
  rcases Nat.lt_or_ge j k with h1 | h1
  · exact h j h1
  · obtain rfl : j = k := by omega
    exact h2
theorem eqTo_all {xs ys : List ByteArray} (h : eqTo xs ys xs.length) (hl : xs.length = ys.length) : xs = ys := by
  apply List.ext_getElem?
  intro j
  rcases Nat.lt_or_ge j xs.length with h1 | h1
  · exact h j h1
  · rw [List.getElem?_eq_none h1, List.getElem?_eq_none (by omega)]
theorem Strs.at {w : World} {p : Option Addr} {n c : Nat} {xs : List ByteArray} (h : Strs w (.slice p n c) xs) (k : Nat) (hk : k < n) : ∃ b o x, p = some ⟨b, o, none⟩ ∧ b < w.heap.size ∧ xs[k]? = some x ∧ w.cell? ⟨b, o + k, none⟩ = some (.string x) := by
  obtain ⟨p', c', e, hc, h⟩ := h
  simp only [Value.slice.injEq] at e
  obtain ⟨rfl, rfl, rfl⟩ := e
  rcases h with rfl | ⟨b, o, rfl, hlt, hat⟩
  · simp at hk
  · exact ⟨b, o, _, rfl, hlt, List.getElem?_eq_getElem hk, hat k _ (List.getElem?_eq_getElem hk)⟩

end Go.Proofs.YtbelnaiekbfoiaaGreatDoor.va
/- value.Within returns the plain function. Conditions: as for Right. -/
namespace Go.Proofs.YtbelnaiekbfoiaaGreatDoor.va
open Go.ChangeShapes Go.WideShapes Go.ChangeAt Go.RowKit gl

theorem right_kind {v : Val} (h : right wordL v = true) : v.kind = 1 ∨ v.kind = 2 ∨ v.kind = 3 ∨ v.kind = 4 ∨ v.kind = 5 ∨ v.kind = 6 := by
  rcases right_cases h with h | h | h | h | h <;> have := h.1 <;> omega
/-- Within, by kinds. -/
theorem within_f {v : Val} {lo hi : Int} (h : right wordL v = false) : within wordL v lo hi = false := by unfold within; rw [h]; rfl
theorem within_n {v : Val} {lo hi : Int} (h : right wordL v = true) (hk : v.kind = 2 ∨ v.kind = 3 ∨ v.kind = 4) : within wordL v lo hi = decide (lo ≤ v.int ∧ v.int ≤ hi) := by unfold within; rw [h, if_pos hk]; rfl
theorem within_6 {v : Val} {lo hi : Int} (h : right wordL v = true) (hk : v.kind = 6) : within wordL v lo hi = decide (lo ≤ v.words.length ∧ (v.words.length : Int) ≤ hi) := by unfold within; rw [h, if_neg (by omega), if_pos hk]; rfl
theorem within_o {v : Val} {lo hi : Int} (h : right wordL v = true) (hk : v.kind = 1 ∨ v.kind = 5) : within wordL v lo hi = true := by unfold within; rw [h, if_neg (by omega), if_neg (by omega)]; rfl

set_option maxHeartbeats 2000000 in
set_option maxRecDepth 100000 in
theorem Within_any (v : Val) (hb : Vb v) (lo hi : Int) (sl : Value) (w : World) (hV : Vlo w) (hS : Strs w sl v.words) :
    Calls Tryz.prog 84 #[rep v sl, .int .i64 lo, .int .i64 hi] w fun e w' => e = .returned (.bool (within wordL v lo hi)) ∧ Below w.heap.size w w' := by
  have HRi := Lib.hid fun (W : World) (hbW : Below w.heap.size w W) => Right_any v hb sl W (hV.below hbW (Nat.le_refl _)) (hS.below hbW (Nat.le_refl _))
  clear hV hb
  obtain ⟨p, c, rfl, hc, _⟩ := hS
  obtain ⟨k, n, t, ws⟩ := v
  simp only at hc
  obtain ⟨m, hm⟩ : ∃ m, ws.length = m := ⟨_, rfl⟩
  unfold rep at *
  simp only at *
  rw [hm] at HRi hc ⊢
  cases hr : right wordL ⟨k, n, t, ws⟩ with
  | false =>
    have HW := Lib.hid (within_f (lo := lo) (hi := hi) hr)
    rw [hr] at HRi
    clear hr hm
    go_enter Tryz.func84, Tryz.ntmps84
    go_wp2_with fail
    refine (HRi.out _ ((Below.refl _ w).alloc (Nat.le_refl _) _)).mono ?_
    rintro e w1 ⟨rfl, hb⟩
    have Hb := Lib.hid (((Below.refl _ w).alloc (Nat.le_refl _) _).trans (hb.mono (by simp)))
    obtain ⟨⟨b0, b1, b2, b3⟩, _⟩ := res_cells hb
    clear hb
    go_wp2_with fail
    go_ret
    exact ⟨ret_bool (by rw [HW.out]), Hb.out⟩
  | true =>
    have hk := right_kind hr
    simp only at hk
    rw [hr] at HRi
    rcases hk with rfl | rfl | rfl | rfl | rfl | rfl
    · have HW := Lib.hid (within_o (lo := lo) (hi := hi) hr (by simp))
      clear hr hm
      go_enter Tryz.func84, Tryz.ntmps84
      go_wp2_with fail
      refine (HRi.out _ ((Below.refl _ w).alloc (Nat.le_refl _) _)).mono ?_
      rintro e w1 ⟨rfl, hb⟩
      have Hb := Lib.hid (((Below.refl _ w).alloc (Nat.le_refl _) _).trans (hb.mono (by simp)))
      obtain ⟨⟨b0, b1, b2, b3⟩, _⟩ := res_cells hb
      clear hb
      go_wp2_with fail
      go_ret
      exact ⟨ret_bool (by rw [HW.out]), Hb.out⟩
    · have HW := Lib.hid (within_n (lo := lo) (hi := hi) hr (by simp))
      simp only at HW
      clear hr hm
      by_cases h1 : lo ≤ n
      · by_cases h2 : n ≤ hi
        · go_enter Tryz.func84, Tryz.ntmps84
          go_wp2_with fail
          refine (HRi.out _ ((Below.refl _ w).alloc (Nat.le_refl _) _)).mono ?_
          rintro e w1 ⟨rfl, hb⟩
          have Hb := Lib.hid (((Below.refl _ w).alloc (Nat.le_refl _) _).trans (hb.mono (by simp)))
          obtain ⟨⟨b0, b1, b2, b3⟩, _⟩ := res_cells hb
          clear hb
          go_wp2_with fail
          go_ret
          exact ⟨ret_bool (by rw [HW.out]; first | exact decide_eq_true (by omega) | exact (decide_eq_true (by omega)).trans (decide_eq_true (by omega)).symm), Hb.out⟩
        · go_enter Tryz.func84, Tryz.ntmps84
          go_wp2_with fail
          refine (HRi.out _ ((Below.refl _ w).alloc (Nat.le_refl _) _)).mono ?_
          rintro e w1 ⟨rfl, hb⟩
          have Hb := Lib.hid (((Below.refl _ w).alloc (Nat.le_refl _) _).trans (hb.mono (by simp)))
          obtain ⟨⟨b0, b1, b2, b3⟩, _⟩ := res_cells hb
          clear hb
          go_wp2_with fail
          go_ret
          exact ⟨ret_bool (by rw [HW.out]; first | exact decide_eq_false (by omega) | exact (decide_eq_false (by omega)).trans (decide_eq_false (by omega)).symm), Hb.out⟩
      · go_enter Tryz.func84, Tryz.ntmps84
        go_wp2_with fail
        refine (HRi.out _ ((Below.refl _ w).alloc (Nat.le_refl _) _)).mono ?_
        rintro e w1 ⟨rfl, hb⟩
        have Hb := Lib.hid (((Below.refl _ w).alloc (Nat.le_refl _) _).trans (hb.mono (by simp)))
        obtain ⟨⟨b0, b1, b2, b3⟩, _⟩ := res_cells hb
        clear hb
        go_wp2_with fail
        go_ret
        exact ⟨ret_bool (by rw [HW.out]; first | exact decide_eq_false (by omega) | exact (decide_eq_false (by omega)).trans (decide_eq_false (by omega)).symm), Hb.out⟩
    · have HW := Lib.hid (within_n (lo := lo) (hi := hi) hr (by simp))
      simp only at HW
      clear hr hm
      by_cases h1 : lo ≤ n
      · by_cases h2 : n ≤ hi
        · go_enter Tryz.func84, Tryz.ntmps84
          go_wp2_with fail
          refine (HRi.out _ ((Below.refl _ w).alloc (Nat.le_refl _) _)).mono ?_
          rintro e w1 ⟨rfl, hb⟩
          have Hb := Lib.hid (((Below.refl _ w).alloc (Nat.le_refl _) _).trans (hb.mono (by simp)))
          obtain ⟨⟨b0, b1, b2, b3⟩, _⟩ := res_cells hb
          clear hb
          go_wp2_with fail
          go_ret
          exact ⟨ret_bool (by rw [HW.out]; first | exact decide_eq_true (by omega) | exact (decide_eq_true (by omega)).trans (decide_eq_true (by omega)).symm), Hb.out⟩
        · go_enter Tryz.func84, Tryz.ntmps84
          go_wp2_with fail
          refine (HRi.out _ ((Below.refl _ w).alloc (Nat.le_refl _) _)).mono ?_
          rintro e w1 ⟨rfl, hb⟩
          have Hb := Lib.hid (((Below.refl _ w).alloc (Nat.le_refl _) _).trans (hb.mono (by simp)))
          obtain ⟨⟨b0, b1, b2, b3⟩, _⟩ := res_cells hb
          clear hb
          go_wp2_with fail
          go_ret
          exact ⟨ret_bool (by rw [HW.out]; first | exact decide_eq_false (by omega) | exact (decide_eq_false (by omega)).trans (decide_eq_false (by omega)).symm), Hb.out⟩
      · go_enter Tryz.func84, Tryz.ntmps84
        go_wp2_with fail
        refine (HRi.out _ ((Below.refl _ w).alloc (Nat.le_refl _) _)).mono ?_
        rintro e w1 ⟨rfl, hb⟩
        have Hb := Lib.hid (((Below.refl _ w).alloc (Nat.le_refl _) _).trans (hb.mono (by simp)))
        obtain ⟨⟨b0, b1, b2, b3⟩, _⟩ := res_cells hb
        clear hb
        go_wp2_with fail
        go_ret
        exact ⟨ret_bool (by rw [HW.out]; first | exact decide_eq_false (by omega) | exact (decide_eq_false (by omega)).trans (decide_eq_false (by omega)).symm), Hb.out⟩
    · have HW := Lib.hid (within_n (lo := lo) (hi := hi) hr (by simp))
      simp only at HW
      clear hr hm
      by_cases h1 : lo ≤ n
      · by_cases h2 : n ≤ hi
        · go_enter Tryz.func84, Tryz.ntmps84
          go_wp2_with fail
          refine (HRi.out _ ((Below.refl _ w).alloc (Nat.le_refl _) _)).mono ?_
          rintro e w1 ⟨rfl, hb⟩
          have Hb := Lib.hid (((Below.refl _ w).alloc (Nat.le_refl _) _).trans (hb.mono (by simp)))
          obtain ⟨⟨b0, b1, b2, b3⟩, _⟩ := res_cells hb
          clear hb
          go_wp2_with fail
          go_ret
          exact ⟨ret_bool (by rw [HW.out]; first | exact decide_eq_true (by omega) | exact (decide_eq_true (by omega)).trans (decide_eq_true (by omega)).symm), Hb.out⟩
        · go_enter Tryz.func84, Tryz.ntmps84
          go_wp2_with fail
          refine (HRi.out _ ((Below.refl _ w).alloc (Nat.le_refl _) _)).mono ?_
          rintro e w1 ⟨rfl, hb⟩
          have Hb := Lib.hid (((Below.refl _ w).alloc (Nat.le_refl _) _).trans (hb.mono (by simp)))
          obtain ⟨⟨b0, b1, b2, b3⟩, _⟩ := res_cells hb
          clear hb
          go_wp2_with fail
          go_ret
          exact ⟨ret_bool (by rw [HW.out]; first | exact decide_eq_false (by omega) | exact (decide_eq_false (by omega)).trans (decide_eq_false (by omega)).symm), Hb.out⟩
      · go_enter Tryz.func84, Tryz.ntmps84
        go_wp2_with fail
        refine (HRi.out _ ((Below.refl _ w).alloc (Nat.le_refl _) _)).mono ?_
        rintro e w1 ⟨rfl, hb⟩
        have Hb := Lib.hid (((Below.refl _ w).alloc (Nat.le_refl _) _).trans (hb.mono (by simp)))
        obtain ⟨⟨b0, b1, b2, b3⟩, _⟩ := res_cells hb
        clear hb
        go_wp2_with fail
        go_ret
        exact ⟨ret_bool (by rw [HW.out]; first | exact decide_eq_false (by omega) | exact (decide_eq_false (by omega)).trans (decide_eq_false (by omega)).symm), Hb.out⟩
    · have HW := Lib.hid (within_o (lo := lo) (hi := hi) hr (by simp))
      clear hr hm
      go_enter Tryz.func84, Tryz.ntmps84
      go_wp2_with fail
      refine (HRi.out _ ((Below.refl _ w).alloc (Nat.le_refl _) _)).mono ?_
      rintro e w1 ⟨rfl, hb⟩
      have Hb := Lib.hid (((Below.refl _ w).alloc (Nat.le_refl _) _).trans (hb.mono (by simp)))
      obtain ⟨⟨b0, b1, b2, b3⟩, _⟩ := res_cells hb
      clear hb
      go_wp2_with fail
      go_ret
      exact ⟨ret_bool (by rw [HW.out]), Hb.out⟩
    · have HW := Lib.hid (within_6 (lo := lo) (hi := hi) hr rfl)
      simp only [hm] at HW
      clear hr hm
      by_cases h1 : lo ≤ (m : Int)
      · by_cases h2 : (m : Int) ≤ hi
        · go_enter Tryz.func84, Tryz.ntmps84
          go_wp2_with fail
          refine (HRi.out _ ((Below.refl _ w).alloc (Nat.le_refl _) _)).mono ?_
          rintro e w1 ⟨rfl, hb⟩
          have Hb := Lib.hid (((Below.refl _ w).alloc (Nat.le_refl _) _).trans (hb.mono (by simp)))
          obtain ⟨⟨b0, b1, b2, b3⟩, _⟩ := res_cells hb
          clear hb
          go_wp2_with fail
          go_ret
          exact ⟨ret_bool (by rw [HW.out]; first | exact decide_eq_true (by omega) | exact (decide_eq_true (by omega)).trans (decide_eq_true (by omega)).symm), Hb.out⟩
        · go_enter Tryz.func84, Tryz.ntmps84
          go_wp2_with fail
          refine (HRi.out _ ((Below.refl _ w).alloc (Nat.le_refl _) _)).mono ?_
          rintro e w1 ⟨rfl, hb⟩
          have Hb := Lib.hid (((Below.refl _ w).alloc (Nat.le_refl _) _).trans (hb.mono (by simp)))
          obtain ⟨⟨b0, b1, b2, b3⟩, _⟩ := res_cells hb
          clear hb
          go_wp2_with fail
          go_ret
          exact ⟨ret_bool (by rw [HW.out]; first | exact decide_eq_false (by omega) | exact (decide_eq_false (by omega)).trans (decide_eq_false (by omega)).symm), Hb.out⟩
      · go_enter Tryz.func84, Tryz.ntmps84
        go_wp2_with fail
        refine (HRi.out _ ((Below.refl _ w).alloc (Nat.le_refl _) _)).mono ?_
        rintro e w1 ⟨rfl, hb⟩
        have Hb := Lib.hid (((Below.refl _ w).alloc (Nat.le_refl _) _).trans (hb.mono (by simp)))
        obtain ⟨⟨b0, b1, b2, b3⟩, _⟩ := res_cells hb
        clear hb
        go_wp2_with fail
        go_ret
        exact ⟨ret_bool (by rw [HW.out]; first | exact decide_eq_false (by omega) | exact (decide_eq_false (by omega)).trans (decide_eq_false (by omega)).symm), Hb.out⟩
end Go.Proofs.YtbelnaiekbfoiaaGreatDoor.va
/- Settings in memory: what each holds, the rows of its words. Plain facts on memory; no conditions beside those stated. -/
namespace Go.Proofs.YtbelnaiekbfoiaaGreatDoor.ly
open Go.ChangeShapes Go.WideShapes Go.ChangeAt Go.RowKit gl va ls ky

/-! ### Words -/
def wdC (x : ByteArray) : List Value := [.string x]
theorem wdC_len : ∀ x, (wdC x).length = 1 := fun _ => rfl
theorem wdC_one : ∀ x, ∀ v ∈ wdC x, v.oneCell' = true := fun x v hv => by
  unfold wdC at hv
  rw [List.mem_singleton] at hv
  subst hv
  rfl
abbrev NewWd (M : Nat) (w : World) (sl : Value) (xs : List ByteArray) : Prop := rw.NewRw wdC 1 9 M w sl xs
theorem wd_strs {w : World} {sl : Value} {xs : List ByteArray} (h : rw.Rw wdC 1 w sl xs) : Strs w sl xs := by
  obtain ⟨p, c, rfl, hc, h⟩ := h
  refine ⟨p, c, rfl, hc, ?_⟩
  rcases h with h | ⟨b, o, rfl, hb, hat⟩
  · exact .inl h
  · refine .inr ⟨b, o, rfl, hb, fun j x hx => ?_⟩
    have := hat j x hx 0 _ rfl
    rwa [Nat.mul_one, Nat.add_zero] at this
theorem NewWd.strs {M : Nat} {w : World} {sl : Value} {xs : List ByteArray} (h : NewWd M w sl xs) : Strs w sl xs := wd_strs (h.rw wdC_len)
theorem wd_flat (xs : List ByteArray) : rw.flat wdC xs = xs.map Value.string := by
  unfold rw.flat wdC
  induction xs with
  | nil => rfl
  | cons x r ih => simp [ih]
theorem fresh_wd {w w' : World} {sl : Value} {xs : List ByteArray} (h : Fresh w w' sl xs) : NewWd w.heap.size w' sl xs := by
  rcases h with ⟨rfl, rfl⟩ | ⟨g, rfl, hg, hb⟩
  · exact .inl ⟨rfl, rfl⟩
  · refine .inr ⟨g, xs.length, _, rfl, Nat.le_refl _, hg, hb, by simp, fun i v hv => ?_⟩
    rw [wd_flat] at hv
    rw [Nat.zero_add, List.getElem?_toArray]
    exact hv

/-! ### What a setting holds -/
structure Hd where
  v : Val
  p : Option Addr
  c : Nat
  src : Int
abbrev Hd.sl (h : Hd) : Value := .slice h.p h.v.words.length h.c
def hdC (h : Hd) : List Value := [.int .i64 h.v.kind, .int .i64 h.v.int, .string h.v.text, h.sl, .int .i64 h.src]
theorem hdC_len : ∀ x, (hdC x).length = 5 := fun _ => rfl
theorem hdC_one : ∀ x, ∀ v ∈ hdC x, v.oneCell' = true := fun x v hv => by
  unfold hdC at hv
  simp only [List.mem_cons, List.not_mem_nil, or_false] at hv
  rcases hv with rfl | rfl | rfl | rfl | rfl <;> rfl
/-- A setting as it is told: its name, what it holds. -/
structure Sg where
  name : List UInt8
  h : Hd
def sgC (s : Sg) : List Value := [.string (B s.name), .int .i64 s.h.v.kind, .int .i64 s.h.v.int, .string s.h.v.text, s.h.sl, .int .i64 s.h.src]
theorem sgC_len : ∀ x, (sgC x).length = 6 := fun _ => rfl
theorem sgC_one : ∀ x, ∀ v ∈ sgC x, v.oneCell' = true := fun x v hv => by
  unfold sgC at hv
  simp only [List.mem_cons, List.not_mem_nil, or_false] at hv
  rcases hv with rfl | rfl | rfl | rfl | rfl | rfl <;> rfl
/-- What is held, without its place in memory. -/
structure Vs where
  v : Val
  src : Int
def Hd.vs (h : Hd) : Vs := ⟨h.v, h.src⟩
/-- Each value's words lie in memory of their own. -/
def Wds (M : Nat) (w : World) (R : List Hd) : Prop := ∀ h ∈ R, NewWd M w h.sl h.v.words
theorem Wds.later {M : Nat} {w w' : World} {R : List Hd} (h : Wds M w R) (hb : Below w.heap.size w w') : Wds M w' R := fun x hx => (h x hx).later hb
theorem Wds.mono {M M' : Nat} {w : World} {R : List Hd} (h : Wds M w R) (hM : M' ≤ M) : Wds M' w R := fun x hx => (h x hx).mono hM
theorem Wds.keep {M : Nat} {w w' : World} {R : List Hd} (h : Wds M w R) (hk : SK 9 w w') : Wds M w' R := fun x hx => (h x hx).keep hk
theorem Wds.set {M : Nat} {w : World} {R : List Hd} (h : Wds M w R) {x : Hd} (hx : NewWd M w x.sl x.v.words) (i : Nat) : Wds M w (R.set i x) := fun y hy => by
  rcases List.mem_or_eq_of_mem_set hy with hy | rfl
  · exact h y hy
  · exact hx
theorem Wds.snoc {M : Nat} {w : World} {R : List Hd} (h : Wds M w R) {x : Hd} (hx : NewWd M w x.sl x.v.words) : Wds M w (R ++ [x]) := fun y hy => by
  rcases List.mem_append.1 hy with hy | hy
  · exact h y hy
  · rw [List.mem_singleton] at hy; subst hy; exact hx
/-- A store into one block of another type leaves the blocks of a type as they are. -/
theorem sk_upd {T T' : TypeId} {w w' : World} {S : List Nat} (hu : Upd S w w') (hS : ∀ g ∈ S, ∃ cs, w.heap[g]? = some (.cells cs T' (0, 0))) (hT : T ≠ T') : SK T w w' := fun g cs h => by
  refine hu.obj h fun hm => ?_
  obtain ⟨cs', h'⟩ := hS g hm
  rw [h] at h'
  injection h' with e
  injection e with _ e _
  exact hT e
end Go.Proofs.YtbelnaiekbfoiaaGreatDoor.ly
/- Package layer: where a name stands among definitions that ascend. Conditions: at most 4294967295 definitions. -/
namespace Go.Proofs.YtbelnaiekbfoiaaGreatDoor.ly
open Go.ChangeShapes Go.WideShapes Go.ChangeAt Go.RowKit gl va ls ky

theorem go_nm {K : Act → World → Prop} {a : Act} {W : World} (h : ∀ W', W' = W → K a W') : K a W := h W rfl

theorem place1_any (x : Ky) (t : ByteArray) (w : World) :
    Calls Tryz.prog 107 #[.agg #[.string (B x.name), .int .i64 x.kind, .string (B x.dflt), .int .i64 x.least, .int .i64 x.most, .string (B x.letter)], .string t] w fun e w' => e = .returned (.int .i64 (cmpL (B x.name).data.toList t.data.toList)) ∧ Below w.heap.size w w' := by
  have hb : Below w.heap.size w (w.alloc (.cells #[.string (B x.name), .int .i64 x.kind, .string (B x.dflt), .int .i64 x.least, .int .i64 x.most, .string (B x.letter)] 79)) := (Below.refl _ _).alloc (Nat.le_refl _) _
  have Hb := Lib.hid hb
  have HC := Lib.hid (Tryz.strings_Compare (B x.name) t)
  clear hb
  generalize B x.name = nm at *
  generalize B x.dflt = df at *
  generalize B x.letter = lt at *
  go_enter Tryz.func107, Tryz.ntmps107
  go_wp2_with fail
  refine (HC.out _).mono ?_
  rintro e w1 ⟨rfl, rfl⟩
  go_wp2_with fail
  go_ret
  exact ⟨by rw [cmpB_eq]; rfl, Hb.out⟩
set_option maxHeartbeats 2000000 in
set_option maxRecDepth 100000 in
theorem search_any (p : Option Addr) (m c : Nat) (R : List Ky) (t : List UInt8) (hm : m ≤ 4294967295) (ha : (R.map (·.name)).Pairwise fun a b => ltL a b = true) (w : World) (h : rw.Rw kyC 6 w (.slice p m c) R) :
    Calls Tryz.prog 106 #[.slice p m c, .string (B t), .func (.func 107) #[] #[]] w fun e w' =>
      (∃ k b, e = .returned (.tuple #[.int .i64 (k : Nat), .bool b]) ∧ FoundAt (R.map (·.name)) t k b) ∧ Below w.heap.size w w' := by
  have HR := Lib.hid h
  have Hptr := Lib.hid h.ptr
  have Ha := Lib.hid ha
  have Ht := Lib.hid (show (B t).data.toList = t from by simp)
  have HC := Lib.hid fun (x : Ky) W => place1_any x (B t) W
  generalize B t = tt at *
  clear h ha
  go_enter Tryz.func106, Tryz.ntmps106
  go_wp2_with fail
  go_loopw [9, 10] (fun vi vj wr => ∃ i j : Nat, i ≤ j ∧ j ≤ m ∧ vi = .int .i64 i ∧ vj = .int .i64 j ∧ Hid (Betw (R.map (·.name)) t i j) ∧ Hid (Below w.heap.size w wr)) (fun vi vj _ => (intOf vj).toNat - (intOf vi).toNat)
  case atStart => exact ⟨0, m, by omega, by omega, rfl, rfl, Lib.hid fun k x hx => ⟨fun hk => by omega, fun hk => by
    have := lt_get hx
    rw [List.length_map, Hptr.out.1] at this
    omega⟩, Lib.hid (Below.refl _ _)⟩
  case round =>
    obtain ⟨i, j, hij, hj, rfl, rfl, HB, Hb⟩ := hrel
    have hzr := Hb.out.size
    by_cases hlt : i < j
    · have hhm : (i + j) / 2 < m := by omega
      obtain ⟨b, o, rfl, hbl⟩ := Hptr.out.2.2 (by omega)
      obtain ⟨x, hx⟩ : ∃ x, R[(i + j) / 2]? = some x := ⟨_, List.getElem?_eq_getElem (by rw [Hptr.out.1]; exact hhm)⟩
      obtain ⟨k0, k1, k2, k3, k4, k5⟩ := ky_cells (HR.out.later Hb.out) hx
      have hxi : (R.map (·.name))[(i + j) / 2]? = some x.name := by rw [List.getElem?_map, hx]; rfl
      have HCx := Lib.hid (HC.out x)
      rw [B_list] at HCx
      have hbr : b < wr.heap.size := by omega
      cases hl : ltL x.name t with
      | true =>
        have HB2 := Lib.hid (betw_up Ha.out HB.out hxi hl)
        have hc : cmpL x.name t = -1 := by unfold cmpL; rw [if_pos hl]
        rw [Ht.out, hc] at HCx
        clear hl hxi hc hx HB
        generalize B x.name = nm at *
        generalize B x.dflt = df at *
        generalize B x.letter = lt at *
        generalize x.kind = kk at *
        generalize x.least = le at *
        generalize x.most = mo at *
        go_wp2_with fail
        refine (HCx.out _).mono ?_
        rintro e w1 ⟨rfl, hb1⟩
        have Hb1 := Lib.hid (then_bel Hb.out hb1)
        clear hb1
        go_wp2_with fail
        go_roundw
        case rel => exact ⟨(i + j) / 2 + 1, j, by omega, hj, by go_num, rfl, HB2, Hb1⟩
        case measure => simp [intOf]; omega
      | false =>
        have HB2 := Lib.hid (betw_dn Ha.out HB.out hxi hl)
        have hc : ∃ z : Int, cmpL x.name t = z ∧ 0 ≤ z := by
          unfold cmpL; rw [if_neg (by rw [hl]; simp)]; split
          · exact ⟨0, rfl, by omega⟩
          · exact ⟨1, rfl, by omega⟩
        obtain ⟨z, hc, hz0⟩ := hc
        rw [Ht.out, hc] at HCx
        clear hl hxi hc hx HB
        generalize B x.name = nm at *
        generalize B x.dflt = df at *
        generalize B x.letter = lt at *
        generalize x.kind = kk at *
        generalize x.least = le at *
        generalize x.most = mo at *
        have hz1 : decide (z < 0) = false := by rw [decide_eq_false_iff_not]; omega
        have hz2 : ¬ (z < 0) := by omega
        go_wp2_with fail
        refine (HCx.out _).mono ?_
        rintro e w1 ⟨rfl, hb1⟩
        have Hb1 := Lib.hid (then_bel Hb.out hb1)
        clear hb1
        go_wp2_with fail
        go_roundw
        case rel => exact ⟨i, (i + j) / 2, by omega, by omega, rfl, by go_num, HB2, Hb1⟩
        case measure => simp [intOf]; omega
    · obtain rfl : i = j := by omega
      have hF := betw_end (by rw [List.length_map, Hptr.out.1]; exact hj) HB.out
      by_cases h5 : i < m
      · obtain ⟨b, o, rfl, hbl⟩ := Hptr.out.2.2 (by omega)
        obtain ⟨x, hx⟩ : ∃ x, R[i]? = some x := ⟨_, List.getElem?_eq_getElem (by rw [Hptr.out.1]; exact h5)⟩
        obtain ⟨k0, k1, k2, k3, k4, k5⟩ := ky_cells (HR.out.later Hb.out) hx
        have hxi : (R.map (·.name))[i]? = some x.name := by rw [List.getElem?_map, hx]; rfl
        have HCx := Lib.hid (HC.out x)
        rw [B_list] at HCx
        have hbr : b < wr.heap.size := by omega
        rw [hxi] at hF
        have hl := (HB.out i _ hxi).2 (Nat.le_refl _)
        have hc : ∃ z : Int, cmpL x.name t = z ∧ decide (z = 0) = decide (some x.name = some t) := by
          unfold cmpL; rw [if_neg (by rw [hl]; simp)]; split
          · exact ⟨0, rfl, by simp [*]⟩
          · exact ⟨1, rfl, by simp [*]⟩
        obtain ⟨z, hc, hz0⟩ := hc
        rw [Ht.out, hc] at HCx
        rw [← hz0] at hF
        have HF := Lib.hid hF
        clear hl hxi hc hx HB hF hz0
        generalize B x.name = nm at *
        generalize B x.dflt = df at *
        generalize B x.letter = lt at *
        generalize x.kind = kk at *
        generalize x.least = le at *
        generalize x.most = mo at *
        have h5' : decide ((i : Int) < (m : Int)) = true := by simp; omega
        have h5i : (i : Int) < (m : Int) := by omega
        have h50 : (0 : Int) ≤ (i : Int) := by omega
        go_wp2_with fail
        refine (HCx.out _).mono ?_
        rintro e w1 ⟨rfl, hb1⟩
        have Hb1 := Lib.hid (then_bel Hb.out hb1)
        clear hb1
        go_wp2_with fail
        go_ret2
        exact ⟨⟨_, _, rfl, HF.out⟩, Hb1.out⟩
      · obtain rfl : i = m := by omega
        have h5' : decide ((i : Int) < (i : Int)) = false := by simp
        rw [List.getElem?_eq_none (by rw [List.length_map, Hptr.out.1]; exact Nat.le_refl _)] at hF
        have HF := Lib.hid hF
        clear HB hF
        go_wp2_with fail
        go_ret2
        exact ⟨⟨_, _, rfl, HF.out⟩, Hb.out⟩
theorem place_any (p : Option Addr) (c : Nat) (D : List Ky) (t : List UInt8) (hn : D.length ≤ 4294967295) (ha : AscK D) (w : World) (h : Kys w (.slice p D.length c) D) :
    Calls Tryz.prog 55 #[.agg #[.slice p D.length c], .string (B t)] w fun e w' => (∃ k is, e = .returned (.tuple #[.int .i64 (k : Nat), .bool is]) ∧ FoundAt (D.map (·.name)) t k is) ∧ Below w.heap.size w w' := by
  have HS := fun W (hb : Below w.heap.size w W) => search_any p D.length c D t hn ha W (h.later hb)
  have HSX := Lib.hid HS
  clear HS h
  generalize D.length = n at *
  generalize B t = tt at *
  go_enter Tryz.func55, Tryz.ntmps55
  go_upto_region 1 with fail
  refine go_nm (fun wA hA => ?_)
  have hbA : Below w.heap.size w wA := by rw [hA]; exact (Below.refl _ _).alloc (Nat.le_refl _) _
  have kA : wA.heap[w.heap.size]? = some (.cells #[.slice p n c] 88 (0, 0)) := by rw [hA]; exact heap_alloc_new w _
  have c0 : wA.cell? ⟨w.heap.size, 0, none⟩ = some (.slice p n c) := cell_in kA
  have HbA := Lib.hid hbA
  have hlA := lt_of_block kA
  clear hA kA hbA
  go_wp2_with fail
  refine (HSX.out _ HbA.out).mono ?_
  rintro e w1 ⟨⟨k, is, rfl, hF⟩, hb1⟩
  have HF := Lib.hid hF
  have Hb1 := Lib.hid (HbA.out.trans (hb1.mono HbA.out.size))
  clear hF hb1
  go_wp2_with fail
  go_ret2
  exact ⟨⟨_, _, rfl, HF.out⟩, Hb1.out⟩
end Go.Proofs.YtbelnaiekbfoiaaGreatDoor.ly
/- Package layer: own (a value in memory of its own). Conditions: at most 4294967295 words. -/
namespace Go.Proofs.YtbelnaiekbfoiaaGreatDoor.ly
open Go.ChangeShapes Go.WideShapes Go.ChangeAt Go.RowKit gl va ls ky

theorem infoWd : (Tryz.prog.info? 9).map (fun i => (i.zero, i.size, i.bytes)) = some (some (.string .empty), 1, 16) := by kernel_rfl
theorem cloneW_any (sl : Value) (xs : List ByteArray) (hm : xs.length ≤ 4294967295) (w : World) (h : Strs w sl xs) :
    Calls Tryz.prog 66 #[sl] w fun e w' => (∃ p c, e = .returned (.slice p xs.length c) ∧ xs.length ≤ c ∧ NewWd w.heap.size w' (.slice p xs.length xs.length) xs) ∧ Below w.heap.size w w' := by
  obtain ⟨p, c, rfl, hc, hat⟩ := h
  have hr : rw.Rw wdC 1 w (.slice p xs.length c) xs := ⟨p, c, rfl, hc, hat.imp id fun ⟨b, o, e, hb, h⟩ => ⟨b, o, e, hb, fun j x hx i u hu => by
    have hi : i = 0 := by have := lt_get hu; simp [wdC] at this; omega
    subst hi
    obtain rfl : u = .string x := by simpa [wdC] using hu.symm
    rw [Nat.mul_one, Nat.add_zero]
    exact h j x hx⟩⟩
  refine (clone_list Tryz.cloneStr wdC_len wdC_one (by decide) infoWd rfl (by decide) Tryz.sizeOf9 p xs.length c xs hm w hr).mono ?_
  rintro e w' ⟨v, rfl, hv, hb⟩
  have hn := rw.own_new wdC_len (by decide) hv
  obtain ⟨p', c', rfl⟩ := hn.form
  exact ⟨⟨p', c', rfl, (hn.rw wdC_len).ptr.2.1, hn.clip⟩, hb⟩
theorem clipW_any (p : Option Addr) (n c : Nat) (hn : n ≤ c) (hc : n ≤ 4294967295) (w : World) : Calls Tryz.prog 33 #[.slice p n c] w fun e w' => e = .returned (.slice p n n) ∧ w = w' := by
  have h1 : (n : Int) ≤ (c : Int) := by omega
  have h2 : (0 : Int) ≤ (n : Int) := by omega
  go_enter Tryz.func33, Tryz.ntmps33
  go_wp2_with fail
  go_ret
  exact ⟨rfl, rfl⟩
theorem new_far {α : Type} {enc : α → List Value} {k : Nat} {T : TypeId} {M : Nat} {w : World} {v : Value} {l : List α} (h : rw.NewRw enc k T M w v l) {a : Addr} (u : Value) (hn : a.block < M) : rw.NewRw enc k T M (w.setCell a u) v l := by
  rcases h with h | ⟨g, c, cs, rfl, hc, hg, hbk, h2⟩
  · exact .inl h
  · exact .inr ⟨g, c, cs, rfl, hc, hg, (heap_setCell_other w a g u (by omega)).trans hbk, h2⟩
set_option maxHeartbeats 4000000 in
set_option maxRecDepth 100000 in
theorem own_any (v : Val) (sl : Value) (hm : v.words.length ≤ 4294967295) (w : World) (h : Strs w sl v.words) :
    Calls Tryz.prog 49 #[rep v sl] w fun e w' => (∃ p, e = .returned (rep v (.slice p v.words.length v.words.length)) ∧ NewWd w.heap.size w' (.slice p v.words.length v.words.length) v.words) ∧ Below w.heap.size w w' := by
  obtain ⟨k, n, t, ws⟩ := v
  simp only at hm h
  unfold rep
  simp only
  have HC := Lib.hid fun (W : World) (hb : Below w.heap.size w W) => cloneW_any sl ws hm W (h.below hb (Nat.le_refl _))
  clear h
  go_enter Tryz.func49, Tryz.ntmps49
  go_upto_region 1 with fail
  refine go_nm (fun wA hA => ?_)
  have hbA : Below w.heap.size w wA := by rw [hA]; exact ((Below.refl _ _).alloc (Nat.le_refl _) _).alloc (by simp) _
  have kA : wA.heap[w.heap.size]? = some (.cells #[.int .i64 k, .int .i64 n, .string t, sl] 45 (0, 0)) := by rw [hA]; exact heap_al (heap_alloc_new w _) _
  have kB : wA.heap[w.heap.size + 1]? = some (.cells #[.int .i64 0, .int .i64 0, .string ⟨#[]⟩, .slice none 0 0] 45 (0, 0)) := by
    rw [hA]
    have h := heap_alloc_new (w.alloc (.cells #[.int .i64 k, .int .i64 n, .string t, sl] 45)) (.cells #[.int .i64 0, .int .i64 0, .string ⟨#[]⟩, .slice none 0 0] 45)
    rwa [World.size_alloc] at h
  have a3 : wA.cell? ⟨w.heap.size, 3, none⟩ = some sl := cell_in kA
  have HbA := Lib.hid hbA
  have HkA := Lib.hid kA
  have HkB := Lib.hid kB
  have hlA := lt_of_block kA
  clear hA hbA kA kB
  go_wp2_with fail
  refine (HC.out wA HbA.out).mono ?_
  rintro e w1 ⟨⟨p1, c1, rfl, hc1, hn1⟩, hb1⟩
  have HN1 := Lib.hid hn1
  have hlB := lt_of_block HkB.out
  have Hb1 := Lib.hid (HbA.out.trans (hb1.mono HbA.out.size))
  have Hk1 := Lib.hid ((hb1.block _ hlA).trans HkA.out)
  have Hk2 := Lib.hid ((hb1.block _ (lt_of_block HkB.out)).trans HkB.out)
  have hA1 : wA.heap.size ≤ w1.heap.size := hb1.size
  clear hn1 hb1 a3 HkA HkB
  go_wp2_with fail
  refine (clipW_any p1 ws.length c1 hc1 hm w1).mono ?_
  rintro e w2 ⟨rfl, rfl⟩
  have b0 : w1.cell? ⟨w.heap.size, 0, none⟩ = some (.int .i64 k) := cell_in Hk1.out
  have b1 : w1.cell? ⟨w.heap.size, 1, none⟩ = some (.int .i64 n) := cell_in Hk1.out
  have b2 : w1.cell? ⟨w.heap.size, 2, none⟩ = some (.string t) := cell_in Hk1.out
  have b3 : w1.cell? ⟨w.heap.size, 3, none⟩ = some sl := cell_in Hk1.out
  have d0 : w1.cell? ⟨w.heap.size + 1, 0, none⟩ = some (.int .i64 0) := cell_in Hk2.out
  have d1 : w1.cell? ⟨w.heap.size + 1, 1, none⟩ = some (.int .i64 0) := cell_in Hk2.out
  have d2 : w1.cell? ⟨w.heap.size + 1, 2, none⟩ = some (.string ⟨#[]⟩) := cell_in Hk2.out
  have d3 : w1.cell? ⟨w.heap.size + 1, 3, none⟩ = some (.slice none 0 0) := cell_in Hk2.out
  have f1 : ∀ o, w1.frozen? ⟨w.heap.size, o, none⟩ = false := fun o => free_in Hk1.out
  have f2 : ∀ o, w1.frozen? ⟨w.heap.size + 1, o, none⟩ = false := fun o => free_in Hk2.out
  have hl1 := lt_of_block Hk1.out
  have hl2 := lt_of_block Hk2.out
  generalize hwn : ws.length = nw at *
  go_wp2_with fail
  subst hwn
  have HK3 : Hid (_ = some (Obj.cells #[.int .i64 k, .int .i64 n, .string t, .slice p1 ws.length ws.length] 45 (0, 0))) := Lib.hid (heap_set (o := 3) (heap_set (o := 2) (heap_set (o := 1) (heap_set (o := 0) (heap_set_ne Hk2.out (p := ⟨w.heap.size, 3, none⟩) (.slice p1 ws.length ws.length) (by simp)) (.int .i64 k)) (.int .i64 n)) (.string t)) (.slice p1 ws.length ws.length))
  refine bodyPost_ret (results_cell_row rfl _ _ (w.heap.size + 1) 45 _ _ _ rfl HK3.out Tryz.underlying45 rfl (by kernel_rfl)) rfl ?_
  refine ⟨⟨p1, rfl, rw.NewRw.mono (M := wA.heap.size) ?_ HbA.out.size⟩, ?_⟩
  · repeat (refine new_far ?_ _ (by simp only; omega))
    exact HN1.out
  · repeat (refine Below.setCell ?_ (by simp only; omega) _)
    exact Hb1.out
end Go.Proofs.YtbelnaiekbfoiaaGreatDoor.ly
/- Settings in memory: definitions beside what each holds. Plain facts on memory; no conditions beside those stated. -/
namespace Go.Proofs.YtbelnaiekbfoiaaGreatDoor.ly
open Go.ChangeShapes Go.WideShapes Go.ChangeAt Go.RowKit gl va ls ky

/-- Settings at block b, from M on: definitions D, what they hold R in the slice hs. -/
structure LSet (M : Nat) (w : World) (b : Nat) (hs : Value) (D : List Ky) (R : List Hd) : Prop where
  lo : M ≤ b
  len : R.length = D.length
  obj : ∃ ks, w.heap[b]? = some (.cells #[ks, hs] 91 (0, 0)) ∧ NewKs M w ks D
  held : Blk 107 5 M w hs R.length (rw.flat hdC R)
  wds : Wds M w R
theorem LSet.later {M : Nat} {w w' : World} {b : Nat} {hs : Value} {D : List Ky} {R : List Hd} (h : LSet M w b hs D R) (hb : Below w.heap.size w w') : LSet M w' b hs D R := by
  obtain ⟨ks, h1, h2⟩ := h.obj
  exact ⟨h.lo, h.len, ⟨ks, (hb.block b (lt_of_block h1)).trans h1, h2.later hb⟩, h.held.later hb, h.wds.later hb⟩
theorem LSet.lt {M : Nat} {w : World} {b : Nat} {hs : Value} {D : List Ky} {R : List Hd} (h : LSet M w b hs D R) : b < w.heap.size := by
  obtain ⟨ks, h1, _⟩ := h.obj
  exact lt_of_block h1
theorem blk_owned {T : TypeId} {k M n : Nat} {w : World} {v : Value} {xs : List Value} (h : Blk T k M w v n xs) : ∀ g, v.ownBlock = some g → M ≤ g ∧ ∃ cs, w.heap[g]? = some (.cells cs T (0, 0)) := fun g hg => by
  rcases h.2 with ⟨rfl, _⟩ | ⟨q, c, cs, rfl, _, hM, hb, _⟩
  · cases hg
  · obtain rfl := Option.some.inj hg
    exact ⟨hM, cs, hb⟩
theorem blk_apart {T : TypeId} {k M n : Nat} {w w' : World} {v : Value} {xs : List Value} {S : List Nat} (h : Blk T k M w v n xs) (hu : Upd S w w') (hn : ∀ g, v.ownBlock = some g → g ∉ S) : Blk T k M w' v n xs := by
  refine ⟨h.1, ?_⟩
  rcases h.2 with h1 | ⟨q, c, cs, rfl, h1, h2, hb, h4⟩
  · exact .inl h1
  · exact .inr ⟨q, c, cs, rfl, h1, h2, hu.obj hb (hn q rfl), h4⟩
/-- Other settings' store leaves these. -/
theorem LSet.apart {M : Nat} {w w' : World} {b : Nat} {hs : Value} {D : List Ky} {R : List Hd} {S : List Nat} (h : LSet M w b hs D R) (hu : Upd S w w') (hS : ∀ g ∈ S, ∃ cs, w.heap[g]? = some (.cells cs 107 (0, 0))) (hn : ∀ g, hs.ownBlock = some g → g ∉ S) : LSet M w' b hs D R := by
  obtain ⟨ks, h1, h2⟩ := h.obj
  refine ⟨h.lo, h.len, ⟨ks, hu.obj h1 fun hm => ?_, h2.keep (sk_upd hu hS (by decide))⟩, blk_apart h.held hu hn, h.wds.keep (sk_upd hu hS (by decide))⟩
  obtain ⟨cs, h3⟩ := hS b hm
  rw [h1] at h3
  injection h3 with e
  injection e with _ e _
  exact absurd e (by decide)
/-- The cells of what a setting holds. -/
theorem LSet.cells {M : Nat} {w : World} {b g n c : Nat} {D : List Ky} {R : List Hd} (h : LSet M w b (.slice (some ⟨g, 0, none⟩) n c) D R) {j : Nat} {x : Hd} (hx : R[j]? = some x) :
    w.cell? ⟨g, j * 5, none⟩ = some (.int .i64 x.v.kind) ∧ w.cell? ⟨g, j * 5 + 1, none⟩ = some (.int .i64 x.v.int) ∧ w.cell? ⟨g, j * 5 + 2, none⟩ = some (.string x.v.text) ∧ w.cell? ⟨g, j * 5 + 3, none⟩ = some x.sl ∧ w.cell? ⟨g, j * 5 + 4, none⟩ = some (.int .i64 x.src) := by
  have hB := h.held
  obtain ⟨p, c', e⟩ := hB.form
  obtain rfl : n = R.length := by cases e; rfl
  exact ⟨hB.cell (rw.flat_at hdC_len R j x 0 _ hx rfl), hB.cell (rw.flat_at hdC_len R j x 1 _ hx rfl), hB.cell (rw.flat_at hdC_len R j x 2 _ hx rfl), hB.cell (rw.flat_at hdC_len R j x 3 _ hx rfl), hB.cell (rw.flat_at hdC_len R j x 4 _ hx rfl)⟩
theorem LSet.form {M : Nat} {w : World} {b : Nat} {hs : Value} {D : List Ky} {R : List Hd} (h : LSet M w b hs D R) : ∃ p c pk ck, hs = .slice p D.length c ∧ w.heap[b]? = some (.cells #[.slice pk D.length ck, .slice p D.length c] 91 (0, 0)) ∧ NewKs M w (.slice pk D.length ck) D := by
  obtain ⟨ks, h1, h2⟩ := h.obj
  obtain ⟨p, c, e⟩ := h.held.form
  obtain ⟨pk, ck, e2⟩ := h2.form
  subst e e2
  rw [h.len] at h1
  exact ⟨p, c, pk, ck, by rw [h.len], h1, h2⟩
/-- One of them is held anew. -/
theorem LSet.put {M : Nat} {w w' : World} {b g n c : Nat} {D : List Ky} {R : List Hd} {j : Nat} {y : Hd} (h : LSet M w b (.slice (some ⟨g, 0, none⟩) n c) D R) (hj : j < D.length) (hb : Below w.heap.size w w') (hy : NewWd w.heap.size w' y.sl y.v.words) (hM : M ≤ w.heap.size) :
    LSet M (w'.setCells g (j * 5) (hdC y)) b (.slice (some ⟨g, 0, none⟩) n c) D (R.set j y) ∧ Upd [g] w' (w'.setCells g (j * 5) (hdC y)) := by
  have h' := h.later hb
  have hU : Upd [g] w' (w'.setCells g (j * 5) (hdC y)) := upd_setCells (.inl (by simp)) _ _ _ (Upd.refl _ _)
  obtain ⟨hl, hB⟩ := h'.held
  rcases hB with ⟨e, _⟩ | ⟨q, c', cs, e, hnc, hMg, hbk, hcs, htk⟩
  · cases e
  · cases e
    have hS : ∀ k ∈ [g], ∃ cs, w'.heap[k]? = some (.cells cs 107 (0, 0)) := fun k hk => by
      rw [List.mem_singleton] at hk
      subst hk
      exact ⟨cs, hbk⟩
    obtain ⟨ks, h1, h2⟩ := h'.obj
    have hrl := h'.len
    refine ⟨⟨h'.lo, by rw [List.length_set]; exact hrl, ⟨ks, hU.obj h1 fun hm => ?_, h2.keep (sk_upd hU hS (by decide))⟩, ⟨by rw [rw.flat_len hdC_len, List.length_set], .inr ⟨g, c, setR cs (j * 5) (hdC y), by rw [List.length_set], by rw [List.length_set]; exact hnc, hMg, heap_setCells _ w' cs (j * 5) hbk, by rw [setR_size]; exact hcs, ?_⟩⟩, ?_⟩, hU⟩
    · obtain ⟨cs', h3⟩ := hS b hm
      rw [h1] at h3
      injection h3 with e
      injection e with _ e _
      exact absurd e (by decide)
    · rw [List.length_set]
      have hdl : (hdC y).length = 5 := rfl
      have hnc5 := Nat.mul_le_mul_right 5 hnc
      have hj5 : j * 5 + 5 ≤ R.length * 5 := by omega
      refine List.ext_getElem? fun i => ?_
      by_cases hi : i < R.length * 5
      · rw [List.getElem?_take_of_lt hi, Array.getElem?_toList]
        have hq : i / 5 * 5 + i % 5 = i := by omega
        have hm5 : i % 5 < 5 := Nat.mod_lt _ (by decide)
        by_cases hik : i / 5 = j
        · have hyj : (R.set j y)[j]? = some y := List.getElem?_set_self (by omega)
          have hv : (hdC y)[i % 5]? = some ((hdC y)[i % 5]'(by rw [hdl]; exact hm5)) := List.getElem?_eq_getElem _
          have e1 := rw.flat_at hdC_len (R.set j y) j y (i % 5) _ hyj hv
          have e2 := setR_in (hdC y) cs (j * 5) (by rw [hdl]; omega) (i % 5) _ hv
          rw [← hik, hq] at e1 e2
          rw [← hik, e2, e1]
        · obtain ⟨x, hx⟩ : ∃ x, R[i / 5]? = some x := ⟨_, List.getElem?_eq_getElem (by omega)⟩
          have hxs : (R.set j y)[i / 5]? = some x := by rw [List.getElem?_set_ne (by omega)]; exact hx
          have hv : (hdC x)[i % 5]? = some ((hdC x)[i % 5]'(by show i % 5 < 5; exact hm5)) := List.getElem?_eq_getElem _
          have e1 := rw.flat_at hdC_len (R.set j y) (i / 5) x (i % 5) _ hxs hv
          have e2 := rw.flat_at hdC_len R (i / 5) x (i % 5) _ hx hv
          rw [hq] at e1 e2
          rw [setR_out (hdC y) cs (j * 5) i (by rw [hdl]; omega), e1, ← e2, ← htk, List.getElem?_take_of_lt hi, Array.getElem?_toList]
      · rw [List.getElem?_eq_none (by rw [List.length_take]; omega), List.getElem?_eq_none (by rw [rw.flat_len hdC_len, List.length_set]; omega)]
    · exact (h'.wds.keep (sk_upd hU hS (by decide))).set ((hy.keep (sk_upd hU hS (by decide))).mono hM) j
end Go.Proofs.YtbelnaiekbfoiaaGreatDoor.ly
