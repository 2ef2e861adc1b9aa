/- glyph.IsName returns the plain function of bytes. Conditions: the tables hold what the text lays; the text is no longer than 2147483647 bytes. -/
import Derived.Test.YtpfhhaonfbfheaaGreatDoorGlN
import Derived.Test.YtpfhhaonfbfheaaGreatDoorShelf
namespace Go.Proofs.YtpfhhaonfbfheaaGreatDoor.gl
open Go.ChangeShapes Go.WideShapes Go.ChangeAt Go.RowKit

theorem split_any (sep : UInt8) (s : ByteArray) (hs : s.size ≤ 2147483647) (w : World) (hG : Glo w) :
    Calls Tryz.prog 76 #[.string s, .string ⟨#[sep]⟩] w fun e w' => ∃ ps : List ByteArray, ps.map (·.data.toList) = pcs sep s.data.toList ∧
      e = .returned (.slice (some ⟨w.heap.size, 0, none⟩) ps.length ps.length) ∧ Below w.heap.size w w' ∧ w.heap.size < w'.heap.size ∧ (∀ k p, ps[k]? = some p → w'.cell? ⟨w.heap.size, k, none⟩ = some (.string p)) := by
  obtain ⟨m, hm⟩ := hG.maxLen
  refine (Tryz.strings_Split s ⟨#[sep]⟩ m w (by omega) hm (by simp [ByteArray.size])).mono ?_
  rintro e w' ⟨he, rfl⟩
  have hl : (Lib.splitB ⟨#[sep]⟩ 0 (Lib.countB s ⟨#[sep]⟩) s).length = Lib.countB s ⟨#[sep]⟩ + 1 := Lib.splitB_all _ (by simp [ByteArray.size]) 0 _ s rfl
  refine ⟨_, splitB_pcs sep s, by rw [he, hl], (Below.refl _ _).alloc (Nat.le_refl _) _, by simp, fun k p hk => ?_⟩
  rw [cell_of_row _ _ _ _ _ _ (heap_alloc_new w _)]
  simp [hk]

theorem pieceAt {ps : List ByteArray} {L : List (List UInt8)} (h : ps.map (·.data.toList) = L) (k : Nat) (hk : k < ps.length) : ∃ p : ByteArray, ps[k]? = some p ∧ L[k]? = some p.data.toList :=
  ⟨ps[k], List.getElem?_eq_getElem hk, by rw [← h, List.getElem?_map, List.getElem?_eq_getElem hk]; rfl⟩

theorem all_false_of {L : List (List UInt8)} {k : Nat} {p : List UInt8} (h : L[k]? = some p) (hp : partL p = false) : L.all partL = false := by
  rw [List.all_eq_false]
  exact ⟨p, List.mem_of_getElem? h, by simp [hp]⟩
theorem nameL_bad {l : List UInt8} {k : Nat} {p : List UInt8} (h : (pcs 46 l)[k]? = some p) (hp : partL p = false) : nameL l = false := by
  unfold nameL
  rw [all_false_of h hp, Bool.and_false]
def allTo (L : List (List UInt8)) (k : Nat) : Prop := ∀ j p, j < k → L[j]? = some p → partL p = true
theorem allTo_succ {L : List (List UInt8)} {k : Nat} {p : List UInt8} (h : allTo L k) (hp : L[k]? = some p) (ht : partL p = true) : allTo L (k + 1) := by
  intro j q hj hq
  rcases Nat.lt_or_ge j k with h1 | h1
  · exact h j q h1 hq
  · obtain rfl : j = k := by omega
    rw [hp] at hq
    obtain rfl := Option.some.inj hq
    exact ht
theorem allTo_all {L : List (List UInt8)} (h : allTo L L.length) : L.all partL = true := by
  rw [List.all_eq_true]
  intro p hp
  obtain ⟨j, hj⟩ := List.mem_iff_getElem?.1 hp
  exact h j p (by
    rcases Nat.lt_or_ge j L.length with h1 | h1
    · exact h1
    · rw [List.getElem?_eq_none h1] at hj; cases hj) hj
theorem partTo_full {l : List UInt8} {b : UInt8} (h0 : l[0]? = some b) (h1 : cls b.toNat = 1) (h : ∀ (j : Nat) (c : UInt8), l[j]? = some c → cls c.toNat = 1 ∨ cls c.toNat = 3) : partL l = true := by
  have hlen : 0 < l.length := by
    rcases Nat.eq_zero_or_pos l.length with h | h
    · rw [List.getElem?_eq_none (by omega)] at h0; cases h0
    · exact h
  rw [part_end (fun j c _ hc => by
    rcases h j c hc with h2 | h2
    · exact .inl h2
    · refine .inr ⟨?_, h2⟩
      rintro rfl
      rw [h0] at hc
      obtain rfl := Option.some.inj hc
      omega)]
  cases l with
  | nil => simp at hlen
  | cons => rfl

theorem toList_nil {p : ByteArray} (h : p.size = 0) : p.toList = [] := by
  rw [ByteArray.toList_eq]
  exact List.eq_nil_of_length_eq_zero (by simpa using h)
theorem toList_ne {p : ByteArray} (h : p.size ≠ 0) : p.toList.isEmpty = false := by
  rw [ByteArray.toList_eq]
  cases hl : p.data.toList with
  | nil => exact absurd (by have := congrArg List.length hl; simpa using this) h
  | cons => rfl
/-- The bytes before j are small letters or digits. -/
def wordTo (l : List UInt8) (j : Nat) : Prop := ∀ (i : Nat) (c : UInt8), i < j → l[i]? = some c → cls c.toNat = 1 ∨ cls c.toNat = 3
theorem wordTo_succ {l : List UInt8} {j : Nat} {b : UInt8} (h : wordTo l j) (hb : l[j]? = some b) (hc : cls b.toNat = 1 ∨ cls b.toNat = 3) : wordTo l (j + 1) := by
  intro i c hi hic
  rcases Nat.lt_or_ge i j with h1 | h1
  · exact h i c h1 hic
  · obtain rfl : i = j := by omega
    rw [hb] at hic
    obtain rfl := Option.some.inj hic
    exact hc
theorem part_bad' {l : List UInt8} {k : Nat} {b : UInt8} (hb : l[k]? = some b) (h1 : cls b.toNat ≠ 1) (h2 : cls b.toNat ≠ 3) : partL l = false := part_bad hb h1 (.inr h2)
theorem lt_of_get {α : Type} {l : List α} {j : Nat} {c : α} (h : l[j]? = some c) : j < l.length := by
  rcases Nat.lt_or_ge j l.length with h1 | h1
  · exact h1
  · rw [List.getElem?_eq_none h1] at h; cases h

set_option maxHeartbeats 4000000 in
theorem IsName_any (s : ByteArray) (hs : s.size ≤ 2147483647) (w : World) (hG : Glo w) :
    Calls Tryz.prog 50 #[.string s] w fun e w' => e = .returned (.bool (nameL s.data.toList)) ∧ Below w.heap.size w w' := by
  go_enter Tryz.func50, Tryz.ntmps50
  go_wp2_with fail
  refine (split_any 46 s hs _ hG).mono ?_
  rintro e w1 ⟨ps, hps, rfl, hb1, hz1, hcell⟩
  have hn : Hid ((pcs 46 s.data.toList).length = ps.length) := by show _ = _; rw [← hps, List.length_map]
  have Hps := Lib.hid hps
  have Hcell := Lib.hid hcell
  have HG1 := Lib.hid (hG.below hb1 (Nat.le_refl _))
  have Hb1 := Lib.hid hb1
  clear hps hcell hb1
  by_cases h32 : s.size ≤ 32
  · by_cases h3 : ps.length ≤ 3
    · go_wp2_with fail
      go_loopw [20] (fun i wr => ∃ k : Nat, k ≤ ps.length ∧ i = .int .i64 k ∧ allTo (pcs 46 s.data.toList) k ∧ Below w1.heap.size w1 wr) (fun i _ => ps.length - (intOf i).toNat)
      case atStart => exact ⟨0, by omega, rfl, fun j p h => by omega, Below.refl _ _⟩
      case round =>
        obtain ⟨k, hk, rfl, hall, hb⟩ := hrel
        have Hall := Lib.hid hall
        have Hb := Lib.hid hb
        have hsz := hb.size
        clear hall hb
        by_cases hlt : k < ps.length
        · obtain ⟨p, hp, hpL⟩ := pieceAt Hps.out k hlt
          have hc : wr.cell? ⟨w.heap.size, k, none⟩ = some (.string p) := (Hb.out.cell (p := ⟨w.heap.size, k, none⟩) hz1).trans (Hcell.out k p hp)
          have hps : p.size ≤ s.size := by
            have := mem_pcs_le 46 s.data.toList p.data.toList (List.mem_of_getElem? hpL)
            simpa using this
          have HpL := Lib.hid hpL
          clear hp hpL
          by_cases hz : p.size = 0
          · have hnil := toList_nil hz
            have Hz := Lib.hid hz
            clear hz
            go_wp2_with fail
            go_ret
            exact ⟨ret_bool (nameL_bad HpL.out (by
              have : p.data.toList = [] := List.eq_nil_of_length_eq_zero (by simpa using Hz.out)
              rw [this]; rfl)), Hb1.out.trans (Hb.out.mono (by omega))⟩
          · have hne := toList_ne hz
            obtain ⟨b, hb, hbk, hb0, hb1⟩ := byteAt p 0 (by omega)
            have Hbyte := Lib.hid hb
            clear hb
            by_cases h1 : cls b.toNat = 1
            · have H1 := Lib.hid h1
              have h1' : (cls b.toNat != 1) = false := by simp [h1]
              clear h1
              go_wp2_with fail
              refine (class_any _ hb0 hb1 _ (HG1.out.below Hb.out (Nat.le_refl _))).mono ?_
              rintro e w2 ⟨rfl, hb2⟩
              have HB2 := Lib.hid (Hb.out.trans (hb2.mono hsz))
              have hsz2 := hb2.size
              clear hb2
              go_wp2_with (with_reducible refine wpList_bytes_of_string rfl 9 105 5 _ rfl p rfl Tryz.underlying9 Tryz.underlying105 Tryz.underlying5 ?_)
              intro cap w3 hlies hb3 hz3 hcap
              have HL3 := Lib.hid hlies
              have HB3 := Lib.hid (HB2.out.trans (hb3.mono (by omega)))
              clear hlies hb3
              go_wp2_with fail
              obtain ⟨wo, rfl⟩ : ∃ wo : World, wo = wr := ⟨_, rfl⟩
              go_loopw [35] (fun i wr => ∃ j : Nat, j ≤ p.size ∧ i = .int .i64 j ∧ wordTo p.data.toList j ∧ Below w3.heap.size w3 wr) (fun i _ => p.size - (intOf i).toNat)
              case atStart => exact ⟨0, by omega, rfl, fun j c h => by omega, Below.refl _ _⟩
              case round =>
                obtain ⟨j, hj, rfl, hwt, hb4⟩ := hrel
                have Hwt := Lib.hid hwt
                have Hb4 := Lib.hid hb4
                have hsz4 := hb4.size
                have HG4 := Lib.hid (HG1.out.below (HB3.out.trans (hb4.mono (by omega))) (Nat.le_refl _))
                clear hwt hb4
                by_cases hjl : j < p.size
                · obtain ⟨c, hc4, _, hc0, hc1⟩ := byteAt p j hjl
                  have hcc : wr.cell? ⟨w2.heap.size, j, none⟩ = some (.int .u8 (c.toNat : Int)) := (Hb4.out.cell (p := ⟨w2.heap.size, j, none⟩) hz3).trans (HL3.out.cell j c hc4)
                  have Hc4 := Lib.hid hc4
                  clear hc4
                  by_cases q1 : cls c.toNat = 1
                  · have Q1 := Lib.hid q1
                    have q1' : (cls c.toNat != 1) = false := by simp [q1]
                    clear q1
                    go_wp2_with fail
                    refine (class_any _ hc0 hc1 _ HG4.out).mono ?_
                    rintro e w5 ⟨rfl, hb5⟩
                    have HB5 := Lib.hid (Hb4.out.trans (hb5.mono hsz4))
                    clear hb5
                    go_wp2_with fail
                    go_roundw
                    case rel => exact ⟨j + 1, by omega, by go_num, wordTo_succ Hwt.out Hc4.out (.inl Q1.out), HB5.out⟩
                    case measure => simp [intOf]; omega
                  · have Q1 := Lib.hid q1
                    have q1' : (cls c.toNat != 1) = true := by simp [q1]
                    clear q1
                    by_cases q3 : cls c.toNat = 3
                    · have Q3 := Lib.hid q3
                      have q3' : (cls c.toNat != 3) = false := by simp [q3]
                      clear q3
                      go_wp2_with fail
                      refine (class_any _ hc0 hc1 _ HG4.out).mono ?_
                      rintro e w5 ⟨rfl, hb5⟩
                      have HG5 := Lib.hid (HG4.out.below hb5 (Nat.le_refl _))
                      have HB5 := Lib.hid (Hb4.out.trans (hb5.mono hsz4))
                      have hsz5 := hb5.size
                      clear hb5
                      go_wp2_with fail
                      refine (class_any _ hc0 hc1 _ HG5.out).mono ?_
                      rintro e w6 ⟨rfl, hb6⟩
                      have HB6 := Lib.hid (HB5.out.trans (hb6.mono (by omega)))
                      clear hb6
                      go_wp2_with fail
                      go_roundw
                      case rel => exact ⟨j + 1, by omega, by go_num, wordTo_succ Hwt.out Hc4.out (.inr Q3.out), HB6.out⟩
                      case measure => simp [intOf]; omega
                    · have Q3 := Lib.hid q3
                      have q3' : (cls c.toNat != 3) = true := by simp [q3]
                      clear q3
                      go_wp2_with fail
                      refine (class_any _ hc0 hc1 _ HG4.out).mono ?_
                      rintro e w5 ⟨rfl, hb5⟩
                      have HG5 := Lib.hid (HG4.out.below hb5 (Nat.le_refl _))
                      have HB5 := Lib.hid (Hb4.out.trans (hb5.mono hsz4))
                      have hsz5 := hb5.size
                      clear hb5
                      go_wp2_with fail
                      refine (class_any _ hc0 hc1 _ HG5.out).mono ?_
                      rintro e w6 ⟨rfl, hb6⟩
                      have HB6 := Lib.hid (HB5.out.trans (hb6.mono (by omega)))
                      clear hb6
                      go_wp2_with fail
                      go_ret
                      exact ⟨ret_bool (nameL_bad HpL.out (part_bad' Hc4.out Q1.out Q3.out)), Hb1.out.trans ((HB3.out.trans (HB6.out.mono (by omega))).mono (by omega))⟩
                · obtain rfl : j = p.size := by omega
                  go_wp2_with fail
                  go_roundw
                  case rel =>
                    exact ⟨k + 1, by omega, by go_num, allTo_succ Hall.out HpL.out (partTo_full Hbyte.out H1.out fun i c hi => Hwt.out i c (by have := lt_of_get hi; simpa using this) hi), HB3.out.trans (Hb4.out.mono (by omega))⟩
                  case measure => simp [intOf]; omega
            · have H1 := Lib.hid h1
              have h1' : (cls b.toNat != 1) = true := by simp [h1]
              clear h1
              go_wp2_with fail
              refine (class_any _ hb0 hb1 _ (HG1.out.below Hb.out (Nat.le_refl _))).mono ?_
              rintro e w2 ⟨rfl, hb2⟩
              have HB2 := Lib.hid (Hb.out.trans (hb2.mono hsz))
              clear hb2
              go_wp2_with fail
              go_ret
              exact ⟨ret_bool (nameL_bad HpL.out (part_bad Hbyte.out H1.out (.inl rfl))), Hb1.out.trans (HB2.out.mono (by omega))⟩
        · obtain rfl : k = ps.length := by omega
          go_wp2_with fail
          go_ret
          exact ⟨ret_bool (by
            unfold nameL
            rw [hn.out, decide_eq_true h3, allTo_all (by rw [hn.out]; exact Hall.out), decide_eq_true (p := s.data.toList.length ≤ 32) (by simpa using h32)]
            rfl), Hb1.out.trans (Hb.out.mono (by omega))⟩
    · go_wp2_with fail
      go_ret
      exact ⟨ret_bool (by unfold nameL; rw [hn.out, decide_eq_false h3, Bool.and_false, Bool.false_and]), Hb1.out⟩
  · go_wp2_with fail
    go_ret
    exact ⟨ret_bool (by unfold nameL; rw [decide_eq_false (p := s.data.toList.length ≤ 32) (by simpa using h32), Bool.false_and, Bool.false_and]), Hb1.out⟩
end Go.Proofs.YtpfhhaonfbfheaaGreatDoor.gl
