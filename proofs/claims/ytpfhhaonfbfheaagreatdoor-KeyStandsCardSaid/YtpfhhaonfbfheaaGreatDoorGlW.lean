/- Words: a plain function of bytes; glyph.IsWord and the reference's IsWord return it. Conditions: the tables hold what the text lays; the text is no longer than 2147483647 bytes. -/
import Derived.Test.YtpfhhaonfbfheaaGreatDoorGlM
namespace Go.Proofs.YtpfhhaonfbfheaaGreatDoor.gl
open Go.ChangeShapes Go.WideShapes Go.ChangeAt Go.RowKit

def wb (c : Int) : Bool := decide (cls c = 1 ∨ cls c = 3 ∨ c = 45 ∨ c = 95 ∨ c = 46)
/-- A word. -/
def wordL (l : List UInt8) : Bool := (l.all fun b => wb b.toNat) && (decide (1 ≤ l.length) && decide (l.length ≤ 32))
def wbTo (l : List UInt8) (k : Nat) : Prop := ∀ (j : Nat) (b : UInt8), j < k → l[j]? = some b → wb b.toNat = true
theorem wbTo_succ {l : List UInt8} {j : Nat} {b : UInt8} (h : wbTo l j) (hb : l[j]? = some b) (hc : wb b.toNat = true) : wbTo l (j + 1) := by
  intro i c hi hic
  rcases Nat.lt_or_ge i j with h1 | h1
  · exact h i c h1 hic
  · obtain rfl : i = j := by omega
    rw [hb] at hic
    obtain rfl := Option.some.inj hic
    exact hc
theorem word_bad {l : List UInt8} {k : Nat} {b : UInt8} (hb : l[k]? = some b) (h : wb b.toNat = false) : wordL l = false := by
  unfold wordL
  have : (l.all fun b => wb b.toNat) = false := by
    rw [List.all_eq_false]
    exact ⟨b, List.mem_of_getElem? hb, by simp [h]⟩
  rw [this, Bool.false_and]
theorem word_end {l : List UInt8} (h : wbTo l l.length) : wordL l = (decide (1 ≤ l.length) && decide (l.length ≤ 32)) := by
  have : (l.all fun b => wb b.toNat) = true := by
    rw [List.all_eq_true]
    intro b hb
    obtain ⟨j, hj⟩ := List.mem_iff_getElem?.1 hb
    exact h j b (lt_of_get hj) hj
  unfold wordL
  rw [this, Bool.true_and]
theorem wb_yes {c : Int} (h : cls c = 1 ∨ cls c = 3 ∨ c = 45 ∨ c = 95 ∨ c = 46) : wb c = true := decide_eq_true h
theorem wb_no {c : Int} (h : ¬ (cls c = 1 ∨ cls c = 3 ∨ c = 45 ∨ c = 95 ∨ c = 46)) : wb c = false := decide_eq_false h

theorem idxWord (b : UInt8) (w : World) :
    Calls Tryz.prog 148 #[.string ⟨#[45, 95, 46]⟩, .int .u8 (b.toNat : Int)] w fun e w' => ∃ r : Int, e = .returned (.int .i64 r) ∧ ((b.toNat = 45 ∨ b.toNat = 95 ∨ b.toNat = 46) → 0 ≤ r) ∧ (¬ (b.toNat = 45 ∨ b.toNat = 95 ∨ b.toNat = 46) → r < 0) ∧ w = w' := by
  refine (Tryz.strings_IndexByte ⟨#[45, 95, 46]⟩ (b.toNat : Int) w).mono ?_
  rintro e w' ⟨rfl, rfl⟩
  refine ⟨_, rfl, fun h => ?_, fun h => ?_, rfl⟩
  · have hb : ((b.toNat : Int).toNat.toUInt8) = b := by simp
    rw [hb]
    rcases h with h | h | h
    · have : b = 45 := UInt8.toNat_inj.1 (by rw [h]; rfl)
      subst this; decide
    · have : b = 95 := UInt8.toNat_inj.1 (by rw [h]; rfl)
      subst this; decide
    · have : b = 46 := UInt8.toNat_inj.1 (by rw [h]; rfl)
      subst this; decide
  · have hb : ((b.toNat : Int).toNat.toUInt8) = b := by simp
    rw [hb]
    have n1 : ¬ (45 == b) = true := by intro e; exact h (.inl (by rw [← eq_of_beq e]; rfl))
    have n2 : ¬ (95 == b) = true := by intro e; exact h (.inr (.inl (by rw [← eq_of_beq e]; rfl)))
    have n3 : ¬ (46 == b) = true := by intro e; exact h (.inr (.inr (by rw [← eq_of_beq e]; rfl)))
    show Lib.indexByte [45, 95, 46] b < 0
    simp [Lib.indexByte, n1, n2, n3]

set_option maxHeartbeats 4000000 in
theorem refIsWord_any (s : ByteArray) (hs : s.size ≤ 2147483647) (w : World) :
    Calls Tryz.prog 153 #[.string s] w fun e w' => e = .returned (.bool (wordL s.data.toList)) ∧ w = w' := by
  go_enter Tryz.func153, Tryz.ntmps153
  go_wp2_with fail
  go_loop [3] (fun i => ∃ k : Nat, k ≤ s.size ∧ i = .int .i64 k ∧ wbTo s.data.toList k) (fun i => s.size - (intOf i).toNat)
  case atStart => exact ⟨0, by omega, rfl, fun j b h => by omega⟩
  case round =>
    obtain ⟨k, hk, rfl, hto⟩ := hrel
    have Hto := Lib.hid hto
    clear hto
    by_cases hlt : k < s.size
    · obtain ⟨b, hb, hbk, hb0, hb1⟩ := byteAt s k hlt
      have Hb := Lib.hid hb
      clear hb
      by_cases h1 : cls b.toNat = 1
      · have H1 := Lib.hid h1
        have h1' : (cls b.toNat != 1) = false := by simp [h1]
        clear h1
        go_wp2_with fail
        refine (refClass_any _ _).mono ?_
        rintro e w1 ⟨rfl, rfl⟩
        go_wp2_with fail
        go_round
        case rel => exact ⟨k + 1, by omega, by go_num, wbTo_succ Hto.out Hb.out (wb_yes (.inl H1.out))⟩
        case measure => simp [intOf]; omega
      · have H1 := Lib.hid h1
        have h1' : (cls b.toNat != 1) = true := by simp [h1]
        clear h1
        by_cases h3 : cls b.toNat = 3
        · have H3 := Lib.hid h3
          have h3' : (cls b.toNat != 3) = false := by simp [h3]
          clear h3
          go_wp2_with fail
          refine (refClass_any _ _).mono ?_
          rintro e w1 ⟨rfl, rfl⟩
          go_wp2_with fail
          go_round
          case rel => exact ⟨k + 1, by omega, by go_num, wbTo_succ Hto.out Hb.out (wb_yes (.inr (.inl H3.out)))⟩
          case measure => simp [intOf]; omega
        · have H3 := Lib.hid h3
          have h3' : (cls b.toNat != 3) = true := by simp [h3]
          clear h3
          by_cases hd : b.toNat = 45 ∨ b.toNat = 95 ∨ b.toNat = 46
          · have Hd : Hid (wb b.toNat = true) := wb_yes (by omega)
            rcases (show ((b.toNat : Int) != 45) = false ∨ (((b.toNat : Int) != 45) = true ∧ ((b.toNat : Int) != 95) = false) ∨ (((b.toNat : Int) != 45) = true ∧ ((b.toNat : Int) != 95) = true ∧ ((b.toNat : Int) != 46) = false) from by
              rcases hd with h | h | h <;> rw [h] <;> decide) with e1 | ⟨e1, e2⟩ | ⟨e1, e2, e3⟩
            all_goals
              clear hd
              go_wp2_with fail
              refine (refClass_any _ _).mono ?_
              rintro e w1 ⟨rfl, rfl⟩
              go_wp2_with fail
              go_round
              case rel => exact ⟨k + 1, by omega, by go_num, wbTo_succ Hto.out Hb.out Hd.out⟩
              case measure => simp [intOf]; omega
          · have Hd : Hid (wb b.toNat = false) := wb_no (by have := H1.out; have := H3.out; omega)
            have e1 : ((b.toNat : Int) != 45) = true := by simp only [bne_iff_ne]; omega
            have e2 : ((b.toNat : Int) != 95) = true := by simp only [bne_iff_ne]; omega
            have e3 : ((b.toNat : Int) != 46) = true := by simp only [bne_iff_ne]; omega
            clear hd
            go_wp2_with fail
            refine (refClass_any _ _).mono ?_
            rintro e w1 ⟨rfl, rfl⟩
            go_wp2_with fail
            go_ret
            exact ⟨ret_bool (word_bad Hb.out Hd.out), rfl⟩
    · obtain rfl : k = s.size := by omega
      have He : Hid (wordL s.data.toList = (decide (1 ≤ s.size) && decide (s.size ≤ 32))) := by
        have := word_end (l := s.data.toList) (by simpa using Hto.out)
        show _ = _
        simpa using this
      rcases (show s.size < 1 ∨ (1 ≤ s.size ∧ s.size ≤ 32) ∨ 32 < s.size by omega) with h | ⟨h, h'⟩ | h
      · go_wp2_with fail
        go_ret
        exact ⟨ret_bool (by rw [He.out, decide_eq_false (p := 1 ≤ s.size) (by omega)]; rfl), rfl⟩
      · go_wp2_with fail
        go_ret
        exact ⟨ret_bool (by rw [He.out, decide_eq_true (p := 1 ≤ s.size) (by omega), decide_eq_true (p := s.size ≤ 32) (by omega)]; first | rfl | exact (decide_eq_true (by omega)).symm), rfl⟩
      · go_wp2_with fail
        go_ret
        exact ⟨ret_bool (by rw [He.out, decide_eq_true (p := 1 ≤ s.size) (by omega), decide_eq_false (p := s.size ≤ 32) (by omega)]; first | rfl | exact (decide_eq_false (by omega)).symm), rfl⟩

set_option maxHeartbeats 4000000 in
theorem IsWord_any (s : ByteArray) (hs : s.size ≤ 2147483647) (w : World) (hG : Glo w) :
    Calls Tryz.prog 119 #[.string s] w fun e w' => e = .returned (.bool (wordL s.data.toList)) ∧ Below w.heap.size w w' := by
  have HG := Lib.hid hG
  clear hG
  go_enter Tryz.func119, Tryz.ntmps119
  go_wp2_with (with_reducible refine wpList_bytes_of_string rfl 9 105 5 _ rfl s rfl Tryz.underlying9 Tryz.underlying105 Tryz.underlying5 ?_)
  intro bcap w2 hlies hb2 hzz hcap
  have HL := Lib.hid hlies
  have HB2 := Lib.hid hb2
  clear hlies hb2
  go_wp2_with fail
  go_loopw [8] (fun i wr => ∃ k : Nat, k ≤ s.size ∧ i = .int .i64 k ∧ wbTo s.data.toList k ∧ Below w2.heap.size w2 wr) (fun i _ => s.size - (intOf i).toNat)
  case atStart => exact ⟨0, by omega, rfl, fun j b h => by omega, Below.refl _ _⟩
  case round =>
    obtain ⟨k, hk, rfl, hto, hb⟩ := hrel
    have Hto := Lib.hid hto
    have Hb := Lib.hid hb
    have hsz := hb.size
    have HG1 := Lib.hid ((HG.out.below HB2.out (Nat.le_refl _)).below hb (Nat.le_refl _))
    clear hto hb
    by_cases hlt : k < s.size
    · obtain ⟨b, hbl, _, hb0, hb1⟩ := byteAt s k hlt
      have hcell : wr.cell? ⟨w.heap.size, k, none⟩ = some (.int .u8 (b.toNat : Int)) := (Hb.out.cell (p := ⟨w.heap.size, k, none⟩) hzz).trans (HL.out.cell k b hbl)
      have Hbl := Lib.hid hbl
      clear hbl
      by_cases h1 : cls b.toNat = 1
      · have H1 := Lib.hid h1
        have h1' : (cls b.toNat != 1) = false := by simp [h1]
        clear h1
        go_wp2_with fail
        refine (class_any _ hb0 hb1 _ HG1.out).mono ?_
        rintro e w3 ⟨rfl, hb3⟩
        have HB3 := Lib.hid (Hb.out.trans (hb3.mono hsz))
        clear hb3
        go_wp2_with fail
        go_roundw
        case rel => exact ⟨k + 1, by omega, by go_num, wbTo_succ Hto.out Hbl.out (wb_yes (.inl H1.out)), HB3.out⟩
        case measure => simp [intOf]; omega
      · have H1 := Lib.hid h1
        have h1' : (cls b.toNat != 1) = true := by simp [h1]
        clear h1
        by_cases h3 : cls b.toNat = 3
        · have H3 := Lib.hid h3
          have h3' : (cls b.toNat != 3) = false := by simp [h3]
          clear h3
          go_wp2_with fail
          refine (class_any _ hb0 hb1 _ HG1.out).mono ?_
          rintro e w3 ⟨rfl, hb3⟩
          have HB3 := Lib.hid (Hb.out.trans (hb3.mono hsz))
          have HG3 := Lib.hid (HG1.out.below hb3 (Nat.le_refl _))
          have hsz3 := hb3.size
          clear hb3
          go_wp2_with fail
          refine (class_any _ hb0 hb1 _ HG3.out).mono ?_
          rintro e w4 ⟨rfl, hb4⟩
          have HB4 := Lib.hid (HB3.out.trans (hb4.mono (by omega)))
          clear hb4
          go_wp2_with fail
          go_roundw
          case rel => exact ⟨k + 1, by omega, by go_num, wbTo_succ Hto.out Hbl.out (wb_yes (.inr (.inl H3.out))), HB4.out⟩
          case measure => simp [intOf]; omega
        · have H3 := Lib.hid h3
          have h3' : (cls b.toNat != 3) = true := by simp [h3]
          clear h3
          by_cases hd : b.toNat = 45 ∨ b.toNat = 95 ∨ b.toNat = 46
          · have Hd : Hid (wb b.toNat = true) := wb_yes (by omega)
            have Hd' := Lib.hid hd
            clear hd
            go_wp2_with fail
            refine (class_any _ hb0 hb1 _ HG1.out).mono ?_
            rintro e w3 ⟨rfl, hb3⟩
            have HB3 := Lib.hid (Hb.out.trans (hb3.mono hsz))
            have HG3 := Lib.hid (HG1.out.below hb3 (Nat.le_refl _))
            have hsz3 := hb3.size
            clear hb3
            go_wp2_with fail
            refine (class_any _ hb0 hb1 _ HG3.out).mono ?_
            rintro e w4 ⟨rfl, hb4⟩
            have HB4 := Lib.hid (HB3.out.trans (hb4.mono (by omega)))
            clear hb4
            go_wp2_with fail
            refine (idxWord b _).mono ?_
            rintro e w5 ⟨r, rfl, hr, _, rfl⟩
            have hr0 := hr Hd'.out
            clear hr
            go_wp2_with fail
            go_roundw
            case rel => exact ⟨k + 1, by omega, by go_num, wbTo_succ Hto.out Hbl.out Hd.out, HB4.out⟩
            case measure => simp [intOf]; omega
          · have Hd : Hid (wb b.toNat = false) := wb_no (by have := H1.out; have := H3.out; omega)
            have Hd' := Lib.hid hd
            clear hd
            go_wp2_with fail
            refine (class_any _ hb0 hb1 _ HG1.out).mono ?_
            rintro e w3 ⟨rfl, hb3⟩
            have HB3 := Lib.hid (Hb.out.trans (hb3.mono hsz))
            have HG3 := Lib.hid (HG1.out.below hb3 (Nat.le_refl _))
            have hsz3 := hb3.size
            clear hb3
            go_wp2_with fail
            refine (class_any _ hb0 hb1 _ HG3.out).mono ?_
            rintro e w4 ⟨rfl, hb4⟩
            have HB4 := Lib.hid (HB3.out.trans (hb4.mono (by omega)))
            clear hb4
            go_wp2_with fail
            refine (idxWord b _).mono ?_
            rintro e w5 ⟨r, rfl, _, hr, rfl⟩
            have hr0 := hr Hd'.out
            clear hr
            go_wp2_with fail
            go_ret
            exact ⟨ret_bool (word_bad Hbl.out Hd.out), HB2.out.trans (HB4.out.mono (by omega))⟩
    · obtain rfl : k = s.size := by omega
      have He : Hid (wordL s.data.toList = (decide (1 ≤ s.size) && decide (s.size ≤ 32))) := by
        have := word_end (l := s.data.toList) (by simpa using Hto.out)
        show _ = _
        simpa using this
      rcases (show s.size < 1 ∨ (1 ≤ s.size ∧ s.size ≤ 32) ∨ 32 < s.size by omega) with h | ⟨h, h'⟩ | h
      · go_wp2_with fail
        go_ret
        exact ⟨ret_bool (by rw [He.out, decide_eq_false (p := 1 ≤ s.size) (by omega)]; rfl), HB2.out.trans (Hb.out.mono (by omega))⟩
      · go_wp2_with fail
        go_ret
        exact ⟨ret_bool (by rw [He.out, decide_eq_true (p := 1 ≤ s.size) (by omega), decide_eq_true (p := s.size ≤ 32) (by omega)]; first | rfl | exact (decide_eq_true (by omega)).symm), HB2.out.trans (Hb.out.mono (by omega))⟩
      · go_wp2_with fail
        go_ret
        exact ⟨ret_bool (by rw [He.out, decide_eq_true (p := 1 ≤ s.size) (by omega), decide_eq_false (p := s.size ≤ 32) (by omega)]; first | rfl | exact (decide_eq_false (by omega)).symm), HB2.out.trans (Hb.out.mono (by omega))⟩
end Go.Proofs.YtpfhhaonfbfheaaGreatDoor.gl
