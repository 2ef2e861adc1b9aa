/- Laws and contracts on which the statement rests, part B: each text says what it proves, and its conditions. -/
import Derived.Test.YtbelnaiekbfoiaaGreatDoorMdA
import Derived.Test.YtbelnaiekbfoiaaGreatDoorShelf
import Derived.WalkSmall
import Derived.Lib.SmallJoins
import Derived.Lib.AppendIntMem
import Derived.Stop.LaidErr
import Derived.Lib.LaidTab
import Derived.Below
import Derived.Deep.Draws
import Derived.OneCell
import Derived.Lib.Hide
import Derived.Laws.IdiomCopy
import Derived.WalkKit
import Derived.ArgAppend
/- glyph.IsName returns the plain function of bytes. Conditions: the tables hold what the text lays; the text is no longer than 2147483647 bytes. -/
namespace Go.Proofs.YtbelnaiekbfoiaaGreatDoor.gl
open Go.ChangeShapes Go.WideShapes Go.ChangeAt Go.RowKit

theorem split_any (sep : UInt8) (s : ByteArray) (hs : s.size ≤ 2147483647) (w : World) (hG : Glo w) :
    Calls Tryz.prog 128 #[.string s, .string ⟨#[sep]⟩] w fun e w' => ∃ ps : List ByteArray, ps.map (·.data.toList) = pcs sep s.data.toList ∧
      e = .returned (.slice (some ⟨w.heap.size, 0, none⟩) ps.length ps.length) ∧ Below w.heap.size w w' ∧ w.heap.size < w'.heap.size ∧ (∀ k p, ps[k]? = some p → w'.cell? ⟨w.heap.size, k, none⟩ = some (.string p)) := by
  obtain ⟨m, hm⟩ := hG.maxLen
  refine (Tryz.strings_Split s ⟨#[sep]⟩ m w (by omega) hm (by simp [ByteArray.size])).mono ?_
  rintro e w' ⟨he, rfl⟩
  have hl : (Lib.splitB ⟨#[sep]⟩ 0 (Lib.countB s ⟨#[sep]⟩) s).length = Lib.countB s ⟨#[sep]⟩ + 1 := Lib.splitB_all _ (by simp [ByteArray.size]) 0 _ s rfl
  refine ⟨_, splitB_pcs sep s, by rw [he, hl], (Below.refl _ _).alloc (Nat.le_refl _) _, by simp, fun k p hk => ?_⟩
  rw [cell_of_row _ _ _ _ _ _ (heap_alloc_new w _)]
  simp [hk]

theorem pieceAt {ps : List ByteArray} {L : List (List UInt8)} (h : ps.map (·.data.toList) = L) (k : Nat) (hk : k < ps.length) : ∃ p : ByteArray, ps[k]? = some p ∧ L[k]? = some p.data.toList :=
  ⟨ps[k], List.getElem?_eq_getElem hk, by rw [← h, List.getElem?_map, List.getElem?_eq_getElem hk]; rfl⟩

theorem all_false_of {L : List (List UInt8)} {k : Nat} {p : List UInt8} (h : L[k]? = some p) (hp : partL p = false) : L.all partL = false := by
  rw [List.all_eq_false]
  exact ⟨p, List.mem_of_getElem? h, by simp [hp]⟩
theorem nameL_bad {l : List UInt8} {k : Nat} {p : List UInt8} (h : (pcs 46 l)[k]? = some p) (hp : partL p = false) : nameL l = false := by
  unfold nameL
  rw [all_false_of h hp, Bool.and_false]
def allTo (L : List (List UInt8)) (k : Nat) : Prop := ∀ j p, j < k → L[j]? = some p → partL p = true
theorem allTo_succ {L : List (List UInt8)} {k : Nat} {p : List UInt8} (h : allTo L k) (hp : L[k]? = some p) (ht : partL p = true) : allTo L (k + 1) := by
  intro j q hj hq
  rcases Nat.lt_or_ge j k with h1 | h1
  · exact h j q h1 hq
  · obtain rfl : j = k := by omega
    rw [hp] at hq
    obtain rfl := Option.some.inj hq
    exact ht
theorem allTo_all {L : List (List UInt8)} (h : allTo L L.length) : L.all partL = true := by
  rw [List.all_eq_true]
  intro p hp
  obtain ⟨j, hj⟩ := List.mem_iff_getElem?.1 hp
  exact h j p (by
    rcases Nat.lt_or_ge j L.length with h1 | h1
    · exact h1
    · rw [List.getElem?_eq_none h1] at hj; cases hj) hj
theorem partTo_full {l : List UInt8} {b : UInt8} (h0 : l[0]? = some b) (h1 : cls b.toNat = 1) (h : ∀ (j : Nat) (c : UInt8), l[j]? = some c → cls c.toNat = 1 ∨ cls c.toNat = 3) : partL l = true := by
  have hlen : 0 < l.length := by
    rcases Nat.eq_zero_or_pos l.length with h | h
    · rw [List.getElem?_eq_none (by omega)] at h0; cases h0
    · exact h
  rw [part_end (fun j c _ hc => by
    rcases h j c hc with h2 | h2
    · exact .inl h2
    · refine .inr ⟨?_, h2⟩
      rintro rfl
      rw [h0] at hc
      obtain rfl := Option.some.inj hc
      omega)]
  cases l with
  | nil => simp at hlen
  | cons => rfl

theorem toList_nil {p : ByteArray} (h : p.size = 0) : p.toList = [] := by
  rw [ByteArray.toList_eq]
  exact List.eq_nil_of_length_eq_zero (by simpa using h)
theorem toList_ne {p : ByteArray} (h : p.size ≠ 0) : p.toList.isEmpty = false := by
  rw [ByteArray.toList_eq]
  cases hl : p.data.toList with
  | nil => exact absurd (by have := congrArg List.length hl; simpa using this) h
  | cons => rfl
/-- The bytes before j are small letters or digits. -/
def wordTo (l : List UInt8) (j : Nat) : Prop := ∀ (i : Nat) (c : UInt8), i < j → l[i]? = some c → cls c.toNat = 1 ∨ cls c.toNat = 3
theorem wordTo_succ {l : List UInt8} {j : Nat} {b : UInt8} (h : wordTo l j) (hb : l[j]? = some b) (hc : cls b.toNat = 1 ∨ cls b.toNat = 3) : wordTo l (j + 1) := by
  intro i c hi hic
  rcases Nat.lt_or_ge i j with h1 | h1
  · exact h i c h1 hic
  · obtain rfl : i = j := by omega
    rw [hb] at hic
    obtain rfl := Option.some.inj hic
    exact hc
theorem part_bad' {l : List UInt8} {k : Nat} {b : UInt8} (hb : l[k]? = some b) (h1 : cls b.toNat ≠ 1) (h2 : cls b.toNat ≠ 3) : partL l = false := part_bad hb h1 (.inr h2)
theorem lt_of_get {α : Type} {l : List α} {j : Nat} {c : α} (h : l[j]? = some c) : j < l.length := by
  rcases Nat.lt_or_ge j l.length with h1 | h1
  · exact h1
  · rw [List.getElem?_eq_none h1] at h; cases h

set_option maxHeartbeats 4000000 in
theorem IsName_any (s : ByteArray) (hs : s.size ≤ 2147483647) (w : World) (hG : Glo w) :
    Calls Tryz.prog 80 #[.string s] w fun e w' => e = .returned (.bool (nameL s.data.toList)) ∧ Below w.heap.size w w' := by
  go_enter Tryz.func80, Tryz.ntmps80
  go_wp2_with fail
  refine (split_any 46 s hs _ hG).mono ?_
  rintro e w1 ⟨ps, hps, rfl, hb1, hz1, hcell⟩
  have hn : Hid ((pcs 46 s.data.toList).length = ps.length) := by show _ = _; rw [← hps, List.length_map]
  have Hps := Lib.hid hps
  have Hcell := Lib.hid hcell
  have HG1 := Lib.hid (hG.below hb1 (Nat.le_refl _))
  have Hb1 := Lib.hid hb1
  clear hps hcell hb1
  by_cases h32 : s.size ≤ 32
  · by_cases h3 : ps.length ≤ 3
    · go_wp2_with fail
      go_loopw [20] (fun i wr => ∃ k : Nat, k ≤ ps.length ∧ i = .int .i64 k ∧ allTo (pcs 46 s.data.toList) k ∧ Below w1.heap.size w1 wr) (fun i _ => ps.length - (intOf i).toNat)
      case atStart => exact ⟨0, by omega, rfl, fun j p h => by omega, Below.refl _ _⟩
      case round =>
        obtain ⟨k, hk, rfl, hall, hb⟩ := hrel
        have Hall := Lib.hid hall
        have Hb := Lib.hid hb
        have hsz := hb.size
        clear hall hb
        by_cases hlt : k < ps.length
        · obtain ⟨p, hp, hpL⟩ := pieceAt Hps.out k hlt
          have hc : wr.cell? ⟨w.heap.size, k, none⟩ = some (.string p) := (Hb.out.cell (p := ⟨w.heap.size, k, none⟩) hz1).trans (Hcell.out k p hp)
          have hps : p.size ≤ s.size := by
            have := mem_pcs_le 46 s.data.toList p.data.toList (List.mem_of_getElem? hpL)
            simpa using this
          have HpL := Lib.hid hpL
          clear hp hpL
          by_cases hz : p.size = 0
          · have hnil := toList_nil hz
            have Hz := Lib.hid hz
            clear hz
            go_wp2_with fail
            go_ret
            exact ⟨ret_bool (nameL_bad HpL.out (by
              have : p.data.toList = [] := List.eq_nil_of_length_eq_zero (by simpa using Hz.out)
              rw [this]; rfl)), Hb1.out.trans (Hb.out.mono (by omega))⟩
          · have hne := toList_ne hz
            obtain ⟨b, hb, hbk, hb0, hb1⟩ := byteAt p 0 (by omega)
            have Hbyte := Lib.hid hb
            clear hb
            by_cases h1 : cls b.toNat = 1
            · have H1 := Lib.hid h1
              have h1' : (cls b.toNat != 1) = false := by simp [h1]
              clear h1
              go_wp2_with fail
              refine (class_any _ hb0 hb1 _ (HG1.out.below Hb.out (Nat.le_refl _))).mono ?_
              rintro e w2 ⟨rfl, hb2⟩
              have HB2 := Lib.hid (Hb.out.trans (hb2.mono hsz))
              have hsz2 := hb2.size
              clear hb2
              go_wp2_with (with_reducible refine wpList_bytes_of_string rfl 9 30 5 _ rfl p rfl Tryz.underlying9 Tryz.underlying30 Tryz.underlying5 ?_)
              intro cap w3 hlies hb3 hz3 hcap
              have HL3 := Lib.hid hlies
              have HB3 := Lib.hid (HB2.out.trans (hb3.mono (by omega)))
              clear hlies hb3
              go_wp2_with fail
              obtain ⟨wo, rfl⟩ : ∃ wo : World, wo = wr := ⟨_, rfl⟩
              go_loopw [35] (fun i wr => ∃ j : Nat, j ≤ p.size ∧ i = .int .i64 j ∧ wordTo p.data.toList j ∧ Below w3.heap.size w3 wr) (fun i _ => p.size - (intOf i).toNat)
              case atStart => exact ⟨0, by omega, rfl, fun j c h => by omega, Below.refl _ _⟩
              case round =>
                obtain ⟨j, hj, rfl, hwt, hb4⟩ := hrel
                have Hwt := Lib.hid hwt
                have Hb4 := Lib.hid hb4
                have hsz4 := hb4.size
                have HG4 := Lib.hid (HG1.out.below (HB3.out.trans (hb4.mono (by omega))) (Nat.le_refl _))
                clear hwt hb4
                by_cases hjl : j < p.size
                · obtain ⟨c, hc4, _, hc0, hc1⟩ := byteAt p j hjl
                  have hcc : wr.cell? ⟨w2.heap.size, j, none⟩ = some (.int .u8 (c.toNat : Int)) := (Hb4.out.cell (p := ⟨w2.heap.size, j, none⟩) hz3).trans (HL3.out.cell j c hc4)
                  have Hc4 := Lib.hid hc4
                  clear hc4
                  by_cases q1 : cls c.toNat = 1
                  · have Q1 := Lib.hid q1
                    have q1' : (cls c.toNat != 1) = false := by simp [q1]
                    clear q1
                    go_wp2_with fail
                    refine (class_any _ hc0 hc1 _ HG4.out).mono ?_
                    rintro e w5 ⟨rfl, hb5⟩
                    have HB5 := Lib.hid (Hb4.out.trans (hb5.mono hsz4))
                    clear hb5
                    go_wp2_with fail
                    go_roundw
                    case rel => exact ⟨j + 1, by omega, by go_num, wordTo_succ Hwt.out Hc4.out (.inl Q1.out), HB5.out⟩
                    case measure => simp [intOf]; omega
                  · have Q1 := Lib.hid q1
                    have q1' : (cls c.toNat != 1) = true := by simp [q1]
                    clear q1
                    by_cases q3 : cls c.toNat = 3
                    · have Q3 := Lib.hid q3
                      have q3' : (cls c.toNat != 3) = false := by simp [q3]
                      clear q3
                      go_wp2_with fail
                      refine (class_any _ hc0 hc1 _ HG4.out).mono ?_
                      rintro e w5 ⟨rfl, hb5⟩
                      have HG5 := Lib.hid (HG4.out.below hb5 (Nat.le_refl _))
                      have HB5 := Lib.hid (Hb4.out.trans (hb5.mono hsz4))
                      have hsz5 := hb5.size
                      clear hb5
                      go_wp2_with fail
                      refine (class_any _ hc0 hc1 _ HG5.out).mono ?_
                      rintro e w6 ⟨rfl, hb6⟩
                      have HB6 := Lib.hid (HB5.out.trans (hb6.mono (by omega)))
                      clear hb6
                      go_wp2_with fail
                      go_roundw
                      case rel => exact ⟨j + 1, by omega, by go_num, wordTo_succ Hwt.out Hc4.out (.inr Q3.out), HB6.out⟩
                      case measure => simp [intOf]; omega
                    · have Q3 := Lib.hid q3
                      have q3' : (cls c.toNat != 3) = true := by simp [q3]
                      clear q3
                      go_wp2_with fail
                      refine (class_any _ hc0 hc1 _ HG4.out).mono ?_
                      rintro e w5 ⟨rfl, hb5⟩
                      have HG5 := Lib.hid (HG4.out.below hb5 (Nat.le_refl _))
                      have HB5 := Lib.hid (Hb4.out.trans (hb5.mono hsz4))
                      have hsz5 := hb5.size
                      clear hb5
                      go_wp2_with fail
                      refine (class_any _ hc0 hc1 _ HG5.out).mono ?_
                      rintro e w6 ⟨rfl, hb6⟩
                      have HB6 := Lib.hid (HB5.out.trans (hb6.mono (by omega)))
                      clear hb6
                      go_wp2_with fail
                      go_ret
                      exact ⟨ret_bool (nameL_bad HpL.out (part_bad' Hc4.out Q1.out Q3.out)), Hb1.out.trans ((HB3.out.trans (HB6.out.mono (by omega))).mono (by omega))⟩
                · obtain rfl : j = p.size := by omega
                  go_wp2_with fail
                  go_roundw
                  case rel =>
                    exact ⟨k + 1, by omega, by go_num, allTo_succ Hall.out HpL.out (partTo_full Hbyte.out H1.out fun i c hi => Hwt.out i c (by have := lt_of_get hi; simpa using this) hi), HB3.out.trans (Hb4.out.mono (by omega))⟩
                  case measure => simp [intOf]; omega
            · have H1 := Lib.hid h1
              have h1' : (cls b.toNat != 1) = true := by simp [h1]
              clear h1
              go_wp2_with fail
              refine (class_any _ hb0 hb1 _ (HG1.out.below Hb.out (Nat.le_refl _))).mono ?_
              rintro e w2 ⟨rfl, hb2⟩
              have HB2 := Lib.hid (Hb.out.trans (hb2.mono hsz))
              clear hb2
              go_wp2_with fail
              go_ret
              exact ⟨ret_bool (nameL_bad HpL.out (part_bad Hbyte.out H1.out (.inl rfl))), Hb1.out.trans (HB2.out.mono (by omega))⟩
        · obtain rfl : k = ps.length := by omega
          go_wp2_with fail
          go_ret
          exact ⟨ret_bool (by
            unfold nameL
            rw [hn.out, decide_eq_true h3, allTo_all (by rw [hn.out]; exact Hall.out), decide_eq_true (p := s.data.toList.length ≤ 32) (by simpa using h32)]
            rfl), Hb1.out.trans (Hb.out.mono (by omega))⟩
    · go_wp2_with fail
      go_ret
      exact ⟨ret_bool (by unfold nameL; rw [hn.out, decide_eq_false h3, Bool.and_false, Bool.false_and]), Hb1.out⟩
  · go_wp2_with fail
    go_ret
    exact ⟨ret_bool (by unfold nameL; rw [decide_eq_false (p := s.data.toList.length ≤ 32) (by simpa using h32), Bool.false_and, Bool.false_and]), Hb1.out⟩
end Go.Proofs.YtbelnaiekbfoiaaGreatDoor.gl
/- Words: a plain function of bytes; glyph.IsWord and the reference's IsWord return it. Conditions: the tables hold what the text lays; the text is no longer than 2147483647 bytes. -/
namespace Go.Proofs.YtbelnaiekbfoiaaGreatDoor.gl
open Go.ChangeShapes Go.WideShapes Go.ChangeAt Go.RowKit

def wb (c : Int) : Bool := decide (cls c = 1 ∨ cls c = 3 ∨ c = 45 ∨ c = 95 ∨ c = 46)
/-- A word. -/
def wordL (l : List UInt8) : Bool := (l.all fun b => wb b.toNat) && (decide (1 ≤ l.length) && decide (l.length ≤ 32))
def wbTo (l : List UInt8) (k : Nat) : Prop := ∀ (j : Nat) (b : UInt8), j < k → l[j]? = some b → wb b.toNat = true
theorem wbTo_succ {l : List UInt8} {j : Nat} {b : UInt8} (h : wbTo l j) (hb : l[j]? = some b) (hc : wb b.toNat = true) : wbTo l (j + 1) := by
  intro i c hi hic
  rcases Nat.lt_or_ge i j with h1 | h1
  · exact h i c h1 hic
  · obtain rfl : i = j := by omega
    rw [hb] at hic
    obtain rfl := Option.some.inj hic
    exact hc
theorem word_bad {l : List UInt8} {k : Nat} {b : UInt8} (hb : l[k]? = some b) (h : wb b.toNat = false) : wordL l = false := by
  unfold wordL
  have : (l.all fun b => wb b.toNat) = false := by
    rw [List.all_eq_false]
    exact ⟨b, List.mem_of_getElem? hb, by simp [h]⟩
  rw [this, Bool.false_and]
theorem word_end {l : List UInt8} (h : wbTo l l.length) : wordL l = (decide (1 ≤ l.length) && decide (l.length ≤ 32)) := by
  have : (l.all fun b => wb b.toNat) = true := by
    rw [List.all_eq_true]
    intro b hb
    obtain ⟨j, hj⟩ := List.mem_iff_getElem?.1 hb
    exact h j b (lt_of_get hj) hj
  unfold wordL
  rw [this, Bool.true_and]
theorem wb_yes {c : Int} (h : cls c = 1 ∨ cls c = 3 ∨ c = 45 ∨ c = 95 ∨ c = 46) : wb c = true := decide_eq_true h
theorem wb_no {c : Int} (h : ¬ (cls c = 1 ∨ cls c = 3 ∨ c = 45 ∨ c = 95 ∨ c = 46)) : wb c = false := decide_eq_false h

theorem idxWord (b : UInt8) (w : World) :
    Calls Tryz.prog 191 #[.string ⟨#[45, 95, 46]⟩, .int .u8 (b.toNat : Int)] w fun e w' => ∃ r : Int, e = .returned (.int .i64 r) ∧ ((b.toNat = 45 ∨ b.toNat = 95 ∨ b.toNat = 46) → 0 ≤ r) ∧ (¬ (b.toNat = 45 ∨ b.toNat = 95 ∨ b.toNat = 46) → r < 0) ∧ w = w' := by
  refine (Tryz.strings_IndexByte ⟨#[45, 95, 46]⟩ (b.toNat : Int) w).mono ?_
  rintro e w' ⟨rfl, rfl⟩
  refine ⟨_, rfl, fun h => ?_, fun h => ?_, rfl⟩
  · have hb : ((b.toNat : Int).toNat.toUInt8) = b := by simp
    rw [hb]
    rcases h with h | h | h
    · have : b = 45 := UInt8.toNat_inj.1 (by rw [h]; rfl)
      subst this; decide
    · have : b = 95 := UInt8.toNat_inj.1 (by rw [h]; rfl)
      subst this; decide
    · have : b = 46 := UInt8.toNat_inj.1 (by rw [h]; rfl)
      subst this; decide
  · have hb : ((b.toNat : Int).toNat.toUInt8) = b := by simp
    rw [hb]
    have n1 : ¬ (45 == b) = true := by intro e; exact h (.inl (by rw [← eq_of_beq e]; rfl))
    have n2 : ¬ (95 == b) = true := by intro e; exact h (.inr (.inl (by rw [← eq_of_beq e]; rfl)))
    have n3 : ¬ (46 == b) = true := by intro e; exact h (.inr (.inr (by rw [← eq_of_beq e]; rfl)))
    show Lib.indexByte [45, 95, 46] b < 0
    simp [Lib.indexByte, n1, n2, n3]

set_option maxHeartbeats 4000000 in
theorem refIsWord_any (s : ByteArray) (hs : s.size ≤ 2147483647) (w : World) :
    Calls Tryz.prog 188 #[.string s] w fun e w' => e = .returned (.bool (wordL s.data.toList)) ∧ w = w' := by
  go_enter Tryz.func188, Tryz.ntmps188
  go_wp2_with fail
  go_loop [3] (fun i => ∃ k : Nat, k ≤ s.size ∧ i = .int .i64 k ∧ wbTo s.data.toList k) (fun i => s.size - (intOf i).toNat)
  case atStart => exact ⟨0, by omega, rfl, fun j b h => by omega⟩
  case round =>
    obtain ⟨k, hk, rfl, hto⟩ := hrel
    have Hto := Lib.hid hto
    clear hto
    by_cases hlt : k < s.size
    · obtain ⟨b, hb, hbk, hb0, hb1⟩ := byteAt s k hlt
      have Hb := Lib.hid hb
      clear hb
      by_cases h1 : cls b.toNat = 1
      · have H1 := Lib.hid h1
        have h1' : (cls b.toNat != 1) = false := by simp [h1]
        clear h1
        go_wp2_with fail
        refine (refClass_any _ _).mono ?_
        rintro e w1 ⟨rfl, rfl⟩
        go_wp2_with fail
        go_round
        case rel => exact ⟨k + 1, by omega, by go_num, wbTo_succ Hto.out Hb.out (wb_yes (.inl H1.out))⟩
        case measure => simp [intOf]; omega
      · have H1 := Lib.hid h1
        have h1' : (cls b.toNat != 1) = true := by simp [h1]
        clear h1
        by_cases h3 : cls b.toNat = 3
        · have H3 := Lib.hid h3
          have h3' : (cls b.toNat != 3) = false := by simp [h3]
          clear h3
          go_wp2_with fail
          refine (refClass_any _ _).mono ?_
          rintro e w1 ⟨rfl, rfl⟩
          go_wp2_with fail
          go_round
          case rel => exact ⟨k + 1, by omega, by go_num, wbTo_succ Hto.out Hb.out (wb_yes (.inr (.inl H3.out)))⟩
          case measure => simp [intOf]; omega
        · have H3 := Lib.hid h3
          have h3' : (cls b.toNat != 3) = true := by simp [h3]
          clear h3
          by_cases hd : b.toNat = 45 ∨ b.toNat = 95 ∨ b.toNat = 46
          · have Hd : Hid (wb b.toNat = true) := wb_yes (by omega)
            rcases (show ((b.toNat : Int) != 45) = false ∨ (((b.toNat : Int) != 45) = true ∧ ((b.toNat : Int) != 95) = false) ∨ (((b.toNat : Int) != 45) = true ∧ ((b.toNat : Int) != 95) = true ∧ ((b.toNat : Int) != 46) = false) from by
              rcases hd with h | h | h <;> rw [h] <;> decide) with e1 | ⟨e1, e2⟩ | ⟨e1, e2, e3⟩
            all_goals
              clear hd
              go_wp2_with fail
              refine (refClass_any _ _).mono ?_
              rintro e w1 ⟨rfl, rfl⟩
              go_wp2_with fail
              go_round
              case rel => exact ⟨k + 1, by omega, by go_num, wbTo_succ Hto.out Hb.out Hd.out⟩
              case measure => simp [intOf]; omega
          · have Hd : Hid (wb b.toNat = false) := wb_no (by have := H1.out; have := H3.out; omega)
            have e1 : ((b.toNat : Int) != 45) = true := by simp only [bne_iff_ne]; omega
            have e2 : ((b.toNat : Int) != 95) = true := by simp only [bne_iff_ne]; omega
            have e3 : ((b.toNat : Int) != 46) = true := by simp only [bne_iff_ne]; omega
            clear hd
            go_wp2_with fail
            refine (refClass_any _ _).mono ?_
            rintro e w1 ⟨rfl, rfl⟩
            go_wp2_with fail
            go_ret
            exact ⟨ret_bool (word_bad Hb.out Hd.out), rfl⟩
    · obtain rfl : k = s.size := by omega
      have He : Hid (wordL s.data.toList = (decide (1 ≤ s.size) && decide (s.size ≤ 32))) := by
        have := word_end (l := s.data.toList) (by simpa using Hto.out)
        show _ = _
        simpa using this
      rcases (show s.size < 1 ∨ (1 ≤ s.size ∧ s.size ≤ 32) ∨ 32 < s.size by omega) with h | ⟨h, h'⟩ | h
      · go_wp2_with fail
        go_ret
        exact ⟨ret_bool (by rw [He.out, decide_eq_false (p := 1 ≤ s.size) (by omega)]; rfl), rfl⟩
      · go_wp2_with fail
        go_ret
        exact ⟨ret_bool (by rw [He.out, decide_eq_true (p := 1 ≤ s.size) (by omega), decide_eq_true (p := s.size ≤ 32) (by omega)]; first | rfl | exact (decide_eq_true (by omega)).symm), rfl⟩
      · go_wp2_with fail
        go_ret
        exact ⟨ret_bool (by rw [He.out, decide_eq_true (p := 1 ≤ s.size) (by omega), decide_eq_false (p := s.size ≤ 32) (by omega)]; first | rfl | exact (decide_eq_false (by omega)).symm), rfl⟩

set_option maxHeartbeats 4000000 in
theorem IsWord_any (s : ByteArray) (hs : s.size ≤ 2147483647) (w : World) (hG : Glo w) :
    Calls Tryz.prog 150 #[.string s] w fun e w' => e = .returned (.bool (wordL s.data.toList)) ∧ Below w.heap.size w w' := by
  have HG := Lib.hid hG
  clear hG
  go_enter Tryz.func150, Tryz.ntmps150
  go_wp2_with (with_reducible refine wpList_bytes_of_string rfl 9 30 5 _ rfl s rfl Tryz.underlying9 Tryz.underlying30 Tryz.underlying5 ?_)
  intro bcap w2 hlies hb2 hzz hcap
  have HL := Lib.hid hlies
  have HB2 := Lib.hid hb2
  clear hlies hb2
  go_wp2_with fail
  go_loopw [8] (fun i wr => ∃ k : Nat, k ≤ s.size ∧ i = .int .i64 k ∧ wbTo s.data.toList k ∧ Below w2.heap.size w2 wr) (fun i _ => s.size - (intOf i).toNat)
  case atStart => exact ⟨0, by omega, rfl, fun j b h => by omega, Below.refl _ _⟩
  case round =>
    obtain ⟨k, hk, rfl, hto, hb⟩ := hrel
    have Hto := Lib.hid hto
    have Hb := Lib.hid hb
    have hsz := hb.size
    have HG1 := Lib.hid ((HG.out.below HB2.out (Nat.le_refl _)).below hb (Nat.le_refl _))
    clear hto hb
    by_cases hlt : k < s.size
    · obtain ⟨b, hbl, _, hb0, hb1⟩ := byteAt s k hlt
      have hcell : wr.cell? ⟨w.heap.size, k, none⟩ = some (.int .u8 (b.toNat : Int)) := (Hb.out.cell (p := ⟨w.heap.size, k, none⟩) hzz).trans (HL.out.cell k b hbl)
      have Hbl := Lib.hid hbl
      clear hbl
      by_cases h1 : cls b.toNat = 1
      · have H1 := Lib.hid h1
        have h1' : (cls b.toNat != 1) = false := by simp [h1]
        clear h1
        go_wp2_with fail
        refine (class_any _ hb0 hb1 _ HG1.out).mono ?_
        rintro e w3 ⟨rfl, hb3⟩
        have HB3 := Lib.hid (Hb.out.trans (hb3.mono hsz))
        clear hb3
        go_wp2_with fail
        go_roundw
        case rel => exact ⟨k + 1, by omega, by go_num, wbTo_succ Hto.out Hbl.out (wb_yes (.inl H1.out)), HB3.out⟩
        case measure => simp [intOf]; omega
      · have H1 := Lib.hid h1
        have h1' : (cls b.toNat != 1) = true := by simp [h1]
        clear h1
        by_cases h3 : cls b.toNat = 3
        · have H3 := Lib.hid h3
          have h3' : (cls b.toNat != 3) = false := by simp [h3]
          clear h3
          go_wp2_with fail
          refine (class_any _ hb0 hb1 _ HG1.out).mono ?_
          rintro e w3 ⟨rfl, hb3⟩
          have HB3 := Lib.hid (Hb.out.trans (hb3.mono hsz))
          have HG3 := Lib.hid (HG1.out.below hb3 (Nat.le_refl _))
          have hsz3 := hb3.size
          clear hb3
          go_wp2_with fail
          refine (class_any _ hb0 hb1 _ HG3.out).mono ?_
          rintro e w4 ⟨rfl, hb4⟩
          have HB4 := Lib.hid (HB3.out.trans (hb4.mono (by omega)))
          clear hb4
          go_wp2_with fail
          go_roundw
          case rel => exact ⟨k + 1, by omega, by go_num, wbTo_succ Hto.out Hbl.out (wb_yes (.inr (.inl H3.out))), HB4.out⟩
          case measure => simp [intOf]; omega
        · have H3 := Lib.hid h3
          have h3' : (cls b.toNat != 3) = true := by simp [h3]
          clear h3
          by_cases hd : b.toNat = 45 ∨ b.toNat = 95 ∨ b.toNat = 46
          · have Hd : Hid (wb b.toNat = true) := wb_yes (by omega)
            have Hd' := Lib.hid hd
            clear hd
            go_wp2_with fail
            refine (class_any _ hb0 hb1 _ HG1.out).mono ?_
            rintro e w3 ⟨rfl, hb3⟩
            have HB3 := Lib.hid (Hb.out.trans (hb3.mono hsz))
            have HG3 := Lib.hid (HG1.out.below hb3 (Nat.le_refl _))
            have hsz3 := hb3.size
            clear hb3
            go_wp2_with fail
            refine (class_any _ hb0 hb1 _ HG3.out).mono ?_
            rintro e w4 ⟨rfl, hb4⟩
            have HB4 := Lib.hid (HB3.out.trans (hb4.mono (by omega)))
            clear hb4
            go_wp2_with fail
            refine (idxWord b _).mono ?_
            rintro e w5 ⟨r, rfl, hr, _, rfl⟩
            have hr0 := hr Hd'.out
            clear hr
            go_wp2_with fail
            go_roundw
            case rel => exact ⟨k + 1, by omega, by go_num, wbTo_succ Hto.out Hbl.out Hd.out, HB4.out⟩
            case measure => simp [intOf]; omega
          · have Hd : Hid (wb b.toNat = false) := wb_no (by have := H1.out; have := H3.out; omega)
            have Hd' := Lib.hid hd
            clear hd
            go_wp2_with fail
            refine (class_any _ hb0 hb1 _ HG1.out).mono ?_
            rintro e w3 ⟨rfl, hb3⟩
            have HB3 := Lib.hid (Hb.out.trans (hb3.mono hsz))
            have HG3 := Lib.hid (HG1.out.below hb3 (Nat.le_refl _))
            have hsz3 := hb3.size
            clear hb3
            go_wp2_with fail
            refine (class_any _ hb0 hb1 _ HG3.out).mono ?_
            rintro e w4 ⟨rfl, hb4⟩
            have HB4 := Lib.hid (HB3.out.trans (hb4.mono (by omega)))
            clear hb4
            go_wp2_with fail
            refine (idxWord b _).mono ?_
            rintro e w5 ⟨r, rfl, _, hr, rfl⟩
            have hr0 := hr Hd'.out
            clear hr
            go_wp2_with fail
            go_ret
            exact ⟨ret_bool (word_bad Hbl.out Hd.out), HB2.out.trans (HB4.out.mono (by omega))⟩
    · obtain rfl : k = s.size := by omega
      have He : Hid (wordL s.data.toList = (decide (1 ≤ s.size) && decide (s.size ≤ 32))) := by
        have := word_end (l := s.data.toList) (by simpa using Hto.out)
        show _ = _
        simpa using this
      rcases (show s.size < 1 ∨ (1 ≤ s.size ∧ s.size ≤ 32) ∨ 32 < s.size by omega) with h | ⟨h, h'⟩ | h
      · go_wp2_with fail
        go_ret
        exact ⟨ret_bool (by rw [He.out, decide_eq_false (p := 1 ≤ s.size) (by omega)]; rfl), HB2.out.trans (Hb.out.mono (by omega))⟩
      · go_wp2_with fail
        go_ret
        exact ⟨ret_bool (by rw [He.out, decide_eq_true (p := 1 ≤ s.size) (by omega), decide_eq_true (p := s.size ≤ 32) (by omega)]; first | rfl | exact (decide_eq_true (by omega)).symm), HB2.out.trans (Hb.out.mono (by omega))⟩
      · go_wp2_with fail
        go_ret
        exact ⟨ret_bool (by rw [He.out, decide_eq_true (p := 1 ≤ s.size) (by omega), decide_eq_false (p := s.size ≤ 32) (by omega)]; first | rfl | exact (decide_eq_false (by omega)).symm), HB2.out.trans (Hb.out.mono (by omega))⟩
end Go.Proofs.YtbelnaiekbfoiaaGreatDoor.gl
/- value.number, cut, parseNumber, parseBool, parseText, parseWords, Parse return plain functions. Conditions: the listed variables hold what the program's text lays; the text is no longer than 2147483647 bytes. -/
namespace Go.Proofs.YtbelnaiekbfoiaaGreatDoor.va
open Go.ChangeShapes Go.WideShapes Go.ChangeAt Go.RowKit gl

/-- The listed variables lie in the world. -/
structure Vlo (w : World) : Prop where
  glo : Glo w
  units : w.rangeAt 0 0 unitsL
  pow : Lib.TabIs Tryz.prog w "internal/strconv.uint64pow10" .u64 Lib.pow10Tab
  rng : ∃ tp p, w.var? Tryz.prog "strconv.ErrRange" = some #[.iface tp p]
theorem gPow : Tryz.prog.globalNamed "internal/strconv.uint64pow10" = some 4 := by kernel_rfl
theorem gRng : Tryz.prog.globalNamed "strconv.ErrRange" = some 6 := by kernel_rfl
theorem var_lt {w : World} {n : String} {g : Nat} {cs : Array Value} (hg : Tryz.prog.globalNamed n = some g) (h : w.var? Tryz.prog n = some cs) : g < w.heap.size := by
  unfold World.var? at h
  simp only [hg, Option.bind_some] at h
  rcases Nat.lt_or_ge g w.heap.size with h1 | h1
  · exact h1
  · rw [Array.getElem?_eq_none h1] at h
    simp at h
theorem Vlo.below {w w' : World} {b : Nat} (h : Vlo w) (hb : Below b w w') (hB : w.heap.size ≤ b) : Vlo w' := by
  obtain ⟨h1, h2, h3, tp, p, h4⟩ := h
  have hu : 0 < w.heap.size := World.block_lt_of_cell? _ _ (h2 0 _ rfl)
  have hp := var_lt gPow h3
  have hr := var_lt gRng h4
  refine ⟨h1.below hb hB, fun j v hv => ?_, var?_below hb gPow (by omega) h3, tp, p, var?_below hb gRng (by omega) h4⟩
  rw [hb.cell (p := ⟨0, 0 + j, none⟩) (by show 0 < b; omega)]
  exact h2 j v hv

theorem num_cases (l : List UInt8) (h : l.all isDig = true) : (l = [] ∧ num l = none) ∨ (∃ r, l = 48 :: r ∧ r ≠ [] ∧ num l = none) ∨ (l ≠ [] ∧ (∀ r, l = 48 :: r → r = []) ∧ num l = some (min (decN 0 l) 4611686018427387905)) := by
  cases l with
  | nil => exact .inl ⟨rfl, rfl⟩
  | cons c r =>
    right
    by_cases hc : c.toNat = 48
    · have : c = 48 := UInt8.toNat_inj.1 hc
      subst this
      by_cases hr : r = []
      · exact .inr ⟨by simp, fun r' e => by simp at e; rw [← e]; exact hr, num_some h (by subst hr; rfl)⟩
      · exact .inl ⟨r, rfl, hr, num_unshaped (by cases r with | nil => exact absurd rfl hr | cons => rfl)⟩
    · refine .inr ⟨by simp, fun r' e => ?_, num_some h (by simp [shaped, hc])⟩
      simp at e
      rw [e.1] at hc
      exact absurd rfl hc
def okNum (o : Option Nat) (n : Int) (b : Bool) : Prop := b = o.isSome ∧ ∀ m, o = some m → n = m
theorem okNum_none {o : Option Nat} (h : o = none) (n : Int) : okNum o n false := by subst h; exact ⟨rfl, fun m e => by cases e⟩
theorem okNum_some {o : Option Nat} {m : Nat} (h : o = some m) : okNum o m true := by subst h; exact ⟨rfl, fun k e => by cases e; rfl⟩

def NumOut (l : List UInt8) (e : Ending) : Prop := ∃ (n : Int) (b : Bool), e = .returned (.tuple #[.int .i64 n, .bool b]) ∧ okNum (num l) n b ∧ 0 ≤ n ∧ n ≤ 4611686018427387905

set_option maxHeartbeats 4000000 in
theorem number_any (s : ByteArray) (hs : s.size ≤ 2147483647) (w : World) (hV : Vlo w) :
    Calls Tryz.prog 179 #[.string s] w fun e w' => NumOut s.data.toList e ∧ Below w.heap.size w w' := by
  have HV := Lib.hid hV
  clear hV
  have hsz : s.data.toList.length = s.size := by simp
  go_enter Tryz.func179, Tryz.ntmps179
  go_wp2_with fail
  go_loopg [] s.size (fun gf wr => ∃ pos : Nat, pos ≤ s.size ∧ wr.heap[w.heap.size]? = some (.stringIter s pos) ∧ Below w.heap.size w wr ∧ goodTo isDig s.data.toList pos ∧ s.size ≤ pos + gf)
  case atStart => exact ⟨0, by omega, World.iter_heap w s 0, (Below.refl _ w).alloc (Nat.le_refl _) _, fun j b h => by omega, by omega⟩
  case round =>
    obtain ⟨pos, hps, hit, hbw, hto, hfu⟩ := hrel
    by_cases hp : pos < s.size
    · obtain ⟨g', rfl⟩ : ∃ g', gk = g' + 1 := ⟨gk - 1, by omega⟩
      have hnx : ∀ ty, (Instr.next (.pointer (some ⟨w.heap.size, 0, none⟩)) true ty).run Tryz.prog wr = _ := fun ty => Lib.run_next_any_at wr w.heap.size s pos ty hit hp
      obtain ⟨b, hb, hc⟩ := rune_at s pos hp
      have hit2 := Lib.iterAt_heap wr w.heap.size s pos (pos + (Utf8.decode s pos).2) hit
      have hbw2 := Lib.below_iterAt hbw (k := w.heap.size) (Nat.le_refl _) s (pos + (Utf8.decode s pos).2)
      rcases hc with ⟨h128, he⟩ | ⟨h128, hr, hr2⟩
      · rw [he] at hnx hit2 hbw2
        obtain ⟨W, hW⟩ : ∃ W, wr.iterAt w.heap.size s (pos + (b.toNat, 1).2) = W := ⟨_, rfl⟩
        rw [hW] at hnx hit2 hbw2
        have Hto := Lib.hid hto
        have Hb := Lib.hid hb
        clear hto hb he hW
        rcases (show b.toNat < 48 ∨ (48 ≤ b.toNat ∧ b.toNat ≤ 57) ∨ 57 < b.toNat by omega) with h | ⟨h, h'⟩ | h
        · go_wp2_with fail
          go_ret2
          exact ⟨⟨_, _, rfl, okNum_none (num_bad (all_bad Hb.out (dig_no (by omega)))) _, by omega, by omega⟩, hbw2⟩
        · go_wp2_with fail
          go_roundg g'
          case measure => omega
          case rel => exact ⟨pos + 1, by omega, hit2, hbw2, goodTo_succ Hto.out Hb.out (dig_yes h h'), by omega⟩
        · go_wp2_with fail
          go_ret2
          exact ⟨⟨_, _, rfl, okNum_none (num_bad (all_bad Hb.out (dig_no (by omega)))) _, by omega, by omega⟩, hbw2⟩
      · have Hb := Lib.hid hb
        clear hb hto
        obtain ⟨W, hW⟩ : ∃ W, wr.iterAt w.heap.size s (pos + (Utf8.decode s pos).2) = W := ⟨_, rfl⟩
        obtain ⟨R, hR⟩ : ∃ R, (Utf8.decode s pos).1 = R := ⟨_, rfl⟩
        rw [hW] at hnx hit2 hbw2
        rw [hR] at hnx hr hr2
        clear hW hR
        go_wp2_with fail
        go_ret2
        exact ⟨⟨_, _, rfl, okNum_none (num_bad (all_bad Hb.out (dig_no (by omega)))) _, by omega, by omega⟩, hbw2⟩
    · have hnx : ∀ ty, (Instr.next (.pointer (some ⟨w.heap.size, 0, none⟩)) true ty).run Tryz.prog wr = _ := fun ty => Lib.run_next_end_at wr w.heap.size s pos ty hit hp
      have hall : s.data.toList.all isDig = true := all_good (by
        obtain rfl : pos = s.size := by omega
        simpa using hto)
      have HVr := Lib.hid (HV.out.below hbw (Nat.le_refl _))
      have Hbw := Lib.hid hbw
      have hszr := hbw.size
      clear hto hbw
      rcases num_cases _ hall with ⟨h0, hn⟩ | ⟨r, h0, hr, hn⟩ | ⟨h0, h48, hn⟩
      · have he : s.toList.isEmpty = true := by rw [ByteArray.toList_eq, h0]; rfl
        have Hn := Lib.hid hn
        clear h0 hn hall
        go_wp2_with fail
        go_ret2
        exact ⟨⟨_, _, rfl, okNum_none Hn.out _, by omega, by omega⟩, Hbw.out⟩
      · have he : s.toList.isEmpty = false := by rw [ByteArray.toList_eq, h0]; rfl
        have h2 : 1 < s.size := by
          have := List.length_pos_iff.2 hr
          rw [h0] at hsz
          simp at hsz
          omega
        obtain ⟨b, hb, hbk, _, _⟩ := byteAt s 0 (by omega)
        rw [h0] at hb
        obtain rfl : b = 48 := by simpa using hb.symm
        have Hn := Lib.hid hn
        clear h0 hn hall hb
        go_wp2_with fail
        go_ret2
        exact ⟨⟨_, _, rfl, okNum_none Hn.out _, by omega, by omega⟩, Hbw.out⟩
      · have he : s.toList.isEmpty = false := by
          rw [ByteArray.toList_eq]
          cases hl : s.data.toList with
          | nil => exact absurd hl h0
          | cons => rfl
        have hat := atoi_dec hall h0
        have Hn := Lib.hid hn
        have Hcont : Hid (∀ _w1 : World, Calls Tryz.prog 220 #[.string s] wr fun e w' => Below wr.heap.size wr w' ∧ ((∃ v : Nat, v ≤ 4611686018427387904 ∧ num s.data.toList = some v ∧ e = .returned (.tuple #[.int .i64 v, .nilIface])) ∨
            (∃ v : Nat, 4611686018427387904 < v ∧ num s.data.toList = some 4611686018427387905 ∧ e = .returned (.tuple #[.int .i64 v, .nilIface])) ∨
            (∃ (v : Int) (tp : TypeId) (q : Value), num s.data.toList = some 4611686018427387905 ∧ e = .returned (.tuple #[.int .i64 v, .iface tp q])))) := Lib.hid (fun _ => by
          by_cases hb : decN 0 s.data.toList < 9223372036854775808
          · rw [if_pos hb] at hat
            refine (Tryz.strconv_Atoi_ok s (by omega) _ hat wr).mono ?_
            rintro e w' ⟨rfl, hw'⟩
            have hbel : Below wr.heap.size wr w' := by
              rcases hw' with rfl | ⟨t, rfl⟩
              · exact Below.refl _ _
              · exact Joins.below_bytesWorld _ _ _ _ (Nat.le_refl _)
            refine ⟨hbel, ?_⟩
            by_cases hle : decN 0 s.data.toList ≤ 4611686018427387904
            · exact .inl ⟨_, hle, by rw [Hn.out, Nat.min_eq_left (by omega)], rfl⟩
            · exact .inr (.inl ⟨_, by omega, by rw [Hn.out, Nat.min_eq_right (by omega)], rfl⟩)
          · rw [if_neg hb] at hat
            obtain ⟨tp, p, hvar⟩ := HVr.out.rng
            refine (Tryz.strconv_Atoi_range_var s (by omega) hat tp p wr hvar).mono ?_
            rintro e w' ⟨N, rfl, _, _, hbel⟩
            exact ⟨hbel, .inr (.inr ⟨_, _, _, by rw [Hn.out, Nat.min_eq_right (by omega)], rfl⟩)⟩)
        clear hat hn hall
        by_cases h1 : 1 < s.size
        · obtain ⟨b, hb, hbk, _, _⟩ := byteAt s 0 (by omega)
          have hb48 : ((b.toNat : Int) == 48) = false := by
            simp only [beq_eq_false_iff_ne]
            intro e
            have : b = 48 := UInt8.toNat_inj.1 (by show b.toNat = 48; omega)
            subst this
            cases hl : s.data.toList with
            | nil => exact h0 hl
            | cons c r =>
              rw [hl] at hb hsz
              simp at hb
              subst hb
              have := h48 r hl
              subst this
              simp at hsz
              omega
          clear hb h48 h0
          go_wp2_with fail
          refine (Hcont.out wr).mono ?_
          rintro e w2 ⟨hb2, ⟨v, hv, hn, rfl⟩ | ⟨v, hv, hn, rfl⟩ | ⟨v, tp, q, hn, rfl⟩⟩
          all_goals
            have HN := Lib.hid hn
            clear hn
            go_wp2_with fail
            go_ret2
          · exact ⟨⟨_, _, rfl, okNum_some HN.out, by omega, by omega⟩, Hbw.out.trans (hb2.mono hszr)⟩
          · exact ⟨⟨_, _, rfl, okNum_some HN.out, by omega, by omega⟩, Hbw.out.trans (hb2.mono hszr)⟩
          · exact ⟨⟨_, _, rfl, okNum_some HN.out, by omega, by omega⟩, Hbw.out.trans (hb2.mono hszr)⟩
        · clear h48 h0
          go_wp2_with fail
          refine (Hcont.out wr).mono ?_
          rintro e w2 ⟨hb2, ⟨v, hv, hn, rfl⟩ | ⟨v, hv, hn, rfl⟩ | ⟨v, tp, q, hn, rfl⟩⟩
          all_goals
            have HN := Lib.hid hn
            clear hn
            go_wp2_with fail
            go_ret2
          · exact ⟨⟨_, _, rfl, okNum_some HN.out, by omega, by omega⟩, Hbw.out.trans (hb2.mono hszr)⟩
          · exact ⟨⟨_, _, rfl, okNum_some HN.out, by omega, by omega⟩, Hbw.out.trans (hb2.mono hszr)⟩
          · exact ⟨⟨_, _, rfl, okNum_some HN.out, by omega, by omega⟩, Hbw.out.trans (hb2.mono hszr)⟩

theorem pq (r : Nat) : (decide ((r : Int) < 48) || decide (57 < (r : Int))) = decide (r < 48 ∨ 57 < r) := by
  rw [Bool.eq_iff_iff]
  simp only [Bool.or_eq_true, decide_eq_true_eq]
  omega
theorem cutp_any (r : Nat) (w : World) :
    Calls Tryz.prog 219 #[.int .i32 (r : Int)] w fun e w' => e = .returned (.bool (decide (r < 48 ∨ 57 < r))) ∧ w' = w := by
  rcases (show r < 48 ∨ (48 ≤ r ∧ r ≤ 57) ∨ 57 < r by omega) with h | ⟨h, h'⟩ | h
  all_goals
    go_enter Tryz.func219, Tryz.ntmps219
    go_wp2_with fail
    go_ret
  all_goals exact ⟨ret_bool (by first | rfl | exact (pq r).symm), rfl⟩

/-- Where the digits end. -/
theorem idx_digs (s : ByteArray) : ∀ (f pos : Nat), s.size ≤ pos + f → pos ≤ s.size → goodTo isDig s.data.toList pos →
    Lib.idxFuncFrom (fun r => decide (r < 48 ∨ 57 < r)) true s f pos = if digs s.data.toList = s.size then -1 else (digs s.data.toList : Int)
  | 0, pos, hf, hp, hg => by
    have hd : digs s.data.toList = s.size := digs_at (fun j b hj => hg j b (by omega)) (by simp) (fun b hb => by rw [List.getElem?_eq_none (by simp)] at hb; cases hb)
    rw [if_pos hd]
    rfl
  | f + 1, pos, hf, hp, hg => by
    unfold Lib.idxFuncFrom
    by_cases hlt : pos < s.size
    · rw [if_pos hlt]
      obtain ⟨b, hb, hc⟩ := rune_at s pos hlt
      by_cases hd : isDig b = true
      · have hd' : 48 ≤ b.toNat ∧ b.toNat ≤ 57 := of_decide_eq_true hd
        rcases hc with ⟨_, he⟩ | ⟨h128, _⟩
        · rw [he, if_neg (by simp only [decide_eq_true_eq]; omega)]
          exact idx_digs s f (pos + 1) (by omega) (by omega) (goodTo_succ hg hb hd)
        · omega
      · have hd0 : isDig b = false := by simpa using hd
        have hd' : ¬ (48 ≤ b.toNat ∧ b.toNat ≤ 57) := of_decide_eq_false hd0
        have hde : digs s.data.toList = pos := digs_at (fun j c hj => hg j c hj) (by simpa using hp) (fun c hc' => by rw [hb] at hc'; obtain rfl := Option.some.inj hc'; exact hd0)
        rw [if_pos, hde, if_neg (by omega)]
        rcases hc with ⟨_, he⟩ | ⟨_, h1, _⟩
        · rw [he]; simp only [decide_eq_true_eq]; omega
        · simp only [decide_eq_true_eq]; omega
    · rw [if_neg hlt]
      have hd : digs s.data.toList = s.size := digs_at (fun j b hj => hg j b (by omega)) (by simp) (fun b hb => by rw [List.getElem?_eq_none (by simp)] at hb; cases hb)
      rw [if_pos hd]
end Go.Proofs.YtbelnaiekbfoiaaGreatDoor.va
/- What the rows' list gives the Value layer: the tables lie in the world, strconv.ErrRange holds an error; and a world for the witness. No conditions. -/
namespace Go.Proofs.YtbelnaiekbfoiaaGreatDoor.va
open Go.ChangeShapes Go.WideShapes Go.ChangeAt Go.RowKit gl

def laidV : List (String × DataW Unit) := [("math/bits.deBruijn32tab", Rows.laid_math_bits_deBruijn32tab), ("math/bits.deBruijn64tab", Rows.laid_math_bits_deBruijn64tab), ("internal/strconv.uint64pow10", Rows.laid_internal_strconv_uint64pow10), ("unicode/utf8.acceptRanges", Rows.laid_unicode_utf8_acceptRanges), ("strconv.ErrRange", Rows.laid_strconv_ErrRange), ("strconv.ErrSyntax", Rows.laid_strconv_ErrSyntax), ("tinderbox/glyph.letters", Rows.laid_tinderbox_glyph_letters), ("tinderbox/glyph.others", Rows.laid_tinderbox_glyph_others), ("tinderbox/value.units", Rows.laid_tinderbox_value_units), ("unicode/utf8.first", Rows.laid_unicode_utf8_first)]

theorem gUni : Tryz.prog.globalNamed "tinderbox/value.units" = some 0 := by kernel_rfl
theorem gUniT : (Tryz.prog.globals[0]?).map (·.type) = some 206 := by kernel_rfl
theorem gPowT : (Tryz.prog.globals[4]?).map (·.type) = some 277 := by kernel_rfl
theorem gRngT : (Tryz.prog.globals[6]?).map (·.type) = some 165 := by kernel_rfl
theorem cUnit : Tryz.prog.cellsOf 205 = 3 := by kernel_rfl
theorem cStr : Tryz.prog.cellsOf 9 = 1 := by kernel_rfl
theorem cErr : Tryz.prog.cellsOf 300 = 1 := by kernel_rfl
theorem cU64 : Tryz.prog.cellsOf 226 = 1 := by kernel_rfl
theorem cPow : Tryz.prog.cellsOf 277 = 20 := by kernel_rfl
theorem star : "*" ++ "errors.errorString" = "*errors.errorString" := by decide
theorem rowErr (u : TypeId) (h : Tryz.prog.typeName? 3 u = some "*errors.errorString") : u = 298 :=
  typeName_ptr_named (nm := "errors.errorString") (by rw [star]; kernel_rfl) (by kernel_rfl) (by decide) u (by rw [star]; exact h)
theorem powData : (Rows.laid_internal_strconv_uint64pow10 : DataW Unit) = Lib.tabData .u64 Lib.pow10Tab := by kernel_rfl

theorem unit_cells {H : Type} {enc : TypeId × Value → H} {w : World} {base fuel : Nat} {sp : Nat → Bool} {held : Bool} {cs : List Value} {a c : Int} {b : List UInt8} {p : List MemPlace}
    (h : DataW.trod enc Tryz.prog w base sp held fuel 205 cs = some (.agg [.lit (.int .i64 a), .lit (.string b), .lit (.int .i64 c)], p)) : cs = [.int .i64 a, .string ⟨b.toArray⟩, .int .i64 c] := by
  obtain ⟨xs, n, rfl, hx, hl, hxl, hall⟩ := DataW.trod_struct Tryz.underlying205 h
  rw [cUnit] at hl
  have f0 := hall 0 _ rfl
  have f1 := hall 1 _ rfl
  have f2 := hall 2 _ rfl
  change DataW.trod _ _ _ _ _ _ _ 3 ((cs.drop 0).take (Tryz.prog.cellsOf 3)) = _ at f0
  change DataW.trod _ _ _ _ _ _ _ 9 ((cs.drop 1).take (Tryz.prog.cellsOf 9)) = _ at f1
  change DataW.trod _ _ _ _ _ _ _ 3 ((cs.drop 2).take (Tryz.prog.cellsOf 3)) = _ at f2
  rw [cInt] at f0 f2
  rw [cStr] at f1
  have hxl3 : xs.length = 3 := hxl
  clear hall hxl
  obtain ⟨x0, x1, x2, rfl⟩ := len3 hxl3
  obtain ⟨c0, c1, c2, rfl⟩ := len3 hl
  obtain ⟨z0, e0, y0, _⟩ := DataW.trod_int Tryz.underlying3 f0
  obtain ⟨z1, e1, y1, _⟩ := DataW.trod_string Tryz.underlying9 f1
  obtain ⟨z2, e2, y2, _⟩ := DataW.trod_int Tryz.underlying3 f2
  simp at e0 e1 e2
  simp only [Prod.mk.injEq, DataW.agg.injEq, List.map_cons, List.map_nil, List.cons.injEq, and_true, y0, y1, y2, DataW.lit.injEq, Lit.int.injEq, Lit.string.injEq, true_and] at hx
  obtain ⟨⟨rfl, rfl, rfl⟩, _⟩ := hx
  rw [e0, e1, e2]

theorem elem_unit {H : Type} {enc : TypeId × Value → H} {w : World} {base fuel : Nat} {sp : Nat → Bool} {held : Bool} {cs : List Value} {ds : List (DataW H)} {p : List MemPlace}
    (h : DataW.trod enc Tryz.prog w base sp held fuel 206 cs = some (.agg ds, p)) (i : Nat) (hi : i < 8) {a c : Int} {b : List UInt8}
    (hd : ds[i]? = some (.agg [.lit (.int .i64 a), .lit (.string b), .lit (.int .i64 c)])) (j : Nat) (hj : j < 3) : cs[i * 3 + j]? = [Value.int .i64 a, .string ⟨b.toArray⟩, .int .i64 c][j]? := by
  obtain ⟨fuel', d, q, hdi, he⟩ := Lib.array_elem Tryz.underlying206 h i hi
  obtain rfl := Option.some.inj (hd.symm.trans hdi)
  rw [cUnit] at he
  have hcs := unit_cells he
  have := congrArg (·[j]?) hcs
  simp only [List.getElem?_take, List.getElem?_drop] at this
  rw [if_pos hj] at this
  exact this

theorem units_of {W : World} (h : Lib.VarReads Tryz.prog W "tinderbox/value.units" Rows.laid_tinderbox_value_units) : W.rangeAt 0 0 unitsL := by
  obtain ⟨g, t, cs, fuel, p, hg, hty, hvar, hd⟩ := h
  obtain rfl := Option.some.inj (gUni.symm.trans hg)
  obtain rfl := Option.some.inj (gUniT.symm.trans hty)
  intro k v hv
  have hk : k < 24 := (List.getElem?_eq_some_iff.1 hv).1
  rw [World.var?_cell hg hvar _, ← hv, ← Array.getElem?_toList, Nat.zero_add]
  have e : k = k / 3 * 3 + k % 3 := by omega
  have hq : k / 3 < 8 := by omega
  have hr : k % 3 < 3 := by omega
  rw [e]
  generalize k / 3 = q at hq
  generalize k % 3 = r at hr
  clear e hv hk
  match q, hq with
  | 0, _ => rw [elem_unit hd 0 (by decide) rfl r hr]; match r, hr with | 0, _ => rfl | 1, _ => rfl | 2, _ => rfl
  | 1, _ => rw [elem_unit hd 1 (by decide) rfl r hr]; match r, hr with | 0, _ => rfl | 1, _ => rfl | 2, _ => rfl
  | 2, _ => rw [elem_unit hd 2 (by decide) rfl r hr]; match r, hr with | 0, _ => rfl | 1, _ => rfl | 2, _ => rfl
  | 3, _ => rw [elem_unit hd 3 (by decide) rfl r hr]; match r, hr with | 0, _ => rfl | 1, _ => rfl | 2, _ => rfl
  | 4, _ => rw [elem_unit hd 4 (by decide) rfl r hr]; match r, hr with | 0, _ => rfl | 1, _ => rfl | 2, _ => rfl
  | 5, _ => rw [elem_unit hd 5 (by decide) rfl r hr]; match r, hr with | 0, _ => rfl | 1, _ => rfl | 2, _ => rfl
  | 6, _ => rw [elem_unit hd 6 (by decide) rfl r hr]; match r, hr with | 0, _ => rfl | 1, _ => rfl | 2, _ => rfl
  | 7, _ => rw [elem_unit hd 7 (by decide) rfl r hr]; match r, hr with | 0, _ => rfl | 1, _ => rfl | 2, _ => rfl

theorem glo_of2 {W : World} (hl : Lib.VarReads Tryz.prog W "tinderbox/glyph.letters" Rows.laid_tinderbox_glyph_letters) (ho : Lib.VarReads Tryz.prog W "tinderbox/glyph.others" Rows.laid_tinderbox_glyph_others) (hs : W.ShapedOpen Tryz.prog) : Glo W :=
  ⟨letters_of hl, others_of ho, cell_of_shapedOpen_int (zero := #[.int .i64 0]) (t := 3) hs (of_decide_eq_true (by kernel_rfl)) (by kernel_rfl) rfl (by kernel_rfl) (by kernel_rfl) Tryz.underlying3⟩
theorem vlo_of {W : World} (h : laidMet Tryz.prog laidV W) (hs : W.ShapedOpen Tryz.prog) : Vlo W := by
  refine ⟨glo_of2 (Lib.laidMet.reads h (.tail _ (.tail _ (.tail _ (.tail _ (.tail _ (.tail _ (.head _)))))))) (Lib.laidMet.reads h (.tail _ (.tail _ (.tail _ (.tail _ (.tail _ (.tail _ (.tail _ (.head _))))))))) hs, units_of (Lib.laidMet.reads h (.tail _ (.tail _ (.tail _ (.tail _ (.tail _ (.tail _ (.tail _ (.tail _ (.head _)))))))))), ?_, ?_⟩
  · have h2 : laidMet Tryz.prog (("internal/strconv.uint64pow10", Rows.laid_internal_strconv_uint64pow10) :: laidV.drop 3) W := h.tail.tail
    rw [powData] at h2
    exact Lib.tabIs_of_head gPow gPowT Tryz.underlying277 Tryz.underlying226 cU64 cPow h2
  · obtain ⟨a, s, hv, -, -, -⟩ := laid_sentinel h.tail.tail.tail.tail gRng gRngT Tryz.underlying165 rowErr Tryz.underlying298 Tryz.underlying300 rfl rfl Tryz.underlying9 cErr cStr
    exact ⟨_, _, hv⟩

/-- Integers laid, as cells. -/
def flat : DataW Unit → List Value
  | .agg l => l.map fun
    | .lit (.int k z) => .int k z
    | _ => .int .u8 0
  | _ => []
noncomputable def laidWorldV (os : Os) : World :=
  let w1 := World.lay (World.lay (World.lay (World.lay (laidWorld os) 0 unitsL) 4 (flat Rows.laid_internal_strconv_uint64pow10)) 9 (flat Rows.laid_math_bits_deBruijn32tab)) 10 (flat Rows.laid_math_bits_deBruijn64tab)
  let w2 := (w1.alloc (.cells #[.string ⟨#[118, 97, 108, 117, 101, 32, 111, 117, 116, 32, 111, 102, 32, 114, 97, 110, 103, 101]⟩] 300)).alloc (.cells #[.string ⟨#[105, 110, 118, 97, 108, 105, 100, 32, 115, 121, 110, 116, 97, 120]⟩] 300)
  World.lay (World.lay w2 6 [.iface 298 (.pointer (some ⟨w1.heap.size, 0, none⟩))]) 5 [.iface 298 (.pointer (some ⟨w1.heap.size + 1, 0, none⟩))]
set_option maxRecDepth 100000 in
theorem laid_metV (os : Os) : laidMet Tryz.prog laidV ((laidWorldV os).forCall (fun _ _ => 0) ⟨#[], #[], []⟩).memory :=
  laidMet_of_run' 8 (by kernel_rfl) (by kernel_rfl)
end Go.Proofs.YtbelnaiekbfoiaaGreatDoor.va
/- Laws on memory for any program: which old blocks a call may have turned, and that what is read elsewhere stays. No program in sight; no conditions beside those stated. -/
namespace Go.Proofs.YtbelnaiekbfoiaaGreatDoor
open Go.RowKit

/-- No old block outside S has turned. -/
structure Upd (S : List Nat) (w w' : World) : Prop where
  os : w'.os = w.os
  tape : w'.tape = w.tape
  output : w'.output = w.output
  size : w.heap.size ≤ w'.heap.size
  block : ∀ k, k < w.heap.size → k ∉ S → w'.heap[k]? = w.heap[k]?

namespace Upd
variable {S T : List Nat} {a b c w w' : World}
theorem refl (S : List Nat) (w : World) : Upd S w w := ⟨rfl, rfl, rfl, Nat.le_refl _, fun _ _ _ => rfl⟩
theorem of_below (h : Below w.heap.size w w') (S : List Nat) : Upd S w w' := ⟨h.os, h.tape, h.output, h.size, fun k hk _ => h.block k hk⟩
theorem of_grown {row : Option Nat} (h : w.grownBy w' row) (hr : ∀ k, row = some k → k ∈ S) : Upd S w w' :=
  ⟨h.os, h.tape, h.output, h.size, fun k hk hn => h.block k hk fun e => hn (hr k e.symm)⟩
theorem trans (h : Upd S a b) (h2 : Upd T b c) (hT : ∀ k ∈ T, k ∈ S ∨ a.heap.size ≤ k) : Upd S a c :=
  ⟨h2.os.trans h.os, h2.tape.trans h.tape, h2.output.trans h.output, Nat.le_trans h.size h2.size, fun k hk hn =>
    (h2.block k (Nat.lt_of_lt_of_le hk h.size) fun e => by rcases hT k e with h' | h'; exact hn h'; omega).trans (h.block k hk hn)⟩
theorem mono (h : Upd S w w') (hT : ∀ k ∈ S, k ∈ T) : Upd T w w' := ⟨h.os, h.tape, h.output, h.size, fun k hk hn => h.block k hk fun e => hn (hT k e)⟩
theorem drew (h : Upd S a w) : Upd S a w.drew := ⟨h.os, h.tape, h.output, h.size, h.block⟩
theorem drewN (h : Upd S a w) (n : Nat) : Upd S a (w.drewN n) := ⟨h.os, h.tape, h.output, h.size, h.block⟩
theorem alloc (h : Upd S a w) (o : Obj) : Upd S a (w.alloc o) :=
  h.trans (T := []) ⟨rfl, rfl, rfl, by simp, fun k hk _ => Below.heap_alloc _ _ _ hk⟩ (by simp)
theorem setCell (h : Upd S a w) {p : Addr} (hp : p.block ∈ S ∨ a.heap.size ≤ p.block) (u : Value) : Upd S a (w.setCell p u) :=
  ⟨h.os, h.tape, h.output, by simpa [World.setCell] using h.size, fun k hk hn => (Below.heap_setCell w p u k (by
    rintro rfl
    rcases hp with h' | h'
    · exact hn h'
    · omega)).trans (h.block k hk hn)⟩
theorem grown {row : Option Nat} (h : Upd S a w) (hg : w.grownBy w' row) (hr : ∀ k, row = some k → k ∈ S ∨ a.heap.size ≤ k) : Upd S a w' :=
  ⟨hg.os.trans h.os, hg.tape.trans h.tape, hg.output.trans h.output, Nat.le_trans h.size hg.size, fun k hk hn => (hg.block k (Nat.lt_of_lt_of_le hk h.size) (by
    intro e
    rcases hr k e.symm with h' | h'
    · exact hn h'
    · omega)).trans (h.block k hk hn)⟩
theorem then_below (h : Upd S a w) (hb : Below w.heap.size w w') : Upd S a w' := h.trans (T := []) (of_below hb []) (by simp)
theorem below (h : Upd S w w') {B : Nat} (hS : ∀ k ∈ S, B ≤ k) (hB : B ≤ w.heap.size) : Below B w w' :=
  ⟨h.os, h.tape, h.output, h.size, fun k hk => h.block k (Nat.lt_of_lt_of_le hk hB) fun e => by have := hS k e; omega⟩
theorem cell (h : Upd S w w') {p : Addr} (hp : p.block < w.heap.size) (hn : p.block ∉ S) : w'.cell? p = w.cell? p := World.cell?_of_block (h.block _ hp hn)
theorem frozen (h : Upd S w w') {p : Addr} (hp : p.block < w.heap.size) (hn : p.block ∉ S) : w'.frozen? p = w.frozen? p := World.frozen?_of_block (h.block _ hp hn)
theorem obj (h : Upd S w w') {k : Nat} {o : Obj} (ho : w.heap[k]? = some o) (hn : k ∉ S) : w'.heap[k]? = some o := (h.block k (lt_of_block ho) hn).trans ho
theorem row (h : Upd S w w') {base n size : Nat} {e : TypeId} {v : Value} {xs : List Value} (ho : w.ownsRow base e size v n xs) (hn : ∀ g, v.ownBlock = some g → g ∉ S) : w'.ownsRow base e size v n xs := by
  refine ⟨ho.1, ?_⟩
  rcases ho.2 with h2 | ⟨g, cap, cur, rfl, hb, hg, r⟩
  · exact .inl h2
  · exact .inr ⟨g, cap, cur, rfl, hb, h.obj hg (hn g rfl), r⟩
end Upd

/-- A call may turn S alone; what it leaves lies in S and in new blocks. -/
def Moves (S : List Nat) (w w' : World) (R : List Nat → Prop) : Prop := ∃ S', R S' ∧ Upd S w w' ∧ ∀ k ∈ S', k ∈ S ∨ w.heap.size ≤ k
def Apart (S T : List Nat) : Prop := ∀ k ∈ S, k ∉ T
theorem Apart.symm {S T : List Nat} (h : Apart S T) : Apart T S := fun k hk hn => h k hn hk
theorem Apart.moved {S S' T : List Nat} {w : World} (h : Apart S T) (hT : ∀ k ∈ T, k < w.heap.size) (hS : ∀ k ∈ S', k ∈ S ∨ w.heap.size ≤ k) : Apart S' T := by
  intro k hk hn
  rcases hS k hk with h' | h'
  · exact h k h' hn
  · have := hT k hn; omega
theorem Apart.new {S T : List Nat} {w : World} (hT : ∀ k ∈ T, k < w.heap.size) (hS : ∀ k ∈ S, w.heap.size ≤ k) : Apart S T := by
  intro k hk hn
  have := hS k hk
  have := hT k hn
  omega

theorem ne_of_types {w : World} {a b : Nat} {c d : Array Value} {s t : TypeId} {f g : Nat × Nat} (ha : w.heap[a]? = some (.cells c s f)) (hb : w.heap[b]? = some (.cells d t g)) (h : s ≠ t) : a ≠ b := by
  rintro rfl
  rw [ha] at hb
  cases hb
  exact h rfl
theorem cell_in {w : World} {b o : Nat} {c : Array Value} {t : TypeId} {f : Nat × Nat} (h : w.heap[b]? = some (.cells c t f)) : w.cell? ⟨b, o, none⟩ = c[o]? := by simp [World.cell?, h]
theorem free_in {w : World} {b o : Nat} {c : Array Value} {t : TypeId} (h : w.heap[b]? = some (.cells c t (0, 0))) : w.frozen? ⟨b, o, none⟩ = false := by simp [World.frozen?, h]
theorem heap_set {w : World} {b o : Nat} {c : Array Value} {t : TypeId} {f : Nat × Nat} (h : w.heap[b]? = some (.cells c t f)) (u : Value) : (w.setCell ⟨b, o, none⟩ u).heap[b]? = some (.cells (c.setIfInBounds o u) t f) := by
  have hlt := lt_of_block h
  have h' : w.heap[b] = .cells c t f := by simpa [Array.getElem?_eq_getElem hlt] using h
  show (w.heap.modify b _)[b]? = _
  rw [Array.getElem?_eq_getElem (by simpa using hlt), Array.getElem_modify_self, h']
  rfl
theorem heap_set_ne {w : World} {k : Nat} {p : Addr} {o : Obj} (h : w.heap[k]? = some o) (u : Value) (hne : k ≠ p.block) : (w.setCell p u).heap[k]? = some o := (Below.heap_setCell w p u k hne).trans h
theorem heap_al {w : World} {k : Nat} {o : Obj} (h : w.heap[k]? = some o) (o' : Obj) : (w.alloc o').heap[k]? = some o := (Below.heap_alloc w o' k (lt_of_block h)).trans h
end Go.Proofs.YtbelnaiekbfoiaaGreatDoor
/- Laws on memory for any program: lists of structs that are marked by their owner, then grown, one by one. No program in sight; no conditions beside those stated. -/
namespace Go.Proofs.YtbelnaiekbfoiaaGreatDoor.ls
open Go.RowKit

theorem lt_get {α : Type} {l : List α} {x : α} {i : Nat} (h : l[i]? = some x) : i < l.length := by
  rcases Nat.lt_or_ge i l.length with h1 | h1
  · exact h1
  · rw [List.getElem?_eq_none h1] at h; cases h
theorem get_snoc {α : Type} {l : List α} {x y : α} {i : Nat} (h : (l ++ [x])[i]? = some y) : l[i]? = some y ∨ (i = l.length ∧ y = x) := by
  rcases Nat.lt_or_ge i l.length with h1 | h1
  · rw [List.getElem?_append_left h1] at h; exact .inl h
  · rw [List.getElem?_append_right h1] at h
    have := lt_get h
    simp at this
    have hi : i = l.length := by omega
    subst hi
    simp at h
    exact .inr ⟨rfl, h.symm⟩
theorem addN (g o k : Nat) : (⟨g, o, none⟩ : Addr).add k = ⟨g, o + k, none⟩ := by unfold Addr.add; split <;> simp_all

/-- The cells from o on. -/
def At (cs : Array Value) (o : Nat) (m : List Value) : Prop := ∀ (i : Nat) (v : Value), m[i]? = some v → cs[o + i]? = some v
def setR : Array Value → Nat → List Value → Array Value
  | cs, _, [] => cs
  | cs, o, v :: r => setR (cs.setIfInBounds o v) (o + 1) r
theorem setR_size : ∀ (vs : List Value) (cs : Array Value) (o : Nat), (setR cs o vs).size = cs.size
  | [], _, _ => rfl
  | v :: r, cs, o => by rw [setR, setR_size r]; simp
theorem setR_out : ∀ (vs : List Value) (cs : Array Value) (o i : Nat), i < o ∨ o + vs.length ≤ i → (setR cs o vs)[i]? = cs[i]?
  | [], _, _, _, _ => rfl
  | v :: r, cs, o, i, h => by
    rw [setR, setR_out r _ _ _ (by simp at h; omega), Array.getElem?_setIfInBounds_ne (by simp at h; omega)]
theorem setR_in : ∀ (vs : List Value) (cs : Array Value) (o : Nat), o + vs.length ≤ cs.size → At (setR cs o vs) o vs
  | [], _, _, _ => fun i v h => by simp at h
  | u :: r, cs, o, h => by
    intro i v hi
    rw [setR]
    cases i with
    | zero =>
      simp at hi
      subst hi
      rw [setR_out r _ _ _ (by omega), Nat.add_zero, Array.getElem?_setIfInBounds_self_of_lt (by simp at h; omega)]
    | succ i =>
      have := setR_in r (cs.setIfInBounds o u) (o + 1) (by simp at h ⊢; omega) i v (by simpa using hi)
      rwa [show o + 1 + i = o + (i + 1) by omega] at this
theorem At.out {cs : Array Value} {o o' : Nat} {m vs : List Value} (h : At cs o' m) (hd : o' + m.length ≤ o ∨ o + vs.length ≤ o') : At (setR cs o vs) o' m := by
  intro i v hi
  have := lt_get hi
  rw [setR_out vs cs o (o' + i) (by omega)]
  exact h i v hi
theorem heap_setCells {g : Nat} {T : TypeId} {f : Nat × Nat} : ∀ (vs : List Value) (w : World) (cs : Array Value) (o : Nat), w.heap[g]? = some (.cells cs T f) → (w.setCells g o vs).heap[g]? = some (.cells (setR cs o vs) T f)
  | [], _, _, _, h => h
  | v :: r, _w, _cs, _o, h => heap_setCells r _ _ _ (heap_set h v)
theorem heap_setCells_ne {g k : Nat} (hne : k ≠ g) : ∀ (vs : List Value) (w : World) (o : Nat), (w.setCells g o vs).heap[k]? = w.heap[k]?
  | [], _, _ => rfl
  | v :: r, w, o => by rw [World.setCells, heap_setCells_ne hne r, Below.heap_setCell w ⟨g, o, none⟩ v k hne]
theorem setCells_size {g : Nat} : ∀ (vs : List Value) (w : World) (o : Nat), (w.setCells g o vs).heap.size = w.heap.size
  | [], _, _ => rfl
  | v :: r, w, o => by rw [World.setCells, setCells_size r]; simp [World.setCell]
theorem below_setCells {B g : Nat} {w0 : World} (hg : B ≤ g) : ∀ (vs : List Value) (w : World) (o : Nat), Below B w0 w → Below B w0 (w.setCells g o vs)
  | [], _, _, h => h
  | v :: r, _w, _o, h => below_setCells hg r _ _ (h.setCell hg v)
theorem upd_setCells {S : List Nat} {g : Nat} {a : World} (hg : g ∈ S ∨ a.heap.size ≤ g) : ∀ (vs : List Value) (w : World) (o : Nat), Upd S a w → Upd S a (w.setCells g o vs)
  | [], _, _, h => h
  | v :: r, _w, o, h => upd_setCells hg r _ _ (h.setCell (p := ⟨g, o, none⟩) hg v)

section
variable (T TL : TypeId) (sz : Nat) (mk : Nat → List Value) (d B M : Nat)
/-- A block of structs of type T. -/
def SB (w : World) (g : Nat) (cs : Array Value) : Prop := w.heap[g]? = some (.cells cs T (0, 0))
def SK (w w' : World) : Prop := ∀ g cs, SB T w g cs → SB T w' g cs
structure LR where
  p : Option Addr
  n : Nat
  c : Nat
def LR.v (R : LR) : Value := .slice R.p R.n R.c
/-- One list, in a block from B on, below M; its first q elements are marked. -/
def HoldR (w : World) (i : Nat) (R : LR) (q : Nat) : Prop :=
  R.n ≤ 4294967295 ∧ R.n ≤ R.c ∧ ((R.p = none ∧ R.n = 0 ∧ R.c = 0) ∨ ∃ g cs, R.p = some ⟨g, 0, none⟩ ∧ B ≤ g ∧ g < M ∧ SB T w g cs ∧ R.c * sz ≤ cs.size ∧ ∀ j, j < q → j < R.n → At cs (j * sz) (mk i))
/-- All lists from k on; of list i cnt i elements are marked. -/
def Hold (w : World) (rs : List LR) (k : Nat) (cnt : Nat → Nat) : Prop := ∀ (i : Nat) (R : LR), k ≤ i → rs[i]? = some R → HoldR T sz mk B M w i R (cnt i)
def Dist (rs : List LR) : Prop := ∀ (i j : Nat) (Ri Rj : LR) (g : Nat), rs[i]? = some Ri → rs[j]? = some Rj → Ri.p = some ⟨g, 0, none⟩ → Rj.p = some ⟨g, 0, none⟩ → i = j
def cntAt (i j : Nat) : Nat → Nat := fun k => if k < i then 4294967295 else if k = i then j else 0
/-- The lists, in a row. -/
def LRow (w : World) (gl : Nat) (rs : List LR) : Prop := ∃ cl, w.heap[gl]? = some (.cells cl TL (0, 0)) ∧ ∀ (i : Nat) (R : LR), rs[i]? = some R → cl[i]? = some R.v
/-- A list that has i's mark alone. -/
def Ent (w : World) (v : Value) (i : Nat) : Prop := ∃ p n c, v = .slice p n c ∧ n ≤ 8589934592 ∧ n ≤ c ∧ (n = 0 ∨ ∃ g cs, p = some ⟨g, 0, none⟩ ∧ SB T w g cs ∧ ∀ j, j < n → At cs (j * sz) (mk i))
def Ents (w : World) (vals : List Value) : Prop := ∀ (t : Nat) (v : Value), vals[t]? = some v → Ent T sz mk w v (t / d)
/-- Where the lists that were collected lie. -/
def Src (rs : List LR) (vals : List Value) : Prop := ∀ (t g n c : Nat), vals[t]? = some (Value.slice (some ⟨g, 0, none⟩) n c) → M ≤ g ∨ ∃ R : LR, rs[t / d]? = some R ∧ R.p = some ⟨g, 0, none⟩
/-- The list that is grown. -/
def XS (w : World) (p : Option Addr) (n c i : Nat) : Prop :=
  (p = none ∧ n = 0 ∧ c = 0) ∨ ∃ g cs, p = some ⟨g, 0, none⟩ ∧ SB T w g cs ∧ n ≤ c ∧ c * sz ≤ cs.size ∧ ∀ j, j < n → At cs (j * sz) (mk i)
def Share (vals : List Value) (p : Option Addr) (n : Nat) : Prop := ∀ (t g n' c' : Nat), vals[t]? = some (Value.slice (some ⟨g, 0, none⟩) n' c') → p = some ⟨g, 0, none⟩ → n' ≤ n
structure Ph (rs : List LR) (gl : Nat) (w wr : World) (k m : Nat) (al : Value) (vals : List Value) : Prop where
  own : wr.ownsRow M TL 1 al m vals
  ents : Ents T sz mk d wr vals
  src : Src d M rs vals
  rest : Hold T sz mk B M wr rs k (cntAt rs.length 0)
  row : LRow TL wr gl rs
  bel : Below B w wr
  size : M ≤ wr.heap.size
structure Gr (rs : List LR) (wr : World) (k : Nat) (vals : List Value) (p : Option Addr) (n c : Nat) : Prop where
  xs : XS T sz mk wr p n c k
  sh : Share vals p n
  at_ : ∀ g, p = some ⟨g, 0, none⟩ → (B ≤ g ∧ (M ≤ g ∨ ∃ R : LR, rs[k]? = some R ∧ R.p = some ⟨g, 0, none⟩))
end

section
variable {T TL : TypeId} {sz : Nat} {mk : Nat → List Value} {d B M : Nat} {w w' wr w1 : World} {rs : List LR} {gl k m n c i : Nat} {p : Option Addr} {al : Value} {vals : List Value}
theorem SK.of_below (hb : Below w.heap.size w w') : SK T w w' := fun g _ h => (hb.block g (lt_of_block h)).trans h
theorem SK.trans {a b e : World} (h : SK T a b) (h2 : SK T b e) : SK T a e := fun g cs h3 => h2 g cs (h g cs h3)
theorem SK.own {base : Nat} {v : Value} {xs : List Value} {s : Nat} (hT : T ≠ TL) (ho : w.ownsRow base TL s v n xs) (hg : w.grownBy w' v.ownBlock) : SK T w w' := by
  intro g cs h
  refine (hg.block g (lt_of_block h) ?_).trans h
  intro e
  rcases ho.2 with ⟨rfl, _⟩ | ⟨k, cap, cur, rfl, _, hk, _⟩
  · cases e
  · exact ne_of_types h hk hT (Option.some.inj e)
theorem HoldR.keep {R : LR} {q : Nat} (h : HoldR T sz mk B M w i R q) (hk : SK T w w') : HoldR T sz mk B M w' i R q := by
  obtain ⟨h1, h2, h3⟩ := h
  refine ⟨h1, h2, ?_⟩
  rcases h3 with h3 | ⟨g, cs, h3, h4, h5, h6, h7⟩
  · exact .inl h3
  · exact .inr ⟨g, cs, h3, h4, h5, hk g cs h6, h7⟩
theorem HoldR.upM {R : LR} {q M' : Nat} (h : HoldR T sz mk B M w i R q) (hM : M ≤ M') : HoldR T sz mk B M' w i R q := by
  obtain ⟨h1, h2, h3⟩ := h
  refine ⟨h1, h2, ?_⟩
  rcases h3 with h3 | ⟨g, cs, h3, h4, h5, h6, h7⟩
  · exact .inl h3
  · exact .inr ⟨g, cs, h3, h4, by omega, h6, h7⟩
theorem HoldR.more {R : LR} {q q' : Nat} (h : HoldR T sz mk B M w i R q) (hq : q' ≤ q ∨ R.n ≤ q) : HoldR T sz mk B M w i R q' := by
  obtain ⟨h1, h2, h3⟩ := h
  refine ⟨h1, h2, ?_⟩
  rcases h3 with h3 | ⟨g, cs, h3, h4, h5, h6, h7, h8⟩
  · exact .inl h3
  · exact .inr ⟨g, cs, h3, h4, h5, h6, h7, fun j hj hn => h8 j (by omega) hn⟩
theorem Hold.keep {cnt : Nat → Nat} (h : Hold T sz mk B M w rs k cnt) (hk : SK T w w') : Hold T sz mk B M w' rs k cnt := fun i R hi hR => (h i R hi hR).keep hk
theorem Hold.upM {cnt : Nat → Nat} {M' : Nat} (h : Hold T sz mk B M w rs k cnt) (hM : M ≤ M') : Hold T sz mk B M' w rs k cnt := fun i R hi hR => (h i R hi hR).upM hM
theorem Hold.next {j : Nat} (h : Hold T sz mk B M w rs 0 (cntAt i j)) (hj : ∀ R : LR, rs[i]? = some R → R.n ≤ j) : Hold T sz mk B M w rs 0 (cntAt (i + 1) 0) := by
  intro k R hk hR
  refine (h k R hk hR).more ?_
  unfold cntAt
  rcases Nat.lt_trichotomy k i with h1 | h1 | h1
  · left; rw [if_pos (by omega), if_pos h1]; omega
  · right
    subst h1
    rw [if_neg (by omega), if_pos rfl]
    exact hj R hR
  · left
    rw [if_neg (by omega)]
    split <;> omega
theorem Hold.mark {j g : Nat} {R : LR} (hmk : (mk i).length = sz) (h : Hold T sz mk B M w rs 0 (cntAt i j)) (hd : Dist rs) (hR : rs[i]? = some R) (hp : R.p = some ⟨g, 0, none⟩) (hj : j < R.n) : Hold T sz mk B M (w.setCells g (j * sz) (mk i)) rs 0 (cntAt i (j + 1)) := by
  intro k S hk hS
  obtain ⟨h1, h2, h3⟩ := h k S hk hS
  refine ⟨h1, h2, ?_⟩
  rcases h3 with h3 | ⟨q, cs, h3, h4, h5, h6, h7, h8⟩
  · exact .inl h3
  · right
    by_cases hki : k = i
    · subst hki
      rw [hR] at hS
      obtain rfl := Option.some.inj hS
      rw [hp] at h3
      obtain rfl : g = q := by simpa using h3
      have hmul : (j + 1) * sz ≤ R.c * sz := Nat.mul_le_mul_right _ (by omega)
      rw [Nat.add_mul, Nat.one_mul] at hmul
      refine ⟨g, setR cs (j * sz) (mk k), hp, h4, h5, heap_setCells _ _ _ _ h6, by rw [setR_size]; exact h7, fun t ht htn => ?_⟩
      by_cases htj : t = j
      · subst htj
        exact setR_in _ _ _ (by rw [hmk]; omega)
      · refine (h8 t ?_ htn).out ?_
        · unfold cntAt at ht ⊢
          rw [if_neg (by omega), if_pos rfl] at ht ⊢
          omega
        · rw [hmk]
          rcases Nat.lt_or_ge t j with h9 | h9
          · have := Nat.mul_le_mul_right sz (show t + 1 ≤ j by omega)
            rw [Nat.add_mul, Nat.one_mul] at this
            omega
          · have := Nat.mul_le_mul_right sz (show j + 1 ≤ t by omega)
            rw [Nat.add_mul, Nat.one_mul] at this
            omega
    · have hne : q ≠ g := by
        rintro rfl
        exact hki (hd k i S R q hS hR h3 hp)
      refine ⟨q, cs, h3, h4, h5, (heap_setCells_ne hne _ _ _).trans h6, h7, fun t ht htn => h8 t ?_ htn⟩
      unfold cntAt at ht ⊢
      rw [if_neg hki] at ht ⊢
      exact ht
theorem LRow.below (h : LRow TL w gl rs) (hb : Below w.heap.size w w') : LRow TL w' gl rs := by
  obtain ⟨cl, h1, h2⟩ := h
  exact ⟨cl, (hb.block _ (lt_of_block h1)).trans h1, h2⟩
theorem LRow.set {g o : Nat} {cs : Array Value} {vs : List Value} (hT : T ≠ TL) (h : LRow TL w gl rs) (hs : SB T w g cs) : LRow TL (w.setCells g o vs) gl rs := by
  obtain ⟨cl, h1, h2⟩ := h
  exact ⟨cl, (heap_setCells_ne (ne_of_types h1 hs (Ne.symm hT)) _ _ _).trans h1, h2⟩
theorem LRow.own {base s : Nat} {v : Value} {xs : List Value} (h : LRow TL w gl rs) (ho : w.ownsRow base TL s v n xs) (hgl : gl < base) (hg : w.grownBy w' v.ownBlock) : LRow TL w' gl rs := by
  obtain ⟨cl, h1, h2⟩ := h
  refine ⟨cl, (hg.block gl (lt_of_block h1) ?_).trans h1, h2⟩
  intro e
  have := (ho.lt gl e.symm).1
  omega
theorem LRow.cell (h : LRow TL w gl rs) {R : LR} (hR : rs[i]? = some R) : w.cell? ⟨gl, i, none⟩ = some (.slice R.p R.n R.c) := by
  obtain ⟨cl, h1, h2⟩ := h
  rw [cell_in h1, h2 i R hR]
  rfl
theorem LRow.lt (h : LRow TL w gl rs) : gl < w.heap.size := by obtain ⟨_, h1, _⟩ := h; exact lt_of_block h1
theorem Ent.keep {v : Value} (h : Ent T sz mk w v i) (hk : SK T w w') : Ent T sz mk w' v i := by
  obtain ⟨p, n, c, h1, h2, hc, h3⟩ := h
  refine ⟨p, n, c, h1, h2, hc, ?_⟩
  rcases h3 with h3 | ⟨g, cs, h4, h5, h6⟩
  · exact .inl h3
  · exact .inr ⟨g, cs, h4, hk g cs h5, h6⟩
theorem Ents.keep (h : Ents T sz mk d w vals) (hk : SK T w w') : Ents T sz mk d w' vals := fun t v hv => (h t v hv).keep hk
theorem XS.keep (h : XS T sz mk w p n c i) (hk : SK T w w') : XS T sz mk w' p n c i := by
  rcases h with h | ⟨g, cs, h1, h2, h3⟩
  · exact .inl h
  · exact .inr ⟨g, cs, h1, hk g cs h2, h3⟩
theorem XS.le (h : XS T sz mk w p n c i) : n ≤ c := by
  rcases h with ⟨_, h1, h2⟩ | ⟨_, _, _, _, h, _⟩ <;> omega
theorem XS.ent (h : XS T sz mk w p n c i) (hn : n ≤ 8589934592) : Ent T sz mk w (.slice p n c) i := by
  refine ⟨p, n, c, rfl, hn, h.le, ?_⟩
  rcases h with ⟨_, h, _⟩ | ⟨g, cs, h1, h2, _, _, h3⟩
  · exact .inl h
  · exact .inr ⟨g, cs, h1, h2, h3⟩
theorem own_kept {base size : Nat} {e : TypeId} {v : Value} {xs : List Value} (ho : w.ownsRow base e size v n xs) (hb : Below w.heap.size w w') : w'.ownsRow base e size v n xs := (Upd.of_below hb []).row ho (fun _ _ h => by cases h)
theorem own_set {base s g o : Nat} {v : Value} {xs vs : List Value} {cs : Array Value} (hT : T ≠ TL) (ho : w.ownsRow base TL s v n xs) (hs : SB T w g cs) : (w.setCells g o vs).ownsRow base TL s v n xs := by
  refine (upd_setCells (S := [g]) (a := w) (.inl (by simp)) vs w o (Upd.refl _ w)).row ho fun q hq hm => ?_
  obtain rfl : q = g := by simpa using hm
  rcases ho.2 with ⟨rfl, _⟩ | ⟨k, cap, cur, rfl, _, hk, _⟩
  · cases hq
  · exact ne_of_types hs hk hT (Option.some.inj hq).symm
theorem below_none (h : w.grownBy w' none) : Below w.heap.size w w' := ⟨h.os, h.tape, h.output, h.size, fun k hk => h.block k hk (by simp)⟩

/-- The next list is grown. -/
theorem Ph.begin (h : Ph T TL sz mk d B M rs gl w wr k m al vals) {R : LR} (hR : rs[k]? = some R) (hd : Dist rs) (hm : m = d * k) (hvl : vals.length = m) (hd0 : 0 < d) :
    Ph T TL sz mk d B M rs gl w wr (k + 1) m al vals ∧ Gr T sz mk B M rs wr k vals R.p R.n R.c := by
  refine ⟨⟨h.own, h.ents, h.src, fun i S hi hS => h.rest i S (by omega) hS, h.row, h.bel, h.size⟩, ?_⟩
  obtain ⟨h1, h2, h3⟩ := h.rest k R (Nat.le_refl _) hR
  have hk : k < rs.length := lt_get hR
  refine ⟨?_, ?_, ?_⟩
  · rcases h3 with h3 | ⟨g, cs, h3, h4, h5, h6, h7, h8⟩
    · exact .inl h3
    · refine .inr ⟨g, cs, h3, h6, h2, h7, fun j hj => h8 j ?_ hj⟩
      unfold cntAt
      rw [if_pos hk]
      omega
  · intro t g n' c' ht hp
    exfalso
    rcases h3 with ⟨h3, _⟩ | ⟨g', cs, h3, h4, h5, _⟩
    · rw [hp] at h3; cases h3
    · rw [hp] at h3
      obtain rfl : g = g' := by simpa using h3
      rcases h.src t g n' c' ht with h6 | ⟨S, h6, h7⟩
      · omega
      · have h8 := hd _ _ S R g h6 hR h7 hp
        have h9 := lt_get ht
        have : t / d < k := (Nat.div_lt_iff_lt_mul hd0).2 (by rw [Nat.mul_comm]; omega)
        omega
  · intro g hp
    rcases h3 with ⟨h3, _⟩ | ⟨g', cs, h3, h4, h5, _⟩
    · rw [hp] at h3; cases h3
    · rw [hp] at h3
      obtain rfl : g = g' := by simpa using h3
      exact ⟨h4, .inr ⟨R, hR, hp⟩⟩
/-- The list is collected. -/
theorem Ph.push (hT : T ≠ TL) (h : Ph T TL sz mk d B M rs gl w wr (k + 1) m al vals) (hg : Gr T sz mk B M rs wr k vals p n c) {al' : Value} (ho : w1.ownsRow M TL 1 al' (m + 1) (vals ++ [.slice p n c])) (hgr : wr.grownBy w1 al.ownBlock) (hm : m / d = k) (hn : n ≤ 8589934592) (hgl : gl < M) (hBM : B ≤ M) :
    Ph T TL sz mk d B M rs gl w w1 (k + 1) (m + 1) al' (vals ++ [.slice p n c]) ∧ Gr T sz mk B M rs w1 k (vals ++ [.slice p n c]) p n c := by
  have hk : SK T wr w1 := SK.own hT h.own hgr
  have hvl : vals.length = m := by have := h.own.1; simpa using this
  have hsz := hgr.size
  refine ⟨⟨ho, ?_, ?_, h.rest.keep hk, h.row.own h.own hgl hgr, h.bel.grown hgr (by have := h.size; omega) fun q hq => by have := (h.own.lt q hq).1; omega, by have := h.size; omega⟩, hg.xs.keep hk, ?_, hg.at_⟩
  · intro t v hv
    rcases get_snoc hv with hv | ⟨rfl, rfl⟩
    · exact (h.ents t v hv).keep hk
    · rw [hvl, hm]; exact (hg.xs.keep hk).ent hn
  · intro t g n' c' ht
    rcases get_snoc ht with ht | ⟨rfl, he⟩
    · exact h.src t g n' c' ht
    · cases he
      rw [hvl, hm]
      exact (hg.at_ g rfl).2
  · intro t g n' c' ht hp
    rcases get_snoc ht with ht | ⟨rfl, he⟩
    · exact hg.sh t g n' c' ht hp
    · cases he; exact Nat.le_refl _
theorem Ph.below (h : Ph T TL sz mk d B M rs gl w wr k m al vals) (hb : Below wr.heap.size wr w1) (hBM : B ≤ M) : Ph T TL sz mk d B M rs gl w w1 k m al vals :=
  ⟨own_kept h.own hb, h.ents.keep (SK.of_below hb), h.src, h.rest.keep (SK.of_below hb), h.row.below hb, h.bel.trans (hb.mono (by have := h.size; omega)), by have := h.size; have := hb.size; omega⟩
theorem Gr.below (h : Gr T sz mk B M rs wr k vals p n c) (hb : Below wr.heap.size wr w1) : Gr T sz mk B M rs w1 k vals p n c := ⟨h.xs.keep (SK.of_below hb), h.sh, h.at_⟩
/-- The list grows into its room. -/
theorem Ph.room {g : Nat} (hT : T ≠ TL) (hmk : ∀ i, (mk i).length = sz) (hd : Dist rs) (h : Ph T TL sz mk d B M rs gl w wr (k + 1) m al vals) (hg : Gr T sz mk B M rs wr k vals (some ⟨g, 0, none⟩) n c) (hr : n + 1 ≤ c) :
    Ph T TL sz mk d B M rs gl w (wr.setCells g (n * sz) (mk k)) (k + 1) m al vals ∧ Gr T sz mk B M rs (wr.setCells g (n * sz) (mk k)) k vals (some ⟨g, 0, none⟩) (n + 1) c := by
  obtain ⟨cs, hsb, hnc, hcs, hall⟩ : ∃ cs, SB T wr g cs ∧ n ≤ c ∧ c * sz ≤ cs.size ∧ ∀ j, j < n → At cs (j * sz) (mk k) := by
    rcases hg.xs with ⟨h, _⟩ | ⟨g', cs, h1, h2⟩
    · cases h
    · obtain rfl : g = g' := by simpa using h1
      exact ⟨cs, h2⟩
  have hmul : (n + 1) * sz ≤ c * sz := Nat.mul_le_mul_right _ hr
  rw [Nat.add_mul, Nat.one_mul] at hmul
  have hlow : ∀ j, j < n → j * sz + sz ≤ n * sz := fun j hj => by
    have := Nat.mul_le_mul_right sz (show j + 1 ≤ n by omega)
    rw [Nat.add_mul, Nat.one_mul] at this
    exact this
  refine ⟨⟨own_set hT h.own hsb, ?_, h.src, ?_, h.row.set hT hsb, below_setCells (hg.at_ g rfl).1 _ _ _ h.bel, by rw [setCells_size]; exact h.size⟩, ?_, ?_, hg.at_⟩
  · intro t v hv
    obtain ⟨q, n', c', rfl, h2, h3, h4⟩ := h.ents t v hv
    refine ⟨q, n', c', rfl, h2, h3, ?_⟩
    rcases h4 with h4 | ⟨g', cs', rfl, h5, h6⟩
    · exact .inl h4
    · right
      by_cases hgg : g' = g
      · subst hgg
        have hle := hg.sh t g' n' c' hv rfl
        refine ⟨g', _, rfl, heap_setCells _ _ _ _ h5, fun j hj => (h6 j hj).out (.inl ?_)⟩
        rw [hmk]
        exact hlow j (by omega)
      · exact ⟨g', cs', rfl, (heap_setCells_ne hgg _ _ _).trans h5, h6⟩
  · intro i S hi hS
    obtain ⟨h1, h2, h3⟩ := h.rest i S hi hS
    refine ⟨h1, h2, ?_⟩
    rcases h3 with h3 | ⟨q, cs', h3, h4, h5, h6, h7⟩
    · exact .inl h3
    · have hne : q ≠ g := by
        rintro rfl
        rcases (hg.at_ q rfl).2 with h8 | ⟨R, h8, h9⟩
        · omega
        · have := hd _ _ S R q hS h8 h3 h9; omega
      exact .inr ⟨q, cs', h3, h4, h5, (heap_setCells_ne hne _ _ _).trans h6, h7⟩
  · refine .inr ⟨g, _, rfl, heap_setCells _ _ _ _ hsb, hr, by rw [setR_size]; exact hcs, fun j hj => ?_⟩
    by_cases hjn : j = n
    · subst hjn
      exact setR_in _ _ _ (by rw [hmk]; omega)
    · exact (hall j (by omega)).out (.inl (by rw [hmk]; exact hlow j (by omega)))
  · intro t q n' c' ht hp
    have := hg.sh t q n' c' ht hp
    omega
/-- The list grows into a new block. -/
theorem Gr.grow {base : Nat} {v : Value} {olds : List Value} (hmk : ∀ i, (mk i).length = sz) (_hs0 : 0 < sz) (hg : Gr T sz mk B M rs wr k vals p n c) (he : Ents T sz mk d wr vals) (ho : w1.ownsRow base T sz v (n + 1) (olds ++ mk k)) (hbase : wr.heap.size ≤ base) (hM : M ≤ wr.heap.size) (hBM : B ≤ M) (hl : olds.length = n * sz)
    (ha : ∀ j, j < n → ∀ (i : Nat) u, (mk k)[i]? = some u → olds[j * sz + i]? = some u) : ∃ g c', v = .slice (some ⟨g, 0, none⟩) (n + 1) c' ∧ Gr T sz mk B M rs w1 k vals (some ⟨g, 0, none⟩) (n + 1) c' := by
  rcases ho.2 with ⟨_, h0⟩ | ⟨g, cap, cur, rfl, hgb, hb, hnc, hcm, hcs, htake⟩
  · omega
  · refine ⟨g, cap, rfl, .inr ⟨g, cur, rfl, hb, hnc, by omega, fun j hj i u hu => ?_⟩, ?_, ?_⟩
    · have hi := lt_get hu
      rw [hmk] at hi
      have hlow : j * sz + sz ≤ (n + 1) * sz := by
        have := Nat.mul_le_mul_right sz (show j + 1 ≤ n + 1 by omega)
        rw [Nat.add_mul, Nat.one_mul] at this
        exact this
      have h1 : (olds ++ mk k)[j * sz + i]? = some u := by
        rcases Nat.lt_or_ge j n with h | h
        · have hj2 : j * sz + sz ≤ n * sz := by
            have := Nat.mul_le_mul_right sz (show j + 1 ≤ n by omega)
            rw [Nat.add_mul, Nat.one_mul] at this
            exact this
          rw [List.getElem?_append_left (by omega)]
          exact ha j h i u hu
        · obtain rfl : j = n := by omega
          rw [List.getElem?_append_right (by omega), hl, show j * sz + i - j * sz = i by omega]
          exact hu
      rw [← htake, List.getElem?_take_of_lt (by omega)] at h1
      rwa [Array.getElem?_toList] at h1
    · intro t q n' c' ht hp
      obtain rfl : g = q := by simpa using hp
      obtain ⟨p', m', d', hev, _, _, h3⟩ := he t _ ht
      cases hev
      rcases h3 with h3 | ⟨q, cs, hq, h5, _⟩
      · omega
      · obtain rfl : g = q := by simpa using hq
        have := lt_of_block h5
        omega
    · intro q hq
      obtain rfl : g = q := by simpa using hq
      exact ⟨by omega, .inl (by omega)⟩
/-- The cells of the list that is grown. -/
theorem XS.olds (hmk : ∀ i, (mk i).length = sz) (_hs0 : 0 < sz) (h : XS T sz mk w p n c k) : ∃ olds : List Value, olds.length = n * sz ∧ (∀ j, j < n → ∀ (i : Nat) u, (mk k)[i]? = some u → olds[j * sz + i]? = some u) ∧ (∀ b, p = some b → ∀ j u, olds[j]? = some u → w.cell? (b.add j) = some u) ∧ (p = none → n = 0 ∧ c = 0) := by
  rcases h with ⟨h1, h2, h3⟩ | ⟨g, cs, h1, h2, h3, h4, h5⟩
  · exact ⟨[], by simp [h2], fun j hj => by omega, fun b hb j u hj => by simp at hj, fun _ => ⟨h2, h3⟩⟩
  · have hle : n * sz ≤ c * sz := Nat.mul_le_mul_right _ h3
    refine ⟨cs.toList.take (n * sz), by simp; omega, fun j hj i u hu => ?_, fun b hb j u hj => ?_, fun hp => by rw [hp] at h1; cases h1⟩
    · have hi := lt_get hu
      rw [hmk] at hi
      have := Nat.mul_le_mul_right sz (show j + 1 ≤ n by omega)
      rw [Nat.add_mul, Nat.one_mul] at this
      rw [List.getElem?_take_of_lt (by omega), Array.getElem?_toList]
      exact h5 j hj i u hu
    · rw [h1] at hb
      obtain rfl := Option.some.inj hb
      rw [addN, Nat.zero_add, cell_in h2]
      have := lt_get hj
      simp at this
      rw [List.getElem?_take_of_lt (by omega), Array.getElem?_toList] at hj
      exact hj
/-- An element of the list that was collected. -/
theorem Ent.cells {_v : Value} {g : Nat} (h : Ent T sz mk w (.slice (some ⟨g, 0, none⟩) n c) i) {j : Nat} (hj : j < n) : ∃ cs, SB T w g cs ∧ At cs (j * sz) (mk i) := by
  obtain ⟨p', n', c', he, _, _, h3⟩ := h
  cases he
  rcases h3 with h3 | ⟨g', cs, hg, h5, h6⟩
  · omega
  · obtain rfl : g = g' := by simpa using hg
    exact ⟨cs, h5, h6 j hj⟩
end
end Go.Proofs.YtbelnaiekbfoiaaGreatDoor.ls
/- Laws on memory for any program: a slice that reads as a list of structs of k cells each, and one that lies in memory of its own. No program in sight; no conditions beside those stated. -/
namespace Go.Proofs.YtbelnaiekbfoiaaGreatDoor.rw
open Go.RowKit ls

section
variable {α : Type} (enc : α → List Value) (k : Nat)
def flat (l : List α) : List Value := l.flatMap enc
variable {enc k}
theorem flat_len (hk : ∀ x, (enc x).length = k) : ∀ l : List α, (flat enc l).length = l.length * k
  | [] => by simp [flat]
  | x :: r => by
    have := flat_len hk r
    simp only [flat, List.flatMap_cons, List.length_append, List.length_cons] at this ⊢
    rw [this, hk, Nat.succ_mul]
    omega
theorem flat_at (hk : ∀ x, (enc x).length = k) : ∀ (l : List α) (j : Nat) (x : α) (i : Nat) (v : Value), l[j]? = some x → (enc x)[i]? = some v → (flat enc l)[j * k + i]? = some v
  | [], j, x, i, v, h, _ => by simp at h
  | y :: r, 0, x, i, v, h, hv => by
    simp at h
    subst h
    have hi := lt_get hv
    simp only [flat, List.flatMap_cons]
    rw [List.getElem?_append_left (by omega)]
    simpa using hv
  | y :: r, j + 1, x, i, v, h, hv => by
    have := flat_at hk r j x i v (by simpa using h) hv
    simp only [flat, List.flatMap_cons]
    have e : (j + 1) * k = j * k + k := Nat.succ_mul j k
    rw [List.getElem?_append_right (by rw [hk]; omega), hk, ← this]
    simp only [flat]
    congr 1
    omega
theorem flat_snoc (l : List α) (x : α) : flat enc (l ++ [x]) = flat enc l ++ enc x := by simp [flat]
theorem flat_append (l m : List α) : flat enc (l ++ m) = flat enc l ++ flat enc m := by simp [flat]
theorem flat_one (h1 : ∀ x, ∀ v ∈ enc x, v.oneCell' = true) (l : List α) : ∀ v ∈ flat enc l, v.oneCell' = true := by
  intro v hv
  obtain ⟨x, _, hx⟩ := List.mem_flatMap.1 hv
  exact h1 x v hx

variable (enc k)
/-- A slice reads as a list. -/
def Rw (w : World) (v : Value) (l : List α) : Prop :=
  ∃ (p : Option Addr) (c : Nat), v = .slice p l.length c ∧ l.length ≤ c ∧ (l = [] ∨ ∃ b o, p = some ⟨b, o, none⟩ ∧ b < w.heap.size ∧ ∀ (j : Nat) (x : α), l[j]? = some x → ∀ (i : Nat) (u : Value), (enc x)[i]? = some u → w.cell? ⟨b, o + (j * k + i), none⟩ = some u)
variable {enc k}
theorem Rw.later {w w' : World} {v : Value} {l : List α} (h : Rw enc k w v l) (hb : Below w.heap.size w w') : Rw enc k w' v l := by
  obtain ⟨p, c, rfl, hc, h⟩ := h
  refine ⟨p, c, rfl, hc, ?_⟩
  rcases h with h | ⟨b, o, rfl, hlt, hat⟩
  · exact .inl h
  · exact .inr ⟨b, o, rfl, by have := hb.size; omega, fun j x hx i u hu => (hb.cell (p := ⟨b, o + (j * k + i), none⟩) hlt).trans (hat j x hx i u hu)⟩
theorem Rw.upd {w w' : World} {S : List Nat} {v : Value} {l : List α} (h : Rw enc k w v l) (hu : Upd S w w') (hn : ∀ g, v.ownBlock = some g → g ∉ S) : Rw enc k w' v l := by
  obtain ⟨p, c, rfl, hc, h⟩ := h
  refine ⟨p, c, rfl, hc, ?_⟩
  rcases h with h | ⟨b, o, rfl, hlt, hat⟩
  · exact .inl h
  · exact .inr ⟨b, o, rfl, by have := hu.size; omega, fun j x hx i u hu' => (hu.cell (p := ⟨b, o + (j * k + i), none⟩) hlt (hn b rfl)).trans (hat j x hx i u hu')⟩
theorem Rw.cell {w : World} {b o n c : Nat} {l : List α} (h : Rw enc k w (.slice (some ⟨b, o, none⟩) n c) l) {j : Nat} {x : α} (hx : l[j]? = some x) {i : Nat} {u : Value} (hu : (enc x)[i]? = some u) : w.cell? ⟨b, o + (j * k + i), none⟩ = some u := by
  obtain ⟨p, c', he, hc, h⟩ := h
  cases he
  rcases h with rfl | ⟨b', o', hp, hlt, hat⟩
  · simp at hx
  · cases hp
    exact hat j x hx i u hu
theorem Rw.ptr {w : World} {p : Option Addr} {n c : Nat} {l : List α} (h : Rw enc k w (.slice p n c) l) : l.length = n ∧ n ≤ c ∧ (0 < n → ∃ b o, p = some ⟨b, o, none⟩ ∧ b < w.heap.size) := by
  obtain ⟨p', c', he, hc, h⟩ := h
  cases he
  refine ⟨rfl, hc, fun hn => ?_⟩
  rcases h with rfl | ⟨b, o, hp, hlt, _⟩
  · simp at hn
  · exact ⟨b, o, hp, hlt⟩
theorem Rw.form {w : World} {v : Value} {l : List α} (h : Rw enc k w v l) : ∃ p c, v = .slice p l.length c := by
  obtain ⟨p, c, rfl, _⟩ := h
  exact ⟨p, c, rfl⟩
/-- The first of them. -/
theorem Rw.take {w : World} {p : Option Addr} {n c m : Nat} {l : List α} (h : Rw enc k w (.slice p n c) l) (hm : m ≤ n) : Rw enc k w (.slice p m c) (l.take m) := by
  obtain ⟨h1, h2, _⟩ := h.ptr
  obtain ⟨p', c', he, hc, h⟩ := h
  cases he
  refine ⟨p, c, by rw [List.length_take, Nat.min_eq_left hm], by rw [List.length_take]; omega, ?_⟩
  rcases h with rfl | ⟨b, o, rfl, hlt, hat⟩
  · exact .inl (by simp)
  · refine .inr ⟨b, o, rfl, hlt, fun j x hx => hat j x ?_⟩
    rw [List.getElem?_take] at hx
    split at hx
    · exact hx
    · cases hx
theorem rw_nil (w : World) (p : Option Addr) (c : Nat) : Rw enc k w (.slice p 0 c) [] := ⟨p, c, rfl, by simp, .inl rfl⟩
theorem own_rw (hk : ∀ x, (enc x).length = k) {T : TypeId} {w : World} {Bs n : Nat} {v : Value} {l : List α} (hk0 : 0 < k) (h : w.ownsRow Bs T k v n (flat enc l)) : Rw enc k w v l := by
  have hl : l.length = n := by
    have := h.1
    rw [flat_len hk] at this
    exact Nat.eq_of_mul_eq_mul_right hk0 this
  rcases h.2 with ⟨rfl, h0⟩ | ⟨g, cap, cur, rfl, hg, hb, hnc, _⟩
  · subst h0
    exact ⟨none, 0, by rw [hl], by omega, .inl (List.eq_nil_of_length_eq_zero hl)⟩
  · subst hl
    refine ⟨_, cap, rfl, hnc, .inr ⟨g, 0, rfl, lt_of_block hb, fun j x hx i u hu => ?_⟩⟩
    have := h.cells (g := g) rfl (j * k + i) u (flat_at hk l j x i u hx hu)
    rwa [addN] at this
theorem own_len (hk : ∀ x, (enc x).length = k) {T : TypeId} {w : World} {Bs n : Nat} {v : Value} {l : List α} (hk0 : 0 < k) (h : w.ownsRow Bs T k v n (flat enc l)) : l.length = n := by
  have := h.1
  rw [flat_len hk] at this
  exact Nat.eq_of_mul_eq_mul_right hk0 this
variable (enc k)
/-- A list of its own, from block M on; an empty one may lie anywhere, if it has no room. -/
def NewRw (T : TypeId) (M : Nat) (w : World) (v : Value) (l : List α) : Prop :=
  (l = [] ∧ v = .slice none 0 0) ∨ ∃ g c cs, v = .slice (some ⟨g, 0, none⟩) l.length c ∧ l.length ≤ c ∧ M ≤ g ∧ w.heap[g]? = some (.cells cs T (0, 0)) ∧ c * k ≤ cs.size ∧ At cs 0 (flat enc l)
variable {enc k}
theorem own_new (hk : ∀ x, (enc x).length = k) {T : TypeId} {w : World} {Bs n : Nat} {v : Value} {l : List α} (hk0 : 0 < k) (h : w.ownsRow Bs T k v n (flat enc l)) : NewRw enc k T Bs w v l := by
  have hl := own_len hk hk0 h
  rcases h.2 with ⟨rfl, h0⟩ | ⟨g, cap, cur, rfl, hg, hb, hnc, hcm, hcs, htake⟩
  · subst h0
    exact .inl ⟨List.eq_nil_of_length_eq_zero hl, rfl⟩
  · subst hl
    refine .inr ⟨g, cap, cur, rfl, hnc, hg, hb, by omega, fun i v hv => ?_⟩
    have hi := lt_get hv
    rw [flat_len hk] at hi
    rw [← htake, List.getElem?_take_of_lt (by omega)] at hv
    rw [Array.getElem?_toList] at hv
    rwa [Nat.zero_add]
theorem NewRw.rw (hk : ∀ x, (enc x).length = k) {T : TypeId} {M : Nat} {w : World} {v : Value} {l : List α} (h : NewRw enc k T M w v l) : Rw enc k w v l := by
  rcases h with ⟨rfl, rfl⟩ | ⟨g, c, cs, rfl, hc, _, hb, _, hat⟩
  · exact ⟨none, 0, rfl, by simp, .inl rfl⟩
  · refine ⟨_, c, rfl, hc, .inr ⟨g, 0, rfl, lt_of_block hb, fun j x hx i u hu => ?_⟩⟩
    rw [cell_in hb]
    exact hat (j * k + i) u (flat_at hk l j x i u hx hu)
theorem NewRw.later {T : TypeId} {M : Nat} {w w' : World} {v : Value} {l : List α} (h : NewRw enc k T M w v l) (hb : Below w.heap.size w w') : NewRw enc k T M w' v l := by
  rcases h with h | ⟨g, c, cs, rfl, hc, hg, hbk, h2⟩
  · exact .inl h
  · exact .inr ⟨g, c, cs, rfl, hc, hg, (hb.block g (lt_of_block hbk)).trans hbk, h2⟩
theorem NewRw.mono {T : TypeId} {M M' : Nat} {w : World} {v : Value} {l : List α} (h : NewRw enc k T M w v l) (hM : M' ≤ M) : NewRw enc k T M' w v l := by
  rcases h with h | ⟨g, c, cs, h1, h2, h3, h4⟩
  · exact .inl h
  · exact .inr ⟨g, c, cs, h1, h2, by omega, h4⟩
theorem NewRw.keep {T : TypeId} {M : Nat} {w w' : World} {v : Value} {l : List α} (h : NewRw enc k T M w v l) (hk : SK T w w') : NewRw enc k T M w' v l := by
  rcases h with h | ⟨g, c, cs, h1, h2, h3, h4, h5⟩
  · exact .inl h
  · exact .inr ⟨g, c, cs, h1, h2, h3, hk g cs h4, h5⟩
theorem NewRw.form {T : TypeId} {M : Nat} {w : World} {v : Value} {l : List α} (h : NewRw enc k T M w v l) : ∃ p c, v = .slice p l.length c := by
  rcases h with ⟨rfl, rfl⟩ | ⟨g, c, cs, rfl, _⟩
  · exact ⟨none, 0, rfl⟩
  · exact ⟨_, c, rfl⟩
/-- The same without the room behind it. -/
theorem NewRw.clip {T : TypeId} {M : Nat} {w : World} {p : Option Addr} {n c : Nat} {l : List α} (h : NewRw enc k T M w (.slice p n c) l) : NewRw enc k T M w (.slice p n n) l := by
  rcases h with ⟨rfl, he⟩ | ⟨g, c', cs, he, h2, h3, h4, h5, h6⟩
  · cases he
    exact .inl ⟨rfl, rfl⟩
  · cases he
    exact .inr ⟨g, _, cs, rfl, Nat.le_refl _, h3, h4, Nat.le_trans (Nat.mul_le_mul_right k h2) h5, h6⟩
/-- A block that was laid whole. -/
theorem rw_lit (hk : ∀ x, (enc x).length = k) {T : TypeId} {w : World} {blk : Nat} {l : List α} {cs : Array Value} (h : w.heap[blk]? = some (.cells cs T (0, 0))) (hc : cs.toList = flat enc l) : Rw enc k w (.slice (some ⟨blk, 0, none⟩) l.length l.length) l := by
  refine ⟨_, _, rfl, Nat.le_refl _, .inr ⟨blk, 0, rfl, lt_of_block h, fun j x hx i u hu => ?_⟩⟩
  rw [cell_in h, Nat.zero_add, ← Array.getElem?_toList, hc]
  exact flat_at hk l j x i u hx hu
end
end Go.Proofs.YtbelnaiekbfoiaaGreatDoor.rw
/- Chapter 5 in plain words: definitions, what may be one, and sets of them. No program in sight beside the words of chapters 2 and 4; no conditions beside those stated. -/
namespace Go.Proofs.YtbelnaiekbfoiaaGreatDoor.ky
open gl va ls

/-! ### The order of texts -/
abbrev ltL : List UInt8 → List UInt8 → Bool := Op.bytesLess
theorem ltL_nil (a : List UInt8) : ltL a [] = false := by cases a <;> rfl
theorem ltL_cons (a b : UInt8) (x y : List UInt8) : ltL (a :: x) (b :: y) = (decide (a < b) || (a == b && ltL x y)) := rfl
theorem ltL_irrefl : ∀ a : List UInt8, ltL a a = false
  | [] => rfl
  | a :: x => by rw [ltL_cons, ltL_irrefl x]; simp
theorem ltL_trans : ∀ a b c : List UInt8, ltL a b = true → ltL b c = true → ltL a c = true
  | _, [], _, h, _ => by rw [ltL_nil] at h; cases h
  | _, _ :: _, [], _, h => by rw [ltL_nil] at h; cases h
  | [], _ :: _, _ :: _, _, _ => rfl
  | a :: x, b :: y, c :: z, h1, h2 => by
    rw [ltL_cons] at h1 h2 ⊢
    simp only [Bool.or_eq_true, decide_eq_true_eq, Bool.and_eq_true, beq_iff_eq, UInt8.lt_iff_toNat_lt] at h1 h2 ⊢
    rcases h1 with h1 | ⟨rfl, h1⟩
    · rcases h2 with h2 | ⟨rfl, h2⟩
      · exact .inl (by omega)
      · exact .inl h1
    · rcases h2 with h2 | ⟨rfl, h2⟩
      · exact .inl h2
      · exact .inr ⟨rfl, ltL_trans x y z h1 h2⟩
theorem ltL_total : ∀ a b : List UInt8, ltL a b = false → ltL b a = false → a = b
  | [], [], _, _ => rfl
  | [], _ :: _, h, _ => by cases h
  | _ :: _, [], _, h => by cases h
  | a :: x, b :: y, h1, h2 => by
    rw [ltL_cons] at h1 h2
    simp only [Bool.or_eq_false_iff, decide_eq_false_iff_not, Bool.and_eq_false_iff, beq_eq_false_iff_ne, UInt8.lt_iff_toNat_lt] at h1 h2
    obtain rfl : a = b := UInt8.toNat_inj.1 (by omega)
    rw [ltL_total x y (by rcases h1.2 with h | h; exact absurd rfl h; exact h) (by rcases h2.2 with h | h; exact absurd rfl h; exact h)]

def cmpL (a b : List UInt8) : Int := if ltL a b = true then -1 else if a = b then 0 else 1
theorem cmpB_eq : ∀ a b : List UInt8, Lib.compareBytes a b = cmpL a b
  | [], [] => rfl
  | [], b :: y => rfl
  | a :: x, [] => by
    unfold cmpL
    rw [ltL_nil]
    rfl
  | a :: x, b :: y => by
    have ih := cmpB_eq x y
    unfold Lib.compareBytes cmpL
    rw [ltL_cons]
    by_cases h1 : a < b
    · simp [h1]
    · by_cases h2 : b < a
      · have hne : (a == b) = false := by
          rw [beq_eq_false_iff_ne]
          rintro rfl
          exact h1 h2
        have hne' : a ≠ b := by simpa using hne
        simp [h1, h2, hne, hne']
      · obtain rfl : a = b := UInt8.le_antisymm (UInt8.not_lt.1 h2) (UInt8.not_lt.1 h1)
        simp only [h1, decide_false, BEq.rfl, Bool.true_and, Bool.false_or, if_false, ih, List.cons.injEq, true_and]
        rfl
/-- Where a text stands among texts that ascend, or would. -/
def FoundAt (ids : List (List UInt8)) (t : List UInt8) (k : Nat) (b : Bool) : Prop := k ≤ ids.length ∧ (∀ i x, ids[i]? = some x → (i < k ↔ ltL x t = true)) ∧ b = decide (ids[k]? = some t)
theorem pair_at {α : Type} {S : α → α → Prop} {l : List α} {i j : Nat} {x y : α} (h : l.Pairwise S) (hi : l[i]? = some x) (hj : l[j]? = some y) (hij : i < j) : S x y := by
  obtain ⟨h1, rfl⟩ := List.getElem?_eq_some_iff.1 hi
  obtain ⟨h2, rfl⟩ := List.getElem?_eq_some_iff.1 hj
  exact List.pairwise_iff_getElem.1 h i j h1 h2 hij
def Betw (ids : List (List UInt8)) (t : List UInt8) (i j : Nat) : Prop := ∀ k x, ids[k]? = some x → (k < i → ltL x t = true) ∧ (j ≤ k → ltL x t = false)
theorem betw_up {ids : List (List UInt8)} {t x : List UInt8} {i j h : Nat} (ha : ids.Pairwise fun a b => ltL a b = true) (hB : Betw ids t i j) (hx : ids[h]? = some x) (hl : ltL x t = true) : Betw ids t (h + 1) j := by
  intro k y hy
  refine ⟨fun hk => ?_, (hB k y hy).2⟩
  by_cases he : k = h
  · subst he
    obtain rfl := Option.some.inj (hx.symm.trans hy)
    exact hl
  · exact ltL_trans _ _ _ (pair_at (S := fun a b => ltL a b = true) ha hy hx (by omega)) hl
theorem betw_dn {ids : List (List UInt8)} {t x : List UInt8} {i j h : Nat} (ha : ids.Pairwise fun a b => ltL a b = true) (hB : Betw ids t i j) (hx : ids[h]? = some x) (hl : ltL x t = false) : Betw ids t i h := by
  intro k y hy
  refine ⟨(hB k y hy).1, fun hk => ?_⟩
  by_cases he : k = h
  · subst he
    obtain rfl := Option.some.inj (hx.symm.trans hy)
    exact hl
  · cases hc : ltL y t with
    | false => rfl
    | true =>
      have := ltL_trans _ _ _ (pair_at (S := fun a b => ltL a b = true) ha hx hy (by omega)) hc
      rw [hl] at this
      cases this
theorem betw_end {ids : List (List UInt8)} {t : List UInt8} {i : Nat} (hi : i ≤ ids.length) (hB : Betw ids t i i) : FoundAt ids t i (decide (ids[i]? = some t)) := by
  refine ⟨hi, fun k x hx => ⟨(hB k x hx).1, fun hl => ?_⟩, rfl⟩
  rcases Nat.lt_or_ge k i with h | h
  · exact h
  · rw [(hB k x hx).2 h] at hl
    cases hl

/-! ### Definitions -/
structure Ky where
  name : List UInt8
  kind : Int
  dflt : List UInt8
  least : Int
  most : Int
  letter : List UInt8
deriving DecidableEq
def zK : Ky := ⟨[], 0, [], 0, 0, []⟩
def kyC (x : Ky) : List Value := [.string (B x.name), .int .i64 x.kind, .string (B x.dflt), .int .i64 x.least, .int .i64 x.most, .string (B x.letter)]
def kyV (x : Ky) : Value := .agg #[.string (B x.name), .int .i64 x.kind, .string (B x.dflt), .int .i64 x.least, .int .i64 x.most, .string (B x.letter)]
theorem kyC_len (x : Ky) : (kyC x).length = 6 := rfl
theorem kyC_one (x : Ky) : ∀ v ∈ kyC x, v.oneCell' = true := by
  intro v hv
  simp only [kyC, List.mem_cons, List.not_mem_nil, or_false] at hv
  rcases hv with rfl | rfl | rfl | rfl | rfl | rfl <;> rfl
/-- Texts of lengths that may be. -/
def KyOk (x : Ky) : Prop := x.name.length ≤ 2147483647 ∧ x.dflt.length ≤ 2147483647 ∧ x.letter.length ≤ 2147483647 ∧ (-9223372036854775808 ≤ x.kind ∧ x.kind ≤ 9223372036854775807) ∧ (-9223372036854775808 ≤ x.least ∧ x.least ≤ 9223372036854775807) ∧ (-9223372036854775808 ≤ x.most ∧ x.most ≤ 9223372036854775807)
def letterL : List UInt8 → Bool
  | [] => true
  | [b] => decide (97 ≤ b.toNat) && decide (b.toNat ≤ 122) && decide (b.toNat ≠ 104)
  | _ => false
/-- The bounds of a kind's numbers. -/
def bndL (k : Int) : Int × Int × Bool :=
  if k = 2 then (-4611686018427387904, 4611686018427387904, true) else if k = 3 then (0, 1125899906842624, true) else if k = 4 then (0, 1099511627776, true) else if k = 6 then (0, 16, true) else (0, 0, false)
def formL (x : Ky) : Bool := nameL x.name && letterL x.letter && (if (bndL x.kind).2.2 = true then decide ((bndL x.kind).1 ≤ x.least) && decide (x.least ≤ x.most) && decide (x.most ≤ (bndL x.kind).2.1) else decide (x.kind = 1 ∨ x.kind = 5) && decide (x.least = 0) && decide (x.most = 0))
def findK (S : List Ky) (t : List UInt8) : Option Ky := S.find? fun y => decide (y.name = t)
def lettK (S : List Ky) (t : List UInt8) : Option Ky := if t = [] then none else S.find? fun y => decide (y.letter = t)
def insK (S : List Ky) (x : Ky) : List Ky := (S.takeWhile fun y => ltL y.name x.name) ++ x :: (S.dropWhile fun y => ltL y.name x.name)
/-- A set's definitions ascend by their names. -/
def AscK (S : List Ky) : Prop := (S.map (·.name)).Pairwise fun a b => ltL a b = true

/-! ### Search -/
theorem find_none {S : List Ky} {t : List UInt8} (h : findK S t = none) : ∀ y ∈ S, y.name ≠ t := by
  intro y hy e
  have := List.find?_eq_none.1 h y hy
  simp [e] at this
theorem find_some {S : List Ky} {t : List UInt8} {x : Ky} (h : findK S t = some x) : x ∈ S ∧ x.name = t := by
  refine ⟨List.mem_of_find?_eq_some h, ?_⟩
  have := List.find?_some h
  simpa using this
theorem asc_inj {S : List Ky} (ha : AscK S) {i j : Nat} {x y : Ky} (hi : S[i]? = some x) (hj : S[j]? = some y) (he : x.name = y.name) : i = j := by
  have hi' : (S.map (·.name))[i]? = some x.name := by rw [List.getElem?_map, hi]; rfl
  have hj' : (S.map (·.name))[j]? = some y.name := by rw [List.getElem?_map, hj]; rfl
  rcases Nat.lt_trichotomy i j with h | h | h
  · have := pair_at (S := fun a b => ltL a b = true) ha hi' hj' h
    rw [he, ltL_irrefl] at this
    cases this
  · exact h
  · have := pair_at (S := fun a b => ltL a b = true) ha hj' hi' h
    rw [he, ltL_irrefl] at this
    cases this
/-- What the binary search tells. -/
theorem found_find {S : List Ky} {t : List UInt8} {k : Nat} {b : Bool} (ha : AscK S) (h : FoundAt (S.map (·.name)) t k b) : (b = true → ∃ x, S[k]? = some x ∧ findK S t = some x) ∧ (b = false → findK S t = none) := by
  obtain ⟨_, h2, h3⟩ := h
  refine ⟨fun hb => ?_, fun hb => ?_⟩
  · rw [hb] at h3
    have h4 := of_decide_eq_true h3.symm
    rw [List.getElem?_map] at h4
    obtain ⟨x, hx, hn⟩ := Option.map_eq_some_iff.1 h4
    refine ⟨x, hx, ?_⟩
    cases hf : findK S t with
    | none => exact absurd hn (find_none hf x (List.mem_of_getElem? hx))
    | some y =>
      obtain ⟨hy, hyn⟩ := find_some hf
      obtain ⟨j, hj⟩ := List.getElem?_of_mem hy
      have := asc_inj ha hx hj (hn.trans hyn.symm)
      subst this
      exact hj.symm.trans hx
  · rw [hb] at h3
    have h4 := of_decide_eq_false h3.symm
    cases hf : findK S t with
    | none => rfl
    | some y =>
      obtain ⟨hy, hyn⟩ := find_some hf
      obtain ⟨j, hj⟩ := List.getElem?_of_mem hy
      have hj' : (S.map (·.name))[j]? = some t := by rw [List.getElem?_map, hj, ← hyn]; rfl
      exfalso
      have hjk : ¬ j < k := fun hlt => by
        have := (h2 j t hj').1 hlt
        rw [ltL_irrefl] at this
        cases this
      rcases Nat.lt_or_ge k j with hlt | hge
      · obtain ⟨z, hz⟩ : ∃ z, (S.map (·.name))[k]? = some z := ⟨_, List.getElem?_eq_getElem (by have := lt_get hj'; omega)⟩
        have hzt := pair_at (S := fun a b => ltL a b = true) ha hz hj' hlt
        have := (h2 k z hz).2 hzt
        omega
      · obtain rfl : j = k := by omega
        exact h4 hj'
/-- Where the new one goes. -/
theorem ins_at {S : List Ky} {x : Ky} {k : Nat} {b : Bool} (h : FoundAt (S.map (·.name)) x.name k b) : insK S x = S.take k ++ x :: S.drop k := by
  obtain ⟨h1, h2, _⟩ := h
  rw [List.length_map] at h1
  have hS : S = S.take k ++ S.drop k := (List.take_append_drop k S).symm
  have htk : ∀ y ∈ S.take k, ltL y.name x.name = true := fun y hy => by
    obtain ⟨i, hi⟩ := List.getElem?_of_mem hy
    rw [List.getElem?_take] at hi
    split at hi
    · rename_i hik
      exact (h2 i y.name (by rw [List.getElem?_map, hi]; rfl)).1 hik
    · cases hi
  have hdk : ∀ y, (S.drop k).head? = some y → ltL y.name x.name = false := fun y hy => by
    rw [List.head?_drop] at hy
    cases hl : ltL y.name x.name with
    | false => rfl
    | true =>
      have := (h2 k y.name (by rw [List.getElem?_map, hy]; rfl)).2 hl
      omega
  have hdw : ∀ l : List Ky, (∀ y, l.head? = some y → ltL y.name x.name = false) → l.takeWhile (fun y => ltL y.name x.name) = [] ∧ l.dropWhile (fun y => ltL y.name x.name) = l := fun l hl => by
    cases l with
    | nil => exact ⟨rfl, rfl⟩
    | cons y r =>
      have := hl y rfl
      exact ⟨by rw [List.takeWhile_cons, this]; rfl, by rw [List.dropWhile_cons, this]; rfl⟩
  obtain ⟨e1, e2⟩ := hdw _ hdk
  unfold insK
  conv => lhs; rw [hS]
  rw [List.takeWhile_append_of_pos htk, List.dropWhile_append_of_pos htk, e1, e2, List.append_nil]
theorem ins_asc {S : List Ky} {x : Ky} {k : Nat} {b : Bool} (ha : AscK S) (h : FoundAt (S.map (·.name)) x.name k b) (hn : findK S x.name = none) : AscK (insK S x) := by
  have e := ins_at h
  obtain ⟨h1, h2, _⟩ := h
  rw [e]
  unfold AscK at ha ⊢
  rw [List.map_append, List.map_cons, List.pairwise_append]
  have hm : (S.take k).map (·.name) = (S.map (·.name)).take k := List.map_take
  have hd : (S.drop k).map (·.name) = (S.map (·.name)).drop k := List.map_drop
  have hlo : ∀ a ∈ (S.map (·.name)).take k, ltL a x.name = true := fun a haa => by
    obtain ⟨i, hi⟩ := List.getElem?_of_mem haa
    rw [List.getElem?_take] at hi
    split at hi
    · rename_i hik
      exact (h2 i a hi).1 hik
    · cases hi
  have hhi : ∀ a ∈ (S.map (·.name)).drop k, ltL x.name a = true := fun a haa => by
    obtain ⟨i, hi⟩ := List.getElem?_of_mem haa
    rw [List.getElem?_drop] at hi
    have hge : ltL a x.name = false := by
      cases hl : ltL a x.name with
      | false => rfl
      | true => have := (h2 (k + i) a hi).2 hl; omega
    cases hl : ltL x.name a with
    | true => rfl
    | false =>
      have he := ltL_total _ _ hge hl
      obtain ⟨y, hy, hyn⟩ := List.mem_map.1 (List.mem_of_getElem? hi)
      exact absurd (hyn.trans he) (find_none hn y hy)
  have hsub := List.pairwise_append.1 (by rw [List.take_append_drop]; exact ha : ((S.map (·.name)).take k ++ (S.map (·.name)).drop k).Pairwise fun a b => ltL a b = true)
  rw [hm, hd]
  refine ⟨hsub.1, List.pairwise_cons.2 ⟨hhi, hsub.2.1⟩, fun a ha' b hb' => ?_⟩
  rcases List.mem_cons.1 hb' with rfl | hb'
  · exact hlo a ha'
  · exact hsub.2.2 a ha' b hb'
end Go.Proofs.YtbelnaiekbfoiaaGreatDoor.ky
/- A law on memory for any program: an append of elements that were just laid, to a row of one-cell elements that the call owns. No conditions beside those stated. -/
namespace Go.Proofs.YtbelnaiekbfoiaaGreatDoor
open Go.RowKit
section
variable {P : Program}

/-- 'append(out, x, y ..)', out a row of one-cell elements of the call's own (or nil): the new row. -/
theorem wpList_append_lit {ops : Array Oper} {rest : List Oper} {o : Oper} {a : Act} {w : World} {Q : Exit → Act → World → Prop} (hgd : o.guard = none) (s x : Operand) (t : TypeId)
    (ho : o.op = .call { callee := .builtin .append, args := #[s, x], argTypes := #[t, t] })
    (e : TypeId) (i : TypeInfo) (z : Value) (bytes : Nat) (ht : P.underlying t = some (.slice e)) (hi : P.info? e = some i) (hz : i.zero = some z)
    (hsize : i.size = 1) (hby : i.bytes = bytes) (hzs : z.cells.size = 1) (cs : Array Value) (m : Nat) (hm : 0 < m) (hx : a.eval x = .slice (some ⟨w.heap.size, 0, none⟩) m m) (hl : cs.size = m)
    (base : Nat) (v : Value) (n : Nat) (xs : List Value) (hs : a.eval s = v) (hown : w.ownsRow base e 1 v n xs)
    (h1 : ∀ u ∈ cs.toList, u.oneCell' = true) (h63 : n + m ≤ 9223372036854775807) (hbytes : (n + m) * bytes ≤ 140737488355328) (hbase : base ≤ w.heap.size)
    (h : ∀ g cap w', w'.ownsRow base e 1 (.slice (some ⟨g, 0, none⟩) (n + m) cap) (n + m) (xs ++ cs.toList) → w.grownBy w' v.ownBlock → (v.ownBlock = some g ∨ w.heap.size ≤ g) → w.heap.size < w'.heap.size → g < w'.heap.size →
      wpList P ops Q rest (a.put o.dst (.slice (some ⟨g, 0, none⟩) (n + m) cap)) w') :
    wpList P ops Q (o :: rest) a (w.alloc (.cells cs e)) := by
  refine wpList_append_lies (w.alloc (.cells cs e)) hgd s x t ho base e i z 1 bytes ht hi hz hsize hby hzs (by omega) v n xs hs (hown.alloc _) ⟨w.heap.size, 0, none⟩ m m cs.toList hx (by simpa using hl)
    (World.news_of_block (heap_alloc_new w _)) h1 hm (by unfold maxLen; omega) hbytes (by simp; omega) (w.heap.size + 1) (by simp) fun g cap w' h2 h3 h4 h5 => ?_
  refine h g cap w' h2 ⟨h3.os, h3.tape, h3.output, by have := h3.size; simp at this; omega, fun k hk hne => (h3.block k (by simp; omega) hne).trans (Below.heap_alloc w _ k hk)⟩ ?_ (by have := h3.size; simp at this; omega) h5
  rcases h4 with h4 | h4
  · exact .inl h4
  · exact .inr (by omega)

/-- The same at a step of a region that draws its order. -/
theorem step_append_lit {ops : Array Oper} {o : Oper} {a : Act} {w : World} {K : Act → World → Prop} {Q : Exit → Act → World → Prop} {E : Prop} (hgd : o.guard = none) (s x : Operand) (t : TypeId)
    (ho : o.op = .call { callee := .builtin .append, args := #[s, x], argTypes := #[t, t] })
    (e : TypeId) (i : TypeInfo) (z : Value) (bytes : Nat) (ht : P.underlying t = some (.slice e)) (hi : P.info? e = some i) (hz : i.zero = some z)
    (hsize : i.size = 1) (hby : i.bytes = bytes) (hzs : z.cells.size = 1) (cs : Array Value) (m : Nat) (hm : 0 < m) (hx : a.eval x = .slice (some ⟨w.heap.size, 0, none⟩) m m) (hl : cs.size = m)
    (base : Nat) (v : Value) (n : Nat) (xs : List Value) (hs : a.eval s = v) (hown : w.ownsRow base e 1 v n xs)
    (h1 : ∀ u ∈ cs.toList, u.oneCell' = true) (h63 : n + m ≤ 9223372036854775807) (hbytes : (n + m) * bytes ≤ 140737488355328) (hbase : base ≤ w.heap.size)
    (h : ∀ g cap w', w'.ownsRow base e 1 (.slice (some ⟨g, 0, none⟩) (n + m) cap) (n + m) (xs ++ cs.toList) → w.grownBy w' v.ownBlock → (v.ownBlock = some g ∨ w.heap.size ≤ g) → w.heap.size < w'.heap.size → g < w'.heap.size →
      K (a.put o.dst (.slice (some ⟨g, 0, none⟩) (n + m) cap)) w') :
    if Region.wanted o (yielded ops a.tmps) = true then Oper.wp P o a (w.alloc (.cells cs e)).drew K Q else E := by
  refine step_append_lies (w.alloc (.cells cs e)).drew hgd s x t ho base e i z 1 bytes ht hi hz hsize hby hzs (by omega) v n xs hs (hown.alloc _) ⟨w.heap.size, 0, none⟩ m m cs.toList hx (by simpa using hl)
    (World.news_of_block (heap_alloc_new w _)) h1 hm (by unfold maxLen; omega) hbytes (by simp; omega) (w.heap.size + 1) (by simp) fun g cap w' h2 h3 h4 h5 => ?_
  refine h g cap w' h2 ⟨h3.os, h3.tape, h3.output, by have := h3.size; simp at this; omega, fun k hk hne => (h3.block k (by simp; omega) hne).trans (Below.heap_alloc w _ k hk)⟩ ?_ (by have := h3.size; simp at this; omega) h5
  rcases h4 with h4 | h4
  · exact .inl h4
  · exact .inr (by omega)
end

/-- Behind such an append old memory is as it was. -/
theorem below_grown_own {B : Nat} {w0 w w' : World} {e : TypeId} {size n : Nat} {v : Value} {xs : List Value} (hb : Below B w0 w) (hown : w.ownsRow B e size v n xs) (hg : w.grownBy w' v.ownBlock) (hB : B ≤ w.heap.size) : Below B w0 w' :=
  hb.grown hg hB fun k hk => (hown.lt k hk).1
end Go.Proofs.YtbelnaiekbfoiaaGreatDoor
