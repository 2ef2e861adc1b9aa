/- tinderboxlaw22.texts, hooks: two lists that read alike are told to be the same. Conditions: the lists lie in memory; they have fewer than 2^31 elements. -/
import Derived.Test.YtkbamhecbfocbaaRows
import Derived.Test.YtkbamhecbfocbaaSeq
import Derived.WalkKit
import Derived.WalkLawsBesides
import Derived.WalkSpells
import Derived.Deep.QuietTactic
import Derived.BigQuiet
import Derived.StillTailTactics
namespace Go.Proofs.Ytkbamhecbfocbaa.hk
open Go.RowKit

theorem below_drewN (w : World) (n : Nat) : Below w.heap.size w (w.drewN n) := ⟨rfl, rfl, rfl, Nat.le_refl _, fun _ _ => rfl⟩
structure HookD where
  name : ByteArray
  needs : List ByteArray
def HooksAt (w : World) (v : Value) (l : List HookD) : Prop :=
  ∃ p cap, v = .slice p l.length cap ∧ ∀ i h, l[i]? = some h → ∃ b off nv, p = some ⟨b, off, none⟩ ∧ w.cell? ⟨b, off + i * 2, none⟩ = some (.string h.name) ∧ w.cell? ⟨b, off + i * 2 + 1, none⟩ = some nv ∧ StrsAt w nv h.needs
theorem HooksAt.below {w w' : World} {v : Value} {l : List HookD} (h : HooksAt w v l) (hb : Below w.heap.size w w') : HooksAt w' v l := by
  obtain ⟨p, cap, hv, hc⟩ := h
  refine ⟨p, cap, hv, fun i s hi => ?_⟩
  obtain ⟨b, off, nv, h1, h2, h3, h4⟩ := hc i s hi
  exact ⟨b, off, nv, h1, (hb.cell (World.block_lt_of_cell? _ _ h2)).trans h2, (hb.cell (World.block_lt_of_cell? _ _ h3)).trans h3, h4.below hb⟩

set_option maxHeartbeats 1000000 in
theorem texts_same (va vb : Value) (l : List ByteArray) (w : World) (hl : l.length ≤ 2147483647) (ha : StrsAt w va l) (hb : StrsAt w vb l) :
    Calls Try.prog 9 #[va, vb] w fun e w' => e = .returned (.bool true) ∧ Below w.heap.size w w' := by
  obtain ⟨p, cap, rfl, ha⟩ := ha
  obtain ⟨q, cap', rfl, hb⟩ := hb
  have HA := Lib.hid ha
  have HB := Lib.hid hb
  clear ha hb
  go_enter Try.func9, Try.ntmps9
  go_wp2_with fail
  go_loopw [5] (fun i wr => ∃ k : Nat, k ≤ l.length ∧ i = .int .i64 (k : Int) ∧ Hid (Below w.heap.size w wr)) (fun i _ => (l.length - intOf i).toNat)
  case atStart => exact ⟨0, by omega, rfl, Lib.hid (Below.refl _ _)⟩
  case round =>
    obtain ⟨k, hk, rfl, Hb⟩ := hrel
    by_cases hlt : k < l.length
    · have hlt' : (k : Int) < (l.length : Int) := by omega
      obtain ⟨b, off, rfl, h1⟩ := HA.out k l[k] (List.getElem?_eq_getElem hlt)
      obtain ⟨b', off', rfl, h2⟩ := HB.out k l[k] (List.getElem?_eq_getElem hlt)
      generalize l[k] = s at *
      have hc1 : wr.cell? ⟨b, off + k, none⟩ = some (.string s) := (Hb.out.cell (p := ⟨b, off + k, none⟩) (World.block_lt_of_cell? _ _ h1)).trans h1
      have hc2 : wr.cell? ⟨b', off' + k, none⟩ = some (.string s) := (Hb.out.cell (p := ⟨b', off' + k, none⟩) (World.block_lt_of_cell? _ _ h2)).trans h2
      clear h1 h2
      go_wp2_with fail
      go_quiet (fail)
      go_wp2_with fail
      go_roundw
      case rel => exact ⟨k + 1, by omega, by go_num, Lib.hid ⟨Hb.out.os, Hb.out.tape, Hb.out.output, Hb.out.size, Hb.out.block⟩⟩
      case measure => simp [intOf]; omega
    · have hge : (l.length : Int) ≤ (k : Int) := by omega
      have hd : decide ((k : Int) < (l.length : Int)) = false := by simp; omega
      have hd' : decide (k < l.length) = false := by simp; omega
      go_wp2_with fail
      go_ret
      exact ⟨rfl, Hb.out⟩

set_option maxHeartbeats 2000000 in
set_option maxRecDepth 100000 in
theorem hooks_same (va vb : Value) (l : List HookD) (w : World) (hl : l.length ≤ 2147483647) (hl2 : ∀ h ∈ l, h.needs.length ≤ 2147483647) (ha : HooksAt w va l) (hb : HooksAt w vb l) :
    Calls Try.prog 5 #[va, vb] w fun e w' => e = .returned (.bool true) ∧ Below w.heap.size w w' := by
  obtain ⟨p, cap, rfl, ha⟩ := ha
  obtain ⟨q, cap', rfl, hb⟩ := hb
  have HA := Lib.hid ha
  have HB := Lib.hid hb
  have HL := Lib.hid hl2
  clear ha hb hl2
  go_enter Try.func5, Try.ntmps5
  go_wp2_with fail
  go_loopw [5] (fun i wr => ∃ k : Nat, k ≤ l.length ∧ i = .int .i64 (k : Int) ∧ Hid (Below w.heap.size w wr)) (fun i _ => (l.length - intOf i).toNat)
  case atStart => exact ⟨0, by omega, rfl, Lib.hid (Below.refl _ _)⟩
  case round =>
    obtain ⟨k, hk, rfl, Hb⟩ := hrel
    by_cases hlt : k < l.length
    · have hlt' : (k : Int) < (l.length : Int) := by omega
      obtain ⟨b, off, nv, rfl, h1, h2, h3⟩ := HA.out k l[k] (List.getElem?_eq_getElem hlt)
      obtain ⟨b', off', nv', rfl, h4, h5, h6⟩ := HB.out k l[k] (List.getElem?_eq_getElem hlt)
      have hln := HL.out l[k] (List.getElem_mem hlt)
      generalize l[k] = s at *
      have hc1 : wr.cell? ⟨b, off + k * 2, none⟩ = some (.string s.name) := (Hb.out.cell (p := ⟨b, off + k * 2, none⟩) (World.block_lt_of_cell? _ _ h1)).trans h1
      have hc2 : wr.cell? ⟨b, off + k * 2 + 1, none⟩ = some nv := (Hb.out.cell (p := ⟨b, off + k * 2 + 1, none⟩) (World.block_lt_of_cell? _ _ h2)).trans h2
      have hc4 : wr.cell? ⟨b', off' + k * 2, none⟩ = some (.string s.name) := (Hb.out.cell (p := ⟨b', off' + k * 2, none⟩) (World.block_lt_of_cell? _ _ h4)).trans h4
      have hc5 : wr.cell? ⟨b', off' + k * 2 + 1, none⟩ = some nv' := (Hb.out.cell (p := ⟨b', off' + k * 2 + 1, none⟩) (World.block_lt_of_cell? _ _ h5)).trans h5
      have HN1 := Lib.hid ((h3.below Hb.out).below (below_drewN wr 1))
      have HN2 := Lib.hid ((h6.below Hb.out).below (below_drewN wr 1))
      clear h1 h2 h3 h4 h5 h6
      go_wp2_with fail
      go_still_tail 10, (by kernel_rfl)
      go_wp2_with fail
      refine (texts_same nv nv' s.needs _ hln HN1.out HN2.out).mono ?_
      rintro e w1 ⟨rfl, hb1⟩
      have Hb1 := Lib.hid (Hb.out.trans ((Below.drew (Below.refl _ wr)).trans hb1 |>.mono Hb.out.size))
      have hd1 : w1.cell? ⟨b, off + k * 2, none⟩ = some (.string s.name) := (hb1.cell (p := ⟨b, off + k * 2, none⟩) (World.block_lt_of_cell? _ _ hc1)).trans hc1
      have hd4 : w1.cell? ⟨b', off' + k * 2, none⟩ = some (.string s.name) := (hb1.cell (p := ⟨b', off' + k * 2, none⟩) (World.block_lt_of_cell? _ _ hc4)).trans hc4
      clear hc1 hc2 hc4 hc5 hb1
      go_wp2_with fail
      go_quiet (fail)
      go_wp2_with fail
      go_roundw
      case rel => exact ⟨k + 1, by omega, by go_num, Lib.hid ⟨Hb1.out.os, Hb1.out.tape, Hb1.out.output, Hb1.out.size, Hb1.out.block⟩⟩
      case measure => simp [intOf]; omega
    · have hge : (l.length : Int) ≤ (k : Int) := by omega
      have hd : decide ((k : Int) < (l.length : Int)) = false := by simp; omega
      have hd' : decide (k < l.length) = false := by simp; omega
      go_wp2_with fail
      go_ret
      exact ⟨rfl, Hb.out⟩
end Go.Proofs.Ytkbamhecbfocbaa.hk
