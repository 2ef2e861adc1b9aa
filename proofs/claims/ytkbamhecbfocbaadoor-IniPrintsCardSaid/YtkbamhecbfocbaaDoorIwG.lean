/- tinderboxlaw06.IniParses returns true. Conditions: the tables hold what the text lays. -/
import Derived.Test.YtkbamhecbfocbaaDoorIwF
namespace Go.Proofs.YtkbamhecbfocbaaDoor.ini
open Go.ChangeShapes Go.WideShapes Go.ChangeAt Go.RowKit gl

theorem txts_lit {w : World} {blk : Nat} {ss : List ByteArray} {cs : Array Value} (h : w.heap[blk]? = some (.cells cs 9 (0, 0))) (hc : cs.toList = ss.map Value.string) : Txts w blk ss := by
  refine ⟨lt_of_block h, fun j s hj => ?_⟩
  rw [cell_in h, ← Array.getElem?_toList, hc, List.getElem?_map, hj]
  rfl

set_option maxHeartbeats 4000000 in
set_option maxRecDepth 100000 in
theorem iniParses_any (s : ByteArray) (hs : s.size ≤ 9223372036854775807) (t : ByteArray) (ht : t.size ≤ 9223372036854775807) (w : World) (hG : Glo w) :
    Calls Tryd.prog 3 #[.string s, .string t] w fun e w' => e = .returned (.bool true) ∧ Below w.heap.size w w' := by
  have HG := Lib.hid hG
  have hb := addV_bd (s.size : Int) (t.size : Int) (by omega) (by omega)
  have HA := Lib.hid fun W => add_any (s.size : Int) (t.size : Int) (by omega) (by omega) (by omega) (by omega) W
  have HL : Hid (addV (s.size : Int) (t.size : Int) ≤ 2147483647 → addV (s.size : Int) (t.size : Int) = (s.size : Int) + t.size) := Lib.hid fun h => (addV_lo (by omega) (by omega) h).1
  generalize addV (s.size : Int) (t.size : Int) = a1 at *
  obtain ⟨mv, hmv⟩ : ∃ mv : Int, min a1 2147483647 = mv := ⟨_, rfl⟩
  have hmv0 : 0 ≤ mv := by omega
  have hmv1 : mv ≤ 2147483647 := by omega
  clear hG
  go_enter Tryd.func3, Tryd.ntmps3
  go_wp2_with fail
  refine (HA.out _).mono ?_
  rintro e w0 ⟨rfl, rfl⟩
  by_cases hbig : 2147483647 < 4 * mv
  · go_wp2_with fail
    go_ret
    exact ⟨rfl, Below.refl _ _⟩
  · have hsum := HL.out (by omega)
    have hst : s.size + t.size ≤ 536870911 := by omega
    clear hsum HL HA
    go_wp2_with fail
    refine (awake_any _ HG.out).mono ?_
    rintro e w1 ⟨rfl, hb1⟩
    have Hb1 := Lib.hid hb1
    clear hb1
    obtain ⟨S1, hS1⟩ : ∃ S1 : ByteArray, S1 = s ++ (⟨#[10]⟩ : ByteArray) := ⟨_, rfl⟩
    obtain ⟨S2, hS2⟩ : ∃ S2 : ByteArray, S2 = S1 ++ t := ⟨_, rfl⟩
    obtain ⟨S3, hS3⟩ : ∃ S3 : ByteArray, S3 = s ++ t := ⟨_, rfl⟩
    have hz10 : (⟨#[10]⟩ : ByteArray).size = 1 := rfl
    have hz1 : S1.size = s.size + 1 := by rw [hS1, ByteArray.size_append, hz10]
    have hz2 : S2.size = S1.size + t.size := by rw [hS2, ByteArray.size_append]
    have hz3 : S3.size = s.size + t.size := by rw [hS3, ByteArray.size_append]
    have hadd1 : ∀ wx : World, (Op.stringOp .add s ⟨#[10]⟩).run Tryd.prog wx = .ok (.string S1) wx := fun wx => by rw [hS1]; exact run_string_add_sum wx _ _ (by omega)
    have hadd2 : ∀ wx : World, (Op.stringOp .add S1 t).run Tryd.prog wx = .ok (.string S2) wx := fun wx => by rw [hS2]; exact run_string_add_sum wx _ _ (by omega)
    have hadd3 : ∀ wx : World, (Op.stringOp .add s t).run Tryd.prog wx = .ok (.string S3) wx := fun wx => by rw [hS3]; exact run_string_add_sum wx _ _ (by omega)
    have hs1 : s.size ≤ 9223372036854775807 := by omega
    have ht1 : t.size ≤ 9223372036854775807 := by omega
    have hz2' : S2.size ≤ 9223372036854775807 := by omega
    have hz3' : S3.size ≤ 9223372036854775807 := by omega
    clear hS1 hS2 hS3 hz10 hz1 hz2 hz3
    go_wp2_with fail
    obtain ⟨w2, hw2⟩ : ∃ w2, w2 = w1.alloc (.cells #[.string s, .string t, .string s, .string S2, .string S3] 9) := ⟨_, rfl⟩
    have hb2 : Below w1.heap.size w1 w2 := by rw [hw2]; exact (Below.refl _ _).alloc (Nat.le_refl _) _
    have hT : Txts w2 w1.heap.size [s, t, s, S2, S3] := by rw [hw2]; exact txts_lit (heap_alloc_new w1 _) rfl
    have Hb2 := Lib.hid (then_bel Hb1.out hb2)
    have HQ := Lib.hid (parses_any [s, t, s, S2, S3] 5 rfl (by omega) (by omega) (by
      intro x hx
      simp only [List.mem_cons, List.not_mem_nil, or_false] at hx
      rcases hx with rfl | rfl | rfl | rfl | rfl <;> assumption) w1.heap.size 5 (Nat.le_refl _) w2 hT (HG.out.below Hb2.out (Nat.le_refl _)))
    rw [← hw2]
    clear hw2 hb2 hT
    refine HQ.out.mono ?_
    rintro e w3 ⟨rfl, hb3⟩
    have Hb3 := Lib.hid (then_bel Hb2.out hb3)
    clear hb3 hadd1 hadd2 hadd3
    go_wp2_with fail
    go_ret
    exact ⟨rfl, Hb3.out⟩
end Go.Proofs.YtkbamhecbfocbaaDoor.ini
