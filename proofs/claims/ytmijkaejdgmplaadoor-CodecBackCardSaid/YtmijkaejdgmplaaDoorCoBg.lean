/- tinderboxlaw03.gets takes the next thing up. Conditions: as for the Reader's calls. -/
import Derived.Test.YtmijkaejdgmplaaDoorCoBp
namespace Go.Proofs.YtmijkaejdgmplaaDoor.co
open Go.ChangeShapes Go.WideShapes Go.ChangeAt Go.RowKit

structure ItemD.ok (o : ItemD) : Prop where
  n1 : -9223372036854775808 ≤ o.n
  n2 : o.n ≤ 9223372036854775807
  m1 : -9223372036854775808 ≤ o.more
  m2 : o.more ≤ 9223372036854775807
  s : o.s.size ≤ 9223372036854775807
def Got (r : Rst) (o : ItemD) (b : Nat) (S : List Nat) (w : World) (e : Ending) (w' : World) : Prop := ∃ is : Bool, e = .returned (.bool is) ∧ (getsT r o → is = true) ∧ Moves S w w' (IsR w' b (getsR r o))
theorem below_al (w : World) (o : Obj) : Below w.heap.size w (w.alloc o) := (Below.refl _ _).alloc (Nat.le_refl _) _
theorem pick_any' (c n : Int) (hn : 0 < n) (hn2 : n ≤ 2147483647) (h1 : -9223372036854775808 ≤ c) (h2 : c ≤ 9223372036854775807) (w : World) :
    Calls Tryd.prog 15 #[.int .i64 c, .int .i64 n] w fun e w' => e = .returned (.int .i64 (pickV c n)) ∧ w' = w := (pick_any c n hn hn2 h1 h2 w).mono fun _ _ ⟨h1, h2⟩ => ⟨h1, h2.symm⟩
theorem text_any' (x : ByteArray) (hx : x.size ≤ 9223372036854775807) (w : World) :
    Calls Tryd.prog 20 #[.string x] w fun e w' => e = .returned (.string (textB x)) ∧ w' = w := (text_any x hx w).mono fun _ _ ⟨h1, h2⟩ => ⟨h1, h2.symm⟩

set_option maxHeartbeats 2000000 in
set_option maxRecDepth 100000 in
theorem gets_any (r : Rst) (o : ItemD) (b : Nat) (S : List Nat) (w : World) (ho : o.ok) (hr : r.rest.length ≤ 9223372036854775807) (h : IsR w b r S) :
    Calls Tryd.prog 25 #[.pointer (some ⟨b, 0, none⟩), .agg #[.bool o.text, .int .i64 o.n, .int .i64 o.more, .string o.s]] w (Got r o b S w) := by
  have H := Lib.hid (h.below (below_al w (.cells #[.bool o.text, .int .i64 o.n, .int .i64 o.more, .string o.s] 39)))
  have Hlt := Lib.hid h.lt
  have Ho := Lib.hid ho
  have Hr := Lib.hid hr
  clear h ho hr
  obtain ⟨tx, n, more, s⟩ := o
  cases tx with
  | false =>
    go_enter Tryd.func25, Tryd.ntmps25
    go_wp2_with fail
    refine (RNum_any b r S _ Hr.out H.out).mono ?_
    rintro e w1 ⟨rfl, hM⟩
    have hc : w1.cell? ⟨w.heap.size, 1, none⟩ = some (.int .i64 n) := by
      obtain ⟨S', _, hu, _⟩ := hM
      refine (hu.cell (p := ⟨w.heap.size, 1, none⟩) (by simp) fun hk => ?_).trans (cell_in (o := 1) (heap_alloc_new w _))
      have := Hlt.out _ hk
      simp at this
    have HM := Lib.hid hM
    clear hM
    go_wp2_with fail
    refine (number_any n Ho.out.n1 Ho.out.n2 _).mono ?_
    rintro e w2 ⟨rfl, rfl⟩
    go_wp2_with fail
    go_ret
    refine ⟨_, rfl, fun hT => ?_, Moves.from_alloc HM.out⟩
    unfold getsT at hT
    simpa using hT
  | true =>
    have ht := textB_le s
    have hp := pickV_bd more 70000 (by omega)
    obtain ⟨ht1, ht2⟩ := ht
    obtain ⟨hp1, hp2⟩ := hp
    have b1 := Ho.out.m1
    have b2 := Ho.out.m2
    have b3 : s.size ≤ 9223372036854775807 := Ho.out.s
    simp only at b1 b2
    go_enter Tryd.func25, Tryd.ntmps25
    go_wp2_with fail
    obtain ⟨wA, hA⟩ : ∃ wA, wA = w.alloc (.cells #[.bool true, .int .i64 n, .int .i64 more, .string s] 39) := ⟨_, rfl⟩
    have HBA : Hid (Below w.heap.size w wA) := Lib.hid (by rw [hA]; exact below_al w _)
    have hc2 : wA.cell? ⟨w.heap.size, 2, none⟩ = some (.int .i64 more) := by rw [hA]; exact cell_in (o := 2) (heap_alloc_new w _)
    have hc3 : wA.cell? ⟨w.heap.size, 3, none⟩ = some (.string s) := by rw [hA]; exact cell_in (o := 3) (heap_alloc_new w _)
    rw [← hA] at H ⊢
    have hlA : w.heap.size < wA.heap.size := by rw [hA]; simp
    clear hA
    refine wp_region_still_tail 9 (by kernel_rfl) (by kernel_rfl) ?_
    simp only [List.take_succ_cons, List.take_zero, List.drop_succ_cons, List.drop_zero]
    still_step
    still_step
    still_step
    still_call (text_any' s b3 _)
    still_step
    still_step
    still_step
    still_call (pick_any' more 70000 (by omega) (by omega) b1 b2 _)
    still_step
    refine wpStill_nil ?_
    have HD := Lib.hid (H.out.below (Below.drew (Below.refl _ wA)))
    have Hc3 := Lib.hid hc3
    go_wp2_with fail
    refine (RText_any b _ r S _ Hr.out HD.out).mono ?_
    rintro e w1 ⟨rfl, hM⟩
    have hc : w1.cell? ⟨w.heap.size, 3, none⟩ = some (.string s) := by
      obtain ⟨S', _, hu, _⟩ := hM
      refine (hu.cell (p := ⟨w.heap.size, 3, none⟩) hlA fun hk => ?_).trans Hc3.out
      have := Hlt.out _ hk
      simp at this
    have HM := Lib.hid hM
    clear hM hc2 hc3
    go_wp2_with fail
    refine (text_any s b3 _).mono ?_
    rintro e w2 ⟨rfl, rfl⟩
    go_wp2_with fail
    go_ret
    refine ⟨_, rfl, fun hT => ?_, Moves.from_below (HBA.out.trans (Below.drew (Below.refl _ _))) HM.out⟩
    unfold getsT mostV at hT
    simp only [if_true] at hT
    rw [hT]
    simp [ByteArray.toList_eq]
end Go.Proofs.YtmijkaejdgmplaaDoor.co
