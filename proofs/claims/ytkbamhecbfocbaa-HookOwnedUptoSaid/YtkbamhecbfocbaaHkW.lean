/- tinderboxlaw22.HookStands returns true. No conditions. -/
import Derived.Test.YtkbamhecbfocbaaHkV
namespace Go.Proofs.Ytkbamhecbfocbaa.hk
open Go.RowKit

theorem std_len : ∀ h ∈ stdL, h.needs.length ≤ 2147483647 := by decide
set_option maxHeartbeats 1000000 in
theorem stands_any (w : World) : Calls Try.prog 3 #[] w fun e w' => e = .returned (.bool true) ∧ Below w.heap.size w w' := by
  go_enter Try.func3, Try.ntmps3
  go_wp2_with fail
  refine (Standard_any _).mono ?_
  rintro e w1 ⟨v, rfl, hown, hb⟩
  have HO := Lib.hid hown.reads
  have HB := Lib.hid hb
  clear hown hb
  go_wp2_with fail
  refine (refStd_any _).mono ?_
  rintro e w2 ⟨v2, rfl, hr, hb⟩
  have HR := Lib.hid hr
  have HB2 := Lib.hid (HB.out.trans (hb.mono HB.out.size))
  have HO2 := Lib.hid (HO.out.below hb)
  clear hr hb
  go_wp2_with fail
  refine (hooks_same v v2 stdL _ (by decide) std_len HO2.out HR.out).mono ?_
  rintro e w3 ⟨rfl, hb⟩
  have HB3 := Lib.hid (HB2.out.trans (hb.mono HB2.out.size))
  clear hb
  go_wp2_with fail
  go_ret
  exact ⟨rfl, HB3.out⟩
end Go.Proofs.Ytkbamhecbfocbaa.hk
