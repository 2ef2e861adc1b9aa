/- codec.told tells the number of a *fault; of nil it is 0. Condition: the variable errors.errorType holds what the program's text lays. -/
import Derived.Test.YtmijkaejdgmplaaDoorCoA
import Derived.Test.YtmijkaejdgmplaaDoorCoF
namespace Go.Proofs.YtmijkaejdgmplaaDoor.co
open Go.RowKit

/-- The listed variable. -/
def Reg (w : World) : Prop := w.cell? ⟨2, 0, none⟩ = some (.iface 111 (.agg #[.pointer (some ⟨6, 64, none⟩)]))
theorem Reg.lt {w : World} (h : Reg w) : 2 < w.heap.size := World.block_lt_of_cell? _ _ h
theorem Reg.upd {w w' : World} {S : List Nat} (h : Reg w) (hu : Upd S w w') (hS : 2 ∉ S) : Reg w' := (hu.cell (p := ⟨2, 0, none⟩) h.lt hS).trans h
theorem Reg.below {w w' : World} (h : Reg w) (hb : Below w.heap.size w w') : Reg w' := h.upd (Upd.of_below hb []) (by simp)

/-- errors.As at a *codec.fault, the target the variable in block g: it points to the fault; no other old memory has turned. -/
theorem as_fault (e : Addr) (g : Nat) (old : Value) (t : TypeId) (w : World) (hg : Reg w) (ht : w.heap[g]? = some (.cells #[old] t (0, 0))) :
    Calls Tryd.prog 62 #[.iface 77 (.pointer (some e)), .iface 90 (.pointer (some ⟨g, 0, none⟩))] w fun ev w' => ev = .returned (.bool true) ∧ w'.cell? ⟨g, 0, none⟩ = some (.pointer (some e)) ∧ Upd [g] w w' := by
  refine (as_hit e ⟨g, 0, none⟩ old w hg (cell_of_one ht) (free_of_one ht)).mono fun ev w' ⟨h1, h2⟩ => ⟨h1, ?_, ?_⟩
  · rw [h2]
    exact cell_of_one (one_setCell (heap_al (heap_al (heap_al (heap_al ht _) _) _) _))
  · rw [h2]
    exact (((((Upd.refl _ _).alloc _).alloc _).alloc _).alloc _).setCell (.inl (by simp)) _

theorem told_any (p : Nat) (c : Int) (w : World) (hg : Reg w) (hc : w.cell? ⟨p, 0, none⟩ = some (.int .i64 c)) :
    Calls Tryd.prog 53 #[.iface 77 (.pointer (some ⟨p, 0, none⟩))] w fun ev w' => ev = .returned (.int .i64 c) ∧ Below w.heap.size w w' := by
  have hlt : p < w.heap.size := World.block_lt_of_cell? _ _ hc
  have Hg := Lib.hid hg
  clear hg
  go_enter Tryd.func53, Tryd.ntmps53
  go_wp2_with fail
  refine (as_fault ⟨p, 0, none⟩ w.heap.size _ _ _ (Hg.out.below ((Below.refl _ _).alloc (Nat.le_refl _) _)) (heap_alloc_new w _)).mono ?_
  rintro e w1 ⟨rfl, hcell, hu⟩
  have hc1 : w1.cell? ⟨p, 0, none⟩ = some (.int .i64 c) := (hu.cell (p := ⟨p, 0, none⟩) (by simp; omega) (by simp; omega)).trans ((World.cell?_alloc_lt _ _ ⟨p, 0, none⟩ hlt).trans hc)
  have HB : Hid (Below w.heap.size w w1) := Lib.hid (((Below.refl _ _).alloc (Nat.le_refl _) _).trans (hu.below (by simp) (by simp)))
  clear hu hc
  go_wp2_with fail
  go_ret
  exact ⟨rfl, HB.out⟩

theorem told_nil (w : World) :
    Calls Tryd.prog 53 #[.nilIface] w fun ev w' => ev = .returned (.int .i64 0) ∧ Below w.heap.size w w' := by
  go_enter Tryd.func53, Tryd.ntmps53
  go_wp2_with fail
  refine (as_nil _ _).mono ?_
  rintro e w1 ⟨rfl, rfl⟩
  go_wp2_with fail
  go_ret
  exact ⟨rfl, (Below.refl _ _).alloc (Nat.le_refl _) _⟩
end Go.Proofs.YtmijkaejdgmplaaDoor.co
