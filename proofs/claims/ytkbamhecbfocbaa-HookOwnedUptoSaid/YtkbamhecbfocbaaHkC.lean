/- slices.Concat of two lists of three services; slices.Clip; slices.Clone. Conditions beside each. -/
import Derived.Test.YtkbamhecbfocbaaHkB
import Derived.Maps.AppendAt
import Derived.Deep.AppendLies
namespace Go.Proofs.Ytkbamhecbfocbaa.hk
open Go.RowKit

theorem info_parts {P : Program} {t : TypeId} {z : Value} {a b : Nat} (h : (P.info? t).map (fun i => (i.zero, i.size, i.bytes)) = some (some z, a, b)) : ∃ i, P.info? t = some i ∧ i.zero = some z ∧ i.size = a ∧ i.bytes = b := by
  obtain ⟨i, hi, he⟩ := Option.map_eq_some_iff.1 h
  simp only [Prod.mk.injEq] at he
  exact ⟨i, hi, he.1, he.2.1, he.2.2⟩
theorem infoHook : (Try.prog.info? 29).map (fun i => (i.zero, i.size, i.bytes)) = some (some (.agg #[.string .empty, .slice none 0 0]), 2, 40) := by kernel_rfl

theorem add_zero' {b k : Nat} : (⟨b, 0, none⟩ : Addr).add k = ⟨b, k, none⟩ := by
  unfold Addr.add
  split
  · rename_i h; rw [h]
  · simp
theorem grow_any (w : World) : Calls Try.prog 21 #[.slice none 0 0, .int .i64 6] w fun e w' => ∃ cap, e = .returned (.slice (some ⟨w.heap.size, 0, none⟩) 0 cap) ∧ w'.ownsRow w.heap.size 29 2 (.slice (some ⟨w.heap.size, 0, none⟩) 0 cap) 0 [] ∧ Below w.heap.size w w' := by
  obtain ⟨i0, hi, hz0, hz1, hz2⟩ := info_parts infoHook
  have h := Any8.slices_Grow_grow Try.growHook i0 _ hi hz0 (by omega) none 0 0 6 [] w (by omega) (by omega) (by rw [hz2]; omega) (by omega) (by simp) (fun _ => rfl) (fun a ha => by cases ha)
  refine h.mono fun e w' ⟨he, hw⟩ => ⟨_, he, ?_, ?_⟩
  · rw [hw]
    refine World.ownsRow_made w.drew _ _ (Nat.le_refl _) (grownCap_le_maxLen _ _ _ _ (by unfold maxLen; omega)) ?_
    have hg := grownCap_ge w (0 + 6) 0 29
    have h2 : (Value.cells (.agg #[.string .empty, .slice none 0 0])).size = 2 := rfl
    show (#[] ++ Builtin.zeroCells _ (0 + 6 - 0) ++ Builtin.zeroCells _ (grownCap w (0 + 6) 0 29 - (0 + 6))).size = grownCap w (0 + 6) 0 29 * 2
    simp only [Array.size_append, size_zeroCells, h2, List.size_toArray, List.length_nil]
    omega
  · rw [hw]; exact (Below.refl _ _).drew.alloc (Nat.le_refl _) _

set_option maxHeartbeats 2000000 in
set_option maxRecDepth 100000 in
theorem concat_any (w : World) (b g1 g2 : Nat) (x y : List Value) (hb0 : w.cell? ⟨b, 0, none⟩ = some (sl g1 3)) (hb1 : w.cell? ⟨b, 1, none⟩ = some (sl g2 3)) (hx : x.length = 6) (hy : y.length = 6)
    (h1 : ∀ j u, x[j]? = some u → w.cell? ⟨g1, j, none⟩ = some u) (h2 : ∀ j u, y[j]? = some u → w.cell? ⟨g2, j, none⟩ = some u) (o1 : ∀ u ∈ x, u.oneCell' = true) (o2 : ∀ u ∈ y, u.oneCell' = true) :
    Calls Try.prog 11 #[sl b 2] w fun e w' => ∃ v, e = .returned v ∧ w'.ownsRow w.heap.size 29 2 v 6 (x ++ y) ∧ Below w.heap.size w w' := by
  obtain ⟨i0, hi, hz0, hz1, hz2⟩ := info_parts infoHook
  unfold sl at hb0 hb1 ⊢
  have H1 := Lib.hid h1
  have H2 := Lib.hid h2
  have HX := Lib.hid hx
  have HY := Lib.hid hy
  have O1 := Lib.hid o1
  have O2 := Lib.hid o2
  have HLb := Lib.hid (World.block_lt_of_cell? _ _ hb0)
  have HB1c := Lib.hid hb1
  clear h1 h2 hx hy o1 o2
  go_enter Try.func11, Try.ntmps11
  go_wp2_with fail
  refine wp_loop_rounds 3 ?_
  rw [rounds_succ]
  go_wp2_with fail
  rw [rounds_succ]
  go_wp2_with fail
  rw [rounds_succ]
  go_wp2_with fail
  refine (grow_any _).mono ?_
  rintro e w1 ⟨cap, rfl, hown, hbl⟩
  have HO := Lib.hid hown
  have HB := Lib.hid hbl
  have hc0 : w1.cell? ⟨b, 0, none⟩ = some (.slice (some ⟨g1, 0, none⟩) 3 3) := (hbl.cell (p := ⟨b, 0, none⟩) (World.block_lt_of_cell? _ _ hb0)).trans hb0
  have hb1' : w1.cell? ⟨b, 1, none⟩ = some (.slice (some ⟨g2, 0, none⟩) 3 3) := (hbl.cell (p := ⟨b, 1, none⟩) (World.block_lt_of_cell? _ _ hb1)).trans hb1
  have HC1 := Lib.hid hb1'
  have N1 : Hid (∀ j u, x[j]? = some u → w1.cell? ((⟨g1, 0, none⟩ : Addr).add j) = some u) := Lib.hid (fun j u hj => by
    rw [add_zero']
    have := H1.out j u hj
    exact (HB.out.cell (p := ⟨g1, j, none⟩) (World.block_lt_of_cell? _ _ this)).trans this)
  clear hown hbl hb0 hb1 hb1'
  have hz := HB.out.size
  go_wp2_with fail
  refine wp_loop_rounds 3 ?_
  rw [rounds_succ]
  go_wp2_with (at_builtin; go_must (refine wpList_append_lies _ rfl (.tmp 31) (.tmp 32) 23 rfl w.heap.size 29 i0 _ 2 40 Try.underlying23 hi hz0 hz1 hz2 rfl (by decide) _ 0 [] (by rfl) HO.out ⟨g1, 0, none⟩ 3 3 x (by rfl) (by rw [HX.out]) N1.out O1.out (by omega) (by unfold maxLen; omega) (by omega) (by omega) _ rfl ?_))
  intro g' cap' w2 hown2 hgrow hat hlt2
  have HO2 := Lib.hid hown2
  have HB2 : Hid (Below w.heap.size w w2) := Lib.hid (HB.out.grown hgrow hz fun k hk => by simp only [Value.ownBlock, Option.some.injEq] at hk; omega)
  have hc1 : w2.cell? ⟨b, 1, none⟩ = some (.slice (some ⟨g2, 0, none⟩) 3 3) := (HB2.out.cell (p := ⟨b, 1, none⟩) HLb.out).trans HB1c.out
  have N2 : Hid (∀ j u, y[j]? = some u → w2.cell? ((⟨g2, 0, none⟩ : Addr).add j) = some u) := Lib.hid (fun j u hj => by
    rw [add_zero']
    have := H2.out j u hj
    exact (HB2.out.cell (p := ⟨g2, j, none⟩) (World.block_lt_of_cell? _ _ this)).trans this)
  have hz2' := HB2.out.size
  clear hown2 hgrow hat hc0
  go_wp2_with fail
  rw [rounds_succ]
  go_wp2_with (at_builtin; go_must (refine wpList_append_lies _ rfl (.tmp 31) (.tmp 32) 23 rfl w.heap.size 29 i0 _ 2 40 Try.underlying23 hi hz0 hz1 hz2 rfl (by decide) _ 3 _ (by rfl) HO2.out ⟨g2, 0, none⟩ 3 3 y (by rfl) (by rw [HY.out]) N2.out O2.out (by omega) (by unfold maxLen; omega) (by omega) (by omega) _ rfl ?_))
  intro g3 cap3 w3 hown3 hgrow hat hlt3
  have HO3 := Lib.hid hown3
  have HB3 : Hid (Below w.heap.size w w3) := Lib.hid (HB2.out.grown hgrow hz2' fun k hk => (HO2.out.lt k hk).1)
  clear hown3 hgrow hat hc1
  go_wp2_with fail
  rw [rounds_succ]
  go_wp2_with fail
  go_ret
  exact ⟨_, rfl, HO3.out, HB3.out⟩
end Go.Proofs.Ytkbamhecbfocbaa.hk
