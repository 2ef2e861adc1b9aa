/- hook.sorted of the six services, hook.Standard, tinderboxlaw22.HookStands. No conditions. -/
import Derived.Test.YtkbamhecbfocbaaHkT
namespace Go.Proofs.Ytkbamhecbfocbaa.hk
open Go.RowKit Go.Sort Go.Lib

theorem upX_one (u : Nat) : ∀ x ∈ upX u, x.oneCell' = true := by
  intro x hx
  simp only [upX, sl, List.mem_cons, List.not_mem_nil, or_false] at hx
  rcases hx with rfl | rfl | rfl | rfl | rfl | rfl <;> rfl
theorem loX_one (l : Nat) : ∀ x ∈ loX l, x.oneCell' = true := by
  intro x hx
  simp only [loX, sl, List.mem_cons, List.not_mem_nil, or_false] at hx
  rcases hx with rfl | rfl | rfl | rfl | rfl | rfl <;> rfl
theorem clone_hook (w : World) (v : Value) (base : Nat) (xs : List Value) (h : w.ownsRow base 29 2 v 6 xs) (h1 : ∀ u ∈ xs, u.oneCell' = true) :
    Calls Try.prog 15 #[v] w fun e w' => ∃ v', e = .returned v' ∧ w'.ownsRow w.heap.size 29 2 v' 6 xs ∧ Below w.heap.size w w' := by
  obtain ⟨i0, hi, hz0, hz1, hz2⟩ := info_parts infoHook
  rcases h.2 with ⟨_, h0⟩ | ⟨g, cap, cur, rfl, _, hg, _, _, _, _⟩
  · omega
  · exact (AnyE.slices_Clone Try.cloneHook i0 _ 2 40 hi hz0 hz1 hz2 rfl (by decide) Try.sizeOf29 g 0 6 cap xs w h.1 (by unfold maxLen; omega) (by omega) (fun j u hj => by have := h.cells (g := g) rfl j u hj; rw [add_zero'] at this; rw [Nat.zero_add]; exact this) h1).mono
      fun _ _ ⟨v', h1, h2, _, h4⟩ => ⟨v', h1, h2, h4⟩
theorem clone_strs (w : World) (n : Nat) (l : List ByteArray) (hl : l.length ≤ 2) (h : w.heap[n]? = some (.cells (l.map Value.string).toArray 9 (0, 0))) :
    Calls Try.prog 20 #[sl n l.length] w fun e w' => ∃ p c, e = .returned (.slice p l.length c) ∧ l.length ≤ c ∧ OwnStrs w' w.heap.size (.slice p l.length l.length) l ∧ Below w.heap.size w w' := by
  refine (Try.slices_Clone_string n 0 l.length l.length l w (Nat.le_refl _) (by omega) (fun j hj => ?_)).mono ?_
  · rw [cell_in h, Nat.zero_add]
    simp [List.getD, hj]
  · rintro e w' ⟨v', rfl, hown, hne, hb⟩
    rcases hown.2 with ⟨hv, _⟩ | ⟨g, cap, cur, rfl, hbg, hg, hn, _, hs, ht⟩
    · exact absurd hv hne
    · refine ⟨_, _, rfl, hn, .inr ⟨g, cur, rfl, hbg, hg, by omega, fun j s hj => ?_⟩, hb⟩
      have hlt : j < l.length := (List.getElem?_eq_some_iff.1 hj).1
      have h1 := congrArg (·[j]?) ht
      simp only [List.take_length, Nat.mul_one] at h1
      rw [List.getElem?_take, if_pos hlt, List.getElem?_map, hj] at h1
      rw [← Array.getElem?_toList]
      exact h1

theorem row_holds {w : World} {g : Nat} {cs : Array Value} {u l : Nat} (h : w.heap[g]? = some (.cells cs 29 (0, 0))) (ht : cs.toList.take 12 = upX u ++ loX l) : HoldsK encHk 2 w g 0 (d0 u l) := by
  unfold HoldsK
  rw [flat_d0]
  refine holds_of_block h fun j hj => ?_
  have hj12 : j < 12 := hj
  have h1 := congrArg (·[j]?) ht
  simp only [List.getElem?_take, if_pos hj12] at h1
  rw [← Array.getElem?_toList, h1, List.getElem?_eq_getElem (show j < (upX u ++ loX l).length from hj12)]
  simp only [List.getElem!_toArray, getElem!_pos (upX u ++ loX l) j (show j < (upX u ++ loX l).length from hj12)]
theorem flat_at (u l j : Nat) (x : HookD) (hj : stdL[j]? = some x) : (flatK encHk 2 (d1 u l))[j * 2]? = some (Value.string x.name) ∧ (flatK encHk 2 (d1 u l))[j * 2 + 1]? = some (srcV u l j) := by
  have h6 := six_cases (l := stdL) rfl hj
  rcases (show j = 0 ∨ j = 1 ∨ j = 2 ∨ j = 3 ∨ j = 4 ∨ j = 5 by omega) with rfl | rfl | rfl | rfl | rfl | rfl <;> (obtain rfl := Option.some.inj hj.symm; exact ⟨by kernel_rfl, by kernel_rfl⟩)
theorem part_start {w : World} {B g u l n : Nat} {cs : Array Value} {os : Array Obj} (h : w.heap[g]? = some (.cells cs 29 (0, 0))) (hs : 12 ≤ cs.size) : Part (sortWorldK encHk 2 w g 0 n (d1 u l) os) B g u l 0 := by
  refine ⟨_, sorted_block h, by rw [putCells_size]; exact hs, fun i x hi => ?_⟩
  obtain ⟨h1, h2⟩ := flat_at u l i x hi
  have h6 := six_cases (l := stdL) rfl hi
  have hF : (flatK encHk 2 (d1 u l)).size = 12 := by simp [flatK]; rfl
  refine ⟨?_, fun h => by omega, fun _ => ?_⟩
  · rw [putCells_at _ _ _ (by omega) (by omega), ← Array.getElem?_eq_getElem]; exact h1
  · rw [putCells_at _ _ _ (by omega) (by omega), ← Array.getElem?_eq_getElem]; exact h2
end Go.Proofs.Ytkbamhecbfocbaa.hk
