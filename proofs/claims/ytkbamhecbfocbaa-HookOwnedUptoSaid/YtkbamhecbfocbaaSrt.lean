/- What a sort of structs leaves in memory: laws on memory for any program. No conditions beside those stated. -/
import Derived.Shelf.SlSortCmp.SmallK
import Derived.Test.YtkbamhecbfocbaaMem
namespace Go.Proofs.Ytkbamhecbfocbaa
open Go.RowKit Go.Sort Go.Lib
variable {α : Type} [Inhabited α]

theorem sorted_block {enc : α → List Value} {k : Nat} {w : World} {blk off n : Nat} {d : Array α} {os : Array Obj} {c : Array Value} {e : TypeId} {fr : Nat × Nat} (h : w.heap[blk]? = some (.cells c e fr)) :
    (sortWorldK enc k w blk off n d os).heap[blk]? = some (.cells (putCells id off (flatK enc k d) c) e fr) := by
  have hlt := lt_of_block h
  have h' : w.heap[blk] = .cells c e fr := by simpa [Array.getElem?_eq_getElem hlt] using h
  show (w.heap.modify blk _ ++ os)[blk]? = _
  rw [Array.getElem?_append_left (by simpa using hlt), Array.getElem?_eq_getElem (by simpa using hlt), Array.getElem_modify_self, h']
  rfl
theorem sorted_below {enc : α → List Value} {k : Nat} {w : World} {blk off n : Nat} {d : Array α} {os : Array Obj} {B : Nat} (hb : B ≤ blk) (hB : B ≤ w.heap.size) : Below B w (sortWorldK enc k w blk off n d os) := by
  refine ⟨rfl, rfl, rfl, ?_, fun i hi => ?_⟩
  · show w.heap.size ≤ (w.heap.modify blk _ ++ os).size
    simp
  · show (w.heap.modify blk _ ++ os)[i]? = _
    rw [Array.getElem?_append_left (by simp; omega), Array.getElem?_modify, if_neg (by omega)]
theorem putCells_size {β : Type} [Inhabited β] (enc : β → Value) (off : Nat) (d : Array β) (c : Array Value) : (putCells enc off d c).size = c.size := by simp [putCells]
theorem putCells_at (F c : Array Value) (j : Nat) (hj : j < F.size) (hc : j < c.size) : (putCells id 0 F c)[j]? = some F[j] := by
  unfold putCells
  rw [Array.getElem?_mapIdx, Array.getElem?_eq_getElem hc]
  simp [hj]
theorem holds_of_block {w : World} {blk : Nat} {F c : Array Value} {e : TypeId} (h : w.heap[blk]? = some (.cells c e (0, 0))) (hF : ∀ j, j < F.size → c[j]? = some F[j]!) : Holds id w blk 0 F := by
  intro j hj
  rw [Nat.zero_add]
  exact ⟨(cell_in h).trans (hF j hj), free_in h⟩
end Go.Proofs.Ytkbamhecbfocbaa
