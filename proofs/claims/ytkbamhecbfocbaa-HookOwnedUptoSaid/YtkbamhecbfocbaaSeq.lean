/- What it says of a slice value that it reads as a list of strings. No program in sight; no conditions. -/
import Derived.Test.YtkbamhecbfocbaaMem
namespace Go.Proofs.Ytkbamhecbfocbaa
open Go.RowKit

/-- A slice that reads as a list of strings; its array is p's. -/
def StrsAt (w : World) (v : Value) (l : List ByteArray) : Prop :=
  ∃ p cap, v = .slice p l.length cap ∧ ∀ i s, l[i]? = some s → ∃ b off, p = some ⟨b, off, none⟩ ∧ w.cell? ⟨b, off + i, none⟩ = some (.string s)
theorem StrsAt.below {w w' : World} {v : Value} {l : List ByteArray} (h : StrsAt w v l) (hb : Below w.heap.size w w') : StrsAt w' v l := by
  obtain ⟨p, cap, hv, hc⟩ := h
  refine ⟨p, cap, hv, fun i s hi => ?_⟩
  obtain ⟨b, off, h1, h2⟩ := hc i s hi
  exact ⟨b, off, h1, (hb.cell (World.block_lt_of_cell? _ _ h2)).trans h2⟩
theorem StrsAt.nil (w : World) : StrsAt w (.slice none 0 0) [] := ⟨none, 0, rfl, fun i s hi => by simp at hi⟩
theorem StrsAt.upd {w w' : World} {S : List Nat} {v : Value} {l : List ByteArray} (h : StrsAt w v l) (hu : Upd S w w') (hn : ∀ g, v.ownBlock = some g → g ∉ S) : StrsAt w' v l := by
  obtain ⟨p, cap, rfl, hc⟩ := h
  refine ⟨p, cap, rfl, fun i s hi => ?_⟩
  obtain ⟨b, off, rfl, h2⟩ := hc i s hi
  exact ⟨b, off, rfl, (hu.cell (p := ⟨b, off + i, none⟩) (World.block_lt_of_cell? _ _ h2) (hn b rfl)).trans h2⟩
/-- A block whose cells are these strings, from its first on. -/
theorem StrsAt.of_block {w : World} {b cap : Nat} {cs : Array Value} {t : TypeId} {f : Nat × Nat} {l : List ByteArray} (h : w.heap[b]? = some (.cells cs t f)) (hc : ∀ (i : Nat) (s : ByteArray), l[i]? = some s → cs[i]? = some (Value.string s)) : StrsAt w (.slice (some ⟨b, 0, none⟩) l.length cap) l :=
  ⟨_, cap, rfl, fun i s hi => ⟨b, 0, rfl, by rw [Nat.zero_add, cell_in h]; exact hc i s hi⟩⟩
end Go.Proofs.Ytkbamhecbfocbaa
