/- package hook's literal lists, slices.Concat of two lists of three services. Conditions beside each. -/
import Derived.Test.YtkbamhecbfocbaaHkA
import Derived.Test.YtkbamhecbfocbaaShelf
import Derived.Laws.OwnMore
namespace Go.Proofs.Ytkbamhecbfocbaa.hk
open Go.RowKit

def nNet : ByteArray := ⟨#[110, 101, 116]⟩
def nLog : ByteArray := ⟨#[108, 111, 103]⟩
def nStore : ByteArray := ⟨#[115, 116, 111, 114, 101]⟩
def nPeers : ByteArray := ⟨#[112, 101, 101, 114, 115]⟩
def nAdmin : ByteArray := ⟨#[97, 100, 109, 105, 110]⟩
def nClock : ByteArray := ⟨#[99, 108, 111, 99, 107]⟩
def stdL : List HookD := [⟨nAdmin, [nNet, nStore]⟩, ⟨nClock, []⟩, ⟨nLog, [nClock]⟩, ⟨nNet, [nLog, nStore]⟩, ⟨nPeers, [nNet]⟩, ⟨nStore, [nLog]⟩]

def sl (b n : Nat) : Value := .slice (some ⟨b, 0, none⟩) n n
def upW (w : World) : World := (((w.alloc (.cells #[.string nLog, .string nStore] 9)).alloc (.cells #[.string nNet] 9)).alloc (.cells #[.string nNet, .string nStore] 9)).alloc (.cells #[.string nNet, sl w.heap.size 2, .string nPeers, sl (w.heap.size + 1) 1, .string nAdmin, sl (w.heap.size + 1 + 1) 2] 29)
theorem upper_any (w : World) : Calls Try.prog 12 #[] w fun e w' => e = .returned (sl (w.heap.size + 3) 3) ∧ w' = upW w := by
  go_enter Try.func12, Try.ntmps12
  go_wp2_with fail
  go_ret
  exact ⟨rfl, rfl⟩
def loW (w : World) : World := ((w.alloc (.cells #[.string nClock] 9)).alloc (.cells #[.string nLog] 9)).alloc (.cells #[.string nClock, .slice none 0 0, .string nLog, sl w.heap.size 1, .string nStore, sl (w.heap.size + 1) 1] 29)
theorem lower_any (w : World) : Calls Try.prog 13 #[] w fun e w' => e = .returned (sl (w.heap.size + 2) 3) ∧ w' = loW w := by
  go_enter Try.func13, Try.ntmps13
  go_wp2_with fail
  go_ret
  exact ⟨rfl, rfl⟩

theorem strs_block {w : World} {b : Nat} {l : List ByteArray} {t : TypeId} {f : Nat × Nat} (h : w.heap[b]? = some (.cells (l.map Value.string).toArray t f)) : StrsAt w (sl b l.length) l :=
  StrsAt.of_block (cap := l.length) h fun i s hi => by simp [hi]

theorem HooksAt.of_block {w : World} {b cap : Nat} {cs : Array Value} {t : TypeId} {f : Nat × Nat} {l : List HookD} (h : w.heap[b]? = some (.cells cs t f))
    (hc : ∀ (i : Nat) (x : HookD), l[i]? = some x → ∃ nv, cs[i * 2]? = some (Value.string x.name) ∧ cs[i * 2 + 1]? = some nv ∧ StrsAt w nv x.needs) : HooksAt w (.slice (some ⟨b, 0, none⟩) l.length cap) l := by
  refine ⟨_, cap, rfl, fun i x hi => ?_⟩
  obtain ⟨nv, h1, h2, h3⟩ := hc i x hi
  refine ⟨b, 0, nv, rfl, ?_, ?_, h3⟩
  · rw [Nat.zero_add, cell_in h]; exact h1
  · rw [Nat.zero_add, cell_in h]; exact h2
theorem six_cases {l : List HookD} (hl : l.length = 6) {i : Nat} {x : HookD} (hi : l[i]? = some x) : i < 6 := by
  have := (List.getElem?_eq_some_iff.1 hi).1; omega

def refW (w : World) : World :=
  (((((w.alloc (.cells #[.string nNet, .string nStore] 9)).alloc (.cells #[.string nClock] 9)).alloc (.cells #[.string nLog, .string nStore] 9)).alloc (.cells #[.string nNet] 9)).alloc (.cells #[.string nLog] 9)).alloc
    (.cells #[.string nAdmin, sl w.heap.size 2, .string nClock, .slice none 0 0, .string nLog, sl (w.heap.size + 1) 1, .string nNet, sl (w.heap.size + 1 + 1) 2, .string nPeers, sl (w.heap.size + 1 + 1 + 1) 1, .string nStore, sl (w.heap.size + 1 + 1 + 1 + 1) 1] 29)
theorem below_al (w : World) (o : Obj) : Below w.heap.size w (w.alloc o) := (Below.refl _ _).alloc (Nat.le_refl _) _
theorem new_at {w : World} {n : Nat} (h : w.heap.size = n) (o : Obj) : (w.alloc o).heap[n]? = some o := by subst h; exact heap_alloc_new w o
set_option maxRecDepth 100000 in
theorem refStd_any (w : World) : Calls Try.prog 7 #[] w fun e w' => ∃ v, e = .returned v ∧ HooksAt w' v stdL ∧ Below w.heap.size w w' := by
  have hw : HooksAt (refW w) (sl (w.heap.size + 1 + 1 + 1 + 1 + 1) 6) stdL ∧ Below w.heap.size w (refW w) := by
    have b0 : (refW w).heap[w.heap.size]? = some (.cells #[.string nNet, .string nStore] 9 (0, 0)) := heap_al (heap_al (heap_al (heap_al (heap_al (heap_alloc_new w _) _) _) _) _) _
    have b1 : (refW w).heap[w.heap.size + 1]? = some (.cells #[.string nClock] 9 (0, 0)) := heap_al (heap_al (heap_al (heap_al (new_at (by simp) _) _) _) _) _
    have b2 : (refW w).heap[w.heap.size + 1 + 1]? = some (.cells #[.string nLog, .string nStore] 9 (0, 0)) := heap_al (heap_al (heap_al (new_at (by simp) _) _) _) _
    have b3 : (refW w).heap[w.heap.size + 1 + 1 + 1]? = some (.cells #[.string nNet] 9 (0, 0)) := heap_al (heap_al (new_at (by simp) _) _) _
    have b4 : (refW w).heap[w.heap.size + 1 + 1 + 1 + 1]? = some (.cells #[.string nLog] 9 (0, 0)) := heap_al (new_at (by simp) _) _
    have b5 : (refW w).heap[w.heap.size + 1 + 1 + 1 + 1 + 1]? = some (.cells #[.string nAdmin, sl w.heap.size 2, .string nClock, .slice none 0 0, .string nLog, sl (w.heap.size + 1) 1, .string nNet, sl (w.heap.size + 1 + 1) 2, .string nPeers, sl (w.heap.size + 1 + 1 + 1) 1, .string nStore, sl (w.heap.size + 1 + 1 + 1 + 1) 1] 29 (0, 0)) := new_at (by simp) _
    have hB : Below w.heap.size w (refW w) := by
      unfold refW
      refine Below.alloc (Below.alloc (Below.alloc (Below.alloc (Below.alloc (below_al w _) ?_ _) ?_ _) ?_ _) ?_ _) ?_ _ <;> simp only [World.size_alloc] <;> omega
    generalize refW w = W at *
    refine ⟨HooksAt.of_block (l := stdL) b5 fun i x hi => ?_, hB⟩
    have hi6 := six_cases rfl hi
    rcases (show i = 0 ∨ i = 1 ∨ i = 2 ∨ i = 3 ∨ i = 4 ∨ i = 5 by omega) with rfl | rfl | rfl | rfl | rfl | rfl
    · obtain rfl := Option.some.inj hi.symm
      exact ⟨_, rfl, rfl, strs_block (l := [nNet, nStore]) b0⟩
    · obtain rfl := Option.some.inj hi.symm
      exact ⟨_, rfl, rfl, StrsAt.nil _⟩
    · obtain rfl := Option.some.inj hi.symm
      exact ⟨_, rfl, rfl, strs_block (l := [nClock]) b1⟩
    · obtain rfl := Option.some.inj hi.symm
      exact ⟨_, rfl, rfl, strs_block (l := [nLog, nStore]) b2⟩
    · obtain rfl := Option.some.inj hi.symm
      exact ⟨_, rfl, rfl, strs_block (l := [nNet]) b3⟩
    · obtain rfl := Option.some.inj hi.symm
      exact ⟨_, rfl, rfl, strs_block (l := [nLog]) b4⟩
  have HW := Lib.hid hw
  clear hw
  go_enter Try.func7, Try.ntmps7
  go_wp2_with fail
  go_ret
  exact ⟨_, rfl, HW.out.1, HW.out.2⟩
end Go.Proofs.Ytkbamhecbfocbaa.hk
