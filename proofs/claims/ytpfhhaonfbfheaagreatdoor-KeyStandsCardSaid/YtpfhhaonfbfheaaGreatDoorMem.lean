/- Laws on memory for any program: which old blocks a call may have turned, and that what is read elsewhere stays. No program in sight; no conditions beside those stated. -/
import Derived.Below
import Derived.Deep.Draws
import Derived.OneCell
import Derived.Lib.Hide
namespace Go.Proofs.YtpfhhaonfbfheaaGreatDoor
open Go.RowKit

/-- No old block outside S has turned. -/
structure Upd (S : List Nat) (w w' : World) : Prop where
  os : w'.os = w.os
  tape : w'.tape = w.tape
  output : w'.output = w.output
  size : w.heap.size ≤ w'.heap.size
  block : ∀ k, k < w.heap.size → k ∉ S → w'.heap[k]? = w.heap[k]?

namespace Upd
variable {S T : List Nat} {a b c w w' : World}
theorem refl (S : List Nat) (w : World) : Upd S w w := ⟨rfl, rfl, rfl, Nat.le_refl _, fun _ _ _ => rfl⟩
theorem of_below (h : Below w.heap.size w w') (S : List Nat) : Upd S w w' := ⟨h.os, h.tape, h.output, h.size, fun k hk _ => h.block k hk⟩
theorem of_grown {row : Option Nat} (h : w.grownBy w' row) (hr : ∀ k, row = some k → k ∈ S) : Upd S w w' :=
  ⟨h.os, h.tape, h.output, h.size, fun k hk hn => h.block k hk fun e => hn (hr k e.symm)⟩
theorem trans (h : Upd S a b) (h2 : Upd T b c) (hT : ∀ k ∈ T, k ∈ S ∨ a.heap.size ≤ k) : Upd S a c :=
  ⟨h2.os.trans h.os, h2.tape.trans h.tape, h2.output.trans h.output, Nat.le_trans h.size h2.size, fun k hk hn =>
    (h2.block k (Nat.lt_of_lt_of_le hk h.size) fun e => by rcases hT k e with h' | h'; exact hn h'; omega).trans (h.block k hk hn)⟩
theorem mono (h : Upd S w w') (hT : ∀ k ∈ S, k ∈ T) : Upd T w w' := ⟨h.os, h.tape, h.output, h.size, fun k hk hn => h.block k hk fun e => hn (hT k e)⟩
theorem drew (h : Upd S a w) : Upd S a w.drew := ⟨h.os, h.tape, h.output, h.size, h.block⟩
theorem drewN (h : Upd S a w) (n : Nat) : Upd S a (w.drewN n) := ⟨h.os, h.tape, h.output, h.size, h.block⟩
theorem alloc (h : Upd S a w) (o : Obj) : Upd S a (w.alloc o) :=
  h.trans (T := []) ⟨rfl, rfl, rfl, by simp, fun k hk _ => Below.heap_alloc _ _ _ hk⟩ (by simp)
theorem setCell (h : Upd S a w) {p : Addr} (hp : p.block ∈ S ∨ a.heap.size ≤ p.block) (u : Value) : Upd S a (w.setCell p u) :=
  ⟨h.os, h.tape, h.output, by simpa [World.setCell] using h.size, fun k hk hn => (Below.heap_setCell w p u k (by
    rintro rfl
    rcases hp with h' | h'
    · exact hn h'
    · omega)).trans (h.block k hk hn)⟩
theorem grown {row : Option Nat} (h : Upd S a w) (hg : w.grownBy w' row) (hr : ∀ k, row = some k → k ∈ S ∨ a.heap.size ≤ k) : Upd S a w' :=
  ⟨hg.os.trans h.os, hg.tape.trans h.tape, hg.output.trans h.output, Nat.le_trans h.size hg.size, fun k hk hn => (hg.block k (Nat.lt_of_lt_of_le hk h.size) (by
    intro e
    rcases hr k e.symm with h' | h'
    · exact hn h'
    · omega)).trans (h.block k hk hn)⟩
theorem then_below (h : Upd S a w) (hb : Below w.heap.size w w') : Upd S a w' := h.trans (T := []) (of_below hb []) (by simp)
theorem below (h : Upd S w w') {B : Nat} (hS : ∀ k ∈ S, B ≤ k) (hB : B ≤ w.heap.size) : Below B w w' :=
  ⟨h.os, h.tape, h.output, h.size, fun k hk => h.block k (Nat.lt_of_lt_of_le hk hB) fun e => by have := hS k e; omega⟩
theorem cell (h : Upd S w w') {p : Addr} (hp : p.block < w.heap.size) (hn : p.block ∉ S) : w'.cell? p = w.cell? p := World.cell?_of_block (h.block _ hp hn)
theorem frozen (h : Upd S w w') {p : Addr} (hp : p.block < w.heap.size) (hn : p.block ∉ S) : w'.frozen? p = w.frozen? p := World.frozen?_of_block (h.block _ hp hn)
theorem obj (h : Upd S w w') {k : Nat} {o : Obj} (ho : w.heap[k]? = some o) (hn : k ∉ S) : w'.heap[k]? = some o := (h.block k (lt_of_block ho) hn).trans ho
theorem row (h : Upd S w w') {base n size : Nat} {e : TypeId} {v : Value} {xs : List Value} (ho : w.ownsRow base e size v n xs) (hn : ∀ g, v.ownBlock = some g → g ∉ S) : w'.ownsRow base e size v n xs := by
  refine ⟨ho.1, ?_⟩
  rcases ho.2 with h2 | ⟨g, cap, cur, rfl, hb, hg, r⟩
  · exact .inl h2
  · exact .inr ⟨g, cap, cur, rfl, hb, h.obj hg (hn g rfl), r⟩
end Upd

/-- A call may turn S alone; what it leaves lies in S and in new blocks. -/
def Moves (S : List Nat) (w w' : World) (R : List Nat → Prop) : Prop := ∃ S', R S' ∧ Upd S w w' ∧ ∀ k ∈ S', k ∈ S ∨ w.heap.size ≤ k
def Apart (S T : List Nat) : Prop := ∀ k ∈ S, k ∉ T
theorem Apart.symm {S T : List Nat} (h : Apart S T) : Apart T S := fun k hk hn => h k hn hk
theorem Apart.moved {S S' T : List Nat} {w : World} (h : Apart S T) (hT : ∀ k ∈ T, k < w.heap.size) (hS : ∀ k ∈ S', k ∈ S ∨ w.heap.size ≤ k) : Apart S' T := by
  intro k hk hn
  rcases hS k hk with h' | h'
  · exact h k h' hn
  · have := hT k hn; omega
theorem Apart.new {S T : List Nat} {w : World} (hT : ∀ k ∈ T, k < w.heap.size) (hS : ∀ k ∈ S, w.heap.size ≤ k) : Apart S T := by
  intro k hk hn
  have := hS k hk
  have := hT k hn
  omega

theorem ne_of_types {w : World} {a b : Nat} {c d : Array Value} {s t : TypeId} {f g : Nat × Nat} (ha : w.heap[a]? = some (.cells c s f)) (hb : w.heap[b]? = some (.cells d t g)) (h : s ≠ t) : a ≠ b := by
  rintro rfl
  rw [ha] at hb
  cases hb
  exact h rfl
theorem cell_in {w : World} {b o : Nat} {c : Array Value} {t : TypeId} {f : Nat × Nat} (h : w.heap[b]? = some (.cells c t f)) : w.cell? ⟨b, o, none⟩ = c[o]? := by simp [World.cell?, h]
theorem free_in {w : World} {b o : Nat} {c : Array Value} {t : TypeId} (h : w.heap[b]? = some (.cells c t (0, 0))) : w.frozen? ⟨b, o, none⟩ = false := by simp [World.frozen?, h]
theorem heap_set {w : World} {b o : Nat} {c : Array Value} {t : TypeId} {f : Nat × Nat} (h : w.heap[b]? = some (.cells c t f)) (u : Value) : (w.setCell ⟨b, o, none⟩ u).heap[b]? = some (.cells (c.setIfInBounds o u) t f) := by
  have hlt := lt_of_block h
  have h' : w.heap[b] = .cells c t f := by simpa [Array.getElem?_eq_getElem hlt] using h
  show (w.heap.modify b _)[b]? = _
  rw [Array.getElem?_eq_getElem (by simpa using hlt), Array.getElem_modify_self, h']
  rfl
theorem heap_set_ne {w : World} {k : Nat} {p : Addr} {o : Obj} (h : w.heap[k]? = some o) (u : Value) (hne : k ≠ p.block) : (w.setCell p u).heap[k]? = some o := (Below.heap_setCell w p u k hne).trans h
theorem heap_al {w : World} {k : Nat} {o : Obj} (h : w.heap[k]? = some o) (o' : Obj) : (w.alloc o').heap[k]? = some o := (Below.heap_alloc w o' k (lt_of_block h)).trans h
end Go.Proofs.YtpfhhaonfbfheaaGreatDoor
