/- hook.sorted of the six services, hook.Standard: a list of its own, as the document has it. No conditions. -/
import Derived.Test.YtkbamhecbfocbaaHkS
namespace Go.Proofs.Ytkbamhecbfocbaa.hk
open Go.RowKit Go.Sort Go.Lib

/-- Strings, a list of services, in blocks from B on that are nobody else's. -/
def OwnStrs (w : World) (B : Nat) (v : Value) (l : List ByteArray) : Prop :=
  (v = .slice none 0 0 ∧ l = []) ∨ ∃ n cs, v = sl n l.length ∧ B ≤ n ∧ w.heap[n]? = some (.cells cs 9 (0, 0)) ∧ l.length ≤ cs.size ∧ ∀ (j : Nat) (s : ByteArray), l[j]? = some s → cs[j]? = some (Value.string s)
def OwnHooks (w : World) (B : Nat) (v : Value) (l : List HookD) : Prop :=
  ∃ g cs, v = sl g l.length ∧ B ≤ g ∧ w.heap[g]? = some (.cells cs 29 (0, 0)) ∧ l.length * 2 ≤ cs.size ∧ ∀ (i : Nat) (x : HookD), l[i]? = some x → cs[i * 2]? = some (Value.string x.name) ∧ ∃ nv, cs[i * 2 + 1]? = some nv ∧ OwnStrs w B nv x.needs
theorem OwnStrs.reads {w : World} {B : Nat} {v : Value} {l : List ByteArray} (h : OwnStrs w B v l) : StrsAt w v l := by
  rcases h with ⟨rfl, rfl⟩ | ⟨n, cs, rfl, _, h2, _, h3⟩
  · exact StrsAt.nil w
  · exact StrsAt.of_block h2 h3
theorem OwnHooks.reads {w : World} {B : Nat} {v : Value} {l : List HookD} (h : OwnHooks w B v l) : HooksAt w v l := by
  obtain ⟨g, cs, rfl, _, h2, _, h3⟩ := h
  refine HooksAt.of_block h2 fun i x hi => ?_
  obtain ⟨h4, nv, h5, h6⟩ := h3 i x hi
  exact ⟨nv, h4, h5, h6.reads⟩
theorem OwnStrs.mono {w : World} {B B' : Nat} {v : Value} {l : List ByteArray} (h : OwnStrs w B v l) (hB : B' ≤ B) : OwnStrs w B' v l := by
  rcases h with h | ⟨n, cs, h1, h2, h3⟩
  · exact .inl h
  · exact .inr ⟨n, cs, h1, Nat.le_trans hB h2, h3⟩
theorem OwnHooks.mono {w : World} {B B' : Nat} {v : Value} {l : List HookD} (h : OwnHooks w B v l) (hB : B' ≤ B) : OwnHooks w B' v l := by
  obtain ⟨g, cs, h1, h2, h3, h4, h5⟩ := h
  refine ⟨g, cs, h1, Nat.le_trans hB h2, h3, h4, fun i x hi => ?_⟩
  obtain ⟨h6, nv, h7, h8⟩ := h5 i x hi
  exact ⟨h6, nv, h7, h8.mono hB⟩
theorem OwnStrs.below {w w' : World} {B : Nat} {v : Value} {l : List ByteArray} (h : OwnStrs w B v l) (hb : Below w.heap.size w w') : OwnStrs w' B v l := by
  rcases h with h | ⟨n, cs, h1, h2, h3, h4⟩
  · exact .inl h
  · exact .inr ⟨n, cs, h1, h2, (hb.block n (lt_of_block h3)).trans h3, h4⟩
theorem OwnStrs.set {w : World} {B g : Nat} {v : Value} {l : List ByteArray} {c : Array Value} {o : Nat} {u : Value} (h : OwnStrs w B v l) (hg : w.heap[g]? = some (.cells c 29 (0, 0))) : OwnStrs (w.setCell ⟨g, o, none⟩ u) B v l := by
  rcases h with h | ⟨n, cs, h1, h2, h3, h4⟩
  · exact .inl h
  · exact .inr ⟨n, cs, h1, h2, heap_set_ne h3 u (ne_of_types h3 hg (by decide)), h4⟩

/-- What stands at place i ahead of the copying. -/
def srcV (u l : Nat) : Nat → Value
  | 0 => sl (u + 1 + 1) 2
  | 1 => .slice none 0 0
  | 2 => sl l 1
  | 3 => sl u 2
  | 4 => sl (u + 1) 1
  | _ => sl (l + 1) 1
structure Srcs (w : World) (u l : Nat) : Prop where
  b0 : w.heap[u]? = some (.cells #[.string nLog, .string nStore] 9 (0, 0))
  b1 : w.heap[u + 1]? = some (.cells #[.string nNet] 9 (0, 0))
  b2 : w.heap[u + 1 + 1]? = some (.cells #[.string nNet, .string nStore] 9 (0, 0))
  c0 : w.heap[l]? = some (.cells #[.string nClock] 9 (0, 0))
  c1 : w.heap[l + 1]? = some (.cells #[.string nLog] 9 (0, 0))
theorem Srcs.below {w w' : World} {u l : Nat} (h : Srcs w u l) (hb : Below w.heap.size w w') : Srcs w' u l :=
  ⟨(hb.block _ (lt_of_block h.b0)).trans h.b0, (hb.block _ (lt_of_block h.b1)).trans h.b1, (hb.block _ (lt_of_block h.b2)).trans h.b2, (hb.block _ (lt_of_block h.c0)).trans h.c0, (hb.block _ (lt_of_block h.c1)).trans h.c1⟩
/-- A slice that is nil, or all of a block's strings. -/
theorem Srcs.at_ {w : World} {u l : Nat} (h : Srcs w u l) {k : Nat} {x : HookD} (hk : stdL[k]? = some x) : (srcV u l k = .slice none 0 0 ∧ x.needs = []) ∨ ∃ n, srcV u l k = sl n x.needs.length ∧ 0 < x.needs.length ∧ x.needs.length ≤ 2 ∧ w.heap[n]? = some (.cells (x.needs.map Value.string).toArray 9 (0, 0)) := by
  have h6 := six_cases (l := stdL) rfl hk
  rcases (show k = 0 ∨ k = 1 ∨ k = 2 ∨ k = 3 ∨ k = 4 ∨ k = 5 by omega) with rfl | rfl | rfl | rfl | rfl | rfl
  · obtain rfl := Option.some.inj hk.symm; exact .inr ⟨_, rfl, by decide, by decide, h.b2⟩
  · obtain rfl := Option.some.inj hk.symm; exact .inl ⟨rfl, rfl⟩
  · obtain rfl := Option.some.inj hk.symm; exact .inr ⟨_, rfl, by decide, by decide, h.c0⟩
  · obtain rfl := Option.some.inj hk.symm; exact .inr ⟨_, rfl, by decide, by decide, h.b0⟩
  · obtain rfl := Option.some.inj hk.symm; exact .inr ⟨_, rfl, by decide, by decide, h.b1⟩
  · obtain rfl := Option.some.inj hk.symm; exact .inr ⟨_, rfl, by decide, by decide, h.c1⟩

/-- The row while the lists of needs are copied: done ahead of k. -/
def Part (w : World) (B g u l k : Nat) : Prop :=
  ∃ cs, w.heap[g]? = some (.cells cs 29 (0, 0)) ∧ 12 ≤ cs.size ∧ ∀ (i : Nat) (x : HookD), stdL[i]? = some x → cs[i * 2]? = some (Value.string x.name) ∧ (i < k → ∃ nv, cs[i * 2 + 1]? = some nv ∧ OwnStrs w B nv x.needs) ∧ (k ≤ i → cs[i * 2 + 1]? = some (srcV u l i))
theorem Part.below {w w' : World} {B g u l k : Nat} (h : Part w B g u l k) (hb : Below w.heap.size w w') : Part w' B g u l k := by
  obtain ⟨cs, h1, h2, h3⟩ := h
  refine ⟨cs, (hb.block _ (lt_of_block h1)).trans h1, h2, fun i x hi => ?_⟩
  obtain ⟨h4, h5, h6⟩ := h3 i x hi
  refine ⟨h4, fun hk => ?_, h6⟩
  obtain ⟨nv, h7, h8⟩ := h5 hk
  exact ⟨nv, h7, h8.below hb⟩
theorem Part.set {w : World} {B g u l k : Nat} {x : HookD} {nv : Value} (h : Part w B g u l k) (hk : stdL[k]? = some x) (hn : OwnStrs w B nv x.needs) : Part (w.setCell ⟨g, k * 2 + 1, none⟩ nv) B g u l (k + 1) := by
  obtain ⟨cs, h1, h2, h3⟩ := h
  have hk6 := six_cases (l := stdL) rfl hk
  refine ⟨_, heap_set h1 nv, by simpa using h2, fun i y hi => ?_⟩
  obtain ⟨h4, h5, h6⟩ := h3 i y hi
  have hi6 := six_cases (l := stdL) rfl hi
  refine ⟨?_, fun hlt => ?_, fun hge => ?_⟩
  · rw [Array.getElem?_setIfInBounds_ne (by omega)]; exact h4
  · by_cases he : i = k
    · subst he
      rw [hk] at hi
      obtain rfl := Option.some.inj hi
      exact ⟨nv, Array.getElem?_setIfInBounds_self_of_lt (by omega), hn.set h1⟩
    · obtain ⟨nv', h7, h8⟩ := h5 (by omega)
      exact ⟨nv', by rw [Array.getElem?_setIfInBounds_ne (by omega)]; exact h7, h8.set h1⟩
  · rw [Array.getElem?_setIfInBounds_ne (by omega)]
    exact h6 (by omega)
theorem Part.done {w : World} {B g u l : Nat} (hB : B ≤ g) (h : Part w B g u l 6) : OwnHooks w B (sl g 6) stdL := by
  obtain ⟨cs, h1, h2, h3⟩ := h
  refine ⟨g, cs, rfl, hB, h1, h2, fun i x hi => ?_⟩
  obtain ⟨h4, h5, _⟩ := h3 i x hi
  exact ⟨h4, h5 (six_cases (l := stdL) rfl hi)⟩
end Go.Proofs.Ytkbamhecbfocbaa.hk
