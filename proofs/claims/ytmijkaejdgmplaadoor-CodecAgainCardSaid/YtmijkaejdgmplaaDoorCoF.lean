/- What a Writer of package codec and the document's Writer are in memory; what a call leaves of them. Laws on memory alone: no walk. No conditions beside those stated. -/
import Derived.Test.YtmijkaejdgmplaaDoorCoR
import Derived.Test.YtmijkaejdgmplaaDoorLib3
import Derived.Test.YtmijkaejdgmplaaDoorMem
namespace Go.Proofs.YtmijkaejdgmplaaDoor.co
open Go.RowKit

/-- An error value whose number is e (0: none). -/
def ErrAt (w : World) (S : List Nat) (v : Value) (e : Int) : Prop :=
  (e = 0 ∧ v = .nilIface) ∨ (e ≠ 0 ∧ ∃ p, v = .iface 77 (.pointer (some ⟨p, 0, none⟩)) ∧ w.heap[p]? = some (.cells #[.int .i64 e] 79 (0, 0)) ∧ p ∈ S)
theorem ErrAt.kept {w w' : World} {S T : List Nat} {v : Value} {e : Int} (h : ErrAt w S v e) (hu : Upd T w w') (hp : ∀ p ∈ S, v = .iface 77 (.pointer (some ⟨p, 0, none⟩)) → p ∉ T) : ErrAt w' S v e := by
  rcases h with h | ⟨h0, p, h1, h2, h3⟩
  · exact .inl h
  · exact .inr ⟨h0, p, h1, hu.obj h2 (hp p h3 h1), h3⟩
theorem ErrAt.more {w : World} {S T : List Nat} {v : Value} {e : Int} (h : ErrAt w S v e) (hS : ∀ k ∈ S, k ∈ T) : ErrAt w T v e := by
  rcases h with h | ⟨h0, p, h1, h2, h3⟩
  · exact .inl h
  · exact .inr ⟨h0, p, h1, h2, hS p h3⟩

/-- The Writer at block b: what it holds; S: the blocks that it reads. -/
structure IsW (w : World) (b : Nat) (s : Wst) (S : List Nat) : Prop where
  at_ : ∃ v ev, w.heap[b]? = some (.cells #[v, .int .i64 s.most, ev] 66 (0, 0)) ∧ w.ownsRow 0 5 1 v s.out.length (bv s.out) ∧ ErrAt w S ev s.err ∧ ∀ g, v.ownBlock = some g → g ∈ S
  mem : b ∈ S
  lt : ∀ k ∈ S, k < w.heap.size
structure IsX (w : World) (b : Nat) (s : Wst) (S : List Nat) : Prop where
  at_ : ∃ v, w.heap[b]? = some (.cells #[.int .i64 s.most, v, .int .i64 s.err] 68 (0, 0)) ∧ w.ownsRow 0 5 1 v s.out.length (bv s.out) ∧ ∀ g, v.ownBlock = some g → g ∈ S
  mem : b ∈ S
  lt : ∀ k ∈ S, k < w.heap.size

theorem IsW.kept {w w' : World} {b : Nat} {s : Wst} {S T : List Nat} (h : IsW w b s S) (hu : Upd T w w') (ha : Apart S T) : IsW w' b s S := by
  obtain ⟨v, ev, h1, h2, h3, h4⟩ := h.at_
  exact ⟨⟨v, ev, hu.obj h1 (ha b h.mem), hu.row h2 fun g hg => ha g (h4 g hg), h3.kept hu fun p hp _ => ha p hp, h4⟩, h.mem, fun k hk => Nat.lt_of_lt_of_le (h.lt k hk) hu.size⟩
theorem IsX.kept {w w' : World} {b : Nat} {s : Wst} {S T : List Nat} (h : IsX w b s S) (hu : Upd T w w') (ha : Apart S T) : IsX w' b s S := by
  obtain ⟨v, h1, h2, h3⟩ := h.at_
  exact ⟨⟨v, hu.obj h1 (ha b h.mem), hu.row h2 fun g hg => ha g (h3 g hg), h3⟩, h.mem, fun k hk => Nat.lt_of_lt_of_le (h.lt k hk) hu.size⟩
theorem IsW.below {w w' : World} {b : Nat} {s : Wst} {S : List Nat} (h : IsW w b s S) (hb : Below w.heap.size w w') : IsW w' b s S := h.kept (T := []) (Upd.of_below hb []) (by intro k _; simp)
theorem IsX.below {w w' : World} {b : Nat} {s : Wst} {S : List Nat} (h : IsX w b s S) (hb : Below w.heap.size w w') : IsX w' b s S := h.kept (T := []) (Upd.of_below hb []) (by intro k _; simp)

theorem own_type {w : World} {v : Value} {n : Nat} {xs : List Value} {e : TypeId} {base : Nat} (h : w.ownsRow base e 1 v n xs) {g : Nat} (hg : v.ownBlock = some g) : ∃ cs, w.heap[g]? = some (.cells cs e (0, 0)) := by
  rcases h.2 with ⟨rfl, _⟩ | ⟨g', cap, cur, rfl, _, hgg, _⟩
  · cases hg
  · simp only [Value.ownBlock, Option.some.injEq] at hg
    subst hg
    exact ⟨_, hgg⟩
theorem own_base {w : World} {v : Value} {n : Nat} {xs : List Value} {e : TypeId} {base : Nat} (h : w.ownsRow base e 1 v n xs) : w.ownsRow 0 e 1 v n xs := by
  refine ⟨h.1, ?_⟩
  rcases h.2 with h2 | ⟨g, cap, cur, hv, _, r⟩
  · exact .inl h2
  · exact .inr ⟨g, cap, cur, hv, Nat.zero_le _, r⟩
theorem own_cells {w : World} {base g n cap : Nat} {e : TypeId} {xs : List Value} (h : w.ownsRow base e 1 (.slice (some ⟨g, 0, none⟩) n cap) n xs) : ∀ j u, xs[j]? = some u → w.cell? ((⟨g, 0, none⟩ : Addr).add j) = some u := h.cells (g := g) rfl

/-- Behind an error's being laid down. -/
theorem IsW.fail {w : World} {b : Nat} {s : Wst} {S : List Nat} (h : IsW w b s S) (h0 : s.err = 0) (e : Int) (he : e ≠ 0) :
    Moves S w ((w.setCell ⟨b, 2, none⟩ (.iface 77 (.pointer (some ⟨w.heap.size, 0, none⟩)))).alloc (.cells #[.int .i64 e] 79)) (IsW ((w.setCell ⟨b, 2, none⟩ (.iface 77 (.pointer (some ⟨w.heap.size, 0, none⟩)))).alloc (.cells #[.int .i64 e] 79)) b (s.fails e)) := by
  obtain ⟨v, ev, h1, h2, _, h4⟩ := h.at_
  have hlt := lt_of_block h1
  refine ⟨w.heap.size :: S, ?_, ((Upd.refl _ _).setCell (.inl h.mem) _).alloc _, fun k hk => ?_⟩
  · unfold Wst.fails
    rw [if_pos h0]
    refine ⟨⟨v, _, ?_, ?_, .inr ⟨he, w.heap.size, rfl, ?_, by simp⟩, fun g hg => by simp [h4 g hg]⟩, by simp [h.mem], fun k hk => ?_⟩
    · have := heap_al (heap_set (o := 2) h1 (.iface 77 (.pointer (some ⟨w.heap.size, 0, none⟩)))) (.cells #[.int .i64 e] 79)
      simpa using this
    · refine (ownsRow_setCell_other h2 ?_ _).alloc _
      intro hg
      obtain ⟨cs, hcs⟩ := own_type h2 hg
      exact ne_of_types hcs h1 (by decide) rfl
    · have := heap_alloc_new (w.setCell ⟨b, 2, none⟩ (.iface 77 (.pointer (some ⟨w.heap.size, 0, none⟩)))) (.cells #[.int .i64 e] 79)
      simpa only [World.size_setCell] using this
    · simp only [List.mem_cons] at hk
      simp only [World.size_setCell, World.size_alloc]
      rcases hk with rfl | hk
      · omega
      · have := h.lt k hk; omega
  · simp only [List.mem_cons] at hk
    rcases hk with rfl | hk
    · exact .inr (Nat.le_refl _)
    · exact .inl hk

/-- Behind bytes' being laid down: the new row is stored in the Writer. -/
theorem IsW.laid {w w1 : World} {b : Nat} {s : Wst} {S : List Nat} {v v' ev : Value} {l : List UInt8} (h : IsW w b s S) (h0 : s.err = 0) (hr : s.out.length + l.length ≤ s.most)
    (h1 : w.heap[b]? = some (.cells #[v, .int .i64 s.most, ev] 66 (0, 0))) (hev : ErrAt w S ev s.err)
    (hown : w1.ownsRow 0 5 1 v' (s.out.length + l.length) (bv (s.out ++ l))) (hu : Upd S w w1) (hw : w1.heap[b]? = w.heap[b]?) (hat : ∀ g, v'.ownBlock = some g → g ∈ S ∨ w.heap.size ≤ g) :
    Moves S w (w1.setCell ⟨b, 0, none⟩ v') (IsW (w1.setCell ⟨b, 0, none⟩ v') b (s.lay l)) := by
  have hlt := lt_of_block h1
  rw [h0] at hev
  obtain rfl : ev = .nilIface := by
    rcases hev with ⟨_, h⟩ | ⟨h, _⟩
    · exact h
    · exact absurd rfl h
  rw [h1] at hw
  have hne : v'.ownBlock ≠ some b := by
    intro hg
    obtain ⟨cs, hcs⟩ := own_type hown hg
    exact ne_of_types hcs hw (by decide) rfl
  have hlay : s.lay l = { s with out := s.out ++ l } := by unfold Wst.lay; rw [if_pos h0, if_neg (by omega)]
  have hS : ∀ k ∈ S, k < w1.heap.size := fun k hk => Nat.lt_of_lt_of_le (h.lt k hk) hu.size
  refine ⟨S ++ v'.ownBlock.toList, ?_, hu.setCell (.inl h.mem) _, fun k hk => ?_⟩
  · rw [hlay]
    refine ⟨⟨v', .nilIface, ?_, ?_, .inl ⟨h0, rfl⟩, fun g hg => by simp [hg]⟩, by simp [h.mem], fun k hk => ?_⟩
    · have := heap_set (o := 0) hw v'
      simpa using this
    · have := ownsRow_setCell_other (a := ⟨b, 0, none⟩) hown hne v'
      simpa using this
    · simp only [World.size_setCell]
      simp only [List.mem_append, Option.mem_toList] at hk
      rcases hk with hk | hk
      · exact hS k hk
      · obtain ⟨cs, hcs⟩ := own_type hown hk
        exact lt_of_block hcs
  · simp only [List.mem_append, Option.mem_toList] at hk
    rcases hk with hk | hk
    · exact .inl hk
    · exact hat k hk
end Go.Proofs.YtmijkaejdgmplaaDoor.co
