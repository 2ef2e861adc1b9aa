/- Laws and contracts on which the statement rests, part C: each text says what it proves, and its conditions. -/
import Derived.Test.YtbelnaiekbfoiaaGreatDoorMdB
import Derived.Deep.Upon
import Derived.Shelf.Spec.SlicesInsert
import Derived.Lib.AppendZerosOnto
import Derived.Laws.NewBlocks
import Derived.Deep.RegionLaw
import Derived.Laws.CopyOwn
import Derived.Test.YtbelnaiekbfoiaaGreatDoorShelf
import Derived.WalkKit
import Derived.Conc.MuLone
import Derived.Lib.Hide
import Derived.Shelf.SlicesE.Clone
import Derived.Deep.RegionHeld3
/- A law on memory for any program: an append of one struct that was just laid, to a row of such structs that the call owns. No conditions beside those stated. -/
namespace Go.Proofs.YtbelnaiekbfoiaaGreatDoor
open Go.RowKit
section
variable {P : Program}
/-- 'append(out, x)', x a struct of size cells. -/
theorem wpList_append_k {ops : Array Oper} {rest : List Oper} {o : Oper} {a : Act} {w : World} {Q : Exit → Act → World → Prop} (hgd : o.guard = none) (s x : Operand) (t : TypeId)
    (ho : o.op = .call { callee := .builtin .append, args := #[s, x], argTypes := #[t, t] })
    (e : TypeId) (i : TypeInfo) (z : Value) (size bytes : Nat) (ht : P.underlying t = some (.slice e)) (hi : P.info? e = some i) (hz : i.zero = some z)
    (hsize : i.size = size) (hby : i.bytes = bytes) (hzs : z.cells.size = size) (hsz : 0 < size) (cs : Array Value) (hx : a.eval x = .slice (some ⟨w.heap.size, 0, none⟩) 1 1) (hl : cs.size = size)
    (base : Nat) (v : Value) (n : Nat) (xs : List Value) (hs : a.eval s = v) (hown : w.ownsRow base e size v n xs)
    (h1 : ∀ u ∈ cs.toList, u.oneCell' = true) (h63 : n + 1 ≤ 9223372036854775807) (hbytes : (n + 1) * bytes ≤ 140737488355328) (hbase : base ≤ w.heap.size)
    (h : ∀ g cap w', w'.ownsRow base e size (.slice (some ⟨g, 0, none⟩) (n + 1) cap) (n + 1) (xs ++ cs.toList) → w.grownBy w' v.ownBlock → (v.ownBlock = some g ∨ w.heap.size ≤ g) → w.heap.size < w'.heap.size → g < w'.heap.size →
      wpList P ops Q rest (a.put o.dst (.slice (some ⟨g, 0, none⟩) (n + 1) cap)) w') :
    wpList P ops Q (o :: rest) a (w.alloc (.cells cs e)) := by
  refine wpList_append_lies (w.alloc (.cells cs e)) hgd s x t ho base e i z size bytes ht hi hz hsize hby hzs hsz v n xs hs (hown.alloc _) ⟨w.heap.size, 0, none⟩ 1 1 cs.toList hx (by simpa using hl)
    (World.news_of_block (heap_alloc_new w _)) h1 (by omega) (by unfold maxLen; omega) hbytes (by simp; omega) (w.heap.size + 1) (by simp) fun g cap w' h2 h3 h4 h5 => ?_
  refine h g cap w' h2 ⟨h3.os, h3.tape, h3.output, by have := h3.size; simp at this; omega, fun k hk hne => (h3.block k (by simp; omega) hne).trans (Below.heap_alloc w _ k hk)⟩ ?_ (by have := h3.size; simp at this; omega) h5
  rcases h4 with h4 | h4
  · exact .inl h4
  · exact .inr (by omega)
/-- The same at a step of a region that draws its order. -/
theorem step_append_k {ops : Array Oper} {o : Oper} {a : Act} {w : World} {K : Act → World → Prop} {Q : Exit → Act → World → Prop} {E : Prop} (hgd : o.guard = none) (s x : Operand) (t : TypeId)
    (ho : o.op = .call { callee := .builtin .append, args := #[s, x], argTypes := #[t, t] })
    (e : TypeId) (i : TypeInfo) (z : Value) (size bytes : Nat) (ht : P.underlying t = some (.slice e)) (hi : P.info? e = some i) (hz : i.zero = some z)
    (hsize : i.size = size) (hby : i.bytes = bytes) (hzs : z.cells.size = size) (hsz : 0 < size) (cs : Array Value) (hx : a.eval x = .slice (some ⟨w.heap.size, 0, none⟩) 1 1) (hl : cs.size = size)
    (base : Nat) (v : Value) (n : Nat) (xs : List Value) (hs : a.eval s = v) (hown : w.ownsRow base e size v n xs)
    (h1 : ∀ u ∈ cs.toList, u.oneCell' = true) (h63 : n + 1 ≤ 9223372036854775807) (hbytes : (n + 1) * bytes ≤ 140737488355328) (hbase : base ≤ w.heap.size)
    (h : ∀ g cap w', w'.ownsRow base e size (.slice (some ⟨g, 0, none⟩) (n + 1) cap) (n + 1) (xs ++ cs.toList) → w.grownBy w' v.ownBlock → (v.ownBlock = some g ∨ w.heap.size ≤ g) → w.heap.size < w'.heap.size → g < w'.heap.size →
      K (a.put o.dst (.slice (some ⟨g, 0, none⟩) (n + 1) cap)) w') :
    if Region.wanted o (yielded ops a.tmps) = true then Oper.wp P o a (w.alloc (.cells cs e)).drew K Q else E := by
  refine step_append_lies (w.alloc (.cells cs e)).drew hgd s x t ho base e i z size bytes ht hi hz hsize hby hzs hsz v n xs hs (hown.alloc _) ⟨w.heap.size, 0, none⟩ 1 1 cs.toList hx (by simpa using hl)
    (World.news_of_block (heap_alloc_new w _)) h1 (by omega) (by unfold maxLen; omega) hbytes (by simp; omega) (w.heap.size + 1) (by simp) fun g cap w' h2 h3 h4 h5 => ?_
  refine h g cap w' h2 ⟨h3.os, h3.tape, h3.output, by have := h3.size; simp at this; omega, fun k hk hne => (h3.block k (by simp; omega) hne).trans (Below.heap_alloc w _ k hk)⟩ ?_ (by have := h3.size; simp at this; omega) h5
  rcases h4 with h4 | h4
  · exact .inl h4
  · exact .inr (by omega)
/-- The same, behind a call. -/
theorem step_append_k0 {ops : Array Oper} {o : Oper} {a : Act} {w : World} {K : Act → World → Prop} {Q : Exit → Act → World → Prop} {E : Prop} (hgd : o.guard = none) (s x : Operand) (t : TypeId)
    (ho : o.op = .call { callee := .builtin .append, args := #[s, x], argTypes := #[t, t] })
    (e : TypeId) (i : TypeInfo) (z : Value) (size bytes : Nat) (ht : P.underlying t = some (.slice e)) (hi : P.info? e = some i) (hz : i.zero = some z)
    (hsize : i.size = size) (hby : i.bytes = bytes) (hzs : z.cells.size = size) (hsz : 0 < size) (cs : Array Value) (hx : a.eval x = .slice (some ⟨w.heap.size, 0, none⟩) 1 1) (hl : cs.size = size)
    (base : Nat) (v : Value) (n : Nat) (xs : List Value) (hs : a.eval s = v) (hown : w.ownsRow base e size v n xs)
    (h1 : ∀ u ∈ cs.toList, u.oneCell' = true) (h63 : n + 1 ≤ 9223372036854775807) (hbytes : (n + 1) * bytes ≤ 140737488355328) (hbase : base ≤ w.heap.size)
    (h : ∀ g cap w', w'.ownsRow base e size (.slice (some ⟨g, 0, none⟩) (n + 1) cap) (n + 1) (xs ++ cs.toList) → w.grownBy w' v.ownBlock → (v.ownBlock = some g ∨ w.heap.size ≤ g) → w.heap.size < w'.heap.size → g < w'.heap.size →
      K (a.put o.dst (.slice (some ⟨g, 0, none⟩) (n + 1) cap)) w') :
    if Region.wanted o (yielded ops a.tmps) = true then Oper.wp P o a (w.alloc (.cells cs e)) K Q else E := by
  refine step_append_lies (w.alloc (.cells cs e)) hgd s x t ho base e i z size bytes ht hi hz hsize hby hzs hsz v n xs hs (hown.alloc _) ⟨w.heap.size, 0, none⟩ 1 1 cs.toList hx (by simpa using hl)
    (World.news_of_block (heap_alloc_new w _)) h1 (by omega) (by unfold maxLen; omega) hbytes (by simp; omega) (w.heap.size + 1) (by simp) fun g cap w' h2 h3 h4 h5 => ?_
  refine h g cap w' h2 ⟨h3.os, h3.tape, h3.output, by have := h3.size; simp at this; omega, fun k hk hne => (h3.block k (by simp; omega) hne).trans (Below.heap_alloc w _ k hk)⟩ ?_ (by have := h3.size; simp at this; omega) h5
  rcases h4 with h4 | h4
  · exact .inl h4
  · exact .inr (by omega)
end
end Go.Proofs.YtbelnaiekbfoiaaGreatDoor
/- A law on memory for any program: the elements of any slice, none too, appended to a row that the call owns. No conditions beside those stated. -/
namespace Go.Proofs.YtbelnaiekbfoiaaGreatDoor
open Go.RowKit
/-- m elements of the cells news, readable at a slice value. -/
def SrcV (w : World) (y : Value) (m : Nat) (news : List Value) : Prop :=
  (m = 0 ∧ news = [] ∧ ∃ q c, y = .slice q 0 c) ∨ (0 < m ∧ ∃ ad c, y = .slice (some ad) m c ∧ ∀ j u, news[j]? = some u → w.cell? (ad.add j) = some u)
section
variable {P : Program}
theorem run_append_any (w : World) (t ty : TypeId) (base : Nat) (e : TypeId) (i : TypeInfo) (z : Value) (size bytes : Nat) (ht : P.underlying t = some (.slice e)) (hi : P.info? e = some i) (hz : i.zero = some z)
    (hsize : i.size = size) (hby : i.bytes = bytes) (hzs : z.cells.size = size) (hsz : 0 < size)
    (v : Value) (n : Nat) (xs : List Value) (hown : w.ownsRow base e size v n xs) (y : Value) (m : Nat) (news : List Value) (hy : SrcV w y m news) (hl : news.length = m * size) (h1 : ∀ u ∈ news, u.oneCell' = true)
    (h63 : n + m ≤ maxLen) (hbytes : (n + m) * bytes ≤ 140737488355328) (hbase : base ≤ w.heap.size) :
    ∃ p cap w', (Builtin.append_ #[t, t] ty #[v, y]).run P w = .ok (.slice p (n + m) cap) w' ∧
      w'.ownsRow base e size (.slice p (n + m) cap) (n + m) (xs ++ news) ∧ w.grownBy w' v.ownBlock := by
  rcases hy with ⟨rfl, rfl, q, c, rfl⟩ | ⟨hm, ad, c, rfl, hc⟩
  · have hf : ∃ p cap, v = .slice p n cap ∧ n ≤ cap := by
      rcases hown.2 with ⟨rfl, h0⟩ | ⟨g, cap, cur, rfl, _, _, hn, _⟩
      · exact ⟨none, 0, by rw [h0], by omega⟩
      · exact ⟨_, _, rfl, hn⟩
    obtain ⟨p, cap, rfl, hle⟩ := hf
    have hsrc : Src P i.size t (.slice q 0 c) 0 [] w := by
      cases q with
      | none => exact Src.ofNil w ht c
      | some ad => exact Src.ofSlice w ht ad 0 c [] (by simp) (fun j u h => by simp at h) (fun u h => by simp at h)
    refine ⟨p, cap, w, run_append_nothing w t t ty e i ht hi p n cap hle _ hsrc, by simpa using hown, ?_⟩
    exact ⟨rfl, rfl, rfl, Nat.le_refl _, fun _ _ _ => rfl⟩
  · obtain ⟨g, cap, w', hr, h2, h3, _, _⟩ := run_append_lies (P := P) w t ty base e i z size bytes ht hi hz hsize hby hzs hsz v n xs hown ad m c news hl hc h1 hm h63 hbytes hbase _ rfl
    exact ⟨_, cap, w', hr, h2, h3⟩
theorem wpList_append_any {ops : Array Oper} {rest : List Oper} {o : Oper} {a : Act} {w : World} {Q : Exit → Act → World → Prop} (hgd : o.guard = none) (s x : Operand) (t : TypeId)
    (ho : o.op = .call { callee := .builtin .append, args := #[s, x], argTypes := #[t, t] })
    (e : TypeId) (i : TypeInfo) (z : Value) (size bytes : Nat) (ht : P.underlying t = some (.slice e)) (hi : P.info? e = some i) (hz : i.zero = some z)
    (hsize : i.size = size) (hby : i.bytes = bytes) (hzs : z.cells.size = size) (hsz : 0 < size)
    (base : Nat) (v : Value) (n : Nat) (xs : List Value) (hs : a.eval s = v) (hown : w.ownsRow base e size v n xs) (y : Value) (m : Nat) (news : List Value) (hx : a.eval x = y) (hy : SrcV w y m news) (hl : news.length = m * size)
    (h1 : ∀ u ∈ news, u.oneCell' = true) (h63 : n + m ≤ 9223372036854775807) (hbytes : (n + m) * bytes ≤ 140737488355328) (hbase : base ≤ w.heap.size)
    (h : ∀ p cap w', w'.ownsRow base e size (.slice p (n + m) cap) (n + m) (xs ++ news) → w.grownBy w' v.ownBlock → wpList P ops Q rest (a.put o.dst (.slice p (n + m) cap)) w') :
    wpList P ops Q (o :: rest) a w := by
  refine wpList_plain hgd fun K hK => ?_
  obtain ⟨p, cap, w', hr, h2, h3⟩ := run_append_any (P := P) w t o.type base e i z size bytes ht hi hz hsize hby hzs hsz v n xs hown y m news hy hl h1 (by unfold maxLen; omega) hbytes hbase
  unfold Oper.wp execOp
  simp only [ho, resolve, invoke, builtin, Sem.run_bind, Sem.run_pure, Result.andThen_ok, List.map_toArray, List.map_cons, List.map_nil, hs, hx, hr]
  exact hK _ _ (h p cap w' h2 h3)
end
end Go.Proofs.YtbelnaiekbfoiaaGreatDoor
/- Laws on memory for any program: an append to a slice that lies at the head of a block, with room behind it or none. No program in sight; no conditions beside those stated. -/
namespace Go.Proofs.YtbelnaiekbfoiaaGreatDoor
open Go.RowKit ls
/-- A slice at the head of a block from M on: n elements of k cells, these cells. -/
def Blk (T : TypeId) (k M : Nat) (w : World) (v : Value) (n : Nat) (xs : List Value) : Prop :=
  xs.length = n * k ∧ ((v = .slice none 0 0 ∧ n = 0) ∨ ∃ g c cs, v = .slice (some ⟨g, 0, none⟩) n c ∧ n ≤ c ∧ M ≤ g ∧ w.heap[g]? = some (.cells cs T (0, 0)) ∧ c * k ≤ cs.size ∧ cs.toList.take (n * k) = xs)
/-- Each block of cells is one still, of as many cells. -/
def Sh (w w' : World) : Prop := ∀ (g : Nat) (cs : Array Value) (T : TypeId), w.heap[g]? = some (.cells cs T (0, 0)) → ∃ cs', w'.heap[g]? = some (.cells cs' T (0, 0)) ∧ cs'.size = cs.size
theorem Sh.refl (w : World) : Sh w w := fun _ cs _ h => ⟨cs, h, rfl⟩
theorem Sh.trans {a b c : World} (h : Sh a b) (h2 : Sh b c) : Sh a c := fun g cs T hg => by
  obtain ⟨c1, e1, e2⟩ := h g cs T hg
  obtain ⟨c2, e3, e4⟩ := h2 g c1 T e1
  exact ⟨c2, e3, e4.trans e2⟩
theorem Sh.of_below {w w' : World} (h : Below w.heap.size w w') : Sh w w' := fun g cs _ hg => ⟨cs, (h.block g (lt_of_block hg)).trans hg, rfl⟩
theorem Sh.alloc (w : World) (o : Obj) : Sh w (w.alloc o) := Sh.of_below ((Below.refl _ _).alloc (Nat.le_refl _) o)
theorem Sh.setCells {w : World} {b : Nat} {cs : Array Value} {T : TypeId} (hb : w.heap[b]? = some (.cells cs T (0, 0))) (o : Nat) (vs : List Value) : Sh w (w.setCells b o vs) := fun g c U hg => by
  by_cases h : g = b
  · subst h
    rw [hg] at hb
    cases hb
    exact ⟨_, heap_setCells vs w _ o hg, setR_size _ _ _⟩
  · exact ⟨c, (heap_setCells_ne h vs w o).trans hg, rfl⟩
theorem Sh.setCell {w : World} {b : Nat} {cs : Array Value} {T : TypeId} (hb : w.heap[b]? = some (.cells cs T (0, 0))) (o : Nat) (u : Value) : Sh w (w.setCell ⟨b, o, none⟩ u) := Sh.setCells hb o [u]
theorem Sh.of_none {w w' : World} (h : w.grownBy w' none) : Sh w w' := fun g cs _ hg => ⟨cs, (h.block g (lt_of_block hg) (by simp)).trans hg, rfl⟩
theorem Blk.of_own {T : TypeId} {k M : Nat} {w : World} {v : Value} {n : Nat} {xs : List Value} (h : w.ownsRow M T k v n xs) : Blk T k M w v n xs := by
  refine ⟨h.1, ?_⟩
  rcases h.2 with h | ⟨g, c, cs, e, h1, h2, h3, _, h5, h6⟩
  · exact .inl h
  · exact .inr ⟨g, c, cs, e, h3, h1, h2, by omega, h6⟩
theorem Blk.mono {T : TypeId} {k M M' : Nat} {w : World} {v : Value} {n : Nat} {xs : List Value} (h : Blk T k M w v n xs) (hM : M' ≤ M) : Blk T k M' w v n xs := by
  refine ⟨h.1, ?_⟩
  rcases h.2 with h | ⟨g, c, cs, e, h3, h1, h2⟩
  · exact .inl h
  · exact .inr ⟨g, c, cs, e, h3, by omega, h2⟩
theorem Blk.later {T : TypeId} {k M : Nat} {w w' : World} {v : Value} {n : Nat} {xs : List Value} (h : Blk T k M w v n xs) (hb : Below w.heap.size w w') : Blk T k M w' v n xs := by
  refine ⟨h.1, ?_⟩
  rcases h.2 with h | ⟨g, c, cs, e, h3, h1, h2, h4⟩
  · exact .inl h
  · exact .inr ⟨g, c, cs, e, h3, h1, (hb.block g (lt_of_block h2)).trans h2, h4⟩
/-- Whatever it holds. -/
theorem Blk.sh {T : TypeId} {k M : Nat} {w w' : World} {v : Value} {n : Nat} {xs : List Value} (h : Blk T k M w v n xs) (hs : Sh w w') : ∃ ys, Blk T k M w' v n ys := by
  obtain ⟨h0, h | ⟨g, c, cs, e, h3, h1, h2, h4, h5⟩⟩ := h
  · exact ⟨xs, h0, .inl h⟩
  · obtain ⟨cs', e1, e2⟩ := hs g cs T h2
    refine ⟨cs'.toList.take (n * k), ?_, .inr ⟨g, c, cs', e, h3, h1, e1, by omega, rfl⟩⟩
    rw [List.length_take, Array.length_toList, e2]
    have := Nat.mul_le_mul_right k h3
    omega
theorem Blk.form {T : TypeId} {k M : Nat} {w : World} {v : Value} {n : Nat} {xs : List Value} (h : Blk T k M w v n xs) : ∃ p c, v = .slice p n c := by
  rcases h.2 with ⟨rfl, rfl⟩ | ⟨g, c, cs, rfl, _⟩
  · exact ⟨_, _, rfl⟩
  · exact ⟨_, _, rfl⟩
theorem Blk.cell {T : TypeId} {k M : Nat} {w : World} {g c n : Nat} {xs : List Value} (h : Blk T k M w (.slice (some ⟨g, 0, none⟩) n c) n xs) {o : Nat} {u : Value} (hu : xs[o]? = some u) : w.cell? ⟨g, o, none⟩ = some u := by
  obtain ⟨_, ⟨h, _⟩ | ⟨g', c', cs, e, _, _, hb, _, ht⟩⟩ := h
  · cases h
  · cases e
    rw [cell_in hb, ← Array.getElem?_toList]
    rw [← ht, List.getElem?_take] at hu
    split at hu
    · exact hu
    · cases hu
theorem Blk.at_ {T : TypeId} {k M : Nat} {w : World} {p : Option Addr} {c n : Nat} {xs : List Value} (h : Blk T k M w (.slice p n c) n xs) (hn : 0 < n) : ∃ g cs, p = some ⟨g, 0, none⟩ ∧ M ≤ g ∧ n ≤ c ∧ w.heap[g]? = some (.cells cs T (0, 0)) ∧ c * k ≤ cs.size ∧ cs.toList.take (n * k) = xs := by
  obtain ⟨_, ⟨_, h⟩ | ⟨g, c', cs, e, h1, h2, hb, h3, ht⟩⟩ := h
  · omega
  · cases e
    exact ⟨g, cs, rfl, h2, h1, hb, h3, ht⟩
theorem take_setR {cs : Array Value} {n : Nat} {vs : List Value} (h : n + vs.length ≤ cs.size) : (setR cs n vs).toList.take (n + vs.length) = cs.toList.take n ++ vs := by
  have hc : cs.toList.length = cs.size := by simp
  have hc2 : (cs.toList.take n).length = n := by rw [List.length_take, hc]; omega
  refine List.ext_getElem? fun i => ?_
  by_cases h1 : i < n
  · rw [List.getElem?_take_of_lt (by omega), List.getElem?_append_left (by rw [hc2]; exact h1), List.getElem?_take_of_lt h1, Array.getElem?_toList, Array.getElem?_toList, setR_out vs cs n i (by omega)]
  · rw [List.getElem?_append_right (by omega), hc2]
    by_cases h2 : i < n + vs.length
    · rw [List.getElem?_take_of_lt h2, Array.getElem?_toList]
      have hv : vs[i - n]? = some (vs[i - n]'(by omega)) := List.getElem?_eq_getElem (by omega)
      have := setR_in vs cs n (by omega) (i - n) _ hv
      rw [show n + (i - n) = i by omega] at this
      rw [this, hv]
    · rw [List.getElem?_eq_none (by rw [List.length_take]; omega), List.getElem?_eq_none (by omega)]
section
variable {P : Program}
theorem run_append_blk (w : World) (t ty : TypeId) (M : Nat) (e : TypeId) (i : TypeInfo) (z : Value) (size bytes : Nat) (ht : P.underlying t = some (.slice e)) (hi : P.info? e = some i) (hz : i.zero = some z)
    (hsize : i.size = size) (hby : i.bytes = bytes) (hzs : z.cells.size = size) (hsz : 0 < size)
    (v : Value) (n : Nat) (xs : List Value) (hB : Blk e size M w v n xs) (y : Value) (m : Nat) (news : List Value) (hm : 0 < m) (hy : SrcV w y m news) (hl : news.length = m * size) (h1 : ∀ u ∈ news, u.oneCell' = true)
    (h63 : n + m ≤ maxLen) (hbytes : (n + m) * bytes ≤ 140737488355328) (hM : M ≤ w.heap.size) :
    ∃ p c w', (Builtin.append_ #[t, t] ty #[v, y]).run P w = .ok (.slice p (n + m) c) w' ∧ Blk e size M w' (.slice p (n + m) c) (n + m) (xs ++ news) ∧ w.grownBy w' v.ownBlock ∧ Sh w w' := by
  obtain ⟨h0, ⟨rfl, rfl⟩ | ⟨g, c, cs, rfl, hnc, hMg, hb, hcs, htake⟩⟩ := hB
  · obtain ⟨p, cap, w', hr, h2, h3⟩ := run_append_any (P := P) w t ty M e i z size bytes ht hi hz hsize hby hzs hsz (.slice none 0 0) 0 xs ⟨h0, .inl ⟨rfl, rfl⟩⟩ y m news hy hl h1 h63 hbytes hM
    exact ⟨p, cap, w', hr, Blk.of_own h2, h3, Sh.of_none h3⟩
  · rcases hy with ⟨h, _⟩ | ⟨_, ad, c', rfl, hc⟩
    · omega
    have hcut : ∀ (j : Nat) (u : Value), xs[j]? = some u → w.cell? ⟨g, j, none⟩ = some u := fun j u hj => by
      rw [cell_in hb, ← Array.getElem?_toList]
      rw [← htake, List.getElem?_take] at hj
      split at hj
      · exact hj
      · cases hj
    by_cases hroom : n + m ≤ c
    · have hsum : n * size + m * size ≤ cs.size := by
        have := Nat.mul_le_mul_right size hroom
        rw [Nat.add_mul] at this
        omega
      have hr := run_append_room_cells (P := P) w t ty e i ht hi g 0 n c ad m c' news (by rw [hl, hsize]) hc h1 hroom (fun j hj => by rw [cell_in hb, Nat.zero_add, hsize, Array.getElem?_eq_getElem (by omega)]; rfl) (fun j hj => free_in hb)
      rw [Nat.zero_add, hsize] at hr
      refine ⟨_, c, _, hr, ⟨by rw [List.length_append, h0, hl, Nat.add_mul], .inr ⟨g, c, setR cs (n * size) news, rfl, hroom, hMg, heap_setCells news w cs (n * size) hb, by rw [setR_size]; exact hcs, ?_⟩⟩, ?_, Sh.setCells hb _ _⟩
      · rw [Nat.add_mul, ← hl, take_setR (by omega), htake]
      · have hu := upd_setCells (S := [g]) (a := w) (g := g) (.inl (by simp)) news w (n * size) (Upd.refl _ _)
        exact ⟨hu.os, hu.tape, hu.output, hu.size, fun k hk hne => hu.block k hk (fun hm => hne (by rw [List.mem_singleton.1 hm]; rfl))⟩
    · obtain ⟨v', w', hr, h2, h3⟩ := run_append_arg_grows (P := P) w t ty e i z size bytes ht hi hz hsize hby hzs hsz ⟨g, 0, none⟩ n c xs h0 (fun j u hj => by rw [addN, Nat.zero_add]; exact hcut j u hj) ad m c' news hl hc (by omega) h63 hbytes
      obtain ⟨p, c2, rfl⟩ := Blk.form (Blk.of_own h2)
      exact ⟨p, c2, w', hr, (Blk.of_own h2).mono hM, ⟨h3.os, h3.tape, h3.output, h3.size, fun k hk _ => h3.block k hk (by simp)⟩, Sh.of_none h3⟩
theorem wpList_append_blk {ops : Array Oper} {rest : List Oper} {o : Oper} {a : Act} {w : World} {Q : Exit → Act → World → Prop} (hgd : o.guard = none) (s x : Operand) (t : TypeId)
    (ho : o.op = .call { callee := .builtin .append, args := #[s, x], argTypes := #[t, t] })
    (e : TypeId) (i : TypeInfo) (z : Value) (size bytes : Nat) (ht : P.underlying t = some (.slice e)) (hi : P.info? e = some i) (hz : i.zero = some z)
    (hsize : i.size = size) (hby : i.bytes = bytes) (hzs : z.cells.size = size) (hsz : 0 < size)
    (M : Nat) (v : Value) (n : Nat) (xs : List Value) (hs : a.eval s = v) (hB : Blk e size M w v n xs) (y : Value) (m : Nat) (news : List Value) (hm : 0 < m) (hx : a.eval x = y) (hy : SrcV w y m news) (hl : news.length = m * size)
    (h1 : ∀ u ∈ news, u.oneCell' = true) (h63 : n + m ≤ 9223372036854775807) (hbytes : (n + m) * bytes ≤ 140737488355328) (hM : M ≤ w.heap.size)
    (h : ∀ p c w', Blk e size M w' (.slice p (n + m) c) (n + m) (xs ++ news) → w.grownBy w' v.ownBlock → Sh w w' → wpList P ops Q rest (a.put o.dst (.slice p (n + m) c)) w') :
    wpList P ops Q (o :: rest) a w := by
  refine wpList_plain hgd fun K hK => ?_
  obtain ⟨p, c, w', hr, h2, h3, h4⟩ := run_append_blk (P := P) w t o.type M e i z size bytes ht hi hz hsize hby hzs hsz v n xs hB y m news hm hy hl h1 (by unfold maxLen; omega) hbytes hM
  unfold Oper.wp execOp
  simp only [ho, resolve, invoke, builtin, Sem.run_bind, Sem.run_pure, Result.andThen_ok, List.map_toArray, List.map_cons, List.map_nil, hs, hx, hr]
  exact hK _ _ (h p c w' h2 h3 h4)
end
/-- A list of its own, loosely. -/
theorem Blk.of_new {α : Type} {enc : α → List Value} {k : Nat} (hk : ∀ x, (enc x).length = k) {T : TypeId} {M : Nat} {w : World} {v : Value} {l : List α} (h : rw.NewRw enc k T M w v l) : Blk T k M w v l.length (rw.flat enc l) := by
  refine ⟨rw.flat_len hk l, ?_⟩
  rcases h with ⟨rfl, rfl⟩ | ⟨g, c, cs, rfl, hc, hg, hb, hcs, hat⟩
  · exact .inl ⟨rfl, rfl⟩
  · refine .inr ⟨g, c, cs, rfl, hc, hg, hb, hcs, ?_⟩
    refine List.ext_getElem? fun i => ?_
    by_cases hi : i < l.length * k
    · rw [List.getElem?_take_of_lt hi, Array.getElem?_toList]
      have h2 : (rw.flat enc l)[i]? = some ((rw.flat enc l)[i]'(by rw [rw.flat_len hk]; exact hi)) := List.getElem?_eq_getElem _
      have := hat i _ h2
      rw [Nat.zero_add] at this
      rw [this, h2]
    · rw [List.getElem?_eq_none (by rw [List.length_take]; omega), List.getElem?_eq_none (by rw [rw.flat_len hk]; omega)]
end Go.Proofs.YtbelnaiekbfoiaaGreatDoor
/- slices.Insert of definitions, at any place: in place where there is room, else in a new row. Conditions: few definitions; what is put in lies in another block. -/
namespace Go.Proofs.YtbelnaiekbfoiaaGreatDoor.ky
open Go.RowKit ls gl va

theorem list_mid {xs vs : List Value} {a b n : Nat} (hl : xs.length = n) (ha : a ≤ n) (hb : vs.length = b) (j : Nat) :
    (xs.take a ++ vs ++ xs.drop a)[j]? = if j < a then xs[j]? else if j < a + b then vs[j - a]? else xs[j - b]? := by
  have h1 : (xs.take a).length = a := by rw [List.length_take]; omega
  rw [List.append_assoc]
  by_cases hj : j < a
  · rw [if_pos hj, List.getElem?_append_left (by omega), List.getElem?_take_of_lt hj]
  · rw [if_neg hj, List.getElem?_append_right (by omega), h1]
    by_cases hj2 : j < a + b
    · rw [if_pos hj2, List.getElem?_append_left (by omega)]
    · rw [if_neg hj2, List.getElem?_append_right (by omega), List.getElem?_drop]
      congr 1
      omega
theorem setR_at (vs : List Value) (cs : Array Value) (o j : Nat) (h : o + vs.length ≤ cs.size) : (setR cs o vs)[j]? = if o ≤ j ∧ j < o + vs.length then vs[j - o]? else cs[j]? := by
  by_cases hj : o ≤ j ∧ j < o + vs.length
  · rw [if_pos hj]
    have hv : vs[j - o]? = some (vs[j - o]'(by omega)) := List.getElem?_eq_getElem (by omega)
    have := setR_in vs cs o h (j - o) _ hv
    rw [show o + (j - o) = j by omega] at this
    rw [this, hv]
  · rw [if_neg hj, setR_out vs cs o j (by omega)]
theorem shift_take {cur : Array Value} {xs vs : List Value} {a b n : Nat} (hx : cur.toList.take n = xs) (ha : a ≤ n) (hb : vs.length = b) (hsz : n + b ≤ cur.size) :
    (setR (setR cur (a + b) (xs.drop a)) a vs).toList.take (n + b) = xs.take a ++ vs ++ xs.drop a := by
  have hc : cur.toList.length = cur.size := by simp
  have hl : xs.length = n := by rw [← hx, List.length_take, hc]; omega
  have hdl : (xs.drop a).length = n - a := by rw [List.length_drop, hl]
  refine List.ext_getElem? fun j => ?_
  rw [list_mid hl ha hb]
  by_cases hj : j < n + b
  · rw [List.getElem?_take_of_lt hj, Array.getElem?_toList, setR_at _ _ _ _ (by rw [setR_size]; omega), setR_at _ _ _ _ (by omega)]
    by_cases h1 : j < a
    · rw [if_neg (by omega), if_neg (by omega), if_pos h1, ← hx, List.getElem?_take_of_lt (by omega), Array.getElem?_toList]
    · rw [if_neg h1]
      by_cases h2 : j < a + b
      · rw [if_pos (by omega), if_pos h2]
      · rw [if_neg (by omega), if_pos (by omega), if_neg h2, List.getElem?_drop]
        congr 1
        omega
  · rw [List.getElem?_eq_none (by rw [List.length_take]; omega), if_neg (by omega), if_neg (by omega), List.getElem?_eq_none (by omega)]
theorem grow_take {row : Array Value} {xs vs : List Value} {a b n : Nat} (hx : row.toList.take a = xs.take a) (hl : xs.length = n) (ha : a ≤ n) (hb : vs.length = b) (hsz : n + b ≤ row.size) :
    (setR (setR row a vs) (a + b) (xs.drop a)).toList.take (n + b) = xs.take a ++ vs ++ xs.drop a := by
  have hdl : (xs.drop a).length = n - a := by rw [List.length_drop, hl]
  refine List.ext_getElem? fun j => ?_
  rw [list_mid hl ha hb]
  by_cases hj : j < n + b
  · rw [List.getElem?_take_of_lt hj, Array.getElem?_toList, setR_at _ _ _ _ (by rw [setR_size]; omega), setR_at _ _ _ _ (by omega)]
    by_cases h1 : j < a
    · rw [if_neg (by omega), if_neg (by omega), if_pos h1]
      have h2 := congrArg (fun l => l[j]?) hx
      simp only [List.getElem?_take_of_lt h1, Array.getElem?_toList] at h2
      exact h2
    · rw [if_neg h1]
      by_cases h2 : j < a + b
      · rw [if_neg (by omega), if_pos (by omega), if_pos h2]
      · rw [if_pos (by omega), if_neg h2, List.getElem?_drop]
        congr 1
        omega
  · rw [List.getElem?_eq_none (by rw [List.length_take]; omega), if_neg (by omega), if_neg (by omega), List.getElem?_eq_none (by omega)]
/-- In place. -/
theorem blk_shift {T : TypeId} {k M : Nat} {w : World} {g c n i : Nat} {xs vs : List Value} (h : Blk T k M w (.slice (some ⟨g, 0, none⟩) n c) n xs) (hi : i ≤ n) (hroom : n + 1 ≤ c) (hv : vs.length = k) :
    Blk T k M ((w.drew.setCells g ((i + 1) * k) (xs.drop (i * k))).setCells g (i * k) vs) (.slice (some ⟨g, 0, none⟩) (n + 1) c) (n + 1) (xs.take (i * k) ++ vs ++ xs.drop (i * k)) ∧ Upd [g] w ((w.drew.setCells g ((i + 1) * k) (xs.drop (i * k))).setCells g (i * k) vs) := by
  obtain ⟨h0, ⟨h, _⟩ | ⟨g', c', cs, e, _, hM, hb, hcs, ht⟩⟩ := h
  · cases h
  cases e
  have hik : i * k ≤ n * k := Nat.mul_le_mul_right k hi
  have hnk : (n + 1) * k ≤ c * k := Nat.mul_le_mul_right k hroom
  have e1 : (i + 1) * k = i * k + k := Nat.succ_mul i k
  have e2 : (n + 1) * k = n * k + k := Nat.succ_mul n k
  rw [e1]
  refine ⟨⟨?_, .inr ⟨g, c, _, rfl, hroom, hM, ls.heap_setCells vs _ _ (i * k) (ls.heap_setCells (xs.drop (i * k)) w.drew cs (i * k + k) hb), by rw [setR_size, setR_size]; exact hcs, ?_⟩⟩, ?_⟩
  · simp only [List.length_append, List.length_take, List.length_drop]
    omega
  · rw [e2]
    exact shift_take ht hik hv (by omega)
  · have hu := ls.upd_setCells (S := [g]) (a := w) (g := g) (.inl (by simp)) (xs.drop (i * k)) w.drew (i * k + k) (Upd.of_below (Below.refl _ w).drew _)
    exact ls.upd_setCells (S := [g]) (a := w) (g := g) (.inl (by simp)) vs _ (i * k) hu
/-- In a new block. -/
theorem blk_new {T : TypeId} {k : Nat} {w : World} {n i G : Nat} {xs vs : List Value} {row : Array Value} (hx : row.toList.take (i * k) = xs.take (i * k)) (hl : xs.length = n * k) (hi : i ≤ n) (hv : vs.length = k) (hG : n + 1 ≤ G) (hr : G * k ≤ row.size) :
    Blk T k w.heap.size ((((w.alloc (.cells row T)).drew.setCells w.heap.size (i * k) vs).drew).setCells w.heap.size ((i + 1) * k) (xs.drop (i * k))) (.slice (some ⟨w.heap.size, 0, none⟩) (n + 1) G) (n + 1) (xs.take (i * k) ++ vs ++ xs.drop (i * k)) ∧ Below w.heap.size w ((((w.alloc (.cells row T)).drew.setCells w.heap.size (i * k) vs).drew).setCells w.heap.size ((i + 1) * k) (xs.drop (i * k))) := by
  have hik : i * k ≤ n * k := Nat.mul_le_mul_right k hi
  have hnk : (n + 1) * k ≤ G * k := Nat.mul_le_mul_right k hG
  have e1 : (i + 1) * k = i * k + k := Nat.succ_mul i k
  have e2 : (n + 1) * k = n * k + k := Nat.succ_mul n k
  have hb : (w.alloc (.cells row T)).drew.heap[w.heap.size]? = some (.cells row T (0, 0)) := heap_alloc_new w _
  rw [e1]
  refine ⟨⟨?_, .inr ⟨w.heap.size, G, _, rfl, hG, Nat.le_refl _, ls.heap_setCells (xs.drop (i * k)) _ _ (i * k + k) (ls.heap_setCells vs (w.alloc (.cells row T)).drew row (i * k) hb), by rw [setR_size, setR_size]; exact hr, ?_⟩⟩, ?_⟩
  · simp only [List.length_append, List.length_take, List.length_drop]
    omega
  · rw [e2]
    exact grow_take hx hl hik hv (by omega)
  · have h1 := ls.below_setCells (B := w.heap.size) (g := w.heap.size) (w0 := w) (Nat.le_refl _) vs (w.alloc (.cells row T)).drew (i * k) ((Below.refl _ w).alloc (Nat.le_refl _) _).drew
    exact ls.below_setCells (Nat.le_refl _) (xs.drop (i * k)) _ (i * k + k) h1.drew
end Go.Proofs.YtbelnaiekbfoiaaGreatDoor.ky
namespace Go.Proofs.YtbelnaiekbfoiaaGreatDoor.ky
open Go.ChangeShapes Go.WideShapes Go.ChangeAt Go.RowKit Go.Lib gl va ls

theorem run_copy_cells_k {P : Program} (w : World) (dT sT ty elem : TypeId) (b o dLen dCap : Nat) (a : Addr) (sLen sCap : Nat) (cs : List Value) (size n : Nat)
    (hu : P.underlying dT = some (.slice elem)) (hs : (P.info? elem).map (·.size) = some size) (hmin : Nat.min sLen dLen = n) (hn : cs.length = n * size)
    (hsrc : ∀ j v, cs[j]? = some v → w.cell? (a.add j) = some v) (hc : ∀ j, j < cs.length → (w.cell? ⟨b, o + j, none⟩).isSome = true) (hf : ∀ j, j < cs.length → w.frozen? ⟨b, o + j, none⟩ = false) (h1 : ∀ v ∈ cs, v.oneCell' = true) :
    (Builtin.copy_ #[dT, sT] ty #[.slice (some ⟨b, o, none⟩) dLen dCap, .slice (some a) sLen sCap]).run P w = .ok (goInt n) (w.setCells b o cs) := by
  have hl := run_loadCells_list (P := P) w a cs hsrc
  have hst := run_storeCells_cells (P := P) b o cs 0 w (by simpa using hc) (by simpa using hf) h1
  cases hq : P.info? elem with
  | none => simp [hq] at hs
  | some i =>
    have hi : i.size = size := by simpa [hq] using hs
    simp only [Nat.add_zero] at hst
    simp [Builtin.copy_, run_underlying hu, Builtin.lenOf, Builtin.firstCells, sizeOf, typeInfo, hq, hi, hmin, ← hn, hl, hst]
theorem infoKz : (Tryz.prog.info? 79).map (·.size) = some 6 := by kernel_rfl
theorem infoK : (Tryz.prog.info? 79).map (fun i => (i.zero, i.size, i.bytes)) = some (some (.agg #[.string .empty, .int .i64 0, .string .empty, .int .i64 0, .int .i64 0, .string .empty]), 6, 72) := by kernel_rfl
theorem sizeK (w : World) : (Go.sizeOf 79).run Tryz.prog w = .ok 6 w := by
  obtain ⟨i, hi, he⟩ := Option.map_eq_some_iff.1 infoKz
  simp [Go.sizeOf, typeInfo, hi, he]

set_option maxHeartbeats 4000000 in
set_option maxRecDepth 100000 in
/-- There is room: in place. -/
theorem insert_shift (g n c i vb m : Nat) (cs vs : List Value) (cur : Array Value) (w : World) (hi : i < n) (hm : 0 < m) (hroom : n + m ≤ c) (hnm : n + m ≤ 100000) (hvb : vb ≠ g)
    (hcl : cs.length = n * 6) (hvl : vs.length = m * 6)
    (hg : w.heap[g]? = some (.cells cur 79 (0, 0))) (hcur : c * 6 ≤ cur.size) (hcs : ∀ j v, cs[j]? = some v → w.cell? ⟨g, j, none⟩ = some v)
    (hv : w.heap[vb]? = some (.cells vs.toArray 79 (0, 0))) (h1c : ∀ v ∈ cs, v.oneCell' = true) (h1v : ∀ v ∈ vs, v.oneCell' = true) :
    Calls Tryz.prog 87 #[.slice (some ⟨g, 0, none⟩) n c, .int .i64 i, .slice (some ⟨vb, 0, none⟩) m m] w fun e w' =>
      e = .returned (.slice (some ⟨g, 0, none⟩) (n + m) c) ∧ w' = (w.drew.setCells g ((i + m) * 6) (cs.drop (i * 6))).setCells g (i * 6) vs := by
  have hsz := infoKz
  have mixed : Tryz.prog.follows .mixedOrders = true := by kernel_rfl
  have hz1 : ¬ ((m : Int) = 0) := by omega
  have hz2 : ¬ ((i : Int) = (n : Int)) := by omega
  have hsp : ∀ j, j < (n + m) * 6 → (w.cell? ⟨g, j, none⟩).isSome = true := fun j hj => by rw [cell_in hg, Array.getElem?_eq_getElem (by omega)]; rfl
  have hfz : ∀ j, w.frozen? ⟨g, j, none⟩ = false := fun j => free_in hg
  have hvs : ∀ j v, vs[j]? = some v → w.cell? ⟨vb, j, none⟩ = some v := fun j v hj => by rw [cell_in hv]; simpa using hj
  have hsa : w.shape? vb = some (79, vs.toArray.size) := by unfold World.shape?; rw [hv]
  have hsb : w.shape? g = some (79, cur.size) := by unfold World.shape?; rw [hg]
  have hov : ∀ lb cb, (callFunc 136 #[.slice (some ⟨vb, 0, none⟩) m m, .slice (some ⟨g, (i + m) * 6, none⟩) lb cb]).run Tryz.prog w = .ok (.value (.bool false)) w := fun lb cb => by
    rw [run_callFunc_extern Tryz.func136 (by kernel_rfl) (by kernel_rfl) (by kernel_rfl) (e := Extern.SlicesOverlaps.overlaps #[32, 32] #[4]) (by kernel_rfl),
      Lib.run_overlaps_apart w 32 4 79 Tryz.underlying32 6 sizeK ⟨vb, 0, none⟩ ⟨g, (i + m) * 6, none⟩ m m lb cb hvb _ _ _ _ hsa hsb (by omega) (free_in hv) (free_in hv)]
    rfl
  have hdl : (cs.drop (i * 6)).length = (n - i) * 6 := by rw [List.length_drop, hcl]; omega
  have hw1 : IntKind.i64.wrap ((i : Int) + (m : Int)) = (i : Int) + (m : Int) := by rw [IntKind.wrap_i64]; omega
  have hb1 : (0 : Int) ≤ (i : Int) + (m : Int) := by omega
  have hin : i ≤ n := by omega
  have htn : ((i : Int) + (m : Int)).toNat = i + m := by omega
  have hb2 : ¬ (c = i + m) := by omega
  have hb3 : (i : Int) ≤ (n : Int) + (m : Int) := by omega
  have hb4 : ¬ (c = i) := by omega
  have hcp1 : ∀ ty dc sc, (Builtin.copy_ #[32, 32] ty #[.slice (some ⟨g, (i + m) * 6, none⟩) (n + m - (i + m)) dc, .slice (some ⟨g, i * 6, none⟩) (n + m - i) sc]).run Tryz.prog w.drew = .ok (goInt (n - i : Nat)) (w.drew.setCells g ((i + m) * 6) (cs.drop (i * 6))) := fun ty dc sc =>
    run_copy_cells_k (P := Tryz.prog) w.drew _ _ ty 79 g ((i + m) * 6) (n + m - (i + m)) dc ⟨g, i * 6, none⟩ (n + m - i) sc (cs.drop (i * 6)) 6 (n - i) Tryz.underlying32 hsz (by simp only [Nat.min_def]; split <;> omega) hdl
      (fun j v hj => by rw [Addr.add_lit]; exact hcs (i * 6 + j) v (by rwa [List.getElem?_drop] at hj))
      (fun j hj => hsp _ (by omega)) (fun j hj => hfz _) (fun v hv => h1c v (List.mem_of_mem_drop hv))
  obtain ⟨W1, hW1⟩ : ∃ W1, W1 = w.drew.setCells g ((i + m) * 6) (cs.drop (i * 6)) := ⟨_, rfl⟩
  have hsp1 : ∀ k, k < (n + m) * 6 → (W1.cell? ⟨g, k, none⟩).isSome = true := fun k hk => by
    rw [hW1]
    exact isSome_setCells g (cs.drop (i * 6)) ((i + m) * 6) w.drew (fun j hj => hsp ((i + m) * 6 + j) (by rw [hdl] at hj; omega)) k (hsp k hk)
  have hcp2 : ∀ (W : World), (∀ x, W.cell? x = W1.cell? x) → (∀ x, W.frozen? x = W1.frozen? x) → ∀ ty dc, (Builtin.copy_ #[32, 32] ty #[.slice (some ⟨g, i * 6, none⟩) (n + m - i) dc, .slice (some ⟨vb, 0, none⟩) m m]).run Tryz.prog W = .ok (goInt m) (W.setCells g (i * 6) vs) := fun W hWc hWf ty dc =>
    run_copy_cells_k (P := Tryz.prog) W _ _ ty 79 g (i * 6) (n + m - i) dc ⟨vb, 0, none⟩ m m vs 6 m Tryz.underlying32 hsz (by simp only [Nat.min_def]; split <;> omega) hvl
      (fun j v hj => by
        rw [Addr.add_lit, Nat.zero_add, hWc, hW1, World.cell?_setCells_out g _ _ _ _ (fun h _ => absurd h hvb)]
        exact hvs j v hj)
      (fun j hj => by rw [hWc]; exact hsp1 _ (by omega)) (fun j hj => by rw [hWf, hW1, World.frozen?_setCells]; exact hfz _) h1v
  rw [← hW1] at hcp1
  clear hg hv hsa hsb hcur hcl hvl hdl hsp hfz hvs hcs h1c h1v hsp1
  go_enter Tryz.func87, Tryz.ntmps87
  go_wp2_with (simp only [hov])
  go_region_law_o (refine step_copy_runI rfl _ _ 32 32 rfl _ _ (by simp [Act.eval, Act.put]) (by simp [Act.eval, Act.put]) (hcp1 _ _ _) ?_)
  go_wp2_with (at_builtin; refine wpList_copy_runI _ rfl _ _ 32 32 rfl _ _ rfl rfl (hcp2 _ (fun _ => rfl) (fun _ => rfl) _ _) ?_)
  go_ret
  first | exact ⟨rfl, rfl⟩ | exact ⟨rfl, by rw [hW1]⟩
set_option maxHeartbeats 4000000 in
set_option maxRecDepth 100000 in
/-- There is no room: a new row. -/
theorem insert_grow (g n c i vb m : Nat) (cs vs : List Value) (cur : Array Value) (w : World) (hi : i < n) (hm : 0 < m) (hnc : n ≤ c) (hroom : c < n + m) (hbig : n + m ≤ 100000)
    (hcl : cs.length = n * 6) (hvl : vs.length = m * 6)
    (hg : w.heap[g]? = some (.cells cur 79 (0, 0))) (hcs : ∀ j v, cs[j]? = some v → w.cell? ⟨g, j, none⟩ = some v)
    (hv : w.heap[vb]? = some (.cells vs.toArray 79 (0, 0))) (h1c : ∀ v ∈ cs, v.oneCell' = true) (h1v : ∀ v ∈ vs, v.oneCell' = true) :
    Calls Tryz.prog 87 #[.slice (some ⟨g, 0, none⟩) n c, .int .i64 i, .slice (some ⟨vb, 0, none⟩) m m] w fun e w' =>
      ∃ (G : Nat) (ROW : Array Value), n + m ≤ G ∧ G * 6 ≤ ROW.size ∧ ROW.toList.take (i * 6) = cs.take (i * 6) ∧ e = .returned (.slice (some ⟨w.heap.size, 0, none⟩) (n + m) G) ∧
      w' = (((w.alloc (.cells ROW 79)).drew.setCells w.heap.size (i * 6) vs).drew).setCells w.heap.size ((i + m) * 6) (cs.drop (i * 6)) := by
  obtain ⟨i0, hi0, hz0, hzs, hzb⟩ := info_parts infoK
  have hz1 : ¬ ((m : Int) = 0) := by omega
  have hz2 : ¬ ((i : Int) = (n : Int)) := by omega
  have hz3 : (c : Int) < (n : Int) + (m : Int) := by omega
  have hsz := infoKz
  have mixed : Tryz.prog.follows .mixedOrders = true := by kernel_rfl
  have hbw : g < w.heap.size := lt_of_block hg
  have hvw : vb < w.heap.size := lt_of_block hv
  have hvs : ∀ j v, vs[j]? = some v → w.cell? ⟨vb, j, none⟩ = some v := fun j v hj => by rw [cell_in hv]; simpa using hj
  have hkk : (n : Int) + (m : Int) - (i : Int) = ((n + m - i : Nat) : Int) := by omega
  have hik : i + (n + m - i) = n + m := by omega
  have hold : (Builtin.firstCells i0.size i (.slice (some ⟨g, 0, none⟩) i c)).run Tryz.prog w.drew = .ok (cs.take (i * 6)).toArray w.drew := by
    rw [hzs]
    exact run_firstCells_some w.drew 6 i ⟨g, 0, none⟩ i c (cs.take (i * 6)) (by rw [List.length_take]; omega) (fun j v hj => by
      rw [Addr.add_lit, Nat.zero_add]
      rw [List.getElem?_take] at hj
      split at hj
      · exact hcs j v hj
      · cases hj)
  have hrz : ∀ ty, (Builtin.append_ #[32, 3] ty #[.slice (some ⟨g, 0, none⟩) i c, .int .i64 ((n : Int) + (m : Int) - (i : Int))]).run Tryz.prog w =
      .ok (.slice (some ⟨w.heap.size, 0, none⟩) (n + m) (grownCap w (n + m) c 79)) (w.drew.alloc (.cells ((cs.take (i * 6)).toArray ++ Builtin.zeroCells (Value.cells (.agg #[.string .empty, .int .i64 0, .string .empty, .int .i64 0, .int .i64 0, .string .empty])) (n + m - i) ++ Builtin.zeroCells (Value.cells (.agg #[.string .empty, .int .i64 0, .string .empty, .int .i64 0, .int .i64 0, .string .empty])) (grownCap w (n + m) c 79 - (n + m))) 79)) := fun ty => by
    have h := Lib.run_append_grow_zeros (P := Tryz.prog) w 32 3 ty 79 i0 _ .i64 .i64 Tryz.underlying32 Tryz.underlying3 hi0 hz0 (some ⟨g, 0, none⟩) i c (cs.take (i * 6)) hold (n + m - i) (by omega) (by omega) (by omega) (by omega) (by rw [hzb]; omega) (by rw [hzb, hik]; exact growslice_fits hroom (by omega))
    rw [hik] at h
    rw [hkk]
    exact h
  obtain ⟨G, hG⟩ : ∃ G, G = grownCap w (n + m) c 79 := ⟨_, rfl⟩
  obtain ⟨ROW, hROW⟩ : ∃ ROW : Array Value, ROW = (cs.take (i * 6)).toArray ++ Builtin.zeroCells (Value.cells (.agg #[.string .empty, .int .i64 0, .string .empty, .int .i64 0, .int .i64 0, .string .empty])) (n + m - i) ++ Builtin.zeroCells (Value.cells (.agg #[.string .empty, .int .i64 0, .string .empty, .int .i64 0, .int .i64 0, .string .empty])) (G - (n + m)) := ⟨_, rfl⟩
  rw [← hG] at hrz
  rw [← hROW] at hrz
  have hGn : n + m ≤ G := by rw [hG]; exact grownCap_ge w _ _ _
  have htl : (cs.take (i * 6)).length = i * 6 := by rw [List.length_take]; omega
  have hRs : ROW.size = G * 6 := by
    rw [hROW]
    simp [Builtin.zeroCells, Value.cells]
    omega
  have hRl : G * 6 ≤ ROW.size := by omega
  have hRt : ROW.toList.take (i * 6) = cs.take (i * 6) := by
    rw [hROW, Array.toList_append, Array.toList_append, List.append_assoc, List.take_append_of_le_length (by rw [List.toList_toArray, htl]; exact Nat.le_refl _), List.toList_toArray, List.take_of_length_le (by rw [htl]; exact Nat.le_refl _)]
  obtain ⟨W1, hW1⟩ : ∃ W1, W1 = w.drew.alloc (.cells ROW 79) := ⟨_, rfl⟩
  rw [← hW1] at hrz
  have hN : ∀ j, j < (n + m) * 6 → (W1.cell? ⟨w.heap.size, j, none⟩).isSome = true := fun j hj => by
    rw [hW1, World.cell?_alloc_at (w := w.drew) ROW _ w.heap.size j rfl, Array.getElem?_eq_getElem (by omega)]; rfl
  have hNf : ∀ j, W1.frozen? ⟨w.heap.size, j, none⟩ = false := fun j => by rw [hW1]; exact World.frozen?_alloc_at (w := w.drew) ROW _ w.heap.size j rfl
  have hOb : ∀ j v, w.cell? ⟨g, j, none⟩ = some v → W1.cell? ⟨g, j, none⟩ = some v := fun j v h => by rw [hW1, World.cell?_alloc_past (w := w.drew) _ g j hbw]; exact h
  have hOv : ∀ j v, w.cell? ⟨vb, j, none⟩ = some v → W1.cell? ⟨vb, j, none⟩ = some v := fun j v h => by rw [hW1, World.cell?_alloc_past (w := w.drew) _ vb j hvw]; exact h
  have hcpA : ∀ (W : World), (∀ x, W.cell? x = W1.cell? x) → (∀ x, W.frozen? x = W1.frozen? x) → ∀ ty dc, (Builtin.copy_ #[32, 32] ty #[.slice (some ⟨w.heap.size, i * 6, none⟩) (n + m - i) dc, .slice (some ⟨vb, 0, none⟩) m m]).run Tryz.prog W = .ok (goInt m) (W.setCells w.heap.size (i * 6) vs) := fun W hWc hWf ty dc =>
    run_copy_cells_k (P := Tryz.prog) W _ _ ty 79 w.heap.size (i * 6) (n + m - i) dc ⟨vb, 0, none⟩ m m vs 6 m Tryz.underlying32 hsz (by simp only [Nat.min_def]; split <;> omega) hvl
      (fun j v hj => by rw [Addr.add_lit, Nat.zero_add, hWc]; exact hOv _ v (hvs j v hj))
      (fun j hj => by rw [hWc]; exact hN _ (by omega)) (fun j hj => by rw [hWf]; exact hNf _) h1v
  have hG63 : G ≤ 9223372036854775807 := by
    have := grownCap_le_maxLen w (n + m) c 79 (by unfold maxLen; omega)
    rw [← hG] at this
    unfold maxLen at this
    omega
  have hGi : ¬ (G = i) := by omega
  have hGim : ¬ (G = i + m) := by omega
  have hci : ¬ (c = i) := by omega
  have hbN : g ≠ w.heap.size := by omega
  have hdl : (cs.drop (i * 6)).length = (n - i) * 6 := by rw [List.length_drop, hcl]; omega
  have hcpB : ∀ (W : World), (∀ x, W.cell? x = (W1.setCells w.heap.size (i * 6) vs).cell? x) → (∀ x, W.frozen? x = (W1.setCells w.heap.size (i * 6) vs).frozen? x) → ∀ ty dc sc, (Builtin.copy_ #[32, 32] ty #[.slice (some ⟨w.heap.size, (i + m) * 6, none⟩) (n + m - (i + m)) dc, .slice (some ⟨g, i * 6, none⟩) (n - i) sc]).run Tryz.prog W = .ok (goInt (n - i : Nat)) (W.setCells w.heap.size ((i + m) * 6) (cs.drop (i * 6))) := fun W hWc hWf ty dc sc =>
    run_copy_cells_k (P := Tryz.prog) W _ _ ty 79 w.heap.size ((i + m) * 6) (n + m - (i + m)) dc ⟨g, i * 6, none⟩ (n - i) sc (cs.drop (i * 6)) 6 (n - i) Tryz.underlying32 hsz (by simp only [Nat.min_def]; split <;> omega) hdl
      (fun j v hj => by
        rw [Addr.add_lit, hWc, World.cell?_setCells_out _ _ _ _ _ (fun h _ => absurd h hbN)]
        exact hOb _ v (hcs (i * 6 + j) v (by rwa [List.getElem?_drop] at hj)))
      (fun j hj => by rw [hWc]; exact isSome_setCells _ _ _ _ (fun t ht => hN _ (by omega)) _ (hN _ (by omega)))
      (fun j hj => by rw [hWf, World.frozen?_setCells]; exact hNf _) (fun v hv => h1c v (List.mem_of_mem_drop hv))
  subst hW1
  have hE1 : ∀ x, ((w.alloc (.cells ROW 79)).drew).cell? x = (w.drew.alloc (.cells ROW 79)).cell? x := fun x => rfl
  have hE2 : ∀ x, ((w.alloc (.cells ROW 79)).drew).frozen? x = (w.drew.alloc (.cells ROW 79)).frozen? x := fun x => rfl
  have hF1 : ∀ x, (((w.alloc (.cells ROW 79)).drew.setCells w.heap.size (i * 6) vs).drew).cell? x = ((w.drew.alloc (.cells ROW 79)).setCells w.heap.size (i * 6) vs).cell? x := fun x => rfl
  have hF2 : ∀ x, (((w.alloc (.cells ROW 79)).drew.setCells w.heap.size (i * 6) vs).drew).frozen? x = ((w.drew.alloc (.cells ROW 79)).setCells w.heap.size (i * 6) vs).frozen? x := fun x => rfl
  have hw1 : IntKind.i64.wrap ((i : Int) + (m : Int)) = (i : Int) + (m : Int) := by rw [IntKind.wrap_i64]; omega
  have hb1 : (0 : Int) ≤ (i : Int) + (m : Int) := by omega
  have hin : i ≤ n := by omega
  have htn : ((i : Int) + (m : Int)).toNat = i + m := by omega
  have hb3 : (i : Int) ≤ (n : Int) := by omega
  have HR := Lib.hid hRl
  have HT := Lib.hid hRt
  clear hkk hik hold hROW hG hRl hRt hRs htl hg hv hcl hvl hcs hvs h1c h1v hdl hN hNf hOb hOv
  go_enter Tryz.func87, Tryz.ntmps87
  go_wp2_with (first
    | (at_builtin; refine Lib.wpList_append_run _ rfl _ _ _ _ rfl _ _ rfl rfl _ _ (hrz _) ?_)
    | (at_builtin; refine wpList_copy_runI _ rfl _ _ 32 32 rfl _ _ rfl rfl (hcpA _ hE1 hE2 _ _) ?_)
    | (at_builtin; refine wpList_copy_runI _ rfl _ _ 32 32 rfl _ _ rfl rfl (hcpB _ (fun _ => rfl) (fun _ => rfl) _ _ _) ?_))
  go_region_law_o (refine step_copy_runI rfl _ _ 32 32 rfl (.slice (some ⟨w.heap.size, (i + m) * 6, none⟩) (n + m - (i + m)) (G - (i + m))) (.slice (some ⟨g, i * 6, none⟩) (n - i) (c - i)) (by simp [Act.eval, Act.put]) (by simp [Act.eval, Act.put]) (hcpB _ hF1 hF2 3 (G - (i + m)) (c - i)) ?_)
  go_wp2
  go_ret
  exact ⟨G, ROW, hGn, HR.out, HT.out, rfl, rfl⟩
end Go.Proofs.YtbelnaiekbfoiaaGreatDoor.ky
/- slices.Insert of one definition into a set's row, at any place. Conditions: at most 64 definitions; the new one lies in another block. -/
namespace Go.Proofs.YtbelnaiekbfoiaaGreatDoor.ky
open Go.ChangeShapes Go.WideShapes Go.ChangeAt Go.RowKit gl va ls

theorem flat_take (S : List Ky) (k : Nat) : (rw.flat kyC S).take (k * 6) = rw.flat kyC (S.take k) := by
  rcases Nat.lt_or_ge k S.length with h | h
  · conv => lhs; rw [← List.take_append_drop k S, rw.flat_append]
    rw [List.take_append_of_le_length (by rw [rw.flat_len kyC_len, List.length_take]; omega), List.take_of_length_le (by rw [rw.flat_len kyC_len, List.length_take]; omega)]
  · rw [List.take_of_length_le (by rw [rw.flat_len kyC_len]; omega), List.take_of_length_le h]
theorem flat_drop (S : List Ky) (k : Nat) : (rw.flat kyC S).drop (k * 6) = rw.flat kyC (S.drop k) := by
  rcases Nat.lt_or_ge k S.length with h | h
  · conv => lhs; rw [← List.take_append_drop k S, rw.flat_append]
    rw [List.drop_append_of_le_length (by rw [rw.flat_len kyC_len, List.length_take]; omega), List.drop_of_length_le (by rw [rw.flat_len kyC_len, List.length_take]; omega), List.nil_append]
  · rw [List.drop_of_length_le (by rw [rw.flat_len kyC_len]; omega), List.drop_of_length_le h]; rfl
theorem flat_ins (S : List Ky) (k : Nat) (x : Ky) : (rw.flat kyC S).take (k * 6) ++ kyC x ++ (rw.flat kyC S).drop (k * 6) = rw.flat kyC (S.take k ++ x :: S.drop k) := by
  rw [flat_take, flat_drop, rw.flat_append]
  simp [rw.flat]
theorem blk_cell {M : Nat} {w : World} {g c n : Nat} {xs : List Value} (h : Blk 79 6 M w (.slice (some ⟨g, 0, none⟩) n c) n xs) : ∀ j v, xs[j]? = some v → w.cell? ⟨g, j, none⟩ = some v := fun _ _ hj => h.cell hj
theorem blk_rw {M : Nat} {w : World} {v : Value} {S : List Ky} (h : Blk 79 6 M w v S.length (rw.flat kyC S)) : rw.Rw kyC 6 w v S := by
  have hh := h
  rcases h.2 with ⟨rfl, h0⟩ | ⟨g, c, cs, rfl, hnc, _, hb, _, _⟩
  · obtain rfl := List.eq_nil_of_length_eq_zero h0
    exact ⟨none, 0, rfl, Nat.le_refl _, .inl rfl⟩
  · refine ⟨_, c, rfl, hnc, .inr ⟨g, 0, rfl, lt_of_block hb, fun j x hx i u hu => ?_⟩⟩
    rw [Nat.zero_add]
    exact hh.cell (rw.flat_at kyC_len S j x i u hx hu)

set_option maxHeartbeats 4000000 in
set_option maxRecDepth 100000 in
/-- At the end: an append. -/
theorem insert_end (M : Nat) (v : Value) (n : Nat) (xs : List Value) (g : Nat) (x : Ky) (hn : n ≤ 64) (w : World) (hM : M ≤ w.heap.size) (hB : Blk 79 6 M w v n xs) (hg : w.heap[g]? = some (.cells (kyC x).toArray 79 (0, 0))) :
    Calls Tryz.prog 87 #[v, .int .i64 (n : Nat), .slice (some ⟨g, 0, none⟩) 1 1] w fun e w' => ∃ v', e = .returned v' ∧ Blk 79 6 M w' v' (n + 1) (xs ++ kyC x) ∧ w.grownBy w' v.ownBlock := by
  obtain ⟨i0, si, sz0, sz1, sz2⟩ := info_parts infoK
  obtain ⟨p, c, rfl⟩ := hB.form
  have hnc : n ≤ c := by
    rcases hB.2 with ⟨h, h0⟩ | ⟨g, c', cs, h, h1, _⟩
    · omega
    · cases h; exact h1
  have HB := Lib.hid hB
  have Hsrc : Hid (SrcV w (.slice (some ⟨g, 0, none⟩) 1 1) 1 (kyC x)) := Lib.hid (.inr ⟨by decide, _, _, rfl, fun j u hj => by
    rw [addN, cell_in hg, Nat.zero_add, List.getElem?_toArray]
    exact hj⟩)
  have Hr1 := Lib.hid (kyC_one x)
  have q0 : ((1 : Int) == 0) = false := by decide
  have q1 : ((n : Int) == (n : Int)) = true := by simp
  have q2 : (0 : Int) ≤ (n : Int) := by omega
  have q3 : (n : Int) ≤ (n : Int) := by omega
  clear hB hg
  by_cases hcn : c = n
  case' pos => subst hcn
  all_goals
    go_enter Tryz.func87, Tryz.ntmps87
    focus
      go_wp2_with (at_builtin; go_must (refine wpList_append_blk rfl _ _ 32 rfl 79 i0 _ 6 72 Tryz.underlying32 si sz0 sz1 sz2 rfl (by decide) M _ _ _ (by rfl) HB.out _ 1 _ (by decide) (by rfl) Hsrc.out (by rfl) Hr1.out (by omega) (by omega) (by omega) ?_))
    intro p' cap w5 hown hgrow hsh
    go_wp2_with fail
    go_ret
    exact ⟨_, rfl, hown, hgrow⟩
theorem insert_any (M : Nat) (v : Value) (S : List Ky) (k : Nat) (hk : k ≤ S.length) (x : Ky) (g : Nat) (hn : S.length ≤ 64) (w : World) (hM : M ≤ w.heap.size) (hB : Blk 79 6 M w v S.length (rw.flat kyC S)) (hg : w.heap[g]? = some (.cells (kyC x).toArray 79 (0, 0))) (hne : ∀ q, v.ownBlock = some q → g ≠ q) :
    Calls Tryz.prog 87 #[v, .int .i64 (k : Nat), .slice (some ⟨g, 0, none⟩) 1 1] w fun e w' => ∃ v', e = .returned v' ∧ Blk 79 6 M w' v' (S.length + 1) (rw.flat kyC (S.take k ++ x :: S.drop k)) ∧ w.grownBy w' v.ownBlock := by
  rcases Nat.lt_or_ge k S.length with hlt | hge
  · have hB' := hB
    rcases hB.2 with ⟨rfl, h0⟩ | ⟨q, c, cur, rfl, hnc, hq, hb, hcs, ht⟩
    · omega
    have hgq : g ≠ q := hne q rfl
    have hfl := rw.flat_len kyC_len S
    have h1c := rw.flat_one kyC_one S
    by_cases hroom : S.length + 1 ≤ c
    · refine (insert_shift q S.length c k g 1 (rw.flat kyC S) (kyC x) cur w hlt (by decide) hroom (by omega) hgq hfl rfl hb hcs (blk_cell hB') hg h1c (kyC_one x)).mono fun e w' h => ?_
      obtain ⟨rfl, rfl⟩ := h
      obtain ⟨h1, h2⟩ := blk_shift (vs := kyC x) hB' (Nat.le_of_lt hlt) hroom rfl
      rw [flat_ins] at h1
      exact ⟨_, rfl, h1, h2.os, h2.tape, h2.output, h2.size, fun j hj hne => h2.block j hj (fun hm => hne (by rw [List.mem_singleton.1 hm]; rfl))⟩
    · refine (insert_grow q S.length c k g 1 (rw.flat kyC S) (kyC x) cur w hlt (by decide) hnc (by omega) (by omega) hfl rfl hb (blk_cell hB') hg h1c (kyC_one x)).mono fun e w' h => ?_
      obtain ⟨G, ROW, hG, hR, hT, rfl, rfl⟩ := h
      obtain ⟨h1, h2⟩ := blk_new (T := 79) (w := w) hT hfl (Nat.le_of_lt hlt) (show (kyC x).length = 6 from rfl) hG hR
      rw [flat_ins] at h1
      exact ⟨_, rfl, h1.mono hM, h2.os, h2.tape, h2.output, h2.size, fun j hj _ => h2.block j hj⟩
  · obtain rfl : k = S.length := by omega
    refine (insert_end M v S.length _ g x hn w hM hB hg).mono fun e w' h => ?_
    obtain ⟨v', rfl, h1, h2⟩ := h
    refine ⟨v', rfl, ?_, h2⟩
    rw [List.take_of_length_le (Nat.le_refl _), List.drop_of_length_le (Nat.le_refl _)]
    rw [rw.flat_snoc]
    exact h1
end Go.Proofs.YtbelnaiekbfoiaaGreatDoor.ky
/- Package key: where a name stands among definitions that ascend. Conditions: at most 4294967295 definitions. -/
namespace Go.Proofs.YtbelnaiekbfoiaaGreatDoor.ky
open Go.ChangeShapes Go.WideShapes Go.ChangeAt Go.RowKit gl va ls

theorem then_bel {w w' w'' : World} (h : Below w.heap.size w w') (h2 : Below w'.heap.size w' w'') : Below w.heap.size w w'' := h.trans (h2.mono h.size)
theorem B_list (l : List UInt8) : (B l).data.toList = l := by simp
theorem ky_cells {w : World} {b o n c : Nat} {R : List Ky} (h : rw.Rw kyC 6 w (.slice (some ⟨b, o, none⟩) n c) R) {j : Nat} {x : Ky} (hx : R[j]? = some x) :
    w.cell? ⟨b, o + j * 6, none⟩ = some (.string (B x.name)) ∧ w.cell? ⟨b, o + j * 6 + 1, none⟩ = some (.int .i64 x.kind) ∧ w.cell? ⟨b, o + j * 6 + 2, none⟩ = some (.string (B x.dflt)) ∧ w.cell? ⟨b, o + j * 6 + 3, none⟩ = some (.int .i64 x.least) ∧ w.cell? ⟨b, o + j * 6 + 4, none⟩ = some (.int .i64 x.most) ∧ w.cell? ⟨b, o + j * 6 + 5, none⟩ = some (.string (B x.letter)) :=
  ⟨rw.Rw.cell h hx (i := 0) rfl, rw.Rw.cell h hx (i := 1) rfl, rw.Rw.cell h hx (i := 2) rfl, rw.Rw.cell h hx (i := 3) rfl, rw.Rw.cell h hx (i := 4) rfl, rw.Rw.cell h hx (i := 5) rfl⟩
theorem found1_any (x : Ky) (t : ByteArray) (w : World) :
    Calls Tryz.prog 133 #[.agg #[.string (B x.name), .int .i64 x.kind, .string (B x.dflt), .int .i64 x.least, .int .i64 x.most, .string (B x.letter)], .string t] w fun e w' => e = .returned (.int .i64 (cmpL (B x.name).data.toList t.data.toList)) ∧ Below w.heap.size w w' := by
  have hb : Below w.heap.size w (w.alloc (.cells #[.string (B x.name), .int .i64 x.kind, .string (B x.dflt), .int .i64 x.least, .int .i64 x.most, .string (B x.letter)] 79)) := (Below.refl _ _).alloc (Nat.le_refl _) _
  have Hb := Lib.hid hb
  have HC := Lib.hid (Tryz.strings_Compare (B x.name) t)
  clear hb
  generalize B x.name = nm at *
  generalize B x.dflt = df at *
  generalize B x.letter = lt at *
  go_enter Tryz.func133, Tryz.ntmps133
  go_wp2_with fail
  refine (HC.out _).mono ?_
  rintro e w1 ⟨rfl, rfl⟩
  go_wp2_with fail
  go_ret
  exact ⟨by rw [cmpB_eq]; rfl, Hb.out⟩
set_option maxHeartbeats 2000000 in
set_option maxRecDepth 100000 in
theorem bsearch_any (p : Option Addr) (m c : Nat) (R : List Ky) (t : List UInt8) (hm : m ≤ 4294967295) (ha : (R.map (·.name)).Pairwise fun a b => ltL a b = true) (w : World) (h : rw.Rw kyC 6 w (.slice p m c) R) :
    Calls Tryz.prog 106 #[.slice p m c, .string (B t), .func (.func 133) #[] #[]] w fun e w' =>
      (∃ k b, e = .returned (.tuple #[.int .i64 (k : Nat), .bool b]) ∧ FoundAt (R.map (·.name)) t k b) ∧ Below w.heap.size w w' := by
  have HR := Lib.hid h
  have Hptr := Lib.hid h.ptr
  have Ha := Lib.hid ha
  have Ht := Lib.hid (show (B t).data.toList = t from by simp)
  have HC := Lib.hid fun (x : Ky) W => found1_any x (B t) W
  generalize B t = tt at *
  clear h ha
  go_enter Tryz.func106, Tryz.ntmps106
  go_wp2_with fail
  go_loopw [9, 10] (fun vi vj wr => ∃ i j : Nat, i ≤ j ∧ j ≤ m ∧ vi = .int .i64 i ∧ vj = .int .i64 j ∧ Hid (Betw (R.map (·.name)) t i j) ∧ Hid (Below w.heap.size w wr)) (fun vi vj _ => (intOf vj).toNat - (intOf vi).toNat)
  case atStart => exact ⟨0, m, by omega, by omega, rfl, rfl, Lib.hid fun k x hx => ⟨fun hk => by omega, fun hk => by
    have := lt_get hx
    rw [List.length_map, Hptr.out.1] at this
    omega⟩, Lib.hid (Below.refl _ _)⟩
  case round =>
    obtain ⟨i, j, hij, hj, rfl, rfl, HB, Hb⟩ := hrel
    have hzr := Hb.out.size
    by_cases hlt : i < j
    · have hhm : (i + j) / 2 < m := by omega
      obtain ⟨b, o, rfl, hbl⟩ := Hptr.out.2.2 (by omega)
      obtain ⟨x, hx⟩ : ∃ x, R[(i + j) / 2]? = some x := ⟨_, List.getElem?_eq_getElem (by rw [Hptr.out.1]; exact hhm)⟩
      obtain ⟨k0, k1, k2, k3, k4, k5⟩ := ky_cells (HR.out.later Hb.out) hx
      have hxi : (R.map (·.name))[(i + j) / 2]? = some x.name := by rw [List.getElem?_map, hx]; rfl
      have HCx := Lib.hid (HC.out x)
      rw [B_list] at HCx
      have hbr : b < wr.heap.size := by omega
      cases hl : ltL x.name t with
      | true =>
        have HB2 := Lib.hid (betw_up Ha.out HB.out hxi hl)
        have hc : cmpL x.name t = -1 := by unfold cmpL; rw [if_pos hl]
        rw [Ht.out, hc] at HCx
        clear hl hxi hc hx HB
        generalize B x.name = nm at *
        generalize B x.dflt = df at *
        generalize B x.letter = lt at *
        generalize x.kind = kk at *
        generalize x.least = le at *
        generalize x.most = mo at *
        go_wp2_with fail
        refine (HCx.out _).mono ?_
        rintro e w1 ⟨rfl, hb1⟩
        have Hb1 := Lib.hid (then_bel Hb.out hb1)
        clear hb1
        go_wp2_with fail
        go_roundw
        case rel => exact ⟨(i + j) / 2 + 1, j, by omega, hj, by go_num, rfl, HB2, Hb1⟩
        case measure => simp [intOf]; omega
      | false =>
        have HB2 := Lib.hid (betw_dn Ha.out HB.out hxi hl)
        have hc : ∃ z : Int, cmpL x.name t = z ∧ 0 ≤ z := by
          unfold cmpL; rw [if_neg (by rw [hl]; simp)]; split
          · exact ⟨0, rfl, by omega⟩
          · exact ⟨1, rfl, by omega⟩
        obtain ⟨z, hc, hz0⟩ := hc
        rw [Ht.out, hc] at HCx
        clear hl hxi hc hx HB
        generalize B x.name = nm at *
        generalize B x.dflt = df at *
        generalize B x.letter = lt at *
        generalize x.kind = kk at *
        generalize x.least = le at *
        generalize x.most = mo at *
        have hz1 : decide (z < 0) = false := by rw [decide_eq_false_iff_not]; omega
        have hz2 : ¬ (z < 0) := by omega
        go_wp2_with fail
        refine (HCx.out _).mono ?_
        rintro e w1 ⟨rfl, hb1⟩
        have Hb1 := Lib.hid (then_bel Hb.out hb1)
        clear hb1
        go_wp2_with fail
        go_roundw
        case rel => exact ⟨i, (i + j) / 2, by omega, by omega, rfl, by go_num, HB2, Hb1⟩
        case measure => simp [intOf]; omega
    · obtain rfl : i = j := by omega
      have hF := betw_end (by rw [List.length_map, Hptr.out.1]; exact hj) HB.out
      by_cases h5 : i < m
      · obtain ⟨b, o, rfl, hbl⟩ := Hptr.out.2.2 (by omega)
        obtain ⟨x, hx⟩ : ∃ x, R[i]? = some x := ⟨_, List.getElem?_eq_getElem (by rw [Hptr.out.1]; exact h5)⟩
        obtain ⟨k0, k1, k2, k3, k4, k5⟩ := ky_cells (HR.out.later Hb.out) hx
        have hxi : (R.map (·.name))[i]? = some x.name := by rw [List.getElem?_map, hx]; rfl
        have HCx := Lib.hid (HC.out x)
        rw [B_list] at HCx
        have hbr : b < wr.heap.size := by omega
        rw [hxi] at hF
        have hl := (HB.out i _ hxi).2 (Nat.le_refl _)
        have hc : ∃ z : Int, cmpL x.name t = z ∧ decide (z = 0) = decide (some x.name = some t) := by
          unfold cmpL; rw [if_neg (by rw [hl]; simp)]; split
          · exact ⟨0, rfl, by simp [*]⟩
          · exact ⟨1, rfl, by simp [*]⟩
        obtain ⟨z, hc, hz0⟩ := hc
        rw [Ht.out, hc] at HCx
        rw [← hz0] at hF
        have HF := Lib.hid hF
        clear hl hxi hc hx HB hF hz0
        generalize B x.name = nm at *
        generalize B x.dflt = df at *
        generalize B x.letter = lt at *
        generalize x.kind = kk at *
        generalize x.least = le at *
        generalize x.most = mo at *
        have h5' : decide ((i : Int) < (m : Int)) = true := by simp; omega
        have h5i : (i : Int) < (m : Int) := by omega
        have h50 : (0 : Int) ≤ (i : Int) := by omega
        go_wp2_with fail
        refine (HCx.out _).mono ?_
        rintro e w1 ⟨rfl, hb1⟩
        have Hb1 := Lib.hid (then_bel Hb.out hb1)
        clear hb1
        go_wp2_with fail
        go_ret2
        exact ⟨⟨_, _, rfl, HF.out⟩, Hb1.out⟩
      · obtain rfl : i = m := by omega
        have h5' : decide ((i : Int) < (i : Int)) = false := by simp
        rw [List.getElem?_eq_none (by rw [List.length_map, Hptr.out.1]; exact Nat.le_refl _)] at hF
        have HF := Lib.hid hF
        clear HB hF
        go_wp2_with fail
        go_ret2
        exact ⟨⟨_, _, rfl, HF.out⟩, Hb.out⟩
/-- A set of definitions at block b: they ascend, and lie in a block of their own. -/
structure SetK (M : Nat) (w : World) (b : Nat) (S : List Ky) : Prop where
  lo : M ≤ b
  len : S.length ≤ 64
  asc : AscK S
  ok : ∀ x ∈ S, KyOk x
  blk : ∃ v, w.heap[b]? = some (.cells #[v] 151 (0, 0)) ∧ Blk 79 6 M w v S.length (rw.flat kyC S)
theorem SetK.later {M : Nat} {w w' : World} {b : Nat} {S : List Ky} (h : SetK M w b S) (hb : Below w.heap.size w w') : SetK M w' b S := by
  obtain ⟨h1, h2, h3, h4, v, hv, hB⟩ := h
  exact ⟨h1, h2, h3, h4, v, (hb.block b (lt_of_block hv)).trans hv, hB.later hb⟩
theorem SetK.lt {M : Nat} {w : World} {b : Nat} {S : List Ky} (h : SetK M w b S) : b < w.heap.size := by
  obtain ⟨_, _, _, _, v, hv, _⟩ := h
  exact lt_of_block hv
set_option maxHeartbeats 4000000 in
set_option maxRecDepth 100000 in
theorem found_any (M b : Nat) (S : List Ky) (t : List UInt8) (w : World) (hS : SetK M w b S) :
    Calls Tryz.prog 85 #[.pointer (some ⟨b, 0, none⟩), .string (B t)] w fun e w' => (∃ k is, e = .returned (.tuple #[.int .i64 (k : Nat), .bool is]) ∧ FoundAt (S.map (·.name)) t k is) ∧ Below w.heap.size w w' := by
  obtain ⟨_, hlen, hasc, _, v, hb, hB⟩ := hS
  obtain ⟨p, c, rfl⟩ := hB.form
  have c0 : w.cell? ⟨b, 0, none⟩ = some (.slice p S.length c) := cell_in hb
  have HS := Lib.hid (bsearch_any p S.length c S t (by omega) hasc w (blk_rw hB))
  clear hb hlen hB
  generalize S.length = n at *
  generalize B t = tt at *
  go_enter Tryz.func85, Tryz.ntmps85
  go_wp2_with fail
  refine HS.out.mono ?_
  rintro e w1 ⟨⟨k, is, rfl, hF⟩, hb1⟩
  have HF := Lib.hid hF
  have Hb1 := Lib.hid hb1
  clear hF hb1
  go_wp2_with fail
  go_ret2
  exact ⟨⟨_, _, rfl, HF.out⟩, Hb1.out⟩
end Go.Proofs.YtbelnaiekbfoiaaGreatDoor.ky
/- A law for any program: a call of a Go function as one step of a region that draws its order. No program in sight; no conditions beside those stated. -/
namespace Go.Proofs.YtbelnaiekbfoiaaGreatDoor
open Go.RowKit
section
variable {P : Program}
/-- A function that has a Go body is entered. -/
theorem enters {f : FuncId} {fn : Func} (hf : P.funcs[f]? = some fn) (hname : (fn.name == "runtime.NumGoroutine") = false) (hb : fn.body.isSome = true) (args : Array Value) (w : World) : (callFunc f args).run P w = .ok (.enter f args) w := by
  obtain ⟨c, hc⟩ := Option.isSome_iff_exists.1 hb
  exact MuLone.run_callFunc_enter hf hname hc args w
/-- A call, as a step. -/
theorem step_call {ops : Array Oper} {o : Oper} {a : Act} {w : World} {K : Act → World → Prop} {Q : Exit → Act → World → Prop} {E : Prop} (hgd : o.guard = none) (f : FuncId) (xs : Array Operand) (ts : Array TypeId)
    (ho : o.op = .call { callee := .value (.func f), args := xs, argTypes := ts }) (eg : ∀ args w, (callFunc f args).run P w = .ok (.enter f args) w) (args : Array Value) (hargs' : xs.toList.map a.eval = args.toList) (v : Value) (R : World → Prop)
    (hc : Calls P f args w fun e w' => e = .returned v ∧ R w') (hK : ∀ w', R w' → K (a.put o.dst v) w') :
    if Region.wanted o (yielded ops a.tmps) = true then Oper.wp P o a w K Q else E := by
  have hargs : xs.map a.eval = args := by
    apply Array.ext'
    rw [Array.toList_map]
    exact hargs'
  have hw : Region.wanted o (yielded ops a.tmps) = true := by simp [Region.wanted, hgd]
  rw [if_pos hw]
  have hrun : (execOp a.eval o).run P w = .ok (.enter f args) w := by
    simp only [execOp, ho]
    have h1 : a.eval (.func f) = .func (.func f) #[] #[] := rfl
    simp only [resolve, h1, hargs]
    have := eg args w
    simpa [invoke, go_sem] using this
  unfold Oper.wp
  rw [hrun, Oper.upon_enter]
  refine hc.mono fun e w' h => ?_
  obtain ⟨rfl, h⟩ := h
  exact hK w' h
/-- A call that returns or panics, as a step. -/
theorem step_call_or {ops : Array Oper} {o : Oper} {a : Act} {w : World} {K : Act → World → Prop} {Q : Exit → Act → World → Prop} {E : Prop} (hgd : o.guard = none) (f : FuncId) (xs : Array Operand) (ts : Array TypeId)
    (ho : o.op = .call { callee := .value (.func f), args := xs, argTypes := ts }) (eg : ∀ args w, (callFunc f args).run P w = .ok (.enter f args) w) (args : Array Value) (hargs' : xs.toList.map a.eval = args.toList) (e0 : Ending) (chain : List PanicEntry) (he0 : e0 = .panicked chain) (v : Value) (R R2 : World → Prop)
    (hc : Calls P f args w fun e w' => (e = e0 ∧ R w') ∨ (e = .returned v ∧ R2 w')) (hQ : ∀ w', R w' → Q (.panic chain) a w') (hK : ∀ w', R2 w' → K (a.put o.dst v) w') :
    if Region.wanted o (yielded ops a.tmps) = true then Oper.wp P o a w K Q else E := by
  have hargs : xs.map a.eval = args := by
    apply Array.ext'
    rw [Array.toList_map]
    exact hargs'
  have hw : Region.wanted o (yielded ops a.tmps) = true := by simp [Region.wanted, hgd]
  rw [if_pos hw]
  have hrun : (execOp a.eval o).run P w = .ok (.enter f args) w := by
    simp only [execOp, ho]
    have h1 : a.eval (.func f) = .func (.func f) #[] #[] := rfl
    simp only [resolve, h1, hargs]
    have := eg args w
    simpa [invoke, go_sem] using this
  unfold Oper.wp
  rw [hrun, Oper.upon_enter]
  refine hc.mono fun e w' h => ?_
  rcases h with ⟨rfl, h⟩ | ⟨rfl, h⟩
  · subst he0
    exact hQ w' h
  · exact hK w' h
end
end Go.Proofs.YtbelnaiekbfoiaaGreatDoor
/- Package key: the definition of a name, of a letter. Conditions: the set lies in memory as its list. -/
namespace Go.Proofs.YtbelnaiekbfoiaaGreatDoor.ky
open Go.ChangeShapes Go.WideShapes Go.ChangeAt Go.RowKit gl va ls

def foundV : Option Ky → Value
  | some x => .tuple #[kyV x, .bool true]
  | none => .tuple #[kyV zK, .bool false]
def idxI : Option Nat → Int
  | some k => k
  | none => -1
theorem results_cell_row2 {P : Program} {fn : Func} {p u : Tmp} {ty : TypeId} (h : fn.results = #[.cell p ty, .tmp u]) (tmps : Array Value) (w : World) (g : Nat) (t : TypeId) (cs : Array Value) (fr : Nat × Nat) (d : TypeDesc)
    (hp : tmps.getD p undef = .pointer (some ⟨g, 0, none⟩)) (hg : w.heap[g]? = some (.cells cs t fr))
    (hu : P.underlying ty = some d) (hd : (match d with | .struct _ | .array _ _ => true | _ => false) = true) (hi : (P.info? ty).map (·.size) = some cs.size) :
    (results fn tmps).run P w = .ok (.tuple #[.agg cs, tmps.getD u undef]) w := by
  have hp' : tmps[p]?.getD undef = .pointer (some ⟨g, 0, none⟩) := by simpa using hp
  simp [results, h, hp', asAddr, run_loadVar_row w g t ty cs fr d hg hu hd hi]
/-- A definition stored into a block. -/
theorem stored {w : World} {g : Nat} {c0 c1 c2 c3 c4 c5 : Value} (h : w.heap[g]? = some (.cells #[c0, c1, c2, c3, c4, c5] 79 (0, 0))) (v0 v1 v2 v3 v4 v5 : Value) :
    ((((((w.setCell ⟨g, 0, none⟩ v0).setCell ⟨g, 1, none⟩ v1).setCell ⟨g, 2, none⟩ v2).setCell ⟨g, 3, none⟩ v3).setCell ⟨g, 4, none⟩ v4).setCell ⟨g, 5, none⟩ v5).heap[g]? = some (.cells #[v0, v1, v2, v3, v4, v5] 79 (0, 0)) :=
  heap_set (o := 5) (heap_set (o := 4) (heap_set (o := 3) (heap_set (o := 2) (heap_set (o := 1) (heap_set (o := 0) h v0) v1) v2) v3) v4) v5
theorem stored_bel {w w1 : World} {B g : Nat} (h : Below B w w1) (hg : B ≤ g) (v0 v1 v2 v3 v4 v5 : Value) :
    Below B w ((((((w1.setCell ⟨g, 0, none⟩ v0).setCell ⟨g, 1, none⟩ v1).setCell ⟨g, 2, none⟩ v2).setCell ⟨g, 3, none⟩ v3).setCell ⟨g, 4, none⟩ v4).setCell ⟨g, 5, none⟩ v5) :=
  (((((h.setCell (p := ⟨g, 0, none⟩) hg v0).setCell (p := ⟨g, 1, none⟩) hg v1).setCell (p := ⟨g, 2, none⟩) hg v2).setCell (p := ⟨g, 3, none⟩) hg v3).setCell (p := ⟨g, 4, none⟩) hg v4).setCell (p := ⟨g, 5, none⟩) hg v5
def fL (t : List UInt8) (x : Ky) : Bool := !decide (t = []) && decide (x.letter = t)
theorem find_idx (p : Ky → Bool) : ∀ S : List Ky, (S.findIdx? p = none → S.find? p = none) ∧ ∀ k, S.findIdx? p = some k → ∃ x, S[k]? = some x ∧ S.find? p = some x
  | [] => ⟨fun _ => rfl, fun k h => by simp at h⟩
  | y :: r => by
    obtain ⟨h1, h2⟩ := find_idx p r
    rw [List.findIdx?_cons, List.find?_cons]
    cases hy : p y with
    | true => exact ⟨fun h => by simp at h, fun k h => by simp at h; subst h; exact ⟨y, rfl, rfl⟩⟩
    | false =>
      refine ⟨fun h => h1 (by simpa using h), fun k h => ?_⟩
      simp only [Bool.false_eq_true, if_false, Option.map_eq_some_iff] at h
      obtain ⟨j, hj, rfl⟩ := h
      obtain ⟨x, hx, hf⟩ := h2 j hj
      exact ⟨x, by simpa using hx, hf⟩
theorem lett_find (S : List Ky) (t : List UInt8) : lettK S t = S.find? (fL t) := by
  unfold lettK fL
  by_cases h : t = []
  · rw [if_pos h]
    symm
    rw [List.find?_eq_none]
    intro x _
    simp [h]
  · rw [if_neg h]
    congr 1
    funext x
    simp [h]
theorem idxF_none (p : Option Addr) (c : Nat) (g : Nat) (lb : Array Value) (w : World) : Calls Tryz.prog 134 #[.slice p 0 c, .func (.func g) #[] lb] w fun e w' => e = .returned (.int .i64 (-1)) ∧ w = w' := by
  go_enter Tryz.func134, Tryz.ntmps134
  go_wp2_with fail
  refine wp_loop_rounds 1 ?_
  rw [rounds_succ]
  go_wp2_with fail
  go_ret
  exact ⟨rfl, rfl⟩
instance : Inhabited Ky := ⟨zK⟩
theorem idx_any (f : Ky → Bool) (g : Nat) (lb : Array Value) (eg : ∀ args w, (callFunc g args).run Tryz.prog w = .ok (.enter g args) w) (p : Option Addr) (m c : Nat) (l : List Ky) (hm : m ≤ 4294967295) (w : World) (h : rw.Rw kyC 6 w (.slice p m c) l)
    (hp : ∀ (W : World) (x : Ky), Below w.heap.size w W → Calls Tryz.prog g (#[.agg #[.string (B x.name), .int .i64 x.kind, .string (B x.dflt), .int .i64 x.least, .int .i64 x.most, .string (B x.letter)]] ++ lb) W fun e w' => e = .returned (.bool (f x)) ∧ Below w.heap.size w w') :
    Calls Tryz.prog 134 #[.slice p m c, .func (.func g) #[] lb] w fun e w' => e = .returned (.int .i64 (idxI (l.findIdx? f))) ∧ Below w.heap.size w w' := by
  obtain ⟨hlen, hmc, hptr⟩ := h.ptr
  rcases Nat.eq_zero_or_pos m with h0 | h0
  · subst h0
    obtain rfl : l = [] := List.length_eq_zero_iff.1 hlen
    refine (idxF_none p c g lb w).mono ?_
    rintro e w' ⟨rfl, rfl⟩
    exact ⟨rfl, Below.refl _ _⟩
  · obtain ⟨b, o, rfl, hb⟩ := hptr h0
    refine (AnyQ.slices_IndexFunc Tryz.idxKy 6 Tryz.isAgg79 Tryz.sizeOf79 kyC kyC_len f g lb eg b o m c l w hp (by omega) (by omega) hb (fun j hj i v hv => ?_)).mono ?_
    · rw [getElem!_pos l j hj] at hv
      have := h.cell (List.getElem?_eq_getElem hj) hv
      rw [Nat.add_assoc]
      exact this
    · rintro e w' ⟨rfl, hb'⟩
      refine ⟨?_, hb'⟩
      have ht : l.take m = l := by rw [← hlen]; exact List.take_length
      rw [ht]
      have hi : ∀ (r : List Ky) (i : Nat), Lib.idxByFrom (fun _ y => f y) default r i = match r.findIdx? f with | some k => ((i + k : Nat) : Int) | none => -1 := by
        intro r
        induction r with
        | nil => intro i; rfl
        | cons y r ih =>
          intro i
          rw [Lib.idxByFrom, List.findIdx?_cons]
          cases hy : f y with
          | true => simp
          | false =>
            rw [if_neg (by simp), if_neg (by simp), ih (i + 1)]
            cases r.findIdx? f with
            | none => rfl
            | some k => show ((i + 1 + k : Nat) : Int) = ((i + (k + 1) : Nat) : Int); congr 1; omega
      have hi0 : Lib.idxBy (fun _ y => f y) l default = idxI (l.findIdx? f) := by
        rw [Lib.idxBy, hi l 0]
        unfold idxI
        cases l.findIdx? f with
        | none => rfl
        | some k => simp
      rw [hi0]
theorem str_eq (l m : List UInt8) : ((B l).toList == (B m).toList) = decide (l = m) := by
  rw [ByteArray.toList_eq, ByteArray.toList_eq, Bool.eq_iff_iff, beq_iff_eq, decide_eq_true_iff]
  try simp
set_option maxHeartbeats 1000000 in
theorem letter1_any (x : Ky) (t : List UInt8) (bt : Nat) (w : World) (h1 : w.cell? ⟨bt, 0, none⟩ = some (.string (B t))) :
    Calls Tryz.prog 135 #[.agg #[.string (B x.name), .int .i64 x.kind, .string (B x.dflt), .int .i64 x.least, .int .i64 x.most, .string (B x.letter)], .pointer (some ⟨bt, 0, none⟩)] w fun e w' => e = .returned (.bool (fL t x)) ∧ Below w.heap.size w w' := by
  have hbt : bt < w.heap.size := World.block_lt_of_cell? _ _ h1
  have e1 := str_eq x.letter t
  have e2 : ((B t).toList == (⟨#[]⟩ : ByteArray).toList) = decide (t = []) := str_eq t []
  have e3 : ((B t).toList != (⟨#[]⟩ : ByteArray).toList) = !decide (t = []) := by rw [bne, e2]
  have e4 : (B t).toList.isEmpty = decide (t = []) := by rw [ByteArray.toList_eq]; cases t <;> simp
  have hr : Hid (∀ a b : Bool, decide (t = []) = a → decide (x.letter = t) = b → fL t x = (!a && b)) := Lib.hid fun a b h h' => by unfold fL; rw [h, h']
  have hb : Below w.heap.size w (w.alloc (.cells #[.string (B x.name), .int .i64 x.kind, .string (B x.dflt), .int .i64 x.least, .int .i64 x.most, .string (B x.letter)] 79)) := (Below.refl _ _).alloc (Nat.le_refl _) _
  have Hb := Lib.hid hb
  clear hb
  obtain ⟨a, ha⟩ : ∃ a, decide (t = []) = a := ⟨_, rfl⟩
  obtain ⟨b, hb⟩ : ∃ b, decide (x.letter = t) = b := ⟨_, rfl⟩
  rw [hr.out a b ha hb]
  rw [ha] at e2 e3 e4
  rw [hb] at e1
  clear ha hb hr
  generalize B t = tt at *
  generalize B x.name = nm at *
  generalize B x.dflt = df at *
  generalize B x.letter = lt at *
  cases a <;> cases b
  all_goals
    go_enter Tryz.func135, Tryz.ntmps135
    go_wp2_with fail
    go_ret
    exact ⟨rfl, Hb.out⟩
theorem eg65 (args : Array Value) (w : World) : (callFunc 135 args).run Tryz.prog w = .ok (.enter 135 args) w := enters Tryz.func135 (by kernel_rfl) (by kernel_rfl) args w
theorem SetK.form {M : Nat} {w : World} {b : Nat} {S : List Ky} (h : SetK M w b S) : ∃ p c, w.heap[b]? = some (.cells #[.slice p S.length c] 151 (0, 0)) ∧ rw.Rw kyC 6 w (.slice p S.length c) S := by
  obtain ⟨_, _, _, _, v, hv, hB⟩ := h
  obtain ⟨p, c, rfl⟩ := hB.form
  exact ⟨p, c, hv, blk_rw hB⟩
end Go.Proofs.YtbelnaiekbfoiaaGreatDoor.ky
/- Package key: the definition of a letter. Conditions: the set lies in memory as its list. -/
namespace Go.Proofs.YtbelnaiekbfoiaaGreatDoor.ky
open Go.ChangeShapes Go.WideShapes Go.ChangeAt Go.RowKit gl va ls

set_option maxHeartbeats 4000000 in
set_option maxRecDepth 100000 in
theorem Letter_any (M b : Nat) (S : List Ky) (t : List UInt8) (w : World) (hS : SetK M w b S) :
    Calls Tryz.prog 86 #[.pointer (some ⟨b, 0, none⟩), .string (B t)] w fun e w' => e = .returned (foundV (lettK S t)) ∧ Below w.heap.size w w' := by
  rw [lett_find]
  obtain ⟨wA, hA⟩ : ∃ wA, wA = (w.alloc (.cells #[.string (B t)] 9)).alloc (.cells #[.string ⟨#[]⟩, .int .i64 0, .string ⟨#[]⟩, .int .i64 0, .int .i64 0, .string ⟨#[]⟩] 79) := ⟨_, rfl⟩
  have tA : wA.heap[w.heap.size]? = some (.cells #[.string (B t)] 9 (0, 0)) := by
    rw [hA]
    exact (((Below.refl _ (w.alloc (.cells #[.string (B t)] 9))).alloc (Nat.le_refl _) _).block w.heap.size (by simp)).trans (heap_alloc_new w _)
  have kA : wA.heap[w.heap.size + 1]? = some (.cells #[.string ⟨#[]⟩, .int .i64 0, .string ⟨#[]⟩, .int .i64 0, .int .i64 0, .string ⟨#[]⟩] 79 (0, 0)) := by
    have h := heap_alloc_new (w.alloc (.cells #[.string (B t)] 9)) (.cells #[.string ⟨#[]⟩, .int .i64 0, .string ⟨#[]⟩, .int .i64 0, .int .i64 0, .string ⟨#[]⟩] 79)
    rw [World.size_alloc] at h
    rw [hA]; exact h
  have hbA : Below w.heap.size w wA := by rw [hA]; exact ((Below.refl _ _).alloc (Nat.le_refl _) _).alloc (by simp) _
  obtain ⟨p, c, hblk, hrw⟩ := hS.form
  have HF := Lib.hid (idx_any (fL t) 135 #[.pointer (some ⟨w.heap.size, 0, none⟩)] eg65 p S.length c S (by have := hS.len; omega) wA (hrw.later hbA) (fun W x hW => by
    have hc : W.cell? ⟨w.heap.size, 0, none⟩ = some (.string (B t)) := (hW.cell (p := ⟨w.heap.size, 0, none⟩) (lt_of_block tA)).trans (cell_in tA)
    exact (letter1_any x t w.heap.size W hc).mono fun e w' h => ⟨h.1, then_bel hW h.2⟩))
  have HP := Lib.hid hrw.ptr.2.2
  have HR := Lib.hid hrw
  have HkA := Lib.hid kA
  have HbA := Lib.hid hbA
  have HA := Lib.hid hA
  have Hblk := Lib.hid hblk
  have HFI := Lib.hid (find_idx (fL t) S)
  have c00 : w.cell? ⟨b, 0, none⟩ = some (.slice p S.length c) := cell_in hblk
  have hbA' : b < w.heap.size := lt_of_block hblk
  have hlen := hS.len
  clear kA hbA hA hrw hblk hS tA
  generalize htt : B t = tt at *
  clear htt
  go_enter Tryz.func86, Tryz.ntmps86
  go_wp2_with fail
  rw [← HA.out]
  refine HF.out.mono ?_
  rintro e w1 ⟨rfl, hb1⟩
  have Hb1 := Lib.hid (then_bel HbA.out hb1)
  have hk1 := (hb1.block _ (lt_of_block HkA.out)).trans HkA.out
  clear c00
  have a0 : w1.cell? ⟨w.heap.size + 1, 0, none⟩ = some (.string ⟨#[]⟩) := cell_in hk1
  have a1 : w1.cell? ⟨w.heap.size + 1, 1, none⟩ = some (.int .i64 0) := cell_in hk1
  have a2 : w1.cell? ⟨w.heap.size + 1, 2, none⟩ = some (.string ⟨#[]⟩) := cell_in hk1
  have a3 : w1.cell? ⟨w.heap.size + 1, 3, none⟩ = some (.int .i64 0) := cell_in hk1
  have a4 : w1.cell? ⟨w.heap.size + 1, 4, none⟩ = some (.int .i64 0) := cell_in hk1
  have a5 : w1.cell? ⟨w.heap.size + 1, 5, none⟩ = some (.string ⟨#[]⟩) := cell_in hk1
  have f0 : w1.frozen? ⟨w.heap.size + 1, 0, none⟩ = false := free_in hk1
  have f1 : w1.frozen? ⟨w.heap.size + 1, 1, none⟩ = false := free_in hk1
  have f2 : w1.frozen? ⟨w.heap.size + 1, 2, none⟩ = false := free_in hk1
  have f3 : w1.frozen? ⟨w.heap.size + 1, 3, none⟩ = false := free_in hk1
  have f4 : w1.frozen? ⟨w.heap.size + 1, 4, none⟩ = false := free_in hk1
  have f5 : w1.frozen? ⟨w.heap.size + 1, 5, none⟩ = false := free_in hk1
  have hgw1 : w.heap.size + 1 < w1.heap.size := lt_of_block hk1
  rcases hi : S.findIdx? (fL t) with _ | k
  · have Hf := Lib.hid (HFI.out.1 hi)
    have hz : idxI (none : Option Nat) = -1 := rfl
    rw [hz]
    clear hi hz
    have Hk2 := Lib.hid (stored hk1 (.string ⟨#[]⟩) (.int .i64 0) (.string ⟨#[]⟩) (.int .i64 0) (.int .i64 0) (.string ⟨#[]⟩))
    clear hk1 hb1
    go_wp2_with fail
    refine bodyPost_ret (results_cell_row2 rfl _ _ (w.heap.size + 1) 79 _ _ _ rfl Hk2.out Tryz.underlying79 rfl (by kernel_rfl)) rfl ?_
    refine ⟨?_, stored_bel Hb1.out (by omega) _ _ _ _ _ _⟩
    rw [Hf.out]
    rfl
  · obtain ⟨x, hx, hf⟩ := HFI.out.2 k hi
    have Hf := Lib.hid hf
    have hz : idxI (some k) = (k : Int) := rfl
    rw [hz]
    clear hf hi hz
    have hkl : k < S.length := lt_get hx
    obtain ⟨bp, op, rfl, hbp⟩ := HP.out (by omega)
    obtain ⟨k0, k1, k2, k3, k4, k5⟩ := ky_cells (HR.out.later Hb1.out) hx
    have c0 : w1.cell? ⟨b, 0, none⟩ = some (.slice (some ⟨bp, op, none⟩) S.length c) := cell_in ((Hb1.out.block b (lt_of_block Hblk.out)).trans Hblk.out)
    have hbw : b < w1.heap.size := by have := lt_of_block Hblk.out; have := Hb1.out.size; omega
    have hbr : bp < w1.heap.size := by have := Hb1.out.size; omega
    have hki : (k : Int) < (S.length : Int) := by omega
    have hk5 : (0 : Int) ≤ (k : Int) := by omega
    have hlt0 : decide ((k : Int) < 0) = false := by simp
    have hlt1 : ¬ ((k : Int) < 0) := by omega
    have Hk2 := Lib.hid (stored hk1 (.string (B x.name)) (.int .i64 x.kind) (.string (B x.dflt)) (.int .i64 x.least) (.int .i64 x.most) (.string (B x.letter)))
    have HV : Hid (foundV (some x) = .tuple #[.agg #[.string (B x.name), .int .i64 x.kind, .string (B x.dflt), .int .i64 x.least, .int .i64 x.most, .string (B x.letter)], .bool true]) := Lib.hid rfl
    clear hk1 hb1 hx hkl
    generalize B x.name = nm at *
    generalize B x.dflt = df at *
    generalize B x.letter = lt at *
    generalize x.kind = kk at *
    generalize x.least = le at *
    generalize x.most = mo at *
    go_wp2_with fail
    refine bodyPost_ret (results_cell_row2 rfl _ _ (w.heap.size + 1) 79 _ _ _ rfl Hk2.out Tryz.underlying79 rfl (by kernel_rfl)) rfl ?_
    refine ⟨?_, stored_bel Hb1.out (by omega) _ _ _ _ _ _⟩
    rw [Hf.out, HV.out]
    rfl
end Go.Proofs.YtbelnaiekbfoiaaGreatDoor.ky
/- Laws for any program: a call of a Go function, whatever it gives, as one step of a region that draws its order; slices.Clone of any list. No program in sight; no conditions beside those stated. -/
namespace Go.Proofs.YtbelnaiekbfoiaaGreatDoor
open Go.RowKit
section
variable {P : Program}
/-- A call, as a step. -/
theorem step_callE {ops : Array Oper} {o : Oper} {a : Act} {w : World} {K : Act → World → Prop} {Q : Exit → Act → World → Prop} {E : Prop} (hgd : o.guard = none) (f : FuncId) (xs : Array Operand) (ts : Array TypeId)
    (ho : o.op = .call { callee := .value (.func f), args := xs, argTypes := ts }) (eg : ∀ args w, (callFunc f args).run P w = .ok (.enter f args) w) (args : Array Value) (hargs' : xs.toList.map a.eval = args.toList) (R : Value → World → Prop)
    (hc : Calls P f args w fun e w' => ∃ v, e = .returned v ∧ R v w') (hK : ∀ v w', R v w' → K (a.put o.dst v) w') :
    if Region.wanted o (yielded ops a.tmps) = true then Oper.wp P o a w K Q else E := by
  have hargs : xs.map a.eval = args := by
    apply Array.ext'
    rw [Array.toList_map]
    exact hargs'
  have hw : Region.wanted o (yielded ops a.tmps) = true := by simp [Region.wanted, hgd]
  rw [if_pos hw]
  have hrun : (execOp a.eval o).run P w = .ok (.enter f args) w := by
    simp only [execOp, ho]
    have h1 : a.eval (.func f) = .func (.func f) #[] #[] := rfl
    simp only [resolve, h1, hargs]
    have := eg args w
    simpa [invoke, go_sem] using this
  unfold Oper.wp
  rw [hrun, Oper.upon_enter]
  refine hc.mono fun e w' h => ?_
  obtain ⟨v, rfl, h⟩ := h
  exact hK v w' h
open Go.Shelf ls in
set_option maxRecDepth 100000 in
theorem clone_list {ρ : Ren} (L : SlLaysE0.n41 P ρ) {α : Type} {enc : α → List Value} {k : Nat} (hk : ∀ x, (enc x).length = k) (h1 : ∀ x, ∀ v ∈ enc x, v.oneCell' = true) (hk0 : 0 < k) {z : Value} {bytes : Nat}
    (hi : (P.info? (ρ.t 23)).map (fun i => (i.zero, i.size, i.bytes)) = some (some z, k, bytes)) (hzs : z.cells.size = k) (hby : bytes ≤ 1024) (z23 : ∀ w, (Go.sizeOf (ρ.t 23)).run P w = .ok k w)
    (p : Option Addr) (m c : Nat) (l : List α) (hm : m ≤ 4294967295) (w : World) (h : rw.Rw enc k w (.slice p m c) l) :
    Calls P (ρ.f 41) #[.slice p m c] w fun e w' => ∃ v, e = .returned v ∧ w'.ownsRow w.heap.size (ρ.t 23) k v m (rw.flat enc l) ∧ Below w.heap.size w w' := by
  obtain ⟨hlen, hmc, hptr⟩ := h.ptr
  obtain ⟨i0, hi0, hi1⟩ := Option.map_eq_some_iff.1 hi
  simp only [Prod.mk.injEq] at hi1
  obtain ⟨hz, hs, hb⟩ := hi1
  rcases Nat.eq_zero_or_pos m with h0 | h0
  · subst h0
    obtain rfl : l = [] := List.length_eq_zero_iff.1 hlen
    cases p with
    | none =>
      refine (AnyE.slices_Clone_nil L 0 c w).mono ?_
      rintro e w' ⟨rfl, rfl⟩
      exact ⟨_, rfl, ⟨by simp [rw.flat], .inl ⟨rfl, rfl⟩⟩, Below.refl _ _⟩
    | some a =>
      have mixed := L.mixed; have t4 := L.t4; have a4 := L.a4; have z4 := L.z4; have v4 := L.v4; have t22 := L.t22; have a22 := L.a22; have z22 := L.z22; have v22 := L.v22
      have q22 : ∀ (w : World) (a : Option Addr) (n c n' c' : Nat), (binOp .eql (ρ.t 22) (.slice a n c) (.slice none n' c')).run P w = .ok (.bool a.isNone) w := fun w a n c n' c' => Lib.run_eql_slice_nil w _ _ a n c n' c' L.t22
      have u22 : ∀ w, Sem.run P (underlying (ρ.t 22)) w = .ok (TypeDesc.slice (ρ.t 23)) w := run_underlying t22
      have qs : (some a).isNone = false := rfl
      obtain ⟨_, _, FG⟩ := L.f41
      go_enter FG, SlBodyN.n41_ntmps ρ
      go_wp2_with fail
      go_ret
      exact ⟨_, rfl, World.ownsRow_made w #[] 0 (Nat.le_refl _) (Nat.zero_le _) (by simp), (Below.refl _ _).alloc (Nat.le_refl _) _⟩
  · obtain ⟨b, o, rfl, hbl⟩ := hptr h0
    have hmul : m * bytes ≤ 140737488355328 := Nat.le_trans (Nat.mul_le_mul hm hby) (by decide)
    refine (AnyE.slices_Clone L i0 _ k bytes hi0 hz hs hb hzs hk0 z23 b o m c (rw.flat enc l) w (by rw [rw.flat_len hk, hlen]) (by unfold maxLen; omega) hmul (fun j u hu => ?_) (fun u hu => rw.flat_one h1 l u hu)).mono ?_
    · have hj : j < l.length * k := by have := (List.getElem?_eq_some_iff.1 hu).1; rwa [rw.flat_len hk] at this
      have hq : j / k < l.length := (Nat.div_lt_iff_lt_mul hk0).2 hj
      have hr : j % k < (enc l[j / k]).length := by rw [hk]; exact Nat.mod_lt _ hk0
      have h2 := rw.flat_at hk l (j / k) _ (j % k) _ (List.getElem?_eq_getElem hq) (List.getElem?_eq_getElem hr)
      have he : j / k * k + j % k = j := by rw [Nat.mul_comm]; exact Nat.div_add_mod j k
      rw [he] at h2
      have h3 := h.cell (List.getElem?_eq_getElem hq) (List.getElem?_eq_getElem hr)
      rw [he] at h3
      rw [h3, ← h2]
      exact hu
    · rintro e w' ⟨v, rfl, hv, _, hb'⟩
      exact ⟨v, rfl, hv, hb'⟩
end
end Go.Proofs.YtbelnaiekbfoiaaGreatDoor
/- Package key: All. Conditions: the set lies in memory as its list. -/
namespace Go.Proofs.YtbelnaiekbfoiaaGreatDoor.ky
open Go.ChangeShapes Go.WideShapes Go.ChangeAt Go.RowKit gl va ls

abbrev Kys (w : World) (v : Value) (l : List Ky) : Prop := rw.Rw kyC 6 w v l
abbrev NewKs (M : Nat) (w : World) (v : Value) (l : List Ky) : Prop := rw.NewRw kyC 6 79 M w v l
set_option maxRecDepth 100000 in
theorem clip_any (p : Option Addr) (n c : Nat) (hn : n ≤ c) (hc : n ≤ 4294967295) (w : World) : Calls Tryz.prog 121 #[.slice p n c] w fun e w' => e = .returned (.slice p n n) ∧ w = w' := by
  have h1 : (n : Int) ≤ (c : Int) := by omega
  have h2 : (0 : Int) ≤ (n : Int) := by omega
  go_enter Tryz.func121, Tryz.ntmps121
  go_wp2_with fail
  go_ret
  exact ⟨rfl, rfl⟩
theorem clone_any (p : Option Addr) (m c : Nat) (l : List Ky) (hm : m ≤ 4294967295) (w : World) (h : Kys w (.slice p m c) l) :
    Calls Tryz.prog 48 #[.slice p m c] w fun e w' => (∃ p' c', e = .returned (.slice p' m c') ∧ m ≤ c' ∧ NewKs w.heap.size w' (.slice p' m m) l) ∧ Below w.heap.size w w' := by
  have hl := h.ptr.1
  refine (clone_list Tryz.cloneKy kyC_len kyC_one (by decide) infoK rfl (by decide) Tryz.sizeOf79 p m c l hm w h).mono ?_
  rintro e w' ⟨v, rfl, hv, hb⟩
  have hn := rw.own_new kyC_len (by decide) hv
  obtain ⟨p', c', rfl⟩ := hn.form
  rw [hl] at hn ⊢
  exact ⟨⟨p', c', rfl, (hn.rw kyC_len).ptr.2.1, hn.clip⟩, hb⟩
set_option maxHeartbeats 1000000 in
theorem All_any (M b : Nat) (S : List Ky) (w : World) (hS : SetK M w b S) :
    Calls Tryz.prog 70 #[.pointer (some ⟨b, 0, none⟩)] w fun e w' => (∃ p, e = .returned (.slice p S.length S.length) ∧ NewKs w.heap.size w' (.slice p S.length S.length) S) ∧ Below w.heap.size w w' := by
  obtain ⟨p, c, hblk, hrw⟩ := hS.form
  have c0 : w.cell? ⟨b, 0, none⟩ = some (.slice p S.length c) := cell_in hblk
  have hb : b < w.heap.size := lt_of_block hblk
  have hlen := hS.len
  have HC := Lib.hid (clone_any p S.length c S (by omega) w hrw)
  clear hblk hrw hS
  go_enter Tryz.func70, Tryz.ntmps70
  go_wp2_with fail
  refine HC.out.mono ?_
  rintro e w1 ⟨⟨p1, c1, rfl, hc1, hn1⟩, hb1⟩
  have HN1 := Lib.hid hn1
  have Hb1 := Lib.hid hb1
  clear hn1 hb1
  go_wp2_with fail
  refine (clip_any p1 S.length c1 hc1 (by omega) w1).mono ?_
  rintro e w2 ⟨rfl, rfl⟩
  go_wp2_with fail
  go_ret
  exact ⟨⟨_, rfl, HN1.out⟩, Hb1.out⟩
end Go.Proofs.YtbelnaiekbfoiaaGreatDoor.ky
/- value.cut returns the plain function. Conditions: the listed variables hold what the program's text lays; the text is no longer than 2147483647 bytes. -/
namespace Go.Proofs.YtbelnaiekbfoiaaGreatDoor.va
open Go.ChangeShapes Go.WideShapes Go.ChangeAt Go.RowKit gl

theorem digs_48 {s : ByteArray} (h : s.data.toList = [48]) : s.data.toList.take (digs s.data.toList) = s.data.toList := by rw [h]; rfl
theorem take_ba (s : ByteArray) (k : Nat) : (s.extract 0 k).data.toList = s.data.toList.take k := by rw [Lib.extract_data]; simp
theorem drop_ba (s : ByteArray) (k : Nat) : (s.extract k s.size).data.toList = s.data.toList.drop k := by rw [Lib.extract_data]; rw [List.take_of_length_le (by simp)]
theorem cut_pred (w : World) : PredAt Tryz.prog 219 #[] encR (fun r => decide (r < 48 ∨ 57 < r)) w := fun W r _ => (cutp_any r W).mono fun _ _ ⟨he, hw⟩ => ⟨he, 0, hw⟩
theorem idx_cut (s : ByteArray) (w : World) : Calls Tryz.prog 218 #[.string s, .func (.func 219) #[] #[]] w fun e w' => e = .returned (.int .i64 (if digs s.data.toList = s.size then -1 else (digs s.data.toList : Int))) ∧ Below w.heap.size w w' := by
  refine (Tryz.strings_IndexFunc 219 #[] (enters_of Tryz.func219 (by kernel_rfl) rfl) _ s w (cut_pred w)).mono ?_
  rintro e w' ⟨rfl, hb⟩
  refine ⟨?_, hb⟩
  unfold Lib.idxFunc
  rw [idx_digs s s.size 0 (by omega) (by omega) (fun j b h => by omega)]

theorem sb_drew {w1 wp : World} (h : Hid (Below w1.heap.size w1 wp)) : Hid (Below w1.heap.size w1 wp.drew) := Lib.hid h.out.drew
theorem sb_call {w1 wp w' : World} (h : Hid (Below w1.heap.size w1 wp)) (hb : Below wp.heap.size wp w') : Hid (Below w1.heap.size w1 w') := Lib.hid (h.out.trans (hb.mono h.out.size))
theorem sb_vlo {w1 wp : World} (hV : Vlo w1) (h : Hid (Below w1.heap.size w1 wp)) : Vlo wp := hV.below h.out (Nat.le_refl _)

set_option maxHeartbeats 400000 in
set_option maxRecDepth 100000 in
theorem cut_any (k : Int) (s : ByteArray) (_hs : s.size ≤ 2147483647) (w : World) (hV : Vlo w) :
    Calls Tryz.prog 178 #[.int .i64 k, .string s] w fun e w' => (∃ t : ByteArray, t.data.toList = s.data.toList.take (digs s.data.toList) ∧ e = .returned (.tuple #[.string t, .int .i64 (tail k s.data.toList)])) ∧ Below w.heap.size w w' := by
  have HV := Lib.hid hV
  clear hV
  have hdl : digs s.data.toList ≤ s.size := by have := digs_le s.data.toList; simpa using this
  have H48 : Hid (k = 4 → s.data.toList = [48] → tail k s.data.toList = 1) := Lib.hid (fun h h2 => by unfold tail; rw [if_pos ⟨h, h2⟩])
  have Hel : Hid (¬ (k = 4 ∧ s.data.toList = [48]) → tail k s.data.toList = unit k (s.data.toList.drop (digs s.data.toList))) := Lib.hid (fun h => by unfold tail; rw [if_neg h])
  have hidx := idx_cut s w
  have Ht := Lib.hid (take_ba s (digs s.data.toList))
  have Hd := Lib.hid (drop_ba s (digs s.data.toList))
  have H4 := Lib.hid (@digs_48 s)
  generalize digs s.data.toList = d at *
  generalize tail k s.data.toList = m at *
  have hU := fun (W : World) (hb : Vlo W) => Unit_any k (s.extract d s.size) W hb.units
  have HU := Lib.hid hU
  clear hU
  by_cases hk : k = 4 ∧ s.data.toList = [48]
  · obtain ⟨rfl, h48⟩ := hk
    have hlit : (s.toList == [48]) = true := seq_lit h48
    have Hr : Hid (s.data.toList = s.data.toList.take d) := Lib.hid (H4.out h48).symm
    have Hm : Hid (m = 1) := Lib.hid (H48.out rfl h48)
    clear h48
    by_cases hds : d = s.size
    · rw [if_pos hds] at hidx
      go_enter Tryz.func178, Tryz.ntmps178
      go_wp2_with fail
      refine hidx.mono ?_
      rintro e w1 ⟨rfl, hb1⟩
      go_wp2_with fail
      go_ret2
      exact ⟨⟨s, Hr.out, by rw [Hm.out]; rfl⟩, hb1⟩
    · rw [if_neg hds] at hidx
      go_enter Tryz.func178, Tryz.ntmps178
      go_wp2_with fail
      refine hidx.mono ?_
      rintro e w1 ⟨rfl, hb1⟩
      go_wp2_with fail
      go_ret2
      exact ⟨⟨s, Hr.out, by rw [Hm.out]; rfl⟩, hb1⟩
  · have Hm : Hid (m = unit k (s.data.toList.drop d)) := Lib.hid (Hel.out hk)
    have htest : (k == 4) = false ∨ ((k == 4) = true ∧ (s.toList == [48]) = false) := by
      by_cases h4 : k = 4
      · exact .inr ⟨by simp [h4], seq_nlit fun e => hk ⟨h4, e⟩⟩
      · exact .inl (by simp [h4])
    clear hk
    have go : ∀ (i : Int) (hi : i = (d : Int)), True := fun _ _ => trivial
    clear go
    have hidx2 : Calls Tryz.prog 218 #[.string s, .func (.func 219) #[] #[]] w fun e w' => (∃ i : Int, e = .returned (.int .i64 i) ∧ ((i = -1 ∧ d = s.size) ∨ (i = (d : Int)))) ∧ Below w.heap.size w w' := hidx.mono (by
      rintro e w' ⟨rfl, hb⟩
      refine ⟨⟨_, rfl, ?_⟩, hb⟩
      split
      · exact .inl ⟨rfl, by assumption⟩
      · exact .inr rfl)
    clear hidx
    rcases htest with h4 | ⟨h4, h5⟩
    all_goals
      go_enter Tryz.func178, Tryz.ntmps178
      go_wp2_with fail
      refine hidx2.mono ?_
      rintro e w1 ⟨⟨i, rfl, hi⟩, hb1⟩
      have HB1 := Lib.hid hb1
      have HV1 := Lib.hid (HV.out.below hb1 (Nat.le_refl _))
      clear hb1 hidx2
      rcases hi with ⟨rfl, hd⟩ | rfl
      · have Ht2 : Hid (s.data.toList = s.data.toList.take d) := Lib.hid (by rw [hd, List.take_of_length_le (by simp)])
        have HUd : Hid (∀ W, Vlo W → Calls Tryz.prog 103 #[.int .i64 k, .string ByteArray.empty] W fun e w' => e = .returned (.int .i64 m) ∧ Below W.heap.size W w') := Lib.hid fun W hW => (Unit_any k ByteArray.empty W hW.units).mono fun e w' ⟨he, hb⟩ => ⟨by rw [he, Hm.out, hd, List.drop_of_length_le (by simp)]; rfl, hb⟩
        clear hd
        go_wp2_with fail
        have hSt : Hid (Below w1.heap.size w1 w1) := Lib.hid (Below.refl _ _)
        go_region_held3 (fun w' => Hid (Below w1.heap.size w1 w'))
          (first | assumption | exact sb_drew (by assumption))
          (first | (go_at_call 103; refine (HUd.out _ (sb_vlo HV1.out (by assumption))).mono ?_; rintro e w' ⟨rfl, hb⟩; have hS' := sb_call (by assumption) hb; clear hb))
        all_goals
          rename_i hH
          go_wp2_with fail
          go_ret2
          exact ⟨⟨s, Ht2.out, rfl⟩, HB1.out.trans (hH.out.mono HB1.out.size)⟩
      · have HUd : Hid (∀ W, Vlo W → Calls Tryz.prog 103 #[.int .i64 k, .string (s.extract d s.size)] W fun e w' => e = .returned (.int .i64 m) ∧ Below W.heap.size W w') := Lib.hid fun W hW => (HU.out W hW).mono fun e w' ⟨he, hb⟩ => ⟨by rw [he, Hm.out, Hd.out], hb⟩
        go_wp2_with fail
        have hSt : Hid (Below w1.heap.size w1 w1) := Lib.hid (Below.refl _ _)
        go_region_held3 (fun w' => Hid (Below w1.heap.size w1 w'))
          (first | assumption | exact sb_drew (by assumption))
          (first | (go_at_call 103; refine (HUd.out _ (sb_vlo HV1.out (by assumption))).mono ?_; rintro e w' ⟨rfl, hb⟩; have hS' := sb_call (by assumption) hb; clear hb))
        all_goals
          rename_i hH
          go_wp2_with fail
          go_ret2
          exact ⟨⟨_, Ht.out, rfl⟩, HB1.out.trans (hH.out.mono HB1.out.size)⟩

end Go.Proofs.YtbelnaiekbfoiaaGreatDoor.va
/- value.parseBool, parseText, parseWords return plain functions. Conditions: the listed variables hold what the program's text lays; the text is no longer than 2147483647 bytes. -/
namespace Go.Proofs.YtbelnaiekbfoiaaGreatDoor.va
open Go.ChangeShapes Go.WideShapes Go.ChangeAt Go.RowKit gl

/-- The result's cells stand where they were laid. -/
theorem res_cells {w w1 : World} {a b c d : Value} {t : TypeId} (hb : Below (w.alloc (.cells #[a, b, c, d] t)).heap.size (w.alloc (.cells #[a, b, c, d] t)) w1) :
    (w1.cell? ⟨w.heap.size, 0, none⟩ = some a ∧ w1.cell? ⟨w.heap.size, 1, none⟩ = some b ∧ w1.cell? ⟨w.heap.size, 2, none⟩ = some c ∧ w1.cell? ⟨w.heap.size, 3, none⟩ = some d) ∧
    (w1.frozen? ⟨w.heap.size, 0, none⟩ = false ∧ w1.frozen? ⟨w.heap.size, 1, none⟩ = false ∧ w1.frozen? ⟨w.heap.size, 2, none⟩ = false ∧ w1.frozen? ⟨w.heap.size, 3, none⟩ = false) := by
  have h : w1.heap[w.heap.size]? = some (.cells #[a, b, c, d] t (0, 0)) := (hb.block _ (by simp)).trans (heap_alloc_new w _)
  have hc := fun j => cell_of_row w1 w.heap.size j _ _ _ h
  have hf := fun j => frozen_of_row w1 w.heap.size j _ _ h
  exact ⟨⟨hc 0, hc 1, hc 2, hc 3⟩, hf 0, hf 1, hf 2, hf 3⟩
/-- The result is written. -/
theorem four_done {w1 W : World} {b : Nat} {o0 o1 o2 o3 v0 v1 v2 v3 : Value} {t : TypeId} {f : Nat × Nat} (h : w1.heap[b]? = some (.cells #[o0, o1, o2, o3] t f))
    (hW : (((w1.setCell ⟨b, 0, none⟩ v0).setCell ⟨b, 1, none⟩ v1).setCell ⟨b, 2, none⟩ v2).setCell ⟨b, 3, none⟩ v3 = W) :
    (W.cell? ⟨b, 0, none⟩ = some v0 ∧ W.cell? ⟨b, 1, none⟩ = some v1 ∧ W.cell? ⟨b, 2, none⟩ = some v2 ∧ W.cell? ⟨b, 3, none⟩ = some v3) ∧ W.heap.size = w1.heap.size ∧ (∀ (k : Nat), k ≠ b → W.heap[k]? = w1.heap[k]?) ∧ (∀ (n : Nat) (w : World), Below n w w1 → n ≤ b → Below n w W) := by
  have h0 := heap_set (o := 0) h v0
  have h1 := heap_set (o := 1) h0 v1
  have h2 := heap_set (o := 2) h1 v2
  have h3 := heap_set (o := 3) h2 v3
  rw [hW] at h3
  have hc := fun j => cell_of_row W b j _ _ _ h3
  refine ⟨⟨hc 0, hc 1, hc 2, hc 3⟩, by rw [← hW]; simp [World.setCell], fun k hk => ?_, fun n w hb hn => ?_⟩
  · rw [← hW]
    exact (((Below.heap_setCell _ ⟨b, 3, none⟩ v3 k hk).trans (Below.heap_setCell _ ⟨b, 2, none⟩ v2 k hk)).trans (Below.heap_setCell _ ⟨b, 1, none⟩ v1 k hk)).trans (Below.heap_setCell _ ⟨b, 0, none⟩ v0 k hk)
  · rw [← hW]
    exact (((hb.setCell (p := ⟨b, 0, none⟩) hn v0).setCell (p := ⟨b, 1, none⟩) hn v1).setCell (p := ⟨b, 2, none⟩) hn v2).setCell (p := ⟨b, 3, none⟩) hn v3
theorem new_block {w w1 : World} {o : Obj} (hb : Below (w.alloc o).heap.size (w.alloc o) w1) : w1.heap[w.heap.size]? = (w.alloc o).heap[w.heap.size]? := hb.block _ (by simp)
/-- What Parse returns: a value, its words in a slice, an error's number. -/
def res (r : Val × Int) (sl : Value) : Value := .tuple #[rep r.1 sl, .int .i64 r.2]

theorem pb_yes {l : List UInt8} (h : (l == [116, 114, 117, 101]) = true ∨ (l == [121, 101, 115]) = true ∨ (l == [111, 110]) = true) : parseBool l = (⟨1, 1, ByteArray.empty, []⟩, 0) := by
  rcases h with h | h | h <;> rw [eq_of_beq h] <;> rfl
theorem pb_no {l : List UInt8} (h : (l == [102, 97, 108, 115, 101]) = true ∨ (l == [110, 111]) = true ∨ (l == [111, 102, 102]) = true) : parseBool l = (⟨1, 0, ByteArray.empty, []⟩, 0) := by
  rcases h with h | h | h <;> rw [eq_of_beq h] <;> rfl
theorem pb_none {l : List UInt8} (h1 : (l == [116, 114, 117, 101]) = false) (h2 : (l == [121, 101, 115]) = false) (h3 : (l == [111, 110]) = false) (h4 : (l == [102, 97, 108, 115, 101]) = false) (h5 : (l == [110, 111]) = false) (h6 : (l == [111, 102, 102]) = false) :
    parseBool l = (zero, 40) := by
  rw [beq_eq_false_iff_ne] at h1 h2 h3 h4 h5 h6
  unfold parseBool
  rw [show yes l = false from decide_eq_false (fun h => h.elim h1 fun h => h.elim h2 h3), show no l = false from decide_eq_false (fun h => h.elim h4 fun h => h.elim h5 h6)]
  rfl
theorem parseBool_any (s : ByteArray) (w : World) :
    Calls Tryz.prog 122 #[.string s] w fun e w' => e = .returned (res (parseBool s.data.toList) (.slice none 0 0)) ∧ Below w.heap.size w w' := by
  rw [← ByteArray.toList_eq s]
  cases h1 : (s.toList == [116, 114, 117, 101]) with
  | true =>
    have H := Lib.hid (pb_yes (.inl h1))
    go_enter Tryz.func122, Tryz.ntmps122
    go_wp2
    go_returns
    exact ⟨by rw [H.out]; rfl, by go_grown⟩
  | false =>
    cases h2 : (s.toList == [121, 101, 115]) with
    | true =>
      have H := Lib.hid (pb_yes (.inr (.inl h2)))
      go_enter Tryz.func122, Tryz.ntmps122
      go_wp2
      go_returns
      exact ⟨by rw [H.out]; rfl, by go_grown⟩
    | false =>
      cases h3 : (s.toList == [111, 110]) with
      | true =>
        have H := Lib.hid (pb_yes (.inr (.inr h3)))
        go_enter Tryz.func122, Tryz.ntmps122
        go_wp2
        go_returns
        exact ⟨by rw [H.out]; rfl, by go_grown⟩
      | false =>
        cases h4 : (s.toList == [102, 97, 108, 115, 101]) with
        | true =>
          have H := Lib.hid (pb_no (.inl h4))
          go_enter Tryz.func122, Tryz.ntmps122
          go_wp2
          go_returns
          exact ⟨by rw [H.out]; rfl, by go_grown⟩
        | false =>
          cases h5 : (s.toList == [110, 111]) with
          | true =>
            have H := Lib.hid (pb_no (.inr (.inl h5)))
            go_enter Tryz.func122, Tryz.ntmps122
            go_wp2
            go_returns
            exact ⟨by rw [H.out]; rfl, by go_grown⟩
          | false =>
            cases h6 : (s.toList == [111, 102, 102]) with
            | true =>
              have H := Lib.hid (pb_no (.inr (.inr h6)))
              go_enter Tryz.func122, Tryz.ntmps122
              go_wp2
              go_returns
              exact ⟨by rw [H.out]; rfl, by go_grown⟩
            | false =>
              have H := Lib.hid (pb_none h1 h2 h3 h4 h5 h6)
              go_enter Tryz.func122, Tryz.ntmps122
              go_wp2
              go_returns
              exact ⟨by rw [H.out]; rfl, by go_grown⟩

set_option maxHeartbeats 1000000 in
theorem parseText_any (s : ByteArray) (w : World) :
    Calls Tryz.prog 124 #[.string s] w fun e w' => e = .returned (res (parseText s.data.toList) (.slice none 0 0)) ∧ Below w.heap.size w w' := by
  have hp := fun W => printable_any s W
  have HE : Hid (∀ b, prnAll s.data.toList = b → parseText s.data.toList = if b then (if 200 < s.size then (zero, 42) else (⟨5, 0, s, []⟩, 0)) else (zero, 40)) := Lib.hid (by
    rintro b rfl
    unfold parseText prnAll
    rw [show s.data.toList.length = s.size by simp, B_toList])
  generalize prnAll s.data.toList = b at *
  have He := Lib.hid (HE.out b rfl)
  clear HE
  cases b with
  | false =>
    go_enter Tryz.func124, Tryz.ntmps124
    go_wp2_with fail
    refine (hp _).mono ?_
    rintro e w1 ⟨rfl, hb⟩
    have Hb := Lib.hid hb
    have Hblk := Lib.hid ((new_block hb).trans (heap_alloc_new w _))
    obtain ⟨⟨c0, c1, c2, c3⟩, f0, f1, f2, f3⟩ := res_cells hb
    clear hb
    go_wp2_with fail
    generalize hW : World.setCell (World.setCell (World.setCell (World.setCell w1 _ _) _ _) _ _) _ _ = W
    obtain ⟨⟨g0, g1, g2, g3⟩, _, _, hbel⟩ := four_done Hblk.out hW
    have HB := Lib.hid (hbel w.heap.size w ((((Below.refl _ w).alloc (Nat.le_refl _) _)).trans (Hb.out.mono (by simp))) (Nat.le_refl _))
    clear hW hbel
    (try simp only [Exit.inBlock, Exit.then])
    refine bodyPost_ret (by simp [results, Tryz.results124, go_sem, g0, g1, g2, g3]; try rfl) rfl ?_
    exact ⟨by rw [He.out]; rfl, HB.out⟩
  | true =>
    by_cases h200 : 200 < s.size
    · have He2 := Lib.hid (He.out.trans ((if_pos rfl).trans (if_pos h200)))
      go_enter Tryz.func124, Tryz.ntmps124
      go_wp2_with fail
      refine (hp _).mono ?_
      rintro e w1 ⟨rfl, hb⟩
      have Hb := Lib.hid hb
      have Hblk := Lib.hid ((new_block hb).trans (heap_alloc_new w _))
      obtain ⟨⟨c0, c1, c2, c3⟩, f0, f1, f2, f3⟩ := res_cells hb
      clear hb
      go_wp2_with fail
      generalize hW : World.setCell (World.setCell (World.setCell (World.setCell w1 _ _) _ _) _ _) _ _ = W
      obtain ⟨⟨g0, g1, g2, g3⟩, _, _, hbel⟩ := four_done Hblk.out hW
      have HB := Lib.hid (hbel w.heap.size w ((((Below.refl _ w).alloc (Nat.le_refl _) _)).trans (Hb.out.mono (by simp))) (Nat.le_refl _))
      clear hW hbel
      (try simp only [Exit.inBlock, Exit.then])
      refine bodyPost_ret (by simp [results, Tryz.results124, go_sem, g0, g1, g2, g3]; try rfl) rfl ?_
      exact ⟨by rw [He2.out]; rfl, HB.out⟩
    · have He2 := Lib.hid (He.out.trans ((if_pos rfl).trans (if_neg h200)))
      go_enter Tryz.func124, Tryz.ntmps124
      go_wp2_with fail
      refine (hp _).mono ?_
      rintro e w1 ⟨rfl, hb⟩
      have Hb := Lib.hid hb
      have Hblk := Lib.hid ((new_block hb).trans (heap_alloc_new w _))
      obtain ⟨⟨c0, c1, c2, c3⟩, f0, f1, f2, f3⟩ := res_cells hb
      clear hb
      go_wp2_with fail
      generalize hW : World.setCell (World.setCell (World.setCell (World.setCell w1 _ _) _ _) _ _) _ _ = W
      obtain ⟨⟨g0, g1, g2, g3⟩, _, _, hbel⟩ := four_done Hblk.out hW
      have HB := Lib.hid (hbel w.heap.size w ((((Below.refl _ w).alloc (Nat.le_refl _) _)).trans (Hb.out.mono (by simp))) (Nat.le_refl _))
      clear hW hbel
      (try simp only [Exit.inBlock, Exit.then])
      refine bodyPost_ret (by simp [results, Tryz.results124, go_sem, g0, g1, g2, g3]; try rfl) rfl ?_
      exact ⟨by rw [He2.out]; rfl, HB.out⟩

end Go.Proofs.YtbelnaiekbfoiaaGreatDoor.va
