/- Laws on memory for any program: an append to a slice that lies at the head of a block, with room behind it or none. No program in sight; no conditions beside those stated. -/
import Derived.Test.YtpfhhaonfbfheaaGreatDoorApp
import Derived.Test.YtpfhhaonfbfheaaGreatDoorRow
namespace Go.Proofs.YtpfhhaonfbfheaaGreatDoor
open Go.RowKit ls
/-- A slice at the head of a block from M on: n elements of k cells, these cells. -/
def Blk (T : TypeId) (k M : Nat) (w : World) (v : Value) (n : Nat) (xs : List Value) : Prop :=
  xs.length = n * k ∧ ((v = .slice none 0 0 ∧ n = 0) ∨ ∃ g c cs, v = .slice (some ⟨g, 0, none⟩) n c ∧ n ≤ c ∧ M ≤ g ∧ w.heap[g]? = some (.cells cs T (0, 0)) ∧ c * k ≤ cs.size ∧ cs.toList.take (n * k) = xs)
/-- Each block of cells is one still, of as many cells. -/
def Sh (w w' : World) : Prop := ∀ (g : Nat) (cs : Array Value) (T : TypeId), w.heap[g]? = some (.cells cs T (0, 0)) → ∃ cs', w'.heap[g]? = some (.cells cs' T (0, 0)) ∧ cs'.size = cs.size
theorem Sh.refl (w : World) : Sh w w := fun _ cs _ h => ⟨cs, h, rfl⟩
theorem Sh.trans {a b c : World} (h : Sh a b) (h2 : Sh b c) : Sh a c := fun g cs T hg => by
  obtain ⟨c1, e1, e2⟩ := h g cs T hg
  obtain ⟨c2, e3, e4⟩ := h2 g c1 T e1
  exact ⟨c2, e3, e4.trans e2⟩
theorem Sh.of_below {w w' : World} (h : Below w.heap.size w w') : Sh w w' := fun g cs _ hg => ⟨cs, (h.block g (lt_of_block hg)).trans hg, rfl⟩
theorem Sh.alloc (w : World) (o : Obj) : Sh w (w.alloc o) := Sh.of_below ((Below.refl _ _).alloc (Nat.le_refl _) o)
theorem Sh.setCells {w : World} {b : Nat} {cs : Array Value} {T : TypeId} (hb : w.heap[b]? = some (.cells cs T (0, 0))) (o : Nat) (vs : List Value) : Sh w (w.setCells b o vs) := fun g c U hg => by
  by_cases h : g = b
  · subst h
    rw [hg] at hb
    cases hb
    exact ⟨_, heap_setCells vs w _ o hg, setR_size _ _ _⟩
  · exact ⟨c, (heap_setCells_ne h vs w o).trans hg, rfl⟩
theorem Sh.setCell {w : World} {b : Nat} {cs : Array Value} {T : TypeId} (hb : w.heap[b]? = some (.cells cs T (0, 0))) (o : Nat) (u : Value) : Sh w (w.setCell ⟨b, o, none⟩ u) := Sh.setCells hb o [u]
theorem Sh.of_none {w w' : World} (h : w.grownBy w' none) : Sh w w' := fun g cs _ hg => ⟨cs, (h.block g (lt_of_block hg) (by simp)).trans hg, rfl⟩
theorem Blk.of_own {T : TypeId} {k M : Nat} {w : World} {v : Value} {n : Nat} {xs : List Value} (h : w.ownsRow M T k v n xs) : Blk T k M w v n xs := by
  refine ⟨h.1, ?_⟩
  rcases h.2 with h | ⟨g, c, cs, e, h1, h2, h3, _, h5, h6⟩
  · exact .inl h
  · exact .inr ⟨g, c, cs, e, h3, h1, h2, by omega, h6⟩
theorem Blk.mono {T : TypeId} {k M M' : Nat} {w : World} {v : Value} {n : Nat} {xs : List Value} (h : Blk T k M w v n xs) (hM : M' ≤ M) : Blk T k M' w v n xs := by
  refine ⟨h.1, ?_⟩
  rcases h.2 with h | ⟨g, c, cs, e, h3, h1, h2⟩
  · exact .inl h
  · exact .inr ⟨g, c, cs, e, h3, by omega, h2⟩
theorem Blk.later {T : TypeId} {k M : Nat} {w w' : World} {v : Value} {n : Nat} {xs : List Value} (h : Blk T k M w v n xs) (hb : Below w.heap.size w w') : Blk T k M w' v n xs := by
  refine ⟨h.1, ?_⟩
  rcases h.2 with h | ⟨g, c, cs, e, h3, h1, h2, h4⟩
  · exact .inl h
  · exact .inr ⟨g, c, cs, e, h3, h1, (hb.block g (lt_of_block h2)).trans h2, h4⟩
/-- Whatever it holds. -/
theorem Blk.sh {T : TypeId} {k M : Nat} {w w' : World} {v : Value} {n : Nat} {xs : List Value} (h : Blk T k M w v n xs) (hs : Sh w w') : ∃ ys, Blk T k M w' v n ys := by
  obtain ⟨h0, h | ⟨g, c, cs, e, h3, h1, h2, h4, h5⟩⟩ := h
  · exact ⟨xs, h0, .inl h⟩
  · obtain ⟨cs', e1, e2⟩ := hs g cs T h2
    refine ⟨cs'.toList.take (n * k), ?_, .inr ⟨g, c, cs', e, h3, h1, e1, by omega, rfl⟩⟩
    rw [List.length_take, Array.length_toList, e2]
    have := Nat.mul_le_mul_right k h3
    omega
theorem Blk.form {T : TypeId} {k M : Nat} {w : World} {v : Value} {n : Nat} {xs : List Value} (h : Blk T k M w v n xs) : ∃ p c, v = .slice p n c := by
  rcases h.2 with ⟨rfl, rfl⟩ | ⟨g, c, cs, rfl, _⟩
  · exact ⟨_, _, rfl⟩
  · exact ⟨_, _, rfl⟩
theorem Blk.cell {T : TypeId} {k M : Nat} {w : World} {g c n : Nat} {xs : List Value} (h : Blk T k M w (.slice (some ⟨g, 0, none⟩) n c) n xs) {o : Nat} {u : Value} (hu : xs[o]? = some u) : w.cell? ⟨g, o, none⟩ = some u := by
  obtain ⟨_, ⟨h, _⟩ | ⟨g', c', cs, e, _, _, hb, _, ht⟩⟩ := h
  · cases h
  · cases e
    rw [cell_in hb, ← Array.getElem?_toList]
    rw [← ht, List.getElem?_take] at hu
    split at hu
    · exact hu
    · cases hu
theorem Blk.at_ {T : TypeId} {k M : Nat} {w : World} {p : Option Addr} {c n : Nat} {xs : List Value} (h : Blk T k M w (.slice p n c) n xs) (hn : 0 < n) : ∃ g cs, p = some ⟨g, 0, none⟩ ∧ M ≤ g ∧ n ≤ c ∧ w.heap[g]? = some (.cells cs T (0, 0)) ∧ c * k ≤ cs.size ∧ cs.toList.take (n * k) = xs := by
  obtain ⟨_, ⟨_, h⟩ | ⟨g, c', cs, e, h1, h2, hb, h3, ht⟩⟩ := h
  · omega
  · cases e
    exact ⟨g, cs, rfl, h2, h1, hb, h3, ht⟩
theorem take_setR {cs : Array Value} {n : Nat} {vs : List Value} (h : n + vs.length ≤ cs.size) : (setR cs n vs).toList.take (n + vs.length) = cs.toList.take n ++ vs := by
  have hc : cs.toList.length = cs.size := by simp
  have hc2 : (cs.toList.take n).length = n := by rw [List.length_take, hc]; omega
  refine List.ext_getElem? fun i => ?_
  by_cases h1 : i < n
  · rw [List.getElem?_take_of_lt (by omega), List.getElem?_append_left (by rw [hc2]; exact h1), List.getElem?_take_of_lt h1, Array.getElem?_toList, Array.getElem?_toList, setR_out vs cs n i (by omega)]
  · rw [List.getElem?_append_right (by omega), hc2]
    by_cases h2 : i < n + vs.length
    · rw [List.getElem?_take_of_lt h2, Array.getElem?_toList]
      have hv : vs[i - n]? = some (vs[i - n]'(by omega)) := List.getElem?_eq_getElem (by omega)
      have := setR_in vs cs n (by omega) (i - n) _ hv
      rw [show n + (i - n) = i by omega] at this
      rw [this, hv]
    · rw [List.getElem?_eq_none (by rw [List.length_take]; omega), List.getElem?_eq_none (by omega)]
section
variable {P : Program}
theorem run_append_blk (w : World) (t ty : TypeId) (M : Nat) (e : TypeId) (i : TypeInfo) (z : Value) (size bytes : Nat) (ht : P.underlying t = some (.slice e)) (hi : P.info? e = some i) (hz : i.zero = some z)
    (hsize : i.size = size) (hby : i.bytes = bytes) (hzs : z.cells.size = size) (hsz : 0 < size)
    (v : Value) (n : Nat) (xs : List Value) (hB : Blk e size M w v n xs) (y : Value) (m : Nat) (news : List Value) (hm : 0 < m) (hy : SrcV w y m news) (hl : news.length = m * size) (h1 : ∀ u ∈ news, u.oneCell' = true)
    (h63 : n + m ≤ maxLen) (hbytes : (n + m) * bytes ≤ 140737488355328) (hM : M ≤ w.heap.size) :
    ∃ p c w', (Builtin.append_ #[t, t] ty #[v, y]).run P w = .ok (.slice p (n + m) c) w' ∧ Blk e size M w' (.slice p (n + m) c) (n + m) (xs ++ news) ∧ w.grownBy w' v.ownBlock ∧ Sh w w' := by
  obtain ⟨h0, ⟨rfl, rfl⟩ | ⟨g, c, cs, rfl, hnc, hMg, hb, hcs, htake⟩⟩ := hB
  · obtain ⟨p, cap, w', hr, h2, h3⟩ := run_append_any (P := P) w t ty M e i z size bytes ht hi hz hsize hby hzs hsz (.slice none 0 0) 0 xs ⟨h0, .inl ⟨rfl, rfl⟩⟩ y m news hy hl h1 h63 hbytes hM
    exact ⟨p, cap, w', hr, Blk.of_own h2, h3, Sh.of_none h3⟩
  · rcases hy with ⟨h, _⟩ | ⟨_, ad, c', rfl, hc⟩
    · omega
    have hcut : ∀ (j : Nat) (u : Value), xs[j]? = some u → w.cell? ⟨g, j, none⟩ = some u := fun j u hj => by
      rw [cell_in hb, ← Array.getElem?_toList]
      rw [← htake, List.getElem?_take] at hj
      split at hj
      · exact hj
      · cases hj
    by_cases hroom : n + m ≤ c
    · have hsum : n * size + m * size ≤ cs.size := by
        have := Nat.mul_le_mul_right size hroom
        rw [Nat.add_mul] at this
        omega
      have hr := run_append_room_cells (P := P) w t ty e i ht hi g 0 n c ad m c' news (by rw [hl, hsize]) hc h1 hroom (fun j hj => by rw [cell_in hb, Nat.zero_add, hsize, Array.getElem?_eq_getElem (by omega)]; rfl) (fun j hj => free_in hb)
      rw [Nat.zero_add, hsize] at hr
      refine ⟨_, c, _, hr, ⟨by rw [List.length_append, h0, hl, Nat.add_mul], .inr ⟨g, c, setR cs (n * size) news, rfl, hroom, hMg, heap_setCells news w cs (n * size) hb, by rw [setR_size]; exact hcs, ?_⟩⟩, ?_, Sh.setCells hb _ _⟩
      · rw [Nat.add_mul, ← hl, take_setR (by omega), htake]
      · have hu := upd_setCells (S := [g]) (a := w) (g := g) (.inl (by simp)) news w (n * size) (Upd.refl _ _)
        exact ⟨hu.os, hu.tape, hu.output, hu.size, fun k hk hne => hu.block k hk (fun hm => hne (by rw [List.mem_singleton.1 hm]; rfl))⟩
    · obtain ⟨v', w', hr, h2, h3⟩ := run_append_arg_grows (P := P) w t ty e i z size bytes ht hi hz hsize hby hzs hsz ⟨g, 0, none⟩ n c xs h0 (fun j u hj => by rw [addN, Nat.zero_add]; exact hcut j u hj) ad m c' news hl hc (by omega) h63 hbytes
      obtain ⟨p, c2, rfl⟩ := Blk.form (Blk.of_own h2)
      exact ⟨p, c2, w', hr, (Blk.of_own h2).mono hM, ⟨h3.os, h3.tape, h3.output, h3.size, fun k hk _ => h3.block k hk (by simp)⟩, Sh.of_none h3⟩
theorem wpList_append_blk {ops : Array Oper} {rest : List Oper} {o : Oper} {a : Act} {w : World} {Q : Exit → Act → World → Prop} (hgd : o.guard = none) (s x : Operand) (t : TypeId)
    (ho : o.op = .call { callee := .builtin .append, args := #[s, x], argTypes := #[t, t] })
    (e : TypeId) (i : TypeInfo) (z : Value) (size bytes : Nat) (ht : P.underlying t = some (.slice e)) (hi : P.info? e = some i) (hz : i.zero = some z)
    (hsize : i.size = size) (hby : i.bytes = bytes) (hzs : z.cells.size = size) (hsz : 0 < size)
    (M : Nat) (v : Value) (n : Nat) (xs : List Value) (hs : a.eval s = v) (hB : Blk e size M w v n xs) (y : Value) (m : Nat) (news : List Value) (hm : 0 < m) (hx : a.eval x = y) (hy : SrcV w y m news) (hl : news.length = m * size)
    (h1 : ∀ u ∈ news, u.oneCell' = true) (h63 : n + m ≤ 9223372036854775807) (hbytes : (n + m) * bytes ≤ 140737488355328) (hM : M ≤ w.heap.size)
    (h : ∀ p c w', Blk e size M w' (.slice p (n + m) c) (n + m) (xs ++ news) → w.grownBy w' v.ownBlock → Sh w w' → wpList P ops Q rest (a.put o.dst (.slice p (n + m) c)) w') :
    wpList P ops Q (o :: rest) a w := by
  refine wpList_plain hgd fun K hK => ?_
  obtain ⟨p, c, w', hr, h2, h3, h4⟩ := run_append_blk (P := P) w t o.type M e i z size bytes ht hi hz hsize hby hzs hsz v n xs hB y m news hm hy hl h1 (by unfold maxLen; omega) hbytes hM
  unfold Oper.wp execOp
  simp only [ho, resolve, invoke, builtin, Sem.run_bind, Sem.run_pure, Result.andThen_ok, List.map_toArray, List.map_cons, List.map_nil, hs, hx, hr]
  exact hK _ _ (h p c w' h2 h3 h4)
end
/-- A list of its own, loosely. -/
theorem Blk.of_new {α : Type} {enc : α → List Value} {k : Nat} (hk : ∀ x, (enc x).length = k) {T : TypeId} {M : Nat} {w : World} {v : Value} {l : List α} (h : rw.NewRw enc k T M w v l) : Blk T k M w v l.length (rw.flat enc l) := by
  refine ⟨rw.flat_len hk l, ?_⟩
  rcases h with ⟨rfl, rfl⟩ | ⟨g, c, cs, rfl, hc, hg, hb, hcs, hat⟩
  · exact .inl ⟨rfl, rfl⟩
  · refine .inr ⟨g, c, cs, rfl, hc, hg, hb, hcs, ?_⟩
    refine List.ext_getElem? fun i => ?_
    by_cases hi : i < l.length * k
    · rw [List.getElem?_take_of_lt hi, Array.getElem?_toList]
      have h2 : (rw.flat enc l)[i]? = some ((rw.flat enc l)[i]'(by rw [rw.flat_len hk]; exact hi)) := List.getElem?_eq_getElem _
      have := hat i _ h2
      rw [Nat.zero_add] at this
      rw [this, h2]
    · rw [List.getElem?_eq_none (by rw [List.length_take]; omega), List.getElem?_eq_none (by rw [rw.flat_len hk]; omega)]
end Go.Proofs.YtpfhhaonfbfheaaGreatDoor
