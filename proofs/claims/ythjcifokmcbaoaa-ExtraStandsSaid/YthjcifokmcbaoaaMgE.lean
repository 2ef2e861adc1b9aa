/- Laws and contracts on which the statement rests, part E: each text says what it proves, and its conditions. -/
import Derived.Test.YthjcifokmcbaoaaMgD
import Derived.Test.YthjcifokmcbaoaaMgC
import Derived.RangeFuncNested
import Derived.RangeFuncBound
import Derived.RangeFuncCalls
import Derived.RangeFuncLeaves
import Derived.Shelf.Abstract
import Derived.Shelf.RegionOpen
import Derived.OwnWalkIn
import Derived.TacticsInMore
import Derived.LoopNIn
import Derived.LoopIn
/- Laws for any program: append of any elements, none too, to a slice at a block's head. No program in sight; no conditions beside those stated. -/
namespace Go.Proofs.Ythjcifokmcbaoaa
open Go.RowKit ls

section
variable {P : Program}
theorem run_append_blk0 (w : World) (t ty : TypeId) (M : Nat) (e : TypeId) (i : TypeInfo) (z : Value) (size bytes : Nat) (ht : P.underlying t = some (.slice e)) (hi : P.info? e = some i) (hz : i.zero = some z)
    (hsize : i.size = size) (hby : i.bytes = bytes) (hzs : z.cells.size = size) (hsz : 0 < size)
    (v : Value) (n : Nat) (xs : List Value) (hB : Blk e size M w v n xs) (y : Value) (m : Nat) (news : List Value) (hy : SrcV w y m news) (hl : news.length = m * size) (h1 : ∀ u ∈ news, u.oneCell' = true)
    (h63 : n + m ≤ maxLen) (hbytes : (n + m) * bytes ≤ 140737488355328) (hM : M ≤ w.heap.size) :
    ∃ p c w', (Builtin.append_ #[t, t] ty #[v, y]).run P w = .ok (.slice p (n + m) c) w' ∧ Blk e size M w' (.slice p (n + m) c) (n + m) (xs ++ news) ∧ w.grownBy w' v.ownBlock ∧ Sh w w' := by
  rcases Nat.eq_zero_or_pos m with rfl | hm
  · rcases hy with ⟨_, rfl, q, c, rfl⟩ | ⟨h, _⟩
    · obtain ⟨p, cap, hv, hle⟩ : ∃ p cap, v = .slice p n cap ∧ n ≤ cap := by
        rcases hB.2 with ⟨rfl, rfl⟩ | ⟨g, c', cs, rfl, h3, _⟩
        · exact ⟨_, _, rfl, Nat.le_refl _⟩
        · exact ⟨_, _, rfl, h3⟩
      subst hv
      have hsrc : Src P i.size t (.slice q 0 c) 0 [] w := by
        cases q with
        | none => exact Src.ofNil w ht c
        | some ad => exact Src.ofSlice w ht ad 0 c [] (by simp) (fun j u h => by simp at h) (fun u h => by simp at h)
      refine ⟨p, cap, w, run_append_nothing w t t ty e i ht hi p n cap hle _ hsrc, ?_, ⟨rfl, rfl, rfl, Nat.le_refl _, fun _ _ _ => rfl⟩, Sh.refl w⟩
      rw [List.append_nil]
      exact hB
    · omega
  · exact run_append_blk w t ty M e i z size bytes ht hi hz hsize hby hzs hsz v n xs hB y m news hm hy hl h1 h63 hbytes hM
theorem wpList_append_blk0 {ops : Array Oper} {rest : List Oper} {o : Oper} {a : Act} {w : World} {Q : Exit → Act → World → Prop} (hgd : o.guard = none) (s x : Operand) (t : TypeId)
    (ho : o.op = .call { callee := .builtin .append, args := #[s, x], argTypes := #[t, t] })
    (e : TypeId) (i : TypeInfo) (z : Value) (size bytes : Nat) (ht : P.underlying t = some (.slice e)) (hi : P.info? e = some i) (hz : i.zero = some z)
    (hsize : i.size = size) (hby : i.bytes = bytes) (hzs : z.cells.size = size) (hsz : 0 < size)
    (M : Nat) (v : Value) (n : Nat) (xs : List Value) (hs : a.eval s = v) (hB : Blk e size M w v n xs) (y : Value) (m : Nat) (news : List Value) (hx : a.eval x = y) (hy : SrcV w y m news) (hl : news.length = m * size)
    (h1 : ∀ u ∈ news, u.oneCell' = true) (h63 : n + m ≤ 9223372036854775807) (hbytes : (n + m) * bytes ≤ 140737488355328) (hM : M ≤ w.heap.size)
    (h : ∀ p c w', Blk e size M w' (.slice p (n + m) c) (n + m) (xs ++ news) → w.grownBy w' v.ownBlock → Sh w w' → wpList P ops Q rest (a.put o.dst (.slice p (n + m) c)) w') :
    wpList P ops Q (o :: rest) a w := by
  refine wpList_plain hgd fun K hK => ?_
  obtain ⟨p, c, w', hr, h2, h3, h4⟩ := run_append_blk0 (P := P) w t o.type M e i z size bytes ht hi hz hsize hby hzs hsz v n xs hB y m news hy hl h1 (by unfold maxLen; omega) hbytes hM
  unfold Oper.wp execOp
  simp only [ho, resolve, invoke, builtin, Sem.run_bind, Sem.run_pure, Result.andThen_ok, List.map_toArray, List.map_cons, List.map_nil, hs, hx, hr]
  exact hK _ _ (h p c w' h2 h3 h4)
end
theorem Blk.rw {α : Type} {enc : α → List Value} {k : Nat} (hk : ∀ x, (enc x).length = k) {T : TypeId} {M n : Nat} {w : World} {v : Value} {l : List α} (h : Blk T k M w v n (rw.flat enc l)) (hl : l.length = n) : rw.Rw enc k w v l := by
  subst hl
  obtain ⟨_, ⟨rfl, h0⟩ | ⟨g, c, cs, rfl, hc, _, hb, _, ht⟩⟩ := h
  · exact ⟨none, 0, by rw [h0], by omega, .inl (List.eq_nil_of_length_eq_zero h0)⟩
  · refine ⟨_, c, rfl, hc, .inr ⟨g, 0, rfl, lt_of_block hb, fun j x hx i u hu => ?_⟩⟩
    have h2 := rw.flat_at hk l j x i u hx hu
    rw [cell_in hb, Nat.zero_add, ← Array.getElem?_toList]
    rw [← ht, List.getElem?_take] at h2
    split at h2
    · exact h2
    · cases h2
end Go.Proofs.Ythjcifokmcbaoaa
/- Package extra: its moves, reckoned. No conditions. -/
namespace Go.Proofs.Ythjcifokmcbaoaa.st
open Go.ChangeShapes Go.WideShapes Go.WideMaps Go.ChangeMaps Go.ChangeAt Go.RowKit Go.Maps gl ls

/-! ### Plain -/
def keysX : List (List UInt8) := stepsX.map (·.1)
/-- What has come of a map's keys. -/
def Got (got : List (List UInt8)) (left : Lit → Bool) : Prop := got.Nodup ∧ (∀ k ∈ got, k ∈ keysX) ∧ ∀ k ∈ keysX, left (.string k) = !got.contains k
theorem got_start : Got [] (Maps.has mapX) := by
  refine ⟨List.nodup_nil, (fun k h => by cases h), fun k hk => ?_⟩
  simp only [keysX, stepsX, List.map_cons, List.map_nil, List.mem_cons, List.not_mem_nil, or_false] at hk
  rcases hk with rfl | rfl | rfl | rfl | rfl <;> rfl
theorem sameKey_self (t : List UInt8) : Lit.sameKey (.string t) (.string t) = true := by simp [Lit.sameKey]
theorem got_step {got : List (List UInt8)} {left : Lit → Bool} {t : List UInt8} (h : Got got left) (ht : t ∈ keysX) (hl : left (.string t) = true) : Got (got ++ [t]) (fun z => left z && !z.sameKey (.string t)) := by
  obtain ⟨h1, h2, h3⟩ := h
  have hn : t ∉ got := by
    have := h3 t ht
    rw [hl] at this
    simpa using this
  refine ⟨List.nodup_append.2 ⟨h1, by simp, fun a ha b hb => ?_⟩, fun k hk => ?_, fun k hk => ?_⟩
  · obtain rfl := List.mem_singleton.1 hb
    rintro rfl
    exact hn ha
  · rcases List.mem_append.1 hk with h | h
    · exact h2 k h
    · rw [List.mem_singleton.1 h]; exact ht
  · show (left (.string k) && !Lit.sameKey (.string k) (.string t)) = _
    rw [h3 k hk]
    by_cases he : k = t
    · subst he
      rw [sameKey_self]
      simp
    · rw [sameKey_ne (fun e => he (by injection e))]
      simp [he]
theorem got_end {got : List (List UInt8)} {left : Lit → Bool} (h : Got got left) (hl : ∀ k, left k = false) : got.Perm keysX := by
  obtain ⟨h1, h2, h3⟩ := h
  refine (List.perm_ext_iff_of_nodup h1 (by decide)).2 fun a => ⟨h2 a, fun ha => ?_⟩
  have := h3 a ha
  rw [hl] at this
  simpa using this
theorem keysX_asc : keysX.Pairwise fun a b => decide (a ≤ b) = true := by decide
theorem needsX_asc : ∀ i, i < 5 → (needsX (extraTo (stepsX.take i) []) ((stepsX[i]?).getD ([], ⟨0, [], [], [], []⟩)).2.table).Pairwise fun a b => decide (a ≤ b) = true := by decide +kernel
theorem extraTo_snoc : ∀ (l : List (List UInt8 × Sp)) (x : List UInt8 × Sp) (out : List Mv), extraTo (l ++ [x]) out = extraTo l out ++ [nextX (extraTo l out) x]
  | [], _, _ => rfl
  | _y :: r, x, _out => extraTo_snoc r x _
theorem extraTo_len : ∀ (l : List (List UInt8 × Sp)) (out : List Mv), (extraTo l out).length = out.length + l.length
  | [], out => by simp [extraTo]
  | y :: r, out => by rw [extraTo, extraTo_len r]; simp; omega
theorem extra_steps1 : ∀ (l : List (List UInt8 × Sp)) (out : List Mv), (∀ m ∈ out, m.steps.length = 1) → ∀ m ∈ extraTo l out, m.steps.length = 1
  | [], _, h => h
  | x :: r, out, h => extra_steps1 r _ fun m hm => by
    rcases List.mem_append.1 hm with h1 | h1
    · exact h m h1
    · rw [List.mem_singleton.1 h1]; rfl
/-- A row of moves, in blocks from M on. -/
def RowX (M : Nat) (w : World) (v : Value) (R : List MvR) (l : List Mv) : Prop := w.ownsRow M 31 3 v R.length (rw.flat mvC R) ∧ R.length = l.length ∧ ∀ (i : Nat) (r : MvR) (m : Mv), R[i]? = some r → l[i]? = some m → Goes M w r m
theorem own_laterX {w w' : World} {base n size : Nat} {e : TypeId} {v : Value} {xs : List Value} (h : w.ownsRow base e size v n xs) (hb : Below w.heap.size w w') : w'.ownsRow base e size v n xs := (Upd.of_below hb []).row h (fun _ _ hn => by cases hn)
theorem RowX.later {M : Nat} {w w' : World} {v : Value} {R : List MvR} {l : List Mv} (h : RowX M w v R l) (hb : Below w.heap.size w w') : RowX M w' v R l := ⟨own_laterX h.1 hb, h.2.1, fun i r m hr hm => (h.2.2 i r m hr hm).later hb⟩
theorem RowX.new {M : Nat} {w : World} {v : Value} {R : List MvR} {l : List Mv} (h : RowX M w v R l) : NewMv M w v R l := ⟨rw.own_new mvC_len (by decide) h.1, h.2.1, h.2.2⟩
theorem goes_farX {M : Nat} {w : World} {r : MvR} {m : Mv} (h : Goes M w r m) {k : Nat} {cs : Array Value} {T : TypeId} {f : Nat × Nat} (hk : w.heap[k]? = some (.cells cs T f)) (h1 : T ≠ 9) (h2 : T ≠ 35) {w' : World} (hg : w.grownBy w' (some k)) : Goes M w' r m := by
  obtain ⟨e, a, b⟩ := h
  refine ⟨e, ?_, ?_⟩
  · rcases a with a | ⟨g, c, cs', e1, e2, e3, e4, e5⟩
    · exact .inl a
    · refine .inr ⟨g, c, cs', e1, e2, e3, (hg.block g (lt_of_block e4) ?_).trans e4, e5⟩
      intro hh
      obtain rfl := Option.some.inj hh
      rw [e4] at hk
      cases hk
      exact h1 rfl
  · rcases b with a | ⟨g, c, cs', e1, e2, e3, e4, e5⟩
    · exact .inl a
    · refine .inr ⟨g, c, cs', e1, e2, e3, (hg.block g (lt_of_block e4) ?_).trans e4, e5⟩
      intro hh
      obtain rfl := Option.some.inj hh
      rw [e4] at hk
      cases hk
      exact h2 rfl
theorem goes_blk {M B : Nat} {w w' : World} {v : Value} {n : Nat} {xs : List Value} {r : MvR} {m : Mv} (h : Goes M w r m) (ho : Blk 31 3 B w v n xs) (hg : w.grownBy w' v.ownBlock) : Goes M w' r m := by
  rcases ho.2 with ⟨rfl, _⟩ | ⟨g, cap, cur, rfl, _, _, hb, _⟩
  · exact h.later ⟨hg.os, hg.tape, hg.output, hg.size, fun k hk => hg.block k hk (by simp [Value.ownBlock])⟩
  · exact goes_farX h hb (by decide) (by decide) hg
theorem RowX.push {M : Nat} {w w' : World} {v v' : Value} {R : List MvR} {l : List Mv} {r : MvR} {m : Mv} (h : RowX M w v R l) (hg : Goes M w r m) (ho : w'.ownsRow M 31 3 v' (R.length + 1) (rw.flat mvC R ++ mvC r)) (hgr : w.grownBy w' v.ownBlock) : RowX M w' v' (R ++ [r]) (l ++ [m]) := by
  refine ⟨?_, ?_, ?_⟩
  · rw [rw.flat_snoc, List.length_append]
    exact ho
  · rw [List.length_append, List.length_append, h.2.1]
    rfl
  · intro i r' m' hr' hm'
    by_cases hi : i < R.length
    · rw [List.getElem?_append_left hi] at hr'
      rw [List.getElem?_append_left (by rw [← h.2.1]; exact hi)] at hm'
      exact goes_blk (h.2.2 i r' m' hr' hm') (Blk.of_own h.1) hgr
    · rw [List.getElem?_append_right (by omega)] at hr'
      rw [List.getElem?_append_right (by rw [← h.2.1]; omega), ← h.2.1] at hm'
      have h0 := lt_get hr'
      simp only [List.length_singleton] at h0
      rw [show i - R.length = 0 by omega] at hr' hm'
      obtain rfl := Option.some.inj hr'
      obtain rfl := Option.some.inj hm'
      exact goes_blk hg (Blk.of_own h.1) hgr
theorem MapIs.later {w w' : World} {b : Nat} (h : MapIs w b) (hb : Below w.heap.size w w') : MapIs w' b := h.kept (row := none) ⟨hb.os, hb.tape, hb.output, hb.size, fun k hk _ => hb.block k hk⟩ (by simp)
theorem map_cells {w w' : World} {b M n : Nat} {T : TypeId} {k : Nat} {v : Value} {xs : List Value} (h : MapIs w b) (ho : Blk T k M w v n xs) (hg : w.grownBy w' v.ownBlock) : MapIs w' b := by
  refine h.kept hg ?_
  intro hh
  obtain ⟨es, clock, hb, _⟩ := h
  rcases ho.2 with ⟨rfl, _⟩ | ⟨g, cap, cur, rfl, _, _, hg', _⟩
  · cases hh
  · obtain rfl := Option.some.inj hh
    rw [hg'] at hb
    cases hb
theorem infoTxX : (Try.prog.info? 9).map (fun i => (i.zero, i.size, i.bytes)) = some (some (.string .empty), 1, 16) := by kernel_rfl
theorem kept_own {w w' : World} {base n size r : Nat} {e : TypeId} {v : Value} {xs : List Value} (h : w.ownsRow base e size v n xs) (hg : w.grownBy w' (some r)) (hr : r < base) : w'.ownsRow base e size v n xs := by
  refine ⟨h.1, ?_⟩
  rcases h.2 with h2 | ⟨g, cap, cur, e1, hb, hg', r'⟩
  · exact .inl h2
  · exact .inr ⟨g, cap, cur, e1, hb, (hg.block g (lt_of_block hg') (fun e => by have := Option.some.inj e; omega)).trans hg', r'⟩
/-- What the first j of some moves need not know: the IDs of those that speak of a table. -/
def needTo (l : List Mv) (t : List UInt8) (j : Nat) : List (List UInt8) := ((l.take j).filter fun m => spkM m t).map (·.id)
theorem need_step {l : List Mv} {t : List UInt8} {j : Nat} {m : Mv} (h : l[j]? = some m) : needTo l t (j + 1) = if spkM m t = true then needTo l t j ++ [m.id] else needTo l t j := by
  unfold needTo
  rw [take_at h, List.filter_append]
  cases hs : spkM m t <;> simp [hs]
theorem need_le (l : List Mv) (t : List UInt8) (j : Nat) : (needTo l t j).length ≤ j := by
  unfold needTo
  rw [List.length_map]
  exact Nat.le_trans (List.length_filter_le _ _) (by rw [List.length_take]; omega)
theorem base_stepsB : (baseL.all fun m => decide (1 ≤ m.steps.length) && decide (m.steps.length ≤ 1000)) = true := by decide +kernel
theorem base_stepsX : ∀ m ∈ baseL, 1 ≤ m.steps.length ∧ m.steps.length ≤ 1000 := by
  intro m hm
  have := List.all_eq_true.1 base_stepsB m hm
  simpa using this
theorem blk_loX {T : TypeId} {k M n : Nat} {w : World} {v : Value} {xs : List Value} (h : Blk T k M w v n xs) (q : Nat) (hq : v.ownBlock = some q) : M ≤ q := by
  rcases h.2 with ⟨rfl, _⟩ | ⟨b, c, cs', rfl, _, hM, _⟩
  · cases hq
  · cases hq
    exact hM
theorem own_formX {w : World} {v : Value} {n : Nat} {xs : List Value} {e : TypeId} {base size : Nat} (h : w.ownsRow base e size v n xs) : ∃ p c, v = .slice p n c := by
  rcases h.2 with ⟨rfl, rfl⟩ | ⟨g, cap, cur, hv, _⟩
  · exact ⟨_, _, rfl⟩
  · exact ⟨_, _, hv⟩
set_option maxHeartbeats 16000000 in
set_option maxRecDepth 100000 in
theorem reckoned_any (w : World) : Calls Try.prog 10 #[] w fun e w' => (∃ v R, e = .returned v ∧ NewMv w.heap.size w' v R extraL) ∧ Below w.heap.size w w' := by
  obtain ⟨i0, hi, hz0, hz1, hz2⟩ := info_parts infoTxX
  obtain ⟨i1, si, sz0, sz1, sz2⟩ := info_parts infoMv
  go_enter Try.func10, Try.ntmps10
  go_wp2_with fail
  refine (stepsX_any w).mono ?_
  rintro e w1 ⟨rfl, hm1, hb1, hz1'⟩
  have HM1 := Lib.hid hm1
  have HB1 := Lib.hid hb1
  clear hm1 hb1
  focus
    go_wp2_with (refine wpList_range_own _ rfl _ 42 rfl 9 35 lawX Try.underlying42 stepR w.heap.size 5 mapX rfl HM1.out ?_)
  intro w2 hr2 hg2 hs2
  have HR2 := Lib.hid hr2
  have HB2 : Hid (Below w.heap.size w w2) := Lib.hid (HB1.out.grown hg2 (Nat.le_of_lt hz1') (fun k hk => by cases hk))
  have hz2' : w1.heap.size < w2.heap.size := by omega
  clear hr2 hg2 hs2
  go_wp2_with fail
  go_loopw [2] (fun iv wr => ∃ (got : List (List UInt8)) (v : Value) (left : Lit → Bool) (cnt : Nat), v = iv ∧ Hid (wr.ranges Try.prog 9 stepR w.heap.size w1.heap.size 5 mapX left cnt) ∧ Hid (wr.ownsRow w2.heap.size 9 1 v got.length (rw.flat txC got)) ∧ Hid (Got got left) ∧ Hid (Below w.heap.size w wr) ∧ w2.heap.size ≤ wr.heap.size) (fun _ wr => wr.rangeLeft w.heap.size w1.heap.size)
  case atStart => exact ⟨[], _, _, _, rfl, HR2, Lib.hid ⟨rfl, .inl ⟨rfl, rfl⟩⟩, Lib.hid got_start, HB2, Nat.le_refl _⟩
  case round =>
    clear HR2
    obtain ⟨got, v, left, cnt, rfl, HR, HO, HG, HB, hzr⟩ := hrel
    obtain ⟨wO, hwO⟩ : ∃ wO, wO = wr := ⟨_, rfl⟩
    subst hwO
    focus
      go_wp2_with (refine wpList_next_ranges _ rfl _ rfl 9 lawX stepR Value.string spA (fun key kl h => by obtain ⟨s, hs, _⟩ := string_of_keyOf Try.underlying9 h; exact ⟨s, hs⟩) (fun v y h => by obtain ⟨s, hs, _⟩ := stepR_shape h; exact ⟨s, hs⟩) w.heap.size w1.heap.size 5 mapX left cnt (by rfl) HR.out ?_ ?_)
    · intro hc0 hl0
      have HP := Lib.hid (got_end HG.out hl0)
      clear hl0 hc0
      have hlg : got.length = 5 := HP.out.length_eq
      have HN0 := Lib.hid (rw.own_new txC_len (by decide) HO.out)
      have HMO := Lib.hid HR.out.owns
      obtain ⟨pI, cI, rfl⟩ := HN0.out.form
      rw [hlg] at HN0 ⊢
      have hlg2 : got.length ≤ 4294967295 := by omega
      clear HO HR HG hlg
      go_wp2_with fail
      refine (sortTx_any w2.heap.size _ got keysX HP.out keysX_asc hlg2 wO HN0.out).mono ?_
      rintro e w4 ⟨rfl, hs4, hg4⟩
      have HS4 := Lib.hid hs4
      have HB4 : Hid (Below w.heap.size w w4) := Lib.hid (HB.out.grown hg4 (by omega) (fun k hk => by have := blk_loX (Blk.of_new txC_len HN0.out) k hk; omega))
      have HM4 : Hid (MapIs w4 w.heap.size) := Lib.hid (map_cells HMO.out (Blk.of_new txC_len HN0.out) hg4)
      have HpI := Lib.hid (hs4.rw txC_len).ptr.2.2
      have hz4 := hg4.size
      have hwz4 : w.heap.size < w4.heap.size := by omega
      clear hs4 hg4
      go_wp2_with fail
      go_loopw [4, 25] (fun ov iv wr => ∃ (i : Nat) (v : Value) (R : List MvR), i ≤ 5 ∧ iv = .int .i64 i ∧ v = ov ∧ Hid (R.length = i) ∧ Hid (RowX w4.heap.size wr v R (extraTo (stepsX.take i) [])) ∧ Hid (Below w4.heap.size w4 wr)) (fun _ iv _ => 5 - (intOf iv).toNat)
      case atStart => exact ⟨0, _, [], by omega, rfl, rfl, Lib.hid rfl, Lib.hid ⟨⟨rfl, .inl ⟨rfl, rfl⟩⟩, rfl, fun i r m h => by simp at h⟩, Lib.hid (Below.refl _ _)⟩
      case round =>
        obtain ⟨i, v, R, hi5, rfl, rfl, HRn, HRow, Hb⟩ := hrel
        obtain ⟨wP, hwP⟩ : ∃ wP, wP = wr := ⟨_, rfl⟩
        subst hwP
        have hzP := Hb.out.size
        have hi50 : (0 : Int) ≤ (i : Int) := by omega
        by_cases hlt : i < 5
        · obtain ⟨x, hx⟩ : ∃ x, stepsX[i]? = some x := ⟨_, List.getElem?_eq_getElem (by exact hlt)⟩
          have hkx : keysX[i]? = some x.1 := by unfold keysX; rw [List.getElem?_map, hx]; rfl
          have hxm := List.mem_of_getElem? hx
          have hxl : x.1.length ≤ 100 := by
            simp only [stepsX, List.mem_cons, List.not_mem_nil, or_false] at hxm
            rcases hxm with rfl | rfl | rfl | rfl | rfl <;> decide
          obtain ⟨bI, oI, rfl, hbI⟩ := HpI.out (by omega)
          have cI' := txt_cell ((HS4.out.later Hb.out).rw txC_len) hkx
          have hasc := needsX_asc i hlt
          rw [hx] at hasc
          simp only [Option.getD_some] at hasc
          obtain ⟨outL, hout⟩ : ∃ outL, outL = extraTo (stepsX.take i) [] := ⟨_, rfl⟩
          have hnext : extraTo (stepsX.take (i + 1)) [] = outL ++ [nextX outL x] := by rw [take_at hx, extraTo_snoc, hout]
          have hone : ∀ m ∈ outL, m.steps.length = 1 := by rw [hout]; exact extra_steps1 _ _ (fun m h => by cases h)
          have houtn : outL.length = i := by
            rw [hout, extraTo_len, List.length_take]
            have : stepsX.length = 5 := rfl
            simp; omega
          rw [← hout] at HRow hasc
          have Hasc := Lib.hid hasc
          have Hnext := Lib.hid hnext
          have Hone := Lib.hid hone
          have Houtn := Lib.hid houtn
          have HMP := Lib.hid (HM4.out.later (Hb.out.mono (Nat.le_refl _)))
          have HLk := Lib.hid fun (W : World) (hW : Below wP.heap.size wP W) => lookX (HMP.out.later hW) hxm hxl
          have hii : (i : Int) < 5 := by omega
          have hbIr : bI < wP.heap.size := by omega
          obtain ⟨nid, hnid⟩ : ∃ nid, nid = B x.1 := ⟨_, rfl⟩
          rw [← hnid] at cI' HLk
          have Hnid := Lib.hid hnid
          clear hx hkx hxm hasc hout hnext hone houtn hnid
          go_wp2_with fail
          refine (moves_any wP).mono ?_
          rintro e w5 ⟨⟨vb, Rb, rfl, h5⟩, hb5⟩
          obtain ⟨pb, cb, rfl⟩ := h5.1.form
          have hlb : Rb.length = 6 := h5.2.1
          have hB5 := Blk.of_new mvC_len h5.1
          rw [hlb] at h5 hB5 ⊢
          have HB5 := Lib.hid hB5
          have H5 := Lib.hid h5
          have Hb5 := Lib.hid hb5
          have HRow5 := Lib.hid (HRow.out.later hb5)
          have hfr := own_formX HRow.out.1
          obtain ⟨pv, cv, rfl⟩ := hfr
          have Hsrc := Lib.hid (rw_src mvC_len (by decide) (rw.own_rw mvC_len (by decide) HRow5.out.1))
          have Hfl : Hid ((rw.flat mvC R).length = i * 3) := Lib.hid (by rw [rw.flat_len mvC_len, HRn.out])
          have Hone5 := Lib.hid (rw.flat_one mvC_one R)
          rw [HRn.out] at Hsrc ⊢
          have hz5 := hb5.size
          clear h5 hb5 hB5
          focus
            go_wp2_with (at_builtin; go_must (refine wpList_append_blk0 rfl _ _ 22 rfl 31 i1 _ 3 64 Try.underlying22 si sz0 sz1 sz2 rfl (by decide) wP.heap.size _ 6 _ (by rfl) HB5.out _ i _ (by rfl) Hsrc.out Hfl.out Hone5.out (by omega) (by omega) hz5 ?_))
          intro p6 c6 w6 hb6 hg6 _
          have hP6 : Below wP.heap.size wP w6 := Hb5.out.grown hg6 hz5 (fun k hk => blk_loX HB5.out k hk)
          rw [← rw.flat_append] at hb6
          have hRA : (Rb ++ R).length = 6 + i := by rw [List.length_append, hlb, HRn.out]
          have hrw6 := hb6.rw mvC_len hRA
          have hGA : ∀ (j : Nat) (r : MvR) (m : Mv), (Rb ++ R)[j]? = some r → (baseL ++ outL)[j]? = some m → Goes 0 w6 r m := by
            intro j r m hr hm
            by_cases hj : j < 6
            · rw [List.getElem?_append_left (by omega)] at hr
              rw [List.getElem?_append_left (by exact hj)] at hm
              exact goes_blk ((H5.out.2.2 j r m hr hm).mono (Nat.zero_le _)) HB5.out hg6
            · rw [List.getElem?_append_right (by omega), hlb] at hr
              rw [List.getElem?_append_right (by exact Nat.le_of_not_lt hj)] at hm
              exact goes_blk ((HRow5.out.2.2 _ r m hr hm).mono (Nat.zero_le _)) HB5.out hg6
          have hst : ∀ m ∈ baseL ++ outL, 1 ≤ m.steps.length ∧ m.steps.length ≤ 1000 := by
            intro m hm
            rcases List.mem_append.1 hm with h | h
            · exact base_stepsX m h
            · have := Hone.out m h
              omega
          have HLA : Hid ((baseL ++ outL).length = 6 + i) := Lib.hid (by rw [List.length_append, Houtn.out]; rfl)
          have HRA := Lib.hid hRA
          have HGA := Lib.hid hGA
          have Hst := Lib.hid hst
          have HRW := Lib.hid hrw6
          have HP6 := Lib.hid hP6
          have Hp6 := Lib.hid hrw6.ptr.2.2
          have hzp6 := hP6.size
          clear hb6 hg6 hP6 hRA hrw6 hGA hst Hsrc Hfl Hone5
          go_wp2_with fail
          go_loopw [7, 33] (fun nvv jv wr => ∃ (j : Nat) (nv : Value), j ≤ 6 + i ∧ jv = .int .i64 j ∧ nv = nvv ∧ Hid (wr.ownsRow w6.heap.size 9 1 nv (needTo (baseL ++ outL) x.2.table j).length (rw.flat txC (needTo (baseL ++ outL) x.2.table j))) ∧ Hid (Below w6.heap.size w6 wr)) (fun _ jv _ => 6 + i - (intOf jv).toNat)
          case atStart => exact ⟨0, _, by omega, rfl, rfl, Lib.hid ⟨rfl, .inl ⟨rfl, rfl⟩⟩, Lib.hid (Below.refl _ _)⟩
          case round =>
            obtain ⟨j, nv, hj, rfl, rfl, HOj, Hbj⟩ := hrel
            obtain ⟨wQ, hwQ⟩ : ∃ wQ, wQ = wr := ⟨_, rfl⟩
            subst hwQ
            have hzQ := Hbj.out.size
            have HPQ := Lib.hid (HP6.out.trans (Hbj.out.mono hzp6))
            by_cases hltj : j < 6 + i
            · obtain ⟨r, hr⟩ : ∃ r, (Rb ++ R)[j]? = some r := ⟨_, List.getElem?_eq_getElem (by rw [HRA.out]; exact hltj)⟩
              obtain ⟨m, hm⟩ : ∃ m, (baseL ++ outL)[j]? = some m := ⟨_, List.getElem?_eq_getElem (by rw [HLA.out]; exact hltj)⟩
              obtain ⟨b6, o6, rfl, hb6l⟩ := Hp6.out (by omega)
              obtain ⟨k0, k1, k2⟩ := mv_cells (HRW.out.later Hbj.out) hr
              have hg := (HGA.out j r m hr hm).later Hbj.out
              have sp := hg.2.2.rw spC_len
              have hsl := sp.ptr.1
              obtain ⟨st1, st2⟩ := Hst.out m (List.mem_of_getElem? hm)
              rw [hg.1] at k0
              have hnext := need_step (t := x.2.table) hm
              have hnl : (needTo (baseL ++ outL) x.2.table j).length ≤ j := need_le _ _ _
              obtain ⟨xi, pn, nn, cn, ps, ns, cs⟩ := r
              simp only [MvR.vn, MvR.vs] at k1 k2 sp hsl
              obtain ⟨wB, hB⟩ : ∃ wB, wB = wQ.alloc (.cells #[.string (B m.id), .slice pn nn cn, .slice ps ns cs] 31) := ⟨_, rfl⟩
              have hbB : Below wQ.heap.size wQ wB := by rw [hB]; exact (Below.refl _ _).alloc (Nat.le_refl _) _
              have kB : wB.heap[wQ.heap.size]? = some (.cells #[.string (B m.id), .slice pn nn cn, .slice ps ns cs] 31 (0, 0)) := by rw [hB]; exact heap_alloc_new wQ _
              have b0 : wB.cell? ⟨wQ.heap.size, 0, none⟩ = some (.string (B m.id)) := cell_in kB
              have b1 : wB.cell? ⟨wQ.heap.size, 1, none⟩ = some (.slice pn nn cn) := cell_in kB
              have b2 : wB.cell? ⟨wQ.heap.size, 2, none⟩ = some (.slice ps ns cs) := cell_in kB
              have hlk := HLk.out wB (HPQ.out.trans (hbB.mono HPQ.out.size))
              have HSpk := Lib.hid (speaksX_any m x.2.table pn ps nn cn ns cs (by omega) (by omega) wB (sp.later hbB))
              have HB := Lib.hid hB
              have HbB := Lib.hid hbB
              have HkB := Lib.hid kB
              have Hnext := Lib.hid hnext
              have hb6r : b6 < wQ.heap.size := by omega
              have hji : (j : Int) < ((6 + i : Nat) : Int) := by omega
              have hji2 : (j : Int) < 6 + (i : Int) := by omega
              have hj50 : (0 : Int) ≤ (j : Int) := by omega
              have hcast : ((6 + i : Nat) : Int) = 6 + (i : Int) := by omega
              unfold spA at hlk
              rw [hB] at hlk
              clear hg sp hsl st1 st2 hr hm hnext hB hbB kB hcast
              obtain ⟨n0, hn0⟩ : ∃ n0, n0 = (needTo (baseL ++ outL) x.2.table j).length := ⟨_, rfl⟩
              have HOn := HOj
              rw [← hn0] at HOn hnl
              have Hn0 := Lib.hid hn0
              clear hn0
              cases hsp : spkM m x.2.table with
              | false =>
                rw [hsp] at HSpk
                have Hsp := Lib.hid hsp
                clear hsp
                generalize B m.id = nm at *
                generalize B x.2.table = z1 at *
                generalize B x.2.key = z2 at *
                generalize B x.2.to = z3 at *
                generalize B x.2.text = z4 at *
                have hfld := fun W => fld1 x.2.kind z1 z2 z3 z4 W
                go_wp2_with fail
                rw [← HB.out]
                refine HSpk.out.mono ?_
                rintro e w7 ⟨rfl, hb7⟩
                have HO7 := Lib.hid (own_laterX HOj.out (then_bel HbB.out hb7))
                have Hb7 := Lib.hid (Hbj.out.trans ((then_bel HbB.out hb7).mono hzQ))
                have HN7 := Lib.hid (Hnext.out)
                rw [Hsp.out] at HN7
                simp only [Bool.false_eq_true, if_false] at HN7
                clear hb7
                go_wp2_with fail
                go_roundw
                case rel => exact ⟨j + 1, _, by omega, by go_num, rfl, by rw [HN7.out]; exact HO7, Hb7⟩
                case measure => simp [intOf]; omega
              | true =>
                rw [hsp] at HSpk
                have Hsp := Lib.hid hsp
                clear hsp
                obtain ⟨nm, hnm⟩ : ∃ nm, nm = B m.id := ⟨_, rfl⟩
                rw [← hnm] at b0 k0 HB HSpk HkB hlk
                have HNm := Lib.hid hnm
                clear hnm
                generalize B x.2.table = z1 at *
                generalize B x.2.key = z2 at *
                generalize B x.2.to = z3 at *
                generalize B x.2.text = z4 at *
                have hfld := fun W => fld1 x.2.kind z1 z2 z3 z4 W
                go_wp2_with fail
                rw [← HB.out]
                refine HSpk.out.mono ?_
                rintro e w7 ⟨rfl, hb7⟩
                have d0 : w7.cell? ⟨wQ.heap.size, 0, none⟩ = some (.string nm) := cell_then b0 hb7
                have HO7 := Lib.hid (own_laterX HOn.out (then_bel HbB.out hb7))
                have Hb7 := Lib.hid (Hbj.out.trans ((then_bel HbB.out hb7).mono hzQ))
                have HN7 := Lib.hid (Hnext.out)
                rw [Hsp.out] at HN7
                simp only [if_true] at HN7
                have hz7 := Hb7.out.size
                clear hb7 b0 b1 b2 k0 k1 k2
                focus
                  go_wp2_with (at_builtin; go_must (refine wpList_append_lit rfl _ _ 26 rfl 9 i0 _ 16 Try.underlying26 hi hz0 hz1 hz2 rfl _ 1 (by omega) (by rfl) (by rfl) w6.heap.size _ n0 _ (by rfl) HO7.out (by simp [Value.oneCell']) (by omega) (by omega) (by omega) ?_))
                intro g cap w8 hown hgrow _ _ _
                have HB8 := Lib.hid (below_grown_own Hb7.out HO7.out hgrow hz7)
                have HO8 : Hid (w8.ownsRow w6.heap.size 9 1 (.slice (some ⟨g, 0, none⟩) (n0 + 1) cap) (needTo (baseL ++ outL) x.2.table (j + 1)).length (rw.flat txC (needTo (baseL ++ outL) x.2.table (j + 1)))) := Lib.hid (by
                  rw [HN7.out, List.length_append, ← Hn0.out, rw.flat_snoc]
                  rw [show txC m.id = [.string nm] by unfold txC; rw [HNm.out]]
                  exact hown)
                clear hown hgrow
                go_wp2_with fail
                go_roundw
                case rel => exact ⟨j + 1, _, by omega, by go_num, rfl, HO8, HB8⟩
                case measure => simp [intOf]; omega
            · obtain rfl : j = 6 + i := by omega
              have hfull : needTo (baseL ++ outL) x.2.table (6 + i) = needsX outL x.2.table := by
                unfold needTo needsX
                rw [List.take_of_length_le (by rw [HLA.out]; exact Nat.le_refl _)]
              rw [hfull] at HOj
              have hnl : (needsX outL x.2.table).length ≤ 11 := by
                rw [← hfull]
                exact Nat.le_trans (need_le _ _ _) (by omega)
              have HNn := Lib.hid (rw.own_new txC_len (by decide) HOj.out)
              obtain ⟨pn, cn, rfl⟩ := HNn.out.form
              have Hnl := Lib.hid hnl
              obtain ⟨nn, hnn⟩ : ∃ nn, nn = (needsX outL x.2.table).length := ⟨_, rfl⟩
              have hnn2 : (needsX outL x.2.table).length ≤ 4294967295 := by omega
              rw [← hnn] at HNn ⊢
              have Hnn := Lib.hid hnn
              clear hfull HOj hnl hnn
              go_wp2_with fail
              refine (sortTx_any w6.heap.size _ (needsX outL x.2.table) (needsX outL x.2.table) (List.Perm.refl _) Hasc.out hnn2 wQ HNn.out).mono ?_
              rintro e w8 ⟨rfl, hs8, hg8⟩
              have hP8 : Below wP.heap.size wP w8 := HPQ.out.grown hg8 (by have := HPQ.out.size; omega) (fun k hk => by have := blk_loX (Blk.of_new txC_len HNn.out) k hk; omega)
              obtain ⟨w9, hw9⟩ : ∃ w9, w9 = w8.alloc (.cells #[.int .i64 x.2.kind, .string (B x.2.table), .string (B x.2.key), .string (B x.2.to), .string (B x.2.text)] 35) := ⟨_, rfl⟩
              obtain ⟨r, hr⟩ : ∃ r : MvR, r = ⟨x.1, pn, nn, cn, some ⟨w8.heap.size, 0, none⟩, 1, 1⟩ := ⟨_, rfl⟩
              have hz9 : w9.heap.size = w8.heap.size + 1 := by rw [hw9]; simp
              have hb9 : Below w8.heap.size w8 w9 := by rw [hw9]; exact (Below.refl _ _).alloc (Nat.le_refl _) _
              have hb10 : Below w9.heap.size w9 (w9.alloc (.cells #[.string (B r.id), r.vn, r.vs] 31)) := (Below.refl _ _).alloc (Nat.le_refl _) _
              have hk10 := heap_alloc_new w9 (.cells #[.string (B r.id), r.vn, r.vs] 31)
              have hks : w9.heap[w8.heap.size]? = some (.cells #[.int .i64 x.2.kind, .string (B x.2.table), .string (B x.2.key), .string (B x.2.to), .string (B x.2.text)] 35 (0, 0)) := by rw [hw9]; exact heap_alloc_new w8 _
              have hgo : Goes w4.heap.size (w9.alloc (.cells #[.string (B r.id), r.vn, r.vs] 31)) r (nextX outL x) := by
                have hvn : r.vn = .slice pn nn cn := by rw [hr]
                have hvs : r.vs = .slice (some ⟨w8.heap.size, 0, none⟩) 1 1 := by rw [hr]
                refine ⟨by rw [hr]; rfl, ?_, ?_⟩
                · have h := ((hs8.later hb9).later hb10).mono (M' := w4.heap.size) (by omega)
                  rw [← hvn] at h
                  exact h
                · have h := (new_lit spC_len (M := w4.heap.size) (l := [x.2]) (by have := hP8.size; omega) hks rfl).later hb10
                  rw [List.length_singleton, ← hvs] at h
                  exact h
              have hr10 := ((HRow.out.later hP8).later hb9).later hb10
              have Hsrc10 : Hid (SrcV (w9.alloc (.cells #[.string (B r.id), r.vn, r.vs] 31)) (.slice (some ⟨w9.heap.size, 0, none⟩) 1 1) 1 (mvC r)) := Lib.hid (.inr ⟨by decide, _, _, rfl, fun j u hj => by
                rw [addN, cell_in hk10]
                have hl := lt_get hj
                rw [mvC_len] at hl
                match j, hl with
                | 0, _ => exact hj
                | 1, _ => exact hj
                | 2, _ => exact hj⟩)
              have HRow10 := Lib.hid hr10
              have HOw10 := Lib.hid hr10.1
              rw [HRn.out] at HOw10
              have HGo := Lib.hid hgo
              have Hone10 := Lib.hid (mvC_one r)
              have HB10 := Lib.hid (Hb.out.trans ((then_bel hP8 (then_bel hb9 hb10)).mono hzP))
              have hlk := HLk.out w8 hP8
              unfold spA at hlk
              have hz10 : w4.heap.size ≤ (w9.alloc (.cells #[.string (B r.id), r.vn, r.vs] 31)).heap.size := HB10.out.size
              have hbI8 : bI < w8.heap.size := by have := hP8.size; omega
              have HEnd : Hid (∀ (v : Value) (w11 : World), w11.ownsRow w4.heap.size 31 3 v (i + 1) (rw.flat mvC R ++ mvC r) → (w9.alloc (.cells #[.string (B r.id), r.vn, r.vs] 31)).grownBy w11 (Value.slice pv i cv).ownBlock → RowX w4.heap.size w11 v (R ++ [r]) (outL ++ [nextX outL x]) ∧ Below w4.heap.size w4 w11) := Lib.hid (fun v w11 ho hg => by
                have hg' : (w9.alloc (.cells #[.string (B r.id), r.vn, r.vs] 31)).grownBy w11 (Value.slice pv R.length cv).ownBlock := by rw [HRn.out]; exact hg
                exact ⟨RowX.push HRow10.out HGo.out (by rw [HRn.out]; exact ho) hg', below_grown_own HB10.out HRow10.out.1 hg' hz10⟩)
              rw [hw9] at Hsrc10 HOw10 hz10 HEnd
              have hs9 : (w8.alloc (.cells #[.int .i64 x.2.kind, .string (B x.2.table), .string (B x.2.key), .string (B x.2.to), .string (B x.2.text)] 35)).heap.size = w8.heap.size + 1 := by simp
              rw [hs9] at Hsrc10
              rw [hr] at Hsrc10 HOw10 hz10 HEnd
              rw [hr] at Hone10
              simp only [MvR.vn, MvR.vs] at Hsrc10 HOw10 hz10 HEnd
              rw [← Hnid.out] at Hsrc10 HOw10 hz10 HEnd
              have Hr := Lib.hid hr
              have Hw9 := Lib.hid hw9
              clear hs8 hg8 hb9 hb10 hk10 hks hgo hr10 hz9 hr hw9 hs9 hP8
              generalize B x.2.table = z1 at *
              generalize B x.2.key = z2 at *
              generalize B x.2.to = z3 at *
              generalize B x.2.text = z4 at *
              focus
                go_wp2_with (at_builtin; go_must (refine wpList_append_any rfl _ _ 22 rfl 31 i1 _ 3 64 Try.underlying22 si sz0 sz1 sz2 rfl (by decide) w4.heap.size _ i _ (by rfl) HOw10.out _ 1 _ (by rfl) Hsrc10.out (by rfl) Hone10.out (by omega) (by omega) hz10 ?_))
              intro p11 c11 w11 hown hgrow
              have hend := HEnd.out _ _ hown hgrow
              have H11 := Lib.hid (hend.1)
              have Hb11 := Lib.hid (hend.2)
              rw [← Hnext.out] at H11
              clear hend hown hgrow
              go_wp2_with fail
              go_roundw
              case rel => exact ⟨i + 1, _, _, by omega, by go_num, rfl, Lib.hid (by rw [List.length_append, HRn.out]; rfl), H11, Hb11⟩
              case measure => simp [intOf]; omega
        · obtain rfl : i = 5 := by omega
          have hx5 : extraTo (stepsX.take 5) [] = extraL := rfl
          rw [hx5] at HRow
          have HN := Lib.hid (HRow.out.new.mono (M' := w.heap.size) (by omega))
          have HBf := Lib.hid (HB4.out.trans (Hb.out.mono (by omega)))
          clear hx5
          go_wp2_with fail
          go_ret
          exact ⟨⟨_, _, rfl, HN.out⟩, HBf.out⟩
    · intro x c kl y yp w3 cnt3 hkl hlk hRy hat hrg3 hlt hg3 hs3 hen
      obtain ⟨s0, hs0, rfl, hsz⟩ := string_of_keyOf Try.underlying9 hkl
      injection hs0 with hs0
      subst hs0
      have hkey : x.data.toList ∈ keysX := by
        obtain ⟨q, hq1, hq2⟩ := mapX_has _ (has_true_of_atKey hat)
        rw [← hq2]
        exact List.mem_map_of_mem hq1
      have HG3 := Lib.hid (got_step HG.out hkey hlk)
      have HR3 := Lib.hid hrg3
      have hown3 := kept_own HO.out hg3 (by omega)
      have hb3 : Below w.heap.size w w3 := HB.out.grown hg3 (by omega) (fun k hk => by cases hk; omega)
      have HO3 := Lib.hid hown3
      have HB3 := Lib.hid hb3
      have hl5 : got.length ≤ 5 := List.Nodup.length_le_of_subset HG.out.1 (fun a ha => HG.out.2.1 a ha)
      have hz3 : w2.heap.size ≤ w3.heap.size := by omega
      have HR0 := Lib.hid HR.out
      obtain ⟨n0, hn0⟩ : ∃ n0, n0 = got.length := ⟨_, rfl⟩
      rw [← hn0] at HO3 hl5
      have Hn0 := Lib.hid hn0
      clear hkl hRy hat hrg3 hg3 hkey hlk hown3 hb3 hn0 HO HG HR HB hs3
      focus
        go_wp2_with (at_builtin; go_must (refine wpList_append_lit rfl _ _ 26 rfl 9 i0 _ 16 Try.underlying26 hi hz0 hz1 hz2 rfl _ 1 (by omega) (by rfl) (by rfl) w2.heap.size _ n0 _ (by rfl) HO3.out (by simp [Value.oneCell']) (by omega) (by omega) (by omega) ?_))
      intro g cap w5 hown hgrow _ hz5 _
      have HR5 := Lib.hid (HR3.out.kept hgrow (fun e => by have := (HO3.out.lt _ e.symm).1; omega) (fun e => by have := (HO3.out.lt _ e.symm).1; omega))
      have HB5 : Hid (Below w.heap.size w w5) := Lib.hid (HB3.out.grown hgrow (by omega) (fun k hk => by have := (HO3.out.lt k hk).1; omega))
      have HO5 : Hid (w5.ownsRow w2.heap.size 9 1 (.slice (some ⟨g, 0, none⟩) (n0 + 1) cap) (got ++ [x.data.toList]).length (rw.flat txC (got ++ [x.data.toList]))) := Lib.hid (by
        rw [List.length_append, ← Hn0.out, rw.flat_snoc]
        have := hown
        rw [show txC x.data.toList = [.string x] by unfold txC; rw [B_of]]
        exact this)
      clear hown hgrow
      go_wp2_with fail
      go_roundw
      case rel => exact ⟨_, _, _, _, rfl, HR5, HO5, HG3, HB5, by omega⟩
      case measure => rw [HR5.out.left_eq, HR0.out.left_eq]; exact hlt
end Go.Proofs.Ythjcifokmcbaoaa.st
/- Package move: the order of a move and an ID; slices.BinarySearchFunc over moves that ascend by their IDs. Conditions: at most 4294967295 moves. -/
namespace Go.Proofs.Ythjcifokmcbaoaa.st
open Go.ChangeShapes Go.WideShapes Go.ChangeAt Go.RowKit gl ls

theorem cmpB_eq : ∀ a b : List UInt8, Lib.compareBytes a b = cmpL a b
  | [], [] => rfl
  | [], b :: y => rfl
  | a :: x, [] => by
    unfold cmpL
    rw [ltL_nil]
    rfl
  | a :: x, b :: y => by
    have ih := cmpB_eq x y
    unfold Lib.compareBytes cmpL
    rw [ltL_cons]
    by_cases h1 : a < b
    · simp [h1]
    · by_cases h2 : b < a
      · have hne : (a == b) = false := by
          rw [beq_eq_false_iff_ne]
          rintro rfl
          exact h1 h2
        have hne' : a ≠ b := by simpa using hne
        simp [h1, h2, hne, hne']
      · obtain rfl : a = b := UInt8.le_antisymm (UInt8.not_lt.1 h2) (UInt8.not_lt.1 h1)
        simp only [h1, decide_false, BEq.rfl, Bool.true_and, Bool.false_or, if_false, ih, List.cons.injEq, true_and]
        rfl
/-- Where a text stands among texts that ascend, or would. -/
def FoundAt (ids : List (List UInt8)) (t : List UInt8) (k : Nat) (b : Bool) : Prop := k ≤ ids.length ∧ (∀ i x, ids[i]? = some x → (i < k ↔ ltL x t = true)) ∧ b = decide (ids[k]? = some t)
theorem pair_at {α : Type} {S : α → α → Prop} {l : List α} {i j : Nat} {x y : α} (h : l.Pairwise S) (hi : l[i]? = some x) (hj : l[j]? = some y) (hij : i < j) : S x y := by
  obtain ⟨h1, rfl⟩ := List.getElem?_eq_some_iff.1 hi
  obtain ⟨h2, rfl⟩ := List.getElem?_eq_some_iff.1 hj
  exact List.pairwise_iff_getElem.1 h i j h1 h2 hij
def Betw (ids : List (List UInt8)) (t : List UInt8) (i j : Nat) : Prop := ∀ k x, ids[k]? = some x → (k < i → ltL x t = true) ∧ (j ≤ k → ltL x t = false)
theorem betw_up {ids : List (List UInt8)} {t x : List UInt8} {i j h : Nat} (ha : ids.Pairwise fun a b => ltL a b = true) (hB : Betw ids t i j) (hx : ids[h]? = some x) (hl : ltL x t = true) : Betw ids t (h + 1) j := by
  intro k y hy
  refine ⟨fun hk => ?_, (hB k y hy).2⟩
  by_cases he : k = h
  · subst he
    obtain rfl := Option.some.inj (hx.symm.trans hy)
    exact hl
  · exact ltL_trans _ _ _ (pair_at (S := fun a b => ltL a b = true) ha hy hx (by omega)) hl
theorem betw_dn {ids : List (List UInt8)} {t x : List UInt8} {i j h : Nat} (ha : ids.Pairwise fun a b => ltL a b = true) (hB : Betw ids t i j) (hx : ids[h]? = some x) (hl : ltL x t = false) : Betw ids t i h := by
  intro k y hy
  refine ⟨(hB k y hy).1, fun hk => ?_⟩
  by_cases he : k = h
  · subst he
    obtain rfl := Option.some.inj (hx.symm.trans hy)
    exact hl
  · cases hc : ltL y t with
    | false => rfl
    | true =>
      have := ltL_trans _ _ _ (pair_at (S := fun a b => ltL a b = true) ha hx hy (by omega)) hc
      rw [hl] at this
      cases this
theorem betw_end {ids : List (List UInt8)} {t : List UInt8} {i : Nat} (hi : i ≤ ids.length) (hB : Betw ids t i i) : FoundAt ids t i (decide (ids[i]? = some t)) := by
  refine ⟨hi, fun k x hx => ⟨(hB k x hx).1, fun hl => ?_⟩, rfl⟩
  rcases Nat.lt_or_ge k i with h | h
  · exact h
  · rw [(hB k x hx).2 h] at hl
    cases hl
end Go.Proofs.Ythjcifokmcbaoaa.st
/- Package move: own gives a move in memory of its own. Conditions: lists of at most 4294967295 elements. -/
namespace Go.Proofs.Ythjcifokmcbaoaa.st
open Go.ChangeShapes Go.WideShapes Go.ChangeAt Go.RowKit gl ls

theorem infoTx : (Try.prog.info? 9).map (fun i => (i.zero, i.size, i.bytes)) = some (some (.string .empty), 1, 16) := by kernel_rfl
theorem infoSp : (Try.prog.info? 35).map (fun i => (i.zero, i.size, i.bytes)) = some (some (.agg #[.int .i64 0, .string .empty, .string .empty, .string .empty, .string .empty]), 5, 72) := by kernel_rfl
theorem spC_one : ∀ (x : Sp), ∀ v ∈ spC x, v.oneCell' = true := by
  intro x v hv
  simp only [spC, List.mem_cons, List.not_mem_nil, or_false] at hv
  rcases hv with rfl | rfl | rfl | rfl | rfl <;> rfl
theorem cloneTx_any (p : Option Addr) (m c : Nat) (l : List (List UInt8)) (hm : m ≤ 4294967295) (w : World) (h : Txt w (.slice p m c) l) :
    Calls Try.prog 12 #[.slice p m c] w fun e w' => ∃ v, e = .returned v ∧ (∃ p' c', v = .slice p' m c' ∧ m ≤ c' ∧ NewTx w.heap.size w' (.slice p' m m) l) ∧ Below w.heap.size w w' := by
  have hl := h.ptr.1
  refine (clone_list Try.cloneTx txC_len txC_one (by decide) infoTx rfl (by decide) Try.sizeOf9 p m c l hm w h).mono ?_
  rintro e w' ⟨v, rfl, hv, hb⟩
  have hn := rw.own_new txC_len (by decide) hv
  obtain ⟨p', c', rfl⟩ := hn.form
  rw [hl] at hn ⊢
  exact ⟨_, rfl, ⟨p', c', rfl, (hn.rw txC_len).ptr.2.1, hn.clip⟩, hb⟩
theorem cloneSp_any (p : Option Addr) (m c : Nat) (l : List Sp) (hm : m ≤ 4294967295) (w : World) (h : Sps w (.slice p m c) l) :
    Calls Try.prog 14 #[.slice p m c] w fun e w' => ∃ v, e = .returned v ∧ (∃ p' c', v = .slice p' m c' ∧ m ≤ c' ∧ NewSp w.heap.size w' (.slice p' m m) l) ∧ Below w.heap.size w w' := by
  have hl := h.ptr.1
  refine (clone_list Try.cloneSp spC_len spC_one (by decide) infoSp rfl (by decide) Try.sizeOf35 p m c l hm w h).mono ?_
  rintro e w' ⟨v, rfl, hv, hb⟩
  have hn := rw.own_new spC_len (by decide) hv
  obtain ⟨p', c', rfl⟩ := hn.form
  rw [hl] at hn ⊢
  exact ⟨_, rfl, ⟨p', c', rfl, (hn.rw spC_len).ptr.2.1, hn.clip⟩, hb⟩
set_option maxRecDepth 100000 in
theorem clipTx_any (p : Option Addr) (n c : Nat) (hn : n ≤ c) (hc : n ≤ 4294967295) (w : World) : Calls Try.prog 11 #[.slice p n c] w fun e w' => ∃ v, e = .returned v ∧ v = .slice p n n ∧ w = w' := by
  have h1 : (n : Int) ≤ (c : Int) := by omega
  have h2 : (0 : Int) ≤ (n : Int) := by omega
  go_enter Try.func11, Try.ntmps11
  go_wp2_with fail
  go_ret
  exact ⟨_, rfl, rfl, rfl⟩
set_option maxRecDepth 100000 in
theorem clipSp_any (p : Option Addr) (n c : Nat) (hn : n ≤ c) (hc : n ≤ 4294967295) (w : World) : Calls Try.prog 13 #[.slice p n c] w fun e w' => ∃ v, e = .returned v ∧ v = .slice p n n ∧ w = w' := by
  have h1 : (n : Int) ≤ (c : Int) := by omega
  have h2 : (0 : Int) ≤ (n : Int) := by omega
  go_enter Try.func13, Try.ntmps13
  go_wp2_with fail
  go_ret
  exact ⟨_, rfl, rfl, rfl⟩
theorem egCT (args : Array Value) (w : World) : (callFunc 12 args).run Try.prog w = .ok (.enter 12 args) w := enters Try.func12 (by kernel_rfl) (by kernel_rfl) args w
theorem egCS (args : Array Value) (w : World) : (callFunc 14 args).run Try.prog w = .ok (.enter 14 args) w := enters Try.func14 (by kernel_rfl) (by kernel_rfl) args w
theorem egKT (args : Array Value) (w : World) : (callFunc 11 args).run Try.prog w = .ok (.enter 11 args) w := enters Try.func11 (by kernel_rfl) (by kernel_rfl) args w
theorem egKS (args : Array Value) (w : World) : (callFunc 13 args).run Try.prog w = .ok (.enter 13 args) w := enters Try.func13 (by kernel_rfl) (by kernel_rfl) args w
theorem froz_then {w w' : World} {b o : Nat} {c : Array Value} {t : TypeId} (h : w.heap[b]? = some (.cells c t (0, 0))) (hb : Below w.heap.size w w') : w'.frozen? ⟨b, o, none⟩ = false := free_in ((hb.block b (lt_of_block h)).trans h)
theorem new_far {α : Type} {enc : α → List Value} {k : Nat} {T : TypeId} {M : Nat} {w : World} {v : Value} {l : List α} (h : rw.NewRw enc k T M w v l) {a : Addr} (u : Value) (hn : a.block < M) : rw.NewRw enc k T M (w.setCell a u) v l := by
  rcases h with h | ⟨g, c, cs, rfl, hc, hg, hbk, h2⟩
  · exact .inl h
  · exact .inr ⟨g, c, cs, rfl, hc, hg, (heap_setCell_other w a g u (by omega)).trans hbk, h2⟩
/-- A move's own lists have no room behind them. -/
def Tight (r : MvR) : Prop := r.cn = r.nn ∧ r.cs = r.ns
end Go.Proofs.Ythjcifokmcbaoaa.st
/- Package extra: its moves, in memory of their own. No conditions. -/
namespace Go.Proofs.Ythjcifokmcbaoaa.st
open Go.ChangeShapes Go.WideShapes Go.ChangeAt Go.RowKit gl ls

theorem extra_lowB : (extraL.all fun m => decide (m.needs.length ≤ 1000) && decide (m.steps.length ≤ 1000)) = true := by decide +kernel
theorem extra_low : ∀ m ∈ extraL, m.needs.length ≤ 1000 ∧ m.steps.length ≤ 1000 := by
  intro m hm
  have := List.all_eq_true.1 extra_lowB m hm
  simpa using this
set_option maxRecDepth 100000 in
theorem clipMv_any (p : Option Addr) (n c : Nat) (hn : n ≤ c) (hc : n ≤ 4294967295) (w : World) : Calls Try.prog 15 #[.slice p n c] w fun e w' => ∃ v, e = .returned v ∧ v = .slice p n n ∧ w = w' := by
  have h1 : (n : Int) ≤ (c : Int) := by omega
  have h2 : (0 : Int) ≤ (n : Int) := by omega
  go_enter Try.func15, Try.ntmps15
  go_wp2_with fail
  go_ret
  exact ⟨_, rfl, rfl, rfl⟩
/-- A row of moves of their own, each with no room behind its lists. -/
def RowT (M : Nat) (w : World) (v : Value) (R : List MvR) (l : List Mv) : Prop := RowX M w v R l ∧ ∀ r ∈ R, Tight r
theorem RowX.clip {M : Nat} {w : World} {p : Option Addr} {n c : Nat} {R : List MvR} {l : List Mv} (h : RowX M w (.slice p n c) R l) : NewMv M w (.slice p n n) R l := ⟨h.new.1.clip, h.2.1, h.2.2⟩
set_option maxHeartbeats 16000000 in
set_option maxRecDepth 100000 in
theorem extraMoves_any (w : World) : Calls Try.prog 4 #[] w fun e w' => (∃ p R, e = .returned (.slice p 5 5) ∧ NewMv w.heap.size w' (.slice p 5 5) R extraL ∧ ∀ r ∈ R, Tight r) ∧ Below w.heap.size w w' := by
  obtain ⟨i1, si, sz0, sz1, sz2⟩ := info_parts infoMv
  go_enter Try.func4, Try.ntmps4
  go_wp2_with fail
  refine (reckoned_any w).mono ?_
  rintro e w1 ⟨⟨v1, R1, rfl, h1⟩, hb1⟩
  obtain ⟨p1, c1, rfl⟩ := h1.1.form
  have hl1 : R1.length = 5 := h1.2.1
  have hp1 := (h1.1.rw mvC_len).ptr.2.2
  rw [hl1] at h1 hp1 ⊢
  have H1 := Lib.hid h1
  have HB1 := Lib.hid hb1
  have Hp1 := Lib.hid hp1
  have hz1 := hb1.size
  clear h1 hb1 hp1
  go_wp2_with fail
  go_loopw [1, 6] (fun ov iv wr => ∃ (i : Nat) (v : Value) (R : List MvR), i ≤ 5 ∧ iv = .int .i64 i ∧ v = ov ∧ Hid (R.length = i) ∧ Hid (RowT w1.heap.size wr v R (extraL.take i)) ∧ Hid (Below w1.heap.size w1 wr)) (fun _ iv _ => 5 - (intOf iv).toNat)
  case atStart => exact ⟨0, _, [], by omega, rfl, rfl, Lib.hid rfl, Lib.hid ⟨⟨⟨rfl, .inl ⟨rfl, rfl⟩⟩, rfl, fun i r m h => by simp at h⟩, fun r h => by cases h⟩, Lib.hid (Below.refl _ _)⟩
  case round =>
    obtain ⟨i, v, R, hi5, rfl, rfl, HRn, HRow, Hb⟩ := hrel
    obtain ⟨wP, hwP⟩ : ∃ wP, wP = wr := ⟨_, rfl⟩
    subst hwP
    have hzP := Hb.out.size
    have hi50 : (0 : Int) ≤ (i : Int) := by omega
    by_cases hlt : i < 5
    · obtain ⟨x, hx⟩ : ∃ x, R1[i]? = some x := ⟨_, List.getElem?_eq_getElem (by rw [hl1]; exact hlt)⟩
      obtain ⟨m, hm⟩ : ∃ m, extraL[i]? = some m := ⟨_, List.getElem?_eq_getElem (by exact hlt)⟩
      obtain ⟨b1, o1, rfl, hbl⟩ := Hp1.out (by omega)
      have hmv := H1.out.later Hb.out
      obtain ⟨k0, k1, k2⟩ := mv_cells (hmv.1.rw mvC_len) hx
      have hg := hmv.2.2 i x m hx hm
      obtain ⟨tx, sp⟩ : Txt wP (.slice _ _ _) m.needs ∧ Sps wP (.slice _ _ _) m.steps := ⟨hg.2.1.rw txC_len, hg.2.2.rw spC_len⟩
      obtain ⟨lo1, lo2⟩ := extra_low m (List.mem_of_getElem? hm)
      have hnl := tx.ptr.1
      have hsl := sp.ptr.1
      rw [hg.1] at k0
      obtain ⟨xi, pn, nn, cn, ps, ns, cs⟩ := x
      simp only [MvR.vn, MvR.vs] at k1 k2 tx sp hnl hsl
      have hfr := own_formX HRow.out.1.1
      obtain ⟨pv, cv, rfl⟩ := hfr
      have Htk := Lib.hid (take_at hm)
      have HTi := Lib.hid HRow.out.2
      have HRx := Lib.hid HRow.out.1
      rw [HRn.out] at HRx ⊢
      obtain ⟨wA, hA⟩ : ∃ wA, wA = wP.alloc (.cells #[.string (B m.id), .slice pn nn cn, .slice ps ns cs] 31) := ⟨_, rfl⟩
      have kA : wA.heap[wP.heap.size]? = some (.cells #[.string (B m.id), .slice pn nn cn, .slice ps ns cs] 31 (0, 0)) := by rw [hA]; exact heap_alloc_new wP _
      have hbA : Below wP.heap.size wP wA := by rw [hA]; exact (Below.refl _ _).alloc (Nat.le_refl _) _
      have hA0 : wA.cell? ⟨wP.heap.size, 0, none⟩ = some (.string (B m.id)) := cell_in kA
      have hA1 : wA.cell? ⟨wP.heap.size, 1, none⟩ = some (.slice pn nn cn) := cell_in kA
      have hA2 : wA.cell? ⟨wP.heap.size, 2, none⟩ = some (.slice ps ns cs) := cell_in kA
      have HbA := Lib.hid hbA
      have HT := Lib.hid (tx.later hbA)
      have HS := Lib.hid (sp.later hbA)
      have HCT := Lib.hid fun (W : World) (hb : Below wA.heap.size wA W) => cloneTx_any pn nn cn m.needs (by omega) W (HT.out.later hb)
      have HCS := Lib.hid fun (W : World) (hb : Below wA.heap.size wA W) => cloneSp_any ps ns cs m.steps (by omega) W (HS.out.later hb)
      have hzA : wP.heap.size < wA.heap.size := by rw [hA]; simp
      have hb1r : b1 < wP.heap.size := by omega
      have hii : (i : Int) < 5 := by omega
      have hnc : nn ≤ 4294967295 := by omega
      have hsc : ns ≤ 4294967295 := by omega
      have HA := Lib.hid hA
      clear hmv hg tx sp hx hm kA hbA hA hnl hsl lo1 lo2 HRow
      obtain ⟨nm, hnm⟩ : ∃ nm, nm = B m.id := ⟨_, rfl⟩
      rw [← hnm] at k0 hA0 HA
      have HNm := Lib.hid hnm
      clear hnm
      go_upto_region 5 with (fail)
      try rw [← HA.out]
      go_region_law
        (first
          | (refine step_callE (by rfl) 12 _ _ (by rfl) egCT _ (by rfl) _ (HCT.out _ (Below.refl _ _).drew) ?_; rintro v w6 ⟨⟨p6, c6, rfl, hc6, hn6⟩, hb6⟩; have HN6 := Lib.hid hn6; have hbw6 := (Below.refl wA.heap.size wA).drew.trans hb6; have HBw6 := Lib.hid hbw6; have e0 := cell_then hA0 hbw6; have e1 := cell_then hA1 hbw6; have e2 := cell_then hA2 hbw6; clear hn6 hb6 hbw6)
          | (refine step_callE (by rfl) 14 _ _ (by rfl) egCS _ (by rfl) _ (HCS.out _ HBw6.out) ?_; rintro v w7 ⟨⟨p7, c7, rfl, hc7, hn7⟩, hb7⟩; have HN7 := Lib.hid hn7; have HN67 := Lib.hid (HN6.out.later hb7); have hbw7 := then_bel HBw6.out hb7; have HBw7 := Lib.hid hbw7; have f0 := cell_then hA0 hbw7; have f1 := cell_then hA1 hbw7; have f2 := cell_then hA2 hbw7; have HPw7 := Lib.hid (then_bel HbA.out hbw7); have HR7 := Lib.hid (HRx.out.later HPw7.out); have HOw7 := Lib.hid HR7.out.1; rw [HRn.out] at HOw7; have hz7 : w1.heap.size ≤ w7.heap.size := Nat.le_trans hzP HPw7.out.size; clear hn7 hb7 hbw7)
          | (refine step_callE (by rfl) 11 _ _ (by rfl) egKT _ (by rfl) _ (clipTx_any _ _ _ (by assumption) (by omega) _) ?_; rintro v wq ⟨rfl, rfl⟩)
          | (refine step_callE (by rfl) 13 _ _ (by rfl) egKS _ (by rfl) _ (clipSp_any _ _ _ (by assumption) (by omega) _) ?_; rintro v wq ⟨rfl, rfl⟩)
          | (refine step_append_k (by rfl) _ _ 22 (by rfl) 31 i1 _ 3 64 Try.underlying22 si sz0 sz1 sz2 rfl (by omega) _ (by rfl) (by rfl) w1.heap.size _ i _ (by rfl) HOw7.out (by simp [Value.oneCell']) (by omega) (by omega) hz7 ?_; intro g8 c8 w8 hown8 hgrow8 _ _ _; have HO8 := Lib.hid hown8; have HG8 := Lib.hid hgrow8; clear hown8 hgrow8)
          | (refine step_append_k0 (by rfl) _ _ 22 (by rfl) 31 i1 _ 3 64 Try.underlying22 si sz0 sz1 sz2 rfl (by omega) _ (by rfl) (by rfl) w1.heap.size _ i _ (by rfl) HOw7.out (by simp [Value.oneCell']) (by omega) (by omega) hz7 ?_; intro g8 c8 w8 hown8 hgrow8 _ _ _; have HO8 := Lib.hid hown8; have HG8 := Lib.hid hgrow8; clear hown8 hgrow8)
          | fail)
      all_goals
        have hz8 : w1.heap.size ≤ wA.heap.size := by omega
        have hz9 : w1.heap.size ≤ w6.heap.size := Nat.le_trans hz8 HBw6.out.size
        have hgo : Goes w1.heap.size w7 ⟨m.id, p6, nn, nn, p7, ns, ns⟩ m := ⟨rfl, HN67.out.mono hz8, HN7.out.mono hz9⟩
        have ho8 := HO8.out
        rw [HNm.out] at ho8
        have hg8 := HG8.out
        have hpush := RowX.push HR7.out hgo (by rw [HRn.out]; exact ho8) hg8
        rw [← Htk.out] at hpush
        have HRow8 : Hid (RowT w1.heap.size w8 (.slice (some ⟨g8, 0, none⟩) (i + 1) c8) (R ++ [⟨m.id, p6, nn, nn, p7, ns, ns⟩]) (extraL.take (i + 1))) := Lib.hid ⟨hpush, fun r hr => by
          rcases List.mem_append.1 hr with h | h
          · exact HTi.out r h
          · rw [List.mem_singleton.1 h]; exact ⟨rfl, rfl⟩⟩
        have HB8 := Lib.hid (below_grown_own (Hb.out.trans (HPw7.out.mono hzP)) HR7.out.1 hg8 hz7)
        have HL8 : Hid ((R ++ [(⟨m.id, p6, nn, nn, p7, ns, ns⟩ : MvR)]).length = i + 1) := Lib.hid (by rw [List.length_append, HRn.out]; rfl)
        clear hgo ho8 hg8 hpush hA0 hA1 hA2 e0 e1 e2
        go_wp2_with fail
        go_roundw
        case rel => exact ⟨i + 1, _, _, by omega, by go_num, rfl, HL8, HRow8, HB8⟩
        case measure => simp [intOf]; omega
    · obtain rfl : i = 5 := by omega
      have hfr := own_formX HRow.out.1.1
      obtain ⟨pv, cv, rfl⟩ := hfr
      rw [HRn.out] at HRow ⊢
      have hcv := (HRow.out.1.new.1.rw mvC_len).ptr.2.1
      go_wp2_with fail
      refine (clipMv_any _ _ _ hcv (by omega) wP).mono ?_
      rintro e w' ⟨v, rfl, rfl, rfl⟩
      have HN := Lib.hid (HRow.out.1.clip.mono (M' := w.heap.size) (by omega))
      have HT := Lib.hid HRow.out.2
      have HBf := Lib.hid (HB1.out.trans (Hb.out.mono (by omega)))
      go_wp2_with fail
      go_ret
      exact ⟨⟨_, _, rfl, HN.out, HT.out⟩, HBf.out⟩
end Go.Proofs.Ythjcifokmcbaoaa.st
/- slices.Backward over moves: its contract, for a range over it. Conditions: those stated. -/
namespace Go.Proofs.Ythjcifokmcbaoaa.st
open Go.ChangeShapes Go.WideShapes Go.ChangeAt Go.RowKit gl ls Go.Shelf

attribute [local go_sem] Oper.semAt_some

/-- A move in memory, the move that it is, and its place. -/
abbrev MvX := Nat × MvR × Mv
def mvX (x : MvX) : Array Value := #[.int .i64 x.1, .agg #[.string (B x.2.1.id), x.2.1.vn, x.2.1.vs]]
theorem drop_back {α : Type} {l : List α} {j : Nat} {x : α} (h : l[j]? = some x) : (l.drop j).reverse = (l.drop (j + 1)).reverse ++ [x] := by
  obtain ⟨hj, rfl⟩ := List.getElem?_eq_some_iff.1 h
  rw [List.drop_eq_getElem_cons hj, List.reverse_cons]
set_option maxHeartbeats 2000000 in
set_option maxRecDepth 100000 in
theorem back1_in {α : Type} (sub : α → MvX) (F : Fence) (n : Nat) (hf : F.fn 26) (hro : F.round = none) (hn : 1 ≤ n) (l Bs n₀ b off len cap : Nat) (zs : List α) (hlen : zs.length = len) (hl32 : len ≤ 4294967295) (hb : b < n₀) (J Jx : List α → World → Prop)
    (hY : ∀ pre x W, J pre W → pre.length < len → YieldAt F (n - 1) Try.prog l (mvX (sub x)) W fun e W' =>
      (e = .returned (.bool true) ∧ J (pre ++ [x]) W' ∧ Below n₀ W W') ∨ (e = .returned (.bool false) ∧ Jx (pre ++ [x]) W'))
    (W : World) (hBn : Bs < n₀) (hBs : W.cell? ⟨Bs, 0, none⟩ = some (.slice (some ⟨b, off, none⟩) len cap))
    (hc : ∀ j x, zs[j]? = some x → (sub x).1 = j ∧ W.cell? ⟨b, off + j * 3, none⟩ = some (.string (B (sub x).2.1.id)) ∧ W.cell? ⟨b, off + j * 3 + 1, none⟩ = some (sub x).2.1.vn ∧ W.cell? ⟨b, off + j * 3 + 2, none⟩ = some (sub x).2.1.vs) (h0 : J [] W) :
    CallsIn F n Try.prog 26 #[.func (.yield l) #[] #[], .pointer (some ⟨Bs, 0, none⟩)] W fun e W' => (∃ v, e = .returned v) ∧
      ((∃ ys, ys = zs.reverse ∧ J ys W') ∨ (∃ pre, (∃ j, j ≤ len ∧ pre = (zs.drop j).reverse) ∧ Jx pre W')) := by
  refine callsIn_of_wp Try.func26 rfl hf ?_ hro
  simp only [Try.ntmps26, List.size_toArray, List.length_cons, List.length_nil, Nat.reduceAdd, Nat.reduceSub, Array.replicate_succ, Array.replicate_zero, List.push_toArray, List.append_toArray, List.nil_append, List.cons_append]
  have Hc := Lib.hid hc
  have HY := Lib.hid hY
  clear hc hY
  gi_wp2
  gi_loopw [3] (fun i wr => ∃ j : Nat, j ≤ len ∧ i = .int .i64 ((j : Int) - 1) ∧ Hid (J (zs.drop j).reverse wr) ∧ Hid (Below n₀ W wr))
    (fun i _ => (intOf i + 1).toNat)
  case atStart => exact ⟨len, Nat.le_refl _, by go_num, Lib.hid (by rw [List.drop_of_length_le (by omega)]; exact h0), Lib.hid (Below.refl _ _)⟩
  case round =>
    obtain ⟨j, hj, rfl, HJ, Hnx⟩ := hrel
    have hBs' : wr.cell? ⟨Bs, 0, none⟩ = some (.slice (some ⟨b, off, none⟩) len cap) := (Hnx.out.cell (p := ⟨Bs, 0, none⟩) hBn).trans hBs
    cases j with
    | zero =>
      gi_wp2
      go_end0
      exact ⟨⟨_, rfl⟩, .inl ⟨_, rfl, HJ.out⟩⟩
    | succ j =>
      obtain ⟨x, hx⟩ : ∃ x, zs[j]? = some x := ⟨_, List.getElem?_eq_getElem (by omega)⟩
      obtain ⟨hxj, k0, k1, k2⟩ := Hc.out j x hx
      have d0 := (Hnx.out.cell (p := ⟨b, off + j * 3, none⟩) hb).trans k0
      have d1 := (Hnx.out.cell (p := ⟨b, off + j * 3 + 1, none⟩) hb).trans k1
      have d2 := (Hnx.out.cell (p := ⟨b, off + j * 3 + 2, none⟩) hb).trans k2
      have Hdr := Lib.hid (drop_back hx)
      rw [show ((j + 1 : Nat) : Int) - 1 = (j : Int) by omega]
      obtain ⟨fn, tmps, assign, body, hy, hR⟩ := HY.out _ x wr HJ.out (by rw [List.length_reverse, List.length_drop]; omega)
      have HR := Lib.hid hR
      unfold mvX at hy
      rw [hxj] at hy
      have hj5 : (0 : Int) ≤ (j : Int) := by omega
      have hjl : (j : Int) < (len : Int) := by omega
      clear k0 k1 k2 hx hR
      generalize B (sub x).2.1.id = nm at *
      generalize (sub x).2.1.vn = vn at *
      generalize (sub x).2.1.vs = vs at *
      gi_wp2
      refine HR.out.mono ?_
      rintro e W3 (⟨rfl, hJ3, hk3⟩ | ⟨rfl, hJx3⟩)
      · have HJ3 := Lib.hid hJ3
        rw [← Hdr.out] at HJ3
        have HK3 := Lib.hid (Hnx.out.trans hk3)
        clear hJ3 hk3
        gi_wp2
        go_roundw
        case rel => exact ⟨j, by omega, by go_num, HJ3, HK3⟩
        case measure => simp [intOf]
      · gi_wp2
        refine bodyPost_ret (results_none rfl _ _ _) rfl ?_
        exact ⟨⟨_, rfl⟩, .inr ⟨_, ⟨j, by omega, Hdr.out.symm⟩, hJx3⟩⟩
set_option maxRecDepth 100000 in
theorem back_in (F : Fence) (n : Nat) (hf : F.fn 20) (hro : F.round = none) (a : Option Addr) (len cap : Nat) (w : World) :
    CallsIn F n Try.prog 20 #[.slice a len cap] w fun e w' => e = .returned (.func (.func 26) #[] #[.pointer (some ⟨w.heap.size, 0, none⟩)]) ∧ w' = w.alloc (.cells #[.slice a len cap] 22) := by
  refine callsIn_of_wp Try.func20 rfl hf ?_ hro
  simp only [Try.ntmps20, List.size_toArray, List.length_cons, List.length_nil, Nat.reduceAdd, Nat.reduceSub, Array.replicate_succ, Array.replicate_zero, List.push_toArray, List.append_toArray, List.nil_append, List.cons_append]
  gi_wp2
  go_ret
  exact ⟨rfl, rfl⟩
/-- What slices.Backward gives goes over its moves from the last on. -/
theorem back_stops {α : Type} (sub : α → MvX) (F : Fence) (n : Nat) (hf : F.fn 26) (hro : F.round = none) (hn : 1 ≤ n) (Bs n₀ b off len cap : Nat) (zs : List α) (hlen : zs.length = len) (hl32 : len ≤ 4294967295) (hb : b < n₀) (w : World) (hBs : Bs < n₀) (hn₀ : n₀ ≤ w.heap.size)
    (hs : w.cell? ⟨Bs, 0, none⟩ = some (.slice (some ⟨b, off, none⟩) len cap))
    (hc : ∀ j x, zs[j]? = some x → (sub x).1 = j ∧ w.cell? ⟨b, off + j * 3, none⟩ = some (.string (B (sub x).2.1.id)) ∧ w.cell? ⟨b, off + j * 3 + 1, none⟩ = some (sub x).2.1.vn ∧ w.cell? ⟨b, off + j * 3 + 2, none⟩ = some (sub x).2.1.vs) :
    SeqStopsK F n Try.prog 26 #[.pointer (some ⟨Bs, 0, none⟩)] (fun x : α => mvX (sub x)) (Below n₀) (fun ys => ys = zs.reverse) (fun pre => ∃ j, j ≤ len ∧ pre = (zs.drop j).reverse) len w := fun l J Jx W hW _ _ hY h0 => by
  have hW' := hW.mono hn₀
  exact back1_in sub F n hf hro hn l Bs n₀ b off len cap zs hlen hl32 hb J Jx hY W hBs ((hW'.cell (p := ⟨Bs, 0, none⟩) hBs).trans hs) (fun j x hx => by
    obtain ⟨h1, h2, h3, h4⟩ := hc j x hx
    exact ⟨h1, (hW'.cell (p := ⟨b, off + j * 3, none⟩) hb).trans h2, (hW'.cell (p := ⟨b, off + j * 3 + 1, none⟩) hb).trans h3, (hW'.cell (p := ⟨b, off + j * 3 + 2, none⟩) hb).trans h4⟩) h0
theorem keepsFrom_below {W W' : World} (h : Below W.heap.size W W') (C : Nat) : KeepsFrom C W W' := ⟨h.size, fun k _o _ hk _ => (h.block k (lt_of_block hk)).trans hk⟩
end Go.Proofs.Ythjcifokmcbaoaa.st
/- extra.Index: the last move that speaks of a table. Condition: none beside the text's length. -/
namespace Go.Proofs.Ythjcifokmcbaoaa.st
open Go.ChangeShapes Go.WideShapes Go.ChangeAt Go.RowKit gl ls Go.Shelf

attribute [local go_sem] Oper.semAt_some

/-- The last move that speaks of a table, by its ID. -/
def indexX (t : List UInt8) : List UInt8 := ((extraL.reverse.find? fun m => spkM m t).map (·.id)).getD []
theorem find_back {β : Type} (f : β → Bool) (l : List β) (ini : List β) (x : β) (rest : List β) (h : l = ini ++ x :: rest) (h1 : ∀ y ∈ ini, f y = false) (h2 : f x = true) : l.find? f = some x := by
  subst h
  rw [List.find?_append, List.find?_eq_none.2 (fun y hy => by rw [h1 y hy]; simp)]
  simp [h2]
theorem indexX_is {β : Type} (t : List UInt8) (g : β → Mv) (zs : List β) (h : zs.map g = extraL) : indexX t = ((zs.reverse.find? fun x => spkM (g x) t).map fun x => (g x).id).getD [] := by
  unfold indexX
  rw [← h, ← List.map_reverse, List.find?_map, Option.map_map]
  rfl
/-- Moves in memory, each with its place: those of a row. -/
theorem rowX_list {R : List MvR} {l : List Mv} (hl : R.length = l.length) (Pr : MvX → Prop) (hP : ∀ i r m, R[i]? = some r → l[i]? = some m → Pr (i, r, m)) : ∃ zs : List { x : MvX // Pr x }, zs.length = R.length ∧ zs.map (fun (x : { x : MvX // Pr x }) => x.1.2.2) = l ∧ ∀ (j : Nat) (x : { x : MvX // Pr x }), zs[j]? = some x → x.1.1 = j ∧ R[j]? = some x.1.2.1 := by
  refine ⟨List.ofFn (n := R.length) fun i => ⟨(i.1, R[i.1], l[i.1]'(by rw [← hl]; exact i.2)), hP _ _ _ (List.getElem?_eq_getElem _) (List.getElem?_eq_getElem _)⟩, by simp, ?_, ?_⟩
  · refine List.ext_getElem (by simp [hl]) fun i h1 h2 => ?_
    simp
  · intro j x hx
    have hj : j < R.length := by simpa using lt_get hx
    rw [List.getElem?_ofFn, dif_pos hj] at hx
    obtain rfl := Option.some.inj hx
    exact ⟨rfl, List.getElem?_eq_getElem hj⟩
theorem extra_stepsB : (extraL.all fun m => decide (1 ≤ m.steps.length) && decide (m.steps.length ≤ 1000)) = true := by decide +kernel
theorem extra_stepsX : ∀ m ∈ extraL, 1 ≤ m.steps.length ∧ m.steps.length ≤ 1000 := by
  intro m hm
  have := List.all_eq_true.1 extra_stepsB m hm
  simpa using this
/-- A box of three cells. -/
def Box3 (W : World) (b : Nat) (r : MvR) : Prop := W.heap[b]? = some (.cells #[.string (B r.id), r.vn, r.vs] 31 (0, 0))
theorem box3_own {β : Type} (b : Nat) (f : β → MvR) : Own (fun s W => Box3 W b (f s)) := fun s X Y row hs hg hrow => by
  refine (hg.block b (lt_of_block hs) fun e' => ?_).trans hs
  obtain ⟨o, ho, hc⟩ := hrow b e'.symm
  rw [show X.heap[b]? = _ from hs] at ho
  cases ho
  cases hc
set_option maxHeartbeats 4000000 in
set_option maxRecDepth 100000 in
theorem index_any (t : List UInt8) (w : World) : Calls Try.prog 8 #[.string (B t)] w fun e w' => e = .returned (.string (B (indexX t))) ∧ Below w.heap.size w w' := by
  refine (callsIn_wide (n := 9)).1 ?_
  refine callsIn_of_wp_marks Try.func8 rfl trivial ?_ rfl
  simp only [Try.ntmps8, List.size_toArray, List.length_cons, List.length_nil, Nat.reduceAdd, Nat.reduceSub, Array.replicate_succ, Array.replicate_zero, List.push_toArray, List.append_toArray, List.nil_append, List.cons_append]
  obtain ⟨wa, hwa⟩ : ∃ wa, wa = (w.alloc (.cells #[.string (B t)] 9)).alloc (.cells #[.string ⟨#[]⟩] 9) := ⟨_, rfl⟩
  have hba : Below w.heap.size w wa := by rw [hwa]; exact ((Below.refl _ _).alloc (Nat.le_refl _) _).alloc (by simp) _
  have x1 : Boxed wa w.heap.size 9 (.string (B t)) := by rw [hwa]; exact (Boxed.new w _ _).alloc _
  have x2 : Boxed wa (w.heap.size + 1) 9 (.string ⟨#[]⟩) := by
    have := Boxed.new (w.alloc (.cells #[.string (B t)] 9)) 9 (.string ⟨#[]⟩)
    rw [World.size_alloc] at this
    rw [hwa]; exact this
  have hza : wa.heap.size = w.heap.size + 2 := by rw [hwa]; simp
  have HA := Lib.hid hwa
  clear hwa
  gi_wp2_with fail
  rw [← HA.out]
  refine ⟨trivial, ?_⟩
  refine (callsIn_wide.2 (reckoned_any wa)).mono ?_
  rintro e w1 ⟨⟨v1, R1, rfl, h1⟩, hb1⟩
  obtain ⟨p1, c1, rfl⟩ := h1.1.form
  have hl1 : R1.length = 5 := h1.2.1
  have hp1 := (h1.1.rw mvC_len).ptr.2.2
  rw [hl1] at hp1
  obtain ⟨bb, ob, rfl, hbb⟩ := hp1 (by omega)
  obtain ⟨zs, hz1, hz2, hz3⟩ := rowX_list h1.2.1 (fun x => Goes wa.heap.size w1 x.2.1 x.2.2 ∧ x.2.2 ∈ extraL) (fun i r m hr hm => ⟨h1.2.2 i r m hr hm, List.mem_of_getElem? hm⟩)
  have hmv := fun j x hx => mv_cells (h1.1.rw mvC_len) (hz3 j x hx).2
  rw [hl1] at hz1 ⊢
  have Hz2 := Lib.hid hz2
  have Hz3 := Lib.hid hz3
  have Hmv := Lib.hid hmv
  clear hz2 hz3 hmv h1 hl1 hp1
  gi_wp2_with fail
  refine ⟨trivial, ?_⟩
  refine (back_in Fence.wide _ trivial rfl _ _ _ _).mono ?_
  rintro e w2 ⟨rfl, hw2⟩
  have hb2 : Below w1.heap.size w1 w2 := by rw [hw2]; exact (Below.refl _ _).alloc (Nat.le_refl _) _
  have x3 : Boxed w2 w1.heap.size 22 (.slice (some ⟨bb, ob, none⟩) 5 c1) := by rw [hw2]; exact Boxed.new w1 _ _
  have hz2' : w2.heap.size = w1.heap.size + 1 := by rw [hw2]; simp
  have hz1' := hb1.size
  have hba2 : Below wa.heap.size wa w2 := then_bel hb1 hb2
  have y1 : Boxed w2 w.heap.size 9 (.string (B t)) := (hba2.block _ x1.lt).trans x1
  have y2 : Boxed w2 (w.heap.size + 1) 9 (.string ⟨#[]⟩) := (hba2.block _ x2.lt).trans x2
  have hbw2 : Below w.heap.size w w2 := then_bel hba hba2
  clear hw2 x1 x2
  gi_wp2_with fail
  refine wpIn_rangeFunc_ownH rfl (by omega) (gf := 26) (lb := #[.pointer (some ⟨w1.heap.size, 0, none⟩)]) rfl trivial (enters_of Try.func26 (by kernel_rfl) rfl)
    (back_stops (fun x => x.1) Fence.wide 8 trivial rfl (by omega) w1.heap.size w2.heap.size bb ob 5 c1 zs hz1 (by omega) (by omega) w2 (by omega) (Nat.le_refl _) x3.cell (fun j x hx => ⟨(Hz3.out j x hx).1, cell_then (Hmv.out j x hx).1 hb2, cell_then (Hmv.out j x hx).2.1 hb2, cell_then (Hmv.out j x hx).2.2 hb2⟩)) belowK_t (belowK_b (Nat.le_refl _)) (Below.refl _ _) (fun _ => rfl)
    (fun pre W => ((∀ x ∈ pre, spkM x.1.2.2 t = false) ∧ (Boxed W w.heap.size 9 (.string (B t)) ∧ Boxed W (w.heap.size + 1) 9 (.string ⟨#[]⟩))) ∧ Below w2.heap.size w2 W)
    (fun c pre W => (c = .ret ∧ ∃ ini last, pre = ini ++ [last] ∧ (∀ x ∈ ini, spkM x.1.2.2 t = false) ∧ spkM last.1.2.2 t = true ∧ Boxed W (w.heap.size + 1) 9 (.string (B last.1.2.2.id))) ∧ Below w.heap.size w W)
    (OwnFrom.and (Own.from (fun s A C row hs hg hr => ⟨hs.1, boxed_own _ _ (fun (_ : Unit) => _) () A C row hs.2.1 hg hr, boxed_own _ _ (fun (_ : Unit) => _) () A C row hs.2.2 hg hr⟩) _) (ownFrom_below (Nat.le_refl _) (Nat.le_refl _)))
    (fun c => OwnFrom.and (Own.from (fun s A C row hs hg hr => by obtain ⟨hc, ini, last, e1, e2, e3, e4⟩ := hs; exact ⟨hc, ini, last, e1, e2, e3, boxed_own _ _ (fun (_ : Unit) => _) () A C row e4 hg hr⟩) _) (ownFrom_below (Nat.le_refl _) (by omega)))
    ⟨⟨by simp, y1, y2⟩, Below.refl _ _⟩
    (fun x a' W => ∃ Bx, w2.heap.size ≤ Bx ∧ Box3 W Bx x.1.2.1 ∧ a' = { tmps := #[.string (B t), .pointer (some ⟨w.heap.size, 0, none⟩), .pointer (some ⟨w.heap.size + 1, 0, none⟩), undef, .pointer (some ⟨Bx, 0, none⟩), .slice (some ⟨bb, ob, none⟩) 5 c1, .func (.func 26) #[] #[.pointer (some ⟨w1.heap.size, 0, none⟩)], .int .i64 x.1.1, .agg #[.string (B x.1.2.1.id), x.1.2.1.vn, x.1.2.1.vs], undef, undef, undef, undef, undef], defers := [] })
    (fun x a' _ X Y row hs hg hr => by obtain ⟨Bx, h1, h2, h3⟩ := hs; exact ⟨Bx, h1, box3_own Bx (fun (_ : Unit) => x.1.2.1) () X Y row h2 hg (fun r e => (hr r e).2), h3⟩)
    ?assign ?body ?done ?stop
  case assign =>
    rintro l pre x W K ⟨⟨hp, bx1, bx2⟩, hB⟩ hK
    unfold mvX
    have HK := Lib.hid hK
    clear hK
    gi_wp2_with fail
    exact HK.out _ _ ((KeepsOthers.alloc _ _).from _) ((Below.refl _ W).alloc hB.size _) ⟨⟨hp, bx1.alloc _, bx2.alloc _⟩, hB.alloc hB.size _⟩ ⟨W.heap.size, hB.size, heap_alloc_new W _, rfl⟩
  case body =>
    rintro l pre ⟨⟨ix, r, m⟩, hg, hmem⟩ a' W hl hr ⟨⟨hp, bx1, bx2⟩, hB⟩ ⟨Bx, hbx, hBx, rfl⟩ hlt
    simp only at hg hmem hBx
    obtain ⟨st1, st2⟩ := extra_stepsX m hmem
    have hzW := hB.size
    have hgW := (hg.later hb2).later (hB.mono (by omega))
    have sp := hgW.2.2.rw spC_len
    have hsl := sp.ptr.1
    have hid := hgW.1
    obtain ⟨xi, pn, nn, cn, ps, ns, cs⟩ := r
    simp only [MvR.vs] at sp hsl
    simp only at hid
    subst hid
    unfold Box3 at hBx
    simp only [MvR.vn, MvR.vs] at hBx
    have b0 : W.cell? ⟨Bx, 0, none⟩ = some (.string (B m.id)) := cell_in hBx
    have b1 : W.cell? ⟨Bx, 1, none⟩ = some (.slice pn nn cn) := cell_in hBx
    have b2 : W.cell? ⟨Bx, 2, none⟩ = some (.slice ps ns cs) := cell_in hBx
    have t1 := bx1.cell
    have HS := Lib.hid (speaksX_any m t pn ps nn cn ns cs (by omega) (by omega) W sp)
    have HBW := Lib.hid (hbw2.trans (hB.mono (by omega)))
    have HI := Lib.hid (And.intro hp (And.intro bx1 bx2))
    have HB' := Lib.hid hB
    clear hgW sp hsl st1 st2 hBx hp bx1 bx2 hB hbx
    cases hsp : spkM m t with
    | false =>
      rw [hsp] at HS
      have Hsp := Lib.hid hsp
      clear hsp
      gi_wp2_with fail
      refine ⟨trivial, ?_⟩
      refine (CallsIn.inRound l (callsIn_wide.2 HS.out)).mono ?_
      rintro e w5 ⟨rfl, hb5⟩
      have HB5 := Lib.hid hb5
      clear hb5
      gi_wp2_with fail
      obtain ⟨i1, i2, i3⟩ := HI.out
      refine ⟨keepsFrom_below HB5.out _, HB5.out.mono hzW, ⟨fun y hy => ?_, (HB5.out.block _ i2.lt).trans i2, (HB5.out.block _ i3.lt).trans i3⟩, HB'.out.trans (HB5.out.mono hzW)⟩
      rcases List.mem_append.1 hy with h | h
      · exact i1 y h
      · rw [List.mem_singleton.1 h]
        exact Hsp.out
    | true =>
      rw [hsp] at HS
      have Hsp := Lib.hid hsp
      clear hsp
      gi_wp2_with fail
      refine ⟨trivial, ?_⟩
      refine (CallsIn.inRound l (callsIn_wide.2 HS.out)).mono ?_
      rintro e w5 ⟨rfl, hb5⟩
      have d0 := cell_then b0 hb5
      have d3 : w5.cell? ⟨w.heap.size + 1, 0, none⟩ = some (.string ⟨#[]⟩) := cell_then HI.out.2.2.cell hb5
      have i3 : Boxed w5 (w.heap.size + 1) 9 (.string ⟨#[]⟩) := (hb5.block _ HI.out.2.2.lt).trans HI.out.2.2
      have d4 := i3.frozen
      have HB5 := Lib.hid hb5
      have I3 := Lib.hid i3
      clear hb5 i3
      gi_wp2_with fail
      exact ⟨(keepsFrom_below HB5.out _).trans ((KeepsOthers.setCell _ _ _).from _), ⟨rfl, pre, _, rfl, HI.out.1, Hsp.out, I3.out.set _⟩, (HBW.out.trans (HB5.out.mono HBW.out.size)).setCell (p := ⟨w.heap.size + 1, 0, none⟩) (by simp) _⟩
  case done =>
    rintro D ys W hD rfl ⟨⟨hne, bx1, bx2⟩, hB⟩ hK
    have hfr := bx2.frozen
    have hcr := bx2.cell
    gi_wp2_with fail
    have hK' := (KeepsOthers.setCell W ⟨w.heap.size + 1, 0, none⟩ (.string ⟨#[]⟩)).same D _ hK rfl
    refine ⟨by simp, .inl ⟨_, _, rfl, run_takeDeferred hK', ?_⟩⟩
    have hc5 := cell_kept (World.cell?_setCell_same' W ⟨w.heap.size + 1, 0, none⟩ (.string ⟨#[]⟩) (by rw [hcr]; rfl)) (grownBy_putObj' _ D (.deferred none)) (fun r e => by cases e; exact ⟨_, hK', rfl⟩)
    have hid : indexX t = [] := by
      rw [indexX_is t _ _ Hz2.out, List.find?_eq_none.2 (fun y hy => by
        have := hne y hy
        rw [this]; simp)]
      rfl
    refine ⟨.string (B (indexX t)), ?_, rfl, ((hbw2.trans (hB.mono (by omega))).setCell (p := ⟨w.heap.size + 1, 0, none⟩) (by simp) _).trans (belowK_b (w := w) (Nat.le_refl _) _ D _ _ (by omega) hK' rfl rfl)⟩
    rw [hid]
    simp [results, Try.f8, go_sem, hc5, B]
  case stop =>
    rintro D c pre W hD ⟨j, hj, rfl⟩ ⟨⟨rfl, ini, last, e1, e2, e3, bxr⟩, hB⟩ hK
    have hcr := bxr.cell
    gi_wp2_with fail
    refine ⟨by simp, .inl ⟨_, _, rfl, run_takeDeferred hK, ?_⟩⟩
    have hc5 := cell_kept hcr (grownBy_putObj' _ D (.deferred none)) (fun r e => by cases e; exact ⟨_, hK, rfl⟩)
    have hid : indexX t = last.1.2.2.id := by
      have hrev : zs.reverse = ini ++ last :: (zs.take j).reverse := by
        rw [show ini ++ last :: (zs.take j).reverse = (ini ++ [last]) ++ (zs.take j).reverse by simp, ← e1, ← List.reverse_append, List.take_append_drop]
      rw [indexX_is t _ _ Hz2.out, find_back _ _ ini last _ hrev e2 e3]
      rfl
    refine ⟨.string (B (indexX t)), ?_, rfl, hB.trans (belowK_b (w := w) (Nat.le_refl _) W D _ _ (by omega) hK rfl rfl)⟩
    rw [hid]
    simp [results, Try.f8, go_sem, hc5]
end Go.Proofs.Ythjcifokmcbaoaa.st
/- law 19: texts, alike, speaks. Conditions: lists of at most 4294967295 elements. -/
namespace Go.Proofs.Ythjcifokmcbaoaa.st
open Go.ChangeShapes Go.WideShapes Go.ChangeAt Go.RowKit gl ls

set_option maxHeartbeats 2000000 in
set_option maxRecDepth 100000 in
theorem texts19_any (p p' : Option Addr) (m m' c c' : Nat) (l l' : List (List UInt8)) (hl : m ≤ 4294967295) (hl' : m' ≤ 4294967295) (w : World) (h : Txt w (.slice p m c) l) (h' : Txt w (.slice p' m' c') l') :
    Calls Try.prog 25 #[.slice p m c, .slice p' m' c'] w fun e w' => ∃ r : Bool, e = .returned (.bool r) ∧ (l = l' → r = true) ∧ ∃ q, w' = w.drewN q := by
  obtain ⟨hlen, hmc, hptr⟩ := h.ptr
  obtain ⟨hlen', hmc', hptr'⟩ := h'.ptr
  have HS := Lib.hid h
  have HS' := Lib.hid h'
  have Hlen := Lib.hid hlen
  have Hlen' := Lib.hid hlen'
  have Hptr := Lib.hid hptr
  have Hptr' := Lib.hid hptr'
  clear h h' hlen hlen' hptr hptr'
  by_cases hmm : m = m'
  · subst hmm
    go_enter Try.func25, Try.ntmps25
    go_wp2_with fail
    go_loopw [5] (fun i wr => ∃ j q : Nat, j ≤ m ∧ i = .int .i64 j ∧ wr = w.drewN q) (fun i _ => m - (intOf i).toNat)
    case atStart => exact ⟨0, 0, by omega, rfl, rfl⟩
    case round =>
      obtain ⟨j, q, hj, rfl, rfl⟩ := hrel
      by_cases hlt : j < m
      · obtain ⟨b, o, rfl, hbl⟩ := Hptr.out (by omega)
        obtain ⟨b', o', rfl, hbl'⟩ := Hptr'.out (by omega)
        obtain ⟨x, hx⟩ : ∃ x, l[j]? = some x := ⟨_, List.getElem?_eq_getElem (by rw [Hlen.out]; exact hlt)⟩
        obtain ⟨y, hy⟩ : ∃ y, l'[j]? = some y := ⟨_, List.getElem?_eq_getElem (by rw [Hlen'.out]; exact hlt)⟩
        have c0 := txt_cell HS.out hx
        have d0 := txt_cell HS'.out hy
        have Hs : Hid (l = l' → (!((B x).toList == (B y).toList)) = false) := Lib.hid fun e => by rw [e, hy] at hx; obtain rfl := Option.some.inj hx; simp
        clear hx hy
        have hk1 : (j : Int) < (m : Int) := by omega
        have hk5 : (0 : Int) ≤ (j : Int) := by omega
        cases ht : ((B x).toList == (B y).toList) with
        | true =>
          generalize B x = n1 at *
          generalize B y = n2 at *
          replace c0 : (w.drewN q).cell? ⟨b, o + j, none⟩ = some (.string n1) := c0
          replace d0 : (w.drewN q).cell? ⟨b', o' + j, none⟩ = some (.string n2) := d0
          generalize hq : w.drewN q = wr at *
          have Hq := Lib.hid hq
          clear hq
          go_wp2_with fail
          go_quiet (fail)
          go_wp2_with fail
          go_roundw
          case rel => exact ⟨j + 1, _, by omega, by go_num, by rw [← Hq.out, World.drewN_drewN]⟩
          case measure => simp [intOf]; omega
        | false =>
          rw [ht] at Hs
          generalize B x = n1 at *
          generalize B y = n2 at *
          replace c0 : (w.drewN q).cell? ⟨b, o + j, none⟩ = some (.string n1) := c0
          replace d0 : (w.drewN q).cell? ⟨b', o' + j, none⟩ = some (.string n2) := d0
          generalize hq : w.drewN q = wr at *
          have Hq := Lib.hid hq
          clear hq
          go_wp2_with fail
          go_quiet (fail)
          go_wp2_with fail
          go_ret
          exact ⟨false, rfl, fun e => absurd (Hs.out e) (by simp), _, by rw [← Hq.out, World.drewN_drewN]⟩
      · obtain rfl : j = m := by omega
        go_wp2_with fail
        go_ret
        exact ⟨true, rfl, fun _ => rfl, q, rfl⟩
  · have hmm' : ((m : Int) != (m' : Int)) = true := by simp; omega
    have hne : l ≠ l' := by rintro rfl; exact hmm (by rw [← Hlen.out, ← Hlen'.out])
    have Hne := Lib.hid hne
    clear hmm hne
    go_enter Try.func25, Try.ntmps25
    go_wp2_with fail
    go_ret
    exact ⟨false, rfl, fun e => absurd e Hne.out, 0, rfl⟩
theorem texts19_same (p p' : Option Addr) (m c c' : Nat) (l : List (List UInt8)) (hl : m ≤ 4294967295) (w : World) (h : Txt w (.slice p m c) l) (h' : Txt w (.slice p' m c') l) :
    Calls Try.prog 25 #[.slice p m c, .slice p' m c'] w fun e w' => e = .returned (.bool true) ∧ ∃ q, w' = w.drewN q :=
  (texts19_any p p' m m c c' l l hl hl w h h').mono fun e w' ⟨r, h1, h2, h3⟩ => ⟨by rw [h1, h2 rfl], h3⟩
set_option maxHeartbeats 4000000 in
set_option maxRecDepth 100000 in
theorem alike19_any (i : ByteArray) (pn pn' ps ps' : Option Addr) (nn cn cn' ns cs cs' : Nat) (tx : List (List UInt8)) (st : List Sp) (hn : nn ≤ 4294967295) (hs : ns ≤ 4294967295) (w : World) (h1 : Txt w (.slice pn nn cn) tx) (h1' : Txt w (.slice pn' nn cn') tx) (h2 : Sps w (.slice ps ns cs) st) (h2' : Sps w (.slice ps' ns cs') st) :
    Calls Try.prog 16 #[.agg #[.string i, .slice pn nn cn, .slice ps ns cs], .agg #[.string i, .slice pn' nn cn', .slice ps' ns cs']] w fun e w' => e = .returned (.bool true) ∧ Below w.heap.size w w' := by
  obtain ⟨wA, hA⟩ : ∃ wA, wA = w.alloc (.cells #[.string i, .slice pn nn cn, .slice ps ns cs] 31) := ⟨_, rfl⟩
  obtain ⟨wB, hB⟩ : ∃ wB, wB = wA.alloc (.cells #[.string i, .slice pn' nn cn', .slice ps' ns cs'] 31) := ⟨_, rfl⟩
  have zA : wA.heap.size = w.heap.size + 1 := by rw [hA]; simp
  have kA : wA.heap[w.heap.size]? = some (.cells #[.string i, .slice pn nn cn, .slice ps ns cs] 31 (0, 0)) := by rw [hA]; exact heap_alloc_new w _
  have kB : wB.heap[w.heap.size + 1]? = some (.cells #[.string i, .slice pn' nn cn', .slice ps' ns cs'] 31 (0, 0)) := by rw [hB, ← zA]; exact heap_alloc_new wA _
  have kA' : wB.heap[w.heap.size]? = some (.cells #[.string i, .slice pn nn cn, .slice ps ns cs] 31 (0, 0)) := by rw [hB]; exact heap_al kA _
  have hbA : Below w.heap.size w wA := by rw [hA]; exact (Below.refl _ _).alloc (Nat.le_refl _) _
  have hbB : Below w.heap.size w wB := by rw [hB]; exact hbA.alloc (by omega) _
  have zB : wB.heap.size = w.heap.size + 2 := by rw [hB]; simp [zA]
  have c0 : wB.cell? ⟨w.heap.size, 0, none⟩ = some (.string i) := cell_in kA'
  have c1 : wB.cell? ⟨w.heap.size, 1, none⟩ = some (.slice pn nn cn) := cell_in kA'
  have c2 : wB.cell? ⟨w.heap.size, 2, none⟩ = some (.slice ps ns cs) := cell_in kA'
  have d0 : wB.cell? ⟨w.heap.size + 1, 0, none⟩ = some (.string i) := cell_in kB
  have d1 : wB.cell? ⟨w.heap.size + 1, 1, none⟩ = some (.slice pn' nn cn') := cell_in kB
  have d2 : wB.cell? ⟨w.heap.size + 1, 2, none⟩ = some (.slice ps' ns cs') := cell_in kB
  have HT := Lib.hid (texts19_same pn pn' nn cn cn' tx hn wB (h1.later hbB) (h1'.later hbB))
  have HS := Lib.hid (h2.later hbB)
  have HS' := Lib.hid (h2'.later hbB)
  have Hptr := Lib.hid (h2.later hbB).ptr
  have Hptr' := Lib.hid (h2'.later hbB).ptr
  have HbB := Lib.hid hbB
  have HA := Lib.hid hA
  have HB := Lib.hid hB
  have hid' : (i.toList != i.toList) = false := by simp
  have hns : ((ns : Int) != (ns : Int)) = false := by simp
  clear h1 h1' h2 h2' hA hB kA kB kA' hbA hbB zA
  go_enter Try.func16, Try.ntmps16
  go_upto_region 1 with (fail)
  try rw [← HA.out]
  try rw [← HB.out]
  go_wp2_with fail
  refine HT.out.mono ?_
  rintro e w1 ⟨rfl, q1, rfl⟩
  replace c0 : (wB.drewN q1).cell? ⟨w.heap.size, 0, none⟩ = some (.string i) := c0
  replace c1 : (wB.drewN q1).cell? ⟨w.heap.size, 1, none⟩ = some (.slice pn nn cn) := c1
  replace c2 : (wB.drewN q1).cell? ⟨w.heap.size, 2, none⟩ = some (.slice ps ns cs) := c2
  replace d0 : (wB.drewN q1).cell? ⟨w.heap.size + 1, 0, none⟩ = some (.string i) := d0
  replace d1 : (wB.drewN q1).cell? ⟨w.heap.size + 1, 1, none⟩ = some (.slice pn' nn cn') := d1
  replace d2 : (wB.drewN q1).cell? ⟨w.heap.size + 1, 2, none⟩ = some (.slice ps' ns cs') := d2
  obtain ⟨wC, hC⟩ : ∃ wC, wC = wB.drewN q1 := ⟨_, rfl⟩
  rw [← hC] at c0 c1 c2 d0 d1 d2 ⊢
  have HbC : Hid (Below wB.heap.size wB wC) := Lib.hid (by rw [hC]; exact drewN_bel wB q1)
  clear hC
  go_wp2_with fail
  go_loopw [6] (fun i wr => ∃ j q : Nat, j ≤ ns ∧ i = .int .i64 j ∧ wr = wC.drewN q) (fun i _ => ns - (intOf i).toNat)
  case atStart => exact ⟨0, 0, by omega, rfl, rfl⟩
  case round =>
    obtain ⟨j, q, hj, rfl, rfl⟩ := hrel
    replace c2 : (wC.drewN q).cell? ⟨w.heap.size, 2, none⟩ = some (.slice ps ns cs) := c2
    replace d2 : (wC.drewN q).cell? ⟨w.heap.size + 1, 2, none⟩ = some (.slice ps' ns cs') := d2
    by_cases hlt : j < ns
    · obtain ⟨b, o, rfl, hbl⟩ := Hptr.out.2.2 (by omega)
      obtain ⟨b', o', rfl, hbl'⟩ := Hptr'.out.2.2 (by omega)
      obtain ⟨x, hx⟩ : ∃ x, st[j]? = some x := ⟨_, List.getElem?_eq_getElem (by rw [Hptr.out.1]; exact hlt)⟩
      obtain ⟨k0, k1, k2, k3, k4⟩ := sps_cells (HS.out.later (HbC.out.trans ((drewN_bel wC q).mono HbC.out.size))) hx
      obtain ⟨l0, l1, l2, l3, l4⟩ := sps_cells (HS'.out.later (HbC.out.trans ((drewN_bel wC q).mono HbC.out.size))) hx
      have hne := neq_sp_same x.kind (B x.table) (B x.key) (B x.to) (B x.text)
      generalize B x.table = z1 at *
      generalize B x.key = z2 at *
      generalize B x.to = z3 at *
      generalize B x.text = z4 at *
      have hji : (j : Int) < (ns : Int) := by omega
      have hj5 : (0 : Int) ≤ (j : Int) := by omega
      clear hx
      generalize hq : wC.drewN q = wr at *
      have Hq := Lib.hid hq
      clear hq
      go_wp2_with fail
      go_quiet (fail)
      go_wp2_with fail
      go_roundw
      case rel => exact ⟨j + 1, _, by omega, by go_num, by rw [← Hq.out, World.drewN_drewN]⟩
      case measure => simp [intOf]; omega
    · obtain rfl : j = ns := by omega
      go_wp2_with fail
      go_ret
      exact ⟨rfl, HbB.out.trans ((HbC.out.trans ((drewN_bel wC q).mono HbC.out.size)).mono (by omega))⟩
end Go.Proofs.Ythjcifokmcbaoaa.st
/- The document of layer 19: Speaks, bare; law 19's same. Conditions: lists of at most 4294967295 elements. -/
namespace Go.Proofs.Ythjcifokmcbaoaa.st
open Go.ChangeShapes Go.WideShapes Go.ChangeAt Go.RowKit gl ls

set_option maxHeartbeats 4000000 in
set_option maxRecDepth 100000 in
theorem speaksR_any (m : Mv) (t : List UInt8) (pn ps : Option Addr) (nn cn ns cs : Nat) (hs : ns ≤ 4294967295) (w : World) (h2 : Sps w (.slice ps ns cs) m.steps) :
    Calls Try.prog 19 #[.agg #[.string (B m.id), .slice pn nn cn, .slice ps ns cs], .string (B t)] w fun e w' => e = .returned (.bool (spkM m t)) ∧ Below w.heap.size w w' := by
  obtain ⟨wA, hA⟩ : ∃ wA, wA = w.alloc (.cells #[.string (B m.id), .slice pn nn cn, .slice ps ns cs] 31) := ⟨_, rfl⟩
  have kA : wA.heap[w.heap.size]? = some (.cells #[.string (B m.id), .slice pn nn cn, .slice ps ns cs] 31 (0, 0)) := by rw [hA]; exact heap_alloc_new w _
  have hbA : Below w.heap.size w wA := by rw [hA]; exact (Below.refl _ _).alloc (Nat.le_refl _) _
  have c2 : wA.cell? ⟨w.heap.size, 2, none⟩ = some (.slice ps ns cs) := cell_in kA
  have HS := Lib.hid (h2.later hbA)
  have Hptr := Lib.hid (h2.later hbA).ptr
  have Hr : Hid (spkM m t = m.steps.any (spkS t)) := Lib.hid rfl
  have HA := Lib.hid hA
  have HbA := Lib.hid hbA
  clear h2 hA kA hbA
  generalize spkM m t = r at *
  generalize B m.id = nm at *
  obtain ⟨tt, htt⟩ : ∃ tt, tt = B t := ⟨_, rfl⟩
  rw [← htt]
  have Htt := Lib.hid htt
  clear htt
  go_enter Try.func19, Try.ntmps19
  go_upto_region 1 with (fail)
  try rw [← HA.out]
  go_wp2_with fail
  go_loopw [5] (fun i wr => ∃ j : Nat, j ≤ ns ∧ i = .int .i64 j ∧ wr = wA ∧ Hid ((m.steps.take j).any (spkS t) = false)) (fun i _ => ns - (intOf i).toNat)
  case atStart => exact ⟨0, by omega, rfl, rfl, Lib.hid rfl⟩
  case round =>
    obtain ⟨j, hj, rfl, rfl, Hno⟩ := hrel
    by_cases hlt : j < ns
    · obtain ⟨b, o, rfl, hbl⟩ := Hptr.out.2.2 (by omega)
      obtain ⟨x, hx⟩ : ∃ x, m.steps[j]? = some x := ⟨_, List.getElem?_eq_getElem (by rw [Hptr.out.1]; exact hlt)⟩
      obtain ⟨k0, k1, k2, k3, k4⟩ := sps_cells HS.out hx
      have q1 := seq_decX x.table t
      have q2 := seq_decX x.to t
      have q3 : (x.kind == 4) = decide (x.kind = 4) := rfl
      have Hsp : Hid (spkS t x = (decide (x.table = t) || (decide (x.kind = 4) && decide (x.to = t)))) := Lib.hid rfl
      have Hnx : Hid ((m.steps.take (j + 1)).any (spkS t) = spkS t x) := Lib.hid (by rw [take_at hx, List.any_append, Hno.out]; simp)
      have Hyes : Hid (spkS t x = true → r = true) := Lib.hid fun h => by rw [Hr.out]; exact List.any_eq_true.2 ⟨x, List.mem_of_getElem? hx, h⟩
      rw [← Htt.out] at q1 q2
      generalize decide (x.table = t) = d1 at *
      generalize decide (x.to = t) = d2 at *
      generalize hd3 : decide (x.kind = 4) = d3 at *
      clear hd3
      generalize x.kind = z0 at *
      generalize B x.table = z1 at *
      generalize B x.key = z2 at *
      generalize B x.to = z3 at *
      generalize B x.text = z4 at *
      generalize spkS t x = s at *
      have hji : (j : Int) < (ns : Int) := by omega
      have hj5 : (0 : Int) ≤ (j : Int) := by omega
      clear hx
      cases d1
      · cases d3
        · go_wp2_with fail
          go_roundw
          case rel => exact ⟨j + 1, by omega, by go_num, trivial, Lib.hid (by rw [Hnx.out, Hsp.out]; rfl)⟩
          case measure => simp [intOf]; omega
        · cases d2
          · go_wp2_with fail
            go_roundw
            case rel => exact ⟨j + 1, by omega, by go_num, trivial, Lib.hid (by rw [Hnx.out, Hsp.out]; rfl)⟩
            case measure => simp [intOf]; omega
          · go_wp2_with fail
            go_ret
            exact ⟨ret_bool (Hyes.out (by rw [Hsp.out]; rfl)), HbA.out⟩
      · go_wp2_with fail
        go_ret
        exact ⟨ret_bool (Hyes.out (by rw [Hsp.out]; rfl)), HbA.out⟩
    · obtain rfl : j = ns := by omega
      have hrf : r = false := by rw [Hr.out]; rw [List.take_of_length_le (by rw [Hptr.out.1]; exact Nat.le_refl _)] at Hno; exact Hno.out
      go_wp2_with fail
      go_ret
      exact ⟨ret_bool hrf, HbA.out⟩
set_option maxHeartbeats 4000000 in
set_option maxRecDepth 100000 in
theorem same19_any (M M' : Nat) (p p' : Option Addr) (m c c' : Nat) (R R' : List MvR) (l : List Mv) (hm : m ≤ 4294967295) (hlow : Low l) (w : World) (h : NewMv M w (.slice p m c) R l) (h' : NewMv M' w (.slice p' m c') R' l) :
    Calls Try.prog 5 #[.slice p m c, .slice p' m c'] w fun e w' => e = .returned (.bool true) ∧ Below w.heap.size w w' := by
  have HN := Lib.hid h
  have HN' := Lib.hid h'
  have Hptr := Lib.hid (h.1.rw mvC_len).ptr
  have Hptr' := Lib.hid (h'.1.rw mvC_len).ptr
  have Hlow := Lib.hid hlow
  have hmm : ((m : Int) != (m : Int)) = false := by simp
  clear h h' hlow
  go_enter Try.func5, Try.ntmps5
  go_wp2_with fail
  go_loopw [5] (fun i wr => ∃ j : Nat, j ≤ m ∧ i = .int .i64 j ∧ Hid (Below w.heap.size w wr)) (fun i _ => m - (intOf i).toNat)
  case atStart => exact ⟨0, by omega, rfl, Lib.hid (Below.refl _ _)⟩
  case round =>
    obtain ⟨j, hj, rfl, Hb⟩ := hrel
    have hzr := Hb.out.size
    by_cases hlt : j < m
    · obtain ⟨b, o, rfl, hbl⟩ := Hptr.out.2.2 (by omega)
      obtain ⟨b', o', rfl, hbl'⟩ := Hptr'.out.2.2 (by omega)
      obtain ⟨x, hx⟩ : ∃ x, R[j]? = some x := ⟨_, List.getElem?_eq_getElem (by rw [Hptr.out.1]; exact hlt)⟩
      obtain ⟨y, hy⟩ : ∃ y, R'[j]? = some y := ⟨_, List.getElem?_eq_getElem (by rw [Hptr'.out.1]; exact hlt)⟩
      obtain ⟨z, hz⟩ : ∃ z, l[j]? = some z := ⟨_, List.getElem?_eq_getElem (by rw [← HN.out.2.1, Hptr.out.1]; exact hlt)⟩
      obtain ⟨k0, k1, k2⟩ := mv_cells ((HN.out.later Hb.out).1.rw mvC_len) hx
      obtain ⟨l0, l1, l2⟩ := mv_cells ((HN'.out.later Hb.out).1.rw mvC_len) hy
      obtain ⟨g1, g2, g3⟩ := (HN.out.later Hb.out).2.2 j x z hx hz
      obtain ⟨g1', g2', g3'⟩ := (HN'.out.later Hb.out).2.2 j y z hy hz
      obtain ⟨hlo1, hlo2⟩ := Hlow.out z (List.mem_of_getElem? hz)
      have t1 := g2.rw txC_len
      have t1' := g2'.rw txC_len
      have t2 := g3.rw spC_len
      have t2' := g3'.rw spC_len
      have e1 := t1.ptr.1
      have e1' := t1'.ptr.1
      have e2 := t2.ptr.1
      have e2' := t2'.ptr.1
      obtain ⟨xi, pn, nn, cn, ps, ns, cs⟩ := x
      obtain ⟨yi, pn', nn', cn', ps', ns', cs'⟩ := y
      simp only [MvR.vn, MvR.vs] at *
      obtain rfl : nn' = nn := by omega
      obtain rfl : ns' = ns := by omega
      obtain rfl : yi = xi := by rw [g1, g1']
      have HC := Lib.hid fun (W : World) (hW : Below wr.heap.size wr W) => alike19_any (B yi) pn pn' ps ps' nn' cn cn' ns' cs cs' z.needs z.steps (by omega) (by omega) W (t1.later hW) (t1'.later hW) (t2.later hW) (t2'.later hW)
      clear hx hy hz g1 g2 g3 g1' g2' g3' t1 t1' t2 t2' e1 e1' e2 e2' hlo1 hlo2
      have hbr : b < wr.heap.size := by omega
      have hbr' : b' < wr.heap.size := by omega
      generalize B yi = zi at *
      have hji : (j : Int) < (m : Int) := by omega
      have hj5 : (0 : Int) ≤ (j : Int) := by omega
      go_wp2_with fail
      go_still_tail 8, (by kernel_rfl)
      go_wp2_with fail
      refine (HC.out _ (Below.drew (Below.refl _ _))).mono ?_
      rintro e w5 ⟨rfl, hb5⟩
      have Hb5 := Lib.hid (Hb.out.trans (((Below.drew (Below.refl _ wr)).trans hb5).mono hzr))
      clear hb5
      go_wp2_with fail
      go_roundw
      case rel => exact ⟨j + 1, by omega, by go_num, Hb5⟩
      case measure => simp [intOf]; omega
    · obtain rfl : j = m := by omega
      go_wp2_with fail
      go_ret
      exact ⟨rfl, Hb.out⟩
def bareL : List Mv := [⟨[120, 48, 49], [], [⟨6, [117, 115, 101, 114, 115], [97, 100, 109, 105, 110], [111, 119, 110, 101, 114], []⟩]⟩, ⟨[120, 48, 50], [], [⟨1, [101, 118, 101, 110, 116, 115], [115, 101, 99, 111, 110, 100], [], [97, 103, 97, 105, 110]⟩]⟩, ⟨[120, 48, 51], [], [⟨1, [109, 101, 116, 97], [116, 104, 101, 109, 101], [], [112, 108, 97, 105, 110]⟩]⟩, ⟨[120, 48, 52], [], [⟨5, [101, 118, 101, 110, 116, 115], [], [], [114, 101, 118, 101, 114, 115, 101]⟩]⟩, ⟨[120, 48, 53], [], [⟨2, [117, 115, 101, 114, 115], [103, 117, 101, 115, 116], [], []⟩]⟩]
def bareR (w : World) : List MvR := [⟨[120, 48, 49], none, 0, 0, some ⟨w.heap.size, 0, none⟩, 1, 1⟩, ⟨[120, 48, 50], none, 0, 0, some ⟨w.heap.size + 1, 0, none⟩, 1, 1⟩, ⟨[120, 48, 51], none, 0, 0, some ⟨w.heap.size + 2, 0, none⟩, 1, 1⟩, ⟨[120, 48, 52], none, 0, 0, some ⟨w.heap.size + 3, 0, none⟩, 1, 1⟩, ⟨[120, 48, 53], none, 0, 0, some ⟨w.heap.size + 4, 0, none⟩, 1, 1⟩]
set_option maxHeartbeats 4000000 in
set_option maxRecDepth 100000 in
theorem bare_any (w : World) : Calls Try.prog 18 #[] w fun e w' => (∃ v R, e = .returned v ∧ NewMv w.heap.size w' v R bareL ∧ ∀ r ∈ R, r.vn = .slice none 0 0) ∧ Below w.heap.size w w' := by
  obtain ⟨W0, hW0⟩ : ∃ W0, W0 = w.alloc (.cells #[.int .i64 6, .string ⟨#[117, 115, 101, 114, 115]⟩, .string ⟨#[97, 100, 109, 105, 110]⟩, .string ⟨#[111, 119, 110, 101, 114]⟩, .string ⟨#[]⟩] 35) := ⟨_, rfl⟩
  have z0 : W0.heap.size = w.heap.size + 1 := by rw [hW0]; simp
  have b0 : Below w.heap.size w W0 := by rw [hW0]; exact (Below.refl _ _).alloc (Nat.le_refl _) _
  have h0 : W0.heap[w.heap.size]? = some (.cells #[.int .i64 6, .string ⟨#[117, 115, 101, 114, 115]⟩, .string ⟨#[97, 100, 109, 105, 110]⟩, .string ⟨#[111, 119, 110, 101, 114]⟩, .string ⟨#[]⟩] 35 (0, 0)) := by have h := heap_alloc_new w (.cells #[.int .i64 6, .string ⟨#[117, 115, 101, 114, 115]⟩, .string ⟨#[97, 100, 109, 105, 110]⟩, .string ⟨#[111, 119, 110, 101, 114]⟩, .string ⟨#[]⟩] 35); rw [← hW0] at h; exact h
  obtain ⟨W1, hW1⟩ : ∃ W1, W1 = W0.alloc (.cells #[.int .i64 1, .string ⟨#[101, 118, 101, 110, 116, 115]⟩, .string ⟨#[115, 101, 99, 111, 110, 100]⟩, .string ⟨#[]⟩, .string ⟨#[97, 103, 97, 105, 110]⟩] 35) := ⟨_, rfl⟩
  have z1 : W1.heap.size = w.heap.size + 2 := by rw [hW1]; simp [z0]
  have b1 : Below w.heap.size w W1 := by rw [hW1]; exact b0.alloc (by omega) _
  replace h0 := heap_al h0 (.cells #[.int .i64 1, .string ⟨#[101, 118, 101, 110, 116, 115]⟩, .string ⟨#[115, 101, 99, 111, 110, 100]⟩, .string ⟨#[]⟩, .string ⟨#[97, 103, 97, 105, 110]⟩] 35)
  rw [← hW1] at h0
  have h1 : W1.heap[w.heap.size + 1]? = some (.cells #[.int .i64 1, .string ⟨#[101, 118, 101, 110, 116, 115]⟩, .string ⟨#[115, 101, 99, 111, 110, 100]⟩, .string ⟨#[]⟩, .string ⟨#[97, 103, 97, 105, 110]⟩] 35 (0, 0)) := by have h := heap_alloc_new W0 (.cells #[.int .i64 1, .string ⟨#[101, 118, 101, 110, 116, 115]⟩, .string ⟨#[115, 101, 99, 111, 110, 100]⟩, .string ⟨#[]⟩, .string ⟨#[97, 103, 97, 105, 110]⟩] 35); rw [← hW1, z0] at h; exact h
  obtain ⟨W2, hW2⟩ : ∃ W2, W2 = W1.alloc (.cells #[.int .i64 1, .string ⟨#[109, 101, 116, 97]⟩, .string ⟨#[116, 104, 101, 109, 101]⟩, .string ⟨#[]⟩, .string ⟨#[112, 108, 97, 105, 110]⟩] 35) := ⟨_, rfl⟩
  have z2 : W2.heap.size = w.heap.size + 3 := by rw [hW2]; simp [z1]
  have b2 : Below w.heap.size w W2 := by rw [hW2]; exact b1.alloc (by omega) _
  replace h0 := heap_al h0 (.cells #[.int .i64 1, .string ⟨#[109, 101, 116, 97]⟩, .string ⟨#[116, 104, 101, 109, 101]⟩, .string ⟨#[]⟩, .string ⟨#[112, 108, 97, 105, 110]⟩] 35)
  rw [← hW2] at h0
  replace h1 := heap_al h1 (.cells #[.int .i64 1, .string ⟨#[109, 101, 116, 97]⟩, .string ⟨#[116, 104, 101, 109, 101]⟩, .string ⟨#[]⟩, .string ⟨#[112, 108, 97, 105, 110]⟩] 35)
  rw [← hW2] at h1
  have h2 : W2.heap[w.heap.size + 2]? = some (.cells #[.int .i64 1, .string ⟨#[109, 101, 116, 97]⟩, .string ⟨#[116, 104, 101, 109, 101]⟩, .string ⟨#[]⟩, .string ⟨#[112, 108, 97, 105, 110]⟩] 35 (0, 0)) := by have h := heap_alloc_new W1 (.cells #[.int .i64 1, .string ⟨#[109, 101, 116, 97]⟩, .string ⟨#[116, 104, 101, 109, 101]⟩, .string ⟨#[]⟩, .string ⟨#[112, 108, 97, 105, 110]⟩] 35); rw [← hW2, z1] at h; exact h
  obtain ⟨W3, hW3⟩ : ∃ W3, W3 = W2.alloc (.cells #[.int .i64 5, .string ⟨#[101, 118, 101, 110, 116, 115]⟩, .string ⟨#[]⟩, .string ⟨#[]⟩, .string ⟨#[114, 101, 118, 101, 114, 115, 101]⟩] 35) := ⟨_, rfl⟩
  have z3 : W3.heap.size = w.heap.size + 4 := by rw [hW3]; simp [z2]
  have b3 : Below w.heap.size w W3 := by rw [hW3]; exact b2.alloc (by omega) _
  replace h0 := heap_al h0 (.cells #[.int .i64 5, .string ⟨#[101, 118, 101, 110, 116, 115]⟩, .string ⟨#[]⟩, .string ⟨#[]⟩, .string ⟨#[114, 101, 118, 101, 114, 115, 101]⟩] 35)
  rw [← hW3] at h0
  replace h1 := heap_al h1 (.cells #[.int .i64 5, .string ⟨#[101, 118, 101, 110, 116, 115]⟩, .string ⟨#[]⟩, .string ⟨#[]⟩, .string ⟨#[114, 101, 118, 101, 114, 115, 101]⟩] 35)
  rw [← hW3] at h1
  replace h2 := heap_al h2 (.cells #[.int .i64 5, .string ⟨#[101, 118, 101, 110, 116, 115]⟩, .string ⟨#[]⟩, .string ⟨#[]⟩, .string ⟨#[114, 101, 118, 101, 114, 115, 101]⟩] 35)
  rw [← hW3] at h2
  have h3 : W3.heap[w.heap.size + 3]? = some (.cells #[.int .i64 5, .string ⟨#[101, 118, 101, 110, 116, 115]⟩, .string ⟨#[]⟩, .string ⟨#[]⟩, .string ⟨#[114, 101, 118, 101, 114, 115, 101]⟩] 35 (0, 0)) := by have h := heap_alloc_new W2 (.cells #[.int .i64 5, .string ⟨#[101, 118, 101, 110, 116, 115]⟩, .string ⟨#[]⟩, .string ⟨#[]⟩, .string ⟨#[114, 101, 118, 101, 114, 115, 101]⟩] 35); rw [← hW3, z2] at h; exact h
  obtain ⟨W4, hW4⟩ : ∃ W4, W4 = W3.alloc (.cells #[.int .i64 2, .string ⟨#[117, 115, 101, 114, 115]⟩, .string ⟨#[103, 117, 101, 115, 116]⟩, .string ⟨#[]⟩, .string ⟨#[]⟩] 35) := ⟨_, rfl⟩
  have z4 : W4.heap.size = w.heap.size + 5 := by rw [hW4]; simp [z3]
  have b4 : Below w.heap.size w W4 := by rw [hW4]; exact b3.alloc (by omega) _
  replace h0 := heap_al h0 (.cells #[.int .i64 2, .string ⟨#[117, 115, 101, 114, 115]⟩, .string ⟨#[103, 117, 101, 115, 116]⟩, .string ⟨#[]⟩, .string ⟨#[]⟩] 35)
  rw [← hW4] at h0
  replace h1 := heap_al h1 (.cells #[.int .i64 2, .string ⟨#[117, 115, 101, 114, 115]⟩, .string ⟨#[103, 117, 101, 115, 116]⟩, .string ⟨#[]⟩, .string ⟨#[]⟩] 35)
  rw [← hW4] at h1
  replace h2 := heap_al h2 (.cells #[.int .i64 2, .string ⟨#[117, 115, 101, 114, 115]⟩, .string ⟨#[103, 117, 101, 115, 116]⟩, .string ⟨#[]⟩, .string ⟨#[]⟩] 35)
  rw [← hW4] at h2
  replace h3 := heap_al h3 (.cells #[.int .i64 2, .string ⟨#[117, 115, 101, 114, 115]⟩, .string ⟨#[103, 117, 101, 115, 116]⟩, .string ⟨#[]⟩, .string ⟨#[]⟩] 35)
  rw [← hW4] at h3
  have h4 : W4.heap[w.heap.size + 4]? = some (.cells #[.int .i64 2, .string ⟨#[117, 115, 101, 114, 115]⟩, .string ⟨#[103, 117, 101, 115, 116]⟩, .string ⟨#[]⟩, .string ⟨#[]⟩] 35 (0, 0)) := by have h := heap_alloc_new W3 (.cells #[.int .i64 2, .string ⟨#[117, 115, 101, 114, 115]⟩, .string ⟨#[103, 117, 101, 115, 116]⟩, .string ⟨#[]⟩, .string ⟨#[]⟩] 35); rw [← hW4, z3] at h; exact h
  obtain ⟨W5, hW5⟩ : ∃ W5, W5 = W4.alloc (.cells #[.string ⟨#[120, 48, 49]⟩, .slice none 0 0, .slice (some ⟨w.heap.size, 0, none⟩) 1 1, .string ⟨#[120, 48, 50]⟩, .slice none 0 0, .slice (some ⟨w.heap.size + 1, 0, none⟩) 1 1, .string ⟨#[120, 48, 51]⟩, .slice none 0 0, .slice (some ⟨w.heap.size + 2, 0, none⟩) 1 1, .string ⟨#[120, 48, 52]⟩, .slice none 0 0, .slice (some ⟨w.heap.size + 3, 0, none⟩) 1 1, .string ⟨#[120, 48, 53]⟩, .slice none 0 0, .slice (some ⟨w.heap.size + 4, 0, none⟩) 1 1] 31) := ⟨_, rfl⟩
  have z5 : W5.heap.size = w.heap.size + 6 := by rw [hW5]; simp [z4]
  have b5 : Below w.heap.size w W5 := by rw [hW5]; exact b4.alloc (by omega) _
  replace h0 := heap_al h0 (.cells #[.string ⟨#[120, 48, 49]⟩, .slice none 0 0, .slice (some ⟨w.heap.size, 0, none⟩) 1 1, .string ⟨#[120, 48, 50]⟩, .slice none 0 0, .slice (some ⟨w.heap.size + 1, 0, none⟩) 1 1, .string ⟨#[120, 48, 51]⟩, .slice none 0 0, .slice (some ⟨w.heap.size + 2, 0, none⟩) 1 1, .string ⟨#[120, 48, 52]⟩, .slice none 0 0, .slice (some ⟨w.heap.size + 3, 0, none⟩) 1 1, .string ⟨#[120, 48, 53]⟩, .slice none 0 0, .slice (some ⟨w.heap.size + 4, 0, none⟩) 1 1] 31)
  rw [← hW5] at h0
  replace h1 := heap_al h1 (.cells #[.string ⟨#[120, 48, 49]⟩, .slice none 0 0, .slice (some ⟨w.heap.size, 0, none⟩) 1 1, .string ⟨#[120, 48, 50]⟩, .slice none 0 0, .slice (some ⟨w.heap.size + 1, 0, none⟩) 1 1, .string ⟨#[120, 48, 51]⟩, .slice none 0 0, .slice (some ⟨w.heap.size + 2, 0, none⟩) 1 1, .string ⟨#[120, 48, 52]⟩, .slice none 0 0, .slice (some ⟨w.heap.size + 3, 0, none⟩) 1 1, .string ⟨#[120, 48, 53]⟩, .slice none 0 0, .slice (some ⟨w.heap.size + 4, 0, none⟩) 1 1] 31)
  rw [← hW5] at h1
  replace h2 := heap_al h2 (.cells #[.string ⟨#[120, 48, 49]⟩, .slice none 0 0, .slice (some ⟨w.heap.size, 0, none⟩) 1 1, .string ⟨#[120, 48, 50]⟩, .slice none 0 0, .slice (some ⟨w.heap.size + 1, 0, none⟩) 1 1, .string ⟨#[120, 48, 51]⟩, .slice none 0 0, .slice (some ⟨w.heap.size + 2, 0, none⟩) 1 1, .string ⟨#[120, 48, 52]⟩, .slice none 0 0, .slice (some ⟨w.heap.size + 3, 0, none⟩) 1 1, .string ⟨#[120, 48, 53]⟩, .slice none 0 0, .slice (some ⟨w.heap.size + 4, 0, none⟩) 1 1] 31)
  rw [← hW5] at h2
  replace h3 := heap_al h3 (.cells #[.string ⟨#[120, 48, 49]⟩, .slice none 0 0, .slice (some ⟨w.heap.size, 0, none⟩) 1 1, .string ⟨#[120, 48, 50]⟩, .slice none 0 0, .slice (some ⟨w.heap.size + 1, 0, none⟩) 1 1, .string ⟨#[120, 48, 51]⟩, .slice none 0 0, .slice (some ⟨w.heap.size + 2, 0, none⟩) 1 1, .string ⟨#[120, 48, 52]⟩, .slice none 0 0, .slice (some ⟨w.heap.size + 3, 0, none⟩) 1 1, .string ⟨#[120, 48, 53]⟩, .slice none 0 0, .slice (some ⟨w.heap.size + 4, 0, none⟩) 1 1] 31)
  rw [← hW5] at h3
  replace h4 := heap_al h4 (.cells #[.string ⟨#[120, 48, 49]⟩, .slice none 0 0, .slice (some ⟨w.heap.size, 0, none⟩) 1 1, .string ⟨#[120, 48, 50]⟩, .slice none 0 0, .slice (some ⟨w.heap.size + 1, 0, none⟩) 1 1, .string ⟨#[120, 48, 51]⟩, .slice none 0 0, .slice (some ⟨w.heap.size + 2, 0, none⟩) 1 1, .string ⟨#[120, 48, 52]⟩, .slice none 0 0, .slice (some ⟨w.heap.size + 3, 0, none⟩) 1 1, .string ⟨#[120, 48, 53]⟩, .slice none 0 0, .slice (some ⟨w.heap.size + 4, 0, none⟩) 1 1] 31)
  rw [← hW5] at h4
  have h5 : W5.heap[w.heap.size + 5]? = some (.cells #[.string ⟨#[120, 48, 49]⟩, .slice none 0 0, .slice (some ⟨w.heap.size, 0, none⟩) 1 1, .string ⟨#[120, 48, 50]⟩, .slice none 0 0, .slice (some ⟨w.heap.size + 1, 0, none⟩) 1 1, .string ⟨#[120, 48, 51]⟩, .slice none 0 0, .slice (some ⟨w.heap.size + 2, 0, none⟩) 1 1, .string ⟨#[120, 48, 52]⟩, .slice none 0 0, .slice (some ⟨w.heap.size + 3, 0, none⟩) 1 1, .string ⟨#[120, 48, 53]⟩, .slice none 0 0, .slice (some ⟨w.heap.size + 4, 0, none⟩) 1 1] 31 (0, 0)) := by have h := heap_alloc_new W4 (.cells #[.string ⟨#[120, 48, 49]⟩, .slice none 0 0, .slice (some ⟨w.heap.size, 0, none⟩) 1 1, .string ⟨#[120, 48, 50]⟩, .slice none 0 0, .slice (some ⟨w.heap.size + 1, 0, none⟩) 1 1, .string ⟨#[120, 48, 51]⟩, .slice none 0 0, .slice (some ⟨w.heap.size + 2, 0, none⟩) 1 1, .string ⟨#[120, 48, 52]⟩, .slice none 0 0, .slice (some ⟨w.heap.size + 3, 0, none⟩) 1 1, .string ⟨#[120, 48, 53]⟩, .slice none 0 0, .slice (some ⟨w.heap.size + 4, 0, none⟩) 1 1] 31); rw [← hW5, z4] at h; exact h
  have HN : Hid (NewMv w.heap.size W5 (.slice (some ⟨w.heap.size + 5, 0, none⟩) 5 5) (bareR w) bareL) := Lib.hid (by
    refine ⟨new_lit mvC_len (by omega) h5 rfl, rfl, fun i r m h1 h2 => ?_⟩
    match i with
    | 0 => simp only [bareR, bareL, List.getElem?_cons_zero, Option.some.injEq] at h1 h2; subst h1; subst h2; exact ⟨rfl, .inl ⟨rfl, rfl⟩, new_lit spC_len (by omega) h0 rfl⟩
    | 1 => simp only [bareR, bareL, List.getElem?_cons_succ, List.getElem?_cons_zero, Option.some.injEq] at h1 h2; subst h1; subst h2; exact ⟨rfl, .inl ⟨rfl, rfl⟩, new_lit spC_len (by omega) h1 rfl⟩
    | 2 => simp only [bareR, bareL, List.getElem?_cons_succ, List.getElem?_cons_zero, Option.some.injEq] at h1 h2; subst h1; subst h2; exact ⟨rfl, .inl ⟨rfl, rfl⟩, new_lit spC_len (by omega) h2 rfl⟩
    | 3 => simp only [bareR, bareL, List.getElem?_cons_succ, List.getElem?_cons_zero, Option.some.injEq] at h1 h2; subst h1; subst h2; exact ⟨rfl, .inl ⟨rfl, rfl⟩, new_lit spC_len (by omega) h3 rfl⟩
    | 4 => simp only [bareR, bareL, List.getElem?_cons_succ, List.getElem?_cons_zero, Option.some.injEq] at h1 h2; subst h1; subst h2; exact ⟨rfl, .inl ⟨rfl, rfl⟩, new_lit spC_len (by omega) h4 rfl⟩
    | i + 5 => simp [bareR] at h1)
  have HB := Lib.hid b5
  have HW0 := Lib.hid hW0
  have HW1 := Lib.hid hW1
  have HW2 := Lib.hid hW2
  have HW3 := Lib.hid hW3
  have HW4 := Lib.hid hW4
  have HW5 := Lib.hid hW5
  clear h0 b0 hW0 h1 b1 hW1 h2 b2 hW2 h3 b3 hW3 h4 b4 hW4 h5 b5 hW5
  go_enter Try.func18, Try.ntmps18
  go_wp2_with fail
  go_ret
  have E1 := HN.out
  have E2 := HB.out
  rw [HW5.out, HW4.out, HW3.out, HW2.out, HW1.out, HW0.out] at E1 E2
  exact ⟨⟨_, _, rfl, E1, fun r hr => by simp only [bareR, List.mem_cons, List.not_mem_nil, or_false] at hr; rcases hr with rfl | rfl | rfl | rfl | rfl <;> rfl⟩, E2⟩
end Go.Proofs.Ythjcifokmcbaoaa.st
