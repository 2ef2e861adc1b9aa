/- slices.Insert of definitions, at any place: in place where there is room, else in a new row. Conditions: few definitions; what is put in lies in another block. -/
import Derived.Test.YtpfhhaonfbfheaaGreatDoorKyA
import Derived.Test.YtpfhhaonfbfheaaGreatDoorRoom
import Derived.Shelf.Spec.SlicesInsert
import Derived.Lib.AppendZerosOnto
import Derived.Laws.NewBlocks
import Derived.Deep.RegionLaw
namespace Go.Proofs.YtpfhhaonfbfheaaGreatDoor.ky
open Go.RowKit ls gl va

theorem list_mid {xs vs : List Value} {a b n : Nat} (hl : xs.length = n) (ha : a ≤ n) (hb : vs.length = b) (j : Nat) :
    (xs.take a ++ vs ++ xs.drop a)[j]? = if j < a then xs[j]? else if j < a + b then vs[j - a]? else xs[j - b]? := by
  have h1 : (xs.take a).length = a := by rw [List.length_take]; omega
  rw [List.append_assoc]
  by_cases hj : j < a
  · rw [if_pos hj, List.getElem?_append_left (by omega), List.getElem?_take_of_lt hj]
  · rw [if_neg hj, List.getElem?_append_right (by omega), h1]
    by_cases hj2 : j < a + b
    · rw [if_pos hj2, List.getElem?_append_left (by omega)]
    · rw [if_neg hj2, List.getElem?_append_right (by omega), List.getElem?_drop]
      congr 1
      omega
theorem setR_at (vs : List Value) (cs : Array Value) (o j : Nat) (h : o + vs.length ≤ cs.size) : (setR cs o vs)[j]? = if o ≤ j ∧ j < o + vs.length then vs[j - o]? else cs[j]? := by
  by_cases hj : o ≤ j ∧ j < o + vs.length
  · rw [if_pos hj]
    have hv : vs[j - o]? = some (vs[j - o]'(by omega)) := List.getElem?_eq_getElem (by omega)
    have := setR_in vs cs o h (j - o) _ hv
    rw [show o + (j - o) = j by omega] at this
    rw [this, hv]
  · rw [if_neg hj, setR_out vs cs o j (by omega)]
theorem shift_take {cur : Array Value} {xs vs : List Value} {a b n : Nat} (hx : cur.toList.take n = xs) (ha : a ≤ n) (hb : vs.length = b) (hsz : n + b ≤ cur.size) :
    (setR (setR cur (a + b) (xs.drop a)) a vs).toList.take (n + b) = xs.take a ++ vs ++ xs.drop a := by
  have hc : cur.toList.length = cur.size := by simp
  have hl : xs.length = n := by rw [← hx, List.length_take, hc]; omega
  have hdl : (xs.drop a).length = n - a := by rw [List.length_drop, hl]
  refine List.ext_getElem? fun j => ?_
  rw [list_mid hl ha hb]
  by_cases hj : j < n + b
  · rw [List.getElem?_take_of_lt hj, Array.getElem?_toList, setR_at _ _ _ _ (by rw [setR_size]; omega), setR_at _ _ _ _ (by omega)]
    by_cases h1 : j < a
    · rw [if_neg (by omega), if_neg (by omega), if_pos h1, ← hx, List.getElem?_take_of_lt (by omega), Array.getElem?_toList]
    · rw [if_neg h1]
      by_cases h2 : j < a + b
      · rw [if_pos (by omega), if_pos h2]
      · rw [if_neg (by omega), if_pos (by omega), if_neg h2, List.getElem?_drop]
        congr 1
        omega
  · rw [List.getElem?_eq_none (by rw [List.length_take]; omega), if_neg (by omega), if_neg (by omega), List.getElem?_eq_none (by omega)]
theorem grow_take {row : Array Value} {xs vs : List Value} {a b n : Nat} (hx : row.toList.take a = xs.take a) (hl : xs.length = n) (ha : a ≤ n) (hb : vs.length = b) (hsz : n + b ≤ row.size) :
    (setR (setR row a vs) (a + b) (xs.drop a)).toList.take (n + b) = xs.take a ++ vs ++ xs.drop a := by
  have hdl : (xs.drop a).length = n - a := by rw [List.length_drop, hl]
  refine List.ext_getElem? fun j => ?_
  rw [list_mid hl ha hb]
  by_cases hj : j < n + b
  · rw [List.getElem?_take_of_lt hj, Array.getElem?_toList, setR_at _ _ _ _ (by rw [setR_size]; omega), setR_at _ _ _ _ (by omega)]
    by_cases h1 : j < a
    · rw [if_neg (by omega), if_neg (by omega), if_pos h1]
      have h2 := congrArg (fun l => l[j]?) hx
      simp only [List.getElem?_take_of_lt h1, Array.getElem?_toList] at h2
      exact h2
    · rw [if_neg h1]
      by_cases h2 : j < a + b
      · rw [if_neg (by omega), if_pos (by omega), if_pos h2]
      · rw [if_pos (by omega), if_neg h2, List.getElem?_drop]
        congr 1
        omega
  · rw [List.getElem?_eq_none (by rw [List.length_take]; omega), if_neg (by omega), if_neg (by omega), List.getElem?_eq_none (by omega)]
/-- In place. -/
theorem blk_shift {T : TypeId} {k M : Nat} {w : World} {g c n i : Nat} {xs vs : List Value} (h : Blk T k M w (.slice (some ⟨g, 0, none⟩) n c) n xs) (hi : i ≤ n) (hroom : n + 1 ≤ c) (hv : vs.length = k) :
    Blk T k M ((w.drew.setCells g ((i + 1) * k) (xs.drop (i * k))).setCells g (i * k) vs) (.slice (some ⟨g, 0, none⟩) (n + 1) c) (n + 1) (xs.take (i * k) ++ vs ++ xs.drop (i * k)) ∧ Upd [g] w ((w.drew.setCells g ((i + 1) * k) (xs.drop (i * k))).setCells g (i * k) vs) := by
  obtain ⟨h0, ⟨h, _⟩ | ⟨g', c', cs, e, _, hM, hb, hcs, ht⟩⟩ := h
  · cases h
  cases e
  have hik : i * k ≤ n * k := Nat.mul_le_mul_right k hi
  have hnk : (n + 1) * k ≤ c * k := Nat.mul_le_mul_right k hroom
  have e1 : (i + 1) * k = i * k + k := Nat.succ_mul i k
  have e2 : (n + 1) * k = n * k + k := Nat.succ_mul n k
  rw [e1]
  refine ⟨⟨?_, .inr ⟨g, c, _, rfl, hroom, hM, ls.heap_setCells vs _ _ (i * k) (ls.heap_setCells (xs.drop (i * k)) w.drew cs (i * k + k) hb), by rw [setR_size, setR_size]; exact hcs, ?_⟩⟩, ?_⟩
  · simp only [List.length_append, List.length_take, List.length_drop]
    omega
  · rw [e2]
    exact shift_take ht hik hv (by omega)
  · have hu := ls.upd_setCells (S := [g]) (a := w) (g := g) (.inl (by simp)) (xs.drop (i * k)) w.drew (i * k + k) (Upd.of_below (Below.refl _ w).drew _)
    exact ls.upd_setCells (S := [g]) (a := w) (g := g) (.inl (by simp)) vs _ (i * k) hu
/-- In a new block. -/
theorem blk_new {T : TypeId} {k : Nat} {w : World} {n i G : Nat} {xs vs : List Value} {row : Array Value} (hx : row.toList.take (i * k) = xs.take (i * k)) (hl : xs.length = n * k) (hi : i ≤ n) (hv : vs.length = k) (hG : n + 1 ≤ G) (hr : G * k ≤ row.size) :
    Blk T k w.heap.size ((((w.alloc (.cells row T)).drew.setCells w.heap.size (i * k) vs).drew).setCells w.heap.size ((i + 1) * k) (xs.drop (i * k))) (.slice (some ⟨w.heap.size, 0, none⟩) (n + 1) G) (n + 1) (xs.take (i * k) ++ vs ++ xs.drop (i * k)) ∧ Below w.heap.size w ((((w.alloc (.cells row T)).drew.setCells w.heap.size (i * k) vs).drew).setCells w.heap.size ((i + 1) * k) (xs.drop (i * k))) := by
  have hik : i * k ≤ n * k := Nat.mul_le_mul_right k hi
  have hnk : (n + 1) * k ≤ G * k := Nat.mul_le_mul_right k hG
  have e1 : (i + 1) * k = i * k + k := Nat.succ_mul i k
  have e2 : (n + 1) * k = n * k + k := Nat.succ_mul n k
  have hb : (w.alloc (.cells row T)).drew.heap[w.heap.size]? = some (.cells row T (0, 0)) := heap_alloc_new w _
  rw [e1]
  refine ⟨⟨?_, .inr ⟨w.heap.size, G, _, rfl, hG, Nat.le_refl _, ls.heap_setCells (xs.drop (i * k)) _ _ (i * k + k) (ls.heap_setCells vs (w.alloc (.cells row T)).drew row (i * k) hb), by rw [setR_size, setR_size]; exact hr, ?_⟩⟩, ?_⟩
  · simp only [List.length_append, List.length_take, List.length_drop]
    omega
  · rw [e2]
    exact grow_take hx hl hik hv (by omega)
  · have h1 := ls.below_setCells (B := w.heap.size) (g := w.heap.size) (w0 := w) (Nat.le_refl _) vs (w.alloc (.cells row T)).drew (i * k) ((Below.refl _ w).alloc (Nat.le_refl _) _).drew
    exact ls.below_setCells (Nat.le_refl _) (xs.drop (i * k)) _ (i * k + k) h1.drew
end Go.Proofs.YtpfhhaonfbfheaaGreatDoor.ky
namespace Go.Proofs.YtpfhhaonfbfheaaGreatDoor.ky
open Go.ChangeShapes Go.WideShapes Go.ChangeAt Go.RowKit Go.Lib gl va ls

theorem run_copy_cells_k {P : Program} (w : World) (dT sT ty elem : TypeId) (b o dLen dCap : Nat) (a : Addr) (sLen sCap : Nat) (cs : List Value) (size n : Nat)
    (hu : P.underlying dT = some (.slice elem)) (hs : (P.info? elem).map (·.size) = some size) (hmin : Nat.min sLen dLen = n) (hn : cs.length = n * size)
    (hsrc : ∀ j v, cs[j]? = some v → w.cell? (a.add j) = some v) (hc : ∀ j, j < cs.length → (w.cell? ⟨b, o + j, none⟩).isSome = true) (hf : ∀ j, j < cs.length → w.frozen? ⟨b, o + j, none⟩ = false) (h1 : ∀ v ∈ cs, v.oneCell' = true) :
    (Builtin.copy_ #[dT, sT] ty #[.slice (some ⟨b, o, none⟩) dLen dCap, .slice (some a) sLen sCap]).run P w = .ok (goInt n) (w.setCells b o cs) := by
  have hl := run_loadCells_list (P := P) w a cs hsrc
  have hst := run_storeCells_cells (P := P) b o cs 0 w (by simpa using hc) (by simpa using hf) h1
  cases hq : P.info? elem with
  | none => simp [hq] at hs
  | some i =>
    have hi : i.size = size := by simpa [hq] using hs
    simp only [Nat.add_zero] at hst
    simp [Builtin.copy_, run_underlying hu, Builtin.lenOf, Builtin.firstCells, sizeOf, typeInfo, hq, hi, hmin, ← hn, hl, hst]
theorem infoKz : (Tryz.prog.info? 62).map (·.size) = some 6 := by kernel_rfl
theorem infoK : (Tryz.prog.info? 62).map (fun i => (i.zero, i.size, i.bytes)) = some (some (.agg #[.string .empty, .int .i64 0, .string .empty, .int .i64 0, .int .i64 0, .string .empty]), 6, 72) := by kernel_rfl
theorem sizeK (w : World) : (Go.sizeOf 62).run Tryz.prog w = .ok 6 w := by
  obtain ⟨i, hi, he⟩ := Option.map_eq_some_iff.1 infoKz
  simp [Go.sizeOf, typeInfo, hi, he]

set_option maxHeartbeats 4000000 in
set_option maxRecDepth 100000 in
/-- There is room: in place. -/
theorem insert_shift (g n c i vb m : Nat) (cs vs : List Value) (cur : Array Value) (w : World) (hi : i < n) (hm : 0 < m) (hroom : n + m ≤ c) (hnm : n + m ≤ 100000) (hvb : vb ≠ g)
    (hcl : cs.length = n * 6) (hvl : vs.length = m * 6)
    (hg : w.heap[g]? = some (.cells cur 62 (0, 0))) (hcur : c * 6 ≤ cur.size) (hcs : ∀ j v, cs[j]? = some v → w.cell? ⟨g, j, none⟩ = some v)
    (hv : w.heap[vb]? = some (.cells vs.toArray 62 (0, 0))) (h1c : ∀ v ∈ cs, v.oneCell' = true) (h1v : ∀ v ∈ vs, v.oneCell' = true) :
    Calls Tryz.prog 73 #[.slice (some ⟨g, 0, none⟩) n c, .int .i64 i, .slice (some ⟨vb, 0, none⟩) m m] w fun e w' =>
      e = .returned (.slice (some ⟨g, 0, none⟩) (n + m) c) ∧ w' = (w.drew.setCells g ((i + m) * 6) (cs.drop (i * 6))).setCells g (i * 6) vs := by
  have hsz := infoKz
  have mixed : Tryz.prog.follows .mixedOrders = true := by kernel_rfl
  have hz1 : ¬ ((m : Int) = 0) := by omega
  have hz2 : ¬ ((i : Int) = (n : Int)) := by omega
  have hsp : ∀ j, j < (n + m) * 6 → (w.cell? ⟨g, j, none⟩).isSome = true := fun j hj => by rw [cell_in hg, Array.getElem?_eq_getElem (by omega)]; rfl
  have hfz : ∀ j, w.frozen? ⟨g, j, none⟩ = false := fun j => free_in hg
  have hvs : ∀ j v, vs[j]? = some v → w.cell? ⟨vb, j, none⟩ = some v := fun j v hj => by rw [cell_in hv]; simpa using hj
  have hsa : w.shape? vb = some (62, vs.toArray.size) := by unfold World.shape?; rw [hv]
  have hsb : w.shape? g = some (62, cur.size) := by unfold World.shape?; rw [hg]
  have hov : ∀ lb cb, (callFunc 97 #[.slice (some ⟨vb, 0, none⟩) m m, .slice (some ⟨g, (i + m) * 6, none⟩) lb cb]).run Tryz.prog w = .ok (.value (.bool false)) w := fun lb cb => by
    rw [run_callFunc_extern Tryz.func97 (by kernel_rfl) (by kernel_rfl) (by kernel_rfl) (e := Extern.SlicesOverlaps.overlaps #[27, 27] #[4]) (by kernel_rfl),
      Lib.run_overlaps_apart w 27 4 62 Tryz.underlying27 6 sizeK ⟨vb, 0, none⟩ ⟨g, (i + m) * 6, none⟩ m m lb cb hvb _ _ _ _ hsa hsb (by omega) (free_in hv) (free_in hv)]
    rfl
  have hdl : (cs.drop (i * 6)).length = (n - i) * 6 := by rw [List.length_drop, hcl]; omega
  have hw1 : IntKind.i64.wrap ((i : Int) + (m : Int)) = (i : Int) + (m : Int) := by rw [IntKind.wrap_i64]; omega
  have hb1 : (0 : Int) ≤ (i : Int) + (m : Int) := by omega
  have hin : i ≤ n := by omega
  have htn : ((i : Int) + (m : Int)).toNat = i + m := by omega
  have hb2 : ¬ (c = i + m) := by omega
  have hb3 : (i : Int) ≤ (n : Int) + (m : Int) := by omega
  have hb4 : ¬ (c = i) := by omega
  have hcp1 : ∀ ty dc sc, (Builtin.copy_ #[27, 27] ty #[.slice (some ⟨g, (i + m) * 6, none⟩) (n + m - (i + m)) dc, .slice (some ⟨g, i * 6, none⟩) (n + m - i) sc]).run Tryz.prog w.drew = .ok (goInt (n - i : Nat)) (w.drew.setCells g ((i + m) * 6) (cs.drop (i * 6))) := fun ty dc sc =>
    run_copy_cells_k (P := Tryz.prog) w.drew _ _ ty 62 g ((i + m) * 6) (n + m - (i + m)) dc ⟨g, i * 6, none⟩ (n + m - i) sc (cs.drop (i * 6)) 6 (n - i) Tryz.underlying27 hsz (by simp only [Nat.min_def]; split <;> omega) hdl
      (fun j v hj => by rw [Addr.add_lit]; exact hcs (i * 6 + j) v (by rwa [List.getElem?_drop] at hj))
      (fun j hj => hsp _ (by omega)) (fun j hj => hfz _) (fun v hv => h1c v (List.mem_of_mem_drop hv))
  obtain ⟨W1, hW1⟩ : ∃ W1, W1 = w.drew.setCells g ((i + m) * 6) (cs.drop (i * 6)) := ⟨_, rfl⟩
  have hsp1 : ∀ k, k < (n + m) * 6 → (W1.cell? ⟨g, k, none⟩).isSome = true := fun k hk => by
    rw [hW1]
    exact isSome_setCells g (cs.drop (i * 6)) ((i + m) * 6) w.drew (fun j hj => hsp ((i + m) * 6 + j) (by rw [hdl] at hj; omega)) k (hsp k hk)
  have hcp2 : ∀ (W : World), (∀ x, W.cell? x = W1.cell? x) → (∀ x, W.frozen? x = W1.frozen? x) → ∀ ty dc, (Builtin.copy_ #[27, 27] ty #[.slice (some ⟨g, i * 6, none⟩) (n + m - i) dc, .slice (some ⟨vb, 0, none⟩) m m]).run Tryz.prog W = .ok (goInt m) (W.setCells g (i * 6) vs) := fun W hWc hWf ty dc =>
    run_copy_cells_k (P := Tryz.prog) W _ _ ty 62 g (i * 6) (n + m - i) dc ⟨vb, 0, none⟩ m m vs 6 m Tryz.underlying27 hsz (by simp only [Nat.min_def]; split <;> omega) hvl
      (fun j v hj => by
        rw [Addr.add_lit, Nat.zero_add, hWc, hW1, World.cell?_setCells_out g _ _ _ _ (fun h _ => absurd h hvb)]
        exact hvs j v hj)
      (fun j hj => by rw [hWc]; exact hsp1 _ (by omega)) (fun j hj => by rw [hWf, hW1, World.frozen?_setCells]; exact hfz _) h1v
  rw [← hW1] at hcp1
  clear hg hv hsa hsb hcur hcl hvl hdl hsp hfz hvs hcs h1c h1v hsp1
  go_enter Tryz.func73, Tryz.ntmps73
  go_wp2_with (simp only [hov])
  go_region_law_o (refine step_copy_runI rfl _ _ 27 27 rfl _ _ (by simp [Act.eval, Act.put]) (by simp [Act.eval, Act.put]) (hcp1 _ _ _) ?_)
  go_wp2_with (at_builtin; refine wpList_copy_runI _ rfl _ _ 27 27 rfl _ _ rfl rfl (hcp2 _ (fun _ => rfl) (fun _ => rfl) _ _) ?_)
  go_ret
  first | exact ⟨rfl, rfl⟩ | exact ⟨rfl, by rw [hW1]⟩
set_option maxHeartbeats 4000000 in
set_option maxRecDepth 100000 in
/-- There is no room: a new row. -/
theorem insert_grow (g n c i vb m : Nat) (cs vs : List Value) (cur : Array Value) (w : World) (hi : i < n) (hm : 0 < m) (hnc : n ≤ c) (hroom : c < n + m) (hbig : n + m ≤ 100000)
    (hcl : cs.length = n * 6) (hvl : vs.length = m * 6)
    (hg : w.heap[g]? = some (.cells cur 62 (0, 0))) (hcs : ∀ j v, cs[j]? = some v → w.cell? ⟨g, j, none⟩ = some v)
    (hv : w.heap[vb]? = some (.cells vs.toArray 62 (0, 0))) (h1c : ∀ v ∈ cs, v.oneCell' = true) (h1v : ∀ v ∈ vs, v.oneCell' = true) :
    Calls Tryz.prog 73 #[.slice (some ⟨g, 0, none⟩) n c, .int .i64 i, .slice (some ⟨vb, 0, none⟩) m m] w fun e w' =>
      ∃ (G : Nat) (ROW : Array Value), n + m ≤ G ∧ G * 6 ≤ ROW.size ∧ ROW.toList.take (i * 6) = cs.take (i * 6) ∧ e = .returned (.slice (some ⟨w.heap.size, 0, none⟩) (n + m) G) ∧
      w' = (((w.alloc (.cells ROW 62)).drew.setCells w.heap.size (i * 6) vs).drew).setCells w.heap.size ((i + m) * 6) (cs.drop (i * 6)) := by
  obtain ⟨i0, hi0, hz0, hzs, hzb⟩ := info_parts infoK
  have hz1 : ¬ ((m : Int) = 0) := by omega
  have hz2 : ¬ ((i : Int) = (n : Int)) := by omega
  have hz3 : (c : Int) < (n : Int) + (m : Int) := by omega
  have hsz := infoKz
  have mixed : Tryz.prog.follows .mixedOrders = true := by kernel_rfl
  have hbw : g < w.heap.size := lt_of_block hg
  have hvw : vb < w.heap.size := lt_of_block hv
  have hvs : ∀ j v, vs[j]? = some v → w.cell? ⟨vb, j, none⟩ = some v := fun j v hj => by rw [cell_in hv]; simpa using hj
  have hkk : (n : Int) + (m : Int) - (i : Int) = ((n + m - i : Nat) : Int) := by omega
  have hik : i + (n + m - i) = n + m := by omega
  have hold : (Builtin.firstCells i0.size i (.slice (some ⟨g, 0, none⟩) i c)).run Tryz.prog w.drew = .ok (cs.take (i * 6)).toArray w.drew := by
    rw [hzs]
    exact run_firstCells_some w.drew 6 i ⟨g, 0, none⟩ i c (cs.take (i * 6)) (by rw [List.length_take]; omega) (fun j v hj => by
      rw [Addr.add_lit, Nat.zero_add]
      rw [List.getElem?_take] at hj
      split at hj
      · exact hcs j v hj
      · cases hj)
  have hrz : ∀ ty, (Builtin.append_ #[27, 3] ty #[.slice (some ⟨g, 0, none⟩) i c, .int .i64 ((n : Int) + (m : Int) - (i : Int))]).run Tryz.prog w =
      .ok (.slice (some ⟨w.heap.size, 0, none⟩) (n + m) (grownCap w (n + m) c 62)) (w.drew.alloc (.cells ((cs.take (i * 6)).toArray ++ Builtin.zeroCells (Value.cells (.agg #[.string .empty, .int .i64 0, .string .empty, .int .i64 0, .int .i64 0, .string .empty])) (n + m - i) ++ Builtin.zeroCells (Value.cells (.agg #[.string .empty, .int .i64 0, .string .empty, .int .i64 0, .int .i64 0, .string .empty])) (grownCap w (n + m) c 62 - (n + m))) 62)) := fun ty => by
    have h := Lib.run_append_grow_zeros (P := Tryz.prog) w 27 3 ty 62 i0 _ .i64 .i64 Tryz.underlying27 Tryz.underlying3 hi0 hz0 (some ⟨g, 0, none⟩) i c (cs.take (i * 6)) hold (n + m - i) (by omega) (by omega) (by omega) (by omega) (by rw [hzb]; omega) (by rw [hzb, hik]; exact growslice_fits hroom (by omega))
    rw [hik] at h
    rw [hkk]
    exact h
  obtain ⟨G, hG⟩ : ∃ G, G = grownCap w (n + m) c 62 := ⟨_, rfl⟩
  obtain ⟨ROW, hROW⟩ : ∃ ROW : Array Value, ROW = (cs.take (i * 6)).toArray ++ Builtin.zeroCells (Value.cells (.agg #[.string .empty, .int .i64 0, .string .empty, .int .i64 0, .int .i64 0, .string .empty])) (n + m - i) ++ Builtin.zeroCells (Value.cells (.agg #[.string .empty, .int .i64 0, .string .empty, .int .i64 0, .int .i64 0, .string .empty])) (G - (n + m)) := ⟨_, rfl⟩
  rw [← hG] at hrz
  rw [← hROW] at hrz
  have hGn : n + m ≤ G := by rw [hG]; exact grownCap_ge w _ _ _
  have htl : (cs.take (i * 6)).length = i * 6 := by rw [List.length_take]; omega
  have hRs : ROW.size = G * 6 := by
    rw [hROW]
    simp [Builtin.zeroCells, Value.cells]
    omega
  have hRl : G * 6 ≤ ROW.size := by omega
  have hRt : ROW.toList.take (i * 6) = cs.take (i * 6) := by
    rw [hROW, Array.toList_append, Array.toList_append, List.append_assoc, List.take_append_of_le_length (by rw [List.toList_toArray, htl]; exact Nat.le_refl _), List.toList_toArray, List.take_of_length_le (by rw [htl]; exact Nat.le_refl _)]
  obtain ⟨W1, hW1⟩ : ∃ W1, W1 = w.drew.alloc (.cells ROW 62) := ⟨_, rfl⟩
  rw [← hW1] at hrz
  have hN : ∀ j, j < (n + m) * 6 → (W1.cell? ⟨w.heap.size, j, none⟩).isSome = true := fun j hj => by
    rw [hW1, World.cell?_alloc_at (w := w.drew) ROW _ w.heap.size j rfl, Array.getElem?_eq_getElem (by omega)]; rfl
  have hNf : ∀ j, W1.frozen? ⟨w.heap.size, j, none⟩ = false := fun j => by rw [hW1]; exact World.frozen?_alloc_at (w := w.drew) ROW _ w.heap.size j rfl
  have hOb : ∀ j v, w.cell? ⟨g, j, none⟩ = some v → W1.cell? ⟨g, j, none⟩ = some v := fun j v h => by rw [hW1, World.cell?_alloc_past (w := w.drew) _ g j hbw]; exact h
  have hOv : ∀ j v, w.cell? ⟨vb, j, none⟩ = some v → W1.cell? ⟨vb, j, none⟩ = some v := fun j v h => by rw [hW1, World.cell?_alloc_past (w := w.drew) _ vb j hvw]; exact h
  have hcpA : ∀ (W : World), (∀ x, W.cell? x = W1.cell? x) → (∀ x, W.frozen? x = W1.frozen? x) → ∀ ty dc, (Builtin.copy_ #[27, 27] ty #[.slice (some ⟨w.heap.size, i * 6, none⟩) (n + m - i) dc, .slice (some ⟨vb, 0, none⟩) m m]).run Tryz.prog W = .ok (goInt m) (W.setCells w.heap.size (i * 6) vs) := fun W hWc hWf ty dc =>
    run_copy_cells_k (P := Tryz.prog) W _ _ ty 62 w.heap.size (i * 6) (n + m - i) dc ⟨vb, 0, none⟩ m m vs 6 m Tryz.underlying27 hsz (by simp only [Nat.min_def]; split <;> omega) hvl
      (fun j v hj => by rw [Addr.add_lit, Nat.zero_add, hWc]; exact hOv _ v (hvs j v hj))
      (fun j hj => by rw [hWc]; exact hN _ (by omega)) (fun j hj => by rw [hWf]; exact hNf _) h1v
  have hG63 : G ≤ 9223372036854775807 := by
    have := grownCap_le_maxLen w (n + m) c 62 (by unfold maxLen; omega)
    rw [← hG] at this
    unfold maxLen at this
    omega
  have hGi : ¬ (G = i) := by omega
  have hGim : ¬ (G = i + m) := by omega
  have hci : ¬ (c = i) := by omega
  have hbN : g ≠ w.heap.size := by omega
  have hdl : (cs.drop (i * 6)).length = (n - i) * 6 := by rw [List.length_drop, hcl]; omega
  have hcpB : ∀ (W : World), (∀ x, W.cell? x = (W1.setCells w.heap.size (i * 6) vs).cell? x) → (∀ x, W.frozen? x = (W1.setCells w.heap.size (i * 6) vs).frozen? x) → ∀ ty dc sc, (Builtin.copy_ #[27, 27] ty #[.slice (some ⟨w.heap.size, (i + m) * 6, none⟩) (n + m - (i + m)) dc, .slice (some ⟨g, i * 6, none⟩) (n - i) sc]).run Tryz.prog W = .ok (goInt (n - i : Nat)) (W.setCells w.heap.size ((i + m) * 6) (cs.drop (i * 6))) := fun W hWc hWf ty dc sc =>
    run_copy_cells_k (P := Tryz.prog) W _ _ ty 62 w.heap.size ((i + m) * 6) (n + m - (i + m)) dc ⟨g, i * 6, none⟩ (n - i) sc (cs.drop (i * 6)) 6 (n - i) Tryz.underlying27 hsz (by simp only [Nat.min_def]; split <;> omega) hdl
      (fun j v hj => by
        rw [Addr.add_lit, hWc, World.cell?_setCells_out _ _ _ _ _ (fun h _ => absurd h hbN)]
        exact hOb _ v (hcs (i * 6 + j) v (by rwa [List.getElem?_drop] at hj)))
      (fun j hj => by rw [hWc]; exact isSome_setCells _ _ _ _ (fun t ht => hN _ (by omega)) _ (hN _ (by omega)))
      (fun j hj => by rw [hWf, World.frozen?_setCells]; exact hNf _) (fun v hv => h1c v (List.mem_of_mem_drop hv))
  subst hW1
  have hE1 : ∀ x, ((w.alloc (.cells ROW 62)).drew).cell? x = (w.drew.alloc (.cells ROW 62)).cell? x := fun x => rfl
  have hE2 : ∀ x, ((w.alloc (.cells ROW 62)).drew).frozen? x = (w.drew.alloc (.cells ROW 62)).frozen? x := fun x => rfl
  have hF1 : ∀ x, (((w.alloc (.cells ROW 62)).drew.setCells w.heap.size (i * 6) vs).drew).cell? x = ((w.drew.alloc (.cells ROW 62)).setCells w.heap.size (i * 6) vs).cell? x := fun x => rfl
  have hF2 : ∀ x, (((w.alloc (.cells ROW 62)).drew.setCells w.heap.size (i * 6) vs).drew).frozen? x = ((w.drew.alloc (.cells ROW 62)).setCells w.heap.size (i * 6) vs).frozen? x := fun x => rfl
  have hw1 : IntKind.i64.wrap ((i : Int) + (m : Int)) = (i : Int) + (m : Int) := by rw [IntKind.wrap_i64]; omega
  have hb1 : (0 : Int) ≤ (i : Int) + (m : Int) := by omega
  have hin : i ≤ n := by omega
  have htn : ((i : Int) + (m : Int)).toNat = i + m := by omega
  have hb3 : (i : Int) ≤ (n : Int) := by omega
  have HR := Lib.hid hRl
  have HT := Lib.hid hRt
  clear hkk hik hold hROW hG hRl hRt hRs htl hg hv hcl hvl hcs hvs h1c h1v hdl hN hNf hOb hOv
  go_enter Tryz.func73, Tryz.ntmps73
  go_wp2_with (first
    | (at_builtin; refine Lib.wpList_append_run _ rfl _ _ _ _ rfl _ _ rfl rfl _ _ (hrz _) ?_)
    | (at_builtin; refine wpList_copy_runI _ rfl _ _ 27 27 rfl _ _ rfl rfl (hcpA _ hE1 hE2 _ _) ?_)
    | (at_builtin; refine wpList_copy_runI _ rfl _ _ 27 27 rfl _ _ rfl rfl (hcpB _ (fun _ => rfl) (fun _ => rfl) _ _ _) ?_))
  go_region_law_o (refine step_copy_runI rfl _ _ 27 27 rfl (.slice (some ⟨w.heap.size, (i + m) * 6, none⟩) (n + m - (i + m)) (G - (i + m))) (.slice (some ⟨g, i * 6, none⟩) (n - i) (c - i)) (by simp [Act.eval, Act.put]) (by simp [Act.eval, Act.put]) (hcpB _ hF1 hF2 3 (G - (i + m)) (c - i)) ?_)
  go_wp2
  go_ret
  exact ⟨G, ROW, hGn, HR.out, HT.out, rfl, rfl⟩
end Go.Proofs.YtpfhhaonfbfheaaGreatDoor.ky
