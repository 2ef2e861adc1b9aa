/- Lines in a block of their owner's: made, copied, written over. Plain facts on blocks; no conditions beside those stated. -/
import Derived.Test.YtkbamhecbfocbaaDoorIwO
import Derived.Test.YtkbamhecbfocbaaDoorIwF
import Derived.Test.YtkbamhecbfocbaaDoorIpC
import Derived.Laws.CopyRow
import Derived.Laws.CopyOwn
import Derived.Laws.MakeOwn
namespace Go.Proofs.YtkbamhecbfocbaaDoor.ini
open Go.ChangeShapes Go.WideShapes Go.ChangeAt Go.RowKit gl

theorem run_copy_k {P : Program} (w : World) (dT sT ty elem : TypeId) (g dLen dCap : Nat) (a : Addr) (sLen sCap : Nat) (cur : Array Value) (t : TypeId) (cs : List Value) (size n : Nat)
    (hu : P.underlying dT = some (.slice elem)) (hs : (P.info? elem).map (·.size) = some size) (hmin : Nat.min sLen dLen = n)
    (hg : w.heap[g]? = some (.cells cur t (0, 0))) (hn : cs.length = n * size)
    (hsrc : ∀ j v, cs[j]? = some v → w.cell? (a.add j) = some v) (hfit : cs.length ≤ cur.size) (h1 : ∀ v ∈ cs, v.oneCell' = true) :
    (Builtin.copy_ #[dT, sT] ty #[.slice (some ⟨g, 0, none⟩) dLen dCap, .slice (some a) sLen sCap]).run P w =
      .ok (goInt n) (w.setRow g (cs ++ cur.toList.drop cs.length).toArray) := by
  have hl := run_loadCells_list (P := P) w a cs hsrc
  have hst := run_storeCells_at P g 0 t cs 0 cur w hg (by simpa using hfit) h1
  cases hq : P.info? elem with
  | none => simp [hq] at hs
  | some i =>
    have hi : i.size = size := by simpa [hq] using hs
    simp only [Nat.zero_add, List.take_zero, List.nil_append] at hst
    simp [Builtin.copy_, run_underlying hu, Builtin.lenOf, Builtin.firstCells, sizeOf, typeInfo, hq, hi, hmin, ← hn, hl, hst]
theorem run_copy_0 {P : Program} (w : World) (dT sT ty elem : TypeId) (d a : Option Addr) (dLen dCap sLen sCap size : Nat) (hu : P.underlying dT = some (.slice elem)) (hs : (P.info? elem).map (·.size) = some size) (hn : Nat.min sLen dLen = 0) :
    (Builtin.copy_ #[dT, sT] ty #[.slice d dLen dCap, .slice a sLen sCap]).run P w = .ok (goInt 0) w := by
  cases hq : P.info? elem with
  | none => simp [hq] at hs
  | some i =>
    have hl : ∀ (x : Addr), (loadCells x 0).run P w = .ok #[] w := fun x => by simpa using run_loadCells_list (P := P) w x [] (by simp)
    cases d <;> cases a <;> simp [Builtin.copy_, run_underlying hu, Builtin.lenOf, Builtin.firstCells, sizeOf, typeInfo, hq, hn, storeCells, hl]
theorem infoLz : (Tryd.prog.info? 35).map (·.size) = some 3 := by kernel_rfl
abbrev zL : Ln := ⟨[], [], 0⟩
abbrev spL : Ln := ⟨[115, 112, 97, 114, 101], [], 0⟩
abbrev zeroL : Value := .agg #[.string .empty, .string .empty, .int .i64 0]
def blanksL (n : Nat) : Array Value := madeCells (Value.cells zeroL) (n * 3)
theorem blanksL_size (n : Nat) : (blanksL n).size = n * 3 := by simp [blanksL, madeCells]
theorem blanksL_at (n j i : Nat) (hj : j < n) (u : Value) (hu : (lnC zL)[i]? = some u) : (blanksL n)[j * 3 + i]? = some u := by
  have hi : i < 3 := ls.lt_get hu
  simp only [blanksL, madeCells, Value.cells, Array.getElem?_map]
  rw [Array.getElem?_eq_getElem (by simp; omega)]
  simp only [Array.getElem_range, Option.map_some]
  have hm : (j * 3 + i) % 3 = i := by omega
  have h : i = 0 ∨ i = 1 ∨ i = 2 := by omega
  rcases h with rfl | rfl | rfl <;> simp [lnC] at hu <;> subst hu <;> simp [hm] <;> rfl
theorem makeLn (m : Nat) (hm : m ≤ 1073741824) (w : World) : (Instr.makeSlice 27 (.int .i64 ((m : Int) + 2)) (.int .i64 ((m : Int) + 2))).run Tryd.prog w = .ok (.slice (some ⟨w.heap.size, 0, none⟩) (m + 2) (m + 2)) (w.alloc (.cells (blanksL (m + 2)) 35)) := by
  obtain ⟨i, hi, he⟩ := Option.map_eq_some_iff.1 infoLn
  simp only [Prod.mk.injEq] at he
  obtain ⟨hz, h1, h8⟩ := he
  have h := run_make (P := Tryd.prog) w 27 35 i zeroL Tryd.underlying27 hi hz .i64 .i64 ((m : Int) + 2) ((m : Int) + 2) (by omega) (by omega) (by rw [h8]; omega) (by omega)
  rw [h, h1, show ((m : Int) + 2).toNat = m + 2 by omega]
  rfl
theorem lnsC_inv {l : List Ln} {i : Nat} {v : Value} (h : (lnsC l)[i]? = some v) : ∃ x, l[i / 3]? = some x ∧ (lnC x)[i % 3]? = some v := by
  have hlt : i < l.length * 3 := by have := ls.lt_get h; rwa [lnsC_len] at this
  obtain ⟨x, hx⟩ : ∃ x, l[i / 3]? = some x := ⟨_, List.getElem?_eq_getElem (by omega)⟩
  obtain ⟨u, hu⟩ : ∃ u, (lnC x)[i % 3]? = some u := ⟨_, List.getElem?_eq_getElem (show i % 3 < 3 by omega)⟩
  have := lnsC_at l (i / 3) x (i % 3) u hx hu
  rw [show i / 3 * 3 + i % 3 = i by omega, h] at this
  obtain rfl := Option.some.inj this
  exact ⟨x, hx, hu⟩
theorem lnsC_one (l : List Ln) : ∀ v ∈ lnsC l, v.oneCell' = true := by
  intro v hv
  obtain ⟨x, _, hx⟩ := List.mem_flatMap.1 hv
  simp only [lnC, List.mem_cons, List.not_mem_nil, or_false] at hx
  rcases hx with rfl | rfl | rfl <;> rfl
/-- The lines L fill block g. -/
def OwnL (g : Nat) (W : World) (L : List Ln) : Prop := ∃ cs, W.heap[g]? = some (.cells cs 35 (0, 0)) ∧ L.length * 3 = cs.size ∧ ls.At cs 0 (lnsC L)
namespace OwnL
variable {g : Nat} {W W' : World} {L : List Ln}
theorem lt (h : OwnL g W L) : g < W.heap.size := by obtain ⟨_, h1, _⟩ := h; exact lt_of_block h1
theorem later (h : OwnL g W L) (hb : Below W.heap.size W W') : OwnL g W' L := by
  obtain ⟨cs, h1, h2⟩ := h
  exact ⟨cs, (hb.block g (lt_of_block h1)).trans h1, h2⟩
theorem lns (h : OwnL g W L) (n : Nat) (hn : n ≤ L.length) : Lns W (.slice (some ⟨g, 0, none⟩) n L.length) (L.take n) := by
  obtain ⟨cs, h1, _, h3⟩ := h
  have hl : (L.take n).length = n := by simp; omega
  refine ⟨_, L.length, by rw [hl], by rw [hl]; exact hn, .inr ⟨g, 0, rfl, lt_of_block h1, fun j x hx i u hu => ?_⟩⟩
  rw [List.getElem?_take] at hx
  split at hx
  · have := h3 _ u (lnsC_at L j x i u hx hu)
    rw [cell_in h1]
    exact this
  · cases hx
theorem cell (h : OwnL g W L) {k : Nat} {x : Ln} (hx : L[k]? = some x) : W.cell? ⟨g, k * 3, none⟩ = some (.string (B x.name)) ∧ W.cell? ⟨g, k * 3 + 1, none⟩ = some (.string (B x.text)) ∧ W.cell? ⟨g, k * 3 + 2, none⟩ = some (.int .i64 x.num) := by
  have h1 := h.lns L.length (Nat.le_refl _)
  rw [List.take_of_length_le (Nat.le_refl _)] at h1
  have h2 := h1.cells hx
  rw [Nat.zero_add] at h2
  exact h2
theorem free (h : OwnL g W L) (i : Nat) : W.frozen? ⟨g, i, none⟩ = false := by
  obtain ⟨cs, h1, _⟩ := h
  exact free_in h1
theorem put (h : OwnL g W L) {k : Nat} {x : Ln} (hx : L[k]? = some x) (y : Ln) : OwnL g (W.setCells g (k * 3) (lnC y)) (L.set k y) := by
  obtain ⟨cs, h1, h2, h3⟩ := h
  have hk := ls.lt_get hx
  refine ⟨ls.setR cs (k * 3) (lnC y), ls.heap_setCells (lnC y) W cs (k * 3) h1, by rw [List.length_set, ls.setR_size]; exact h2, fun i v hv => ?_⟩
  obtain ⟨z, hz, hu⟩ := lnsC_inv hv
  rw [Nat.zero_add]
  by_cases hik : i / 3 = k
  · have hi3 : i % 3 < 3 := Nat.mod_lt _ (by decide)
    rw [hik, List.getElem?_set_self (by omega)] at hz
    obtain rfl := Option.some.inj hz
    have := ls.setR_in (lnC y) cs (k * 3) (by have : (lnC y).length = 3 := rfl; omega) (i % 3) v hu
    rwa [show k * 3 + i % 3 = i by omega] at this
  · rw [List.getElem?_set_ne (by omega)] at hz
    have hw := lnsC_at L (i / 3) z (i % 3) v hz hu
    rw [show i / 3 * 3 + i % 3 = i by omega] at hw
    rw [ls.setR_out (lnC y) cs (k * 3) i (by have : (lnC y).length = 3 := rfl; omega)]
    have := h3 i v hw
    rwa [Nat.zero_add] at this
theorem name (h : OwnL g W L) {k : Nat} {x : Ln} (hx : L[k]? = some x) (nm : List UInt8) : OwnL g (W.setCell ⟨g, k * 3, none⟩ (.string (B nm))) (L.set k ⟨nm, x.text, x.num⟩) := by
  obtain ⟨cs, h1, h2, h3⟩ := h
  have hk := ls.lt_get hx
  refine ⟨ls.setR cs (k * 3) [.string (B nm)], ls.heap_setCells [.string (B nm)] W cs (k * 3) h1, by rw [List.length_set, ls.setR_size]; exact h2, fun i v hv => ?_⟩
  obtain ⟨z, hz, hu⟩ := lnsC_inv hv
  rw [Nat.zero_add]
  have hold : ∀ u, (lnsC L)[i]? = some u → i ≠ k * 3 → (ls.setR cs (k * 3) [.string (B nm)])[i]? = some u := fun u hu' hne => by
    rw [ls.setR_out [.string (B nm)] cs (k * 3) i (by simp only [List.length_cons, List.length_nil]; omega)]
    have := h3 i u hu'
    rwa [Nat.zero_add] at this
  by_cases hik : i / 3 = k
  · have hi3 : i % 3 < 3 := Nat.mod_lt _ (by decide)
    rw [hik, List.getElem?_set_self (by omega)] at hz
    obtain rfl := Option.some.inj hz
    by_cases h0 : i % 3 = 0
    · rw [h0] at hu
      have := ls.setR_in [.string (B nm)] cs (k * 3) (by simp only [List.length_cons, List.length_nil]; omega) 0 v (by rw [← hu]; rfl)
      rwa [show k * 3 + 0 = i by omega] at this
    · refine hold v ?_ (by omega)
      have hs : (lnC x)[i % 3]? = some v := by
        have : i % 3 = 1 ∨ i % 3 = 2 := by omega
        rcases this with e | e <;> rw [e] at hu ⊢ <;> exact hu
      have hw := lnsC_at L k x (i % 3) v hx hs
      rwa [show k * 3 + i % 3 = i by omega] at hw
  · rw [List.getElem?_set_ne (by omega)] at hz
    have hw := lnsC_at L (i / 3) z (i % 3) v hz hu
    rw [show i / 3 * 3 + i % 3 = i by omega] at hw
    exact hold v hw (by omega)
end OwnL
theorem own_copied {g m : Nat} {w : World} {l : List Ln} (hl : l.length = m) (h : w.heap[g]? = some (.cells ((lnsC l) ++ (blanksL (m + 2)).toList.drop (lnsC l).length).toArray 35 (0, 0))) : OwnL g w (l ++ [zL, zL]) := by
  have hpl : (lnsC l).length = m * 3 := by rw [lnsC_len, hl]
  refine ⟨_, h, by simp [hpl, hl, blanksL_size]; omega, fun i v hv => ?_⟩
  obtain ⟨z, hz, hu⟩ := lnsC_inv hv
  rw [Nat.zero_add, List.getElem?_toArray]
  by_cases hlt : i < (lnsC l).length
  · rw [List.getElem?_append_left hlt]
    rw [List.getElem?_append_left (by omega)] at hz
    have := lnsC_at l (i / 3) z (i % 3) v hz hu
    rwa [show i / 3 * 3 + i % 3 = i by omega] at this
  · rw [List.getElem?_append_right (by omega), List.getElem?_drop, show (lnsC l).length + (i - (lnsC l).length) = i by omega, Array.getElem?_toList]
    have hlen := ls.lt_get hz
    simp only [List.length_append, List.length_cons, List.length_nil] at hlen
    rw [List.getElem?_append_right (by omega)] at hz
    have hzz : z = zL := by
      have : i / 3 - l.length = 0 ∨ i / 3 - l.length = 1 := by omega
      rcases this with e | e <;> rw [e] at hz <;> exact (Option.some.inj hz).symm
    subst hzz
    have := blanksL_at (m + 2) (i / 3) (i % 3) (by omega) v hu
    rwa [show i / 3 * 3 + i % 3 = i by omega] at this
/-- What copy leaves in a new block. -/
theorem copy_ln {w W0 : World} {p : Option Addr} {m c : Nat} {l : List Ln} {g : Nat} (h : Lns w (.slice p m c) l) (hm : m ≤ 1073741824) (hg : W0.heap[g]? = some (.cells (blanksL (m + 2)) 35 (0, 0))) (_hgw : w.heap.size ≤ g) (hb : Below w.heap.size w W0) :
    ∃ w3, (Builtin.copy_ #[27, 27] 3 #[.slice (some ⟨g, 0, none⟩) (m + 2) (m + 2), .slice p m c]).run Tryd.prog W0 = .ok (goInt m) w3 ∧ OwnL g w3 (l ++ [zL, zL]) ∧ Below g W0 w3 ∧ w3.heap.size = W0.heap.size := by
  obtain ⟨hlen, hmc, hptr⟩ := h.ptr
  by_cases h0 : m = 0
  · subst h0
    obtain rfl : l = [] := List.eq_nil_of_length_eq_zero hlen
    refine ⟨W0, ?_, ?_, Below.refl _ _, rfl⟩
    · exact run_copy_0 (P := Tryd.prog) W0 27 27 3 35 _ p _ _ _ _ 3 Tryd.underlying27 infoLz (by rfl)
    · exact own_copied (l := []) rfl (by rw [hg]; simp [lnsC])
  · obtain ⟨b, o, rfl, hbl⟩ := hptr (by omega)
    have hpl : (lnsC l).length = m * 3 := by rw [lnsC_len, hlen]
    refine ⟨_, run_copy_k (P := Tryd.prog) W0 27 27 3 35 g _ _ ⟨b, o, none⟩ _ _ (blanksL (m + 2)) 35 (lnsC l) 3 m Tryd.underlying27 infoLz (Nat.min_eq_left (by omega)) hg hpl (fun j v hj => ?_) (by rw [hpl, blanksL_size]; omega) (lnsC_one l), ?_, below_setRow (Below.refl _ _) (Nat.le_refl _) _, by simp⟩
    · obtain ⟨y, hy, hv⟩ := lnsC_inv hj
      obtain ⟨p', c', he, _, hat⟩ := h
      cases he
      rcases hat with hat | ⟨b', o', he, _, hat⟩
      · subst hat; simp at hy
      · cases he
        have hc := hat (j / 3) y hy (j % 3) v hv
        rw [show j / 3 * 3 + j % 3 = j by omega] at hc
        rw [ls.addN]
        exact (hb.cell (p := ⟨b, o + j, none⟩) hbl).trans hc
    · exact own_copied hlen (setRow_heap W0 _ _ _ _ _ hg)
end Go.Proofs.YtkbamhecbfocbaaDoor.ini
