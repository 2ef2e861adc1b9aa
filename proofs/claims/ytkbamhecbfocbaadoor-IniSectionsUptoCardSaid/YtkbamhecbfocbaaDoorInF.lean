/- Laws for (*reader).line: what it leaves behind. No walk; no conditions beside those stated. -/
import Derived.Test.YtkbamhecbfocbaaDoorInW
import Derived.Deep.RegionHeld3
import Derived.Deep.DeepCutAuto
import Derived.Test.YtkbamhecbfocbaaDoorStp
namespace Go.Proofs.YtkbamhecbfocbaaDoor.ini
open Go.ChangeShapes Go.WideShapes Go.ChangeAt Go.RowKit gl
open Go.Maps

theorem index_miss (sep : UInt8) : ∀ l : List UInt8, sep ∉ l → Lib.index l [sep] = -1
  | [], _ => by simp [Lib.index]
  | c :: r, h => by
    have hc : c ≠ sep := fun e => h (by simp [e])
    have hp : ([sep] : List UInt8).isPrefixOf (c :: r) = false := by simp [List.isPrefixOf, Ne.symm hc]
    rw [Lib.index, hp, index_miss sep r fun hm => h (by simp [hm])]
    simp
theorem cut_61 (l : List UInt8) : Lib.cut l [61] = if (61 : UInt8) ∈ l then (beforeE l, afterE l, true) else (l, [], false) := by
  unfold Lib.cut
  by_cases h : (61 : UInt8) ∈ l
  · obtain ⟨m, h1, h2, h3⟩ := index_hit 61 l h
    obtain ⟨_, h4, h5⟩ := noE_cut (l := l) (k := m) h2 h3
    rw [if_pos h, h1, if_pos (by omega), h4, h5]
    simp
  · rw [if_neg h, index_miss 61 l h, if_neg (by decide)]
theorem lawS : Keyed Tryd.prog 9 := string_keyed Tryd.underlying9
theorem zeroI (w : World) : (zeroValue 3).run Tryd.prog w = .ok (.int .i64 0) w := by kernel_rfl
def LnOut (M b m : Nat) (out : List Ln) (N : Int) (o : Option (List UInt8 × Option (List UInt8 × List UInt8))) (w : World) (e : Ending) (w' : World) : Prop := match o with
  | none => e = pan ∧ Below M w w'
  | some (a, none) => e = .returned (.tuple #[]) ∧ RD M w' b m a out ∧ Below M w w' ∧ ls.SK 9 w w'
  | some (a, some (n, t)) => e = .returned (.tuple #[]) ∧ RD M w' b m a (out ++ [⟨n, t, N⟩]) ∧ Below M w w' ∧ ls.SK 9 w w'
theorem giv_no1 {a x : List UInt8} {out : List Ln} (h : (61 : UInt8) ∉ x) : givenL a out x = none := by unfold givenL; rw [if_neg fun h2 => h h2.1]
theorem giv_no2 {a x : List UInt8} {out : List Ln} (h : nameL (a ++ triR (beforeE x)) = false) : givenL a out x = none := by unfold givenL; rw [if_neg fun h2 => by rw [h] at h2; exact absurd h2.2.1 (by simp)]
theorem giv_no3 {a x : List UInt8} {out : List Ln} (h : there out (a ++ triR (beforeE x)) = true) : givenL a out x = none := by unfold givenL; rw [if_neg fun h2 => by rw [h] at h2; exact absurd h2.2.2 (by simp)]
theorem giv_yes {a x : List UInt8} {out : List Ln} (h : (61 : UInt8) ∈ x) (h1 : nameL (a ++ triR (beforeE x)) = true) (h2 : there out (a ++ triR (beforeE x)) = false) : givenL a out x = (meantL (triL (afterE x))).map fun t => (a ++ triR (beforeE x), t) := by unfold givenL; rw [if_pos ⟨h, h1, h2⟩]
theorem line_giv {a : List UInt8} {out : List Ln} {s : List UInt8} {c : UInt8} {r : List UInt8} (h : tri s = c :: r) (h1 : c ≠ 59) (h2 : c ≠ 35) (h3 : c ≠ 91) : lineL a out s = (givenL a out (c :: r)).map fun p => (a, some p) := by
  unfold lineL
  rw [h]
  exact lineT_given h1 h2 h3

theorem c1_drew {w0 wp : World} {p : Addr} {x : Value} (h : wp.cell? p = some x ∧ Hid (Below w0.heap.size w0 wp)) : wp.drew.cell? p = some x ∧ Hid (Below w0.heap.size w0 wp.drew) := ⟨h.1, Lib.hid h.2.out.drew⟩
theorem c1_call {w0 wp w' : World} {p : Addr} {x : Value} (h : wp.cell? p = some x ∧ Hid (Below w0.heap.size w0 wp)) (hb : Below wp.heap.size wp w') : w'.cell? p = some x ∧ Hid (Below w0.heap.size w0 w') :=
  ⟨(hb.cell (World.block_lt_of_cell? _ _ h.1)).trans h.1, Lib.hid (then_bel h.2.out hb)⟩
theorem drewN_bel (w : World) (n : Nat) : Below w.heap.size w (w.drewN n) := ⟨rfl, rfl, rfl, Nat.le_refl _, fun _ _ => rfl⟩
theorem cut_parts61 (l : List UInt8) : ∃ (xl yl : List UInt8) (isb : Bool), Lib.cut l [61] = (xl, yl, isb) ∧ (isb = true → (61 : UInt8) ∈ l ∧ xl = beforeE l ∧ yl = afterE l) ∧ (isb = false → (61 : UInt8) ∉ l) ∧ xl.length ≤ l.length ∧ yl.length ≤ l.length := by
  rw [cut_61]
  by_cases h : (61 : UInt8) ∈ l
  · rw [if_pos h]
    have e := congrArg List.length (splitE h).1
    simp at e
    exact ⟨_, _, true, rfl, fun _ => ⟨h, rfl, rfl⟩, (fun h => by cases h), by omega, by omega⟩
  · rw [if_neg h]
    exact ⟨_, _, false, rfl, (fun h => by cases h), fun _ => h, Nat.le_refl _, by simp⟩

theorem sB_drew {M : Nat} {w0 wp : World} (h : Hid (Below M w0 wp)) : Hid (Below M w0 wp.drew) := Lib.hid h.out.drew
theorem sB_alloc {M : Nat} {w0 wp : World} (o : Obj) (hM : M ≤ w0.heap.size) (h : Hid (Below M w0 wp)) : Hid (Below M w0 (wp.alloc o)) := Lib.hid (h.out.alloc (by have := h.out.size; omega) o)
theorem sB_set {M : Nat} {w0 wp : World} {p : Addr} (v : Value) (hp : M ≤ p.block) (h : Hid (Below M w0 wp)) : Hid (Below M w0 (wp.setCell p v)) := Lib.hid (h.out.setCell hp v)
theorem line_far {w5 wm : World} {b n c M k : Nat} {cs : Array Value} {v : Option Addr} {xs : List Value} (hb : Below w5.heap.size w5 wm) (hblk : w5.heap[b]? = some (.cells cs 73 (0, 0))) (hown : wm.ownsRow M 35 3 (.slice v n c) k xs) : some b ≠ (Value.slice v n c).ownBlock := by
  intro e
  have hblkm := (hb.block b (lt_of_block hblk)).trans hblk
  rcases hown.2 with ⟨h1, _⟩ | ⟨q, cap, cur, h1, _, hq, _⟩
  · rw [h1] at e; cases e
  · rw [h1] at e
    exact ne_of_types hblkm hq (by decide) (Option.some.inj e)
theorem own_far {wm w7 : World} {b o M n : Nat} {v : Value} {xs : List Value} {x : Value} (_hown : wm.ownsRow M 35 3 v n xs) (hg : wm.grownBy w7 v.ownBlock) (hlt : b < wm.heap.size) (h1 : wm.cell? ⟨b, o, none⟩ = some x) (h2 : wm.frozen? ⟨b, o, none⟩ = false) (hne : some b ≠ v.ownBlock) :
    w7.cell? ⟨b, o, none⟩ = some x ∧ w7.frozen? ⟨b, o, none⟩ = false ∧ b < w7.heap.size :=
  ⟨(World.cell?_of_block (hg.block b hlt hne)).trans h1, (World.frozen?_of_block (hg.block b hlt hne)).trans h2, by have := hg.size; omega⟩
/-- One line more. -/
theorem RD.push {M b m n c g' cap' : Nat} {w5 wm w7 : World} {a : List UInt8} {out : List Ln} {x : Ln} {p : Option Addr} {D : DataW Unit} (hglo : GloB M w5) (hM : M ≤ w5.heap.size) (hbM : M ≤ b) (hmM : M ≤ m) (hn : out.length = n)
    (hblk : w5.heap[b]? = some (.cells #[.string (B a), .slice p n c, .map (some m)] 73 (0, 0))) (hmap : w5.ownsMap Tryd.prog 9 mapE m (n + 1) D) (hgiv : Giv D (out ++ [x])) (hbm : Below w5.heap.size w5 wm)
    (hown : wm.ownsRow M 35 3 (.slice p n c) n (lnsC out)) (hgrow : wm.grownBy w7 (Value.slice p n c).ownBlock) (hown7 : w7.ownsRow M 35 3 (.slice (some ⟨g', 0, none⟩) (n + 1) cap') (n + 1) (lnsC (out ++ [x]))) :
    RD M (w7.setCell ⟨b, 1, none⟩ (.slice (some ⟨g', 0, none⟩) (n + 1) cap')) b m a (out ++ [x]) ∧ Below M w5 (w7.setCell ⟨b, 1, none⟩ (.slice (some ⟨g', 0, none⟩) (n + 1) cap')) ∧ ls.SK 9 w5 (w7.setCell ⟨b, 1, none⟩ (.slice (some ⟨g', 0, none⟩) (n + 1) cap')) := by
  have hszm := hbm.size
  have hsz7 := hgrow.size
  have hblkm := (hbm.block b (lt_of_block hblk)).trans hblk
  have hne : ∀ (k : Nat) (cs : Array Value) (t : TypeId) (f : Nat × Nat), wm.heap[k]? = some (.cells cs t f) → t ≠ 35 → some k ≠ (Value.slice p n c).ownBlock := by
    intro k cs t f hk ht e
    rcases hown.2 with ⟨h1, _⟩ | ⟨q, cap, cur, h1, _, hq, _⟩
    · rw [h1] at e; cases e
    · rw [h1] at e
      exact ne_of_types hk hq ht (Option.some.inj e)
  have hblk7 := (hgrow.block b (lt_of_block hblkm) (hne b _ _ _ hblkm (by decide))).trans hblkm
  have hb57 : Below M w5 w7 := (hbm.mono hM).grown hgrow (by omega) fun k hk => (hown.lt k hk).1
  have hset := heap_set (o := 1) hblk7 (.slice (some ⟨g', 0, none⟩) (n + 1) cap')
  have hu : Upd [b] w7 (w7.setCell ⟨b, 1, none⟩ (.slice (some ⟨g', 0, none⟩) (n + 1) cap')) := (Upd.refl [b] w7).setCell (p := ⟨b, 1, none⟩) (.inl (by simp)) _
  have hmapm := map_upd hmap (Upd.of_below hbm []) (by simp)
  have hmap7 : w7.ownsMap Tryd.prog 9 mapE m (n + 1) D := by
    obtain ⟨es, clock, hb, r⟩ := hmapm
    refine ⟨es, clock, (hgrow.block m (lt_of_block hb) ?_).trans hb, r⟩
    intro e
    rcases hown.2 with ⟨h1, _⟩ | ⟨q, cap, cur, h1, _, hq, _⟩
    · rw [h1] at e; cases e
    · rw [h1] at e
      cases e
      rw [hb] at hq
      cases hq
  have hl : (out ++ [x]).length = n + 1 := by simp [hn]
  have hb57' := hb57.setCell (p := ⟨b, 1, none⟩) hbM (.slice (some ⟨g', 0, none⟩) (n + 1) cap')
  refine ⟨⟨hglo.later hb57', ?_, ⟨D, ?_, hgiv⟩, hbM, hmM, ?_⟩, hb57', ((ls.SK.of_below hbm).trans (ls.SK.own (by decide) hown hgrow)).trans fun g cs hg => heap_set_ne hg _ (ne_of_types hg hblk7 (by decide))⟩
  · refine ⟨some ⟨g', 0, none⟩, cap', ?_, ?_⟩
    · rw [hl]; exact hset
    · rw [hl]
      refine hu.row hown7 fun g hg hm => ?_
      obtain rfl : g = b := by simpa using hm
      rcases hown7.2 with ⟨h1, _⟩ | ⟨q, cap, cur, h1, _, hq, _⟩
      · rw [h1] at hg; cases hg
      · rw [h1] at hg
        exact ne_of_types hblk7 hq (by decide) (Option.some.inj hg).symm
  · rw [hl]
    exact map_upd hmap7 hu (by simpa using map_ne hmap7 hblk7)
  · have := hb57'.size; omega

theorem egTL (args : Array Value) (w : World) : (callFunc 81 args).run Tryd.prog w = .ok (.enter 81 args) w := enters Tryd.func81 (by kernel_rfl) (by kernel_rfl) args w
theorem egMe (args : Array Value) (w : World) : (callFunc 80 args).run Tryd.prog w = .ok (.enter 80 args) w := enters Tryd.func80 (by kernel_rfl) (by kernel_rfl) args w
end Go.Proofs.YtkbamhecbfocbaaDoor.ini
