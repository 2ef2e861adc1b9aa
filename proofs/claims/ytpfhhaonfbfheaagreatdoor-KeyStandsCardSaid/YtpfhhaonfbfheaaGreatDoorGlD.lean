/- What the row's list gives: the two tables of package glyph lie in the world; the library's own number is some number. And a world for the witness. No conditions. -/
import Derived.Test.YtpfhhaonfbfheaaGreatDoorCards
import Derived.Test.YtpfhhaonfbfheaaGreatDoorTie
import Derived.Test.YtpfhhaonfbfheaaGreatDoorGlA
import Derived.WalkKit
import Derived.ProofKit
import Derived.OpenShut
import Derived.Deep.DeepHandedRow
import Derived.Lib.LaidU8
import Derived.Shelf.Vars
namespace Go.Proofs.YtpfhhaonfbfheaaGreatDoor.gl
open Go.ChangeShapes Go.WideShapes Go.ChangeAt Go.RowKit

def laidL : List (String × DataW Unit) := [("unicode/utf8.acceptRanges", Rows.laid_unicode_utf8_acceptRanges), ("tinderbox/glyph.letters", Rows.laid_tinderbox_glyph_letters), ("tinderbox/glyph.others", Rows.laid_tinderbox_glyph_others), ("unicode/utf8.first", Rows.laid_unicode_utf8_first)]

theorem gLet : Tryz.prog.globalNamed "tinderbox/glyph.letters" = some 0 := by kernel_rfl
theorem gOth : Tryz.prog.globalNamed "tinderbox/glyph.others" = some 1 := by kernel_rfl
theorem gLetT : (Tryz.prog.globals[0]?).map (·.type) = some 124 := by kernel_rfl
theorem gOthT : (Tryz.prog.globals[1]?).map (·.type) = some 125 := by kernel_rfl
theorem cSpan : Tryz.prog.cellsOf 123 = 3 := by kernel_rfl
theorem cU8 : Tryz.prog.cellsOf 5 = 1 := by kernel_rfl
theorem cInt : Tryz.prog.cellsOf 3 = 1 := by kernel_rfl

theorem len3 {α : Type} : ∀ {l : List α}, l.length = 3 → ∃ a b c, l = [a, b, c]
  | [a, b, c], _ => ⟨a, b, c, rfl⟩
theorem span_cells {H : Type} {enc : TypeId × Value → H} {w : World} {base fuel : Nat} {sp : Nat → Bool} {held : Bool} {cs : List Value} {a b c : Int} {p : List MemPlace}
    (h : DataW.trod enc Tryz.prog w base sp held fuel 123 cs = some (.agg [.lit (.int .u8 a), .lit (.int .u8 b), .lit (.int .i64 c)], p)) : cs = [.int .u8 a, .int .u8 b, .int .i64 c] := by
  obtain ⟨xs, n, rfl, hx, hl, hxl, hall⟩ := DataW.trod_struct Tryz.underlying123 h
  rw [cSpan] at hl
  have f0 := hall 0 _ rfl
  have f1 := hall 1 _ rfl
  have f2 := hall 2 _ rfl
  change DataW.trod _ _ _ _ _ _ _ 5 ((cs.drop 0).take (Tryz.prog.cellsOf 5)) = _ at f0
  change DataW.trod _ _ _ _ _ _ _ 5 ((cs.drop 1).take (Tryz.prog.cellsOf 5)) = _ at f1
  change DataW.trod _ _ _ _ _ _ _ 3 ((cs.drop 2).take (Tryz.prog.cellsOf 3)) = _ at f2
  rw [cU8] at f0 f1
  rw [cInt] at f2
  have hxl3 : xs.length = 3 := hxl
  clear hall hxl
  obtain ⟨x0, x1, x2, rfl⟩ := len3 hxl3
  obtain ⟨c0, c1, c2, rfl⟩ := len3 hl
  obtain ⟨z0, e0, y0, _⟩ := DataW.trod_int Tryz.underlying5 f0
  obtain ⟨z1, e1, y1, _⟩ := DataW.trod_int Tryz.underlying5 f1
  obtain ⟨z2, e2, y2, _⟩ := DataW.trod_int Tryz.underlying3 f2
  simp at e0 e1 e2
  simp only [Prod.mk.injEq, DataW.agg.injEq, List.map_cons, List.map_nil, List.cons.injEq, and_true, y0, y1, y2, DataW.lit.injEq, Lit.int.injEq, true_and] at hx
  obtain ⟨⟨rfl, rfl, rfl⟩, _⟩ := hx
  rw [e0, e1, e2]

theorem elem_cells {H : Type} {enc : TypeId × Value → H} {w : World} {base fuel : Nat} {sp : Nat → Bool} {held : Bool} {cs : List Value} {ds : List (DataW H)} {p : List MemPlace} {t : TypeId} {n : Nat}
    (ht : Tryz.prog.underlying t = some (.array n 123)) (h : DataW.trod enc Tryz.prog w base sp held fuel t cs = some (.agg ds, p)) (i : Nat) (hi : i < n) {a b c : Int}
    (hd : ds[i]? = some (.agg [.lit (.int .u8 a), .lit (.int .u8 b), .lit (.int .i64 c)])) (j : Nat) (hj : j < 3) : cs[i * 3 + j]? = [Value.int .u8 a, .int .u8 b, .int .i64 c][j]? := by
  obtain ⟨fuel', d, q, hdi, he⟩ := Lib.array_elem ht h i hi
  obtain rfl := Option.some.inj (hd.symm.trans hdi)
  rw [cSpan] at he
  have hcs := span_cells he
  have := congrArg (·[j]?) hcs
  simp only [List.getElem?_take, List.getElem?_drop] at this
  rw [if_pos hj] at this
  exact this

theorem letters_of {W : World} (h : Lib.VarReads Tryz.prog W "tinderbox/glyph.letters" Rows.laid_tinderbox_glyph_letters) : W.rangeAt 0 0 lettersL := by
  obtain ⟨g, t, cs, fuel, p, hg, hty, hvar, hd⟩ := h
  obtain rfl := Option.some.inj (gLet.symm.trans hg)
  obtain rfl := Option.some.inj (gLetT.symm.trans hty)
  intro k v hv
  have hk : k < 9 := (List.getElem?_eq_some_iff.1 hv).1
  rw [World.var?_cell hg hvar _, ← hv, ← Array.getElem?_toList, Nat.zero_add]
  have e : k = k / 3 * 3 + k % 3 := by omega
  have hq : k / 3 < 3 := by omega
  have hr : k % 3 < 3 := by omega
  rw [e]
  generalize k / 3 = q at hq
  generalize k % 3 = r at hr
  clear e hv hk
  match q, hq with
  | 0, _ => rw [elem_cells Tryz.underlying124 hd 0 (by decide) rfl r hr]; match r, hr with | 0, _ => rfl | 1, _ => rfl | 2, _ => rfl
  | 1, _ => rw [elem_cells Tryz.underlying124 hd 1 (by decide) rfl r hr]; match r, hr with | 0, _ => rfl | 1, _ => rfl | 2, _ => rfl
  | 2, _ => rw [elem_cells Tryz.underlying124 hd 2 (by decide) rfl r hr]; match r, hr with | 0, _ => rfl | 1, _ => rfl | 2, _ => rfl

theorem others_of {W : World} (h : Lib.VarReads Tryz.prog W "tinderbox/glyph.others" Rows.laid_tinderbox_glyph_others) : W.rangeAt 1 0 othersL := by
  obtain ⟨g, t, cs, fuel, p, hg, hty, hvar, hd⟩ := h
  obtain rfl := Option.some.inj (gOth.symm.trans hg)
  obtain rfl := Option.some.inj (gOthT.symm.trans hty)
  intro k v hv
  have hk : k < 24 := (List.getElem?_eq_some_iff.1 hv).1
  rw [World.var?_cell hg hvar _, ← hv, ← Array.getElem?_toList, Nat.zero_add]
  have e : k = k / 3 * 3 + k % 3 := by omega
  have hq : k / 3 < 8 := by omega
  have hr : k % 3 < 3 := by omega
  rw [e]
  generalize k / 3 = q at hq
  generalize k % 3 = r at hr
  clear e hv hk
  match q, hq with
  | 0, _ => rw [elem_cells Tryz.underlying125 hd 0 (by decide) rfl r hr]; match r, hr with | 0, _ => rfl | 1, _ => rfl | 2, _ => rfl
  | 1, _ => rw [elem_cells Tryz.underlying125 hd 1 (by decide) rfl r hr]; match r, hr with | 0, _ => rfl | 1, _ => rfl | 2, _ => rfl
  | 2, _ => rw [elem_cells Tryz.underlying125 hd 2 (by decide) rfl r hr]; match r, hr with | 0, _ => rfl | 1, _ => rfl | 2, _ => rfl
  | 3, _ => rw [elem_cells Tryz.underlying125 hd 3 (by decide) rfl r hr]; match r, hr with | 0, _ => rfl | 1, _ => rfl | 2, _ => rfl
  | 4, _ => rw [elem_cells Tryz.underlying125 hd 4 (by decide) rfl r hr]; match r, hr with | 0, _ => rfl | 1, _ => rfl | 2, _ => rfl
  | 5, _ => rw [elem_cells Tryz.underlying125 hd 5 (by decide) rfl r hr]; match r, hr with | 0, _ => rfl | 1, _ => rfl | 2, _ => rfl
  | 6, _ => rw [elem_cells Tryz.underlying125 hd 6 (by decide) rfl r hr]; match r, hr with | 0, _ => rfl | 1, _ => rfl | 2, _ => rfl
  | 7, _ => rw [elem_cells Tryz.underlying125 hd 7 (by decide) rfl r hr]; match r, hr with | 0, _ => rfl | 1, _ => rfl | 2, _ => rfl

theorem glo_of {W : World} (h : laidMet Tryz.prog laidL W) (hs : W.ShapedOpen Tryz.prog) : Glo W :=
  ⟨letters_of (Lib.laidMet.reads h (.tail _ (.head _))), others_of (Lib.laidMet.reads h (.tail _ (.tail _ (.head _)))),
    cell_of_shapedOpen_int (zero := #[.int .i64 0]) (t := 3) hs (of_decide_eq_true (by kernel_rfl)) (by kernel_rfl) rfl (by kernel_rfl) (by kernel_rfl) Tryz.underlying3⟩

/-- The table of the library as cells. -/
def firstL : List Value := Lib.firstTab.map fun z => .int .u8 z
def acceptL : List Value := [.int .u8 128, .int .u8 191, .int .u8 160, .int .u8 191, .int .u8 128, .int .u8 159, .int .u8 144, .int .u8 191, .int .u8 128, .int .u8 143, .int .u8 0, .int .u8 0, .int .u8 0, .int .u8 0, .int .u8 0, .int .u8 0,
  .int .u8 0, .int .u8 0, .int .u8 0, .int .u8 0, .int .u8 0, .int .u8 0, .int .u8 0, .int .u8 0, .int .u8 0, .int .u8 0, .int .u8 0, .int .u8 0, .int .u8 0, .int .u8 0, .int .u8 0, .int .u8 0]
def World.lay (w : World) (g : Nat) (cs : List Value) : World := { w with heap := w.heap.modify g fun
  | .cells _ t frozen => .cells cs.toArray t frozen
  | o => o }
noncomputable def laidWorld (os : Os) : World :=
  World.lay (World.lay (World.lay (World.lay (World.holding Tryz.prog os ⟨#[], #[], []⟩) 0 lettersL) 1 othersL) 5 firstL) 6 acceptL
set_option maxRecDepth 100000 in
theorem laid_met (os : Os) : laidMet Tryz.prog laidL ((laidWorld os).forCall (fun _ _ => 0) ⟨#[], #[], []⟩).memory :=
  laidMet_of_run' 8 (by kernel_rfl) (by kernel_rfl)
end Go.Proofs.YtpfhhaonfbfheaaGreatDoor.gl
