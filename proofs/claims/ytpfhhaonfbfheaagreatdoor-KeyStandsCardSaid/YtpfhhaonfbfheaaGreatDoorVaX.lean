/- What the rows' list gives the Value layer: the tables lie in the world, strconv.ErrRange holds an error; and a world for the witness. No conditions. -/
import Derived.Test.YtpfhhaonfbfheaaGreatDoorGlD
import Derived.Test.YtpfhhaonfbfheaaGreatDoorVaD
import Derived.Stop.LaidErr
import Derived.Lib.LaidTab
namespace Go.Proofs.YtpfhhaonfbfheaaGreatDoor.va
open Go.ChangeShapes Go.WideShapes Go.ChangeAt Go.RowKit gl

def laidV : List (String × DataW Unit) := [("math/bits.deBruijn32tab", Rows.laid_math_bits_deBruijn32tab), ("math/bits.deBruijn64tab", Rows.laid_math_bits_deBruijn64tab), ("internal/strconv.uint64pow10", Rows.laid_internal_strconv_uint64pow10), ("unicode/utf8.acceptRanges", Rows.laid_unicode_utf8_acceptRanges), ("strconv.ErrRange", Rows.laid_strconv_ErrRange), ("strconv.ErrSyntax", Rows.laid_strconv_ErrSyntax), ("tinderbox/glyph.letters", Rows.laid_tinderbox_glyph_letters), ("tinderbox/glyph.others", Rows.laid_tinderbox_glyph_others), ("tinderbox/value.units", Rows.laid_tinderbox_value_units), ("unicode/utf8.first", Rows.laid_unicode_utf8_first)]

theorem gUni : Tryz.prog.globalNamed "tinderbox/value.units" = some 4 := by kernel_rfl
theorem gUniT : (Tryz.prog.globals[4]?).map (·.type) = some 170 := by kernel_rfl
theorem gPowT : (Tryz.prog.globals[9]?).map (·.type) = some 207 := by kernel_rfl
theorem gRngT : (Tryz.prog.globals[8]?).map (·.type) = some 132 := by kernel_rfl
theorem cUnit : Tryz.prog.cellsOf 169 = 3 := by kernel_rfl
theorem cStr : Tryz.prog.cellsOf 9 = 1 := by kernel_rfl
theorem cErr : Tryz.prog.cellsOf 199 = 1 := by kernel_rfl
theorem cU64 : Tryz.prog.cellsOf 189 = 1 := by kernel_rfl
theorem cPow : Tryz.prog.cellsOf 207 = 20 := by kernel_rfl
theorem star : "*" ++ "errors.errorString" = "*errors.errorString" := by decide
theorem rowErr (u : TypeId) (h : Tryz.prog.typeName? 3 u = some "*errors.errorString") : u = 197 :=
  typeName_ptr_named (nm := "errors.errorString") (by rw [star]; kernel_rfl) (by kernel_rfl) (by decide) u (by rw [star]; exact h)
theorem powData : (Rows.laid_internal_strconv_uint64pow10 : DataW Unit) = Lib.tabData .u64 Lib.pow10Tab := by kernel_rfl

theorem unit_cells {H : Type} {enc : TypeId × Value → H} {w : World} {base fuel : Nat} {sp : Nat → Bool} {held : Bool} {cs : List Value} {a c : Int} {b : List UInt8} {p : List MemPlace}
    (h : DataW.trod enc Tryz.prog w base sp held fuel 169 cs = some (.agg [.lit (.int .i64 a), .lit (.string b), .lit (.int .i64 c)], p)) : cs = [.int .i64 a, .string ⟨b.toArray⟩, .int .i64 c] := by
  obtain ⟨xs, n, rfl, hx, hl, hxl, hall⟩ := DataW.trod_struct Tryz.underlying169 h
  rw [cUnit] at hl
  have f0 := hall 0 _ rfl
  have f1 := hall 1 _ rfl
  have f2 := hall 2 _ rfl
  change DataW.trod _ _ _ _ _ _ _ 3 ((cs.drop 0).take (Tryz.prog.cellsOf 3)) = _ at f0
  change DataW.trod _ _ _ _ _ _ _ 9 ((cs.drop 1).take (Tryz.prog.cellsOf 9)) = _ at f1
  change DataW.trod _ _ _ _ _ _ _ 3 ((cs.drop 2).take (Tryz.prog.cellsOf 3)) = _ at f2
  rw [cInt] at f0 f2
  rw [cStr] at f1
  have hxl3 : xs.length = 3 := hxl
  clear hall hxl
  obtain ⟨x0, x1, x2, rfl⟩ := len3 hxl3
  obtain ⟨c0, c1, c2, rfl⟩ := len3 hl
  obtain ⟨z0, e0, y0, _⟩ := DataW.trod_int Tryz.underlying3 f0
  obtain ⟨z1, e1, y1, _⟩ := DataW.trod_string Tryz.underlying9 f1
  obtain ⟨z2, e2, y2, _⟩ := DataW.trod_int Tryz.underlying3 f2
  simp at e0 e1 e2
  simp only [Prod.mk.injEq, DataW.agg.injEq, List.map_cons, List.map_nil, List.cons.injEq, and_true, y0, y1, y2, DataW.lit.injEq, Lit.int.injEq, Lit.string.injEq, true_and] at hx
  obtain ⟨⟨rfl, rfl, rfl⟩, _⟩ := hx
  rw [e0, e1, e2]

theorem elem_unit {H : Type} {enc : TypeId × Value → H} {w : World} {base fuel : Nat} {sp : Nat → Bool} {held : Bool} {cs : List Value} {ds : List (DataW H)} {p : List MemPlace}
    (h : DataW.trod enc Tryz.prog w base sp held fuel 170 cs = some (.agg ds, p)) (i : Nat) (hi : i < 8) {a c : Int} {b : List UInt8}
    (hd : ds[i]? = some (.agg [.lit (.int .i64 a), .lit (.string b), .lit (.int .i64 c)])) (j : Nat) (hj : j < 3) : cs[i * 3 + j]? = [Value.int .i64 a, .string ⟨b.toArray⟩, .int .i64 c][j]? := by
  obtain ⟨fuel', d, q, hdi, he⟩ := Lib.array_elem Tryz.underlying170 h i hi
  obtain rfl := Option.some.inj (hd.symm.trans hdi)
  rw [cUnit] at he
  have hcs := unit_cells he
  have := congrArg (·[j]?) hcs
  simp only [List.getElem?_take, List.getElem?_drop] at this
  rw [if_pos hj] at this
  exact this

theorem units_of {W : World} (h : Lib.VarReads Tryz.prog W "tinderbox/value.units" Rows.laid_tinderbox_value_units) : W.rangeAt 4 0 unitsL := by
  obtain ⟨g, t, cs, fuel, p, hg, hty, hvar, hd⟩ := h
  obtain rfl := Option.some.inj (gUni.symm.trans hg)
  obtain rfl := Option.some.inj (gUniT.symm.trans hty)
  intro k v hv
  have hk : k < 24 := (List.getElem?_eq_some_iff.1 hv).1
  rw [World.var?_cell hg hvar _, ← hv, ← Array.getElem?_toList, Nat.zero_add]
  have e : k = k / 3 * 3 + k % 3 := by omega
  have hq : k / 3 < 8 := by omega
  have hr : k % 3 < 3 := by omega
  rw [e]
  generalize k / 3 = q at hq
  generalize k % 3 = r at hr
  clear e hv hk
  match q, hq with
  | 0, _ => rw [elem_unit hd 0 (by decide) rfl r hr]; match r, hr with | 0, _ => rfl | 1, _ => rfl | 2, _ => rfl
  | 1, _ => rw [elem_unit hd 1 (by decide) rfl r hr]; match r, hr with | 0, _ => rfl | 1, _ => rfl | 2, _ => rfl
  | 2, _ => rw [elem_unit hd 2 (by decide) rfl r hr]; match r, hr with | 0, _ => rfl | 1, _ => rfl | 2, _ => rfl
  | 3, _ => rw [elem_unit hd 3 (by decide) rfl r hr]; match r, hr with | 0, _ => rfl | 1, _ => rfl | 2, _ => rfl
  | 4, _ => rw [elem_unit hd 4 (by decide) rfl r hr]; match r, hr with | 0, _ => rfl | 1, _ => rfl | 2, _ => rfl
  | 5, _ => rw [elem_unit hd 5 (by decide) rfl r hr]; match r, hr with | 0, _ => rfl | 1, _ => rfl | 2, _ => rfl
  | 6, _ => rw [elem_unit hd 6 (by decide) rfl r hr]; match r, hr with | 0, _ => rfl | 1, _ => rfl | 2, _ => rfl
  | 7, _ => rw [elem_unit hd 7 (by decide) rfl r hr]; match r, hr with | 0, _ => rfl | 1, _ => rfl | 2, _ => rfl

theorem glo_of2 {W : World} (hl : Lib.VarReads Tryz.prog W "tinderbox/glyph.letters" Rows.laid_tinderbox_glyph_letters) (ho : Lib.VarReads Tryz.prog W "tinderbox/glyph.others" Rows.laid_tinderbox_glyph_others) (hs : W.ShapedOpen Tryz.prog) : Glo W :=
  ⟨letters_of hl, others_of ho, cell_of_shapedOpen_int (zero := #[.int .i64 0]) (t := 3) hs (of_decide_eq_true (by kernel_rfl)) (by kernel_rfl) rfl (by kernel_rfl) (by kernel_rfl) Tryz.underlying3⟩
theorem vlo_of {W : World} (h : laidMet Tryz.prog laidV W) (hs : W.ShapedOpen Tryz.prog) : Vlo W := by
  refine ⟨glo_of2 (Lib.laidMet.reads h (.tail _ (.tail _ (.tail _ (.tail _ (.tail _ (.tail _ (.head _)))))))) (Lib.laidMet.reads h (.tail _ (.tail _ (.tail _ (.tail _ (.tail _ (.tail _ (.tail _ (.head _))))))))) hs, units_of (Lib.laidMet.reads h (.tail _ (.tail _ (.tail _ (.tail _ (.tail _ (.tail _ (.tail _ (.tail _ (.head _)))))))))), ?_, ?_⟩
  · have h2 : laidMet Tryz.prog (("internal/strconv.uint64pow10", Rows.laid_internal_strconv_uint64pow10) :: laidV.drop 3) W := h.tail.tail
    rw [powData] at h2
    exact Lib.tabIs_of_head gPow gPowT Tryz.underlying207 Tryz.underlying189 cU64 cPow h2
  · obtain ⟨a, s, hv, -, -, -⟩ := laid_sentinel h.tail.tail.tail.tail gRng gRngT Tryz.underlying132 rowErr Tryz.underlying197 Tryz.underlying199 rfl rfl Tryz.underlying9 cErr cStr
    exact ⟨_, _, hv⟩

/-- Integers laid, as cells. -/
def flat : DataW Unit → List Value
  | .agg l => l.map fun
    | .lit (.int k z) => .int k z
    | _ => .int .u8 0
  | _ => []
noncomputable def laidWorldV (os : Os) : World :=
  let w1 := World.lay (World.lay (World.lay (World.lay (laidWorld os) 4 unitsL) 9 (flat Rows.laid_internal_strconv_uint64pow10)) 10 (flat Rows.laid_math_bits_deBruijn32tab)) 11 (flat Rows.laid_math_bits_deBruijn64tab)
  let w2 := (w1.alloc (.cells #[.string ⟨#[118, 97, 108, 117, 101, 32, 111, 117, 116, 32, 111, 102, 32, 114, 97, 110, 103, 101]⟩] 199)).alloc (.cells #[.string ⟨#[105, 110, 118, 97, 108, 105, 100, 32, 115, 121, 110, 116, 97, 120]⟩] 199)
  World.lay (World.lay w2 8 [.iface 197 (.pointer (some ⟨w1.heap.size, 0, none⟩))]) 7 [.iface 197 (.pointer (some ⟨w1.heap.size + 1, 0, none⟩))]
set_option maxRecDepth 100000 in
theorem laid_metV (os : Os) : laidMet Tryz.prog laidV ((laidWorldV os).forCall (fun _ _ => 0) ⟨#[], #[], []⟩).memory :=
  laidMet_of_run' 8 (by kernel_rfl) (by kernel_rfl)
end Go.Proofs.YtpfhhaonfbfheaaGreatDoor.va
