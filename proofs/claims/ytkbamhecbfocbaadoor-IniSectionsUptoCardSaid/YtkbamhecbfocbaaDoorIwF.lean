/- tinderboxlaw06.awake returns true. Conditions: the tables hold what the text lays. -/
import Derived.Test.YtkbamhecbfocbaaDoorIwE
import Derived.Test.YtkbamhecbfocbaaDoorIpB
import Derived.Test.YtkbamhecbfocbaaDoorInF
namespace Go.Proofs.YtkbamhecbfocbaaDoor.ini
open Go.ChangeShapes Go.WideShapes Go.ChangeAt Go.RowKit gl

def file1 : List UInt8 := [91, 110, 101, 116, 93, 10, 32, 112, 111, 114, 116, 32, 61, 32, 57, 48, 48, 48, 32, 10, 10, 35, 32, 120, 10, 91, 93, 10, 108, 111, 103, 46, 100, 105, 114, 61, 34, 97, 32, 98, 32, 34]
def file2 : List UInt8 := [97, 32, 61, 32, 49, 10, 112, 111, 114, 116]
def out1 : List Ln := [⟨[110, 101, 116, 46, 112, 111, 114, 116], [57, 48, 48, 48], 2⟩, ⟨[108, 111, 103, 46, 100, 105, 114], [97, 32, 98, 32], 6⟩]
def lines3 : List Ln := [⟨[97], [120], 0⟩, ⟨[98, 46, 99], [], 0⟩, ⟨[100], [32, 120], 0⟩]
def lines2 : List Ln := [⟨[97], [], 0⟩, ⟨[97], [], 0⟩]
def text3 : List UInt8 := [97, 32, 61, 32, 120, 10, 98, 46, 99, 32, 61, 32, 34, 34, 10, 100, 32, 61, 32, 34, 32, 120, 34, 10]
theorem means1 : meantL [57, 48, 48, 48] = some [57, 48, 48, 48] := text_means (t := [57, 48, 48, 48]) (by decide)
theorem means2 : meantL [34, 97, 32, 98, 32, 34] = some [97, 32, 98, 32] := by
  have h := text_means (t := [97, 32, 98, 32]) (by decide)
  rwa [show textL [97, 32, 98, 32] = [34, 97, 32, 98, 32, 34] from by decide] at h
theorem means3 : meantL [49] = some [49] := text_means (t := [49]) (by decide)
theorem pcs1 : pcs 10 file1 = [[91, 110, 101, 116, 93], [32, 112, 111, 114, 116, 32, 61, 32, 57, 48, 48, 48, 32], [], [35, 32, 120], [91, 93], [108, 111, 103, 46, 100, 105, 114, 61, 34, 97, 32, 98, 32, 34]] := by decide
theorem pcs2 : pcs 10 file2 = [[97, 32, 61, 32, 49], [112, 111, 114, 116]] := by decide
theorem ln1 : lineL [] [] [91, 110, 101, 116, 93] = some ([110, 101, 116, 46], none) := by
  rw [lineT_sec (r := [110, 101, 116, 93]) (by decide), show secL [110, 101, 116, 93] = some [110, 101, 116, 46] from by decide]
  rfl
theorem ln2 : lineL [110, 101, 116, 46] [] [32, 112, 111, 114, 116, 32, 61, 32, 57, 48, 48, 48, 32] = some ([110, 101, 116, 46], some ([110, 101, 116, 46, 112, 111, 114, 116], [57, 48, 48, 48])) := by
  rw [line_giv (c := 112) (r := [111, 114, 116, 32, 61, 32, 57, 48, 48, 48]) (by decide) (by decide) (by decide) (by decide), giv_yes (by decide) (by decide) (by decide), show triL (afterE (112 :: [111, 114, 116, 32, 61, 32, 57, 48, 48, 48])) = [57, 48, 48, 48] from by decide, means1]
  rfl
theorem ln3 : lineL [110, 101, 116, 46] [⟨[110, 101, 116, 46, 112, 111, 114, 116], [57, 48, 48, 48], 2⟩] [] = some ([110, 101, 116, 46], none) := lineT_nil (by decide)
theorem ln4 : lineL [110, 101, 116, 46] [⟨[110, 101, 116, 46, 112, 111, 114, 116], [57, 48, 48, 48], 2⟩] [35, 32, 120] = some ([110, 101, 116, 46], none) := lineT_skip (c := 35) (r := [32, 120]) (by decide) (.inr rfl)
theorem ln5 : lineL [110, 101, 116, 46] [⟨[110, 101, 116, 46, 112, 111, 114, 116], [57, 48, 48, 48], 2⟩] [91, 93] = some ([], none) := by
  rw [lineT_sec (r := [93]) (by decide), show secL [93] = some [] from by decide]
  rfl
theorem ln6 : lineL [] [⟨[110, 101, 116, 46, 112, 111, 114, 116], [57, 48, 48, 48], 2⟩] [108, 111, 103, 46, 100, 105, 114, 61, 34, 97, 32, 98, 32, 34] = some ([], some ([108, 111, 103, 46, 100, 105, 114], [97, 32, 98, 32])) := by
  rw [line_giv (c := 108) (r := [111, 103, 46, 100, 105, 114, 61, 34, 97, 32, 98, 32, 34]) (by decide) (by decide) (by decide) (by decide), giv_yes (by decide) (by decide) (by decide), show triL (afterE (108 :: [111, 103, 46, 100, 105, 114, 61, 34, 97, 32, 98, 32, 34])) = [34, 97, 32, 98, 32, 34] from by decide, means2]
  rfl
theorem lnA : lineL [] [] [97, 32, 61, 32, 49] = some ([], some ([97], [49])) := by
  rw [line_giv (c := 97) (r := [32, 61, 32, 49]) (by decide) (by decide) (by decide) (by decide), giv_yes (by decide) (by decide) (by decide), show triL (afterE (97 :: [32, 61, 32, 49])) = [49] from by decide, means3]
  rfl
theorem lnB : lineL [] [⟨[97], [49], 1⟩] [112, 111, 114, 116] = none := by
  rw [line_giv (c := 112) (r := [111, 114, 116]) (by decide) (by decide) (by decide) (by decide), giv_no1 (by decide)]
  rfl
theorem parse1 : parseL file1 = (out1, 0, 0) := by
  rw [parse_run (by decide), pcs1, run_skip ln1, run_new ln2]
  show runL 2 [110, 101, 116, 46] [⟨[110, 101, 116, 46, 112, 111, 114, 116], [57, 48, 48, 48], 2⟩] _ = _
  rw [run_skip ln3, run_skip ln4, run_skip ln5, run_new ln6]
  rfl
theorem parse2 : parseL file2 = ([], 60, 2) := by
  rw [parse_run (by decide), pcs2, run_new lnA]
  show runL 1 [] [⟨[97], [49], 1⟩] _ = _
  rw [run_none lnB]
  rfl
theorem print3 : printL lines3 = (text3, 0) := by decide +kernel
theorem print2 : printL lines2 = ([], 1) := by decide +kernel

theorem lns_lit {w : World} {blk : Nat} {l : List Ln} {cs : Array Value} (h : w.heap[blk]? = some (.cells cs 35 (0, 0))) (hc : cs.toList = lnsC l) : Lns w (.slice (some ⟨blk, 0, none⟩) l.length l.length) l := by
  refine ⟨_, _, rfl, Nat.le_refl _, .inr ⟨blk, 0, rfl, lt_of_block h, fun j x hx i u hu => ?_⟩⟩
  rw [cell_in h, Nat.zero_add]
  have := lnsC_at l j x i u hx hu
  rw [← hc, Array.getElem?_toList] at this
  exact this

set_option maxHeartbeats 4000000 in
set_option maxRecDepth 100000 in
theorem awake_any (w : World) (hG : Glo w) :
    Calls Tryd.prog 12 #[] w fun e w' => e = .returned (.bool true) ∧ Below w.heap.size w w' := by
  have HG := Lib.hid hG
  have HP1 := Lib.hid fun W (h : Below w.heap.size w W) => parse_any ⟨#[91, 110, 101, 116, 93, 10, 32, 112, 111, 114, 116, 32, 61, 32, 57, 48, 48, 48, 32, 10, 10, 35, 32, 120, 10, 91, 93, 10, 108, 111, 103, 46, 100, 105, 114, 61, 34, 97, 32, 98, 32, 34]⟩ (by decide) W (HG.out.below h (Nat.le_refl _))
  have HP2 := Lib.hid fun W (h : Below w.heap.size w W) => parse_any ⟨#[97, 32, 61, 32, 49, 10, 112, 111, 114, 116]⟩ (by decide) W (HG.out.below h (Nat.le_refl _))
  rw [show (⟨#[91, 110, 101, 116, 93, 10, 32, 112, 111, 114, 116, 32, 61, 32, 57, 48, 48, 48, 32, 10, 10, 35, 32, 120, 10, 91, 93, 10, 108, 111, 103, 46, 100, 105, 114, 61, 34, 97, 32, 98, 32, 34]⟩ : ByteArray).data.toList = file1 from rfl, parse1] at HP1
  rw [show (⟨#[97, 32, 61, 32, 49, 10, 112, 111, 114, 116]⟩ : ByteArray).data.toList = file2 from rfl, parse2] at HP2
  clear hG
  go_enter Tryd.func12, Tryd.ntmps12
  go_wp2_with fail
  refine (HP1.out _ (Below.refl _ _)).mono ?_
  rintro e w1 ⟨⟨v1, rfl, hn1⟩, hb1⟩
  obtain ⟨p1, c1, rfl⟩ := hn1.form
  dsimp only
  have Hn1 := Lib.hid hn1
  have Hb1 := Lib.hid hb1
  clear hn1 hb1
  go_wp2_with fail
  refine (HP2.out _ Hb1.out).mono ?_
  rintro e w2 ⟨⟨v2, rfl, hn2⟩, hb2⟩
  obtain ⟨p2, c2, rfl⟩ := hn2.form
  dsimp only
  have Hn2 := Lib.hid (Hn1.out.later hb2)
  have Hb2 := Lib.hid (then_bel Hb1.out hb2)
  clear hn2 hb2
  go_wp2_with fail
  obtain ⟨w3, hw3⟩ : ∃ w3, w3 = w2.alloc (.cells #[.string ⟨#[97]⟩, .string ⟨#[120]⟩, .int .i64 0, .string ⟨#[98, 46, 99]⟩, .string ⟨#[]⟩, .int .i64 0, .string ⟨#[100]⟩, .string ⟨#[32, 120]⟩, .int .i64 0] 35) := ⟨_, rfl⟩
  have hb23 : Below w2.heap.size w2 w3 := by rw [hw3]; exact (Below.refl _ _).alloc (Nat.le_refl _) _
  have hl3 : Lns w3 (.slice (some ⟨w2.heap.size, 0, none⟩) 3 3) lines3 := by rw [hw3]; exact lns_lit (l := lines3) (heap_alloc_new w2 _) rfl
  have Hb3 := Lib.hid (then_bel Hb2.out hb23)
  have HP3 := Lib.hid (print_any _ 3 3 lines3 w3 (by decide) (by decide) hl3 (HG.out.below Hb3.out (Nat.le_refl _)))
  rw [print3] at HP3
  have Hn3 := Lib.hid (Hn2.out.later hb23)
  rw [← hw3]
  clear hw3 hb23 hl3
  refine HP3.out.mono ?_
  rintro e w4 ⟨rfl, hb4⟩
  have Hb4 := Lib.hid (then_bel Hb3.out hb4)
  have Hn4 := Lib.hid (Hn3.out.later hb4)
  clear hb4
  dsimp only
  go_wp2_with fail
  obtain ⟨w5, hw5⟩ : ∃ w5, w5 = w4.alloc (.cells #[.string ⟨#[97]⟩, .string ⟨#[]⟩, .int .i64 0, .string ⟨#[97]⟩, .string ⟨#[]⟩, .int .i64 0] 35) := ⟨_, rfl⟩
  have hb45 : Below w4.heap.size w4 w5 := by rw [hw5]; exact (Below.refl _ _).alloc (Nat.le_refl _) _
  have hl5 : Lns w5 (.slice (some ⟨w4.heap.size, 0, none⟩) 2 2) lines2 := by rw [hw5]; exact lns_lit (l := lines2) (heap_alloc_new w4 _) rfl
  have Hb5 := Lib.hid (then_bel Hb4.out hb45)
  have HP5 := Lib.hid (print_any _ 2 2 lines2 w5 (by decide) (by decide) hl5 (HG.out.below Hb5.out (Nat.le_refl _)))
  rw [print2] at HP5
  have Hn5 := Lib.hid (Hn4.out.later hb45)
  rw [← hw5]
  clear hw5 hb45 hl5
  refine HP5.out.mono ?_
  rintro e w6 ⟨rfl, hb6⟩
  have Hb6 := Lib.hid (then_bel Hb5.out hb6)
  have Hn6 := Lib.hid (Hn5.out.later hb6)
  clear hb6
  dsimp only
  obtain ⟨g, o, rfl, hg⟩ : ∃ g o, p1 = some ⟨g, o, none⟩ ∧ g < w6.heap.size := Hn6.out.lns.ptr.2.2 (by decide)
  have hc2 : 2 ≤ c1 := Hn6.out.lns.ptr.2.1
  obtain ⟨d0, d1, d2⟩ := Hn6.out.lns.cells (j := 0) (x := out1[0]) rfl
  obtain ⟨e0, e1, e2⟩ := Hn6.out.lns.cells (j := 1) (x := out1[1]) rfl
  have hq1 : ∀ W : World, (binOp .eql 35 (.agg #[.string ⟨#[110, 101, 116, 46, 112, 111, 114, 116]⟩, .string ⟨#[57, 48, 48, 48]⟩, .int .i64 2]) (.agg #[.string ⟨#[110, 101, 116, 46, 112, 111, 114, 116]⟩, .string ⟨#[57, 48, 48, 48]⟩, .int .i64 2])).run Tryd.prog W = .ok (.bool true) W := fun W => by rw [eql_ln]; simp
  have hq2 : ∀ W : World, (binOp .eql 35 (.agg #[.string ⟨#[108, 111, 103, 46, 100, 105, 114]⟩, .string ⟨#[97, 32, 98, 32]⟩, .int .i64 6]) (.agg #[.string ⟨#[108, 111, 103, 46, 100, 105, 114]⟩, .string ⟨#[97, 32, 98, 32]⟩, .int .i64 6])).run Tryd.prog W = .ok (.bool true) W := fun W => by rw [eql_ln]; simp
  replace d0 : w6.cell? ⟨g, o, none⟩ = some (.string ⟨#[110, 101, 116, 46, 112, 111, 114, 116]⟩) := d0
  replace d1 : w6.cell? ⟨g, o + 1, none⟩ = some (.string ⟨#[57, 48, 48, 48]⟩) := d1
  replace d2 : w6.cell? ⟨g, o + 2, none⟩ = some (.int .i64 2) := d2
  replace e0 : w6.cell? ⟨g, o + 3, none⟩ = some (.string ⟨#[108, 111, 103, 46, 100, 105, 114]⟩) := e0
  replace e1 : w6.cell? ⟨g, o + 3 + 1, none⟩ = some (.string ⟨#[97, 32, 98, 32]⟩) := e1
  replace e2 : w6.cell? ⟨g, o + 3 + 2, none⟩ = some (.int .i64 6) := e2
  rw [show out1.length = 2 from rfl]
  rw [show B text3 = (⟨#[97, 32, 61, 32, 120, 10, 98, 46, 99, 32, 61, 32, 34, 34, 10, 100, 32, 61, 32, 34, 32, 120, 34, 10]⟩ : ByteArray) from rfl]
  go_wp2_with fail
  go_ret
  exact ⟨rfl, Hb6.out⟩
end Go.Proofs.YtkbamhecbfocbaaDoor.ini
